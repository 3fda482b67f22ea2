/- A part of the proof: see the last text. -/
import Derived.Test.YtdgkjmcggiihgaaAbT
import Derived.Test.YtdgkjmcggiihgaaSeX
set_option maxRecDepth 100000
set_option linter.unusedVariables false
namespace Ab
open Go Go.Proofs


noncomputable def J3_1 (n : Nat) (a0 : Int) (a1 : Int) (a2 : Int) (a3 : Int) (a4 : Int) (a5 : Int) (a6 : Int) (a7 : Int) (a8 : ByteArray) (a9 : Int) (a10 : Int) (p11 : List AV × Heap) : Option (List Tree) :=
  cnd (vB p11 0 = true) (Option.bind (apure C n (10:Nat) []) fun y13 => cnd (List.length y13 = (1:Nat)) (cnd (okB y13 0) (some [Tree.bool (gB y13 0)]) none) none) (Option.bind (apure C n (11:Nat) [tI
  a0, tI a1, tI a2, tI a3, tI a4, tI a5, tI a6, tI a7, Tree.str a8, tI a9, tI a10]) fun y14 => cnd (List.length y14 = (17:Nat)) (cnd (okI y14 0) (cnd (okI y14 1) (cnd (okI y14 2) (cnd (okI y14 3) (cnd
  (okI y14 4) (cnd (okI y14 5) (cnd (okI y14 6) (cnd (okI y14 7) (cnd (okS y14 8) (cnd (okI y14 9) (cnd (okI y14 10) (cnd (okI y14 11) (cnd (okL 2 y14 12) (cnd (okI y14 13) (cnd (okI y14 14) (cnd (okL 9
  y14 15) (cnd (okI y14 16) (Option.bind (apure C n (12:Nat) [tI a0, tI a1, tI a2, tI a3, tI a4, tI a5, tI a6, tI a7, Tree.str a8, tI a9, tI a10]) fun y15 => cnd (List.length y15 = (17:Nat)) (cnd (okI
  y15 0) (cnd (okI y15 1) (cnd (okI y15 2) (cnd (okI y15 3) (cnd (okI y15 4) (cnd (okI y15 5) (cnd (okI y15 6) (cnd (okI y15 7) (cnd (okS y15 8) (cnd (okI y15 9) (cnd (okI y15 10) (cnd (okI y15 11) (cnd
  (okL 2 y15 12) (cnd (okI y15 13) (cnd (okI y15 14) (cnd (okL 9 y15 15) (cnd (okI y15 16) (Option.bind (apure C n (13:Nat) [tI (gI y14 0), tI (gI y14 1), tI (gI y14 2), tI (gI y14 3), tI (gI y14 4), tI
  (gI y14 5), tI (gI y14 6), tI (gI y14 7), Tree.str (gS y14 8), tI (gI y14 9), tI (gI y14 10), tI (gI y14 11), Tree.sl (2:Nat) (gL y14 12), tI (gI y14 13), tI (gI y14 14), tI (gI y15 0), tI (gI y15 1),
  tI (gI y15 2), tI (gI y15 3), tI (gI y15 4), tI (gI y15 5), tI (gI y15 6), tI (gI y15 7), Tree.str (gS y15 8), tI (gI y15 9), tI (gI y15 10), tI (gI y15 11), Tree.sl (2:Nat) (gL y15 12), tI (gI y15
  13), tI (gI y15 14)]) fun y18 => cnd (List.length y18 = (1:Nat)) (cnd (okB y18 0) (cnd (gB y18 0 = true) (Option.bind (apure C n (14:Nat) [Tree.sl (9:Nat) (gL y14 15), Tree.sl (9:Nat) (gL y15 15)])
  fun y19 => cnd (List.length y19 = (1:Nat)) (cnd (okB y19 0) (cnd (gB y19 0 = true) (cnd (((gI y14 16) == (gI y15 16)) = true) (Option.bind (apure C n (10:Nat) []) fun y20 => cnd (List.length y20 =
  (1:Nat)) (cnd (okB y20 0) (some [Tree.bool (gB y20 0)]) none) none) (some [Tree.bool false])) (some [Tree.bool false])) none) none) (some [Tree.bool false])) none) none) none) none) none) none) none)
  none) none) none) none) none) none) none) none) none) none) none) none) none) none) none) none) none) none) none) none) none) none) none) none) none) none) none) none) none) none) none)
theorem e3 (n : Nat) (a0 : Int) (a1 : Int) (a2 : Int) (a3 : Int) (a4 : Int) (a5 : Int) (a6 : Int) (a7 : Int) (a8 : ByteArray) (a9 : Int) (a10 : Int) : apure C (n + 1) 3 [tI a0, tI a1, tI a2, tI a3, tI a4, tI a5, tI a6, tI a7, Tree.str a8, tI a9, tI a10] =
  join (fun (p11 : List AV × Heap) => J3_1 n a0 a1 a2 a3 a4 a5 a6 a7 a8 a9 a10 p11) fun (again12 : _ → Option (List Tree)) => cnd (decide (((ByteArray.size a8:Nat):Int) > (200:Int)) = true) (cnd (decide
  (((ByteArray.size a8:Nat):Int) ≤ (65536:Int)) = true) (again12 ([AV.t (Tree.bool true)], [])) (again12 ([AV.t (Tree.bool (decide (((ByteArray.size a8:Nat):Int) > (65545:Int))))], []))) (again12 ([AV.t
  (Tree.bool (decide (((ByteArray.size a8:Nat):Int) > (65545:Int))))], [])) := by kernel_rfl

noncomputable def J4_1 (n : Nat) (a0 : Int) (a1 : Int) (a2 : Int) (a3 : Int) (a4 : Int) (a5 : Int) (a6 : Int) (a7 : Int) (a8 : ByteArray) (a9 : Int) (a10 : Int) (a11 : Int) (a12 : List (List Tree)) (a13 : Int) (a14 : Int) (a15 : Int) (a16 : Int) (a17 : Int) (a18 : Int) (a19 : Int) (a20 : Int) (a21 : Bool) (a22 : ByteArray) (a23 : List (List Tree)) (p24 : List AV × Heap) : Option (List Tree) :=
  cnd (vB p24 0 = true) (Option.bind (apure C n (10:Nat) []) fun y28 => cnd (List.length y28 = (1:Nat)) (cnd (okB y28 0) (some [Tree.bool (gB y28 0)]) none) none) (Option.bind (apure C n (17:Nat) [tI
  a0, tI a1, tI a2, tI a3, tI a4, tI a5, tI a6, tI a7, Tree.str a8, tI a9, tI a10, tI a11, Tree.sl (2:Nat) a12, tI a13, tI a14, tI a15, tI a16, tI a17, tI a18, tI a19, tI a20, Tree.bool a21, Tree.str
  a22, Tree.sl (2:Nat) a23]) fun y29 => cnd (List.length y29 = (17:Nat)) (cnd (okI y29 0) (cnd (okI y29 1) (cnd (okI y29 2) (cnd (okI y29 3) (cnd (okI y29 4) (cnd (okI y29 5) (cnd (okI y29 6) (cnd (okI
  y29 7) (cnd (okS y29 8) (cnd (okI y29 9) (cnd (okI y29 10) (cnd (okI y29 11) (cnd (okL 2 y29 12) (cnd (okI y29 13) (cnd (okI y29 14) (cnd (okL 9 y29 15) (cnd (okI y29 16) (Option.bind (apure C n
  (18:Nat) [tI a0, tI a1, tI a2, tI a3, tI a4, tI a5, tI a6, tI a7, Tree.str a8, tI a9, tI a10, tI a11, Tree.sl (2:Nat) a12, tI a13, tI a14, tI a15, tI a16, tI a17, tI a18, tI a19, tI a20, Tree.bool
  a21, Tree.str a22, Tree.sl (2:Nat) a23]) fun y30 => cnd (List.length y30 = (17:Nat)) (cnd (okI y30 0) (cnd (okI y30 1) (cnd (okI y30 2) (cnd (okI y30 3) (cnd (okI y30 4) (cnd (okI y30 5) (cnd (okI y30
  6) (cnd (okI y30 7) (cnd (okS y30 8) (cnd (okI y30 9) (cnd (okI y30 10) (cnd (okI y30 11) (cnd (okL 2 y30 12) (cnd (okI y30 13) (cnd (okI y30 14) (cnd (okL 9 y30 15) (cnd (okI y30 16) (Option.bind
  (apure C n (13:Nat) [tI (gI y29 0), tI (gI y29 1), tI (gI y29 2), tI (gI y29 3), tI (gI y29 4), tI (gI y29 5), tI (gI y29 6), tI (gI y29 7), Tree.str (gS y29 8), tI (gI y29 9), tI (gI y29 10), tI (gI
  y29 11), Tree.sl (2:Nat) (gL y29 12), tI (gI y29 13), tI (gI y29 14), tI (gI y30 0), tI (gI y30 1), tI (gI y30 2), tI (gI y30 3), tI (gI y30 4), tI (gI y30 5), tI (gI y30 6), tI (gI y30 7), Tree.str
  (gS y30 8), tI (gI y30 9), tI (gI y30 10), tI (gI y30 11), Tree.sl (2:Nat) (gL y30 12), tI (gI y30 13), tI (gI y30 14)]) fun y33 => cnd (List.length y33 = (1:Nat)) (cnd (okB y33 0) (cnd (gB y33 0 =
  true) (Option.bind (apure C n (14:Nat) [Tree.sl (9:Nat) (gL y29 15), Tree.sl (9:Nat) (gL y30 15)]) fun y34 => cnd (List.length y34 = (1:Nat)) (cnd (okB y34 0) (cnd (gB y34 0 = true) (cnd (((gI y29 16)
  == (gI y30 16)) = true) (Option.bind (apure C n (10:Nat) []) fun y35 => cnd (List.length y35 = (1:Nat)) (cnd (okB y35 0) (some [Tree.bool (gB y35 0)]) none) none) (some [Tree.bool false])) (some
  [Tree.bool false])) none) none) (some [Tree.bool false])) none) none) none) none) none) none) none) none) none) none) none) none) none) none) none) none) none) none) none) none) none) none) none)
  none) none) none) none) none) none) none) none) none) none) none) none) none) none) none)
theorem e4 (n : Nat) (a0 : Int) (a1 : Int) (a2 : Int) (a3 : Int) (a4 : Int) (a5 : Int) (a6 : Int) (a7 : Int) (a8 : ByteArray) (a9 : Int) (a10 : Int) (a11 : Int) (a12 : List (List Tree)) (a13 : Int) (a14 : Int) (a15 : Int) (a16 : Int) (a17 : Int) (a18 : Int) (a19 : Int) (a20 : Int) (a21 : Bool) (a22 : ByteArray) (a23 : List (List Tree)) : apure C (n + 1) 4 [tI a0, tI a1, tI a2, tI a3, tI a4, tI a5, tI a6, tI a7, Tree.str a8, tI a9, tI a10, tI a11, Tree.sl (2:Nat) a12, tI a13, tI a14, tI a15, tI a16, tI a17, tI a18, tI a19, tI a20, Tree.bool a21, Tree.str a22, Tree.sl (2:Nat) a23] =
  join (fun (p24 : List AV × Heap) => J4_1 n a0 a1 a2 a3 a4 a5 a6 a7 a8 a9 a10 a11 a12 a13 a14 a15 a16 a17 a18 a19 a20 a21 a22 a23 p24) fun (again25 : _ → Option (List Tree)) => Option.bind (apure C n
  (15:Nat) [tI a0, tI a1, tI a2, tI a3, tI a4, tI a5, tI a6, tI a7, Tree.str a8, tI a9, tI a10, tI a11, Tree.sl (2:Nat) a12, tI a13, tI a14]) fun y26 => cnd (List.length y26 = (1:Nat)) (cnd (okB y26 0)
  (cnd (gB y26 0 = true) (again25 ([AV.t (Tree.bool true)], [])) (Option.bind (apure C n (16:Nat) [tI a16, tI a17, tI a18, tI a19, tI a20, Tree.bool a21, Tree.str a22, Tree.sl (2:Nat) a23]) fun y27 =>
  cnd (List.length y27 = (1:Nat)) (cnd (okB y27 0) (again25 ([AV.t (Tree.bool (gB y27 0))], [])) none) none)) none) none := by kernel_rfl

noncomputable def J5_1 (n : Nat) (y35 : List Tree) (a16 : Int) (a17 : Int) (a18 : Int) (a19 : Int) (a20 : Int) (a21 : Bool) (a22 : ByteArray) (a23 : List (List Tree)) (a14 : Int) (a0 : Int) (a1 : Int) (a2 : Int) (a3 : Int) (a4 : Int) (a5 : Int) (a6 : Int) (a7 : Int) (a8 : ByteArray) (a9 : Int) (a10 : Int) (a11 : Int) (a12 : List (List Tree)) (a13 : Int) (p36 : List AV × Heap) : Option (List Tree) :=
  cnd (((gI y35 16) != (0:Int)) = true) (Option.bind (apure C n (20:Nat) [tI a16, tI a17, tI a18, tI a19, tI a20, Tree.bool a21, Tree.str a22, Tree.sl (2:Nat) a23]) fun y40 => cnd (List.length y40 =
  (1:Nat)) (cnd (okI y40 0) (cnd (((gI y40 0) != (0:Int)) = true) (Option.bind (apure C n (10:Nat) []) fun y41 => cnd (List.length y41 = (1:Nat)) (cnd (okB y41 0) (some [Tree.bool (gB y41 0)]) none)
  none) (some [Tree.bool false])) none) none) (cnd (vB p36 0 = true) (cnd ((a14 == (1:Int)) = true) (Option.bind (apure C n (10:Nat) []) fun y44 => cnd (List.length y44 = (1:Nat)) (cnd (okB y44 0) (some
  [Tree.bool (gB y44 0)]) none) none) (cnd ((((List.length (gL y35 15):Nat):Int) == (0:Int)) = true) (Option.bind (apure C n (13:Nat) [tI a0, tI a1, tI a2, tI a3, tI a4, tI a5, tI a6, tI a7, Tree.str
  a8, tI a9, tI a10, tI a11, Tree.sl (2:Nat) a12, tI a13, tI a14, tI (cI p36 1 0), tI (cI p36 1 1), tI (cI p36 1 2), tI (cI p36 1 3), tI (cI p36 1 4), tI (cI p36 1 5), tI (cI p36 1 6), tI (cI p36 1 7),
  Tree.str (cS p36 1 8), tI (cI p36 1 9), tI (cI p36 1 10), tI (cI p36 1 11), Tree.sl (2:Nat) (cL p36 1 12), tI (cI p36 1 13), tI (cI p36 1 14)]) fun y45 => cnd (List.length y45 = (1:Nat)) (cnd (okB y45
  0) (cnd (gB y45 0 = true) (Option.bind (apure C n (10:Nat) []) fun y46 => cnd (List.length y46 = (1:Nat)) (cnd (okB y46 0) (some [Tree.bool (gB y46 0)]) none) none) (some [Tree.bool false])) none)
  none) (some [Tree.bool false]))) (cnd ((((List.length (gL y35 15):Nat):Int) == (0:Int)) = true) (Option.bind (apure C n (13:Nat) [tI a0, tI a1, tI a2, tI a3, tI a4, tI a5, tI a6, tI a7, Tree.str a8,
  tI a9, tI a10, tI a11, Tree.sl (2:Nat) a12, tI a13, tI a14, tI (cI p36 1 0), tI (cI p36 1 1), tI (cI p36 1 2), tI (cI p36 1 3), tI (cI p36 1 4), tI (cI p36 1 5), tI (cI p36 1 6), tI (cI p36 1 7),
  Tree.str (cS p36 1 8), tI (cI p36 1 9), tI (cI p36 1 10), tI (cI p36 1 11), Tree.sl (2:Nat) (cL p36 1 12), tI (cI p36 1 13), tI (cI p36 1 14)]) fun y47 => cnd (List.length y47 = (1:Nat)) (cnd (okB y47
  0) (cnd (gB y47 0 = true) (Option.bind (apure C n (10:Nat) []) fun y48 => cnd (List.length y48 = (1:Nat)) (cnd (okB y48 0) (some [Tree.bool (gB y48 0)]) none) none) (some [Tree.bool false])) none)
  none) (some [Tree.bool false])))

noncomputable def J5_2 (n : Nat) (a0 : Int) (a1 : Int) (a2 : Int) (a3 : Int) (a4 : Int) (a5 : Int) (a6 : Int) (a7 : Int) (a8 : ByteArray) (a9 : Int) (a10 : Int) (a11 : Int) (a12 : List (List Tree)) (a13 : Int) (a14 : Int) (a15 : Int) (a16 : Int) (a17 : Int) (a18 : Int) (a19 : Int) (a20 : Int) (a21 : Bool) (a22 : ByteArray) (a23 : List (List Tree)) (p31 : List AV × Heap) : Option (List Tree) :=
  cnd (vB p31 0 = true) (some [Tree.bool false]) (Option.bind (apure C n (17:Nat) [tI a0, tI a1, tI a2, tI a3, tI a4, tI a5, tI a6, tI a7, Tree.str a8, tI a9, tI a10, tI a11, Tree.sl (2:Nat) a12, tI
  a13, tI a14, tI a15, tI a16, tI a17, tI a18, tI a19, tI a20, Tree.bool a21, Tree.str a22, Tree.sl (2:Nat) a23]) fun y35 => cnd (List.length y35 = (17:Nat)) (cnd (okI y35 0) (cnd (okI y35 1) (cnd (okI
  y35 2) (cnd (okI y35 3) (cnd (okI y35 4) (cnd (okI y35 5) (cnd (okI y35 6) (cnd (okI y35 7) (cnd (okS y35 8) (cnd (okI y35 9) (cnd (okI y35 10) (cnd (okI y35 11) (cnd (okL 2 y35 12) (cnd (okI y35 13)
  (cnd (okI y35 14) (cnd (okL 9 y35 15) (cnd (okI y35 16) (join (fun (p36 : List AV × Heap) => J5_1 n y35 a16 a17 a18 a19 a20 a21 a22 a23 a14 a0 a1 a2 a3 a4 a5 a6 a7 a8 a9 a10 a11 a12 a13 p36) fun
  (again37 : _ → Option (List Tree)) => cnd ((a17 == a7) = true) (cnd ((a16 == (3:Int)) = true) (again37 ([AV.t (Tree.bool true)], [AObj.box [], AObj.box [AV.t (tI (gI y35 0)), AV.t (tI (gI y35 1)),
  AV.t (tI (gI y35 2)), AV.t (tI (gI y35 3)), AV.t (tI (gI y35 4)), AV.t (tI (gI y35 5)), AV.t (tI (gI y35 6)), AV.t (tI (gI y35 7)), AV.t (Tree.str (gS y35 8)), AV.t (tI (gI y35 9)), AV.t (tI (gI y35
  10)), AV.t (tI (gI y35 11)), AV.t (Tree.sl (2:Nat) (gL y35 12)), AV.t (tI (gI y35 13)), AV.t (tI (gI y35 14))]])) (cnd ((a16 == (2:Int)) = true) (cnd ((a18 == a11) = true) (again37 ([AV.t (Tree.bool
  (a20 == ((ByteArray.size a8:Nat):Int)))], [AObj.box [], AObj.box [AV.t (tI (gI y35 0)), AV.t (tI (gI y35 1)), AV.t (tI (gI y35 2)), AV.t (tI (gI y35 3)), AV.t (tI (gI y35 4)), AV.t (tI (gI y35 5)),
  AV.t (tI (gI y35 6)), AV.t (tI (gI y35 7)), AV.t (Tree.str (gS y35 8)), AV.t (tI (gI y35 9)), AV.t (tI (gI y35 10)), AV.t (tI (gI y35 11)), AV.t (Tree.sl (2:Nat) (gL y35 12)), AV.t (tI (gI y35 13)),
  AV.t (tI (gI y35 14))]])) (again37 ([AV.t (Tree.bool false)], [AObj.box [], AObj.box [AV.t (tI (gI y35 0)), AV.t (tI (gI y35 1)), AV.t (tI (gI y35 2)), AV.t (tI (gI y35 3)), AV.t (tI (gI y35 4)), AV.t
  (tI (gI y35 5)), AV.t (tI (gI y35 6)), AV.t (tI (gI y35 7)), AV.t (Tree.str (gS y35 8)), AV.t (tI (gI y35 9)), AV.t (tI (gI y35 10)), AV.t (tI (gI y35 11)), AV.t (Tree.sl (2:Nat) (gL y35 12)), AV.t
  (tI (gI y35 13)), AV.t (tI (gI y35 14))]]))) (again37 ([AV.t (Tree.bool false)], [AObj.box [], AObj.box [AV.t (tI (gI y35 0)), AV.t (tI (gI y35 1)), AV.t (tI (gI y35 2)), AV.t (tI (gI y35 3)), AV.t
  (tI (gI y35 4)), AV.t (tI (gI y35 5)), AV.t (tI (gI y35 6)), AV.t (tI (gI y35 7)), AV.t (Tree.str (gS y35 8)), AV.t (tI (gI y35 9)), AV.t (tI (gI y35 10)), AV.t (tI (gI y35 11)), AV.t (Tree.sl (2:Nat)
  (gL y35 12)), AV.t (tI (gI y35 13)), AV.t (tI (gI y35 14))]])))) (again37 ([AV.t (Tree.bool false)], [AObj.box [], AObj.box [AV.t (tI (gI y35 0)), AV.t (tI (gI y35 1)), AV.t (tI (gI y35 2)), AV.t (tI
  (gI y35 3)), AV.t (tI (gI y35 4)), AV.t (tI (gI y35 5)), AV.t (tI (gI y35 6)), AV.t (tI (gI y35 7)), AV.t (Tree.str (gS y35 8)), AV.t (tI (gI y35 9)), AV.t (tI (gI y35 10)), AV.t (tI (gI y35 11)),
  AV.t (Tree.sl (2:Nat) (gL y35 12)), AV.t (tI (gI y35 13)), AV.t (tI (gI y35 14))]]))) none) none) none) none) none) none) none) none) none) none) none) none) none) none) none) none) none) none)

noncomputable def J5_3 (n : Nat) (a0 : Int) (a1 : Int) (a2 : Int) (a3 : Int) (a4 : Int) (a5 : Int) (a6 : Int) (a7 : Int) (a8 : ByteArray) (a9 : Int) (a10 : Int) (a11 : Int) (a12 : List (List Tree)) (a13 : Int) (a14 : Int) (a15 : Int) (a16 : Int) (a17 : Int) (a18 : Int) (a19 : Int) (a20 : Int) (a21 : Bool) (a22 : ByteArray) (a23 : List (List Tree)) (p24 : List AV × Heap) : Option (List Tree) :=
  cnd (vB p24 0 = true) (Option.bind (apure C n (10:Nat) []) fun y29 => cnd (List.length y29 = (1:Nat)) (cnd (okB y29 0) (some [Tree.bool (gB y29 0)]) none) none) (Option.bind (apure C n (17:Nat) [tI
  a0, tI a1, tI a2, tI a3, tI a4, tI a5, tI a6, tI a7, Tree.str a8, tI a9, tI a10, tI a11, Tree.sl (2:Nat) a12, tI a13, tI a14, tI a15, tI (2:Int), tI a7, tI a11, tI (0:Int), tI ((ByteArray.size
  a8:Nat):Int), Tree.bool false, Tree.str (ByteArray.mk #[]), Tree.sl (2:Nat) [[tI (0:Int), tI ((ByteArray.size a8:Nat):Int)]]]) fun y30 => cnd (List.length y30 = (17:Nat)) (cnd (okI y30 0) (cnd (okI
  y30 1) (cnd (okI y30 2) (cnd (okI y30 3) (cnd (okI y30 4) (cnd (okI y30 5) (cnd (okI y30 6) (cnd (okI y30 7) (cnd (okS y30 8) (cnd (okI y30 9) (cnd (okI y30 10) (cnd (okI y30 11) (cnd (okL 2 y30 12)
  (cnd (okI y30 13) (cnd (okI y30 14) (cnd (okL 9 y30 15) (cnd (okI y30 16) (join (fun (p31 : List AV × Heap) => J5_2 n a0 a1 a2 a3 a4 a5 a6 a7 a8 a9 a10 a11 a12 a13 a14 a15 a16 a17 a18 a19 a20 a21 a22
  a23 p31) fun (again32 : _ → Option (List Tree)) => cnd (((gI y30 16) != (0:Int)) = true) (again32 ([AV.t (Tree.bool true)], [AObj.box [], AObj.box [AV.t (tI (gI y30 0)), AV.t (tI (gI y30 1)), AV.t (tI
  (gI y30 2)), AV.t (tI (gI y30 3)), AV.t (tI (gI y30 4)), AV.t (tI (gI y30 5)), AV.t (tI (gI y30 6)), AV.t (tI (gI y30 7)), AV.t (Tree.str (gS y30 8)), AV.t (tI (gI y30 9)), AV.t (tI (gI y30 10)), AV.t
  (tI (gI y30 11)), AV.t (Tree.sl (2:Nat) (gL y30 12)), AV.t (tI (gI y30 13)), AV.t (tI (gI y30 14))]])) (cnd ((((List.length (gL y30 15):Nat):Int) != (0:Int)) = true) (again32 ([AV.t (Tree.bool true)],
  [AObj.box [], AObj.box [AV.t (tI (gI y30 0)), AV.t (tI (gI y30 1)), AV.t (tI (gI y30 2)), AV.t (tI (gI y30 3)), AV.t (tI (gI y30 4)), AV.t (tI (gI y30 5)), AV.t (tI (gI y30 6)), AV.t (tI (gI y30 7)),
  AV.t (Tree.str (gS y30 8)), AV.t (tI (gI y30 9)), AV.t (tI (gI y30 10)), AV.t (tI (gI y30 11)), AV.t (Tree.sl (2:Nat) (gL y30 12)), AV.t (tI (gI y30 13)), AV.t (tI (gI y30 14))]])) (cnd ((a14 ==
  (1:Int)) = true) (cnd (((gI y30 14) != (2:Int)) = true) (again32 ([AV.t (Tree.bool true)], [AObj.box [], AObj.box [AV.t (tI (gI y30 0)), AV.t (tI (gI y30 1)), AV.t (tI (gI y30 2)), AV.t (tI (gI y30
  3)), AV.t (tI (gI y30 4)), AV.t (tI (gI y30 5)), AV.t (tI (gI y30 6)), AV.t (tI (gI y30 7)), AV.t (Tree.str (gS y30 8)), AV.t (tI (gI y30 9)), AV.t (tI (gI y30 10)), AV.t (tI (gI y30 11)), AV.t
  (Tree.sl (2:Nat) (gL y30 12)), AV.t (tI (gI y30 13)), AV.t (tI (gI y30 14))]])) (cnd ((a14 != (1:Int)) = true) (Option.bind (apure C n (13:Nat) [tI a0, tI a1, tI a2, tI a3, tI a4, tI a5, tI a6, tI a7,
  Tree.str a8, tI a9, tI a10, tI a11, Tree.sl (2:Nat) a12, tI a13, tI a14, tI (gI y30 0), tI (gI y30 1), tI (gI y30 2), tI (gI y30 3), tI (gI y30 4), tI (gI y30 5), tI (gI y30 6), tI (gI y30 7),
  Tree.str (gS y30 8), tI (gI y30 9), tI (gI y30 10), tI (gI y30 11), Tree.sl (2:Nat) (gL y30 12), tI (gI y30 13), tI (gI y30 14)]) fun y33 => cnd (List.length y33 = (1:Nat)) (cnd (okB y33 0) (again32
  ([AV.t (Tree.bool (!(gB y33 0)))], [AObj.box [], AObj.box [AV.t (tI (gI y30 0)), AV.t (tI (gI y30 1)), AV.t (tI (gI y30 2)), AV.t (tI (gI y30 3)), AV.t (tI (gI y30 4)), AV.t (tI (gI y30 5)), AV.t (tI
  (gI y30 6)), AV.t (tI (gI y30 7)), AV.t (Tree.str (gS y30 8)), AV.t (tI (gI y30 9)), AV.t (tI (gI y30 10)), AV.t (tI (gI y30 11)), AV.t (Tree.sl (2:Nat) (gL y30 12)), AV.t (tI (gI y30 13)), AV.t (tI
  (gI y30 14))]])) none) none) (again32 ([AV.t (Tree.bool false)], [AObj.box [], AObj.box [AV.t (tI (gI y30 0)), AV.t (tI (gI y30 1)), AV.t (tI (gI y30 2)), AV.t (tI (gI y30 3)), AV.t (tI (gI y30 4)),
  AV.t (tI (gI y30 5)), AV.t (tI (gI y30 6)), AV.t (tI (gI y30 7)), AV.t (Tree.str (gS y30 8)), AV.t (tI (gI y30 9)), AV.t (tI (gI y30 10)), AV.t (tI (gI y30 11)), AV.t (Tree.sl (2:Nat) (gL y30 12)),
  AV.t (tI (gI y30 13)), AV.t (tI (gI y30 14))]])))) (cnd ((a14 != (1:Int)) = true) (Option.bind (apure C n (13:Nat) [tI a0, tI a1, tI a2, tI a3, tI a4, tI a5, tI a6, tI a7, Tree.str a8, tI a9, tI a10,
  tI a11, Tree.sl (2:Nat) a12, tI a13, tI a14, tI (gI y30 0), tI (gI y30 1), tI (gI y30 2), tI (gI y30 3), tI (gI y30 4), tI (gI y30 5), tI (gI y30 6), tI (gI y30 7), Tree.str (gS y30 8), tI (gI y30 9),
  tI (gI y30 10), tI (gI y30 11), Tree.sl (2:Nat) (gL y30 12), tI (gI y30 13), tI (gI y30 14)]) fun y34 => cnd (List.length y34 = (1:Nat)) (cnd (okB y34 0) (again32 ([AV.t (Tree.bool (!(gB y34 0)))],
  [AObj.box [], AObj.box [AV.t (tI (gI y30 0)), AV.t (tI (gI y30 1)), AV.t (tI (gI y30 2)), AV.t (tI (gI y30 3)), AV.t (tI (gI y30 4)), AV.t (tI (gI y30 5)), AV.t (tI (gI y30 6)), AV.t (tI (gI y30 7)),
  AV.t (Tree.str (gS y30 8)), AV.t (tI (gI y30 9)), AV.t (tI (gI y30 10)), AV.t (tI (gI y30 11)), AV.t (Tree.sl (2:Nat) (gL y30 12)), AV.t (tI (gI y30 13)), AV.t (tI (gI y30 14))]])) none) none)
  (again32 ([AV.t (Tree.bool false)], [AObj.box [], AObj.box [AV.t (tI (gI y30 0)), AV.t (tI (gI y30 1)), AV.t (tI (gI y30 2)), AV.t (tI (gI y30 3)), AV.t (tI (gI y30 4)), AV.t (tI (gI y30 5)), AV.t (tI
  (gI y30 6)), AV.t (tI (gI y30 7)), AV.t (Tree.str (gS y30 8)), AV.t (tI (gI y30 9)), AV.t (tI (gI y30 10)), AV.t (tI (gI y30 11)), AV.t (Tree.sl (2:Nat) (gL y30 12)), AV.t (tI (gI y30 13)), AV.t (tI
  (gI y30 14))]])))))) none) none) none) none) none) none) none) none) none) none) none) none) none) none) none) none) none) none)
theorem e5 (n : Nat) (a0 : Int) (a1 : Int) (a2 : Int) (a3 : Int) (a4 : Int) (a5 : Int) (a6 : Int) (a7 : Int) (a8 : ByteArray) (a9 : Int) (a10 : Int) (a11 : Int) (a12 : List (List Tree)) (a13 : Int) (a14 : Int) (a15 : Int) (a16 : Int) (a17 : Int) (a18 : Int) (a19 : Int) (a20 : Int) (a21 : Bool) (a22 : ByteArray) (a23 : List (List Tree)) : apure C (n + 1) 5 [tI a0, tI a1, tI a2, tI a3, tI a4, tI a5, tI a6, tI a7, Tree.str a8, tI a9, tI a10, tI a11, Tree.sl (2:Nat) a12, tI a13, tI a14, tI a15, tI a16, tI a17, tI a18, tI a19, tI a20, Tree.bool a21, Tree.str a22, Tree.sl (2:Nat) a23] =
  join (fun (p24 : List AV × Heap) => J5_3 n a0 a1 a2 a3 a4 a5 a6 a7 a8 a9 a10 a11 a12 a13 a14 a15 a16 a17 a18 a19 a20 a21 a22 a23 p24) fun (again25 : _ → Option (List Tree)) => Option.bind (apure C n
  (15:Nat) [tI a0, tI a1, tI a2, tI a3, tI a4, tI a5, tI a6, tI a7, Tree.str a8, tI a9, tI a10, tI a11, Tree.sl (2:Nat) a12, tI a13, tI a14]) fun y26 => cnd (List.length y26 = (1:Nat)) (cnd (okB y26 0)
  (cnd (gB y26 0 = true) (again25 ([AV.t (Tree.bool true)], [])) (Option.bind (apure C n (16:Nat) [tI a16, tI a17, tI a18, tI a19, tI a20, Tree.bool a21, Tree.str a22, Tree.sl (2:Nat) a23]) fun y27 =>
  cnd (List.length y27 = (1:Nat)) (cnd (okB y27 0) (cnd (gB y27 0 = true) (again25 ([AV.t (Tree.bool true)], [])) (Option.bind (apure C n (19:Nat) [tI a0, tI a1, tI a2, tI a3, tI a4, tI a5, tI a6, tI
  a7, Tree.str a8, tI a9, tI a10, tI a11, Tree.sl (2:Nat) a12, tI a13, tI a14]) fun y28 => cnd (List.length y28 = (1:Nat)) (cnd (okI y28 0) (cnd (((gI y28 0) != (0:Int)) = true) (again25 ([AV.t
  (Tree.bool true)], [])) (cnd (decide (a15 < a10) = true) (again25 ([AV.t (Tree.bool true)], [])) (again25 ([AV.t (Tree.bool (decide (a15 > (2199023255552:Int))))], [])))) none) none)) none) none))
  none) none := by kernel_rfl

noncomputable def L6_8 (n : Nat) (y71 : List Tree) (y78 : List Tree) (p94 : List AV × Heap) (again95 : (List AV × Heap) → Option (List Tree)) : Option (List Tree) :=
  cnd (decide (vI p94 0 < ((List.length (gL y71 15):Nat):Int)) = true) (cnd ((9:Nat) = (9:Nat) ∧ (0:Int) ≤ vI p94 0) (Option.bind (gL y71 15)[Int.toNat (vI p94 0)]? fun y96 => cnd (okI y96 0) (cnd (okI
  y96 1) (cnd (okI y96 2) (cnd (okI y96 3) (cnd (okI y96 4) (cnd (okI y96 5) (cnd (okB y96 6) (cnd (okS y96 7) (cnd (okL 2 y96 8) (cnd ((8:Nat) = (8:Nat) ∧ (0:Int) ≤ vI p94 0) (Option.bind (gL y78
  0)[Int.toNat (vI p94 0)]? fun y97 => cnd (okI y97 0) (cnd (okI y97 1) (cnd (okI y97 2) (cnd (okI y97 3) (cnd (okI y97 4) (cnd (okB y97 5) (cnd (okS y97 6) (cnd (okL 2 y97 7) (Option.bind (apure C n
  (23:Nat) [tI (gI y96 1), tI (gI y96 2), tI (gI y96 3), tI (gI y96 4), tI (gI y96 5), Tree.bool (gB y96 6), Tree.str (gS y96 7), Tree.sl (2:Nat) (gL y96 8), tI (gI y97 0), tI (gI y97 1), tI (gI y97 2),
  tI (gI y97 3), tI (gI y97 4), Tree.bool (gB y97 5), Tree.str (gS y97 6), Tree.sl (2:Nat) (gL y97 7)]) fun y98 => cnd (List.length y98 = (1:Nat)) (cnd (okB y98 0) (cnd ((!(gB y98 0)) = true) (some
  [Tree.bool false]) (again95 ([AV.t (tI (w64 ((vI p94 0) + (1:Int))))], [AObj.box [], AObj.box [], AObj.box []]))) none) none) none) none) none) none) none) none) none) none) none) none) none) none)
  none) none) none) none) none) none) none) (Option.bind (apure C n (10:Nat) []) fun y99 => cnd (List.length y99 = (1:Nat)) (cnd (okB y99 0) (some [Tree.bool (gB y99 0)]) none) none)

noncomputable def J6_9 (n : Nat) (y71 : List Tree) (y78 : List Tree) (p79 : List AV × Heap) : Option (List Tree) :=
  cnd (vB p79 0 = true) (some [Tree.bool false]) (cnd (((gI y71 14) != (1:Int)) = true) (cnd ((((List.length (gL y71 15):Nat):Int) == (0:Int)) = true) (Option.bind (apure C n (10:Nat) []) fun y85 => cnd
  (List.length y85 = (1:Nat)) (cnd (okB y85 0) (some [Tree.bool (gB y85 0)]) none) none) (some [Tree.bool false])) (cnd (((gI y78 1) != (0:Int)) = true) (some [Tree.bool false]) (cnd ((((List.length (gL
  y71 15):Nat):Int) != ((List.length (gL y78 0):Nat):Int)) = true) (some [Tree.bool false]) (loopIter (fun (p94 : List AV × Heap) (again95 : _ → Option (List Tree)) => L6_8 n y71 y78 p94 again95) n
  ([AV.t (tI (0:Int))], [AObj.box [], AObj.box [], AObj.box []])))))

noncomputable def J6_10 (n : Nat) (a10 : Int) (a7 : ByteArray) (y72 : List Tree) (y71 : List Tree) (p73 : List AV × Heap) : Option (List Tree) :=
  cnd (vB p73 0 = true) (cnd (decide (a10 > (2199023255552:Int)) = true) (Option.bind (apure C n (10:Nat) []) fun y77 => cnd (List.length y77 = (1:Nat)) (cnd (okB y77 0) (some [Tree.bool (gB y77 0)])
  none) none) (some [Tree.bool false])) (Option.bind (apure C n (21:Nat) [tI (3:Int), tI (2:Int), Tree.str a7, Tree.sl (2:Nat) (gL y72 0)]) fun y78 => cnd (List.length y78 = (2:Nat)) (cnd (okL 8 y78 0)
  (cnd (okI y78 1) (join (fun (p79 : List AV × Heap) => J6_9 n y71 y78 p79) fun (again80 : _ → Option (List Tree)) => Option.bind (apure C n (22:Nat) [tI (gI y71 0), tI (gI y71 1), tI (gI y71 2), tI (gI
  y71 3), tI (gI y71 4), tI (gI y71 5), tI (gI y71 6), tI (gI y71 7), Tree.str (gS y71 8), tI (gI y71 9), tI (gI y71 10), tI (gI y71 11), Tree.sl (2:Nat) (gL y71 12), tI (gI y71 13), tI (gI y71 14),
  Tree.sl (9:Nat) (gL y71 15), tI a10]) fun y81 => cnd (List.length y81 = (1:Nat)) (cnd (okB y81 0) (cnd ((!(gB y81 0)) = true) (again80 ([AV.t (Tree.bool true)], [AObj.box [], AObj.box [], AObj.box
  []])) (Option.bind (apure C n (19:Nat) [tI (gI y71 0), tI (gI y71 1), tI (gI y71 2), tI (gI y71 3), tI (gI y71 4), tI (gI y71 5), tI (gI y71 6), tI (gI y71 7), Tree.str (gS y71 8), tI (gI y71 9), tI
  (gI y71 10), tI (gI y71 11), Tree.sl (2:Nat) (gL y71 12), tI (gI y71 13), tI (gI y71 14)]) fun y82 => cnd (List.length y82 = (1:Nat)) (cnd (okI y82 0) (cnd (((gI y82 0) != (0:Int)) = true) (again80
  ([AV.t (Tree.bool true)], [AObj.box [], AObj.box [], AObj.box []])) (again80 ([AV.t (Tree.bool (!((((List.length (gL y72 0):Nat):Int) == (0:Int)) == ((gI y71 14) == (2:Int)))))], [AObj.box [],
  AObj.box [], AObj.box []]))) none) none)) none) none) none) none) none)

noncomputable def J6_11 (n : Nat) (y15 : List Tree) (a10 : Int) (y67 : List Tree) (a7 : ByteArray) (p68 : List AV × Heap) : Option (List Tree) :=
  cnd (vB p68 0 = true) (Option.bind (apure C n (10:Nat) []) fun y70 => cnd (List.length y70 = (1:Nat)) (cnd (okB y70 0) (some [Tree.bool (gB y70 0)]) none) none) (Option.bind (apure C n (17:Nat) [tI
  (gI y15 0), tI (gI y15 1), tI (gI y15 2), tI (gI y15 3), tI (gI y15 4), tI (gI y15 5), tI (gI y15 6), tI (gI y15 7), Tree.str (gS y15 8), tI (gI y15 9), tI (gI y15 10), tI (gI y15 11), Tree.sl (2:Nat)
  (gL y15 12), tI (gI y15 13), tI (gI y15 14), tI a10, tI (gI y67 0), tI (gI y67 1), tI (gI y67 2), tI (gI y67 3), tI (gI y67 4), Tree.bool (gB y67 5), Tree.str (gS y67 6), Tree.sl (2:Nat) (gL y67 7)])
  fun y71 => cnd (List.length y71 = (17:Nat)) (cnd (okI y71 0) (cnd (okI y71 1) (cnd (okI y71 2) (cnd (okI y71 3) (cnd (okI y71 4) (cnd (okI y71 5) (cnd (okI y71 6) (cnd (okI y71 7) (cnd (okS y71 8)
  (cnd (okI y71 9) (cnd (okI y71 10) (cnd (okI y71 11) (cnd (okL 2 y71 12) (cnd (okI y71 13) (cnd (okI y71 14) (cnd (okL 9 y71 15) (cnd (okI y71 16) (Option.bind (apure C n (25:Nat) [tI (gI y71 0), tI
  (gI y71 1), tI (gI y71 2), tI (gI y71 3), tI (gI y71 4), tI (gI y71 5), tI (gI y71 6), tI (gI y71 7), Tree.str (gS y71 8), tI (gI y71 9), tI (gI y71 10), tI (gI y71 11), Tree.sl (2:Nat) (gL y71 12),
  tI (gI y71 13), tI (gI y71 14)]) fun y72 => cnd (List.length y72 = (2:Nat)) (cnd (okL 2 y72 0) (cnd (okI y72 1) (join (fun (p73 : List AV × Heap) => J6_10 n a10 a7 y72 y71 p73) fun (again74 : _ →
  Option (List Tree)) => cnd (((gI y71 16) != (0:Int)) = true) (again74 ([AV.t (Tree.bool true)], [AObj.box [], AObj.box [], AObj.box []])) (again74 ([AV.t (Tree.bool ((gI y72 1) != (0:Int)))],
  [AObj.box [], AObj.box [], AObj.box []]))) none) none) none) none) none) none) none) none) none) none) none) none) none) none) none) none) none) none) none) none) none)

noncomputable def L6_12 (n : Nat) (y15 : List Tree) (y19 : List Tree) (a7 : ByteArray) (a11 : List (List Tree)) (a10 : Int) (p62 : List AV × Heap) (again63 : (List AV × Heap) → Option (List Tree)) : Option (List Tree) :=
  cnd (decide (vI p62 0 < ((List.length (gL y15 15):Nat):Int)) = true) (cnd ((9:Nat) = (9:Nat) ∧ (0:Int) ≤ vI p62 0) (Option.bind (gL y15 15)[Int.toNat (vI p62 0)]? fun y64 => cnd (okI y64 0) (cnd (okI
  y64 1) (cnd (okI y64 2) (cnd (okI y64 3) (cnd (okI y64 4) (cnd (okI y64 5) (cnd (okB y64 6) (cnd (okS y64 7) (cnd (okL 2 y64 8) (cnd ((8:Nat) = (8:Nat) ∧ (0:Int) ≤ vI p62 0) (Option.bind (gL y19
  0)[Int.toNat (vI p62 0)]? fun y65 => cnd (okI y65 0) (cnd (okI y65 1) (cnd (okI y65 2) (cnd (okI y65 3) (cnd (okI y65 4) (cnd (okB y65 5) (cnd (okS y65 6) (cnd (okL 2 y65 7) (Option.bind (apure C n
  (23:Nat) [tI (gI y64 1), tI (gI y64 2), tI (gI y64 3), tI (gI y64 4), tI (gI y64 5), Tree.bool (gB y64 6), Tree.str (gS y64 7), Tree.sl (2:Nat) (gL y64 8), tI (gI y65 0), tI (gI y65 1), tI (gI y65 2),
  tI (gI y65 3), tI (gI y65 4), Tree.bool (gB y65 5), Tree.str (gS y65 6), Tree.sl (2:Nat) (gL y65 7)]) fun y66 => cnd (List.length y66 = (1:Nat)) (cnd (okB y66 0) (cnd ((!(gB y66 0)) = true) (some
  [Tree.bool false]) (again63 ([AV.t (tI (w64 ((vI p62 0) + (1:Int))))], [AObj.box []]))) none) none) none) none) none) none) none) none) none) none) none) none) none) none) none) none) none) none)
  none) none) none) (Option.bind (apure C n (24:Nat) [tI (3:Int), tI (1:Int), tI ((ByteArray.size a7:Nat):Int), Tree.sl (2:Nat) a11]) fun y67 => cnd (List.length y67 = (9:Nat)) (cnd (okI y67 0) (cnd
  (okI y67 1) (cnd (okI y67 2) (cnd (okI y67 3) (cnd (okI y67 4) (cnd (okB y67 5) (cnd (okS y67 6) (cnd (okL 2 y67 7) (cnd (okI y67 8) (join (fun (p68 : List AV × Heap) => J6_11 n y15 a10 y67 a7 p68)
  fun (again69 : _ → Option (List Tree)) => cnd (((gI y67 8) != (0:Int)) = true) (again69 ([AV.t (Tree.bool true)], [AObj.box [], AObj.box []])) (again69 ([AV.t (Tree.bool (decide (a10 < gI y15 10)))],
  [AObj.box [], AObj.box []]))) none) none) none) none) none) none) none) none) none) none)

noncomputable def J6_13 (n : Nat) (a0 : Int) (a1 : Int) (a2 : Int) (a3 : Int) (a4 : Int) (a5 : Int) (a6 : Int) (a7 : ByteArray) (a8 : Int) (a9 : Int) (a11 : List (List Tree)) (a10 : Int) (p12 : List AV × Heap) : Option (List Tree) :=
  cnd (vB p12 0 = true) (Option.bind (apure C n (10:Nat) []) fun y14 => cnd (List.length y14 = (1:Nat)) (cnd (okB y14 0) (some [Tree.bool (gB y14 0)]) none) none) (Option.bind (apure C n (11:Nat) [tI
  a0, tI a1, tI a2, tI a3, tI a4, tI a5, tI a6, tI (3:Int), Tree.str a7, tI a8, tI a9]) fun y15 => cnd (List.length y15 = (17:Nat)) (cnd (okI y15 0) (cnd (okI y15 1) (cnd (okI y15 2) (cnd (okI y15 3)
  (cnd (okI y15 4) (cnd (okI y15 5) (cnd (okI y15 6) (cnd (okI y15 7) (cnd (okS y15 8) (cnd (okI y15 9) (cnd (okI y15 10) (cnd (okI y15 11) (cnd (okL 2 y15 12) (cnd (okI y15 13) (cnd (okI y15 14) (cnd
  (okL 9 y15 15) (cnd (okI y15 16) (cnd (((gI y15 16) != (0:Int)) = true) (cnd ((((List.length (gL y15 15):Nat):Int) == (0:Int)) = true) (Option.bind (apure C n (10:Nat) []) fun y18 => cnd (List.length
  y18 = (1:Nat)) (cnd (okB y18 0) (some [Tree.bool (gB y18 0)]) none) none) (some [Tree.bool false])) (Option.bind (apure C n (21:Nat) [tI (3:Int), tI (1:Int), Tree.str a7, Tree.sl (2:Nat) [[tI (0:Int),
  tI ((ByteArray.size a7:Nat):Int)]]]) fun y19 => cnd (List.length y19 = (2:Nat)) (cnd (okL 8 y19 0) (cnd (okI y19 1) (cnd (((gI y19 1) != (0:Int)) = true) (some [Tree.bool false]) (cnd ((((List.length
  (gL y15 15):Nat):Int) != ((List.length (gL y19 0):Nat):Int)) = true) (some [Tree.bool false]) (Option.bind (apure C n (22:Nat) [tI (gI y15 0), tI (gI y15 1), tI (gI y15 2), tI (gI y15 3), tI (gI y15
  4), tI (gI y15 5), tI (gI y15 6), tI (gI y15 7), Tree.str (gS y15 8), tI (gI y15 9), tI (gI y15 10), tI (gI y15 11), Tree.sl (2:Nat) (gL y15 12), tI (gI y15 13), tI (gI y15 14), Tree.sl (9:Nat) (gL
  y15 15), tI a8]) fun y22 => cnd (List.length y22 = (1:Nat)) (cnd (okB y22 0) (cnd ((!(gB y22 0)) = true) (some [Tree.bool false]) (Option.bind (apure C n (19:Nat) [tI (gI y15 0), tI (gI y15 1), tI (gI
  y15 2), tI (gI y15 3), tI (gI y15 4), tI (gI y15 5), tI (gI y15 6), tI (gI y15 7), Tree.str (gS y15 8), tI (gI y15 9), tI (gI y15 10), tI (gI y15 11), Tree.sl (2:Nat) (gL y15 12), tI (gI y15 13), tI
  (gI y15 14)]) fun y23 => cnd (List.length y23 = (1:Nat)) (cnd (okI y23 0) (cnd (((gI y23 0) != (0:Int)) = true) (some [Tree.bool false]) (loopIter (fun (p62 : List AV × Heap) (again63 : _ → Option
  (List Tree)) => L6_12 n y15 y19 a7 a11 a10 p62 again63) n ([AV.t (tI (0:Int))], [AObj.box []]))) none) none)) none) none))) none) none) none)) none) none) none) none) none) none) none) none) none)
  none) none) none) none) none) none) none) none) none)
theorem e6 (n : Nat) (a0 : Int) (a1 : Int) (a2 : Int) (a3 : Int) (a4 : Int) (a5 : Int) (a6 : Int) (a7 : ByteArray) (a8 : Int) (a9 : Int) (a10 : Int) (a11 : List (List Tree)) : apure C (n + 1) 6 [tI a0, tI a1, tI a2, tI a3, tI a4, tI a5, tI a6, Tree.str a7, tI a8, tI a9, tI a10, Tree.sl (2:Nat) a11] =
  join (fun (p12 : List AV × Heap) => J6_13 n a0 a1 a2 a3 a4 a5 a6 a7 a8 a9 a11 a10 p12) fun (again13 : _ → Option (List Tree)) => cnd (decide (((ByteArray.size a7:Nat):Int) > (200:Int)) = true)
  (again13 ([AV.t (Tree.bool true)], [])) (again13 ([AV.t (Tree.bool (decide (((List.length a11:Nat):Int) > (20:Int))))], [])) := by kernel_rfl

theorem e7 (n : Nat) (a0 : Int) (a1 : Int) (a2 : Int) (a3 : Int) (a4 : Int) (a5 : Int) (a6 : Int) (a7 : Int) (a8 : ByteArray) (a9 : Int) (a10 : Int) (a11 : Int) (a12 : List (List Tree)) (a13 : Int) (a14 : Int) (a15 : Int) : apure C (n + 1) 7 [tI a0, tI a1, tI a2, tI a3, tI a4, tI a5, tI a6, tI a7, Tree.str a8, tI a9, tI a10, tI a11, Tree.sl (2:Nat) a12, tI a13, tI a14, tI a15] =
  Option.bind (apure C n (15:Nat) [tI a0, tI a1, tI a2, tI a3, tI a4, tI a5, tI a6, tI a7, Tree.str a8, tI a9, tI a10, tI a11, Tree.sl (2:Nat) a12, tI a13, tI a14]) fun y16 => cnd (List.length y16 =
  (1:Nat)) (cnd (okB y16 0) (cnd (gB y16 0 = true) (Option.bind (apure C n (10:Nat) []) fun y17 => cnd (List.length y17 = (1:Nat)) (cnd (okB y17 0) (some [Tree.bool (gB y17 0)]) none) none) (Option.bind
  (apure C n (26:Nat) [tI a0, tI a1, tI a2, tI a3, tI a4, tI a5, tI a6, tI a7, Tree.str a8, tI a9, tI a10, tI a11, Tree.sl (2:Nat) a12, tI a13, tI a14, tI a15]) fun y18 => cnd (List.length y18 =
  (17:Nat)) (cnd (okI y18 0) (cnd (okI y18 1) (cnd (okI y18 2) (cnd (okI y18 3) (cnd (okI y18 4) (cnd (okI y18 5) (cnd (okI y18 6) (cnd (okI y18 7) (cnd (okS y18 8) (cnd (okI y18 9) (cnd (okI y18 10)
  (cnd (okI y18 11) (cnd (okL 2 y18 12) (cnd (okI y18 13) (cnd (okI y18 14) (cnd (okL 9 y18 15) (cnd (okI y18 16) (Option.bind (apure C n (27:Nat) [tI a0, tI a1, tI a2, tI a3, tI a4, tI a5, tI a6, tI
  a7, Tree.str a8, tI a9, tI a10, tI a11, Tree.sl (2:Nat) a12, tI a13, tI a14, tI a15]) fun y19 => cnd (List.length y19 = (17:Nat)) (cnd (okI y19 0) (cnd (okI y19 1) (cnd (okI y19 2) (cnd (okI y19 3)
  (cnd (okI y19 4) (cnd (okI y19 5) (cnd (okI y19 6) (cnd (okI y19 7) (cnd (okS y19 8) (cnd (okI y19 9) (cnd (okI y19 10) (cnd (okI y19 11) (cnd (okL 2 y19 12) (cnd (okI y19 13) (cnd (okI y19 14) (cnd
  (okL 9 y19 15) (cnd (okI y19 16) (Option.bind (apure C n (25:Nat) [tI a0, tI a1, tI a2, tI a3, tI a4, tI a5, tI a6, tI a7, Tree.str a8, tI a9, tI a10, tI a11, Tree.sl (2:Nat) a12, tI a13, tI a14]) fun
  y20 => cnd (List.length y20 = (2:Nat)) (cnd (okL 2 y20 0) (cnd (okI y20 1) (Option.bind (apure C n (28:Nat) [tI a0, tI a1, tI a2, tI a3, tI a4, tI a5, tI a6, tI a7, Tree.str a8, tI a9, tI a10, tI a11,
  Tree.sl (2:Nat) a12, tI a13, tI a14]) fun y21 => cnd (List.length y21 = (2:Nat)) (cnd (okL 2 y21 0) (cnd (okI y21 1) (Option.bind (apure C n (19:Nat) [tI a0, tI a1, tI a2, tI a3, tI a4, tI a5, tI a6,
  tI a7, Tree.str a8, tI a9, tI a10, tI a11, Tree.sl (2:Nat) a12, tI a13, tI a14]) fun y24 => cnd (List.length y24 = (1:Nat)) (cnd (okI y24 0) (Option.bind (apure C n (29:Nat) [tI a0, tI a1, tI a2, tI
  a3, tI a4, tI a5, tI a6, tI a7, Tree.str a8, tI a9, tI a10, tI a11, Tree.sl (2:Nat) a12, tI a13, tI a14]) fun y25 => cnd (List.length y25 = (1:Nat)) (cnd (okI y25 0) (cnd (((gI y24 0) == (gI y25 0)) =
  true) (Option.bind (apure C n (13:Nat) [tI (gI y18 0), tI (gI y18 1), tI (gI y18 2), tI (gI y18 3), tI (gI y18 4), tI (gI y18 5), tI (gI y18 6), tI (gI y18 7), Tree.str (gS y18 8), tI (gI y18 9), tI
  (gI y18 10), tI (gI y18 11), Tree.sl (2:Nat) (gL y18 12), tI (gI y18 13), tI (gI y18 14), tI (gI y19 0), tI (gI y19 1), tI (gI y19 2), tI (gI y19 3), tI (gI y19 4), tI (gI y19 5), tI (gI y19 6), tI
  (gI y19 7), Tree.str (gS y19 8), tI (gI y19 9), tI (gI y19 10), tI (gI y19 11), Tree.sl (2:Nat) (gL y19 12), tI (gI y19 13), tI (gI y19 14)]) fun y26 => cnd (List.length y26 = (1:Nat)) (cnd (okB y26
  0) (cnd (gB y26 0 = true) (Option.bind (apure C n (14:Nat) [Tree.sl (9:Nat) (gL y18 15), Tree.sl (9:Nat) (gL y19 15)]) fun y27 => cnd (List.length y27 = (1:Nat)) (cnd (okB y27 0) (cnd (gB y27 0 =
  true) (cnd (((gI y18 16) == (gI y19 16)) = true) (Option.bind (apure C n (30:Nat) [Tree.sl (2:Nat) (gL y20 0), Tree.sl (2:Nat) (gL y21 0)]) fun y28 => cnd (List.length y28 = (1:Nat)) (cnd (okB y28 0)
  (cnd (gB y28 0 = true) (cnd (((gI y20 1) == (gI y21 1)) = true) (Option.bind (apure C n (10:Nat) []) fun y29 => cnd (List.length y29 = (1:Nat)) (cnd (okB y29 0) (some [Tree.bool (gB y29 0)]) none)
  none) (some [Tree.bool false])) (some [Tree.bool false])) none) none) (some [Tree.bool false])) (some [Tree.bool false])) none) none) (some [Tree.bool false])) none) none) (some [Tree.bool false]))
  none) none) none) none) none) none) none) none) none) none) none) none) none) none) none) none) none) none) none) none) none) none) none) none) none) none) none) none) none) none) none) none) none)
  none) none) none) none) none) none) none) none) none) none) none) none) none)) none) none := by kernel_rfl

noncomputable def J8_1 (n : Nat) (y20 : List Tree) (y25 : List Tree) (a4 : Int) (a15 : Int) (a9 : Int) (a10 : Int) (a11 : Int) (p26 : List AV × Heap) : Option (List Tree) :=
  cnd (vB p26 0 = true) (some [Tree.bool false]) (cnd (((gI y20 14) == (3:Int)) = true) (cnd ((8:Nat) = (8:Nat) ∧ (0:Int) ≤ w64 (((List.length (gL y25 0):Nat):Int) - (1:Int))) (Option.bind (gL y25
  0)[Int.toNat (w64 (((List.length (gL y25 0):Nat):Int) - (1:Int)))]? fun y30 => cnd (okI y30 0) (cnd (okI y30 1) (cnd (okI y30 2) (cnd (okI y30 3) (cnd (okI y30 4) (cnd (okB y30 5) (cnd (okS y30 6)
  (cnd (okL 2 y30 7) (Option.bind (apure C n (31:Nat) [tI a4, tI (gI y30 0), tI (gI y30 1), tI (gI y30 2), tI (gI y30 3), tI (gI y30 4), Tree.bool (gB y30 5), Tree.str (gS y30 6), Tree.sl (2:Nat) (gL
  y30 7)]) fun y31 => cnd (List.length y31 = (2:Nat)) (cnd (okI y31 0) (cnd (okI y31 1) (cnd (((gI y31 1) == (0:Int)) = true) (cnd ((((List.length (gL y20 15):Nat):Int) == (0:Int)) = true) (cnd (decide
  (w64 (a15 + (gI y31 0)) > a9) = true) (cnd (((gI y20 10) == a10) = true) (cnd (((gI y20 11) == a11) = true) (Option.bind (apure C n (10:Nat) []) fun y34 => cnd (List.length y34 = (1:Nat)) (cnd (okB
  y34 0) (some [Tree.bool (gB y34 0)]) none) none) (some [Tree.bool false])) (some [Tree.bool false])) (some [Tree.bool false])) (some [Tree.bool false])) (some [Tree.bool false])) none) none) none)
  none) none) none) none) none) none) none) none) none) (cnd ((((List.length (gL y20 15):Nat):Int) == (1:Int)) = true) (Option.bind (gL y20 15)[(0:Nat)]? fun y37 => cnd (okI y37 1) (cnd (okI y37 2) (cnd
  (okI y37 3) (cnd (okI y37 4) (cnd (okI y37 5) (cnd (okB y37 6) (cnd (okS y37 7) (cnd (okL 2 y37 8) (cnd ((8:Nat) = (8:Nat) ∧ (0:Int) ≤ w64 (((List.length (gL y25 0):Nat):Int) - (1:Int))) (Option.bind
  (gL y25 0)[Int.toNat (w64 (((List.length (gL y25 0):Nat):Int) - (1:Int)))]? fun y38 => cnd (okI y38 0) (cnd (okI y38 1) (cnd (okI y38 2) (cnd (okI y38 3) (cnd (okI y38 4) (cnd (okB y38 5) (cnd (okS
  y38 6) (cnd (okL 2 y38 7) (Option.bind (apure C n (23:Nat) [tI (gI y37 1), tI (gI y37 2), tI (gI y37 3), tI (gI y37 4), tI (gI y37 5), Tree.bool (gB y37 6), Tree.str (gS y37 7), Tree.sl (2:Nat) (gL
  y37 8), tI (gI y38 0), tI (gI y38 1), tI (gI y38 2), tI (gI y38 3), tI (gI y38 4), Tree.bool (gB y38 5), Tree.str (gS y38 6), Tree.sl (2:Nat) (gL y38 7)]) fun y39 => cnd (List.length y39 = (1:Nat))
  (cnd (okB y39 0) (cnd (gB y39 0 = true) (Option.bind (apure C n (22:Nat) [tI (gI y20 0), tI (gI y20 1), tI (gI y20 2), tI (gI y20 3), tI (gI y20 4), tI (gI y20 5), tI (gI y20 6), tI (gI y20 7),
  Tree.str (gS y20 8), tI (gI y20 9), tI (gI y20 10), tI (gI y20 11), Tree.sl (2:Nat) (gL y20 12), tI (gI y20 13), tI (gI y20 14), Tree.sl (9:Nat) (gL y20 15), tI a15]) fun y40 => cnd (List.length y40 =
  (1:Nat)) (cnd (okB y40 0) (cnd (gB y40 0 = true) (cnd (((gI y20 11) == (w64 (a11 + (1:Int)))) = true) (Option.bind (apure C n (10:Nat) []) fun y41 => cnd (List.length y41 = (1:Nat)) (cnd (okB y41 0)
  (some [Tree.bool (gB y41 0)]) none) none) (some [Tree.bool false])) (some [Tree.bool false])) none) none) (some [Tree.bool false])) none) none) none) none) none) none) none) none) none) none) none)
  none) none) none) none) none) none) none) none) (some [Tree.bool false])))

noncomputable def J8_2 (n : Nat) (a0 : Int) (a1 : Int) (a2 : Int) (a3 : Int) (a4 : Int) (a5 : Int) (a6 : Int) (a7 : Int) (a8 : ByteArray) (a9 : Int) (a10 : Int) (a11 : Int) (a12 : List (List Tree)) (a13 : Int) (a14 : Int) (a15 : Int) (p16 : List AV × Heap) : Option (List Tree) :=
  cnd (vB p16 0 = true) (Option.bind (apure C n (10:Nat) []) fun y19 => cnd (List.length y19 = (1:Nat)) (cnd (okB y19 0) (some [Tree.bool (gB y19 0)]) none) none) (Option.bind (apure C n (26:Nat) [tI
  a0, tI a1, tI a2, tI a3, tI a4, tI a5, tI a6, tI a7, Tree.str a8, tI a9, tI a10, tI a11, Tree.sl (2:Nat) a12, tI a13, tI a14, tI a15]) fun y20 => cnd (List.length y20 = (17:Nat)) (cnd (okI y20 0) (cnd
  (okI y20 1) (cnd (okI y20 2) (cnd (okI y20 3) (cnd (okI y20 4) (cnd (okI y20 5) (cnd (okI y20 6) (cnd (okI y20 7) (cnd (okS y20 8) (cnd (okI y20 9) (cnd (okI y20 10) (cnd (okI y20 11) (cnd (okL 2 y20
  12) (cnd (okI y20 13) (cnd (okI y20 14) (cnd (okL 9 y20 15) (cnd (okI y20 16) (cnd (((gI y20 16) != (0:Int)) = true) (cnd ((((List.length (gL y20 15):Nat):Int) == (0:Int)) = true) (Option.bind (apure
  C n (10:Nat) []) fun y23 => cnd (List.length y23 = (1:Nat)) (cnd (okB y23 0) (some [Tree.bool (gB y23 0)]) none) none) (some [Tree.bool false])) (Option.bind (apure C n (25:Nat) [tI a0, tI a1, tI a2,
  tI a3, tI a4, tI a5, tI a6, tI a7, Tree.str a8, tI a9, tI a10, tI a11, Tree.sl (2:Nat) a12, tI a13, tI a14]) fun y24 => cnd (List.length y24 = (2:Nat)) (cnd (okL 2 y24 0) (cnd (okI y24 1) (Option.bind
  (apure C n (21:Nat) [tI a7, tI (w64 (a11 + (1:Int))), Tree.str a8, Tree.sl (2:Nat) (gL y24 0)]) fun y25 => cnd (List.length y25 = (2:Nat)) (cnd (okL 8 y25 0) (cnd (okI y25 1) (join (fun (p26 : List AV
  × Heap) => J8_1 n y20 y25 a4 a15 a9 a10 a11 p26) fun (again27 : _ → Option (List Tree)) => cnd (((gI y24 1) != (0:Int)) = true) (again27 ([AV.t (Tree.bool true)], [AObj.box []])) (cnd (((gI y25 1) !=
  (0:Int)) = true) (again27 ([AV.t (Tree.bool true)], [AObj.box []])) (cnd ((((List.length (gL y25 0):Nat):Int) == (0:Int)) = true) (again27 ([AV.t (Tree.bool true)], [AObj.box []])) (Option.bind (apure
  C n (19:Nat) [tI (gI y20 0), tI (gI y20 1), tI (gI y20 2), tI (gI y20 3), tI (gI y20 4), tI (gI y20 5), tI (gI y20 6), tI (gI y20 7), Tree.str (gS y20 8), tI (gI y20 9), tI (gI y20 10), tI (gI y20
  11), Tree.sl (2:Nat) (gL y20 12), tI (gI y20 13), tI (gI y20 14)]) fun y28 => cnd (List.length y28 = (1:Nat)) (cnd (okI y28 0) (cnd (((gI y28 0) != (0:Int)) = true) (again27 ([AV.t (Tree.bool true)],
  [AObj.box []])) (Option.bind (apure C n (30:Nat) [Tree.sl (2:Nat) a12, Tree.sl (2:Nat) (gL y20 12)]) fun y29 => cnd (List.length y29 = (1:Nat)) (cnd (okB y29 0) (cnd ((!(gB y29 0)) = true) (again27
  ([AV.t (Tree.bool true)], [AObj.box []])) (cnd ((a8 != (gS y20 8)) = true) (again27 ([AV.t (Tree.bool true)], [AObj.box []])) (again27 ([AV.t (Tree.bool (a9 != (gI y20 9)))], [AObj.box []])))) none)
  none)) none) none)))) none) none) none) none) none) none)) none) none) none) none) none) none) none) none) none) none) none) none) none) none) none) none) none) none)
theorem e8 (n : Nat) (a0 : Int) (a1 : Int) (a2 : Int) (a3 : Int) (a4 : Int) (a5 : Int) (a6 : Int) (a7 : Int) (a8 : ByteArray) (a9 : Int) (a10 : Int) (a11 : Int) (a12 : List (List Tree)) (a13 : Int) (a14 : Int) (a15 : Int) : apure C (n + 1) 8 [tI a0, tI a1, tI a2, tI a3, tI a4, tI a5, tI a6, tI a7, Tree.str a8, tI a9, tI a10, tI a11, Tree.sl (2:Nat) a12, tI a13, tI a14, tI a15] =
  join (fun (p16 : List AV × Heap) => J8_2 n a0 a1 a2 a3 a4 a5 a6 a7 a8 a9 a10 a11 a12 a13 a14 a15 p16) fun (again17 : _ → Option (List Tree)) => Option.bind (apure C n (15:Nat) [tI a0, tI a1, tI a2, tI
  a3, tI a4, tI a5, tI a6, tI a7, Tree.str a8, tI a9, tI a10, tI a11, Tree.sl (2:Nat) a12, tI a13, tI a14]) fun y18 => cnd (List.length y18 = (1:Nat)) (cnd (okB y18 0) (cnd (gB y18 0 = true) (again17
  ([AV.t (Tree.bool true)], [])) (again17 ([AV.t (Tree.bool (decide (a11 ≥ (1099511627776:Int))))], []))) none) none := by kernel_rfl

noncomputable def J9_1 (n : Nat) (a14 : Int) (p31 : List AV × Heap) (a11 : Int) (a0 : Int) (a1 : Int) (a2 : Int) (a3 : Int) (a4 : Int) (a5 : Int) (a6 : Int) (a7 : Int) (a8 : ByteArray) (a9 : Int) (a10 : Int) (a12 : List (List Tree)) (a13 : Int) (p41 : List AV × Heap) : Option (List Tree) :=
  cnd (vB p41 0 = true) (some [Tree.bool false]) (cnd ((a14 == (1:Int)) = true) (cnd ((((List.length (vL p31 0):Nat):Int) == (0:Int)) = true) (Option.bind (apure C n (10:Nat) []) fun y46 => cnd
  (List.length y46 = (1:Nat)) (cnd (okB y46 0) (some [Tree.bool (gB y46 0)]) none) none) (cnd (((cI p41 0 11) == (w64 (a11 + (1:Int)))) = true) (Option.bind (apure C n (10:Nat) []) fun y47 => cnd
  (List.length y47 = (1:Nat)) (cnd (okB y47 0) (some [Tree.bool (gB y47 0)]) none) none) (some [Tree.bool false]))) (cnd ((((List.length (vL p31 0):Nat):Int) == (0:Int)) = true) (Option.bind (apure C n
  (13:Nat) [tI a0, tI a1, tI a2, tI a3, tI a4, tI a5, tI a6, tI a7, Tree.str a8, tI a9, tI a10, tI a11, Tree.sl (2:Nat) a12, tI a13, tI a14, tI (cI p41 0 0), tI (cI p41 0 1), tI (cI p41 0 2), tI (cI p41
  0 3), tI (cI p41 0 4), tI (cI p41 0 5), tI (cI p41 0 6), tI (cI p41 0 7), Tree.str (cS p41 0 8), tI (cI p41 0 9), tI (cI p41 0 10), tI (cI p41 0 11), Tree.sl (2:Nat) (cL p41 0 12), tI (cI p41 0 13),
  tI (cI p41 0 14)]) fun y48 => cnd (List.length y48 = (1:Nat)) (cnd (okB y48 0) (cnd (gB y48 0 = true) (cnd ((((List.length (vL p31 0):Nat):Int) == (0:Int)) = true) (Option.bind (apure C n (10:Nat) [])
  fun y49 => cnd (List.length y49 = (1:Nat)) (cnd (okB y49 0) (some [Tree.bool (gB y49 0)]) none) none) (cnd (((cI p41 0 11) == (w64 (a11 + (1:Int)))) = true) (Option.bind (apure C n (10:Nat) []) fun
  y50 => cnd (List.length y50 = (1:Nat)) (cnd (okB y50 0) (some [Tree.bool (gB y50 0)]) none) none) (some [Tree.bool false]))) (some [Tree.bool false])) none) none) (some [Tree.bool false])))

noncomputable def J9_2 (n : Nat) (a0 : Int) (a1 : Int) (a2 : Int) (a3 : Int) (a4 : Int) (a5 : Int) (a6 : Int) (a7 : Int) (a8 : ByteArray) (a9 : Int) (a10 : Int) (a11 : Int) (a12 : List (List Tree)) (a13 : Int) (a14 : Int) (p31 : List AV × Heap) : Option (List Tree) :=
  cnd (((vI p31 1) != (0:Int)) = true) (Option.bind (apure C n (13:Nat) [tI (cI p31 0 0), tI (cI p31 0 1), tI (cI p31 0 2), tI (cI p31 0 3), tI (cI p31 0 4), tI (cI p31 0 5), tI (cI p31 0 6), tI (cI p31
  0 7), Tree.str (cS p31 0 8), tI (cI p31 0 9), tI (cI p31 0 10), tI (cI p31 0 11), Tree.sl (2:Nat) (cL p31 0 12), tI (cI p31 0 13), tI (cI p31 0 14), tI (0:Int), tI (0:Int), tI (0:Int), tI (0:Int), tI
  (0:Int), tI (0:Int), tI (0:Int), tI (0:Int), Tree.str (ByteArray.mk #[]), tI (0:Int), tI (0:Int), tI (0:Int), Tree.sl (2:Nat) [], tI (0:Int), tI (0:Int)]) fun y36 => cnd (List.length y36 = (1:Nat))
  (cnd (okB y36 0) (cnd (gB y36 0 = true) (cnd ((((List.length (vL p31 0):Nat):Int) == (0:Int)) = true) (Option.bind (apure C n (10:Nat) []) fun y37 => cnd (List.length y37 = (1:Nat)) (cnd (okB y37 0)
  (some [Tree.bool (gB y37 0)]) none) none) (some [Tree.bool false])) (some [Tree.bool false])) none) none) (Option.bind (apure C n (25:Nat) [tI a0, tI a1, tI a2, tI a3, tI a4, tI a5, tI a6, tI a7,
  Tree.str a8, tI a9, tI a10, tI a11, Tree.sl (2:Nat) a12, tI a13, tI a14]) fun y38 => cnd (List.length y38 = (2:Nat)) (cnd (okL 2 y38 0) (cnd (okI y38 1) (Option.bind (apure C n (25:Nat) [tI (cI p31 0
  0), tI (cI p31 0 1), tI (cI p31 0 2), tI (cI p31 0 3), tI (cI p31 0 4), tI (cI p31 0 5), tI (cI p31 0 6), tI (cI p31 0 7), Tree.str (cS p31 0 8), tI (cI p31 0 9), tI (cI p31 0 10), tI (cI p31 0 11),
  Tree.sl (2:Nat) (cL p31 0 12), tI (cI p31 0 13), tI (cI p31 0 14)]) fun y39 => cnd (List.length y39 = (2:Nat)) (cnd (okL 2 y39 0) (cnd (okI y39 1) (Option.bind (apure C n (32:Nat) [Tree.sl (2:Nat) (gL
  y39 0), Tree.sl (2:Nat) (gL y38 0)]) fun y40 => cnd (List.length y40 = (2:Nat)) (cnd (okL 2 y40 0) (cnd (okI y40 1) (join (fun (p41 : List AV × Heap) => J9_1 n a14 p31 a11 a0 a1 a2 a3 a4 a5 a6 a7 a8
  a9 a10 a12 a13 p41) fun (again42 : _ → Option (List Tree)) => cnd (((gI y38 1) != (0:Int)) = true) (again42 ([AV.t (Tree.bool true)], [AObj.box [AV.t (tI (cI p31 0 0)), AV.t (tI (cI p31 0 1)), AV.t
  (tI (cI p31 0 2)), AV.t (tI (cI p31 0 3)), AV.t (tI (cI p31 0 4)), AV.t (tI (cI p31 0 5)), AV.t (tI (cI p31 0 6)), AV.t (tI (cI p31 0 7)), AV.t (Tree.str (cS p31 0 8)), AV.t (tI (cI p31 0 9)), AV.t
  (tI (cI p31 0 10)), AV.t (tI (cI p31 0 11)), AV.t (Tree.sl (2:Nat) (cL p31 0 12)), AV.t (tI (cI p31 0 13)), AV.t (tI (cI p31 0 14))]])) (cnd (((gI y39 1) != (0:Int)) = true) (again42 ([AV.t (Tree.bool
  true)], [AObj.box [AV.t (tI (cI p31 0 0)), AV.t (tI (cI p31 0 1)), AV.t (tI (cI p31 0 2)), AV.t (tI (cI p31 0 3)), AV.t (tI (cI p31 0 4)), AV.t (tI (cI p31 0 5)), AV.t (tI (cI p31 0 6)), AV.t (tI (cI
  p31 0 7)), AV.t (Tree.str (cS p31 0 8)), AV.t (tI (cI p31 0 9)), AV.t (tI (cI p31 0 10)), AV.t (tI (cI p31 0 11)), AV.t (Tree.sl (2:Nat) (cL p31 0 12)), AV.t (tI (cI p31 0 13)), AV.t (tI (cI p31 0
  14))]])) (cnd (((gI y40 1) != (0:Int)) = true) (again42 ([AV.t (Tree.bool true)], [AObj.box [AV.t (tI (cI p31 0 0)), AV.t (tI (cI p31 0 1)), AV.t (tI (cI p31 0 2)), AV.t (tI (cI p31 0 3)), AV.t (tI
  (cI p31 0 4)), AV.t (tI (cI p31 0 5)), AV.t (tI (cI p31 0 6)), AV.t (tI (cI p31 0 7)), AV.t (Tree.str (cS p31 0 8)), AV.t (tI (cI p31 0 9)), AV.t (tI (cI p31 0 10)), AV.t (tI (cI p31 0 11)), AV.t
  (Tree.sl (2:Nat) (cL p31 0 12)), AV.t (tI (cI p31 0 13)), AV.t (tI (cI p31 0 14))]])) (cnd (decide (((List.length (gL y40 0):Nat):Int) > (0:Int)) = true) (again42 ([AV.t (Tree.bool true)], [AObj.box
  [AV.t (tI (cI p31 0 0)), AV.t (tI (cI p31 0 1)), AV.t (tI (cI p31 0 2)), AV.t (tI (cI p31 0 3)), AV.t (tI (cI p31 0 4)), AV.t (tI (cI p31 0 5)), AV.t (tI (cI p31 0 6)), AV.t (tI (cI p31 0 7)), AV.t
  (Tree.str (cS p31 0 8)), AV.t (tI (cI p31 0 9)), AV.t (tI (cI p31 0 10)), AV.t (tI (cI p31 0 11)), AV.t (Tree.sl (2:Nat) (cL p31 0 12)), AV.t (tI (cI p31 0 13)), AV.t (tI (cI p31 0 14))]]))
  (Option.bind (apure C n (19:Nat) [tI (cI p31 0 0), tI (cI p31 0 1), tI (cI p31 0 2), tI (cI p31 0 3), tI (cI p31 0 4), tI (cI p31 0 5), tI (cI p31 0 6), tI (cI p31 0 7), Tree.str (cS p31 0 8), tI (cI
  p31 0 9), tI (cI p31 0 10), tI (cI p31 0 11), Tree.sl (2:Nat) (cL p31 0 12), tI (cI p31 0 13), tI (cI p31 0 14)]) fun y43 => cnd (List.length y43 = (1:Nat)) (cnd (okI y43 0) (cnd (((gI y43 0) !=
  (0:Int)) = true) (again42 ([AV.t (Tree.bool true)], [AObj.box [AV.t (tI (cI p31 0 0)), AV.t (tI (cI p31 0 1)), AV.t (tI (cI p31 0 2)), AV.t (tI (cI p31 0 3)), AV.t (tI (cI p31 0 4)), AV.t (tI (cI p31
  0 5)), AV.t (tI (cI p31 0 6)), AV.t (tI (cI p31 0 7)), AV.t (Tree.str (cS p31 0 8)), AV.t (tI (cI p31 0 9)), AV.t (tI (cI p31 0 10)), AV.t (tI (cI p31 0 11)), AV.t (Tree.sl (2:Nat) (cL p31 0 12)),
  AV.t (tI (cI p31 0 13)), AV.t (tI (cI p31 0 14))]])) (cnd (decide (cI p31 0 11 < a11) = true) (again42 ([AV.t (Tree.bool true)], [AObj.box [AV.t (tI (cI p31 0 0)), AV.t (tI (cI p31 0 1)), AV.t (tI (cI
  p31 0 2)), AV.t (tI (cI p31 0 3)), AV.t (tI (cI p31 0 4)), AV.t (tI (cI p31 0 5)), AV.t (tI (cI p31 0 6)), AV.t (tI (cI p31 0 7)), AV.t (Tree.str (cS p31 0 8)), AV.t (tI (cI p31 0 9)), AV.t (tI (cI
  p31 0 10)), AV.t (tI (cI p31 0 11)), AV.t (Tree.sl (2:Nat) (cL p31 0 12)), AV.t (tI (cI p31 0 13)), AV.t (tI (cI p31 0 14))]])) (cnd (decide (cI p31 0 10 < a10) = true) (again42 ([AV.t (Tree.bool
  true)], [AObj.box [AV.t (tI (cI p31 0 0)), AV.t (tI (cI p31 0 1)), AV.t (tI (cI p31 0 2)), AV.t (tI (cI p31 0 3)), AV.t (tI (cI p31 0 4)), AV.t (tI (cI p31 0 5)), AV.t (tI (cI p31 0 6)), AV.t (tI (cI
  p31 0 7)), AV.t (Tree.str (cS p31 0 8)), AV.t (tI (cI p31 0 9)), AV.t (tI (cI p31 0 10)), AV.t (tI (cI p31 0 11)), AV.t (Tree.sl (2:Nat) (cL p31 0 12)), AV.t (tI (cI p31 0 13)), AV.t (tI (cI p31 0
  14))]])) (again42 ([AV.t (Tree.bool (decide (cI p31 0 10 > cI p31 0 9)))], [AObj.box [AV.t (tI (cI p31 0 0)), AV.t (tI (cI p31 0 1)), AV.t (tI (cI p31 0 2)), AV.t (tI (cI p31 0 3)), AV.t (tI (cI p31 0
  4)), AV.t (tI (cI p31 0 5)), AV.t (tI (cI p31 0 6)), AV.t (tI (cI p31 0 7)), AV.t (Tree.str (cS p31 0 8)), AV.t (tI (cI p31 0 9)), AV.t (tI (cI p31 0 10)), AV.t (tI (cI p31 0 11)), AV.t (Tree.sl
  (2:Nat) (cL p31 0 12)), AV.t (tI (cI p31 0 13)), AV.t (tI (cI p31 0 14))]]))))) none) none))))) none) none) none) none) none) none) none) none) none)

noncomputable def J9_3 (n : Nat) (a0 : Int) (a1 : Int) (a2 : Int) (a3 : Int) (a4 : Int) (a5 : Int) (a6 : Int) (a7 : Int) (a8 : ByteArray) (a9 : Int) (a10 : Int) (a11 : Int) (a12 : List (List Tree)) (a13 : Int) (a14 : Int) (a15 : Int) (a16 : Int) (a17 : Int) (a18 : Int) (a19 : Int) (a20 : Int) (a21 : Bool) (a22 : ByteArray) (a23 : List (List Tree)) (a24 : Bool) (p25 : List AV × Heap) : Option (List Tree) :=
  cnd (vB p25 0 = true) (Option.bind (apure C n (10:Nat) []) fun y29 => cnd (List.length y29 = (1:Nat)) (cnd (okB y29 0) (some [Tree.bool (gB y29 0)]) none) none) (Option.bind (apure C n (17:Nat) [tI
  a0, tI a1, tI a2, tI a3, tI a4, tI a5, tI a6, tI a7, Tree.str a8, tI a9, tI a10, tI a11, Tree.sl (2:Nat) a12, tI a13, tI a14, tI a15, tI a16, tI a17, tI a18, tI a19, tI a20, Tree.bool a21, Tree.str
  a22, Tree.sl (2:Nat) a23]) fun y30 => cnd (List.length y30 = (17:Nat)) (cnd (okI y30 0) (cnd (okI y30 1) (cnd (okI y30 2) (cnd (okI y30 3) (cnd (okI y30 4) (cnd (okI y30 5) (cnd (okI y30 6) (cnd (okI
  y30 7) (cnd (okS y30 8) (cnd (okI y30 9) (cnd (okI y30 10) (cnd (okI y30 11) (cnd (okL 2 y30 12) (cnd (okI y30 13) (cnd (okI y30 14) (cnd (okL 9 y30 15) (cnd (okI y30 16) (join (fun (p31 : List AV ×
  Heap) => J9_2 n a0 a1 a2 a3 a4 a5 a6 a7 a8 a9 a10 a11 a12 a13 a14 p31) fun (again32 : _ → Option (List Tree)) => cnd (a24 = true) (Option.bind (apure C n (26:Nat) [tI a0, tI a1, tI a2, tI a3, tI a4,
  tI a5, tI a6, tI a7, Tree.str a8, tI a9, tI a10, tI a11, Tree.sl (2:Nat) a12, tI a13, tI a14, tI a15]) fun y33 => cnd (List.length y33 = (17:Nat)) (cnd (okI y33 0) (cnd (okI y33 1) (cnd (okI y33 2)
  (cnd (okI y33 3) (cnd (okI y33 4) (cnd (okI y33 5) (cnd (okI y33 6) (cnd (okI y33 7) (cnd (okS y33 8) (cnd (okI y33 9) (cnd (okI y33 10) (cnd (okI y33 11) (cnd (okL 2 y33 12) (cnd (okI y33 13) (cnd
  (okI y33 14) (cnd (okL 9 y33 15) (cnd (okI y33 16) (again32 ([AV.t (Tree.sl (9:Nat) (gL y33 15)), AV.t (tI (gI y33 16))], [AObj.box [AV.t (tI (gI y33 0)), AV.t (tI (gI y33 1)), AV.t (tI (gI y33 2)),
  AV.t (tI (gI y33 3)), AV.t (tI (gI y33 4)), AV.t (tI (gI y33 5)), AV.t (tI (gI y33 6)), AV.t (tI (gI y33 7)), AV.t (Tree.str (gS y33 8)), AV.t (tI (gI y33 9)), AV.t (tI (gI y33 10)), AV.t (tI (gI y33
  11)), AV.t (Tree.sl (2:Nat) (gL y33 12)), AV.t (tI (gI y33 13)), AV.t (tI (gI y33 14))]])) none) none) none) none) none) none) none) none) none) none) none) none) none) none) none) none) none) none)
  (again32 ([AV.t (Tree.sl (9:Nat) (gL y30 15)), AV.t (tI (gI y30 16))], [AObj.box [AV.t (tI (gI y30 0)), AV.t (tI (gI y30 1)), AV.t (tI (gI y30 2)), AV.t (tI (gI y30 3)), AV.t (tI (gI y30 4)), AV.t (tI
  (gI y30 5)), AV.t (tI (gI y30 6)), AV.t (tI (gI y30 7)), AV.t (Tree.str (gS y30 8)), AV.t (tI (gI y30 9)), AV.t (tI (gI y30 10)), AV.t (tI (gI y30 11)), AV.t (Tree.sl (2:Nat) (gL y30 12)), AV.t (tI
  (gI y30 13)), AV.t (tI (gI y30 14))]]))) none) none) none) none) none) none) none) none) none) none) none) none) none) none) none) none) none) none)
theorem e9 (n : Nat) (a0 : Int) (a1 : Int) (a2 : Int) (a3 : Int) (a4 : Int) (a5 : Int) (a6 : Int) (a7 : Int) (a8 : ByteArray) (a9 : Int) (a10 : Int) (a11 : Int) (a12 : List (List Tree)) (a13 : Int) (a14 : Int) (a15 : Int) (a16 : Int) (a17 : Int) (a18 : Int) (a19 : Int) (a20 : Int) (a21 : Bool) (a22 : ByteArray) (a23 : List (List Tree)) (a24 : Bool) : apure C (n + 1) 9 [tI a0, tI a1, tI a2, tI a3, tI a4, tI a5, tI a6, tI a7, Tree.str a8, tI a9, tI a10, tI a11, Tree.sl (2:Nat) a12, tI a13, tI a14, tI a15, tI a16, tI a17, tI a18, tI a19, tI a20, Tree.bool a21, Tree.str a22, Tree.sl (2:Nat) a23, Tree.bool a24] =
  join (fun (p25 : List AV × Heap) => J9_3 n a0 a1 a2 a3 a4 a5 a6 a7 a8 a9 a10 a11 a12 a13 a14 a15 a16 a17 a18 a19 a20 a21 a22 a23 a24 p25) fun (again26 : _ → Option (List Tree)) => Option.bind (apure C
  n (15:Nat) [tI a0, tI a1, tI a2, tI a3, tI a4, tI a5, tI a6, tI a7, Tree.str a8, tI a9, tI a10, tI a11, Tree.sl (2:Nat) a12, tI a13, tI a14]) fun y27 => cnd (List.length y27 = (1:Nat)) (cnd (okB y27
  0) (cnd (gB y27 0 = true) (again26 ([AV.t (Tree.bool true)], [])) (Option.bind (apure C n (16:Nat) [tI a16, tI a17, tI a18, tI a19, tI a20, Tree.bool a21, Tree.str a22, Tree.sl (2:Nat) a23]) fun y28
  => cnd (List.length y28 = (1:Nat)) (cnd (okB y28 0) (again26 ([AV.t (Tree.bool (gB y28 0))], [])) none) none)) none) none := by kernel_rfl

noncomputable def J10_1 (n : Nat)  (p2 : List AV × Heap) : Option (List Tree) :=
  cnd (vB p2 0 = true) (some [Tree.bool false]) (Option.bind (apure C n (17:Nat) [tI (cI p2 1 0), tI (cI p2 1 1), tI (cI p2 1 2), tI (cI p2 1 3), tI (cI p2 1 4), tI (cI p2 1 5), tI (cI p2 1 6), tI (cI
  p2 1 7), Tree.str (cS p2 1 8), tI (cI p2 1 9), tI (cI p2 1 10), tI (cI p2 1 11), Tree.sl (2:Nat) (cL p2 1 12), tI (cI p2 1 13), tI (cI p2 1 14), tI (18:Int), tI (2:Int), tI (7:Int), tI (1:Int), tI
  (0:Int), tI (40:Int), Tree.bool false, Tree.str (ByteArray.mk #[]), Tree.sl (2:Nat) [[tI (0:Int), tI (16:Int)], [tI (32:Int), tI (40:Int)]]]) fun y7 => cnd (List.length y7 = (17:Nat)) (cnd (okI y7 0)
  (cnd (okI y7 1) (cnd (okI y7 2) (cnd (okI y7 3) (cnd (okI y7 4) (cnd (okI y7 5) (cnd (okI y7 6) (cnd (okI y7 7) (cnd (okS y7 8) (cnd (okI y7 9) (cnd (okI y7 10) (cnd (okI y7 11) (cnd (okL 2 y7 12)
  (cnd (okI y7 13) (cnd (okI y7 14) (cnd (okL 9 y7 15) (cnd (okI y7 16) (cnd (((gI y7 16) == (0:Int)) = true) (cnd ((((List.length (gL y7 15):Nat):Int) == (1:Int)) = true) (Option.bind (gL y7
  15)[(0:Nat)]? fun y10 => cnd (okI y10 0) (cnd (((gI y10 0) == (21:Int)) = true) (Option.bind (gL y7 15)[(0:Nat)]? fun y11 => cnd (okI y11 4) (cnd (((gI y11 4) == (16:Int)) = true) (Option.bind (gL y7
  15)[(0:Nat)]? fun y12 => cnd (okB y12 6) (cnd (gB y12 6 = true) (Option.bind (gL y7 15)[(0:Nat)]? fun y13 => cnd (okI y13 3) (cnd (((gI y13 3) == (2:Int)) = true) (some [Tree.bool ((gI y7 11) ==
  (2:Int))]) (some [Tree.bool false])) none) (some [Tree.bool false])) none) (some [Tree.bool false])) none) (some [Tree.bool false])) none) (some [Tree.bool false])) (some [Tree.bool false])) none)
  none) none) none) none) none) none) none) none) none) none) none) none) none) none) none) none) none)
theorem e10 (n : Nat)  : apure C (n + 1) 10 [] =
  Option.bind (apure C n (33:Nat) []) fun y0 => cnd (List.length y0 = (8:Nat)) (cnd (okI y0 0) (cnd (okI y0 1) (cnd (okI y0 2) (cnd (okI y0 3) (cnd (okI y0 4) (cnd (okI y0 5) (cnd (okI y0 6) (cnd (okS
  y0 7) (Option.bind (apure C n (11:Nat) [tI (gI y0 0), tI (gI y0 1), tI (gI y0 2), tI (gI y0 3), tI (gI y0 4), tI (gI y0 5), tI (gI y0 6), tI (7:Int), Tree.str (gS y0 7), tI (0:Int), tI (100:Int)]) fun
  y1 => cnd (List.length y1 = (17:Nat)) (cnd (okI y1 0) (cnd (okI y1 1) (cnd (okI y1 2) (cnd (okI y1 3) (cnd (okI y1 4) (cnd (okI y1 5) (cnd (okI y1 6) (cnd (okI y1 7) (cnd (okS y1 8) (cnd (okI y1 9)
  (cnd (okI y1 10) (cnd (okI y1 11) (cnd (okL 2 y1 12) (cnd (okI y1 13) (cnd (okI y1 14) (cnd (okL 9 y1 15) (cnd (okI y1 16) (join (fun (p2 : List AV × Heap) => J10_1 n p2) fun (again3 : _ → Option
  (List Tree)) => cnd (((gI y1 16) != (0:Int)) = true) (again3 ([AV.t (Tree.bool true)], [AObj.box [], AObj.box [AV.t (tI (gI y1 0)), AV.t (tI (gI y1 1)), AV.t (tI (gI y1 2)), AV.t (tI (gI y1 3)), AV.t
  (tI (gI y1 4)), AV.t (tI (gI y1 5)), AV.t (tI (gI y1 6)), AV.t (tI (gI y1 7)), AV.t (Tree.str (gS y1 8)), AV.t (tI (gI y1 9)), AV.t (tI (gI y1 10)), AV.t (tI (gI y1 11)), AV.t (Tree.sl (2:Nat) (gL y1
  12)), AV.t (tI (gI y1 13)), AV.t (tI (gI y1 14))]])) (cnd ((((List.length (gL y1 15):Nat):Int) != (3:Int)) = true) (again3 ([AV.t (Tree.bool true)], [AObj.box [], AObj.box [AV.t (tI (gI y1 0)), AV.t
  (tI (gI y1 1)), AV.t (tI (gI y1 2)), AV.t (tI (gI y1 3)), AV.t (tI (gI y1 4)), AV.t (tI (gI y1 5)), AV.t (tI (gI y1 6)), AV.t (tI (gI y1 7)), AV.t (Tree.str (gS y1 8)), AV.t (tI (gI y1 9)), AV.t (tI
  (gI y1 10)), AV.t (tI (gI y1 11)), AV.t (Tree.sl (2:Nat) (gL y1 12)), AV.t (tI (gI y1 13)), AV.t (tI (gI y1 14))]])) (Option.bind (gL y1 15)[(0:Nat)]? fun y4 => cnd (okI y4 0) (cnd (((gI y4 0) !=
  (3:Int)) = true) (again3 ([AV.t (Tree.bool true)], [AObj.box [], AObj.box [AV.t (tI (gI y1 0)), AV.t (tI (gI y1 1)), AV.t (tI (gI y1 2)), AV.t (tI (gI y1 3)), AV.t (tI (gI y1 4)), AV.t (tI (gI y1 5)),
  AV.t (tI (gI y1 6)), AV.t (tI (gI y1 7)), AV.t (Tree.str (gS y1 8)), AV.t (tI (gI y1 9)), AV.t (tI (gI y1 10)), AV.t (tI (gI y1 11)), AV.t (Tree.sl (2:Nat) (gL y1 12)), AV.t (tI (gI y1 13)), AV.t (tI
  (gI y1 14))]])) (Option.bind (gL y1 15)[(1:Nat)]? fun y5 => cnd (okI y5 0) (cnd (((gI y5 0) != (6:Int)) = true) (again3 ([AV.t (Tree.bool true)], [AObj.box [], AObj.box [AV.t (tI (gI y1 0)), AV.t (tI
  (gI y1 1)), AV.t (tI (gI y1 2)), AV.t (tI (gI y1 3)), AV.t (tI (gI y1 4)), AV.t (tI (gI y1 5)), AV.t (tI (gI y1 6)), AV.t (tI (gI y1 7)), AV.t (Tree.str (gS y1 8)), AV.t (tI (gI y1 9)), AV.t (tI (gI
  y1 10)), AV.t (tI (gI y1 11)), AV.t (Tree.sl (2:Nat) (gL y1 12)), AV.t (tI (gI y1 13)), AV.t (tI (gI y1 14))]])) (Option.bind (gL y1 15)[(2:Nat)]? fun y6 => cnd (okI y6 0) (cnd (((gI y6 0) != (8:Int))
  = true) (again3 ([AV.t (Tree.bool true)], [AObj.box [], AObj.box [AV.t (tI (gI y1 0)), AV.t (tI (gI y1 1)), AV.t (tI (gI y1 2)), AV.t (tI (gI y1 3)), AV.t (tI (gI y1 4)), AV.t (tI (gI y1 5)), AV.t (tI
  (gI y1 6)), AV.t (tI (gI y1 7)), AV.t (Tree.str (gS y1 8)), AV.t (tI (gI y1 9)), AV.t (tI (gI y1 10)), AV.t (tI (gI y1 11)), AV.t (Tree.sl (2:Nat) (gL y1 12)), AV.t (tI (gI y1 13)), AV.t (tI (gI y1
  14))]])) (again3 ([AV.t (Tree.bool ((gI y1 13) != (19:Int)))], [AObj.box [], AObj.box [AV.t (tI (gI y1 0)), AV.t (tI (gI y1 1)), AV.t (tI (gI y1 2)), AV.t (tI (gI y1 3)), AV.t (tI (gI y1 4)), AV.t (tI
  (gI y1 5)), AV.t (tI (gI y1 6)), AV.t (tI (gI y1 7)), AV.t (Tree.str (gS y1 8)), AV.t (tI (gI y1 9)), AV.t (tI (gI y1 10)), AV.t (tI (gI y1 11)), AV.t (Tree.sl (2:Nat) (gL y1 12)), AV.t (tI (gI y1
  13)), AV.t (tI (gI y1 14))]]))) none)) none)) none))) none) none) none) none) none) none) none) none) none) none) none) none) none) none) none) none) none) none) none) none) none) none) none) none)
  none) none) none := by kernel_rfl

noncomputable def J11_1 (n : Nat) (a7 : Int) (a8 : ByteArray) (a0 : Int) (a1 : Int) (a2 : Int) (a3 : Int) (a4 : Int) (a5 : Int) (a6 : Int) (a10 : Int) (a9 : Int) (p13 : List AV × Heap) : Option (List Tree) :=
  cnd (vB p13 0 = true) (some [tI (0:Int), tI (0:Int), tI (0:Int), tI (0:Int), tI (0:Int), tI (0:Int), tI (0:Int), tI (0:Int), Tree.str (ByteArray.mk #[]), tI (0:Int), tI (0:Int), tI (0:Int), Tree.sl
  (2:Nat) [], tI (0:Int), tI (0:Int), Tree.sl (9:Nat) [], tI (2:Int)]) (Option.bind (apure C n (37:Nat) [tI (0:Int), tI (0:Int), tI (0:Int), tI (0:Int), tI (0:Int), tI (0:Int), tI (0:Int), tI a7,
  Tree.str a8, tI (0:Int), tI (0:Int), tI (0:Int), Tree.sl (2:Nat) [], tI (0:Int), tI (0:Int)]) fun y15 => cnd (List.length y15 = (1:Nat)) (cnd (okL 8 y15 0) (Option.bind (apure C n (36:Nat) [tI a0, tI
  a1, tI a2, tI a3, tI a4, tI a5, tI a6, tI a7, Tree.str a8, tI a10, tI (0:Int), tI (0:Int), Tree.sl (2:Nat) [], tI (0:Int), tI (0:Int), tI a9, Tree.sl (8:Nat) (gL y15 0)]) fun y16 => cnd (List.length
  y16 = (16:Nat)) (cnd (okI y16 0) (cnd (okI y16 1) (cnd (okI y16 2) (cnd (okI y16 3) (cnd (okI y16 4) (cnd (okI y16 5) (cnd (okI y16 6) (cnd (okI y16 7) (cnd (okS y16 8) (cnd (okI y16 9) (cnd (okI y16
  10) (cnd (okI y16 11) (cnd (okL 2 y16 12) (cnd (okI y16 13) (cnd (okI y16 14) (cnd (okL 9 y16 15) (cnd (((gI y16 14) == (3:Int)) = true) (some [tI (0:Int), tI (0:Int), tI (0:Int), tI (0:Int), tI
  (0:Int), tI (0:Int), tI (0:Int), tI (0:Int), Tree.str (ByteArray.mk #[]), tI (0:Int), tI (0:Int), tI (0:Int), Tree.sl (2:Nat) [], tI (0:Int), tI (0:Int), Tree.sl (9:Nat) [], tI (16:Int)]) (some [tI
  (gI y16 0), tI (gI y16 1), tI (gI y16 2), tI (gI y16 3), tI (gI y16 4), tI (gI y16 5), tI (gI y16 6), tI (gI y16 7), Tree.str (gS y16 8), tI (gI y16 9), tI (gI y16 10), tI (gI y16 11), Tree.sl (2:Nat)
  (gL y16 12), tI (gI y16 13), tI (gI y16 14), Tree.sl (9:Nat) (gL y16 15), tI (0:Int)])) none) none) none) none) none) none) none) none) none) none) none) none) none) none) none) none) none) none)
  none)
theorem e11 (n : Nat) (a0 : Int) (a1 : Int) (a2 : Int) (a3 : Int) (a4 : Int) (a5 : Int) (a6 : Int) (a7 : Int) (a8 : ByteArray) (a9 : Int) (a10 : Int) : apure C (n + 1) 11 [tI a0, tI a1, tI a2, tI a3, tI a4, tI a5, tI a6, tI a7, Tree.str a8, tI a9, tI a10] =
  Option.bind (apure C n (34:Nat) [tI a0, tI a1, tI a2, tI a3, tI a4, tI a5, tI a6]) fun y11 => cnd (List.length y11 = (1:Nat)) (cnd (okI y11 0) (cnd (((gI y11 0) != (0:Int)) = true) (some [tI (0:Int),
  tI (0:Int), tI (0:Int), tI (0:Int), tI (0:Int), tI (0:Int), tI (0:Int), tI (0:Int), Tree.str (ByteArray.mk #[]), tI (0:Int), tI (0:Int), tI (0:Int), Tree.sl (2:Nat) [], tI (0:Int), tI (0:Int), Tree.sl
  (9:Nat) [], tI (1:Int)]) (Option.bind (apure C n (35:Nat) [tI a7, tI (0:Int), tI (1099511627776:Int)]) fun y12 => cnd (List.length y12 = (1:Nat)) (cnd (okB y12 0) (cnd ((!(gB y12 0)) = true) (some [tI
  (0:Int), tI (0:Int), tI (0:Int), tI (0:Int), tI (0:Int), tI (0:Int), tI (0:Int), tI (0:Int), Tree.str (ByteArray.mk #[]), tI (0:Int), tI (0:Int), tI (0:Int), Tree.sl (2:Nat) [], tI (0:Int), tI
  (0:Int), Tree.sl (9:Nat) [], tI (2:Int)]) (cnd ((a8 == (ByteArray.mk #[])) = true) (some [tI (0:Int), tI (0:Int), tI (0:Int), tI (0:Int), tI (0:Int), tI (0:Int), tI (0:Int), tI (0:Int), Tree.str
  (ByteArray.mk #[]), tI (0:Int), tI (0:Int), tI (0:Int), Tree.sl (2:Nat) [], tI (0:Int), tI (0:Int), Tree.sl (9:Nat) [], tI (20:Int)]) (cnd (decide (((ByteArray.size a8:Nat):Int) > (65536:Int)) = true)
  (some [tI (0:Int), tI (0:Int), tI (0:Int), tI (0:Int), tI (0:Int), tI (0:Int), tI (0:Int), tI (0:Int), Tree.str (ByteArray.mk #[]), tI (0:Int), tI (0:Int), tI (0:Int), Tree.sl (2:Nat) [], tI (0:Int),
  tI (0:Int), Tree.sl (9:Nat) [], tI (4:Int)]) (join (fun (p13 : List AV × Heap) => J11_1 n a7 a8 a0 a1 a2 a3 a4 a5 a6 a10 a9 p13) fun (again14 : _ → Option (List Tree)) => cnd (decide (a9 < a2) = true)
  (again14 ([AV.t (Tree.bool true)], [AObj.box [AV.t (tI (0:Int)), AV.t (tI (0:Int)), AV.t (tI (0:Int)), AV.t (tI (0:Int)), AV.t (tI (0:Int)), AV.t (tI (0:Int)), AV.t (tI (0:Int)), AV.t (tI (0:Int)),
  AV.t (Tree.str (ByteArray.mk #[])), AV.t (tI (0:Int)), AV.t (tI (0:Int)), AV.t (tI (0:Int)), AV.t (Tree.sl (2:Nat) []), AV.t (tI (0:Int)), AV.t (tI (0:Int))]])) (cnd (decide (a9 > a10) = true)
  (again14 ([AV.t (Tree.bool true)], [AObj.box [AV.t (tI (0:Int)), AV.t (tI (0:Int)), AV.t (tI (0:Int)), AV.t (tI (0:Int)), AV.t (tI (0:Int)), AV.t (tI (0:Int)), AV.t (tI (0:Int)), AV.t (tI (0:Int)),
  AV.t (Tree.str (ByteArray.mk #[])), AV.t (tI (0:Int)), AV.t (tI (0:Int)), AV.t (tI (0:Int)), AV.t (Tree.sl (2:Nat) []), AV.t (tI (0:Int)), AV.t (tI (0:Int))]])) (again14 ([AV.t (Tree.bool (decide (a10
  > a3)))], [AObj.box [AV.t (tI (0:Int)), AV.t (tI (0:Int)), AV.t (tI (0:Int)), AV.t (tI (0:Int)), AV.t (tI (0:Int)), AV.t (tI (0:Int)), AV.t (tI (0:Int)), AV.t (tI (0:Int)), AV.t (Tree.str
  (ByteArray.mk #[])), AV.t (tI (0:Int)), AV.t (tI (0:Int)), AV.t (tI (0:Int)), AV.t (Tree.sl (2:Nat) []), AV.t (tI (0:Int)), AV.t (tI (0:Int))]]))))))) none) none)) none) none := by kernel_rfl

noncomputable def J12_1 (n : Nat) (a7 : Int) (a8 : ByteArray) (a0 : Int) (a1 : Int) (a2 : Int) (a3 : Int) (a4 : Int) (a5 : Int) (a6 : Int) (a10 : Int) (a9 : Int) (p14 : List AV × Heap) : Option (List Tree) :=
  cnd (vB p14 0 = true) (some [tI (0:Int), tI (0:Int), tI (0:Int), tI (0:Int), tI (0:Int), tI (0:Int), tI (0:Int), tI (0:Int), Tree.str (ByteArray.mk #[]), tI (0:Int), tI (0:Int), tI (0:Int), Tree.sl
  (2:Nat) [], tI (0:Int), tI (0:Int), Tree.sl (9:Nat) [], tI (2:Int)]) (Option.bind (apure C n (39:Nat) [tI a7, tI (1:Int), Tree.str a8, Tree.sl (2:Nat) [[tI (0:Int), tI ((ByteArray.size
  a8:Nat):Int)]]]) fun y16 => cnd (List.length y16 = (2:Nat)) (cnd (okL 8 y16 0) (cnd (okI y16 1) (Option.bind (apure C n (40:Nat) [tI a0, tI a1, tI a2, tI a3, tI a4, tI a5, tI a6, tI a7, Tree.str a8,
  tI a10, tI (0:Int), tI (0:Int), Tree.sl (2:Nat) [], tI (0:Int), tI (0:Int), Tree.sl (8:Nat) (gL y16 0), tI a9]) fun y17 => cnd (List.length y17 = (16:Nat)) (cnd (okI y17 0) (cnd (okI y17 1) (cnd (okI
  y17 2) (cnd (okI y17 3) (cnd (okI y17 4) (cnd (okI y17 5) (cnd (okI y17 6) (cnd (okI y17 7) (cnd (okS y17 8) (cnd (okI y17 9) (cnd (okI y17 10) (cnd (okI y17 11) (cnd (okL 2 y17 12) (cnd (okI y17 13)
  (cnd (okI y17 14) (cnd (okL 9 y17 15) (cnd (((gI y17 14) == (3:Int)) = true) (some [tI (0:Int), tI (0:Int), tI (0:Int), tI (0:Int), tI (0:Int), tI (0:Int), tI (0:Int), tI (0:Int), Tree.str
  (ByteArray.mk #[]), tI (0:Int), tI (0:Int), tI (0:Int), Tree.sl (2:Nat) [], tI (0:Int), tI (0:Int), Tree.sl (9:Nat) [], tI (16:Int)]) (some [tI (gI y17 0), tI (gI y17 1), tI (gI y17 2), tI (gI y17 3),
  tI (gI y17 4), tI (gI y17 5), tI (gI y17 6), tI (gI y17 7), Tree.str (gS y17 8), tI (gI y17 9), tI (gI y17 10), tI (gI y17 11), Tree.sl (2:Nat) (gL y17 12), tI (gI y17 13), tI (gI y17 14), Tree.sl
  (9:Nat) (gL y17 15), tI (0:Int)])) none) none) none) none) none) none) none) none) none) none) none) none) none) none) none) none) none) none) none) none)

noncomputable def J12_2 (n : Nat) (a8 : ByteArray) (a7 : Int) (a0 : Int) (a1 : Int) (a2 : Int) (a3 : Int) (a4 : Int) (a5 : Int) (a6 : Int) (a10 : Int) (a9 : Int) (p12 : List AV × Heap) : Option (List Tree) :=
  cnd (vB p12 0 = true) (some [tI (0:Int), tI (0:Int), tI (0:Int), tI (0:Int), tI (0:Int), tI (0:Int), tI (0:Int), tI (0:Int), Tree.str (ByteArray.mk #[]), tI (0:Int), tI (0:Int), tI (0:Int), Tree.sl
  (2:Nat) [], tI (0:Int), tI (0:Int), Tree.sl (9:Nat) [], tI (2:Int)]) (cnd ((((ByteArray.size a8:Nat):Int) == (0:Int)) = true) (some [tI (0:Int), tI (0:Int), tI (0:Int), tI (0:Int), tI (0:Int), tI
  (0:Int), tI (0:Int), tI (0:Int), Tree.str (ByteArray.mk #[]), tI (0:Int), tI (0:Int), tI (0:Int), Tree.sl (2:Nat) [], tI (0:Int), tI (0:Int), Tree.sl (9:Nat) [], tI (20:Int)]) (cnd (decide
  (((ByteArray.size a8:Nat):Int) > (65536:Int)) = true) (some [tI (0:Int), tI (0:Int), tI (0:Int), tI (0:Int), tI (0:Int), tI (0:Int), tI (0:Int), tI (0:Int), Tree.str (ByteArray.mk #[]), tI (0:Int), tI
  (0:Int), tI (0:Int), Tree.sl (2:Nat) [], tI (0:Int), tI (0:Int), Tree.sl (9:Nat) [], tI (4:Int)]) (join (fun (p14 : List AV × Heap) => J12_1 n a7 a8 a0 a1 a2 a3 a4 a5 a6 a10 a9 p14) fun (again15 : _ →
  Option (List Tree)) => cnd (decide (a9 < a2) = true) (again15 ([AV.t (Tree.bool true)], [AObj.box [AV.t (tI (cI p12 0 0)), AV.t (tI (cI p12 0 1)), AV.t (tI (cI p12 0 2)), AV.t (tI (cI p12 0 3)), AV.t
  (tI (cI p12 0 4)), AV.t (tI (cI p12 0 5)), AV.t (tI (cI p12 0 6)), AV.t (tI (cI p12 0 7)), AV.t (Tree.str (cS p12 0 8)), AV.t (tI (cI p12 0 9)), AV.t (tI (cI p12 0 10)), AV.t (tI (cI p12 0 11)), AV.t
  (Tree.sl (2:Nat) (cL p12 0 12)), AV.t (tI (cI p12 0 13)), AV.t (tI (cI p12 0 14))]])) (cnd (decide (a10 < a9) = true) (again15 ([AV.t (Tree.bool true)], [AObj.box [AV.t (tI (cI p12 0 0)), AV.t (tI (cI
  p12 0 1)), AV.t (tI (cI p12 0 2)), AV.t (tI (cI p12 0 3)), AV.t (tI (cI p12 0 4)), AV.t (tI (cI p12 0 5)), AV.t (tI (cI p12 0 6)), AV.t (tI (cI p12 0 7)), AV.t (Tree.str (cS p12 0 8)), AV.t (tI (cI
  p12 0 9)), AV.t (tI (cI p12 0 10)), AV.t (tI (cI p12 0 11)), AV.t (Tree.sl (2:Nat) (cL p12 0 12)), AV.t (tI (cI p12 0 13)), AV.t (tI (cI p12 0 14))]])) (again15 ([AV.t (Tree.bool (decide (a10 >
  a3)))], [AObj.box [AV.t (tI (cI p12 0 0)), AV.t (tI (cI p12 0 1)), AV.t (tI (cI p12 0 2)), AV.t (tI (cI p12 0 3)), AV.t (tI (cI p12 0 4)), AV.t (tI (cI p12 0 5)), AV.t (tI (cI p12 0 6)), AV.t (tI (cI
  p12 0 7)), AV.t (Tree.str (cS p12 0 8)), AV.t (tI (cI p12 0 9)), AV.t (tI (cI p12 0 10)), AV.t (tI (cI p12 0 11)), AV.t (Tree.sl (2:Nat) (cL p12 0 12)), AV.t (tI (cI p12 0 13)), AV.t (tI (cI p12 0
  14))]]))))))
theorem e12 (n : Nat) (a0 : Int) (a1 : Int) (a2 : Int) (a3 : Int) (a4 : Int) (a5 : Int) (a6 : Int) (a7 : Int) (a8 : ByteArray) (a9 : Int) (a10 : Int) : apure C (n + 1) 12 [tI a0, tI a1, tI a2, tI a3, tI a4, tI a5, tI a6, tI a7, Tree.str a8, tI a9, tI a10] =
  Option.bind (apure C n (38:Nat) [tI a0, tI a1, tI a2, tI a3, tI a4, tI a5, tI a6]) fun y11 => cnd (List.length y11 = (1:Nat)) (cnd (okI y11 0) (cnd (((gI y11 0) != (0:Int)) = true) (some [tI (0:Int),
  tI (0:Int), tI (0:Int), tI (0:Int), tI (0:Int), tI (0:Int), tI (0:Int), tI (0:Int), Tree.str (ByteArray.mk #[]), tI (0:Int), tI (0:Int), tI (0:Int), Tree.sl (2:Nat) [], tI (0:Int), tI (0:Int), Tree.sl
  (9:Nat) [], tI (1:Int)]) (join (fun (p12 : List AV × Heap) => J12_2 n a8 a7 a0 a1 a2 a3 a4 a5 a6 a10 a9 p12) fun (again13 : _ → Option (List Tree)) => cnd (decide (a7 < (0:Int)) = true) (again13
  ([AV.t (Tree.bool true)], [AObj.box [AV.t (tI (0:Int)), AV.t (tI (0:Int)), AV.t (tI (0:Int)), AV.t (tI (0:Int)), AV.t (tI (0:Int)), AV.t (tI (0:Int)), AV.t (tI (0:Int)), AV.t (tI (0:Int)), AV.t
  (Tree.str (ByteArray.mk #[])), AV.t (tI (0:Int)), AV.t (tI (0:Int)), AV.t (tI (0:Int)), AV.t (Tree.sl (2:Nat) []), AV.t (tI (0:Int)), AV.t (tI (0:Int))]])) (again13 ([AV.t (Tree.bool (decide (a7 >
  (1099511627776:Int))))], [AObj.box [AV.t (tI (0:Int)), AV.t (tI (0:Int)), AV.t (tI (0:Int)), AV.t (tI (0:Int)), AV.t (tI (0:Int)), AV.t (tI (0:Int)), AV.t (tI (0:Int)), AV.t (tI (0:Int)), AV.t
  (Tree.str (ByteArray.mk #[])), AV.t (tI (0:Int)), AV.t (tI (0:Int)), AV.t (tI (0:Int)), AV.t (Tree.sl (2:Nat) []), AV.t (tI (0:Int)), AV.t (tI (0:Int))]])))) none) none := by kernel_rfl

theorem e13 (n : Nat) (a0 : Int) (a1 : Int) (a2 : Int) (a3 : Int) (a4 : Int) (a5 : Int) (a6 : Int) (a7 : Int) (a8 : ByteArray) (a9 : Int) (a10 : Int) (a11 : Int) (a12 : List (List Tree)) (a13 : Int) (a14 : Int) (a15 : Int) (a16 : Int) (a17 : Int) (a18 : Int) (a19 : Int) (a20 : Int) (a21 : Int) (a22 : Int) (a23 : ByteArray) (a24 : Int) (a25 : Int) (a26 : Int) (a27 : List (List Tree)) (a28 : Int) (a29 : Int) : apure C (n + 1) 13 [tI a0, tI a1, tI a2, tI a3, tI a4, tI a5, tI a6, tI a7, Tree.str a8, tI a9, tI a10, tI a11, Tree.sl (2:Nat) a12, tI a13, tI a14, tI a15, tI a16, tI a17, tI a18, tI a19, tI a20, tI a21, tI a22, Tree.str a23, tI a24, tI a25, tI a26, Tree.sl (2:Nat) a27, tI a28, tI a29] =
  cnd ((((((((a0 == a15) && (a1 == a16)) && (a2 == a17)) && (a3 == a18)) && (a4 == a19)) && (a5 == a20)) && (a6 == a21)) = true) (cnd ((a7 == a22) = true) (cnd ((a8 == a23) = true) (cnd ((a9 == a24) =
  true) (cnd ((a10 == a25) = true) (cnd ((a11 == a26) = true) (Option.bind (apure C n (41:Nat) [Tree.sl (2:Nat) a12, Tree.sl (2:Nat) a27]) fun y32 => cnd (List.length y32 = (1:Nat)) (cnd (okB y32 0)
  (cnd (gB y32 0 = true) (cnd ((a13 == a28) = true) (some [Tree.bool (a14 == a29)]) (some [Tree.bool false])) (some [Tree.bool false])) none) none) (some [Tree.bool false])) (some [Tree.bool false]))
  (some [Tree.bool false])) (some [Tree.bool false])) (some [Tree.bool false])) (some [Tree.bool false]) := by kernel_rfl

noncomputable def L14_1 (n : Nat) (a0 : List (List Tree)) (a1 : List (List Tree)) (p2 : List AV × Heap) (again3 : (List AV × Heap) → Option (List Tree)) : Option (List Tree) :=
  cnd (decide (vI p2 0 < ((List.length a0:Nat):Int)) = true) (cnd ((9:Nat) = (9:Nat) ∧ (0:Int) ≤ vI p2 0) (Option.bind a0[Int.toNat (vI p2 0)]? fun y6 => cnd (okI y6 0) (cnd ((9:Nat) = (9:Nat) ∧ (0:Int)
  ≤ vI p2 0) (Option.bind a1[Int.toNat (vI p2 0)]? fun y7 => cnd (okI y7 0) (cnd (((gI y6 0) != (gI y7 0)) = true) (some [Tree.bool false]) (cnd ((9:Nat) = (9:Nat) ∧ (0:Int) ≤ vI p2 0) (Option.bind
  a0[Int.toNat (vI p2 0)]? fun y8 => cnd (okI y8 1) (cnd (okI y8 2) (cnd (okI y8 3) (cnd (okI y8 4) (cnd (okI y8 5) (cnd (okB y8 6) (cnd (okS y8 7) (cnd (okL 2 y8 8) (cnd ((9:Nat) = (9:Nat) ∧ (0:Int) ≤
  vI p2 0) (Option.bind a1[Int.toNat (vI p2 0)]? fun y9 => cnd (okI y9 1) (cnd (okI y9 2) (cnd (okI y9 3) (cnd (okI y9 4) (cnd (okI y9 5) (cnd (okB y9 6) (cnd (okS y9 7) (cnd (okL 2 y9 8) (Option.bind
  (apure C n (23:Nat) [tI (gI y8 1), tI (gI y8 2), tI (gI y8 3), tI (gI y8 4), tI (gI y8 5), Tree.bool (gB y8 6), Tree.str (gS y8 7), Tree.sl (2:Nat) (gL y8 8), tI (gI y9 1), tI (gI y9 2), tI (gI y9 3),
  tI (gI y9 4), tI (gI y9 5), Tree.bool (gB y9 6), Tree.str (gS y9 7), Tree.sl (2:Nat) (gL y9 8)]) fun y10 => cnd (List.length y10 = (1:Nat)) (cnd (okB y10 0) (cnd ((!(gB y10 0)) = true) (some
  [Tree.bool false]) (again3 ([AV.t (tI (w64 ((vI p2 0) + (1:Int))))], []))) none) none) none) none) none) none) none) none) none) none) none) none) none) none) none) none) none) none) none) none))
  none) none) none) none) (some [Tree.bool true])
theorem e14 (n : Nat) (a0 : List (List Tree)) (a1 : List (List Tree)) : apure C (n + 1) 14 [Tree.sl (9:Nat) a0, Tree.sl (9:Nat) a1] =
  cnd ((((List.length a0:Nat):Int) != ((List.length a1:Nat):Int)) = true) (some [Tree.bool false]) (loopIter (fun (p2 : List AV × Heap) (again3 : _ → Option (List Tree)) => L14_1 n a0 a1 p2 again3) n
  ([AV.t (tI (0:Int))], [])) := by kernel_rfl

theorem e15 (n : Nat) (a0 : Int) (a1 : Int) (a2 : Int) (a3 : Int) (a4 : Int) (a5 : Int) (a6 : Int) (a7 : Int) (a8 : ByteArray) (a9 : Int) (a10 : Int) (a11 : Int) (a12 : List (List Tree)) (a13 : Int) (a14 : Int) : apure C (n + 1) 15 [tI a0, tI a1, tI a2, tI a3, tI a4, tI a5, tI a6, tI a7, Tree.str a8, tI a9, tI a10, tI a11, Tree.sl (2:Nat) a12, tI a13, tI a14] =
  cnd (decide (((ByteArray.size a8:Nat):Int) > (200:Int)) = true) (some [Tree.bool true]) (some [Tree.bool (decide (((List.length a12:Nat):Int) > (30:Int)))]) := by kernel_rfl

theorem e16 (n : Nat) (a0 : Int) (a1 : Int) (a2 : Int) (a3 : Int) (a4 : Int) (a5 : Bool) (a6 : ByteArray) (a7 : List (List Tree)) : apure C (n + 1) 16 [tI a0, tI a1, tI a2, tI a3, tI a4, Tree.bool a5, Tree.str a6, Tree.sl (2:Nat) a7] =
  cnd (decide (((ByteArray.size a6:Nat):Int) > (40:Int)) = true) (some [Tree.bool true]) (cnd (decide (((List.length a7:Nat):Int) > (60:Int)) = true) (cnd (decide (((List.length a7:Nat):Int) ≤
  (1000:Int)) = true) (some [Tree.bool true]) (some [Tree.bool (decide (((List.length a7:Nat):Int) > (1100:Int)))])) (some [Tree.bool (decide (((List.length a7:Nat):Int) > (1100:Int)))])) := by kernel_rfl

noncomputable def J17_1 (n : Nat) (a0 : Int) (a1 : Int) (a2 : Int) (a3 : Int) (a4 : Int) (a5 : Int) (a6 : Int) (a7 : Int) (a8 : ByteArray) (a9 : Int) (a10 : Int) (a11 : Int) (a12 : List (List Tree)) (a13 : Int) (a14 : Int) (a15 : Int) (a16 : Int) (a17 : Int) (a18 : Int) (a19 : Int) (a20 : Int) (a21 : Bool) (a22 : ByteArray) (a23 : List (List Tree)) (p29 : List AV × Heap) : Option (List Tree) :=
  cnd (vB p29 0 = true) (some [tI a0, tI a1, tI a2, tI a3, tI a4, tI a5, tI a6, tI a7, Tree.str a8, tI a9, tI a10, tI a11, Tree.sl (2:Nat) a12, tI a13, tI a14, Tree.sl (9:Nat) [], tI (0:Int)])
  (Option.bind (apure C n (66:Nat) [tI a0, tI a1, tI a2, tI a3, tI a4, tI a5, tI a6, tI a7, Tree.str a8, tI a9, tI a10, tI a11, Tree.sl (2:Nat) a12, tI a13, tI a14, tI a15, tI a16, tI a17, tI a18, tI
  a19, tI a20, Tree.bool a21, Tree.str a22, Tree.sl (2:Nat) a23]) fun y31 => cnd (List.length y31 = (16:Nat)) (cnd (okI y31 0) (cnd (okI y31 1) (cnd (okI y31 2) (cnd (okI y31 3) (cnd (okI y31 4) (cnd
  (okI y31 5) (cnd (okI y31 6) (cnd (okI y31 7) (cnd (okS y31 8) (cnd (okI y31 9) (cnd (okI y31 10) (cnd (okI y31 11) (cnd (okL 2 y31 12) (cnd (okI y31 13) (cnd (okI y31 14) (cnd (okL 9 y31 15) (some
  [tI (gI y31 0), tI (gI y31 1), tI (gI y31 2), tI (gI y31 3), tI (gI y31 4), tI (gI y31 5), tI (gI y31 6), tI (gI y31 7), Tree.str (gS y31 8), tI (gI y31 9), tI (gI y31 10), tI (gI y31 11), Tree.sl
  (2:Nat) (gL y31 12), tI (gI y31 13), tI (gI y31 14), Tree.sl (9:Nat) (gL y31 15), tI (0:Int)]) none) none) none) none) none) none) none) none) none) none) none) none) none) none) none) none) none)

noncomputable def J17_2 (n : Nat) (a0 : Int) (a1 : Int) (a2 : Int) (a3 : Int) (a4 : Int) (a5 : Int) (a6 : Int) (a7 : Int) (a8 : ByteArray) (a9 : Int) (a10 : Int) (a11 : Int) (a12 : List (List Tree)) (a13 : Int) (a14 : Int) (a15 : Int) (a16 : Int) (a17 : Int) (a18 : Int) (a19 : Int) (a20 : Int) (a21 : Bool) (a22 : ByteArray) (a23 : List (List Tree)) (p32 : List AV × Heap) : Option (List Tree) :=
  cnd (vB p32 0 = true) (some [tI a0, tI a1, tI a2, tI a3, tI a4, tI a5, tI a6, tI a7, Tree.str a8, tI a9, tI a10, tI a11, Tree.sl (2:Nat) a12, tI a13, tI a14, Tree.sl (9:Nat) [], tI (0:Int)])
  (Option.bind (apure C n (68:Nat) [tI a0, tI a1, tI a2, tI a3, tI a4, tI a5, tI a6, tI a7, Tree.str a8, tI a9, tI a10, tI a11, Tree.sl (2:Nat) a12, tI a13, tI a14, tI a15, tI a16, tI a17, tI a18, tI
  a19, tI a20, Tree.bool a21, Tree.str a22, Tree.sl (2:Nat) a23]) fun y34 => cnd (List.length y34 = (16:Nat)) (cnd (okI y34 0) (cnd (okI y34 1) (cnd (okI y34 2) (cnd (okI y34 3) (cnd (okI y34 4) (cnd
  (okI y34 5) (cnd (okI y34 6) (cnd (okI y34 7) (cnd (okS y34 8) (cnd (okI y34 9) (cnd (okI y34 10) (cnd (okI y34 11) (cnd (okL 2 y34 12) (cnd (okI y34 13) (cnd (okI y34 14) (cnd (okL 9 y34 15) (some
  [tI (gI y34 0), tI (gI y34 1), tI (gI y34 2), tI (gI y34 3), tI (gI y34 4), tI (gI y34 5), tI (gI y34 6), tI (gI y34 7), Tree.str (gS y34 8), tI (gI y34 9), tI (gI y34 10), tI (gI y34 11), Tree.sl
  (2:Nat) (gL y34 12), tI (gI y34 13), tI (gI y34 14), Tree.sl (9:Nat) (gL y34 15), tI (0:Int)]) none) none) none) none) none) none) none) none) none) none) none) none) none) none) none) none) none)

noncomputable def J17_3 (n : Nat) (a15 : Int) (a10 : Int) (a16 : Int) (a0 : Int) (a1 : Int) (a2 : Int) (a3 : Int) (a4 : Int) (a5 : Int) (a6 : Int) (a7 : Int) (a8 : ByteArray) (a9 : Int) (a11 : Int) (a12 : List (List Tree)) (a13 : Int) (a14 : Int) (a17 : Int) (a18 : Int) (a19 : Int) (a20 : Int) (a21 : Bool) (a22 : ByteArray) (a23 : List (List Tree)) (p24 : List AV × Heap) : Option (List Tree) :=
  cnd (vB p24 0 = true) (some [tI (0:Int), tI (0:Int), tI (0:Int), tI (0:Int), tI (0:Int), tI (0:Int), tI (0:Int), tI (0:Int), Tree.str (ByteArray.mk #[]), tI (0:Int), tI (0:Int), tI (0:Int), Tree.sl
  (2:Nat) [], tI (0:Int), tI (0:Int), Tree.sl (9:Nat) [], tI (1:Int)]) (Option.bind (apure C n (35:Nat) [tI a15, tI a10, tI (2199023255552:Int)]) fun y28 => cnd (List.length y28 = (1:Nat)) (cnd (okB y28
  0) (cnd ((!(gB y28 0)) = true) (some [tI (0:Int), tI (0:Int), tI (0:Int), tI (0:Int), tI (0:Int), tI (0:Int), tI (0:Int), tI (0:Int), Tree.str (ByteArray.mk #[]), tI (0:Int), tI (0:Int), tI (0:Int),
  Tree.sl (2:Nat) [], tI (0:Int), tI (0:Int), Tree.sl (9:Nat) [], tI (2:Int)]) (cnd (a16 = (2:Int)) (join (fun (p29 : List AV × Heap) => J17_1 n a0 a1 a2 a3 a4 a5 a6 a7 a8 a9 a10 a11 a12 a13 a14 a15 a16
  a17 a18 a19 a20 a21 a22 a23 p29) fun (again30 : _ → Option (List Tree)) => cnd ((a14 != (1:Int)) = true) (again30 ([AV.t (Tree.bool true)], [AObj.box [AV.t (tI (cI p24 0 0)), AV.t (tI (cI p24 0 1)),
  AV.t (tI (cI p24 0 2)), AV.t (tI (cI p24 0 3)), AV.t (tI (cI p24 0 4)), AV.t (tI (cI p24 0 5)), AV.t (tI (cI p24 0 6)), AV.t (tI (cI p24 0 7)), AV.t (Tree.str (cS p24 0 8)), AV.t (tI (cI p24 0 9)),
  AV.t (tI (cI p24 0 10)), AV.t (tI (cI p24 0 11)), AV.t (Tree.sl (2:Nat) (cL p24 0 12)), AV.t (tI (cI p24 0 13)), AV.t (tI (cI p24 0 14))]])) (again30 ([AV.t (Tree.bool (a17 != a7))], [AObj.box [AV.t
  (tI (cI p24 0 0)), AV.t (tI (cI p24 0 1)), AV.t (tI (cI p24 0 2)), AV.t (tI (cI p24 0 3)), AV.t (tI (cI p24 0 4)), AV.t (tI (cI p24 0 5)), AV.t (tI (cI p24 0 6)), AV.t (tI (cI p24 0 7)), AV.t
  (Tree.str (cS p24 0 8)), AV.t (tI (cI p24 0 9)), AV.t (tI (cI p24 0 10)), AV.t (tI (cI p24 0 11)), AV.t (Tree.sl (2:Nat) (cL p24 0 12)), AV.t (tI (cI p24 0 13)), AV.t (tI (cI p24 0 14))]]))) (cnd (a16
  = (3:Int)) (join (fun (p32 : List AV × Heap) => J17_2 n a0 a1 a2 a3 a4 a5 a6 a7 a8 a9 a10 a11 a12 a13 a14 a15 a16 a17 a18 a19 a20 a21 a22 a23 p32) fun (again33 : _ → Option (List Tree)) => cnd ((a14
  != (1:Int)) = true) (again33 ([AV.t (Tree.bool true)], [AObj.box [AV.t (tI (cI p24 0 0)), AV.t (tI (cI p24 0 1)), AV.t (tI (cI p24 0 2)), AV.t (tI (cI p24 0 3)), AV.t (tI (cI p24 0 4)), AV.t (tI (cI
  p24 0 5)), AV.t (tI (cI p24 0 6)), AV.t (tI (cI p24 0 7)), AV.t (Tree.str (cS p24 0 8)), AV.t (tI (cI p24 0 9)), AV.t (tI (cI p24 0 10)), AV.t (tI (cI p24 0 11)), AV.t (Tree.sl (2:Nat) (cL p24 0 12)),
  AV.t (tI (cI p24 0 13)), AV.t (tI (cI p24 0 14))]])) (again33 ([AV.t (Tree.bool (a17 != a7))], [AObj.box [AV.t (tI (cI p24 0 0)), AV.t (tI (cI p24 0 1)), AV.t (tI (cI p24 0 2)), AV.t (tI (cI p24 0
  3)), AV.t (tI (cI p24 0 4)), AV.t (tI (cI p24 0 5)), AV.t (tI (cI p24 0 6)), AV.t (tI (cI p24 0 7)), AV.t (Tree.str (cS p24 0 8)), AV.t (tI (cI p24 0 9)), AV.t (tI (cI p24 0 10)), AV.t (tI (cI p24 0
  11)), AV.t (Tree.sl (2:Nat) (cL p24 0 12)), AV.t (tI (cI p24 0 13)), AV.t (tI (cI p24 0 14))]]))) (some [tI a0, tI a1, tI a2, tI a3, tI a4, tI a5, tI a6, tI a7, Tree.str a8, tI a9, tI a10, tI a11,
  Tree.sl (2:Nat) a12, tI a13, tI a14, Tree.sl (9:Nat) [], tI (0:Int)])))) none) none)
theorem e17 (n : Nat) (a0 : Int) (a1 : Int) (a2 : Int) (a3 : Int) (a4 : Int) (a5 : Int) (a6 : Int) (a7 : Int) (a8 : ByteArray) (a9 : Int) (a10 : Int) (a11 : Int) (a12 : List (List Tree)) (a13 : Int) (a14 : Int) (a15 : Int) (a16 : Int) (a17 : Int) (a18 : Int) (a19 : Int) (a20 : Int) (a21 : Bool) (a22 : ByteArray) (a23 : List (List Tree)) : apure C (n + 1) 17 [tI a0, tI a1, tI a2, tI a3, tI a4, tI a5, tI a6, tI a7, Tree.str a8, tI a9, tI a10, tI a11, Tree.sl (2:Nat) a12, tI a13, tI a14, tI a15, tI a16, tI a17, tI a18, tI a19, tI a20, Tree.bool a21, Tree.str a22, Tree.sl (2:Nat) a23] =
  join (fun (p24 : List AV × Heap) => J17_3 n a15 a10 a16 a0 a1 a2 a3 a4 a5 a6 a7 a8 a9 a11 a12 a13 a14 a17 a18 a19 a20 a21 a22 a23 p24) fun (again25 : _ → Option (List Tree)) => Option.bind (apure C n
  (19:Nat) [tI a0, tI a1, tI a2, tI a3, tI a4, tI a5, tI a6, tI a7, Tree.str a8, tI a9, tI a10, tI a11, Tree.sl (2:Nat) a12, tI a13, tI a14]) fun y26 => cnd (List.length y26 = (1:Nat)) (cnd (okI y26 0)
  (cnd (((gI y26 0) != (0:Int)) = true) (again25 ([AV.t (Tree.bool true)], [AObj.box [AV.t (tI (0:Int)), AV.t (tI (0:Int)), AV.t (tI (0:Int)), AV.t (tI (0:Int)), AV.t (tI (0:Int)), AV.t (tI (0:Int)),
  AV.t (tI (0:Int)), AV.t (tI (0:Int)), AV.t (Tree.str (ByteArray.mk #[])), AV.t (tI (0:Int)), AV.t (tI (0:Int)), AV.t (tI (0:Int)), AV.t (Tree.sl (2:Nat) []), AV.t (tI (0:Int)), AV.t (tI (0:Int))]]))
  (Option.bind (apure C n (20:Nat) [tI a16, tI a17, tI a18, tI a19, tI a20, Tree.bool a21, Tree.str a22, Tree.sl (2:Nat) a23]) fun y27 => cnd (List.length y27 = (1:Nat)) (cnd (okI y27 0) (again25 ([AV.t
  (Tree.bool ((gI y27 0) != (0:Int)))], [AObj.box [AV.t (tI (0:Int)), AV.t (tI (0:Int)), AV.t (tI (0:Int)), AV.t (tI (0:Int)), AV.t (tI (0:Int)), AV.t (tI (0:Int)), AV.t (tI (0:Int)), AV.t (tI (0:Int)),
  AV.t (Tree.str (ByteArray.mk #[])), AV.t (tI (0:Int)), AV.t (tI (0:Int)), AV.t (tI (0:Int)), AV.t (Tree.sl (2:Nat) []), AV.t (tI (0:Int)), AV.t (tI (0:Int))]])) none) none)) none) none := by kernel_rfl

noncomputable def J18_1 (n : Nat) (a23 : List (List Tree)) (a15 : Int) (p32 : List AV × Heap) : Option (List Tree) :=
  cnd (vB p32 0 = true) (some [tI (cI p32 0 0), tI (cI p32 0 1), tI (cI p32 0 2), tI (cI p32 0 3), tI (cI p32 0 4), tI (cI p32 0 5), tI (cI p32 0 6), tI (cI p32 0 7), Tree.str (cS p32 0 8), tI (cI p32 0
  9), tI (cI p32 0 10), tI (cI p32 0 11), Tree.sl (2:Nat) (cL p32 0 12), tI (cI p32 0 13), tI (cI p32 0 14), Tree.sl (9:Nat) [], tI (0:Int)]) (Option.bind (apure C n (44:Nat) [Tree.sl (2:Nat) (cL p32 0
  12), Tree.sl (2:Nat) a23]) fun y34 => cnd (List.length y34 = (2:Nat)) (cnd (okL 2 y34 0) (cnd (okI y34 1) (cnd (((gI y34 1) != (0:Int)) = true) (some [tI (cI p32 0 0), tI (cI p32 0 1), tI (cI p32 0
  2), tI (cI p32 0 3), tI (cI p32 0 4), tI (cI p32 0 5), tI (cI p32 0 6), tI (cI p32 0 7), Tree.str (cS p32 0 8), tI (cI p32 0 9), tI (cI p32 0 10), tI (cI p32 0 11), Tree.sl (2:Nat) (cL p32 0 12), tI
  (cI p32 0 13), tI (cI p32 0 14), Tree.sl (9:Nat) [], tI (0:Int)]) (Option.bind (apure C n (45:Nat) [tI (cI p32 0 0), tI (cI p32 0 1), tI (cI p32 0 2), tI (cI p32 0 3), tI (cI p32 0 4), tI (cI p32 0
  5), tI (cI p32 0 6), tI (cI p32 0 7), Tree.str (cS p32 0 8), tI (cI p32 0 9), tI (cI p32 0 10), tI (cI p32 0 11), Tree.sl (2:Nat) (gL y34 0), tI (cI p32 0 13), tI (cI p32 0 14)]) fun y35 => cnd
  (List.length y35 = (1:Nat)) (cnd (okL 2 y35 0) (cnd ((((List.length (gL y35 0):Nat):Int) == (0:Int)) = true) (some [tI (cI p32 0 0), tI (cI p32 0 1), tI (cI p32 0 2), tI (cI p32 0 3), tI (cI p32 0 4),
  tI (cI p32 0 5), tI (cI p32 0 6), tI (cI p32 0 7), Tree.str (cS p32 0 8), tI (cI p32 0 9), tI (cI p32 0 10), tI (cI p32 0 11), Tree.sl (2:Nat) (gL y34 0), tI (0:Int), tI (2:Int), Tree.sl (9:Nat) [],
  tI (0:Int)]) (cnd (((cI p32 0 11) == (1099511627776:Int)) = true) (some [tI (cI p32 0 0), tI (cI p32 0 1), tI (cI p32 0 2), tI (cI p32 0 3), tI (cI p32 0 4), tI (cI p32 0 5), tI (cI p32 0 6), tI (cI
  p32 0 7), Tree.str (cS p32 0 8), tI (cI p32 0 9), tI (cI p32 0 10), tI (cI p32 0 11), Tree.sl (2:Nat) (gL y34 0), tI (0:Int), tI (3:Int), Tree.sl (9:Nat) [], tI (0:Int)]) (Option.bind (apure C n
  (39:Nat) [tI (cI p32 0 7), tI (w64 ((cI p32 0 11) + (1:Int))), Tree.str (cS p32 0 8), Tree.sl (2:Nat) (gL y35 0)]) fun y36 => cnd (List.length y36 = (2:Nat)) (cnd (okL 8 y36 0) (cnd (okI y36 1)
  (Option.bind (apure C n (40:Nat) [tI (cI p32 0 0), tI (cI p32 0 1), tI (cI p32 0 2), tI (cI p32 0 3), tI (cI p32 0 4), tI (cI p32 0 5), tI (cI p32 0 6), tI (cI p32 0 7), Tree.str (cS p32 0 8), tI (cI
  p32 0 9), tI (cI p32 0 10), tI (cI p32 0 11), Tree.sl (2:Nat) (gL y34 0), tI (cI p32 0 13), tI (cI p32 0 14), Tree.sl (8:Nat) (gL y36 0), tI a15]) fun y37 => cnd (List.length y37 = (16:Nat)) (cnd (okI
  y37 0) (cnd (okI y37 1) (cnd (okI y37 2) (cnd (okI y37 3) (cnd (okI y37 4) (cnd (okI y37 5) (cnd (okI y37 6) (cnd (okI y37 7) (cnd (okS y37 8) (cnd (okI y37 9) (cnd (okI y37 10) (cnd (okI y37 11) (cnd
  (okL 2 y37 12) (cnd (okI y37 13) (cnd (okI y37 14) (cnd (okL 9 y37 15) (some [tI (gI y37 0), tI (gI y37 1), tI (gI y37 2), tI (gI y37 3), tI (gI y37 4), tI (gI y37 5), tI (gI y37 6), tI (gI y37 7),
  Tree.str (gS y37 8), tI (gI y37 9), tI (gI y37 10), tI (gI y37 11), Tree.sl (2:Nat) (gL y37 12), tI (gI y37 13), tI (gI y37 14), Tree.sl (9:Nat) (gL y37 15), tI (0:Int)]) none) none) none) none) none)
  none) none) none) none) none) none) none) none) none) none) none) none) none) none) none))) none) none)) none) none) none)

noncomputable def J18_2 (n : Nat) (a16 : Int) (a23 : List (List Tree)) (a15 : Int) (a18 : Int) (a20 : Int) (p30 : List AV × Heap) : Option (List Tree) :=
  cnd (vB p30 0 = true) (some [tI (cI p30 0 0), tI (cI p30 0 1), tI (cI p30 0 2), tI (cI p30 0 3), tI (cI p30 0 4), tI (cI p30 0 5), tI (cI p30 0 6), tI (cI p30 0 7), Tree.str (cS p30 0 8), tI (cI p30 0
  9), tI (cI p30 0 10), tI (cI p30 0 11), Tree.sl (2:Nat) (cL p30 0 12), tI (cI p30 0 13), tI (cI p30 0 14), Tree.sl (9:Nat) [], tI (0:Int)]) (cnd ((a16 == (3:Int)) = true) (some [tI (cI p30 0 0), tI
  (cI p30 0 1), tI (cI p30 0 2), tI (cI p30 0 3), tI (cI p30 0 4), tI (cI p30 0 5), tI (cI p30 0 6), tI (cI p30 0 7), Tree.str (cS p30 0 8), tI (cI p30 0 9), tI (cI p30 0 10), tI (cI p30 0 11), Tree.sl
  (2:Nat) (cL p30 0 12), tI (0:Int), tI (3:Int), Tree.sl (9:Nat) [], tI (0:Int)]) (join (fun (p32 : List AV × Heap) => J18_1 n a23 a15 p32) fun (again33 : _ → Option (List Tree)) => cnd ((a16 !=
  (2:Int)) = true) (again33 ([AV.t (Tree.bool true)], [AObj.box [AV.t (tI (cI p30 0 0)), AV.t (tI (cI p30 0 1)), AV.t (tI (cI p30 0 2)), AV.t (tI (cI p30 0 3)), AV.t (tI (cI p30 0 4)), AV.t (tI (cI p30
  0 5)), AV.t (tI (cI p30 0 6)), AV.t (tI (cI p30 0 7)), AV.t (Tree.str (cS p30 0 8)), AV.t (tI (cI p30 0 9)), AV.t (tI (cI p30 0 10)), AV.t (tI (cI p30 0 11)), AV.t (Tree.sl (2:Nat) (cL p30 0 12)),
  AV.t (tI (cI p30 0 13)), AV.t (tI (cI p30 0 14))], AObj.box [AV.t (tI (cI p30 1 0)), AV.t (tI (cI p30 1 1)), AV.t (tI (cI p30 1 2)), AV.t (tI (cI p30 1 3)), AV.t (tI (cI p30 1 4)), AV.t (tI (cI p30 1
  5)), AV.t (tI (cI p30 1 6)), AV.t (tI (cI p30 1 7)), AV.t (Tree.str (cS p30 1 8)), AV.t (tI (cI p30 1 9)), AV.t (tI (cI p30 1 10)), AV.t (tI (cI p30 1 11)), AV.t (Tree.sl (2:Nat) (cL p30 1 12)), AV.t
  (tI (cI p30 1 13)), AV.t (tI (cI p30 1 14))]])) (cnd ((a18 != (cI p30 0 11)) = true) (again33 ([AV.t (Tree.bool true)], [AObj.box [AV.t (tI (cI p30 0 0)), AV.t (tI (cI p30 0 1)), AV.t (tI (cI p30 0
  2)), AV.t (tI (cI p30 0 3)), AV.t (tI (cI p30 0 4)), AV.t (tI (cI p30 0 5)), AV.t (tI (cI p30 0 6)), AV.t (tI (cI p30 0 7)), AV.t (Tree.str (cS p30 0 8)), AV.t (tI (cI p30 0 9)), AV.t (tI (cI p30 0
  10)), AV.t (tI (cI p30 0 11)), AV.t (Tree.sl (2:Nat) (cL p30 0 12)), AV.t (tI (cI p30 0 13)), AV.t (tI (cI p30 0 14))], AObj.box [AV.t (tI (cI p30 1 0)), AV.t (tI (cI p30 1 1)), AV.t (tI (cI p30 1
  2)), AV.t (tI (cI p30 1 3)), AV.t (tI (cI p30 1 4)), AV.t (tI (cI p30 1 5)), AV.t (tI (cI p30 1 6)), AV.t (tI (cI p30 1 7)), AV.t (Tree.str (cS p30 1 8)), AV.t (tI (cI p30 1 9)), AV.t (tI (cI p30 1
  10)), AV.t (tI (cI p30 1 11)), AV.t (Tree.sl (2:Nat) (cL p30 1 12)), AV.t (tI (cI p30 1 13)), AV.t (tI (cI p30 1 14))]])) (again33 ([AV.t (Tree.bool (a20 != ((ByteArray.size (cS p30 0 8):Nat):Int)))],
  [AObj.box [AV.t (tI (cI p30 0 0)), AV.t (tI (cI p30 0 1)), AV.t (tI (cI p30 0 2)), AV.t (tI (cI p30 0 3)), AV.t (tI (cI p30 0 4)), AV.t (tI (cI p30 0 5)), AV.t (tI (cI p30 0 6)), AV.t (tI (cI p30 0
  7)), AV.t (Tree.str (cS p30 0 8)), AV.t (tI (cI p30 0 9)), AV.t (tI (cI p30 0 10)), AV.t (tI (cI p30 0 11)), AV.t (Tree.sl (2:Nat) (cL p30 0 12)), AV.t (tI (cI p30 0 13)), AV.t (tI (cI p30 0 14))],
  AObj.box [AV.t (tI (cI p30 1 0)), AV.t (tI (cI p30 1 1)), AV.t (tI (cI p30 1 2)), AV.t (tI (cI p30 1 3)), AV.t (tI (cI p30 1 4)), AV.t (tI (cI p30 1 5)), AV.t (tI (cI p30 1 6)), AV.t (tI (cI p30 1
  7)), AV.t (Tree.str (cS p30 1 8)), AV.t (tI (cI p30 1 9)), AV.t (tI (cI p30 1 10)), AV.t (tI (cI p30 1 11)), AV.t (Tree.sl (2:Nat) (cL p30 1 12)), AV.t (tI (cI p30 1 13)), AV.t (tI (cI p30 1
  14))]])))))

noncomputable def J18_3 (n : Nat) (a16 : Int) (a23 : List (List Tree)) (a15 : Int) (a18 : Int) (a20 : Int) (a17 : Int) (p28 : List AV × Heap) : Option (List Tree) :=
  cnd (vB p28 0 = true) (some [tI (0:Int), tI (0:Int), tI (0:Int), tI (0:Int), tI (0:Int), tI (0:Int), tI (0:Int), tI (0:Int), Tree.str (ByteArray.mk #[]), tI (0:Int), tI (0:Int), tI (0:Int), Tree.sl
  (2:Nat) [], tI (0:Int), tI (0:Int), Tree.sl (9:Nat) [], tI (2:Int)]) (join (fun (p30 : List AV × Heap) => J18_2 n a16 a23 a15 a18 a20 p30) fun (again31 : _ → Option (List Tree)) => cnd (((cI p28 0 14)
  != (1:Int)) = true) (again31 ([AV.t (Tree.bool true)], [AObj.box [AV.t (tI (cI p28 0 0)), AV.t (tI (cI p28 0 1)), AV.t (tI (cI p28 0 2)), AV.t (tI (cI p28 0 3)), AV.t (tI (cI p28 0 4)), AV.t (tI (cI
  p28 0 5)), AV.t (tI (cI p28 0 6)), AV.t (tI (cI p28 0 7)), AV.t (Tree.str (cS p28 0 8)), AV.t (tI (cI p28 0 9)), AV.t (tI (cI p28 0 10)), AV.t (tI (cI p28 0 11)), AV.t (Tree.sl (2:Nat) (cL p28 0 12)),
  AV.t (tI (cI p28 0 13)), AV.t (tI (cI p28 0 14))], AObj.box [AV.t (tI (cI p28 1 0)), AV.t (tI (cI p28 1 1)), AV.t (tI (cI p28 1 2)), AV.t (tI (cI p28 1 3)), AV.t (tI (cI p28 1 4)), AV.t (tI (cI p28 1
  5)), AV.t (tI (cI p28 1 6)), AV.t (tI (cI p28 1 7)), AV.t (Tree.str (cS p28 1 8)), AV.t (tI (cI p28 1 9)), AV.t (tI (cI p28 1 10)), AV.t (tI (cI p28 1 11)), AV.t (Tree.sl (2:Nat) (cL p28 1 12)), AV.t
  (tI (cI p28 1 13)), AV.t (tI (cI p28 1 14))]])) (again31 ([AV.t (Tree.bool (a17 != (cI p28 0 7)))], [AObj.box [AV.t (tI (cI p28 0 0)), AV.t (tI (cI p28 0 1)), AV.t (tI (cI p28 0 2)), AV.t (tI (cI p28
  0 3)), AV.t (tI (cI p28 0 4)), AV.t (tI (cI p28 0 5)), AV.t (tI (cI p28 0 6)), AV.t (tI (cI p28 0 7)), AV.t (Tree.str (cS p28 0 8)), AV.t (tI (cI p28 0 9)), AV.t (tI (cI p28 0 10)), AV.t (tI (cI p28 0
  11)), AV.t (Tree.sl (2:Nat) (cL p28 0 12)), AV.t (tI (cI p28 0 13)), AV.t (tI (cI p28 0 14))], AObj.box [AV.t (tI (cI p28 1 0)), AV.t (tI (cI p28 1 1)), AV.t (tI (cI p28 1 2)), AV.t (tI (cI p28 1 3)),
  AV.t (tI (cI p28 1 4)), AV.t (tI (cI p28 1 5)), AV.t (tI (cI p28 1 6)), AV.t (tI (cI p28 1 7)), AV.t (Tree.str (cS p28 1 8)), AV.t (tI (cI p28 1 9)), AV.t (tI (cI p28 1 10)), AV.t (tI (cI p28 1 11)),
  AV.t (Tree.sl (2:Nat) (cL p28 1 12)), AV.t (tI (cI p28 1 13)), AV.t (tI (cI p28 1 14))]])))

noncomputable def J18_4 (n : Nat) (a16 : Int) (a23 : List (List Tree)) (a15 : Int) (a18 : Int) (a20 : Int) (a17 : Int) (p24 : List AV × Heap) : Option (List Tree) :=
  cnd (vB p24 0 = true) (some [tI (0:Int), tI (0:Int), tI (0:Int), tI (0:Int), tI (0:Int), tI (0:Int), tI (0:Int), tI (0:Int), Tree.str (ByteArray.mk #[]), tI (0:Int), tI (0:Int), tI (0:Int), Tree.sl
  (2:Nat) [], tI (0:Int), tI (0:Int), Tree.sl (9:Nat) [], tI (1:Int)]) (join (fun (p28 : List AV × Heap) => J18_3 n a16 a23 a15 a18 a20 a17 p28) fun (again29 : _ → Option (List Tree)) => cnd (decide
  (a15 < cI p24 0 10) = true) (again29 ([AV.t (Tree.bool true)], [AObj.box [AV.t (tI (cI p24 0 0)), AV.t (tI (cI p24 0 1)), AV.t (tI (cI p24 0 2)), AV.t (tI (cI p24 0 3)), AV.t (tI (cI p24 0 4)), AV.t
  (tI (cI p24 0 5)), AV.t (tI (cI p24 0 6)), AV.t (tI (cI p24 0 7)), AV.t (Tree.str (cS p24 0 8)), AV.t (tI (cI p24 0 9)), AV.t (tI (cI p24 0 10)), AV.t (tI (cI p24 0 11)), AV.t (Tree.sl (2:Nat) (cL p24
  0 12)), AV.t (tI (cI p24 0 13)), AV.t (tI (cI p24 0 14))], AObj.box [AV.t (tI (cI p24 1 0)), AV.t (tI (cI p24 1 1)), AV.t (tI (cI p24 1 2)), AV.t (tI (cI p24 1 3)), AV.t (tI (cI p24 1 4)), AV.t (tI
  (cI p24 1 5)), AV.t (tI (cI p24 1 6)), AV.t (tI (cI p24 1 7)), AV.t (Tree.str (cS p24 1 8)), AV.t (tI (cI p24 1 9)), AV.t (tI (cI p24 1 10)), AV.t (tI (cI p24 1 11)), AV.t (Tree.sl (2:Nat) (cL p24 1
  12)), AV.t (tI (cI p24 1 13)), AV.t (tI (cI p24 1 14))]])) (again29 ([AV.t (Tree.bool (decide (a15 > (2199023255552:Int))))], [AObj.box [AV.t (tI (cI p24 0 0)), AV.t (tI (cI p24 0 1)), AV.t (tI (cI
  p24 0 2)), AV.t (tI (cI p24 0 3)), AV.t (tI (cI p24 0 4)), AV.t (tI (cI p24 0 5)), AV.t (tI (cI p24 0 6)), AV.t (tI (cI p24 0 7)), AV.t (Tree.str (cS p24 0 8)), AV.t (tI (cI p24 0 9)), AV.t (tI (cI
  p24 0 10)), AV.t (tI (cI p24 0 11)), AV.t (Tree.sl (2:Nat) (cL p24 0 12)), AV.t (tI (cI p24 0 13)), AV.t (tI (cI p24 0 14))], AObj.box [AV.t (tI (cI p24 1 0)), AV.t (tI (cI p24 1 1)), AV.t (tI (cI p24
  1 2)), AV.t (tI (cI p24 1 3)), AV.t (tI (cI p24 1 4)), AV.t (tI (cI p24 1 5)), AV.t (tI (cI p24 1 6)), AV.t (tI (cI p24 1 7)), AV.t (Tree.str (cS p24 1 8)), AV.t (tI (cI p24 1 9)), AV.t (tI (cI p24 1
  10)), AV.t (tI (cI p24 1 11)), AV.t (Tree.sl (2:Nat) (cL p24 1 12)), AV.t (tI (cI p24 1 13)), AV.t (tI (cI p24 1 14))]])))
theorem e18 (n : Nat) (a0 : Int) (a1 : Int) (a2 : Int) (a3 : Int) (a4 : Int) (a5 : Int) (a6 : Int) (a7 : Int) (a8 : ByteArray) (a9 : Int) (a10 : Int) (a11 : Int) (a12 : List (List Tree)) (a13 : Int) (a14 : Int) (a15 : Int) (a16 : Int) (a17 : Int) (a18 : Int) (a19 : Int) (a20 : Int) (a21 : Bool) (a22 : ByteArray) (a23 : List (List Tree)) : apure C (n + 1) 18 [tI a0, tI a1, tI a2, tI a3, tI a4, tI a5, tI a6, tI a7, Tree.str a8, tI a9, tI a10, tI a11, Tree.sl (2:Nat) a12, tI a13, tI a14, tI a15, tI a16, tI a17, tI a18, tI a19, tI a20, Tree.bool a21, Tree.str a22, Tree.sl (2:Nat) a23] =
  join (fun (p24 : List AV × Heap) => J18_4 n a16 a23 a15 a18 a20 a17 p24) fun (again25 : _ → Option (List Tree)) => Option.bind (apure C n (29:Nat) [tI a0, tI a1, tI a2, tI a3, tI a4, tI a5, tI a6, tI
  a7, Tree.str a8, tI a9, tI a10, tI a11, Tree.sl (2:Nat) a12, tI a13, tI a14]) fun y26 => cnd (List.length y26 = (1:Nat)) (cnd (okI y26 0) (cnd (((gI y26 0) != (0:Int)) = true) (again25 ([AV.t
  (Tree.bool true)], [AObj.box [AV.t (tI a0), AV.t (tI a1), AV.t (tI a2), AV.t (tI a3), AV.t (tI a4), AV.t (tI a5), AV.t (tI a6), AV.t (tI a7), AV.t (Tree.str a8), AV.t (tI a9), AV.t (tI a10), AV.t (tI
  a11), AV.t (Tree.sl (2:Nat) a12), AV.t (tI a13), AV.t (tI a14)], AObj.box [AV.t (tI (0:Int)), AV.t (tI (0:Int)), AV.t (tI (0:Int)), AV.t (tI (0:Int)), AV.t (tI (0:Int)), AV.t (tI (0:Int)), AV.t (tI
  (0:Int)), AV.t (tI (0:Int)), AV.t (Tree.str (ByteArray.mk #[])), AV.t (tI (0:Int)), AV.t (tI (0:Int)), AV.t (tI (0:Int)), AV.t (Tree.sl (2:Nat) []), AV.t (tI (0:Int)), AV.t (tI (0:Int))]]))
  (Option.bind (apure C n (43:Nat) [tI a16, tI a17, tI a18, tI a19, tI a20, Tree.bool a21, Tree.str a22, Tree.sl (2:Nat) a23]) fun y27 => cnd (List.length y27 = (1:Nat)) (cnd (okI y27 0) (again25 ([AV.t
  (Tree.bool ((gI y27 0) != (0:Int)))], [AObj.box [AV.t (tI a0), AV.t (tI a1), AV.t (tI a2), AV.t (tI a3), AV.t (tI a4), AV.t (tI a5), AV.t (tI a6), AV.t (tI a7), AV.t (Tree.str a8), AV.t (tI a9), AV.t
  (tI a10), AV.t (tI a11), AV.t (Tree.sl (2:Nat) a12), AV.t (tI a13), AV.t (tI a14)], AObj.box [AV.t (tI (0:Int)), AV.t (tI (0:Int)), AV.t (tI (0:Int)), AV.t (tI (0:Int)), AV.t (tI (0:Int)), AV.t (tI
  (0:Int)), AV.t (tI (0:Int)), AV.t (tI (0:Int)), AV.t (Tree.str (ByteArray.mk #[])), AV.t (tI (0:Int)), AV.t (tI (0:Int)), AV.t (tI (0:Int)), AV.t (Tree.sl (2:Nat) []), AV.t (tI (0:Int)), AV.t (tI
  (0:Int))]])) none) none)) none) none := by kernel_rfl

noncomputable def J19_1 (n : Nat) (again17 : (List AV × Heap) → Option (List Tree)) (p22 : List AV × Heap) : Option (List Tree) :=
  again17 ([AV.t (Tree.bool (vB p22 0))], [])

noncomputable def J19_2 (n : Nat)  (p16 : List AV × Heap) : Option (List Tree) :=
  cnd ((!(vB p16 0)) = true) (some [tI (19:Int)]) (some [tI (0:Int)])
theorem e19 (n : Nat) (a0 : Int) (a1 : Int) (a2 : Int) (a3 : Int) (a4 : Int) (a5 : Int) (a6 : Int) (a7 : Int) (a8 : ByteArray) (a9 : Int) (a10 : Int) (a11 : Int) (a12 : List (List Tree)) (a13 : Int) (a14 : Int) : apure C (n + 1) 19 [tI a0, tI a1, tI a2, tI a3, tI a4, tI a5, tI a6, tI a7, Tree.str a8, tI a9, tI a10, tI a11, Tree.sl (2:Nat) a12, tI a13, tI a14] =
  Option.bind (apure C n (46:Nat) [tI a0, tI a1, tI a2, tI a3, tI a4, tI a5, tI a6, tI a7, Tree.str a8, tI a9, tI a10, tI a11, Tree.sl (2:Nat) a12, tI a13, tI a14]) fun y15 => cnd (List.length y15 =
  (1:Nat)) (cnd (okI y15 0) (cnd (((gI y15 0) != (0:Int)) = true) (some [tI (gI y15 0)]) (join (fun (p16 : List AV × Heap) => J19_2 n p16) fun (again17 : _ → Option (List Tree)) => cnd ((a14 == (1:Int))
  = true) (Option.bind (apure C n (47:Nat) [tI a0, tI a1, tI a2, tI a3, tI a4, tI a5, tI a6, tI a7, Tree.str a8, tI a9, tI a10, tI a11, Tree.sl (2:Nat) a12, tI a13, tI a14]) fun y20 => cnd (List.length
  y20 = (1:Nat)) (cnd (okB y20 0) (cnd ((!(gB y20 0)) = true) (Option.bind (apure C n (48:Nat) [tI a0, tI a1, tI a2, tI a3, tI a4, tI a5, tI a6, tI a7, Tree.str a8, tI a9, tI a10, tI a11, Tree.sl
  (2:Nat) a12, tI a13, tI a14]) fun y21 => cnd (List.length y21 = (1:Nat)) (cnd (okI y21 0) (again17 ([AV.t (Tree.bool (a13 == (gI y21 0)))], [])) none) none) (again17 ([AV.t (Tree.bool false)], [])))
  none) none) (join (fun (p22 : List AV × Heap) => J19_1 n again17 p22) fun (again23 : _ → Option (List Tree)) => cnd ((a14 == (2:Int)) = true) (Option.bind (apure C n (47:Nat) [tI a0, tI a1, tI a2, tI
  a3, tI a4, tI a5, tI a6, tI a7, Tree.str a8, tI a9, tI a10, tI a11, Tree.sl (2:Nat) a12, tI a13, tI a14]) fun y26 => cnd (List.length y26 = (1:Nat)) (cnd (okB y26 0) (cnd (gB y26 0 = true) (again23
  ([AV.t (Tree.bool (a13 == (0:Int)))], [])) (again23 ([AV.t (Tree.bool false)], []))) none) none) (cnd ((a14 == (3:Int)) = true) (again23 ([AV.t (Tree.bool (a13 == (0:Int)))], [])) (again23 ([AV.t
  (Tree.bool false)], [])))))) none) none := by kernel_rfl

theorem e20 (n : Nat) (a0 : Int) (a1 : Int) (a2 : Int) (a3 : Int) (a4 : Int) (a5 : Bool) (a6 : ByteArray) (a7 : List (List Tree)) : apure C (n + 1) 20 [tI a0, tI a1, tI a2, tI a3, tI a4, Tree.bool a5, Tree.str a6, Tree.sl (2:Nat) a7] =
  Option.bind (apure C n (49:Nat) [tI a0, tI (1:Int), tI (3:Int)]) fun y8 => cnd (List.length y8 = (1:Nat)) (cnd (okB y8 0) (cnd ((!(gB y8 0)) = true) (some [tI (8:Int)]) (cnd ((0:Int) ≤ a0 ∧ a0 <
  (4:Int)) (cnd (a0 = ((3:Nat):Int)) (Option.bind (apure C n (49:Nat) [tI a1, tI (0:Int), tI (1099511627776:Int)]) fun y11 => cnd (List.length y11 = (1:Nat)) (cnd (okB y11 0) (cnd ((!(gB y11 0)) = true)
  (some [tI (2:Int)]) (Option.bind (apure C n (49:Nat) [tI a2, tI (0:Int), tI (1099511627776:Int)]) fun y12 => cnd (List.length y12 = (1:Nat)) (cnd (okB y12 0) (cnd ((!(gB y12 0)) = true) (some [tI
  (2:Int)]) (Option.bind (apure C n (81:Nat) [tI a0, tI a1, tI a2, tI a3, tI a4, Tree.bool a5, Tree.str a6, Tree.sl (2:Nat) a7]) fun y13 => cnd (List.length y13 = (1:Nat)) (cnd (okB y13 0) (cnd ((!(gB
  y13 0)) = true) (some [tI (2:Int)]) (Option.bind (apure C n (82:Nat) [tI a0, tI a1, tI a2, tI a3, tI a4, Tree.bool a5, Tree.str a6, Tree.sl (2:Nat) a7]) fun y15 => cnd (List.length y15 = (1:Nat)) (cnd
  (okB y15 0) (cnd ((!(gB y15 0)) = true) (some [tI (1:Int)]) (some [tI (0:Int)])) none) none)) none) none)) none) none)) none) none) (cnd (a0 = ((2:Nat):Int)) (Option.bind (apure C n (49:Nat) [tI a1,
  tI (0:Int), tI (1099511627776:Int)]) fun y18 => cnd (List.length y18 = (1:Nat)) (cnd (okB y18 0) (cnd ((!(gB y18 0)) = true) (some [tI (2:Int)]) (Option.bind (apure C n (49:Nat) [tI a2, tI (0:Int), tI
  (1099511627776:Int)]) fun y19 => cnd (List.length y19 = (1:Nat)) (cnd (okB y19 0) (cnd ((!(gB y19 0)) = true) (some [tI (2:Int)]) (Option.bind (apure C n (79:Nat) [tI a0, tI a1, tI a2, tI a3, tI a4,
  Tree.bool a5, Tree.str a6, Tree.sl (2:Nat) a7]) fun y20 => cnd (List.length y20 = (1:Nat)) (cnd (okB y20 0) (cnd ((!(gB y20 0)) = true) (some [tI (2:Int)]) (Option.bind (apure C n (80:Nat) [tI a0, tI
  a1, tI a2, tI a3, tI a4, Tree.bool a5, Tree.str a6, Tree.sl (2:Nat) a7]) fun y22 => cnd (List.length y22 = (1:Nat)) (cnd (okB y22 0) (cnd ((!(gB y22 0)) = true) (some [tI (1:Int)]) (some [tI
  (0:Int)])) none) none)) none) none)) none) none)) none) none) (cnd (a0 = ((1:Nat):Int)) (Option.bind (apure C n (49:Nat) [tI a1, tI (0:Int), tI (1099511627776:Int)]) fun y25 => cnd (List.length y25 =
  (1:Nat)) (cnd (okB y25 0) (cnd ((!(gB y25 0)) = true) (some [tI (2:Int)]) (Option.bind (apure C n (49:Nat) [tI a2, tI (0:Int), tI (1099511627776:Int)]) fun y26 => cnd (List.length y26 = (1:Nat)) (cnd
  (okB y26 0) (cnd ((!(gB y26 0)) = true) (some [tI (2:Int)]) (Option.bind (apure C n (77:Nat) [tI a0, tI a1, tI a2, tI a3, tI a4, Tree.bool a5, Tree.str a6, Tree.sl (2:Nat) a7]) fun y27 => cnd
  (List.length y27 = (1:Nat)) (cnd (okB y27 0) (cnd ((!(gB y27 0)) = true) (some [tI (2:Int)]) (Option.bind (apure C n (78:Nat) [tI a0, tI a1, tI a2, tI a3, tI a4, Tree.bool a5, Tree.str a6, Tree.sl
  (2:Nat) a7]) fun y29 => cnd (List.length y29 = (1:Nat)) (cnd (okB y29 0) (cnd ((!(gB y29 0)) = true) (some [tI (1:Int)]) (some [tI (0:Int)])) none) none)) none) none)) none) none)) none) none) (cnd
  (a0 = ((0:Nat):Int)) (Option.bind (apure C n (49:Nat) [tI a1, tI (0:Int), tI (1099511627776:Int)]) fun y32 => cnd (List.length y32 = (1:Nat)) (cnd (okB y32 0) (cnd ((!(gB y32 0)) = true) (some [tI
  (2:Int)]) (Option.bind (apure C n (49:Nat) [tI a2, tI (0:Int), tI (1099511627776:Int)]) fun y33 => cnd (List.length y33 = (1:Nat)) (cnd (okB y33 0) (cnd ((!(gB y33 0)) = true) (some [tI (2:Int)])
  none) none) none)) none) none) none)))) none)) none) none := by kernel_rfl

noncomputable def L21_1 (n : Nat) (y11 : List Tree) (a2 : ByteArray) (a0 : Int) (again10 : (List AV × Heap) → Option (List Tree)) (p9 : List AV × Heap) (p12 : List AV × Heap) (again13 : (List AV × Heap) → Option (List Tree)) : Option (List Tree) :=
  cnd (decide (vI p12 0 < gI y11 1) = true) (cnd ((0:Int) ≤ (if w64 ((w64 ((w64 (Int.tdiv (vI p12 0) (16:Int))) + (1:Int))) * (16:Int)) < gI y11 1 then w64 ((w64 ((w64 (Int.tdiv (vI p12 0) (16:Int))) +
  (1:Int))) * (16:Int)) else gI y11 1) ∧ (if w64 ((w64 ((w64 (Int.tdiv (vI p12 0) (16:Int))) + (1:Int))) * (16:Int)) < gI y11 1 then w64 ((w64 ((w64 (Int.tdiv (vI p12 0) (16:Int))) + (1:Int))) *
  (16:Int)) else gI y11 1) ≤ ((ByteArray.size a2:Nat):Int)) (cnd ((0:Int) ≤ vI p12 0 ∧ vI p12 0 ≤ ((Int.toNat (if w64 ((w64 ((w64 (Int.tdiv (vI p12 0) (16:Int))) + (1:Int))) * (16:Int)) < gI y11 1 then
  w64 ((w64 ((w64 (Int.tdiv (vI p12 0) (16:Int))) + (1:Int))) * (16:Int)) else gI y11 1):Nat):Int)) (cnd (oVer p12 0 = cVer p12 1 0 ∧ ((8:Nat) = (8:Nat) ∨ (8:Nat) = (0:Nat)) ∧ (cOff p12 1 0) + (cLen p12
  1 0) ≤ List.length (oEs p12 0) ∧ (cLen p12 1 0) + (1:Nat) ≤ (1073741824:Nat)) (again13 ([AV.t (tI (if w64 ((w64 ((w64 (Int.tdiv (vI p12 0) (16:Int))) + (1:Int))) * (16:Int)) < gI y11 1 then w64 ((w64
  ((w64 (Int.tdiv (vI p12 0) (16:Int))) + (1:Int))) * (16:Int)) else gI y11 1))], [AObj.row false ((cVer p12 1 0) + (1:Nat)) (8:Nat) ((List.take (cLen p12 1 0) (List.drop (cOff p12 1 0) (oEs p12 0))) ++
  [[tI (1:Int), tI a0, tI (0:Int), tI (vI p12 0), tI ((ByteArray.size a2:Nat):Int), Tree.bool false, Tree.str (ByteArray.extract a2 (Int.toNat (vI p12 0)) (Int.toNat (if w64 ((w64 ((w64 (Int.tdiv (vI
  p12 0) (16:Int))) + (1:Int))) * (16:Int)) < gI y11 1 then w64 ((w64 ((w64 (Int.tdiv (vI p12 0) (16:Int))) + (1:Int))) * (16:Int)) else gI y11 1))), Tree.sl (2:Nat) []]]), AObj.box [AV.sref (0:Nat)
  ((cVer p12 1 0) + (1:Nat)) (0:Nat) ((cLen p12 1 0) + (1:Nat))], AObj.box [], AObj.box []])) none) none) none) (again10 ([AV.t (tI (w64 ((vI p9 0) + (1:Int))))], [AObj.row false (oVer p12 0) (8:Nat)
  (oEs p12 0), AObj.box [AV.sref (0:Nat) (cVer p12 1 0) (cOff p12 1 0) (cLen p12 1 0)], AObj.box []]))

noncomputable def L21_2 (n : Nat) (a3 : List (List Tree)) (a2 : ByteArray) (a0 : Int) (a1 : Int) (p9 : List AV × Heap) (again10 : (List AV × Heap) → Option (List Tree)) : Option (List Tree) :=
  cnd (decide (vI p9 0 < ((List.length a3:Nat):Int)) = true) (cnd ((2:Nat) = (2:Nat) ∧ (0:Int) ≤ vI p9 0) (Option.bind a3[Int.toNat (vI p9 0)]? fun y11 => cnd (okI y11 0) (cnd (okI y11 1) (loopIter (fun
  (p12 : List AV × Heap) (again13 : _ → Option (List Tree)) => L21_1 n y11 a2 a0 again10 p9 p12 again13) n ([AV.t (tI (gI y11 0))], [AObj.row false (oVer p9 0) (8:Nat) (oEs p9 0), AObj.box [AV.sref
  (0:Nat) (cVer p9 1 0) (cOff p9 1 0) (cLen p9 1 0)], AObj.box [], AObj.box []])) none) none) none) (cnd (oVer p9 0 = cVer p9 1 0) (cnd (oVer p9 0 = cVer p9 1 0 ∧ (8:Nat) = (8:Nat) ∧ (0:Int) ≤ w64
  (((cLen p9 1 0:Nat):Int) - (1:Int)) ∧ w64 (((cLen p9 1 0:Nat):Int) - (1:Int)) < ((cLen p9 1 0:Nat):Int)) (cnd (oVer p9 0 = cVer p9 1 0) (cnd (oVer p9 0 = cVer p9 1 0 ∧ (3:Nat) ≤ (8:Nat)) (Option.bind
  (oEs p9 0)[(cOff p9 1 0) + (Int.toNat (w64 (((cLen p9 1 0:Nat):Int) - (1:Int))))]? fun y14 => cnd (cVer p9 1 0 = cVer p9 1 0) (cnd (cVer p9 1 0 = cVer p9 1 0 ∧ (6:Nat) ≤ (8:Nat)) (Option.bind
  (List.set (oEs p9 0) ((cOff p9 1 0) + (Int.toNat (w64 (((cLen p9 1 0:Nat):Int) - (1:Int))))) (List.take (2:Nat) y14 ++ ([tI a1] ++ List.drop (3:Nat) y14)))[(cOff p9 1 0) + (Int.toNat (w64 (((cLen p9 1
  0:Nat):Int) - (1:Int))))]? fun y15 => cnd ((false = true ∨ false = false) ∧ cVer p9 1 0 = cVer p9 1 0 ∧ ((8:Nat) = (8:Nat) ∨ (8:Nat) = (0:Nat))) (some [Tree.sl (8:Nat) (List.take (cLen p9 1 0)
  (List.drop (cOff p9 1 0) (List.set (List.set (oEs p9 0) ((cOff p9 1 0) + (Int.toNat (w64 (((cLen p9 1 0:Nat):Int) - (1:Int))))) (List.take (2:Nat) y14 ++ ([tI a1] ++ List.drop (3:Nat) y14))) ((cOff p9
  1 0) + (Int.toNat (w64 (((cLen p9 1 0:Nat):Int) - (1:Int))))) (List.take (5:Nat) y15 ++ ([Tree.bool true] ++ List.drop (6:Nat) y15))))), tI (0:Int)]) none) none) none) none) none) none) none)

noncomputable def J21_3 (n : Nat) (a2 : ByteArray) (a3 : List (List Tree)) (a0 : Int) (a1 : Int) (p4 : List AV × Heap) : Option (List Tree) :=
  cnd (vB p4 0 = true) (some [Tree.sl (8:Nat) [], tI (2:Int)]) (cnd ((a2 == (ByteArray.mk #[])) = true) (some [Tree.sl (8:Nat) [], tI (20:Int)]) (cnd (decide (((ByteArray.size a2:Nat):Int) >
  (65536:Int)) = true) (some [Tree.sl (8:Nat) [], tI (4:Int)]) (Option.bind (apure C n (51:Nat) [Tree.sl (2:Nat) a3, tI ((ByteArray.size a2:Nat):Int)]) fun y8 => cnd (List.length y8 = (1:Nat)) (cnd (okB
  y8 0) (cnd ((!(gB y8 0)) = true) (some [Tree.sl (8:Nat) [], tI (1:Int)]) (cnd ((((List.length a3:Nat):Int) == (0:Int)) = true) (some [Tree.sl (8:Nat) [], tI (20:Int)]) (loopIter (fun (p9 : List AV ×
  Heap) (again10 : _ → Option (List Tree)) => L21_2 n a3 a2 a0 a1 p9 again10) n ([AV.t (tI (0:Int))], [AObj.row false (0:Nat) (8:Nat) [], AObj.box [AV.sref (0:Nat) (0:Nat) (0:Nat) (0:Nat)], AObj.box
  []])))) none) none)))
theorem e21 (n : Nat) (a0 : Int) (a1 : Int) (a2 : ByteArray) (a3 : List (List Tree)) : apure C (n + 1) 21 [tI a0, tI a1, Tree.str a2, Tree.sl (2:Nat) a3] =
  join (fun (p4 : List AV × Heap) => J21_3 n a2 a3 a0 a1 p4) fun (again5 : _ → Option (List Tree)) => Option.bind (apure C n (49:Nat) [tI a0, tI (0:Int), tI (1099511627776:Int)]) fun y6 => cnd
  (List.length y6 = (1:Nat)) (cnd (okB y6 0) (cnd ((!(gB y6 0)) = true) (again5 ([AV.t (Tree.bool true)], [])) (Option.bind (apure C n (49:Nat) [tI a1, tI (1:Int), tI (1099511627776:Int)]) fun y7 => cnd
  (List.length y7 = (1:Nat)) (cnd (okB y7 0) (again5 ([AV.t (Tree.bool (!(gB y7 0)))], [])) none) none)) none) none := by kernel_rfl

noncomputable def L22_1 (n : Nat) (a15 : List (List Tree)) (a4 : Int) (a7 : Int) (a11 : Int) (a10 : Int) (a9 : Int) (a13 : Int) (a5 : Int) (a14 : Int) (p17 : List AV × Heap) (again18 : (List AV × Heap) → Option (List Tree)) : Option (List Tree) :=
  cnd (decide (vI p17 1 < ((List.length a15:Nat):Int)) = true) (cnd ((9:Nat) = (9:Nat) ∧ (0:Int) ≤ vI p17 1) (Option.bind a15[Int.toNat (vI p17 1)]? fun y19 => cnd (okI y19 0) (cnd (okI y19 1) (cnd (okI
  y19 2) (cnd (okI y19 3) (cnd (okI y19 4) (cnd (okI y19 5) (cnd (okB y19 6) (cnd (okS y19 7) (cnd (okL 2 y19 8) (Option.bind (apure C n (31:Nat) [tI a4, tI (gI y19 1), tI (gI y19 2), tI (gI y19 3), tI
  (gI y19 4), tI (gI y19 5), Tree.bool (gB y19 6), Tree.str (gS y19 7), Tree.sl (2:Nat) (gL y19 8)]) fun y20 => cnd (List.length y20 = (2:Nat)) (cnd (okI y20 0) (cnd (okI y20 1) (cnd (((gI y20 1) !=
  (0:Int)) = true) (some [Tree.bool false]) (cnd (((gI y19 0) != (w64 ((vI p17 0) + (gI y20 0)))) = true) (some [Tree.bool false]) (cnd (((gI y19 2) != a7) = true) (some [Tree.bool false]) (cnd ((!((gB
  y19 6) == ((vI p17 1) == (w64 (((List.length a15:Nat):Int) - (1:Int)))))) = true) (some [Tree.bool false]) (cnd (gB y19 6 = true) (cnd (((gI y19 3) != a11) = true) (some [Tree.bool false]) (again18
  ([AV.t (tI (gI y19 0)), AV.t (tI (w64 ((vI p17 1) + (1:Int))))], []))) (again18 ([AV.t (tI (gI y19 0)), AV.t (tI (w64 ((vI p17 1) + (1:Int))))], []))))))) none) none) none) none) none) none) none)
  none) none) none) none) none) none) (cnd ((((List.length a15:Nat):Int) == (0:Int)) = true) (some [Tree.bool true]) (cnd (((vI p17 0) == a10) = true) (cnd (decide (vI p17 0 ≤ a9) = true) (cnd ((a13 ==
  (w64 ((w64 ((vI p17 0) + (w64 ((2:Int) * a5)))) + (1:Int)))) = true) (some [Tree.bool (a14 == (1:Int))]) (some [Tree.bool false])) (some [Tree.bool false])) (some [Tree.bool false])))
theorem e22 (n : Nat) (a0 : Int) (a1 : Int) (a2 : Int) (a3 : Int) (a4 : Int) (a5 : Int) (a6 : Int) (a7 : Int) (a8 : ByteArray) (a9 : Int) (a10 : Int) (a11 : Int) (a12 : List (List Tree)) (a13 : Int) (a14 : Int) (a15 : List (List Tree)) (a16 : Int) : apure C (n + 1) 22 [tI a0, tI a1, tI a2, tI a3, tI a4, tI a5, tI a6, tI a7, Tree.str a8, tI a9, tI a10, tI a11, Tree.sl (2:Nat) a12, tI a13, tI a14, Tree.sl (9:Nat) a15, tI a16] =
  loopIter (fun (p17 : List AV × Heap) (again18 : _ → Option (List Tree)) => L22_1 n a15 a4 a7 a11 a10 a9 a13 a5 a14 p17 again18) n ([AV.t (tI a16), AV.t (tI (0:Int))], []) := by kernel_rfl

theorem e23 (n : Nat) (a0 : Int) (a1 : Int) (a2 : Int) (a3 : Int) (a4 : Int) (a5 : Bool) (a6 : ByteArray) (a7 : List (List Tree)) (a8 : Int) (a9 : Int) (a10 : Int) (a11 : Int) (a12 : Int) (a13 : Bool) (a14 : ByteArray) (a15 : List (List Tree)) : apure C (n + 1) 23 [tI a0, tI a1, tI a2, tI a3, tI a4, Tree.bool a5, Tree.str a6, Tree.sl (2:Nat) a7, tI a8, tI a9, tI a10, tI a11, tI a12, Tree.bool a13, Tree.str a14, Tree.sl (2:Nat) a15] =
  cnd ((a0 == a8) = true) (cnd ((a1 == a9) = true) (cnd ((a2 == a10) = true) (cnd ((a3 == a11) = true) (cnd ((a4 == a12) = true) (cnd ((a5 == a13) = true) (cnd ((a6 == a14) = true) (Option.bind (apure C
  n (53:Nat) [Tree.sl (2:Nat) a7, Tree.sl (2:Nat) a15]) fun y18 => cnd (List.length y18 = (1:Nat)) (cnd (okB y18 0) (some [Tree.bool (gB y18 0)]) none) none) (some [Tree.bool false])) (some [Tree.bool
  false])) (some [Tree.bool false])) (some [Tree.bool false])) (some [Tree.bool false])) (some [Tree.bool false])) (some [Tree.bool false]) := by kernel_rfl

theorem e24 (n : Nat) (a0 : Int) (a1 : Int) (a2 : Int) (a3 : List (List Tree)) : apure C (n + 1) 24 [tI a0, tI a1, tI a2, Tree.sl (2:Nat) a3] =
  Option.bind (apure C n (20:Nat) [tI (2:Int), tI a0, tI a1, tI (0:Int), tI a2, Tree.bool false, Tree.str (ByteArray.mk #[]), Tree.sl (2:Nat) a3]) fun y4 => cnd (List.length y4 = (1:Nat)) (cnd (okI y4
  0) (cnd (((gI y4 0) != (0:Int)) = true) (some [tI (0:Int), tI (0:Int), tI (0:Int), tI (0:Int), tI (0:Int), Tree.bool false, Tree.str (ByteArray.mk #[]), Tree.sl (2:Nat) [], tI (gI y4 0)]) (some [tI
  (2:Int), tI a0, tI a1, tI (0:Int), tI a2, Tree.bool false, Tree.str (ByteArray.mk #[]), Tree.sl (2:Nat) a3, tI (0:Int)])) none) none := by kernel_rfl

theorem e25 (n : Nat) (a0 : Int) (a1 : Int) (a2 : Int) (a3 : Int) (a4 : Int) (a5 : Int) (a6 : Int) (a7 : Int) (a8 : ByteArray) (a9 : Int) (a10 : Int) (a11 : Int) (a12 : List (List Tree)) (a13 : Int) (a14 : Int) : apure C (n + 1) 25 [tI a0, tI a1, tI a2, tI a3, tI a4, tI a5, tI a6, tI a7, Tree.str a8, tI a9, tI a10, tI a11, Tree.sl (2:Nat) a12, tI a13, tI a14] =
  Option.bind (apure C n (19:Nat) [tI a0, tI a1, tI a2, tI a3, tI a4, tI a5, tI a6, tI a7, Tree.str a8, tI a9, tI a10, tI a11, Tree.sl (2:Nat) a12, tI a13, tI a14]) fun y15 => cnd (List.length y15 =
  (1:Nat)) (cnd (okI y15 0) (cnd (((gI y15 0) != (0:Int)) = true) (some [Tree.sl (2:Nat) [], tI (1:Int)]) (Option.bind (apure C n (54:Nat) [tI a0, tI a1, tI a2, tI a3, tI a4, tI a5, tI a6, tI a7,
  Tree.str a8, tI a9, tI a10, tI a11, Tree.sl (2:Nat) a12, tI a13, tI a14]) fun y16 => cnd (List.length y16 = (1:Nat)) (cnd (okL 2 y16 0) (some [Tree.sl (2:Nat) (gL y16 0), tI (0:Int)]) none) none))
  none) none := by kernel_rfl

theorem e26 (n : Nat) (a0 : Int) (a1 : Int) (a2 : Int) (a3 : Int) (a4 : Int) (a5 : Int) (a6 : Int) (a7 : Int) (a8 : ByteArray) (a9 : Int) (a10 : Int) (a11 : Int) (a12 : List (List Tree)) (a13 : Int) (a14 : Int) (a15 : Int) : apure C (n + 1) 26 [tI a0, tI a1, tI a2, tI a3, tI a4, tI a5, tI a6, tI a7, Tree.str a8, tI a9, tI a10, tI a11, Tree.sl (2:Nat) a12, tI a13, tI a14, tI a15] =
  Option.bind (apure C n (19:Nat) [tI a0, tI a1, tI a2, tI a3, tI a4, tI a5, tI a6, tI a7, Tree.str a8, tI a9, tI a10, tI a11, Tree.sl (2:Nat) a12, tI a13, tI a14]) fun y16 => cnd (List.length y16 =
  (1:Nat)) (cnd (okI y16 0) (cnd (((gI y16 0) != (0:Int)) = true) (some [tI (0:Int), tI (0:Int), tI (0:Int), tI (0:Int), tI (0:Int), tI (0:Int), tI (0:Int), tI (0:Int), Tree.str (ByteArray.mk #[]), tI
  (0:Int), tI (0:Int), tI (0:Int), Tree.sl (2:Nat) [], tI (0:Int), tI (0:Int), Tree.sl (9:Nat) [], tI (1:Int)]) (cnd ((a14 != (1:Int)) = true) (some [tI (0:Int), tI (0:Int), tI (0:Int), tI (0:Int), tI
  (0:Int), tI (0:Int), tI (0:Int), tI (0:Int), Tree.str (ByteArray.mk #[]), tI (0:Int), tI (0:Int), tI (0:Int), Tree.sl (2:Nat) [], tI (0:Int), tI (0:Int), Tree.sl (9:Nat) [], tI (19:Int)]) (Option.bind
  (apure C n (35:Nat) [tI a15, tI a13, tI (2199023255552:Int)]) fun y17 => cnd (List.length y17 = (1:Nat)) (cnd (okB y17 0) (cnd ((!(gB y17 0)) = true) (some [tI (0:Int), tI (0:Int), tI (0:Int), tI
  (0:Int), tI (0:Int), tI (0:Int), tI (0:Int), tI (0:Int), Tree.str (ByteArray.mk #[]), tI (0:Int), tI (0:Int), tI (0:Int), Tree.sl (2:Nat) [], tI (0:Int), tI (0:Int), Tree.sl (9:Nat) [], tI (2:Int)])
  (Option.bind (apure C n (37:Nat) [tI a0, tI a1, tI a2, tI a3, tI a4, tI a5, tI a6, tI a7, Tree.str a8, tI a9, tI a10, tI a11, Tree.sl (2:Nat) a12, tI a13, tI a14]) fun y18 => cnd (List.length y18 =
  (1:Nat)) (cnd (okL 8 y18 0) (cnd ((0:Int) ≤ (if w64 (((List.length (gL y18 0):Nat):Int) - (1:Int)) > (0:Int) then w64 (((List.length (gL y18 0):Nat):Int) - (1:Int)) else (0:Int)) ∧ (if w64
  (((List.length (gL y18 0):Nat):Int) - (1:Int)) > (0:Int) then w64 (((List.length (gL y18 0):Nat):Int) - (1:Int)) else (0:Int)) ≤ ((List.length (gL y18 0):Nat):Int)) (Option.bind (apure C n (36:Nat)
  [tI a0, tI a1, tI a2, tI a3, tI a4, tI a5, tI a6, tI a7, Tree.str a8, tI a9, tI a10, tI a11, Tree.sl (2:Nat) a12, tI a13, tI a14, tI a15, Tree.sl (8:Nat) (List.drop (Int.toNat (if w64 (((List.length
  (gL y18 0):Nat):Int) - (1:Int)) > (0:Int) then w64 (((List.length (gL y18 0):Nat):Int) - (1:Int)) else (0:Int))) (List.take (List.length (gL y18 0)) (gL y18 0)))]) fun y19 => cnd (List.length y19 =
  (16:Nat)) (cnd (okI y19 0) (cnd (okI y19 1) (cnd (okI y19 2) (cnd (okI y19 3) (cnd (okI y19 4) (cnd (okI y19 5) (cnd (okI y19 6) (cnd (okI y19 7) (cnd (okS y19 8) (cnd (okI y19 9) (cnd (okI y19 10)
  (cnd (okI y19 11) (cnd (okL 2 y19 12) (cnd (okI y19 13) (cnd (okI y19 14) (cnd (okL 9 y19 15) (some [tI (gI y19 0), tI (gI y19 1), tI (gI y19 2), tI (gI y19 3), tI (gI y19 4), tI (gI y19 5), tI (gI
  y19 6), tI (gI y19 7), Tree.str (gS y19 8), tI (gI y19 9), tI (gI y19 10), tI (gI y19 11), Tree.sl (2:Nat) (gL y19 12), tI (gI y19 13), tI (gI y19 14), Tree.sl (9:Nat) (gL y19 15), tI (0:Int)]) none)
  none) none) none) none) none) none) none) none) none) none) none) none) none) none) none) none) none) none) none)) none) none))) none) none := by kernel_rfl

noncomputable def J27_1 (n : Nat) (a15 : Int) (p17 : List AV × Heap) : Option (List Tree) :=
  cnd (vB p17 0 = true) (some [tI (0:Int), tI (0:Int), tI (0:Int), tI (0:Int), tI (0:Int), tI (0:Int), tI (0:Int), tI (0:Int), Tree.str (ByteArray.mk #[]), tI (0:Int), tI (0:Int), tI (0:Int), Tree.sl
  (2:Nat) [], tI (0:Int), tI (0:Int), Tree.sl (9:Nat) [], tI (2:Int)]) (cnd (((cI p17 0 11) == (1099511627776:Int)) = true) (some [tI (cI p17 0 0), tI (cI p17 0 1), tI (cI p17 0 2), tI (cI p17 0 3), tI
  (cI p17 0 4), tI (cI p17 0 5), tI (cI p17 0 6), tI (cI p17 0 7), Tree.str (cS p17 0 8), tI (cI p17 0 9), tI (cI p17 0 10), tI (cI p17 0 11), Tree.sl (2:Nat) (cL p17 0 12), tI (0:Int), tI (3:Int),
  Tree.sl (9:Nat) [], tI (0:Int)]) (Option.bind (apure C n (45:Nat) [tI (cI p17 0 0), tI (cI p17 0 1), tI (cI p17 0 2), tI (cI p17 0 3), tI (cI p17 0 4), tI (cI p17 0 5), tI (cI p17 0 6), tI (cI p17 0
  7), Tree.str (cS p17 0 8), tI (cI p17 0 9), tI (cI p17 0 10), tI (cI p17 0 11), Tree.sl (2:Nat) (cL p17 0 12), tI (cI p17 0 13), tI (cI p17 0 14)]) fun y19 => cnd (List.length y19 = (1:Nat)) (cnd (okL
  2 y19 0) (Option.bind (apure C n (39:Nat) [tI (cI p17 0 7), tI (w64 ((cI p17 0 11) + (1:Int))), Tree.str (cS p17 0 8), Tree.sl (2:Nat) (gL y19 0)]) fun y20 => cnd (List.length y20 = (2:Nat)) (cnd (okL
  8 y20 0) (cnd (okI y20 1) (cnd ((0:Int) ≤ w64 (((List.length (gL y20 0):Nat):Int) - (1:Int)) ∧ w64 (((List.length (gL y20 0):Nat):Int) - (1:Int)) ≤ ((List.length (gL y20 0):Nat):Int)) (Option.bind
  (apure C n (40:Nat) [tI (cI p17 0 0), tI (cI p17 0 1), tI (cI p17 0 2), tI (cI p17 0 3), tI (cI p17 0 4), tI (cI p17 0 5), tI (cI p17 0 6), tI (cI p17 0 7), Tree.str (cS p17 0 8), tI (cI p17 0 9), tI
  (cI p17 0 10), tI (cI p17 0 11), Tree.sl (2:Nat) (cL p17 0 12), tI (cI p17 0 13), tI (cI p17 0 14), Tree.sl (8:Nat) (List.drop (Int.toNat (w64 (((List.length (gL y20 0):Nat):Int) - (1:Int))))
  (List.take (List.length (gL y20 0)) (gL y20 0))), tI a15]) fun y21 => cnd (List.length y21 = (16:Nat)) (cnd (okI y21 0) (cnd (okI y21 1) (cnd (okI y21 2) (cnd (okI y21 3) (cnd (okI y21 4) (cnd (okI
  y21 5) (cnd (okI y21 6) (cnd (okI y21 7) (cnd (okS y21 8) (cnd (okI y21 9) (cnd (okI y21 10) (cnd (okI y21 11) (cnd (okL 2 y21 12) (cnd (okI y21 13) (cnd (okI y21 14) (cnd (okL 9 y21 15) (some [tI (gI
  y21 0), tI (gI y21 1), tI (gI y21 2), tI (gI y21 3), tI (gI y21 4), tI (gI y21 5), tI (gI y21 6), tI (gI y21 7), Tree.str (gS y21 8), tI (gI y21 9), tI (gI y21 10), tI (gI y21 11), Tree.sl (2:Nat) (gL
  y21 12), tI (gI y21 13), tI (gI y21 14), Tree.sl (9:Nat) (gL y21 15), tI (0:Int)]) none) none) none) none) none) none) none) none) none) none) none) none) none) none) none) none) none) none) none)
  none) none) none) none))
theorem e27 (n : Nat) (a0 : Int) (a1 : Int) (a2 : Int) (a3 : Int) (a4 : Int) (a5 : Int) (a6 : Int) (a7 : Int) (a8 : ByteArray) (a9 : Int) (a10 : Int) (a11 : Int) (a12 : List (List Tree)) (a13 : Int) (a14 : Int) (a15 : Int) : apure C (n + 1) 27 [tI a0, tI a1, tI a2, tI a3, tI a4, tI a5, tI a6, tI a7, Tree.str a8, tI a9, tI a10, tI a11, Tree.sl (2:Nat) a12, tI a13, tI a14, tI a15] =
  Option.bind (apure C n (29:Nat) [tI a0, tI a1, tI a2, tI a3, tI a4, tI a5, tI a6, tI a7, Tree.str a8, tI a9, tI a10, tI a11, Tree.sl (2:Nat) a12, tI a13, tI a14]) fun y16 => cnd (List.length y16 =
  (1:Nat)) (cnd (okI y16 0) (cnd (((gI y16 0) != (0:Int)) = true) (some [tI (0:Int), tI (0:Int), tI (0:Int), tI (0:Int), tI (0:Int), tI (0:Int), tI (0:Int), tI (0:Int), Tree.str (ByteArray.mk #[]), tI
  (0:Int), tI (0:Int), tI (0:Int), Tree.sl (2:Nat) [], tI (0:Int), tI (0:Int), Tree.sl (9:Nat) [], tI (1:Int)]) (cnd ((a14 != (1:Int)) = true) (some [tI (0:Int), tI (0:Int), tI (0:Int), tI (0:Int), tI
  (0:Int), tI (0:Int), tI (0:Int), tI (0:Int), Tree.str (ByteArray.mk #[]), tI (0:Int), tI (0:Int), tI (0:Int), Tree.sl (2:Nat) [], tI (0:Int), tI (0:Int), Tree.sl (9:Nat) [], tI (19:Int)]) (join (fun
  (p17 : List AV × Heap) => J27_1 n a15 p17) fun (again18 : _ → Option (List Tree)) => cnd (decide (a15 < a13) = true) (again18 ([AV.t (Tree.bool true)], [AObj.box [AV.t (tI a0), AV.t (tI a1), AV.t (tI
  a2), AV.t (tI a3), AV.t (tI a4), AV.t (tI a5), AV.t (tI a6), AV.t (tI a7), AV.t (Tree.str a8), AV.t (tI a9), AV.t (tI a10), AV.t (tI a11), AV.t (Tree.sl (2:Nat) a12), AV.t (tI a13), AV.t (tI a14)],
  AObj.box [AV.t (tI (0:Int)), AV.t (tI (0:Int)), AV.t (tI (0:Int)), AV.t (tI (0:Int)), AV.t (tI (0:Int)), AV.t (tI (0:Int)), AV.t (tI (0:Int)), AV.t (tI (0:Int)), AV.t (Tree.str (ByteArray.mk #[])),
  AV.t (tI (0:Int)), AV.t (tI (0:Int)), AV.t (tI (0:Int)), AV.t (Tree.sl (2:Nat) []), AV.t (tI (0:Int)), AV.t (tI (0:Int))]])) (again18 ([AV.t (Tree.bool (decide (a15 > (2199023255552:Int))))],
  [AObj.box [AV.t (tI a0), AV.t (tI a1), AV.t (tI a2), AV.t (tI a3), AV.t (tI a4), AV.t (tI a5), AV.t (tI a6), AV.t (tI a7), AV.t (Tree.str a8), AV.t (tI a9), AV.t (tI a10), AV.t (tI a11), AV.t (Tree.sl
  (2:Nat) a12), AV.t (tI a13), AV.t (tI a14)], AObj.box [AV.t (tI (0:Int)), AV.t (tI (0:Int)), AV.t (tI (0:Int)), AV.t (tI (0:Int)), AV.t (tI (0:Int)), AV.t (tI (0:Int)), AV.t (tI (0:Int)), AV.t (tI
  (0:Int)), AV.t (Tree.str (ByteArray.mk #[])), AV.t (tI (0:Int)), AV.t (tI (0:Int)), AV.t (tI (0:Int)), AV.t (Tree.sl (2:Nat) []), AV.t (tI (0:Int)), AV.t (tI (0:Int))]]))))) none) none := by kernel_rfl

theorem e28 (n : Nat) (a0 : Int) (a1 : Int) (a2 : Int) (a3 : Int) (a4 : Int) (a5 : Int) (a6 : Int) (a7 : Int) (a8 : ByteArray) (a9 : Int) (a10 : Int) (a11 : Int) (a12 : List (List Tree)) (a13 : Int) (a14 : Int) : apure C (n + 1) 28 [tI a0, tI a1, tI a2, tI a3, tI a4, tI a5, tI a6, tI a7, Tree.str a8, tI a9, tI a10, tI a11, Tree.sl (2:Nat) a12, tI a13, tI a14] =
  Option.bind (apure C n (29:Nat) [tI a0, tI a1, tI a2, tI a3, tI a4, tI a5, tI a6, tI a7, Tree.str a8, tI a9, tI a10, tI a11, Tree.sl (2:Nat) a12, tI a13, tI a14]) fun y15 => cnd (List.length y15 =
  (1:Nat)) (cnd (okI y15 0) (cnd (((gI y15 0) != (0:Int)) = true) (some [Tree.sl (2:Nat) [], tI (1:Int)]) (Option.bind (apure C n (45:Nat) [tI a0, tI a1, tI a2, tI a3, tI a4, tI a5, tI a6, tI a7,
  Tree.str a8, tI a9, tI a10, tI a11, Tree.sl (2:Nat) a12, tI a13, tI a14]) fun y16 => cnd (List.length y16 = (1:Nat)) (cnd (okL 2 y16 0) (some [Tree.sl (2:Nat) (gL y16 0), tI (0:Int)]) none) none))
  none) none := by kernel_rfl

noncomputable def J29_1 (n : Nat) (a14 : Int) (y25 : List Tree) (a13 : Int) (p26 : List AV × Heap) : Option (List Tree) :=
  cnd (vB p26 0 = true) (some [tI (0:Int)]) (cnd ((a14 == (2:Int)) = true) (cnd ((((List.length (gL y25 0):Nat):Int) == (0:Int)) = true) (cnd ((a13 == (0:Int)) = true) (some [tI (0:Int)]) (some [tI
  (19:Int)])) (cnd ((a14 == (3:Int)) = true) (cnd ((a13 == (0:Int)) = true) (some [tI (0:Int)]) (some [tI (19:Int)])) (some [tI (19:Int)]))) (cnd ((a14 == (3:Int)) = true) (cnd ((a13 == (0:Int)) = true)
  (some [tI (0:Int)]) (some [tI (19:Int)])) (some [tI (19:Int)])))

noncomputable def L29_2 (n : Nat) (a12 : List (List Tree)) (a8 : ByteArray) (a0 : Int) (a1 : Int) (a2 : Int) (a3 : Int) (a4 : Int) (a5 : Int) (a6 : Int) (a7 : Int) (a9 : Int) (a10 : Int) (a11 : Int) (a13 : Int) (a14 : Int) (p19 : List AV × Heap) (again20 : (List AV × Heap) → Option (List Tree)) : Option (List Tree) :=
  cnd (decide (vI p19 0 < ((List.length a12:Nat):Int)) = true) (cnd ((2:Nat) = (2:Nat) ∧ (0:Int) ≤ vI p19 0) (Option.bind a12[Int.toNat (vI p19 0)]? fun y23 => cnd (okI y23 0) (cnd (decide (gI y23 0 <
  (0:Int)) = true) (some [tI (1:Int)]) (cnd ((2:Nat) = (2:Nat) ∧ (0:Int) ≤ vI p19 0) (Option.bind a12[Int.toNat (vI p19 0)]? fun y24 => cnd (okI y24 1) (cnd (decide (gI y24 1 > ((ByteArray.size
  a8:Nat):Int)) = true) (some [tI (1:Int)]) (again20 ([AV.t (tI (w64 ((vI p19 0) + (1:Int))))], []))) none) none)) none) none) (Option.bind (apure C n (45:Nat) [tI a0, tI a1, tI a2, tI a3, tI a4, tI a5,
  tI a6, tI a7, Tree.str a8, tI a9, tI a10, tI a11, Tree.sl (2:Nat) a12, tI a13, tI a14]) fun y25 => cnd (List.length y25 = (1:Nat)) (cnd (okL 2 y25 0) (join (fun (p26 : List AV × Heap) => J29_1 n a14
  y25 a13 p26) fun (again27 : _ → Option (List Tree)) => cnd ((a14 == (1:Int)) = true) (cnd ((!(((List.length (gL y25 0):Nat):Int) == (0:Int))) = true) (again27 ([AV.t (Tree.bool (a13 == (w64 ((w64 (a10
  + (w64 ((2:Int) * a5)))) + (1:Int)))))], [])) (again27 ([AV.t (Tree.bool false)], []))) (again27 ([AV.t (Tree.bool false)], []))) none) none)

noncomputable def J29_3 (n : Nat) (a12 : List (List Tree)) (a8 : ByteArray) (a0 : Int) (a1 : Int) (a2 : Int) (a3 : Int) (a4 : Int) (a5 : Int) (a6 : Int) (a7 : Int) (a9 : Int) (a10 : Int) (a11 : Int) (a13 : Int) (a14 : Int) (p16 : List AV × Heap) : Option (List Tree) :=
  cnd (vB p16 0 = true) (some [tI (2:Int)]) (Option.bind (apure C n (55:Nat) [Tree.sl (2:Nat) a12]) fun y18 => cnd (List.length y18 = (1:Nat)) (cnd (okI y18 0) (cnd (((gI y18 0) != (0:Int)) = true)
  (some [tI (1:Int)]) (loopIter (fun (p19 : List AV × Heap) (again20 : _ → Option (List Tree)) => L29_2 n a12 a8 a0 a1 a2 a3 a4 a5 a6 a7 a9 a10 a11 a13 a14 p19 again20) n ([AV.t (tI (0:Int))], [])))
  none) none)
theorem e29 (n : Nat) (a0 : Int) (a1 : Int) (a2 : Int) (a3 : Int) (a4 : Int) (a5 : Int) (a6 : Int) (a7 : Int) (a8 : ByteArray) (a9 : Int) (a10 : Int) (a11 : Int) (a12 : List (List Tree)) (a13 : Int) (a14 : Int) : apure C (n + 1) 29 [tI a0, tI a1, tI a2, tI a3, tI a4, tI a5, tI a6, tI a7, Tree.str a8, tI a9, tI a10, tI a11, Tree.sl (2:Nat) a12, tI a13, tI a14] =
  Option.bind (apure C n (38:Nat) [tI a0, tI a1, tI a2, tI a3, tI a4, tI a5, tI a6]) fun y15 => cnd (List.length y15 = (1:Nat)) (cnd (okI y15 0) (cnd (((gI y15 0) != (0:Int)) = true) (some [tI (1:Int)])
  (join (fun (p16 : List AV × Heap) => J29_3 n a12 a8 a0 a1 a2 a3 a4 a5 a6 a7 a9 a10 a11 a13 a14 p16) fun (again17 : _ → Option (List Tree)) => cnd (decide (a7 < (0:Int)) = true) (again17 ([AV.t
  (Tree.bool true)], [])) (cnd (decide (a7 > (1099511627776:Int)) = true) (again17 ([AV.t (Tree.bool true)], [])) (cnd (decide (((ByteArray.size a8:Nat):Int) < (1:Int)) = true) (again17 ([AV.t
  (Tree.bool true)], [])) (cnd (decide (((ByteArray.size a8:Nat):Int) > (65536:Int)) = true) (again17 ([AV.t (Tree.bool true)], [])) (cnd (decide (a10 < a2) = true) (again17 ([AV.t (Tree.bool true)],
  [])) (cnd (decide (a10 > a9) = true) (again17 ([AV.t (Tree.bool true)], [])) (cnd (decide (a9 > a3) = true) (again17 ([AV.t (Tree.bool true)], [])) (cnd (decide (a11 < (1:Int)) = true) (again17 ([AV.t
  (Tree.bool true)], [])) (again17 ([AV.t (Tree.bool (decide (a11 > (1099511627776:Int))))], []))))))))))) none) none := by kernel_rfl

noncomputable def L30_1 (n : Nat) (a0 : List (List Tree)) (a1 : List (List Tree)) (p2 : List AV × Heap) (again3 : (List AV × Heap) → Option (List Tree)) : Option (List Tree) :=
  cnd (decide (vI p2 0 < ((List.length a0:Nat):Int)) = true) (cnd ((2:Nat) = (2:Nat) ∧ (0:Int) ≤ vI p2 0) (Option.bind a0[Int.toNat (vI p2 0)]? fun y4 => cnd (okI y4 0) (cnd (okI y4 1) (cnd ((2:Nat) =
  (2:Nat) ∧ (0:Int) ≤ vI p2 0) (Option.bind a1[Int.toNat (vI p2 0)]? fun y5 => cnd (okI y5 0) (cnd (okI y5 1) (cnd ((!(((gI y4 0) == (gI y5 0)) && ((gI y4 1) == (gI y5 1)))) = true) (some [Tree.bool
  false]) (again3 ([AV.t (tI (w64 ((vI p2 0) + (1:Int))))], []))) none) none) none) none) none) none) (some [Tree.bool true])
theorem e30 (n : Nat) (a0 : List (List Tree)) (a1 : List (List Tree)) : apure C (n + 1) 30 [Tree.sl (2:Nat) a0, Tree.sl (2:Nat) a1] =
  cnd ((((List.length a0:Nat):Int) != ((List.length a1:Nat):Int)) = true) (some [Tree.bool false]) (loopIter (fun (p2 : List AV × Heap) (again3 : _ → Option (List Tree)) => L30_1 n a0 a1 p2 again3) n
  ([AV.t (tI (0:Int))], [])) := by kernel_rfl

theorem e31 (n : Nat) (a0 : Int) (a1 : Int) (a2 : Int) (a3 : Int) (a4 : Int) (a5 : Int) (a6 : Bool) (a7 : ByteArray) (a8 : List (List Tree)) : apure C (n + 1) 31 [tI a0, tI a1, tI a2, tI a3, tI a4, tI a5, Tree.bool a6, Tree.str a7, Tree.sl (2:Nat) a8] =
  Option.bind (apure C n (20:Nat) [tI a1, tI a2, tI a3, tI a4, tI a5, Tree.bool a6, Tree.str a7, Tree.sl (2:Nat) a8]) fun y9 => cnd (List.length y9 = (1:Nat)) (cnd (okI y9 0) (cnd (((gI y9 0) !=
  (0:Int)) = true) (some [tI (0:Int), tI (1:Int)]) (Option.bind (apure C n (49:Nat) [tI a0, tI (1:Int), tI (1000:Int)]) fun y10 => cnd (List.length y10 = (1:Nat)) (cnd (okB y10 0) (cnd ((!(gB y10 0)) =
  true) (some [tI (0:Int), tI (2:Int)]) (cnd ((a1 != (1:Int)) = true) (some [tI (0:Int), tI (0:Int)]) (cnd (a0 = (0:Int)) none (some [tI (w64 (Int.tdiv (w64 ((w64 ((w64 (((ByteArray.size a7:Nat):Int) +
  (8:Int))) + a0)) - (1:Int))) a0)), tI (0:Int)])))) none) none)) none) none := by kernel_rfl

noncomputable def J32_1 (n : Nat) (again23 : (List AV × Heap) → Option (List Tree)) (p30 : List AV × Heap) : Option (List Tree) :=
  again23 ([], [AObj.box [AV.func (Fn.func 57) [] []], AObj.row false (oVer p30 1) (2:Nat) (oEs p30 1), AObj.box [AV.sref (1:Nat) (cVer p30 2 0) (cOff p30 2 0) (cLen p30 2 0)], AObj.box [AV.t (Tree.bool
  (cB p30 3 0))], AObj.box [], AObj.box [AV.t (Tree.sl (2:Nat) (cL p30 5 0)), AV.t (tI (cI p30 5 1)), AV.t (Tree.bool (!(cB p30 5 2)))], AObj.box [AV.t (Tree.sl (2:Nat) (cL p30 6 0)), AV.t (tI (cI p30 6
  1)), AV.t (Tree.bool (cB p30 6 2))]])

noncomputable def J32_2 (n : Nat) (again23 : (List AV × Heap) → Option (List Tree)) (p28 : List AV × Heap) : Option (List Tree) :=
  cnd (vB p28 0 = true) (again23 ([], [AObj.box [AV.func (Fn.func 57) [] []], AObj.row false (oVer p28 1) (2:Nat) (oEs p28 1), AObj.box [AV.sref (1:Nat) (cVer p28 2 0) (cOff p28 2 0) (cLen p28 2 0)],
  AObj.box [AV.t (Tree.bool (cB p28 3 0))], AObj.box [], AObj.box [AV.t (Tree.sl (2:Nat) (cL p28 5 0)), AV.t (tI (cI p28 5 1)), AV.t (Tree.bool (cB p28 5 2))], AObj.box [AV.t (Tree.sl (2:Nat) (cL p28 6
  0)), AV.t (tI (cI p28 6 1)), AV.t (Tree.bool (cB p28 6 2))]])) (join (fun (p30 : List AV × Heap) => J32_1 n again23 p30) fun (again31 : _ → Option (List Tree)) => cnd (cB p28 5 2 = true) (again31 ([],
  [AObj.box [AV.func (Fn.func 57) [] []], AObj.row false (oVer p28 1) (2:Nat) (oEs p28 1), AObj.box [AV.sref (1:Nat) (cVer p28 2 0) (cOff p28 2 0) (cLen p28 2 0)], AObj.box [AV.t (Tree.bool (cB p28 3
  0))], AObj.box [], AObj.box [AV.t (Tree.sl (2:Nat) (cL p28 5 0)), AV.t (tI (w64 ((cI p28 5 1) + (1:Int)))), AV.t (Tree.bool (cB p28 5 2))], AObj.box [AV.t (Tree.sl (2:Nat) (cL p28 6 0)), AV.t (tI (cI
  p28 6 1)), AV.t (Tree.bool (cB p28 6 2))]])) (again31 ([], [AObj.box [AV.func (Fn.func 57) [] []], AObj.row false (oVer p28 1) (2:Nat) (oEs p28 1), AObj.box [AV.sref (1:Nat) (cVer p28 2 0) (cOff p28 2
  0) (cLen p28 2 0)], AObj.box [AV.t (Tree.bool (cB p28 3 0))], AObj.box [], AObj.box [AV.t (Tree.sl (2:Nat) (cL p28 5 0)), AV.t (tI (cI p28 5 1)), AV.t (Tree.bool (cB p28 5 2))], AObj.box [AV.t
  (Tree.sl (2:Nat) (cL p28 6 0)), AV.t (tI (cI p28 6 1)), AV.t (Tree.bool (cB p28 6 2))]])))

noncomputable def J32_3 (n : Nat) (again23 : (List AV × Heap) → Option (List Tree)) (p20 : List AV × Heap) (p24 : List AV × Heap) : Option (List Tree) :=
  join (fun (p28 : List AV × Heap) => J32_2 n again23 p28) fun (again29 : _ → Option (List Tree)) => cnd ((!(vB p24 1)) = true) (again29 ([AV.t (Tree.bool true)], [AObj.box [AV.func (Fn.func 57) [] []],
  AObj.row false (oVer p24 1) (2:Nat) (oEs p24 1), AObj.box [AV.sref (1:Nat) (cVer p24 2 0) (cOff p24 2 0) (cLen p24 2 0)], AObj.box [AV.t (Tree.bool (cB p24 3 0))], AObj.box [], AObj.box [AV.t (Tree.sl
  (2:Nat) (cL p24 5 0)), AV.t (tI (cI p24 5 1)), AV.t (Tree.bool (cB p24 5 2))], AObj.box [AV.t (Tree.sl (2:Nat) (cL p24 6 0)), AV.t (tI (cI p24 6 1)), AV.t (Tree.bool (cB p24 6 2))]])) (again29 ([AV.t
  (Tree.bool ((vI p24 0) != (vI p20 0)))], [AObj.box [AV.func (Fn.func 57) [] []], AObj.row false (oVer p24 1) (2:Nat) (oEs p24 1), AObj.box [AV.sref (1:Nat) (cVer p24 2 0) (cOff p24 2 0) (cLen p24 2
  0)], AObj.box [AV.t (Tree.bool (cB p24 3 0))], AObj.box [], AObj.box [AV.t (Tree.sl (2:Nat) (cL p24 5 0)), AV.t (tI (cI p24 5 1)), AV.t (Tree.bool (cB p24 5 2))], AObj.box [AV.t (Tree.sl (2:Nat) (cL
  p24 6 0)), AV.t (tI (cI p24 6 1)), AV.t (Tree.bool (cB p24 6 2))]]))

noncomputable def J32_4 (n : Nat) (again33 : (List AV × Heap) → Option (List Tree)) (p40 : List AV × Heap) : Option (List Tree) :=
  again33 ([], [AObj.box [AV.func (Fn.func 57) [] []], AObj.row false (oVer p40 1) (2:Nat) (oEs p40 1), AObj.box [AV.sref (1:Nat) (cVer p40 2 0) (cOff p40 2 0) (cLen p40 2 0)], AObj.box [AV.t (Tree.bool
  (cB p40 3 0))], AObj.box [], AObj.box [AV.t (Tree.sl (2:Nat) (cL p40 5 0)), AV.t (tI (cI p40 5 1)), AV.t (Tree.bool (cB p40 5 2))], AObj.box [AV.t (Tree.sl (2:Nat) (cL p40 6 0)), AV.t (tI (cI p40 6
  1)), AV.t (Tree.bool (!(cB p40 6 2)))]])

noncomputable def J32_5 (n : Nat) (again33 : (List AV × Heap) → Option (List Tree)) (p38 : List AV × Heap) : Option (List Tree) :=
  cnd (vB p38 0 = true) (again33 ([], [AObj.box [AV.func (Fn.func 57) [] []], AObj.row false (oVer p38 1) (2:Nat) (oEs p38 1), AObj.box [AV.sref (1:Nat) (cVer p38 2 0) (cOff p38 2 0) (cLen p38 2 0)],
  AObj.box [AV.t (Tree.bool (cB p38 3 0))], AObj.box [], AObj.box [AV.t (Tree.sl (2:Nat) (cL p38 5 0)), AV.t (tI (cI p38 5 1)), AV.t (Tree.bool (cB p38 5 2))], AObj.box [AV.t (Tree.sl (2:Nat) (cL p38 6
  0)), AV.t (tI (cI p38 6 1)), AV.t (Tree.bool (cB p38 6 2))]])) (join (fun (p40 : List AV × Heap) => J32_4 n again33 p40) fun (again41 : _ → Option (List Tree)) => cnd (cB p38 6 2 = true) (again41 ([],
  [AObj.box [AV.func (Fn.func 57) [] []], AObj.row false (oVer p38 1) (2:Nat) (oEs p38 1), AObj.box [AV.sref (1:Nat) (cVer p38 2 0) (cOff p38 2 0) (cLen p38 2 0)], AObj.box [AV.t (Tree.bool (cB p38 3
  0))], AObj.box [], AObj.box [AV.t (Tree.sl (2:Nat) (cL p38 5 0)), AV.t (tI (cI p38 5 1)), AV.t (Tree.bool (cB p38 5 2))], AObj.box [AV.t (Tree.sl (2:Nat) (cL p38 6 0)), AV.t (tI (w64 ((cI p38 6 1) +
  (1:Int)))), AV.t (Tree.bool (cB p38 6 2))]])) (again41 ([], [AObj.box [AV.func (Fn.func 57) [] []], AObj.row false (oVer p38 1) (2:Nat) (oEs p38 1), AObj.box [AV.sref (1:Nat) (cVer p38 2 0) (cOff p38
  2 0) (cLen p38 2 0)], AObj.box [AV.t (Tree.bool (cB p38 3 0))], AObj.box [], AObj.box [AV.t (Tree.sl (2:Nat) (cL p38 5 0)), AV.t (tI (cI p38 5 1)), AV.t (Tree.bool (cB p38 5 2))], AObj.box [AV.t
  (Tree.sl (2:Nat) (cL p38 6 0)), AV.t (tI (cI p38 6 1)), AV.t (Tree.bool (cB p38 6 2))]])))

noncomputable def J32_6 (n : Nat) (again33 : (List AV × Heap) → Option (List Tree)) (p20 : List AV × Heap) (p34 : List AV × Heap) : Option (List Tree) :=
  join (fun (p38 : List AV × Heap) => J32_5 n again33 p38) fun (again39 : _ → Option (List Tree)) => cnd ((!(vB p34 1)) = true) (again39 ([AV.t (Tree.bool true)], [AObj.box [AV.func (Fn.func 57) [] []],
  AObj.row false (oVer p34 1) (2:Nat) (oEs p34 1), AObj.box [AV.sref (1:Nat) (cVer p34 2 0) (cOff p34 2 0) (cLen p34 2 0)], AObj.box [AV.t (Tree.bool (cB p34 3 0))], AObj.box [], AObj.box [AV.t (Tree.sl
  (2:Nat) (cL p34 5 0)), AV.t (tI (cI p34 5 1)), AV.t (Tree.bool (cB p34 5 2))], AObj.box [AV.t (Tree.sl (2:Nat) (cL p34 6 0)), AV.t (tI (cI p34 6 1)), AV.t (Tree.bool (cB p34 6 2))]])) (again39 ([AV.t
  (Tree.bool ((vI p34 0) != (vI p20 0)))], [AObj.box [AV.func (Fn.func 57) [] []], AObj.row false (oVer p34 1) (2:Nat) (oEs p34 1), AObj.box [AV.sref (1:Nat) (cVer p34 2 0) (cOff p34 2 0) (cLen p34 2
  0)], AObj.box [AV.t (Tree.bool (cB p34 3 0))], AObj.box [], AObj.box [AV.t (Tree.sl (2:Nat) (cL p34 5 0)), AV.t (tI (cI p34 5 1)), AV.t (Tree.bool (cB p34 5 2))], AObj.box [AV.t (Tree.sl (2:Nat) (cL
  p34 6 0)), AV.t (tI (cI p34 6 1)), AV.t (Tree.bool (cB p34 6 2))]]))

noncomputable def J32_7 (n : Nat) (again46 : (List AV × Heap) → Option (List Tree)) (p49 : List AV × Heap) : Option (List Tree) :=
  again46 ([], [AObj.box [AV.func (Fn.func 57) [] []], AObj.row false (oVer p49 1) (2:Nat) (oEs p49 1), AObj.box [AV.sref (1:Nat) (cVer p49 2 0) (cOff p49 2 0) (cLen p49 2 0)], AObj.box [AV.t (Tree.bool
  (cB p49 3 0))], AObj.box [], AObj.box [AV.t (Tree.sl (2:Nat) (cL p49 5 0)), AV.t (tI (cI p49 5 1)), AV.t (Tree.bool (cB p49 5 2))], AObj.box [AV.t (Tree.sl (2:Nat) (cL p49 6 0)), AV.t (tI (cI p49 6
  1)), AV.t (Tree.bool (cB p49 6 2))], AObj.box [AV.t (Tree.bool (cB p49 7 0)), AV.t (Tree.bool (cB p49 7 1))]])

noncomputable def J32_8 (n : Nat) (again46 : (List AV × Heap) → Option (List Tree)) (p20 : List AV × Heap) (p47 : List AV × Heap) : Option (List Tree) :=
  join (fun (p49 : List AV × Heap) => J32_7 n again46 p49) fun (again50 : _ → Option (List Tree)) => cnd (vB p47 0 = true) (cnd (oVer p47 1 = cVer p47 2 0) (cnd (oVer p47 1 = cVer p47 2 0 ∧ (2:Nat) =
  (2:Nat) ∧ (0:Int) ≤ w64 (((cLen p47 2 0:Nat):Int) - (1:Int)) ∧ w64 (((cLen p47 2 0:Nat):Int) - (1:Int)) < ((cLen p47 2 0:Nat):Int)) (cnd (oVer p47 1 = cVer p47 2 0) (cnd (oVer p47 1 = cVer p47 2 0 ∧
  (2:Nat) ≤ (2:Nat)) (Option.bind (oEs p47 1)[(cOff p47 2 0) + (Int.toNat (w64 (((cLen p47 2 0:Nat):Int) - (1:Int))))]? fun y51 => again50 ([], [AObj.box [AV.func (Fn.func 57) [] []], AObj.row false
  (cVer p47 2 0) (2:Nat) (List.set (oEs p47 1) ((cOff p47 2 0) + (Int.toNat (w64 (((cLen p47 2 0:Nat):Int) - (1:Int))))) (List.take (1:Nat) y51 ++ ([tI (vI p20 0)] ++ List.drop (2:Nat) y51))), AObj.box
  [AV.sref (1:Nat) (cVer p47 2 0) (cOff p47 2 0) (cLen p47 2 0)], AObj.box [AV.t (Tree.bool (cB p47 3 0))], AObj.box [], AObj.box [AV.t (Tree.sl (2:Nat) (cL p47 5 0)), AV.t (tI (cI p47 5 1)), AV.t
  (Tree.bool (cB p47 5 2))], AObj.box [AV.t (Tree.sl (2:Nat) (cL p47 6 0)), AV.t (tI (cI p47 6 1)), AV.t (Tree.bool (cB p47 6 2))], AObj.box [AV.t (Tree.bool (cB p47 7 0)), AV.t (Tree.bool (cB p47 7
  1))]])) none) none) none) none) (again50 ([], [AObj.box [AV.func (Fn.func 57) [] []], AObj.row false (oVer p47 1) (2:Nat) (oEs p47 1), AObj.box [AV.sref (1:Nat) (cVer p47 2 0) (cOff p47 2 0) (cLen p47
  2 0)], AObj.box [AV.t (Tree.bool (cB p47 3 0))], AObj.box [], AObj.box [AV.t (Tree.sl (2:Nat) (cL p47 5 0)), AV.t (tI (cI p47 5 1)), AV.t (Tree.bool (cB p47 5 2))], AObj.box [AV.t (Tree.sl (2:Nat) (cL
  p47 6 0)), AV.t (tI (cI p47 6 1)), AV.t (Tree.bool (cB p47 6 2))], AObj.box [AV.t (Tree.bool (cB p47 7 0)), AV.t (Tree.bool (cB p47 7 1))]]))

noncomputable def J32_9 (n : Nat) (again7 : (List AV × Heap) → Option (List Tree)) (y42 : List Tree) (p45 : List AV × Heap) : Option (List Tree) :=
  again7 ([], [AObj.box [AV.func (Fn.func 57) [] []], AObj.row false (oVer p45 1) (2:Nat) (oEs p45 1), AObj.box [AV.sref (1:Nat) (cVer p45 2 0) (cOff p45 2 0) (cLen p45 2 0)], AObj.box [AV.t (Tree.bool
  (gB y42 0))], AObj.box [], AObj.box [AV.t (Tree.sl (2:Nat) (cL p45 5 0)), AV.t (tI (cI p45 5 1)), AV.t (Tree.bool (cB p45 5 2))], AObj.box [AV.t (Tree.sl (2:Nat) (cL p45 6 0)), AV.t (tI (cI p45 6 1)),
  AV.t (Tree.bool (cB p45 6 2))]])

noncomputable def J32_10 (n : Nat) (again7 : (List AV × Heap) → Option (List Tree)) (y42 : List Tree) (p20 : List AV × Heap) (p43 : List AV × Heap) : Option (List Tree) :=
  join (fun (p45 : List AV × Heap) => J32_9 n again7 y42 p45) fun (again46 : _ → Option (List Tree)) => cnd (vB p43 0 = true) (cnd (oVer p43 1 = cVer p43 2 0 ∧ ((2:Nat) = (2:Nat) ∨ (2:Nat) = (0:Nat)) ∧
  (cOff p43 2 0) + (cLen p43 2 0) ≤ List.length (oEs p43 1) ∧ (cLen p43 2 0) + (1:Nat) ≤ (1073741824:Nat)) (again46 ([], [AObj.box [AV.func (Fn.func 57) [] []], AObj.row false ((cVer p43 2 0) + (1:Nat))
  (2:Nat) ((List.take (cLen p43 2 0) (List.drop (cOff p43 2 0) (oEs p43 1))) ++ [[tI (vI p20 0), tI (0:Int)]]), AObj.box [AV.sref (1:Nat) ((cVer p43 2 0) + (1:Nat)) (0:Nat) ((cLen p43 2 0) + (1:Nat))],
  AObj.box [AV.t (Tree.bool (cB p43 3 0))], AObj.box [], AObj.box [AV.t (Tree.sl (2:Nat) (cL p43 5 0)), AV.t (tI (cI p43 5 1)), AV.t (Tree.bool (cB p43 5 2))], AObj.box [AV.t (Tree.sl (2:Nat) (cL p43 6
  0)), AV.t (tI (cI p43 6 1)), AV.t (Tree.bool (cB p43 6 2))], AObj.box [AV.t (Tree.bool (cB p43 7 0)), AV.t (Tree.bool (cB p43 7 1))]])) none) (join (fun (p47 : List AV × Heap) => J32_8 n again46 p20
  p47) fun (again48 : _ → Option (List Tree)) => cnd ((!(gB y42 0)) = true) (again48 ([AV.t (Tree.bool (cB p43 3 0))], [AObj.box [AV.func (Fn.func 57) [] []], AObj.row false (oVer p43 1) (2:Nat) (oEs
  p43 1), AObj.box [AV.sref (1:Nat) (cVer p43 2 0) (cOff p43 2 0) (cLen p43 2 0)], AObj.box [AV.t (Tree.bool (cB p43 3 0))], AObj.box [], AObj.box [AV.t (Tree.sl (2:Nat) (cL p43 5 0)), AV.t (tI (cI p43
  5 1)), AV.t (Tree.bool (cB p43 5 2))], AObj.box [AV.t (Tree.sl (2:Nat) (cL p43 6 0)), AV.t (tI (cI p43 6 1)), AV.t (Tree.bool (cB p43 6 2))], AObj.box [AV.t (Tree.bool (cB p43 7 0)), AV.t (Tree.bool
  (cB p43 7 1))]])) (again48 ([AV.t (Tree.bool false)], [AObj.box [AV.func (Fn.func 57) [] []], AObj.row false (oVer p43 1) (2:Nat) (oEs p43 1), AObj.box [AV.sref (1:Nat) (cVer p43 2 0) (cOff p43 2 0)
  (cLen p43 2 0)], AObj.box [AV.t (Tree.bool (cB p43 3 0))], AObj.box [], AObj.box [AV.t (Tree.sl (2:Nat) (cL p43 5 0)), AV.t (tI (cI p43 5 1)), AV.t (Tree.bool (cB p43 5 2))], AObj.box [AV.t (Tree.sl
  (2:Nat) (cL p43 6 0)), AV.t (tI (cI p43 6 1)), AV.t (Tree.bool (cB p43 6 2))], AObj.box [AV.t (Tree.bool (cB p43 7 0)), AV.t (Tree.bool (cB p43 7 1))]])))

noncomputable def J32_11 (n : Nat) (again7 : (List AV × Heap) → Option (List Tree)) (p20 : List AV × Heap) (p32 : List AV × Heap) : Option (List Tree) :=
  Option.bind (apure C n (57:Nat) [Tree.bool (cB p32 5 2), Tree.bool (cB p32 6 2)]) fun y42 => cnd (List.length y42 = (1:Nat)) (cnd (okB y42 0) (join (fun (p43 : List AV × Heap) => J32_10 n again7 y42
  p20 p43) fun (again44 : _ → Option (List Tree)) => cnd (gB y42 0 = true) (again44 ([AV.t (Tree.bool (!(cB p32 3 0)))], [AObj.box [AV.func (Fn.func 57) [] []], AObj.row false (oVer p32 1) (2:Nat) (oEs
  p32 1), AObj.box [AV.sref (1:Nat) (cVer p32 2 0) (cOff p32 2 0) (cLen p32 2 0)], AObj.box [AV.t (Tree.bool (cB p32 3 0))], AObj.box [], AObj.box [AV.t (Tree.sl (2:Nat) (cL p32 5 0)), AV.t (tI (cI p32
  5 1)), AV.t (Tree.bool (cB p32 5 2))], AObj.box [AV.t (Tree.sl (2:Nat) (cL p32 6 0)), AV.t (tI (cI p32 6 1)), AV.t (Tree.bool (cB p32 6 2))], AObj.box [AV.t (Tree.bool (cB p32 5 2)), AV.t (Tree.bool
  (cB p32 6 2))]])) (again44 ([AV.t (Tree.bool false)], [AObj.box [AV.func (Fn.func 57) [] []], AObj.row false (oVer p32 1) (2:Nat) (oEs p32 1), AObj.box [AV.sref (1:Nat) (cVer p32 2 0) (cOff p32 2 0)
  (cLen p32 2 0)], AObj.box [AV.t (Tree.bool (cB p32 3 0))], AObj.box [], AObj.box [AV.t (Tree.sl (2:Nat) (cL p32 5 0)), AV.t (tI (cI p32 5 1)), AV.t (Tree.bool (cB p32 5 2))], AObj.box [AV.t (Tree.sl
  (2:Nat) (cL p32 6 0)), AV.t (tI (cI p32 6 1)), AV.t (Tree.bool (cB p32 6 2))], AObj.box [AV.t (Tree.bool (cB p32 5 2)), AV.t (Tree.bool (cB p32 6 2))]]))) none) none

noncomputable def J32_12 (n : Nat) (again7 : (List AV × Heap) → Option (List Tree)) (p20 : List AV × Heap) (p22 : List AV × Heap) : Option (List Tree) :=
  join (fun (p32 : List AV × Heap) => J32_11 n again7 p20 p32) fun (again33 : _ → Option (List Tree)) => join (fun (p34 : List AV × Heap) => J32_6 n again33 p20 p34) fun (again35 : _ → Option (List
  Tree)) => cnd (((cI p22 6 1) == ((List.length (cL p22 6 0):Nat):Int)) = true) (again35 ([AV.t (tI (0:Int)), AV.t (Tree.bool false)], [AObj.box [AV.func (Fn.func 57) [] []], AObj.row false (oVer p22 1)
  (2:Nat) (oEs p22 1), AObj.box [AV.sref (1:Nat) (cVer p22 2 0) (cOff p22 2 0) (cLen p22 2 0)], AObj.box [AV.t (Tree.bool (cB p22 3 0))], AObj.box [], AObj.box [AV.t (Tree.sl (2:Nat) (cL p22 5 0)), AV.t
  (tI (cI p22 5 1)), AV.t (Tree.bool (cB p22 5 2))], AObj.box [AV.t (Tree.sl (2:Nat) (cL p22 6 0)), AV.t (tI (cI p22 6 1)), AV.t (Tree.bool (cB p22 6 2))]])) (cnd (cB p22 6 2 = true) (cnd ((2:Nat) =
  (2:Nat) ∧ (0:Int) ≤ cI p22 6 1) (Option.bind (cL p22 6 0)[Int.toNat (cI p22 6 1)]? fun y36 => cnd (okI y36 1) (again35 ([AV.t (tI (gI y36 1)), AV.t (Tree.bool true)], [AObj.box [AV.func (Fn.func 57)
  [] []], AObj.row false (oVer p22 1) (2:Nat) (oEs p22 1), AObj.box [AV.sref (1:Nat) (cVer p22 2 0) (cOff p22 2 0) (cLen p22 2 0)], AObj.box [AV.t (Tree.bool (cB p22 3 0))], AObj.box [], AObj.box [AV.t
  (Tree.sl (2:Nat) (cL p22 5 0)), AV.t (tI (cI p22 5 1)), AV.t (Tree.bool (cB p22 5 2))], AObj.box [AV.t (Tree.sl (2:Nat) (cL p22 6 0)), AV.t (tI (cI p22 6 1)), AV.t (Tree.bool (cB p22 6 2))]])) none)
  none) (cnd ((2:Nat) = (2:Nat) ∧ (0:Int) ≤ cI p22 6 1) (Option.bind (cL p22 6 0)[Int.toNat (cI p22 6 1)]? fun y37 => cnd (okI y37 0) (again35 ([AV.t (tI (gI y37 0)), AV.t (Tree.bool true)], [AObj.box
  [AV.func (Fn.func 57) [] []], AObj.row false (oVer p22 1) (2:Nat) (oEs p22 1), AObj.box [AV.sref (1:Nat) (cVer p22 2 0) (cOff p22 2 0) (cLen p22 2 0)], AObj.box [AV.t (Tree.bool (cB p22 3 0))],
  AObj.box [], AObj.box [AV.t (Tree.sl (2:Nat) (cL p22 5 0)), AV.t (tI (cI p22 5 1)), AV.t (Tree.bool (cB p22 5 2))], AObj.box [AV.t (Tree.sl (2:Nat) (cL p22 6 0)), AV.t (tI (cI p22 6 1)), AV.t
  (Tree.bool (cB p22 6 2))]])) none) none))

noncomputable def J32_13 (n : Nat) (again7 : (List AV × Heap) → Option (List Tree)) (p20 : List AV × Heap) : Option (List Tree) :=
  join (fun (p22 : List AV × Heap) => J32_12 n again7 p20 p22) fun (again23 : _ → Option (List Tree)) => join (fun (p24 : List AV × Heap) => J32_3 n again23 p20 p24) fun (again25 : _ → Option (List
  Tree)) => cnd (((cI p20 5 1) == ((List.length (cL p20 5 0):Nat):Int)) = true) (again25 ([AV.t (tI (0:Int)), AV.t (Tree.bool false)], [AObj.box [AV.func (Fn.func 57) [] []], AObj.row false (oVer p20 1)
  (2:Nat) (oEs p20 1), AObj.box [AV.sref (1:Nat) (cVer p20 2 0) (cOff p20 2 0) (cLen p20 2 0)], AObj.box [AV.t (Tree.bool (cB p20 3 0))], AObj.box [], AObj.box [AV.t (Tree.sl (2:Nat) (cL p20 5 0)), AV.t
  (tI (cI p20 5 1)), AV.t (Tree.bool (cB p20 5 2))], AObj.box [AV.t (Tree.sl (2:Nat) (cL p20 6 0)), AV.t (tI (cI p20 6 1)), AV.t (Tree.bool (cB p20 6 2))]])) (cnd (cB p20 5 2 = true) (cnd ((2:Nat) =
  (2:Nat) ∧ (0:Int) ≤ cI p20 5 1) (Option.bind (cL p20 5 0)[Int.toNat (cI p20 5 1)]? fun y26 => cnd (okI y26 1) (again25 ([AV.t (tI (gI y26 1)), AV.t (Tree.bool true)], [AObj.box [AV.func (Fn.func 57)
  [] []], AObj.row false (oVer p20 1) (2:Nat) (oEs p20 1), AObj.box [AV.sref (1:Nat) (cVer p20 2 0) (cOff p20 2 0) (cLen p20 2 0)], AObj.box [AV.t (Tree.bool (cB p20 3 0))], AObj.box [], AObj.box [AV.t
  (Tree.sl (2:Nat) (cL p20 5 0)), AV.t (tI (cI p20 5 1)), AV.t (Tree.bool (cB p20 5 2))], AObj.box [AV.t (Tree.sl (2:Nat) (cL p20 6 0)), AV.t (tI (cI p20 6 1)), AV.t (Tree.bool (cB p20 6 2))]])) none)
  none) (cnd ((2:Nat) = (2:Nat) ∧ (0:Int) ≤ cI p20 5 1) (Option.bind (cL p20 5 0)[Int.toNat (cI p20 5 1)]? fun y27 => cnd (okI y27 0) (again25 ([AV.t (tI (gI y27 0)), AV.t (Tree.bool true)], [AObj.box
  [AV.func (Fn.func 57) [] []], AObj.row false (oVer p20 1) (2:Nat) (oEs p20 1), AObj.box [AV.sref (1:Nat) (cVer p20 2 0) (cOff p20 2 0) (cLen p20 2 0)], AObj.box [AV.t (Tree.bool (cB p20 3 0))],
  AObj.box [], AObj.box [AV.t (Tree.sl (2:Nat) (cL p20 5 0)), AV.t (tI (cI p20 5 1)), AV.t (Tree.bool (cB p20 5 2))], AObj.box [AV.t (Tree.sl (2:Nat) (cL p20 6 0)), AV.t (tI (cI p20 6 1)), AV.t
  (Tree.bool (cB p20 6 2))]])) none) none))

noncomputable def J32_14 (n : Nat) (again7 : (List AV × Heap) → Option (List Tree)) (p12 : List AV × Heap) (p8 : List AV × Heap) (p18 : List AV × Heap) : Option (List Tree) :=
  join (fun (p20 : List AV × Heap) => J32_13 n again7 p20) fun (again21 : _ → Option (List Tree)) => cnd (vB p18 0 = true) (again21 ([AV.t (tI (vI p12 0))], [AObj.box [AV.func (Fn.func 57) [] []],
  AObj.row false (oVer p18 1) (2:Nat) (oEs p18 1), AObj.box [AV.sref (1:Nat) (cVer p18 2 0) (cOff p18 2 0) (cLen p18 2 0)], AObj.box [AV.t (Tree.bool (cB p18 3 0))], AObj.box [], AObj.box [AV.t (Tree.sl
  (2:Nat) (cL p18 5 0)), AV.t (tI (cI p18 5 1)), AV.t (Tree.bool (cB p18 5 2))], AObj.box [AV.t (Tree.sl (2:Nat) (cL p18 6 0)), AV.t (tI (cI p18 6 1)), AV.t (Tree.bool (cB p18 6 2))]])) (again21 ([AV.t
  (tI (vI p8 0))], [AObj.box [AV.func (Fn.func 57) [] []], AObj.row false (oVer p18 1) (2:Nat) (oEs p18 1), AObj.box [AV.sref (1:Nat) (cVer p18 2 0) (cOff p18 2 0) (cLen p18 2 0)], AObj.box [AV.t
  (Tree.bool (cB p18 3 0))], AObj.box [], AObj.box [AV.t (Tree.sl (2:Nat) (cL p18 5 0)), AV.t (tI (cI p18 5 1)), AV.t (Tree.bool (cB p18 5 2))], AObj.box [AV.t (Tree.sl (2:Nat) (cL p18 6 0)), AV.t (tI
  (cI p18 6 1)), AV.t (Tree.bool (cB p18 6 2))]]))

noncomputable def J32_15 (n : Nat) (again7 : (List AV × Heap) → Option (List Tree)) (p12 : List AV × Heap) (p8 : List AV × Heap) (p16 : List AV × Heap) : Option (List Tree) :=
  cnd (vB p16 0 = true) (cnd (oVer p16 1 = cVer p16 2 0) (cnd (decide (((cLen p16 2 0:Nat):Int) > (1000:Int)) = true) (some [Tree.sl (2:Nat) [], tI (4:Int)]) (cnd ((false = true ∨ false = false) ∧ oVer
  p16 1 = cVer p16 2 0 ∧ ((2:Nat) = (2:Nat) ∨ (2:Nat) = (0:Nat))) (some [Tree.sl (2:Nat) (List.take (cLen p16 2 0) (List.drop (cOff p16 2 0) (oEs p16 1))), tI (0:Int)]) none)) none) (join (fun (p18 :
  List AV × Heap) => J32_14 n again7 p12 p8 p18) fun (again19 : _ → Option (List Tree)) => cnd ((!(vB p8 1)) = true) (again19 ([AV.t (Tree.bool true)], [AObj.box [AV.func (Fn.func 57) [] []], AObj.row
  false (oVer p16 1) (2:Nat) (oEs p16 1), AObj.box [AV.sref (1:Nat) (cVer p16 2 0) (cOff p16 2 0) (cLen p16 2 0)], AObj.box [AV.t (Tree.bool (cB p16 3 0))], AObj.box [], AObj.box [AV.t (Tree.sl (2:Nat)
  (cL p16 5 0)), AV.t (tI (cI p16 5 1)), AV.t (Tree.bool (cB p16 5 2))], AObj.box [AV.t (Tree.sl (2:Nat) (cL p16 6 0)), AV.t (tI (cI p16 6 1)), AV.t (Tree.bool (cB p16 6 2))]])) (cnd (vB p12 1 = true)
  (again19 ([AV.t (Tree.bool (decide (vI p12 0 < vI p8 0)))], [AObj.box [AV.func (Fn.func 57) [] []], AObj.row false (oVer p16 1) (2:Nat) (oEs p16 1), AObj.box [AV.sref (1:Nat) (cVer p16 2 0) (cOff p16
  2 0) (cLen p16 2 0)], AObj.box [AV.t (Tree.bool (cB p16 3 0))], AObj.box [], AObj.box [AV.t (Tree.sl (2:Nat) (cL p16 5 0)), AV.t (tI (cI p16 5 1)), AV.t (Tree.bool (cB p16 5 2))], AObj.box [AV.t
  (Tree.sl (2:Nat) (cL p16 6 0)), AV.t (tI (cI p16 6 1)), AV.t (Tree.bool (cB p16 6 2))]])) (again19 ([AV.t (Tree.bool false)], [AObj.box [AV.func (Fn.func 57) [] []], AObj.row false (oVer p16 1)
  (2:Nat) (oEs p16 1), AObj.box [AV.sref (1:Nat) (cVer p16 2 0) (cOff p16 2 0) (cLen p16 2 0)], AObj.box [AV.t (Tree.bool (cB p16 3 0))], AObj.box [], AObj.box [AV.t (Tree.sl (2:Nat) (cL p16 5 0)), AV.t
  (tI (cI p16 5 1)), AV.t (Tree.bool (cB p16 5 2))], AObj.box [AV.t (Tree.sl (2:Nat) (cL p16 6 0)), AV.t (tI (cI p16 6 1)), AV.t (Tree.bool (cB p16 6 2))]]))))

noncomputable def J32_16 (n : Nat) (again7 : (List AV × Heap) → Option (List Tree)) (p8 : List AV × Heap) (p12 : List AV × Heap) : Option (List Tree) :=
  join (fun (p16 : List AV × Heap) => J32_15 n again7 p12 p8 p16) fun (again17 : _ → Option (List Tree)) => cnd ((!(vB p8 1)) = true) (again17 ([AV.t (Tree.bool (!(vB p12 1)))], [AObj.box [AV.func
  (Fn.func 57) [] []], AObj.row false (oVer p12 1) (2:Nat) (oEs p12 1), AObj.box [AV.sref (1:Nat) (cVer p12 2 0) (cOff p12 2 0) (cLen p12 2 0)], AObj.box [AV.t (Tree.bool (cB p12 3 0))], AObj.box [],
  AObj.box [AV.t (Tree.sl (2:Nat) (cL p12 5 0)), AV.t (tI (cI p12 5 1)), AV.t (Tree.bool (cB p12 5 2))], AObj.box [AV.t (Tree.sl (2:Nat) (cL p12 6 0)), AV.t (tI (cI p12 6 1)), AV.t (Tree.bool (cB p12 6
  2))]])) (again17 ([AV.t (Tree.bool false)], [AObj.box [AV.func (Fn.func 57) [] []], AObj.row false (oVer p12 1) (2:Nat) (oEs p12 1), AObj.box [AV.sref (1:Nat) (cVer p12 2 0) (cOff p12 2 0) (cLen p12 2
  0)], AObj.box [AV.t (Tree.bool (cB p12 3 0))], AObj.box [], AObj.box [AV.t (Tree.sl (2:Nat) (cL p12 5 0)), AV.t (tI (cI p12 5 1)), AV.t (Tree.bool (cB p12 5 2))], AObj.box [AV.t (Tree.sl (2:Nat) (cL
  p12 6 0)), AV.t (tI (cI p12 6 1)), AV.t (Tree.bool (cB p12 6 2))]]))

noncomputable def J32_17 (n : Nat) (again7 : (List AV × Heap) → Option (List Tree)) (p8 : List AV × Heap) : Option (List Tree) :=
  join (fun (p12 : List AV × Heap) => J32_16 n again7 p8 p12) fun (again13 : _ → Option (List Tree)) => cnd (((cI p8 6 1) == ((List.length (cL p8 6 0):Nat):Int)) = true) (again13 ([AV.t (tI (0:Int)),
  AV.t (Tree.bool false)], [AObj.box [AV.func (Fn.func 57) [] []], AObj.row false (oVer p8 1) (2:Nat) (oEs p8 1), AObj.box [AV.sref (1:Nat) (cVer p8 2 0) (cOff p8 2 0) (cLen p8 2 0)], AObj.box [AV.t
  (Tree.bool (cB p8 3 0))], AObj.box [], AObj.box [AV.t (Tree.sl (2:Nat) (cL p8 5 0)), AV.t (tI (cI p8 5 1)), AV.t (Tree.bool (cB p8 5 2))], AObj.box [AV.t (Tree.sl (2:Nat) (cL p8 6 0)), AV.t (tI (cI p8
  6 1)), AV.t (Tree.bool (cB p8 6 2))]])) (cnd (cB p8 6 2 = true) (cnd ((2:Nat) = (2:Nat) ∧ (0:Int) ≤ cI p8 6 1) (Option.bind (cL p8 6 0)[Int.toNat (cI p8 6 1)]? fun y14 => cnd (okI y14 1) (again13
  ([AV.t (tI (gI y14 1)), AV.t (Tree.bool true)], [AObj.box [AV.func (Fn.func 57) [] []], AObj.row false (oVer p8 1) (2:Nat) (oEs p8 1), AObj.box [AV.sref (1:Nat) (cVer p8 2 0) (cOff p8 2 0) (cLen p8 2
  0)], AObj.box [AV.t (Tree.bool (cB p8 3 0))], AObj.box [], AObj.box [AV.t (Tree.sl (2:Nat) (cL p8 5 0)), AV.t (tI (cI p8 5 1)), AV.t (Tree.bool (cB p8 5 2))], AObj.box [AV.t (Tree.sl (2:Nat) (cL p8 6
  0)), AV.t (tI (cI p8 6 1)), AV.t (Tree.bool (cB p8 6 2))]])) none) none) (cnd ((2:Nat) = (2:Nat) ∧ (0:Int) ≤ cI p8 6 1) (Option.bind (cL p8 6 0)[Int.toNat (cI p8 6 1)]? fun y15 => cnd (okI y15 0)
  (again13 ([AV.t (tI (gI y15 0)), AV.t (Tree.bool true)], [AObj.box [AV.func (Fn.func 57) [] []], AObj.row false (oVer p8 1) (2:Nat) (oEs p8 1), AObj.box [AV.sref (1:Nat) (cVer p8 2 0) (cOff p8 2 0)
  (cLen p8 2 0)], AObj.box [AV.t (Tree.bool (cB p8 3 0))], AObj.box [], AObj.box [AV.t (Tree.sl (2:Nat) (cL p8 5 0)), AV.t (tI (cI p8 5 1)), AV.t (Tree.bool (cB p8 5 2))], AObj.box [AV.t (Tree.sl
  (2:Nat) (cL p8 6 0)), AV.t (tI (cI p8 6 1)), AV.t (Tree.bool (cB p8 6 2))]])) none) none))

noncomputable def L32_18 (n : Nat)  (p6 : List AV × Heap) (again7 : (List AV × Heap) → Option (List Tree)) : Option (List Tree) :=
  join (fun (p8 : List AV × Heap) => J32_17 n again7 p8) fun (again9 : _ → Option (List Tree)) => cnd (((cI p6 5 1) == ((List.length (cL p6 5 0):Nat):Int)) = true) (again9 ([AV.t (tI (0:Int)), AV.t
  (Tree.bool false)], [AObj.box [AV.func (Fn.func 57) [] []], AObj.row false (oVer p6 1) (2:Nat) (oEs p6 1), AObj.box [AV.sref (1:Nat) (cVer p6 2 0) (cOff p6 2 0) (cLen p6 2 0)], AObj.box [AV.t
  (Tree.bool (cB p6 3 0))], AObj.box [], AObj.box [AV.t (Tree.sl (2:Nat) (cL p6 5 0)), AV.t (tI (cI p6 5 1)), AV.t (Tree.bool (cB p6 5 2))], AObj.box [AV.t (Tree.sl (2:Nat) (cL p6 6 0)), AV.t (tI (cI p6
  6 1)), AV.t (Tree.bool (cB p6 6 2))]])) (cnd (cB p6 5 2 = true) (cnd ((2:Nat) = (2:Nat) ∧ (0:Int) ≤ cI p6 5 1) (Option.bind (cL p6 5 0)[Int.toNat (cI p6 5 1)]? fun y10 => cnd (okI y10 1) (again9
  ([AV.t (tI (gI y10 1)), AV.t (Tree.bool true)], [AObj.box [AV.func (Fn.func 57) [] []], AObj.row false (oVer p6 1) (2:Nat) (oEs p6 1), AObj.box [AV.sref (1:Nat) (cVer p6 2 0) (cOff p6 2 0) (cLen p6 2
  0)], AObj.box [AV.t (Tree.bool (cB p6 3 0))], AObj.box [], AObj.box [AV.t (Tree.sl (2:Nat) (cL p6 5 0)), AV.t (tI (cI p6 5 1)), AV.t (Tree.bool (cB p6 5 2))], AObj.box [AV.t (Tree.sl (2:Nat) (cL p6 6
  0)), AV.t (tI (cI p6 6 1)), AV.t (Tree.bool (cB p6 6 2))]])) none) none) (cnd ((2:Nat) = (2:Nat) ∧ (0:Int) ≤ cI p6 5 1) (Option.bind (cL p6 5 0)[Int.toNat (cI p6 5 1)]? fun y11 => cnd (okI y11 0)
  (again9 ([AV.t (tI (gI y11 0)), AV.t (Tree.bool true)], [AObj.box [AV.func (Fn.func 57) [] []], AObj.row false (oVer p6 1) (2:Nat) (oEs p6 1), AObj.box [AV.sref (1:Nat) (cVer p6 2 0) (cOff p6 2 0)
  (cLen p6 2 0)], AObj.box [AV.t (Tree.bool (cB p6 3 0))], AObj.box [], AObj.box [AV.t (Tree.sl (2:Nat) (cL p6 5 0)), AV.t (tI (cI p6 5 1)), AV.t (Tree.bool (cB p6 5 2))], AObj.box [AV.t (Tree.sl
  (2:Nat) (cL p6 6 0)), AV.t (tI (cI p6 6 1)), AV.t (Tree.bool (cB p6 6 2))]])) none) none))

noncomputable def J32_19 (n : Nat) (again69 : (List AV × Heap) → Option (List Tree)) (p76 : List AV × Heap) : Option (List Tree) :=
  again69 ([], [AObj.box [AV.func (Fn.func 57) [] []], AObj.row false (oVer p76 1) (2:Nat) (oEs p76 1), AObj.box [AV.sref (1:Nat) (cVer p76 2 0) (cOff p76 2 0) (cLen p76 2 0)], AObj.box [AV.t (Tree.bool
  (cB p76 3 0))], AObj.box [], AObj.box [AV.t (Tree.sl (2:Nat) (cL p76 5 0)), AV.t (tI (cI p76 5 1)), AV.t (Tree.bool (cB p76 5 2))], AObj.box [AV.t (Tree.sl (2:Nat) (cL p76 6 0)), AV.t (tI (cI p76 6
  1)), AV.t (Tree.bool (!(cB p76 6 2)))]])

noncomputable def J32_20 (n : Nat) (again69 : (List AV × Heap) → Option (List Tree)) (p74 : List AV × Heap) : Option (List Tree) :=
  cnd (vB p74 0 = true) (again69 ([], [AObj.box [AV.func (Fn.func 57) [] []], AObj.row false (oVer p74 1) (2:Nat) (oEs p74 1), AObj.box [AV.sref (1:Nat) (cVer p74 2 0) (cOff p74 2 0) (cLen p74 2 0)],
  AObj.box [AV.t (Tree.bool (cB p74 3 0))], AObj.box [], AObj.box [AV.t (Tree.sl (2:Nat) (cL p74 5 0)), AV.t (tI (cI p74 5 1)), AV.t (Tree.bool (cB p74 5 2))], AObj.box [AV.t (Tree.sl (2:Nat) (cL p74 6
  0)), AV.t (tI (cI p74 6 1)), AV.t (Tree.bool (cB p74 6 2))]])) (join (fun (p76 : List AV × Heap) => J32_19 n again69 p76) fun (again77 : _ → Option (List Tree)) => cnd (cB p74 6 2 = true) (again77
  ([], [AObj.box [AV.func (Fn.func 57) [] []], AObj.row false (oVer p74 1) (2:Nat) (oEs p74 1), AObj.box [AV.sref (1:Nat) (cVer p74 2 0) (cOff p74 2 0) (cLen p74 2 0)], AObj.box [AV.t (Tree.bool (cB p74
  3 0))], AObj.box [], AObj.box [AV.t (Tree.sl (2:Nat) (cL p74 5 0)), AV.t (tI (cI p74 5 1)), AV.t (Tree.bool (cB p74 5 2))], AObj.box [AV.t (Tree.sl (2:Nat) (cL p74 6 0)), AV.t (tI (w64 ((cI p74 6 1) +
  (1:Int)))), AV.t (Tree.bool (cB p74 6 2))]])) (again77 ([], [AObj.box [AV.func (Fn.func 57) [] []], AObj.row false (oVer p74 1) (2:Nat) (oEs p74 1), AObj.box [AV.sref (1:Nat) (cVer p74 2 0) (cOff p74
  2 0) (cLen p74 2 0)], AObj.box [AV.t (Tree.bool (cB p74 3 0))], AObj.box [], AObj.box [AV.t (Tree.sl (2:Nat) (cL p74 5 0)), AV.t (tI (cI p74 5 1)), AV.t (Tree.bool (cB p74 5 2))], AObj.box [AV.t
  (Tree.sl (2:Nat) (cL p74 6 0)), AV.t (tI (cI p74 6 1)), AV.t (Tree.bool (cB p74 6 2))]])))

noncomputable def J32_21 (n : Nat) (again69 : (List AV × Heap) → Option (List Tree)) (p66 : List AV × Heap) (p70 : List AV × Heap) : Option (List Tree) :=
  join (fun (p74 : List AV × Heap) => J32_20 n again69 p74) fun (again75 : _ → Option (List Tree)) => cnd ((!(vB p70 1)) = true) (again75 ([AV.t (Tree.bool true)], [AObj.box [AV.func (Fn.func 57) []
  []], AObj.row false (oVer p70 1) (2:Nat) (oEs p70 1), AObj.box [AV.sref (1:Nat) (cVer p70 2 0) (cOff p70 2 0) (cLen p70 2 0)], AObj.box [AV.t (Tree.bool (cB p70 3 0))], AObj.box [], AObj.box [AV.t
  (Tree.sl (2:Nat) (cL p70 5 0)), AV.t (tI (cI p70 5 1)), AV.t (Tree.bool (cB p70 5 2))], AObj.box [AV.t (Tree.sl (2:Nat) (cL p70 6 0)), AV.t (tI (cI p70 6 1)), AV.t (Tree.bool (cB p70 6 2))]]))
  (again75 ([AV.t (Tree.bool ((vI p70 0) != (vI p66 0)))], [AObj.box [AV.func (Fn.func 57) [] []], AObj.row false (oVer p70 1) (2:Nat) (oEs p70 1), AObj.box [AV.sref (1:Nat) (cVer p70 2 0) (cOff p70 2
  0) (cLen p70 2 0)], AObj.box [AV.t (Tree.bool (cB p70 3 0))], AObj.box [], AObj.box [AV.t (Tree.sl (2:Nat) (cL p70 5 0)), AV.t (tI (cI p70 5 1)), AV.t (Tree.bool (cB p70 5 2))], AObj.box [AV.t
  (Tree.sl (2:Nat) (cL p70 6 0)), AV.t (tI (cI p70 6 1)), AV.t (Tree.bool (cB p70 6 2))]]))

noncomputable def J32_22 (n : Nat) (again79 : (List AV × Heap) → Option (List Tree)) (p86 : List AV × Heap) : Option (List Tree) :=
  again79 ([], [AObj.box [AV.func (Fn.func 57) [] []], AObj.row false (oVer p86 1) (2:Nat) (oEs p86 1), AObj.box [AV.sref (1:Nat) (cVer p86 2 0) (cOff p86 2 0) (cLen p86 2 0)], AObj.box [AV.t (Tree.bool
  (cB p86 3 0))], AObj.box [], AObj.box [AV.t (Tree.sl (2:Nat) (cL p86 5 0)), AV.t (tI (cI p86 5 1)), AV.t (Tree.bool (!(cB p86 5 2)))], AObj.box [AV.t (Tree.sl (2:Nat) (cL p86 6 0)), AV.t (tI (cI p86 6
  1)), AV.t (Tree.bool (cB p86 6 2))]])

noncomputable def J32_23 (n : Nat) (again79 : (List AV × Heap) → Option (List Tree)) (p84 : List AV × Heap) : Option (List Tree) :=
  cnd (vB p84 0 = true) (again79 ([], [AObj.box [AV.func (Fn.func 57) [] []], AObj.row false (oVer p84 1) (2:Nat) (oEs p84 1), AObj.box [AV.sref (1:Nat) (cVer p84 2 0) (cOff p84 2 0) (cLen p84 2 0)],
  AObj.box [AV.t (Tree.bool (cB p84 3 0))], AObj.box [], AObj.box [AV.t (Tree.sl (2:Nat) (cL p84 5 0)), AV.t (tI (cI p84 5 1)), AV.t (Tree.bool (cB p84 5 2))], AObj.box [AV.t (Tree.sl (2:Nat) (cL p84 6
  0)), AV.t (tI (cI p84 6 1)), AV.t (Tree.bool (cB p84 6 2))]])) (join (fun (p86 : List AV × Heap) => J32_22 n again79 p86) fun (again87 : _ → Option (List Tree)) => cnd (cB p84 5 2 = true) (again87
  ([], [AObj.box [AV.func (Fn.func 57) [] []], AObj.row false (oVer p84 1) (2:Nat) (oEs p84 1), AObj.box [AV.sref (1:Nat) (cVer p84 2 0) (cOff p84 2 0) (cLen p84 2 0)], AObj.box [AV.t (Tree.bool (cB p84
  3 0))], AObj.box [], AObj.box [AV.t (Tree.sl (2:Nat) (cL p84 5 0)), AV.t (tI (w64 ((cI p84 5 1) + (1:Int)))), AV.t (Tree.bool (cB p84 5 2))], AObj.box [AV.t (Tree.sl (2:Nat) (cL p84 6 0)), AV.t (tI
  (cI p84 6 1)), AV.t (Tree.bool (cB p84 6 2))]])) (again87 ([], [AObj.box [AV.func (Fn.func 57) [] []], AObj.row false (oVer p84 1) (2:Nat) (oEs p84 1), AObj.box [AV.sref (1:Nat) (cVer p84 2 0) (cOff
  p84 2 0) (cLen p84 2 0)], AObj.box [AV.t (Tree.bool (cB p84 3 0))], AObj.box [], AObj.box [AV.t (Tree.sl (2:Nat) (cL p84 5 0)), AV.t (tI (cI p84 5 1)), AV.t (Tree.bool (cB p84 5 2))], AObj.box [AV.t
  (Tree.sl (2:Nat) (cL p84 6 0)), AV.t (tI (cI p84 6 1)), AV.t (Tree.bool (cB p84 6 2))]])))

noncomputable def J32_24 (n : Nat) (again79 : (List AV × Heap) → Option (List Tree)) (p66 : List AV × Heap) (p80 : List AV × Heap) : Option (List Tree) :=
  join (fun (p84 : List AV × Heap) => J32_23 n again79 p84) fun (again85 : _ → Option (List Tree)) => cnd ((!(vB p80 1)) = true) (again85 ([AV.t (Tree.bool true)], [AObj.box [AV.func (Fn.func 57) []
  []], AObj.row false (oVer p80 1) (2:Nat) (oEs p80 1), AObj.box [AV.sref (1:Nat) (cVer p80 2 0) (cOff p80 2 0) (cLen p80 2 0)], AObj.box [AV.t (Tree.bool (cB p80 3 0))], AObj.box [], AObj.box [AV.t
  (Tree.sl (2:Nat) (cL p80 5 0)), AV.t (tI (cI p80 5 1)), AV.t (Tree.bool (cB p80 5 2))], AObj.box [AV.t (Tree.sl (2:Nat) (cL p80 6 0)), AV.t (tI (cI p80 6 1)), AV.t (Tree.bool (cB p80 6 2))]]))
  (again85 ([AV.t (Tree.bool ((vI p80 0) != (vI p66 0)))], [AObj.box [AV.func (Fn.func 57) [] []], AObj.row false (oVer p80 1) (2:Nat) (oEs p80 1), AObj.box [AV.sref (1:Nat) (cVer p80 2 0) (cOff p80 2
  0) (cLen p80 2 0)], AObj.box [AV.t (Tree.bool (cB p80 3 0))], AObj.box [], AObj.box [AV.t (Tree.sl (2:Nat) (cL p80 5 0)), AV.t (tI (cI p80 5 1)), AV.t (Tree.bool (cB p80 5 2))], AObj.box [AV.t
  (Tree.sl (2:Nat) (cL p80 6 0)), AV.t (tI (cI p80 6 1)), AV.t (Tree.bool (cB p80 6 2))]]))

noncomputable def J32_25 (n : Nat) (again92 : (List AV × Heap) → Option (List Tree)) (p95 : List AV × Heap) : Option (List Tree) :=
  again92 ([], [AObj.box [AV.func (Fn.func 57) [] []], AObj.row false (oVer p95 1) (2:Nat) (oEs p95 1), AObj.box [AV.sref (1:Nat) (cVer p95 2 0) (cOff p95 2 0) (cLen p95 2 0)], AObj.box [AV.t (Tree.bool
  (cB p95 3 0))], AObj.box [], AObj.box [AV.t (Tree.sl (2:Nat) (cL p95 5 0)), AV.t (tI (cI p95 5 1)), AV.t (Tree.bool (cB p95 5 2))], AObj.box [AV.t (Tree.sl (2:Nat) (cL p95 6 0)), AV.t (tI (cI p95 6
  1)), AV.t (Tree.bool (cB p95 6 2))], AObj.box [AV.t (Tree.bool (cB p95 7 0)), AV.t (Tree.bool (cB p95 7 1))]])

noncomputable def J32_26 (n : Nat) (again92 : (List AV × Heap) → Option (List Tree)) (p66 : List AV × Heap) (p93 : List AV × Heap) : Option (List Tree) :=
  join (fun (p95 : List AV × Heap) => J32_25 n again92 p95) fun (again96 : _ → Option (List Tree)) => cnd (vB p93 0 = true) (cnd (oVer p93 1 = cVer p93 2 0) (cnd (oVer p93 1 = cVer p93 2 0 ∧ (2:Nat) =
  (2:Nat) ∧ (0:Int) ≤ w64 (((cLen p93 2 0:Nat):Int) - (1:Int)) ∧ w64 (((cLen p93 2 0:Nat):Int) - (1:Int)) < ((cLen p93 2 0:Nat):Int)) (cnd (oVer p93 1 = cVer p93 2 0) (cnd (oVer p93 1 = cVer p93 2 0 ∧
  (2:Nat) ≤ (2:Nat)) (Option.bind (oEs p93 1)[(cOff p93 2 0) + (Int.toNat (w64 (((cLen p93 2 0:Nat):Int) - (1:Int))))]? fun y97 => again96 ([], [AObj.box [AV.func (Fn.func 57) [] []], AObj.row false
  (cVer p93 2 0) (2:Nat) (List.set (oEs p93 1) ((cOff p93 2 0) + (Int.toNat (w64 (((cLen p93 2 0:Nat):Int) - (1:Int))))) (List.take (1:Nat) y97 ++ ([tI (vI p66 0)] ++ List.drop (2:Nat) y97))), AObj.box
  [AV.sref (1:Nat) (cVer p93 2 0) (cOff p93 2 0) (cLen p93 2 0)], AObj.box [AV.t (Tree.bool (cB p93 3 0))], AObj.box [], AObj.box [AV.t (Tree.sl (2:Nat) (cL p93 5 0)), AV.t (tI (cI p93 5 1)), AV.t
  (Tree.bool (cB p93 5 2))], AObj.box [AV.t (Tree.sl (2:Nat) (cL p93 6 0)), AV.t (tI (cI p93 6 1)), AV.t (Tree.bool (cB p93 6 2))], AObj.box [AV.t (Tree.bool (cB p93 7 0)), AV.t (Tree.bool (cB p93 7
  1))]])) none) none) none) none) (again96 ([], [AObj.box [AV.func (Fn.func 57) [] []], AObj.row false (oVer p93 1) (2:Nat) (oEs p93 1), AObj.box [AV.sref (1:Nat) (cVer p93 2 0) (cOff p93 2 0) (cLen p93
  2 0)], AObj.box [AV.t (Tree.bool (cB p93 3 0))], AObj.box [], AObj.box [AV.t (Tree.sl (2:Nat) (cL p93 5 0)), AV.t (tI (cI p93 5 1)), AV.t (Tree.bool (cB p93 5 2))], AObj.box [AV.t (Tree.sl (2:Nat) (cL
  p93 6 0)), AV.t (tI (cI p93 6 1)), AV.t (Tree.bool (cB p93 6 2))], AObj.box [AV.t (Tree.bool (cB p93 7 0)), AV.t (Tree.bool (cB p93 7 1))]]))

noncomputable def J32_27 (n : Nat) (again53 : (List AV × Heap) → Option (List Tree)) (y88 : List Tree) (p91 : List AV × Heap) : Option (List Tree) :=
  again53 ([], [AObj.box [AV.func (Fn.func 57) [] []], AObj.row false (oVer p91 1) (2:Nat) (oEs p91 1), AObj.box [AV.sref (1:Nat) (cVer p91 2 0) (cOff p91 2 0) (cLen p91 2 0)], AObj.box [AV.t (Tree.bool
  (gB y88 0))], AObj.box [], AObj.box [AV.t (Tree.sl (2:Nat) (cL p91 5 0)), AV.t (tI (cI p91 5 1)), AV.t (Tree.bool (cB p91 5 2))], AObj.box [AV.t (Tree.sl (2:Nat) (cL p91 6 0)), AV.t (tI (cI p91 6 1)),
  AV.t (Tree.bool (cB p91 6 2))]])

noncomputable def J32_28 (n : Nat) (again53 : (List AV × Heap) → Option (List Tree)) (y88 : List Tree) (p66 : List AV × Heap) (p89 : List AV × Heap) : Option (List Tree) :=
  join (fun (p91 : List AV × Heap) => J32_27 n again53 y88 p91) fun (again92 : _ → Option (List Tree)) => cnd (vB p89 0 = true) (cnd (oVer p89 1 = cVer p89 2 0 ∧ ((2:Nat) = (2:Nat) ∨ (2:Nat) = (0:Nat))
  ∧ (cOff p89 2 0) + (cLen p89 2 0) ≤ List.length (oEs p89 1) ∧ (cLen p89 2 0) + (1:Nat) ≤ (1073741824:Nat)) (again92 ([], [AObj.box [AV.func (Fn.func 57) [] []], AObj.row false ((cVer p89 2 0) +
  (1:Nat)) (2:Nat) ((List.take (cLen p89 2 0) (List.drop (cOff p89 2 0) (oEs p89 1))) ++ [[tI (vI p66 0), tI (0:Int)]]), AObj.box [AV.sref (1:Nat) ((cVer p89 2 0) + (1:Nat)) (0:Nat) ((cLen p89 2 0) +
  (1:Nat))], AObj.box [AV.t (Tree.bool (cB p89 3 0))], AObj.box [], AObj.box [AV.t (Tree.sl (2:Nat) (cL p89 5 0)), AV.t (tI (cI p89 5 1)), AV.t (Tree.bool (cB p89 5 2))], AObj.box [AV.t (Tree.sl (2:Nat)
  (cL p89 6 0)), AV.t (tI (cI p89 6 1)), AV.t (Tree.bool (cB p89 6 2))], AObj.box [AV.t (Tree.bool (cB p89 7 0)), AV.t (Tree.bool (cB p89 7 1))]])) none) (join (fun (p93 : List AV × Heap) => J32_26 n
  again92 p66 p93) fun (again94 : _ → Option (List Tree)) => cnd ((!(gB y88 0)) = true) (again94 ([AV.t (Tree.bool (cB p89 3 0))], [AObj.box [AV.func (Fn.func 57) [] []], AObj.row false (oVer p89 1)
  (2:Nat) (oEs p89 1), AObj.box [AV.sref (1:Nat) (cVer p89 2 0) (cOff p89 2 0) (cLen p89 2 0)], AObj.box [AV.t (Tree.bool (cB p89 3 0))], AObj.box [], AObj.box [AV.t (Tree.sl (2:Nat) (cL p89 5 0)), AV.t
  (tI (cI p89 5 1)), AV.t (Tree.bool (cB p89 5 2))], AObj.box [AV.t (Tree.sl (2:Nat) (cL p89 6 0)), AV.t (tI (cI p89 6 1)), AV.t (Tree.bool (cB p89 6 2))], AObj.box [AV.t (Tree.bool (cB p89 7 0)), AV.t
  (Tree.bool (cB p89 7 1))]])) (again94 ([AV.t (Tree.bool false)], [AObj.box [AV.func (Fn.func 57) [] []], AObj.row false (oVer p89 1) (2:Nat) (oEs p89 1), AObj.box [AV.sref (1:Nat) (cVer p89 2 0) (cOff
  p89 2 0) (cLen p89 2 0)], AObj.box [AV.t (Tree.bool (cB p89 3 0))], AObj.box [], AObj.box [AV.t (Tree.sl (2:Nat) (cL p89 5 0)), AV.t (tI (cI p89 5 1)), AV.t (Tree.bool (cB p89 5 2))], AObj.box [AV.t
  (Tree.sl (2:Nat) (cL p89 6 0)), AV.t (tI (cI p89 6 1)), AV.t (Tree.bool (cB p89 6 2))], AObj.box [AV.t (Tree.bool (cB p89 7 0)), AV.t (Tree.bool (cB p89 7 1))]])))

noncomputable def J32_29 (n : Nat) (again53 : (List AV × Heap) → Option (List Tree)) (p66 : List AV × Heap) (p78 : List AV × Heap) : Option (List Tree) :=
  Option.bind (apure C n (57:Nat) [Tree.bool (cB p78 6 2), Tree.bool (cB p78 5 2)]) fun y88 => cnd (List.length y88 = (1:Nat)) (cnd (okB y88 0) (join (fun (p89 : List AV × Heap) => J32_28 n again53 y88
  p66 p89) fun (again90 : _ → Option (List Tree)) => cnd (gB y88 0 = true) (again90 ([AV.t (Tree.bool (!(cB p78 3 0)))], [AObj.box [AV.func (Fn.func 57) [] []], AObj.row false (oVer p78 1) (2:Nat) (oEs
  p78 1), AObj.box [AV.sref (1:Nat) (cVer p78 2 0) (cOff p78 2 0) (cLen p78 2 0)], AObj.box [AV.t (Tree.bool (cB p78 3 0))], AObj.box [], AObj.box [AV.t (Tree.sl (2:Nat) (cL p78 5 0)), AV.t (tI (cI p78
  5 1)), AV.t (Tree.bool (cB p78 5 2))], AObj.box [AV.t (Tree.sl (2:Nat) (cL p78 6 0)), AV.t (tI (cI p78 6 1)), AV.t (Tree.bool (cB p78 6 2))], AObj.box [AV.t (Tree.bool (cB p78 6 2)), AV.t (Tree.bool
  (cB p78 5 2))]])) (again90 ([AV.t (Tree.bool false)], [AObj.box [AV.func (Fn.func 57) [] []], AObj.row false (oVer p78 1) (2:Nat) (oEs p78 1), AObj.box [AV.sref (1:Nat) (cVer p78 2 0) (cOff p78 2 0)
  (cLen p78 2 0)], AObj.box [AV.t (Tree.bool (cB p78 3 0))], AObj.box [], AObj.box [AV.t (Tree.sl (2:Nat) (cL p78 5 0)), AV.t (tI (cI p78 5 1)), AV.t (Tree.bool (cB p78 5 2))], AObj.box [AV.t (Tree.sl
  (2:Nat) (cL p78 6 0)), AV.t (tI (cI p78 6 1)), AV.t (Tree.bool (cB p78 6 2))], AObj.box [AV.t (Tree.bool (cB p78 6 2)), AV.t (Tree.bool (cB p78 5 2))]]))) none) none

noncomputable def J32_30 (n : Nat) (again53 : (List AV × Heap) → Option (List Tree)) (p66 : List AV × Heap) (p68 : List AV × Heap) : Option (List Tree) :=
  join (fun (p78 : List AV × Heap) => J32_29 n again53 p66 p78) fun (again79 : _ → Option (List Tree)) => join (fun (p80 : List AV × Heap) => J32_24 n again79 p66 p80) fun (again81 : _ → Option (List
  Tree)) => cnd (((cI p68 5 1) == ((List.length (cL p68 5 0):Nat):Int)) = true) (again81 ([AV.t (tI (0:Int)), AV.t (Tree.bool false)], [AObj.box [AV.func (Fn.func 57) [] []], AObj.row false (oVer p68 1)
  (2:Nat) (oEs p68 1), AObj.box [AV.sref (1:Nat) (cVer p68 2 0) (cOff p68 2 0) (cLen p68 2 0)], AObj.box [AV.t (Tree.bool (cB p68 3 0))], AObj.box [], AObj.box [AV.t (Tree.sl (2:Nat) (cL p68 5 0)), AV.t
  (tI (cI p68 5 1)), AV.t (Tree.bool (cB p68 5 2))], AObj.box [AV.t (Tree.sl (2:Nat) (cL p68 6 0)), AV.t (tI (cI p68 6 1)), AV.t (Tree.bool (cB p68 6 2))]])) (cnd (cB p68 5 2 = true) (cnd ((2:Nat) =
  (2:Nat) ∧ (0:Int) ≤ cI p68 5 1) (Option.bind (cL p68 5 0)[Int.toNat (cI p68 5 1)]? fun y82 => cnd (okI y82 1) (again81 ([AV.t (tI (gI y82 1)), AV.t (Tree.bool true)], [AObj.box [AV.func (Fn.func 57)
  [] []], AObj.row false (oVer p68 1) (2:Nat) (oEs p68 1), AObj.box [AV.sref (1:Nat) (cVer p68 2 0) (cOff p68 2 0) (cLen p68 2 0)], AObj.box [AV.t (Tree.bool (cB p68 3 0))], AObj.box [], AObj.box [AV.t
  (Tree.sl (2:Nat) (cL p68 5 0)), AV.t (tI (cI p68 5 1)), AV.t (Tree.bool (cB p68 5 2))], AObj.box [AV.t (Tree.sl (2:Nat) (cL p68 6 0)), AV.t (tI (cI p68 6 1)), AV.t (Tree.bool (cB p68 6 2))]])) none)
  none) (cnd ((2:Nat) = (2:Nat) ∧ (0:Int) ≤ cI p68 5 1) (Option.bind (cL p68 5 0)[Int.toNat (cI p68 5 1)]? fun y83 => cnd (okI y83 0) (again81 ([AV.t (tI (gI y83 0)), AV.t (Tree.bool true)], [AObj.box
  [AV.func (Fn.func 57) [] []], AObj.row false (oVer p68 1) (2:Nat) (oEs p68 1), AObj.box [AV.sref (1:Nat) (cVer p68 2 0) (cOff p68 2 0) (cLen p68 2 0)], AObj.box [AV.t (Tree.bool (cB p68 3 0))],
  AObj.box [], AObj.box [AV.t (Tree.sl (2:Nat) (cL p68 5 0)), AV.t (tI (cI p68 5 1)), AV.t (Tree.bool (cB p68 5 2))], AObj.box [AV.t (Tree.sl (2:Nat) (cL p68 6 0)), AV.t (tI (cI p68 6 1)), AV.t
  (Tree.bool (cB p68 6 2))]])) none) none))

noncomputable def J32_31 (n : Nat) (again53 : (List AV × Heap) → Option (List Tree)) (p66 : List AV × Heap) : Option (List Tree) :=
  join (fun (p68 : List AV × Heap) => J32_30 n again53 p66 p68) fun (again69 : _ → Option (List Tree)) => join (fun (p70 : List AV × Heap) => J32_21 n again69 p66 p70) fun (again71 : _ → Option (List
  Tree)) => cnd (((cI p66 6 1) == ((List.length (cL p66 6 0):Nat):Int)) = true) (again71 ([AV.t (tI (0:Int)), AV.t (Tree.bool false)], [AObj.box [AV.func (Fn.func 57) [] []], AObj.row false (oVer p66 1)
  (2:Nat) (oEs p66 1), AObj.box [AV.sref (1:Nat) (cVer p66 2 0) (cOff p66 2 0) (cLen p66 2 0)], AObj.box [AV.t (Tree.bool (cB p66 3 0))], AObj.box [], AObj.box [AV.t (Tree.sl (2:Nat) (cL p66 5 0)), AV.t
  (tI (cI p66 5 1)), AV.t (Tree.bool (cB p66 5 2))], AObj.box [AV.t (Tree.sl (2:Nat) (cL p66 6 0)), AV.t (tI (cI p66 6 1)), AV.t (Tree.bool (cB p66 6 2))]])) (cnd (cB p66 6 2 = true) (cnd ((2:Nat) =
  (2:Nat) ∧ (0:Int) ≤ cI p66 6 1) (Option.bind (cL p66 6 0)[Int.toNat (cI p66 6 1)]? fun y72 => cnd (okI y72 1) (again71 ([AV.t (tI (gI y72 1)), AV.t (Tree.bool true)], [AObj.box [AV.func (Fn.func 57)
  [] []], AObj.row false (oVer p66 1) (2:Nat) (oEs p66 1), AObj.box [AV.sref (1:Nat) (cVer p66 2 0) (cOff p66 2 0) (cLen p66 2 0)], AObj.box [AV.t (Tree.bool (cB p66 3 0))], AObj.box [], AObj.box [AV.t
  (Tree.sl (2:Nat) (cL p66 5 0)), AV.t (tI (cI p66 5 1)), AV.t (Tree.bool (cB p66 5 2))], AObj.box [AV.t (Tree.sl (2:Nat) (cL p66 6 0)), AV.t (tI (cI p66 6 1)), AV.t (Tree.bool (cB p66 6 2))]])) none)
  none) (cnd ((2:Nat) = (2:Nat) ∧ (0:Int) ≤ cI p66 6 1) (Option.bind (cL p66 6 0)[Int.toNat (cI p66 6 1)]? fun y73 => cnd (okI y73 0) (again71 ([AV.t (tI (gI y73 0)), AV.t (Tree.bool true)], [AObj.box
  [AV.func (Fn.func 57) [] []], AObj.row false (oVer p66 1) (2:Nat) (oEs p66 1), AObj.box [AV.sref (1:Nat) (cVer p66 2 0) (cOff p66 2 0) (cLen p66 2 0)], AObj.box [AV.t (Tree.bool (cB p66 3 0))],
  AObj.box [], AObj.box [AV.t (Tree.sl (2:Nat) (cL p66 5 0)), AV.t (tI (cI p66 5 1)), AV.t (Tree.bool (cB p66 5 2))], AObj.box [AV.t (Tree.sl (2:Nat) (cL p66 6 0)), AV.t (tI (cI p66 6 1)), AV.t
  (Tree.bool (cB p66 6 2))]])) none) none))

noncomputable def J32_32 (n : Nat) (again53 : (List AV × Heap) → Option (List Tree)) (p58 : List AV × Heap) (p54 : List AV × Heap) (p64 : List AV × Heap) : Option (List Tree) :=
  join (fun (p66 : List AV × Heap) => J32_31 n again53 p66) fun (again67 : _ → Option (List Tree)) => cnd (vB p64 0 = true) (again67 ([AV.t (tI (vI p58 0))], [AObj.box [AV.func (Fn.func 57) [] []],
  AObj.row false (oVer p64 1) (2:Nat) (oEs p64 1), AObj.box [AV.sref (1:Nat) (cVer p64 2 0) (cOff p64 2 0) (cLen p64 2 0)], AObj.box [AV.t (Tree.bool (cB p64 3 0))], AObj.box [], AObj.box [AV.t (Tree.sl
  (2:Nat) (cL p64 5 0)), AV.t (tI (cI p64 5 1)), AV.t (Tree.bool (cB p64 5 2))], AObj.box [AV.t (Tree.sl (2:Nat) (cL p64 6 0)), AV.t (tI (cI p64 6 1)), AV.t (Tree.bool (cB p64 6 2))]])) (again67 ([AV.t
  (tI (vI p54 0))], [AObj.box [AV.func (Fn.func 57) [] []], AObj.row false (oVer p64 1) (2:Nat) (oEs p64 1), AObj.box [AV.sref (1:Nat) (cVer p64 2 0) (cOff p64 2 0) (cLen p64 2 0)], AObj.box [AV.t
  (Tree.bool (cB p64 3 0))], AObj.box [], AObj.box [AV.t (Tree.sl (2:Nat) (cL p64 5 0)), AV.t (tI (cI p64 5 1)), AV.t (Tree.bool (cB p64 5 2))], AObj.box [AV.t (Tree.sl (2:Nat) (cL p64 6 0)), AV.t (tI
  (cI p64 6 1)), AV.t (Tree.bool (cB p64 6 2))]]))

noncomputable def J32_33 (n : Nat) (again53 : (List AV × Heap) → Option (List Tree)) (p58 : List AV × Heap) (p54 : List AV × Heap) (p62 : List AV × Heap) : Option (List Tree) :=
  cnd (vB p62 0 = true) (cnd (oVer p62 1 = cVer p62 2 0) (cnd (decide (((cLen p62 2 0:Nat):Int) > (1000:Int)) = true) (some [Tree.sl (2:Nat) [], tI (4:Int)]) (cnd ((false = true ∨ false = false) ∧ oVer
  p62 1 = cVer p62 2 0 ∧ ((2:Nat) = (2:Nat) ∨ (2:Nat) = (0:Nat))) (some [Tree.sl (2:Nat) (List.take (cLen p62 2 0) (List.drop (cOff p62 2 0) (oEs p62 1))), tI (0:Int)]) none)) none) (join (fun (p64 :
  List AV × Heap) => J32_32 n again53 p58 p54 p64) fun (again65 : _ → Option (List Tree)) => cnd ((!(vB p54 1)) = true) (again65 ([AV.t (Tree.bool true)], [AObj.box [AV.func (Fn.func 57) [] []],
  AObj.row false (oVer p62 1) (2:Nat) (oEs p62 1), AObj.box [AV.sref (1:Nat) (cVer p62 2 0) (cOff p62 2 0) (cLen p62 2 0)], AObj.box [AV.t (Tree.bool (cB p62 3 0))], AObj.box [], AObj.box [AV.t (Tree.sl
  (2:Nat) (cL p62 5 0)), AV.t (tI (cI p62 5 1)), AV.t (Tree.bool (cB p62 5 2))], AObj.box [AV.t (Tree.sl (2:Nat) (cL p62 6 0)), AV.t (tI (cI p62 6 1)), AV.t (Tree.bool (cB p62 6 2))]])) (cnd (vB p58 1 =
  true) (again65 ([AV.t (Tree.bool (decide (vI p58 0 < vI p54 0)))], [AObj.box [AV.func (Fn.func 57) [] []], AObj.row false (oVer p62 1) (2:Nat) (oEs p62 1), AObj.box [AV.sref (1:Nat) (cVer p62 2 0)
  (cOff p62 2 0) (cLen p62 2 0)], AObj.box [AV.t (Tree.bool (cB p62 3 0))], AObj.box [], AObj.box [AV.t (Tree.sl (2:Nat) (cL p62 5 0)), AV.t (tI (cI p62 5 1)), AV.t (Tree.bool (cB p62 5 2))], AObj.box
  [AV.t (Tree.sl (2:Nat) (cL p62 6 0)), AV.t (tI (cI p62 6 1)), AV.t (Tree.bool (cB p62 6 2))]])) (again65 ([AV.t (Tree.bool false)], [AObj.box [AV.func (Fn.func 57) [] []], AObj.row false (oVer p62 1)
  (2:Nat) (oEs p62 1), AObj.box [AV.sref (1:Nat) (cVer p62 2 0) (cOff p62 2 0) (cLen p62 2 0)], AObj.box [AV.t (Tree.bool (cB p62 3 0))], AObj.box [], AObj.box [AV.t (Tree.sl (2:Nat) (cL p62 5 0)), AV.t
  (tI (cI p62 5 1)), AV.t (Tree.bool (cB p62 5 2))], AObj.box [AV.t (Tree.sl (2:Nat) (cL p62 6 0)), AV.t (tI (cI p62 6 1)), AV.t (Tree.bool (cB p62 6 2))]]))))

noncomputable def J32_34 (n : Nat) (again53 : (List AV × Heap) → Option (List Tree)) (p54 : List AV × Heap) (p58 : List AV × Heap) : Option (List Tree) :=
  join (fun (p62 : List AV × Heap) => J32_33 n again53 p58 p54 p62) fun (again63 : _ → Option (List Tree)) => cnd ((!(vB p54 1)) = true) (again63 ([AV.t (Tree.bool (!(vB p58 1)))], [AObj.box [AV.func
  (Fn.func 57) [] []], AObj.row false (oVer p58 1) (2:Nat) (oEs p58 1), AObj.box [AV.sref (1:Nat) (cVer p58 2 0) (cOff p58 2 0) (cLen p58 2 0)], AObj.box [AV.t (Tree.bool (cB p58 3 0))], AObj.box [],
  AObj.box [AV.t (Tree.sl (2:Nat) (cL p58 5 0)), AV.t (tI (cI p58 5 1)), AV.t (Tree.bool (cB p58 5 2))], AObj.box [AV.t (Tree.sl (2:Nat) (cL p58 6 0)), AV.t (tI (cI p58 6 1)), AV.t (Tree.bool (cB p58 6
  2))]])) (again63 ([AV.t (Tree.bool false)], [AObj.box [AV.func (Fn.func 57) [] []], AObj.row false (oVer p58 1) (2:Nat) (oEs p58 1), AObj.box [AV.sref (1:Nat) (cVer p58 2 0) (cOff p58 2 0) (cLen p58 2
  0)], AObj.box [AV.t (Tree.bool (cB p58 3 0))], AObj.box [], AObj.box [AV.t (Tree.sl (2:Nat) (cL p58 5 0)), AV.t (tI (cI p58 5 1)), AV.t (Tree.bool (cB p58 5 2))], AObj.box [AV.t (Tree.sl (2:Nat) (cL
  p58 6 0)), AV.t (tI (cI p58 6 1)), AV.t (Tree.bool (cB p58 6 2))]]))

noncomputable def J32_35 (n : Nat) (again53 : (List AV × Heap) → Option (List Tree)) (p54 : List AV × Heap) : Option (List Tree) :=
  join (fun (p58 : List AV × Heap) => J32_34 n again53 p54 p58) fun (again59 : _ → Option (List Tree)) => cnd (((cI p54 5 1) == ((List.length (cL p54 5 0):Nat):Int)) = true) (again59 ([AV.t (tI
  (0:Int)), AV.t (Tree.bool false)], [AObj.box [AV.func (Fn.func 57) [] []], AObj.row false (oVer p54 1) (2:Nat) (oEs p54 1), AObj.box [AV.sref (1:Nat) (cVer p54 2 0) (cOff p54 2 0) (cLen p54 2 0)],
  AObj.box [AV.t (Tree.bool (cB p54 3 0))], AObj.box [], AObj.box [AV.t (Tree.sl (2:Nat) (cL p54 5 0)), AV.t (tI (cI p54 5 1)), AV.t (Tree.bool (cB p54 5 2))], AObj.box [AV.t (Tree.sl (2:Nat) (cL p54 6
  0)), AV.t (tI (cI p54 6 1)), AV.t (Tree.bool (cB p54 6 2))]])) (cnd (cB p54 5 2 = true) (cnd ((2:Nat) = (2:Nat) ∧ (0:Int) ≤ cI p54 5 1) (Option.bind (cL p54 5 0)[Int.toNat (cI p54 5 1)]? fun y60 =>
  cnd (okI y60 1) (again59 ([AV.t (tI (gI y60 1)), AV.t (Tree.bool true)], [AObj.box [AV.func (Fn.func 57) [] []], AObj.row false (oVer p54 1) (2:Nat) (oEs p54 1), AObj.box [AV.sref (1:Nat) (cVer p54 2
  0) (cOff p54 2 0) (cLen p54 2 0)], AObj.box [AV.t (Tree.bool (cB p54 3 0))], AObj.box [], AObj.box [AV.t (Tree.sl (2:Nat) (cL p54 5 0)), AV.t (tI (cI p54 5 1)), AV.t (Tree.bool (cB p54 5 2))],
  AObj.box [AV.t (Tree.sl (2:Nat) (cL p54 6 0)), AV.t (tI (cI p54 6 1)), AV.t (Tree.bool (cB p54 6 2))]])) none) none) (cnd ((2:Nat) = (2:Nat) ∧ (0:Int) ≤ cI p54 5 1) (Option.bind (cL p54 5 0)[Int.toNat
  (cI p54 5 1)]? fun y61 => cnd (okI y61 0) (again59 ([AV.t (tI (gI y61 0)), AV.t (Tree.bool true)], [AObj.box [AV.func (Fn.func 57) [] []], AObj.row false (oVer p54 1) (2:Nat) (oEs p54 1), AObj.box
  [AV.sref (1:Nat) (cVer p54 2 0) (cOff p54 2 0) (cLen p54 2 0)], AObj.box [AV.t (Tree.bool (cB p54 3 0))], AObj.box [], AObj.box [AV.t (Tree.sl (2:Nat) (cL p54 5 0)), AV.t (tI (cI p54 5 1)), AV.t
  (Tree.bool (cB p54 5 2))], AObj.box [AV.t (Tree.sl (2:Nat) (cL p54 6 0)), AV.t (tI (cI p54 6 1)), AV.t (Tree.bool (cB p54 6 2))]])) none) none))

noncomputable def L32_36 (n : Nat)  (p52 : List AV × Heap) (again53 : (List AV × Heap) → Option (List Tree)) : Option (List Tree) :=
  join (fun (p54 : List AV × Heap) => J32_35 n again53 p54) fun (again55 : _ → Option (List Tree)) => cnd (((cI p52 6 1) == ((List.length (cL p52 6 0):Nat):Int)) = true) (again55 ([AV.t (tI (0:Int)),
  AV.t (Tree.bool false)], [AObj.box [AV.func (Fn.func 57) [] []], AObj.row false (oVer p52 1) (2:Nat) (oEs p52 1), AObj.box [AV.sref (1:Nat) (cVer p52 2 0) (cOff p52 2 0) (cLen p52 2 0)], AObj.box
  [AV.t (Tree.bool (cB p52 3 0))], AObj.box [], AObj.box [AV.t (Tree.sl (2:Nat) (cL p52 5 0)), AV.t (tI (cI p52 5 1)), AV.t (Tree.bool (cB p52 5 2))], AObj.box [AV.t (Tree.sl (2:Nat) (cL p52 6 0)), AV.t
  (tI (cI p52 6 1)), AV.t (Tree.bool (cB p52 6 2))]])) (cnd (cB p52 6 2 = true) (cnd ((2:Nat) = (2:Nat) ∧ (0:Int) ≤ cI p52 6 1) (Option.bind (cL p52 6 0)[Int.toNat (cI p52 6 1)]? fun y56 => cnd (okI y56
  1) (again55 ([AV.t (tI (gI y56 1)), AV.t (Tree.bool true)], [AObj.box [AV.func (Fn.func 57) [] []], AObj.row false (oVer p52 1) (2:Nat) (oEs p52 1), AObj.box [AV.sref (1:Nat) (cVer p52 2 0) (cOff p52
  2 0) (cLen p52 2 0)], AObj.box [AV.t (Tree.bool (cB p52 3 0))], AObj.box [], AObj.box [AV.t (Tree.sl (2:Nat) (cL p52 5 0)), AV.t (tI (cI p52 5 1)), AV.t (Tree.bool (cB p52 5 2))], AObj.box [AV.t
  (Tree.sl (2:Nat) (cL p52 6 0)), AV.t (tI (cI p52 6 1)), AV.t (Tree.bool (cB p52 6 2))]])) none) none) (cnd ((2:Nat) = (2:Nat) ∧ (0:Int) ≤ cI p52 6 1) (Option.bind (cL p52 6 0)[Int.toNat (cI p52 6 1)]?
  fun y57 => cnd (okI y57 0) (again55 ([AV.t (tI (gI y57 0)), AV.t (Tree.bool true)], [AObj.box [AV.func (Fn.func 57) [] []], AObj.row false (oVer p52 1) (2:Nat) (oEs p52 1), AObj.box [AV.sref (1:Nat)
  (cVer p52 2 0) (cOff p52 2 0) (cLen p52 2 0)], AObj.box [AV.t (Tree.bool (cB p52 3 0))], AObj.box [], AObj.box [AV.t (Tree.sl (2:Nat) (cL p52 5 0)), AV.t (tI (cI p52 5 1)), AV.t (Tree.bool (cB p52 5
  2))], AObj.box [AV.t (Tree.sl (2:Nat) (cL p52 6 0)), AV.t (tI (cI p52 6 1)), AV.t (Tree.bool (cB p52 6 2))]])) none) none))

noncomputable def J32_37 (n : Nat) (a0 : List (List Tree)) (a1 : List (List Tree)) (p2 : List AV × Heap) : Option (List Tree) :=
  cnd (vB p2 0 = true) (some [Tree.sl (2:Nat) [], tI (1:Int)]) (both (loopIter (fun (p6 : List AV × Heap) (again7 : _ → Option (List Tree)) => L32_18 n p6 again7) n ([], [AObj.box [AV.func (Fn.func 57)
  [] []], AObj.row false (0:Nat) (2:Nat) [], AObj.box [AV.sref (1:Nat) (0:Nat) (0:Nat) (0:Nat)], AObj.box [AV.t (Tree.bool false)], AObj.box [], AObj.box [AV.t (Tree.sl (2:Nat) a0), AV.t (tI (0:Int)),
  AV.t (Tree.bool false)], AObj.box [AV.t (Tree.sl (2:Nat) a1), AV.t (tI (0:Int)), AV.t (Tree.bool false)]])) (loopIter (fun (p52 : List AV × Heap) (again53 : _ → Option (List Tree)) => L32_36 n p52
  again53) n ([], [AObj.box [AV.func (Fn.func 57) [] []], AObj.row false (0:Nat) (2:Nat) [], AObj.box [AV.sref (1:Nat) (0:Nat) (0:Nat) (0:Nat)], AObj.box [AV.t (Tree.bool false)], AObj.box [], AObj.box
  [AV.t (Tree.sl (2:Nat) a1), AV.t (tI (0:Int)), AV.t (Tree.bool false)], AObj.box [AV.t (Tree.sl (2:Nat) a0), AV.t (tI (0:Int)), AV.t (Tree.bool false)]])))
theorem e32 (n : Nat) (a0 : List (List Tree)) (a1 : List (List Tree)) : apure C (n + 1) 32 [Tree.sl (2:Nat) a0, Tree.sl (2:Nat) a1] =
  join (fun (p2 : List AV × Heap) => J32_37 n a0 a1 p2) fun (again3 : _ → Option (List Tree)) => Option.bind (apure C n (75:Nat) [Tree.sl (2:Nat) a0]) fun y4 => cnd (List.length y4 = (1:Nat)) (cnd (okI
  y4 0) (cnd (((gI y4 0) != (0:Int)) = true) (again3 ([AV.t (Tree.bool true)], [AObj.box [AV.func (Fn.func 57) [] []]])) (Option.bind (apure C n (75:Nat) [Tree.sl (2:Nat) a1]) fun y5 => cnd (List.length
  y5 = (1:Nat)) (cnd (okI y5 0) (again3 ([AV.t (Tree.bool ((gI y5 0) != (0:Int)))], [AObj.box [AV.func (Fn.func 57) [] []]])) none) none)) none) none := by kernel_rfl


end Ab
