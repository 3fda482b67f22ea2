/- A part of the proof: see the last text. -/
import Derived.Test.YthgemjameiibpaaDoorAbT
import Derived.Test.YthgemjameiibpaaDoorReX
set_option maxRecDepth 100000
set_option linter.unusedVariables false
namespace Ab
open Go Go.Proofs

theorem e3 (n : Nat) (a0 : Int) (a1 : Int) (a2 : List (List Tree)) (a3 : ByteArray) (a4 : Int) (a5 : Int) (a6 : Int) (a7 : Int) (a8 : Int) (a9 : Bool) (a10 : ByteArray) (a11 : List (List Tree)) (a12 : Int) : apure C (n + 1) 3 [tI a0, tI a1, Tree.sl (2:Nat) a2, Tree.str a3, tI a4, tI a5, tI a6, tI a7, tI a8, Tree.bool a9, Tree.str a10, Tree.sl (2:Nat) a11, tI a12] =
  Option.bind (apure C n (9:Nat) [tI a0, tI a1, Tree.sl (2:Nat) a2, Tree.str a3, Tree.sl (8:Nat) [[tI a4, tI a5, tI a6, tI a7, tI a8, Tree.bool a9, Tree.str a10, Tree.sl (2:Nat) a11]]]) fun y13 => cnd
  (List.length y13 = (1:Nat)) (cnd (okB y13 0) (cnd (gB y13 0 = true) (Option.bind (apure C n (10:Nat) []) fun y14 => cnd (List.length y14 = (1:Nat)) (cnd (okB y14 0) (some [Tree.bool (gB y14 0)]) none)
  none) (Option.bind (apure C n (11:Nat) [tI a12]) fun y15 => cnd (List.length y15 = (5:Nat)) (cnd (okI y15 0) (cnd (okI y15 1) (cnd (okL 2 y15 2) (cnd (okS y15 3) (cnd (okI y15 4) (Option.bind (apure C
  n (12:Nat) [tI a12]) fun y16 => cnd (List.length y16 = (5:Nat)) (cnd (okI y16 0) (cnd (okI y16 1) (cnd (okL 2 y16 2) (cnd (okS y16 3) (cnd (okI y16 4) (Option.bind (apure C n (13:Nat) [tI a0, tI a1,
  Tree.sl (2:Nat) a2, Tree.str a3, tI a4, tI a5, tI a6, tI a7, tI a8, Tree.bool a9, Tree.str a10, Tree.sl (2:Nat) a11]) fun y17 => cnd (List.length y17 = (6:Nat)) (cnd (okI y17 0) (cnd (okI y17 1) (cnd
  (okL 2 y17 2) (cnd (okS y17 3) (cnd (okL 8 y17 4) (cnd (okI y17 5) (Option.bind (apure C n (14:Nat) [tI a0, tI a1, Tree.sl (2:Nat) a2, Tree.str a3, tI a4, tI a5, tI a6, tI a7, tI a8, Tree.bool a9,
  Tree.str a10, Tree.sl (2:Nat) a11]) fun y18 => cnd (List.length y18 = (6:Nat)) (cnd (okI y18 0) (cnd (okI y18 1) (cnd (okL 2 y18 2) (cnd (okS y18 3) (cnd (okL 8 y18 4) (cnd (okI y18 5) (Option.bind
  (apure C n (15:Nat) [tI (gI y15 0), tI (gI y15 1), Tree.sl (2:Nat) (gL y15 2), Tree.str (gS y15 3), tI (gI y16 0), tI (gI y16 1), Tree.sl (2:Nat) (gL y16 2), Tree.str (gS y16 3)]) fun y21 => cnd
  (List.length y21 = (1:Nat)) (cnd (okB y21 0) (cnd (gB y21 0 = true) (cnd (((gI y15 4) == (gI y16 4)) = true) (Option.bind (apure C n (16:Nat) [tI a0, tI a1, Tree.sl (2:Nat) a2, Tree.str a3]) fun y22
  => cnd (List.length y22 = (1:Nat)) (cnd (okI y22 0) (Option.bind (apure C n (17:Nat) [tI a0, tI a1, Tree.sl (2:Nat) a2, Tree.str a3]) fun y23 => cnd (List.length y23 = (1:Nat)) (cnd (okI y23 0) (cnd
  (((gI y22 0) == (gI y23 0)) = true) (Option.bind (apure C n (15:Nat) [tI (gI y17 0), tI (gI y17 1), Tree.sl (2:Nat) (gL y17 2), Tree.str (gS y17 3), tI (gI y18 0), tI (gI y18 1), Tree.sl (2:Nat) (gL
  y18 2), Tree.str (gS y18 3)]) fun y24 => cnd (List.length y24 = (1:Nat)) (cnd (okB y24 0) (cnd (gB y24 0 = true) (Option.bind (apure C n (18:Nat) [Tree.sl (8:Nat) (gL y17 4), Tree.sl (8:Nat) (gL y18
  4)]) fun y25 => cnd (List.length y25 = (1:Nat)) (cnd (okB y25 0) (cnd (gB y25 0 = true) (cnd (((gI y17 5) == (gI y18 5)) = true) (Option.bind (apure C n (10:Nat) []) fun y26 => cnd (List.length y26 =
  (1:Nat)) (cnd (okB y26 0) (some [Tree.bool (gB y26 0)]) none) none) (some [Tree.bool false])) (some [Tree.bool false])) none) none) (some [Tree.bool false])) none) none) (some [Tree.bool false]))
  none) none) none) none) (some [Tree.bool false])) (some [Tree.bool false])) none) none) none) none) none) none) none) none) none) none) none) none) none) none) none) none) none) none) none) none)
  none) none) none) none) none) none) none) none)) none) none := by kernel_rfl

theorem e4 (n : Nat) (a0 : Int) (a1 : Int) (a2 : List (List Tree)) (a3 : ByteArray) : apure C (n + 1) 4 [tI a0, tI a1, Tree.sl (2:Nat) a2, Tree.str a3] =
  Option.bind (apure C n (9:Nat) [tI a0, tI a1, Tree.sl (2:Nat) a2, Tree.str a3, Tree.sl (8:Nat) []]) fun y4 => cnd (List.length y4 = (1:Nat)) (cnd (okB y4 0) (cnd (gB y4 0 = true) (Option.bind (apure C
  n (10:Nat) []) fun y5 => cnd (List.length y5 = (1:Nat)) (cnd (okB y5 0) (some [Tree.bool (gB y5 0)]) none) none) (Option.bind (apure C n (19:Nat) [tI a0, tI a1, Tree.sl (2:Nat) a2, Tree.str a3]) fun
  y6 => cnd (List.length y6 = (2:Nat)) (cnd (okS y6 0) (cnd (okI y6 1) (Option.bind (apure C n (20:Nat) [tI a0, tI a1, Tree.sl (2:Nat) a2, Tree.str a3]) fun y7 => cnd (List.length y7 = (2:Nat)) (cnd
  (okS y7 0) (cnd (okI y7 1) (Option.bind (apure C n (21:Nat) [tI a0, tI a1, Tree.sl (2:Nat) a2, Tree.str a3]) fun y10 => cnd (List.length y10 = (1:Nat)) (cnd (okB y10 0) (Option.bind (apure C n
  (22:Nat) [tI a0, tI a1, Tree.sl (2:Nat) a2, Tree.str a3]) fun y11 => cnd (List.length y11 = (1:Nat)) (cnd (okB y11 0) (cnd (((gB y10 0) == (gB y11 0)) = true) (cnd (((gS y6 0) == (gS y7 0)) = true)
  (cnd (((gI y6 1) == (gI y7 1)) = true) (Option.bind (apure C n (10:Nat) []) fun y12 => cnd (List.length y12 = (1:Nat)) (cnd (okB y12 0) (some [Tree.bool (gB y12 0)]) none) none) (some [Tree.bool
  false])) (some [Tree.bool false])) (some [Tree.bool false])) none) none) none) none) none) none) none) none) none) none)) none) none := by kernel_rfl

noncomputable def J5_1 (n : Nat) (again22 : (List AV × Heap) → Option (List Tree)) (p23 : List AV × Heap) (again24 : (List AV × Heap) → Option (List Tree)) (p26 : List AV × Heap) : Option (List Tree) :=
  cnd (vB p26 0 = true) (again22 ([AV.t (tI (vI p23 0))], [AObj.box [AV.t (tI (cI p26 0 0)), AV.t (tI (cI p26 0 1)), AV.t (Tree.sl (2:Nat) (cL p26 0 2)), AV.t (Tree.str (cS p26 0 3))], AObj.row false
  (oVer p26 1) (1:Nat) (oEs p26 1), AObj.box [], AObj.box []])) (again24 ([AV.t (tI (w64 ((vI p23 0) + (1:Int))))], [AObj.box [AV.t (tI (cI p26 0 0)), AV.t (tI (cI p26 0 1)), AV.t (Tree.sl (2:Nat) (cL
  p26 0 2)), AV.t (Tree.str (cS p26 0 3))], AObj.row false (oVer p26 1) (1:Nat) (oEs p26 1), AObj.box [], AObj.box []]))

noncomputable def L5_2 (n : Nat) (p16 : List AV × Heap) (again22 : (List AV × Heap) → Option (List Tree)) (p23 : List AV × Heap) (again24 : (List AV × Heap) → Option (List Tree)) : Option (List Tree) :=
  cnd (decide (vI p23 0 < ((List.length (cL p16 0 2):Nat):Int)) = true) (cnd ((2:Nat) = (2:Nat) ∧ (0:Int) ≤ vI p23 0) (Option.bind (cL p16 0 2)[Int.toNat (vI p23 0)]? fun y25 => cnd (okI y25 0) (cnd
  (okI y25 1) (join (fun (p26 : List AV × Heap) => J5_1 n again22 p23 again24 p26) fun (again27 : _ → Option (List Tree)) => cnd (decide (gI y25 0 ≤ vI p16 0) = true) (again27 ([AV.t (Tree.bool (decide
  (vI p16 0 < gI y25 1)))], [AObj.box [AV.t (tI (cI p23 0 0)), AV.t (tI (cI p23 0 1)), AV.t (Tree.sl (2:Nat) (cL p23 0 2)), AV.t (Tree.str (cS p23 0 3))], AObj.row false (oVer p23 1) (1:Nat) (oEs p23
  1), AObj.box [], AObj.box []])) (again27 ([AV.t (Tree.bool false)], [AObj.box [AV.t (tI (cI p23 0 0)), AV.t (tI (cI p23 0 1)), AV.t (Tree.sl (2:Nat) (cL p23 0 2)), AV.t (Tree.str (cS p23 0 3))],
  AObj.row false (oVer p23 1) (1:Nat) (oEs p23 1), AObj.box [], AObj.box []]))) none) none) none) (again22 ([AV.t (tI (-1:Int))], [AObj.box [AV.t (tI (cI p23 0 0)), AV.t (tI (cI p23 0 1)), AV.t (Tree.sl
  (2:Nat) (cL p23 0 2)), AV.t (Tree.str (cS p23 0 3))], AObj.row false (oVer p23 1) (1:Nat) (oEs p23 1), AObj.box [], AObj.box []]))

noncomputable def J5_3 (n : Nat) (again20 : (List AV × Heap) → Option (List Tree)) (p21 : List AV × Heap) : Option (List Tree) :=
  again20 ([AV.t (Tree.bool (decide (vI p21 0 ≥ (0:Int))))], [AObj.box [AV.t (tI (cI p21 0 0)), AV.t (tI (cI p21 0 1)), AV.t (Tree.sl (2:Nat) (cL p21 0 2)), AV.t (Tree.str (cS p21 0 3))], AObj.row false
  (oVer p21 1) (1:Nat) (oEs p21 1), AObj.box [], AObj.box []])

noncomputable def J5_4 (n : Nat) (y18 : List Tree) (p16 : List AV × Heap) (a0 : ByteArray) (again17 : (List AV × Heap) → Option (List Tree)) (p19 : List AV × Heap) : Option (List Tree) :=
  cnd ((!((vB p19 0) == (gB y18 0))) = true) (some [Tree.bool false]) (cnd (gB y18 0 = true) (cnd ((0:Int) ≤ vI p16 0 ∧ vI p16 0 < ((ByteArray.size (cS p19 0 3):Nat):Int)) (cnd ((0:Int) ≤ vI p16 0 ∧ vI
  p16 0 < ((ByteArray.size a0:Nat):Int)) (cnd (((byteAt (cS p19 0 3) (Int.toNat (vI p16 0))) != (byteAt a0 (Int.toNat (vI p16 0)))) = true) (some [Tree.bool false]) (cnd ((!(gB y18 0)) = true) (cnd
  ((0:Int) ≤ vI p16 0 ∧ vI p16 0 < ((ByteArray.size (cS p19 0 3):Nat):Int)) (cnd (((byteAt (cS p19 0 3) (Int.toNat (vI p16 0))) != (0:Int)) = true) (some [Tree.bool false]) (again17 ([AV.t (tI (w64 ((vI
  p16 0) + (1:Int))))], [AObj.box [AV.t (tI (cI p19 0 0)), AV.t (tI (cI p19 0 1)), AV.t (Tree.sl (2:Nat) (cL p19 0 2)), AV.t (Tree.str (cS p19 0 3))], AObj.row false (oVer p19 1) (1:Nat) (oEs p19 1),
  AObj.box []]))) none) (again17 ([AV.t (tI (w64 ((vI p16 0) + (1:Int))))], [AObj.box [AV.t (tI (cI p19 0 0)), AV.t (tI (cI p19 0 1)), AV.t (Tree.sl (2:Nat) (cL p19 0 2)), AV.t (Tree.str (cS p19 0 3))],
  AObj.row false (oVer p19 1) (1:Nat) (oEs p19 1), AObj.box []])))) none) none) (cnd ((!(gB y18 0)) = true) (cnd ((0:Int) ≤ vI p16 0 ∧ vI p16 0 < ((ByteArray.size (cS p19 0 3):Nat):Int)) (cnd (((byteAt
  (cS p19 0 3) (Int.toNat (vI p16 0))) != (0:Int)) = true) (some [Tree.bool false]) (again17 ([AV.t (tI (w64 ((vI p16 0) + (1:Int))))], [AObj.box [AV.t (tI (cI p19 0 0)), AV.t (tI (cI p19 0 1)), AV.t
  (Tree.sl (2:Nat) (cL p19 0 2)), AV.t (Tree.str (cS p19 0 3))], AObj.row false (oVer p19 1) (1:Nat) (oEs p19 1), AObj.box []]))) none) (again17 ([AV.t (tI (w64 ((vI p16 0) + (1:Int))))], [AObj.box
  [AV.t (tI (cI p19 0 0)), AV.t (tI (cI p19 0 1)), AV.t (Tree.sl (2:Nat) (cL p19 0 2)), AV.t (Tree.str (cS p19 0 3))], AObj.row false (oVer p19 1) (1:Nat) (oEs p19 1), AObj.box []]))))

noncomputable def L5_5 (n : Nat) (a0 : ByteArray) (y9 : List Tree) (y10 : List Tree) (again8 : (List AV × Heap) → Option (List Tree)) (p7 : List AV × Heap) (p16 : List AV × Heap) (again17 : (List AV × Heap) → Option (List Tree)) : Option (List Tree) :=
  cnd (decide (vI p16 0 < ((ByteArray.size a0:Nat):Int)) = true) (cnd (oVer p16 1 = (0:Nat) ∧ (1:Nat) = (1:Nat) ∧ (0:Int) ≤ vI p16 0 ∧ vI p16 0 < ((ByteArray.size a0:Nat):Int)) (cnd (oVer p16 1 =
  (0:Nat)) (Option.bind (oEs p16 1)[(0:Nat) + (Int.toNat (vI p16 0))]? fun y18 => cnd (okB y18 0) (join (fun (p19 : List AV × Heap) => J5_4 n y18 p16 a0 again17 p19) fun (again20 : _ → Option (List
  Tree)) => join (fun (p21 : List AV × Heap) => J5_3 n again20 p21) fun (again22 : _ → Option (List Tree)) => loopIter (fun (p23 : List AV × Heap) (again24 : _ → Option (List Tree)) => L5_2 n p16
  again22 p23 again24) n ([AV.t (tI (0:Int))], [AObj.box [AV.t (tI (cI p16 0 0)), AV.t (tI (cI p16 0 1)), AV.t (Tree.sl (2:Nat) (cL p16 0 2)), AV.t (Tree.str (cS p16 0 3))], AObj.row false (oVer p16 1)
  (1:Nat) (oEs p16 1), AObj.box [], AObj.box []])) none) none) none) (Option.bind (apure C n (26:Nat) [tI (5:Int), tI (gI y9 2), tI ((ByteArray.size a0:Nat):Int), Tree.sl (2:Nat) (cL p16 0 2)]) fun y32
  => cnd (List.length y32 = (9:Nat)) (cnd (okI y32 0) (cnd (okI y32 1) (cnd (okI y32 2) (cnd (okI y32 3) (cnd (okI y32 4) (cnd (okB y32 5) (cnd (okS y32 6) (cnd (okL 2 y32 7) (cnd (okI y32 8) (cnd (gB
  y9 5 = true) (cnd (((gI y32 8) != (0:Int)) = true) (some [Tree.bool false]) (Option.bind (apure C n (18:Nat) [Tree.sl (8:Nat) (gL y10 4), Tree.sl (8:Nat) [[tI (gI y32 0), tI (gI y32 1), tI (gI y32 2),
  tI (gI y32 3), tI (gI y32 4), Tree.bool (gB y32 5), Tree.str (gS y32 6), Tree.sl (2:Nat) (gL y32 7)]]]) fun y35 => cnd (List.length y35 = (1:Nat)) (cnd (okB y35 0) (cnd ((!(gB y35 0)) = true) (some
  [Tree.bool false]) (cnd ((!(gB y9 5)) = true) (cnd (decide (((List.length (gL y10 4):Nat):Int) > (0:Int)) = true) (some [Tree.bool false]) (again8 ([AV.t (tI (gI y10 5)), AV.t (tI (w64 ((vI p7 1) +
  (1:Int))))], [AObj.box [AV.t (tI (cI p16 0 0)), AV.t (tI (cI p16 0 1)), AV.t (Tree.sl (2:Nat) (cL p16 0 2)), AV.t (Tree.str (cS p16 0 3))], AObj.row false (oVer p16 1) (1:Nat) (oEs p16 1)]))) (again8
  ([AV.t (tI (gI y10 5)), AV.t (tI (w64 ((vI p7 1) + (1:Int))))], [AObj.box [AV.t (tI (cI p16 0 0)), AV.t (tI (cI p16 0 1)), AV.t (Tree.sl (2:Nat) (cL p16 0 2)), AV.t (Tree.str (cS p16 0 3))], AObj.row
  false (oVer p16 1) (1:Nat) (oEs p16 1)])))) none) none)) (cnd ((!(gB y9 5)) = true) (cnd (decide (((List.length (gL y10 4):Nat):Int) > (0:Int)) = true) (some [Tree.bool false]) (again8 ([AV.t (tI (gI
  y10 5)), AV.t (tI (w64 ((vI p7 1) + (1:Int))))], [AObj.box [AV.t (tI (cI p16 0 0)), AV.t (tI (cI p16 0 1)), AV.t (Tree.sl (2:Nat) (cL p16 0 2)), AV.t (Tree.str (cS p16 0 3))], AObj.row false (oVer p16
  1) (1:Nat) (oEs p16 1)]))) (again8 ([AV.t (tI (gI y10 5)), AV.t (tI (w64 ((vI p7 1) + (1:Int))))], [AObj.box [AV.t (tI (cI p16 0 0)), AV.t (tI (cI p16 0 1)), AV.t (Tree.sl (2:Nat) (cL p16 0 2)), AV.t
  (Tree.str (cS p16 0 3))], AObj.row false (oVer p16 1) (1:Nat) (oEs p16 1)])))) none) none) none) none) none) none) none) none) none) none)

noncomputable def J5_6 (n : Nat) (a0 : ByteArray) (y9 : List Tree) (y10 : List Tree) (again8 : (List AV × Heap) → Option (List Tree)) (p7 : List AV × Heap) (p14 : List AV × Heap) : Option (List Tree) :=
  cnd (vB p14 0 = true) (some [Tree.bool false]) (cnd (oVer p14 1 = (0:Nat)) (loopIter (fun (p16 : List AV × Heap) (again17 : _ → Option (List Tree)) => L5_5 n a0 y9 y10 again8 p7 p16 again17) n ([AV.t
  (tI (0:Int))], [AObj.box [AV.t (tI (cI p14 0 0)), AV.t (tI (cI p14 0 1)), AV.t (Tree.sl (2:Nat) (cL p14 0 2)), AV.t (Tree.str (cS p14 0 3))], AObj.row false (oVer p14 1) (1:Nat) (oEs p14 1), AObj.box
  []])) none)

noncomputable def L5_7 (n : Nat) (y9 : List Tree) (a0 : ByteArray) (y10 : List Tree) (again8 : (List AV × Heap) → Option (List Tree)) (p7 : List AV × Heap) (p11 : List AV × Heap) (again12 : (List AV × Heap) → Option (List Tree)) : Option (List Tree) :=
  cnd (decide (vI p11 0 < ((ByteArray.size (gS y9 6):Nat):Int)) = true) (cnd (oVer p11 1 = (0:Nat) ∧ (1:Nat) = (1:Nat) ∧ (0:Int) ≤ w64 ((gI y9 3) + (vI p11 0)) ∧ w64 ((gI y9 3) + (vI p11 0)) <
  ((ByteArray.size a0:Nat):Int)) (cnd (oVer p11 1 = (0:Nat) ∧ (1:Nat) ≤ (1:Nat)) (Option.bind (oEs p11 1)[(0:Nat) + (Int.toNat (w64 ((gI y9 3) + (vI p11 0))))]? fun y13 => again12 ([AV.t (tI (w64 ((vI
  p11 0) + (1:Int))))], [AObj.box [AV.t (tI (cI p11 0 0)), AV.t (tI (cI p11 0 1)), AV.t (Tree.sl (2:Nat) (cL p11 0 2)), AV.t (Tree.str (cS p11 0 3))], AObj.row false (0:Nat) (1:Nat) (List.set (oEs p11
  1) ((0:Nat) + (Int.toNat (w64 ((gI y9 3) + (vI p11 0))))) ([Tree.bool true] ++ List.drop (1:Nat) y13)), AObj.box []])) none) none) (join (fun (p14 : List AV × Heap) => J5_6 n a0 y9 y10 again8 p7 p14)
  fun (again15 : _ → Option (List Tree)) => cnd (((gI y10 5) != (0:Int)) = true) (again15 ([AV.t (Tree.bool true)], [AObj.box [AV.t (tI (cI p11 0 0)), AV.t (tI (cI p11 0 1)), AV.t (Tree.sl (2:Nat) (cL
  p11 0 2)), AV.t (Tree.str (cS p11 0 3))], AObj.row false (oVer p11 1) (1:Nat) (oEs p11 1), AObj.box []])) (cnd (((cI p11 0 1) != ((ByteArray.size a0:Nat):Int)) = true) (again15 ([AV.t (Tree.bool
  true)], [AObj.box [AV.t (tI (cI p11 0 0)), AV.t (tI (cI p11 0 1)), AV.t (Tree.sl (2:Nat) (cL p11 0 2)), AV.t (Tree.str (cS p11 0 3))], AObj.row false (oVer p11 1) (1:Nat) (oEs p11 1), AObj.box []]))
  (again15 ([AV.t (Tree.bool (((ByteArray.size (cS p11 0 3):Nat):Int) != ((ByteArray.size a0:Nat):Int)))], [AObj.box [AV.t (tI (cI p11 0 0)), AV.t (tI (cI p11 0 1)), AV.t (Tree.sl (2:Nat) (cL p11 0 2)),
  AV.t (Tree.str (cS p11 0 3))], AObj.row false (oVer p11 1) (1:Nat) (oEs p11 1), AObj.box []]))))

noncomputable def L5_8 (n : Nat) (y6 : List Tree) (a0 : ByteArray) (p7 : List AV × Heap) (again8 : (List AV × Heap) → Option (List Tree)) : Option (List Tree) :=
  cnd (decide (vI p7 1 < ((List.length (gL y6 0):Nat):Int)) = true) (cnd ((8:Nat) = (8:Nat) ∧ (0:Int) ≤ vI p7 1) (Option.bind (gL y6 0)[Int.toNat (vI p7 1)]? fun y9 => cnd (okI y9 0) (cnd (okI y9 1)
  (cnd (okI y9 2) (cnd (okI y9 3) (cnd (okI y9 4) (cnd (okB y9 5) (cnd (okS y9 6) (cnd (okL 2 y9 7) (cnd (((vI p7 0) != (0:Int)) = true) (some [Tree.bool false]) (Option.bind (apure C n (13:Nat) [tI (cI
  p7 0 0), tI (cI p7 0 1), Tree.sl (2:Nat) (cL p7 0 2), Tree.str (cS p7 0 3), tI (gI y9 0), tI (gI y9 1), tI (gI y9 2), tI (gI y9 3), tI (gI y9 4), Tree.bool (gB y9 5), Tree.str (gS y9 6), Tree.sl
  (2:Nat) (gL y9 7)]) fun y10 => cnd (List.length y10 = (6:Nat)) (cnd (okI y10 0) (cnd (okI y10 1) (cnd (okL 2 y10 2) (cnd (okS y10 3) (cnd (okL 8 y10 4) (cnd (okI y10 5) (loopIter (fun (p11 : List AV ×
  Heap) (again12 : _ → Option (List Tree)) => L5_7 n y9 a0 y10 again8 p7 p11 again12) n ([AV.t (tI (0:Int))], [AObj.box [AV.t (tI (gI y10 0)), AV.t (tI (gI y10 1)), AV.t (Tree.sl (2:Nat) (gL y10 2)),
  AV.t (Tree.str (gS y10 3))], AObj.row false (oVer p7 1) (1:Nat) (oEs p7 1), AObj.box []])) none) none) none) none) none) none) none)) none) none) none) none) none) none) none) none) none) (cnd (((vI
  p7 0) == (0:Int)) = true) (Option.bind (apure C n (10:Nat) []) fun y38 => cnd (List.length y38 = (1:Nat)) (cnd (okB y38 0) (some [Tree.bool (gB y38 0)]) none) none) (some [Tree.bool false]))

noncomputable def J5_9 (n : Nat) (a0 : ByteArray) (a1 : List (List Tree)) (p2 : List AV × Heap) : Option (List Tree) :=
  cnd (vB p2 0 = true) (Option.bind (apure C n (10:Nat) []) fun y4 => cnd (List.length y4 = (1:Nat)) (cnd (okB y4 0) (some [Tree.bool (gB y4 0)]) none) none) (Option.bind (apure C n (11:Nat) [tI
  (5:Int)]) fun y5 => cnd (List.length y5 = (5:Nat)) (cnd (okI y5 0) (cnd (okI y5 1) (cnd (okL 2 y5 2) (cnd (okS y5 3) (cnd (okI y5 4) (cnd (((ByteArray.size a0:Nat):Int) = ((ByteArray.size a0:Nat):Int)
  ∧ (0:Int) ≤ ((ByteArray.size a0:Nat):Int) ∧ ((ByteArray.size a0:Nat):Int) ≤ (1073741824:Int) ∧ (1:Nat) = (1:Nat)) (Option.bind (apure C n (23:Nat) [tI (5:Int), Tree.str a0, Tree.sl (1:Nat) a1]) fun y6
  => cnd (List.length y6 = (1:Nat)) (cnd (okL 8 y6 0) (loopIter (fun (p7 : List AV × Heap) (again8 : _ → Option (List Tree)) => L5_8 n y6 a0 p7 again8) n ([AV.t (tI (gI y5 4)), AV.t (tI (0:Int))],
  [AObj.box [AV.t (tI (gI y5 0)), AV.t (tI (gI y5 1)), AV.t (Tree.sl (2:Nat) (gL y5 2)), AV.t (Tree.str (gS y5 3))], AObj.row false (0:Nat) (1:Nat) (List.replicate (ByteArray.size a0) [Tree.bool
  false])])) none) none) none) none) none) none) none) none) none)
theorem e5 (n : Nat) (a0 : ByteArray) (a1 : List (List Tree)) : apure C (n + 1) 5 [Tree.str a0, Tree.sl (1:Nat) a1] =
  join (fun (p2 : List AV × Heap) => J5_9 n a0 a1 p2) fun (again3 : _ → Option (List Tree)) => cnd ((a0 == (ByteArray.mk #[])) = true) (again3 ([AV.t (Tree.bool true)], [])) (cnd (decide
  (((ByteArray.size a0:Nat):Int) > (200:Int)) = true) (again3 ([AV.t (Tree.bool true)], [])) (again3 ([AV.t (Tree.bool (decide (((List.length a1:Nat):Int) > (30:Int))))], []))) := by kernel_rfl

noncomputable def J6_7 (n : Nat) (again52 : (List AV × Heap) → Option (List Tree)) (p53 : List AV × Heap) (again54 : (List AV × Heap) → Option (List Tree)) (p56 : List AV × Heap) : Option (List Tree) :=
  cnd (vB p56 0 = true) (again52 ([AV.t (tI (vI p53 0))], [AObj.box [], AObj.box []])) (again54 ([AV.t (tI (w64 ((vI p53 0) + (1:Int))))], [AObj.box [], AObj.box []]))

noncomputable def L6_8 (n : Nat) (y18 : List Tree) (again52 : (List AV × Heap) → Option (List Tree)) (y46 : List Tree) (p53 : List AV × Heap) (again54 : (List AV × Heap) → Option (List Tree)) : Option (List Tree) :=
  cnd (decide (vI p53 0 < ((List.length (gL y18 2):Nat):Int)) = true) (cnd ((2:Nat) = (2:Nat) ∧ (0:Int) ≤ vI p53 0) (Option.bind (gL y18 2)[Int.toNat (vI p53 0)]? fun y55 => cnd (okI y55 0) (cnd (okI
  y55 1) (join (fun (p56 : List AV × Heap) => J6_7 n again52 p53 again54 p56) fun (again57 : _ → Option (List Tree)) => cnd (decide (gI y55 0 ≤ gI y46 0) = true) (again57 ([AV.t (Tree.bool (decide (gI
  y46 1 ≤ gI y55 1)))], [AObj.box [], AObj.box []])) (again57 ([AV.t (Tree.bool false)], [AObj.box [], AObj.box []]))) none) none) none) (again52 ([AV.t (tI (-1:Int))], [AObj.box [], AObj.box []]))

noncomputable def J6_9 (n : Nat) (again50 : (List AV × Heap) → Option (List Tree)) (p51 : List AV × Heap) : Option (List Tree) :=
  again50 ([AV.t (Tree.bool (decide (vI p51 0 ≥ (0:Int))))], [AObj.box [], AObj.box []])

noncomputable def J6_10 (n : Nat) (again48 : (List AV × Heap) → Option (List Tree)) (y46 : List Tree) (y18 : List Tree) (a3 : ByteArray) (p49 : List AV × Heap) : Option (List Tree) :=
  cnd ((!(vB p49 0)) = true) (again48 ([AV.t (Tree.bool true)], [AObj.box [], AObj.box []])) (cnd ((0:Int) ≤ gI y46 1 ∧ gI y46 1 ≤ ((ByteArray.size (gS y18 3):Nat):Int)) (cnd ((0:Int) ≤ gI y46 0 ∧ gI
  y46 0 ≤ ((Int.toNat (gI y46 1):Nat):Int)) (cnd ((0:Int) ≤ gI y46 1 ∧ gI y46 1 ≤ ((ByteArray.size a3:Nat):Int)) (cnd ((0:Int) ≤ gI y46 0 ∧ gI y46 0 ≤ ((Int.toNat (gI y46 1):Nat):Int)) (again48 ([AV.t
  (Tree.bool ((ByteArray.extract (gS y18 3) (Int.toNat (gI y46 0)) (Int.toNat (gI y46 1))) != (ByteArray.extract a3 (Int.toNat (gI y46 0)) (Int.toNat (gI y46 1)))))], [AObj.box [], AObj.box []])) none)
  none) none) none)

noncomputable def J6_11 (n : Nat) (again45 : (List AV × Heap) → Option (List Tree)) (p44 : List AV × Heap) (p47 : List AV × Heap) : Option (List Tree) :=
  cnd (vB p47 0 = true) (some [Tree.bool false]) (again45 ([AV.t (tI (w64 ((vI p44 0) + (1:Int))))], [AObj.box []]))

noncomputable def L6_12 (n : Nat) (a2 : List (List Tree)) (y18 : List Tree) (a3 : ByteArray) (a0 : Int) (a1 : Int) (p44 : List AV × Heap) (again45 : (List AV × Heap) → Option (List Tree)) : Option (List Tree) :=
  cnd (decide (vI p44 0 < ((List.length a2:Nat):Int)) = true) (cnd ((2:Nat) = (2:Nat) ∧ (0:Int) ≤ vI p44 0) (Option.bind a2[Int.toNat (vI p44 0)]? fun y46 => cnd (okI y46 0) (cnd (okI y46 1) (join (fun
  (p47 : List AV × Heap) => J6_11 n again45 p44 p47) fun (again48 : _ → Option (List Tree)) => join (fun (p49 : List AV × Heap) => J6_10 n again48 y46 y18 a3 p49) fun (again50 : _ → Option (List Tree))
  => join (fun (p51 : List AV × Heap) => J6_9 n again50 p51) fun (again52 : _ → Option (List Tree)) => loopIter (fun (p53 : List AV × Heap) (again54 : _ → Option (List Tree)) => L6_8 n y18 again52 y46
  p53 again54) n ([AV.t (tI (0:Int))], [AObj.box [], AObj.box []])) none) none) none) (Option.bind (apure C n (21:Nat) [tI a0, tI a1, Tree.sl (2:Nat) a2, Tree.str a3]) fun y62 => cnd (List.length y62 =
  (1:Nat)) (cnd (okB y62 0) (cnd ((!(gB y62 0)) = true) (Option.bind (apure C n (10:Nat) []) fun y63 => cnd (List.length y63 = (1:Nat)) (cnd (okB y63 0) (some [Tree.bool (gB y63 0)]) none) none)
  (Option.bind (apure C n (21:Nat) [tI (gI y18 0), tI (gI y18 1), Tree.sl (2:Nat) (gL y18 2), Tree.str (gS y18 3)]) fun y64 => cnd (List.length y64 = (1:Nat)) (cnd (okB y64 0) (cnd (gB y64 0 = true)
  (Option.bind (apure C n (10:Nat) []) fun y65 => cnd (List.length y65 = (1:Nat)) (cnd (okB y65 0) (some [Tree.bool (gB y65 0)]) none) none) (some [Tree.bool false])) none) none)) none) none)

noncomputable def J6_19 (n : Nat) (a0 : Int) (a1 : Int) (a2 : List (List Tree)) (a3 : ByteArray) (a4 : Int) (a5 : Int) (a6 : Int) (a7 : Int) (a8 : Int) (a9 : Bool) (a10 : ByteArray) (a11 : List (List Tree)) (p12 : List AV × Heap) : Option (List Tree) :=
  cnd (vB p12 0 = true) (Option.bind (apure C n (10:Nat) []) fun y17 => cnd (List.length y17 = (1:Nat)) (cnd (okB y17 0) (some [Tree.bool (gB y17 0)]) none) none) (Option.bind (apure C n (13:Nat) [tI
  a0, tI a1, Tree.sl (2:Nat) a2, Tree.str a3, tI a4, tI a5, tI a6, tI a7, tI a8, Tree.bool a9, Tree.str a10, Tree.sl (2:Nat) a11]) fun y18 => cnd (List.length y18 = (6:Nat)) (cnd (okI y18 0) (cnd (okI
  y18 1) (cnd (okL 2 y18 2) (cnd (okS y18 3) (cnd (okL 8 y18 4) (cnd (okI y18 5) (cnd (((gI y18 5) != (0:Int)) = true) (some [Tree.bool false]) (Option.bind (apure C n (16:Nat) [tI (gI y18 0), tI (gI
  y18 1), Tree.sl (2:Nat) (gL y18 2), Tree.str (gS y18 3)]) fun y21 => cnd (List.length y21 = (1:Nat)) (cnd (okI y21 0) (cnd (((gI y21 0) != (0:Int)) = true) (some [Tree.bool false]) (cnd (((gI y18 0)
  != a0) = true) (some [Tree.bool false]) (cnd (decide (a1 ≥ (0:Int)) = true) (cnd (((gI y18 1) != a1) = true) (some [Tree.bool false]) (cnd (decide (((List.length (gL y18 4):Nat):Int) > (1:Int)) =
  true) (some [Tree.bool false]) (cnd (decide (((ByteArray.size (gS y18 3):Nat):Int) < ((ByteArray.size a3:Nat):Int)) = true) (some [Tree.bool false]) (loopIter (fun (p44 : List AV × Heap) (again45 : _
  → Option (List Tree)) => L6_12 n a2 y18 a3 a0 a1 p44 again45) n ([AV.t (tI (0:Int))], [AObj.box []]))))) (cnd (decide (((List.length (gL y18 4):Nat):Int) > (1:Int)) = true) (some [Tree.bool false])
  (cnd (decide (((ByteArray.size (gS y18 3):Nat):Int) < ((ByteArray.size a3:Nat):Int)) = true) (some [Tree.bool false]) (loopIter (fun (p44 : List AV × Heap) (again45 : _ → Option (List Tree)) => L6_12
  n a2 y18 a3 a0 a1 p44 again45) n ([AV.t (tI (0:Int))], [AObj.box []]))))))) none) none)) none) none) none) none) none) none) none)
theorem e6 (n : Nat) (a0 : Int) (a1 : Int) (a2 : List (List Tree)) (a3 : ByteArray) (a4 : Int) (a5 : Int) (a6 : Int) (a7 : Int) (a8 : Int) (a9 : Bool) (a10 : ByteArray) (a11 : List (List Tree)) : apure C (n + 1) 6 [tI a0, tI a1, Tree.sl (2:Nat) a2, Tree.str a3, tI a4, tI a5, tI a6, tI a7, tI a8, Tree.bool a9, Tree.str a10, Tree.sl (2:Nat) a11] =
  join (fun (p12 : List AV × Heap) => J6_19 n a0 a1 a2 a3 a4 a5 a6 a7 a8 a9 a10 a11 p12) fun (again13 : _ → Option (List Tree)) => Option.bind (apure C n (9:Nat) [tI a0, tI a1, Tree.sl (2:Nat) a2,
  Tree.str a3, Tree.sl (8:Nat) [[tI a4, tI a5, tI a6, tI a7, tI a8, Tree.bool a9, Tree.str a10, Tree.sl (2:Nat) a11]]]) fun y14 => cnd (List.length y14 = (1:Nat)) (cnd (okB y14 0) (cnd (gB y14 0 = true)
  (again13 ([AV.t (Tree.bool true)], [])) (Option.bind (apure C n (17:Nat) [tI a0, tI a1, Tree.sl (2:Nat) a2, Tree.str a3]) fun y15 => cnd (List.length y15 = (1:Nat)) (cnd (okI y15 0) (cnd (((gI y15 0)
  != (0:Int)) = true) (again13 ([AV.t (Tree.bool true)], [])) (Option.bind (apure C n (27:Nat) [tI a4, tI a5, tI a6, tI a7, tI a8, Tree.bool a9, Tree.str a10, Tree.sl (2:Nat) a11]) fun y16 => cnd
  (List.length y16 = (1:Nat)) (cnd (okI y16 0) (again13 ([AV.t (Tree.bool ((gI y16 0) != (0:Int)))], [])) none) none)) none) none)) none) none := by kernel_rfl

noncomputable def L7_1 (n : Nat) (y8 : List Tree) (again10 : (List AV × Heap) → Option (List Tree)) (p11 : List AV × Heap) (again12 : (List AV × Heap) → Option (List Tree)) : Option (List Tree) :=
  cnd (decide (vI p11 0 < vI p11 1) = true) (cnd (oVer p11 1 = (0:Nat) ∧ (8:Nat) = (8:Nat) ∧ (0:Int) ≤ vI p11 1 ∧ vI p11 1 < ((Int.toNat (w64 (Int.tdiv ((List.length (gL y8 0):Nat):Int)
  (2:Int))):Nat):Int)) (cnd (oVer p11 1 = (0:Nat)) (Option.bind (oEs p11 1)[(0:Nat) + (Int.toNat (vI p11 1))]? fun y13 => cnd (okI y13 0) (cnd (okI y13 1) (cnd (okI y13 2) (cnd (okI y13 3) (cnd (okI y13
  4) (cnd (okB y13 5) (cnd (okS y13 6) (cnd (okL 2 y13 7) (cnd (oVer p11 1 = (0:Nat) ∧ (8:Nat) = (8:Nat) ∧ (0:Int) ≤ vI p11 0 ∧ vI p11 0 < ((Int.toNat (w64 (Int.tdiv ((List.length (gL y8 0):Nat):Int)
  (2:Int))):Nat):Int)) (cnd (oVer p11 1 = (0:Nat)) (Option.bind (oEs p11 1)[(0:Nat) + (Int.toNat (vI p11 0))]? fun y14 => cnd (okI y14 0) (cnd (okI y14 1) (cnd (okI y14 2) (cnd (okI y14 3) (cnd (okI y14
  4) (cnd (okB y14 5) (cnd (okS y14 6) (cnd (okL 2 y14 7) (cnd (oVer p11 1 = (0:Nat) ∧ (8:Nat) = (8:Nat) ∧ (0:Int) ≤ vI p11 0 ∧ vI p11 0 < ((Int.toNat (w64 (Int.tdiv ((List.length (gL y8 0):Nat):Int)
  (2:Int))):Nat):Int)) (cnd (oVer p11 1 = (0:Nat) ∧ (8:Nat) ≤ (8:Nat)) (Option.bind (oEs p11 1)[(0:Nat) + (Int.toNat (vI p11 0))]? fun y15 => cnd ((0:Nat) = (0:Nat) ∧ (8:Nat) = (8:Nat) ∧ (0:Int) ≤ vI
  p11 1 ∧ vI p11 1 < ((Int.toNat (w64 (Int.tdiv ((List.length (gL y8 0):Nat):Int) (2:Int))):Nat):Int)) (Option.bind (List.set (oEs p11 1) ((0:Nat) + (Int.toNat (vI p11 0))) ([tI (gI y13 0), tI (gI y13
  1), tI (gI y13 2), tI (gI y13 3), tI (gI y13 4), Tree.bool (gB y13 5), Tree.str (gS y13 6), Tree.sl (2:Nat) (gL y13 7)] ++ List.drop (8:Nat) y15))[(0:Nat) + (Int.toNat (vI p11 1))]? fun y16 => again12
  ([AV.t (tI (w64 ((vI p11 0) + (1:Int)))), AV.t (tI (w64 ((vI p11 1) - (1:Int))))], [AObj.box [], AObj.row false (0:Nat) (8:Nat) (List.set (List.set (oEs p11 1) ((0:Nat) + (Int.toNat (vI p11 0))) ([tI
  (gI y13 0), tI (gI y13 1), tI (gI y13 2), tI (gI y13 3), tI (gI y13 4), Tree.bool (gB y13 5), Tree.str (gS y13 6), Tree.sl (2:Nat) (gL y13 7)] ++ List.drop (8:Nat) y15)) ((0:Nat) + (Int.toNat (vI p11
  1))) ([tI (gI y14 0), tI (gI y14 1), tI (gI y14 2), tI (gI y14 3), tI (gI y14 4), Tree.bool (gB y14 5), Tree.str (gS y14 6), Tree.sl (2:Nat) (gL y14 7)] ++ List.drop (8:Nat) y16))])) none) none) none)
  none) none) none) none) none) none) none) none) none) none) none) none) none) none) none) none) none) none) none) none) (again10 ([], [AObj.box [], AObj.row false (oVer p11 1) (8:Nat) (oEs p11 1)]))

noncomputable def J7_2 (n : Nat) (y8 : List Tree) (y7 : List Tree) (p9 : List AV × Heap) : Option (List Tree) :=
  cnd ((true = true ∨ true = false) ∧ oVer p9 1 = (0:Nat) ∧ ((8:Nat) = (8:Nat) ∨ (8:Nat) = (0:Nat))) (Option.bind (apure C n (29:Nat) [tI (5:Int), Tree.sl (8:Nat) (List.take (List.length (gL y8 0)) (oEs
  p9 1))]) fun y17 => cnd (List.length y17 = (5:Nat)) (cnd (okI y17 0) (cnd (okI y17 1) (cnd (okL 2 y17 2) (cnd (okS y17 3) (cnd (okB y17 4) (cnd (gB y7 4 = true) (cnd (gB y17 4 = true) (Option.bind
  (apure C n (15:Nat) [tI (gI y7 0), tI (gI y7 1), Tree.sl (2:Nat) (gL y7 2), Tree.str (gS y7 3), tI (gI y17 0), tI (gI y17 1), Tree.sl (2:Nat) (gL y17 2), Tree.str (gS y17 3)]) fun y20 => cnd
  (List.length y20 = (1:Nat)) (cnd (okB y20 0) (cnd (gB y20 0 = true) (Option.bind (apure C n (16:Nat) [tI (gI y7 0), tI (gI y7 1), Tree.sl (2:Nat) (gL y7 2), Tree.str (gS y7 3)]) fun y21 => cnd
  (List.length y21 = (1:Nat)) (cnd (okI y21 0) (cnd (((gI y21 0) == (0:Int)) = true) (Option.bind (apure C n (10:Nat) []) fun y22 => cnd (List.length y22 = (1:Nat)) (cnd (okB y22 0) (some [Tree.bool (gB
  y22 0)]) none) none) (some [Tree.bool false])) none) none) (some [Tree.bool false])) none) none) (some [Tree.bool false])) (some [Tree.bool false])) none) none) none) none) none) none) none

noncomputable def L7_3 (n : Nat) (again24 : (List AV × Heap) → Option (List Tree)) (p25 : List AV × Heap) (again26 : (List AV × Heap) → Option (List Tree)) : Option (List Tree) :=
  cnd (decide (vI p25 0 < vI p25 1) = true) (cnd ((8:Nat) = (8:Nat) ∧ (0:Int) ≤ vI p25 1) (Option.bind ([] : List (List Tree))[Int.toNat (vI p25 1)]? fun y27 => cnd (okI y27 0) (cnd (okI y27 1) (cnd
  (okI y27 2) (cnd (okI y27 3) (cnd (okI y27 4) (cnd (okB y27 5) (cnd (okS y27 6) (cnd (okL 2 y27 7) (cnd ((8:Nat) = (8:Nat) ∧ (0:Int) ≤ vI p25 0) (Option.bind ([] : List (List Tree))[Int.toNat (vI p25
  0)]? fun y28 => cnd (okI y28 0) (cnd (okI y28 1) (cnd (okI y28 2) (cnd (okI y28 3) (cnd (okI y28 4) (cnd (okB y28 5) (cnd (okS y28 6) (cnd (okL 2 y28 7) (cnd ((8:Nat) = (8:Nat) ∧ (0:Int) ≤ vI p25 0)
  (Option.bind ([] : List (List Tree))[Int.toNat (vI p25 0)]? fun y29 => none) none) none) none) none) none) none) none) none) none) none) none) none) none) none) none) none) none) none) none) (again24
  ([], [AObj.box [], AObj.row false (oVer p25 1) (8:Nat) (oEs p25 1)]))

noncomputable def J7_4 (n : Nat) (y8 : List Tree) (y7 : List Tree) (p23 : List AV × Heap) : Option (List Tree) :=
  cnd ((true = true ∨ true = false) ∧ oVer p23 1 = (0:Nat) ∧ ((8:Nat) = (8:Nat) ∨ (8:Nat) = (0:Nat))) (Option.bind (apure C n (29:Nat) [tI (5:Int), Tree.sl (8:Nat) (List.take (List.length (gL y8 0))
  (oEs p23 1))]) fun y30 => cnd (List.length y30 = (5:Nat)) (cnd (okI y30 0) (cnd (okI y30 1) (cnd (okL 2 y30 2) (cnd (okS y30 3) (cnd (okB y30 4) (cnd (gB y7 4 = true) (cnd (gB y30 4 = true)
  (Option.bind (apure C n (15:Nat) [tI (gI y7 0), tI (gI y7 1), Tree.sl (2:Nat) (gL y7 2), Tree.str (gS y7 3), tI (gI y30 0), tI (gI y30 1), Tree.sl (2:Nat) (gL y30 2), Tree.str (gS y30 3)]) fun y33 =>
  cnd (List.length y33 = (1:Nat)) (cnd (okB y33 0) (cnd (gB y33 0 = true) (Option.bind (apure C n (16:Nat) [tI (gI y7 0), tI (gI y7 1), Tree.sl (2:Nat) (gL y7 2), Tree.str (gS y7 3)]) fun y34 => cnd
  (List.length y34 = (1:Nat)) (cnd (okI y34 0) (cnd (((gI y34 0) == (0:Int)) = true) (Option.bind (apure C n (10:Nat) []) fun y35 => cnd (List.length y35 = (1:Nat)) (cnd (okB y35 0) (some [Tree.bool (gB
  y35 0)]) none) none) (some [Tree.bool false])) none) none) (some [Tree.bool false])) none) none) (some [Tree.bool false])) (some [Tree.bool false])) none) none) none) none) none) none) none

noncomputable def J7_5 (n : Nat) (a0 : ByteArray) (a1 : List (List Tree)) (a2 : Int) (p3 : List AV × Heap) : Option (List Tree) :=
  cnd (vB p3 0 = true) (Option.bind (apure C n (10:Nat) []) fun y5 => cnd (List.length y5 = (1:Nat)) (cnd (okB y5 0) (some [Tree.bool (gB y5 0)]) none) none) (Option.bind (apure C n (23:Nat) [tI
  (5:Int), Tree.str a0, Tree.sl (1:Nat) a1]) fun y6 => cnd (List.length y6 = (1:Nat)) (cnd (okL 8 y6 0) (cnd (w64 (((List.length (gL y6 0):Nat):Int) + (1:Int)) = (0:Int)) none (Option.bind (apure C n
  (29:Nat) [tI (5:Int), Tree.sl (8:Nat) (gL y6 0)]) fun y7 => cnd (List.length y7 = (5:Nat)) (cnd (okI y7 0) (cnd (okI y7 1) (cnd (okL 2 y7 2) (cnd (okS y7 3) (cnd (okB y7 4) (cnd ((0:Int) ≤ Int.tmod
  (w64 a2) (w64 (((List.length (gL y6 0):Nat):Int) + (1:Int))) ∧ Int.tmod (w64 a2) (w64 (((List.length (gL y6 0):Nat):Int) + (1:Int))) ≤ ((List.length (gL y6 0):Nat):Int)) (cnd ((0:Int) ≤ Int.tmod (w64
  a2) (w64 (((List.length (gL y6 0):Nat):Int) + (1:Int))) ∧ Int.tmod (w64 a2) (w64 (((List.length (gL y6 0):Nat):Int) + (1:Int))) ≤ ((List.length (gL y6 0):Nat):Int)) (cnd ((0:Int) ≤ Int.tmod (w64 a2)
  (w64 (((List.length (gL y6 0):Nat):Int) + (1:Int))) ∧ Int.tmod (w64 a2) (w64 (((List.length (gL y6 0):Nat):Int) + (1:Int))) ≤ ((List.length (gL y6 0):Nat):Int)) (Option.bind (apure C n (1000030:Nat)
  [Tree.sl (1:Nat) [[Tree.sl (8:Nat) (List.drop (Int.toNat (Int.tmod (w64 a2) (w64 (((List.length (gL y6 0):Nat):Int) + (1:Int))))) (List.take (List.length (gL y6 0)) (gL y6 0)))], [Tree.sl (8:Nat)
  (List.take (Int.toNat (Int.tmod (w64 a2) (w64 (((List.length (gL y6 0):Nat):Int) + (1:Int))))) (gL y6 0))], [Tree.sl (8:Nat) (List.take (Int.toNat (Int.tmod (w64 a2) (w64 (((List.length (gL y6
  0):Nat):Int) + (1:Int))))) (gL y6 0))]]]) fun y8 => cnd (List.length y8 = (1:Nat) ∧ okL 8 y8 0) (cnd ((0:Int) ≤ w64 (Int.tdiv ((List.length (gL y8 0):Nat):Int) (2:Int)) ∧ w64 (Int.tdiv ((List.length
  (gL y8 0):Nat):Int) (2:Int)) ≤ ((List.length (gL y8 0):Nat):Int)) (cnd ((0:Nat) < List.length (gL y8 0) ∨ (0:Nat) = (0:Nat)) (join (fun (p9 : List AV × Heap) => J7_2 n y8 y7 p9) fun (again10 : _ →
  Option (List Tree)) => loopIter (fun (p11 : List AV × Heap) (again12 : _ → Option (List Tree)) => L7_1 n y8 again10 p11 again12) n ([AV.t (tI (0:Int)), AV.t (tI (w64 (((Int.toNat (w64 (Int.tdiv
  ((List.length (gL y8 0):Nat):Int) (2:Int))):Nat):Int) - (1:Int))))], [AObj.box [], AObj.row false (0:Nat) (8:Nat) (gL y8 0)])) (join (fun (p23 : List AV × Heap) => J7_4 n y8 y7 p23) fun (again24 : _ →
  Option (List Tree)) => loopIter (fun (p25 : List AV × Heap) (again26 : _ → Option (List Tree)) => L7_3 n again24 p25 again26) n ([AV.t (tI (0:Int)), AV.t (tI (-1:Int))], [AObj.box [], AObj.row false
  (0:Nat) (8:Nat) (gL y8 0)]))) none) none) none) none) none) none) none) none) none) none) none)) none) none)
theorem e7 (n : Nat) (a0 : ByteArray) (a1 : List (List Tree)) (a2 : Int) : apure C (n + 1) 7 [Tree.str a0, Tree.sl (1:Nat) a1, Tree.int IntKind.u8 a2] =
  join (fun (p3 : List AV × Heap) => J7_5 n a0 a1 a2 p3) fun (again4 : _ → Option (List Tree)) => cnd ((a0 == (ByteArray.mk #[])) = true) (again4 ([AV.t (Tree.bool true)], [])) (cnd (decide
  (((ByteArray.size a0:Nat):Int) > (200:Int)) = true) (again4 ([AV.t (Tree.bool true)], [])) (again4 ([AV.t (Tree.bool (decide (((List.length a1:Nat):Int) > (30:Int))))], []))) := by kernel_rfl

noncomputable def J8_1 (n : Nat) (p11 : List AV × Heap) (again12 : (List AV × Heap) → Option (List Tree)) (y13 : List Tree) (p14 : List AV × Heap) : Option (List Tree) :=
  cnd (vB p14 0 = true) (cnd (oVer p14 0 = sVer p11 0 ∧ ((8:Nat) = (8:Nat) ∨ (8:Nat) = (0:Nat)) ∧ (sOff p11 0) + (sLen p11 0) ≤ List.length (oEs p14 0) ∧ (sLen p11 0) + (1:Nat) ≤ (1073741824:Nat))
  (again12 ([AV.sref (0:Nat) ((sVer p11 0) + (1:Nat)) (0:Nat) ((sLen p11 0) + (1:Nat)), AV.t (tI (w64 ((vI p11 1) + (1:Int))))], [AObj.row false ((sVer p11 0) + (1:Nat)) (8:Nat) ((List.take (sLen p11 0)
  (List.drop (sOff p11 0) (oEs p14 0))) ++ [[tI (gI y13 0), tI (gI y13 1), tI (gI y13 2), tI (gI y13 3), tI (gI y13 4), Tree.bool (gB y13 5), Tree.str (gS y13 6), Tree.sl (2:Nat) (gL y13 7)]])])) none)
  (again12 ([AV.sref (0:Nat) (sVer p11 0) (sOff p11 0) (sLen p11 0), AV.t (tI (w64 ((vI p11 1) + (1:Int))))], [AObj.row false (oVer p14 0) (8:Nat) (oEs p14 0)]))

noncomputable def L8_2 (n : Nat) (a1 : List (List Tree)) (a0 : ByteArray) (a2 : Int) (y7 : List Tree) (p11 : List AV × Heap) (again12 : (List AV × Heap) → Option (List Tree)) : Option (List Tree) :=
  cnd (decide (vI p11 1 < ((List.length a1:Nat):Int)) = true) (cnd ((8:Nat) = (8:Nat) ∧ (0:Int) ≤ vI p11 1) (Option.bind a1[Int.toNat (vI p11 1)]? fun y13 => cnd (okI y13 0) (cnd (okI y13 1) (cnd (okI
  y13 2) (cnd (okI y13 3) (cnd (okI y13 4) (cnd (okB y13 5) (cnd (okS y13 6) (cnd (okL 2 y13 7) (join (fun (p14 : List AV × Heap) => J8_1 n p11 again12 y13 p14) fun (again15 : _ → Option (List Tree)) =>
  Option.bind (apure C n (27:Nat) [tI (gI y13 0), tI (gI y13 1), tI (gI y13 2), tI (gI y13 3), tI (gI y13 4), Tree.bool (gB y13 5), Tree.str (gS y13 6), Tree.sl (2:Nat) (gL y13 7)]) fun y16 => cnd
  (List.length y16 = (1:Nat)) (cnd (okI y16 0) (cnd (((gI y16 0) == (0:Int)) = true) (cnd (((gI y13 1) != (5:Int)) = true) (again15 ([AV.t (Tree.bool true)], [AObj.row false (oVer p11 0) (8:Nat) (oEs
  p11 0), AObj.box []])) (cnd (((gI y13 4) != ((ByteArray.size a0:Nat):Int)) = true) (again15 ([AV.t (Tree.bool (decide (Int.tmod (w64 a2) (w64 (((List.length (gL y7 0):Nat):Int) + (1:Int))) >
  (0:Int))))], [AObj.row false (oVer p11 0) (8:Nat) (oEs p11 0), AObj.box []])) (again15 ([AV.t (Tree.bool false)], [AObj.row false (oVer p11 0) (8:Nat) (oEs p11 0), AObj.box []])))) (again15 ([AV.t
  (Tree.bool false)], [AObj.row false (oVer p11 0) (8:Nat) (oEs p11 0), AObj.box []]))) none) none) none) none) none) none) none) none) none) none) none) (cnd ((0:Int) ≤ Int.tmod (w64 a2) (w64
  (((List.length (gL y7 0):Nat):Int) + (1:Int))) ∧ Int.tmod (w64 a2) (w64 (((List.length (gL y7 0):Nat):Int) + (1:Int))) ≤ ((List.length (gL y7 0):Nat):Int)) (cnd (List.length (List.drop (Int.toNat
  (Int.tmod (w64 a2) (w64 (((List.length (gL y7 0):Nat):Int) + (1:Int))))) (List.take (List.length (gL y7 0)) (gL y7 0))) = (0:Nat) ∧ (sOff p11 0) + (sLen p11 0) < List.length (oEs p11 0)) (cnd (oVer
  p11 0 = sVer p11 0) (cnd ((true = true ∨ true = false) ∧ oVer p11 0 = sVer p11 0 ∧ ((8:Nat) = (8:Nat) ∨ (8:Nat) = (0:Nat))) (Option.bind (apure C n (29:Nat) [tI (5:Int), Tree.sl (8:Nat) (List.take
  (sLen p11 0) (List.drop (sOff p11 0) (oEs p11 0)))]) fun y19 => cnd (List.length y19 = (5:Nat)) (cnd (okI y19 0) (cnd (okI y19 1) (cnd (okL 2 y19 2) (cnd (okS y19 3) (cnd (okB y19 4) (Option.bind
  (apure C n (19:Nat) [tI (gI y19 0), tI (gI y19 1), Tree.sl (2:Nat) (gL y19 2), Tree.str (gS y19 3)]) fun y20 => cnd (List.length y20 = (2:Nat)) (cnd (okS y20 0) (cnd (okI y20 1) (cnd ((0:Int) ≤ w64
  (((List.length (gL y7 0):Nat):Int) - (1:Int)) ∧ w64 (((List.length (gL y7 0):Nat):Int) - (1:Int)) ≤ ((List.length (gL y7 0):Nat):Int)) (Option.bind (apure C n (29:Nat) [tI (5:Int), Tree.sl (8:Nat)
  (List.take (Int.toNat (w64 (((List.length (gL y7 0):Nat):Int) - (1:Int)))) (gL y7 0))]) fun y21 => cnd (List.length y21 = (5:Nat)) (cnd (okI y21 0) (cnd (okI y21 1) (cnd (okL 2 y21 2) (cnd (okS y21 3)
  (cnd (okB y21 4) (Option.bind (apure C n (19:Nat) [tI (gI y21 0), tI (gI y21 1), Tree.sl (2:Nat) (gL y21 2), Tree.str (gS y21 3)]) fun y22 => cnd (List.length y22 = (2:Nat)) (cnd (okS y22 0) (cnd (okI
  y22 1) (cnd (gB y19 4 = true) (cnd (gB y21 4 = true) (Option.bind (apure C n (21:Nat) [tI (gI y19 0), tI (gI y19 1), Tree.sl (2:Nat) (gL y19 2), Tree.str (gS y19 3)]) fun y25 => cnd (List.length y25 =
  (1:Nat)) (cnd (okB y25 0) (cnd (gB y25 0 = true) (cnd (((gI y20 1) == (0:Int)) = true) (cnd (((gS y20 0) == a0) = true) (Option.bind (apure C n (21:Nat) [tI (gI y21 0), tI (gI y21 1), Tree.sl (2:Nat)
  (gL y21 2), Tree.str (gS y21 3)]) fun y26 => cnd (List.length y26 = (1:Nat)) (cnd (okB y26 0) (cnd ((!(gB y26 0)) = true) (cnd (((gI y22 1) == (25:Int)) = true) (Option.bind (apure C n (10:Nat) [])
  fun y27 => cnd (List.length y27 = (1:Nat)) (cnd (okB y27 0) (some [Tree.bool (gB y27 0)]) none) none) (some [Tree.bool false])) (some [Tree.bool false])) none) none) (some [Tree.bool false])) (some
  [Tree.bool false])) (some [Tree.bool false])) none) none) (some [Tree.bool false])) (some [Tree.bool false])) none) none) none) none) none) none) none) none) none) none) none) none) none) none) none)
  none) none) none) none) none) none) (cnd (oVer p11 0 = sVer p11 0 ∧ ((8:Nat) = (8:Nat) ∨ (8:Nat) = (0:Nat)) ∧ (sOff p11 0) + (sLen p11 0) ≤ List.length (oEs p11 0) ∧ (sLen p11 0) + (List.length
  (List.drop (Int.toNat (Int.tmod (w64 a2) (w64 (((List.length (gL y7 0):Nat):Int) + (1:Int))))) (List.take (List.length (gL y7 0)) (gL y7 0)))) ≤ (1073741824:Nat)) (cnd ((true = true ∨ true = false) ∧
  (sVer p11 0) + (1:Nat) = (sVer p11 0) + (1:Nat) ∧ ((8:Nat) = (8:Nat) ∨ (8:Nat) = (0:Nat))) (Option.bind (apure C n (29:Nat) [tI (5:Int), Tree.sl (8:Nat) (List.take ((sLen p11 0) + (List.length
  (List.drop (Int.toNat (Int.tmod (w64 a2) (w64 (((List.length (gL y7 0):Nat):Int) + (1:Int))))) (List.take (List.length (gL y7 0)) (gL y7 0))))) ((List.take (sLen p11 0) (List.drop (sOff p11 0) (oEs
  p11 0))) ++ (List.drop (Int.toNat (Int.tmod (w64 a2) (w64 (((List.length (gL y7 0):Nat):Int) + (1:Int))))) (List.take (List.length (gL y7 0)) (gL y7 0)))))]) fun y28 => cnd (List.length y28 = (5:Nat))
  (cnd (okI y28 0) (cnd (okI y28 1) (cnd (okL 2 y28 2) (cnd (okS y28 3) (cnd (okB y28 4) (Option.bind (apure C n (19:Nat) [tI (gI y28 0), tI (gI y28 1), Tree.sl (2:Nat) (gL y28 2), Tree.str (gS y28 3)])
  fun y29 => cnd (List.length y29 = (2:Nat)) (cnd (okS y29 0) (cnd (okI y29 1) (cnd ((0:Int) ≤ w64 (((List.length (gL y7 0):Nat):Int) - (1:Int)) ∧ w64 (((List.length (gL y7 0):Nat):Int) - (1:Int)) ≤
  ((List.length (gL y7 0):Nat):Int)) (Option.bind (apure C n (29:Nat) [tI (5:Int), Tree.sl (8:Nat) (List.take (Int.toNat (w64 (((List.length (gL y7 0):Nat):Int) - (1:Int)))) (gL y7 0))]) fun y30 => cnd
  (List.length y30 = (5:Nat)) (cnd (okI y30 0) (cnd (okI y30 1) (cnd (okL 2 y30 2) (cnd (okS y30 3) (cnd (okB y30 4) (Option.bind (apure C n (19:Nat) [tI (gI y30 0), tI (gI y30 1), Tree.sl (2:Nat) (gL
  y30 2), Tree.str (gS y30 3)]) fun y31 => cnd (List.length y31 = (2:Nat)) (cnd (okS y31 0) (cnd (okI y31 1) (cnd (gB y28 4 = true) (cnd (gB y30 4 = true) (Option.bind (apure C n (21:Nat) [tI (gI y28
  0), tI (gI y28 1), Tree.sl (2:Nat) (gL y28 2), Tree.str (gS y28 3)]) fun y34 => cnd (List.length y34 = (1:Nat)) (cnd (okB y34 0) (cnd (gB y34 0 = true) (cnd (((gI y29 1) == (0:Int)) = true) (cnd (((gS
  y29 0) == a0) = true) (Option.bind (apure C n (21:Nat) [tI (gI y30 0), tI (gI y30 1), Tree.sl (2:Nat) (gL y30 2), Tree.str (gS y30 3)]) fun y35 => cnd (List.length y35 = (1:Nat)) (cnd (okB y35 0) (cnd
  ((!(gB y35 0)) = true) (cnd (((gI y31 1) == (25:Int)) = true) (Option.bind (apure C n (10:Nat) []) fun y36 => cnd (List.length y36 = (1:Nat)) (cnd (okB y36 0) (some [Tree.bool (gB y36 0)]) none) none)
  (some [Tree.bool false])) (some [Tree.bool false])) none) none) (some [Tree.bool false])) (some [Tree.bool false])) (some [Tree.bool false])) none) none) (some [Tree.bool false])) (some [Tree.bool
  false])) none) none) none) none) none) none) none) none) none) none) none) none) none) none) none) none) none) none) none) none) none)) none)

noncomputable def J8_3 (n : Nat) (y7 : List Tree) (a2 : Int) (a1 : List (List Tree)) (a0 : ByteArray) (p8 : List AV × Heap) : Option (List Tree) :=
  cnd (vB p8 0 = true) (some [Tree.bool false]) (cnd (w64 (((List.length (gL y7 0):Nat):Int) + (1:Int)) = (0:Int)) none (cnd ((0:Int) ≤ Int.tmod (w64 a2) (w64 (((List.length (gL y7 0):Nat):Int) +
  (1:Int))) ∧ Int.tmod (w64 a2) (w64 (((List.length (gL y7 0):Nat):Int) + (1:Int))) ≤ ((List.length (gL y7 0):Nat):Int)) (Option.bind (apure C n (1000033:Nat) [Tree.sl (8:Nat) (List.take (Int.toNat
  (Int.tmod (w64 a2) (w64 (((List.length (gL y7 0):Nat):Int) + (1:Int))))) (gL y7 0))]) fun y10 => cnd (List.length y10 = (1:Nat) ∧ okL 8 y10 0) (loopIter (fun (p11 : List AV × Heap) (again12 : _ →
  Option (List Tree)) => L8_2 n a1 a0 a2 y7 p11 again12) n ([AV.sref (0:Nat) (0:Nat) (0:Nat) (List.length (gL y10 0)), AV.t (tI (0:Int))], [AObj.row false (0:Nat) (8:Nat) (gL y10 0)])) none) none))

noncomputable def J8_4 (n : Nat) (a0 : ByteArray) (a2 : Int) (a1 : List (List Tree)) (p3 : List AV × Heap) : Option (List Tree) :=
  cnd (vB p3 0 = true) (Option.bind (apure C n (10:Nat) []) fun y6 => cnd (List.length y6 = (1:Nat)) (cnd (okB y6 0) (some [Tree.bool (gB y6 0)]) none) none) (Option.bind (apure C n (32:Nat) [tI
  (5:Int), tI (1:Int), Tree.str a0, Tree.sl (2:Nat) [[tI (0:Int), tI ((ByteArray.size a0:Nat):Int)]]]) fun y7 => cnd (List.length y7 = (2:Nat)) (cnd (okL 8 y7 0) (cnd (okI y7 1) (join (fun (p8 : List AV
  × Heap) => J8_3 n y7 a2 a1 a0 p8) fun (again9 : _ → Option (List Tree)) => cnd (((gI y7 1) != (0:Int)) = true) (again9 ([AV.t (Tree.bool true)], [])) (again9 ([AV.t (Tree.bool (((List.length (gL y7
  0):Nat):Int) == (0:Int)))], []))) none) none) none)
theorem e8 (n : Nat) (a0 : ByteArray) (a1 : List (List Tree)) (a2 : Int) : apure C (n + 1) 8 [Tree.str a0, Tree.sl (8:Nat) a1, Tree.int IntKind.u8 a2] =
  join (fun (p3 : List AV × Heap) => J8_4 n a0 a2 a1 p3) fun (again4 : _ → Option (List Tree)) => cnd ((a0 == (ByteArray.mk #[])) = true) (again4 ([AV.t (Tree.bool true)], [])) (cnd (decide
  (((ByteArray.size a0:Nat):Int) > (200:Int)) = true) (again4 ([AV.t (Tree.bool true)], [])) (Option.bind (apure C n (9:Nat) [tI (0:Int), tI (0:Int), Tree.sl (2:Nat) [], Tree.str (ByteArray.mk #[]),
  Tree.sl (8:Nat) a1]) fun y5 => cnd (List.length y5 = (1:Nat)) (cnd (okB y5 0) (again4 ([AV.t (Tree.bool (gB y5 0))], [])) none) none)) := by kernel_rfl

noncomputable def L9_1 (n : Nat) (a4 : List (List Tree)) (again11 : (List AV × Heap) → Option (List Tree)) (p12 : List AV × Heap) (again13 : (List AV × Heap) → Option (List Tree)) : Option (List Tree) :=
  cnd (decide (vI p12 0 < ((List.length a4:Nat):Int)) = true) (cnd ((8:Nat) = (8:Nat) ∧ (0:Int) ≤ vI p12 0) (Option.bind a4[Int.toNat (vI p12 0)]? fun y14 => cnd (okI y14 0) (cnd (okI y14 1) (cnd (okI
  y14 2) (cnd (okI y14 3) (cnd (okI y14 4) (cnd (okB y14 5) (cnd (okS y14 6) (cnd (okL 2 y14 7) (Option.bind (apure C n (36:Nat) [tI (gI y14 0), tI (gI y14 1), tI (gI y14 2), tI (gI y14 3), tI (gI y14
  4), Tree.bool (gB y14 5), Tree.str (gS y14 6), Tree.sl (2:Nat) (gL y14 7)]) fun y15 => cnd (List.length y15 = (1:Nat)) (cnd (okB y15 0) (cnd (gB y15 0 = true) (again11 ([AV.t (tI (vI p12 0))], []))
  (again13 ([AV.t (tI (w64 ((vI p12 0) + (1:Int))))], []))) none) none) none) none) none) none) none) none) none) none) none) (again11 ([AV.t (tI (-1:Int))], []))

noncomputable def J9_2 (n : Nat) (again9 : (List AV × Heap) → Option (List Tree)) (p10 : List AV × Heap) : Option (List Tree) :=
  again9 ([AV.t (Tree.bool (decide (vI p10 0 ≥ (0:Int))))], [])

noncomputable def J9_3 (n : Nat) (again6 : (List AV × Heap) → Option (List Tree)) (p8 : List AV × Heap) : Option (List Tree) :=
  again6 ([AV.t (Tree.bool (vB p8 0))], [])

noncomputable def J9_4 (n : Nat)  (p5 : List AV × Heap) : Option (List Tree) :=
  some [Tree.bool (vB p5 0)]
theorem e9 (n : Nat) (a0 : Int) (a1 : Int) (a2 : List (List Tree)) (a3 : ByteArray) (a4 : List (List Tree)) : apure C (n + 1) 9 [tI a0, tI a1, Tree.sl (2:Nat) a2, Tree.str a3, Tree.sl (8:Nat) a4] =
  join (fun (p5 : List AV × Heap) => J9_4 n p5) fun (again6 : _ → Option (List Tree)) => Option.bind (apure C n (34:Nat) [tI a0, tI a1, Tree.sl (2:Nat) a2, Tree.str a3]) fun y7 => cnd (List.length y7 =
  (1:Nat)) (cnd (okB y7 0) (cnd (gB y7 0 = true) (again6 ([AV.t (Tree.bool true)], [])) (cnd (decide (((List.length a4:Nat):Int) > (40:Int)) = true) (again6 ([AV.t (Tree.bool true)], [])) (join (fun (p8
  : List AV × Heap) => J9_3 n again6 p8) fun (again9 : _ → Option (List Tree)) => join (fun (p10 : List AV × Heap) => J9_2 n again9 p10) fun (again11 : _ → Option (List Tree)) => loopIter (fun (p12 :
  List AV × Heap) (again13 : _ → Option (List Tree)) => L9_1 n a4 again11 p12 again13) n ([AV.t (tI (0:Int))], [])))) none) none := by kernel_rfl

theorem e10 (n : Nat)  : apure C (n + 1) 10 [] =
  Option.bind (apure C n (11:Nat) [tI (7:Int)]) fun y0 => cnd (List.length y0 = (5:Nat)) (cnd (okI y0 0) (cnd (okI y0 1) (cnd (okL 2 y0 2) (cnd (okS y0 3) (cnd (okI y0 4) (Option.bind (apure C n
  (13:Nat) [tI (gI y0 0), tI (gI y0 1), Tree.sl (2:Nat) (gL y0 2), Tree.str (gS y0 3), tI (1:Int), tI (7:Int), tI (1:Int), tI (16:Int), tI (20:Int), Tree.bool true, Tree.str (ByteArray.mk #[119, 120,
  121, 122]), Tree.sl (2:Nat) []]) fun y1 => cnd (List.length y1 = (6:Nat)) (cnd (okI y1 0) (cnd (okI y1 1) (cnd (okL 2 y1 2) (cnd (okS y1 3) (cnd (okL 8 y1 4) (cnd (okI y1 5) (Option.bind (apure C n
  (13:Nat) [tI (gI y1 0), tI (gI y1 1), Tree.sl (2:Nat) (gL y1 2), Tree.str (gS y1 3), tI (1:Int), tI (7:Int), tI (0:Int), tI (0:Int), tI (20:Int), Tree.bool false, Tree.str (ByteArray.mk #[48, 49, 50,
  51, 52, 53, 54, 55, 56, 57, 97, 98, 99, 100, 101, 102]), Tree.sl (2:Nat) []]) fun y2 => cnd (List.length y2 = (6:Nat)) (cnd (okI y2 0) (cnd (okI y2 1) (cnd (okL 2 y2 2) (cnd (okS y2 3) (cnd (okL 8 y2
  4) (cnd (okI y2 5) (Option.bind (apure C n (19:Nat) [tI (gI y2 0), tI (gI y2 1), Tree.sl (2:Nat) (gL y2 2), Tree.str (gS y2 3)]) fun y3 => cnd (List.length y3 = (2:Nat)) (cnd (okS y3 0) (cnd (okI y3
  1) (cnd (((gI y0 4) == (0:Int)) = true) (cnd (((gI y1 5) == (0:Int)) = true) (cnd (((gI y2 5) == (0:Int)) = true) (cnd (((gI y3 1) == (0:Int)) = true) (Option.bind (apure C n (21:Nat) [tI (gI y0 0),
  tI (gI y0 1), Tree.sl (2:Nat) (gL y0 2), Tree.str (gS y0 3)]) fun y6 => cnd (List.length y6 = (1:Nat)) (cnd (okB y6 0) (cnd ((!(gB y6 0)) = true) (Option.bind (apure C n (21:Nat) [tI (gI y1 0), tI (gI
  y1 1), Tree.sl (2:Nat) (gL y1 2), Tree.str (gS y1 3)]) fun y7 => cnd (List.length y7 = (1:Nat)) (cnd (okB y7 0) (cnd ((!(gB y7 0)) = true) (Option.bind (apure C n (21:Nat) [tI (gI y2 0), tI (gI y2 1),
  Tree.sl (2:Nat) (gL y2 2), Tree.str (gS y2 3)]) fun y8 => cnd (List.length y8 = (1:Nat)) (cnd (okB y8 0) (cnd (gB y8 0 = true) (Option.bind (apure C n (18:Nat) [Tree.sl (8:Nat) (gL y1 4), Tree.sl
  (8:Nat) [[tI (2:Int), tI (7:Int), tI (1:Int), tI (0:Int), tI (20:Int), Tree.bool false, Tree.str (ByteArray.mk #[]), Tree.sl (2:Nat) [[tI (16:Int), tI (20:Int)]]]]]) fun y9 => cnd (List.length y9 =
  (1:Nat)) (cnd (okB y9 0) (cnd (gB y9 0 = true) (cnd ((((List.length (gL y2 4):Nat):Int) == (0:Int)) = true) (some [Tree.bool ((gS y3 0) == (ByteArray.mk #[48, 49, 50, 51, 52, 53, 54, 55, 56, 57, 97,
  98, 99, 100, 101, 102, 119, 120, 121, 122]))]) (some [Tree.bool false])) (some [Tree.bool false])) none) none) (some [Tree.bool false])) none) none) (some [Tree.bool false])) none) none) (some
  [Tree.bool false])) none) none) (some [Tree.bool false])) (some [Tree.bool false])) (some [Tree.bool false])) (some [Tree.bool false])) none) none) none) none) none) none) none) none) none) none)
  none) none) none) none) none) none) none) none) none) none) none) none) none := by kernel_rfl

theorem e11 (n : Nat) (a0 : Int) : apure C (n + 1) 11 [tI a0] =
  cnd (decide (a0 < (0:Int)) = true) (some [tI (0:Int), tI (0:Int), Tree.sl (2:Nat) [], Tree.str (ByteArray.mk #[]), tI (2:Int)]) (cnd (decide (a0 > (1099511627776:Int)) = true) (some [tI (0:Int), tI
  (0:Int), Tree.sl (2:Nat) [], Tree.str (ByteArray.mk #[]), tI (2:Int)]) (some [tI a0, tI (-1:Int), Tree.sl (2:Nat) [], Tree.str (ByteArray.mk #[]), tI (0:Int)])) := by kernel_rfl

theorem e12 (n : Nat) (a0 : Int) : apure C (n + 1) 12 [tI a0] =
  cnd (decide (a0 < (0:Int)) = true) (some [tI (0:Int), tI (0:Int), Tree.sl (2:Nat) [], Tree.str (ByteArray.mk #[]), tI (2:Int)]) (cnd (decide (a0 > (1099511627776:Int)) = true) (some [tI (0:Int), tI
  (0:Int), Tree.sl (2:Nat) [], Tree.str (ByteArray.mk #[]), tI (2:Int)]) (some [tI a0, tI (-1:Int), Tree.sl (2:Nat) [], Tree.str (ByteArray.mk #[]), tI (0:Int)])) := by kernel_rfl

noncomputable def J13_1 (n : Nat) (a4 : Int) (a5 : Int) (a6 : Int) (a7 : Int) (a8 : Int) (a9 : Bool) (a10 : ByteArray) (a11 : List (List Tree)) (p12 : List AV × Heap) : Option (List Tree) :=
  cnd (vB p12 0 = true) (some [tI (0:Int), tI (0:Int), Tree.sl (2:Nat) [], Tree.str (ByteArray.mk #[]), Tree.sl (8:Nat) [], tI (1:Int)]) (Option.bind (apure C n (39:Nat) [tI (cI p12 0 0), tI (cI p12 0
  1), Tree.sl (2:Nat) (cL p12 0 2), Tree.str (cS p12 0 3), tI a4, tI a5, tI a6, tI a7, tI a8, Tree.bool a9, Tree.str a10, Tree.sl (2:Nat) a11]) fun y16 => cnd (List.length y16 = (1:Nat)) (cnd (okB y16
  0) (cnd ((!(gB y16 0)) = true) (some [tI (cI p12 0 0), tI (cI p12 0 1), Tree.sl (2:Nat) (cL p12 0 2), Tree.str (cS p12 0 3), Tree.sl (8:Nat) [], tI (0:Int)]) (Option.bind (apure C n (40:Nat) [tI (cI
  p12 0 0), tI (cI p12 0 1), Tree.sl (2:Nat) (cL p12 0 2), Tree.str (cS p12 0 3), tI a4, tI a5, tI a6, tI a7, tI a8, Tree.bool a9, Tree.str a10, Tree.sl (2:Nat) a11]) fun y17 => cnd (List.length y17 =
  (2:Nat)) (cnd (okL 2 y17 0) (cnd (okI y17 1) (cnd (a8 = a8 ∧ (0:Int) ≤ a8 ∧ a8 ≤ (1073741824:Int) ∧ (1:Nat) = (1:Nat)) (cnd ((0:Int) ≤ a7 ∧ a7 ≤ ((Int.toNat a8:Nat):Int)) (cnd (Int.toNat a7 <
  List.length (rowSet (List.replicate (Int.toNat a8) [Tree.int IntKind.u8 (0:Int)]) (0:Nat) (List.take (Int.toNat a8) (strRow (cS p12 0 3)))) ∨ Int.toNat a7 = (0:Nat)) (cnd (okBytes (List.take
  (Int.toNat a8) (rowSet (rowSet (List.replicate (Int.toNat a8) [Tree.int IntKind.u8 (0:Int)]) (0:Nat) (List.take (Int.toNat a8) (strRow (cS p12 0 3)))) ((0:Nat) + (Int.toNat a7)) (List.take ((Int.toNat
  a8) - (Int.toNat a7)) (strRow a10)))) = true) (cnd ((!a9) = true) (some [tI (cI p12 0 0), tI a8, Tree.sl (2:Nat) (gL y17 0), Tree.str (bytesOf (List.take (Int.toNat a8) (rowSet (rowSet (List.replicate
  (Int.toNat a8) [Tree.int IntKind.u8 (0:Int)]) (0:Nat) (List.take (Int.toNat a8) (strRow (cS p12 0 3)))) ((0:Nat) + (Int.toNat a7)) (List.take ((Int.toNat a8) - (Int.toNat a7)) (strRow a10))))),
  Tree.sl (8:Nat) [], tI (0:Int)]) (Option.bind (apure C n (41:Nat) [Tree.sl (2:Nat) (gL y17 0)]) fun y18 => cnd (List.length y18 = (1:Nat)) (cnd (okL 2 y18 0) (Option.bind (apure C n (26:Nat) [tI (cI
  p12 0 0), tI a6, tI a8, Tree.sl (2:Nat) (gL y18 0)]) fun y19 => cnd (List.length y19 = (9:Nat)) (cnd (okI y19 0) (cnd (okI y19 1) (cnd (okI y19 2) (cnd (okI y19 3) (cnd (okI y19 4) (cnd (okB y19 5)
  (cnd (okS y19 6) (cnd (okL 2 y19 7) (cnd (okI y19 8) (cnd (((gI y19 8) != (0:Int)) = true) (some [tI (cI p12 0 0), tI a8, Tree.sl (2:Nat) (gL y17 0), Tree.str (bytesOf (List.take (Int.toNat a8)
  (rowSet (rowSet (List.replicate (Int.toNat a8) [Tree.int IntKind.u8 (0:Int)]) (0:Nat) (List.take (Int.toNat a8) (strRow (cS p12 0 3)))) ((0:Nat) + (Int.toNat a7)) (List.take ((Int.toNat a8) -
  (Int.toNat a7)) (strRow a10))))), Tree.sl (8:Nat) [], tI (0:Int)]) (some [tI (cI p12 0 0), tI a8, Tree.sl (2:Nat) (gL y17 0), Tree.str (bytesOf (List.take (Int.toNat a8) (rowSet (rowSet
  (List.replicate (Int.toNat a8) [Tree.int IntKind.u8 (0:Int)]) (0:Nat) (List.take (Int.toNat a8) (strRow (cS p12 0 3)))) ((0:Nat) + (Int.toNat a7)) (List.take ((Int.toNat a8) - (Int.toNat a7)) (strRow
  a10))))), Tree.sl (8:Nat) [[tI (gI y19 0), tI (gI y19 1), tI (gI y19 2), tI (gI y19 3), tI (gI y19 4), Tree.bool (gB y19 5), Tree.str (gS y19 6), Tree.sl (2:Nat) (gL y19 7)]], tI (0:Int)])) none)
  none) none) none) none) none) none) none) none) none) none) none)) none) none) none) none) none) none) none)) none) none)
theorem e13 (n : Nat) (a0 : Int) (a1 : Int) (a2 : List (List Tree)) (a3 : ByteArray) (a4 : Int) (a5 : Int) (a6 : Int) (a7 : Int) (a8 : Int) (a9 : Bool) (a10 : ByteArray) (a11 : List (List Tree)) : apure C (n + 1) 13 [tI a0, tI a1, Tree.sl (2:Nat) a2, Tree.str a3, tI a4, tI a5, tI a6, tI a7, tI a8, Tree.bool a9, Tree.str a10, Tree.sl (2:Nat) a11] =
  join (fun (p12 : List AV × Heap) => J13_1 n a4 a5 a6 a7 a8 a9 a10 a11 p12) fun (again13 : _ → Option (List Tree)) => Option.bind (apure C n (16:Nat) [tI a0, tI a1, Tree.sl (2:Nat) a2, Tree.str a3])
  fun y14 => cnd (List.length y14 = (1:Nat)) (cnd (okI y14 0) (cnd (((gI y14 0) != (0:Int)) = true) (again13 ([AV.t (Tree.bool true)], [AObj.box [AV.t (tI a0), AV.t (tI a1), AV.t (Tree.sl (2:Nat) a2),
  AV.t (Tree.str a3)], AObj.box [AV.t (tI (0:Int)), AV.t (tI (0:Int)), AV.t (Tree.sl (2:Nat) []), AV.t (Tree.str (ByteArray.mk #[]))]])) (Option.bind (apure C n (38:Nat) [tI a4, tI a5, tI a6, tI a7, tI
  a8, Tree.bool a9, Tree.str a10, Tree.sl (2:Nat) a11]) fun y15 => cnd (List.length y15 = (1:Nat)) (cnd (okI y15 0) (again13 ([AV.t (Tree.bool ((gI y15 0) != (0:Int)))], [AObj.box [AV.t (tI a0), AV.t
  (tI a1), AV.t (Tree.sl (2:Nat) a2), AV.t (Tree.str a3)], AObj.box [AV.t (tI (0:Int)), AV.t (tI (0:Int)), AV.t (Tree.sl (2:Nat) []), AV.t (Tree.str (ByteArray.mk #[]))]])) none) none)) none) none := by kernel_rfl

noncomputable def L14_1 (n : Nat) (a10 : ByteArray) (a7 : Int) (a8 : Int) (a2 : List (List Tree)) (a9 : Bool) (a0 : Int) (a6 : Int) (p20 : List AV × Heap) (again21 : (List AV × Heap) → Option (List Tree)) : Option (List Tree) :=
  cnd (decide (vI p20 0 < ((ByteArray.size a10:Nat):Int)) = true) (cnd ((0:Int) ≤ vI p20 0 ∧ vI p20 0 < ((ByteArray.size a10:Nat):Int)) (cnd (oVer p20 1 = (0:Nat) ∧ (1:Nat) = (1:Nat) ∧ (0:Int) ≤ w64 (a7
  + (vI p20 0)) ∧ w64 (a7 + (vI p20 0)) < ((Int.toNat a8:Nat):Int)) (cnd (oVer p20 1 = (0:Nat) ∧ (1:Nat) ≤ (1:Nat)) (Option.bind (oEs p20 1)[(0:Nat) + (Int.toNat (w64 (a7 + (vI p20 0))))]? fun y22 =>
  again21 ([AV.t (tI (w64 ((vI p20 0) + (1:Int))))], [AObj.box [AV.t (tI (cI p20 0 0)), AV.t (tI (cI p20 0 1)), AV.t (Tree.sl (2:Nat) (cL p20 0 2)), AV.t (Tree.str (cS p20 0 3))], AObj.row false (0:Nat)
  (1:Nat) (List.set (oEs p20 1) ((0:Nat) + (Int.toNat (w64 (a7 + (vI p20 0))))) ([Tree.int IntKind.u8 (byteAt a10 (Int.toNat (vI p20 0)))] ++ List.drop (1:Nat) y22))])) none) none) none) (cnd (oVer p20
  1 = (0:Nat) ∧ ((1:Nat) = (1:Nat) ∨ (1:Nat) = (0:Nat))) (cnd (okBytes (List.take (Int.toNat a8) (oEs p20 1)) = true) (Option.bind (apure C n (43:Nat) [Tree.sl (2:Nat) a2, Tree.sl (2:Nat) [[tI a7, tI
  (w64 (a7 + ((ByteArray.size a10:Nat):Int)))]]]) fun y23 => cnd (List.length y23 = (2:Nat)) (cnd (okL 2 y23 0) (cnd (okI y23 1) (cnd ((!a9) = true) (some [tI a0, tI a8, Tree.sl (2:Nat) (gL y23 0),
  Tree.str (bytesOf (List.take (Int.toNat a8) (oEs p20 1))), Tree.sl (8:Nat) [], tI (0:Int)]) (Option.bind (apure C n (44:Nat) [tI a0, tI a6, tI a8, Tree.sl (2:Nat) (gL y23 0)]) fun y24 => cnd
  (List.length y24 = (9:Nat)) (cnd (okI y24 0) (cnd (okI y24 1) (cnd (okI y24 2) (cnd (okI y24 3) (cnd (okI y24 4) (cnd (okB y24 5) (cnd (okS y24 6) (cnd (okL 2 y24 7) (cnd (okI y24 8) (some [tI a0, tI
  a8, Tree.sl (2:Nat) (gL y23 0), Tree.str (bytesOf (List.take (Int.toNat a8) (oEs p20 1))), Tree.sl (8:Nat) [[tI (gI y24 0), tI (gI y24 1), tI (gI y24 2), tI (gI y24 3), tI (gI y24 4), Tree.bool (gB
  y24 5), Tree.str (gS y24 6), Tree.sl (2:Nat) (gL y24 7)]], tI (0:Int)]) none) none) none) none) none) none) none) none) none) none)) none) none) none) none) none)

noncomputable def L14_2 (n : Nat) (a3 : ByteArray) (a8 : Int) (a10 : ByteArray) (a7 : Int) (a2 : List (List Tree)) (a9 : Bool) (a0 : Int) (a6 : Int) (p17 : List AV × Heap) (again18 : (List AV × Heap) → Option (List Tree)) : Option (List Tree) :=
  cnd (decide (vI p17 0 < ((ByteArray.size a3:Nat):Int)) = true) (cnd ((0:Int) ≤ vI p17 0 ∧ vI p17 0 < ((ByteArray.size a3:Nat):Int)) (cnd (oVer p17 1 = (0:Nat) ∧ (1:Nat) = (1:Nat) ∧ (0:Int) ≤ vI p17 0
  ∧ vI p17 0 < ((Int.toNat a8:Nat):Int)) (cnd (oVer p17 1 = (0:Nat) ∧ (1:Nat) ≤ (1:Nat)) (Option.bind (oEs p17 1)[(0:Nat) + (Int.toNat (vI p17 0))]? fun y19 => again18 ([AV.t (tI (w64 ((vI p17 0) +
  (1:Int))))], [AObj.box [AV.t (tI (cI p17 0 0)), AV.t (tI (cI p17 0 1)), AV.t (Tree.sl (2:Nat) (cL p17 0 2)), AV.t (Tree.str (cS p17 0 3))], AObj.row false (0:Nat) (1:Nat) (List.set (oEs p17 1)
  ((0:Nat) + (Int.toNat (vI p17 0))) ([Tree.int IntKind.u8 (byteAt a3 (Int.toNat (vI p17 0)))] ++ List.drop (1:Nat) y19))])) none) none) none) (loopIter (fun (p20 : List AV × Heap) (again21 : _ → Option
  (List Tree)) => L14_1 n a10 a7 a8 a2 a9 a0 a6 p20 again21) n ([AV.t (tI (0:Int))], [AObj.box [AV.t (tI (cI p17 0 0)), AV.t (tI (cI p17 0 1)), AV.t (Tree.sl (2:Nat) (cL p17 0 2)), AV.t (Tree.str (cS
  p17 0 3))], AObj.row false (oVer p17 1) (1:Nat) (oEs p17 1)]))

noncomputable def J14_3 (n : Nat) (a0 : Int) (a1 : Int) (a2 : List (List Tree)) (a3 : ByteArray) (a4 : Int) (a5 : Int) (a6 : Int) (a7 : Int) (a8 : Int) (a9 : Bool) (a10 : ByteArray) (a11 : List (List Tree)) (p12 : List AV × Heap) : Option (List Tree) :=
  cnd (vB p12 0 = true) (some [tI (0:Int), tI (0:Int), Tree.sl (2:Nat) [], Tree.str (ByteArray.mk #[]), Tree.sl (8:Nat) [], tI (1:Int)]) (Option.bind (apure C n (42:Nat) [tI a0, tI a1, Tree.sl (2:Nat)
  a2, Tree.str a3, tI a4, tI a5, tI a6, tI a7, tI a8, Tree.bool a9, Tree.str a10, Tree.sl (2:Nat) a11]) fun y16 => cnd (List.length y16 = (1:Nat)) (cnd (okB y16 0) (cnd ((!(gB y16 0)) = true) (some [tI
  a0, tI a1, Tree.sl (2:Nat) a2, Tree.str a3, Tree.sl (8:Nat) [], tI (0:Int)]) (cnd (a8 = a8 ∧ (0:Int) ≤ a8 ∧ a8 ≤ (1073741824:Int) ∧ (1:Nat) = (1:Nat)) (loopIter (fun (p17 : List AV × Heap) (again18 :
  _ → Option (List Tree)) => L14_2 n a3 a8 a10 a7 a2 a9 a0 a6 p17 again18) n ([AV.t (tI (0:Int))], [AObj.box [AV.t (tI (cI p12 0 0)), AV.t (tI (cI p12 0 1)), AV.t (Tree.sl (2:Nat) (cL p12 0 2)), AV.t
  (Tree.str (cS p12 0 3))], AObj.row false (0:Nat) (1:Nat) (List.replicate (Int.toNat a8) [Tree.int IntKind.u8 (0:Int)])])) none)) none) none)
theorem e14 (n : Nat) (a0 : Int) (a1 : Int) (a2 : List (List Tree)) (a3 : ByteArray) (a4 : Int) (a5 : Int) (a6 : Int) (a7 : Int) (a8 : Int) (a9 : Bool) (a10 : ByteArray) (a11 : List (List Tree)) : apure C (n + 1) 14 [tI a0, tI a1, Tree.sl (2:Nat) a2, Tree.str a3, tI a4, tI a5, tI a6, tI a7, tI a8, Tree.bool a9, Tree.str a10, Tree.sl (2:Nat) a11] =
  join (fun (p12 : List AV × Heap) => J14_3 n a0 a1 a2 a3 a4 a5 a6 a7 a8 a9 a10 a11 p12) fun (again13 : _ → Option (List Tree)) => Option.bind (apure C n (17:Nat) [tI a0, tI a1, Tree.sl (2:Nat) a2,
  Tree.str a3]) fun y14 => cnd (List.length y14 = (1:Nat)) (cnd (okI y14 0) (cnd (((gI y14 0) != (0:Int)) = true) (again13 ([AV.t (Tree.bool true)], [AObj.box [AV.t (tI (0:Int)), AV.t (tI (0:Int)), AV.t
  (Tree.sl (2:Nat) []), AV.t (Tree.str (ByteArray.mk #[]))]])) (Option.bind (apure C n (27:Nat) [tI a4, tI a5, tI a6, tI a7, tI a8, Tree.bool a9, Tree.str a10, Tree.sl (2:Nat) a11]) fun y15 => cnd
  (List.length y15 = (1:Nat)) (cnd (okI y15 0) (again13 ([AV.t (Tree.bool ((gI y15 0) != (0:Int)))], [AObj.box [AV.t (tI (0:Int)), AV.t (tI (0:Int)), AV.t (Tree.sl (2:Nat) []), AV.t (Tree.str
  (ByteArray.mk #[]))]])) none) none)) none) none := by kernel_rfl

theorem e15 (n : Nat) (a0 : Int) (a1 : Int) (a2 : List (List Tree)) (a3 : ByteArray) (a4 : Int) (a5 : Int) (a6 : List (List Tree)) (a7 : ByteArray) : apure C (n + 1) 15 [tI a0, tI a1, Tree.sl (2:Nat) a2, Tree.str a3, tI a4, tI a5, Tree.sl (2:Nat) a6, Tree.str a7] =
  cnd ((a0 == a4) = true) (cnd ((a1 == a5) = true) (cnd ((a3 == a7) = true) (Option.bind (apure C n (45:Nat) [Tree.sl (2:Nat) a2, Tree.sl (2:Nat) a6]) fun y10 => cnd (List.length y10 = (1:Nat)) (cnd
  (okB y10 0) (some [Tree.bool (gB y10 0)]) none) none) (some [Tree.bool false])) (some [Tree.bool false])) (some [Tree.bool false]) := by kernel_rfl

noncomputable def L16_1 (n : Nat) (a2 : List (List Tree)) (a3 : ByteArray) (p13 : List AV × Heap) (again14 : (List AV × Heap) → Option (List Tree)) : Option (List Tree) :=
  cnd (decide (vI p13 0 < ((List.length a2:Nat):Int)) = true) (cnd ((2:Nat) = (2:Nat) ∧ (0:Int) ≤ vI p13 0) (Option.bind a2[Int.toNat (vI p13 0)]? fun y15 => cnd (okI y15 0) (cnd (okI y15 1) (cnd
  ((0:Int) ≤ gI y15 0 ∧ gI y15 0 ≤ ((ByteArray.size a3:Nat):Int)) (cnd ((0:Int) ≤ cI p13 0 0 ∧ cI p13 0 0 ≤ ((Int.toNat (gI y15 0):Nat):Int)) (Option.bind (apure C n (48:Nat) [Tree.str
  (ByteArray.extract a3 (Int.toNat (cI p13 0 0)) (Int.toNat (gI y15 0))), Tree.str (ByteArray.mk #[0])]) fun y18 => cnd (List.length y18 = (1:Nat)) (cnd (okS y18 0) (cnd ((!((gS y18 0) == (ByteArray.mk
  #[]))) = true) (some [tI (24:Int)]) (again14 ([AV.t (tI (w64 ((vI p13 0) + (1:Int))))], [AObj.box [AV.t (tI (gI y15 1))]]))) none) none) none) none) none) none) none) (cnd ((0:Int) ≤ ((ByteArray.size
  a3:Nat):Int) ∧ ((ByteArray.size a3:Nat):Int) ≤ ((ByteArray.size a3:Nat):Int)) (cnd ((0:Int) ≤ cI p13 0 0 ∧ cI p13 0 0 ≤ ((ByteArray.size a3:Nat):Int)) (Option.bind (apure C n (48:Nat) [Tree.str
  (ByteArray.extract a3 (Int.toNat (cI p13 0 0)) (ByteArray.size a3)), Tree.str (ByteArray.mk #[0])]) fun y21 => cnd (List.length y21 = (1:Nat)) (cnd (okS y21 0) (cnd ((!((gS y21 0) == (ByteArray.mk
  #[]))) = true) (some [tI (24:Int)]) (some [tI (0:Int)])) none) none) none) none)

noncomputable def J16_2 (n : Nat) (a3 : ByteArray) (a1 : Int) (a2 : List (List Tree)) (p9 : List AV × Heap) : Option (List Tree) :=
  cnd (vB p9 0 = true) (some [tI (1:Int)]) (cnd ((((ByteArray.size a3:Nat):Int) != (if (0:Int) > a1 then (0:Int) else a1)) = true) (some [tI (10:Int)]) (loopIter (fun (p13 : List AV × Heap) (again14 : _
  → Option (List Tree)) => L16_1 n a2 a3 p13 again14) n ([AV.t (tI (0:Int))], [AObj.box [AV.t (tI (0:Int))]])))

noncomputable def J16_3 (n : Nat) (a3 : ByteArray) (a1 : Int) (a2 : List (List Tree)) (p6 : List AV × Heap) : Option (List Tree) :=
  cnd (vB p6 0 = true) (some [tI (1:Int)]) (join (fun (p9 : List AV × Heap) => J16_2 n a3 a1 a2 p9) fun (again10 : _ → Option (List Tree)) => cnd (decide (((List.length a2:Nat):Int) > (0:Int)) = true)
  (Option.bind a2[(0:Nat)]? fun y11 => cnd (okI y11 0) (cnd (decide (gI y11 0 < (0:Int)) = true) (again10 ([AV.t (Tree.bool true)], [])) (cnd ((2:Nat) = (2:Nat) ∧ (0:Int) ≤ w64 (((List.length
  a2:Nat):Int) - (1:Int))) (Option.bind a2[Int.toNat (w64 (((List.length a2:Nat):Int) - (1:Int)))]? fun y12 => cnd (okI y12 1) (again10 ([AV.t (Tree.bool (decide (gI y12 1 > a1)))], [])) none) none))
  none) (again10 ([AV.t (Tree.bool false)], [])))

noncomputable def J16_4 (n : Nat) (a3 : ByteArray) (a1 : Int) (a2 : List (List Tree)) (p4 : List AV × Heap) : Option (List Tree) :=
  cnd (vB p4 0 = true) (some [tI (2:Int)]) (join (fun (p6 : List AV × Heap) => J16_3 n a3 a1 a2 p6) fun (again7 : _ → Option (List Tree)) => Option.bind (apure C n (46:Nat) [Tree.sl (2:Nat) a2]) fun y8
  => cnd (List.length y8 = (1:Nat)) (cnd (okI y8 0) (cnd (((gI y8 0) != (0:Int)) = true) (again7 ([AV.t (Tree.bool true)], [])) (again7 ([AV.t (Tree.bool (!((((List.length a2:Nat):Int) == (0:Int)) ==
  (a1 == (-1:Int)))))], []))) none) none)
theorem e16 (n : Nat) (a0 : Int) (a1 : Int) (a2 : List (List Tree)) (a3 : ByteArray) : apure C (n + 1) 16 [tI a0, tI a1, Tree.sl (2:Nat) a2, Tree.str a3] =
  join (fun (p4 : List AV × Heap) => J16_4 n a3 a1 a2 p4) fun (again5 : _ → Option (List Tree)) => cnd (decide (a0 < (0:Int)) = true) (again5 ([AV.t (Tree.bool true)], [])) (cnd (decide (a0 >
  (1099511627776:Int)) = true) (again5 ([AV.t (Tree.bool true)], [])) (cnd ((a1 != (-1:Int)) = true) (cnd (decide (a1 < (1:Int)) = true) (again5 ([AV.t (Tree.bool true)], [])) (again5 ([AV.t (Tree.bool
  (decide (a1 > (65536:Int))))], []))) (again5 ([AV.t (Tree.bool false)], [])))) := by kernel_rfl

noncomputable def L17_1 (n : Nat) (a3 : ByteArray) (a2 : List (List Tree)) (p7 : List AV × Heap) (again8 : (List AV × Heap) → Option (List Tree)) : Option (List Tree) :=
  cnd (decide (vI p7 0 < ((ByteArray.size a3:Nat):Int)) = true) (cnd ((0:Int) ≤ vI p7 0 ∧ vI p7 0 < ((ByteArray.size a3:Nat):Int)) (cnd (((byteAt a3 (Int.toNat (vI p7 0))) != (0:Int)) = true)
  (Option.bind (apure C n (50:Nat) [Tree.sl (2:Nat) a2, tI (vI p7 0)]) fun y11 => cnd (List.length y11 = (1:Nat)) (cnd (okB y11 0) (cnd ((!(gB y11 0)) = true) (some [tI (24:Int)]) (again8 ([AV.t (tI
  (w64 ((vI p7 0) + (1:Int))))], []))) none) none) (again8 ([AV.t (tI (w64 ((vI p7 0) + (1:Int))))], []))) none) (some [tI (0:Int)])

noncomputable def J17_2 (n : Nat) (a0 : Int) (a1 : Int) (a2 : List (List Tree)) (a3 : ByteArray) (p4 : List AV × Heap) : Option (List Tree) :=
  cnd (vB p4 0 = true) (some [tI (2:Int)]) (Option.bind (apure C n (49:Nat) [tI a0, tI a1, Tree.sl (2:Nat) a2, Tree.str a3]) fun y6 => cnd (List.length y6 = (1:Nat)) (cnd (okB y6 0) (cnd ((!(gB y6 0)) =
  true) (some [tI (1:Int)]) (cnd ((((ByteArray.size a3:Nat):Int) != (if (0:Int) > a1 then (0:Int) else a1)) = true) (some [tI (10:Int)]) (loopIter (fun (p7 : List AV × Heap) (again8 : _ → Option (List
  Tree)) => L17_1 n a3 a2 p7 again8) n ([AV.t (tI (0:Int))], [])))) none) none)
theorem e17 (n : Nat) (a0 : Int) (a1 : Int) (a2 : List (List Tree)) (a3 : ByteArray) : apure C (n + 1) 17 [tI a0, tI a1, Tree.sl (2:Nat) a2, Tree.str a3] =
  join (fun (p4 : List AV × Heap) => J17_2 n a0 a1 a2 a3 p4) fun (again5 : _ → Option (List Tree)) => cnd (decide (a0 < (0:Int)) = true) (again5 ([AV.t (Tree.bool true)], [])) (cnd (decide (a0 >
  (1099511627776:Int)) = true) (again5 ([AV.t (Tree.bool true)], [])) (cnd ((a1 != (-1:Int)) = true) (cnd (decide (a1 < (1:Int)) = true) (again5 ([AV.t (Tree.bool true)], [])) (again5 ([AV.t (Tree.bool
  (decide (a1 > (65536:Int))))], []))) (again5 ([AV.t (Tree.bool false)], [])))) := by kernel_rfl

noncomputable def L18_1 (n : Nat) (a0 : List (List Tree)) (a1 : List (List Tree)) (p2 : List AV × Heap) (again3 : (List AV × Heap) → Option (List Tree)) : Option (List Tree) :=
  cnd (decide (vI p2 0 < ((List.length a0:Nat):Int)) = true) (cnd ((8:Nat) = (8:Nat) ∧ (0:Int) ≤ vI p2 0) (Option.bind a0[Int.toNat (vI p2 0)]? fun y4 => cnd (okI y4 0) (cnd (okI y4 1) (cnd (okI y4 2)
  (cnd (okI y4 3) (cnd (okI y4 4) (cnd (okB y4 5) (cnd (okS y4 6) (cnd (okL 2 y4 7) (cnd ((8:Nat) = (8:Nat) ∧ (0:Int) ≤ vI p2 0) (Option.bind a1[Int.toNat (vI p2 0)]? fun y5 => cnd (okI y5 0) (cnd (okI
  y5 1) (cnd (okI y5 2) (cnd (okI y5 3) (cnd (okI y5 4) (cnd (okB y5 5) (cnd (okS y5 6) (cnd (okL 2 y5 7) (Option.bind (apure C n (51:Nat) [tI (gI y4 0), tI (gI y4 1), tI (gI y4 2), tI (gI y4 3), tI (gI
  y4 4), Tree.bool (gB y4 5), Tree.str (gS y4 6), Tree.sl (2:Nat) (gL y4 7), tI (gI y5 0), tI (gI y5 1), tI (gI y5 2), tI (gI y5 3), tI (gI y5 4), Tree.bool (gB y5 5), Tree.str (gS y5 6), Tree.sl
  (2:Nat) (gL y5 7)]) fun y6 => cnd (List.length y6 = (1:Nat)) (cnd (okB y6 0) (cnd ((!(gB y6 0)) = true) (some [Tree.bool false]) (again3 ([AV.t (tI (w64 ((vI p2 0) + (1:Int))))], []))) none) none)
  none) none) none) none) none) none) none) none) none) none) none) none) none) none) none) none) none) none) (some [Tree.bool true])
theorem e18 (n : Nat) (a0 : List (List Tree)) (a1 : List (List Tree)) : apure C (n + 1) 18 [Tree.sl (8:Nat) a0, Tree.sl (8:Nat) a1] =
  cnd ((((List.length a0:Nat):Int) != ((List.length a1:Nat):Int)) = true) (some [Tree.bool false]) (loopIter (fun (p2 : List AV × Heap) (again3 : _ → Option (List Tree)) => L18_1 n a0 a1 p2 again3) n
  ([AV.t (tI (0:Int))], [])) := by kernel_rfl

theorem e19 (n : Nat) (a0 : Int) (a1 : Int) (a2 : List (List Tree)) (a3 : ByteArray) : apure C (n + 1) 19 [tI a0, tI a1, Tree.sl (2:Nat) a2, Tree.str a3] =
  Option.bind (apure C n (16:Nat) [tI a0, tI a1, Tree.sl (2:Nat) a2, Tree.str a3]) fun y4 => cnd (List.length y4 = (1:Nat)) (cnd (okI y4 0) (cnd (((gI y4 0) != (0:Int)) = true) (some [Tree.str
  (ByteArray.mk #[]), tI (1:Int)]) (Option.bind (apure C n (21:Nat) [tI a0, tI a1, Tree.sl (2:Nat) a2, Tree.str a3]) fun y5 => cnd (List.length y5 = (1:Nat)) (cnd (okB y5 0) (cnd ((!(gB y5 0)) = true)
  (some [Tree.str (ByteArray.mk #[]), tI (25:Int)]) (some [Tree.str a3, tI (0:Int)])) none) none)) none) none := by kernel_rfl

theorem e20 (n : Nat) (a0 : Int) (a1 : Int) (a2 : List (List Tree)) (a3 : ByteArray) : apure C (n + 1) 20 [tI a0, tI a1, Tree.sl (2:Nat) a2, Tree.str a3] =
  Option.bind (apure C n (17:Nat) [tI a0, tI a1, Tree.sl (2:Nat) a2, Tree.str a3]) fun y4 => cnd (List.length y4 = (1:Nat)) (cnd (okI y4 0) (cnd (((gI y4 0) != (0:Int)) = true) (some [Tree.str
  (ByteArray.mk #[]), tI (1:Int)]) (Option.bind (apure C n (22:Nat) [tI a0, tI a1, Tree.sl (2:Nat) a2, Tree.str a3]) fun y5 => cnd (List.length y5 = (1:Nat)) (cnd (okB y5 0) (cnd ((!(gB y5 0)) = true)
  (some [Tree.str (ByteArray.mk #[]), tI (25:Int)]) (some [Tree.str a3, tI (0:Int)])) none) none)) none) none := by kernel_rfl

theorem e21 (n : Nat) (a0 : Int) (a1 : Int) (a2 : List (List Tree)) (a3 : ByteArray) : apure C (n + 1) 21 [tI a0, tI a1, Tree.sl (2:Nat) a2, Tree.str a3] =
  Option.bind (apure C n (16:Nat) [tI a0, tI a1, Tree.sl (2:Nat) a2, Tree.str a3]) fun y6 => cnd (List.length y6 = (1:Nat)) (cnd (okI y6 0) (cnd (((gI y6 0) == (0:Int)) = true) (cnd ((((List.length
  a2:Nat):Int) == (1:Int)) = true) (Option.bind a2[(0:Nat)]? fun y7 => cnd (okI y7 0) (cnd (okI y7 1) (some [Tree.bool (((gI y7 0) == (0:Int)) && ((gI y7 1) == a1))]) none) none) (some [Tree.bool
  false])) (some [Tree.bool false])) none) none := by kernel_rfl

theorem e22 (n : Nat) (a0 : Int) (a1 : Int) (a2 : List (List Tree)) (a3 : ByteArray) : apure C (n + 1) 22 [tI a0, tI a1, Tree.sl (2:Nat) a2, Tree.str a3] =
  Option.bind (apure C n (17:Nat) [tI a0, tI a1, Tree.sl (2:Nat) a2, Tree.str a3]) fun y6 => cnd (List.length y6 = (1:Nat)) (cnd (okI y6 0) (cnd (((gI y6 0) == (0:Int)) = true) (cnd ((((List.length
  a2:Nat):Int) == (1:Int)) = true) (Option.bind a2[(0:Nat)]? fun y7 => cnd (okI y7 0) (cnd (((gI y7 0) == (0:Int)) = true) (Option.bind a2[(0:Nat)]? fun y8 => cnd (okI y8 1) (some [Tree.bool ((gI y8 1)
  == a1)]) none) (some [Tree.bool false])) none) (some [Tree.bool false])) (some [Tree.bool false])) none) none := by kernel_rfl

noncomputable def J23_1 (n : Nat) (p3 : List AV × Heap) (again4 : (List AV × Heap) → Option (List Tree)) (p6 : List AV × Heap) : Option (List Tree) :=
  cnd (oVer p6 0 = sVer p3 0 ∧ ((8:Nat) = (8:Nat) ∨ (8:Nat) = (0:Nat)) ∧ (sOff p3 0) + (sLen p3 0) ≤ List.length (oEs p6 0) ∧ (sLen p3 0) + (1:Nat) ≤ (1073741824:Nat)) (again4 ([AV.sref (0:Nat) ((sVer
  p3 0) + (1:Nat)) (0:Nat) ((sLen p3 0) + (1:Nat)), AV.t (tI (w64 ((vI p3 1) + (1:Int))))], [AObj.row false ((sVer p3 0) + (1:Nat)) (8:Nat) ((List.take (sLen p3 0) (List.drop (sOff p3 0) (oEs p6 0))) ++
  [[tI (cI p6 1 0), tI (cI p6 1 1), tI (cI p6 1 2), tI (cI p6 1 3), tI (cI p6 1 4), Tree.bool (cB p6 1 5), Tree.str (cS p6 1 6), Tree.sl (2:Nat) (cL p6 1 7)]])])) none

noncomputable def L23_2 (n : Nat) (a2 : List (List Tree)) (a1 : ByteArray) (a0 : Int) (p3 : List AV × Heap) (again4 : (List AV × Heap) → Option (List Tree)) : Option (List Tree) :=
  cnd (decide (vI p3 1 < ((List.length a2:Nat):Int)) = true) (cnd ((1:Nat) = (1:Nat) ∧ (0:Int) ≤ vI p3 1) (Option.bind a2[Int.toNat (vI p3 1)]? fun y5 => cnd (isIntT IntKind.u16 (List.getD y5 (0:Nat)
  default) = true) (cnd (((ByteArray.size a1:Nat):Int) = (0:Int)) none (cnd ((0:Int) ≤ w64 ((Int.tmod (w64 (gI y5 0)) ((ByteArray.size a1:Nat):Int)) + (if w64 (((ByteArray.size a1:Nat):Int) - (Int.tmod
  (w64 (gI y5 0)) ((ByteArray.size a1:Nat):Int))) < w64 ((1:Int) + (Int.tmod (w64 (shrK IntKind.u16 (gI y5 0) (8:Int))) (16:Int))) then w64 (((ByteArray.size a1:Nat):Int) - (Int.tmod (w64 (gI y5 0))
  ((ByteArray.size a1:Nat):Int))) else w64 ((1:Int) + (Int.tmod (w64 (shrK IntKind.u16 (gI y5 0) (8:Int))) (16:Int))))) ∧ w64 ((Int.tmod (w64 (gI y5 0)) ((ByteArray.size a1:Nat):Int)) + (if w64
  (((ByteArray.size a1:Nat):Int) - (Int.tmod (w64 (gI y5 0)) ((ByteArray.size a1:Nat):Int))) < w64 ((1:Int) + (Int.tmod (w64 (shrK IntKind.u16 (gI y5 0) (8:Int))) (16:Int))) then w64 (((ByteArray.size
  a1:Nat):Int) - (Int.tmod (w64 (gI y5 0)) ((ByteArray.size a1:Nat):Int))) else w64 ((1:Int) + (Int.tmod (w64 (shrK IntKind.u16 (gI y5 0) (8:Int))) (16:Int))))) ≤ ((ByteArray.size a1:Nat):Int)) (cnd
  ((0:Int) ≤ Int.tmod (w64 (gI y5 0)) ((ByteArray.size a1:Nat):Int) ∧ Int.tmod (w64 (gI y5 0)) ((ByteArray.size a1:Nat):Int) ≤ ((Int.toNat (w64 ((Int.tmod (w64 (gI y5 0)) ((ByteArray.size a1:Nat):Int))
  + (if w64 (((ByteArray.size a1:Nat):Int) - (Int.tmod (w64 (gI y5 0)) ((ByteArray.size a1:Nat):Int))) < w64 ((1:Int) + (Int.tmod (w64 (shrK IntKind.u16 (gI y5 0) (8:Int))) (16:Int))) then w64
  (((ByteArray.size a1:Nat):Int) - (Int.tmod (w64 (gI y5 0)) ((ByteArray.size a1:Nat):Int))) else w64 ((1:Int) + (Int.tmod (w64 (shrK IntKind.u16 (gI y5 0) (8:Int))) (16:Int)))))):Nat):Int)) (join (fun
  (p6 : List AV × Heap) => J23_1 n p3 again4 p6) fun (again7 : _ → Option (List Tree)) => cnd (((Int.tmod (gI y5 0) (3:Int)) == (0:Int)) = true) (again7 ([], [AObj.row false (oVer p3 0) (8:Nat) (oEs p3
  0), AObj.box [AV.t (tI (1:Int)), AV.t (tI a0), AV.t (tI (w64 ((1:Int) + (w64 (gI y5 0))))), AV.t (tI (Int.tmod (w64 (gI y5 0)) ((ByteArray.size a1:Nat):Int))), AV.t (tI ((ByteArray.size a1:Nat):Int)),
  AV.t (Tree.bool true), AV.t (Tree.str (ByteArray.extract a1 (Int.toNat (Int.tmod (w64 (gI y5 0)) ((ByteArray.size a1:Nat):Int))) (Int.toNat (w64 ((Int.tmod (w64 (gI y5 0)) ((ByteArray.size
  a1:Nat):Int)) + (if w64 (((ByteArray.size a1:Nat):Int) - (Int.tmod (w64 (gI y5 0)) ((ByteArray.size a1:Nat):Int))) < w64 ((1:Int) + (Int.tmod (w64 (shrK IntKind.u16 (gI y5 0) (8:Int))) (16:Int))) then
  w64 (((ByteArray.size a1:Nat):Int) - (Int.tmod (w64 (gI y5 0)) ((ByteArray.size a1:Nat):Int))) else w64 ((1:Int) + (Int.tmod (w64 (shrK IntKind.u16 (gI y5 0) (8:Int))) (16:Int))))))))), AV.t (Tree.sl
  (2:Nat) [])]])) (again7 ([], [AObj.row false (oVer p3 0) (8:Nat) (oEs p3 0), AObj.box [AV.t (tI (1:Int)), AV.t (tI a0), AV.t (tI (0:Int)), AV.t (tI (Int.tmod (w64 (gI y5 0)) ((ByteArray.size
  a1:Nat):Int))), AV.t (tI ((ByteArray.size a1:Nat):Int)), AV.t (Tree.bool false), AV.t (Tree.str (ByteArray.extract a1 (Int.toNat (Int.tmod (w64 (gI y5 0)) ((ByteArray.size a1:Nat):Int))) (Int.toNat
  (w64 ((Int.tmod (w64 (gI y5 0)) ((ByteArray.size a1:Nat):Int)) + (if w64 (((ByteArray.size a1:Nat):Int) - (Int.tmod (w64 (gI y5 0)) ((ByteArray.size a1:Nat):Int))) < w64 ((1:Int) + (Int.tmod (w64
  (shrK IntKind.u16 (gI y5 0) (8:Int))) (16:Int))) then w64 (((ByteArray.size a1:Nat):Int) - (Int.tmod (w64 (gI y5 0)) ((ByteArray.size a1:Nat):Int))) else w64 ((1:Int) + (Int.tmod (w64 (shrK
  IntKind.u16 (gI y5 0) (8:Int))) (16:Int))))))))), AV.t (Tree.sl (2:Nat) [])]]))) none) none)) none) none) (cnd ((false = true ∨ false = false) ∧ oVer p3 0 = sVer p3 0 ∧ ((8:Nat) = (8:Nat) ∨ (8:Nat) =
  (0:Nat))) (some [Tree.sl (8:Nat) (List.take (sLen p3 0) (List.drop (sOff p3 0) (oEs p3 0)))]) none)
theorem e23 (n : Nat) (a0 : Int) (a1 : ByteArray) (a2 : List (List Tree)) : apure C (n + 1) 23 [tI a0, Tree.str a1, Tree.sl (1:Nat) a2] =
  loopIter (fun (p3 : List AV × Heap) (again4 : _ → Option (List Tree)) => L23_2 n a2 a1 a0 p3 again4) n ([AV.sref (0:Nat) (0:Nat) (0:Nat) (0:Nat), AV.t (tI (0:Int))], [AObj.row false (0:Nat) (8:Nat)
  []]) := by kernel_rfl

theorem e26 (n : Nat) (a0 : Int) (a1 : Int) (a2 : Int) (a3 : List (List Tree)) : apure C (n + 1) 26 [tI a0, tI a1, tI a2, Tree.sl (2:Nat) a3] =
  Option.bind (apure C n (38:Nat) [tI (2:Int), tI a0, tI a1, tI (0:Int), tI a2, Tree.bool false, Tree.str (ByteArray.mk #[]), Tree.sl (2:Nat) a3]) fun y4 => cnd (List.length y4 = (1:Nat)) (cnd (okI y4
  0) (cnd (((gI y4 0) != (0:Int)) = true) (some [tI (0:Int), tI (0:Int), tI (0:Int), tI (0:Int), tI (0:Int), Tree.bool false, Tree.str (ByteArray.mk #[]), Tree.sl (2:Nat) [], tI (gI y4 0)]) (some [tI
  (2:Int), tI a0, tI a1, tI (0:Int), tI a2, Tree.bool false, Tree.str (ByteArray.mk #[]), Tree.sl (2:Nat) a3, tI (0:Int)])) none) none := by kernel_rfl

theorem e27 (n : Nat) (a0 : Int) (a1 : Int) (a2 : Int) (a3 : Int) (a4 : Int) (a5 : Bool) (a6 : ByteArray) (a7 : List (List Tree)) : apure C (n + 1) 27 [tI a0, tI a1, tI a2, tI a3, tI a4, Tree.bool a5, Tree.str a6, Tree.sl (2:Nat) a7] =
  Option.bind (apure C n (53:Nat) [tI a0, tI (1:Int), tI (3:Int)]) fun y8 => cnd (List.length y8 = (1:Nat)) (cnd (okB y8 0) (cnd ((!(gB y8 0)) = true) (some [tI (8:Int)]) (Option.bind (apure C n
  (54:Nat) [tI a0, tI a1, tI a2, tI a3, tI a4, Tree.bool a5, Tree.str a6, Tree.sl (2:Nat) a7]) fun y9 => cnd (List.length y9 = (1:Nat)) (cnd (okB y9 0) (cnd ((!(gB y9 0)) = true) (some [tI (2:Int)])
  (Option.bind (apure C n (55:Nat) [tI a0, tI a1, tI a2, tI a3, tI a4, Tree.bool a5, Tree.str a6, Tree.sl (2:Nat) a7]) fun y10 => cnd (List.length y10 = (1:Nat)) (cnd (okB y10 0) (cnd ((!(gB y10 0)) =
  true) (some [tI (1:Int)]) (some [tI (0:Int)])) none) none)) none) none)) none) none := by kernel_rfl

noncomputable def L29_1 (n : Nat) (a1 : List (List Tree)) (p3 : List AV × Heap) (again4 : (List AV × Heap) → Option (List Tree)) : Option (List Tree) :=
  cnd (decide (vI p3 1 < ((List.length a1:Nat):Int)) = true) (cnd ((8:Nat) = (8:Nat) ∧ (0:Int) ≤ vI p3 1) (Option.bind a1[Int.toNat (vI p3 1)]? fun y5 => cnd (okI y5 0) (cnd (okI y5 1) (cnd (okI y5 2)
  (cnd (okI y5 3) (cnd (okI y5 4) (cnd (okB y5 5) (cnd (okS y5 6) (cnd (okL 2 y5 7) (cnd (((vI p3 0) != (0:Int)) = true) (some [tI (cI p3 1 0), tI (cI p3 1 1), Tree.sl (2:Nat) (cL p3 1 2), Tree.str (cS
  p3 1 3), Tree.bool false]) (Option.bind (apure C n (13:Nat) [tI (cI p3 1 0), tI (cI p3 1 1), Tree.sl (2:Nat) (cL p3 1 2), Tree.str (cS p3 1 3), tI (gI y5 0), tI (gI y5 1), tI (gI y5 2), tI (gI y5 3),
  tI (gI y5 4), Tree.bool (gB y5 5), Tree.str (gS y5 6), Tree.sl (2:Nat) (gL y5 7)]) fun y6 => cnd (List.length y6 = (6:Nat)) (cnd (okI y6 0) (cnd (okI y6 1) (cnd (okL 2 y6 2) (cnd (okS y6 3) (cnd (okL
  8 y6 4) (cnd (okI y6 5) (again4 ([AV.t (tI (gI y6 5)), AV.t (tI (w64 ((vI p3 1) + (1:Int))))], [AObj.box [AV.t (tI (cI p3 0 0)), AV.t (tI (cI p3 0 1)), AV.t (Tree.sl (2:Nat) (cL p3 0 2)), AV.t
  (Tree.str (cS p3 0 3))], AObj.box [AV.t (tI (gI y6 0)), AV.t (tI (gI y6 1)), AV.t (Tree.sl (2:Nat) (gL y6 2)), AV.t (Tree.str (gS y6 3))]])) none) none) none) none) none) none) none)) none) none)
  none) none) none) none) none) none) none) (some [tI (cI p3 1 0), tI (cI p3 1 1), Tree.sl (2:Nat) (cL p3 1 2), Tree.str (cS p3 1 3), Tree.bool ((vI p3 0) == (0:Int))])
theorem e29 (n : Nat) (a0 : Int) (a1 : List (List Tree)) : apure C (n + 1) 29 [tI a0, Tree.sl (8:Nat) a1] =
  Option.bind (apure C n (11:Nat) [tI a0]) fun y2 => cnd (List.length y2 = (5:Nat)) (cnd (okI y2 0) (cnd (okI y2 1) (cnd (okL 2 y2 2) (cnd (okS y2 3) (cnd (okI y2 4) (loopIter (fun (p3 : List AV × Heap)
  (again4 : _ → Option (List Tree)) => L29_1 n a1 p3 again4) n ([AV.t (tI (gI y2 4)), AV.t (tI (0:Int))], [AObj.box [AV.t (tI (0:Int)), AV.t (tI (0:Int)), AV.t (Tree.sl (2:Nat) []), AV.t (Tree.str
  (ByteArray.mk #[]))], AObj.box [AV.t (tI (gI y2 0)), AV.t (tI (gI y2 1)), AV.t (Tree.sl (2:Nat) (gL y2 2)), AV.t (Tree.str (gS y2 3))]])) none) none) none) none) none) none := by kernel_rfl

noncomputable def L32_1 (n : Nat) (y11 : List Tree) (a2 : ByteArray) (a0 : Int) (again10 : (List AV × Heap) → Option (List Tree)) (p9 : List AV × Heap) (p12 : List AV × Heap) (again13 : (List AV × Heap) → Option (List Tree)) : Option (List Tree) :=
  cnd (decide (vI p12 0 < gI y11 1) = true) (cnd ((0:Int) ≤ (if w64 ((w64 ((w64 (Int.tdiv (vI p12 0) (16:Int))) + (1:Int))) * (16:Int)) < gI y11 1 then w64 ((w64 ((w64 (Int.tdiv (vI p12 0) (16:Int))) +
  (1:Int))) * (16:Int)) else gI y11 1) ∧ (if w64 ((w64 ((w64 (Int.tdiv (vI p12 0) (16:Int))) + (1:Int))) * (16:Int)) < gI y11 1 then w64 ((w64 ((w64 (Int.tdiv (vI p12 0) (16:Int))) + (1:Int))) *
  (16:Int)) else gI y11 1) ≤ ((ByteArray.size a2:Nat):Int)) (cnd ((0:Int) ≤ vI p12 0 ∧ vI p12 0 ≤ ((Int.toNat (if w64 ((w64 ((w64 (Int.tdiv (vI p12 0) (16:Int))) + (1:Int))) * (16:Int)) < gI y11 1 then
  w64 ((w64 ((w64 (Int.tdiv (vI p12 0) (16:Int))) + (1:Int))) * (16:Int)) else gI y11 1):Nat):Int)) (cnd (oVer p12 0 = cVer p12 1 0 ∧ ((8:Nat) = (8:Nat) ∨ (8:Nat) = (0:Nat)) ∧ (cOff p12 1 0) + (cLen p12
  1 0) ≤ List.length (oEs p12 0) ∧ (cLen p12 1 0) + (1:Nat) ≤ (1073741824:Nat)) (again13 ([AV.t (tI (if w64 ((w64 ((w64 (Int.tdiv (vI p12 0) (16:Int))) + (1:Int))) * (16:Int)) < gI y11 1 then w64 ((w64
  ((w64 (Int.tdiv (vI p12 0) (16:Int))) + (1:Int))) * (16:Int)) else gI y11 1))], [AObj.row false ((cVer p12 1 0) + (1:Nat)) (8:Nat) ((List.take (cLen p12 1 0) (List.drop (cOff p12 1 0) (oEs p12 0))) ++
  [[tI (1:Int), tI a0, tI (0:Int), tI (vI p12 0), tI ((ByteArray.size a2:Nat):Int), Tree.bool false, Tree.str (ByteArray.extract a2 (Int.toNat (vI p12 0)) (Int.toNat (if w64 ((w64 ((w64 (Int.tdiv (vI
  p12 0) (16:Int))) + (1:Int))) * (16:Int)) < gI y11 1 then w64 ((w64 ((w64 (Int.tdiv (vI p12 0) (16:Int))) + (1:Int))) * (16:Int)) else gI y11 1))), Tree.sl (2:Nat) []]]), AObj.box [AV.sref (0:Nat)
  ((cVer p12 1 0) + (1:Nat)) (0:Nat) ((cLen p12 1 0) + (1:Nat))], AObj.box [], AObj.box []])) none) none) none) (again10 ([AV.t (tI (w64 ((vI p9 0) + (1:Int))))], [AObj.row false (oVer p12 0) (8:Nat)
  (oEs p12 0), AObj.box [AV.sref (0:Nat) (cVer p12 1 0) (cOff p12 1 0) (cLen p12 1 0)], AObj.box []]))

noncomputable def L32_2 (n : Nat) (a3 : List (List Tree)) (a2 : ByteArray) (a0 : Int) (a1 : Int) (p9 : List AV × Heap) (again10 : (List AV × Heap) → Option (List Tree)) : Option (List Tree) :=
  cnd (decide (vI p9 0 < ((List.length a3:Nat):Int)) = true) (cnd ((2:Nat) = (2:Nat) ∧ (0:Int) ≤ vI p9 0) (Option.bind a3[Int.toNat (vI p9 0)]? fun y11 => cnd (okI y11 0) (cnd (okI y11 1) (loopIter (fun
  (p12 : List AV × Heap) (again13 : _ → Option (List Tree)) => L32_1 n y11 a2 a0 again10 p9 p12 again13) n ([AV.t (tI (gI y11 0))], [AObj.row false (oVer p9 0) (8:Nat) (oEs p9 0), AObj.box [AV.sref
  (0:Nat) (cVer p9 1 0) (cOff p9 1 0) (cLen p9 1 0)], AObj.box [], AObj.box []])) none) none) none) (cnd (oVer p9 0 = cVer p9 1 0) (cnd (oVer p9 0 = cVer p9 1 0 ∧ (8:Nat) = (8:Nat) ∧ (0:Int) ≤ w64
  (((cLen p9 1 0:Nat):Int) - (1:Int)) ∧ w64 (((cLen p9 1 0:Nat):Int) - (1:Int)) < ((cLen p9 1 0:Nat):Int)) (cnd (oVer p9 0 = cVer p9 1 0) (cnd (oVer p9 0 = cVer p9 1 0 ∧ (3:Nat) ≤ (8:Nat)) (Option.bind
  (oEs p9 0)[(cOff p9 1 0) + (Int.toNat (w64 (((cLen p9 1 0:Nat):Int) - (1:Int))))]? fun y14 => cnd (cVer p9 1 0 = cVer p9 1 0) (cnd (cVer p9 1 0 = cVer p9 1 0 ∧ (6:Nat) ≤ (8:Nat)) (Option.bind
  (List.set (oEs p9 0) ((cOff p9 1 0) + (Int.toNat (w64 (((cLen p9 1 0:Nat):Int) - (1:Int))))) (List.take (2:Nat) y14 ++ ([tI a1] ++ List.drop (3:Nat) y14)))[(cOff p9 1 0) + (Int.toNat (w64 (((cLen p9 1
  0:Nat):Int) - (1:Int))))]? fun y15 => cnd ((false = true ∨ false = false) ∧ cVer p9 1 0 = cVer p9 1 0 ∧ ((8:Nat) = (8:Nat) ∨ (8:Nat) = (0:Nat))) (some [Tree.sl (8:Nat) (List.take (cLen p9 1 0)
  (List.drop (cOff p9 1 0) (List.set (List.set (oEs p9 0) ((cOff p9 1 0) + (Int.toNat (w64 (((cLen p9 1 0:Nat):Int) - (1:Int))))) (List.take (2:Nat) y14 ++ ([tI a1] ++ List.drop (3:Nat) y14))) ((cOff p9
  1 0) + (Int.toNat (w64 (((cLen p9 1 0:Nat):Int) - (1:Int))))) (List.take (5:Nat) y15 ++ ([Tree.bool true] ++ List.drop (6:Nat) y15))))), tI (0:Int)]) none) none) none) none) none) none) none)

noncomputable def J32_3 (n : Nat) (a2 : ByteArray) (a3 : List (List Tree)) (a0 : Int) (a1 : Int) (p4 : List AV × Heap) : Option (List Tree) :=
  cnd (vB p4 0 = true) (some [Tree.sl (8:Nat) [], tI (2:Int)]) (cnd ((a2 == (ByteArray.mk #[])) = true) (some [Tree.sl (8:Nat) [], tI (20:Int)]) (cnd (decide (((ByteArray.size a2:Nat):Int) >
  (65536:Int)) = true) (some [Tree.sl (8:Nat) [], tI (4:Int)]) (Option.bind (apure C n (58:Nat) [Tree.sl (2:Nat) a3, tI ((ByteArray.size a2:Nat):Int)]) fun y8 => cnd (List.length y8 = (1:Nat)) (cnd (okB
  y8 0) (cnd ((!(gB y8 0)) = true) (some [Tree.sl (8:Nat) [], tI (1:Int)]) (cnd ((((List.length a3:Nat):Int) == (0:Int)) = true) (some [Tree.sl (8:Nat) [], tI (20:Int)]) (loopIter (fun (p9 : List AV ×
  Heap) (again10 : _ → Option (List Tree)) => L32_2 n a3 a2 a0 a1 p9 again10) n ([AV.t (tI (0:Int))], [AObj.row false (0:Nat) (8:Nat) [], AObj.box [AV.sref (0:Nat) (0:Nat) (0:Nat) (0:Nat)], AObj.box
  []])))) none) none)))
theorem e32 (n : Nat) (a0 : Int) (a1 : Int) (a2 : ByteArray) (a3 : List (List Tree)) : apure C (n + 1) 32 [tI a0, tI a1, Tree.str a2, Tree.sl (2:Nat) a3] =
  join (fun (p4 : List AV × Heap) => J32_3 n a2 a3 a0 a1 p4) fun (again5 : _ → Option (List Tree)) => Option.bind (apure C n (57:Nat) [tI a0, tI (0:Int), tI (1099511627776:Int)]) fun y6 => cnd
  (List.length y6 = (1:Nat)) (cnd (okB y6 0) (cnd ((!(gB y6 0)) = true) (again5 ([AV.t (Tree.bool true)], [])) (Option.bind (apure C n (57:Nat) [tI a1, tI (1:Int), tI (1099511627776:Int)]) fun y7 => cnd
  (List.length y7 = (1:Nat)) (cnd (okB y7 0) (again5 ([AV.t (Tree.bool (!(gB y7 0)))], [])) none) none)) none) none := by kernel_rfl

theorem e34 (n : Nat) (a0 : Int) (a1 : Int) (a2 : List (List Tree)) (a3 : ByteArray) : apure C (n + 1) 34 [tI a0, tI a1, Tree.sl (2:Nat) a2, Tree.str a3] =
  cnd (decide (((List.length a2:Nat):Int) > (60:Int)) = true) (some [Tree.bool true]) (some [Tree.bool (decide (((ByteArray.size a3:Nat):Int) > (300:Int)))]) := by kernel_rfl

theorem e37 (n : Nat) (a0 : Int) (a1 : Int) (a2 : Int) (a3 : Int) (a4 : Int) (a5 : Bool) (a6 : ByteArray) (a7 : List (List Tree)) : apure C (n + 1) 37 [tI a0, tI a1, tI a2, tI a3, tI a4, Tree.bool a5, Tree.str a6, Tree.sl (2:Nat) a7] =
  cnd (decide (((ByteArray.size a6:Nat):Int) > (40:Int)) = true) (some [Tree.bool true]) (cnd (decide (((List.length a7:Nat):Int) > (60:Int)) = true) (cnd (decide (((List.length a7:Nat):Int) ≤
  (1000:Int)) = true) (some [Tree.bool true]) (some [Tree.bool (decide (((List.length a7:Nat):Int) > (1100:Int)))])) (some [Tree.bool (decide (((List.length a7:Nat):Int) > (1100:Int)))])) := by kernel_rfl

theorem e38 (n : Nat) (a0 : Int) (a1 : Int) (a2 : Int) (a3 : Int) (a4 : Int) (a5 : Bool) (a6 : ByteArray) (a7 : List (List Tree)) : apure C (n + 1) 38 [tI a0, tI a1, tI a2, tI a3, tI a4, Tree.bool a5, Tree.str a6, Tree.sl (2:Nat) a7] =
  Option.bind (apure C n (57:Nat) [tI a0, tI (1:Int), tI (3:Int)]) fun y8 => cnd (List.length y8 = (1:Nat)) (cnd (okB y8 0) (cnd ((!(gB y8 0)) = true) (some [tI (8:Int)]) (cnd ((0:Int) ≤ a0 ∧ a0 <
  (4:Int)) (cnd (a0 = ((3:Nat):Int)) (Option.bind (apure C n (57:Nat) [tI a1, tI (0:Int), tI (1099511627776:Int)]) fun y11 => cnd (List.length y11 = (1:Nat)) (cnd (okB y11 0) (cnd ((!(gB y11 0)) = true)
  (some [tI (2:Int)]) (Option.bind (apure C n (57:Nat) [tI a2, tI (0:Int), tI (1099511627776:Int)]) fun y12 => cnd (List.length y12 = (1:Nat)) (cnd (okB y12 0) (cnd ((!(gB y12 0)) = true) (some [tI
  (2:Int)]) (Option.bind (apure C n (85:Nat) [tI a0, tI a1, tI a2, tI a3, tI a4, Tree.bool a5, Tree.str a6, Tree.sl (2:Nat) a7]) fun y13 => cnd (List.length y13 = (1:Nat)) (cnd (okB y13 0) (cnd ((!(gB
  y13 0)) = true) (some [tI (2:Int)]) (Option.bind (apure C n (86:Nat) [tI a0, tI a1, tI a2, tI a3, tI a4, Tree.bool a5, Tree.str a6, Tree.sl (2:Nat) a7]) fun y15 => cnd (List.length y15 = (1:Nat)) (cnd
  (okB y15 0) (cnd ((!(gB y15 0)) = true) (some [tI (1:Int)]) (some [tI (0:Int)])) none) none)) none) none)) none) none)) none) none) (cnd (a0 = ((2:Nat):Int)) (Option.bind (apure C n (57:Nat) [tI a1,
  tI (0:Int), tI (1099511627776:Int)]) fun y18 => cnd (List.length y18 = (1:Nat)) (cnd (okB y18 0) (cnd ((!(gB y18 0)) = true) (some [tI (2:Int)]) (Option.bind (apure C n (57:Nat) [tI a2, tI (0:Int), tI
  (1099511627776:Int)]) fun y19 => cnd (List.length y19 = (1:Nat)) (cnd (okB y19 0) (cnd ((!(gB y19 0)) = true) (some [tI (2:Int)]) (Option.bind (apure C n (83:Nat) [tI a0, tI a1, tI a2, tI a3, tI a4,
  Tree.bool a5, Tree.str a6, Tree.sl (2:Nat) a7]) fun y20 => cnd (List.length y20 = (1:Nat)) (cnd (okB y20 0) (cnd ((!(gB y20 0)) = true) (some [tI (2:Int)]) (Option.bind (apure C n (84:Nat) [tI a0, tI
  a1, tI a2, tI a3, tI a4, Tree.bool a5, Tree.str a6, Tree.sl (2:Nat) a7]) fun y22 => cnd (List.length y22 = (1:Nat)) (cnd (okB y22 0) (cnd ((!(gB y22 0)) = true) (some [tI (1:Int)]) (some [tI
  (0:Int)])) none) none)) none) none)) none) none)) none) none) (cnd (a0 = ((1:Nat):Int)) (Option.bind (apure C n (57:Nat) [tI a1, tI (0:Int), tI (1099511627776:Int)]) fun y25 => cnd (List.length y25 =
  (1:Nat)) (cnd (okB y25 0) (cnd ((!(gB y25 0)) = true) (some [tI (2:Int)]) (Option.bind (apure C n (57:Nat) [tI a2, tI (0:Int), tI (1099511627776:Int)]) fun y26 => cnd (List.length y26 = (1:Nat)) (cnd
  (okB y26 0) (cnd ((!(gB y26 0)) = true) (some [tI (2:Int)]) (Option.bind (apure C n (81:Nat) [tI a0, tI a1, tI a2, tI a3, tI a4, Tree.bool a5, Tree.str a6, Tree.sl (2:Nat) a7]) fun y27 => cnd
  (List.length y27 = (1:Nat)) (cnd (okB y27 0) (cnd ((!(gB y27 0)) = true) (some [tI (2:Int)]) (Option.bind (apure C n (82:Nat) [tI a0, tI a1, tI a2, tI a3, tI a4, Tree.bool a5, Tree.str a6, Tree.sl
  (2:Nat) a7]) fun y29 => cnd (List.length y29 = (1:Nat)) (cnd (okB y29 0) (cnd ((!(gB y29 0)) = true) (some [tI (1:Int)]) (some [tI (0:Int)])) none) none)) none) none)) none) none)) none) none) (cnd
  (a0 = ((0:Nat):Int)) (Option.bind (apure C n (57:Nat) [tI a1, tI (0:Int), tI (1099511627776:Int)]) fun y32 => cnd (List.length y32 = (1:Nat)) (cnd (okB y32 0) (cnd ((!(gB y32 0)) = true) (some [tI
  (2:Int)]) (Option.bind (apure C n (57:Nat) [tI a2, tI (0:Int), tI (1099511627776:Int)]) fun y33 => cnd (List.length y33 = (1:Nat)) (cnd (okB y33 0) (cnd ((!(gB y33 0)) = true) (some [tI (2:Int)])
  none) none) none)) none) none) none)))) none)) none) none := by kernel_rfl

noncomputable def J39_1 (n : Nat) (a4 : Int) (a5 : Int) (a6 : Int) (a7 : Int) (a8 : Int) (a9 : Bool) (a10 : ByteArray) (a11 : List (List Tree)) (a0 : Int) (a1 : Int) (a2 : List (List Tree)) (a3 : ByteArray) (again18 : (List AV × Heap) → Option (List Tree)) (again20 : (List AV × Heap) → Option (List Tree)) (p19 : List AV × Heap) (p22 : List AV × Heap) : Option (List Tree) :=
  cnd (vB p22 0 = true) (cndO (AObj.box [AV.func (Fn.func 62) [] [AV.eptr (8:Nat) [tI a4, tI a5, tI a6, tI a7, tI a8, Tree.bool a9, Tree.str a10, Tree.sl (2:Nat) a11] (0:Nat), AV.eptr (4:Nat) [tI a0, tI
  a1, Tree.sl (2:Nat) a2, Tree.str a3] (0:Nat)], AV.func (Fn.func 63) [] [AV.eptr (4:Nat) [tI a0, tI a1, Tree.sl (2:Nat) a2, Tree.str a3] (0:Nat), AV.eptr (8:Nat) [tI a4, tI a5, tI a6, tI a7, tI a8,
  Tree.bool a9, Tree.str a10, Tree.sl (2:Nat) a11] (0:Nat)], AV.func (Fn.func 64) [] [AV.eptr (4:Nat) [tI a0, tI a1, Tree.sl (2:Nat) a2, Tree.str a3] (0:Nat), AV.eptr (8:Nat) [tI a4, tI a5, tI a6, tI
  a7, tI a8, Tree.bool a9, Tree.str a10, Tree.sl (2:Nat) a11] (0:Nat)], AV.func (Fn.func 65) [] [AV.eptr (4:Nat) [tI a0, tI a1, Tree.sl (2:Nat) a2, Tree.str a3] (0:Nat), AV.eptr (8:Nat) [tI a4, tI a5,
  tI a6, tI a7, tI a8, Tree.bool a9, Tree.str a10, Tree.sl (2:Nat) a11] (0:Nat)]]) (AObj.box [AV.func (Fn.func 62) [] [AV.eptr (8:Nat) [tI a4, tI a5, tI a6, tI a7, tI a8, Tree.bool a9, Tree.str a10,
  Tree.sl (2:Nat) a11] (0:Nat), AV.eptr (4:Nat) [tI a0, tI a1, Tree.sl (2:Nat) a2, Tree.str a3] (0:Nat)], AV.func (Fn.func 63) [] [AV.eptr (4:Nat) [tI a0, tI a1, Tree.sl (2:Nat) a2, Tree.str a3]
  (0:Nat), AV.eptr (8:Nat) [tI a4, tI a5, tI a6, tI a7, tI a8, Tree.bool a9, Tree.str a10, Tree.sl (2:Nat) a11] (0:Nat)], AV.func (Fn.func 64) [] [AV.eptr (4:Nat) [tI a0, tI a1, Tree.sl (2:Nat) a2,
  Tree.str a3] (0:Nat), AV.eptr (8:Nat) [tI a4, tI a5, tI a6, tI a7, tI a8, Tree.bool a9, Tree.str a10, Tree.sl (2:Nat) a11] (0:Nat)], AV.func (Fn.func 65) [] [AV.eptr (4:Nat) [tI a0, tI a1, Tree.sl
  (2:Nat) a2, Tree.str a3] (0:Nat), AV.eptr (8:Nat) [tI a4, tI a5, tI a6, tI a7, tI a8, Tree.bool a9, Tree.str a10, Tree.sl (2:Nat) a11] (0:Nat)]]) (again18 ([AV.t (Tree.bool false)], [AObj.box []])))
  (cndO (AObj.box [AV.func (Fn.func 62) [] [AV.eptr (8:Nat) [tI a4, tI a5, tI a6, tI a7, tI a8, Tree.bool a9, Tree.str a10, Tree.sl (2:Nat) a11] (0:Nat), AV.eptr (4:Nat) [tI a0, tI a1, Tree.sl (2:Nat)
  a2, Tree.str a3] (0:Nat)], AV.func (Fn.func 63) [] [AV.eptr (4:Nat) [tI a0, tI a1, Tree.sl (2:Nat) a2, Tree.str a3] (0:Nat), AV.eptr (8:Nat) [tI a4, tI a5, tI a6, tI a7, tI a8, Tree.bool a9, Tree.str
  a10, Tree.sl (2:Nat) a11] (0:Nat)], AV.func (Fn.func 64) [] [AV.eptr (4:Nat) [tI a0, tI a1, Tree.sl (2:Nat) a2, Tree.str a3] (0:Nat), AV.eptr (8:Nat) [tI a4, tI a5, tI a6, tI a7, tI a8, Tree.bool a9,
  Tree.str a10, Tree.sl (2:Nat) a11] (0:Nat)], AV.func (Fn.func 65) [] [AV.eptr (4:Nat) [tI a0, tI a1, Tree.sl (2:Nat) a2, Tree.str a3] (0:Nat), AV.eptr (8:Nat) [tI a4, tI a5, tI a6, tI a7, tI a8,
  Tree.bool a9, Tree.str a10, Tree.sl (2:Nat) a11] (0:Nat)]]) (AObj.box [AV.func (Fn.func 62) [] [AV.eptr (8:Nat) [tI a4, tI a5, tI a6, tI a7, tI a8, Tree.bool a9, Tree.str a10, Tree.sl (2:Nat) a11]
  (0:Nat), AV.eptr (4:Nat) [tI a0, tI a1, Tree.sl (2:Nat) a2, Tree.str a3] (0:Nat)], AV.func (Fn.func 63) [] [AV.eptr (4:Nat) [tI a0, tI a1, Tree.sl (2:Nat) a2, Tree.str a3] (0:Nat), AV.eptr (8:Nat) [tI
  a4, tI a5, tI a6, tI a7, tI a8, Tree.bool a9, Tree.str a10, Tree.sl (2:Nat) a11] (0:Nat)], AV.func (Fn.func 64) [] [AV.eptr (4:Nat) [tI a0, tI a1, Tree.sl (2:Nat) a2, Tree.str a3] (0:Nat), AV.eptr
  (8:Nat) [tI a4, tI a5, tI a6, tI a7, tI a8, Tree.bool a9, Tree.str a10, Tree.sl (2:Nat) a11] (0:Nat)], AV.func (Fn.func 65) [] [AV.eptr (4:Nat) [tI a0, tI a1, Tree.sl (2:Nat) a2, Tree.str a3] (0:Nat),
  AV.eptr (8:Nat) [tI a4, tI a5, tI a6, tI a7, tI a8, Tree.bool a9, Tree.str a10, Tree.sl (2:Nat) a11] (0:Nat)]]) (again20 ([AV.t (tI (w64 ((vI p19 0) + (1:Int))))], [AObj.box []])))

noncomputable def L39_2 (n : Nat) (a2 : List (List Tree)) (a4 : Int) (a5 : Int) (a6 : Int) (a7 : Int) (a8 : Int) (a9 : Bool) (a10 : ByteArray) (a11 : List (List Tree)) (a0 : Int) (a1 : Int) (a3 : ByteArray) (again18 : (List AV × Heap) → Option (List Tree)) (p19 : List AV × Heap) (again20 : (List AV × Heap) → Option (List Tree)) : Option (List Tree) :=
  cnd (decide (vI p19 0 < ((List.length a2:Nat):Int)) = true) (cnd ((2:Nat) = (2:Nat) ∧ (0:Int) ≤ vI p19 0) (Option.bind a2[Int.toNat (vI p19 0)]? fun y21 => cnd (okI y21 0) (cnd (okI y21 1) (join (fun
  (p22 : List AV × Heap) => J39_1 n a4 a5 a6 a7 a8 a9 a10 a11 a0 a1 a2 a3 again18 again20 p19 p22) fun (again23 : _ → Option (List Tree)) => cnd (decide ((if a7 > gI y21 0 then a7 else gI y21 0) < (if
  w64 (a7 + ((ByteArray.size a10:Nat):Int)) < gI y21 1 then w64 (a7 + ((ByteArray.size a10:Nat):Int)) else gI y21 1)) = true) (cnd ((0:Int) ≤ (if w64 (a7 + ((ByteArray.size a10:Nat):Int)) < gI y21 1
  then w64 (a7 + ((ByteArray.size a10:Nat):Int)) else gI y21 1) ∧ (if w64 (a7 + ((ByteArray.size a10:Nat):Int)) < gI y21 1 then w64 (a7 + ((ByteArray.size a10:Nat):Int)) else gI y21 1) ≤
  ((ByteArray.size a3:Nat):Int)) (cnd ((0:Int) ≤ (if a7 > gI y21 0 then a7 else gI y21 0) ∧ (if a7 > gI y21 0 then a7 else gI y21 0) ≤ ((Int.toNat (if w64 (a7 + ((ByteArray.size a10:Nat):Int)) < gI y21
  1 then w64 (a7 + ((ByteArray.size a10:Nat):Int)) else gI y21 1):Nat):Int)) (cnd ((0:Int) ≤ w64 ((if w64 (a7 + ((ByteArray.size a10:Nat):Int)) < gI y21 1 then w64 (a7 + ((ByteArray.size a10:Nat):Int))
  else gI y21 1) - a7) ∧ w64 ((if w64 (a7 + ((ByteArray.size a10:Nat):Int)) < gI y21 1 then w64 (a7 + ((ByteArray.size a10:Nat):Int)) else gI y21 1) - a7) ≤ ((ByteArray.size a10:Nat):Int)) (cnd ((0:Int)
  ≤ w64 ((if a7 > gI y21 0 then a7 else gI y21 0) - a7) ∧ w64 ((if a7 > gI y21 0 then a7 else gI y21 0) - a7) ≤ ((Int.toNat (w64 ((if w64 (a7 + ((ByteArray.size a10:Nat):Int)) < gI y21 1 then w64 (a7 +
  ((ByteArray.size a10:Nat):Int)) else gI y21 1) - a7)):Nat):Int)) (cndO (AObj.box [AV.func (Fn.func 62) [] [AV.eptr (8:Nat) [tI a4, tI a5, tI a6, tI a7, tI a8, Tree.bool a9, Tree.str a10, Tree.sl
  (2:Nat) a11] (0:Nat), AV.eptr (4:Nat) [tI a0, tI a1, Tree.sl (2:Nat) a2, Tree.str a3] (0:Nat)], AV.func (Fn.func 63) [] [AV.eptr (4:Nat) [tI a0, tI a1, Tree.sl (2:Nat) a2, Tree.str a3] (0:Nat),
  AV.eptr (8:Nat) [tI a4, tI a5, tI a6, tI a7, tI a8, Tree.bool a9, Tree.str a10, Tree.sl (2:Nat) a11] (0:Nat)], AV.func (Fn.func 64) [] [AV.eptr (4:Nat) [tI a0, tI a1, Tree.sl (2:Nat) a2, Tree.str a3]
  (0:Nat), AV.eptr (8:Nat) [tI a4, tI a5, tI a6, tI a7, tI a8, Tree.bool a9, Tree.str a10, Tree.sl (2:Nat) a11] (0:Nat)], AV.func (Fn.func 65) [] [AV.eptr (4:Nat) [tI a0, tI a1, Tree.sl (2:Nat) a2,
  Tree.str a3] (0:Nat), AV.eptr (8:Nat) [tI a4, tI a5, tI a6, tI a7, tI a8, Tree.bool a9, Tree.str a10, Tree.sl (2:Nat) a11] (0:Nat)]]) (AObj.box [AV.func (Fn.func 62) [] [AV.eptr (8:Nat) [tI a4, tI a5,
  tI a6, tI a7, tI a8, Tree.bool a9, Tree.str a10, Tree.sl (2:Nat) a11] (0:Nat), AV.eptr (4:Nat) [tI a0, tI a1, Tree.sl (2:Nat) a2, Tree.str a3] (0:Nat)], AV.func (Fn.func 63) [] [AV.eptr (4:Nat) [tI
  a0, tI a1, Tree.sl (2:Nat) a2, Tree.str a3] (0:Nat), AV.eptr (8:Nat) [tI a4, tI a5, tI a6, tI a7, tI a8, Tree.bool a9, Tree.str a10, Tree.sl (2:Nat) a11] (0:Nat)], AV.func (Fn.func 64) [] [AV.eptr
  (4:Nat) [tI a0, tI a1, Tree.sl (2:Nat) a2, Tree.str a3] (0:Nat), AV.eptr (8:Nat) [tI a4, tI a5, tI a6, tI a7, tI a8, Tree.bool a9, Tree.str a10, Tree.sl (2:Nat) a11] (0:Nat)], AV.func (Fn.func 65) []
  [AV.eptr (4:Nat) [tI a0, tI a1, Tree.sl (2:Nat) a2, Tree.str a3] (0:Nat), AV.eptr (8:Nat) [tI a4, tI a5, tI a6, tI a7, tI a8, Tree.bool a9, Tree.str a10, Tree.sl (2:Nat) a11] (0:Nat)]]) (again23
  ([AV.t (Tree.bool ((ByteArray.extract a3 (Int.toNat (if a7 > gI y21 0 then a7 else gI y21 0)) (Int.toNat (if w64 (a7 + ((ByteArray.size a10:Nat):Int)) < gI y21 1 then w64 (a7 + ((ByteArray.size
  a10:Nat):Int)) else gI y21 1))) != (ByteArray.extract a10 (Int.toNat (w64 ((if a7 > gI y21 0 then a7 else gI y21 0) - a7))) (Int.toNat (w64 ((if w64 (a7 + ((ByteArray.size a10:Nat):Int)) < gI y21 1
  then w64 (a7 + ((ByteArray.size a10:Nat):Int)) else gI y21 1) - a7))))))], [AObj.box [], AObj.box []]))) none) none) none) none) (cndO (AObj.box [AV.func (Fn.func 62) [] [AV.eptr (8:Nat) [tI a4, tI
  a5, tI a6, tI a7, tI a8, Tree.bool a9, Tree.str a10, Tree.sl (2:Nat) a11] (0:Nat), AV.eptr (4:Nat) [tI a0, tI a1, Tree.sl (2:Nat) a2, Tree.str a3] (0:Nat)], AV.func (Fn.func 63) [] [AV.eptr (4:Nat)
  [tI a0, tI a1, Tree.sl (2:Nat) a2, Tree.str a3] (0:Nat), AV.eptr (8:Nat) [tI a4, tI a5, tI a6, tI a7, tI a8, Tree.bool a9, Tree.str a10, Tree.sl (2:Nat) a11] (0:Nat)], AV.func (Fn.func 64) [] [AV.eptr
  (4:Nat) [tI a0, tI a1, Tree.sl (2:Nat) a2, Tree.str a3] (0:Nat), AV.eptr (8:Nat) [tI a4, tI a5, tI a6, tI a7, tI a8, Tree.bool a9, Tree.str a10, Tree.sl (2:Nat) a11] (0:Nat)], AV.func (Fn.func 65) []
  [AV.eptr (4:Nat) [tI a0, tI a1, Tree.sl (2:Nat) a2, Tree.str a3] (0:Nat), AV.eptr (8:Nat) [tI a4, tI a5, tI a6, tI a7, tI a8, Tree.bool a9, Tree.str a10, Tree.sl (2:Nat) a11] (0:Nat)]]) (AObj.box
  [AV.func (Fn.func 62) [] [AV.eptr (8:Nat) [tI a4, tI a5, tI a6, tI a7, tI a8, Tree.bool a9, Tree.str a10, Tree.sl (2:Nat) a11] (0:Nat), AV.eptr (4:Nat) [tI a0, tI a1, Tree.sl (2:Nat) a2, Tree.str a3]
  (0:Nat)], AV.func (Fn.func 63) [] [AV.eptr (4:Nat) [tI a0, tI a1, Tree.sl (2:Nat) a2, Tree.str a3] (0:Nat), AV.eptr (8:Nat) [tI a4, tI a5, tI a6, tI a7, tI a8, Tree.bool a9, Tree.str a10, Tree.sl
  (2:Nat) a11] (0:Nat)], AV.func (Fn.func 64) [] [AV.eptr (4:Nat) [tI a0, tI a1, Tree.sl (2:Nat) a2, Tree.str a3] (0:Nat), AV.eptr (8:Nat) [tI a4, tI a5, tI a6, tI a7, tI a8, Tree.bool a9, Tree.str a10,
  Tree.sl (2:Nat) a11] (0:Nat)], AV.func (Fn.func 65) [] [AV.eptr (4:Nat) [tI a0, tI a1, Tree.sl (2:Nat) a2, Tree.str a3] (0:Nat), AV.eptr (8:Nat) [tI a4, tI a5, tI a6, tI a7, tI a8, Tree.bool a9,
  Tree.str a10, Tree.sl (2:Nat) a11] (0:Nat)]]) (again23 ([AV.t (Tree.bool false)], [AObj.box [], AObj.box []])))) none) none) none) (cndO (AObj.box [AV.func (Fn.func 62) [] [AV.eptr (8:Nat) [tI a4, tI
  a5, tI a6, tI a7, tI a8, Tree.bool a9, Tree.str a10, Tree.sl (2:Nat) a11] (0:Nat), AV.eptr (4:Nat) [tI a0, tI a1, Tree.sl (2:Nat) a2, Tree.str a3] (0:Nat)], AV.func (Fn.func 63) [] [AV.eptr (4:Nat)
  [tI a0, tI a1, Tree.sl (2:Nat) a2, Tree.str a3] (0:Nat), AV.eptr (8:Nat) [tI a4, tI a5, tI a6, tI a7, tI a8, Tree.bool a9, Tree.str a10, Tree.sl (2:Nat) a11] (0:Nat)], AV.func (Fn.func 64) [] [AV.eptr
  (4:Nat) [tI a0, tI a1, Tree.sl (2:Nat) a2, Tree.str a3] (0:Nat), AV.eptr (8:Nat) [tI a4, tI a5, tI a6, tI a7, tI a8, Tree.bool a9, Tree.str a10, Tree.sl (2:Nat) a11] (0:Nat)], AV.func (Fn.func 65) []
  [AV.eptr (4:Nat) [tI a0, tI a1, Tree.sl (2:Nat) a2, Tree.str a3] (0:Nat), AV.eptr (8:Nat) [tI a4, tI a5, tI a6, tI a7, tI a8, Tree.bool a9, Tree.str a10, Tree.sl (2:Nat) a11] (0:Nat)]]) (AObj.box
  [AV.func (Fn.func 62) [] [AV.eptr (8:Nat) [tI a4, tI a5, tI a6, tI a7, tI a8, Tree.bool a9, Tree.str a10, Tree.sl (2:Nat) a11] (0:Nat), AV.eptr (4:Nat) [tI a0, tI a1, Tree.sl (2:Nat) a2, Tree.str a3]
  (0:Nat)], AV.func (Fn.func 63) [] [AV.eptr (4:Nat) [tI a0, tI a1, Tree.sl (2:Nat) a2, Tree.str a3] (0:Nat), AV.eptr (8:Nat) [tI a4, tI a5, tI a6, tI a7, tI a8, Tree.bool a9, Tree.str a10, Tree.sl
  (2:Nat) a11] (0:Nat)], AV.func (Fn.func 64) [] [AV.eptr (4:Nat) [tI a0, tI a1, Tree.sl (2:Nat) a2, Tree.str a3] (0:Nat), AV.eptr (8:Nat) [tI a4, tI a5, tI a6, tI a7, tI a8, Tree.bool a9, Tree.str a10,
  Tree.sl (2:Nat) a11] (0:Nat)], AV.func (Fn.func 65) [] [AV.eptr (4:Nat) [tI a0, tI a1, Tree.sl (2:Nat) a2, Tree.str a3] (0:Nat), AV.eptr (8:Nat) [tI a4, tI a5, tI a6, tI a7, tI a8, Tree.bool a9,
  Tree.str a10, Tree.sl (2:Nat) a11] (0:Nat)]]) (again18 ([AV.t (Tree.bool true)], [AObj.box []])))

noncomputable def J39_3 (n : Nat) (a4 : Int) (a5 : Int) (a6 : Int) (a7 : Int) (a8 : Int) (a9 : Bool) (a10 : ByteArray) (a11 : List (List Tree)) (a0 : Int) (a1 : Int) (a2 : List (List Tree)) (a3 : ByteArray) (again13 : (List AV × Heap) → Option (List Tree)) (p12 : List AV × Heap) (p17 : List AV × Heap) : Option (List Tree) :=
  cnd ((!(vB p17 0)) = true) (some [Tree.bool false]) (cndO (AObj.box [AV.func (Fn.func 62) [] [AV.eptr (8:Nat) [tI a4, tI a5, tI a6, tI a7, tI a8, Tree.bool a9, Tree.str a10, Tree.sl (2:Nat) a11]
  (0:Nat), AV.eptr (4:Nat) [tI a0, tI a1, Tree.sl (2:Nat) a2, Tree.str a3] (0:Nat)], AV.func (Fn.func 63) [] [AV.eptr (4:Nat) [tI a0, tI a1, Tree.sl (2:Nat) a2, Tree.str a3] (0:Nat), AV.eptr (8:Nat) [tI
  a4, tI a5, tI a6, tI a7, tI a8, Tree.bool a9, Tree.str a10, Tree.sl (2:Nat) a11] (0:Nat)], AV.func (Fn.func 64) [] [AV.eptr (4:Nat) [tI a0, tI a1, Tree.sl (2:Nat) a2, Tree.str a3] (0:Nat), AV.eptr
  (8:Nat) [tI a4, tI a5, tI a6, tI a7, tI a8, Tree.bool a9, Tree.str a10, Tree.sl (2:Nat) a11] (0:Nat)], AV.func (Fn.func 65) [] [AV.eptr (4:Nat) [tI a0, tI a1, Tree.sl (2:Nat) a2, Tree.str a3] (0:Nat),
  AV.eptr (8:Nat) [tI a4, tI a5, tI a6, tI a7, tI a8, Tree.bool a9, Tree.str a10, Tree.sl (2:Nat) a11] (0:Nat)]]) (AObj.box [AV.func (Fn.func 62) [] [AV.eptr (8:Nat) [tI a4, tI a5, tI a6, tI a7, tI a8,
  Tree.bool a9, Tree.str a10, Tree.sl (2:Nat) a11] (0:Nat), AV.eptr (4:Nat) [tI a0, tI a1, Tree.sl (2:Nat) a2, Tree.str a3] (0:Nat)], AV.func (Fn.func 63) [] [AV.eptr (4:Nat) [tI a0, tI a1, Tree.sl
  (2:Nat) a2, Tree.str a3] (0:Nat), AV.eptr (8:Nat) [tI a4, tI a5, tI a6, tI a7, tI a8, Tree.bool a9, Tree.str a10, Tree.sl (2:Nat) a11] (0:Nat)], AV.func (Fn.func 64) [] [AV.eptr (4:Nat) [tI a0, tI a1,
  Tree.sl (2:Nat) a2, Tree.str a3] (0:Nat), AV.eptr (8:Nat) [tI a4, tI a5, tI a6, tI a7, tI a8, Tree.bool a9, Tree.str a10, Tree.sl (2:Nat) a11] (0:Nat)], AV.func (Fn.func 65) [] [AV.eptr (4:Nat) [tI
  a0, tI a1, Tree.sl (2:Nat) a2, Tree.str a3] (0:Nat), AV.eptr (8:Nat) [tI a4, tI a5, tI a6, tI a7, tI a8, Tree.bool a9, Tree.str a10, Tree.sl (2:Nat) a11] (0:Nat)]]) (again13 ([AV.t (tI (w64 ((vI p12
  0) + (1:Int))))], [AObj.box []])))

noncomputable def J39_4 (n : Nat) (a4 : Int) (a5 : Int) (a6 : Int) (a7 : Int) (a8 : Int) (a9 : Bool) (a10 : ByteArray) (a11 : List (List Tree)) (a0 : Int) (a1 : Int) (a2 : List (List Tree)) (a3 : ByteArray) (again25 : (List AV × Heap) → Option (List Tree)) (p26 : List AV × Heap) : Option (List Tree) :=
  cndO (AObj.box [AV.func (Fn.func 62) [] [AV.eptr (8:Nat) [tI a4, tI a5, tI a6, tI a7, tI a8, Tree.bool a9, Tree.str a10, Tree.sl (2:Nat) a11] (0:Nat), AV.eptr (4:Nat) [tI a0, tI a1, Tree.sl (2:Nat)
  a2, Tree.str a3] (0:Nat)], AV.func (Fn.func 63) [] [AV.eptr (4:Nat) [tI a0, tI a1, Tree.sl (2:Nat) a2, Tree.str a3] (0:Nat), AV.eptr (8:Nat) [tI a4, tI a5, tI a6, tI a7, tI a8, Tree.bool a9, Tree.str
  a10, Tree.sl (2:Nat) a11] (0:Nat)], AV.func (Fn.func 64) [] [AV.eptr (4:Nat) [tI a0, tI a1, Tree.sl (2:Nat) a2, Tree.str a3] (0:Nat), AV.eptr (8:Nat) [tI a4, tI a5, tI a6, tI a7, tI a8, Tree.bool a9,
  Tree.str a10, Tree.sl (2:Nat) a11] (0:Nat)], AV.func (Fn.func 65) [] [AV.eptr (4:Nat) [tI a0, tI a1, Tree.sl (2:Nat) a2, Tree.str a3] (0:Nat), AV.eptr (8:Nat) [tI a4, tI a5, tI a6, tI a7, tI a8,
  Tree.bool a9, Tree.str a10, Tree.sl (2:Nat) a11] (0:Nat)]]) (AObj.box [AV.func (Fn.func 62) [] [AV.eptr (8:Nat) [tI a4, tI a5, tI a6, tI a7, tI a8, Tree.bool a9, Tree.str a10, Tree.sl (2:Nat) a11]
  (0:Nat), AV.eptr (4:Nat) [tI a0, tI a1, Tree.sl (2:Nat) a2, Tree.str a3] (0:Nat)], AV.func (Fn.func 63) [] [AV.eptr (4:Nat) [tI a0, tI a1, Tree.sl (2:Nat) a2, Tree.str a3] (0:Nat), AV.eptr (8:Nat) [tI
  a4, tI a5, tI a6, tI a7, tI a8, Tree.bool a9, Tree.str a10, Tree.sl (2:Nat) a11] (0:Nat)], AV.func (Fn.func 64) [] [AV.eptr (4:Nat) [tI a0, tI a1, Tree.sl (2:Nat) a2, Tree.str a3] (0:Nat), AV.eptr
  (8:Nat) [tI a4, tI a5, tI a6, tI a7, tI a8, Tree.bool a9, Tree.str a10, Tree.sl (2:Nat) a11] (0:Nat)], AV.func (Fn.func 65) [] [AV.eptr (4:Nat) [tI a0, tI a1, Tree.sl (2:Nat) a2, Tree.str a3] (0:Nat),
  AV.eptr (8:Nat) [tI a4, tI a5, tI a6, tI a7, tI a8, Tree.bool a9, Tree.str a10, Tree.sl (2:Nat) a11] (0:Nat)]]) (again25 ([AV.t (Tree.bool (vB p26 0))], [AObj.box []]))

noncomputable def J39_5 (n : Nat) (a4 : Int) (a5 : Int) (a6 : Int) (a7 : Int) (a8 : Int) (a9 : Bool) (a10 : ByteArray) (a11 : List (List Tree)) (a0 : Int) (a1 : Int) (a2 : List (List Tree)) (a3 : ByteArray) (again13 : (List AV × Heap) → Option (List Tree)) (p12 : List AV × Heap) (p24 : List AV × Heap) : Option (List Tree) :=
  cnd ((!(vB p24 0)) = true) (some [Tree.bool false]) (cndO (AObj.box [AV.func (Fn.func 62) [] [AV.eptr (8:Nat) [tI a4, tI a5, tI a6, tI a7, tI a8, Tree.bool a9, Tree.str a10, Tree.sl (2:Nat) a11]
  (0:Nat), AV.eptr (4:Nat) [tI a0, tI a1, Tree.sl (2:Nat) a2, Tree.str a3] (0:Nat)], AV.func (Fn.func 63) [] [AV.eptr (4:Nat) [tI a0, tI a1, Tree.sl (2:Nat) a2, Tree.str a3] (0:Nat), AV.eptr (8:Nat) [tI
  a4, tI a5, tI a6, tI a7, tI a8, Tree.bool a9, Tree.str a10, Tree.sl (2:Nat) a11] (0:Nat)], AV.func (Fn.func 64) [] [AV.eptr (4:Nat) [tI a0, tI a1, Tree.sl (2:Nat) a2, Tree.str a3] (0:Nat), AV.eptr
  (8:Nat) [tI a4, tI a5, tI a6, tI a7, tI a8, Tree.bool a9, Tree.str a10, Tree.sl (2:Nat) a11] (0:Nat)], AV.func (Fn.func 65) [] [AV.eptr (4:Nat) [tI a0, tI a1, Tree.sl (2:Nat) a2, Tree.str a3] (0:Nat),
  AV.eptr (8:Nat) [tI a4, tI a5, tI a6, tI a7, tI a8, Tree.bool a9, Tree.str a10, Tree.sl (2:Nat) a11] (0:Nat)]]) (AObj.box [AV.func (Fn.func 62) [] [AV.eptr (8:Nat) [tI a4, tI a5, tI a6, tI a7, tI a8,
  Tree.bool a9, Tree.str a10, Tree.sl (2:Nat) a11] (0:Nat), AV.eptr (4:Nat) [tI a0, tI a1, Tree.sl (2:Nat) a2, Tree.str a3] (0:Nat)], AV.func (Fn.func 63) [] [AV.eptr (4:Nat) [tI a0, tI a1, Tree.sl
  (2:Nat) a2, Tree.str a3] (0:Nat), AV.eptr (8:Nat) [tI a4, tI a5, tI a6, tI a7, tI a8, Tree.bool a9, Tree.str a10, Tree.sl (2:Nat) a11] (0:Nat)], AV.func (Fn.func 64) [] [AV.eptr (4:Nat) [tI a0, tI a1,
  Tree.sl (2:Nat) a2, Tree.str a3] (0:Nat), AV.eptr (8:Nat) [tI a4, tI a5, tI a6, tI a7, tI a8, Tree.bool a9, Tree.str a10, Tree.sl (2:Nat) a11] (0:Nat)], AV.func (Fn.func 65) [] [AV.eptr (4:Nat) [tI
  a0, tI a1, Tree.sl (2:Nat) a2, Tree.str a3] (0:Nat), AV.eptr (8:Nat) [tI a4, tI a5, tI a6, tI a7, tI a8, Tree.bool a9, Tree.str a10, Tree.sl (2:Nat) a11] (0:Nat)]]) (again13 ([AV.t (tI (w64 ((vI p12
  0) + (1:Int))))], [AObj.box []])))

noncomputable def J39_6 (n : Nat) (a4 : Int) (a5 : Int) (a6 : Int) (a7 : Int) (a8 : Int) (a9 : Bool) (a10 : ByteArray) (a11 : List (List Tree)) (a0 : Int) (a1 : Int) (a2 : List (List Tree)) (a3 : ByteArray) (again29 : (List AV × Heap) → Option (List Tree)) (p30 : List AV × Heap) : Option (List Tree) :=
  cndO (AObj.box [AV.func (Fn.func 62) [] [AV.eptr (8:Nat) [tI a4, tI a5, tI a6, tI a7, tI a8, Tree.bool a9, Tree.str a10, Tree.sl (2:Nat) a11] (0:Nat), AV.eptr (4:Nat) [tI a0, tI a1, Tree.sl (2:Nat)
  a2, Tree.str a3] (0:Nat)], AV.func (Fn.func 63) [] [AV.eptr (4:Nat) [tI a0, tI a1, Tree.sl (2:Nat) a2, Tree.str a3] (0:Nat), AV.eptr (8:Nat) [tI a4, tI a5, tI a6, tI a7, tI a8, Tree.bool a9, Tree.str
  a10, Tree.sl (2:Nat) a11] (0:Nat)], AV.func (Fn.func 64) [] [AV.eptr (4:Nat) [tI a0, tI a1, Tree.sl (2:Nat) a2, Tree.str a3] (0:Nat), AV.eptr (8:Nat) [tI a4, tI a5, tI a6, tI a7, tI a8, Tree.bool a9,
  Tree.str a10, Tree.sl (2:Nat) a11] (0:Nat)], AV.func (Fn.func 65) [] [AV.eptr (4:Nat) [tI a0, tI a1, Tree.sl (2:Nat) a2, Tree.str a3] (0:Nat), AV.eptr (8:Nat) [tI a4, tI a5, tI a6, tI a7, tI a8,
  Tree.bool a9, Tree.str a10, Tree.sl (2:Nat) a11] (0:Nat)]]) (AObj.box [AV.func (Fn.func 62) [] [AV.eptr (8:Nat) [tI a4, tI a5, tI a6, tI a7, tI a8, Tree.bool a9, Tree.str a10, Tree.sl (2:Nat) a11]
  (0:Nat), AV.eptr (4:Nat) [tI a0, tI a1, Tree.sl (2:Nat) a2, Tree.str a3] (0:Nat)], AV.func (Fn.func 63) [] [AV.eptr (4:Nat) [tI a0, tI a1, Tree.sl (2:Nat) a2, Tree.str a3] (0:Nat), AV.eptr (8:Nat) [tI
  a4, tI a5, tI a6, tI a7, tI a8, Tree.bool a9, Tree.str a10, Tree.sl (2:Nat) a11] (0:Nat)], AV.func (Fn.func 64) [] [AV.eptr (4:Nat) [tI a0, tI a1, Tree.sl (2:Nat) a2, Tree.str a3] (0:Nat), AV.eptr
  (8:Nat) [tI a4, tI a5, tI a6, tI a7, tI a8, Tree.bool a9, Tree.str a10, Tree.sl (2:Nat) a11] (0:Nat)], AV.func (Fn.func 65) [] [AV.eptr (4:Nat) [tI a0, tI a1, Tree.sl (2:Nat) a2, Tree.str a3] (0:Nat),
  AV.eptr (8:Nat) [tI a4, tI a5, tI a6, tI a7, tI a8, Tree.bool a9, Tree.str a10, Tree.sl (2:Nat) a11] (0:Nat)]]) (again29 ([AV.t (Tree.bool (vB p30 0))], [AObj.box []]))

noncomputable def J39_7 (n : Nat) (a4 : Int) (a5 : Int) (a6 : Int) (a7 : Int) (a8 : Int) (a9 : Bool) (a10 : ByteArray) (a11 : List (List Tree)) (a0 : Int) (a1 : Int) (a2 : List (List Tree)) (a3 : ByteArray) (again13 : (List AV × Heap) → Option (List Tree)) (p12 : List AV × Heap) (p28 : List AV × Heap) : Option (List Tree) :=
  cnd ((!(vB p28 0)) = true) (some [Tree.bool false]) (cndO (AObj.box [AV.func (Fn.func 62) [] [AV.eptr (8:Nat) [tI a4, tI a5, tI a6, tI a7, tI a8, Tree.bool a9, Tree.str a10, Tree.sl (2:Nat) a11]
  (0:Nat), AV.eptr (4:Nat) [tI a0, tI a1, Tree.sl (2:Nat) a2, Tree.str a3] (0:Nat)], AV.func (Fn.func 63) [] [AV.eptr (4:Nat) [tI a0, tI a1, Tree.sl (2:Nat) a2, Tree.str a3] (0:Nat), AV.eptr (8:Nat) [tI
  a4, tI a5, tI a6, tI a7, tI a8, Tree.bool a9, Tree.str a10, Tree.sl (2:Nat) a11] (0:Nat)], AV.func (Fn.func 64) [] [AV.eptr (4:Nat) [tI a0, tI a1, Tree.sl (2:Nat) a2, Tree.str a3] (0:Nat), AV.eptr
  (8:Nat) [tI a4, tI a5, tI a6, tI a7, tI a8, Tree.bool a9, Tree.str a10, Tree.sl (2:Nat) a11] (0:Nat)], AV.func (Fn.func 65) [] [AV.eptr (4:Nat) [tI a0, tI a1, Tree.sl (2:Nat) a2, Tree.str a3] (0:Nat),
  AV.eptr (8:Nat) [tI a4, tI a5, tI a6, tI a7, tI a8, Tree.bool a9, Tree.str a10, Tree.sl (2:Nat) a11] (0:Nat)]]) (AObj.box [AV.func (Fn.func 62) [] [AV.eptr (8:Nat) [tI a4, tI a5, tI a6, tI a7, tI a8,
  Tree.bool a9, Tree.str a10, Tree.sl (2:Nat) a11] (0:Nat), AV.eptr (4:Nat) [tI a0, tI a1, Tree.sl (2:Nat) a2, Tree.str a3] (0:Nat)], AV.func (Fn.func 63) [] [AV.eptr (4:Nat) [tI a0, tI a1, Tree.sl
  (2:Nat) a2, Tree.str a3] (0:Nat), AV.eptr (8:Nat) [tI a4, tI a5, tI a6, tI a7, tI a8, Tree.bool a9, Tree.str a10, Tree.sl (2:Nat) a11] (0:Nat)], AV.func (Fn.func 64) [] [AV.eptr (4:Nat) [tI a0, tI a1,
  Tree.sl (2:Nat) a2, Tree.str a3] (0:Nat), AV.eptr (8:Nat) [tI a4, tI a5, tI a6, tI a7, tI a8, Tree.bool a9, Tree.str a10, Tree.sl (2:Nat) a11] (0:Nat)], AV.func (Fn.func 65) [] [AV.eptr (4:Nat) [tI
  a0, tI a1, Tree.sl (2:Nat) a2, Tree.str a3] (0:Nat), AV.eptr (8:Nat) [tI a4, tI a5, tI a6, tI a7, tI a8, Tree.bool a9, Tree.str a10, Tree.sl (2:Nat) a11] (0:Nat)]]) (again13 ([AV.t (tI (w64 ((vI p12
  0) + (1:Int))))], [AObj.box []])))

noncomputable def L39_8 (n : Nat) (a0 : Int) (a1 : Int) (a2 : List (List Tree)) (a3 : ByteArray) (a4 : Int) (a5 : Int) (a6 : Int) (a7 : Int) (a8 : Int) (a9 : Bool) (a10 : ByteArray) (a11 : List (List Tree)) (p12 : List AV × Heap) (again13 : (List AV × Heap) → Option (List Tree)) : Option (List Tree) :=
  cnd (decide (vI p12 0 < (4:Int)) = true) (cnd ((1:Nat) = (1:Nat) ∧ (0:Int) ≤ vI p12 0 ∧ vI p12 0 < (4:Int)) (cnd (vI p12 0 = ((3:Nat):Int)) (Option.bind (apure C n (40:Nat) [tI a0, tI a1, Tree.sl
  (2:Nat) a2, Tree.str a3, tI a4, tI a5, tI a6, tI a7, tI a8, Tree.bool a9, Tree.str a10, Tree.sl (2:Nat) a11]) fun y16 => cnd (List.length y16 = (2:Nat)) (cnd (okL 2 y16 0) (cnd (okI y16 1) (cndO
  (AObj.box [AV.func (Fn.func 62) [] [AV.eptr (8:Nat) [tI a4, tI a5, tI a6, tI a7, tI a8, Tree.bool a9, Tree.str a10, Tree.sl (2:Nat) a11] (0:Nat), AV.eptr (4:Nat) [tI a0, tI a1, Tree.sl (2:Nat) a2,
  Tree.str a3] (0:Nat)], AV.func (Fn.func 63) [] [AV.eptr (4:Nat) [tI a0, tI a1, Tree.sl (2:Nat) a2, Tree.str a3] (0:Nat), AV.eptr (8:Nat) [tI a4, tI a5, tI a6, tI a7, tI a8, Tree.bool a9, Tree.str a10,
  Tree.sl (2:Nat) a11] (0:Nat)], AV.func (Fn.func 64) [] [AV.eptr (4:Nat) [tI a0, tI a1, Tree.sl (2:Nat) a2, Tree.str a3] (0:Nat), AV.eptr (8:Nat) [tI a4, tI a5, tI a6, tI a7, tI a8, Tree.bool a9,
  Tree.str a10, Tree.sl (2:Nat) a11] (0:Nat)], AV.func (Fn.func 65) [] [AV.eptr (4:Nat) [tI a0, tI a1, Tree.sl (2:Nat) a2, Tree.str a3] (0:Nat), AV.eptr (8:Nat) [tI a4, tI a5, tI a6, tI a7, tI a8,
  Tree.bool a9, Tree.str a10, Tree.sl (2:Nat) a11] (0:Nat)]]) (AObj.box [AV.func (Fn.func 62) [] [AV.eptr (8:Nat) [tI a4, tI a5, tI a6, tI a7, tI a8, Tree.bool a9, Tree.str a10, Tree.sl (2:Nat) a11]
  (0:Nat), AV.eptr (4:Nat) [tI a0, tI a1, Tree.sl (2:Nat) a2, Tree.str a3] (0:Nat)], AV.func (Fn.func 63) [] [AV.eptr (4:Nat) [tI a0, tI a1, Tree.sl (2:Nat) a2, Tree.str a3] (0:Nat), AV.eptr (8:Nat) [tI
  a4, tI a5, tI a6, tI a7, tI a8, Tree.bool a9, Tree.str a10, Tree.sl (2:Nat) a11] (0:Nat)], AV.func (Fn.func 64) [] [AV.eptr (4:Nat) [tI a0, tI a1, Tree.sl (2:Nat) a2, Tree.str a3] (0:Nat), AV.eptr
  (8:Nat) [tI a4, tI a5, tI a6, tI a7, tI a8, Tree.bool a9, Tree.str a10, Tree.sl (2:Nat) a11] (0:Nat)], AV.func (Fn.func 65) [] [AV.eptr (4:Nat) [tI a0, tI a1, Tree.sl (2:Nat) a2, Tree.str a3] (0:Nat),
  AV.eptr (8:Nat) [tI a4, tI a5, tI a6, tI a7, tI a8, Tree.bool a9, Tree.str a10, Tree.sl (2:Nat) a11] (0:Nat)]]) (cnd ((!((gI y16 1) == (0:Int))) = true) (some [Tree.bool false]) (cndO (AObj.box
  [AV.func (Fn.func 62) [] [AV.eptr (8:Nat) [tI a4, tI a5, tI a6, tI a7, tI a8, Tree.bool a9, Tree.str a10, Tree.sl (2:Nat) a11] (0:Nat), AV.eptr (4:Nat) [tI a0, tI a1, Tree.sl (2:Nat) a2, Tree.str a3]
  (0:Nat)], AV.func (Fn.func 63) [] [AV.eptr (4:Nat) [tI a0, tI a1, Tree.sl (2:Nat) a2, Tree.str a3] (0:Nat), AV.eptr (8:Nat) [tI a4, tI a5, tI a6, tI a7, tI a8, Tree.bool a9, Tree.str a10, Tree.sl
  (2:Nat) a11] (0:Nat)], AV.func (Fn.func 64) [] [AV.eptr (4:Nat) [tI a0, tI a1, Tree.sl (2:Nat) a2, Tree.str a3] (0:Nat), AV.eptr (8:Nat) [tI a4, tI a5, tI a6, tI a7, tI a8, Tree.bool a9, Tree.str a10,
  Tree.sl (2:Nat) a11] (0:Nat)], AV.func (Fn.func 65) [] [AV.eptr (4:Nat) [tI a0, tI a1, Tree.sl (2:Nat) a2, Tree.str a3] (0:Nat), AV.eptr (8:Nat) [tI a4, tI a5, tI a6, tI a7, tI a8, Tree.bool a9,
  Tree.str a10, Tree.sl (2:Nat) a11] (0:Nat)]]) (AObj.box [AV.func (Fn.func 62) [] [AV.eptr (8:Nat) [tI a4, tI a5, tI a6, tI a7, tI a8, Tree.bool a9, Tree.str a10, Tree.sl (2:Nat) a11] (0:Nat), AV.eptr
  (4:Nat) [tI a0, tI a1, Tree.sl (2:Nat) a2, Tree.str a3] (0:Nat)], AV.func (Fn.func 63) [] [AV.eptr (4:Nat) [tI a0, tI a1, Tree.sl (2:Nat) a2, Tree.str a3] (0:Nat), AV.eptr (8:Nat) [tI a4, tI a5, tI
  a6, tI a7, tI a8, Tree.bool a9, Tree.str a10, Tree.sl (2:Nat) a11] (0:Nat)], AV.func (Fn.func 64) [] [AV.eptr (4:Nat) [tI a0, tI a1, Tree.sl (2:Nat) a2, Tree.str a3] (0:Nat), AV.eptr (8:Nat) [tI a4,
  tI a5, tI a6, tI a7, tI a8, Tree.bool a9, Tree.str a10, Tree.sl (2:Nat) a11] (0:Nat)], AV.func (Fn.func 65) [] [AV.eptr (4:Nat) [tI a0, tI a1, Tree.sl (2:Nat) a2, Tree.str a3] (0:Nat), AV.eptr (8:Nat)
  [tI a4, tI a5, tI a6, tI a7, tI a8, Tree.bool a9, Tree.str a10, Tree.sl (2:Nat) a11] (0:Nat)]]) (again13 ([AV.t (tI (w64 ((vI p12 0) + (1:Int))))], [AObj.box []]))))) none) none) none) (cnd (vI p12 0
  = ((2:Nat):Int)) (join (fun (p17 : List AV × Heap) => J39_3 n a4 a5 a6 a7 a8 a9 a10 a11 a0 a1 a2 a3 again13 p12 p17) fun (again18 : _ → Option (List Tree)) => cndO (AObj.box [AV.func (Fn.func 62) []
  [AV.eptr (8:Nat) [tI a4, tI a5, tI a6, tI a7, tI a8, Tree.bool a9, Tree.str a10, Tree.sl (2:Nat) a11] (0:Nat), AV.eptr (4:Nat) [tI a0, tI a1, Tree.sl (2:Nat) a2, Tree.str a3] (0:Nat)], AV.func
  (Fn.func 63) [] [AV.eptr (4:Nat) [tI a0, tI a1, Tree.sl (2:Nat) a2, Tree.str a3] (0:Nat), AV.eptr (8:Nat) [tI a4, tI a5, tI a6, tI a7, tI a8, Tree.bool a9, Tree.str a10, Tree.sl (2:Nat) a11] (0:Nat)],
  AV.func (Fn.func 64) [] [AV.eptr (4:Nat) [tI a0, tI a1, Tree.sl (2:Nat) a2, Tree.str a3] (0:Nat), AV.eptr (8:Nat) [tI a4, tI a5, tI a6, tI a7, tI a8, Tree.bool a9, Tree.str a10, Tree.sl (2:Nat) a11]
  (0:Nat)], AV.func (Fn.func 65) [] [AV.eptr (4:Nat) [tI a0, tI a1, Tree.sl (2:Nat) a2, Tree.str a3] (0:Nat), AV.eptr (8:Nat) [tI a4, tI a5, tI a6, tI a7, tI a8, Tree.bool a9, Tree.str a10, Tree.sl
  (2:Nat) a11] (0:Nat)]]) (AObj.box [AV.func (Fn.func 62) [] [AV.eptr (8:Nat) [tI a4, tI a5, tI a6, tI a7, tI a8, Tree.bool a9, Tree.str a10, Tree.sl (2:Nat) a11] (0:Nat), AV.eptr (4:Nat) [tI a0, tI a1,
  Tree.sl (2:Nat) a2, Tree.str a3] (0:Nat)], AV.func (Fn.func 63) [] [AV.eptr (4:Nat) [tI a0, tI a1, Tree.sl (2:Nat) a2, Tree.str a3] (0:Nat), AV.eptr (8:Nat) [tI a4, tI a5, tI a6, tI a7, tI a8,
  Tree.bool a9, Tree.str a10, Tree.sl (2:Nat) a11] (0:Nat)], AV.func (Fn.func 64) [] [AV.eptr (4:Nat) [tI a0, tI a1, Tree.sl (2:Nat) a2, Tree.str a3] (0:Nat), AV.eptr (8:Nat) [tI a4, tI a5, tI a6, tI
  a7, tI a8, Tree.bool a9, Tree.str a10, Tree.sl (2:Nat) a11] (0:Nat)], AV.func (Fn.func 65) [] [AV.eptr (4:Nat) [tI a0, tI a1, Tree.sl (2:Nat) a2, Tree.str a3] (0:Nat), AV.eptr (8:Nat) [tI a4, tI a5,
  tI a6, tI a7, tI a8, Tree.bool a9, Tree.str a10, Tree.sl (2:Nat) a11] (0:Nat)]]) (loopIter (fun (p19 : List AV × Heap) (again20 : _ → Option (List Tree)) => L39_2 n a2 a4 a5 a6 a7 a8 a9 a10 a11 a0 a1
  a3 again18 p19 again20) n ([AV.t (tI (0:Int))], [AObj.box []]))) (cnd (vI p12 0 = ((1:Nat):Int)) (join (fun (p24 : List AV × Heap) => J39_5 n a4 a5 a6 a7 a8 a9 a10 a11 a0 a1 a2 a3 again13 p12 p24) fun
  (again25 : _ → Option (List Tree)) => join (fun (p26 : List AV × Heap) => J39_4 n a4 a5 a6 a7 a8 a9 a10 a11 a0 a1 a2 a3 again25 p26) fun (again27 : _ → Option (List Tree)) => cnd ((a1 == (-1:Int)) =
  true) (cndO (AObj.box [AV.func (Fn.func 62) [] [AV.eptr (8:Nat) [tI a4, tI a5, tI a6, tI a7, tI a8, Tree.bool a9, Tree.str a10, Tree.sl (2:Nat) a11] (0:Nat), AV.eptr (4:Nat) [tI a0, tI a1, Tree.sl
  (2:Nat) a2, Tree.str a3] (0:Nat)], AV.func (Fn.func 63) [] [AV.eptr (4:Nat) [tI a0, tI a1, Tree.sl (2:Nat) a2, Tree.str a3] (0:Nat), AV.eptr (8:Nat) [tI a4, tI a5, tI a6, tI a7, tI a8, Tree.bool a9,
  Tree.str a10, Tree.sl (2:Nat) a11] (0:Nat)], AV.func (Fn.func 64) [] [AV.eptr (4:Nat) [tI a0, tI a1, Tree.sl (2:Nat) a2, Tree.str a3] (0:Nat), AV.eptr (8:Nat) [tI a4, tI a5, tI a6, tI a7, tI a8,
  Tree.bool a9, Tree.str a10, Tree.sl (2:Nat) a11] (0:Nat)], AV.func (Fn.func 65) [] [AV.eptr (4:Nat) [tI a0, tI a1, Tree.sl (2:Nat) a2, Tree.str a3] (0:Nat), AV.eptr (8:Nat) [tI a4, tI a5, tI a6, tI
  a7, tI a8, Tree.bool a9, Tree.str a10, Tree.sl (2:Nat) a11] (0:Nat)]]) (AObj.box [AV.func (Fn.func 62) [] [AV.eptr (8:Nat) [tI a4, tI a5, tI a6, tI a7, tI a8, Tree.bool a9, Tree.str a10, Tree.sl
  (2:Nat) a11] (0:Nat), AV.eptr (4:Nat) [tI a0, tI a1, Tree.sl (2:Nat) a2, Tree.str a3] (0:Nat)], AV.func (Fn.func 63) [] [AV.eptr (4:Nat) [tI a0, tI a1, Tree.sl (2:Nat) a2, Tree.str a3] (0:Nat),
  AV.eptr (8:Nat) [tI a4, tI a5, tI a6, tI a7, tI a8, Tree.bool a9, Tree.str a10, Tree.sl (2:Nat) a11] (0:Nat)], AV.func (Fn.func 64) [] [AV.eptr (4:Nat) [tI a0, tI a1, Tree.sl (2:Nat) a2, Tree.str a3]
  (0:Nat), AV.eptr (8:Nat) [tI a4, tI a5, tI a6, tI a7, tI a8, Tree.bool a9, Tree.str a10, Tree.sl (2:Nat) a11] (0:Nat)], AV.func (Fn.func 65) [] [AV.eptr (4:Nat) [tI a0, tI a1, Tree.sl (2:Nat) a2,
  Tree.str a3] (0:Nat), AV.eptr (8:Nat) [tI a4, tI a5, tI a6, tI a7, tI a8, Tree.bool a9, Tree.str a10, Tree.sl (2:Nat) a11] (0:Nat)]]) (again27 ([AV.t (Tree.bool true)], [AObj.box []]))) (cndO
  (AObj.box [AV.func (Fn.func 62) [] [AV.eptr (8:Nat) [tI a4, tI a5, tI a6, tI a7, tI a8, Tree.bool a9, Tree.str a10, Tree.sl (2:Nat) a11] (0:Nat), AV.eptr (4:Nat) [tI a0, tI a1, Tree.sl (2:Nat) a2,
  Tree.str a3] (0:Nat)], AV.func (Fn.func 63) [] [AV.eptr (4:Nat) [tI a0, tI a1, Tree.sl (2:Nat) a2, Tree.str a3] (0:Nat), AV.eptr (8:Nat) [tI a4, tI a5, tI a6, tI a7, tI a8, Tree.bool a9, Tree.str a10,
  Tree.sl (2:Nat) a11] (0:Nat)], AV.func (Fn.func 64) [] [AV.eptr (4:Nat) [tI a0, tI a1, Tree.sl (2:Nat) a2, Tree.str a3] (0:Nat), AV.eptr (8:Nat) [tI a4, tI a5, tI a6, tI a7, tI a8, Tree.bool a9,
  Tree.str a10, Tree.sl (2:Nat) a11] (0:Nat)], AV.func (Fn.func 65) [] [AV.eptr (4:Nat) [tI a0, tI a1, Tree.sl (2:Nat) a2, Tree.str a3] (0:Nat), AV.eptr (8:Nat) [tI a4, tI a5, tI a6, tI a7, tI a8,
  Tree.bool a9, Tree.str a10, Tree.sl (2:Nat) a11] (0:Nat)]]) (AObj.box [AV.func (Fn.func 62) [] [AV.eptr (8:Nat) [tI a4, tI a5, tI a6, tI a7, tI a8, Tree.bool a9, Tree.str a10, Tree.sl (2:Nat) a11]
  (0:Nat), AV.eptr (4:Nat) [tI a0, tI a1, Tree.sl (2:Nat) a2, Tree.str a3] (0:Nat)], AV.func (Fn.func 63) [] [AV.eptr (4:Nat) [tI a0, tI a1, Tree.sl (2:Nat) a2, Tree.str a3] (0:Nat), AV.eptr (8:Nat) [tI
  a4, tI a5, tI a6, tI a7, tI a8, Tree.bool a9, Tree.str a10, Tree.sl (2:Nat) a11] (0:Nat)], AV.func (Fn.func 64) [] [AV.eptr (4:Nat) [tI a0, tI a1, Tree.sl (2:Nat) a2, Tree.str a3] (0:Nat), AV.eptr
  (8:Nat) [tI a4, tI a5, tI a6, tI a7, tI a8, Tree.bool a9, Tree.str a10, Tree.sl (2:Nat) a11] (0:Nat)], AV.func (Fn.func 65) [] [AV.eptr (4:Nat) [tI a0, tI a1, Tree.sl (2:Nat) a2, Tree.str a3] (0:Nat),
  AV.eptr (8:Nat) [tI a4, tI a5, tI a6, tI a7, tI a8, Tree.bool a9, Tree.str a10, Tree.sl (2:Nat) a11] (0:Nat)]]) (again27 ([AV.t (Tree.bool (a8 == a1))], [AObj.box []])))) (cnd (vI p12 0 =
  ((0:Nat):Int)) (join (fun (p28 : List AV × Heap) => J39_7 n a4 a5 a6 a7 a8 a9 a10 a11 a0 a1 a2 a3 again13 p12 p28) fun (again29 : _ → Option (List Tree)) => join (fun (p30 : List AV × Heap) => J39_6 n
  a4 a5 a6 a7 a8 a9 a10 a11 a0 a1 a2 a3 again29 p30) fun (again31 : _ → Option (List Tree)) => cnd ((a4 == (1:Int)) = true) (cndO (AObj.box [AV.func (Fn.func 62) [] [AV.eptr (8:Nat) [tI a4, tI a5, tI
  a6, tI a7, tI a8, Tree.bool a9, Tree.str a10, Tree.sl (2:Nat) a11] (0:Nat), AV.eptr (4:Nat) [tI a0, tI a1, Tree.sl (2:Nat) a2, Tree.str a3] (0:Nat)], AV.func (Fn.func 63) [] [AV.eptr (4:Nat) [tI a0,
  tI a1, Tree.sl (2:Nat) a2, Tree.str a3] (0:Nat), AV.eptr (8:Nat) [tI a4, tI a5, tI a6, tI a7, tI a8, Tree.bool a9, Tree.str a10, Tree.sl (2:Nat) a11] (0:Nat)], AV.func (Fn.func 64) [] [AV.eptr (4:Nat)
  [tI a0, tI a1, Tree.sl (2:Nat) a2, Tree.str a3] (0:Nat), AV.eptr (8:Nat) [tI a4, tI a5, tI a6, tI a7, tI a8, Tree.bool a9, Tree.str a10, Tree.sl (2:Nat) a11] (0:Nat)], AV.func (Fn.func 65) [] [AV.eptr
  (4:Nat) [tI a0, tI a1, Tree.sl (2:Nat) a2, Tree.str a3] (0:Nat), AV.eptr (8:Nat) [tI a4, tI a5, tI a6, tI a7, tI a8, Tree.bool a9, Tree.str a10, Tree.sl (2:Nat) a11] (0:Nat)]]) (AObj.box [AV.func
  (Fn.func 62) [] [AV.eptr (8:Nat) [tI a4, tI a5, tI a6, tI a7, tI a8, Tree.bool a9, Tree.str a10, Tree.sl (2:Nat) a11] (0:Nat), AV.eptr (4:Nat) [tI a0, tI a1, Tree.sl (2:Nat) a2, Tree.str a3] (0:Nat)],
  AV.func (Fn.func 63) [] [AV.eptr (4:Nat) [tI a0, tI a1, Tree.sl (2:Nat) a2, Tree.str a3] (0:Nat), AV.eptr (8:Nat) [tI a4, tI a5, tI a6, tI a7, tI a8, Tree.bool a9, Tree.str a10, Tree.sl (2:Nat) a11]
  (0:Nat)], AV.func (Fn.func 64) [] [AV.eptr (4:Nat) [tI a0, tI a1, Tree.sl (2:Nat) a2, Tree.str a3] (0:Nat), AV.eptr (8:Nat) [tI a4, tI a5, tI a6, tI a7, tI a8, Tree.bool a9, Tree.str a10, Tree.sl
  (2:Nat) a11] (0:Nat)], AV.func (Fn.func 65) [] [AV.eptr (4:Nat) [tI a0, tI a1, Tree.sl (2:Nat) a2, Tree.str a3] (0:Nat), AV.eptr (8:Nat) [tI a4, tI a5, tI a6, tI a7, tI a8, Tree.bool a9, Tree.str a10,
  Tree.sl (2:Nat) a11] (0:Nat)]]) (again31 ([AV.t (Tree.bool (a5 == a0))], [AObj.box []]))) (cndO (AObj.box [AV.func (Fn.func 62) [] [AV.eptr (8:Nat) [tI a4, tI a5, tI a6, tI a7, tI a8, Tree.bool a9,
  Tree.str a10, Tree.sl (2:Nat) a11] (0:Nat), AV.eptr (4:Nat) [tI a0, tI a1, Tree.sl (2:Nat) a2, Tree.str a3] (0:Nat)], AV.func (Fn.func 63) [] [AV.eptr (4:Nat) [tI a0, tI a1, Tree.sl (2:Nat) a2,
  Tree.str a3] (0:Nat), AV.eptr (8:Nat) [tI a4, tI a5, tI a6, tI a7, tI a8, Tree.bool a9, Tree.str a10, Tree.sl (2:Nat) a11] (0:Nat)], AV.func (Fn.func 64) [] [AV.eptr (4:Nat) [tI a0, tI a1, Tree.sl
  (2:Nat) a2, Tree.str a3] (0:Nat), AV.eptr (8:Nat) [tI a4, tI a5, tI a6, tI a7, tI a8, Tree.bool a9, Tree.str a10, Tree.sl (2:Nat) a11] (0:Nat)], AV.func (Fn.func 65) [] [AV.eptr (4:Nat) [tI a0, tI a1,
  Tree.sl (2:Nat) a2, Tree.str a3] (0:Nat), AV.eptr (8:Nat) [tI a4, tI a5, tI a6, tI a7, tI a8, Tree.bool a9, Tree.str a10, Tree.sl (2:Nat) a11] (0:Nat)]]) (AObj.box [AV.func (Fn.func 62) [] [AV.eptr
  (8:Nat) [tI a4, tI a5, tI a6, tI a7, tI a8, Tree.bool a9, Tree.str a10, Tree.sl (2:Nat) a11] (0:Nat), AV.eptr (4:Nat) [tI a0, tI a1, Tree.sl (2:Nat) a2, Tree.str a3] (0:Nat)], AV.func (Fn.func 63) []
  [AV.eptr (4:Nat) [tI a0, tI a1, Tree.sl (2:Nat) a2, Tree.str a3] (0:Nat), AV.eptr (8:Nat) [tI a4, tI a5, tI a6, tI a7, tI a8, Tree.bool a9, Tree.str a10, Tree.sl (2:Nat) a11] (0:Nat)], AV.func
  (Fn.func 64) [] [AV.eptr (4:Nat) [tI a0, tI a1, Tree.sl (2:Nat) a2, Tree.str a3] (0:Nat), AV.eptr (8:Nat) [tI a4, tI a5, tI a6, tI a7, tI a8, Tree.bool a9, Tree.str a10, Tree.sl (2:Nat) a11] (0:Nat)],
  AV.func (Fn.func 65) [] [AV.eptr (4:Nat) [tI a0, tI a1, Tree.sl (2:Nat) a2, Tree.str a3] (0:Nat), AV.eptr (8:Nat) [tI a4, tI a5, tI a6, tI a7, tI a8, Tree.bool a9, Tree.str a10, Tree.sl (2:Nat) a11]
  (0:Nat)]]) (again31 ([AV.t (Tree.bool false)], [AObj.box []])))) none)))) none) (some [Tree.bool true])
theorem e39 (n : Nat) (a0 : Int) (a1 : Int) (a2 : List (List Tree)) (a3 : ByteArray) (a4 : Int) (a5 : Int) (a6 : Int) (a7 : Int) (a8 : Int) (a9 : Bool) (a10 : ByteArray) (a11 : List (List Tree)) : apure C (n + 1) 39 [tI a0, tI a1, Tree.sl (2:Nat) a2, Tree.str a3, tI a4, tI a5, tI a6, tI a7, tI a8, Tree.bool a9, Tree.str a10, Tree.sl (2:Nat) a11] =
  cndO (AObj.box [AV.func (Fn.func 62) [] [AV.eptr (8:Nat) [tI a4, tI a5, tI a6, tI a7, tI a8, Tree.bool a9, Tree.str a10, Tree.sl (2:Nat) a11] (0:Nat), AV.eptr (4:Nat) [tI a0, tI a1, Tree.sl (2:Nat)
  a2, Tree.str a3] (0:Nat)], AV.func (Fn.func 63) [] [AV.eptr (4:Nat) [tI a0, tI a1, Tree.sl (2:Nat) a2, Tree.str a3] (0:Nat), AV.eptr (8:Nat) [tI a4, tI a5, tI a6, tI a7, tI a8, Tree.bool a9, Tree.str
  a10, Tree.sl (2:Nat) a11] (0:Nat)], AV.func (Fn.func 64) [] [AV.eptr (4:Nat) [tI a0, tI a1, Tree.sl (2:Nat) a2, Tree.str a3] (0:Nat), AV.eptr (8:Nat) [tI a4, tI a5, tI a6, tI a7, tI a8, Tree.bool a9,
  Tree.str a10, Tree.sl (2:Nat) a11] (0:Nat)], AV.func (Fn.func 65) [] [AV.eptr (4:Nat) [tI a0, tI a1, Tree.sl (2:Nat) a2, Tree.str a3] (0:Nat), AV.eptr (8:Nat) [tI a4, tI a5, tI a6, tI a7, tI a8,
  Tree.bool a9, Tree.str a10, Tree.sl (2:Nat) a11] (0:Nat)]]) (AObj.box [AV.func (Fn.func 62) [] [AV.eptr (8:Nat) [tI a4, tI a5, tI a6, tI a7, tI a8, Tree.bool a9, Tree.str a10, Tree.sl (2:Nat) a11]
  (0:Nat), AV.eptr (4:Nat) [tI a0, tI a1, Tree.sl (2:Nat) a2, Tree.str a3] (0:Nat)], AV.func (Fn.func 63) [] [AV.eptr (4:Nat) [tI a0, tI a1, Tree.sl (2:Nat) a2, Tree.str a3] (0:Nat), AV.eptr (8:Nat) [tI
  a4, tI a5, tI a6, tI a7, tI a8, Tree.bool a9, Tree.str a10, Tree.sl (2:Nat) a11] (0:Nat)], AV.func (Fn.func 64) [] [AV.eptr (4:Nat) [tI a0, tI a1, Tree.sl (2:Nat) a2, Tree.str a3] (0:Nat), AV.eptr
  (8:Nat) [tI a4, tI a5, tI a6, tI a7, tI a8, Tree.bool a9, Tree.str a10, Tree.sl (2:Nat) a11] (0:Nat)], AV.func (Fn.func 65) [] [AV.eptr (4:Nat) [tI a0, tI a1, Tree.sl (2:Nat) a2, Tree.str a3] (0:Nat),
  AV.eptr (8:Nat) [tI a4, tI a5, tI a6, tI a7, tI a8, Tree.bool a9, Tree.str a10, Tree.sl (2:Nat) a11] (0:Nat)]]) (loopIter (fun (p12 : List AV × Heap) (again13 : _ → Option (List Tree)) => L39_8 n a0
  a1 a2 a3 a4 a5 a6 a7 a8 a9 a10 a11 p12 again13) n ([AV.t (tI (0:Int))], [AObj.box []])) := by kernel_rfl

theorem e40 (n : Nat) (a0 : Int) (a1 : Int) (a2 : List (List Tree)) (a3 : ByteArray) (a4 : Int) (a5 : Int) (a6 : Int) (a7 : Int) (a8 : Int) (a9 : Bool) (a10 : ByteArray) (a11 : List (List Tree)) : apure C (n + 1) 40 [tI a0, tI a1, Tree.sl (2:Nat) a2, Tree.str a3, tI a4, tI a5, tI a6, tI a7, tI a8, Tree.bool a9, Tree.str a10, Tree.sl (2:Nat) a11] =
  Option.bind (apure C n (66:Nat) [Tree.sl (2:Nat) a2, Tree.sl (2:Nat) [[tI a7, tI (w64 (a7 + ((ByteArray.size a10:Nat):Int)))]]]) fun y12 => cnd (List.length y12 = (2:Nat)) (cnd (okL 2 y12 0) (cnd (okI
  y12 1) (some [Tree.sl (2:Nat) (gL y12 0), tI (gI y12 1)]) none) none) none := by kernel_rfl

theorem e41 (n : Nat) (a0 : List (List Tree)) : apure C (n + 1) 41 [Tree.sl (2:Nat) a0] =
  cnd (List.length a0 ≠ (0:Nat)) (cnd (List.length a0 ≤ (1073741824:Nat)) (some [Tree.sl (2:Nat) (List.take (List.length a0) a0)]) none) (both (some [Tree.sl (2:Nat) []]) (cnd (List.length a0 ≤
  (1073741824:Nat)) (some [Tree.sl (2:Nat) (List.take (List.length a0) a0)]) none)) := by kernel_rfl

noncomputable def L42_2 (n : Nat) (a10 : ByteArray) (a2 : List (List Tree)) (a7 : Int) (a3 : ByteArray) (p20 : List AV × Heap) (again21 : (List AV × Heap) → Option (List Tree)) : Option (List Tree) :=
  cnd (decide (vI p20 0 < ((ByteArray.size a10:Nat):Int)) = true) (Option.bind (apure C n (50:Nat) [Tree.sl (2:Nat) a2, tI (w64 (a7 + (vI p20 0)))]) fun y24 => cnd (List.length y24 = (1:Nat)) (cnd (okB
  y24 0) (cnd (gB y24 0 = true) (cnd ((0:Int) ≤ w64 (a7 + (vI p20 0)) ∧ w64 (a7 + (vI p20 0)) < ((ByteArray.size a3:Nat):Int)) (cnd ((0:Int) ≤ vI p20 0 ∧ vI p20 0 < ((ByteArray.size a10:Nat):Int)) (cnd
  (((byteAt a3 (Int.toNat (w64 (a7 + (vI p20 0))))) != (byteAt a10 (Int.toNat (vI p20 0)))) = true) (some [Tree.bool false]) (again21 ([AV.t (tI (w64 ((vI p20 0) + (1:Int))))], []))) none) none)
  (again21 ([AV.t (tI (w64 ((vI p20 0) + (1:Int))))], []))) none) none) (Option.bind (apure C n (43:Nat) [Tree.sl (2:Nat) a2, Tree.sl (2:Nat) [[tI a7, tI (w64 (a7 + ((ByteArray.size a10:Nat):Int)))]]])
  fun y25 => cnd (List.length y25 = (2:Nat)) (cnd (okL 2 y25 0) (cnd (okI y25 1) (some [Tree.bool ((gI y25 1) == (0:Int))]) none) none) none)

noncomputable def L42_3 (n : Nat) (a10 : ByteArray) (a2 : List (List Tree)) (a7 : Int) (a3 : ByteArray) (p26 : List AV × Heap) (again27 : (List AV × Heap) → Option (List Tree)) : Option (List Tree) :=
  cnd (decide (vI p26 0 < ((ByteArray.size a10:Nat):Int)) = true) (Option.bind (apure C n (50:Nat) [Tree.sl (2:Nat) a2, tI (w64 (a7 + (vI p26 0)))]) fun y30 => cnd (List.length y30 = (1:Nat)) (cnd (okB
  y30 0) (cnd (gB y30 0 = true) (cnd ((0:Int) ≤ w64 (a7 + (vI p26 0)) ∧ w64 (a7 + (vI p26 0)) < ((ByteArray.size a3:Nat):Int)) (cnd ((0:Int) ≤ vI p26 0 ∧ vI p26 0 < ((ByteArray.size a10:Nat):Int)) (cnd
  (((byteAt a3 (Int.toNat (w64 (a7 + (vI p26 0))))) != (byteAt a10 (Int.toNat (vI p26 0)))) = true) (some [Tree.bool false]) (again27 ([AV.t (tI (w64 ((vI p26 0) + (1:Int))))], []))) none) none)
  (again27 ([AV.t (tI (w64 ((vI p26 0) + (1:Int))))], []))) none) none) (Option.bind (apure C n (43:Nat) [Tree.sl (2:Nat) a2, Tree.sl (2:Nat) [[tI a7, tI (w64 (a7 + ((ByteArray.size a10:Nat):Int)))]]])
  fun y31 => cnd (List.length y31 = (2:Nat)) (cnd (okL 2 y31 0) (cnd (okI y31 1) (some [Tree.bool ((gI y31 1) == (0:Int))]) none) none) none)
theorem e42 (n : Nat) (a0 : Int) (a1 : Int) (a2 : List (List Tree)) (a3 : ByteArray) (a4 : Int) (a5 : Int) (a6 : Int) (a7 : Int) (a8 : Int) (a9 : Bool) (a10 : ByteArray) (a11 : List (List Tree)) : apure C (n + 1) 42 [tI a0, tI a1, Tree.sl (2:Nat) a2, Tree.str a3, tI a4, tI a5, tI a6, tI a7, tI a8, Tree.bool a9, Tree.str a10, Tree.sl (2:Nat) a11] =
  cnd ((a4 != (1:Int)) = true) (some [Tree.bool false]) (cnd ((a5 != a0) = true) (some [Tree.bool false]) (cnd (decide (a1 ≥ (0:Int)) = true) (cnd ((a8 != a1) = true) (some [Tree.bool false]) (loopIter
  (fun (p20 : List AV × Heap) (again21 : _ → Option (List Tree)) => L42_2 n a10 a2 a7 a3 p20 again21) n ([AV.t (tI (0:Int))], []))) (loopIter (fun (p26 : List AV × Heap) (again27 : _ → Option (List
  Tree)) => L42_3 n a10 a2 a7 a3 p26 again27) n ([AV.t (tI (0:Int))], [])))) := by kernel_rfl

noncomputable def L43_1 (n : Nat) (a1 : List (List Tree)) (p3 : List AV × Heap) (again4 : (List AV × Heap) → Option (List Tree)) : Option (List Tree) :=
  cnd (decide (vI p3 1 < ((List.length a1:Nat):Int)) = true) (cnd ((2:Nat) = (2:Nat) ∧ (0:Int) ≤ vI p3 1) (Option.bind a1[Int.toNat (vI p3 1)]? fun y5 => cnd (okI y5 0) (cnd (okI y5 1) (cnd ((true =
  true ∨ true = false) ∧ oVer p3 0 = sVer p3 0 ∧ ((2:Nat) = (2:Nat) ∨ (2:Nat) = (0:Nat))) (Option.bind (apure C n (1000068:Nat) [Tree.sl (2:Nat) (List.take (sLen p3 0) (List.drop (sOff p3 0) (oEs p3
  0))), tI (gI y5 0), tI (gI y5 1)]) fun y6 => cnd (List.length y6 = (1:Nat) ∧ okL 2 y6 0) (again4 ([AV.sref (0:Nat) ((oVer p3 0) + (1:Nat)) (0:Nat) (List.length (gL y6 0)), AV.t (tI (w64 ((vI p3 1) +
  (1:Int))))], [AObj.row false ((oVer p3 0) + (1:Nat)) (2:Nat) (gL y6 0)])) none) none) none) none) none) (cnd ((true = true ∨ true = false) ∧ oVer p3 0 = sVer p3 0 ∧ ((2:Nat) = (2:Nat) ∨ (2:Nat) =
  (0:Nat))) (Option.bind (apure C n (69:Nat) [Tree.sl (2:Nat) (List.take (sLen p3 0) (List.drop (sOff p3 0) (oEs p3 0)))]) fun y7 => cnd (List.length y7 = (2:Nat)) (cnd (okL 2 y7 0) (cnd (okI y7 1)
  (some [Tree.sl (2:Nat) (gL y7 0), tI (gI y7 1)]) none) none) none) none)
theorem e43 (n : Nat) (a0 : List (List Tree)) (a1 : List (List Tree)) : apure C (n + 1) 43 [Tree.sl (2:Nat) a0, Tree.sl (2:Nat) a1] =
  Option.bind (apure C n (67:Nat) [Tree.sl (2:Nat) a0, Tree.sl (2:Nat) a1]) fun y2 => cnd (List.length y2 = (1:Nat)) (cnd (okB y2 0) (cnd (gB y2 0 = true) (some [Tree.sl (2:Nat) [], tI (1:Int)]) (cnd
  (List.length a0 ≤ (1073741824:Nat)) (loopIter (fun (p3 : List AV × Heap) (again4 : _ → Option (List Tree)) => L43_1 n a1 p3 again4) n ([AV.sref (0:Nat) (0:Nat) (0:Nat) (List.length a0), AV.t (tI
  (0:Int))], [AObj.row false (0:Nat) (2:Nat) a0])) none)) none) none := by kernel_rfl

theorem e44 (n : Nat) (a0 : Int) (a1 : Int) (a2 : Int) (a3 : List (List Tree)) : apure C (n + 1) 44 [tI a0, tI a1, tI a2, Tree.sl (2:Nat) a3] =
  Option.bind (apure C n (27:Nat) [tI (2:Int), tI a0, tI a1, tI (0:Int), tI a2, Tree.bool false, Tree.str (ByteArray.mk #[]), Tree.sl (2:Nat) a3]) fun y4 => cnd (List.length y4 = (1:Nat)) (cnd (okI y4
  0) (cnd (((gI y4 0) != (0:Int)) = true) (some [tI (0:Int), tI (0:Int), tI (0:Int), tI (0:Int), tI (0:Int), Tree.bool false, Tree.str (ByteArray.mk #[]), Tree.sl (2:Nat) [], tI (gI y4 0)]) (some [tI
  (2:Int), tI a0, tI a1, tI (0:Int), tI a2, Tree.bool false, Tree.str (ByteArray.mk #[]), Tree.sl (2:Nat) a3, tI (0:Int)])) none) none := by kernel_rfl

noncomputable def L45_1 (n : Nat) (a0 : List (List Tree)) (a1 : List (List Tree)) (p2 : List AV × Heap) (again3 : (List AV × Heap) → Option (List Tree)) : Option (List Tree) :=
  cnd (decide (vI p2 0 < ((List.length a0:Nat):Int)) = true) (cnd ((2:Nat) = (2:Nat) ∧ (0:Int) ≤ vI p2 0) (Option.bind a0[Int.toNat (vI p2 0)]? fun y4 => cnd (okI y4 0) (cnd (okI y4 1) (cnd ((2:Nat) =
  (2:Nat) ∧ (0:Int) ≤ vI p2 0) (Option.bind a1[Int.toNat (vI p2 0)]? fun y5 => cnd (okI y5 0) (cnd (okI y5 1) (cnd ((!(((gI y4 0) == (gI y5 0)) && ((gI y4 1) == (gI y5 1)))) = true) (some [Tree.bool
  false]) (again3 ([AV.t (tI (w64 ((vI p2 0) + (1:Int))))], []))) none) none) none) none) none) none) (some [Tree.bool true])
theorem e45 (n : Nat) (a0 : List (List Tree)) (a1 : List (List Tree)) : apure C (n + 1) 45 [Tree.sl (2:Nat) a0, Tree.sl (2:Nat) a1] =
  cnd ((((List.length a0:Nat):Int) != ((List.length a1:Nat):Int)) = true) (some [Tree.bool false]) (loopIter (fun (p2 : List AV × Heap) (again3 : _ → Option (List Tree)) => L45_1 n a0 a1 p2 again3) n
  ([AV.t (tI (0:Int))], [])) := by kernel_rfl

noncomputable def L46_1 (n : Nat) (a0 : List (List Tree)) (p1 : List AV × Heap) (again2 : (List AV × Heap) → Option (List Tree)) : Option (List Tree) :=
  cnd (decide (vI p1 0 < ((List.length a0:Nat):Int)) = true) (cnd ((2:Nat) = (2:Nat) ∧ (0:Int) ≤ vI p1 0) (Option.bind a0[Int.toNat (vI p1 0)]? fun y3 => cnd (okI y3 0) (cnd (okI y3 1) (Option.bind
  (apure C n (70:Nat) [tI (gI y3 0), tI (gI y3 1)]) fun y4 => cnd (List.length y4 = (1:Nat)) (cnd (okB y4 0) (cnd ((!(gB y4 0)) = true) (some [tI (2:Int)]) (cnd (decide (vI p1 0 > (0:Int)) = true) (cnd
  ((2:Nat) = (2:Nat) ∧ (0:Int) ≤ w64 ((vI p1 0) - (1:Int))) (Option.bind a0[Int.toNat (w64 ((vI p1 0) - (1:Int)))]? fun y7 => cnd (okI y7 1) (cnd (decide (gI y3 0 ≤ gI y7 1) = true) (some [tI (9:Int)])
  (again2 ([AV.t (tI (w64 ((vI p1 0) + (1:Int))))], []))) none) none) (again2 ([AV.t (tI (w64 ((vI p1 0) + (1:Int))))], [])))) none) none) none) none) none) (some [tI (0:Int)])
theorem e46 (n : Nat) (a0 : List (List Tree)) : apure C (n + 1) 46 [Tree.sl (2:Nat) a0] =
  cnd (decide (((List.length a0:Nat):Int) > (1000:Int)) = true) (some [tI (4:Int)]) (loopIter (fun (p1 : List AV × Heap) (again2 : _ → Option (List Tree)) => L46_1 n a0 p1 again2) n ([AV.t (tI
  (0:Int))], [])) := by kernel_rfl

noncomputable def L48_1 (n : Nat) (again12 : (List AV × Heap) → Option (List Tree)) (p13 : List AV × Heap) (again14 : (List AV × Heap) → Option (List Tree)) : Option (List Tree) :=
  cnd (decide (((ByteArray.size (vS p13 0):Nat):Int) > (0:Int)) = true) (cnd ((0:Int) ≤ w64 (((ByteArray.size (vS p13 0):Nat):Int) - (1:Int)) ∧ w64 (((ByteArray.size (vS p13 0):Nat):Int) - (1:Int)) <
  ((ByteArray.size (vS p13 0):Nat):Int)) (cnd ((0:Int) ≤ byteAt (vS p13 0) (Int.toNat (w64 (((ByteArray.size (vS p13 0):Nat):Int) - (1:Int)))) ∧ byteAt (vS p13 0) (Int.toNat (w64 (((ByteArray.size (vS
  p13 0):Nat):Int) - (1:Int)))) < (256:Int)) (cnd ((0:Nat) + ((Int.toNat (byteAt (vS p13 0) (Int.toNat (w64 (((ByteArray.size (vS p13 0):Nat):Int) - (1:Int)))))) * (1:Nat)) < (256:Nat)) none none) none)
  none) (again12 ([AV.t (Tree.str (vS p13 0))], [AObj.box [AV.t (Tree.bool (cB p13 0 0)), AV.t (Tree.bool (cB p13 0 1)), AV.t (Tree.bool (cB p13 0 2)), AV.t (Tree.bool (cB p13 0 3)), AV.t (Tree.bool (cB
  p13 0 4)), AV.t (Tree.bool (cB p13 0 5)), AV.t (Tree.bool (cB p13 0 6)), AV.t (Tree.bool (cB p13 0 7)), AV.t (Tree.bool (cB p13 0 8)), AV.t (Tree.bool (cB p13 0 9)), AV.t (Tree.bool (cB p13 0 10)),
  AV.t (Tree.bool (cB p13 0 11)), AV.t (Tree.bool (cB p13 0 12)), AV.t (Tree.bool (cB p13 0 13)), AV.t (Tree.bool (cB p13 0 14)), AV.t (Tree.bool (cB p13 0 15)), AV.t (Tree.bool (cB p13 0 16)), AV.t
  (Tree.bool (cB p13 0 17)), AV.t (Tree.bool (cB p13 0 18)), AV.t (Tree.bool (cB p13 0 19)), AV.t (Tree.bool (cB p13 0 20)), AV.t (Tree.bool (cB p13 0 21)), AV.t (Tree.bool (cB p13 0 22)), AV.t
  (Tree.bool (cB p13 0 23)), AV.t (Tree.bool (cB p13 0 24)), AV.t (Tree.bool (cB p13 0 25)), AV.t (Tree.bool (cB p13 0 26)), AV.t (Tree.bool (cB p13 0 27)), AV.t (Tree.bool (cB p13 0 28)), AV.t
  (Tree.bool (cB p13 0 29)), AV.t (Tree.bool (cB p13 0 30)), AV.t (Tree.bool (cB p13 0 31)), AV.t (Tree.bool (cB p13 0 32)), AV.t (Tree.bool (cB p13 0 33)), AV.t (Tree.bool (cB p13 0 34)), AV.t
  (Tree.bool (cB p13 0 35)), AV.t (Tree.bool (cB p13 0 36)), AV.t (Tree.bool (cB p13 0 37)), AV.t (Tree.bool (cB p13 0 38)), AV.t (Tree.bool (cB p13 0 39)), AV.t (Tree.bool (cB p13 0 40)), AV.t
  (Tree.bool (cB p13 0 41)), AV.t (Tree.bool (cB p13 0 42)), AV.t (Tree.bool (cB p13 0 43)), AV.t (Tree.bool (cB p13 0 44)), AV.t (Tree.bool (cB p13 0 45)), AV.t (Tree.bool (cB p13 0 46)), AV.t
  (Tree.bool (cB p13 0 47)), AV.t (Tree.bool (cB p13 0 48)), AV.t (Tree.bool (cB p13 0 49)), AV.t (Tree.bool (cB p13 0 50)), AV.t (Tree.bool (cB p13 0 51)), AV.t (Tree.bool (cB p13 0 52)), AV.t
  (Tree.bool (cB p13 0 53)), AV.t (Tree.bool (cB p13 0 54)), AV.t (Tree.bool (cB p13 0 55)), AV.t (Tree.bool (cB p13 0 56)), AV.t (Tree.bool (cB p13 0 57)), AV.t (Tree.bool (cB p13 0 58)), AV.t
  (Tree.bool (cB p13 0 59)), AV.t (Tree.bool (cB p13 0 60)), AV.t (Tree.bool (cB p13 0 61)), AV.t (Tree.bool (cB p13 0 62)), AV.t (Tree.bool (cB p13 0 63)), AV.t (Tree.bool (cB p13 0 64)), AV.t
  (Tree.bool (cB p13 0 65)), AV.t (Tree.bool (cB p13 0 66)), AV.t (Tree.bool (cB p13 0 67)), AV.t (Tree.bool (cB p13 0 68)), AV.t (Tree.bool (cB p13 0 69)), AV.t (Tree.bool (cB p13 0 70)), AV.t
  (Tree.bool (cB p13 0 71)), AV.t (Tree.bool (cB p13 0 72)), AV.t (Tree.bool (cB p13 0 73)), AV.t (Tree.bool (cB p13 0 74)), AV.t (Tree.bool (cB p13 0 75)), AV.t (Tree.bool (cB p13 0 76)), AV.t
  (Tree.bool (cB p13 0 77)), AV.t (Tree.bool (cB p13 0 78)), AV.t (Tree.bool (cB p13 0 79)), AV.t (Tree.bool (cB p13 0 80)), AV.t (Tree.bool (cB p13 0 81)), AV.t (Tree.bool (cB p13 0 82)), AV.t
  (Tree.bool (cB p13 0 83)), AV.t (Tree.bool (cB p13 0 84)), AV.t (Tree.bool (cB p13 0 85)), AV.t (Tree.bool (cB p13 0 86)), AV.t (Tree.bool (cB p13 0 87)), AV.t (Tree.bool (cB p13 0 88)), AV.t
  (Tree.bool (cB p13 0 89)), AV.t (Tree.bool (cB p13 0 90)), AV.t (Tree.bool (cB p13 0 91)), AV.t (Tree.bool (cB p13 0 92)), AV.t (Tree.bool (cB p13 0 93)), AV.t (Tree.bool (cB p13 0 94)), AV.t
  (Tree.bool (cB p13 0 95)), AV.t (Tree.bool (cB p13 0 96)), AV.t (Tree.bool (cB p13 0 97)), AV.t (Tree.bool (cB p13 0 98)), AV.t (Tree.bool (cB p13 0 99)), AV.t (Tree.bool (cB p13 0 100)), AV.t
  (Tree.bool (cB p13 0 101)), AV.t (Tree.bool (cB p13 0 102)), AV.t (Tree.bool (cB p13 0 103)), AV.t (Tree.bool (cB p13 0 104)), AV.t (Tree.bool (cB p13 0 105)), AV.t (Tree.bool (cB p13 0 106)), AV.t
  (Tree.bool (cB p13 0 107)), AV.t (Tree.bool (cB p13 0 108)), AV.t (Tree.bool (cB p13 0 109)), AV.t (Tree.bool (cB p13 0 110)), AV.t (Tree.bool (cB p13 0 111)), AV.t (Tree.bool (cB p13 0 112)), AV.t
  (Tree.bool (cB p13 0 113)), AV.t (Tree.bool (cB p13 0 114)), AV.t (Tree.bool (cB p13 0 115)), AV.t (Tree.bool (cB p13 0 116)), AV.t (Tree.bool (cB p13 0 117)), AV.t (Tree.bool (cB p13 0 118)), AV.t
  (Tree.bool (cB p13 0 119)), AV.t (Tree.bool (cB p13 0 120)), AV.t (Tree.bool (cB p13 0 121)), AV.t (Tree.bool (cB p13 0 122)), AV.t (Tree.bool (cB p13 0 123)), AV.t (Tree.bool (cB p13 0 124)), AV.t
  (Tree.bool (cB p13 0 125)), AV.t (Tree.bool (cB p13 0 126)), AV.t (Tree.bool (cB p13 0 127)), AV.t (Tree.bool (cB p13 0 128)), AV.t (Tree.bool (cB p13 0 129)), AV.t (Tree.bool (cB p13 0 130)), AV.t
  (Tree.bool (cB p13 0 131)), AV.t (Tree.bool (cB p13 0 132)), AV.t (Tree.bool (cB p13 0 133)), AV.t (Tree.bool (cB p13 0 134)), AV.t (Tree.bool (cB p13 0 135)), AV.t (Tree.bool (cB p13 0 136)), AV.t
  (Tree.bool (cB p13 0 137)), AV.t (Tree.bool (cB p13 0 138)), AV.t (Tree.bool (cB p13 0 139)), AV.t (Tree.bool (cB p13 0 140)), AV.t (Tree.bool (cB p13 0 141)), AV.t (Tree.bool (cB p13 0 142)), AV.t
  (Tree.bool (cB p13 0 143)), AV.t (Tree.bool (cB p13 0 144)), AV.t (Tree.bool (cB p13 0 145)), AV.t (Tree.bool (cB p13 0 146)), AV.t (Tree.bool (cB p13 0 147)), AV.t (Tree.bool (cB p13 0 148)), AV.t
  (Tree.bool (cB p13 0 149)), AV.t (Tree.bool (cB p13 0 150)), AV.t (Tree.bool (cB p13 0 151)), AV.t (Tree.bool (cB p13 0 152)), AV.t (Tree.bool (cB p13 0 153)), AV.t (Tree.bool (cB p13 0 154)), AV.t
  (Tree.bool (cB p13 0 155)), AV.t (Tree.bool (cB p13 0 156)), AV.t (Tree.bool (cB p13 0 157)), AV.t (Tree.bool (cB p13 0 158)), AV.t (Tree.bool (cB p13 0 159)), AV.t (Tree.bool (cB p13 0 160)), AV.t
  (Tree.bool (cB p13 0 161)), AV.t (Tree.bool (cB p13 0 162)), AV.t (Tree.bool (cB p13 0 163)), AV.t (Tree.bool (cB p13 0 164)), AV.t (Tree.bool (cB p13 0 165)), AV.t (Tree.bool (cB p13 0 166)), AV.t
  (Tree.bool (cB p13 0 167)), AV.t (Tree.bool (cB p13 0 168)), AV.t (Tree.bool (cB p13 0 169)), AV.t (Tree.bool (cB p13 0 170)), AV.t (Tree.bool (cB p13 0 171)), AV.t (Tree.bool (cB p13 0 172)), AV.t
  (Tree.bool (cB p13 0 173)), AV.t (Tree.bool (cB p13 0 174)), AV.t (Tree.bool (cB p13 0 175)), AV.t (Tree.bool (cB p13 0 176)), AV.t (Tree.bool (cB p13 0 177)), AV.t (Tree.bool (cB p13 0 178)), AV.t
  (Tree.bool (cB p13 0 179)), AV.t (Tree.bool (cB p13 0 180)), AV.t (Tree.bool (cB p13 0 181)), AV.t (Tree.bool (cB p13 0 182)), AV.t (Tree.bool (cB p13 0 183)), AV.t (Tree.bool (cB p13 0 184)), AV.t
  (Tree.bool (cB p13 0 185)), AV.t (Tree.bool (cB p13 0 186)), AV.t (Tree.bool (cB p13 0 187)), AV.t (Tree.bool (cB p13 0 188)), AV.t (Tree.bool (cB p13 0 189)), AV.t (Tree.bool (cB p13 0 190)), AV.t
  (Tree.bool (cB p13 0 191)), AV.t (Tree.bool (cB p13 0 192)), AV.t (Tree.bool (cB p13 0 193)), AV.t (Tree.bool (cB p13 0 194)), AV.t (Tree.bool (cB p13 0 195)), AV.t (Tree.bool (cB p13 0 196)), AV.t
  (Tree.bool (cB p13 0 197)), AV.t (Tree.bool (cB p13 0 198)), AV.t (Tree.bool (cB p13 0 199)), AV.t (Tree.bool (cB p13 0 200)), AV.t (Tree.bool (cB p13 0 201)), AV.t (Tree.bool (cB p13 0 202)), AV.t
  (Tree.bool (cB p13 0 203)), AV.t (Tree.bool (cB p13 0 204)), AV.t (Tree.bool (cB p13 0 205)), AV.t (Tree.bool (cB p13 0 206)), AV.t (Tree.bool (cB p13 0 207)), AV.t (Tree.bool (cB p13 0 208)), AV.t
  (Tree.bool (cB p13 0 209)), AV.t (Tree.bool (cB p13 0 210)), AV.t (Tree.bool (cB p13 0 211)), AV.t (Tree.bool (cB p13 0 212)), AV.t (Tree.bool (cB p13 0 213)), AV.t (Tree.bool (cB p13 0 214)), AV.t
  (Tree.bool (cB p13 0 215)), AV.t (Tree.bool (cB p13 0 216)), AV.t (Tree.bool (cB p13 0 217)), AV.t (Tree.bool (cB p13 0 218)), AV.t (Tree.bool (cB p13 0 219)), AV.t (Tree.bool (cB p13 0 220)), AV.t
  (Tree.bool (cB p13 0 221)), AV.t (Tree.bool (cB p13 0 222)), AV.t (Tree.bool (cB p13 0 223)), AV.t (Tree.bool (cB p13 0 224)), AV.t (Tree.bool (cB p13 0 225)), AV.t (Tree.bool (cB p13 0 226)), AV.t
  (Tree.bool (cB p13 0 227)), AV.t (Tree.bool (cB p13 0 228)), AV.t (Tree.bool (cB p13 0 229)), AV.t (Tree.bool (cB p13 0 230)), AV.t (Tree.bool (cB p13 0 231)), AV.t (Tree.bool (cB p13 0 232)), AV.t
  (Tree.bool (cB p13 0 233)), AV.t (Tree.bool (cB p13 0 234)), AV.t (Tree.bool (cB p13 0 235)), AV.t (Tree.bool (cB p13 0 236)), AV.t (Tree.bool (cB p13 0 237)), AV.t (Tree.bool (cB p13 0 238)), AV.t
  (Tree.bool (cB p13 0 239)), AV.t (Tree.bool (cB p13 0 240)), AV.t (Tree.bool (cB p13 0 241)), AV.t (Tree.bool (cB p13 0 242)), AV.t (Tree.bool (cB p13 0 243)), AV.t (Tree.bool (cB p13 0 244)), AV.t
  (Tree.bool (cB p13 0 245)), AV.t (Tree.bool (cB p13 0 246)), AV.t (Tree.bool (cB p13 0 247)), AV.t (Tree.bool (cB p13 0 248)), AV.t (Tree.bool (cB p13 0 249)), AV.t (Tree.bool (cB p13 0 250)), AV.t
  (Tree.bool (cB p13 0 251)), AV.t (Tree.bool (cB p13 0 252)), AV.t (Tree.bool (cB p13 0 253)), AV.t (Tree.bool (cB p13 0 254)), AV.t (Tree.bool (cB p13 0 255))]]))

noncomputable def J48_2 (n : Nat) (again10 : (List AV × Heap) → Option (List Tree)) (p11 : List AV × Heap) : Option (List Tree) :=
  again10 ([AV.t (Tree.str (vS p11 0))], [AObj.box [AV.t (Tree.bool (cB p11 0 0)), AV.t (Tree.bool (cB p11 0 1)), AV.t (Tree.bool (cB p11 0 2)), AV.t (Tree.bool (cB p11 0 3)), AV.t (Tree.bool (cB p11 0
  4)), AV.t (Tree.bool (cB p11 0 5)), AV.t (Tree.bool (cB p11 0 6)), AV.t (Tree.bool (cB p11 0 7)), AV.t (Tree.bool (cB p11 0 8)), AV.t (Tree.bool (cB p11 0 9)), AV.t (Tree.bool (cB p11 0 10)), AV.t
  (Tree.bool (cB p11 0 11)), AV.t (Tree.bool (cB p11 0 12)), AV.t (Tree.bool (cB p11 0 13)), AV.t (Tree.bool (cB p11 0 14)), AV.t (Tree.bool (cB p11 0 15)), AV.t (Tree.bool (cB p11 0 16)), AV.t
  (Tree.bool (cB p11 0 17)), AV.t (Tree.bool (cB p11 0 18)), AV.t (Tree.bool (cB p11 0 19)), AV.t (Tree.bool (cB p11 0 20)), AV.t (Tree.bool (cB p11 0 21)), AV.t (Tree.bool (cB p11 0 22)), AV.t
  (Tree.bool (cB p11 0 23)), AV.t (Tree.bool (cB p11 0 24)), AV.t (Tree.bool (cB p11 0 25)), AV.t (Tree.bool (cB p11 0 26)), AV.t (Tree.bool (cB p11 0 27)), AV.t (Tree.bool (cB p11 0 28)), AV.t
  (Tree.bool (cB p11 0 29)), AV.t (Tree.bool (cB p11 0 30)), AV.t (Tree.bool (cB p11 0 31)), AV.t (Tree.bool (cB p11 0 32)), AV.t (Tree.bool (cB p11 0 33)), AV.t (Tree.bool (cB p11 0 34)), AV.t
  (Tree.bool (cB p11 0 35)), AV.t (Tree.bool (cB p11 0 36)), AV.t (Tree.bool (cB p11 0 37)), AV.t (Tree.bool (cB p11 0 38)), AV.t (Tree.bool (cB p11 0 39)), AV.t (Tree.bool (cB p11 0 40)), AV.t
  (Tree.bool (cB p11 0 41)), AV.t (Tree.bool (cB p11 0 42)), AV.t (Tree.bool (cB p11 0 43)), AV.t (Tree.bool (cB p11 0 44)), AV.t (Tree.bool (cB p11 0 45)), AV.t (Tree.bool (cB p11 0 46)), AV.t
  (Tree.bool (cB p11 0 47)), AV.t (Tree.bool (cB p11 0 48)), AV.t (Tree.bool (cB p11 0 49)), AV.t (Tree.bool (cB p11 0 50)), AV.t (Tree.bool (cB p11 0 51)), AV.t (Tree.bool (cB p11 0 52)), AV.t
  (Tree.bool (cB p11 0 53)), AV.t (Tree.bool (cB p11 0 54)), AV.t (Tree.bool (cB p11 0 55)), AV.t (Tree.bool (cB p11 0 56)), AV.t (Tree.bool (cB p11 0 57)), AV.t (Tree.bool (cB p11 0 58)), AV.t
  (Tree.bool (cB p11 0 59)), AV.t (Tree.bool (cB p11 0 60)), AV.t (Tree.bool (cB p11 0 61)), AV.t (Tree.bool (cB p11 0 62)), AV.t (Tree.bool (cB p11 0 63)), AV.t (Tree.bool (cB p11 0 64)), AV.t
  (Tree.bool (cB p11 0 65)), AV.t (Tree.bool (cB p11 0 66)), AV.t (Tree.bool (cB p11 0 67)), AV.t (Tree.bool (cB p11 0 68)), AV.t (Tree.bool (cB p11 0 69)), AV.t (Tree.bool (cB p11 0 70)), AV.t
  (Tree.bool (cB p11 0 71)), AV.t (Tree.bool (cB p11 0 72)), AV.t (Tree.bool (cB p11 0 73)), AV.t (Tree.bool (cB p11 0 74)), AV.t (Tree.bool (cB p11 0 75)), AV.t (Tree.bool (cB p11 0 76)), AV.t
  (Tree.bool (cB p11 0 77)), AV.t (Tree.bool (cB p11 0 78)), AV.t (Tree.bool (cB p11 0 79)), AV.t (Tree.bool (cB p11 0 80)), AV.t (Tree.bool (cB p11 0 81)), AV.t (Tree.bool (cB p11 0 82)), AV.t
  (Tree.bool (cB p11 0 83)), AV.t (Tree.bool (cB p11 0 84)), AV.t (Tree.bool (cB p11 0 85)), AV.t (Tree.bool (cB p11 0 86)), AV.t (Tree.bool (cB p11 0 87)), AV.t (Tree.bool (cB p11 0 88)), AV.t
  (Tree.bool (cB p11 0 89)), AV.t (Tree.bool (cB p11 0 90)), AV.t (Tree.bool (cB p11 0 91)), AV.t (Tree.bool (cB p11 0 92)), AV.t (Tree.bool (cB p11 0 93)), AV.t (Tree.bool (cB p11 0 94)), AV.t
  (Tree.bool (cB p11 0 95)), AV.t (Tree.bool (cB p11 0 96)), AV.t (Tree.bool (cB p11 0 97)), AV.t (Tree.bool (cB p11 0 98)), AV.t (Tree.bool (cB p11 0 99)), AV.t (Tree.bool (cB p11 0 100)), AV.t
  (Tree.bool (cB p11 0 101)), AV.t (Tree.bool (cB p11 0 102)), AV.t (Tree.bool (cB p11 0 103)), AV.t (Tree.bool (cB p11 0 104)), AV.t (Tree.bool (cB p11 0 105)), AV.t (Tree.bool (cB p11 0 106)), AV.t
  (Tree.bool (cB p11 0 107)), AV.t (Tree.bool (cB p11 0 108)), AV.t (Tree.bool (cB p11 0 109)), AV.t (Tree.bool (cB p11 0 110)), AV.t (Tree.bool (cB p11 0 111)), AV.t (Tree.bool (cB p11 0 112)), AV.t
  (Tree.bool (cB p11 0 113)), AV.t (Tree.bool (cB p11 0 114)), AV.t (Tree.bool (cB p11 0 115)), AV.t (Tree.bool (cB p11 0 116)), AV.t (Tree.bool (cB p11 0 117)), AV.t (Tree.bool (cB p11 0 118)), AV.t
  (Tree.bool (cB p11 0 119)), AV.t (Tree.bool (cB p11 0 120)), AV.t (Tree.bool (cB p11 0 121)), AV.t (Tree.bool (cB p11 0 122)), AV.t (Tree.bool (cB p11 0 123)), AV.t (Tree.bool (cB p11 0 124)), AV.t
  (Tree.bool (cB p11 0 125)), AV.t (Tree.bool (cB p11 0 126)), AV.t (Tree.bool (cB p11 0 127)), AV.t (Tree.bool (cB p11 0 128)), AV.t (Tree.bool (cB p11 0 129)), AV.t (Tree.bool (cB p11 0 130)), AV.t
  (Tree.bool (cB p11 0 131)), AV.t (Tree.bool (cB p11 0 132)), AV.t (Tree.bool (cB p11 0 133)), AV.t (Tree.bool (cB p11 0 134)), AV.t (Tree.bool (cB p11 0 135)), AV.t (Tree.bool (cB p11 0 136)), AV.t
  (Tree.bool (cB p11 0 137)), AV.t (Tree.bool (cB p11 0 138)), AV.t (Tree.bool (cB p11 0 139)), AV.t (Tree.bool (cB p11 0 140)), AV.t (Tree.bool (cB p11 0 141)), AV.t (Tree.bool (cB p11 0 142)), AV.t
  (Tree.bool (cB p11 0 143)), AV.t (Tree.bool (cB p11 0 144)), AV.t (Tree.bool (cB p11 0 145)), AV.t (Tree.bool (cB p11 0 146)), AV.t (Tree.bool (cB p11 0 147)), AV.t (Tree.bool (cB p11 0 148)), AV.t
  (Tree.bool (cB p11 0 149)), AV.t (Tree.bool (cB p11 0 150)), AV.t (Tree.bool (cB p11 0 151)), AV.t (Tree.bool (cB p11 0 152)), AV.t (Tree.bool (cB p11 0 153)), AV.t (Tree.bool (cB p11 0 154)), AV.t
  (Tree.bool (cB p11 0 155)), AV.t (Tree.bool (cB p11 0 156)), AV.t (Tree.bool (cB p11 0 157)), AV.t (Tree.bool (cB p11 0 158)), AV.t (Tree.bool (cB p11 0 159)), AV.t (Tree.bool (cB p11 0 160)), AV.t
  (Tree.bool (cB p11 0 161)), AV.t (Tree.bool (cB p11 0 162)), AV.t (Tree.bool (cB p11 0 163)), AV.t (Tree.bool (cB p11 0 164)), AV.t (Tree.bool (cB p11 0 165)), AV.t (Tree.bool (cB p11 0 166)), AV.t
  (Tree.bool (cB p11 0 167)), AV.t (Tree.bool (cB p11 0 168)), AV.t (Tree.bool (cB p11 0 169)), AV.t (Tree.bool (cB p11 0 170)), AV.t (Tree.bool (cB p11 0 171)), AV.t (Tree.bool (cB p11 0 172)), AV.t
  (Tree.bool (cB p11 0 173)), AV.t (Tree.bool (cB p11 0 174)), AV.t (Tree.bool (cB p11 0 175)), AV.t (Tree.bool (cB p11 0 176)), AV.t (Tree.bool (cB p11 0 177)), AV.t (Tree.bool (cB p11 0 178)), AV.t
  (Tree.bool (cB p11 0 179)), AV.t (Tree.bool (cB p11 0 180)), AV.t (Tree.bool (cB p11 0 181)), AV.t (Tree.bool (cB p11 0 182)), AV.t (Tree.bool (cB p11 0 183)), AV.t (Tree.bool (cB p11 0 184)), AV.t
  (Tree.bool (cB p11 0 185)), AV.t (Tree.bool (cB p11 0 186)), AV.t (Tree.bool (cB p11 0 187)), AV.t (Tree.bool (cB p11 0 188)), AV.t (Tree.bool (cB p11 0 189)), AV.t (Tree.bool (cB p11 0 190)), AV.t
  (Tree.bool (cB p11 0 191)), AV.t (Tree.bool (cB p11 0 192)), AV.t (Tree.bool (cB p11 0 193)), AV.t (Tree.bool (cB p11 0 194)), AV.t (Tree.bool (cB p11 0 195)), AV.t (Tree.bool (cB p11 0 196)), AV.t
  (Tree.bool (cB p11 0 197)), AV.t (Tree.bool (cB p11 0 198)), AV.t (Tree.bool (cB p11 0 199)), AV.t (Tree.bool (cB p11 0 200)), AV.t (Tree.bool (cB p11 0 201)), AV.t (Tree.bool (cB p11 0 202)), AV.t
  (Tree.bool (cB p11 0 203)), AV.t (Tree.bool (cB p11 0 204)), AV.t (Tree.bool (cB p11 0 205)), AV.t (Tree.bool (cB p11 0 206)), AV.t (Tree.bool (cB p11 0 207)), AV.t (Tree.bool (cB p11 0 208)), AV.t
  (Tree.bool (cB p11 0 209)), AV.t (Tree.bool (cB p11 0 210)), AV.t (Tree.bool (cB p11 0 211)), AV.t (Tree.bool (cB p11 0 212)), AV.t (Tree.bool (cB p11 0 213)), AV.t (Tree.bool (cB p11 0 214)), AV.t
  (Tree.bool (cB p11 0 215)), AV.t (Tree.bool (cB p11 0 216)), AV.t (Tree.bool (cB p11 0 217)), AV.t (Tree.bool (cB p11 0 218)), AV.t (Tree.bool (cB p11 0 219)), AV.t (Tree.bool (cB p11 0 220)), AV.t
  (Tree.bool (cB p11 0 221)), AV.t (Tree.bool (cB p11 0 222)), AV.t (Tree.bool (cB p11 0 223)), AV.t (Tree.bool (cB p11 0 224)), AV.t (Tree.bool (cB p11 0 225)), AV.t (Tree.bool (cB p11 0 226)), AV.t
  (Tree.bool (cB p11 0 227)), AV.t (Tree.bool (cB p11 0 228)), AV.t (Tree.bool (cB p11 0 229)), AV.t (Tree.bool (cB p11 0 230)), AV.t (Tree.bool (cB p11 0 231)), AV.t (Tree.bool (cB p11 0 232)), AV.t
  (Tree.bool (cB p11 0 233)), AV.t (Tree.bool (cB p11 0 234)), AV.t (Tree.bool (cB p11 0 235)), AV.t (Tree.bool (cB p11 0 236)), AV.t (Tree.bool (cB p11 0 237)), AV.t (Tree.bool (cB p11 0 238)), AV.t
  (Tree.bool (cB p11 0 239)), AV.t (Tree.bool (cB p11 0 240)), AV.t (Tree.bool (cB p11 0 241)), AV.t (Tree.bool (cB p11 0 242)), AV.t (Tree.bool (cB p11 0 243)), AV.t (Tree.bool (cB p11 0 244)), AV.t
  (Tree.bool (cB p11 0 245)), AV.t (Tree.bool (cB p11 0 246)), AV.t (Tree.bool (cB p11 0 247)), AV.t (Tree.bool (cB p11 0 248)), AV.t (Tree.bool (cB p11 0 249)), AV.t (Tree.bool (cB p11 0 250)), AV.t
  (Tree.bool (cB p11 0 251)), AV.t (Tree.bool (cB p11 0 252)), AV.t (Tree.bool (cB p11 0 253)), AV.t (Tree.bool (cB p11 0 254)), AV.t (Tree.bool (cB p11 0 255))]])

noncomputable def L48_3 (n : Nat) (again20 : (List AV × Heap) → Option (List Tree)) (p21 : List AV × Heap) (again22 : (List AV × Heap) → Option (List Tree)) : Option (List Tree) :=
  cnd (decide (((ByteArray.size (vS p21 0):Nat):Int) > (0:Int)) = true) (cnd ((0:Int) ≤ (0:Int) ∧ (0:Int) < ((ByteArray.size (vS p21 0):Nat):Int)) (cnd ((0:Int) ≤ byteAt (vS p21 0) (0:Nat) ∧ byteAt (vS
  p21 0) (0:Nat) < (256:Int)) (cnd ((0:Nat) + ((Int.toNat (byteAt (vS p21 0) (0:Nat))) * (1:Nat)) < (256:Nat)) none none) none) none) (again20 ([AV.t (Tree.str (vS p21 0))], [AObj.box [AV.t (Tree.bool
  (cB p21 0 0)), AV.t (Tree.bool (cB p21 0 1)), AV.t (Tree.bool (cB p21 0 2)), AV.t (Tree.bool (cB p21 0 3)), AV.t (Tree.bool (cB p21 0 4)), AV.t (Tree.bool (cB p21 0 5)), AV.t (Tree.bool (cB p21 0 6)),
  AV.t (Tree.bool (cB p21 0 7)), AV.t (Tree.bool (cB p21 0 8)), AV.t (Tree.bool (cB p21 0 9)), AV.t (Tree.bool (cB p21 0 10)), AV.t (Tree.bool (cB p21 0 11)), AV.t (Tree.bool (cB p21 0 12)), AV.t
  (Tree.bool (cB p21 0 13)), AV.t (Tree.bool (cB p21 0 14)), AV.t (Tree.bool (cB p21 0 15)), AV.t (Tree.bool (cB p21 0 16)), AV.t (Tree.bool (cB p21 0 17)), AV.t (Tree.bool (cB p21 0 18)), AV.t
  (Tree.bool (cB p21 0 19)), AV.t (Tree.bool (cB p21 0 20)), AV.t (Tree.bool (cB p21 0 21)), AV.t (Tree.bool (cB p21 0 22)), AV.t (Tree.bool (cB p21 0 23)), AV.t (Tree.bool (cB p21 0 24)), AV.t
  (Tree.bool (cB p21 0 25)), AV.t (Tree.bool (cB p21 0 26)), AV.t (Tree.bool (cB p21 0 27)), AV.t (Tree.bool (cB p21 0 28)), AV.t (Tree.bool (cB p21 0 29)), AV.t (Tree.bool (cB p21 0 30)), AV.t
  (Tree.bool (cB p21 0 31)), AV.t (Tree.bool (cB p21 0 32)), AV.t (Tree.bool (cB p21 0 33)), AV.t (Tree.bool (cB p21 0 34)), AV.t (Tree.bool (cB p21 0 35)), AV.t (Tree.bool (cB p21 0 36)), AV.t
  (Tree.bool (cB p21 0 37)), AV.t (Tree.bool (cB p21 0 38)), AV.t (Tree.bool (cB p21 0 39)), AV.t (Tree.bool (cB p21 0 40)), AV.t (Tree.bool (cB p21 0 41)), AV.t (Tree.bool (cB p21 0 42)), AV.t
  (Tree.bool (cB p21 0 43)), AV.t (Tree.bool (cB p21 0 44)), AV.t (Tree.bool (cB p21 0 45)), AV.t (Tree.bool (cB p21 0 46)), AV.t (Tree.bool (cB p21 0 47)), AV.t (Tree.bool (cB p21 0 48)), AV.t
  (Tree.bool (cB p21 0 49)), AV.t (Tree.bool (cB p21 0 50)), AV.t (Tree.bool (cB p21 0 51)), AV.t (Tree.bool (cB p21 0 52)), AV.t (Tree.bool (cB p21 0 53)), AV.t (Tree.bool (cB p21 0 54)), AV.t
  (Tree.bool (cB p21 0 55)), AV.t (Tree.bool (cB p21 0 56)), AV.t (Tree.bool (cB p21 0 57)), AV.t (Tree.bool (cB p21 0 58)), AV.t (Tree.bool (cB p21 0 59)), AV.t (Tree.bool (cB p21 0 60)), AV.t
  (Tree.bool (cB p21 0 61)), AV.t (Tree.bool (cB p21 0 62)), AV.t (Tree.bool (cB p21 0 63)), AV.t (Tree.bool (cB p21 0 64)), AV.t (Tree.bool (cB p21 0 65)), AV.t (Tree.bool (cB p21 0 66)), AV.t
  (Tree.bool (cB p21 0 67)), AV.t (Tree.bool (cB p21 0 68)), AV.t (Tree.bool (cB p21 0 69)), AV.t (Tree.bool (cB p21 0 70)), AV.t (Tree.bool (cB p21 0 71)), AV.t (Tree.bool (cB p21 0 72)), AV.t
  (Tree.bool (cB p21 0 73)), AV.t (Tree.bool (cB p21 0 74)), AV.t (Tree.bool (cB p21 0 75)), AV.t (Tree.bool (cB p21 0 76)), AV.t (Tree.bool (cB p21 0 77)), AV.t (Tree.bool (cB p21 0 78)), AV.t
  (Tree.bool (cB p21 0 79)), AV.t (Tree.bool (cB p21 0 80)), AV.t (Tree.bool (cB p21 0 81)), AV.t (Tree.bool (cB p21 0 82)), AV.t (Tree.bool (cB p21 0 83)), AV.t (Tree.bool (cB p21 0 84)), AV.t
  (Tree.bool (cB p21 0 85)), AV.t (Tree.bool (cB p21 0 86)), AV.t (Tree.bool (cB p21 0 87)), AV.t (Tree.bool (cB p21 0 88)), AV.t (Tree.bool (cB p21 0 89)), AV.t (Tree.bool (cB p21 0 90)), AV.t
  (Tree.bool (cB p21 0 91)), AV.t (Tree.bool (cB p21 0 92)), AV.t (Tree.bool (cB p21 0 93)), AV.t (Tree.bool (cB p21 0 94)), AV.t (Tree.bool (cB p21 0 95)), AV.t (Tree.bool (cB p21 0 96)), AV.t
  (Tree.bool (cB p21 0 97)), AV.t (Tree.bool (cB p21 0 98)), AV.t (Tree.bool (cB p21 0 99)), AV.t (Tree.bool (cB p21 0 100)), AV.t (Tree.bool (cB p21 0 101)), AV.t (Tree.bool (cB p21 0 102)), AV.t
  (Tree.bool (cB p21 0 103)), AV.t (Tree.bool (cB p21 0 104)), AV.t (Tree.bool (cB p21 0 105)), AV.t (Tree.bool (cB p21 0 106)), AV.t (Tree.bool (cB p21 0 107)), AV.t (Tree.bool (cB p21 0 108)), AV.t
  (Tree.bool (cB p21 0 109)), AV.t (Tree.bool (cB p21 0 110)), AV.t (Tree.bool (cB p21 0 111)), AV.t (Tree.bool (cB p21 0 112)), AV.t (Tree.bool (cB p21 0 113)), AV.t (Tree.bool (cB p21 0 114)), AV.t
  (Tree.bool (cB p21 0 115)), AV.t (Tree.bool (cB p21 0 116)), AV.t (Tree.bool (cB p21 0 117)), AV.t (Tree.bool (cB p21 0 118)), AV.t (Tree.bool (cB p21 0 119)), AV.t (Tree.bool (cB p21 0 120)), AV.t
  (Tree.bool (cB p21 0 121)), AV.t (Tree.bool (cB p21 0 122)), AV.t (Tree.bool (cB p21 0 123)), AV.t (Tree.bool (cB p21 0 124)), AV.t (Tree.bool (cB p21 0 125)), AV.t (Tree.bool (cB p21 0 126)), AV.t
  (Tree.bool (cB p21 0 127)), AV.t (Tree.bool (cB p21 0 128)), AV.t (Tree.bool (cB p21 0 129)), AV.t (Tree.bool (cB p21 0 130)), AV.t (Tree.bool (cB p21 0 131)), AV.t (Tree.bool (cB p21 0 132)), AV.t
  (Tree.bool (cB p21 0 133)), AV.t (Tree.bool (cB p21 0 134)), AV.t (Tree.bool (cB p21 0 135)), AV.t (Tree.bool (cB p21 0 136)), AV.t (Tree.bool (cB p21 0 137)), AV.t (Tree.bool (cB p21 0 138)), AV.t
  (Tree.bool (cB p21 0 139)), AV.t (Tree.bool (cB p21 0 140)), AV.t (Tree.bool (cB p21 0 141)), AV.t (Tree.bool (cB p21 0 142)), AV.t (Tree.bool (cB p21 0 143)), AV.t (Tree.bool (cB p21 0 144)), AV.t
  (Tree.bool (cB p21 0 145)), AV.t (Tree.bool (cB p21 0 146)), AV.t (Tree.bool (cB p21 0 147)), AV.t (Tree.bool (cB p21 0 148)), AV.t (Tree.bool (cB p21 0 149)), AV.t (Tree.bool (cB p21 0 150)), AV.t
  (Tree.bool (cB p21 0 151)), AV.t (Tree.bool (cB p21 0 152)), AV.t (Tree.bool (cB p21 0 153)), AV.t (Tree.bool (cB p21 0 154)), AV.t (Tree.bool (cB p21 0 155)), AV.t (Tree.bool (cB p21 0 156)), AV.t
  (Tree.bool (cB p21 0 157)), AV.t (Tree.bool (cB p21 0 158)), AV.t (Tree.bool (cB p21 0 159)), AV.t (Tree.bool (cB p21 0 160)), AV.t (Tree.bool (cB p21 0 161)), AV.t (Tree.bool (cB p21 0 162)), AV.t
  (Tree.bool (cB p21 0 163)), AV.t (Tree.bool (cB p21 0 164)), AV.t (Tree.bool (cB p21 0 165)), AV.t (Tree.bool (cB p21 0 166)), AV.t (Tree.bool (cB p21 0 167)), AV.t (Tree.bool (cB p21 0 168)), AV.t
  (Tree.bool (cB p21 0 169)), AV.t (Tree.bool (cB p21 0 170)), AV.t (Tree.bool (cB p21 0 171)), AV.t (Tree.bool (cB p21 0 172)), AV.t (Tree.bool (cB p21 0 173)), AV.t (Tree.bool (cB p21 0 174)), AV.t
  (Tree.bool (cB p21 0 175)), AV.t (Tree.bool (cB p21 0 176)), AV.t (Tree.bool (cB p21 0 177)), AV.t (Tree.bool (cB p21 0 178)), AV.t (Tree.bool (cB p21 0 179)), AV.t (Tree.bool (cB p21 0 180)), AV.t
  (Tree.bool (cB p21 0 181)), AV.t (Tree.bool (cB p21 0 182)), AV.t (Tree.bool (cB p21 0 183)), AV.t (Tree.bool (cB p21 0 184)), AV.t (Tree.bool (cB p21 0 185)), AV.t (Tree.bool (cB p21 0 186)), AV.t
  (Tree.bool (cB p21 0 187)), AV.t (Tree.bool (cB p21 0 188)), AV.t (Tree.bool (cB p21 0 189)), AV.t (Tree.bool (cB p21 0 190)), AV.t (Tree.bool (cB p21 0 191)), AV.t (Tree.bool (cB p21 0 192)), AV.t
  (Tree.bool (cB p21 0 193)), AV.t (Tree.bool (cB p21 0 194)), AV.t (Tree.bool (cB p21 0 195)), AV.t (Tree.bool (cB p21 0 196)), AV.t (Tree.bool (cB p21 0 197)), AV.t (Tree.bool (cB p21 0 198)), AV.t
  (Tree.bool (cB p21 0 199)), AV.t (Tree.bool (cB p21 0 200)), AV.t (Tree.bool (cB p21 0 201)), AV.t (Tree.bool (cB p21 0 202)), AV.t (Tree.bool (cB p21 0 203)), AV.t (Tree.bool (cB p21 0 204)), AV.t
  (Tree.bool (cB p21 0 205)), AV.t (Tree.bool (cB p21 0 206)), AV.t (Tree.bool (cB p21 0 207)), AV.t (Tree.bool (cB p21 0 208)), AV.t (Tree.bool (cB p21 0 209)), AV.t (Tree.bool (cB p21 0 210)), AV.t
  (Tree.bool (cB p21 0 211)), AV.t (Tree.bool (cB p21 0 212)), AV.t (Tree.bool (cB p21 0 213)), AV.t (Tree.bool (cB p21 0 214)), AV.t (Tree.bool (cB p21 0 215)), AV.t (Tree.bool (cB p21 0 216)), AV.t
  (Tree.bool (cB p21 0 217)), AV.t (Tree.bool (cB p21 0 218)), AV.t (Tree.bool (cB p21 0 219)), AV.t (Tree.bool (cB p21 0 220)), AV.t (Tree.bool (cB p21 0 221)), AV.t (Tree.bool (cB p21 0 222)), AV.t
  (Tree.bool (cB p21 0 223)), AV.t (Tree.bool (cB p21 0 224)), AV.t (Tree.bool (cB p21 0 225)), AV.t (Tree.bool (cB p21 0 226)), AV.t (Tree.bool (cB p21 0 227)), AV.t (Tree.bool (cB p21 0 228)), AV.t
  (Tree.bool (cB p21 0 229)), AV.t (Tree.bool (cB p21 0 230)), AV.t (Tree.bool (cB p21 0 231)), AV.t (Tree.bool (cB p21 0 232)), AV.t (Tree.bool (cB p21 0 233)), AV.t (Tree.bool (cB p21 0 234)), AV.t
  (Tree.bool (cB p21 0 235)), AV.t (Tree.bool (cB p21 0 236)), AV.t (Tree.bool (cB p21 0 237)), AV.t (Tree.bool (cB p21 0 238)), AV.t (Tree.bool (cB p21 0 239)), AV.t (Tree.bool (cB p21 0 240)), AV.t
  (Tree.bool (cB p21 0 241)), AV.t (Tree.bool (cB p21 0 242)), AV.t (Tree.bool (cB p21 0 243)), AV.t (Tree.bool (cB p21 0 244)), AV.t (Tree.bool (cB p21 0 245)), AV.t (Tree.bool (cB p21 0 246)), AV.t
  (Tree.bool (cB p21 0 247)), AV.t (Tree.bool (cB p21 0 248)), AV.t (Tree.bool (cB p21 0 249)), AV.t (Tree.bool (cB p21 0 250)), AV.t (Tree.bool (cB p21 0 251)), AV.t (Tree.bool (cB p21 0 252)), AV.t
  (Tree.bool (cB p21 0 253)), AV.t (Tree.bool (cB p21 0 254)), AV.t (Tree.bool (cB p21 0 255))]]))

noncomputable def J48_4 (n : Nat) (again18 : (List AV × Heap) → Option (List Tree)) (p19 : List AV × Heap) : Option (List Tree) :=
  again18 ([AV.t (Tree.str (vS p19 0))], [AObj.box [AV.t (Tree.bool (cB p19 0 0)), AV.t (Tree.bool (cB p19 0 1)), AV.t (Tree.bool (cB p19 0 2)), AV.t (Tree.bool (cB p19 0 3)), AV.t (Tree.bool (cB p19 0
  4)), AV.t (Tree.bool (cB p19 0 5)), AV.t (Tree.bool (cB p19 0 6)), AV.t (Tree.bool (cB p19 0 7)), AV.t (Tree.bool (cB p19 0 8)), AV.t (Tree.bool (cB p19 0 9)), AV.t (Tree.bool (cB p19 0 10)), AV.t
  (Tree.bool (cB p19 0 11)), AV.t (Tree.bool (cB p19 0 12)), AV.t (Tree.bool (cB p19 0 13)), AV.t (Tree.bool (cB p19 0 14)), AV.t (Tree.bool (cB p19 0 15)), AV.t (Tree.bool (cB p19 0 16)), AV.t
  (Tree.bool (cB p19 0 17)), AV.t (Tree.bool (cB p19 0 18)), AV.t (Tree.bool (cB p19 0 19)), AV.t (Tree.bool (cB p19 0 20)), AV.t (Tree.bool (cB p19 0 21)), AV.t (Tree.bool (cB p19 0 22)), AV.t
  (Tree.bool (cB p19 0 23)), AV.t (Tree.bool (cB p19 0 24)), AV.t (Tree.bool (cB p19 0 25)), AV.t (Tree.bool (cB p19 0 26)), AV.t (Tree.bool (cB p19 0 27)), AV.t (Tree.bool (cB p19 0 28)), AV.t
  (Tree.bool (cB p19 0 29)), AV.t (Tree.bool (cB p19 0 30)), AV.t (Tree.bool (cB p19 0 31)), AV.t (Tree.bool (cB p19 0 32)), AV.t (Tree.bool (cB p19 0 33)), AV.t (Tree.bool (cB p19 0 34)), AV.t
  (Tree.bool (cB p19 0 35)), AV.t (Tree.bool (cB p19 0 36)), AV.t (Tree.bool (cB p19 0 37)), AV.t (Tree.bool (cB p19 0 38)), AV.t (Tree.bool (cB p19 0 39)), AV.t (Tree.bool (cB p19 0 40)), AV.t
  (Tree.bool (cB p19 0 41)), AV.t (Tree.bool (cB p19 0 42)), AV.t (Tree.bool (cB p19 0 43)), AV.t (Tree.bool (cB p19 0 44)), AV.t (Tree.bool (cB p19 0 45)), AV.t (Tree.bool (cB p19 0 46)), AV.t
  (Tree.bool (cB p19 0 47)), AV.t (Tree.bool (cB p19 0 48)), AV.t (Tree.bool (cB p19 0 49)), AV.t (Tree.bool (cB p19 0 50)), AV.t (Tree.bool (cB p19 0 51)), AV.t (Tree.bool (cB p19 0 52)), AV.t
  (Tree.bool (cB p19 0 53)), AV.t (Tree.bool (cB p19 0 54)), AV.t (Tree.bool (cB p19 0 55)), AV.t (Tree.bool (cB p19 0 56)), AV.t (Tree.bool (cB p19 0 57)), AV.t (Tree.bool (cB p19 0 58)), AV.t
  (Tree.bool (cB p19 0 59)), AV.t (Tree.bool (cB p19 0 60)), AV.t (Tree.bool (cB p19 0 61)), AV.t (Tree.bool (cB p19 0 62)), AV.t (Tree.bool (cB p19 0 63)), AV.t (Tree.bool (cB p19 0 64)), AV.t
  (Tree.bool (cB p19 0 65)), AV.t (Tree.bool (cB p19 0 66)), AV.t (Tree.bool (cB p19 0 67)), AV.t (Tree.bool (cB p19 0 68)), AV.t (Tree.bool (cB p19 0 69)), AV.t (Tree.bool (cB p19 0 70)), AV.t
  (Tree.bool (cB p19 0 71)), AV.t (Tree.bool (cB p19 0 72)), AV.t (Tree.bool (cB p19 0 73)), AV.t (Tree.bool (cB p19 0 74)), AV.t (Tree.bool (cB p19 0 75)), AV.t (Tree.bool (cB p19 0 76)), AV.t
  (Tree.bool (cB p19 0 77)), AV.t (Tree.bool (cB p19 0 78)), AV.t (Tree.bool (cB p19 0 79)), AV.t (Tree.bool (cB p19 0 80)), AV.t (Tree.bool (cB p19 0 81)), AV.t (Tree.bool (cB p19 0 82)), AV.t
  (Tree.bool (cB p19 0 83)), AV.t (Tree.bool (cB p19 0 84)), AV.t (Tree.bool (cB p19 0 85)), AV.t (Tree.bool (cB p19 0 86)), AV.t (Tree.bool (cB p19 0 87)), AV.t (Tree.bool (cB p19 0 88)), AV.t
  (Tree.bool (cB p19 0 89)), AV.t (Tree.bool (cB p19 0 90)), AV.t (Tree.bool (cB p19 0 91)), AV.t (Tree.bool (cB p19 0 92)), AV.t (Tree.bool (cB p19 0 93)), AV.t (Tree.bool (cB p19 0 94)), AV.t
  (Tree.bool (cB p19 0 95)), AV.t (Tree.bool (cB p19 0 96)), AV.t (Tree.bool (cB p19 0 97)), AV.t (Tree.bool (cB p19 0 98)), AV.t (Tree.bool (cB p19 0 99)), AV.t (Tree.bool (cB p19 0 100)), AV.t
  (Tree.bool (cB p19 0 101)), AV.t (Tree.bool (cB p19 0 102)), AV.t (Tree.bool (cB p19 0 103)), AV.t (Tree.bool (cB p19 0 104)), AV.t (Tree.bool (cB p19 0 105)), AV.t (Tree.bool (cB p19 0 106)), AV.t
  (Tree.bool (cB p19 0 107)), AV.t (Tree.bool (cB p19 0 108)), AV.t (Tree.bool (cB p19 0 109)), AV.t (Tree.bool (cB p19 0 110)), AV.t (Tree.bool (cB p19 0 111)), AV.t (Tree.bool (cB p19 0 112)), AV.t
  (Tree.bool (cB p19 0 113)), AV.t (Tree.bool (cB p19 0 114)), AV.t (Tree.bool (cB p19 0 115)), AV.t (Tree.bool (cB p19 0 116)), AV.t (Tree.bool (cB p19 0 117)), AV.t (Tree.bool (cB p19 0 118)), AV.t
  (Tree.bool (cB p19 0 119)), AV.t (Tree.bool (cB p19 0 120)), AV.t (Tree.bool (cB p19 0 121)), AV.t (Tree.bool (cB p19 0 122)), AV.t (Tree.bool (cB p19 0 123)), AV.t (Tree.bool (cB p19 0 124)), AV.t
  (Tree.bool (cB p19 0 125)), AV.t (Tree.bool (cB p19 0 126)), AV.t (Tree.bool (cB p19 0 127)), AV.t (Tree.bool (cB p19 0 128)), AV.t (Tree.bool (cB p19 0 129)), AV.t (Tree.bool (cB p19 0 130)), AV.t
  (Tree.bool (cB p19 0 131)), AV.t (Tree.bool (cB p19 0 132)), AV.t (Tree.bool (cB p19 0 133)), AV.t (Tree.bool (cB p19 0 134)), AV.t (Tree.bool (cB p19 0 135)), AV.t (Tree.bool (cB p19 0 136)), AV.t
  (Tree.bool (cB p19 0 137)), AV.t (Tree.bool (cB p19 0 138)), AV.t (Tree.bool (cB p19 0 139)), AV.t (Tree.bool (cB p19 0 140)), AV.t (Tree.bool (cB p19 0 141)), AV.t (Tree.bool (cB p19 0 142)), AV.t
  (Tree.bool (cB p19 0 143)), AV.t (Tree.bool (cB p19 0 144)), AV.t (Tree.bool (cB p19 0 145)), AV.t (Tree.bool (cB p19 0 146)), AV.t (Tree.bool (cB p19 0 147)), AV.t (Tree.bool (cB p19 0 148)), AV.t
  (Tree.bool (cB p19 0 149)), AV.t (Tree.bool (cB p19 0 150)), AV.t (Tree.bool (cB p19 0 151)), AV.t (Tree.bool (cB p19 0 152)), AV.t (Tree.bool (cB p19 0 153)), AV.t (Tree.bool (cB p19 0 154)), AV.t
  (Tree.bool (cB p19 0 155)), AV.t (Tree.bool (cB p19 0 156)), AV.t (Tree.bool (cB p19 0 157)), AV.t (Tree.bool (cB p19 0 158)), AV.t (Tree.bool (cB p19 0 159)), AV.t (Tree.bool (cB p19 0 160)), AV.t
  (Tree.bool (cB p19 0 161)), AV.t (Tree.bool (cB p19 0 162)), AV.t (Tree.bool (cB p19 0 163)), AV.t (Tree.bool (cB p19 0 164)), AV.t (Tree.bool (cB p19 0 165)), AV.t (Tree.bool (cB p19 0 166)), AV.t
  (Tree.bool (cB p19 0 167)), AV.t (Tree.bool (cB p19 0 168)), AV.t (Tree.bool (cB p19 0 169)), AV.t (Tree.bool (cB p19 0 170)), AV.t (Tree.bool (cB p19 0 171)), AV.t (Tree.bool (cB p19 0 172)), AV.t
  (Tree.bool (cB p19 0 173)), AV.t (Tree.bool (cB p19 0 174)), AV.t (Tree.bool (cB p19 0 175)), AV.t (Tree.bool (cB p19 0 176)), AV.t (Tree.bool (cB p19 0 177)), AV.t (Tree.bool (cB p19 0 178)), AV.t
  (Tree.bool (cB p19 0 179)), AV.t (Tree.bool (cB p19 0 180)), AV.t (Tree.bool (cB p19 0 181)), AV.t (Tree.bool (cB p19 0 182)), AV.t (Tree.bool (cB p19 0 183)), AV.t (Tree.bool (cB p19 0 184)), AV.t
  (Tree.bool (cB p19 0 185)), AV.t (Tree.bool (cB p19 0 186)), AV.t (Tree.bool (cB p19 0 187)), AV.t (Tree.bool (cB p19 0 188)), AV.t (Tree.bool (cB p19 0 189)), AV.t (Tree.bool (cB p19 0 190)), AV.t
  (Tree.bool (cB p19 0 191)), AV.t (Tree.bool (cB p19 0 192)), AV.t (Tree.bool (cB p19 0 193)), AV.t (Tree.bool (cB p19 0 194)), AV.t (Tree.bool (cB p19 0 195)), AV.t (Tree.bool (cB p19 0 196)), AV.t
  (Tree.bool (cB p19 0 197)), AV.t (Tree.bool (cB p19 0 198)), AV.t (Tree.bool (cB p19 0 199)), AV.t (Tree.bool (cB p19 0 200)), AV.t (Tree.bool (cB p19 0 201)), AV.t (Tree.bool (cB p19 0 202)), AV.t
  (Tree.bool (cB p19 0 203)), AV.t (Tree.bool (cB p19 0 204)), AV.t (Tree.bool (cB p19 0 205)), AV.t (Tree.bool (cB p19 0 206)), AV.t (Tree.bool (cB p19 0 207)), AV.t (Tree.bool (cB p19 0 208)), AV.t
  (Tree.bool (cB p19 0 209)), AV.t (Tree.bool (cB p19 0 210)), AV.t (Tree.bool (cB p19 0 211)), AV.t (Tree.bool (cB p19 0 212)), AV.t (Tree.bool (cB p19 0 213)), AV.t (Tree.bool (cB p19 0 214)), AV.t
  (Tree.bool (cB p19 0 215)), AV.t (Tree.bool (cB p19 0 216)), AV.t (Tree.bool (cB p19 0 217)), AV.t (Tree.bool (cB p19 0 218)), AV.t (Tree.bool (cB p19 0 219)), AV.t (Tree.bool (cB p19 0 220)), AV.t
  (Tree.bool (cB p19 0 221)), AV.t (Tree.bool (cB p19 0 222)), AV.t (Tree.bool (cB p19 0 223)), AV.t (Tree.bool (cB p19 0 224)), AV.t (Tree.bool (cB p19 0 225)), AV.t (Tree.bool (cB p19 0 226)), AV.t
  (Tree.bool (cB p19 0 227)), AV.t (Tree.bool (cB p19 0 228)), AV.t (Tree.bool (cB p19 0 229)), AV.t (Tree.bool (cB p19 0 230)), AV.t (Tree.bool (cB p19 0 231)), AV.t (Tree.bool (cB p19 0 232)), AV.t
  (Tree.bool (cB p19 0 233)), AV.t (Tree.bool (cB p19 0 234)), AV.t (Tree.bool (cB p19 0 235)), AV.t (Tree.bool (cB p19 0 236)), AV.t (Tree.bool (cB p19 0 237)), AV.t (Tree.bool (cB p19 0 238)), AV.t
  (Tree.bool (cB p19 0 239)), AV.t (Tree.bool (cB p19 0 240)), AV.t (Tree.bool (cB p19 0 241)), AV.t (Tree.bool (cB p19 0 242)), AV.t (Tree.bool (cB p19 0 243)), AV.t (Tree.bool (cB p19 0 244)), AV.t
  (Tree.bool (cB p19 0 245)), AV.t (Tree.bool (cB p19 0 246)), AV.t (Tree.bool (cB p19 0 247)), AV.t (Tree.bool (cB p19 0 248)), AV.t (Tree.bool (cB p19 0 249)), AV.t (Tree.bool (cB p19 0 250)), AV.t
  (Tree.bool (cB p19 0 251)), AV.t (Tree.bool (cB p19 0 252)), AV.t (Tree.bool (cB p19 0 253)), AV.t (Tree.bool (cB p19 0 254)), AV.t (Tree.bool (cB p19 0 255))]])

noncomputable def J48_5 (n : Nat)  (p17 : List AV × Heap) : Option (List Tree) :=
  some [Tree.str (vS p17 0)]

noncomputable def J48_6 (n : Nat)  (p9 : List AV × Heap) : Option (List Tree) :=
  join (fun (p17 : List AV × Heap) => J48_5 n p17) fun (again18 : _ → Option (List Tree)) => join (fun (p19 : List AV × Heap) => J48_4 n again18 p19) fun (again20 : _ → Option (List Tree)) => loopIter
  (fun (p21 : List AV × Heap) (again22 : _ → Option (List Tree)) => L48_3 n again20 p21 again22) n ([AV.t (Tree.str (vS p9 0))], [AObj.box [AV.t (Tree.bool (cB p9 0 0)), AV.t (Tree.bool (cB p9 0 1)),
  AV.t (Tree.bool (cB p9 0 2)), AV.t (Tree.bool (cB p9 0 3)), AV.t (Tree.bool (cB p9 0 4)), AV.t (Tree.bool (cB p9 0 5)), AV.t (Tree.bool (cB p9 0 6)), AV.t (Tree.bool (cB p9 0 7)), AV.t (Tree.bool (cB
  p9 0 8)), AV.t (Tree.bool (cB p9 0 9)), AV.t (Tree.bool (cB p9 0 10)), AV.t (Tree.bool (cB p9 0 11)), AV.t (Tree.bool (cB p9 0 12)), AV.t (Tree.bool (cB p9 0 13)), AV.t (Tree.bool (cB p9 0 14)), AV.t
  (Tree.bool (cB p9 0 15)), AV.t (Tree.bool (cB p9 0 16)), AV.t (Tree.bool (cB p9 0 17)), AV.t (Tree.bool (cB p9 0 18)), AV.t (Tree.bool (cB p9 0 19)), AV.t (Tree.bool (cB p9 0 20)), AV.t (Tree.bool (cB
  p9 0 21)), AV.t (Tree.bool (cB p9 0 22)), AV.t (Tree.bool (cB p9 0 23)), AV.t (Tree.bool (cB p9 0 24)), AV.t (Tree.bool (cB p9 0 25)), AV.t (Tree.bool (cB p9 0 26)), AV.t (Tree.bool (cB p9 0 27)),
  AV.t (Tree.bool (cB p9 0 28)), AV.t (Tree.bool (cB p9 0 29)), AV.t (Tree.bool (cB p9 0 30)), AV.t (Tree.bool (cB p9 0 31)), AV.t (Tree.bool (cB p9 0 32)), AV.t (Tree.bool (cB p9 0 33)), AV.t
  (Tree.bool (cB p9 0 34)), AV.t (Tree.bool (cB p9 0 35)), AV.t (Tree.bool (cB p9 0 36)), AV.t (Tree.bool (cB p9 0 37)), AV.t (Tree.bool (cB p9 0 38)), AV.t (Tree.bool (cB p9 0 39)), AV.t (Tree.bool (cB
  p9 0 40)), AV.t (Tree.bool (cB p9 0 41)), AV.t (Tree.bool (cB p9 0 42)), AV.t (Tree.bool (cB p9 0 43)), AV.t (Tree.bool (cB p9 0 44)), AV.t (Tree.bool (cB p9 0 45)), AV.t (Tree.bool (cB p9 0 46)),
  AV.t (Tree.bool (cB p9 0 47)), AV.t (Tree.bool (cB p9 0 48)), AV.t (Tree.bool (cB p9 0 49)), AV.t (Tree.bool (cB p9 0 50)), AV.t (Tree.bool (cB p9 0 51)), AV.t (Tree.bool (cB p9 0 52)), AV.t
  (Tree.bool (cB p9 0 53)), AV.t (Tree.bool (cB p9 0 54)), AV.t (Tree.bool (cB p9 0 55)), AV.t (Tree.bool (cB p9 0 56)), AV.t (Tree.bool (cB p9 0 57)), AV.t (Tree.bool (cB p9 0 58)), AV.t (Tree.bool (cB
  p9 0 59)), AV.t (Tree.bool (cB p9 0 60)), AV.t (Tree.bool (cB p9 0 61)), AV.t (Tree.bool (cB p9 0 62)), AV.t (Tree.bool (cB p9 0 63)), AV.t (Tree.bool (cB p9 0 64)), AV.t (Tree.bool (cB p9 0 65)),
  AV.t (Tree.bool (cB p9 0 66)), AV.t (Tree.bool (cB p9 0 67)), AV.t (Tree.bool (cB p9 0 68)), AV.t (Tree.bool (cB p9 0 69)), AV.t (Tree.bool (cB p9 0 70)), AV.t (Tree.bool (cB p9 0 71)), AV.t
  (Tree.bool (cB p9 0 72)), AV.t (Tree.bool (cB p9 0 73)), AV.t (Tree.bool (cB p9 0 74)), AV.t (Tree.bool (cB p9 0 75)), AV.t (Tree.bool (cB p9 0 76)), AV.t (Tree.bool (cB p9 0 77)), AV.t (Tree.bool (cB
  p9 0 78)), AV.t (Tree.bool (cB p9 0 79)), AV.t (Tree.bool (cB p9 0 80)), AV.t (Tree.bool (cB p9 0 81)), AV.t (Tree.bool (cB p9 0 82)), AV.t (Tree.bool (cB p9 0 83)), AV.t (Tree.bool (cB p9 0 84)),
  AV.t (Tree.bool (cB p9 0 85)), AV.t (Tree.bool (cB p9 0 86)), AV.t (Tree.bool (cB p9 0 87)), AV.t (Tree.bool (cB p9 0 88)), AV.t (Tree.bool (cB p9 0 89)), AV.t (Tree.bool (cB p9 0 90)), AV.t
  (Tree.bool (cB p9 0 91)), AV.t (Tree.bool (cB p9 0 92)), AV.t (Tree.bool (cB p9 0 93)), AV.t (Tree.bool (cB p9 0 94)), AV.t (Tree.bool (cB p9 0 95)), AV.t (Tree.bool (cB p9 0 96)), AV.t (Tree.bool (cB
  p9 0 97)), AV.t (Tree.bool (cB p9 0 98)), AV.t (Tree.bool (cB p9 0 99)), AV.t (Tree.bool (cB p9 0 100)), AV.t (Tree.bool (cB p9 0 101)), AV.t (Tree.bool (cB p9 0 102)), AV.t (Tree.bool (cB p9 0 103)),
  AV.t (Tree.bool (cB p9 0 104)), AV.t (Tree.bool (cB p9 0 105)), AV.t (Tree.bool (cB p9 0 106)), AV.t (Tree.bool (cB p9 0 107)), AV.t (Tree.bool (cB p9 0 108)), AV.t (Tree.bool (cB p9 0 109)), AV.t
  (Tree.bool (cB p9 0 110)), AV.t (Tree.bool (cB p9 0 111)), AV.t (Tree.bool (cB p9 0 112)), AV.t (Tree.bool (cB p9 0 113)), AV.t (Tree.bool (cB p9 0 114)), AV.t (Tree.bool (cB p9 0 115)), AV.t
  (Tree.bool (cB p9 0 116)), AV.t (Tree.bool (cB p9 0 117)), AV.t (Tree.bool (cB p9 0 118)), AV.t (Tree.bool (cB p9 0 119)), AV.t (Tree.bool (cB p9 0 120)), AV.t (Tree.bool (cB p9 0 121)), AV.t
  (Tree.bool (cB p9 0 122)), AV.t (Tree.bool (cB p9 0 123)), AV.t (Tree.bool (cB p9 0 124)), AV.t (Tree.bool (cB p9 0 125)), AV.t (Tree.bool (cB p9 0 126)), AV.t (Tree.bool (cB p9 0 127)), AV.t
  (Tree.bool (cB p9 0 128)), AV.t (Tree.bool (cB p9 0 129)), AV.t (Tree.bool (cB p9 0 130)), AV.t (Tree.bool (cB p9 0 131)), AV.t (Tree.bool (cB p9 0 132)), AV.t (Tree.bool (cB p9 0 133)), AV.t
  (Tree.bool (cB p9 0 134)), AV.t (Tree.bool (cB p9 0 135)), AV.t (Tree.bool (cB p9 0 136)), AV.t (Tree.bool (cB p9 0 137)), AV.t (Tree.bool (cB p9 0 138)), AV.t (Tree.bool (cB p9 0 139)), AV.t
  (Tree.bool (cB p9 0 140)), AV.t (Tree.bool (cB p9 0 141)), AV.t (Tree.bool (cB p9 0 142)), AV.t (Tree.bool (cB p9 0 143)), AV.t (Tree.bool (cB p9 0 144)), AV.t (Tree.bool (cB p9 0 145)), AV.t
  (Tree.bool (cB p9 0 146)), AV.t (Tree.bool (cB p9 0 147)), AV.t (Tree.bool (cB p9 0 148)), AV.t (Tree.bool (cB p9 0 149)), AV.t (Tree.bool (cB p9 0 150)), AV.t (Tree.bool (cB p9 0 151)), AV.t
  (Tree.bool (cB p9 0 152)), AV.t (Tree.bool (cB p9 0 153)), AV.t (Tree.bool (cB p9 0 154)), AV.t (Tree.bool (cB p9 0 155)), AV.t (Tree.bool (cB p9 0 156)), AV.t (Tree.bool (cB p9 0 157)), AV.t
  (Tree.bool (cB p9 0 158)), AV.t (Tree.bool (cB p9 0 159)), AV.t (Tree.bool (cB p9 0 160)), AV.t (Tree.bool (cB p9 0 161)), AV.t (Tree.bool (cB p9 0 162)), AV.t (Tree.bool (cB p9 0 163)), AV.t
  (Tree.bool (cB p9 0 164)), AV.t (Tree.bool (cB p9 0 165)), AV.t (Tree.bool (cB p9 0 166)), AV.t (Tree.bool (cB p9 0 167)), AV.t (Tree.bool (cB p9 0 168)), AV.t (Tree.bool (cB p9 0 169)), AV.t
  (Tree.bool (cB p9 0 170)), AV.t (Tree.bool (cB p9 0 171)), AV.t (Tree.bool (cB p9 0 172)), AV.t (Tree.bool (cB p9 0 173)), AV.t (Tree.bool (cB p9 0 174)), AV.t (Tree.bool (cB p9 0 175)), AV.t
  (Tree.bool (cB p9 0 176)), AV.t (Tree.bool (cB p9 0 177)), AV.t (Tree.bool (cB p9 0 178)), AV.t (Tree.bool (cB p9 0 179)), AV.t (Tree.bool (cB p9 0 180)), AV.t (Tree.bool (cB p9 0 181)), AV.t
  (Tree.bool (cB p9 0 182)), AV.t (Tree.bool (cB p9 0 183)), AV.t (Tree.bool (cB p9 0 184)), AV.t (Tree.bool (cB p9 0 185)), AV.t (Tree.bool (cB p9 0 186)), AV.t (Tree.bool (cB p9 0 187)), AV.t
  (Tree.bool (cB p9 0 188)), AV.t (Tree.bool (cB p9 0 189)), AV.t (Tree.bool (cB p9 0 190)), AV.t (Tree.bool (cB p9 0 191)), AV.t (Tree.bool (cB p9 0 192)), AV.t (Tree.bool (cB p9 0 193)), AV.t
  (Tree.bool (cB p9 0 194)), AV.t (Tree.bool (cB p9 0 195)), AV.t (Tree.bool (cB p9 0 196)), AV.t (Tree.bool (cB p9 0 197)), AV.t (Tree.bool (cB p9 0 198)), AV.t (Tree.bool (cB p9 0 199)), AV.t
  (Tree.bool (cB p9 0 200)), AV.t (Tree.bool (cB p9 0 201)), AV.t (Tree.bool (cB p9 0 202)), AV.t (Tree.bool (cB p9 0 203)), AV.t (Tree.bool (cB p9 0 204)), AV.t (Tree.bool (cB p9 0 205)), AV.t
  (Tree.bool (cB p9 0 206)), AV.t (Tree.bool (cB p9 0 207)), AV.t (Tree.bool (cB p9 0 208)), AV.t (Tree.bool (cB p9 0 209)), AV.t (Tree.bool (cB p9 0 210)), AV.t (Tree.bool (cB p9 0 211)), AV.t
  (Tree.bool (cB p9 0 212)), AV.t (Tree.bool (cB p9 0 213)), AV.t (Tree.bool (cB p9 0 214)), AV.t (Tree.bool (cB p9 0 215)), AV.t (Tree.bool (cB p9 0 216)), AV.t (Tree.bool (cB p9 0 217)), AV.t
  (Tree.bool (cB p9 0 218)), AV.t (Tree.bool (cB p9 0 219)), AV.t (Tree.bool (cB p9 0 220)), AV.t (Tree.bool (cB p9 0 221)), AV.t (Tree.bool (cB p9 0 222)), AV.t (Tree.bool (cB p9 0 223)), AV.t
  (Tree.bool (cB p9 0 224)), AV.t (Tree.bool (cB p9 0 225)), AV.t (Tree.bool (cB p9 0 226)), AV.t (Tree.bool (cB p9 0 227)), AV.t (Tree.bool (cB p9 0 228)), AV.t (Tree.bool (cB p9 0 229)), AV.t
  (Tree.bool (cB p9 0 230)), AV.t (Tree.bool (cB p9 0 231)), AV.t (Tree.bool (cB p9 0 232)), AV.t (Tree.bool (cB p9 0 233)), AV.t (Tree.bool (cB p9 0 234)), AV.t (Tree.bool (cB p9 0 235)), AV.t
  (Tree.bool (cB p9 0 236)), AV.t (Tree.bool (cB p9 0 237)), AV.t (Tree.bool (cB p9 0 238)), AV.t (Tree.bool (cB p9 0 239)), AV.t (Tree.bool (cB p9 0 240)), AV.t (Tree.bool (cB p9 0 241)), AV.t
  (Tree.bool (cB p9 0 242)), AV.t (Tree.bool (cB p9 0 243)), AV.t (Tree.bool (cB p9 0 244)), AV.t (Tree.bool (cB p9 0 245)), AV.t (Tree.bool (cB p9 0 246)), AV.t (Tree.bool (cB p9 0 247)), AV.t
  (Tree.bool (cB p9 0 248)), AV.t (Tree.bool (cB p9 0 249)), AV.t (Tree.bool (cB p9 0 250)), AV.t (Tree.bool (cB p9 0 251)), AV.t (Tree.bool (cB p9 0 252)), AV.t (Tree.bool (cB p9 0 253)), AV.t
  (Tree.bool (cB p9 0 254)), AV.t (Tree.bool (cB p9 0 255))]])

noncomputable def J48_7 (n : Nat) (a0 : ByteArray) (p2 : List AV × Heap) : Option (List Tree) :=
  cnd (vB p2 0 = true) (some [Tree.str a0]) (cnd (decide (byteAt (ByteArray.mk #[0]) (0:Nat) < (128:Int)) = true) (Option.bind (apure C n (72:Nat) [Tree.str a0, Tree.int IntKind.u8 (byteAt (ByteArray.mk
  #[0]) (0:Nat))]) fun y6 => cnd (List.length y6 = (1:Nat)) (cnd (okS y6 0) (Option.bind (apure C n (71:Nat) [Tree.str (gS y6 0), Tree.int IntKind.u8 (byteAt (ByteArray.mk #[0]) (0:Nat))]) fun y7 => cnd
  (List.length y7 = (1:Nat)) (cnd (okS y7 0) (some [Tree.str (gS y7 0)]) none) none) none) none) (Option.bind (apure C n (73:Nat) [Tree.str (ByteArray.mk #[0])]) fun y8 => cnd (List.length y8 =
  (257:Nat)) (cnd (okB y8 0) (cnd (okB y8 1) (cnd (okB y8 2) (cnd (okB y8 3) (cnd (okB y8 4) (cnd (okB y8 5) (cnd (okB y8 6) (cnd (okB y8 7) (cnd (okB y8 8) (cnd (okB y8 9) (cnd (okB y8 10) (cnd (okB y8
  11) (cnd (okB y8 12) (cnd (okB y8 13) (cnd (okB y8 14) (cnd (okB y8 15) (cnd (okB y8 16) (cnd (okB y8 17) (cnd (okB y8 18) (cnd (okB y8 19) (cnd (okB y8 20) (cnd (okB y8 21) (cnd (okB y8 22) (cnd (okB
  y8 23) (cnd (okB y8 24) (cnd (okB y8 25) (cnd (okB y8 26) (cnd (okB y8 27) (cnd (okB y8 28) (cnd (okB y8 29) (cnd (okB y8 30) (cnd (okB y8 31) (cnd (okB y8 32) (cnd (okB y8 33) (cnd (okB y8 34) (cnd
  (okB y8 35) (cnd (okB y8 36) (cnd (okB y8 37) (cnd (okB y8 38) (cnd (okB y8 39) (cnd (okB y8 40) (cnd (okB y8 41) (cnd (okB y8 42) (cnd (okB y8 43) (cnd (okB y8 44) (cnd (okB y8 45) (cnd (okB y8 46)
  (cnd (okB y8 47) (cnd (okB y8 48) (cnd (okB y8 49) (cnd (okB y8 50) (cnd (okB y8 51) (cnd (okB y8 52) (cnd (okB y8 53) (cnd (okB y8 54) (cnd (okB y8 55) (cnd (okB y8 56) (cnd (okB y8 57) (cnd (okB y8
  58) (cnd (okB y8 59) (cnd (okB y8 60) (cnd (okB y8 61) (cnd (okB y8 62) (cnd (okB y8 63) (cnd (okB y8 64) (cnd (okB y8 65) (cnd (okB y8 66) (cnd (okB y8 67) (cnd (okB y8 68) (cnd (okB y8 69) (cnd (okB
  y8 70) (cnd (okB y8 71) (cnd (okB y8 72) (cnd (okB y8 73) (cnd (okB y8 74) (cnd (okB y8 75) (cnd (okB y8 76) (cnd (okB y8 77) (cnd (okB y8 78) (cnd (okB y8 79) (cnd (okB y8 80) (cnd (okB y8 81) (cnd
  (okB y8 82) (cnd (okB y8 83) (cnd (okB y8 84) (cnd (okB y8 85) (cnd (okB y8 86) (cnd (okB y8 87) (cnd (okB y8 88) (cnd (okB y8 89) (cnd (okB y8 90) (cnd (okB y8 91) (cnd (okB y8 92) (cnd (okB y8 93)
  (cnd (okB y8 94) (cnd (okB y8 95) (cnd (okB y8 96) (cnd (okB y8 97) (cnd (okB y8 98) (cnd (okB y8 99) (cnd (okB y8 100) (cnd (okB y8 101) (cnd (okB y8 102) (cnd (okB y8 103) (cnd (okB y8 104) (cnd
  (okB y8 105) (cnd (okB y8 106) (cnd (okB y8 107) (cnd (okB y8 108) (cnd (okB y8 109) (cnd (okB y8 110) (cnd (okB y8 111) (cnd (okB y8 112) (cnd (okB y8 113) (cnd (okB y8 114) (cnd (okB y8 115) (cnd
  (okB y8 116) (cnd (okB y8 117) (cnd (okB y8 118) (cnd (okB y8 119) (cnd (okB y8 120) (cnd (okB y8 121) (cnd (okB y8 122) (cnd (okB y8 123) (cnd (okB y8 124) (cnd (okB y8 125) (cnd (okB y8 126) (cnd
  (okB y8 127) (cnd (okB y8 128) (cnd (okB y8 129) (cnd (okB y8 130) (cnd (okB y8 131) (cnd (okB y8 132) (cnd (okB y8 133) (cnd (okB y8 134) (cnd (okB y8 135) (cnd (okB y8 136) (cnd (okB y8 137) (cnd
  (okB y8 138) (cnd (okB y8 139) (cnd (okB y8 140) (cnd (okB y8 141) (cnd (okB y8 142) (cnd (okB y8 143) (cnd (okB y8 144) (cnd (okB y8 145) (cnd (okB y8 146) (cnd (okB y8 147) (cnd (okB y8 148) (cnd
  (okB y8 149) (cnd (okB y8 150) (cnd (okB y8 151) (cnd (okB y8 152) (cnd (okB y8 153) (cnd (okB y8 154) (cnd (okB y8 155) (cnd (okB y8 156) (cnd (okB y8 157) (cnd (okB y8 158) (cnd (okB y8 159) (cnd
  (okB y8 160) (cnd (okB y8 161) (cnd (okB y8 162) (cnd (okB y8 163) (cnd (okB y8 164) (cnd (okB y8 165) (cnd (okB y8 166) (cnd (okB y8 167) (cnd (okB y8 168) (cnd (okB y8 169) (cnd (okB y8 170) (cnd
  (okB y8 171) (cnd (okB y8 172) (cnd (okB y8 173) (cnd (okB y8 174) (cnd (okB y8 175) (cnd (okB y8 176) (cnd (okB y8 177) (cnd (okB y8 178) (cnd (okB y8 179) (cnd (okB y8 180) (cnd (okB y8 181) (cnd
  (okB y8 182) (cnd (okB y8 183) (cnd (okB y8 184) (cnd (okB y8 185) (cnd (okB y8 186) (cnd (okB y8 187) (cnd (okB y8 188) (cnd (okB y8 189) (cnd (okB y8 190) (cnd (okB y8 191) (cnd (okB y8 192) (cnd
  (okB y8 193) (cnd (okB y8 194) (cnd (okB y8 195) (cnd (okB y8 196) (cnd (okB y8 197) (cnd (okB y8 198) (cnd (okB y8 199) (cnd (okB y8 200) (cnd (okB y8 201) (cnd (okB y8 202) (cnd (okB y8 203) (cnd
  (okB y8 204) (cnd (okB y8 205) (cnd (okB y8 206) (cnd (okB y8 207) (cnd (okB y8 208) (cnd (okB y8 209) (cnd (okB y8 210) (cnd (okB y8 211) (cnd (okB y8 212) (cnd (okB y8 213) (cnd (okB y8 214) (cnd
  (okB y8 215) (cnd (okB y8 216) (cnd (okB y8 217) (cnd (okB y8 218) (cnd (okB y8 219) (cnd (okB y8 220) (cnd (okB y8 221) (cnd (okB y8 222) (cnd (okB y8 223) (cnd (okB y8 224) (cnd (okB y8 225) (cnd
  (okB y8 226) (cnd (okB y8 227) (cnd (okB y8 228) (cnd (okB y8 229) (cnd (okB y8 230) (cnd (okB y8 231) (cnd (okB y8 232) (cnd (okB y8 233) (cnd (okB y8 234) (cnd (okB y8 235) (cnd (okB y8 236) (cnd
  (okB y8 237) (cnd (okB y8 238) (cnd (okB y8 239) (cnd (okB y8 240) (cnd (okB y8 241) (cnd (okB y8 242) (cnd (okB y8 243) (cnd (okB y8 244) (cnd (okB y8 245) (cnd (okB y8 246) (cnd (okB y8 247) (cnd
  (okB y8 248) (cnd (okB y8 249) (cnd (okB y8 250) (cnd (okB y8 251) (cnd (okB y8 252) (cnd (okB y8 253) (cnd (okB y8 254) (cnd (okB y8 255) (cnd (okB y8 256) (cnd (gB y8 256 = true) (join (fun (p9 :
  List AV × Heap) => J48_6 n p9) fun (again10 : _ → Option (List Tree)) => join (fun (p11 : List AV × Heap) => J48_2 n again10 p11) fun (again12 : _ → Option (List Tree)) => loopIter (fun (p13 : List AV
  × Heap) (again14 : _ → Option (List Tree)) => L48_1 n again12 p13 again14) n ([AV.t (Tree.str a0)], [AObj.box [AV.t (Tree.bool (gB y8 0)), AV.t (Tree.bool (gB y8 1)), AV.t (Tree.bool (gB y8 2)), AV.t
  (Tree.bool (gB y8 3)), AV.t (Tree.bool (gB y8 4)), AV.t (Tree.bool (gB y8 5)), AV.t (Tree.bool (gB y8 6)), AV.t (Tree.bool (gB y8 7)), AV.t (Tree.bool (gB y8 8)), AV.t (Tree.bool (gB y8 9)), AV.t
  (Tree.bool (gB y8 10)), AV.t (Tree.bool (gB y8 11)), AV.t (Tree.bool (gB y8 12)), AV.t (Tree.bool (gB y8 13)), AV.t (Tree.bool (gB y8 14)), AV.t (Tree.bool (gB y8 15)), AV.t (Tree.bool (gB y8 16)),
  AV.t (Tree.bool (gB y8 17)), AV.t (Tree.bool (gB y8 18)), AV.t (Tree.bool (gB y8 19)), AV.t (Tree.bool (gB y8 20)), AV.t (Tree.bool (gB y8 21)), AV.t (Tree.bool (gB y8 22)), AV.t (Tree.bool (gB y8
  23)), AV.t (Tree.bool (gB y8 24)), AV.t (Tree.bool (gB y8 25)), AV.t (Tree.bool (gB y8 26)), AV.t (Tree.bool (gB y8 27)), AV.t (Tree.bool (gB y8 28)), AV.t (Tree.bool (gB y8 29)), AV.t (Tree.bool (gB
  y8 30)), AV.t (Tree.bool (gB y8 31)), AV.t (Tree.bool (gB y8 32)), AV.t (Tree.bool (gB y8 33)), AV.t (Tree.bool (gB y8 34)), AV.t (Tree.bool (gB y8 35)), AV.t (Tree.bool (gB y8 36)), AV.t (Tree.bool
  (gB y8 37)), AV.t (Tree.bool (gB y8 38)), AV.t (Tree.bool (gB y8 39)), AV.t (Tree.bool (gB y8 40)), AV.t (Tree.bool (gB y8 41)), AV.t (Tree.bool (gB y8 42)), AV.t (Tree.bool (gB y8 43)), AV.t
  (Tree.bool (gB y8 44)), AV.t (Tree.bool (gB y8 45)), AV.t (Tree.bool (gB y8 46)), AV.t (Tree.bool (gB y8 47)), AV.t (Tree.bool (gB y8 48)), AV.t (Tree.bool (gB y8 49)), AV.t (Tree.bool (gB y8 50)),
  AV.t (Tree.bool (gB y8 51)), AV.t (Tree.bool (gB y8 52)), AV.t (Tree.bool (gB y8 53)), AV.t (Tree.bool (gB y8 54)), AV.t (Tree.bool (gB y8 55)), AV.t (Tree.bool (gB y8 56)), AV.t (Tree.bool (gB y8
  57)), AV.t (Tree.bool (gB y8 58)), AV.t (Tree.bool (gB y8 59)), AV.t (Tree.bool (gB y8 60)), AV.t (Tree.bool (gB y8 61)), AV.t (Tree.bool (gB y8 62)), AV.t (Tree.bool (gB y8 63)), AV.t (Tree.bool (gB
  y8 64)), AV.t (Tree.bool (gB y8 65)), AV.t (Tree.bool (gB y8 66)), AV.t (Tree.bool (gB y8 67)), AV.t (Tree.bool (gB y8 68)), AV.t (Tree.bool (gB y8 69)), AV.t (Tree.bool (gB y8 70)), AV.t (Tree.bool
  (gB y8 71)), AV.t (Tree.bool (gB y8 72)), AV.t (Tree.bool (gB y8 73)), AV.t (Tree.bool (gB y8 74)), AV.t (Tree.bool (gB y8 75)), AV.t (Tree.bool (gB y8 76)), AV.t (Tree.bool (gB y8 77)), AV.t
  (Tree.bool (gB y8 78)), AV.t (Tree.bool (gB y8 79)), AV.t (Tree.bool (gB y8 80)), AV.t (Tree.bool (gB y8 81)), AV.t (Tree.bool (gB y8 82)), AV.t (Tree.bool (gB y8 83)), AV.t (Tree.bool (gB y8 84)),
  AV.t (Tree.bool (gB y8 85)), AV.t (Tree.bool (gB y8 86)), AV.t (Tree.bool (gB y8 87)), AV.t (Tree.bool (gB y8 88)), AV.t (Tree.bool (gB y8 89)), AV.t (Tree.bool (gB y8 90)), AV.t (Tree.bool (gB y8
  91)), AV.t (Tree.bool (gB y8 92)), AV.t (Tree.bool (gB y8 93)), AV.t (Tree.bool (gB y8 94)), AV.t (Tree.bool (gB y8 95)), AV.t (Tree.bool (gB y8 96)), AV.t (Tree.bool (gB y8 97)), AV.t (Tree.bool (gB
  y8 98)), AV.t (Tree.bool (gB y8 99)), AV.t (Tree.bool (gB y8 100)), AV.t (Tree.bool (gB y8 101)), AV.t (Tree.bool (gB y8 102)), AV.t (Tree.bool (gB y8 103)), AV.t (Tree.bool (gB y8 104)), AV.t
  (Tree.bool (gB y8 105)), AV.t (Tree.bool (gB y8 106)), AV.t (Tree.bool (gB y8 107)), AV.t (Tree.bool (gB y8 108)), AV.t (Tree.bool (gB y8 109)), AV.t (Tree.bool (gB y8 110)), AV.t (Tree.bool (gB y8
  111)), AV.t (Tree.bool (gB y8 112)), AV.t (Tree.bool (gB y8 113)), AV.t (Tree.bool (gB y8 114)), AV.t (Tree.bool (gB y8 115)), AV.t (Tree.bool (gB y8 116)), AV.t (Tree.bool (gB y8 117)), AV.t
  (Tree.bool (gB y8 118)), AV.t (Tree.bool (gB y8 119)), AV.t (Tree.bool (gB y8 120)), AV.t (Tree.bool (gB y8 121)), AV.t (Tree.bool (gB y8 122)), AV.t (Tree.bool (gB y8 123)), AV.t (Tree.bool (gB y8
  124)), AV.t (Tree.bool (gB y8 125)), AV.t (Tree.bool (gB y8 126)), AV.t (Tree.bool (gB y8 127)), AV.t (Tree.bool (gB y8 128)), AV.t (Tree.bool (gB y8 129)), AV.t (Tree.bool (gB y8 130)), AV.t
  (Tree.bool (gB y8 131)), AV.t (Tree.bool (gB y8 132)), AV.t (Tree.bool (gB y8 133)), AV.t (Tree.bool (gB y8 134)), AV.t (Tree.bool (gB y8 135)), AV.t (Tree.bool (gB y8 136)), AV.t (Tree.bool (gB y8
  137)), AV.t (Tree.bool (gB y8 138)), AV.t (Tree.bool (gB y8 139)), AV.t (Tree.bool (gB y8 140)), AV.t (Tree.bool (gB y8 141)), AV.t (Tree.bool (gB y8 142)), AV.t (Tree.bool (gB y8 143)), AV.t
  (Tree.bool (gB y8 144)), AV.t (Tree.bool (gB y8 145)), AV.t (Tree.bool (gB y8 146)), AV.t (Tree.bool (gB y8 147)), AV.t (Tree.bool (gB y8 148)), AV.t (Tree.bool (gB y8 149)), AV.t (Tree.bool (gB y8
  150)), AV.t (Tree.bool (gB y8 151)), AV.t (Tree.bool (gB y8 152)), AV.t (Tree.bool (gB y8 153)), AV.t (Tree.bool (gB y8 154)), AV.t (Tree.bool (gB y8 155)), AV.t (Tree.bool (gB y8 156)), AV.t
  (Tree.bool (gB y8 157)), AV.t (Tree.bool (gB y8 158)), AV.t (Tree.bool (gB y8 159)), AV.t (Tree.bool (gB y8 160)), AV.t (Tree.bool (gB y8 161)), AV.t (Tree.bool (gB y8 162)), AV.t (Tree.bool (gB y8
  163)), AV.t (Tree.bool (gB y8 164)), AV.t (Tree.bool (gB y8 165)), AV.t (Tree.bool (gB y8 166)), AV.t (Tree.bool (gB y8 167)), AV.t (Tree.bool (gB y8 168)), AV.t (Tree.bool (gB y8 169)), AV.t
  (Tree.bool (gB y8 170)), AV.t (Tree.bool (gB y8 171)), AV.t (Tree.bool (gB y8 172)), AV.t (Tree.bool (gB y8 173)), AV.t (Tree.bool (gB y8 174)), AV.t (Tree.bool (gB y8 175)), AV.t (Tree.bool (gB y8
  176)), AV.t (Tree.bool (gB y8 177)), AV.t (Tree.bool (gB y8 178)), AV.t (Tree.bool (gB y8 179)), AV.t (Tree.bool (gB y8 180)), AV.t (Tree.bool (gB y8 181)), AV.t (Tree.bool (gB y8 182)), AV.t
  (Tree.bool (gB y8 183)), AV.t (Tree.bool (gB y8 184)), AV.t (Tree.bool (gB y8 185)), AV.t (Tree.bool (gB y8 186)), AV.t (Tree.bool (gB y8 187)), AV.t (Tree.bool (gB y8 188)), AV.t (Tree.bool (gB y8
  189)), AV.t (Tree.bool (gB y8 190)), AV.t (Tree.bool (gB y8 191)), AV.t (Tree.bool (gB y8 192)), AV.t (Tree.bool (gB y8 193)), AV.t (Tree.bool (gB y8 194)), AV.t (Tree.bool (gB y8 195)), AV.t
  (Tree.bool (gB y8 196)), AV.t (Tree.bool (gB y8 197)), AV.t (Tree.bool (gB y8 198)), AV.t (Tree.bool (gB y8 199)), AV.t (Tree.bool (gB y8 200)), AV.t (Tree.bool (gB y8 201)), AV.t (Tree.bool (gB y8
  202)), AV.t (Tree.bool (gB y8 203)), AV.t (Tree.bool (gB y8 204)), AV.t (Tree.bool (gB y8 205)), AV.t (Tree.bool (gB y8 206)), AV.t (Tree.bool (gB y8 207)), AV.t (Tree.bool (gB y8 208)), AV.t
  (Tree.bool (gB y8 209)), AV.t (Tree.bool (gB y8 210)), AV.t (Tree.bool (gB y8 211)), AV.t (Tree.bool (gB y8 212)), AV.t (Tree.bool (gB y8 213)), AV.t (Tree.bool (gB y8 214)), AV.t (Tree.bool (gB y8
  215)), AV.t (Tree.bool (gB y8 216)), AV.t (Tree.bool (gB y8 217)), AV.t (Tree.bool (gB y8 218)), AV.t (Tree.bool (gB y8 219)), AV.t (Tree.bool (gB y8 220)), AV.t (Tree.bool (gB y8 221)), AV.t
  (Tree.bool (gB y8 222)), AV.t (Tree.bool (gB y8 223)), AV.t (Tree.bool (gB y8 224)), AV.t (Tree.bool (gB y8 225)), AV.t (Tree.bool (gB y8 226)), AV.t (Tree.bool (gB y8 227)), AV.t (Tree.bool (gB y8
  228)), AV.t (Tree.bool (gB y8 229)), AV.t (Tree.bool (gB y8 230)), AV.t (Tree.bool (gB y8 231)), AV.t (Tree.bool (gB y8 232)), AV.t (Tree.bool (gB y8 233)), AV.t (Tree.bool (gB y8 234)), AV.t
  (Tree.bool (gB y8 235)), AV.t (Tree.bool (gB y8 236)), AV.t (Tree.bool (gB y8 237)), AV.t (Tree.bool (gB y8 238)), AV.t (Tree.bool (gB y8 239)), AV.t (Tree.bool (gB y8 240)), AV.t (Tree.bool (gB y8
  241)), AV.t (Tree.bool (gB y8 242)), AV.t (Tree.bool (gB y8 243)), AV.t (Tree.bool (gB y8 244)), AV.t (Tree.bool (gB y8 245)), AV.t (Tree.bool (gB y8 246)), AV.t (Tree.bool (gB y8 247)), AV.t
  (Tree.bool (gB y8 248)), AV.t (Tree.bool (gB y8 249)), AV.t (Tree.bool (gB y8 250)), AV.t (Tree.bool (gB y8 251)), AV.t (Tree.bool (gB y8 252)), AV.t (Tree.bool (gB y8 253)), AV.t (Tree.bool (gB y8
  254)), AV.t (Tree.bool (gB y8 255))]])) (Option.bind (apure C n (77:Nat) [Tree.str a0, Tree.str (ByteArray.mk #[0])]) fun y25 => cnd (List.length y25 = (1:Nat)) (cnd (okS y25 0) (Option.bind (apure C
  n (76:Nat) [Tree.str (gS y25 0), Tree.str (ByteArray.mk #[0])]) fun y26 => cnd (List.length y26 = (1:Nat)) (cnd (okS y26 0) (some [Tree.str (gS y26 0)]) none) none) none) none)) none) none) none)
  none) none) none) none) none) none) none) none) none) none) none) none) none) none) none) none) none) none) none) none) none) none) none) none) none) none) none) none) none) none) none) none) none)
  none) none) none) none) none) none) none) none) none) none) none) none) none) none) none) none) none) none) none) none) none) none) none) none) none) none) none) none) none) none) none) none) none)
  none) none) none) none) none) none) none) none) none) none) none) none) none) none) none) none) none) none) none) none) none) none) none) none) none) none) none) none) none) none) none) none) none)
  none) none) none) none) none) none) none) none) none) none) none) none) none) none) none) none) none) none) none) none) none) none) none) none) none) none) none) none) none) none) none) none) none)
  none) none) none) none) none) none) none) none) none) none) none) none) none) none) none) none) none) none) none) none) none) none) none) none) none) none) none) none) none) none) none) none) none)
  none) none) none) none) none) none) none) none) none) none) none) none) none) none) none) none) none) none) none) none) none) none) none) none) none) none) none) none) none) none) none) none) none)
  none) none) none) none) none) none) none) none) none) none) none) none) none) none) none) none) none) none) none) none) none) none) none) none) none) none) none) none) none) none) none) none) none)
  none) none) none) none) none) none) none) none) none) none) none) none) none) none) none) none) none) none) none) none) none) none) none) none))
theorem e48 (n : Nat) (a0 : ByteArray) : apure C (n + 1) 48 [Tree.str a0, Tree.str (ByteArray.mk #[0])] =
  join (fun (p2 : List AV × Heap) => J48_7 n a0 p2) fun (again3 : _ → Option (List Tree)) => cnd ((a0 == (ByteArray.mk #[])) = true) (again3 ([AV.t (Tree.bool true)], [])) (again3 ([AV.t (Tree.bool
  ((ByteArray.mk #[0]) == (ByteArray.mk #[])))], [])) := by kernel_rfl

theorem e49 (n : Nat) (a0 : Int) (a1 : Int) (a2 : List (List Tree)) (a3 : ByteArray) : apure C (n + 1) 49 [tI a0, tI a1, Tree.sl (2:Nat) a2, Tree.str a3] =
  cnd (decide (a1 < (0:Int)) = true) (some [Tree.bool (((List.length a2:Nat):Int) == (0:Int))]) (cnd (decide (((List.length a2:Nat):Int) > (0:Int)) = true) (Option.bind (apure C n (78:Nat) [Tree.sl
  (2:Nat) a2]) fun y6 => cnd (List.length y6 = (1:Nat)) (cnd (okI y6 0) (cnd (((gI y6 0) == (0:Int)) = true) (Option.bind a2[(0:Nat)]? fun y7 => cnd (okI y7 0) (cnd (decide (gI y7 0 ≥ (0:Int)) = true)
  (cnd ((2:Nat) = (2:Nat) ∧ (0:Int) ≤ w64 (((List.length a2:Nat):Int) - (1:Int))) (Option.bind a2[Int.toNat (w64 (((List.length a2:Nat):Int) - (1:Int)))]? fun y8 => cnd (okI y8 1) (some [Tree.bool
  (decide (gI y8 1 ≤ a1))]) none) none) (some [Tree.bool false])) none) (some [Tree.bool false])) none) none) (some [Tree.bool false])) := by kernel_rfl

noncomputable def L50_1 (n : Nat) (a0 : List (List Tree)) (a1 : Int) (p3 : List AV × Heap) (again4 : (List AV × Heap) → Option (List Tree)) : Option (List Tree) :=
  cnd (decide (vI p3 0 < ((List.length a0:Nat):Int)) = true) (cnd ((2:Nat) = (2:Nat) ∧ (0:Int) ≤ vI p3 0) (Option.bind a0[Int.toNat (vI p3 0)]? fun y7 => cnd (okI y7 0) (cnd (decide (gI y7 0 ≤ a1) =
  true) (cnd ((2:Nat) = (2:Nat) ∧ (0:Int) ≤ vI p3 0) (Option.bind a0[Int.toNat (vI p3 0)]? fun y8 => cnd (okI y8 1) (cnd (decide (a1 < gI y8 1) = true) (some [Tree.bool true]) (again4 ([AV.t (tI (w64
  ((vI p3 0) + (1:Int))))], []))) none) none) (again4 ([AV.t (tI (w64 ((vI p3 0) + (1:Int))))], []))) none) none) (some [Tree.bool false])
theorem e50 (n : Nat) (a0 : List (List Tree)) (a1 : Int) : apure C (n + 1) 50 [Tree.sl (2:Nat) a0, tI a1] =
  Option.bind (apure C n (78:Nat) [Tree.sl (2:Nat) a0]) fun y2 => cnd (List.length y2 = (1:Nat)) (cnd (okI y2 0) (cnd (((gI y2 0) != (0:Int)) = true) (some [Tree.bool false]) (loopIter (fun (p3 : List
  AV × Heap) (again4 : _ → Option (List Tree)) => L50_1 n a0 a1 p3 again4) n ([AV.t (tI (0:Int))], []))) none) none := by kernel_rfl

theorem e51 (n : Nat) (a0 : Int) (a1 : Int) (a2 : Int) (a3 : Int) (a4 : Int) (a5 : Bool) (a6 : ByteArray) (a7 : List (List Tree)) (a8 : Int) (a9 : Int) (a10 : Int) (a11 : Int) (a12 : Int) (a13 : Bool) (a14 : ByteArray) (a15 : List (List Tree)) : apure C (n + 1) 51 [tI a0, tI a1, tI a2, tI a3, tI a4, Tree.bool a5, Tree.str a6, Tree.sl (2:Nat) a7, tI a8, tI a9, tI a10, tI a11, tI a12, Tree.bool a13, Tree.str a14, Tree.sl (2:Nat) a15] =
  cnd ((a0 == a8) = true) (cnd ((a1 == a9) = true) (cnd ((a2 == a10) = true) (cnd ((a3 == a11) = true) (cnd ((a4 == a12) = true) (cnd ((a5 == a13) = true) (cnd ((a6 == a14) = true) (Option.bind (apure C
  n (45:Nat) [Tree.sl (2:Nat) a7, Tree.sl (2:Nat) a15]) fun y18 => cnd (List.length y18 = (1:Nat)) (cnd (okB y18 0) (some [Tree.bool (gB y18 0)]) none) none) (some [Tree.bool false])) (some [Tree.bool
  false])) (some [Tree.bool false])) (some [Tree.bool false])) (some [Tree.bool false])) (some [Tree.bool false])) (some [Tree.bool false]) := by kernel_rfl

theorem e53 (n : Nat) (a0 : Int) (a1 : Int) (a2 : Int) : apure C (n + 1) 53 [tI a0, tI a1, tI a2] =
  cnd (decide (a0 ≥ a1) = true) (some [Tree.bool (decide (a0 ≤ a2))]) (some [Tree.bool false]) := by kernel_rfl

theorem e54 (n : Nat) (a0 : Int) (a1 : Int) (a2 : Int) (a3 : Int) (a4 : Int) (a5 : Bool) (a6 : ByteArray) (a7 : List (List Tree)) : apure C (n + 1) 54 [tI a0, tI a1, tI a2, tI a3, tI a4, Tree.bool a5, Tree.str a6, Tree.sl (2:Nat) a7] =
  Option.bind (apure C n (53:Nat) [tI a1, tI (0:Int), tI (1099511627776:Int)]) fun y8 => cnd (List.length y8 = (1:Nat)) (cnd (okB y8 0) (cnd ((!(gB y8 0)) = true) (some [Tree.bool false]) (cnd ((a0 ==
  (3:Int)) = true) (cnd ((a2 == (0:Int)) = true) (cnd ((a3 == (0:Int)) = true) (some [Tree.bool (a4 == (0:Int))]) (some [Tree.bool false])) (some [Tree.bool false])) (Option.bind (apure C n (53:Nat) [tI
  a4, tI (1:Int), tI (65536:Int)]) fun y11 => cnd (List.length y11 = (1:Nat)) (cnd (okB y11 0) (cnd ((!(gB y11 0)) = true) (some [Tree.bool false]) (cnd ((a0 == (2:Int)) = true) (Option.bind (apure C n
  (53:Nat) [tI a2, tI (1:Int), tI (1099511627776:Int)]) fun y14 => cnd (List.length y14 = (1:Nat)) (cnd (okB y14 0) (cnd (gB y14 0 = true) (some [Tree.bool (a3 == (0:Int))]) (some [Tree.bool false]))
  none) none) (cnd (a5 = true) (Option.bind (apure C n (53:Nat) [tI a2, tI (1:Int), tI (1099511627776:Int)]) fun y17 => cnd (List.length y17 = (1:Nat)) (cnd (okB y17 0) (cnd (gB y17 0 = true)
  (Option.bind (apure C n (53:Nat) [tI a3, tI (0:Int), tI (w64 (a4 - (1:Int)))]) fun y18 => cnd (List.length y18 = (1:Nat)) (cnd (okB y18 0) (some [Tree.bool (gB y18 0)]) none) none) (some [Tree.bool
  false])) none) none) (cnd ((a2 == (0:Int)) = true) (Option.bind (apure C n (53:Nat) [tI a3, tI (0:Int), tI (w64 (a4 - (1:Int)))]) fun y21 => cnd (List.length y21 = (1:Nat)) (cnd (okB y21 0) (some
  [Tree.bool (gB y21 0)]) none) none) (some [Tree.bool false]))))) none) none))) none) none := by kernel_rfl

theorem e55 (n : Nat) (a0 : Int) (a1 : Int) (a2 : Int) (a3 : Int) (a4 : Int) (a5 : Bool) (a6 : ByteArray) (a7 : List (List Tree)) : apure C (n + 1) 55 [tI a0, tI a1, tI a2, tI a3, tI a4, Tree.bool a5, Tree.str a6, Tree.sl (2:Nat) a7] =
  cnd ((a0 == (1:Int)) = true) (Option.bind (apure C n (53:Nat) [tI ((ByteArray.size a6:Nat):Int), tI (1:Int), tI (16:Int)]) fun y10 => cnd (List.length y10 = (1:Nat)) (cnd (okB y10 0) (cnd (gB y10 0 =
  true) (cnd (decide (((ByteArray.size a6:Nat):Int) ≤ w64 (a4 - a3)) = true) (some [Tree.bool (((List.length a7:Nat):Int) == (0:Int))]) (some [Tree.bool false])) (some [Tree.bool false])) none) none)
  (cnd ((!a5) = true) (cnd ((((ByteArray.size a6:Nat):Int) == (0:Int)) = true) (cnd ((a0 == (2:Int)) = true) (Option.bind (apure C n (79:Nat) [Tree.sl (2:Nat) a7, tI a4]) fun y13 => cnd (List.length y13
  = (1:Nat)) (cnd (okB y13 0) (cnd (gB y13 0 = true) (some [Tree.bool true]) (some [Tree.bool (((List.length a7:Nat):Int) == (0:Int))])) none) none) (some [Tree.bool (((List.length a7:Nat):Int) ==
  (0:Int))])) (some [Tree.bool false])) (some [Tree.bool false])) := by kernel_rfl

theorem e57 (n : Nat) (a0 : Int) (a1 : Int) (a2 : Int) : apure C (n + 1) 57 [tI a0, tI a1, tI a2] =
  cnd (decide (a0 ≥ a1) = true) (some [Tree.bool (decide (a0 ≤ a2))]) (some [Tree.bool false]) := by kernel_rfl

theorem e58 (n : Nat) (a0 : List (List Tree)) (a1 : Int) : apure C (n + 1) 58 [Tree.sl (2:Nat) a0, tI a1] =
  Option.bind (apure C n (46:Nat) [Tree.sl (2:Nat) a0]) fun y4 => cnd (List.length y4 = (1:Nat)) (cnd (okI y4 0) (cnd (((gI y4 0) == (0:Int)) = true) (cnd ((((List.length a0:Nat):Int) == (0:Int)) =
  true) (some [Tree.bool true]) (Option.bind a0[(0:Nat)]? fun y5 => cnd (okI y5 0) (cnd (decide (gI y5 0 ≥ (0:Int)) = true) (cnd ((2:Nat) = (2:Nat) ∧ (0:Int) ≤ w64 (((List.length a0:Nat):Int) -
  (1:Int))) (Option.bind a0[Int.toNat (w64 (((List.length a0:Nat):Int) - (1:Int)))]? fun y6 => cnd (okI y6 1) (some [Tree.bool (decide (gI y6 1 ≤ a1))]) none) none) (some [Tree.bool false])) none))
  (some [Tree.bool false])) none) none := by kernel_rfl

noncomputable def J66_1 (n : Nat) (again23 : (List AV × Heap) → Option (List Tree)) (p30 : List AV × Heap) : Option (List Tree) :=
  again23 ([], [AObj.box [AV.func (Fn.func 88) [] []], AObj.row false (oVer p30 1) (2:Nat) (oEs p30 1), AObj.box [AV.sref (1:Nat) (cVer p30 2 0) (cOff p30 2 0) (cLen p30 2 0)], AObj.box [AV.t (Tree.bool
  (cB p30 3 0))], AObj.box [], AObj.box [AV.t (Tree.sl (2:Nat) (cL p30 5 0)), AV.t (tI (cI p30 5 1)), AV.t (Tree.bool (!(cB p30 5 2)))], AObj.box [AV.t (Tree.sl (2:Nat) (cL p30 6 0)), AV.t (tI (cI p30 6
  1)), AV.t (Tree.bool (cB p30 6 2))]])

noncomputable def J66_2 (n : Nat) (again23 : (List AV × Heap) → Option (List Tree)) (p28 : List AV × Heap) : Option (List Tree) :=
  cnd (vB p28 0 = true) (again23 ([], [AObj.box [AV.func (Fn.func 88) [] []], AObj.row false (oVer p28 1) (2:Nat) (oEs p28 1), AObj.box [AV.sref (1:Nat) (cVer p28 2 0) (cOff p28 2 0) (cLen p28 2 0)],
  AObj.box [AV.t (Tree.bool (cB p28 3 0))], AObj.box [], AObj.box [AV.t (Tree.sl (2:Nat) (cL p28 5 0)), AV.t (tI (cI p28 5 1)), AV.t (Tree.bool (cB p28 5 2))], AObj.box [AV.t (Tree.sl (2:Nat) (cL p28 6
  0)), AV.t (tI (cI p28 6 1)), AV.t (Tree.bool (cB p28 6 2))]])) (join (fun (p30 : List AV × Heap) => J66_1 n again23 p30) fun (again31 : _ → Option (List Tree)) => cnd (cB p28 5 2 = true) (again31 ([],
  [AObj.box [AV.func (Fn.func 88) [] []], AObj.row false (oVer p28 1) (2:Nat) (oEs p28 1), AObj.box [AV.sref (1:Nat) (cVer p28 2 0) (cOff p28 2 0) (cLen p28 2 0)], AObj.box [AV.t (Tree.bool (cB p28 3
  0))], AObj.box [], AObj.box [AV.t (Tree.sl (2:Nat) (cL p28 5 0)), AV.t (tI (w64 ((cI p28 5 1) + (1:Int)))), AV.t (Tree.bool (cB p28 5 2))], AObj.box [AV.t (Tree.sl (2:Nat) (cL p28 6 0)), AV.t (tI (cI
  p28 6 1)), AV.t (Tree.bool (cB p28 6 2))]])) (again31 ([], [AObj.box [AV.func (Fn.func 88) [] []], AObj.row false (oVer p28 1) (2:Nat) (oEs p28 1), AObj.box [AV.sref (1:Nat) (cVer p28 2 0) (cOff p28 2
  0) (cLen p28 2 0)], AObj.box [AV.t (Tree.bool (cB p28 3 0))], AObj.box [], AObj.box [AV.t (Tree.sl (2:Nat) (cL p28 5 0)), AV.t (tI (cI p28 5 1)), AV.t (Tree.bool (cB p28 5 2))], AObj.box [AV.t
  (Tree.sl (2:Nat) (cL p28 6 0)), AV.t (tI (cI p28 6 1)), AV.t (Tree.bool (cB p28 6 2))]])))

noncomputable def J66_3 (n : Nat) (again23 : (List AV × Heap) → Option (List Tree)) (p20 : List AV × Heap) (p24 : List AV × Heap) : Option (List Tree) :=
  join (fun (p28 : List AV × Heap) => J66_2 n again23 p28) fun (again29 : _ → Option (List Tree)) => cnd ((!(vB p24 1)) = true) (again29 ([AV.t (Tree.bool true)], [AObj.box [AV.func (Fn.func 88) [] []],
  AObj.row false (oVer p24 1) (2:Nat) (oEs p24 1), AObj.box [AV.sref (1:Nat) (cVer p24 2 0) (cOff p24 2 0) (cLen p24 2 0)], AObj.box [AV.t (Tree.bool (cB p24 3 0))], AObj.box [], AObj.box [AV.t (Tree.sl
  (2:Nat) (cL p24 5 0)), AV.t (tI (cI p24 5 1)), AV.t (Tree.bool (cB p24 5 2))], AObj.box [AV.t (Tree.sl (2:Nat) (cL p24 6 0)), AV.t (tI (cI p24 6 1)), AV.t (Tree.bool (cB p24 6 2))]])) (again29 ([AV.t
  (Tree.bool ((vI p24 0) != (vI p20 0)))], [AObj.box [AV.func (Fn.func 88) [] []], AObj.row false (oVer p24 1) (2:Nat) (oEs p24 1), AObj.box [AV.sref (1:Nat) (cVer p24 2 0) (cOff p24 2 0) (cLen p24 2
  0)], AObj.box [AV.t (Tree.bool (cB p24 3 0))], AObj.box [], AObj.box [AV.t (Tree.sl (2:Nat) (cL p24 5 0)), AV.t (tI (cI p24 5 1)), AV.t (Tree.bool (cB p24 5 2))], AObj.box [AV.t (Tree.sl (2:Nat) (cL
  p24 6 0)), AV.t (tI (cI p24 6 1)), AV.t (Tree.bool (cB p24 6 2))]]))

noncomputable def J66_4 (n : Nat) (again33 : (List AV × Heap) → Option (List Tree)) (p40 : List AV × Heap) : Option (List Tree) :=
  again33 ([], [AObj.box [AV.func (Fn.func 88) [] []], AObj.row false (oVer p40 1) (2:Nat) (oEs p40 1), AObj.box [AV.sref (1:Nat) (cVer p40 2 0) (cOff p40 2 0) (cLen p40 2 0)], AObj.box [AV.t (Tree.bool
  (cB p40 3 0))], AObj.box [], AObj.box [AV.t (Tree.sl (2:Nat) (cL p40 5 0)), AV.t (tI (cI p40 5 1)), AV.t (Tree.bool (cB p40 5 2))], AObj.box [AV.t (Tree.sl (2:Nat) (cL p40 6 0)), AV.t (tI (cI p40 6
  1)), AV.t (Tree.bool (!(cB p40 6 2)))]])

noncomputable def J66_5 (n : Nat) (again33 : (List AV × Heap) → Option (List Tree)) (p38 : List AV × Heap) : Option (List Tree) :=
  cnd (vB p38 0 = true) (again33 ([], [AObj.box [AV.func (Fn.func 88) [] []], AObj.row false (oVer p38 1) (2:Nat) (oEs p38 1), AObj.box [AV.sref (1:Nat) (cVer p38 2 0) (cOff p38 2 0) (cLen p38 2 0)],
  AObj.box [AV.t (Tree.bool (cB p38 3 0))], AObj.box [], AObj.box [AV.t (Tree.sl (2:Nat) (cL p38 5 0)), AV.t (tI (cI p38 5 1)), AV.t (Tree.bool (cB p38 5 2))], AObj.box [AV.t (Tree.sl (2:Nat) (cL p38 6
  0)), AV.t (tI (cI p38 6 1)), AV.t (Tree.bool (cB p38 6 2))]])) (join (fun (p40 : List AV × Heap) => J66_4 n again33 p40) fun (again41 : _ → Option (List Tree)) => cnd (cB p38 6 2 = true) (again41 ([],
  [AObj.box [AV.func (Fn.func 88) [] []], AObj.row false (oVer p38 1) (2:Nat) (oEs p38 1), AObj.box [AV.sref (1:Nat) (cVer p38 2 0) (cOff p38 2 0) (cLen p38 2 0)], AObj.box [AV.t (Tree.bool (cB p38 3
  0))], AObj.box [], AObj.box [AV.t (Tree.sl (2:Nat) (cL p38 5 0)), AV.t (tI (cI p38 5 1)), AV.t (Tree.bool (cB p38 5 2))], AObj.box [AV.t (Tree.sl (2:Nat) (cL p38 6 0)), AV.t (tI (w64 ((cI p38 6 1) +
  (1:Int)))), AV.t (Tree.bool (cB p38 6 2))]])) (again41 ([], [AObj.box [AV.func (Fn.func 88) [] []], AObj.row false (oVer p38 1) (2:Nat) (oEs p38 1), AObj.box [AV.sref (1:Nat) (cVer p38 2 0) (cOff p38
  2 0) (cLen p38 2 0)], AObj.box [AV.t (Tree.bool (cB p38 3 0))], AObj.box [], AObj.box [AV.t (Tree.sl (2:Nat) (cL p38 5 0)), AV.t (tI (cI p38 5 1)), AV.t (Tree.bool (cB p38 5 2))], AObj.box [AV.t
  (Tree.sl (2:Nat) (cL p38 6 0)), AV.t (tI (cI p38 6 1)), AV.t (Tree.bool (cB p38 6 2))]])))

noncomputable def J66_6 (n : Nat) (again33 : (List AV × Heap) → Option (List Tree)) (p20 : List AV × Heap) (p34 : List AV × Heap) : Option (List Tree) :=
  join (fun (p38 : List AV × Heap) => J66_5 n again33 p38) fun (again39 : _ → Option (List Tree)) => cnd ((!(vB p34 1)) = true) (again39 ([AV.t (Tree.bool true)], [AObj.box [AV.func (Fn.func 88) [] []],
  AObj.row false (oVer p34 1) (2:Nat) (oEs p34 1), AObj.box [AV.sref (1:Nat) (cVer p34 2 0) (cOff p34 2 0) (cLen p34 2 0)], AObj.box [AV.t (Tree.bool (cB p34 3 0))], AObj.box [], AObj.box [AV.t (Tree.sl
  (2:Nat) (cL p34 5 0)), AV.t (tI (cI p34 5 1)), AV.t (Tree.bool (cB p34 5 2))], AObj.box [AV.t (Tree.sl (2:Nat) (cL p34 6 0)), AV.t (tI (cI p34 6 1)), AV.t (Tree.bool (cB p34 6 2))]])) (again39 ([AV.t
  (Tree.bool ((vI p34 0) != (vI p20 0)))], [AObj.box [AV.func (Fn.func 88) [] []], AObj.row false (oVer p34 1) (2:Nat) (oEs p34 1), AObj.box [AV.sref (1:Nat) (cVer p34 2 0) (cOff p34 2 0) (cLen p34 2
  0)], AObj.box [AV.t (Tree.bool (cB p34 3 0))], AObj.box [], AObj.box [AV.t (Tree.sl (2:Nat) (cL p34 5 0)), AV.t (tI (cI p34 5 1)), AV.t (Tree.bool (cB p34 5 2))], AObj.box [AV.t (Tree.sl (2:Nat) (cL
  p34 6 0)), AV.t (tI (cI p34 6 1)), AV.t (Tree.bool (cB p34 6 2))]]))

noncomputable def J66_7 (n : Nat) (again46 : (List AV × Heap) → Option (List Tree)) (p49 : List AV × Heap) : Option (List Tree) :=
  again46 ([], [AObj.box [AV.func (Fn.func 88) [] []], AObj.row false (oVer p49 1) (2:Nat) (oEs p49 1), AObj.box [AV.sref (1:Nat) (cVer p49 2 0) (cOff p49 2 0) (cLen p49 2 0)], AObj.box [AV.t (Tree.bool
  (cB p49 3 0))], AObj.box [], AObj.box [AV.t (Tree.sl (2:Nat) (cL p49 5 0)), AV.t (tI (cI p49 5 1)), AV.t (Tree.bool (cB p49 5 2))], AObj.box [AV.t (Tree.sl (2:Nat) (cL p49 6 0)), AV.t (tI (cI p49 6
  1)), AV.t (Tree.bool (cB p49 6 2))], AObj.box [AV.t (Tree.bool (cB p49 7 0)), AV.t (Tree.bool (cB p49 7 1))]])

noncomputable def J66_8 (n : Nat) (again46 : (List AV × Heap) → Option (List Tree)) (p20 : List AV × Heap) (p47 : List AV × Heap) : Option (List Tree) :=
  join (fun (p49 : List AV × Heap) => J66_7 n again46 p49) fun (again50 : _ → Option (List Tree)) => cnd (vB p47 0 = true) (cnd (oVer p47 1 = cVer p47 2 0) (cnd (oVer p47 1 = cVer p47 2 0 ∧ (2:Nat) =
  (2:Nat) ∧ (0:Int) ≤ w64 (((cLen p47 2 0:Nat):Int) - (1:Int)) ∧ w64 (((cLen p47 2 0:Nat):Int) - (1:Int)) < ((cLen p47 2 0:Nat):Int)) (cnd (oVer p47 1 = cVer p47 2 0) (cnd (oVer p47 1 = cVer p47 2 0 ∧
  (2:Nat) ≤ (2:Nat)) (Option.bind (oEs p47 1)[(cOff p47 2 0) + (Int.toNat (w64 (((cLen p47 2 0:Nat):Int) - (1:Int))))]? fun y51 => again50 ([], [AObj.box [AV.func (Fn.func 88) [] []], AObj.row false
  (cVer p47 2 0) (2:Nat) (List.set (oEs p47 1) ((cOff p47 2 0) + (Int.toNat (w64 (((cLen p47 2 0:Nat):Int) - (1:Int))))) (List.take (1:Nat) y51 ++ ([tI (vI p20 0)] ++ List.drop (2:Nat) y51))), AObj.box
  [AV.sref (1:Nat) (cVer p47 2 0) (cOff p47 2 0) (cLen p47 2 0)], AObj.box [AV.t (Tree.bool (cB p47 3 0))], AObj.box [], AObj.box [AV.t (Tree.sl (2:Nat) (cL p47 5 0)), AV.t (tI (cI p47 5 1)), AV.t
  (Tree.bool (cB p47 5 2))], AObj.box [AV.t (Tree.sl (2:Nat) (cL p47 6 0)), AV.t (tI (cI p47 6 1)), AV.t (Tree.bool (cB p47 6 2))], AObj.box [AV.t (Tree.bool (cB p47 7 0)), AV.t (Tree.bool (cB p47 7
  1))]])) none) none) none) none) (again50 ([], [AObj.box [AV.func (Fn.func 88) [] []], AObj.row false (oVer p47 1) (2:Nat) (oEs p47 1), AObj.box [AV.sref (1:Nat) (cVer p47 2 0) (cOff p47 2 0) (cLen p47
  2 0)], AObj.box [AV.t (Tree.bool (cB p47 3 0))], AObj.box [], AObj.box [AV.t (Tree.sl (2:Nat) (cL p47 5 0)), AV.t (tI (cI p47 5 1)), AV.t (Tree.bool (cB p47 5 2))], AObj.box [AV.t (Tree.sl (2:Nat) (cL
  p47 6 0)), AV.t (tI (cI p47 6 1)), AV.t (Tree.bool (cB p47 6 2))], AObj.box [AV.t (Tree.bool (cB p47 7 0)), AV.t (Tree.bool (cB p47 7 1))]]))

noncomputable def J66_9 (n : Nat) (again7 : (List AV × Heap) → Option (List Tree)) (y42 : List Tree) (p45 : List AV × Heap) : Option (List Tree) :=
  again7 ([], [AObj.box [AV.func (Fn.func 88) [] []], AObj.row false (oVer p45 1) (2:Nat) (oEs p45 1), AObj.box [AV.sref (1:Nat) (cVer p45 2 0) (cOff p45 2 0) (cLen p45 2 0)], AObj.box [AV.t (Tree.bool
  (gB y42 0))], AObj.box [], AObj.box [AV.t (Tree.sl (2:Nat) (cL p45 5 0)), AV.t (tI (cI p45 5 1)), AV.t (Tree.bool (cB p45 5 2))], AObj.box [AV.t (Tree.sl (2:Nat) (cL p45 6 0)), AV.t (tI (cI p45 6 1)),
  AV.t (Tree.bool (cB p45 6 2))]])

noncomputable def J66_10 (n : Nat) (again7 : (List AV × Heap) → Option (List Tree)) (y42 : List Tree) (p20 : List AV × Heap) (p43 : List AV × Heap) : Option (List Tree) :=
  join (fun (p45 : List AV × Heap) => J66_9 n again7 y42 p45) fun (again46 : _ → Option (List Tree)) => cnd (vB p43 0 = true) (cnd (oVer p43 1 = cVer p43 2 0 ∧ ((2:Nat) = (2:Nat) ∨ (2:Nat) = (0:Nat)) ∧
  (cOff p43 2 0) + (cLen p43 2 0) ≤ List.length (oEs p43 1) ∧ (cLen p43 2 0) + (1:Nat) ≤ (1073741824:Nat)) (again46 ([], [AObj.box [AV.func (Fn.func 88) [] []], AObj.row false ((cVer p43 2 0) + (1:Nat))
  (2:Nat) ((List.take (cLen p43 2 0) (List.drop (cOff p43 2 0) (oEs p43 1))) ++ [[tI (vI p20 0), tI (0:Int)]]), AObj.box [AV.sref (1:Nat) ((cVer p43 2 0) + (1:Nat)) (0:Nat) ((cLen p43 2 0) + (1:Nat))],
  AObj.box [AV.t (Tree.bool (cB p43 3 0))], AObj.box [], AObj.box [AV.t (Tree.sl (2:Nat) (cL p43 5 0)), AV.t (tI (cI p43 5 1)), AV.t (Tree.bool (cB p43 5 2))], AObj.box [AV.t (Tree.sl (2:Nat) (cL p43 6
  0)), AV.t (tI (cI p43 6 1)), AV.t (Tree.bool (cB p43 6 2))], AObj.box [AV.t (Tree.bool (cB p43 7 0)), AV.t (Tree.bool (cB p43 7 1))]])) none) (join (fun (p47 : List AV × Heap) => J66_8 n again46 p20
  p47) fun (again48 : _ → Option (List Tree)) => cnd ((!(gB y42 0)) = true) (again48 ([AV.t (Tree.bool (cB p43 3 0))], [AObj.box [AV.func (Fn.func 88) [] []], AObj.row false (oVer p43 1) (2:Nat) (oEs
  p43 1), AObj.box [AV.sref (1:Nat) (cVer p43 2 0) (cOff p43 2 0) (cLen p43 2 0)], AObj.box [AV.t (Tree.bool (cB p43 3 0))], AObj.box [], AObj.box [AV.t (Tree.sl (2:Nat) (cL p43 5 0)), AV.t (tI (cI p43
  5 1)), AV.t (Tree.bool (cB p43 5 2))], AObj.box [AV.t (Tree.sl (2:Nat) (cL p43 6 0)), AV.t (tI (cI p43 6 1)), AV.t (Tree.bool (cB p43 6 2))], AObj.box [AV.t (Tree.bool (cB p43 7 0)), AV.t (Tree.bool
  (cB p43 7 1))]])) (again48 ([AV.t (Tree.bool false)], [AObj.box [AV.func (Fn.func 88) [] []], AObj.row false (oVer p43 1) (2:Nat) (oEs p43 1), AObj.box [AV.sref (1:Nat) (cVer p43 2 0) (cOff p43 2 0)
  (cLen p43 2 0)], AObj.box [AV.t (Tree.bool (cB p43 3 0))], AObj.box [], AObj.box [AV.t (Tree.sl (2:Nat) (cL p43 5 0)), AV.t (tI (cI p43 5 1)), AV.t (Tree.bool (cB p43 5 2))], AObj.box [AV.t (Tree.sl
  (2:Nat) (cL p43 6 0)), AV.t (tI (cI p43 6 1)), AV.t (Tree.bool (cB p43 6 2))], AObj.box [AV.t (Tree.bool (cB p43 7 0)), AV.t (Tree.bool (cB p43 7 1))]])))

noncomputable def J66_11 (n : Nat) (again7 : (List AV × Heap) → Option (List Tree)) (p20 : List AV × Heap) (p32 : List AV × Heap) : Option (List Tree) :=
  Option.bind (apure C n (88:Nat) [Tree.bool (cB p32 5 2), Tree.bool (cB p32 6 2)]) fun y42 => cnd (List.length y42 = (1:Nat)) (cnd (okB y42 0) (join (fun (p43 : List AV × Heap) => J66_10 n again7 y42
  p20 p43) fun (again44 : _ → Option (List Tree)) => cnd (gB y42 0 = true) (again44 ([AV.t (Tree.bool (!(cB p32 3 0)))], [AObj.box [AV.func (Fn.func 88) [] []], AObj.row false (oVer p32 1) (2:Nat) (oEs
  p32 1), AObj.box [AV.sref (1:Nat) (cVer p32 2 0) (cOff p32 2 0) (cLen p32 2 0)], AObj.box [AV.t (Tree.bool (cB p32 3 0))], AObj.box [], AObj.box [AV.t (Tree.sl (2:Nat) (cL p32 5 0)), AV.t (tI (cI p32
  5 1)), AV.t (Tree.bool (cB p32 5 2))], AObj.box [AV.t (Tree.sl (2:Nat) (cL p32 6 0)), AV.t (tI (cI p32 6 1)), AV.t (Tree.bool (cB p32 6 2))], AObj.box [AV.t (Tree.bool (cB p32 5 2)), AV.t (Tree.bool
  (cB p32 6 2))]])) (again44 ([AV.t (Tree.bool false)], [AObj.box [AV.func (Fn.func 88) [] []], AObj.row false (oVer p32 1) (2:Nat) (oEs p32 1), AObj.box [AV.sref (1:Nat) (cVer p32 2 0) (cOff p32 2 0)
  (cLen p32 2 0)], AObj.box [AV.t (Tree.bool (cB p32 3 0))], AObj.box [], AObj.box [AV.t (Tree.sl (2:Nat) (cL p32 5 0)), AV.t (tI (cI p32 5 1)), AV.t (Tree.bool (cB p32 5 2))], AObj.box [AV.t (Tree.sl
  (2:Nat) (cL p32 6 0)), AV.t (tI (cI p32 6 1)), AV.t (Tree.bool (cB p32 6 2))], AObj.box [AV.t (Tree.bool (cB p32 5 2)), AV.t (Tree.bool (cB p32 6 2))]]))) none) none

noncomputable def J66_12 (n : Nat) (again7 : (List AV × Heap) → Option (List Tree)) (p20 : List AV × Heap) (p22 : List AV × Heap) : Option (List Tree) :=
  join (fun (p32 : List AV × Heap) => J66_11 n again7 p20 p32) fun (again33 : _ → Option (List Tree)) => join (fun (p34 : List AV × Heap) => J66_6 n again33 p20 p34) fun (again35 : _ → Option (List
  Tree)) => cnd (((cI p22 6 1) == ((List.length (cL p22 6 0):Nat):Int)) = true) (again35 ([AV.t (tI (0:Int)), AV.t (Tree.bool false)], [AObj.box [AV.func (Fn.func 88) [] []], AObj.row false (oVer p22 1)
  (2:Nat) (oEs p22 1), AObj.box [AV.sref (1:Nat) (cVer p22 2 0) (cOff p22 2 0) (cLen p22 2 0)], AObj.box [AV.t (Tree.bool (cB p22 3 0))], AObj.box [], AObj.box [AV.t (Tree.sl (2:Nat) (cL p22 5 0)), AV.t
  (tI (cI p22 5 1)), AV.t (Tree.bool (cB p22 5 2))], AObj.box [AV.t (Tree.sl (2:Nat) (cL p22 6 0)), AV.t (tI (cI p22 6 1)), AV.t (Tree.bool (cB p22 6 2))]])) (cnd (cB p22 6 2 = true) (cnd ((2:Nat) =
  (2:Nat) ∧ (0:Int) ≤ cI p22 6 1) (Option.bind (cL p22 6 0)[Int.toNat (cI p22 6 1)]? fun y36 => cnd (okI y36 1) (again35 ([AV.t (tI (gI y36 1)), AV.t (Tree.bool true)], [AObj.box [AV.func (Fn.func 88)
  [] []], AObj.row false (oVer p22 1) (2:Nat) (oEs p22 1), AObj.box [AV.sref (1:Nat) (cVer p22 2 0) (cOff p22 2 0) (cLen p22 2 0)], AObj.box [AV.t (Tree.bool (cB p22 3 0))], AObj.box [], AObj.box [AV.t
  (Tree.sl (2:Nat) (cL p22 5 0)), AV.t (tI (cI p22 5 1)), AV.t (Tree.bool (cB p22 5 2))], AObj.box [AV.t (Tree.sl (2:Nat) (cL p22 6 0)), AV.t (tI (cI p22 6 1)), AV.t (Tree.bool (cB p22 6 2))]])) none)
  none) (cnd ((2:Nat) = (2:Nat) ∧ (0:Int) ≤ cI p22 6 1) (Option.bind (cL p22 6 0)[Int.toNat (cI p22 6 1)]? fun y37 => cnd (okI y37 0) (again35 ([AV.t (tI (gI y37 0)), AV.t (Tree.bool true)], [AObj.box
  [AV.func (Fn.func 88) [] []], AObj.row false (oVer p22 1) (2:Nat) (oEs p22 1), AObj.box [AV.sref (1:Nat) (cVer p22 2 0) (cOff p22 2 0) (cLen p22 2 0)], AObj.box [AV.t (Tree.bool (cB p22 3 0))],
  AObj.box [], AObj.box [AV.t (Tree.sl (2:Nat) (cL p22 5 0)), AV.t (tI (cI p22 5 1)), AV.t (Tree.bool (cB p22 5 2))], AObj.box [AV.t (Tree.sl (2:Nat) (cL p22 6 0)), AV.t (tI (cI p22 6 1)), AV.t
  (Tree.bool (cB p22 6 2))]])) none) none))

noncomputable def J66_13 (n : Nat) (again7 : (List AV × Heap) → Option (List Tree)) (p20 : List AV × Heap) : Option (List Tree) :=
  join (fun (p22 : List AV × Heap) => J66_12 n again7 p20 p22) fun (again23 : _ → Option (List Tree)) => join (fun (p24 : List AV × Heap) => J66_3 n again23 p20 p24) fun (again25 : _ → Option (List
  Tree)) => cnd (((cI p20 5 1) == ((List.length (cL p20 5 0):Nat):Int)) = true) (again25 ([AV.t (tI (0:Int)), AV.t (Tree.bool false)], [AObj.box [AV.func (Fn.func 88) [] []], AObj.row false (oVer p20 1)
  (2:Nat) (oEs p20 1), AObj.box [AV.sref (1:Nat) (cVer p20 2 0) (cOff p20 2 0) (cLen p20 2 0)], AObj.box [AV.t (Tree.bool (cB p20 3 0))], AObj.box [], AObj.box [AV.t (Tree.sl (2:Nat) (cL p20 5 0)), AV.t
  (tI (cI p20 5 1)), AV.t (Tree.bool (cB p20 5 2))], AObj.box [AV.t (Tree.sl (2:Nat) (cL p20 6 0)), AV.t (tI (cI p20 6 1)), AV.t (Tree.bool (cB p20 6 2))]])) (cnd (cB p20 5 2 = true) (cnd ((2:Nat) =
  (2:Nat) ∧ (0:Int) ≤ cI p20 5 1) (Option.bind (cL p20 5 0)[Int.toNat (cI p20 5 1)]? fun y26 => cnd (okI y26 1) (again25 ([AV.t (tI (gI y26 1)), AV.t (Tree.bool true)], [AObj.box [AV.func (Fn.func 88)
  [] []], AObj.row false (oVer p20 1) (2:Nat) (oEs p20 1), AObj.box [AV.sref (1:Nat) (cVer p20 2 0) (cOff p20 2 0) (cLen p20 2 0)], AObj.box [AV.t (Tree.bool (cB p20 3 0))], AObj.box [], AObj.box [AV.t
  (Tree.sl (2:Nat) (cL p20 5 0)), AV.t (tI (cI p20 5 1)), AV.t (Tree.bool (cB p20 5 2))], AObj.box [AV.t (Tree.sl (2:Nat) (cL p20 6 0)), AV.t (tI (cI p20 6 1)), AV.t (Tree.bool (cB p20 6 2))]])) none)
  none) (cnd ((2:Nat) = (2:Nat) ∧ (0:Int) ≤ cI p20 5 1) (Option.bind (cL p20 5 0)[Int.toNat (cI p20 5 1)]? fun y27 => cnd (okI y27 0) (again25 ([AV.t (tI (gI y27 0)), AV.t (Tree.bool true)], [AObj.box
  [AV.func (Fn.func 88) [] []], AObj.row false (oVer p20 1) (2:Nat) (oEs p20 1), AObj.box [AV.sref (1:Nat) (cVer p20 2 0) (cOff p20 2 0) (cLen p20 2 0)], AObj.box [AV.t (Tree.bool (cB p20 3 0))],
  AObj.box [], AObj.box [AV.t (Tree.sl (2:Nat) (cL p20 5 0)), AV.t (tI (cI p20 5 1)), AV.t (Tree.bool (cB p20 5 2))], AObj.box [AV.t (Tree.sl (2:Nat) (cL p20 6 0)), AV.t (tI (cI p20 6 1)), AV.t
  (Tree.bool (cB p20 6 2))]])) none) none))

noncomputable def J66_14 (n : Nat) (again7 : (List AV × Heap) → Option (List Tree)) (p12 : List AV × Heap) (p8 : List AV × Heap) (p18 : List AV × Heap) : Option (List Tree) :=
  join (fun (p20 : List AV × Heap) => J66_13 n again7 p20) fun (again21 : _ → Option (List Tree)) => cnd (vB p18 0 = true) (again21 ([AV.t (tI (vI p12 0))], [AObj.box [AV.func (Fn.func 88) [] []],
  AObj.row false (oVer p18 1) (2:Nat) (oEs p18 1), AObj.box [AV.sref (1:Nat) (cVer p18 2 0) (cOff p18 2 0) (cLen p18 2 0)], AObj.box [AV.t (Tree.bool (cB p18 3 0))], AObj.box [], AObj.box [AV.t (Tree.sl
  (2:Nat) (cL p18 5 0)), AV.t (tI (cI p18 5 1)), AV.t (Tree.bool (cB p18 5 2))], AObj.box [AV.t (Tree.sl (2:Nat) (cL p18 6 0)), AV.t (tI (cI p18 6 1)), AV.t (Tree.bool (cB p18 6 2))]])) (again21 ([AV.t
  (tI (vI p8 0))], [AObj.box [AV.func (Fn.func 88) [] []], AObj.row false (oVer p18 1) (2:Nat) (oEs p18 1), AObj.box [AV.sref (1:Nat) (cVer p18 2 0) (cOff p18 2 0) (cLen p18 2 0)], AObj.box [AV.t
  (Tree.bool (cB p18 3 0))], AObj.box [], AObj.box [AV.t (Tree.sl (2:Nat) (cL p18 5 0)), AV.t (tI (cI p18 5 1)), AV.t (Tree.bool (cB p18 5 2))], AObj.box [AV.t (Tree.sl (2:Nat) (cL p18 6 0)), AV.t (tI
  (cI p18 6 1)), AV.t (Tree.bool (cB p18 6 2))]]))

noncomputable def J66_15 (n : Nat) (again7 : (List AV × Heap) → Option (List Tree)) (p12 : List AV × Heap) (p8 : List AV × Heap) (p16 : List AV × Heap) : Option (List Tree) :=
  cnd (vB p16 0 = true) (cnd (oVer p16 1 = cVer p16 2 0) (cnd (decide (((cLen p16 2 0:Nat):Int) > (1000:Int)) = true) (some [Tree.sl (2:Nat) [], tI (4:Int)]) (cnd ((false = true ∨ false = false) ∧ oVer
  p16 1 = cVer p16 2 0 ∧ ((2:Nat) = (2:Nat) ∨ (2:Nat) = (0:Nat))) (some [Tree.sl (2:Nat) (List.take (cLen p16 2 0) (List.drop (cOff p16 2 0) (oEs p16 1))), tI (0:Int)]) none)) none) (join (fun (p18 :
  List AV × Heap) => J66_14 n again7 p12 p8 p18) fun (again19 : _ → Option (List Tree)) => cnd ((!(vB p8 1)) = true) (again19 ([AV.t (Tree.bool true)], [AObj.box [AV.func (Fn.func 88) [] []], AObj.row
  false (oVer p16 1) (2:Nat) (oEs p16 1), AObj.box [AV.sref (1:Nat) (cVer p16 2 0) (cOff p16 2 0) (cLen p16 2 0)], AObj.box [AV.t (Tree.bool (cB p16 3 0))], AObj.box [], AObj.box [AV.t (Tree.sl (2:Nat)
  (cL p16 5 0)), AV.t (tI (cI p16 5 1)), AV.t (Tree.bool (cB p16 5 2))], AObj.box [AV.t (Tree.sl (2:Nat) (cL p16 6 0)), AV.t (tI (cI p16 6 1)), AV.t (Tree.bool (cB p16 6 2))]])) (cnd (vB p12 1 = true)
  (again19 ([AV.t (Tree.bool (decide (vI p12 0 < vI p8 0)))], [AObj.box [AV.func (Fn.func 88) [] []], AObj.row false (oVer p16 1) (2:Nat) (oEs p16 1), AObj.box [AV.sref (1:Nat) (cVer p16 2 0) (cOff p16
  2 0) (cLen p16 2 0)], AObj.box [AV.t (Tree.bool (cB p16 3 0))], AObj.box [], AObj.box [AV.t (Tree.sl (2:Nat) (cL p16 5 0)), AV.t (tI (cI p16 5 1)), AV.t (Tree.bool (cB p16 5 2))], AObj.box [AV.t
  (Tree.sl (2:Nat) (cL p16 6 0)), AV.t (tI (cI p16 6 1)), AV.t (Tree.bool (cB p16 6 2))]])) (again19 ([AV.t (Tree.bool false)], [AObj.box [AV.func (Fn.func 88) [] []], AObj.row false (oVer p16 1)
  (2:Nat) (oEs p16 1), AObj.box [AV.sref (1:Nat) (cVer p16 2 0) (cOff p16 2 0) (cLen p16 2 0)], AObj.box [AV.t (Tree.bool (cB p16 3 0))], AObj.box [], AObj.box [AV.t (Tree.sl (2:Nat) (cL p16 5 0)), AV.t
  (tI (cI p16 5 1)), AV.t (Tree.bool (cB p16 5 2))], AObj.box [AV.t (Tree.sl (2:Nat) (cL p16 6 0)), AV.t (tI (cI p16 6 1)), AV.t (Tree.bool (cB p16 6 2))]]))))

noncomputable def J66_16 (n : Nat) (again7 : (List AV × Heap) → Option (List Tree)) (p8 : List AV × Heap) (p12 : List AV × Heap) : Option (List Tree) :=
  join (fun (p16 : List AV × Heap) => J66_15 n again7 p12 p8 p16) fun (again17 : _ → Option (List Tree)) => cnd ((!(vB p8 1)) = true) (again17 ([AV.t (Tree.bool (!(vB p12 1)))], [AObj.box [AV.func
  (Fn.func 88) [] []], AObj.row false (oVer p12 1) (2:Nat) (oEs p12 1), AObj.box [AV.sref (1:Nat) (cVer p12 2 0) (cOff p12 2 0) (cLen p12 2 0)], AObj.box [AV.t (Tree.bool (cB p12 3 0))], AObj.box [],
  AObj.box [AV.t (Tree.sl (2:Nat) (cL p12 5 0)), AV.t (tI (cI p12 5 1)), AV.t (Tree.bool (cB p12 5 2))], AObj.box [AV.t (Tree.sl (2:Nat) (cL p12 6 0)), AV.t (tI (cI p12 6 1)), AV.t (Tree.bool (cB p12 6
  2))]])) (again17 ([AV.t (Tree.bool false)], [AObj.box [AV.func (Fn.func 88) [] []], AObj.row false (oVer p12 1) (2:Nat) (oEs p12 1), AObj.box [AV.sref (1:Nat) (cVer p12 2 0) (cOff p12 2 0) (cLen p12 2
  0)], AObj.box [AV.t (Tree.bool (cB p12 3 0))], AObj.box [], AObj.box [AV.t (Tree.sl (2:Nat) (cL p12 5 0)), AV.t (tI (cI p12 5 1)), AV.t (Tree.bool (cB p12 5 2))], AObj.box [AV.t (Tree.sl (2:Nat) (cL
  p12 6 0)), AV.t (tI (cI p12 6 1)), AV.t (Tree.bool (cB p12 6 2))]]))

noncomputable def J66_17 (n : Nat) (again7 : (List AV × Heap) → Option (List Tree)) (p8 : List AV × Heap) : Option (List Tree) :=
  join (fun (p12 : List AV × Heap) => J66_16 n again7 p8 p12) fun (again13 : _ → Option (List Tree)) => cnd (((cI p8 6 1) == ((List.length (cL p8 6 0):Nat):Int)) = true) (again13 ([AV.t (tI (0:Int)),
  AV.t (Tree.bool false)], [AObj.box [AV.func (Fn.func 88) [] []], AObj.row false (oVer p8 1) (2:Nat) (oEs p8 1), AObj.box [AV.sref (1:Nat) (cVer p8 2 0) (cOff p8 2 0) (cLen p8 2 0)], AObj.box [AV.t
  (Tree.bool (cB p8 3 0))], AObj.box [], AObj.box [AV.t (Tree.sl (2:Nat) (cL p8 5 0)), AV.t (tI (cI p8 5 1)), AV.t (Tree.bool (cB p8 5 2))], AObj.box [AV.t (Tree.sl (2:Nat) (cL p8 6 0)), AV.t (tI (cI p8
  6 1)), AV.t (Tree.bool (cB p8 6 2))]])) (cnd (cB p8 6 2 = true) (cnd ((2:Nat) = (2:Nat) ∧ (0:Int) ≤ cI p8 6 1) (Option.bind (cL p8 6 0)[Int.toNat (cI p8 6 1)]? fun y14 => cnd (okI y14 1) (again13
  ([AV.t (tI (gI y14 1)), AV.t (Tree.bool true)], [AObj.box [AV.func (Fn.func 88) [] []], AObj.row false (oVer p8 1) (2:Nat) (oEs p8 1), AObj.box [AV.sref (1:Nat) (cVer p8 2 0) (cOff p8 2 0) (cLen p8 2
  0)], AObj.box [AV.t (Tree.bool (cB p8 3 0))], AObj.box [], AObj.box [AV.t (Tree.sl (2:Nat) (cL p8 5 0)), AV.t (tI (cI p8 5 1)), AV.t (Tree.bool (cB p8 5 2))], AObj.box [AV.t (Tree.sl (2:Nat) (cL p8 6
  0)), AV.t (tI (cI p8 6 1)), AV.t (Tree.bool (cB p8 6 2))]])) none) none) (cnd ((2:Nat) = (2:Nat) ∧ (0:Int) ≤ cI p8 6 1) (Option.bind (cL p8 6 0)[Int.toNat (cI p8 6 1)]? fun y15 => cnd (okI y15 0)
  (again13 ([AV.t (tI (gI y15 0)), AV.t (Tree.bool true)], [AObj.box [AV.func (Fn.func 88) [] []], AObj.row false (oVer p8 1) (2:Nat) (oEs p8 1), AObj.box [AV.sref (1:Nat) (cVer p8 2 0) (cOff p8 2 0)
  (cLen p8 2 0)], AObj.box [AV.t (Tree.bool (cB p8 3 0))], AObj.box [], AObj.box [AV.t (Tree.sl (2:Nat) (cL p8 5 0)), AV.t (tI (cI p8 5 1)), AV.t (Tree.bool (cB p8 5 2))], AObj.box [AV.t (Tree.sl
  (2:Nat) (cL p8 6 0)), AV.t (tI (cI p8 6 1)), AV.t (Tree.bool (cB p8 6 2))]])) none) none))

noncomputable def L66_18 (n : Nat)  (p6 : List AV × Heap) (again7 : (List AV × Heap) → Option (List Tree)) : Option (List Tree) :=
  join (fun (p8 : List AV × Heap) => J66_17 n again7 p8) fun (again9 : _ → Option (List Tree)) => cnd (((cI p6 5 1) == ((List.length (cL p6 5 0):Nat):Int)) = true) (again9 ([AV.t (tI (0:Int)), AV.t
  (Tree.bool false)], [AObj.box [AV.func (Fn.func 88) [] []], AObj.row false (oVer p6 1) (2:Nat) (oEs p6 1), AObj.box [AV.sref (1:Nat) (cVer p6 2 0) (cOff p6 2 0) (cLen p6 2 0)], AObj.box [AV.t
  (Tree.bool (cB p6 3 0))], AObj.box [], AObj.box [AV.t (Tree.sl (2:Nat) (cL p6 5 0)), AV.t (tI (cI p6 5 1)), AV.t (Tree.bool (cB p6 5 2))], AObj.box [AV.t (Tree.sl (2:Nat) (cL p6 6 0)), AV.t (tI (cI p6
  6 1)), AV.t (Tree.bool (cB p6 6 2))]])) (cnd (cB p6 5 2 = true) (cnd ((2:Nat) = (2:Nat) ∧ (0:Int) ≤ cI p6 5 1) (Option.bind (cL p6 5 0)[Int.toNat (cI p6 5 1)]? fun y10 => cnd (okI y10 1) (again9
  ([AV.t (tI (gI y10 1)), AV.t (Tree.bool true)], [AObj.box [AV.func (Fn.func 88) [] []], AObj.row false (oVer p6 1) (2:Nat) (oEs p6 1), AObj.box [AV.sref (1:Nat) (cVer p6 2 0) (cOff p6 2 0) (cLen p6 2
  0)], AObj.box [AV.t (Tree.bool (cB p6 3 0))], AObj.box [], AObj.box [AV.t (Tree.sl (2:Nat) (cL p6 5 0)), AV.t (tI (cI p6 5 1)), AV.t (Tree.bool (cB p6 5 2))], AObj.box [AV.t (Tree.sl (2:Nat) (cL p6 6
  0)), AV.t (tI (cI p6 6 1)), AV.t (Tree.bool (cB p6 6 2))]])) none) none) (cnd ((2:Nat) = (2:Nat) ∧ (0:Int) ≤ cI p6 5 1) (Option.bind (cL p6 5 0)[Int.toNat (cI p6 5 1)]? fun y11 => cnd (okI y11 0)
  (again9 ([AV.t (tI (gI y11 0)), AV.t (Tree.bool true)], [AObj.box [AV.func (Fn.func 88) [] []], AObj.row false (oVer p6 1) (2:Nat) (oEs p6 1), AObj.box [AV.sref (1:Nat) (cVer p6 2 0) (cOff p6 2 0)
  (cLen p6 2 0)], AObj.box [AV.t (Tree.bool (cB p6 3 0))], AObj.box [], AObj.box [AV.t (Tree.sl (2:Nat) (cL p6 5 0)), AV.t (tI (cI p6 5 1)), AV.t (Tree.bool (cB p6 5 2))], AObj.box [AV.t (Tree.sl
  (2:Nat) (cL p6 6 0)), AV.t (tI (cI p6 6 1)), AV.t (Tree.bool (cB p6 6 2))]])) none) none))

noncomputable def J66_19 (n : Nat) (again69 : (List AV × Heap) → Option (List Tree)) (p76 : List AV × Heap) : Option (List Tree) :=
  again69 ([], [AObj.box [AV.func (Fn.func 88) [] []], AObj.row false (oVer p76 1) (2:Nat) (oEs p76 1), AObj.box [AV.sref (1:Nat) (cVer p76 2 0) (cOff p76 2 0) (cLen p76 2 0)], AObj.box [AV.t (Tree.bool
  (cB p76 3 0))], AObj.box [], AObj.box [AV.t (Tree.sl (2:Nat) (cL p76 5 0)), AV.t (tI (cI p76 5 1)), AV.t (Tree.bool (cB p76 5 2))], AObj.box [AV.t (Tree.sl (2:Nat) (cL p76 6 0)), AV.t (tI (cI p76 6
  1)), AV.t (Tree.bool (!(cB p76 6 2)))]])

noncomputable def J66_20 (n : Nat) (again69 : (List AV × Heap) → Option (List Tree)) (p74 : List AV × Heap) : Option (List Tree) :=
  cnd (vB p74 0 = true) (again69 ([], [AObj.box [AV.func (Fn.func 88) [] []], AObj.row false (oVer p74 1) (2:Nat) (oEs p74 1), AObj.box [AV.sref (1:Nat) (cVer p74 2 0) (cOff p74 2 0) (cLen p74 2 0)],
  AObj.box [AV.t (Tree.bool (cB p74 3 0))], AObj.box [], AObj.box [AV.t (Tree.sl (2:Nat) (cL p74 5 0)), AV.t (tI (cI p74 5 1)), AV.t (Tree.bool (cB p74 5 2))], AObj.box [AV.t (Tree.sl (2:Nat) (cL p74 6
  0)), AV.t (tI (cI p74 6 1)), AV.t (Tree.bool (cB p74 6 2))]])) (join (fun (p76 : List AV × Heap) => J66_19 n again69 p76) fun (again77 : _ → Option (List Tree)) => cnd (cB p74 6 2 = true) (again77
  ([], [AObj.box [AV.func (Fn.func 88) [] []], AObj.row false (oVer p74 1) (2:Nat) (oEs p74 1), AObj.box [AV.sref (1:Nat) (cVer p74 2 0) (cOff p74 2 0) (cLen p74 2 0)], AObj.box [AV.t (Tree.bool (cB p74
  3 0))], AObj.box [], AObj.box [AV.t (Tree.sl (2:Nat) (cL p74 5 0)), AV.t (tI (cI p74 5 1)), AV.t (Tree.bool (cB p74 5 2))], AObj.box [AV.t (Tree.sl (2:Nat) (cL p74 6 0)), AV.t (tI (w64 ((cI p74 6 1) +
  (1:Int)))), AV.t (Tree.bool (cB p74 6 2))]])) (again77 ([], [AObj.box [AV.func (Fn.func 88) [] []], AObj.row false (oVer p74 1) (2:Nat) (oEs p74 1), AObj.box [AV.sref (1:Nat) (cVer p74 2 0) (cOff p74
  2 0) (cLen p74 2 0)], AObj.box [AV.t (Tree.bool (cB p74 3 0))], AObj.box [], AObj.box [AV.t (Tree.sl (2:Nat) (cL p74 5 0)), AV.t (tI (cI p74 5 1)), AV.t (Tree.bool (cB p74 5 2))], AObj.box [AV.t
  (Tree.sl (2:Nat) (cL p74 6 0)), AV.t (tI (cI p74 6 1)), AV.t (Tree.bool (cB p74 6 2))]])))

noncomputable def J66_21 (n : Nat) (again69 : (List AV × Heap) → Option (List Tree)) (p66 : List AV × Heap) (p70 : List AV × Heap) : Option (List Tree) :=
  join (fun (p74 : List AV × Heap) => J66_20 n again69 p74) fun (again75 : _ → Option (List Tree)) => cnd ((!(vB p70 1)) = true) (again75 ([AV.t (Tree.bool true)], [AObj.box [AV.func (Fn.func 88) []
  []], AObj.row false (oVer p70 1) (2:Nat) (oEs p70 1), AObj.box [AV.sref (1:Nat) (cVer p70 2 0) (cOff p70 2 0) (cLen p70 2 0)], AObj.box [AV.t (Tree.bool (cB p70 3 0))], AObj.box [], AObj.box [AV.t
  (Tree.sl (2:Nat) (cL p70 5 0)), AV.t (tI (cI p70 5 1)), AV.t (Tree.bool (cB p70 5 2))], AObj.box [AV.t (Tree.sl (2:Nat) (cL p70 6 0)), AV.t (tI (cI p70 6 1)), AV.t (Tree.bool (cB p70 6 2))]]))
  (again75 ([AV.t (Tree.bool ((vI p70 0) != (vI p66 0)))], [AObj.box [AV.func (Fn.func 88) [] []], AObj.row false (oVer p70 1) (2:Nat) (oEs p70 1), AObj.box [AV.sref (1:Nat) (cVer p70 2 0) (cOff p70 2
  0) (cLen p70 2 0)], AObj.box [AV.t (Tree.bool (cB p70 3 0))], AObj.box [], AObj.box [AV.t (Tree.sl (2:Nat) (cL p70 5 0)), AV.t (tI (cI p70 5 1)), AV.t (Tree.bool (cB p70 5 2))], AObj.box [AV.t
  (Tree.sl (2:Nat) (cL p70 6 0)), AV.t (tI (cI p70 6 1)), AV.t (Tree.bool (cB p70 6 2))]]))

noncomputable def J66_22 (n : Nat) (again79 : (List AV × Heap) → Option (List Tree)) (p86 : List AV × Heap) : Option (List Tree) :=
  again79 ([], [AObj.box [AV.func (Fn.func 88) [] []], AObj.row false (oVer p86 1) (2:Nat) (oEs p86 1), AObj.box [AV.sref (1:Nat) (cVer p86 2 0) (cOff p86 2 0) (cLen p86 2 0)], AObj.box [AV.t (Tree.bool
  (cB p86 3 0))], AObj.box [], AObj.box [AV.t (Tree.sl (2:Nat) (cL p86 5 0)), AV.t (tI (cI p86 5 1)), AV.t (Tree.bool (!(cB p86 5 2)))], AObj.box [AV.t (Tree.sl (2:Nat) (cL p86 6 0)), AV.t (tI (cI p86 6
  1)), AV.t (Tree.bool (cB p86 6 2))]])

noncomputable def J66_23 (n : Nat) (again79 : (List AV × Heap) → Option (List Tree)) (p84 : List AV × Heap) : Option (List Tree) :=
  cnd (vB p84 0 = true) (again79 ([], [AObj.box [AV.func (Fn.func 88) [] []], AObj.row false (oVer p84 1) (2:Nat) (oEs p84 1), AObj.box [AV.sref (1:Nat) (cVer p84 2 0) (cOff p84 2 0) (cLen p84 2 0)],
  AObj.box [AV.t (Tree.bool (cB p84 3 0))], AObj.box [], AObj.box [AV.t (Tree.sl (2:Nat) (cL p84 5 0)), AV.t (tI (cI p84 5 1)), AV.t (Tree.bool (cB p84 5 2))], AObj.box [AV.t (Tree.sl (2:Nat) (cL p84 6
  0)), AV.t (tI (cI p84 6 1)), AV.t (Tree.bool (cB p84 6 2))]])) (join (fun (p86 : List AV × Heap) => J66_22 n again79 p86) fun (again87 : _ → Option (List Tree)) => cnd (cB p84 5 2 = true) (again87
  ([], [AObj.box [AV.func (Fn.func 88) [] []], AObj.row false (oVer p84 1) (2:Nat) (oEs p84 1), AObj.box [AV.sref (1:Nat) (cVer p84 2 0) (cOff p84 2 0) (cLen p84 2 0)], AObj.box [AV.t (Tree.bool (cB p84
  3 0))], AObj.box [], AObj.box [AV.t (Tree.sl (2:Nat) (cL p84 5 0)), AV.t (tI (w64 ((cI p84 5 1) + (1:Int)))), AV.t (Tree.bool (cB p84 5 2))], AObj.box [AV.t (Tree.sl (2:Nat) (cL p84 6 0)), AV.t (tI
  (cI p84 6 1)), AV.t (Tree.bool (cB p84 6 2))]])) (again87 ([], [AObj.box [AV.func (Fn.func 88) [] []], AObj.row false (oVer p84 1) (2:Nat) (oEs p84 1), AObj.box [AV.sref (1:Nat) (cVer p84 2 0) (cOff
  p84 2 0) (cLen p84 2 0)], AObj.box [AV.t (Tree.bool (cB p84 3 0))], AObj.box [], AObj.box [AV.t (Tree.sl (2:Nat) (cL p84 5 0)), AV.t (tI (cI p84 5 1)), AV.t (Tree.bool (cB p84 5 2))], AObj.box [AV.t
  (Tree.sl (2:Nat) (cL p84 6 0)), AV.t (tI (cI p84 6 1)), AV.t (Tree.bool (cB p84 6 2))]])))

noncomputable def J66_24 (n : Nat) (again79 : (List AV × Heap) → Option (List Tree)) (p66 : List AV × Heap) (p80 : List AV × Heap) : Option (List Tree) :=
  join (fun (p84 : List AV × Heap) => J66_23 n again79 p84) fun (again85 : _ → Option (List Tree)) => cnd ((!(vB p80 1)) = true) (again85 ([AV.t (Tree.bool true)], [AObj.box [AV.func (Fn.func 88) []
  []], AObj.row false (oVer p80 1) (2:Nat) (oEs p80 1), AObj.box [AV.sref (1:Nat) (cVer p80 2 0) (cOff p80 2 0) (cLen p80 2 0)], AObj.box [AV.t (Tree.bool (cB p80 3 0))], AObj.box [], AObj.box [AV.t
  (Tree.sl (2:Nat) (cL p80 5 0)), AV.t (tI (cI p80 5 1)), AV.t (Tree.bool (cB p80 5 2))], AObj.box [AV.t (Tree.sl (2:Nat) (cL p80 6 0)), AV.t (tI (cI p80 6 1)), AV.t (Tree.bool (cB p80 6 2))]]))
  (again85 ([AV.t (Tree.bool ((vI p80 0) != (vI p66 0)))], [AObj.box [AV.func (Fn.func 88) [] []], AObj.row false (oVer p80 1) (2:Nat) (oEs p80 1), AObj.box [AV.sref (1:Nat) (cVer p80 2 0) (cOff p80 2
  0) (cLen p80 2 0)], AObj.box [AV.t (Tree.bool (cB p80 3 0))], AObj.box [], AObj.box [AV.t (Tree.sl (2:Nat) (cL p80 5 0)), AV.t (tI (cI p80 5 1)), AV.t (Tree.bool (cB p80 5 2))], AObj.box [AV.t
  (Tree.sl (2:Nat) (cL p80 6 0)), AV.t (tI (cI p80 6 1)), AV.t (Tree.bool (cB p80 6 2))]]))

noncomputable def J66_25 (n : Nat) (again92 : (List AV × Heap) → Option (List Tree)) (p95 : List AV × Heap) : Option (List Tree) :=
  again92 ([], [AObj.box [AV.func (Fn.func 88) [] []], AObj.row false (oVer p95 1) (2:Nat) (oEs p95 1), AObj.box [AV.sref (1:Nat) (cVer p95 2 0) (cOff p95 2 0) (cLen p95 2 0)], AObj.box [AV.t (Tree.bool
  (cB p95 3 0))], AObj.box [], AObj.box [AV.t (Tree.sl (2:Nat) (cL p95 5 0)), AV.t (tI (cI p95 5 1)), AV.t (Tree.bool (cB p95 5 2))], AObj.box [AV.t (Tree.sl (2:Nat) (cL p95 6 0)), AV.t (tI (cI p95 6
  1)), AV.t (Tree.bool (cB p95 6 2))], AObj.box [AV.t (Tree.bool (cB p95 7 0)), AV.t (Tree.bool (cB p95 7 1))]])

noncomputable def J66_26 (n : Nat) (again92 : (List AV × Heap) → Option (List Tree)) (p66 : List AV × Heap) (p93 : List AV × Heap) : Option (List Tree) :=
  join (fun (p95 : List AV × Heap) => J66_25 n again92 p95) fun (again96 : _ → Option (List Tree)) => cnd (vB p93 0 = true) (cnd (oVer p93 1 = cVer p93 2 0) (cnd (oVer p93 1 = cVer p93 2 0 ∧ (2:Nat) =
  (2:Nat) ∧ (0:Int) ≤ w64 (((cLen p93 2 0:Nat):Int) - (1:Int)) ∧ w64 (((cLen p93 2 0:Nat):Int) - (1:Int)) < ((cLen p93 2 0:Nat):Int)) (cnd (oVer p93 1 = cVer p93 2 0) (cnd (oVer p93 1 = cVer p93 2 0 ∧
  (2:Nat) ≤ (2:Nat)) (Option.bind (oEs p93 1)[(cOff p93 2 0) + (Int.toNat (w64 (((cLen p93 2 0:Nat):Int) - (1:Int))))]? fun y97 => again96 ([], [AObj.box [AV.func (Fn.func 88) [] []], AObj.row false
  (cVer p93 2 0) (2:Nat) (List.set (oEs p93 1) ((cOff p93 2 0) + (Int.toNat (w64 (((cLen p93 2 0:Nat):Int) - (1:Int))))) (List.take (1:Nat) y97 ++ ([tI (vI p66 0)] ++ List.drop (2:Nat) y97))), AObj.box
  [AV.sref (1:Nat) (cVer p93 2 0) (cOff p93 2 0) (cLen p93 2 0)], AObj.box [AV.t (Tree.bool (cB p93 3 0))], AObj.box [], AObj.box [AV.t (Tree.sl (2:Nat) (cL p93 5 0)), AV.t (tI (cI p93 5 1)), AV.t
  (Tree.bool (cB p93 5 2))], AObj.box [AV.t (Tree.sl (2:Nat) (cL p93 6 0)), AV.t (tI (cI p93 6 1)), AV.t (Tree.bool (cB p93 6 2))], AObj.box [AV.t (Tree.bool (cB p93 7 0)), AV.t (Tree.bool (cB p93 7
  1))]])) none) none) none) none) (again96 ([], [AObj.box [AV.func (Fn.func 88) [] []], AObj.row false (oVer p93 1) (2:Nat) (oEs p93 1), AObj.box [AV.sref (1:Nat) (cVer p93 2 0) (cOff p93 2 0) (cLen p93
  2 0)], AObj.box [AV.t (Tree.bool (cB p93 3 0))], AObj.box [], AObj.box [AV.t (Tree.sl (2:Nat) (cL p93 5 0)), AV.t (tI (cI p93 5 1)), AV.t (Tree.bool (cB p93 5 2))], AObj.box [AV.t (Tree.sl (2:Nat) (cL
  p93 6 0)), AV.t (tI (cI p93 6 1)), AV.t (Tree.bool (cB p93 6 2))], AObj.box [AV.t (Tree.bool (cB p93 7 0)), AV.t (Tree.bool (cB p93 7 1))]]))

noncomputable def J66_27 (n : Nat) (again53 : (List AV × Heap) → Option (List Tree)) (y88 : List Tree) (p91 : List AV × Heap) : Option (List Tree) :=
  again53 ([], [AObj.box [AV.func (Fn.func 88) [] []], AObj.row false (oVer p91 1) (2:Nat) (oEs p91 1), AObj.box [AV.sref (1:Nat) (cVer p91 2 0) (cOff p91 2 0) (cLen p91 2 0)], AObj.box [AV.t (Tree.bool
  (gB y88 0))], AObj.box [], AObj.box [AV.t (Tree.sl (2:Nat) (cL p91 5 0)), AV.t (tI (cI p91 5 1)), AV.t (Tree.bool (cB p91 5 2))], AObj.box [AV.t (Tree.sl (2:Nat) (cL p91 6 0)), AV.t (tI (cI p91 6 1)),
  AV.t (Tree.bool (cB p91 6 2))]])

noncomputable def J66_28 (n : Nat) (again53 : (List AV × Heap) → Option (List Tree)) (y88 : List Tree) (p66 : List AV × Heap) (p89 : List AV × Heap) : Option (List Tree) :=
  join (fun (p91 : List AV × Heap) => J66_27 n again53 y88 p91) fun (again92 : _ → Option (List Tree)) => cnd (vB p89 0 = true) (cnd (oVer p89 1 = cVer p89 2 0 ∧ ((2:Nat) = (2:Nat) ∨ (2:Nat) = (0:Nat))
  ∧ (cOff p89 2 0) + (cLen p89 2 0) ≤ List.length (oEs p89 1) ∧ (cLen p89 2 0) + (1:Nat) ≤ (1073741824:Nat)) (again92 ([], [AObj.box [AV.func (Fn.func 88) [] []], AObj.row false ((cVer p89 2 0) +
  (1:Nat)) (2:Nat) ((List.take (cLen p89 2 0) (List.drop (cOff p89 2 0) (oEs p89 1))) ++ [[tI (vI p66 0), tI (0:Int)]]), AObj.box [AV.sref (1:Nat) ((cVer p89 2 0) + (1:Nat)) (0:Nat) ((cLen p89 2 0) +
  (1:Nat))], AObj.box [AV.t (Tree.bool (cB p89 3 0))], AObj.box [], AObj.box [AV.t (Tree.sl (2:Nat) (cL p89 5 0)), AV.t (tI (cI p89 5 1)), AV.t (Tree.bool (cB p89 5 2))], AObj.box [AV.t (Tree.sl (2:Nat)
  (cL p89 6 0)), AV.t (tI (cI p89 6 1)), AV.t (Tree.bool (cB p89 6 2))], AObj.box [AV.t (Tree.bool (cB p89 7 0)), AV.t (Tree.bool (cB p89 7 1))]])) none) (join (fun (p93 : List AV × Heap) => J66_26 n
  again92 p66 p93) fun (again94 : _ → Option (List Tree)) => cnd ((!(gB y88 0)) = true) (again94 ([AV.t (Tree.bool (cB p89 3 0))], [AObj.box [AV.func (Fn.func 88) [] []], AObj.row false (oVer p89 1)
  (2:Nat) (oEs p89 1), AObj.box [AV.sref (1:Nat) (cVer p89 2 0) (cOff p89 2 0) (cLen p89 2 0)], AObj.box [AV.t (Tree.bool (cB p89 3 0))], AObj.box [], AObj.box [AV.t (Tree.sl (2:Nat) (cL p89 5 0)), AV.t
  (tI (cI p89 5 1)), AV.t (Tree.bool (cB p89 5 2))], AObj.box [AV.t (Tree.sl (2:Nat) (cL p89 6 0)), AV.t (tI (cI p89 6 1)), AV.t (Tree.bool (cB p89 6 2))], AObj.box [AV.t (Tree.bool (cB p89 7 0)), AV.t
  (Tree.bool (cB p89 7 1))]])) (again94 ([AV.t (Tree.bool false)], [AObj.box [AV.func (Fn.func 88) [] []], AObj.row false (oVer p89 1) (2:Nat) (oEs p89 1), AObj.box [AV.sref (1:Nat) (cVer p89 2 0) (cOff
  p89 2 0) (cLen p89 2 0)], AObj.box [AV.t (Tree.bool (cB p89 3 0))], AObj.box [], AObj.box [AV.t (Tree.sl (2:Nat) (cL p89 5 0)), AV.t (tI (cI p89 5 1)), AV.t (Tree.bool (cB p89 5 2))], AObj.box [AV.t
  (Tree.sl (2:Nat) (cL p89 6 0)), AV.t (tI (cI p89 6 1)), AV.t (Tree.bool (cB p89 6 2))], AObj.box [AV.t (Tree.bool (cB p89 7 0)), AV.t (Tree.bool (cB p89 7 1))]])))

noncomputable def J66_29 (n : Nat) (again53 : (List AV × Heap) → Option (List Tree)) (p66 : List AV × Heap) (p78 : List AV × Heap) : Option (List Tree) :=
  Option.bind (apure C n (88:Nat) [Tree.bool (cB p78 6 2), Tree.bool (cB p78 5 2)]) fun y88 => cnd (List.length y88 = (1:Nat)) (cnd (okB y88 0) (join (fun (p89 : List AV × Heap) => J66_28 n again53 y88
  p66 p89) fun (again90 : _ → Option (List Tree)) => cnd (gB y88 0 = true) (again90 ([AV.t (Tree.bool (!(cB p78 3 0)))], [AObj.box [AV.func (Fn.func 88) [] []], AObj.row false (oVer p78 1) (2:Nat) (oEs
  p78 1), AObj.box [AV.sref (1:Nat) (cVer p78 2 0) (cOff p78 2 0) (cLen p78 2 0)], AObj.box [AV.t (Tree.bool (cB p78 3 0))], AObj.box [], AObj.box [AV.t (Tree.sl (2:Nat) (cL p78 5 0)), AV.t (tI (cI p78
  5 1)), AV.t (Tree.bool (cB p78 5 2))], AObj.box [AV.t (Tree.sl (2:Nat) (cL p78 6 0)), AV.t (tI (cI p78 6 1)), AV.t (Tree.bool (cB p78 6 2))], AObj.box [AV.t (Tree.bool (cB p78 6 2)), AV.t (Tree.bool
  (cB p78 5 2))]])) (again90 ([AV.t (Tree.bool false)], [AObj.box [AV.func (Fn.func 88) [] []], AObj.row false (oVer p78 1) (2:Nat) (oEs p78 1), AObj.box [AV.sref (1:Nat) (cVer p78 2 0) (cOff p78 2 0)
  (cLen p78 2 0)], AObj.box [AV.t (Tree.bool (cB p78 3 0))], AObj.box [], AObj.box [AV.t (Tree.sl (2:Nat) (cL p78 5 0)), AV.t (tI (cI p78 5 1)), AV.t (Tree.bool (cB p78 5 2))], AObj.box [AV.t (Tree.sl
  (2:Nat) (cL p78 6 0)), AV.t (tI (cI p78 6 1)), AV.t (Tree.bool (cB p78 6 2))], AObj.box [AV.t (Tree.bool (cB p78 6 2)), AV.t (Tree.bool (cB p78 5 2))]]))) none) none

noncomputable def J66_30 (n : Nat) (again53 : (List AV × Heap) → Option (List Tree)) (p66 : List AV × Heap) (p68 : List AV × Heap) : Option (List Tree) :=
  join (fun (p78 : List AV × Heap) => J66_29 n again53 p66 p78) fun (again79 : _ → Option (List Tree)) => join (fun (p80 : List AV × Heap) => J66_24 n again79 p66 p80) fun (again81 : _ → Option (List
  Tree)) => cnd (((cI p68 5 1) == ((List.length (cL p68 5 0):Nat):Int)) = true) (again81 ([AV.t (tI (0:Int)), AV.t (Tree.bool false)], [AObj.box [AV.func (Fn.func 88) [] []], AObj.row false (oVer p68 1)
  (2:Nat) (oEs p68 1), AObj.box [AV.sref (1:Nat) (cVer p68 2 0) (cOff p68 2 0) (cLen p68 2 0)], AObj.box [AV.t (Tree.bool (cB p68 3 0))], AObj.box [], AObj.box [AV.t (Tree.sl (2:Nat) (cL p68 5 0)), AV.t
  (tI (cI p68 5 1)), AV.t (Tree.bool (cB p68 5 2))], AObj.box [AV.t (Tree.sl (2:Nat) (cL p68 6 0)), AV.t (tI (cI p68 6 1)), AV.t (Tree.bool (cB p68 6 2))]])) (cnd (cB p68 5 2 = true) (cnd ((2:Nat) =
  (2:Nat) ∧ (0:Int) ≤ cI p68 5 1) (Option.bind (cL p68 5 0)[Int.toNat (cI p68 5 1)]? fun y82 => cnd (okI y82 1) (again81 ([AV.t (tI (gI y82 1)), AV.t (Tree.bool true)], [AObj.box [AV.func (Fn.func 88)
  [] []], AObj.row false (oVer p68 1) (2:Nat) (oEs p68 1), AObj.box [AV.sref (1:Nat) (cVer p68 2 0) (cOff p68 2 0) (cLen p68 2 0)], AObj.box [AV.t (Tree.bool (cB p68 3 0))], AObj.box [], AObj.box [AV.t
  (Tree.sl (2:Nat) (cL p68 5 0)), AV.t (tI (cI p68 5 1)), AV.t (Tree.bool (cB p68 5 2))], AObj.box [AV.t (Tree.sl (2:Nat) (cL p68 6 0)), AV.t (tI (cI p68 6 1)), AV.t (Tree.bool (cB p68 6 2))]])) none)
  none) (cnd ((2:Nat) = (2:Nat) ∧ (0:Int) ≤ cI p68 5 1) (Option.bind (cL p68 5 0)[Int.toNat (cI p68 5 1)]? fun y83 => cnd (okI y83 0) (again81 ([AV.t (tI (gI y83 0)), AV.t (Tree.bool true)], [AObj.box
  [AV.func (Fn.func 88) [] []], AObj.row false (oVer p68 1) (2:Nat) (oEs p68 1), AObj.box [AV.sref (1:Nat) (cVer p68 2 0) (cOff p68 2 0) (cLen p68 2 0)], AObj.box [AV.t (Tree.bool (cB p68 3 0))],
  AObj.box [], AObj.box [AV.t (Tree.sl (2:Nat) (cL p68 5 0)), AV.t (tI (cI p68 5 1)), AV.t (Tree.bool (cB p68 5 2))], AObj.box [AV.t (Tree.sl (2:Nat) (cL p68 6 0)), AV.t (tI (cI p68 6 1)), AV.t
  (Tree.bool (cB p68 6 2))]])) none) none))

noncomputable def J66_31 (n : Nat) (again53 : (List AV × Heap) → Option (List Tree)) (p66 : List AV × Heap) : Option (List Tree) :=
  join (fun (p68 : List AV × Heap) => J66_30 n again53 p66 p68) fun (again69 : _ → Option (List Tree)) => join (fun (p70 : List AV × Heap) => J66_21 n again69 p66 p70) fun (again71 : _ → Option (List
  Tree)) => cnd (((cI p66 6 1) == ((List.length (cL p66 6 0):Nat):Int)) = true) (again71 ([AV.t (tI (0:Int)), AV.t (Tree.bool false)], [AObj.box [AV.func (Fn.func 88) [] []], AObj.row false (oVer p66 1)
  (2:Nat) (oEs p66 1), AObj.box [AV.sref (1:Nat) (cVer p66 2 0) (cOff p66 2 0) (cLen p66 2 0)], AObj.box [AV.t (Tree.bool (cB p66 3 0))], AObj.box [], AObj.box [AV.t (Tree.sl (2:Nat) (cL p66 5 0)), AV.t
  (tI (cI p66 5 1)), AV.t (Tree.bool (cB p66 5 2))], AObj.box [AV.t (Tree.sl (2:Nat) (cL p66 6 0)), AV.t (tI (cI p66 6 1)), AV.t (Tree.bool (cB p66 6 2))]])) (cnd (cB p66 6 2 = true) (cnd ((2:Nat) =
  (2:Nat) ∧ (0:Int) ≤ cI p66 6 1) (Option.bind (cL p66 6 0)[Int.toNat (cI p66 6 1)]? fun y72 => cnd (okI y72 1) (again71 ([AV.t (tI (gI y72 1)), AV.t (Tree.bool true)], [AObj.box [AV.func (Fn.func 88)
  [] []], AObj.row false (oVer p66 1) (2:Nat) (oEs p66 1), AObj.box [AV.sref (1:Nat) (cVer p66 2 0) (cOff p66 2 0) (cLen p66 2 0)], AObj.box [AV.t (Tree.bool (cB p66 3 0))], AObj.box [], AObj.box [AV.t
  (Tree.sl (2:Nat) (cL p66 5 0)), AV.t (tI (cI p66 5 1)), AV.t (Tree.bool (cB p66 5 2))], AObj.box [AV.t (Tree.sl (2:Nat) (cL p66 6 0)), AV.t (tI (cI p66 6 1)), AV.t (Tree.bool (cB p66 6 2))]])) none)
  none) (cnd ((2:Nat) = (2:Nat) ∧ (0:Int) ≤ cI p66 6 1) (Option.bind (cL p66 6 0)[Int.toNat (cI p66 6 1)]? fun y73 => cnd (okI y73 0) (again71 ([AV.t (tI (gI y73 0)), AV.t (Tree.bool true)], [AObj.box
  [AV.func (Fn.func 88) [] []], AObj.row false (oVer p66 1) (2:Nat) (oEs p66 1), AObj.box [AV.sref (1:Nat) (cVer p66 2 0) (cOff p66 2 0) (cLen p66 2 0)], AObj.box [AV.t (Tree.bool (cB p66 3 0))],
  AObj.box [], AObj.box [AV.t (Tree.sl (2:Nat) (cL p66 5 0)), AV.t (tI (cI p66 5 1)), AV.t (Tree.bool (cB p66 5 2))], AObj.box [AV.t (Tree.sl (2:Nat) (cL p66 6 0)), AV.t (tI (cI p66 6 1)), AV.t
  (Tree.bool (cB p66 6 2))]])) none) none))

noncomputable def J66_32 (n : Nat) (again53 : (List AV × Heap) → Option (List Tree)) (p58 : List AV × Heap) (p54 : List AV × Heap) (p64 : List AV × Heap) : Option (List Tree) :=
  join (fun (p66 : List AV × Heap) => J66_31 n again53 p66) fun (again67 : _ → Option (List Tree)) => cnd (vB p64 0 = true) (again67 ([AV.t (tI (vI p58 0))], [AObj.box [AV.func (Fn.func 88) [] []],
  AObj.row false (oVer p64 1) (2:Nat) (oEs p64 1), AObj.box [AV.sref (1:Nat) (cVer p64 2 0) (cOff p64 2 0) (cLen p64 2 0)], AObj.box [AV.t (Tree.bool (cB p64 3 0))], AObj.box [], AObj.box [AV.t (Tree.sl
  (2:Nat) (cL p64 5 0)), AV.t (tI (cI p64 5 1)), AV.t (Tree.bool (cB p64 5 2))], AObj.box [AV.t (Tree.sl (2:Nat) (cL p64 6 0)), AV.t (tI (cI p64 6 1)), AV.t (Tree.bool (cB p64 6 2))]])) (again67 ([AV.t
  (tI (vI p54 0))], [AObj.box [AV.func (Fn.func 88) [] []], AObj.row false (oVer p64 1) (2:Nat) (oEs p64 1), AObj.box [AV.sref (1:Nat) (cVer p64 2 0) (cOff p64 2 0) (cLen p64 2 0)], AObj.box [AV.t
  (Tree.bool (cB p64 3 0))], AObj.box [], AObj.box [AV.t (Tree.sl (2:Nat) (cL p64 5 0)), AV.t (tI (cI p64 5 1)), AV.t (Tree.bool (cB p64 5 2))], AObj.box [AV.t (Tree.sl (2:Nat) (cL p64 6 0)), AV.t (tI
  (cI p64 6 1)), AV.t (Tree.bool (cB p64 6 2))]]))

noncomputable def J66_33 (n : Nat) (again53 : (List AV × Heap) → Option (List Tree)) (p58 : List AV × Heap) (p54 : List AV × Heap) (p62 : List AV × Heap) : Option (List Tree) :=
  cnd (vB p62 0 = true) (cnd (oVer p62 1 = cVer p62 2 0) (cnd (decide (((cLen p62 2 0:Nat):Int) > (1000:Int)) = true) (some [Tree.sl (2:Nat) [], tI (4:Int)]) (cnd ((false = true ∨ false = false) ∧ oVer
  p62 1 = cVer p62 2 0 ∧ ((2:Nat) = (2:Nat) ∨ (2:Nat) = (0:Nat))) (some [Tree.sl (2:Nat) (List.take (cLen p62 2 0) (List.drop (cOff p62 2 0) (oEs p62 1))), tI (0:Int)]) none)) none) (join (fun (p64 :
  List AV × Heap) => J66_32 n again53 p58 p54 p64) fun (again65 : _ → Option (List Tree)) => cnd ((!(vB p54 1)) = true) (again65 ([AV.t (Tree.bool true)], [AObj.box [AV.func (Fn.func 88) [] []],
  AObj.row false (oVer p62 1) (2:Nat) (oEs p62 1), AObj.box [AV.sref (1:Nat) (cVer p62 2 0) (cOff p62 2 0) (cLen p62 2 0)], AObj.box [AV.t (Tree.bool (cB p62 3 0))], AObj.box [], AObj.box [AV.t (Tree.sl
  (2:Nat) (cL p62 5 0)), AV.t (tI (cI p62 5 1)), AV.t (Tree.bool (cB p62 5 2))], AObj.box [AV.t (Tree.sl (2:Nat) (cL p62 6 0)), AV.t (tI (cI p62 6 1)), AV.t (Tree.bool (cB p62 6 2))]])) (cnd (vB p58 1 =
  true) (again65 ([AV.t (Tree.bool (decide (vI p58 0 < vI p54 0)))], [AObj.box [AV.func (Fn.func 88) [] []], AObj.row false (oVer p62 1) (2:Nat) (oEs p62 1), AObj.box [AV.sref (1:Nat) (cVer p62 2 0)
  (cOff p62 2 0) (cLen p62 2 0)], AObj.box [AV.t (Tree.bool (cB p62 3 0))], AObj.box [], AObj.box [AV.t (Tree.sl (2:Nat) (cL p62 5 0)), AV.t (tI (cI p62 5 1)), AV.t (Tree.bool (cB p62 5 2))], AObj.box
  [AV.t (Tree.sl (2:Nat) (cL p62 6 0)), AV.t (tI (cI p62 6 1)), AV.t (Tree.bool (cB p62 6 2))]])) (again65 ([AV.t (Tree.bool false)], [AObj.box [AV.func (Fn.func 88) [] []], AObj.row false (oVer p62 1)
  (2:Nat) (oEs p62 1), AObj.box [AV.sref (1:Nat) (cVer p62 2 0) (cOff p62 2 0) (cLen p62 2 0)], AObj.box [AV.t (Tree.bool (cB p62 3 0))], AObj.box [], AObj.box [AV.t (Tree.sl (2:Nat) (cL p62 5 0)), AV.t
  (tI (cI p62 5 1)), AV.t (Tree.bool (cB p62 5 2))], AObj.box [AV.t (Tree.sl (2:Nat) (cL p62 6 0)), AV.t (tI (cI p62 6 1)), AV.t (Tree.bool (cB p62 6 2))]]))))

noncomputable def J66_34 (n : Nat) (again53 : (List AV × Heap) → Option (List Tree)) (p54 : List AV × Heap) (p58 : List AV × Heap) : Option (List Tree) :=
  join (fun (p62 : List AV × Heap) => J66_33 n again53 p58 p54 p62) fun (again63 : _ → Option (List Tree)) => cnd ((!(vB p54 1)) = true) (again63 ([AV.t (Tree.bool (!(vB p58 1)))], [AObj.box [AV.func
  (Fn.func 88) [] []], AObj.row false (oVer p58 1) (2:Nat) (oEs p58 1), AObj.box [AV.sref (1:Nat) (cVer p58 2 0) (cOff p58 2 0) (cLen p58 2 0)], AObj.box [AV.t (Tree.bool (cB p58 3 0))], AObj.box [],
  AObj.box [AV.t (Tree.sl (2:Nat) (cL p58 5 0)), AV.t (tI (cI p58 5 1)), AV.t (Tree.bool (cB p58 5 2))], AObj.box [AV.t (Tree.sl (2:Nat) (cL p58 6 0)), AV.t (tI (cI p58 6 1)), AV.t (Tree.bool (cB p58 6
  2))]])) (again63 ([AV.t (Tree.bool false)], [AObj.box [AV.func (Fn.func 88) [] []], AObj.row false (oVer p58 1) (2:Nat) (oEs p58 1), AObj.box [AV.sref (1:Nat) (cVer p58 2 0) (cOff p58 2 0) (cLen p58 2
  0)], AObj.box [AV.t (Tree.bool (cB p58 3 0))], AObj.box [], AObj.box [AV.t (Tree.sl (2:Nat) (cL p58 5 0)), AV.t (tI (cI p58 5 1)), AV.t (Tree.bool (cB p58 5 2))], AObj.box [AV.t (Tree.sl (2:Nat) (cL
  p58 6 0)), AV.t (tI (cI p58 6 1)), AV.t (Tree.bool (cB p58 6 2))]]))

noncomputable def J66_35 (n : Nat) (again53 : (List AV × Heap) → Option (List Tree)) (p54 : List AV × Heap) : Option (List Tree) :=
  join (fun (p58 : List AV × Heap) => J66_34 n again53 p54 p58) fun (again59 : _ → Option (List Tree)) => cnd (((cI p54 5 1) == ((List.length (cL p54 5 0):Nat):Int)) = true) (again59 ([AV.t (tI
  (0:Int)), AV.t (Tree.bool false)], [AObj.box [AV.func (Fn.func 88) [] []], AObj.row false (oVer p54 1) (2:Nat) (oEs p54 1), AObj.box [AV.sref (1:Nat) (cVer p54 2 0) (cOff p54 2 0) (cLen p54 2 0)],
  AObj.box [AV.t (Tree.bool (cB p54 3 0))], AObj.box [], AObj.box [AV.t (Tree.sl (2:Nat) (cL p54 5 0)), AV.t (tI (cI p54 5 1)), AV.t (Tree.bool (cB p54 5 2))], AObj.box [AV.t (Tree.sl (2:Nat) (cL p54 6
  0)), AV.t (tI (cI p54 6 1)), AV.t (Tree.bool (cB p54 6 2))]])) (cnd (cB p54 5 2 = true) (cnd ((2:Nat) = (2:Nat) ∧ (0:Int) ≤ cI p54 5 1) (Option.bind (cL p54 5 0)[Int.toNat (cI p54 5 1)]? fun y60 =>
  cnd (okI y60 1) (again59 ([AV.t (tI (gI y60 1)), AV.t (Tree.bool true)], [AObj.box [AV.func (Fn.func 88) [] []], AObj.row false (oVer p54 1) (2:Nat) (oEs p54 1), AObj.box [AV.sref (1:Nat) (cVer p54 2
  0) (cOff p54 2 0) (cLen p54 2 0)], AObj.box [AV.t (Tree.bool (cB p54 3 0))], AObj.box [], AObj.box [AV.t (Tree.sl (2:Nat) (cL p54 5 0)), AV.t (tI (cI p54 5 1)), AV.t (Tree.bool (cB p54 5 2))],
  AObj.box [AV.t (Tree.sl (2:Nat) (cL p54 6 0)), AV.t (tI (cI p54 6 1)), AV.t (Tree.bool (cB p54 6 2))]])) none) none) (cnd ((2:Nat) = (2:Nat) ∧ (0:Int) ≤ cI p54 5 1) (Option.bind (cL p54 5 0)[Int.toNat
  (cI p54 5 1)]? fun y61 => cnd (okI y61 0) (again59 ([AV.t (tI (gI y61 0)), AV.t (Tree.bool true)], [AObj.box [AV.func (Fn.func 88) [] []], AObj.row false (oVer p54 1) (2:Nat) (oEs p54 1), AObj.box
  [AV.sref (1:Nat) (cVer p54 2 0) (cOff p54 2 0) (cLen p54 2 0)], AObj.box [AV.t (Tree.bool (cB p54 3 0))], AObj.box [], AObj.box [AV.t (Tree.sl (2:Nat) (cL p54 5 0)), AV.t (tI (cI p54 5 1)), AV.t
  (Tree.bool (cB p54 5 2))], AObj.box [AV.t (Tree.sl (2:Nat) (cL p54 6 0)), AV.t (tI (cI p54 6 1)), AV.t (Tree.bool (cB p54 6 2))]])) none) none))

noncomputable def L66_36 (n : Nat)  (p52 : List AV × Heap) (again53 : (List AV × Heap) → Option (List Tree)) : Option (List Tree) :=
  join (fun (p54 : List AV × Heap) => J66_35 n again53 p54) fun (again55 : _ → Option (List Tree)) => cnd (((cI p52 6 1) == ((List.length (cL p52 6 0):Nat):Int)) = true) (again55 ([AV.t (tI (0:Int)),
  AV.t (Tree.bool false)], [AObj.box [AV.func (Fn.func 88) [] []], AObj.row false (oVer p52 1) (2:Nat) (oEs p52 1), AObj.box [AV.sref (1:Nat) (cVer p52 2 0) (cOff p52 2 0) (cLen p52 2 0)], AObj.box
  [AV.t (Tree.bool (cB p52 3 0))], AObj.box [], AObj.box [AV.t (Tree.sl (2:Nat) (cL p52 5 0)), AV.t (tI (cI p52 5 1)), AV.t (Tree.bool (cB p52 5 2))], AObj.box [AV.t (Tree.sl (2:Nat) (cL p52 6 0)), AV.t
  (tI (cI p52 6 1)), AV.t (Tree.bool (cB p52 6 2))]])) (cnd (cB p52 6 2 = true) (cnd ((2:Nat) = (2:Nat) ∧ (0:Int) ≤ cI p52 6 1) (Option.bind (cL p52 6 0)[Int.toNat (cI p52 6 1)]? fun y56 => cnd (okI y56
  1) (again55 ([AV.t (tI (gI y56 1)), AV.t (Tree.bool true)], [AObj.box [AV.func (Fn.func 88) [] []], AObj.row false (oVer p52 1) (2:Nat) (oEs p52 1), AObj.box [AV.sref (1:Nat) (cVer p52 2 0) (cOff p52
  2 0) (cLen p52 2 0)], AObj.box [AV.t (Tree.bool (cB p52 3 0))], AObj.box [], AObj.box [AV.t (Tree.sl (2:Nat) (cL p52 5 0)), AV.t (tI (cI p52 5 1)), AV.t (Tree.bool (cB p52 5 2))], AObj.box [AV.t
  (Tree.sl (2:Nat) (cL p52 6 0)), AV.t (tI (cI p52 6 1)), AV.t (Tree.bool (cB p52 6 2))]])) none) none) (cnd ((2:Nat) = (2:Nat) ∧ (0:Int) ≤ cI p52 6 1) (Option.bind (cL p52 6 0)[Int.toNat (cI p52 6 1)]?
  fun y57 => cnd (okI y57 0) (again55 ([AV.t (tI (gI y57 0)), AV.t (Tree.bool true)], [AObj.box [AV.func (Fn.func 88) [] []], AObj.row false (oVer p52 1) (2:Nat) (oEs p52 1), AObj.box [AV.sref (1:Nat)
  (cVer p52 2 0) (cOff p52 2 0) (cLen p52 2 0)], AObj.box [AV.t (Tree.bool (cB p52 3 0))], AObj.box [], AObj.box [AV.t (Tree.sl (2:Nat) (cL p52 5 0)), AV.t (tI (cI p52 5 1)), AV.t (Tree.bool (cB p52 5
  2))], AObj.box [AV.t (Tree.sl (2:Nat) (cL p52 6 0)), AV.t (tI (cI p52 6 1)), AV.t (Tree.bool (cB p52 6 2))]])) none) none))

noncomputable def J66_37 (n : Nat) (a0 : List (List Tree)) (a1 : List (List Tree)) (p2 : List AV × Heap) : Option (List Tree) :=
  cnd (vB p2 0 = true) (some [Tree.sl (2:Nat) [], tI (1:Int)]) (both (loopIter (fun (p6 : List AV × Heap) (again7 : _ → Option (List Tree)) => L66_18 n p6 again7) n ([], [AObj.box [AV.func (Fn.func 88)
  [] []], AObj.row false (0:Nat) (2:Nat) [], AObj.box [AV.sref (1:Nat) (0:Nat) (0:Nat) (0:Nat)], AObj.box [AV.t (Tree.bool false)], AObj.box [], AObj.box [AV.t (Tree.sl (2:Nat) a0), AV.t (tI (0:Int)),
  AV.t (Tree.bool false)], AObj.box [AV.t (Tree.sl (2:Nat) a1), AV.t (tI (0:Int)), AV.t (Tree.bool false)]])) (loopIter (fun (p52 : List AV × Heap) (again53 : _ → Option (List Tree)) => L66_36 n p52
  again53) n ([], [AObj.box [AV.func (Fn.func 88) [] []], AObj.row false (0:Nat) (2:Nat) [], AObj.box [AV.sref (1:Nat) (0:Nat) (0:Nat) (0:Nat)], AObj.box [AV.t (Tree.bool false)], AObj.box [], AObj.box
  [AV.t (Tree.sl (2:Nat) a1), AV.t (tI (0:Int)), AV.t (Tree.bool false)], AObj.box [AV.t (Tree.sl (2:Nat) a0), AV.t (tI (0:Int)), AV.t (Tree.bool false)]])))
theorem e66 (n : Nat) (a0 : List (List Tree)) (a1 : List (List Tree)) : apure C (n + 1) 66 [Tree.sl (2:Nat) a0, Tree.sl (2:Nat) a1] =
  join (fun (p2 : List AV × Heap) => J66_37 n a0 a1 p2) fun (again3 : _ → Option (List Tree)) => Option.bind (apure C n (46:Nat) [Tree.sl (2:Nat) a0]) fun y4 => cnd (List.length y4 = (1:Nat)) (cnd (okI
  y4 0) (cnd (((gI y4 0) != (0:Int)) = true) (again3 ([AV.t (Tree.bool true)], [AObj.box [AV.func (Fn.func 88) [] []]])) (Option.bind (apure C n (46:Nat) [Tree.sl (2:Nat) a1]) fun y5 => cnd (List.length
  y5 = (1:Nat)) (cnd (okI y5 0) (again3 ([AV.t (Tree.bool ((gI y5 0) != (0:Int)))], [AObj.box [AV.func (Fn.func 88) [] []]])) none) none)) none) none := by kernel_rfl

theorem e67 (n : Nat) (a0 : List (List Tree)) (a1 : List (List Tree)) : apure C (n + 1) 67 [Tree.sl (2:Nat) a0, Tree.sl (2:Nat) a1] =
  Option.bind (apure C n (78:Nat) [Tree.sl (2:Nat) a0]) fun y4 => cnd (List.length y4 = (1:Nat)) (cnd (okI y4 0) (cnd (((gI y4 0) != (0:Int)) = true) (some [Tree.bool true]) (Option.bind (apure C n
  (78:Nat) [Tree.sl (2:Nat) a1]) fun y5 => cnd (List.length y5 = (1:Nat)) (cnd (okI y5 0) (some [Tree.bool ((gI y5 0) != (0:Int))]) none) none)) none) none := by kernel_rfl

theorem e69 (n : Nat) (a0 : List (List Tree)) : apure C (n + 1) 69 [Tree.sl (2:Nat) a0] =
  cnd (decide (((List.length a0:Nat):Int) > (1000:Int)) = true) (some [Tree.sl (2:Nat) [], tI (4:Int)]) (some [Tree.sl (2:Nat) a0, tI (0:Int)]) := by kernel_rfl

theorem e70 (n : Nat) (a0 : Int) (a1 : Int) : apure C (n + 1) 70 [tI a0, tI a1] =
  cnd (decide (a0 < a1) = true) (cnd (decide (a0 ≥ (-1152921504606846976:Int)) = true) (some [Tree.bool (decide (a1 ≤ (1152921504606846976:Int)))]) (some [Tree.bool false])) (some [Tree.bool false]) := by kernel_rfl

noncomputable def L71_1 (n : Nat) (a1 : Int) (p2 : List AV × Heap) (again3 : (List AV × Heap) → Option (List Tree)) : Option (List Tree) :=
  cnd (decide (((ByteArray.size (vS p2 0):Nat):Int) > (0:Int)) = true) (cnd ((0:Int) ≤ (0:Int) ∧ (0:Int) < ((ByteArray.size (vS p2 0):Nat):Int)) (cnd (((byteAt (vS p2 0) (0:Nat)) == a1) = true) (cnd
  ((0:Int) ≤ (1:Int) ∧ (1:Int) ≤ ((ByteArray.size (vS p2 0):Nat):Int)) (again3 ([AV.t (Tree.str (ByteArray.extract (vS p2 0) (1:Nat) (ByteArray.size (vS p2 0))))], [])) none) (some [Tree.str (vS p2
  0)])) none) (some [Tree.str (vS p2 0)])
theorem e71 (n : Nat) (a0 : ByteArray) (a1 : Int) : apure C (n + 1) 71 [Tree.str a0, Tree.int IntKind.u8 a1] =
  loopIter (fun (p2 : List AV × Heap) (again3 : _ → Option (List Tree)) => L71_1 n a1 p2 again3) n ([AV.t (Tree.str a0)], []) := by kernel_rfl

noncomputable def J72_1 (n : Nat) (p2 : List AV × Heap) (again3 : (List AV × Heap) → Option (List Tree)) (p4 : List AV × Heap) : Option (List Tree) :=
  cnd (vB p4 0 = true) (cnd ((0:Int) ≤ w64 (((ByteArray.size (vS p2 0):Nat):Int) - (1:Int)) ∧ w64 (((ByteArray.size (vS p2 0):Nat):Int) - (1:Int)) ≤ ((ByteArray.size (vS p2 0):Nat):Int)) (again3 ([AV.t
  (Tree.str (ByteArray.extract (vS p2 0) (0:Nat) (Int.toNat (w64 (((ByteArray.size (vS p2 0):Nat):Int) - (1:Int))))))], [])) none) (some [Tree.str (vS p2 0)])

noncomputable def L72_2 (n : Nat) (a1 : Int) (p2 : List AV × Heap) (again3 : (List AV × Heap) → Option (List Tree)) : Option (List Tree) :=
  join (fun (p4 : List AV × Heap) => J72_1 n p2 again3 p4) fun (again5 : _ → Option (List Tree)) => cnd (decide (((ByteArray.size (vS p2 0):Nat):Int) > (0:Int)) = true) (cnd ((0:Int) ≤ w64
  (((ByteArray.size (vS p2 0):Nat):Int) - (1:Int)) ∧ w64 (((ByteArray.size (vS p2 0):Nat):Int) - (1:Int)) < ((ByteArray.size (vS p2 0):Nat):Int)) (again5 ([AV.t (Tree.bool ((byteAt (vS p2 0) (Int.toNat
  (w64 (((ByteArray.size (vS p2 0):Nat):Int) - (1:Int))))) == a1))], [])) none) (again5 ([AV.t (Tree.bool false)], []))
theorem e72 (n : Nat) (a0 : ByteArray) (a1 : Int) : apure C (n + 1) 72 [Tree.str a0, Tree.int IntKind.u8 a1] =
  loopIter (fun (p2 : List AV × Heap) (again3 : _ → Option (List Tree)) => L72_2 n a1 p2 again3) n ([AV.t (Tree.str a0)], []) := by kernel_rfl

noncomputable def L78_1 (n : Nat) (a0 : List (List Tree)) (p1 : List AV × Heap) (again2 : (List AV × Heap) → Option (List Tree)) : Option (List Tree) :=
  cnd (decide (vI p1 0 < ((List.length a0:Nat):Int)) = true) (cnd ((2:Nat) = (2:Nat) ∧ (0:Int) ≤ vI p1 0) (Option.bind a0[Int.toNat (vI p1 0)]? fun y3 => cnd (okI y3 0) (cnd (okI y3 1) (Option.bind
  (apure C n (93:Nat) [tI (gI y3 0), tI (gI y3 1)]) fun y4 => cnd (List.length y4 = (1:Nat)) (cnd (okB y4 0) (cnd ((!(gB y4 0)) = true) (some [tI (2:Int)]) (cnd (decide (vI p1 0 > (0:Int)) = true) (cnd
  ((2:Nat) = (2:Nat) ∧ (0:Int) ≤ vI p1 0) (Option.bind a0[Int.toNat (vI p1 0)]? fun y7 => cnd (okI y7 0) (cnd ((2:Nat) = (2:Nat) ∧ (0:Int) ≤ w64 ((vI p1 0) - (1:Int))) (Option.bind a0[Int.toNat (w64
  ((vI p1 0) - (1:Int)))]? fun y8 => cnd (okI y8 1) (cnd (decide (gI y7 0 ≤ gI y8 1) = true) (some [tI (9:Int)]) (again2 ([AV.t (tI (w64 ((vI p1 0) + (1:Int))))], []))) none) none) none) none) (again2
  ([AV.t (tI (w64 ((vI p1 0) + (1:Int))))], [])))) none) none) none) none) none) (some [tI (0:Int)])
theorem e78 (n : Nat) (a0 : List (List Tree)) : apure C (n + 1) 78 [Tree.sl (2:Nat) a0] =
  cnd (decide (((List.length a0:Nat):Int) > (1000:Int)) = true) (some [tI (4:Int)]) (loopIter (fun (p1 : List AV × Heap) (again2 : _ → Option (List Tree)) => L78_1 n a0 p1 again2) n ([AV.t (tI
  (0:Int))], [])) := by kernel_rfl

theorem e79 (n : Nat) (a0 : List (List Tree)) (a1 : Int) : apure C (n + 1) 79 [Tree.sl (2:Nat) a0, tI a1] =
  Option.bind (apure C n (78:Nat) [Tree.sl (2:Nat) a0]) fun y2 => cnd (List.length y2 = (1:Nat)) (cnd (okI y2 0) (cnd (((gI y2 0) != (0:Int)) = true) (some [Tree.bool false]) (cnd ((((List.length
  a0:Nat):Int) == (0:Int)) = true) (some [Tree.bool true]) (Option.bind a0[(0:Nat)]? fun y5 => cnd (okI y5 0) (cnd (decide (gI y5 0 ≥ (0:Int)) = true) (cnd ((2:Nat) = (2:Nat) ∧ (0:Int) ≤ w64
  (((List.length a0:Nat):Int) - (1:Int))) (Option.bind a0[Int.toNat (w64 (((List.length a0:Nat):Int) - (1:Int)))]? fun y6 => cnd (okI y6 1) (some [Tree.bool (decide (gI y6 1 ≤ a1))]) none) none) (some
  [Tree.bool false])) none))) none) none := by kernel_rfl

theorem e81 (n : Nat) (a0 : Int) (a1 : Int) (a2 : Int) (a3 : Int) (a4 : Int) (a5 : Bool) (a6 : ByteArray) (a7 : List (List Tree)) : apure C (n + 1) 81 [tI a0, tI a1, tI a2, tI a3, tI a4, Tree.bool a5, Tree.str a6, Tree.sl (2:Nat) a7] =
  Option.bind (apure C n (57:Nat) [tI a4, tI (1:Int), tI (65536:Int)]) fun y10 => cnd (List.length y10 = (1:Nat)) (cnd (okB y10 0) (cnd (gB y10 0 = true) (Option.bind (apure C n (57:Nat) [tI a3, tI
  (0:Int), tI (w64 (a4 - (1:Int)))]) fun y11 => cnd (List.length y11 = (1:Nat)) (cnd (okB y11 0) (cnd (gB y11 0 = true) (some [Tree.bool ((decide (a2 ≥ (1:Int))) == a5)]) (some [Tree.bool false])) none)
  none) (some [Tree.bool false])) none) none := by kernel_rfl

theorem e82 (n : Nat) (a0 : Int) (a1 : Int) (a2 : Int) (a3 : Int) (a4 : Int) (a5 : Bool) (a6 : ByteArray) (a7 : List (List Tree)) : apure C (n + 1) 82 [tI a0, tI a1, tI a2, tI a3, tI a4, Tree.bool a5, Tree.str a6, Tree.sl (2:Nat) a7] =
  Option.bind (apure C n (57:Nat) [tI ((ByteArray.size a6:Nat):Int), tI (1:Int), tI (if w64 (a4 - a3) < (16:Int) then w64 (a4 - a3) else (16:Int))]) fun y10 => cnd (List.length y10 = (1:Nat)) (cnd (okB
  y10 0) (cnd (gB y10 0 = true) (some [Tree.bool (((List.length a7:Nat):Int) == (0:Int))]) (some [Tree.bool false])) none) none := by kernel_rfl

theorem e83 (n : Nat) (a0 : Int) (a1 : Int) (a2 : Int) (a3 : Int) (a4 : Int) (a5 : Bool) (a6 : ByteArray) (a7 : List (List Tree)) : apure C (n + 1) 83 [tI a0, tI a1, tI a2, tI a3, tI a4, Tree.bool a5, Tree.str a6, Tree.sl (2:Nat) a7] =
  cnd (decide (a2 ≥ (1:Int)) = true) (Option.bind (apure C n (57:Nat) [tI a4, tI (1:Int), tI (65536:Int)]) fun y10 => cnd (List.length y10 = (1:Nat)) (cnd (okB y10 0) (cnd (gB y10 0 = true) (some
  [Tree.bool (a3 == (0:Int))]) (some [Tree.bool false])) none) none) (some [Tree.bool false]) := by kernel_rfl

theorem e84 (n : Nat) (a0 : Int) (a1 : Int) (a2 : Int) (a3 : Int) (a4 : Int) (a5 : Bool) (a6 : ByteArray) (a7 : List (List Tree)) : apure C (n + 1) 84 [tI a0, tI a1, tI a2, tI a3, tI a4, Tree.bool a5, Tree.str a6, Tree.sl (2:Nat) a7] =
  cnd ((!a5) = true) (cnd ((a6 == (ByteArray.mk #[])) = true) (cnd (decide (((List.length a7:Nat):Int) ≤ (1000:Int)) = true) (Option.bind (apure C n (58:Nat) [Tree.sl (2:Nat) a7, tI a4]) fun y10 => cnd
  (List.length y10 = (1:Nat)) (cnd (okB y10 0) (some [Tree.bool (gB y10 0)]) none) none) (some [Tree.bool false])) (some [Tree.bool false])) (some [Tree.bool false]) := by kernel_rfl

theorem e85 (n : Nat) (a0 : Int) (a1 : Int) (a2 : Int) (a3 : Int) (a4 : Int) (a5 : Bool) (a6 : ByteArray) (a7 : List (List Tree)) : apure C (n + 1) 85 [tI a0, tI a1, tI a2, tI a3, tI a4, Tree.bool a5, Tree.str a6, Tree.sl (2:Nat) a7] =
  cnd ((a2 == (0:Int)) = true) (cnd ((a4 == (0:Int)) = true) (some [Tree.bool (a3 == (0:Int))]) (some [Tree.bool false])) (some [Tree.bool false]) := by kernel_rfl

theorem e86 (n : Nat) (a0 : Int) (a1 : Int) (a2 : Int) (a3 : Int) (a4 : Int) (a5 : Bool) (a6 : ByteArray) (a7 : List (List Tree)) : apure C (n + 1) 86 [tI a0, tI a1, tI a2, tI a3, tI a4, Tree.bool a5, Tree.str a6, Tree.sl (2:Nat) a7] =
  cnd ((!a5) = true) (cnd ((a6 == (ByteArray.mk #[])) = true) (some [Tree.bool (((List.length a7:Nat):Int) == (0:Int))]) (some [Tree.bool false])) (some [Tree.bool false]) := by kernel_rfl

theorem e88 (n : Nat) (a0 : Bool) (a1 : Bool) : apure C (n + 1) 88 [Tree.bool a0, Tree.bool a1] =
  cnd (a0 = true) (some [Tree.bool true]) (some [Tree.bool a1]) := by kernel_rfl

theorem e93 (n : Nat) (a0 : Int) (a1 : Int) : apure C (n + 1) 93 [tI a0, tI a1] =
  cnd (decide (a0 < a1) = true) (cnd (decide (a0 ≥ (-1152921504606846976:Int)) = true) (some [Tree.bool (decide (a1 ≤ (1152921504606846976:Int)))]) (some [Tree.bool false])) (some [Tree.bool false]) := by kernel_rfl

noncomputable def L1000030_1 (n : Nat) (a0 : List (List Tree)) (p6 : List AV × Heap) (again7 : (List AV × Heap) → Option (List Tree)) : Option (List Tree) :=
  cnd (decide (vI p6 1 < ((List.length a0:Nat):Int)) = true) (cnd ((1:Nat) = (1:Nat) ∧ (0:Int) ≤ vI p6 1) (Option.bind a0[Int.toNat (vI p6 1)]? fun y8 => cnd (okL 8 y8 0) (cnd (List.length (gL y8 0) =
  (0:Nat) ∧ (sOff p6 0) + (sLen p6 0) < List.length (oEs p6 0)) (cnd (oVer p6 0 = sVer p6 0) (again7 ([AV.sref (0:Nat) (sVer p6 0) (sOff p6 0) (sLen p6 0), AV.t (tI (w64 ((vI p6 1) + (1:Int))))],
  [AObj.row false (oVer p6 0) (8:Nat) (oEs p6 0)])) none) (cnd (oVer p6 0 = sVer p6 0 ∧ ((8:Nat) = (8:Nat) ∨ (8:Nat) = (0:Nat)) ∧ (sOff p6 0) + (sLen p6 0) ≤ List.length (oEs p6 0) ∧ (sLen p6 0) +
  (List.length (gL y8 0)) ≤ (1073741824:Nat)) (again7 ([AV.sref (0:Nat) ((sVer p6 0) + (1:Nat)) (0:Nat) ((sLen p6 0) + (List.length (gL y8 0))), AV.t (tI (w64 ((vI p6 1) + (1:Int))))], [AObj.row false
  ((sVer p6 0) + (1:Nat)) (8:Nat) ((List.take (sLen p6 0) (List.drop (sOff p6 0) (oEs p6 0))) ++ (gL y8 0))])) none)) none) none) (cnd (oVer p6 0 = sVer p6 0 ∧ (8:Nat) = (8:Nat)) (some [Tree.sl (8:Nat)
  (List.take (sLen p6 0) (List.drop (sOff p6 0) (oEs p6 0)))]) none)

noncomputable def L1000030_2 (n : Nat) (a0 : List (List Tree)) (p1 : List AV × Heap) (again2 : (List AV × Heap) → Option (List Tree)) : Option (List Tree) :=
  cnd (decide (vI p1 1 < ((List.length a0:Nat):Int)) = true) (cnd ((1:Nat) = (1:Nat) ∧ (0:Int) ≤ vI p1 1) (Option.bind a0[Int.toNat (vI p1 1)]? fun y3 => cnd (okL 8 y3 0) (cnd (decide (w64 ((vI p1 0) +
  ((List.length (gL y3 0):Nat):Int)) < (0:Int)) = true) none (again2 ([AV.t (tI (w64 ((vI p1 0) + ((List.length (gL y3 0):Nat):Int)))), AV.t (tI (w64 ((vI p1 1) + (1:Int))))], []))) none) none) (cnd
  ((0:Int) ≤ vI p1 0 ∧ vI p1 0 ≤ (1073741824:Int)) (loopIter (fun (p6 : List AV × Heap) (again7 : _ → Option (List Tree)) => L1000030_1 n a0 p6 again7) n ([AV.sref (0:Nat) (0:Nat) (0:Nat) (0:Nat), AV.t
  (tI (0:Int))], [AObj.row false (0:Nat) (8:Nat) []])) none)
theorem e1000030 (n : Nat) (a0 : List (List Tree)) : apure C (n + 1) 1000030 [Tree.sl (1:Nat) a0] =
  loopIter (fun (p1 : List AV × Heap) (again2 : _ → Option (List Tree)) => L1000030_2 n a0 p1 again2) n ([AV.t (tI (0:Int)), AV.t (tI (0:Int))], []) := by kernel_rfl

theorem e1000033 (n : Nat) (a0 : List (List Tree)) : apure C (n + 1) 1000033 [Tree.sl (8:Nat) a0] =
  cnd (List.length a0 ≠ (0:Nat)) (cnd (List.length a0 ≤ (1073741824:Nat)) (some [Tree.sl (8:Nat) (List.take (List.length a0) a0)]) none) (both (some [Tree.sl (8:Nat) []]) (cnd (List.length a0 ≤
  (1073741824:Nat)) (some [Tree.sl (8:Nat) (List.take (List.length a0) a0)]) none)) := by kernel_rfl

noncomputable def J1000068_1 (n : Nat) (p9 : List AV × Heap) (a0 : List (List Tree)) (again10 : (List AV × Heap) → Option (List Tree)) (p3 : List AV × Heap) (p11 : List AV × Heap) : Option (List Tree) :=
  cnd (vB p11 0 = true) (cnd ((2:Nat) = (2:Nat) ∧ (0:Int) ≤ vI p9 0) (Option.bind a0[Int.toNat (vI p9 0)]? fun y14 => cnd (okI y14 0) (cnd ((2:Nat) = (2:Nat) ∧ (0:Int) ≤ vI p9 0) (Option.bind
  a0[Int.toNat (vI p9 0)]? fun y15 => cnd (okI y15 1) (again10 ([AV.t (tI (w64 ((vI p9 0) + (1:Int))))], [AObj.box [AV.t (tI (if gI y14 0 < cI p11 0 0 then gI y14 0 else cI p11 0 0)), AV.t (tI (if gI
  y15 1 > cI p11 0 1 then gI y15 1 else cI p11 0 1))], AObj.row false (oVer p11 1) (2:Nat) (oEs p11 1)])) none) none) none) none) (cnd (oVer p11 1 = sVer p3 0 ∧ ((2:Nat) = (2:Nat) ∨ (2:Nat) = (0:Nat)) ∧
  (sOff p3 0) + (sLen p3 0) ≤ List.length (oEs p11 1) ∧ (sLen p3 0) + (1:Nat) ≤ (1073741824:Nat)) (cnd ((0:Int) ≤ vI p9 0 ∧ vI p9 0 ≤ ((List.length a0:Nat):Int)) (cnd (List.length (List.drop (Int.toNat
  (vI p9 0)) (List.take (List.length a0) a0)) = (0:Nat) ∧ (0:Nat) + ((sLen p3 0) + (1:Nat)) < List.length ((List.take (sLen p3 0) (List.drop (sOff p3 0) (oEs p11 1))) ++ [[tI (cI p11 0 0), tI (cI p11 0
  1)]])) (cnd ((sVer p3 0) + (1:Nat) = (sVer p3 0) + (1:Nat)) (cnd ((sVer p3 0) + (1:Nat) = (sVer p3 0) + (1:Nat) ∧ (2:Nat) = (2:Nat)) (some [Tree.sl (2:Nat) (List.take ((sLen p3 0) + (1:Nat))
  ((List.take (sLen p3 0) (List.drop (sOff p3 0) (oEs p11 1))) ++ [[tI (cI p11 0 0), tI (cI p11 0 1)]]))]) none) none) (cnd ((sVer p3 0) + (1:Nat) = (sVer p3 0) + (1:Nat) ∧ ((2:Nat) = (2:Nat) ∨ (2:Nat)
  = (0:Nat)) ∧ (0:Nat) + ((sLen p3 0) + (1:Nat)) ≤ List.length ((List.take (sLen p3 0) (List.drop (sOff p3 0) (oEs p11 1))) ++ [[tI (cI p11 0 0), tI (cI p11 0 1)]]) ∧ ((sLen p3 0) + (1:Nat)) +
  (List.length (List.drop (Int.toNat (vI p9 0)) (List.take (List.length a0) a0))) ≤ (1073741824:Nat)) (cnd (((sVer p3 0) + (1:Nat)) + (1:Nat) = ((sVer p3 0) + (1:Nat)) + (1:Nat) ∧ (2:Nat) = (2:Nat))
  (some [Tree.sl (2:Nat) (List.take (((sLen p3 0) + (1:Nat)) + (List.length (List.drop (Int.toNat (vI p9 0)) (List.take (List.length a0) a0)))) ((List.take ((sLen p3 0) + (1:Nat)) ((List.take (sLen p3
  0) (List.drop (sOff p3 0) (oEs p11 1))) ++ [[tI (cI p11 0 0), tI (cI p11 0 1)]])) ++ (List.drop (Int.toNat (vI p9 0)) (List.take (List.length a0) a0))))]) none) none)) none) none)

noncomputable def L1000068_2 (n : Nat) (a0 : List (List Tree)) (p3 : List AV × Heap) (p9 : List AV × Heap) (again10 : (List AV × Heap) → Option (List Tree)) : Option (List Tree) :=
  join (fun (p11 : List AV × Heap) => J1000068_1 n p9 a0 again10 p3 p11) fun (again12 : _ → Option (List Tree)) => cnd (decide (vI p9 0 < ((List.length a0:Nat):Int)) = true) (cnd ((2:Nat) = (2:Nat) ∧
  (0:Int) ≤ vI p9 0) (Option.bind a0[Int.toNat (vI p9 0)]? fun y13 => cnd (okI y13 0) (again12 ([AV.t (Tree.bool (decide (gI y13 0 ≤ cI p9 0 1)))], [AObj.box [AV.t (tI (cI p9 0 0)), AV.t (tI (cI p9 0
  1))], AObj.row false (oVer p9 1) (2:Nat) (oEs p9 1)])) none) none) (again12 ([AV.t (Tree.bool false)], [AObj.box [AV.t (tI (cI p9 0 0)), AV.t (tI (cI p9 0 1))], AObj.row false (oVer p9 1) (2:Nat) (oEs
  p9 1)]))

noncomputable def J1000068_3 (n : Nat) (p3 : List AV × Heap) (a0 : List (List Tree)) (again4 : (List AV × Heap) → Option (List Tree)) (p5 : List AV × Heap) : Option (List Tree) :=
  cnd (vB p5 0 = true) (cnd ((2:Nat) = (2:Nat) ∧ (0:Int) ≤ vI p3 1) (Option.bind a0[Int.toNat (vI p3 1)]? fun y8 => cnd (okI y8 0) (cnd (okI y8 1) (cnd (oVer p5 1 = sVer p3 0 ∧ ((2:Nat) = (2:Nat) ∨
  (2:Nat) = (0:Nat)) ∧ (sOff p3 0) + (sLen p3 0) ≤ List.length (oEs p5 1) ∧ (sLen p3 0) + (1:Nat) ≤ (1073741824:Nat)) (again4 ([AV.sref (1:Nat) ((sVer p3 0) + (1:Nat)) (0:Nat) ((sLen p3 0) + (1:Nat)),
  AV.t (tI (w64 ((vI p3 1) + (1:Int))))], [AObj.box [AV.t (tI (cI p5 0 0)), AV.t (tI (cI p5 0 1))], AObj.row false ((sVer p3 0) + (1:Nat)) (2:Nat) ((List.take (sLen p3 0) (List.drop (sOff p3 0) (oEs p5
  1))) ++ [[tI (gI y8 0), tI (gI y8 1)]])])) none) none) none) none) (loopIter (fun (p9 : List AV × Heap) (again10 : _ → Option (List Tree)) => L1000068_2 n a0 p3 p9 again10) n ([AV.t (tI (vI p3 1))],
  [AObj.box [AV.t (tI (cI p5 0 0)), AV.t (tI (cI p5 0 1))], AObj.row false (oVer p5 1) (2:Nat) (oEs p5 1)]))

noncomputable def L1000068_4 (n : Nat) (a0 : List (List Tree)) (p3 : List AV × Heap) (again4 : (List AV × Heap) → Option (List Tree)) : Option (List Tree) :=
  join (fun (p5 : List AV × Heap) => J1000068_3 n p3 a0 again4 p5) fun (again6 : _ → Option (List Tree)) => cnd (decide (vI p3 1 < ((List.length a0:Nat):Int)) = true) (cnd ((2:Nat) = (2:Nat) ∧ (0:Int) ≤
  vI p3 1) (Option.bind a0[Int.toNat (vI p3 1)]? fun y7 => cnd (okI y7 1) (again6 ([AV.t (Tree.bool (decide (gI y7 1 < cI p3 0 0)))], [AObj.box [AV.t (tI (cI p3 0 0)), AV.t (tI (cI p3 0 1))], AObj.row
  false (oVer p3 1) (2:Nat) (oEs p3 1)])) none) none) (again6 ([AV.t (Tree.bool false)], [AObj.box [AV.t (tI (cI p3 0 0)), AV.t (tI (cI p3 0 1))], AObj.row false (oVer p3 1) (2:Nat) (oEs p3 1)]))
theorem e1000068 (n : Nat) (a0 : List (List Tree)) (a1 : Int) (a2 : Int) : apure C (n + 1) 1000068 [Tree.sl (2:Nat) a0, tI a1, tI a2] =
  loopIter (fun (p3 : List AV × Heap) (again4 : _ → Option (List Tree)) => L1000068_4 n a0 p3 again4) n ([AV.sref (1:Nat) (0:Nat) (0:Nat) (0:Nat), AV.t (tI (0:Int))], [AObj.box [AV.t (tI a1), AV.t (tI
  a2)], AObj.row false (0:Nat) (2:Nat) []]) := by kernel_rfl

end Ab
