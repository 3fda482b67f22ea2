/- A part of the proof: see the last text. -/
import Derived.Test.YtdgkjmcggiihgaaAbT
import Derived.Test.YtdgkjmcggiihgaaSeX
import Derived.Test.YtdgkjmcggiihgaaSeY1
set_option maxRecDepth 100000
set_option linter.unusedVariables false
namespace Ab
open Go Go.Proofs

theorem e33 (n : Nat)  : apure C (n + 1) 33 [] =
  Option.bind (apure C n (58:Nat) [Tree.str (ByteArray.mk #[97]), tI (40:Int)]) fun y0 => cnd (List.length y0 = (1:Nat)) (cnd (okS y0 0) (some [tI (0:Int), tI (1:Int), tI (0:Int), tI (100:Int), tI
  (8:Int), tI (5:Int), tI (0:Int), Tree.str (gS y0 0)]) none) none := by kernel_rfl

noncomputable def J34_1 (n : Nat) (a0 : Int) (a1 : Int) (a2 : Int) (a3 : Int) (a5 : Int) (p7 : List AV × Heap) : Option (List Tree) :=
  cnd (vB p7 0 = true) (some [tI (2:Int)]) (cnd ((a0 == a1) = true) (some [tI (1:Int)]) (cnd (decide (a2 < (0:Int)) = true) (some [tI (2:Int)]) (cnd (decide (a2 ≥ a3) = true) (some [tI (2:Int)]) (cnd
  (decide (a3 > w64 ((1099511627776:Int) - (w64 ((2:Int) * a5)))) = true) (some [tI (2:Int)]) (some [tI (0:Int)])))))
theorem e34 (n : Nat) (a0 : Int) (a1 : Int) (a2 : Int) (a3 : Int) (a4 : Int) (a5 : Int) (a6 : Int) : apure C (n + 1) 34 [tI a0, tI a1, tI a2, tI a3, tI a4, tI a5, tI a6] =
  join (fun (p7 : List AV × Heap) => J34_1 n a0 a1 a2 a3 a5 p7) fun (again8 : _ → Option (List Tree)) => Option.bind (apure C n (59:Nat) [tI a0, tI (0:Int), tI (15:Int)]) fun y9 => cnd (List.length y9 =
  (1:Nat)) (cnd (okB y9 0) (cnd ((!(gB y9 0)) = true) (again8 ([AV.t (Tree.bool true)], [])) (Option.bind (apure C n (59:Nat) [tI a1, tI (0:Int), tI (15:Int)]) fun y10 => cnd (List.length y10 = (1:Nat))
  (cnd (okB y10 0) (cnd ((!(gB y10 0)) = true) (again8 ([AV.t (Tree.bool true)], [])) (Option.bind (apure C n (59:Nat) [tI a4, tI (1:Int), tI (1000:Int)]) fun y11 => cnd (List.length y11 = (1:Nat)) (cnd
  (okB y11 0) (cnd ((!(gB y11 0)) = true) (again8 ([AV.t (Tree.bool true)], [])) (Option.bind (apure C n (59:Nat) [tI a5, tI (1:Int), tI (1048576:Int)]) fun y12 => cnd (List.length y12 = (1:Nat)) (cnd
  (okB y12 0) (cnd ((!(gB y12 0)) = true) (again8 ([AV.t (Tree.bool true)], [])) (Option.bind (apure C n (59:Nat) [tI a6, tI (0:Int), tI (16:Int)]) fun y13 => cnd (List.length y13 = (1:Nat)) (cnd (okB
  y13 0) (again8 ([AV.t (Tree.bool (!(gB y13 0)))], [])) none) none)) none) none)) none) none)) none) none)) none) none := by kernel_rfl

theorem e35 (n : Nat) (a0 : Int) (a1 : Int) (a2 : Int) : apure C (n + 1) 35 [tI a0, tI a1, tI a2] =
  cnd (decide (a0 ≥ a1) = true) (some [Tree.bool (decide (a0 ≤ a2))]) (some [Tree.bool false]) := by kernel_rfl

noncomputable def J36_1 (n : Nat) (y22 : List Tree) (p17 : List AV × Heap) (p23 : List AV × Heap) : Option (List Tree) :=
  cnd (vB p23 0 = true) (Option.bind (apure C n (62:Nat) [tI (cI p23 0 0), tI (cI p23 0 1), tI (cI p23 0 2), tI (cI p23 0 3), tI (cI p23 0 4), tI (cI p23 0 5), tI (cI p23 0 6), tI (cI p23 0 7), Tree.str
  (cS p23 0 8), tI (cI p23 0 9), tI (cI p23 0 10), tI (cI p23 0 11), Tree.sl (2:Nat) (cL p23 0 12), tI (cI p23 0 13), tI (cI p23 0 14)]) fun y25 => cnd (List.length y25 = (15:Nat)) (cnd (okI y25 0) (cnd
  (okI y25 1) (cnd (okI y25 2) (cnd (okI y25 3) (cnd (okI y25 4) (cnd (okI y25 5) (cnd (okI y25 6) (cnd (okI y25 7) (cnd (okS y25 8) (cnd (okI y25 9) (cnd (okI y25 10) (cnd (okI y25 11) (cnd (okL 2 y25
  12) (cnd (okI y25 13) (cnd (okI y25 14) (some [tI (gI y25 0), tI (gI y25 1), tI (gI y25 2), tI (gI y25 3), tI (gI y25 4), tI (gI y25 5), tI (gI y25 6), tI (gI y25 7), Tree.str (gS y25 8), tI (gI y25
  9), tI (gI y25 10), tI (gI y25 11), Tree.sl (2:Nat) (gL y25 12), tI (gI y25 13), tI (gI y25 14), Tree.sl (9:Nat) []]) none) none) none) none) none) none) none) none) none) none) none) none) none)
  none) none) none) (Option.bind (apure C n (48:Nat) [tI (cI p23 0 0), tI (cI p23 0 1), tI (cI p23 0 2), tI (cI p23 0 3), tI (cI p23 0 4), tI (cI p23 0 5), tI (cI p23 0 6), tI (cI p23 0 7), Tree.str (cS
  p23 0 8), tI (cI p23 0 9), tI (gI y22 0), tI (gI y22 3), Tree.sl (2:Nat) (cL p23 0 12), tI (cI p23 0 13), tI (1:Int)]) fun y26 => cnd (List.length y26 = (1:Nat)) (cnd (okI y26 0) (cnd ((false = true ∨
  false = false) ∧ oVer p23 3 = cVer p17 4 0 ∧ ((9:Nat) = (9:Nat) ∨ (9:Nat) = (0:Nat))) (some [tI (cI p23 0 0), tI (cI p23 0 1), tI (cI p23 0 2), tI (cI p23 0 3), tI (cI p23 0 4), tI (cI p23 0 5), tI
  (cI p23 0 6), tI (cI p23 0 7), Tree.str (cS p23 0 8), tI (cI p23 0 9), tI (gI y22 0), tI (gI y22 3), Tree.sl (2:Nat) (cL p23 0 12), tI (gI y26 0), tI (1:Int), Tree.sl (9:Nat) (List.take (cLen p17 4 0)
  (List.drop (cOff p17 4 0) (oEs p23 3)))]) none) none) none)

noncomputable def L36_2 (n : Nat) (a16 : List (List Tree)) (a4 : Int) (p17 : List AV × Heap) (again18 : (List AV × Heap) → Option (List Tree)) : Option (List Tree) :=
  cnd (decide (vI p17 0 < ((List.length a16:Nat):Int)) = true) (cnd ((8:Nat) = (8:Nat) ∧ (0:Int) ≤ vI p17 0) (Option.bind a16[Int.toNat (vI p17 0)]? fun y19 => cnd (okI y19 0) (cnd (okI y19 1) (cnd (okI
  y19 2) (cnd (okI y19 3) (cnd (okI y19 4) (cnd (okB y19 5) (cnd (okS y19 6) (cnd (okL 2 y19 7) (Option.bind (apure C n (31:Nat) [tI a4, tI (gI y19 0), tI (gI y19 1), tI (gI y19 2), tI (gI y19 3), tI
  (gI y19 4), Tree.bool (gB y19 5), Tree.str (gS y19 6), Tree.sl (2:Nat) (gL y19 7)]) fun y20 => cnd (List.length y20 = (2:Nat)) (cnd (okI y20 0) (cnd (okI y20 1) (cnd (oVer p17 3 = cVer p17 4 0 ∧
  ((9:Nat) = (9:Nat) ∨ (9:Nat) = (0:Nat)) ∧ (cOff p17 4 0) + (cLen p17 4 0) ≤ List.length (oEs p17 3) ∧ (cLen p17 4 0) + (1:Nat) ≤ (1073741824:Nat)) (again18 ([AV.t (tI (w64 ((vI p17 0) + (1:Int))))],
  [AObj.box [AV.t (tI (cI p17 0 0)), AV.t (tI (cI p17 0 1)), AV.t (tI (cI p17 0 2)), AV.t (tI (cI p17 0 3)), AV.t (tI (cI p17 0 4)), AV.t (tI (cI p17 0 5)), AV.t (tI (cI p17 0 6)), AV.t (tI (cI p17 0
  7)), AV.t (Tree.str (cS p17 0 8)), AV.t (tI (cI p17 0 9)), AV.t (tI (cI p17 0 10)), AV.t (tI (cI p17 0 11)), AV.t (Tree.sl (2:Nat) (cL p17 0 12)), AV.t (tI (cI p17 0 13)), AV.t (tI (cI p17 0 14))],
  AObj.box [AV.t (tI (cI p17 1 0)), AV.t (tI (cI p17 1 1)), AV.t (tI (cI p17 1 2)), AV.t (tI (cI p17 1 3)), AV.t (tI (cI p17 1 4)), AV.t (tI (cI p17 1 5)), AV.t (tI (cI p17 1 6)), AV.t (tI (cI p17 1
  7)), AV.t (Tree.str (cS p17 1 8)), AV.t (tI (cI p17 1 9)), AV.t (tI (cI p17 1 10)), AV.t (tI (cI p17 1 11)), AV.t (Tree.sl (2:Nat) (cL p17 1 12)), AV.t (tI (cI p17 1 13)), AV.t (tI (cI p17 1 14))],
  AObj.box [AV.t (tI (w64 ((cI p17 2 0) + (gI y20 0))))], AObj.row false ((cVer p17 4 0) + (1:Nat)) (9:Nat) ((List.take (cLen p17 4 0) (List.drop (cOff p17 4 0) (oEs p17 3))) ++ [[tI (w64 ((cI p17 2 0)
  + (gI y20 0))), tI (gI y19 0), tI (gI y19 1), tI (gI y19 2), tI (gI y19 3), tI (gI y19 4), Tree.bool (gB y19 5), Tree.str (gS y19 6), Tree.sl (2:Nat) (gL y19 7)]]), AObj.box [AV.sref (3:Nat) ((cVer
  p17 4 0) + (1:Nat)) (0:Nat) ((cLen p17 4 0) + (1:Nat))], AObj.box []])) none) none) none) none) none) none) none) none) none) none) none) none) none) (cnd (oVer p17 3 = cVer p17 4 0) (cnd ((((cLen p17
  4 0:Nat):Int) == (0:Int)) = true) (Option.bind (apure C n (62:Nat) [tI (cI p17 0 0), tI (cI p17 0 1), tI (cI p17 0 2), tI (cI p17 0 3), tI (cI p17 0 4), tI (cI p17 0 5), tI (cI p17 0 6), tI (cI p17 0
  7), Tree.str (cS p17 0 8), tI (cI p17 0 9), tI (cI p17 0 10), tI (cI p17 0 11), Tree.sl (2:Nat) (cL p17 0 12), tI (cI p17 0 13), tI (cI p17 0 14)]) fun y21 => cnd (List.length y21 = (15:Nat)) (cnd
  (okI y21 0) (cnd (okI y21 1) (cnd (okI y21 2) (cnd (okI y21 3) (cnd (okI y21 4) (cnd (okI y21 5) (cnd (okI y21 6) (cnd (okI y21 7) (cnd (okS y21 8) (cnd (okI y21 9) (cnd (okI y21 10) (cnd (okI y21 11)
  (cnd (okL 2 y21 12) (cnd (okI y21 13) (cnd (okI y21 14) (some [tI (gI y21 0), tI (gI y21 1), tI (gI y21 2), tI (gI y21 3), tI (gI y21 4), tI (gI y21 5), tI (gI y21 6), tI (gI y21 7), Tree.str (gS y21
  8), tI (gI y21 9), tI (gI y21 10), tI (gI y21 11), Tree.sl (2:Nat) (gL y21 12), tI (gI y21 13), tI (gI y21 14), Tree.sl (9:Nat) []]) none) none) none) none) none) none) none) none) none) none) none)
  none) none) none) none) none) (cnd (oVer p17 3 = cVer p17 4 0) (cnd (oVer p17 3 = cVer p17 4 0 ∧ (9:Nat) = (9:Nat) ∧ (0:Int) ≤ w64 (((cLen p17 4 0:Nat):Int) - (1:Int)) ∧ w64 (((cLen p17 4 0:Nat):Int)
  - (1:Int)) < ((cLen p17 4 0:Nat):Int)) (cnd (oVer p17 3 = cVer p17 4 0) (Option.bind (oEs p17 3)[(cOff p17 4 0) + (Int.toNat (w64 (((cLen p17 4 0:Nat):Int) - (1:Int))))]? fun y22 => cnd (okI y22 0)
  (cnd (okI y22 1) (cnd (okI y22 2) (cnd (okI y22 3) (cnd (okI y22 4) (cnd (okI y22 5) (cnd (okB y22 6) (cnd (okS y22 7) (cnd (okL 2 y22 8) (join (fun (p23 : List AV × Heap) => J36_1 n y22 p17 p23) fun
  (again24 : _ → Option (List Tree)) => cnd (decide (gI y22 0 > cI p17 0 9) = true) (again24 ([AV.t (Tree.bool true)], [AObj.box [AV.t (tI (cI p17 0 0)), AV.t (tI (cI p17 0 1)), AV.t (tI (cI p17 0 2)),
  AV.t (tI (cI p17 0 3)), AV.t (tI (cI p17 0 4)), AV.t (tI (cI p17 0 5)), AV.t (tI (cI p17 0 6)), AV.t (tI (cI p17 0 7)), AV.t (Tree.str (cS p17 0 8)), AV.t (tI (cI p17 0 9)), AV.t (tI (cI p17 0 10)),
  AV.t (tI (cI p17 0 11)), AV.t (Tree.sl (2:Nat) (cL p17 0 12)), AV.t (tI (cI p17 0 13)), AV.t (tI (cI p17 0 14))], AObj.box [AV.t (tI (cI p17 1 0)), AV.t (tI (cI p17 1 1)), AV.t (tI (cI p17 1 2)), AV.t
  (tI (cI p17 1 3)), AV.t (tI (cI p17 1 4)), AV.t (tI (cI p17 1 5)), AV.t (tI (cI p17 1 6)), AV.t (tI (cI p17 1 7)), AV.t (Tree.str (cS p17 1 8)), AV.t (tI (cI p17 1 9)), AV.t (tI (cI p17 1 10)), AV.t
  (tI (cI p17 1 11)), AV.t (Tree.sl (2:Nat) (cL p17 1 12)), AV.t (tI (cI p17 1 13)), AV.t (tI (cI p17 1 14))], AObj.box [AV.t (tI (cI p17 2 0))], AObj.row false (oVer p17 3) (9:Nat) (oEs p17 3),
  AObj.box [AV.sref (3:Nat) (cVer p17 4 0) (cOff p17 4 0) (cLen p17 4 0)], AObj.box []])) (again24 ([AV.t (Tree.bool (decide (gI y22 3 > (1099511627776:Int))))], [AObj.box [AV.t (tI (cI p17 0 0)), AV.t
  (tI (cI p17 0 1)), AV.t (tI (cI p17 0 2)), AV.t (tI (cI p17 0 3)), AV.t (tI (cI p17 0 4)), AV.t (tI (cI p17 0 5)), AV.t (tI (cI p17 0 6)), AV.t (tI (cI p17 0 7)), AV.t (Tree.str (cS p17 0 8)), AV.t
  (tI (cI p17 0 9)), AV.t (tI (cI p17 0 10)), AV.t (tI (cI p17 0 11)), AV.t (Tree.sl (2:Nat) (cL p17 0 12)), AV.t (tI (cI p17 0 13)), AV.t (tI (cI p17 0 14))], AObj.box [AV.t (tI (cI p17 1 0)), AV.t (tI
  (cI p17 1 1)), AV.t (tI (cI p17 1 2)), AV.t (tI (cI p17 1 3)), AV.t (tI (cI p17 1 4)), AV.t (tI (cI p17 1 5)), AV.t (tI (cI p17 1 6)), AV.t (tI (cI p17 1 7)), AV.t (Tree.str (cS p17 1 8)), AV.t (tI
  (cI p17 1 9)), AV.t (tI (cI p17 1 10)), AV.t (tI (cI p17 1 11)), AV.t (Tree.sl (2:Nat) (cL p17 1 12)), AV.t (tI (cI p17 1 13)), AV.t (tI (cI p17 1 14))], AObj.box [AV.t (tI (cI p17 2 0))], AObj.row
  false (oVer p17 3) (9:Nat) (oEs p17 3), AObj.box [AV.sref (3:Nat) (cVer p17 4 0) (cOff p17 4 0) (cLen p17 4 0)], AObj.box []]))) none) none) none) none) none) none) none) none) none) none) none)
  none)) none)
theorem e36 (n : Nat) (a0 : Int) (a1 : Int) (a2 : Int) (a3 : Int) (a4 : Int) (a5 : Int) (a6 : Int) (a7 : Int) (a8 : ByteArray) (a9 : Int) (a10 : Int) (a11 : Int) (a12 : List (List Tree)) (a13 : Int) (a14 : Int) (a15 : Int) (a16 : List (List Tree)) : apure C (n + 1) 36 [tI a0, tI a1, tI a2, tI a3, tI a4, tI a5, tI a6, tI a7, Tree.str a8, tI a9, tI a10, tI a11, Tree.sl (2:Nat) a12, tI a13, tI a14, tI a15, Tree.sl (8:Nat) a16] =
  loopIter (fun (p17 : List AV × Heap) (again18 : _ → Option (List Tree)) => L36_2 n a16 a4 p17 again18) n ([AV.t (tI (0:Int))], [AObj.box [AV.t (tI a0), AV.t (tI a1), AV.t (tI a2), AV.t (tI a3), AV.t
  (tI a4), AV.t (tI a5), AV.t (tI a6), AV.t (tI a7), AV.t (Tree.str a8), AV.t (tI a9), AV.t (tI a10), AV.t (tI a11), AV.t (Tree.sl (2:Nat) a12), AV.t (tI a13), AV.t (tI a14)], AObj.box [AV.t (tI
  (0:Int)), AV.t (tI (0:Int)), AV.t (tI (0:Int)), AV.t (tI (0:Int)), AV.t (tI (0:Int)), AV.t (tI (0:Int)), AV.t (tI (0:Int)), AV.t (tI (0:Int)), AV.t (Tree.str (ByteArray.mk #[])), AV.t (tI (0:Int)),
  AV.t (tI (0:Int)), AV.t (tI (0:Int)), AV.t (Tree.sl (2:Nat) []), AV.t (tI (0:Int)), AV.t (tI (0:Int))], AObj.box [AV.t (tI a15)], AObj.row false (0:Nat) (9:Nat) [], AObj.box [AV.sref (3:Nat) (0:Nat)
  (0:Nat) (0:Nat)], AObj.box []]) := by kernel_rfl

theorem e37 (n : Nat) (a0 : Int) (a1 : Int) (a2 : Int) (a3 : Int) (a4 : Int) (a5 : Int) (a6 : Int) (a7 : Int) (a8 : ByteArray) (a9 : Int) (a10 : Int) (a11 : Int) (a12 : List (List Tree)) (a13 : Int) (a14 : Int) : apure C (n + 1) 37 [tI a0, tI a1, tI a2, tI a3, tI a4, tI a5, tI a6, tI a7, Tree.str a8, tI a9, tI a10, tI a11, Tree.sl (2:Nat) a12, tI a13, tI a14] =
  Option.bind (apure C n (54:Nat) [tI a0, tI a1, tI a2, tI a3, tI a4, tI a5, tI a6, tI a7, Tree.str a8, tI a9, tI a10, tI a11, Tree.sl (2:Nat) a12, tI a13, tI a14]) fun y15 => cnd (List.length y15 =
  (1:Nat)) (cnd (okL 2 y15 0) (Option.bind (apure C n (21:Nat) [tI a7, tI (w64 (a11 + (1:Int))), Tree.str a8, Tree.sl (2:Nat) (gL y15 0)]) fun y16 => cnd (List.length y16 = (2:Nat)) (cnd (okL 8 y16 0)
  (cnd (okI y16 1) (some [Tree.sl (8:Nat) (gL y16 0)]) none) none) none) none) none := by kernel_rfl

noncomputable def J38_1 (n : Nat) (a0 : Int) (a1 : Int) (a2 : Int) (a3 : Int) (a5 : Int) (p7 : List AV × Heap) : Option (List Tree) :=
  cnd (vB p7 0 = true) (some [tI (2:Int)]) (cnd ((a0 == a1) = true) (some [tI (1:Int)]) (cnd (decide (a2 < (0:Int)) = true) (some [tI (2:Int)]) (cnd (decide (a2 ≥ a3) = true) (some [tI (2:Int)]) (cnd
  (decide (a3 > w64 ((1099511627776:Int) - (w64 ((2:Int) * a5)))) = true) (some [tI (2:Int)]) (some [tI (0:Int)])))))
theorem e38 (n : Nat) (a0 : Int) (a1 : Int) (a2 : Int) (a3 : Int) (a4 : Int) (a5 : Int) (a6 : Int) : apure C (n + 1) 38 [tI a0, tI a1, tI a2, tI a3, tI a4, tI a5, tI a6] =
  join (fun (p7 : List AV × Heap) => J38_1 n a0 a1 a2 a3 a5 p7) fun (again8 : _ → Option (List Tree)) => cnd (decide (a0 < (0:Int)) = true) (again8 ([AV.t (Tree.bool true)], [])) (cnd (decide (a0 ≥
  (16:Int)) = true) (again8 ([AV.t (Tree.bool true)], [])) (cnd (decide (a1 < (0:Int)) = true) (again8 ([AV.t (Tree.bool true)], [])) (cnd (decide (a1 ≥ (16:Int)) = true) (again8 ([AV.t (Tree.bool
  true)], [])) (cnd (decide (a4 < (1:Int)) = true) (again8 ([AV.t (Tree.bool true)], [])) (cnd (decide (a4 > (1000:Int)) = true) (again8 ([AV.t (Tree.bool true)], [])) (cnd (decide (a5 < (1:Int)) =
  true) (again8 ([AV.t (Tree.bool true)], [])) (cnd (decide (a5 > (1048576:Int)) = true) (again8 ([AV.t (Tree.bool true)], [])) (cnd (decide (a6 < (0:Int)) = true) (again8 ([AV.t (Tree.bool true)], []))
  (again8 ([AV.t (Tree.bool (decide (a6 > (16:Int))))], [])))))))))) := by kernel_rfl

noncomputable def L39_1 (n : Nat) (p9 : List AV × Heap) (a3 : List (List Tree)) (a2 : ByteArray) (a0 : Int) (again10 : (List AV × Heap) → Option (List Tree)) (p12 : List AV × Heap) (again13 : (List AV × Heap) → Option (List Tree)) : Option (List Tree) :=
  cnd ((2:Nat) = (2:Nat) ∧ (0:Int) ≤ vI p9 1) (Option.bind a3[Int.toNat (vI p9 1)]? fun y14 => cnd (okI y14 1) (cnd (decide (vI p12 1 < gI y14 1) = true) (cnd ((2:Nat) = (2:Nat) ∧ (0:Int) ≤ vI p9 1)
  (Option.bind a3[Int.toNat (vI p9 1)]? fun y15 => cnd (okI y15 1) (cnd ((0:Int) ≤ (if w64 ((w64 ((vI p12 1) - (Int.tmod (vI p12 1) (16:Int)))) + (16:Int)) < gI y15 1 then w64 ((w64 ((vI p12 1) -
  (Int.tmod (vI p12 1) (16:Int)))) + (16:Int)) else gI y15 1) ∧ (if w64 ((w64 ((vI p12 1) - (Int.tmod (vI p12 1) (16:Int)))) + (16:Int)) < gI y15 1 then w64 ((w64 ((vI p12 1) - (Int.tmod (vI p12 1)
  (16:Int)))) + (16:Int)) else gI y15 1) ≤ ((ByteArray.size a2:Nat):Int)) (cnd ((0:Int) ≤ vI p12 1 ∧ vI p12 1 ≤ ((Int.toNat (if w64 ((w64 ((vI p12 1) - (Int.tmod (vI p12 1) (16:Int)))) + (16:Int)) < gI
  y15 1 then w64 ((w64 ((vI p12 1) - (Int.tmod (vI p12 1) (16:Int)))) + (16:Int)) else gI y15 1):Nat):Int)) (cnd (oVer p12 0 = sVer p12 0 ∧ ((8:Nat) = (8:Nat) ∨ (8:Nat) = (0:Nat)) ∧ (sOff p12 0) + (sLen
  p12 0) ≤ List.length (oEs p12 0) ∧ (sLen p12 0) + (1:Nat) ≤ (1073741824:Nat)) (again13 ([AV.sref (0:Nat) ((sVer p12 0) + (1:Nat)) (0:Nat) ((sLen p12 0) + (1:Nat)), AV.t (tI (if w64 ((w64 ((vI p12 1) -
  (Int.tmod (vI p12 1) (16:Int)))) + (16:Int)) < gI y15 1 then w64 ((w64 ((vI p12 1) - (Int.tmod (vI p12 1) (16:Int)))) + (16:Int)) else gI y15 1))], [AObj.row false ((sVer p12 0) + (1:Nat)) (8:Nat)
  ((List.take (sLen p12 0) (List.drop (sOff p12 0) (oEs p12 0))) ++ [[tI (1:Int), tI a0, tI (0:Int), tI (vI p12 1), tI ((ByteArray.size a2:Nat):Int), Tree.bool false, Tree.str (ByteArray.extract a2
  (Int.toNat (vI p12 1)) (Int.toNat (if w64 ((w64 ((vI p12 1) - (Int.tmod (vI p12 1) (16:Int)))) + (16:Int)) < gI y15 1 then w64 ((w64 ((vI p12 1) - (Int.tmod (vI p12 1) (16:Int)))) + (16:Int)) else gI
  y15 1))), Tree.sl (2:Nat) []]])])) none) none) none) none) none) (again10 ([AV.sref (0:Nat) (sVer p12 0) (sOff p12 0) (sLen p12 0), AV.t (tI (w64 ((vI p9 1) + (1:Int))))], [AObj.row false (oVer p12 0)
  (8:Nat) (oEs p12 0)]))) none) none

noncomputable def L39_2 (n : Nat) (a3 : List (List Tree)) (a2 : ByteArray) (a0 : Int) (a1 : Int) (p9 : List AV × Heap) (again10 : (List AV × Heap) → Option (List Tree)) : Option (List Tree) :=
  cnd (decide (vI p9 1 < ((List.length a3:Nat):Int)) = true) (cnd ((2:Nat) = (2:Nat) ∧ (0:Int) ≤ vI p9 1) (Option.bind a3[Int.toNat (vI p9 1)]? fun y11 => cnd (okI y11 0) (loopIter (fun (p12 : List AV ×
  Heap) (again13 : _ → Option (List Tree)) => L39_1 n p9 a3 a2 a0 again10 p12 again13) n ([AV.sref (0:Nat) (sVer p9 0) (sOff p9 0) (sLen p9 0), AV.t (tI (gI y11 0))], [AObj.row false (oVer p9 0) (8:Nat)
  (oEs p9 0)])) none) none) (cnd (oVer p9 0 = sVer p9 0) (cnd (oVer p9 0 = sVer p9 0 ∧ (8:Nat) = (8:Nat) ∧ (0:Int) ≤ w64 (((sLen p9 0:Nat):Int) - (1:Int)) ∧ w64 (((sLen p9 0:Nat):Int) - (1:Int)) <
  ((sLen p9 0:Nat):Int)) (cnd (oVer p9 0 = sVer p9 0) (cnd (oVer p9 0 = sVer p9 0 ∧ (6:Nat) ≤ (8:Nat)) (Option.bind (oEs p9 0)[(sOff p9 0) + (Int.toNat (w64 (((sLen p9 0:Nat):Int) - (1:Int))))]? fun y16
  => cnd (sVer p9 0 = sVer p9 0) (cnd (sVer p9 0 = sVer p9 0 ∧ (8:Nat) = (8:Nat) ∧ (0:Int) ≤ w64 (((sLen p9 0:Nat):Int) - (1:Int)) ∧ w64 (((sLen p9 0:Nat):Int) - (1:Int)) < ((sLen p9 0:Nat):Int)) (cnd
  (sVer p9 0 = sVer p9 0) (cnd (sVer p9 0 = sVer p9 0 ∧ (3:Nat) ≤ (8:Nat)) (Option.bind (List.set (oEs p9 0) ((sOff p9 0) + (Int.toNat (w64 (((sLen p9 0:Nat):Int) - (1:Int))))) (List.take (5:Nat) y16 ++
  ([Tree.bool true] ++ List.drop (6:Nat) y16)))[(sOff p9 0) + (Int.toNat (w64 (((sLen p9 0:Nat):Int) - (1:Int))))]? fun y17 => cnd ((false = true ∨ false = false) ∧ sVer p9 0 = sVer p9 0 ∧ ((8:Nat) =
  (8:Nat) ∨ (8:Nat) = (0:Nat))) (some [Tree.sl (8:Nat) (List.take (sLen p9 0) (List.drop (sOff p9 0) (List.set (List.set (oEs p9 0) ((sOff p9 0) + (Int.toNat (w64 (((sLen p9 0:Nat):Int) - (1:Int)))))
  (List.take (5:Nat) y16 ++ ([Tree.bool true] ++ List.drop (6:Nat) y16))) ((sOff p9 0) + (Int.toNat (w64 (((sLen p9 0:Nat):Int) - (1:Int))))) (List.take (2:Nat) y17 ++ ([tI a1] ++ List.drop (3:Nat)
  y17))))), tI (0:Int)]) none) none) none) none) none) none) none) none) none)

noncomputable def J39_3 (n : Nat) (a2 : ByteArray) (a3 : List (List Tree)) (a0 : Int) (a1 : Int) (p4 : List AV × Heap) : Option (List Tree) :=
  cnd (vB p4 0 = true) (some [Tree.sl (8:Nat) [], tI (2:Int)]) (cnd ((((ByteArray.size a2:Nat):Int) == (0:Int)) = true) (some [Tree.sl (8:Nat) [], tI (20:Int)]) (cnd (decide (((ByteArray.size
  a2:Nat):Int) > (65536:Int)) = true) (some [Tree.sl (8:Nat) [], tI (4:Int)]) (Option.bind (apure C n (64:Nat) [Tree.sl (2:Nat) a3, tI ((ByteArray.size a2:Nat):Int)]) fun y8 => cnd (List.length y8 =
  (1:Nat)) (cnd (okB y8 0) (cnd ((!(gB y8 0)) = true) (some [Tree.sl (8:Nat) [], tI (1:Int)]) (cnd ((((List.length a3:Nat):Int) == (0:Int)) = true) (some [Tree.sl (8:Nat) [], tI (20:Int)]) (loopIter
  (fun (p9 : List AV × Heap) (again10 : _ → Option (List Tree)) => L39_2 n a3 a2 a0 a1 p9 again10) n ([AV.sref (0:Nat) (0:Nat) (0:Nat) (0:Nat), AV.t (tI (0:Int))], [AObj.row false (0:Nat) (8:Nat)
  []])))) none) none)))
theorem e39 (n : Nat) (a0 : Int) (a1 : Int) (a2 : ByteArray) (a3 : List (List Tree)) : apure C (n + 1) 39 [tI a0, tI a1, Tree.str a2, Tree.sl (2:Nat) a3] =
  join (fun (p4 : List AV × Heap) => J39_3 n a2 a3 a0 a1 p4) fun (again5 : _ → Option (List Tree)) => Option.bind (apure C n (63:Nat) [tI a0, tI (0:Int), tI (1099511627776:Int)]) fun y6 => cnd
  (List.length y6 = (1:Nat)) (cnd (okB y6 0) (cnd ((!(gB y6 0)) = true) (again5 ([AV.t (Tree.bool true)], [])) (Option.bind (apure C n (63:Nat) [tI a1, tI (1:Int), tI (1099511627776:Int)]) fun y7 => cnd
  (List.length y7 = (1:Nat)) (cnd (okB y7 0) (again5 ([AV.t (Tree.bool (!(gB y7 0)))], [])) none) none)) none) none := by kernel_rfl

noncomputable def L40_1 (n : Nat) (a15 : List (List Tree)) (p17 : List AV × Heap) (again18 : (List AV × Heap) → Option (List Tree)) : Option (List Tree) :=
  cnd (decide (vI p17 2 < ((List.length a15:Nat):Int)) = true) (cnd ((8:Nat) = (8:Nat) ∧ (0:Int) ≤ vI p17 2) (Option.bind a15[Int.toNat (vI p17 2)]? fun y19 => cnd (okI y19 0) (cnd (okI y19 1) (cnd (okI
  y19 2) (cnd (okI y19 3) (cnd (okI y19 4) (cnd (okB y19 5) (cnd (okS y19 6) (cnd (okL 2 y19 7) (Option.bind (apure C n (65:Nat) [tI (cI p17 0 4), tI (gI y19 0), tI (gI y19 1), tI (gI y19 2), tI (gI y19
  3), tI (gI y19 4), Tree.bool (gB y19 5), Tree.str (gS y19 6), Tree.sl (2:Nat) (gL y19 7)]) fun y20 => cnd (List.length y20 = (2:Nat)) (cnd (okI y20 0) (cnd (okI y20 1) (cnd ((8:Nat) = (8:Nat) ∧
  (0:Int) ≤ vI p17 2) (Option.bind a15[Int.toNat (vI p17 2)]? fun y21 => cnd (okI y21 0) (cnd (okI y21 1) (cnd (okI y21 2) (cnd (okI y21 3) (cnd (okI y21 4) (cnd (okB y21 5) (cnd (okS y21 6) (cnd (okL 2
  y21 7) (cnd (oVer p17 2 = sVer p17 1 ∧ ((9:Nat) = (9:Nat) ∨ (9:Nat) = (0:Nat)) ∧ (sOff p17 1) + (sLen p17 1) ≤ List.length (oEs p17 2) ∧ (sLen p17 1) + (1:Nat) ≤ (1073741824:Nat)) (again18 ([AV.t (tI
  (w64 ((vI p17 0) + (gI y20 0)))), AV.sref (2:Nat) ((sVer p17 1) + (1:Nat)) (0:Nat) ((sLen p17 1) + (1:Nat)), AV.t (tI (w64 ((vI p17 2) + (1:Int))))], [AObj.box [AV.t (tI (cI p17 0 0)), AV.t (tI (cI
  p17 0 1)), AV.t (tI (cI p17 0 2)), AV.t (tI (cI p17 0 3)), AV.t (tI (cI p17 0 4)), AV.t (tI (cI p17 0 5)), AV.t (tI (cI p17 0 6)), AV.t (tI (cI p17 0 7)), AV.t (Tree.str (cS p17 0 8)), AV.t (tI (cI
  p17 0 9)), AV.t (tI (cI p17 0 10)), AV.t (tI (cI p17 0 11)), AV.t (Tree.sl (2:Nat) (cL p17 0 12)), AV.t (tI (cI p17 0 13)), AV.t (tI (cI p17 0 14))], AObj.box [AV.t (tI (cI p17 1 0)), AV.t (tI (cI p17
  1 1)), AV.t (tI (cI p17 1 2)), AV.t (tI (cI p17 1 3)), AV.t (tI (cI p17 1 4)), AV.t (tI (cI p17 1 5)), AV.t (tI (cI p17 1 6)), AV.t (tI (cI p17 1 7)), AV.t (Tree.str (cS p17 1 8)), AV.t (tI (cI p17 1
  9)), AV.t (tI (cI p17 1 10)), AV.t (tI (cI p17 1 11)), AV.t (Tree.sl (2:Nat) (cL p17 1 12)), AV.t (tI (cI p17 1 13)), AV.t (tI (cI p17 1 14))], AObj.row false ((sVer p17 1) + (1:Nat)) (9:Nat)
  ((List.take (sLen p17 1) (List.drop (sOff p17 1) (oEs p17 2))) ++ [[tI (w64 ((vI p17 0) + (gI y20 0))), tI (gI y21 0), tI (gI y21 1), tI (gI y21 2), tI (gI y21 3), tI (gI y21 4), Tree.bool (gB y21 5),
  Tree.str (gS y21 6), Tree.sl (2:Nat) (gL y21 7)]])])) none) none) none) none) none) none) none) none) none) none) none) none) none) none) none) none) none) none) none) none) none) none) (cnd (decide
  (vI p17 0 > cI p17 0 9) = true) (some [tI (cI p17 0 0), tI (cI p17 0 1), tI (cI p17 0 2), tI (cI p17 0 3), tI (cI p17 0 4), tI (cI p17 0 5), tI (cI p17 0 6), tI (cI p17 0 7), Tree.str (cS p17 0 8), tI
  (cI p17 0 9), tI (cI p17 0 10), tI (cI p17 0 11), Tree.sl (2:Nat) (cL p17 0 12), tI (0:Int), tI (3:Int), Tree.sl (9:Nat) []]) (cnd ((8:Nat) = (8:Nat) ∧ (0:Int) ≤ w64 (((List.length a15:Nat):Int) -
  (1:Int))) (Option.bind a15[Int.toNat (w64 (((List.length a15:Nat):Int) - (1:Int)))]? fun y22 => cnd (okI y22 2) (cnd ((false = true ∨ false = false) ∧ oVer p17 2 = sVer p17 1 ∧ ((9:Nat) = (9:Nat) ∨
  (9:Nat) = (0:Nat))) (some [tI (cI p17 0 0), tI (cI p17 0 1), tI (cI p17 0 2), tI (cI p17 0 3), tI (cI p17 0 4), tI (cI p17 0 5), tI (cI p17 0 6), tI (cI p17 0 7), Tree.str (cS p17 0 8), tI (cI p17 0
  9), tI (vI p17 0), tI (gI y22 2), Tree.sl (2:Nat) (cL p17 0 12), tI (w64 ((w64 ((vI p17 0) + (w64 ((2:Int) * (cI p17 0 5))))) + (1:Int))), tI (1:Int), Tree.sl (9:Nat) (List.take (sLen p17 1)
  (List.drop (sOff p17 1) (oEs p17 2)))]) none) none) none))
theorem e40 (n : Nat) (a0 : Int) (a1 : Int) (a2 : Int) (a3 : Int) (a4 : Int) (a5 : Int) (a6 : Int) (a7 : Int) (a8 : ByteArray) (a9 : Int) (a10 : Int) (a11 : Int) (a12 : List (List Tree)) (a13 : Int) (a14 : Int) (a15 : List (List Tree)) (a16 : Int) : apure C (n + 1) 40 [tI a0, tI a1, tI a2, tI a3, tI a4, tI a5, tI a6, tI a7, Tree.str a8, tI a9, tI a10, tI a11, Tree.sl (2:Nat) a12, tI a13, tI a14, Tree.sl (8:Nat) a15, tI a16] =
  loopIter (fun (p17 : List AV × Heap) (again18 : _ → Option (List Tree)) => L40_1 n a15 p17 again18) n ([AV.t (tI a16), AV.sref (2:Nat) (0:Nat) (0:Nat) (0:Nat), AV.t (tI (0:Int))], [AObj.box [AV.t (tI
  a0), AV.t (tI a1), AV.t (tI a2), AV.t (tI a3), AV.t (tI a4), AV.t (tI a5), AV.t (tI a6), AV.t (tI a7), AV.t (Tree.str a8), AV.t (tI a9), AV.t (tI a10), AV.t (tI a11), AV.t (Tree.sl (2:Nat) a12), AV.t
  (tI a13), AV.t (tI a14)], AObj.box [AV.t (tI (0:Int)), AV.t (tI (0:Int)), AV.t (tI (0:Int)), AV.t (tI (0:Int)), AV.t (tI (0:Int)), AV.t (tI (0:Int)), AV.t (tI (0:Int)), AV.t (tI (0:Int)), AV.t
  (Tree.str (ByteArray.mk #[])), AV.t (tI (0:Int)), AV.t (tI (0:Int)), AV.t (tI (0:Int)), AV.t (Tree.sl (2:Nat) []), AV.t (tI (0:Int)), AV.t (tI (0:Int))], AObj.row false (0:Nat) (9:Nat) []]) := by kernel_rfl

noncomputable def L41_1 (n : Nat) (a0 : List (List Tree)) (a1 : List (List Tree)) (p2 : List AV × Heap) (again3 : (List AV × Heap) → Option (List Tree)) : Option (List Tree) :=
  cnd (decide (vI p2 0 < ((List.length a0:Nat):Int)) = true) (cnd ((2:Nat) = (2:Nat) ∧ (0:Int) ≤ vI p2 0) (Option.bind a0[Int.toNat (vI p2 0)]? fun y4 => cnd (okI y4 0) (cnd (okI y4 1) (cnd ((2:Nat) =
  (2:Nat) ∧ (0:Int) ≤ vI p2 0) (Option.bind a1[Int.toNat (vI p2 0)]? fun y5 => cnd (okI y5 0) (cnd (okI y5 1) (cnd ((!(((gI y4 0) == (gI y5 0)) && ((gI y4 1) == (gI y5 1)))) = true) (some [Tree.bool
  false]) (again3 ([AV.t (tI (w64 ((vI p2 0) + (1:Int))))], []))) none) none) none) none) none) none) (some [Tree.bool true])
theorem e41 (n : Nat) (a0 : List (List Tree)) (a1 : List (List Tree)) : apure C (n + 1) 41 [Tree.sl (2:Nat) a0, Tree.sl (2:Nat) a1] =
  cnd ((((List.length a0:Nat):Int) != ((List.length a1:Nat):Int)) = true) (some [Tree.bool false]) (loopIter (fun (p2 : List AV × Heap) (again3 : _ → Option (List Tree)) => L41_1 n a0 a1 p2 again3) n
  ([AV.t (tI (0:Int))], [])) := by kernel_rfl

theorem e43 (n : Nat) (a0 : Int) (a1 : Int) (a2 : Int) (a3 : Int) (a4 : Int) (a5 : Bool) (a6 : ByteArray) (a7 : List (List Tree)) : apure C (n + 1) 43 [tI a0, tI a1, tI a2, tI a3, tI a4, Tree.bool a5, Tree.str a6, Tree.sl (2:Nat) a7] =
  Option.bind (apure C n (63:Nat) [tI a0, tI (1:Int), tI (3:Int)]) fun y8 => cnd (List.length y8 = (1:Nat)) (cnd (okB y8 0) (cnd ((!(gB y8 0)) = true) (some [tI (8:Int)]) (Option.bind (apure C n
  (69:Nat) [tI a0, tI a1, tI a2, tI a3, tI a4, Tree.bool a5, Tree.str a6, Tree.sl (2:Nat) a7]) fun y9 => cnd (List.length y9 = (1:Nat)) (cnd (okB y9 0) (cnd ((!(gB y9 0)) = true) (some [tI (2:Int)])
  (Option.bind (apure C n (70:Nat) [tI a0, tI a1, tI a2, tI a3, tI a4, Tree.bool a5, Tree.str a6, Tree.sl (2:Nat) a7]) fun y10 => cnd (List.length y10 = (1:Nat)) (cnd (okB y10 0) (cnd ((!(gB y10 0)) =
  true) (some [tI (1:Int)]) (some [tI (0:Int)])) none) none)) none) none)) none) none := by kernel_rfl

noncomputable def L44_1 (n : Nat) (a1 : List (List Tree)) (p3 : List AV × Heap) (again4 : (List AV × Heap) → Option (List Tree)) : Option (List Tree) :=
  cnd (decide (vI p3 1 < ((List.length a1:Nat):Int)) = true) (cnd ((2:Nat) = (2:Nat) ∧ (0:Int) ≤ vI p3 1) (Option.bind a1[Int.toNat (vI p3 1)]? fun y5 => cnd (okI y5 0) (cnd (okI y5 1) (cnd ((true =
  true ∨ true = false) ∧ oVer p3 0 = sVer p3 0 ∧ ((2:Nat) = (2:Nat) ∨ (2:Nat) = (0:Nat))) (Option.bind (apure C n (1000072:Nat) [Tree.sl (2:Nat) (List.take (sLen p3 0) (List.drop (sOff p3 0) (oEs p3
  0))), tI (gI y5 0), tI (gI y5 1)]) fun y6 => cnd (List.length y6 = (1:Nat) ∧ okL 2 y6 0) (again4 ([AV.sref (0:Nat) ((oVer p3 0) + (1:Nat)) (0:Nat) (List.length (gL y6 0)), AV.t (tI (w64 ((vI p3 1) +
  (1:Int))))], [AObj.row false ((oVer p3 0) + (1:Nat)) (2:Nat) (gL y6 0)])) none) none) none) none) none) (cnd ((true = true ∨ true = false) ∧ oVer p3 0 = sVer p3 0 ∧ ((2:Nat) = (2:Nat) ∨ (2:Nat) =
  (0:Nat))) (Option.bind (apure C n (73:Nat) [Tree.sl (2:Nat) (List.take (sLen p3 0) (List.drop (sOff p3 0) (oEs p3 0)))]) fun y7 => cnd (List.length y7 = (2:Nat)) (cnd (okL 2 y7 0) (cnd (okI y7 1)
  (some [Tree.sl (2:Nat) (gL y7 0), tI (gI y7 1)]) none) none) none) none)
theorem e44 (n : Nat) (a0 : List (List Tree)) (a1 : List (List Tree)) : apure C (n + 1) 44 [Tree.sl (2:Nat) a0, Tree.sl (2:Nat) a1] =
  Option.bind (apure C n (71:Nat) [Tree.sl (2:Nat) a0, Tree.sl (2:Nat) a1]) fun y2 => cnd (List.length y2 = (1:Nat)) (cnd (okB y2 0) (cnd (gB y2 0 = true) (some [Tree.sl (2:Nat) [], tI (1:Int)]) (cnd
  (List.length a0 ≤ (1073741824:Nat)) (loopIter (fun (p3 : List AV × Heap) (again4 : _ → Option (List Tree)) => L44_1 n a1 p3 again4) n ([AV.sref (0:Nat) (0:Nat) (0:Nat) (List.length a0), AV.t (tI
  (0:Int))], [AObj.row false (0:Nat) (2:Nat) a0])) none)) none) none := by kernel_rfl

theorem e45 (n : Nat) (a0 : Int) (a1 : Int) (a2 : Int) (a3 : Int) (a4 : Int) (a5 : Int) (a6 : Int) (a7 : Int) (a8 : ByteArray) (a9 : Int) (a10 : Int) (a11 : Int) (a12 : List (List Tree)) (a13 : Int) (a14 : Int) : apure C (n + 1) 45 [tI a0, tI a1, tI a2, tI a3, tI a4, tI a5, tI a6, tI a7, Tree.str a8, tI a9, tI a10, tI a11, Tree.sl (2:Nat) a12, tI a13, tI a14] =
  Option.bind (apure C n (74:Nat) [Tree.sl (2:Nat) [[tI (0:Int), tI ((ByteArray.size a8:Nat):Int)]], Tree.sl (2:Nat) a12]) fun y15 => cnd (List.length y15 = (2:Nat)) (cnd (okL 2 y15 0) (cnd (okI y15 1)
  (some [Tree.sl (2:Nat) (gL y15 0)]) none) none) none := by kernel_rfl

noncomputable def J46_1 (n : Nat) (a12 : List (List Tree)) (a8 : ByteArray) (p16 : List AV × Heap) : Option (List Tree) :=
  cnd (vB p16 0 = true) (some [tI (2:Int)]) (Option.bind (apure C n (75:Nat) [Tree.sl (2:Nat) a12]) fun y24 => cnd (List.length y24 = (1:Nat)) (cnd (okI y24 0) (cnd (((gI y24 0) != (0:Int)) = true)
  (some [tI (1:Int)]) (cnd (decide (((List.length a12:Nat):Int) > (0:Int)) = true) (Option.bind a12[(0:Nat)]? fun y25 => cnd (okI y25 0) (cnd (decide (gI y25 0 < (0:Int)) = true) (some [tI (1:Int)])
  (cnd ((2:Nat) = (2:Nat) ∧ (0:Int) ≤ w64 (((List.length a12:Nat):Int) - (1:Int))) (Option.bind a12[Int.toNat (w64 (((List.length a12:Nat):Int) - (1:Int)))]? fun y26 => cnd (okI y26 1) (cnd (decide (gI
  y26 1 > ((ByteArray.size a8:Nat):Int)) = true) (some [tI (1:Int)]) (some [tI (0:Int)])) none) none)) none) (some [tI (0:Int)]))) none) none)
theorem e46 (n : Nat) (a0 : Int) (a1 : Int) (a2 : Int) (a3 : Int) (a4 : Int) (a5 : Int) (a6 : Int) (a7 : Int) (a8 : ByteArray) (a9 : Int) (a10 : Int) (a11 : Int) (a12 : List (List Tree)) (a13 : Int) (a14 : Int) : apure C (n + 1) 46 [tI a0, tI a1, tI a2, tI a3, tI a4, tI a5, tI a6, tI a7, Tree.str a8, tI a9, tI a10, tI a11, Tree.sl (2:Nat) a12, tI a13, tI a14] =
  Option.bind (apure C n (34:Nat) [tI a0, tI a1, tI a2, tI a3, tI a4, tI a5, tI a6]) fun y15 => cnd (List.length y15 = (1:Nat)) (cnd (okI y15 0) (cnd (((gI y15 0) != (0:Int)) = true) (some [tI (1:Int)])
  (join (fun (p16 : List AV × Heap) => J46_1 n a12 a8 p16) fun (again17 : _ → Option (List Tree)) => Option.bind (apure C n (35:Nat) [tI a7, tI (0:Int), tI (1099511627776:Int)]) fun y18 => cnd
  (List.length y18 = (1:Nat)) (cnd (okB y18 0) (cnd ((!(gB y18 0)) = true) (again17 ([AV.t (Tree.bool true)], [AObj.box []])) (Option.bind (apure C n (35:Nat) [tI ((ByteArray.size a8:Nat):Int), tI
  (1:Int), tI (65536:Int)]) fun y19 => cnd (List.length y19 = (1:Nat)) (cnd (okB y19 0) (cnd ((!(gB y19 0)) = true) (again17 ([AV.t (Tree.bool true)], [AObj.box []])) (Option.bind (apure C n (35:Nat)
  [tI a10, tI a2, tI a9]) fun y20 => cnd (List.length y20 = (1:Nat)) (cnd (okB y20 0) (cnd ((!(gB y20 0)) = true) (again17 ([AV.t (Tree.bool true)], [AObj.box []])) (cnd (decide (a9 > a3) = true)
  (again17 ([AV.t (Tree.bool true)], [AObj.box []])) (Option.bind (apure C n (35:Nat) [tI a11, tI (1:Int), tI (1099511627776:Int)]) fun y21 => cnd (List.length y21 = (1:Nat)) (cnd (okB y21 0) (again17
  ([AV.t (Tree.bool (!(gB y21 0)))], [AObj.box []])) none) none))) none) none)) none) none)) none) none)) none) none := by kernel_rfl

theorem e47 (n : Nat) (a0 : Int) (a1 : Int) (a2 : Int) (a3 : Int) (a4 : Int) (a5 : Int) (a6 : Int) (a7 : Int) (a8 : ByteArray) (a9 : Int) (a10 : Int) (a11 : Int) (a12 : List (List Tree)) (a13 : Int) (a14 : Int) : apure C (n + 1) 47 [tI a0, tI a1, tI a2, tI a3, tI a4, tI a5, tI a6, tI a7, Tree.str a8, tI a9, tI a10, tI a11, Tree.sl (2:Nat) a12, tI a13, tI a14] =
  Option.bind (apure C n (76:Nat) [Tree.str a8]) fun y15 => cnd (List.length y15 = (1:Nat)) (cnd (okL 2 y15 0) (Option.bind (apure C n (30:Nat) [Tree.sl (2:Nat) a12, Tree.sl (2:Nat) (gL y15 0)]) fun y16
  => cnd (List.length y16 = (1:Nat)) (cnd (okB y16 0) (some [Tree.bool (gB y16 0)]) none) none) none) none := by kernel_rfl

theorem e48 (n : Nat) (a0 : Int) (a1 : Int) (a2 : Int) (a3 : Int) (a4 : Int) (a5 : Int) (a6 : Int) (a7 : Int) (a8 : ByteArray) (a9 : Int) (a10 : Int) (a11 : Int) (a12 : List (List Tree)) (a13 : Int) (a14 : Int) : apure C (n + 1) 48 [tI a0, tI a1, tI a2, tI a3, tI a4, tI a5, tI a6, tI a7, Tree.str a8, tI a9, tI a10, tI a11, Tree.sl (2:Nat) a12, tI a13, tI a14] =
  some [tI (w64 ((w64 (a10 + (w64 ((2:Int) * a5)))) + (1:Int)))] := by kernel_rfl

theorem e49 (n : Nat) (a0 : Int) (a1 : Int) (a2 : Int) : apure C (n + 1) 49 [tI a0, tI a1, tI a2] =
  cnd (decide (a0 ≥ a1) = true) (some [Tree.bool (decide (a0 ≤ a2))]) (some [Tree.bool false]) := by kernel_rfl

theorem e51 (n : Nat) (a0 : List (List Tree)) (a1 : Int) : apure C (n + 1) 51 [Tree.sl (2:Nat) a0, tI a1] =
  Option.bind (apure C n (75:Nat) [Tree.sl (2:Nat) a0]) fun y4 => cnd (List.length y4 = (1:Nat)) (cnd (okI y4 0) (cnd (((gI y4 0) == (0:Int)) = true) (cnd ((((List.length a0:Nat):Int) == (0:Int)) =
  true) (some [Tree.bool true]) (Option.bind a0[(0:Nat)]? fun y5 => cnd (okI y5 0) (cnd (decide (gI y5 0 ≥ (0:Int)) = true) (cnd ((2:Nat) = (2:Nat) ∧ (0:Int) ≤ w64 (((List.length a0:Nat):Int) -
  (1:Int))) (Option.bind a0[Int.toNat (w64 (((List.length a0:Nat):Int) - (1:Int)))]? fun y6 => cnd (okI y6 1) (some [Tree.bool (decide (gI y6 1 ≤ a1))]) none) none) (some [Tree.bool false])) none))
  (some [Tree.bool false])) none) none := by kernel_rfl

noncomputable def L53_1 (n : Nat) (a0 : List (List Tree)) (a1 : List (List Tree)) (p2 : List AV × Heap) (again3 : (List AV × Heap) → Option (List Tree)) : Option (List Tree) :=
  cnd (decide (vI p2 0 < ((List.length a0:Nat):Int)) = true) (cnd ((2:Nat) = (2:Nat) ∧ (0:Int) ≤ vI p2 0) (Option.bind a0[Int.toNat (vI p2 0)]? fun y4 => cnd (okI y4 0) (cnd (okI y4 1) (cnd ((2:Nat) =
  (2:Nat) ∧ (0:Int) ≤ vI p2 0) (Option.bind a1[Int.toNat (vI p2 0)]? fun y5 => cnd (okI y5 0) (cnd (okI y5 1) (cnd ((!(((gI y4 0) == (gI y5 0)) && ((gI y4 1) == (gI y5 1)))) = true) (some [Tree.bool
  false]) (again3 ([AV.t (tI (w64 ((vI p2 0) + (1:Int))))], []))) none) none) none) none) none) none) (some [Tree.bool true])
theorem e53 (n : Nat) (a0 : List (List Tree)) (a1 : List (List Tree)) : apure C (n + 1) 53 [Tree.sl (2:Nat) a0, Tree.sl (2:Nat) a1] =
  cnd ((((List.length a0:Nat):Int) != ((List.length a1:Nat):Int)) = true) (some [Tree.bool false]) (loopIter (fun (p2 : List AV × Heap) (again3 : _ → Option (List Tree)) => L53_1 n a0 a1 p2 again3) n
  ([AV.t (tI (0:Int))], [])) := by kernel_rfl

theorem e54 (n : Nat) (a0 : Int) (a1 : Int) (a2 : Int) (a3 : Int) (a4 : Int) (a5 : Int) (a6 : Int) (a7 : Int) (a8 : ByteArray) (a9 : Int) (a10 : Int) (a11 : Int) (a12 : List (List Tree)) (a13 : Int) (a14 : Int) : apure C (n + 1) 54 [tI a0, tI a1, tI a2, tI a3, tI a4, tI a5, tI a6, tI a7, Tree.str a8, tI a9, tI a10, tI a11, Tree.sl (2:Nat) a12, tI a13, tI a14] =
  Option.bind (apure C n (76:Nat) [Tree.str a8]) fun y15 => cnd (List.length y15 = (1:Nat)) (cnd (okL 2 y15 0) (Option.bind (apure C n (32:Nat) [Tree.sl (2:Nat) (gL y15 0), Tree.sl (2:Nat) a12]) fun y16
  => cnd (List.length y16 = (2:Nat)) (cnd (okL 2 y16 0) (cnd (okI y16 1) (some [Tree.sl (2:Nat) (gL y16 0)]) none) none) none) none) none := by kernel_rfl

noncomputable def L55_1 (n : Nat) (a0 : List (List Tree)) (p1 : List AV × Heap) (again2 : (List AV × Heap) → Option (List Tree)) : Option (List Tree) :=
  cnd (decide (vI p1 0 < ((List.length a0:Nat):Int)) = true) (cnd ((2:Nat) = (2:Nat) ∧ (0:Int) ≤ vI p1 0) (Option.bind a0[Int.toNat (vI p1 0)]? fun y3 => cnd (okI y3 0) (cnd (okI y3 1) (Option.bind
  (apure C n (84:Nat) [tI (gI y3 0), tI (gI y3 1)]) fun y4 => cnd (List.length y4 = (1:Nat)) (cnd (okB y4 0) (cnd ((!(gB y4 0)) = true) (some [tI (2:Int)]) (cnd (decide (vI p1 0 > (0:Int)) = true) (cnd
  ((2:Nat) = (2:Nat) ∧ (0:Int) ≤ vI p1 0) (Option.bind a0[Int.toNat (vI p1 0)]? fun y7 => cnd (okI y7 0) (cnd ((2:Nat) = (2:Nat) ∧ (0:Int) ≤ w64 ((vI p1 0) - (1:Int))) (Option.bind a0[Int.toNat (w64
  ((vI p1 0) - (1:Int)))]? fun y8 => cnd (okI y8 1) (cnd (decide (gI y7 0 ≤ gI y8 1) = true) (some [tI (9:Int)]) (again2 ([AV.t (tI (w64 ((vI p1 0) + (1:Int))))], []))) none) none) none) none) (again2
  ([AV.t (tI (w64 ((vI p1 0) + (1:Int))))], [])))) none) none) none) none) none) (some [tI (0:Int)])
theorem e55 (n : Nat) (a0 : List (List Tree)) : apure C (n + 1) 55 [Tree.sl (2:Nat) a0] =
  cnd (decide (((List.length a0:Nat):Int) > (1000:Int)) = true) (some [tI (4:Int)]) (loopIter (fun (p1 : List AV × Heap) (again2 : _ → Option (List Tree)) => L55_1 n a0 p1 again2) n ([AV.t (tI
  (0:Int))], [])) := by kernel_rfl

theorem e57 (n : Nat) (a0 : Bool) (a1 : Bool) : apure C (n + 1) 57 [Tree.bool a0, Tree.bool a1] =
  cnd (a0 = true) (some [Tree.bool (!a1)]) (some [Tree.bool false]) := by kernel_rfl

theorem e59 (n : Nat) (a0 : Int) (a1 : Int) (a2 : Int) : apure C (n + 1) 59 [tI a0, tI a1, tI a2] =
  cnd (decide (a0 ≥ a1) = true) (some [Tree.bool (decide (a0 ≤ a2))]) (some [Tree.bool false]) := by kernel_rfl

theorem e62 (n : Nat) (a0 : Int) (a1 : Int) (a2 : Int) (a3 : Int) (a4 : Int) (a5 : Int) (a6 : Int) (a7 : Int) (a8 : ByteArray) (a9 : Int) (a10 : Int) (a11 : Int) (a12 : List (List Tree)) (a13 : Int) (a14 : Int) : apure C (n + 1) 62 [tI a0, tI a1, tI a2, tI a3, tI a4, tI a5, tI a6, tI a7, Tree.str a8, tI a9, tI a10, tI a11, Tree.sl (2:Nat) a12, tI a13, tI a14] =
  some [tI a0, tI a1, tI a2, tI a3, tI a4, tI a5, tI a6, tI a7, Tree.str a8, tI a9, tI a10, tI a11, Tree.sl (2:Nat) a12, tI (0:Int), tI (3:Int)] := by kernel_rfl

theorem e63 (n : Nat) (a0 : Int) (a1 : Int) (a2 : Int) : apure C (n + 1) 63 [tI a0, tI a1, tI a2] =
  cnd (decide (a0 ≥ a1) = true) (some [Tree.bool (decide (a0 ≤ a2))]) (some [Tree.bool false]) := by kernel_rfl

theorem e64 (n : Nat) (a0 : List (List Tree)) (a1 : Int) : apure C (n + 1) 64 [Tree.sl (2:Nat) a0, tI a1] =
  Option.bind (apure C n (55:Nat) [Tree.sl (2:Nat) a0]) fun y2 => cnd (List.length y2 = (1:Nat)) (cnd (okI y2 0) (cnd (((gI y2 0) != (0:Int)) = true) (some [Tree.bool false]) (cnd ((((List.length
  a0:Nat):Int) == (0:Int)) = true) (some [Tree.bool true]) (Option.bind a0[(0:Nat)]? fun y5 => cnd (okI y5 0) (cnd (decide (gI y5 0 ≥ (0:Int)) = true) (cnd ((2:Nat) = (2:Nat) ∧ (0:Int) ≤ w64
  (((List.length a0:Nat):Int) - (1:Int))) (Option.bind a0[Int.toNat (w64 (((List.length a0:Nat):Int) - (1:Int)))]? fun y6 => cnd (okI y6 1) (some [Tree.bool (decide (gI y6 1 ≤ a1))]) none) none) (some
  [Tree.bool false])) none))) none) none := by kernel_rfl

theorem e65 (n : Nat) (a0 : Int) (a1 : Int) (a2 : Int) (a3 : Int) (a4 : Int) (a5 : Int) (a6 : Bool) (a7 : ByteArray) (a8 : List (List Tree)) : apure C (n + 1) 65 [tI a0, tI a1, tI a2, tI a3, tI a4, tI a5, Tree.bool a6, Tree.str a7, Tree.sl (2:Nat) a8] =
  Option.bind (apure C n (43:Nat) [tI a1, tI a2, tI a3, tI a4, tI a5, Tree.bool a6, Tree.str a7, Tree.sl (2:Nat) a8]) fun y9 => cnd (List.length y9 = (1:Nat)) (cnd (okI y9 0) (cnd (((gI y9 0) !=
  (0:Int)) = true) (some [tI (0:Int), tI (1:Int)]) (Option.bind (apure C n (63:Nat) [tI a0, tI (1:Int), tI (1000:Int)]) fun y10 => cnd (List.length y10 = (1:Nat)) (cnd (okB y10 0) (cnd ((!(gB y10 0)) =
  true) (some [tI (0:Int), tI (2:Int)]) (cnd ((a1 != (1:Int)) = true) (some [tI (0:Int), tI (0:Int)]) (cnd (a0 = (0:Int)) none (some [tI (w64 (Int.tdiv (w64 ((w64 ((w64 (((ByteArray.size a7:Nat):Int) +
  (8:Int))) + a0)) - (1:Int))) a0)), tI (0:Int)])))) none) none)) none) none := by kernel_rfl

noncomputable def J66_1 (n : Nat) (y24 : List Tree) (a15 : Int) (p25 : List AV × Heap) : Option (List Tree) :=
  cnd (vB p25 0 = true) (some [tI (cI p25 0 0), tI (cI p25 0 1), tI (cI p25 0 2), tI (cI p25 0 3), tI (cI p25 0 4), tI (cI p25 0 5), tI (cI p25 0 6), tI (cI p25 0 7), Tree.str (cS p25 0 8), tI (cI p25 0
  9), tI (cI p25 0 10), tI (cI p25 0 11), Tree.sl (2:Nat) (cL p25 0 12), tI (cI p25 0 13), tI (cI p25 0 14), Tree.sl (9:Nat) []]) (Option.bind (apure C n (47:Nat) [tI (cI p25 0 0), tI (cI p25 0 1), tI
  (cI p25 0 2), tI (cI p25 0 3), tI (cI p25 0 4), tI (cI p25 0 5), tI (cI p25 0 6), tI (cI p25 0 7), Tree.str (cS p25 0 8), tI (cI p25 0 9), tI (cI p25 0 10), tI (cI p25 0 11), Tree.sl (2:Nat) (gL y24
  0), tI (cI p25 0 13), tI (cI p25 0 14)]) fun y27 => cnd (List.length y27 = (1:Nat)) (cnd (okB y27 0) (cnd (gB y27 0 = true) (some [tI (cI p25 0 0), tI (cI p25 0 1), tI (cI p25 0 2), tI (cI p25 0 3),
  tI (cI p25 0 4), tI (cI p25 0 5), tI (cI p25 0 6), tI (cI p25 0 7), Tree.str (cS p25 0 8), tI (cI p25 0 9), tI (cI p25 0 10), tI (cI p25 0 11), Tree.sl (2:Nat) (gL y24 0), tI (0:Int), tI (2:Int),
  Tree.sl (9:Nat) []]) (Option.bind (apure C n (37:Nat) [tI (cI p25 0 0), tI (cI p25 0 1), tI (cI p25 0 2), tI (cI p25 0 3), tI (cI p25 0 4), tI (cI p25 0 5), tI (cI p25 0 6), tI (cI p25 0 7), Tree.str
  (cS p25 0 8), tI (cI p25 0 9), tI (cI p25 0 10), tI (cI p25 0 11), Tree.sl (2:Nat) (gL y24 0), tI (cI p25 0 13), tI (cI p25 0 14)]) fun y28 => cnd (List.length y28 = (1:Nat)) (cnd (okL 8 y28 0)
  (Option.bind (apure C n (36:Nat) [tI (cI p25 0 0), tI (cI p25 0 1), tI (cI p25 0 2), tI (cI p25 0 3), tI (cI p25 0 4), tI (cI p25 0 5), tI (cI p25 0 6), tI (cI p25 0 7), Tree.str (cS p25 0 8), tI (cI
  p25 0 9), tI (cI p25 0 10), tI (cI p25 0 11), Tree.sl (2:Nat) (gL y24 0), tI (cI p25 0 13), tI (cI p25 0 14), tI a15, Tree.sl (8:Nat) (gL y28 0)]) fun y29 => cnd (List.length y29 = (16:Nat)) (cnd (okI
  y29 0) (cnd (okI y29 1) (cnd (okI y29 2) (cnd (okI y29 3) (cnd (okI y29 4) (cnd (okI y29 5) (cnd (okI y29 6) (cnd (okI y29 7) (cnd (okS y29 8) (cnd (okI y29 9) (cnd (okI y29 10) (cnd (okI y29 11) (cnd
  (okL 2 y29 12) (cnd (okI y29 13) (cnd (okI y29 14) (cnd (okL 9 y29 15) (some [tI (gI y29 0), tI (gI y29 1), tI (gI y29 2), tI (gI y29 3), tI (gI y29 4), tI (gI y29 5), tI (gI y29 6), tI (gI y29 7),
  Tree.str (gS y29 8), tI (gI y29 9), tI (gI y29 10), tI (gI y29 11), Tree.sl (2:Nat) (gL y29 12), tI (gI y29 13), tI (gI y29 14), Tree.sl (9:Nat) (gL y29 15)]) none) none) none) none) none) none) none)
  none) none) none) none) none) none) none) none) none) none) none) none)) none) none)
theorem e66 (n : Nat) (a0 : Int) (a1 : Int) (a2 : Int) (a3 : Int) (a4 : Int) (a5 : Int) (a6 : Int) (a7 : Int) (a8 : ByteArray) (a9 : Int) (a10 : Int) (a11 : Int) (a12 : List (List Tree)) (a13 : Int) (a14 : Int) (a15 : Int) (a16 : Int) (a17 : Int) (a18 : Int) (a19 : Int) (a20 : Int) (a21 : Bool) (a22 : ByteArray) (a23 : List (List Tree)) : apure C (n + 1) 66 [tI a0, tI a1, tI a2, tI a3, tI a4, tI a5, tI a6, tI a7, Tree.str a8, tI a9, tI a10, tI a11, Tree.sl (2:Nat) a12, tI a13, tI a14, tI a15, tI a16, tI a17, tI a18, tI a19, tI a20, Tree.bool a21, Tree.str a22, Tree.sl (2:Nat) a23] =
  Option.bind (apure C n (67:Nat) [Tree.sl (2:Nat) a12, Tree.sl (2:Nat) a23]) fun y24 => cnd (List.length y24 = (2:Nat)) (cnd (okL 2 y24 0) (cnd (okI y24 1) (join (fun (p25 : List AV × Heap) => J66_1 n
  y24 a15 p25) fun (again26 : _ → Option (List Tree)) => cnd ((a18 != a11) = true) (again26 ([AV.t (Tree.bool true)], [AObj.box [AV.t (tI a0), AV.t (tI a1), AV.t (tI a2), AV.t (tI a3), AV.t (tI a4),
  AV.t (tI a5), AV.t (tI a6), AV.t (tI a7), AV.t (Tree.str a8), AV.t (tI a9), AV.t (tI a10), AV.t (tI a11), AV.t (Tree.sl (2:Nat) a12), AV.t (tI a13), AV.t (tI a14)], AObj.box [AV.t (tI (0:Int)), AV.t
  (tI (0:Int)), AV.t (tI (0:Int)), AV.t (tI (0:Int)), AV.t (tI (0:Int)), AV.t (tI (0:Int)), AV.t (tI (0:Int)), AV.t (tI (0:Int)), AV.t (Tree.str (ByteArray.mk #[])), AV.t (tI (0:Int)), AV.t (tI
  (0:Int)), AV.t (tI (0:Int)), AV.t (Tree.sl (2:Nat) []), AV.t (tI (0:Int)), AV.t (tI (0:Int))]])) (cnd ((a20 != ((ByteArray.size a8:Nat):Int)) = true) (again26 ([AV.t (Tree.bool true)], [AObj.box [AV.t
  (tI a0), AV.t (tI a1), AV.t (tI a2), AV.t (tI a3), AV.t (tI a4), AV.t (tI a5), AV.t (tI a6), AV.t (tI a7), AV.t (Tree.str a8), AV.t (tI a9), AV.t (tI a10), AV.t (tI a11), AV.t (Tree.sl (2:Nat) a12),
  AV.t (tI a13), AV.t (tI a14)], AObj.box [AV.t (tI (0:Int)), AV.t (tI (0:Int)), AV.t (tI (0:Int)), AV.t (tI (0:Int)), AV.t (tI (0:Int)), AV.t (tI (0:Int)), AV.t (tI (0:Int)), AV.t (tI (0:Int)), AV.t
  (Tree.str (ByteArray.mk #[])), AV.t (tI (0:Int)), AV.t (tI (0:Int)), AV.t (tI (0:Int)), AV.t (Tree.sl (2:Nat) []), AV.t (tI (0:Int)), AV.t (tI (0:Int))]])) (again26 ([AV.t (Tree.bool ((gI y24 1) !=
  (0:Int)))], [AObj.box [AV.t (tI a0), AV.t (tI a1), AV.t (tI a2), AV.t (tI a3), AV.t (tI a4), AV.t (tI a5), AV.t (tI a6), AV.t (tI a7), AV.t (Tree.str a8), AV.t (tI a9), AV.t (tI a10), AV.t (tI a11),
  AV.t (Tree.sl (2:Nat) a12), AV.t (tI a13), AV.t (tI a14)], AObj.box [AV.t (tI (0:Int)), AV.t (tI (0:Int)), AV.t (tI (0:Int)), AV.t (tI (0:Int)), AV.t (tI (0:Int)), AV.t (tI (0:Int)), AV.t (tI
  (0:Int)), AV.t (tI (0:Int)), AV.t (Tree.str (ByteArray.mk #[])), AV.t (tI (0:Int)), AV.t (tI (0:Int)), AV.t (tI (0:Int)), AV.t (Tree.sl (2:Nat) []), AV.t (tI (0:Int)), AV.t (tI (0:Int))]])))) none)
  none) none := by kernel_rfl

noncomputable def J67_1 (n : Nat) (again23 : (List AV × Heap) → Option (List Tree)) (p30 : List AV × Heap) : Option (List Tree) :=
  again23 ([], [AObj.box [AV.func (Fn.func 94) [] []], AObj.row false (oVer p30 1) (2:Nat) (oEs p30 1), AObj.box [AV.sref (1:Nat) (cVer p30 2 0) (cOff p30 2 0) (cLen p30 2 0)], AObj.box [AV.t (Tree.bool
  (cB p30 3 0))], AObj.box [], AObj.box [AV.t (Tree.sl (2:Nat) (cL p30 5 0)), AV.t (tI (cI p30 5 1)), AV.t (Tree.bool (!(cB p30 5 2)))], AObj.box [AV.t (Tree.sl (2:Nat) (cL p30 6 0)), AV.t (tI (cI p30 6
  1)), AV.t (Tree.bool (cB p30 6 2))]])

noncomputable def J67_2 (n : Nat) (again23 : (List AV × Heap) → Option (List Tree)) (p28 : List AV × Heap) : Option (List Tree) :=
  cnd (vB p28 0 = true) (again23 ([], [AObj.box [AV.func (Fn.func 94) [] []], AObj.row false (oVer p28 1) (2:Nat) (oEs p28 1), AObj.box [AV.sref (1:Nat) (cVer p28 2 0) (cOff p28 2 0) (cLen p28 2 0)],
  AObj.box [AV.t (Tree.bool (cB p28 3 0))], AObj.box [], AObj.box [AV.t (Tree.sl (2:Nat) (cL p28 5 0)), AV.t (tI (cI p28 5 1)), AV.t (Tree.bool (cB p28 5 2))], AObj.box [AV.t (Tree.sl (2:Nat) (cL p28 6
  0)), AV.t (tI (cI p28 6 1)), AV.t (Tree.bool (cB p28 6 2))]])) (join (fun (p30 : List AV × Heap) => J67_1 n again23 p30) fun (again31 : _ → Option (List Tree)) => cnd (cB p28 5 2 = true) (again31 ([],
  [AObj.box [AV.func (Fn.func 94) [] []], AObj.row false (oVer p28 1) (2:Nat) (oEs p28 1), AObj.box [AV.sref (1:Nat) (cVer p28 2 0) (cOff p28 2 0) (cLen p28 2 0)], AObj.box [AV.t (Tree.bool (cB p28 3
  0))], AObj.box [], AObj.box [AV.t (Tree.sl (2:Nat) (cL p28 5 0)), AV.t (tI (w64 ((cI p28 5 1) + (1:Int)))), AV.t (Tree.bool (cB p28 5 2))], AObj.box [AV.t (Tree.sl (2:Nat) (cL p28 6 0)), AV.t (tI (cI
  p28 6 1)), AV.t (Tree.bool (cB p28 6 2))]])) (again31 ([], [AObj.box [AV.func (Fn.func 94) [] []], AObj.row false (oVer p28 1) (2:Nat) (oEs p28 1), AObj.box [AV.sref (1:Nat) (cVer p28 2 0) (cOff p28 2
  0) (cLen p28 2 0)], AObj.box [AV.t (Tree.bool (cB p28 3 0))], AObj.box [], AObj.box [AV.t (Tree.sl (2:Nat) (cL p28 5 0)), AV.t (tI (cI p28 5 1)), AV.t (Tree.bool (cB p28 5 2))], AObj.box [AV.t
  (Tree.sl (2:Nat) (cL p28 6 0)), AV.t (tI (cI p28 6 1)), AV.t (Tree.bool (cB p28 6 2))]])))

noncomputable def J67_3 (n : Nat) (again23 : (List AV × Heap) → Option (List Tree)) (p20 : List AV × Heap) (p24 : List AV × Heap) : Option (List Tree) :=
  join (fun (p28 : List AV × Heap) => J67_2 n again23 p28) fun (again29 : _ → Option (List Tree)) => cnd ((!(vB p24 1)) = true) (again29 ([AV.t (Tree.bool true)], [AObj.box [AV.func (Fn.func 94) [] []],
  AObj.row false (oVer p24 1) (2:Nat) (oEs p24 1), AObj.box [AV.sref (1:Nat) (cVer p24 2 0) (cOff p24 2 0) (cLen p24 2 0)], AObj.box [AV.t (Tree.bool (cB p24 3 0))], AObj.box [], AObj.box [AV.t (Tree.sl
  (2:Nat) (cL p24 5 0)), AV.t (tI (cI p24 5 1)), AV.t (Tree.bool (cB p24 5 2))], AObj.box [AV.t (Tree.sl (2:Nat) (cL p24 6 0)), AV.t (tI (cI p24 6 1)), AV.t (Tree.bool (cB p24 6 2))]])) (again29 ([AV.t
  (Tree.bool ((vI p24 0) != (vI p20 0)))], [AObj.box [AV.func (Fn.func 94) [] []], AObj.row false (oVer p24 1) (2:Nat) (oEs p24 1), AObj.box [AV.sref (1:Nat) (cVer p24 2 0) (cOff p24 2 0) (cLen p24 2
  0)], AObj.box [AV.t (Tree.bool (cB p24 3 0))], AObj.box [], AObj.box [AV.t (Tree.sl (2:Nat) (cL p24 5 0)), AV.t (tI (cI p24 5 1)), AV.t (Tree.bool (cB p24 5 2))], AObj.box [AV.t (Tree.sl (2:Nat) (cL
  p24 6 0)), AV.t (tI (cI p24 6 1)), AV.t (Tree.bool (cB p24 6 2))]]))

noncomputable def J67_4 (n : Nat) (again33 : (List AV × Heap) → Option (List Tree)) (p40 : List AV × Heap) : Option (List Tree) :=
  again33 ([], [AObj.box [AV.func (Fn.func 94) [] []], AObj.row false (oVer p40 1) (2:Nat) (oEs p40 1), AObj.box [AV.sref (1:Nat) (cVer p40 2 0) (cOff p40 2 0) (cLen p40 2 0)], AObj.box [AV.t (Tree.bool
  (cB p40 3 0))], AObj.box [], AObj.box [AV.t (Tree.sl (2:Nat) (cL p40 5 0)), AV.t (tI (cI p40 5 1)), AV.t (Tree.bool (cB p40 5 2))], AObj.box [AV.t (Tree.sl (2:Nat) (cL p40 6 0)), AV.t (tI (cI p40 6
  1)), AV.t (Tree.bool (!(cB p40 6 2)))]])

noncomputable def J67_5 (n : Nat) (again33 : (List AV × Heap) → Option (List Tree)) (p38 : List AV × Heap) : Option (List Tree) :=
  cnd (vB p38 0 = true) (again33 ([], [AObj.box [AV.func (Fn.func 94) [] []], AObj.row false (oVer p38 1) (2:Nat) (oEs p38 1), AObj.box [AV.sref (1:Nat) (cVer p38 2 0) (cOff p38 2 0) (cLen p38 2 0)],
  AObj.box [AV.t (Tree.bool (cB p38 3 0))], AObj.box [], AObj.box [AV.t (Tree.sl (2:Nat) (cL p38 5 0)), AV.t (tI (cI p38 5 1)), AV.t (Tree.bool (cB p38 5 2))], AObj.box [AV.t (Tree.sl (2:Nat) (cL p38 6
  0)), AV.t (tI (cI p38 6 1)), AV.t (Tree.bool (cB p38 6 2))]])) (join (fun (p40 : List AV × Heap) => J67_4 n again33 p40) fun (again41 : _ → Option (List Tree)) => cnd (cB p38 6 2 = true) (again41 ([],
  [AObj.box [AV.func (Fn.func 94) [] []], AObj.row false (oVer p38 1) (2:Nat) (oEs p38 1), AObj.box [AV.sref (1:Nat) (cVer p38 2 0) (cOff p38 2 0) (cLen p38 2 0)], AObj.box [AV.t (Tree.bool (cB p38 3
  0))], AObj.box [], AObj.box [AV.t (Tree.sl (2:Nat) (cL p38 5 0)), AV.t (tI (cI p38 5 1)), AV.t (Tree.bool (cB p38 5 2))], AObj.box [AV.t (Tree.sl (2:Nat) (cL p38 6 0)), AV.t (tI (w64 ((cI p38 6 1) +
  (1:Int)))), AV.t (Tree.bool (cB p38 6 2))]])) (again41 ([], [AObj.box [AV.func (Fn.func 94) [] []], AObj.row false (oVer p38 1) (2:Nat) (oEs p38 1), AObj.box [AV.sref (1:Nat) (cVer p38 2 0) (cOff p38
  2 0) (cLen p38 2 0)], AObj.box [AV.t (Tree.bool (cB p38 3 0))], AObj.box [], AObj.box [AV.t (Tree.sl (2:Nat) (cL p38 5 0)), AV.t (tI (cI p38 5 1)), AV.t (Tree.bool (cB p38 5 2))], AObj.box [AV.t
  (Tree.sl (2:Nat) (cL p38 6 0)), AV.t (tI (cI p38 6 1)), AV.t (Tree.bool (cB p38 6 2))]])))

noncomputable def J67_6 (n : Nat) (again33 : (List AV × Heap) → Option (List Tree)) (p20 : List AV × Heap) (p34 : List AV × Heap) : Option (List Tree) :=
  join (fun (p38 : List AV × Heap) => J67_5 n again33 p38) fun (again39 : _ → Option (List Tree)) => cnd ((!(vB p34 1)) = true) (again39 ([AV.t (Tree.bool true)], [AObj.box [AV.func (Fn.func 94) [] []],
  AObj.row false (oVer p34 1) (2:Nat) (oEs p34 1), AObj.box [AV.sref (1:Nat) (cVer p34 2 0) (cOff p34 2 0) (cLen p34 2 0)], AObj.box [AV.t (Tree.bool (cB p34 3 0))], AObj.box [], AObj.box [AV.t (Tree.sl
  (2:Nat) (cL p34 5 0)), AV.t (tI (cI p34 5 1)), AV.t (Tree.bool (cB p34 5 2))], AObj.box [AV.t (Tree.sl (2:Nat) (cL p34 6 0)), AV.t (tI (cI p34 6 1)), AV.t (Tree.bool (cB p34 6 2))]])) (again39 ([AV.t
  (Tree.bool ((vI p34 0) != (vI p20 0)))], [AObj.box [AV.func (Fn.func 94) [] []], AObj.row false (oVer p34 1) (2:Nat) (oEs p34 1), AObj.box [AV.sref (1:Nat) (cVer p34 2 0) (cOff p34 2 0) (cLen p34 2
  0)], AObj.box [AV.t (Tree.bool (cB p34 3 0))], AObj.box [], AObj.box [AV.t (Tree.sl (2:Nat) (cL p34 5 0)), AV.t (tI (cI p34 5 1)), AV.t (Tree.bool (cB p34 5 2))], AObj.box [AV.t (Tree.sl (2:Nat) (cL
  p34 6 0)), AV.t (tI (cI p34 6 1)), AV.t (Tree.bool (cB p34 6 2))]]))

noncomputable def J67_7 (n : Nat) (again46 : (List AV × Heap) → Option (List Tree)) (p49 : List AV × Heap) : Option (List Tree) :=
  again46 ([], [AObj.box [AV.func (Fn.func 94) [] []], AObj.row false (oVer p49 1) (2:Nat) (oEs p49 1), AObj.box [AV.sref (1:Nat) (cVer p49 2 0) (cOff p49 2 0) (cLen p49 2 0)], AObj.box [AV.t (Tree.bool
  (cB p49 3 0))], AObj.box [], AObj.box [AV.t (Tree.sl (2:Nat) (cL p49 5 0)), AV.t (tI (cI p49 5 1)), AV.t (Tree.bool (cB p49 5 2))], AObj.box [AV.t (Tree.sl (2:Nat) (cL p49 6 0)), AV.t (tI (cI p49 6
  1)), AV.t (Tree.bool (cB p49 6 2))], AObj.box [AV.t (Tree.bool (cB p49 7 0)), AV.t (Tree.bool (cB p49 7 1))]])

noncomputable def J67_8 (n : Nat) (again46 : (List AV × Heap) → Option (List Tree)) (p20 : List AV × Heap) (p47 : List AV × Heap) : Option (List Tree) :=
  join (fun (p49 : List AV × Heap) => J67_7 n again46 p49) fun (again50 : _ → Option (List Tree)) => cnd (vB p47 0 = true) (cnd (oVer p47 1 = cVer p47 2 0) (cnd (oVer p47 1 = cVer p47 2 0 ∧ (2:Nat) =
  (2:Nat) ∧ (0:Int) ≤ w64 (((cLen p47 2 0:Nat):Int) - (1:Int)) ∧ w64 (((cLen p47 2 0:Nat):Int) - (1:Int)) < ((cLen p47 2 0:Nat):Int)) (cnd (oVer p47 1 = cVer p47 2 0) (cnd (oVer p47 1 = cVer p47 2 0 ∧
  (2:Nat) ≤ (2:Nat)) (Option.bind (oEs p47 1)[(cOff p47 2 0) + (Int.toNat (w64 (((cLen p47 2 0:Nat):Int) - (1:Int))))]? fun y51 => again50 ([], [AObj.box [AV.func (Fn.func 94) [] []], AObj.row false
  (cVer p47 2 0) (2:Nat) (List.set (oEs p47 1) ((cOff p47 2 0) + (Int.toNat (w64 (((cLen p47 2 0:Nat):Int) - (1:Int))))) (List.take (1:Nat) y51 ++ ([tI (vI p20 0)] ++ List.drop (2:Nat) y51))), AObj.box
  [AV.sref (1:Nat) (cVer p47 2 0) (cOff p47 2 0) (cLen p47 2 0)], AObj.box [AV.t (Tree.bool (cB p47 3 0))], AObj.box [], AObj.box [AV.t (Tree.sl (2:Nat) (cL p47 5 0)), AV.t (tI (cI p47 5 1)), AV.t
  (Tree.bool (cB p47 5 2))], AObj.box [AV.t (Tree.sl (2:Nat) (cL p47 6 0)), AV.t (tI (cI p47 6 1)), AV.t (Tree.bool (cB p47 6 2))], AObj.box [AV.t (Tree.bool (cB p47 7 0)), AV.t (Tree.bool (cB p47 7
  1))]])) none) none) none) none) (again50 ([], [AObj.box [AV.func (Fn.func 94) [] []], AObj.row false (oVer p47 1) (2:Nat) (oEs p47 1), AObj.box [AV.sref (1:Nat) (cVer p47 2 0) (cOff p47 2 0) (cLen p47
  2 0)], AObj.box [AV.t (Tree.bool (cB p47 3 0))], AObj.box [], AObj.box [AV.t (Tree.sl (2:Nat) (cL p47 5 0)), AV.t (tI (cI p47 5 1)), AV.t (Tree.bool (cB p47 5 2))], AObj.box [AV.t (Tree.sl (2:Nat) (cL
  p47 6 0)), AV.t (tI (cI p47 6 1)), AV.t (Tree.bool (cB p47 6 2))], AObj.box [AV.t (Tree.bool (cB p47 7 0)), AV.t (Tree.bool (cB p47 7 1))]]))

noncomputable def J67_9 (n : Nat) (again7 : (List AV × Heap) → Option (List Tree)) (y42 : List Tree) (p45 : List AV × Heap) : Option (List Tree) :=
  again7 ([], [AObj.box [AV.func (Fn.func 94) [] []], AObj.row false (oVer p45 1) (2:Nat) (oEs p45 1), AObj.box [AV.sref (1:Nat) (cVer p45 2 0) (cOff p45 2 0) (cLen p45 2 0)], AObj.box [AV.t (Tree.bool
  (gB y42 0))], AObj.box [], AObj.box [AV.t (Tree.sl (2:Nat) (cL p45 5 0)), AV.t (tI (cI p45 5 1)), AV.t (Tree.bool (cB p45 5 2))], AObj.box [AV.t (Tree.sl (2:Nat) (cL p45 6 0)), AV.t (tI (cI p45 6 1)),
  AV.t (Tree.bool (cB p45 6 2))]])

noncomputable def J67_10 (n : Nat) (again7 : (List AV × Heap) → Option (List Tree)) (y42 : List Tree) (p20 : List AV × Heap) (p43 : List AV × Heap) : Option (List Tree) :=
  join (fun (p45 : List AV × Heap) => J67_9 n again7 y42 p45) fun (again46 : _ → Option (List Tree)) => cnd (vB p43 0 = true) (cnd (oVer p43 1 = cVer p43 2 0 ∧ ((2:Nat) = (2:Nat) ∨ (2:Nat) = (0:Nat)) ∧
  (cOff p43 2 0) + (cLen p43 2 0) ≤ List.length (oEs p43 1) ∧ (cLen p43 2 0) + (1:Nat) ≤ (1073741824:Nat)) (again46 ([], [AObj.box [AV.func (Fn.func 94) [] []], AObj.row false ((cVer p43 2 0) + (1:Nat))
  (2:Nat) ((List.take (cLen p43 2 0) (List.drop (cOff p43 2 0) (oEs p43 1))) ++ [[tI (vI p20 0), tI (0:Int)]]), AObj.box [AV.sref (1:Nat) ((cVer p43 2 0) + (1:Nat)) (0:Nat) ((cLen p43 2 0) + (1:Nat))],
  AObj.box [AV.t (Tree.bool (cB p43 3 0))], AObj.box [], AObj.box [AV.t (Tree.sl (2:Nat) (cL p43 5 0)), AV.t (tI (cI p43 5 1)), AV.t (Tree.bool (cB p43 5 2))], AObj.box [AV.t (Tree.sl (2:Nat) (cL p43 6
  0)), AV.t (tI (cI p43 6 1)), AV.t (Tree.bool (cB p43 6 2))], AObj.box [AV.t (Tree.bool (cB p43 7 0)), AV.t (Tree.bool (cB p43 7 1))]])) none) (join (fun (p47 : List AV × Heap) => J67_8 n again46 p20
  p47) fun (again48 : _ → Option (List Tree)) => cnd ((!(gB y42 0)) = true) (again48 ([AV.t (Tree.bool (cB p43 3 0))], [AObj.box [AV.func (Fn.func 94) [] []], AObj.row false (oVer p43 1) (2:Nat) (oEs
  p43 1), AObj.box [AV.sref (1:Nat) (cVer p43 2 0) (cOff p43 2 0) (cLen p43 2 0)], AObj.box [AV.t (Tree.bool (cB p43 3 0))], AObj.box [], AObj.box [AV.t (Tree.sl (2:Nat) (cL p43 5 0)), AV.t (tI (cI p43
  5 1)), AV.t (Tree.bool (cB p43 5 2))], AObj.box [AV.t (Tree.sl (2:Nat) (cL p43 6 0)), AV.t (tI (cI p43 6 1)), AV.t (Tree.bool (cB p43 6 2))], AObj.box [AV.t (Tree.bool (cB p43 7 0)), AV.t (Tree.bool
  (cB p43 7 1))]])) (again48 ([AV.t (Tree.bool false)], [AObj.box [AV.func (Fn.func 94) [] []], AObj.row false (oVer p43 1) (2:Nat) (oEs p43 1), AObj.box [AV.sref (1:Nat) (cVer p43 2 0) (cOff p43 2 0)
  (cLen p43 2 0)], AObj.box [AV.t (Tree.bool (cB p43 3 0))], AObj.box [], AObj.box [AV.t (Tree.sl (2:Nat) (cL p43 5 0)), AV.t (tI (cI p43 5 1)), AV.t (Tree.bool (cB p43 5 2))], AObj.box [AV.t (Tree.sl
  (2:Nat) (cL p43 6 0)), AV.t (tI (cI p43 6 1)), AV.t (Tree.bool (cB p43 6 2))], AObj.box [AV.t (Tree.bool (cB p43 7 0)), AV.t (Tree.bool (cB p43 7 1))]])))

noncomputable def J67_11 (n : Nat) (again7 : (List AV × Heap) → Option (List Tree)) (p20 : List AV × Heap) (p32 : List AV × Heap) : Option (List Tree) :=
  Option.bind (apure C n (94:Nat) [Tree.bool (cB p32 5 2), Tree.bool (cB p32 6 2)]) fun y42 => cnd (List.length y42 = (1:Nat)) (cnd (okB y42 0) (join (fun (p43 : List AV × Heap) => J67_10 n again7 y42
  p20 p43) fun (again44 : _ → Option (List Tree)) => cnd (gB y42 0 = true) (again44 ([AV.t (Tree.bool (!(cB p32 3 0)))], [AObj.box [AV.func (Fn.func 94) [] []], AObj.row false (oVer p32 1) (2:Nat) (oEs
  p32 1), AObj.box [AV.sref (1:Nat) (cVer p32 2 0) (cOff p32 2 0) (cLen p32 2 0)], AObj.box [AV.t (Tree.bool (cB p32 3 0))], AObj.box [], AObj.box [AV.t (Tree.sl (2:Nat) (cL p32 5 0)), AV.t (tI (cI p32
  5 1)), AV.t (Tree.bool (cB p32 5 2))], AObj.box [AV.t (Tree.sl (2:Nat) (cL p32 6 0)), AV.t (tI (cI p32 6 1)), AV.t (Tree.bool (cB p32 6 2))], AObj.box [AV.t (Tree.bool (cB p32 5 2)), AV.t (Tree.bool
  (cB p32 6 2))]])) (again44 ([AV.t (Tree.bool false)], [AObj.box [AV.func (Fn.func 94) [] []], AObj.row false (oVer p32 1) (2:Nat) (oEs p32 1), AObj.box [AV.sref (1:Nat) (cVer p32 2 0) (cOff p32 2 0)
  (cLen p32 2 0)], AObj.box [AV.t (Tree.bool (cB p32 3 0))], AObj.box [], AObj.box [AV.t (Tree.sl (2:Nat) (cL p32 5 0)), AV.t (tI (cI p32 5 1)), AV.t (Tree.bool (cB p32 5 2))], AObj.box [AV.t (Tree.sl
  (2:Nat) (cL p32 6 0)), AV.t (tI (cI p32 6 1)), AV.t (Tree.bool (cB p32 6 2))], AObj.box [AV.t (Tree.bool (cB p32 5 2)), AV.t (Tree.bool (cB p32 6 2))]]))) none) none

noncomputable def J67_12 (n : Nat) (again7 : (List AV × Heap) → Option (List Tree)) (p20 : List AV × Heap) (p22 : List AV × Heap) : Option (List Tree) :=
  join (fun (p32 : List AV × Heap) => J67_11 n again7 p20 p32) fun (again33 : _ → Option (List Tree)) => join (fun (p34 : List AV × Heap) => J67_6 n again33 p20 p34) fun (again35 : _ → Option (List
  Tree)) => cnd (((cI p22 6 1) == ((List.length (cL p22 6 0):Nat):Int)) = true) (again35 ([AV.t (tI (0:Int)), AV.t (Tree.bool false)], [AObj.box [AV.func (Fn.func 94) [] []], AObj.row false (oVer p22 1)
  (2:Nat) (oEs p22 1), AObj.box [AV.sref (1:Nat) (cVer p22 2 0) (cOff p22 2 0) (cLen p22 2 0)], AObj.box [AV.t (Tree.bool (cB p22 3 0))], AObj.box [], AObj.box [AV.t (Tree.sl (2:Nat) (cL p22 5 0)), AV.t
  (tI (cI p22 5 1)), AV.t (Tree.bool (cB p22 5 2))], AObj.box [AV.t (Tree.sl (2:Nat) (cL p22 6 0)), AV.t (tI (cI p22 6 1)), AV.t (Tree.bool (cB p22 6 2))]])) (cnd (cB p22 6 2 = true) (cnd ((2:Nat) =
  (2:Nat) ∧ (0:Int) ≤ cI p22 6 1) (Option.bind (cL p22 6 0)[Int.toNat (cI p22 6 1)]? fun y36 => cnd (okI y36 1) (again35 ([AV.t (tI (gI y36 1)), AV.t (Tree.bool true)], [AObj.box [AV.func (Fn.func 94)
  [] []], AObj.row false (oVer p22 1) (2:Nat) (oEs p22 1), AObj.box [AV.sref (1:Nat) (cVer p22 2 0) (cOff p22 2 0) (cLen p22 2 0)], AObj.box [AV.t (Tree.bool (cB p22 3 0))], AObj.box [], AObj.box [AV.t
  (Tree.sl (2:Nat) (cL p22 5 0)), AV.t (tI (cI p22 5 1)), AV.t (Tree.bool (cB p22 5 2))], AObj.box [AV.t (Tree.sl (2:Nat) (cL p22 6 0)), AV.t (tI (cI p22 6 1)), AV.t (Tree.bool (cB p22 6 2))]])) none)
  none) (cnd ((2:Nat) = (2:Nat) ∧ (0:Int) ≤ cI p22 6 1) (Option.bind (cL p22 6 0)[Int.toNat (cI p22 6 1)]? fun y37 => cnd (okI y37 0) (again35 ([AV.t (tI (gI y37 0)), AV.t (Tree.bool true)], [AObj.box
  [AV.func (Fn.func 94) [] []], AObj.row false (oVer p22 1) (2:Nat) (oEs p22 1), AObj.box [AV.sref (1:Nat) (cVer p22 2 0) (cOff p22 2 0) (cLen p22 2 0)], AObj.box [AV.t (Tree.bool (cB p22 3 0))],
  AObj.box [], AObj.box [AV.t (Tree.sl (2:Nat) (cL p22 5 0)), AV.t (tI (cI p22 5 1)), AV.t (Tree.bool (cB p22 5 2))], AObj.box [AV.t (Tree.sl (2:Nat) (cL p22 6 0)), AV.t (tI (cI p22 6 1)), AV.t
  (Tree.bool (cB p22 6 2))]])) none) none))

noncomputable def J67_13 (n : Nat) (again7 : (List AV × Heap) → Option (List Tree)) (p20 : List AV × Heap) : Option (List Tree) :=
  join (fun (p22 : List AV × Heap) => J67_12 n again7 p20 p22) fun (again23 : _ → Option (List Tree)) => join (fun (p24 : List AV × Heap) => J67_3 n again23 p20 p24) fun (again25 : _ → Option (List
  Tree)) => cnd (((cI p20 5 1) == ((List.length (cL p20 5 0):Nat):Int)) = true) (again25 ([AV.t (tI (0:Int)), AV.t (Tree.bool false)], [AObj.box [AV.func (Fn.func 94) [] []], AObj.row false (oVer p20 1)
  (2:Nat) (oEs p20 1), AObj.box [AV.sref (1:Nat) (cVer p20 2 0) (cOff p20 2 0) (cLen p20 2 0)], AObj.box [AV.t (Tree.bool (cB p20 3 0))], AObj.box [], AObj.box [AV.t (Tree.sl (2:Nat) (cL p20 5 0)), AV.t
  (tI (cI p20 5 1)), AV.t (Tree.bool (cB p20 5 2))], AObj.box [AV.t (Tree.sl (2:Nat) (cL p20 6 0)), AV.t (tI (cI p20 6 1)), AV.t (Tree.bool (cB p20 6 2))]])) (cnd (cB p20 5 2 = true) (cnd ((2:Nat) =
  (2:Nat) ∧ (0:Int) ≤ cI p20 5 1) (Option.bind (cL p20 5 0)[Int.toNat (cI p20 5 1)]? fun y26 => cnd (okI y26 1) (again25 ([AV.t (tI (gI y26 1)), AV.t (Tree.bool true)], [AObj.box [AV.func (Fn.func 94)
  [] []], AObj.row false (oVer p20 1) (2:Nat) (oEs p20 1), AObj.box [AV.sref (1:Nat) (cVer p20 2 0) (cOff p20 2 0) (cLen p20 2 0)], AObj.box [AV.t (Tree.bool (cB p20 3 0))], AObj.box [], AObj.box [AV.t
  (Tree.sl (2:Nat) (cL p20 5 0)), AV.t (tI (cI p20 5 1)), AV.t (Tree.bool (cB p20 5 2))], AObj.box [AV.t (Tree.sl (2:Nat) (cL p20 6 0)), AV.t (tI (cI p20 6 1)), AV.t (Tree.bool (cB p20 6 2))]])) none)
  none) (cnd ((2:Nat) = (2:Nat) ∧ (0:Int) ≤ cI p20 5 1) (Option.bind (cL p20 5 0)[Int.toNat (cI p20 5 1)]? fun y27 => cnd (okI y27 0) (again25 ([AV.t (tI (gI y27 0)), AV.t (Tree.bool true)], [AObj.box
  [AV.func (Fn.func 94) [] []], AObj.row false (oVer p20 1) (2:Nat) (oEs p20 1), AObj.box [AV.sref (1:Nat) (cVer p20 2 0) (cOff p20 2 0) (cLen p20 2 0)], AObj.box [AV.t (Tree.bool (cB p20 3 0))],
  AObj.box [], AObj.box [AV.t (Tree.sl (2:Nat) (cL p20 5 0)), AV.t (tI (cI p20 5 1)), AV.t (Tree.bool (cB p20 5 2))], AObj.box [AV.t (Tree.sl (2:Nat) (cL p20 6 0)), AV.t (tI (cI p20 6 1)), AV.t
  (Tree.bool (cB p20 6 2))]])) none) none))

noncomputable def J67_14 (n : Nat) (again7 : (List AV × Heap) → Option (List Tree)) (p12 : List AV × Heap) (p8 : List AV × Heap) (p18 : List AV × Heap) : Option (List Tree) :=
  join (fun (p20 : List AV × Heap) => J67_13 n again7 p20) fun (again21 : _ → Option (List Tree)) => cnd (vB p18 0 = true) (again21 ([AV.t (tI (vI p12 0))], [AObj.box [AV.func (Fn.func 94) [] []],
  AObj.row false (oVer p18 1) (2:Nat) (oEs p18 1), AObj.box [AV.sref (1:Nat) (cVer p18 2 0) (cOff p18 2 0) (cLen p18 2 0)], AObj.box [AV.t (Tree.bool (cB p18 3 0))], AObj.box [], AObj.box [AV.t (Tree.sl
  (2:Nat) (cL p18 5 0)), AV.t (tI (cI p18 5 1)), AV.t (Tree.bool (cB p18 5 2))], AObj.box [AV.t (Tree.sl (2:Nat) (cL p18 6 0)), AV.t (tI (cI p18 6 1)), AV.t (Tree.bool (cB p18 6 2))]])) (again21 ([AV.t
  (tI (vI p8 0))], [AObj.box [AV.func (Fn.func 94) [] []], AObj.row false (oVer p18 1) (2:Nat) (oEs p18 1), AObj.box [AV.sref (1:Nat) (cVer p18 2 0) (cOff p18 2 0) (cLen p18 2 0)], AObj.box [AV.t
  (Tree.bool (cB p18 3 0))], AObj.box [], AObj.box [AV.t (Tree.sl (2:Nat) (cL p18 5 0)), AV.t (tI (cI p18 5 1)), AV.t (Tree.bool (cB p18 5 2))], AObj.box [AV.t (Tree.sl (2:Nat) (cL p18 6 0)), AV.t (tI
  (cI p18 6 1)), AV.t (Tree.bool (cB p18 6 2))]]))

noncomputable def J67_15 (n : Nat) (again7 : (List AV × Heap) → Option (List Tree)) (p12 : List AV × Heap) (p8 : List AV × Heap) (p16 : List AV × Heap) : Option (List Tree) :=
  cnd (vB p16 0 = true) (cnd (oVer p16 1 = cVer p16 2 0) (cnd (decide (((cLen p16 2 0:Nat):Int) > (1000:Int)) = true) (some [Tree.sl (2:Nat) [], tI (4:Int)]) (cnd ((false = true ∨ false = false) ∧ oVer
  p16 1 = cVer p16 2 0 ∧ ((2:Nat) = (2:Nat) ∨ (2:Nat) = (0:Nat))) (some [Tree.sl (2:Nat) (List.take (cLen p16 2 0) (List.drop (cOff p16 2 0) (oEs p16 1))), tI (0:Int)]) none)) none) (join (fun (p18 :
  List AV × Heap) => J67_14 n again7 p12 p8 p18) fun (again19 : _ → Option (List Tree)) => cnd ((!(vB p8 1)) = true) (again19 ([AV.t (Tree.bool true)], [AObj.box [AV.func (Fn.func 94) [] []], AObj.row
  false (oVer p16 1) (2:Nat) (oEs p16 1), AObj.box [AV.sref (1:Nat) (cVer p16 2 0) (cOff p16 2 0) (cLen p16 2 0)], AObj.box [AV.t (Tree.bool (cB p16 3 0))], AObj.box [], AObj.box [AV.t (Tree.sl (2:Nat)
  (cL p16 5 0)), AV.t (tI (cI p16 5 1)), AV.t (Tree.bool (cB p16 5 2))], AObj.box [AV.t (Tree.sl (2:Nat) (cL p16 6 0)), AV.t (tI (cI p16 6 1)), AV.t (Tree.bool (cB p16 6 2))]])) (cnd (vB p12 1 = true)
  (again19 ([AV.t (Tree.bool (decide (vI p12 0 < vI p8 0)))], [AObj.box [AV.func (Fn.func 94) [] []], AObj.row false (oVer p16 1) (2:Nat) (oEs p16 1), AObj.box [AV.sref (1:Nat) (cVer p16 2 0) (cOff p16
  2 0) (cLen p16 2 0)], AObj.box [AV.t (Tree.bool (cB p16 3 0))], AObj.box [], AObj.box [AV.t (Tree.sl (2:Nat) (cL p16 5 0)), AV.t (tI (cI p16 5 1)), AV.t (Tree.bool (cB p16 5 2))], AObj.box [AV.t
  (Tree.sl (2:Nat) (cL p16 6 0)), AV.t (tI (cI p16 6 1)), AV.t (Tree.bool (cB p16 6 2))]])) (again19 ([AV.t (Tree.bool false)], [AObj.box [AV.func (Fn.func 94) [] []], AObj.row false (oVer p16 1)
  (2:Nat) (oEs p16 1), AObj.box [AV.sref (1:Nat) (cVer p16 2 0) (cOff p16 2 0) (cLen p16 2 0)], AObj.box [AV.t (Tree.bool (cB p16 3 0))], AObj.box [], AObj.box [AV.t (Tree.sl (2:Nat) (cL p16 5 0)), AV.t
  (tI (cI p16 5 1)), AV.t (Tree.bool (cB p16 5 2))], AObj.box [AV.t (Tree.sl (2:Nat) (cL p16 6 0)), AV.t (tI (cI p16 6 1)), AV.t (Tree.bool (cB p16 6 2))]]))))

noncomputable def J67_16 (n : Nat) (again7 : (List AV × Heap) → Option (List Tree)) (p8 : List AV × Heap) (p12 : List AV × Heap) : Option (List Tree) :=
  join (fun (p16 : List AV × Heap) => J67_15 n again7 p12 p8 p16) fun (again17 : _ → Option (List Tree)) => cnd ((!(vB p8 1)) = true) (again17 ([AV.t (Tree.bool (!(vB p12 1)))], [AObj.box [AV.func
  (Fn.func 94) [] []], AObj.row false (oVer p12 1) (2:Nat) (oEs p12 1), AObj.box [AV.sref (1:Nat) (cVer p12 2 0) (cOff p12 2 0) (cLen p12 2 0)], AObj.box [AV.t (Tree.bool (cB p12 3 0))], AObj.box [],
  AObj.box [AV.t (Tree.sl (2:Nat) (cL p12 5 0)), AV.t (tI (cI p12 5 1)), AV.t (Tree.bool (cB p12 5 2))], AObj.box [AV.t (Tree.sl (2:Nat) (cL p12 6 0)), AV.t (tI (cI p12 6 1)), AV.t (Tree.bool (cB p12 6
  2))]])) (again17 ([AV.t (Tree.bool false)], [AObj.box [AV.func (Fn.func 94) [] []], AObj.row false (oVer p12 1) (2:Nat) (oEs p12 1), AObj.box [AV.sref (1:Nat) (cVer p12 2 0) (cOff p12 2 0) (cLen p12 2
  0)], AObj.box [AV.t (Tree.bool (cB p12 3 0))], AObj.box [], AObj.box [AV.t (Tree.sl (2:Nat) (cL p12 5 0)), AV.t (tI (cI p12 5 1)), AV.t (Tree.bool (cB p12 5 2))], AObj.box [AV.t (Tree.sl (2:Nat) (cL
  p12 6 0)), AV.t (tI (cI p12 6 1)), AV.t (Tree.bool (cB p12 6 2))]]))

noncomputable def J67_17 (n : Nat) (again7 : (List AV × Heap) → Option (List Tree)) (p8 : List AV × Heap) : Option (List Tree) :=
  join (fun (p12 : List AV × Heap) => J67_16 n again7 p8 p12) fun (again13 : _ → Option (List Tree)) => cnd (((cI p8 6 1) == ((List.length (cL p8 6 0):Nat):Int)) = true) (again13 ([AV.t (tI (0:Int)),
  AV.t (Tree.bool false)], [AObj.box [AV.func (Fn.func 94) [] []], AObj.row false (oVer p8 1) (2:Nat) (oEs p8 1), AObj.box [AV.sref (1:Nat) (cVer p8 2 0) (cOff p8 2 0) (cLen p8 2 0)], AObj.box [AV.t
  (Tree.bool (cB p8 3 0))], AObj.box [], AObj.box [AV.t (Tree.sl (2:Nat) (cL p8 5 0)), AV.t (tI (cI p8 5 1)), AV.t (Tree.bool (cB p8 5 2))], AObj.box [AV.t (Tree.sl (2:Nat) (cL p8 6 0)), AV.t (tI (cI p8
  6 1)), AV.t (Tree.bool (cB p8 6 2))]])) (cnd (cB p8 6 2 = true) (cnd ((2:Nat) = (2:Nat) ∧ (0:Int) ≤ cI p8 6 1) (Option.bind (cL p8 6 0)[Int.toNat (cI p8 6 1)]? fun y14 => cnd (okI y14 1) (again13
  ([AV.t (tI (gI y14 1)), AV.t (Tree.bool true)], [AObj.box [AV.func (Fn.func 94) [] []], AObj.row false (oVer p8 1) (2:Nat) (oEs p8 1), AObj.box [AV.sref (1:Nat) (cVer p8 2 0) (cOff p8 2 0) (cLen p8 2
  0)], AObj.box [AV.t (Tree.bool (cB p8 3 0))], AObj.box [], AObj.box [AV.t (Tree.sl (2:Nat) (cL p8 5 0)), AV.t (tI (cI p8 5 1)), AV.t (Tree.bool (cB p8 5 2))], AObj.box [AV.t (Tree.sl (2:Nat) (cL p8 6
  0)), AV.t (tI (cI p8 6 1)), AV.t (Tree.bool (cB p8 6 2))]])) none) none) (cnd ((2:Nat) = (2:Nat) ∧ (0:Int) ≤ cI p8 6 1) (Option.bind (cL p8 6 0)[Int.toNat (cI p8 6 1)]? fun y15 => cnd (okI y15 0)
  (again13 ([AV.t (tI (gI y15 0)), AV.t (Tree.bool true)], [AObj.box [AV.func (Fn.func 94) [] []], AObj.row false (oVer p8 1) (2:Nat) (oEs p8 1), AObj.box [AV.sref (1:Nat) (cVer p8 2 0) (cOff p8 2 0)
  (cLen p8 2 0)], AObj.box [AV.t (Tree.bool (cB p8 3 0))], AObj.box [], AObj.box [AV.t (Tree.sl (2:Nat) (cL p8 5 0)), AV.t (tI (cI p8 5 1)), AV.t (Tree.bool (cB p8 5 2))], AObj.box [AV.t (Tree.sl
  (2:Nat) (cL p8 6 0)), AV.t (tI (cI p8 6 1)), AV.t (Tree.bool (cB p8 6 2))]])) none) none))

noncomputable def L67_18 (n : Nat)  (p6 : List AV × Heap) (again7 : (List AV × Heap) → Option (List Tree)) : Option (List Tree) :=
  join (fun (p8 : List AV × Heap) => J67_17 n again7 p8) fun (again9 : _ → Option (List Tree)) => cnd (((cI p6 5 1) == ((List.length (cL p6 5 0):Nat):Int)) = true) (again9 ([AV.t (tI (0:Int)), AV.t
  (Tree.bool false)], [AObj.box [AV.func (Fn.func 94) [] []], AObj.row false (oVer p6 1) (2:Nat) (oEs p6 1), AObj.box [AV.sref (1:Nat) (cVer p6 2 0) (cOff p6 2 0) (cLen p6 2 0)], AObj.box [AV.t
  (Tree.bool (cB p6 3 0))], AObj.box [], AObj.box [AV.t (Tree.sl (2:Nat) (cL p6 5 0)), AV.t (tI (cI p6 5 1)), AV.t (Tree.bool (cB p6 5 2))], AObj.box [AV.t (Tree.sl (2:Nat) (cL p6 6 0)), AV.t (tI (cI p6
  6 1)), AV.t (Tree.bool (cB p6 6 2))]])) (cnd (cB p6 5 2 = true) (cnd ((2:Nat) = (2:Nat) ∧ (0:Int) ≤ cI p6 5 1) (Option.bind (cL p6 5 0)[Int.toNat (cI p6 5 1)]? fun y10 => cnd (okI y10 1) (again9
  ([AV.t (tI (gI y10 1)), AV.t (Tree.bool true)], [AObj.box [AV.func (Fn.func 94) [] []], AObj.row false (oVer p6 1) (2:Nat) (oEs p6 1), AObj.box [AV.sref (1:Nat) (cVer p6 2 0) (cOff p6 2 0) (cLen p6 2
  0)], AObj.box [AV.t (Tree.bool (cB p6 3 0))], AObj.box [], AObj.box [AV.t (Tree.sl (2:Nat) (cL p6 5 0)), AV.t (tI (cI p6 5 1)), AV.t (Tree.bool (cB p6 5 2))], AObj.box [AV.t (Tree.sl (2:Nat) (cL p6 6
  0)), AV.t (tI (cI p6 6 1)), AV.t (Tree.bool (cB p6 6 2))]])) none) none) (cnd ((2:Nat) = (2:Nat) ∧ (0:Int) ≤ cI p6 5 1) (Option.bind (cL p6 5 0)[Int.toNat (cI p6 5 1)]? fun y11 => cnd (okI y11 0)
  (again9 ([AV.t (tI (gI y11 0)), AV.t (Tree.bool true)], [AObj.box [AV.func (Fn.func 94) [] []], AObj.row false (oVer p6 1) (2:Nat) (oEs p6 1), AObj.box [AV.sref (1:Nat) (cVer p6 2 0) (cOff p6 2 0)
  (cLen p6 2 0)], AObj.box [AV.t (Tree.bool (cB p6 3 0))], AObj.box [], AObj.box [AV.t (Tree.sl (2:Nat) (cL p6 5 0)), AV.t (tI (cI p6 5 1)), AV.t (Tree.bool (cB p6 5 2))], AObj.box [AV.t (Tree.sl
  (2:Nat) (cL p6 6 0)), AV.t (tI (cI p6 6 1)), AV.t (Tree.bool (cB p6 6 2))]])) none) none))

noncomputable def J67_19 (n : Nat) (again69 : (List AV × Heap) → Option (List Tree)) (p76 : List AV × Heap) : Option (List Tree) :=
  again69 ([], [AObj.box [AV.func (Fn.func 94) [] []], AObj.row false (oVer p76 1) (2:Nat) (oEs p76 1), AObj.box [AV.sref (1:Nat) (cVer p76 2 0) (cOff p76 2 0) (cLen p76 2 0)], AObj.box [AV.t (Tree.bool
  (cB p76 3 0))], AObj.box [], AObj.box [AV.t (Tree.sl (2:Nat) (cL p76 5 0)), AV.t (tI (cI p76 5 1)), AV.t (Tree.bool (cB p76 5 2))], AObj.box [AV.t (Tree.sl (2:Nat) (cL p76 6 0)), AV.t (tI (cI p76 6
  1)), AV.t (Tree.bool (!(cB p76 6 2)))]])

noncomputable def J67_20 (n : Nat) (again69 : (List AV × Heap) → Option (List Tree)) (p74 : List AV × Heap) : Option (List Tree) :=
  cnd (vB p74 0 = true) (again69 ([], [AObj.box [AV.func (Fn.func 94) [] []], AObj.row false (oVer p74 1) (2:Nat) (oEs p74 1), AObj.box [AV.sref (1:Nat) (cVer p74 2 0) (cOff p74 2 0) (cLen p74 2 0)],
  AObj.box [AV.t (Tree.bool (cB p74 3 0))], AObj.box [], AObj.box [AV.t (Tree.sl (2:Nat) (cL p74 5 0)), AV.t (tI (cI p74 5 1)), AV.t (Tree.bool (cB p74 5 2))], AObj.box [AV.t (Tree.sl (2:Nat) (cL p74 6
  0)), AV.t (tI (cI p74 6 1)), AV.t (Tree.bool (cB p74 6 2))]])) (join (fun (p76 : List AV × Heap) => J67_19 n again69 p76) fun (again77 : _ → Option (List Tree)) => cnd (cB p74 6 2 = true) (again77
  ([], [AObj.box [AV.func (Fn.func 94) [] []], AObj.row false (oVer p74 1) (2:Nat) (oEs p74 1), AObj.box [AV.sref (1:Nat) (cVer p74 2 0) (cOff p74 2 0) (cLen p74 2 0)], AObj.box [AV.t (Tree.bool (cB p74
  3 0))], AObj.box [], AObj.box [AV.t (Tree.sl (2:Nat) (cL p74 5 0)), AV.t (tI (cI p74 5 1)), AV.t (Tree.bool (cB p74 5 2))], AObj.box [AV.t (Tree.sl (2:Nat) (cL p74 6 0)), AV.t (tI (w64 ((cI p74 6 1) +
  (1:Int)))), AV.t (Tree.bool (cB p74 6 2))]])) (again77 ([], [AObj.box [AV.func (Fn.func 94) [] []], AObj.row false (oVer p74 1) (2:Nat) (oEs p74 1), AObj.box [AV.sref (1:Nat) (cVer p74 2 0) (cOff p74
  2 0) (cLen p74 2 0)], AObj.box [AV.t (Tree.bool (cB p74 3 0))], AObj.box [], AObj.box [AV.t (Tree.sl (2:Nat) (cL p74 5 0)), AV.t (tI (cI p74 5 1)), AV.t (Tree.bool (cB p74 5 2))], AObj.box [AV.t
  (Tree.sl (2:Nat) (cL p74 6 0)), AV.t (tI (cI p74 6 1)), AV.t (Tree.bool (cB p74 6 2))]])))

noncomputable def J67_21 (n : Nat) (again69 : (List AV × Heap) → Option (List Tree)) (p66 : List AV × Heap) (p70 : List AV × Heap) : Option (List Tree) :=
  join (fun (p74 : List AV × Heap) => J67_20 n again69 p74) fun (again75 : _ → Option (List Tree)) => cnd ((!(vB p70 1)) = true) (again75 ([AV.t (Tree.bool true)], [AObj.box [AV.func (Fn.func 94) []
  []], AObj.row false (oVer p70 1) (2:Nat) (oEs p70 1), AObj.box [AV.sref (1:Nat) (cVer p70 2 0) (cOff p70 2 0) (cLen p70 2 0)], AObj.box [AV.t (Tree.bool (cB p70 3 0))], AObj.box [], AObj.box [AV.t
  (Tree.sl (2:Nat) (cL p70 5 0)), AV.t (tI (cI p70 5 1)), AV.t (Tree.bool (cB p70 5 2))], AObj.box [AV.t (Tree.sl (2:Nat) (cL p70 6 0)), AV.t (tI (cI p70 6 1)), AV.t (Tree.bool (cB p70 6 2))]]))
  (again75 ([AV.t (Tree.bool ((vI p70 0) != (vI p66 0)))], [AObj.box [AV.func (Fn.func 94) [] []], AObj.row false (oVer p70 1) (2:Nat) (oEs p70 1), AObj.box [AV.sref (1:Nat) (cVer p70 2 0) (cOff p70 2
  0) (cLen p70 2 0)], AObj.box [AV.t (Tree.bool (cB p70 3 0))], AObj.box [], AObj.box [AV.t (Tree.sl (2:Nat) (cL p70 5 0)), AV.t (tI (cI p70 5 1)), AV.t (Tree.bool (cB p70 5 2))], AObj.box [AV.t
  (Tree.sl (2:Nat) (cL p70 6 0)), AV.t (tI (cI p70 6 1)), AV.t (Tree.bool (cB p70 6 2))]]))

noncomputable def J67_22 (n : Nat) (again79 : (List AV × Heap) → Option (List Tree)) (p86 : List AV × Heap) : Option (List Tree) :=
  again79 ([], [AObj.box [AV.func (Fn.func 94) [] []], AObj.row false (oVer p86 1) (2:Nat) (oEs p86 1), AObj.box [AV.sref (1:Nat) (cVer p86 2 0) (cOff p86 2 0) (cLen p86 2 0)], AObj.box [AV.t (Tree.bool
  (cB p86 3 0))], AObj.box [], AObj.box [AV.t (Tree.sl (2:Nat) (cL p86 5 0)), AV.t (tI (cI p86 5 1)), AV.t (Tree.bool (!(cB p86 5 2)))], AObj.box [AV.t (Tree.sl (2:Nat) (cL p86 6 0)), AV.t (tI (cI p86 6
  1)), AV.t (Tree.bool (cB p86 6 2))]])

noncomputable def J67_23 (n : Nat) (again79 : (List AV × Heap) → Option (List Tree)) (p84 : List AV × Heap) : Option (List Tree) :=
  cnd (vB p84 0 = true) (again79 ([], [AObj.box [AV.func (Fn.func 94) [] []], AObj.row false (oVer p84 1) (2:Nat) (oEs p84 1), AObj.box [AV.sref (1:Nat) (cVer p84 2 0) (cOff p84 2 0) (cLen p84 2 0)],
  AObj.box [AV.t (Tree.bool (cB p84 3 0))], AObj.box [], AObj.box [AV.t (Tree.sl (2:Nat) (cL p84 5 0)), AV.t (tI (cI p84 5 1)), AV.t (Tree.bool (cB p84 5 2))], AObj.box [AV.t (Tree.sl (2:Nat) (cL p84 6
  0)), AV.t (tI (cI p84 6 1)), AV.t (Tree.bool (cB p84 6 2))]])) (join (fun (p86 : List AV × Heap) => J67_22 n again79 p86) fun (again87 : _ → Option (List Tree)) => cnd (cB p84 5 2 = true) (again87
  ([], [AObj.box [AV.func (Fn.func 94) [] []], AObj.row false (oVer p84 1) (2:Nat) (oEs p84 1), AObj.box [AV.sref (1:Nat) (cVer p84 2 0) (cOff p84 2 0) (cLen p84 2 0)], AObj.box [AV.t (Tree.bool (cB p84
  3 0))], AObj.box [], AObj.box [AV.t (Tree.sl (2:Nat) (cL p84 5 0)), AV.t (tI (w64 ((cI p84 5 1) + (1:Int)))), AV.t (Tree.bool (cB p84 5 2))], AObj.box [AV.t (Tree.sl (2:Nat) (cL p84 6 0)), AV.t (tI
  (cI p84 6 1)), AV.t (Tree.bool (cB p84 6 2))]])) (again87 ([], [AObj.box [AV.func (Fn.func 94) [] []], AObj.row false (oVer p84 1) (2:Nat) (oEs p84 1), AObj.box [AV.sref (1:Nat) (cVer p84 2 0) (cOff
  p84 2 0) (cLen p84 2 0)], AObj.box [AV.t (Tree.bool (cB p84 3 0))], AObj.box [], AObj.box [AV.t (Tree.sl (2:Nat) (cL p84 5 0)), AV.t (tI (cI p84 5 1)), AV.t (Tree.bool (cB p84 5 2))], AObj.box [AV.t
  (Tree.sl (2:Nat) (cL p84 6 0)), AV.t (tI (cI p84 6 1)), AV.t (Tree.bool (cB p84 6 2))]])))

noncomputable def J67_24 (n : Nat) (again79 : (List AV × Heap) → Option (List Tree)) (p66 : List AV × Heap) (p80 : List AV × Heap) : Option (List Tree) :=
  join (fun (p84 : List AV × Heap) => J67_23 n again79 p84) fun (again85 : _ → Option (List Tree)) => cnd ((!(vB p80 1)) = true) (again85 ([AV.t (Tree.bool true)], [AObj.box [AV.func (Fn.func 94) []
  []], AObj.row false (oVer p80 1) (2:Nat) (oEs p80 1), AObj.box [AV.sref (1:Nat) (cVer p80 2 0) (cOff p80 2 0) (cLen p80 2 0)], AObj.box [AV.t (Tree.bool (cB p80 3 0))], AObj.box [], AObj.box [AV.t
  (Tree.sl (2:Nat) (cL p80 5 0)), AV.t (tI (cI p80 5 1)), AV.t (Tree.bool (cB p80 5 2))], AObj.box [AV.t (Tree.sl (2:Nat) (cL p80 6 0)), AV.t (tI (cI p80 6 1)), AV.t (Tree.bool (cB p80 6 2))]]))
  (again85 ([AV.t (Tree.bool ((vI p80 0) != (vI p66 0)))], [AObj.box [AV.func (Fn.func 94) [] []], AObj.row false (oVer p80 1) (2:Nat) (oEs p80 1), AObj.box [AV.sref (1:Nat) (cVer p80 2 0) (cOff p80 2
  0) (cLen p80 2 0)], AObj.box [AV.t (Tree.bool (cB p80 3 0))], AObj.box [], AObj.box [AV.t (Tree.sl (2:Nat) (cL p80 5 0)), AV.t (tI (cI p80 5 1)), AV.t (Tree.bool (cB p80 5 2))], AObj.box [AV.t
  (Tree.sl (2:Nat) (cL p80 6 0)), AV.t (tI (cI p80 6 1)), AV.t (Tree.bool (cB p80 6 2))]]))

noncomputable def J67_25 (n : Nat) (again92 : (List AV × Heap) → Option (List Tree)) (p95 : List AV × Heap) : Option (List Tree) :=
  again92 ([], [AObj.box [AV.func (Fn.func 94) [] []], AObj.row false (oVer p95 1) (2:Nat) (oEs p95 1), AObj.box [AV.sref (1:Nat) (cVer p95 2 0) (cOff p95 2 0) (cLen p95 2 0)], AObj.box [AV.t (Tree.bool
  (cB p95 3 0))], AObj.box [], AObj.box [AV.t (Tree.sl (2:Nat) (cL p95 5 0)), AV.t (tI (cI p95 5 1)), AV.t (Tree.bool (cB p95 5 2))], AObj.box [AV.t (Tree.sl (2:Nat) (cL p95 6 0)), AV.t (tI (cI p95 6
  1)), AV.t (Tree.bool (cB p95 6 2))], AObj.box [AV.t (Tree.bool (cB p95 7 0)), AV.t (Tree.bool (cB p95 7 1))]])

noncomputable def J67_26 (n : Nat) (again92 : (List AV × Heap) → Option (List Tree)) (p66 : List AV × Heap) (p93 : List AV × Heap) : Option (List Tree) :=
  join (fun (p95 : List AV × Heap) => J67_25 n again92 p95) fun (again96 : _ → Option (List Tree)) => cnd (vB p93 0 = true) (cnd (oVer p93 1 = cVer p93 2 0) (cnd (oVer p93 1 = cVer p93 2 0 ∧ (2:Nat) =
  (2:Nat) ∧ (0:Int) ≤ w64 (((cLen p93 2 0:Nat):Int) - (1:Int)) ∧ w64 (((cLen p93 2 0:Nat):Int) - (1:Int)) < ((cLen p93 2 0:Nat):Int)) (cnd (oVer p93 1 = cVer p93 2 0) (cnd (oVer p93 1 = cVer p93 2 0 ∧
  (2:Nat) ≤ (2:Nat)) (Option.bind (oEs p93 1)[(cOff p93 2 0) + (Int.toNat (w64 (((cLen p93 2 0:Nat):Int) - (1:Int))))]? fun y97 => again96 ([], [AObj.box [AV.func (Fn.func 94) [] []], AObj.row false
  (cVer p93 2 0) (2:Nat) (List.set (oEs p93 1) ((cOff p93 2 0) + (Int.toNat (w64 (((cLen p93 2 0:Nat):Int) - (1:Int))))) (List.take (1:Nat) y97 ++ ([tI (vI p66 0)] ++ List.drop (2:Nat) y97))), AObj.box
  [AV.sref (1:Nat) (cVer p93 2 0) (cOff p93 2 0) (cLen p93 2 0)], AObj.box [AV.t (Tree.bool (cB p93 3 0))], AObj.box [], AObj.box [AV.t (Tree.sl (2:Nat) (cL p93 5 0)), AV.t (tI (cI p93 5 1)), AV.t
  (Tree.bool (cB p93 5 2))], AObj.box [AV.t (Tree.sl (2:Nat) (cL p93 6 0)), AV.t (tI (cI p93 6 1)), AV.t (Tree.bool (cB p93 6 2))], AObj.box [AV.t (Tree.bool (cB p93 7 0)), AV.t (Tree.bool (cB p93 7
  1))]])) none) none) none) none) (again96 ([], [AObj.box [AV.func (Fn.func 94) [] []], AObj.row false (oVer p93 1) (2:Nat) (oEs p93 1), AObj.box [AV.sref (1:Nat) (cVer p93 2 0) (cOff p93 2 0) (cLen p93
  2 0)], AObj.box [AV.t (Tree.bool (cB p93 3 0))], AObj.box [], AObj.box [AV.t (Tree.sl (2:Nat) (cL p93 5 0)), AV.t (tI (cI p93 5 1)), AV.t (Tree.bool (cB p93 5 2))], AObj.box [AV.t (Tree.sl (2:Nat) (cL
  p93 6 0)), AV.t (tI (cI p93 6 1)), AV.t (Tree.bool (cB p93 6 2))], AObj.box [AV.t (Tree.bool (cB p93 7 0)), AV.t (Tree.bool (cB p93 7 1))]]))

noncomputable def J67_27 (n : Nat) (again53 : (List AV × Heap) → Option (List Tree)) (y88 : List Tree) (p91 : List AV × Heap) : Option (List Tree) :=
  again53 ([], [AObj.box [AV.func (Fn.func 94) [] []], AObj.row false (oVer p91 1) (2:Nat) (oEs p91 1), AObj.box [AV.sref (1:Nat) (cVer p91 2 0) (cOff p91 2 0) (cLen p91 2 0)], AObj.box [AV.t (Tree.bool
  (gB y88 0))], AObj.box [], AObj.box [AV.t (Tree.sl (2:Nat) (cL p91 5 0)), AV.t (tI (cI p91 5 1)), AV.t (Tree.bool (cB p91 5 2))], AObj.box [AV.t (Tree.sl (2:Nat) (cL p91 6 0)), AV.t (tI (cI p91 6 1)),
  AV.t (Tree.bool (cB p91 6 2))]])

noncomputable def J67_28 (n : Nat) (again53 : (List AV × Heap) → Option (List Tree)) (y88 : List Tree) (p66 : List AV × Heap) (p89 : List AV × Heap) : Option (List Tree) :=
  join (fun (p91 : List AV × Heap) => J67_27 n again53 y88 p91) fun (again92 : _ → Option (List Tree)) => cnd (vB p89 0 = true) (cnd (oVer p89 1 = cVer p89 2 0 ∧ ((2:Nat) = (2:Nat) ∨ (2:Nat) = (0:Nat))
  ∧ (cOff p89 2 0) + (cLen p89 2 0) ≤ List.length (oEs p89 1) ∧ (cLen p89 2 0) + (1:Nat) ≤ (1073741824:Nat)) (again92 ([], [AObj.box [AV.func (Fn.func 94) [] []], AObj.row false ((cVer p89 2 0) +
  (1:Nat)) (2:Nat) ((List.take (cLen p89 2 0) (List.drop (cOff p89 2 0) (oEs p89 1))) ++ [[tI (vI p66 0), tI (0:Int)]]), AObj.box [AV.sref (1:Nat) ((cVer p89 2 0) + (1:Nat)) (0:Nat) ((cLen p89 2 0) +
  (1:Nat))], AObj.box [AV.t (Tree.bool (cB p89 3 0))], AObj.box [], AObj.box [AV.t (Tree.sl (2:Nat) (cL p89 5 0)), AV.t (tI (cI p89 5 1)), AV.t (Tree.bool (cB p89 5 2))], AObj.box [AV.t (Tree.sl (2:Nat)
  (cL p89 6 0)), AV.t (tI (cI p89 6 1)), AV.t (Tree.bool (cB p89 6 2))], AObj.box [AV.t (Tree.bool (cB p89 7 0)), AV.t (Tree.bool (cB p89 7 1))]])) none) (join (fun (p93 : List AV × Heap) => J67_26 n
  again92 p66 p93) fun (again94 : _ → Option (List Tree)) => cnd ((!(gB y88 0)) = true) (again94 ([AV.t (Tree.bool (cB p89 3 0))], [AObj.box [AV.func (Fn.func 94) [] []], AObj.row false (oVer p89 1)
  (2:Nat) (oEs p89 1), AObj.box [AV.sref (1:Nat) (cVer p89 2 0) (cOff p89 2 0) (cLen p89 2 0)], AObj.box [AV.t (Tree.bool (cB p89 3 0))], AObj.box [], AObj.box [AV.t (Tree.sl (2:Nat) (cL p89 5 0)), AV.t
  (tI (cI p89 5 1)), AV.t (Tree.bool (cB p89 5 2))], AObj.box [AV.t (Tree.sl (2:Nat) (cL p89 6 0)), AV.t (tI (cI p89 6 1)), AV.t (Tree.bool (cB p89 6 2))], AObj.box [AV.t (Tree.bool (cB p89 7 0)), AV.t
  (Tree.bool (cB p89 7 1))]])) (again94 ([AV.t (Tree.bool false)], [AObj.box [AV.func (Fn.func 94) [] []], AObj.row false (oVer p89 1) (2:Nat) (oEs p89 1), AObj.box [AV.sref (1:Nat) (cVer p89 2 0) (cOff
  p89 2 0) (cLen p89 2 0)], AObj.box [AV.t (Tree.bool (cB p89 3 0))], AObj.box [], AObj.box [AV.t (Tree.sl (2:Nat) (cL p89 5 0)), AV.t (tI (cI p89 5 1)), AV.t (Tree.bool (cB p89 5 2))], AObj.box [AV.t
  (Tree.sl (2:Nat) (cL p89 6 0)), AV.t (tI (cI p89 6 1)), AV.t (Tree.bool (cB p89 6 2))], AObj.box [AV.t (Tree.bool (cB p89 7 0)), AV.t (Tree.bool (cB p89 7 1))]])))

noncomputable def J67_29 (n : Nat) (again53 : (List AV × Heap) → Option (List Tree)) (p66 : List AV × Heap) (p78 : List AV × Heap) : Option (List Tree) :=
  Option.bind (apure C n (94:Nat) [Tree.bool (cB p78 6 2), Tree.bool (cB p78 5 2)]) fun y88 => cnd (List.length y88 = (1:Nat)) (cnd (okB y88 0) (join (fun (p89 : List AV × Heap) => J67_28 n again53 y88
  p66 p89) fun (again90 : _ → Option (List Tree)) => cnd (gB y88 0 = true) (again90 ([AV.t (Tree.bool (!(cB p78 3 0)))], [AObj.box [AV.func (Fn.func 94) [] []], AObj.row false (oVer p78 1) (2:Nat) (oEs
  p78 1), AObj.box [AV.sref (1:Nat) (cVer p78 2 0) (cOff p78 2 0) (cLen p78 2 0)], AObj.box [AV.t (Tree.bool (cB p78 3 0))], AObj.box [], AObj.box [AV.t (Tree.sl (2:Nat) (cL p78 5 0)), AV.t (tI (cI p78
  5 1)), AV.t (Tree.bool (cB p78 5 2))], AObj.box [AV.t (Tree.sl (2:Nat) (cL p78 6 0)), AV.t (tI (cI p78 6 1)), AV.t (Tree.bool (cB p78 6 2))], AObj.box [AV.t (Tree.bool (cB p78 6 2)), AV.t (Tree.bool
  (cB p78 5 2))]])) (again90 ([AV.t (Tree.bool false)], [AObj.box [AV.func (Fn.func 94) [] []], AObj.row false (oVer p78 1) (2:Nat) (oEs p78 1), AObj.box [AV.sref (1:Nat) (cVer p78 2 0) (cOff p78 2 0)
  (cLen p78 2 0)], AObj.box [AV.t (Tree.bool (cB p78 3 0))], AObj.box [], AObj.box [AV.t (Tree.sl (2:Nat) (cL p78 5 0)), AV.t (tI (cI p78 5 1)), AV.t (Tree.bool (cB p78 5 2))], AObj.box [AV.t (Tree.sl
  (2:Nat) (cL p78 6 0)), AV.t (tI (cI p78 6 1)), AV.t (Tree.bool (cB p78 6 2))], AObj.box [AV.t (Tree.bool (cB p78 6 2)), AV.t (Tree.bool (cB p78 5 2))]]))) none) none

noncomputable def J67_30 (n : Nat) (again53 : (List AV × Heap) → Option (List Tree)) (p66 : List AV × Heap) (p68 : List AV × Heap) : Option (List Tree) :=
  join (fun (p78 : List AV × Heap) => J67_29 n again53 p66 p78) fun (again79 : _ → Option (List Tree)) => join (fun (p80 : List AV × Heap) => J67_24 n again79 p66 p80) fun (again81 : _ → Option (List
  Tree)) => cnd (((cI p68 5 1) == ((List.length (cL p68 5 0):Nat):Int)) = true) (again81 ([AV.t (tI (0:Int)), AV.t (Tree.bool false)], [AObj.box [AV.func (Fn.func 94) [] []], AObj.row false (oVer p68 1)
  (2:Nat) (oEs p68 1), AObj.box [AV.sref (1:Nat) (cVer p68 2 0) (cOff p68 2 0) (cLen p68 2 0)], AObj.box [AV.t (Tree.bool (cB p68 3 0))], AObj.box [], AObj.box [AV.t (Tree.sl (2:Nat) (cL p68 5 0)), AV.t
  (tI (cI p68 5 1)), AV.t (Tree.bool (cB p68 5 2))], AObj.box [AV.t (Tree.sl (2:Nat) (cL p68 6 0)), AV.t (tI (cI p68 6 1)), AV.t (Tree.bool (cB p68 6 2))]])) (cnd (cB p68 5 2 = true) (cnd ((2:Nat) =
  (2:Nat) ∧ (0:Int) ≤ cI p68 5 1) (Option.bind (cL p68 5 0)[Int.toNat (cI p68 5 1)]? fun y82 => cnd (okI y82 1) (again81 ([AV.t (tI (gI y82 1)), AV.t (Tree.bool true)], [AObj.box [AV.func (Fn.func 94)
  [] []], AObj.row false (oVer p68 1) (2:Nat) (oEs p68 1), AObj.box [AV.sref (1:Nat) (cVer p68 2 0) (cOff p68 2 0) (cLen p68 2 0)], AObj.box [AV.t (Tree.bool (cB p68 3 0))], AObj.box [], AObj.box [AV.t
  (Tree.sl (2:Nat) (cL p68 5 0)), AV.t (tI (cI p68 5 1)), AV.t (Tree.bool (cB p68 5 2))], AObj.box [AV.t (Tree.sl (2:Nat) (cL p68 6 0)), AV.t (tI (cI p68 6 1)), AV.t (Tree.bool (cB p68 6 2))]])) none)
  none) (cnd ((2:Nat) = (2:Nat) ∧ (0:Int) ≤ cI p68 5 1) (Option.bind (cL p68 5 0)[Int.toNat (cI p68 5 1)]? fun y83 => cnd (okI y83 0) (again81 ([AV.t (tI (gI y83 0)), AV.t (Tree.bool true)], [AObj.box
  [AV.func (Fn.func 94) [] []], AObj.row false (oVer p68 1) (2:Nat) (oEs p68 1), AObj.box [AV.sref (1:Nat) (cVer p68 2 0) (cOff p68 2 0) (cLen p68 2 0)], AObj.box [AV.t (Tree.bool (cB p68 3 0))],
  AObj.box [], AObj.box [AV.t (Tree.sl (2:Nat) (cL p68 5 0)), AV.t (tI (cI p68 5 1)), AV.t (Tree.bool (cB p68 5 2))], AObj.box [AV.t (Tree.sl (2:Nat) (cL p68 6 0)), AV.t (tI (cI p68 6 1)), AV.t
  (Tree.bool (cB p68 6 2))]])) none) none))

noncomputable def J67_31 (n : Nat) (again53 : (List AV × Heap) → Option (List Tree)) (p66 : List AV × Heap) : Option (List Tree) :=
  join (fun (p68 : List AV × Heap) => J67_30 n again53 p66 p68) fun (again69 : _ → Option (List Tree)) => join (fun (p70 : List AV × Heap) => J67_21 n again69 p66 p70) fun (again71 : _ → Option (List
  Tree)) => cnd (((cI p66 6 1) == ((List.length (cL p66 6 0):Nat):Int)) = true) (again71 ([AV.t (tI (0:Int)), AV.t (Tree.bool false)], [AObj.box [AV.func (Fn.func 94) [] []], AObj.row false (oVer p66 1)
  (2:Nat) (oEs p66 1), AObj.box [AV.sref (1:Nat) (cVer p66 2 0) (cOff p66 2 0) (cLen p66 2 0)], AObj.box [AV.t (Tree.bool (cB p66 3 0))], AObj.box [], AObj.box [AV.t (Tree.sl (2:Nat) (cL p66 5 0)), AV.t
  (tI (cI p66 5 1)), AV.t (Tree.bool (cB p66 5 2))], AObj.box [AV.t (Tree.sl (2:Nat) (cL p66 6 0)), AV.t (tI (cI p66 6 1)), AV.t (Tree.bool (cB p66 6 2))]])) (cnd (cB p66 6 2 = true) (cnd ((2:Nat) =
  (2:Nat) ∧ (0:Int) ≤ cI p66 6 1) (Option.bind (cL p66 6 0)[Int.toNat (cI p66 6 1)]? fun y72 => cnd (okI y72 1) (again71 ([AV.t (tI (gI y72 1)), AV.t (Tree.bool true)], [AObj.box [AV.func (Fn.func 94)
  [] []], AObj.row false (oVer p66 1) (2:Nat) (oEs p66 1), AObj.box [AV.sref (1:Nat) (cVer p66 2 0) (cOff p66 2 0) (cLen p66 2 0)], AObj.box [AV.t (Tree.bool (cB p66 3 0))], AObj.box [], AObj.box [AV.t
  (Tree.sl (2:Nat) (cL p66 5 0)), AV.t (tI (cI p66 5 1)), AV.t (Tree.bool (cB p66 5 2))], AObj.box [AV.t (Tree.sl (2:Nat) (cL p66 6 0)), AV.t (tI (cI p66 6 1)), AV.t (Tree.bool (cB p66 6 2))]])) none)
  none) (cnd ((2:Nat) = (2:Nat) ∧ (0:Int) ≤ cI p66 6 1) (Option.bind (cL p66 6 0)[Int.toNat (cI p66 6 1)]? fun y73 => cnd (okI y73 0) (again71 ([AV.t (tI (gI y73 0)), AV.t (Tree.bool true)], [AObj.box
  [AV.func (Fn.func 94) [] []], AObj.row false (oVer p66 1) (2:Nat) (oEs p66 1), AObj.box [AV.sref (1:Nat) (cVer p66 2 0) (cOff p66 2 0) (cLen p66 2 0)], AObj.box [AV.t (Tree.bool (cB p66 3 0))],
  AObj.box [], AObj.box [AV.t (Tree.sl (2:Nat) (cL p66 5 0)), AV.t (tI (cI p66 5 1)), AV.t (Tree.bool (cB p66 5 2))], AObj.box [AV.t (Tree.sl (2:Nat) (cL p66 6 0)), AV.t (tI (cI p66 6 1)), AV.t
  (Tree.bool (cB p66 6 2))]])) none) none))

noncomputable def J67_32 (n : Nat) (again53 : (List AV × Heap) → Option (List Tree)) (p58 : List AV × Heap) (p54 : List AV × Heap) (p64 : List AV × Heap) : Option (List Tree) :=
  join (fun (p66 : List AV × Heap) => J67_31 n again53 p66) fun (again67 : _ → Option (List Tree)) => cnd (vB p64 0 = true) (again67 ([AV.t (tI (vI p58 0))], [AObj.box [AV.func (Fn.func 94) [] []],
  AObj.row false (oVer p64 1) (2:Nat) (oEs p64 1), AObj.box [AV.sref (1:Nat) (cVer p64 2 0) (cOff p64 2 0) (cLen p64 2 0)], AObj.box [AV.t (Tree.bool (cB p64 3 0))], AObj.box [], AObj.box [AV.t (Tree.sl
  (2:Nat) (cL p64 5 0)), AV.t (tI (cI p64 5 1)), AV.t (Tree.bool (cB p64 5 2))], AObj.box [AV.t (Tree.sl (2:Nat) (cL p64 6 0)), AV.t (tI (cI p64 6 1)), AV.t (Tree.bool (cB p64 6 2))]])) (again67 ([AV.t
  (tI (vI p54 0))], [AObj.box [AV.func (Fn.func 94) [] []], AObj.row false (oVer p64 1) (2:Nat) (oEs p64 1), AObj.box [AV.sref (1:Nat) (cVer p64 2 0) (cOff p64 2 0) (cLen p64 2 0)], AObj.box [AV.t
  (Tree.bool (cB p64 3 0))], AObj.box [], AObj.box [AV.t (Tree.sl (2:Nat) (cL p64 5 0)), AV.t (tI (cI p64 5 1)), AV.t (Tree.bool (cB p64 5 2))], AObj.box [AV.t (Tree.sl (2:Nat) (cL p64 6 0)), AV.t (tI
  (cI p64 6 1)), AV.t (Tree.bool (cB p64 6 2))]]))

noncomputable def J67_33 (n : Nat) (again53 : (List AV × Heap) → Option (List Tree)) (p58 : List AV × Heap) (p54 : List AV × Heap) (p62 : List AV × Heap) : Option (List Tree) :=
  cnd (vB p62 0 = true) (cnd (oVer p62 1 = cVer p62 2 0) (cnd (decide (((cLen p62 2 0:Nat):Int) > (1000:Int)) = true) (some [Tree.sl (2:Nat) [], tI (4:Int)]) (cnd ((false = true ∨ false = false) ∧ oVer
  p62 1 = cVer p62 2 0 ∧ ((2:Nat) = (2:Nat) ∨ (2:Nat) = (0:Nat))) (some [Tree.sl (2:Nat) (List.take (cLen p62 2 0) (List.drop (cOff p62 2 0) (oEs p62 1))), tI (0:Int)]) none)) none) (join (fun (p64 :
  List AV × Heap) => J67_32 n again53 p58 p54 p64) fun (again65 : _ → Option (List Tree)) => cnd ((!(vB p54 1)) = true) (again65 ([AV.t (Tree.bool true)], [AObj.box [AV.func (Fn.func 94) [] []],
  AObj.row false (oVer p62 1) (2:Nat) (oEs p62 1), AObj.box [AV.sref (1:Nat) (cVer p62 2 0) (cOff p62 2 0) (cLen p62 2 0)], AObj.box [AV.t (Tree.bool (cB p62 3 0))], AObj.box [], AObj.box [AV.t (Tree.sl
  (2:Nat) (cL p62 5 0)), AV.t (tI (cI p62 5 1)), AV.t (Tree.bool (cB p62 5 2))], AObj.box [AV.t (Tree.sl (2:Nat) (cL p62 6 0)), AV.t (tI (cI p62 6 1)), AV.t (Tree.bool (cB p62 6 2))]])) (cnd (vB p58 1 =
  true) (again65 ([AV.t (Tree.bool (decide (vI p58 0 < vI p54 0)))], [AObj.box [AV.func (Fn.func 94) [] []], AObj.row false (oVer p62 1) (2:Nat) (oEs p62 1), AObj.box [AV.sref (1:Nat) (cVer p62 2 0)
  (cOff p62 2 0) (cLen p62 2 0)], AObj.box [AV.t (Tree.bool (cB p62 3 0))], AObj.box [], AObj.box [AV.t (Tree.sl (2:Nat) (cL p62 5 0)), AV.t (tI (cI p62 5 1)), AV.t (Tree.bool (cB p62 5 2))], AObj.box
  [AV.t (Tree.sl (2:Nat) (cL p62 6 0)), AV.t (tI (cI p62 6 1)), AV.t (Tree.bool (cB p62 6 2))]])) (again65 ([AV.t (Tree.bool false)], [AObj.box [AV.func (Fn.func 94) [] []], AObj.row false (oVer p62 1)
  (2:Nat) (oEs p62 1), AObj.box [AV.sref (1:Nat) (cVer p62 2 0) (cOff p62 2 0) (cLen p62 2 0)], AObj.box [AV.t (Tree.bool (cB p62 3 0))], AObj.box [], AObj.box [AV.t (Tree.sl (2:Nat) (cL p62 5 0)), AV.t
  (tI (cI p62 5 1)), AV.t (Tree.bool (cB p62 5 2))], AObj.box [AV.t (Tree.sl (2:Nat) (cL p62 6 0)), AV.t (tI (cI p62 6 1)), AV.t (Tree.bool (cB p62 6 2))]]))))

noncomputable def J67_34 (n : Nat) (again53 : (List AV × Heap) → Option (List Tree)) (p54 : List AV × Heap) (p58 : List AV × Heap) : Option (List Tree) :=
  join (fun (p62 : List AV × Heap) => J67_33 n again53 p58 p54 p62) fun (again63 : _ → Option (List Tree)) => cnd ((!(vB p54 1)) = true) (again63 ([AV.t (Tree.bool (!(vB p58 1)))], [AObj.box [AV.func
  (Fn.func 94) [] []], AObj.row false (oVer p58 1) (2:Nat) (oEs p58 1), AObj.box [AV.sref (1:Nat) (cVer p58 2 0) (cOff p58 2 0) (cLen p58 2 0)], AObj.box [AV.t (Tree.bool (cB p58 3 0))], AObj.box [],
  AObj.box [AV.t (Tree.sl (2:Nat) (cL p58 5 0)), AV.t (tI (cI p58 5 1)), AV.t (Tree.bool (cB p58 5 2))], AObj.box [AV.t (Tree.sl (2:Nat) (cL p58 6 0)), AV.t (tI (cI p58 6 1)), AV.t (Tree.bool (cB p58 6
  2))]])) (again63 ([AV.t (Tree.bool false)], [AObj.box [AV.func (Fn.func 94) [] []], AObj.row false (oVer p58 1) (2:Nat) (oEs p58 1), AObj.box [AV.sref (1:Nat) (cVer p58 2 0) (cOff p58 2 0) (cLen p58 2
  0)], AObj.box [AV.t (Tree.bool (cB p58 3 0))], AObj.box [], AObj.box [AV.t (Tree.sl (2:Nat) (cL p58 5 0)), AV.t (tI (cI p58 5 1)), AV.t (Tree.bool (cB p58 5 2))], AObj.box [AV.t (Tree.sl (2:Nat) (cL
  p58 6 0)), AV.t (tI (cI p58 6 1)), AV.t (Tree.bool (cB p58 6 2))]]))

noncomputable def J67_35 (n : Nat) (again53 : (List AV × Heap) → Option (List Tree)) (p54 : List AV × Heap) : Option (List Tree) :=
  join (fun (p58 : List AV × Heap) => J67_34 n again53 p54 p58) fun (again59 : _ → Option (List Tree)) => cnd (((cI p54 5 1) == ((List.length (cL p54 5 0):Nat):Int)) = true) (again59 ([AV.t (tI
  (0:Int)), AV.t (Tree.bool false)], [AObj.box [AV.func (Fn.func 94) [] []], AObj.row false (oVer p54 1) (2:Nat) (oEs p54 1), AObj.box [AV.sref (1:Nat) (cVer p54 2 0) (cOff p54 2 0) (cLen p54 2 0)],
  AObj.box [AV.t (Tree.bool (cB p54 3 0))], AObj.box [], AObj.box [AV.t (Tree.sl (2:Nat) (cL p54 5 0)), AV.t (tI (cI p54 5 1)), AV.t (Tree.bool (cB p54 5 2))], AObj.box [AV.t (Tree.sl (2:Nat) (cL p54 6
  0)), AV.t (tI (cI p54 6 1)), AV.t (Tree.bool (cB p54 6 2))]])) (cnd (cB p54 5 2 = true) (cnd ((2:Nat) = (2:Nat) ∧ (0:Int) ≤ cI p54 5 1) (Option.bind (cL p54 5 0)[Int.toNat (cI p54 5 1)]? fun y60 =>
  cnd (okI y60 1) (again59 ([AV.t (tI (gI y60 1)), AV.t (Tree.bool true)], [AObj.box [AV.func (Fn.func 94) [] []], AObj.row false (oVer p54 1) (2:Nat) (oEs p54 1), AObj.box [AV.sref (1:Nat) (cVer p54 2
  0) (cOff p54 2 0) (cLen p54 2 0)], AObj.box [AV.t (Tree.bool (cB p54 3 0))], AObj.box [], AObj.box [AV.t (Tree.sl (2:Nat) (cL p54 5 0)), AV.t (tI (cI p54 5 1)), AV.t (Tree.bool (cB p54 5 2))],
  AObj.box [AV.t (Tree.sl (2:Nat) (cL p54 6 0)), AV.t (tI (cI p54 6 1)), AV.t (Tree.bool (cB p54 6 2))]])) none) none) (cnd ((2:Nat) = (2:Nat) ∧ (0:Int) ≤ cI p54 5 1) (Option.bind (cL p54 5 0)[Int.toNat
  (cI p54 5 1)]? fun y61 => cnd (okI y61 0) (again59 ([AV.t (tI (gI y61 0)), AV.t (Tree.bool true)], [AObj.box [AV.func (Fn.func 94) [] []], AObj.row false (oVer p54 1) (2:Nat) (oEs p54 1), AObj.box
  [AV.sref (1:Nat) (cVer p54 2 0) (cOff p54 2 0) (cLen p54 2 0)], AObj.box [AV.t (Tree.bool (cB p54 3 0))], AObj.box [], AObj.box [AV.t (Tree.sl (2:Nat) (cL p54 5 0)), AV.t (tI (cI p54 5 1)), AV.t
  (Tree.bool (cB p54 5 2))], AObj.box [AV.t (Tree.sl (2:Nat) (cL p54 6 0)), AV.t (tI (cI p54 6 1)), AV.t (Tree.bool (cB p54 6 2))]])) none) none))

noncomputable def L67_36 (n : Nat)  (p52 : List AV × Heap) (again53 : (List AV × Heap) → Option (List Tree)) : Option (List Tree) :=
  join (fun (p54 : List AV × Heap) => J67_35 n again53 p54) fun (again55 : _ → Option (List Tree)) => cnd (((cI p52 6 1) == ((List.length (cL p52 6 0):Nat):Int)) = true) (again55 ([AV.t (tI (0:Int)),
  AV.t (Tree.bool false)], [AObj.box [AV.func (Fn.func 94) [] []], AObj.row false (oVer p52 1) (2:Nat) (oEs p52 1), AObj.box [AV.sref (1:Nat) (cVer p52 2 0) (cOff p52 2 0) (cLen p52 2 0)], AObj.box
  [AV.t (Tree.bool (cB p52 3 0))], AObj.box [], AObj.box [AV.t (Tree.sl (2:Nat) (cL p52 5 0)), AV.t (tI (cI p52 5 1)), AV.t (Tree.bool (cB p52 5 2))], AObj.box [AV.t (Tree.sl (2:Nat) (cL p52 6 0)), AV.t
  (tI (cI p52 6 1)), AV.t (Tree.bool (cB p52 6 2))]])) (cnd (cB p52 6 2 = true) (cnd ((2:Nat) = (2:Nat) ∧ (0:Int) ≤ cI p52 6 1) (Option.bind (cL p52 6 0)[Int.toNat (cI p52 6 1)]? fun y56 => cnd (okI y56
  1) (again55 ([AV.t (tI (gI y56 1)), AV.t (Tree.bool true)], [AObj.box [AV.func (Fn.func 94) [] []], AObj.row false (oVer p52 1) (2:Nat) (oEs p52 1), AObj.box [AV.sref (1:Nat) (cVer p52 2 0) (cOff p52
  2 0) (cLen p52 2 0)], AObj.box [AV.t (Tree.bool (cB p52 3 0))], AObj.box [], AObj.box [AV.t (Tree.sl (2:Nat) (cL p52 5 0)), AV.t (tI (cI p52 5 1)), AV.t (Tree.bool (cB p52 5 2))], AObj.box [AV.t
  (Tree.sl (2:Nat) (cL p52 6 0)), AV.t (tI (cI p52 6 1)), AV.t (Tree.bool (cB p52 6 2))]])) none) none) (cnd ((2:Nat) = (2:Nat) ∧ (0:Int) ≤ cI p52 6 1) (Option.bind (cL p52 6 0)[Int.toNat (cI p52 6 1)]?
  fun y57 => cnd (okI y57 0) (again55 ([AV.t (tI (gI y57 0)), AV.t (Tree.bool true)], [AObj.box [AV.func (Fn.func 94) [] []], AObj.row false (oVer p52 1) (2:Nat) (oEs p52 1), AObj.box [AV.sref (1:Nat)
  (cVer p52 2 0) (cOff p52 2 0) (cLen p52 2 0)], AObj.box [AV.t (Tree.bool (cB p52 3 0))], AObj.box [], AObj.box [AV.t (Tree.sl (2:Nat) (cL p52 5 0)), AV.t (tI (cI p52 5 1)), AV.t (Tree.bool (cB p52 5
  2))], AObj.box [AV.t (Tree.sl (2:Nat) (cL p52 6 0)), AV.t (tI (cI p52 6 1)), AV.t (Tree.bool (cB p52 6 2))]])) none) none))

noncomputable def J67_37 (n : Nat) (a0 : List (List Tree)) (a1 : List (List Tree)) (p2 : List AV × Heap) : Option (List Tree) :=
  cnd (vB p2 0 = true) (some [Tree.sl (2:Nat) [], tI (1:Int)]) (both (loopIter (fun (p6 : List AV × Heap) (again7 : _ → Option (List Tree)) => L67_18 n p6 again7) n ([], [AObj.box [AV.func (Fn.func 94)
  [] []], AObj.row false (0:Nat) (2:Nat) [], AObj.box [AV.sref (1:Nat) (0:Nat) (0:Nat) (0:Nat)], AObj.box [AV.t (Tree.bool false)], AObj.box [], AObj.box [AV.t (Tree.sl (2:Nat) a0), AV.t (tI (0:Int)),
  AV.t (Tree.bool false)], AObj.box [AV.t (Tree.sl (2:Nat) a1), AV.t (tI (0:Int)), AV.t (Tree.bool false)]])) (loopIter (fun (p52 : List AV × Heap) (again53 : _ → Option (List Tree)) => L67_36 n p52
  again53) n ([], [AObj.box [AV.func (Fn.func 94) [] []], AObj.row false (0:Nat) (2:Nat) [], AObj.box [AV.sref (1:Nat) (0:Nat) (0:Nat) (0:Nat)], AObj.box [AV.t (Tree.bool false)], AObj.box [], AObj.box
  [AV.t (Tree.sl (2:Nat) a1), AV.t (tI (0:Int)), AV.t (Tree.bool false)], AObj.box [AV.t (Tree.sl (2:Nat) a0), AV.t (tI (0:Int)), AV.t (Tree.bool false)]])))
theorem e67 (n : Nat) (a0 : List (List Tree)) (a1 : List (List Tree)) : apure C (n + 1) 67 [Tree.sl (2:Nat) a0, Tree.sl (2:Nat) a1] =
  join (fun (p2 : List AV × Heap) => J67_37 n a0 a1 p2) fun (again3 : _ → Option (List Tree)) => Option.bind (apure C n (75:Nat) [Tree.sl (2:Nat) a0]) fun y4 => cnd (List.length y4 = (1:Nat)) (cnd (okI
  y4 0) (cnd (((gI y4 0) != (0:Int)) = true) (again3 ([AV.t (Tree.bool true)], [AObj.box [AV.func (Fn.func 94) [] []]])) (Option.bind (apure C n (75:Nat) [Tree.sl (2:Nat) a1]) fun y5 => cnd (List.length
  y5 = (1:Nat)) (cnd (okI y5 0) (again3 ([AV.t (Tree.bool ((gI y5 0) != (0:Int)))], [AObj.box [AV.func (Fn.func 94) [] []]])) none) none)) none) none := by kernel_rfl

theorem e68 (n : Nat) (a0 : Int) (a1 : Int) (a2 : Int) (a3 : Int) (a4 : Int) (a5 : Int) (a6 : Int) (a7 : Int) (a8 : ByteArray) (a9 : Int) (a10 : Int) (a11 : Int) (a12 : List (List Tree)) (a13 : Int) (a14 : Int) (a15 : Int) (a16 : Int) (a17 : Int) (a18 : Int) (a19 : Int) (a20 : Int) (a21 : Bool) (a22 : ByteArray) (a23 : List (List Tree)) : apure C (n + 1) 68 [tI a0, tI a1, tI a2, tI a3, tI a4, tI a5, tI a6, tI a7, Tree.str a8, tI a9, tI a10, tI a11, Tree.sl (2:Nat) a12, tI a13, tI a14, tI a15, tI a16, tI a17, tI a18, tI a19, tI a20, Tree.bool a21, Tree.str a22, Tree.sl (2:Nat) a23] =
  Option.bind (apure C n (62:Nat) [tI a0, tI a1, tI a2, tI a3, tI a4, tI a5, tI a6, tI a7, Tree.str a8, tI a9, tI a10, tI a11, Tree.sl (2:Nat) a12, tI a13, tI a14]) fun y24 => cnd (List.length y24 =
  (15:Nat)) (cnd (okI y24 0) (cnd (okI y24 1) (cnd (okI y24 2) (cnd (okI y24 3) (cnd (okI y24 4) (cnd (okI y24 5) (cnd (okI y24 6) (cnd (okI y24 7) (cnd (okS y24 8) (cnd (okI y24 9) (cnd (okI y24 10)
  (cnd (okI y24 11) (cnd (okL 2 y24 12) (cnd (okI y24 13) (cnd (okI y24 14) (some [tI (gI y24 0), tI (gI y24 1), tI (gI y24 2), tI (gI y24 3), tI (gI y24 4), tI (gI y24 5), tI (gI y24 6), tI (gI y24 7),
  Tree.str (gS y24 8), tI (gI y24 9), tI (gI y24 10), tI (gI y24 11), Tree.sl (2:Nat) (gL y24 12), tI (gI y24 13), tI (gI y24 14), Tree.sl (9:Nat) []]) none) none) none) none) none) none) none) none)
  none) none) none) none) none) none) none) none := by kernel_rfl

theorem e69 (n : Nat) (a0 : Int) (a1 : Int) (a2 : Int) (a3 : Int) (a4 : Int) (a5 : Bool) (a6 : ByteArray) (a7 : List (List Tree)) : apure C (n + 1) 69 [tI a0, tI a1, tI a2, tI a3, tI a4, Tree.bool a5, Tree.str a6, Tree.sl (2:Nat) a7] =
  Option.bind (apure C n (63:Nat) [tI a1, tI (0:Int), tI (1099511627776:Int)]) fun y8 => cnd (List.length y8 = (1:Nat)) (cnd (okB y8 0) (cnd ((!(gB y8 0)) = true) (some [Tree.bool false]) (cnd ((a0 ==
  (3:Int)) = true) (cnd ((a2 == (0:Int)) = true) (cnd ((a3 == (0:Int)) = true) (some [Tree.bool (a4 == (0:Int))]) (some [Tree.bool false])) (some [Tree.bool false])) (Option.bind (apure C n (63:Nat) [tI
  a4, tI (1:Int), tI (65536:Int)]) fun y11 => cnd (List.length y11 = (1:Nat)) (cnd (okB y11 0) (cnd ((!(gB y11 0)) = true) (some [Tree.bool false]) (cnd ((a0 == (2:Int)) = true) (Option.bind (apure C n
  (63:Nat) [tI a2, tI (1:Int), tI (1099511627776:Int)]) fun y14 => cnd (List.length y14 = (1:Nat)) (cnd (okB y14 0) (cnd (gB y14 0 = true) (some [Tree.bool (a3 == (0:Int))]) (some [Tree.bool false]))
  none) none) (cnd (a5 = true) (Option.bind (apure C n (63:Nat) [tI a2, tI (1:Int), tI (1099511627776:Int)]) fun y17 => cnd (List.length y17 = (1:Nat)) (cnd (okB y17 0) (cnd (gB y17 0 = true)
  (Option.bind (apure C n (63:Nat) [tI a3, tI (0:Int), tI (w64 (a4 - (1:Int)))]) fun y18 => cnd (List.length y18 = (1:Nat)) (cnd (okB y18 0) (some [Tree.bool (gB y18 0)]) none) none) (some [Tree.bool
  false])) none) none) (cnd ((a2 == (0:Int)) = true) (Option.bind (apure C n (63:Nat) [tI a3, tI (0:Int), tI (w64 (a4 - (1:Int)))]) fun y21 => cnd (List.length y21 = (1:Nat)) (cnd (okB y21 0) (some
  [Tree.bool (gB y21 0)]) none) none) (some [Tree.bool false]))))) none) none))) none) none := by kernel_rfl

theorem e70 (n : Nat) (a0 : Int) (a1 : Int) (a2 : Int) (a3 : Int) (a4 : Int) (a5 : Bool) (a6 : ByteArray) (a7 : List (List Tree)) : apure C (n + 1) 70 [tI a0, tI a1, tI a2, tI a3, tI a4, Tree.bool a5, Tree.str a6, Tree.sl (2:Nat) a7] =
  cnd ((a0 == (1:Int)) = true) (Option.bind (apure C n (63:Nat) [tI ((ByteArray.size a6:Nat):Int), tI (1:Int), tI (16:Int)]) fun y10 => cnd (List.length y10 = (1:Nat)) (cnd (okB y10 0) (cnd (gB y10 0 =
  true) (cnd (decide (((ByteArray.size a6:Nat):Int) ≤ w64 (a4 - a3)) = true) (some [Tree.bool (((List.length a7:Nat):Int) == (0:Int))]) (some [Tree.bool false])) (some [Tree.bool false])) none) none)
  (cnd ((!a5) = true) (cnd ((((ByteArray.size a6:Nat):Int) == (0:Int)) = true) (cnd ((a0 == (2:Int)) = true) (Option.bind (apure C n (64:Nat) [Tree.sl (2:Nat) a7, tI a4]) fun y13 => cnd (List.length y13
  = (1:Nat)) (cnd (okB y13 0) (cnd (gB y13 0 = true) (some [Tree.bool true]) (some [Tree.bool (((List.length a7:Nat):Int) == (0:Int))])) none) none) (some [Tree.bool (((List.length a7:Nat):Int) ==
  (0:Int))])) (some [Tree.bool false])) (some [Tree.bool false])) := by kernel_rfl

theorem e71 (n : Nat) (a0 : List (List Tree)) (a1 : List (List Tree)) : apure C (n + 1) 71 [Tree.sl (2:Nat) a0, Tree.sl (2:Nat) a1] =
  Option.bind (apure C n (55:Nat) [Tree.sl (2:Nat) a0]) fun y4 => cnd (List.length y4 = (1:Nat)) (cnd (okI y4 0) (cnd (((gI y4 0) != (0:Int)) = true) (some [Tree.bool true]) (Option.bind (apure C n
  (55:Nat) [Tree.sl (2:Nat) a1]) fun y5 => cnd (List.length y5 = (1:Nat)) (cnd (okI y5 0) (some [Tree.bool ((gI y5 0) != (0:Int))]) none) none)) none) none := by kernel_rfl

noncomputable def J72_1 (n : Nat) (p9 : List AV × Heap) (a0 : List (List Tree)) (again10 : (List AV × Heap) → Option (List Tree)) (p3 : List AV × Heap) (p11 : List AV × Heap) : Option (List Tree) :=
  cnd (vB p11 0 = true) (cnd ((2:Nat) = (2:Nat) ∧ (0:Int) ≤ vI p9 0) (Option.bind a0[Int.toNat (vI p9 0)]? fun y14 => cnd (okI y14 0) (cnd ((2:Nat) = (2:Nat) ∧ (0:Int) ≤ vI p9 0) (Option.bind
  a0[Int.toNat (vI p9 0)]? fun y15 => cnd (okI y15 1) (again10 ([AV.t (tI (w64 ((vI p9 0) + (1:Int))))], [AObj.box [AV.t (tI (if gI y14 0 < cI p11 0 0 then gI y14 0 else cI p11 0 0)), AV.t (tI (if gI
  y15 1 > cI p11 0 1 then gI y15 1 else cI p11 0 1))], AObj.row false (oVer p11 1) (2:Nat) (oEs p11 1)])) none) none) none) none) (cnd (oVer p11 1 = sVer p3 0 ∧ ((2:Nat) = (2:Nat) ∨ (2:Nat) = (0:Nat)) ∧
  (sOff p3 0) + (sLen p3 0) ≤ List.length (oEs p11 1) ∧ (sLen p3 0) + (1:Nat) ≤ (1073741824:Nat)) (cnd ((0:Int) ≤ vI p9 0 ∧ vI p9 0 ≤ ((List.length a0:Nat):Int)) (cnd (List.length (List.drop (Int.toNat
  (vI p9 0)) (List.take (List.length a0) a0)) = (0:Nat) ∧ (0:Nat) + ((sLen p3 0) + (1:Nat)) < List.length ((List.take (sLen p3 0) (List.drop (sOff p3 0) (oEs p11 1))) ++ [[tI (cI p11 0 0), tI (cI p11 0
  1)]])) (cnd ((sVer p3 0) + (1:Nat) = (sVer p3 0) + (1:Nat)) (cnd ((false = true ∨ false = false) ∧ (sVer p3 0) + (1:Nat) = (sVer p3 0) + (1:Nat) ∧ ((2:Nat) = (2:Nat) ∨ (2:Nat) = (0:Nat))) (some
  [Tree.sl (2:Nat) (List.take ((sLen p3 0) + (1:Nat)) ((List.take (sLen p3 0) (List.drop (sOff p3 0) (oEs p11 1))) ++ [[tI (cI p11 0 0), tI (cI p11 0 1)]]))]) none) none) (cnd ((sVer p3 0) + (1:Nat) =
  (sVer p3 0) + (1:Nat) ∧ ((2:Nat) = (2:Nat) ∨ (2:Nat) = (0:Nat)) ∧ (0:Nat) + ((sLen p3 0) + (1:Nat)) ≤ List.length ((List.take (sLen p3 0) (List.drop (sOff p3 0) (oEs p11 1))) ++ [[tI (cI p11 0 0), tI
  (cI p11 0 1)]]) ∧ ((sLen p3 0) + (1:Nat)) + (List.length (List.drop (Int.toNat (vI p9 0)) (List.take (List.length a0) a0))) ≤ (1073741824:Nat)) (cnd ((false = true ∨ false = false) ∧ ((sVer p3 0) +
  (1:Nat)) + (1:Nat) = ((sVer p3 0) + (1:Nat)) + (1:Nat) ∧ ((2:Nat) = (2:Nat) ∨ (2:Nat) = (0:Nat))) (some [Tree.sl (2:Nat) (List.take (((sLen p3 0) + (1:Nat)) + (List.length (List.drop (Int.toNat (vI p9
  0)) (List.take (List.length a0) a0)))) ((List.take ((sLen p3 0) + (1:Nat)) ((List.take (sLen p3 0) (List.drop (sOff p3 0) (oEs p11 1))) ++ [[tI (cI p11 0 0), tI (cI p11 0 1)]])) ++ (List.drop
  (Int.toNat (vI p9 0)) (List.take (List.length a0) a0))))]) none) none)) none) none)

noncomputable def L72_2 (n : Nat) (a0 : List (List Tree)) (p3 : List AV × Heap) (p9 : List AV × Heap) (again10 : (List AV × Heap) → Option (List Tree)) : Option (List Tree) :=
  join (fun (p11 : List AV × Heap) => J72_1 n p9 a0 again10 p3 p11) fun (again12 : _ → Option (List Tree)) => cnd (decide (vI p9 0 < ((List.length a0:Nat):Int)) = true) (cnd ((2:Nat) = (2:Nat) ∧ (0:Int)
  ≤ vI p9 0) (Option.bind a0[Int.toNat (vI p9 0)]? fun y13 => cnd (okI y13 0) (again12 ([AV.t (Tree.bool (decide (gI y13 0 ≤ cI p9 0 1)))], [AObj.box [AV.t (tI (cI p9 0 0)), AV.t (tI (cI p9 0 1))],
  AObj.row false (oVer p9 1) (2:Nat) (oEs p9 1)])) none) none) (again12 ([AV.t (Tree.bool false)], [AObj.box [AV.t (tI (cI p9 0 0)), AV.t (tI (cI p9 0 1))], AObj.row false (oVer p9 1) (2:Nat) (oEs p9
  1)]))

noncomputable def J72_3 (n : Nat) (p3 : List AV × Heap) (a0 : List (List Tree)) (again4 : (List AV × Heap) → Option (List Tree)) (p5 : List AV × Heap) : Option (List Tree) :=
  cnd (vB p5 0 = true) (cnd ((2:Nat) = (2:Nat) ∧ (0:Int) ≤ vI p3 1) (Option.bind a0[Int.toNat (vI p3 1)]? fun y8 => cnd (okI y8 0) (cnd (okI y8 1) (cnd (oVer p5 1 = sVer p3 0 ∧ ((2:Nat) = (2:Nat) ∨
  (2:Nat) = (0:Nat)) ∧ (sOff p3 0) + (sLen p3 0) ≤ List.length (oEs p5 1) ∧ (sLen p3 0) + (1:Nat) ≤ (1073741824:Nat)) (again4 ([AV.sref (1:Nat) ((sVer p3 0) + (1:Nat)) (0:Nat) ((sLen p3 0) + (1:Nat)),
  AV.t (tI (w64 ((vI p3 1) + (1:Int))))], [AObj.box [AV.t (tI (cI p5 0 0)), AV.t (tI (cI p5 0 1))], AObj.row false ((sVer p3 0) + (1:Nat)) (2:Nat) ((List.take (sLen p3 0) (List.drop (sOff p3 0) (oEs p5
  1))) ++ [[tI (gI y8 0), tI (gI y8 1)]])])) none) none) none) none) (loopIter (fun (p9 : List AV × Heap) (again10 : _ → Option (List Tree)) => L72_2 n a0 p3 p9 again10) n ([AV.t (tI (vI p3 1))],
  [AObj.box [AV.t (tI (cI p5 0 0)), AV.t (tI (cI p5 0 1))], AObj.row false (oVer p5 1) (2:Nat) (oEs p5 1)]))

noncomputable def L72_4 (n : Nat) (a0 : List (List Tree)) (p3 : List AV × Heap) (again4 : (List AV × Heap) → Option (List Tree)) : Option (List Tree) :=
  join (fun (p5 : List AV × Heap) => J72_3 n p3 a0 again4 p5) fun (again6 : _ → Option (List Tree)) => cnd (decide (vI p3 1 < ((List.length a0:Nat):Int)) = true) (cnd ((2:Nat) = (2:Nat) ∧ (0:Int) ≤ vI
  p3 1) (Option.bind a0[Int.toNat (vI p3 1)]? fun y7 => cnd (okI y7 1) (again6 ([AV.t (Tree.bool (decide (gI y7 1 < cI p3 0 0)))], [AObj.box [AV.t (tI (cI p3 0 0)), AV.t (tI (cI p3 0 1))], AObj.row
  false (oVer p3 1) (2:Nat) (oEs p3 1)])) none) none) (again6 ([AV.t (Tree.bool false)], [AObj.box [AV.t (tI (cI p3 0 0)), AV.t (tI (cI p3 0 1))], AObj.row false (oVer p3 1) (2:Nat) (oEs p3 1)]))
theorem e72 (n : Nat) (a0 : List (List Tree)) (a1 : Int) (a2 : Int) : apure C (n + 1) 72 [Tree.sl (2:Nat) a0, tI a1, tI a2] =
  loopIter (fun (p3 : List AV × Heap) (again4 : _ → Option (List Tree)) => L72_4 n a0 p3 again4) n ([AV.sref (1:Nat) (0:Nat) (0:Nat) (0:Nat), AV.t (tI (0:Int))], [AObj.box [AV.t (tI a1), AV.t (tI a2)],
  AObj.row false (0:Nat) (2:Nat) []]) := by kernel_rfl

theorem e73 (n : Nat) (a0 : List (List Tree)) : apure C (n + 1) 73 [Tree.sl (2:Nat) a0] =
  cnd (decide (((List.length a0:Nat):Int) > (1000:Int)) = true) (some [Tree.sl (2:Nat) [], tI (4:Int)]) (some [Tree.sl (2:Nat) a0, tI (0:Int)]) := by kernel_rfl

theorem e74 (n : Nat) (a0 : List (List Tree)) (a1 : List (List Tree)) : apure C (n + 1) 74 [Tree.sl (2:Nat) a0, Tree.sl (2:Nat) a1] =
  Option.bind (apure C n (71:Nat) [Tree.sl (2:Nat) a0, Tree.sl (2:Nat) a1]) fun y2 => cnd (List.length y2 = (1:Nat)) (cnd (okB y2 0) (cnd (gB y2 0 = true) (some [Tree.sl (2:Nat) [], tI (1:Int)])
  (Option.bind (apure C n (96:Nat) [Tree.sl (2:Nat) a1]) fun y3 => cnd (List.length y3 = (1:Nat)) (cnd (okL 2 y3 0) (Option.bind (apure C n (95:Nat) [Tree.sl (2:Nat) a0, Tree.sl (2:Nat) (gL y3 0)]) fun
  y4 => cnd (List.length y4 = (1:Nat)) (cnd (okL 2 y4 0) (Option.bind (apure C n (73:Nat) [Tree.sl (2:Nat) (gL y4 0)]) fun y5 => cnd (List.length y5 = (2:Nat)) (cnd (okL 2 y5 0) (cnd (okI y5 1) (some
  [Tree.sl (2:Nat) (gL y5 0), tI (gI y5 1)]) none) none) none) none) none) none) none)) none) none := by kernel_rfl

noncomputable def L75_1 (n : Nat) (a0 : List (List Tree)) (p1 : List AV × Heap) (again2 : (List AV × Heap) → Option (List Tree)) : Option (List Tree) :=
  cnd (decide (vI p1 0 < ((List.length a0:Nat):Int)) = true) (cnd ((2:Nat) = (2:Nat) ∧ (0:Int) ≤ vI p1 0) (Option.bind a0[Int.toNat (vI p1 0)]? fun y3 => cnd (okI y3 0) (cnd (okI y3 1) (Option.bind
  (apure C n (97:Nat) [tI (gI y3 0), tI (gI y3 1)]) fun y4 => cnd (List.length y4 = (1:Nat)) (cnd (okB y4 0) (cnd ((!(gB y4 0)) = true) (some [tI (2:Int)]) (cnd (decide (vI p1 0 > (0:Int)) = true) (cnd
  ((2:Nat) = (2:Nat) ∧ (0:Int) ≤ w64 ((vI p1 0) - (1:Int))) (Option.bind a0[Int.toNat (w64 ((vI p1 0) - (1:Int)))]? fun y7 => cnd (okI y7 1) (cnd (decide (gI y3 0 ≤ gI y7 1) = true) (some [tI (9:Int)])
  (again2 ([AV.t (tI (w64 ((vI p1 0) + (1:Int))))], []))) none) none) (again2 ([AV.t (tI (w64 ((vI p1 0) + (1:Int))))], [])))) none) none) none) none) none) (some [tI (0:Int)])
theorem e75 (n : Nat) (a0 : List (List Tree)) : apure C (n + 1) 75 [Tree.sl (2:Nat) a0] =
  cnd (decide (((List.length a0:Nat):Int) > (1000:Int)) = true) (some [tI (4:Int)]) (loopIter (fun (p1 : List AV × Heap) (again2 : _ → Option (List Tree)) => L75_1 n a0 p1 again2) n ([AV.t (tI
  (0:Int))], [])) := by kernel_rfl

theorem e76 (n : Nat) (a0 : ByteArray) : apure C (n + 1) 76 [Tree.str a0] =
  some [Tree.sl (2:Nat) [[tI (0:Int), tI ((ByteArray.size a0:Nat):Int)]]] := by kernel_rfl

theorem e77 (n : Nat) (a0 : Int) (a1 : Int) (a2 : Int) (a3 : Int) (a4 : Int) (a5 : Bool) (a6 : ByteArray) (a7 : List (List Tree)) : apure C (n + 1) 77 [tI a0, tI a1, tI a2, tI a3, tI a4, Tree.bool a5, Tree.str a6, Tree.sl (2:Nat) a7] =
  Option.bind (apure C n (49:Nat) [tI a4, tI (1:Int), tI (65536:Int)]) fun y10 => cnd (List.length y10 = (1:Nat)) (cnd (okB y10 0) (cnd (gB y10 0 = true) (Option.bind (apure C n (49:Nat) [tI a3, tI
  (0:Int), tI (w64 (a4 - (1:Int)))]) fun y11 => cnd (List.length y11 = (1:Nat)) (cnd (okB y11 0) (cnd (gB y11 0 = true) (some [Tree.bool ((decide (a2 ≥ (1:Int))) == a5)]) (some [Tree.bool false])) none)
  none) (some [Tree.bool false])) none) none := by kernel_rfl

theorem e78 (n : Nat) (a0 : Int) (a1 : Int) (a2 : Int) (a3 : Int) (a4 : Int) (a5 : Bool) (a6 : ByteArray) (a7 : List (List Tree)) : apure C (n + 1) 78 [tI a0, tI a1, tI a2, tI a3, tI a4, Tree.bool a5, Tree.str a6, Tree.sl (2:Nat) a7] =
  Option.bind (apure C n (49:Nat) [tI ((ByteArray.size a6:Nat):Int), tI (1:Int), tI (if w64 (a4 - a3) < (16:Int) then w64 (a4 - a3) else (16:Int))]) fun y10 => cnd (List.length y10 = (1:Nat)) (cnd (okB
  y10 0) (cnd (gB y10 0 = true) (some [Tree.bool (((List.length a7:Nat):Int) == (0:Int))]) (some [Tree.bool false])) none) none := by kernel_rfl

theorem e79 (n : Nat) (a0 : Int) (a1 : Int) (a2 : Int) (a3 : Int) (a4 : Int) (a5 : Bool) (a6 : ByteArray) (a7 : List (List Tree)) : apure C (n + 1) 79 [tI a0, tI a1, tI a2, tI a3, tI a4, Tree.bool a5, Tree.str a6, Tree.sl (2:Nat) a7] =
  cnd (decide (a2 ≥ (1:Int)) = true) (Option.bind (apure C n (49:Nat) [tI a4, tI (1:Int), tI (65536:Int)]) fun y10 => cnd (List.length y10 = (1:Nat)) (cnd (okB y10 0) (cnd (gB y10 0 = true) (some
  [Tree.bool (a3 == (0:Int))]) (some [Tree.bool false])) none) none) (some [Tree.bool false]) := by kernel_rfl

theorem e80 (n : Nat) (a0 : Int) (a1 : Int) (a2 : Int) (a3 : Int) (a4 : Int) (a5 : Bool) (a6 : ByteArray) (a7 : List (List Tree)) : apure C (n + 1) 80 [tI a0, tI a1, tI a2, tI a3, tI a4, Tree.bool a5, Tree.str a6, Tree.sl (2:Nat) a7] =
  cnd ((!a5) = true) (cnd ((a6 == (ByteArray.mk #[])) = true) (cnd (decide (((List.length a7:Nat):Int) ≤ (1000:Int)) = true) (Option.bind (apure C n (51:Nat) [Tree.sl (2:Nat) a7, tI a4]) fun y10 => cnd
  (List.length y10 = (1:Nat)) (cnd (okB y10 0) (some [Tree.bool (gB y10 0)]) none) none) (some [Tree.bool false])) (some [Tree.bool false])) (some [Tree.bool false]) := by kernel_rfl

theorem e81 (n : Nat) (a0 : Int) (a1 : Int) (a2 : Int) (a3 : Int) (a4 : Int) (a5 : Bool) (a6 : ByteArray) (a7 : List (List Tree)) : apure C (n + 1) 81 [tI a0, tI a1, tI a2, tI a3, tI a4, Tree.bool a5, Tree.str a6, Tree.sl (2:Nat) a7] =
  cnd ((a2 == (0:Int)) = true) (cnd ((a4 == (0:Int)) = true) (some [Tree.bool (a3 == (0:Int))]) (some [Tree.bool false])) (some [Tree.bool false]) := by kernel_rfl

theorem e82 (n : Nat) (a0 : Int) (a1 : Int) (a2 : Int) (a3 : Int) (a4 : Int) (a5 : Bool) (a6 : ByteArray) (a7 : List (List Tree)) : apure C (n + 1) 82 [tI a0, tI a1, tI a2, tI a3, tI a4, Tree.bool a5, Tree.str a6, Tree.sl (2:Nat) a7] =
  cnd ((!a5) = true) (cnd ((a6 == (ByteArray.mk #[])) = true) (some [Tree.bool (((List.length a7:Nat):Int) == (0:Int))]) (some [Tree.bool false])) (some [Tree.bool false]) := by kernel_rfl

theorem e84 (n : Nat) (a0 : Int) (a1 : Int) : apure C (n + 1) 84 [tI a0, tI a1] =
  cnd (decide (a0 < a1) = true) (cnd (decide (a0 ≥ (-1152921504606846976:Int)) = true) (some [Tree.bool (decide (a1 ≤ (1152921504606846976:Int)))]) (some [Tree.bool false])) (some [Tree.bool false]) := by kernel_rfl

theorem e86 (n : Nat) (a0 : Int) (a1 : Int) : apure C (n + 1) 86 [Tree.int IntKind.u64 a0, Tree.int IntKind.u64 a1] =
  Option.bind (apure C n (102:Nat) [Tree.int IntKind.u64 a0, Tree.int IntKind.u64 a1]) fun y2 => cnd (List.length y2 = (2:Nat)) (cnd (isIntT IntKind.u64 (List.getD y2 (0:Nat) default) = true) (cnd
  (isIntT IntKind.u64 (List.getD y2 (1:Nat) default) = true) (some [Tree.int IntKind.u64 (gI y2 0), Tree.int IntKind.u64 (gI y2 1)]) none) none) none := by kernel_rfl

theorem e87 (n : Nat) (a0 : ByteArray) (a1 : ByteArray) : apure C (n + 1) 87 [Tree.str a0, Tree.str a1] =
  Option.bind (apure C n (103:Nat) [Tree.str a0, Tree.str a1]) fun y2 => cnd (List.length y2 = (1:Nat)) (cnd (okB y2 0) (some [Tree.bool (gB y2 0)]) none) none := by kernel_rfl

theorem e94 (n : Nat) (a0 : Bool) (a1 : Bool) : apure C (n + 1) 94 [Tree.bool a0, Tree.bool a1] =
  cnd (a0 = true) (some [Tree.bool true]) (some [Tree.bool a1]) := by kernel_rfl

noncomputable def L95_1 (n : Nat) (a1 : List (List Tree)) (p2 : List AV × Heap) (a0 : List (List Tree)) (again3 : (List AV × Heap) → Option (List Tree)) (p4 : List AV × Heap) (again5 : (List AV × Heap) → Option (List Tree)) : Option (List Tree) :=
  cnd (decide (vI p4 1 < ((List.length a1:Nat):Int)) = true) (cnd ((2:Nat) = (2:Nat) ∧ (0:Int) ≤ vI p2 1) (Option.bind a0[Int.toNat (vI p2 1)]? fun y6 => cnd (okI y6 0) (cnd ((2:Nat) = (2:Nat) ∧ (0:Int)
  ≤ vI p4 1) (Option.bind a1[Int.toNat (vI p4 1)]? fun y7 => cnd (okI y7 0) (cnd ((2:Nat) = (2:Nat) ∧ (0:Int) ≤ vI p2 1) (Option.bind a0[Int.toNat (vI p2 1)]? fun y8 => cnd (okI y8 1) (cnd ((2:Nat) =
  (2:Nat) ∧ (0:Int) ≤ vI p4 1) (Option.bind a1[Int.toNat (vI p4 1)]? fun y9 => cnd (okI y9 1) (cnd (decide ((if gI y7 0 > gI y6 0 then gI y7 0 else gI y6 0) < (if gI y9 1 < gI y8 1 then gI y9 1 else gI
  y8 1)) = true) (cnd (oVer p4 0 = sVer p4 0 ∧ ((2:Nat) = (2:Nat) ∨ (2:Nat) = (0:Nat)) ∧ (sOff p4 0) + (sLen p4 0) ≤ List.length (oEs p4 0) ∧ (sLen p4 0) + (1:Nat) ≤ (1073741824:Nat)) (again5 ([AV.sref
  (0:Nat) ((sVer p4 0) + (1:Nat)) (0:Nat) ((sLen p4 0) + (1:Nat)), AV.t (tI (w64 ((vI p4 1) + (1:Int))))], [AObj.row false ((sVer p4 0) + (1:Nat)) (2:Nat) ((List.take (sLen p4 0) (List.drop (sOff p4 0)
  (oEs p4 0))) ++ [[tI (if gI y7 0 > gI y6 0 then gI y7 0 else gI y6 0), tI (if gI y9 1 < gI y8 1 then gI y9 1 else gI y8 1)]])])) none) (again5 ([AV.sref (0:Nat) (sVer p4 0) (sOff p4 0) (sLen p4 0),
  AV.t (tI (w64 ((vI p4 1) + (1:Int))))], [AObj.row false (oVer p4 0) (2:Nat) (oEs p4 0)]))) none) none) none) none) none) none) none) none) (again3 ([AV.sref (0:Nat) (sVer p4 0) (sOff p4 0) (sLen p4
  0), AV.t (tI (w64 ((vI p2 1) + (1:Int))))], [AObj.row false (oVer p4 0) (2:Nat) (oEs p4 0)]))

noncomputable def L95_2 (n : Nat) (a0 : List (List Tree)) (a1 : List (List Tree)) (p2 : List AV × Heap) (again3 : (List AV × Heap) → Option (List Tree)) : Option (List Tree) :=
  cnd (decide (vI p2 1 < ((List.length a0:Nat):Int)) = true) (loopIter (fun (p4 : List AV × Heap) (again5 : _ → Option (List Tree)) => L95_1 n a1 p2 a0 again3 p4 again5) n ([AV.sref (0:Nat) (sVer p2 0)
  (sOff p2 0) (sLen p2 0), AV.t (tI (0:Int))], [AObj.row false (oVer p2 0) (2:Nat) (oEs p2 0)])) (cnd ((false = true ∨ false = false) ∧ oVer p2 0 = sVer p2 0 ∧ ((2:Nat) = (2:Nat) ∨ (2:Nat) = (0:Nat)))
  (some [Tree.sl (2:Nat) (List.take (sLen p2 0) (List.drop (sOff p2 0) (oEs p2 0)))]) none)
theorem e95 (n : Nat) (a0 : List (List Tree)) (a1 : List (List Tree)) : apure C (n + 1) 95 [Tree.sl (2:Nat) a0, Tree.sl (2:Nat) a1] =
  loopIter (fun (p2 : List AV × Heap) (again3 : _ → Option (List Tree)) => L95_2 n a0 a1 p2 again3) n ([AV.sref (0:Nat) (0:Nat) (0:Nat) (0:Nat), AV.t (tI (0:Int))], [AObj.row false (0:Nat) (2:Nat) []]) := by kernel_rfl

noncomputable def L96_1 (n : Nat) (a0 : List (List Tree)) (p1 : List AV × Heap) (again2 : (List AV × Heap) → Option (List Tree)) : Option (List Tree) :=
  cnd (decide (vI p1 2 < ((List.length a0:Nat):Int)) = true) (cnd ((2:Nat) = (2:Nat) ∧ (0:Int) ≤ vI p1 2) (Option.bind a0[Int.toNat (vI p1 2)]? fun y3 => cnd (okI y3 0) (cnd (decide (vI p1 1 < gI y3 0)
  = true) (cnd ((2:Nat) = (2:Nat) ∧ (0:Int) ≤ vI p1 2) (Option.bind a0[Int.toNat (vI p1 2)]? fun y6 => cnd (okI y6 0) (cnd (oVer p1 0 = sVer p1 0 ∧ ((2:Nat) = (2:Nat) ∨ (2:Nat) = (0:Nat)) ∧ (sOff p1 0)
  + (sLen p1 0) ≤ List.length (oEs p1 0) ∧ (sLen p1 0) + (1:Nat) ≤ (1073741824:Nat)) (cnd ((2:Nat) = (2:Nat) ∧ (0:Int) ≤ vI p1 2) (Option.bind a0[Int.toNat (vI p1 2)]? fun y8 => cnd (okI y8 1) (again2
  ([AV.sref (0:Nat) ((sVer p1 0) + (1:Nat)) (0:Nat) ((sLen p1 0) + (1:Nat)), AV.t (tI (gI y8 1)), AV.t (tI (w64 ((vI p1 2) + (1:Int))))], [AObj.row false ((sVer p1 0) + (1:Nat)) (2:Nat) ((List.take
  (sLen p1 0) (List.drop (sOff p1 0) (oEs p1 0))) ++ [[tI (vI p1 1), tI (gI y6 0)]])])) none) none) none) none) none) (cnd ((2:Nat) = (2:Nat) ∧ (0:Int) ≤ vI p1 2) (Option.bind a0[Int.toNat (vI p1 2)]?
  fun y9 => cnd (okI y9 1) (again2 ([AV.sref (0:Nat) (sVer p1 0) (sOff p1 0) (sLen p1 0), AV.t (tI (gI y9 1)), AV.t (tI (w64 ((vI p1 2) + (1:Int))))], [AObj.row false (oVer p1 0) (2:Nat) (oEs p1 0)]))
  none) none)) none) none) (cnd (decide (vI p1 1 < (1152921504606846976:Int)) = true) (cnd (oVer p1 0 = sVer p1 0 ∧ ((2:Nat) = (2:Nat) ∨ (2:Nat) = (0:Nat)) ∧ (sOff p1 0) + (sLen p1 0) ≤ List.length (oEs
  p1 0) ∧ (sLen p1 0) + (1:Nat) ≤ (1073741824:Nat)) (cnd ((false = true ∨ false = false) ∧ (sVer p1 0) + (1:Nat) = (sVer p1 0) + (1:Nat) ∧ ((2:Nat) = (2:Nat) ∨ (2:Nat) = (0:Nat))) (some [Tree.sl (2:Nat)
  (List.take ((sLen p1 0) + (1:Nat)) ((List.take (sLen p1 0) (List.drop (sOff p1 0) (oEs p1 0))) ++ [[tI (vI p1 1), tI (1152921504606846976:Int)]]))]) none) none) (cnd ((false = true ∨ false = false) ∧
  oVer p1 0 = sVer p1 0 ∧ ((2:Nat) = (2:Nat) ∨ (2:Nat) = (0:Nat))) (some [Tree.sl (2:Nat) (List.take (sLen p1 0) (List.drop (sOff p1 0) (oEs p1 0)))]) none))
theorem e96 (n : Nat) (a0 : List (List Tree)) : apure C (n + 1) 96 [Tree.sl (2:Nat) a0] =
  loopIter (fun (p1 : List AV × Heap) (again2 : _ → Option (List Tree)) => L96_1 n a0 p1 again2) n ([AV.sref (0:Nat) (0:Nat) (0:Nat) (0:Nat), AV.t (tI (-1152921504606846976:Int)), AV.t (tI (0:Int))],
  [AObj.row false (0:Nat) (2:Nat) []]) := by kernel_rfl

theorem e97 (n : Nat) (a0 : Int) (a1 : Int) : apure C (n + 1) 97 [tI a0, tI a1] =
  cnd (decide (a0 < a1) = true) (cnd (decide (a0 ≥ (-1152921504606846976:Int)) = true) (some [Tree.bool (decide (a1 ≤ (1152921504606846976:Int)))]) (some [Tree.bool false])) (some [Tree.bool false]) := by kernel_rfl

noncomputable def J1000072_1 (n : Nat) (p9 : List AV × Heap) (a0 : List (List Tree)) (again10 : (List AV × Heap) → Option (List Tree)) (p3 : List AV × Heap) (p11 : List AV × Heap) : Option (List Tree) :=
  cnd (vB p11 0 = true) (cnd ((2:Nat) = (2:Nat) ∧ (0:Int) ≤ vI p9 0) (Option.bind a0[Int.toNat (vI p9 0)]? fun y14 => cnd (okI y14 0) (cnd ((2:Nat) = (2:Nat) ∧ (0:Int) ≤ vI p9 0) (Option.bind
  a0[Int.toNat (vI p9 0)]? fun y15 => cnd (okI y15 1) (again10 ([AV.t (tI (w64 ((vI p9 0) + (1:Int))))], [AObj.box [AV.t (tI (if gI y14 0 < cI p11 0 0 then gI y14 0 else cI p11 0 0)), AV.t (tI (if gI
  y15 1 > cI p11 0 1 then gI y15 1 else cI p11 0 1))], AObj.row false (oVer p11 1) (2:Nat) (oEs p11 1)])) none) none) none) none) (cnd (oVer p11 1 = sVer p3 0 ∧ ((2:Nat) = (2:Nat) ∨ (2:Nat) = (0:Nat)) ∧
  (sOff p3 0) + (sLen p3 0) ≤ List.length (oEs p11 1) ∧ (sLen p3 0) + (1:Nat) ≤ (1073741824:Nat)) (cnd ((0:Int) ≤ vI p9 0 ∧ vI p9 0 ≤ ((List.length a0:Nat):Int)) (cnd (List.length (List.drop (Int.toNat
  (vI p9 0)) (List.take (List.length a0) a0)) = (0:Nat) ∧ (0:Nat) + ((sLen p3 0) + (1:Nat)) < List.length ((List.take (sLen p3 0) (List.drop (sOff p3 0) (oEs p11 1))) ++ [[tI (cI p11 0 0), tI (cI p11 0
  1)]])) (cnd ((sVer p3 0) + (1:Nat) = (sVer p3 0) + (1:Nat)) (cnd ((sVer p3 0) + (1:Nat) = (sVer p3 0) + (1:Nat) ∧ (2:Nat) = (2:Nat)) (some [Tree.sl (2:Nat) (List.take ((sLen p3 0) + (1:Nat))
  ((List.take (sLen p3 0) (List.drop (sOff p3 0) (oEs p11 1))) ++ [[tI (cI p11 0 0), tI (cI p11 0 1)]]))]) none) none) (cnd ((sVer p3 0) + (1:Nat) = (sVer p3 0) + (1:Nat) ∧ ((2:Nat) = (2:Nat) ∨ (2:Nat)
  = (0:Nat)) ∧ (0:Nat) + ((sLen p3 0) + (1:Nat)) ≤ List.length ((List.take (sLen p3 0) (List.drop (sOff p3 0) (oEs p11 1))) ++ [[tI (cI p11 0 0), tI (cI p11 0 1)]]) ∧ ((sLen p3 0) + (1:Nat)) +
  (List.length (List.drop (Int.toNat (vI p9 0)) (List.take (List.length a0) a0))) ≤ (1073741824:Nat)) (cnd (((sVer p3 0) + (1:Nat)) + (1:Nat) = ((sVer p3 0) + (1:Nat)) + (1:Nat) ∧ (2:Nat) = (2:Nat))
  (some [Tree.sl (2:Nat) (List.take (((sLen p3 0) + (1:Nat)) + (List.length (List.drop (Int.toNat (vI p9 0)) (List.take (List.length a0) a0)))) ((List.take ((sLen p3 0) + (1:Nat)) ((List.take (sLen p3
  0) (List.drop (sOff p3 0) (oEs p11 1))) ++ [[tI (cI p11 0 0), tI (cI p11 0 1)]])) ++ (List.drop (Int.toNat (vI p9 0)) (List.take (List.length a0) a0))))]) none) none)) none) none)

noncomputable def L1000072_2 (n : Nat) (a0 : List (List Tree)) (p3 : List AV × Heap) (p9 : List AV × Heap) (again10 : (List AV × Heap) → Option (List Tree)) : Option (List Tree) :=
  join (fun (p11 : List AV × Heap) => J1000072_1 n p9 a0 again10 p3 p11) fun (again12 : _ → Option (List Tree)) => cnd (decide (vI p9 0 < ((List.length a0:Nat):Int)) = true) (cnd ((2:Nat) = (2:Nat) ∧
  (0:Int) ≤ vI p9 0) (Option.bind a0[Int.toNat (vI p9 0)]? fun y13 => cnd (okI y13 0) (again12 ([AV.t (Tree.bool (decide (gI y13 0 ≤ cI p9 0 1)))], [AObj.box [AV.t (tI (cI p9 0 0)), AV.t (tI (cI p9 0
  1))], AObj.row false (oVer p9 1) (2:Nat) (oEs p9 1)])) none) none) (again12 ([AV.t (Tree.bool false)], [AObj.box [AV.t (tI (cI p9 0 0)), AV.t (tI (cI p9 0 1))], AObj.row false (oVer p9 1) (2:Nat) (oEs
  p9 1)]))

noncomputable def J1000072_3 (n : Nat) (p3 : List AV × Heap) (a0 : List (List Tree)) (again4 : (List AV × Heap) → Option (List Tree)) (p5 : List AV × Heap) : Option (List Tree) :=
  cnd (vB p5 0 = true) (cnd ((2:Nat) = (2:Nat) ∧ (0:Int) ≤ vI p3 1) (Option.bind a0[Int.toNat (vI p3 1)]? fun y8 => cnd (okI y8 0) (cnd (okI y8 1) (cnd (oVer p5 1 = sVer p3 0 ∧ ((2:Nat) = (2:Nat) ∨
  (2:Nat) = (0:Nat)) ∧ (sOff p3 0) + (sLen p3 0) ≤ List.length (oEs p5 1) ∧ (sLen p3 0) + (1:Nat) ≤ (1073741824:Nat)) (again4 ([AV.sref (1:Nat) ((sVer p3 0) + (1:Nat)) (0:Nat) ((sLen p3 0) + (1:Nat)),
  AV.t (tI (w64 ((vI p3 1) + (1:Int))))], [AObj.box [AV.t (tI (cI p5 0 0)), AV.t (tI (cI p5 0 1))], AObj.row false ((sVer p3 0) + (1:Nat)) (2:Nat) ((List.take (sLen p3 0) (List.drop (sOff p3 0) (oEs p5
  1))) ++ [[tI (gI y8 0), tI (gI y8 1)]])])) none) none) none) none) (loopIter (fun (p9 : List AV × Heap) (again10 : _ → Option (List Tree)) => L1000072_2 n a0 p3 p9 again10) n ([AV.t (tI (vI p3 1))],
  [AObj.box [AV.t (tI (cI p5 0 0)), AV.t (tI (cI p5 0 1))], AObj.row false (oVer p5 1) (2:Nat) (oEs p5 1)]))

noncomputable def L1000072_4 (n : Nat) (a0 : List (List Tree)) (p3 : List AV × Heap) (again4 : (List AV × Heap) → Option (List Tree)) : Option (List Tree) :=
  join (fun (p5 : List AV × Heap) => J1000072_3 n p3 a0 again4 p5) fun (again6 : _ → Option (List Tree)) => cnd (decide (vI p3 1 < ((List.length a0:Nat):Int)) = true) (cnd ((2:Nat) = (2:Nat) ∧ (0:Int) ≤
  vI p3 1) (Option.bind a0[Int.toNat (vI p3 1)]? fun y7 => cnd (okI y7 1) (again6 ([AV.t (Tree.bool (decide (gI y7 1 < cI p3 0 0)))], [AObj.box [AV.t (tI (cI p3 0 0)), AV.t (tI (cI p3 0 1))], AObj.row
  false (oVer p3 1) (2:Nat) (oEs p3 1)])) none) none) (again6 ([AV.t (Tree.bool false)], [AObj.box [AV.t (tI (cI p3 0 0)), AV.t (tI (cI p3 0 1))], AObj.row false (oVer p3 1) (2:Nat) (oEs p3 1)]))
theorem e1000072 (n : Nat) (a0 : List (List Tree)) (a1 : Int) (a2 : Int) : apure C (n + 1) 1000072 [Tree.sl (2:Nat) a0, tI a1, tI a2] =
  loopIter (fun (p3 : List AV × Heap) (again4 : _ → Option (List Tree)) => L1000072_4 n a0 p3 again4) n ([AV.sref (1:Nat) (0:Nat) (0:Nat) (0:Nat), AV.t (tI (0:Int))], [AObj.box [AV.t (tI a1), AV.t (tI
  a2)], AObj.row false (0:Nat) (2:Nat) []]) := by kernel_rfl

end Ab
