/- A part of the proof: see the last text. -/
import Derived.Test.YtglkblaagdoagaaAbT
import Derived.Test.YtglkblaagdoagaaAgX
set_option maxRecDepth 100000
set_option linter.unusedVariables false
namespace Ab
open Go Go.Proofs

theorem e30 (n : Nat) (a0 : List (List Tree)) (a1 : List (List Tree)) : apure C (n + 1) 30 [Tree.sl (3:Nat) a0, Tree.sl (3:Nat) a1] =
  Option.bind (apure C n (10:Nat) [Tree.sl (3:Nat) a0]) fun y2 => cnd (List.length y2 = (1:Nat)) (cnd (okI y2 0) (cnd ((gI y2 0 != (0:Int)) = true) (some [Tree.sl (3:Nat) [], tI (1:Int)]) (Option.bind
  (apure C n (10:Nat) [Tree.sl (3:Nat) a1]) fun y3 => cnd (List.length y3 = (1:Nat)) (cnd (okI y3 0) (cnd ((gI y3 0 != (0:Int)) = true) (some [Tree.sl (3:Nat) [], tI (1:Int)]) (loopIter (fun (p4 : List
  AV × Heap) (again5 : _ → Option (List Tree)) => cnd (decide (((List.length (cL p4 2 0):Nat):Int) > (0:Int)) = true) (cnd ((((List.length (cL p4 3 0):Nat):Int) == (0:Int)) = true) (Option.bind (cL p4 2
  0)[(0:Nat)]? fun y6 => cnd (okI y6 0) (cnd (okI y6 1) (cnd (okI y6 2) (cnd ((0:Int) ≤ (1:Int) ∧ (1:Int) ≤ ((List.length (cL p4 2 0):Nat):Int)) (cnd (oVer p4 0 = cVer p4 1 0 ∧ ((3:Nat) = (3:Nat) ∨ (3:Nat) = (0:Nat)) ∧ cOff p4 1 0 + cLen
  p4 1 0 = List.length (oEs p4 0) ∧ cLen p4 1 0 + (1:Nat) ≤ (1073741824:Nat)) (again5 ([], [AObj.row false (cVer p4 1 0 + (1:Nat)) (3:Nat) (List.drop (cOff p4 1 0) (oEs p4 0) ++ [[tI (gI y6 0), tI (gI y6 1), tI (gI y6 2)]]),
  AObj.box [AV.sref (0:Nat) (cVer p4 1 0 + (1:Nat)) (0:Nat) (cLen p4 1 0 + (1:Nat))], AObj.box [AV.t (Tree.sl (3:Nat) (List.drop (1:Nat) (List.take (List.length (cL p4 2 0)) (cL p4 2 0))))], AObj.box
  [AV.t (Tree.sl (3:Nat) (cL p4 3 0))], AObj.box []])) none) none) none) none) none) (cnd ((((List.length (cL p4 2 0):Nat):Int) == (0:Int)) = true) (Option.bind (cL p4 3 0)[(0:Nat)]? fun y7 => cnd (okI
  y7 0) (cnd (okI y7 1) (cnd (okI y7 2) (cnd ((0:Int) ≤ (1:Int) ∧ (1:Int) ≤ ((List.length (cL p4 3 0):Nat):Int)) (cnd (oVer p4 0 = cVer p4 1 0 ∧ ((3:Nat) = (3:Nat) ∨ (3:Nat) = (0:Nat)) ∧ cOff p4 1 0 + cLen p4 1 0 = List.length
  (oEs p4 0) ∧ cLen p4 1 0 + (1:Nat) ≤ (1073741824:Nat)) (again5 ([], [AObj.row false (cVer p4 1 0 + (1:Nat)) (3:Nat) (List.drop (cOff p4 1 0) (oEs p4 0) ++ [[tI (gI y7 0), tI (gI y7 1), tI (gI y7 2)]]), AObj.box [AV.sref (0:Nat)
  (cVer p4 1 0 + (1:Nat)) (0:Nat) (cLen p4 1 0 + (1:Nat))], AObj.box [AV.t (Tree.sl (3:Nat) (cL p4 2 0))], AObj.box [AV.t (Tree.sl (3:Nat) (List.drop (1:Nat) (List.take (List.length (cL p4 3 0)) (cL p4
  3 0))))], AObj.box []])) none) none) none) none) none) (Option.bind (cL p4 2 0)[(0:Nat)]? fun y8 => cnd (okI y8 0) (cnd (okI y8 1) (cnd (okI y8 2) (Option.bind (cL p4 3 0)[(0:Nat)]? fun y9 => cnd (okI
  y9 0) (cnd (okI y9 1) (cnd (okI y9 2) (Option.bind (apure C n (36:Nat) [tI (gI y8 0), tI (gI y8 1), tI (gI y8 2), tI (gI y9 0), tI (gI y9 1), tI (gI y9 2)]) fun y10 => cnd (List.length y10 = (1:Nat))
  (cnd (okI y10 0) (cnd (decide (gI y10 0 ≤ (0:Int)) = true) (Option.bind (cL p4 2 0)[(0:Nat)]? fun y11 => cnd (okI y11 0) (cnd (okI y11 1) (cnd (okI y11 2) (cnd ((0:Int) ≤ (1:Int) ∧ (1:Int) ≤
  ((List.length (cL p4 2 0):Nat):Int)) (cnd ((gI y10 0 == (0:Int)) = true) (cnd ((0:Int) ≤ (1:Int) ∧ (1:Int) ≤ ((List.length (cL p4 3 0):Nat):Int)) (cnd (decide (gI y10 0 > (0:Int)) = true) (Option.bind
  (List.drop (1:Nat) (List.take (List.length (cL p4 3 0)) (cL p4 3 0)))[(0:Nat)]? fun y12 => cnd (okI y12 0) (cnd (okI y12 1) (cnd (okI y12 2) (cnd ((0:Int) ≤ (1:Int) ∧ (1:Int) ≤ ((List.length
  (List.drop (1:Nat) (List.take (List.length (cL p4 3 0)) (cL p4 3 0))):Nat):Int)) (cnd (oVer p4 0 = cVer p4 1 0 ∧ ((3:Nat) = (3:Nat) ∨ (3:Nat) = (0:Nat)) ∧ cOff p4 1 0 + cLen p4 1 0 = List.length (oEs p4 0) ∧ cLen p4 1 0 +
  (1:Nat) ≤ (1073741824:Nat)) (again5 ([], [AObj.row false (cVer p4 1 0 + (1:Nat)) (3:Nat) (List.drop (cOff p4 1 0) (oEs p4 0) ++ [[tI (gI y12 0), tI (gI y12 1), tI (gI y12 2)]]), AObj.box [AV.sref (0:Nat) (cVer p4 1 0 +
  (1:Nat)) (0:Nat) (cLen p4 1 0 + (1:Nat))], AObj.box [AV.t (Tree.sl (3:Nat) (List.drop (1:Nat) (List.take (List.length (cL p4 2 0)) (cL p4 2 0))))], AObj.box [AV.t (Tree.sl (3:Nat) (List.drop (1:Nat)
  (List.take (List.length (List.drop (1:Nat) (List.take (List.length (cL p4 3 0)) (cL p4 3 0)))) (List.drop (1:Nat) (List.take (List.length (cL p4 3 0)) (cL p4 3 0))))))], AObj.box []])) none) none)
  none) none) none) (cnd (oVer p4 0 = cVer p4 1 0 ∧ ((3:Nat) = (3:Nat) ∨ (3:Nat) = (0:Nat)) ∧ cOff p4 1 0 + cLen p4 1 0 = List.length (oEs p4 0) ∧ cLen p4 1 0 + (1:Nat) ≤ (1073741824:Nat)) (again5 ([], [AObj.row false (cVer p4 1 0 +
  (1:Nat)) (3:Nat) (List.drop
  (cOff p4 1 0) (oEs p4 0) ++ [[tI (gI y11 0), tI (gI y11 1), tI (gI y11 2)]]), AObj.box [AV.sref (0:Nat) (cVer p4 1 0 + (1:Nat)) (0:Nat) (cLen p4 1 0 + (1:Nat))], AObj.box [AV.t (Tree.sl (3:Nat)
  (List.drop (1:Nat) (List.take (List.length (cL p4 2 0)) (cL p4 2 0))))], AObj.box [AV.t (Tree.sl (3:Nat) (List.drop (1:Nat) (List.take (List.length (cL p4 3 0)) (cL p4 3 0))))], AObj.box []])) none))
  none) (cnd (decide (gI y10 0 > (0:Int)) = true) (Option.bind (cL p4 3 0)[(0:Nat)]? fun y13 => cnd (okI y13 0) (cnd (okI y13 1) (cnd (okI y13 2) (cnd ((0:Int) ≤ (1:Int) ∧ (1:Int) ≤ ((List.length (cL p4
  3 0):Nat):Int)) (cnd (oVer p4 0 = cVer p4 1 0 ∧ ((3:Nat) = (3:Nat) ∨ (3:Nat) = (0:Nat)) ∧ cOff p4 1 0 + cLen p4 1 0 = List.length (oEs p4 0) ∧ cLen p4 1 0 + (1:Nat) ≤ (1073741824:Nat)) (again5 ([], [AObj.row false (cVer p4 1 0 +
  (1:Nat)) (3:Nat) (List.drop
  (cOff p4 1 0) (oEs p4 0) ++ [[tI (gI y13 0), tI (gI y13 1), tI (gI y13 2)]]), AObj.box [AV.sref (0:Nat) (cVer p4 1 0 + (1:Nat)) (0:Nat) (cLen p4 1 0 + (1:Nat))], AObj.box [AV.t (Tree.sl (3:Nat)
  (List.drop (1:Nat) (List.take (List.length (cL p4 2 0)) (cL p4 2 0))))], AObj.box [AV.t (Tree.sl (3:Nat) (List.drop (1:Nat) (List.take (List.length (cL p4 3 0)) (cL p4 3 0))))], AObj.box []])) none)
  none) none) none) none) (cnd (oVer p4 0 = cVer p4 1 0 ∧ ((3:Nat) = (3:Nat) ∨ (3:Nat) = (0:Nat)) ∧ cOff p4 1 0 + cLen p4 1 0 = List.length (oEs p4 0) ∧ cLen p4 1 0 + (1:Nat) ≤ (1073741824:Nat)) (again5 ([], [AObj.row false
  (cVer p4 1 0 + (1:Nat)) (3:Nat) (List.drop (cOff p4 1 0) (oEs p4 0) ++ [[tI (gI y11 0), tI (gI y11 1), tI (gI y11 2)]]), AObj.box [AV.sref (0:Nat) (cVer p4 1 0 + (1:Nat)) (0:Nat) (cLen p4 1 0 + (1:Nat))], AObj.box [AV.t
  (Tree.sl (3:Nat) (List.drop (1:Nat) (List.take (List.length (cL p4 2 0)) (cL p4 2 0))))], AObj.box [AV.t (Tree.sl (3:Nat) (cL p4 3 0))], AObj.box []])) none))) none) none) none) none) (cnd ((gI y10 0
  == (0:Int)) = true) (cnd ((0:Int) ≤ (1:Int) ∧ (1:Int) ≤ ((List.length (cL p4 3 0):Nat):Int)) (cnd (decide (gI y10 0 > (0:Int)) = true) (Option.bind (List.drop (1:Nat) (List.take (List.length (cL p4 3
  0)) (cL p4 3 0)))[(0:Nat)]? fun y14 => cnd (okI y14 0) (cnd (okI y14 1) (cnd (okI y14 2) (cnd ((0:Int) ≤ (1:Int) ∧ (1:Int) ≤ ((List.length (List.drop (1:Nat) (List.take (List.length (cL p4 3 0)) (cL
  p4 3 0))):Nat):Int)) (cnd (oVer p4 0 = cVer p4 1 0 ∧ ((3:Nat) = (3:Nat) ∨ (3:Nat) = (0:Nat)) ∧ cOff p4 1 0 + cLen p4 1 0 = List.length (oEs p4 0) ∧ cLen p4 1 0 + (1:Nat) ≤ (1073741824:Nat)) (again5 ([], [AObj.row false
  (cVer p4 1 0 + (1:Nat)) (3:Nat) (List.drop (cOff p4 1 0) (oEs p4 0) ++ [[tI (gI y14 0), tI (gI y14 1), tI (gI y14 2)]]), AObj.box [AV.sref (0:Nat) (cVer p4 1 0 + (1:Nat)) (0:Nat) (cLen p4 1 0 + (1:Nat))], AObj.box [AV.t
  (Tree.sl (3:Nat) (cL p4 2 0))], AObj.box [AV.t (Tree.sl (3:Nat) (List.drop (1:Nat) (List.take (List.length (List.drop (1:Nat) (List.take (List.length (cL p4 3 0)) (cL p4 3 0)))) (List.drop (1:Nat)
  (List.take (List.length (cL p4 3 0)) (cL p4 3 0))))))], AObj.box []])) none) none) none) none) none) (cnd (oVer p4 0 = cVer p4 1 0 ∧ ((3:Nat) = (3:Nat) ∨ (3:Nat) = (0:Nat)) ∧ cOff p4 1 0 + cLen p4 1 0 = List.length
  (oEs p4 0) ∧ cLen p4 1 0 + (1:Nat) ≤ (1073741824:Nat)) (again5 ([], [AObj.row false (cVer p4 1 0 + (1:Nat)) (3:Nat) (List.drop (cOff p4 1 0) (oEs p4 0) ++ [[tI (0:Int), tI (0:Int), tI (0:Int)]]), AObj.box [AV.sref (0:Nat) (cVer p4
  1 0 + (1:Nat)) (0:Nat) (cLen p4 1 0 + (1:Nat))], AObj.box [AV.t (Tree.sl (3:Nat) (cL p4 2 0))], AObj.box [AV.t (Tree.sl (3:Nat) (List.drop (1:Nat) (List.take (List.length (cL p4 3 0)) (cL p4 3 0))))],
  AObj.box []])) none)) none) (cnd (decide (gI y10 0 > (0:Int)) = true) (Option.bind (cL p4 3 0)[(0:Nat)]? fun y15 => cnd (okI y15 0) (cnd (okI y15 1) (cnd (okI y15 2) (cnd ((0:Int) ≤ (1:Int) ∧ (1:Int)
  ≤ ((List.length (cL p4 3 0):Nat):Int)) (cnd (oVer p4 0 = cVer p4 1 0 ∧ ((3:Nat) = (3:Nat) ∨ (3:Nat) = (0:Nat)) ∧ cOff p4 1 0 + cLen p4 1 0 = List.length (oEs p4 0) ∧ cLen p4 1 0 + (1:Nat) ≤ (1073741824:Nat)) (again5 ([],
  [AObj.row false (cVer p4 1 0 + (1:Nat)) (3:Nat) (List.drop (cOff p4 1 0) (oEs p4 0) ++ [[tI (gI y15 0), tI (gI y15 1), tI (gI y15 2)]]), AObj.box [AV.sref (0:Nat) (cVer p4 1 0 + (1:Nat)) (0:Nat) (cLen p4 1 0 + (1:Nat))], AObj.box
  [AV.t (Tree.sl (3:Nat) (cL p4 2 0))], AObj.box [AV.t (Tree.sl (3:Nat) (List.drop (1:Nat) (List.take (List.length (cL p4 3 0)) (cL p4 3 0))))], AObj.box []])) none) none) none) none) none) (cnd (oVer
  p4 0 = cVer p4 1 0 ∧ ((3:Nat) = (3:Nat) ∨ (3:Nat) = (0:Nat)) ∧ cOff p4 1 0 + cLen p4 1 0 = List.length (oEs p4 0) ∧ cLen p4 1 0 + (1:Nat) ≤ (1073741824:Nat)) (again5 ([], [AObj.row false (cVer p4 1 0 + (1:Nat)) (3:Nat) (List.drop (cOff p4 1 0) (oEs p4 0) ++ [[tI
  (0:Int), tI (0:Int), tI (0:Int)]]), AObj.box [AV.sref (0:Nat) (cVer p4 1 0 + (1:Nat)) (0:Nat) (cLen p4 1 0 + (1:Nat))], AObj.box [AV.t (Tree.sl (3:Nat) (cL p4 2 0))], AObj.box [AV.t (Tree.sl (3:Nat)
  (cL p4 3 0))], AObj.box []])) none)))) none) none) none) none) none) none) none) none))) (cnd (decide (((List.length (cL p4 3 0):Nat):Int) > (0:Int)) = true) (cnd ((((List.length (cL p4 3 0):Nat):Int)
  == (0:Int)) = true) (Option.bind (cL p4 2 0)[(0:Nat)]? fun y16 => cnd (okI y16 0) (cnd (okI y16 1) (cnd (okI y16 2) (cnd ((0:Int) ≤ (1:Int) ∧ (1:Int) ≤ ((List.length (cL p4 2 0):Nat):Int)) (cnd (oVer
  p4 0 = cVer p4 1 0 ∧ ((3:Nat) = (3:Nat) ∨ (3:Nat) = (0:Nat)) ∧ cOff p4 1 0 + cLen p4 1 0 = List.length (oEs p4 0) ∧ cLen p4 1 0 + (1:Nat) ≤ (1073741824:Nat)) (again5 ([], [AObj.row false (cVer p4 1 0 + (1:Nat)) (3:Nat) (List.drop (cOff p4 1 0) (oEs p4 0) ++ [[tI (gI
  y16 0), tI (gI y16 1), tI (gI y16 2)]]), AObj.box [AV.sref (0:Nat) (cVer p4 1 0 + (1:Nat)) (0:Nat) (cLen p4 1 0 + (1:Nat))], AObj.box [AV.t (Tree.sl (3:Nat) (List.drop (1:Nat) (List.take (List.length
  (cL p4 2 0)) (cL p4 2 0))))], AObj.box [AV.t (Tree.sl (3:Nat) (cL p4 3 0))], AObj.box []])) none) none) none) none) none) (cnd ((((List.length (cL p4 2 0):Nat):Int) == (0:Int)) = true) (Option.bind
  (cL p4 3 0)[(0:Nat)]? fun y17 => cnd (okI y17 0) (cnd (okI y17 1) (cnd (okI y17 2) (cnd ((0:Int) ≤ (1:Int) ∧ (1:Int) ≤ ((List.length (cL p4 3 0):Nat):Int)) (cnd (oVer p4 0 = cVer p4 1 0 ∧ ((3:Nat) =
  (3:Nat) ∨ (3:Nat) = (0:Nat)) ∧
  cOff p4 1 0 + cLen p4 1 0 = List.length (oEs p4 0) ∧ cLen p4 1 0 + (1:Nat) ≤ (1073741824:Nat)) (again5 ([], [AObj.row false (cVer p4 1 0 + (1:Nat)) (3:Nat) (List.drop (cOff p4 1 0) (oEs p4 0) ++ [[tI (gI y17 0), tI (gI
  y17 1), tI (gI y17 2)]]), AObj.box [AV.sref (0:Nat) (cVer p4 1 0 + (1:Nat)) (0:Nat) (cLen p4 1 0 + (1:Nat))], AObj.box [AV.t (Tree.sl (3:Nat) (cL p4 2 0))], AObj.box [AV.t (Tree.sl (3:Nat) (List.drop
  (1:Nat) (List.take (List.length (cL p4 3 0)) (cL p4 3 0))))], AObj.box []])) none) none) none) none) none) (Option.bind (cL p4 2 0)[(0:Nat)]? fun y18 => cnd (okI y18 0) (cnd (okI y18 1) (cnd (okI y18
  2) (Option.bind (cL p4 3 0)[(0:Nat)]? fun y19 => cnd (okI y19 0) (cnd (okI y19 1) (cnd (okI y19 2) (Option.bind (apure C n (36:Nat) [tI (gI y18 0), tI (gI y18 1), tI (gI y18 2), tI (gI y19 0), tI (gI
  y19 1), tI (gI y19 2)]) fun y20 => cnd (List.length y20 = (1:Nat)) (cnd (okI y20 0) (cnd (decide (gI y20 0 ≤ (0:Int)) = true) (Option.bind (cL p4 2 0)[(0:Nat)]? fun y21 => cnd (okI y21 0) (cnd (okI
  y21 1) (cnd (okI y21 2) (cnd ((0:Int) ≤ (1:Int) ∧ (1:Int) ≤ ((List.length (cL p4 2 0):Nat):Int)) (cnd ((gI y20 0 == (0:Int)) = true) (cnd ((0:Int) ≤ (1:Int) ∧ (1:Int) ≤ ((List.length (cL p4 3
  0):Nat):Int)) (cnd (decide (gI y20 0 > (0:Int)) = true) (Option.bind (List.drop (1:Nat) (List.take (List.length (cL p4 3 0)) (cL p4 3 0)))[(0:Nat)]? fun y22 => cnd (okI y22 0) (cnd (okI y22 1) (cnd
  (okI y22 2) (cnd ((0:Int) ≤ (1:Int) ∧ (1:Int) ≤ ((List.length (List.drop (1:Nat) (List.take (List.length (cL p4 3 0)) (cL p4 3 0))):Nat):Int)) (cnd (oVer p4 0 = cVer p4 1 0 ∧ ((3:Nat) = (3:Nat) ∨ (3:Nat) = (0:Nat)) ∧ cOff p4 1 0 + cLen
  p4 1 0 = List.length (oEs p4 0) ∧ cLen p4 1 0 + (1:Nat) ≤ (1073741824:Nat)) (again5 ([], [AObj.row false (cVer p4 1 0 + (1:Nat)) (3:Nat) (List.drop (cOff p4 1 0) (oEs p4 0) ++ [[tI (gI y22 0), tI (gI y22 1), tI (gI y22 2)]]),
  AObj.box [AV.sref (0:Nat) (cVer p4 1 0 + (1:Nat)) (0:Nat) (cLen p4 1 0 + (1:Nat))], AObj.box [AV.t (Tree.sl (3:Nat) (List.drop (1:Nat) (List.take (List.length (cL p4 2 0)) (cL p4 2 0))))], AObj.box
  [AV.t (Tree.sl (3:Nat) (List.drop (1:Nat) (List.take (List.length (List.drop (1:Nat) (List.take (List.length (cL p4 3 0)) (cL p4 3 0)))) (List.drop (1:Nat) (List.take (List.length (cL p4 3 0)) (cL p4
  3 0))))))], AObj.box []])) none) none) none) none) none) (cnd (oVer p4 0 = cVer p4 1 0 ∧ ((3:Nat) = (3:Nat) ∨ (3:Nat) = (0:Nat)) ∧ cOff p4 1 0 + cLen p4 1 0 = List.length (oEs p4 0) ∧ cLen p4 1 0 + (1:Nat) ≤ (1073741824:Nat)) (again5
  ([], [AObj.row false (cVer p4 1 0 + (1:Nat)) (3:Nat) (List.drop (cOff p4 1 0) (oEs p4 0) ++ [[tI (gI y21 0), tI (gI y21 1), tI (gI y21 2)]]), AObj.box [AV.sref (0:Nat) (cVer p4 1 0 + (1:Nat)) (0:Nat) (cLen p4 1 0 + (1:Nat))],
  AObj.box [AV.t (Tree.sl (3:Nat) (List.drop (1:Nat) (List.take (List.length (cL p4 2 0)) (cL p4 2 0))))], AObj.box [AV.t (Tree.sl (3:Nat) (List.drop (1:Nat) (List.take (List.length (cL p4 3 0)) (cL p4
  3 0))))], AObj.box []])) none)) none) (cnd (decide (gI y20 0 > (0:Int)) = true) (Option.bind (cL p4 3 0)[(0:Nat)]? fun y23 => cnd (okI y23 0) (cnd (okI y23 1) (cnd (okI y23 2) (cnd ((0:Int) ≤ (1:Int)
  ∧ (1:Int) ≤ ((List.length (cL p4 3 0):Nat):Int)) (cnd (oVer p4 0 = cVer p4 1 0 ∧ ((3:Nat) = (3:Nat) ∨ (3:Nat) = (0:Nat)) ∧ cOff p4 1 0 + cLen p4 1 0 = List.length (oEs p4 0) ∧ cLen p4 1 0 + (1:Nat) ≤ (1073741824:Nat)) (again5
  ([], [AObj.row false (cVer p4 1 0 + (1:Nat)) (3:Nat) (List.drop (cOff p4 1 0) (oEs p4 0) ++ [[tI (gI y23 0), tI (gI y23 1), tI (gI y23 2)]]), AObj.box [AV.sref (0:Nat) (cVer p4 1 0 + (1:Nat)) (0:Nat) (cLen p4 1 0 + (1:Nat))],
  AObj.box [AV.t (Tree.sl (3:Nat) (List.drop (1:Nat) (List.take (List.length (cL p4 2 0)) (cL p4 2 0))))], AObj.box [AV.t (Tree.sl (3:Nat) (List.drop (1:Nat) (List.take (List.length (cL p4 3 0)) (cL p4
  3 0))))], AObj.box []])) none) none) none) none) none) (cnd (oVer p4 0 = cVer p4 1 0 ∧ ((3:Nat) = (3:Nat) ∨ (3:Nat) = (0:Nat)) ∧ cOff p4 1 0 + cLen p4 1 0 = List.length (oEs p4 0) ∧ cLen p4 1 0 + (1:Nat) ≤ (1073741824:Nat)) (again5
  ([], [AObj.row false (cVer p4 1 0 + (1:Nat)) (3:Nat) (List.drop (cOff p4 1 0) (oEs p4 0) ++ [[tI (gI y21 0), tI (gI y21 1), tI (gI y21 2)]]), AObj.box [AV.sref (0:Nat) (cVer p4 1 0 + (1:Nat)) (0:Nat) (cLen p4 1 0 + (1:Nat))],
  AObj.box [AV.t (Tree.sl (3:Nat) (List.drop (1:Nat) (List.take (List.length (cL p4 2 0)) (cL p4 2 0))))], AObj.box [AV.t (Tree.sl (3:Nat) (cL p4 3 0))], AObj.box []])) none))) none) none) none) none)
  (cnd ((gI y20 0 == (0:Int)) = true) (cnd ((0:Int) ≤ (1:Int) ∧ (1:Int) ≤ ((List.length (cL p4 3 0):Nat):Int)) (cnd (decide (gI y20 0 > (0:Int)) = true) (Option.bind (List.drop (1:Nat) (List.take
  (List.length (cL p4 3 0)) (cL p4 3 0)))[(0:Nat)]? fun y24 => cnd (okI y24 0) (cnd (okI y24 1) (cnd (okI y24 2) (cnd ((0:Int) ≤ (1:Int) ∧ (1:Int) ≤ ((List.length (List.drop (1:Nat) (List.take
  (List.length (cL p4 3 0)) (cL p4 3 0))):Nat):Int)) (cnd (oVer p4 0 = cVer p4 1 0 ∧ ((3:Nat) = (3:Nat) ∨ (3:Nat) = (0:Nat)) ∧ cOff p4 1 0 + cLen p4 1 0 = List.length (oEs p4 0) ∧ cLen p4 1 0 + (1:Nat) ≤ (1073741824:Nat)) (again5
  ([], [AObj.row false (cVer p4 1 0 + (1:Nat)) (3:Nat) (List.drop (cOff p4 1 0) (oEs p4 0) ++ [[tI (gI y24 0), tI (gI y24 1), tI (gI y24 2)]]), AObj.box [AV.sref (0:Nat) (cVer p4 1 0 + (1:Nat)) (0:Nat) (cLen p4 1 0 + (1:Nat))],
  AObj.box [AV.t (Tree.sl (3:Nat) (cL p4 2 0))], AObj.box [AV.t (Tree.sl (3:Nat) (List.drop (1:Nat) (List.take (List.length (List.drop (1:Nat) (List.take (List.length (cL p4 3 0)) (cL p4 3 0))))
  (List.drop (1:Nat) (List.take (List.length (cL p4 3 0)) (cL p4 3 0))))))], AObj.box []])) none) none) none) none) none) (cnd (oVer p4 0 = cVer p4 1 0 ∧ ((3:Nat) = (3:Nat) ∨ (3:Nat) = (0:Nat)) ∧ cOff p4 1 0 + cLen p4 1 0 =
  List.length (oEs p4 0) ∧ cLen p4 1 0 + (1:Nat) ≤ (1073741824:Nat)) (again5 ([], [AObj.row false (cVer p4 1 0 + (1:Nat)) (3:Nat) (List.drop (cOff p4 1 0) (oEs p4 0) ++ [[tI (0:Int), tI (0:Int), tI (0:Int)]]), AObj.box
  [AV.sref (0:Nat) (cVer p4 1 0 + (1:Nat)) (0:Nat) (cLen p4 1 0 + (1:Nat))], AObj.box [AV.t (Tree.sl (3:Nat) (cL p4 2 0))], AObj.box [AV.t (Tree.sl (3:Nat) (List.drop (1:Nat) (List.take (List.length (cL
  p4 3 0)) (cL p4 3 0))))], AObj.box []])) none)) none) (cnd (decide (gI y20 0 > (0:Int)) = true) (Option.bind (cL p4 3 0)[(0:Nat)]? fun y25 => cnd (okI y25 0) (cnd (okI y25 1) (cnd (okI y25 2) (cnd
  ((0:Int) ≤ (1:Int) ∧ (1:Int) ≤ ((List.length (cL p4 3 0):Nat):Int)) (cnd (oVer p4 0 = cVer p4 1 0 ∧ ((3:Nat) = (3:Nat) ∨ (3:Nat) = (0:Nat)) ∧ cOff p4 1 0 + cLen p4 1 0 = List.length (oEs p4 0) ∧ cLen p4 1 0 + (1:Nat) ≤
  (1073741824:Nat)) (again5 ([], [AObj.row false (cVer p4 1 0 + (1:Nat)) (3:Nat) (List.drop (cOff p4 1 0) (oEs p4 0) ++ [[tI (gI y25 0), tI (gI y25 1), tI (gI y25 2)]]), AObj.box [AV.sref (0:Nat) (cVer p4 1 0 + (1:Nat)) (0:Nat)
  (cLen p4 1 0 + (1:Nat))], AObj.box [AV.t (Tree.sl (3:Nat) (cL p4 2 0))], AObj.box [AV.t (Tree.sl (3:Nat) (List.drop (1:Nat) (List.take (List.length (cL p4 3 0)) (cL p4 3 0))))], AObj.box []])) none)
  none) none) none) none) (cnd (oVer p4 0 = cVer p4 1 0 ∧ ((3:Nat) = (3:Nat) ∨ (3:Nat) = (0:Nat)) ∧ cOff p4 1 0 + cLen p4 1 0 = List.length (oEs p4 0) ∧ cLen p4 1 0 + (1:Nat) ≤ (1073741824:Nat)) (again5 ([], [AObj.row false
  (cVer p4 1 0 + (1:Nat)) (3:Nat) (List.drop (cOff p4 1 0) (oEs p4 0) ++ [[tI (0:Int), tI (0:Int), tI (0:Int)]]), AObj.box [AV.sref (0:Nat) (cVer p4 1 0 + (1:Nat)) (0:Nat) (cLen p4 1 0 + (1:Nat))], AObj.box [AV.t (Tree.sl
  (3:Nat) (cL p4 2 0))], AObj.box [AV.t (Tree.sl (3:Nat) (cL p4 3 0))], AObj.box []])) none)))) none) none) none) none) none) none) none) none))) (cnd (oVer p4 0 = cVer p4 1 0) (cnd (decide (((cLen p4 1
  0:Nat):Int) > (1000:Int)) = true) (some [Tree.sl (3:Nat) [], tI (4:Int)]) (cnd ((false = true ∨ false = false) ∧ oVer p4 0 = cVer p4 1 0 ∧ ((3:Nat) = (3:Nat) ∨ (3:Nat) = (0:Nat))) (some [Tree.sl
  (3:Nat) (List.take (cLen p4 1 0) (List.drop (cOff p4 1 0) (oEs p4 0))), tI (0:Int)]) none)) none))) n ([], [AObj.row false (0:Nat) (3:Nat) [], AObj.box [AV.sref (0:Nat) (0:Nat) (0:Nat) (0:Nat)],
  AObj.box [AV.t (Tree.sl (3:Nat) a0)], AObj.box [AV.t (Tree.sl (3:Nat) a1)], AObj.box []]))) none) none)) none) none := by kernel_rfl

end Ab
