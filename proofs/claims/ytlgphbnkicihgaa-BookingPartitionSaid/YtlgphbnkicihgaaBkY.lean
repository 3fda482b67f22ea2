/- A part of the proof: see the last text. -/
import Derived.Test.YtlgphbnkicihgaaAbT
import Derived.Test.YtlgphbnkicihgaaAbX
set_option maxRecDepth 100000
set_option linter.unusedVariables false
namespace Ab
open Go Go.Proofs

theorem e4 (n : Nat) (a0 : List (List Tree)) (a1 : List (List Tree)) (a2 : List (List Tree)) (a3 : Int) : apure C (n + 1) 4 [Tree.sl (1:Nat) a0, Tree.sl (7:Nat) a1, Tree.sl (4:Nat) a2, tI a3] =
  Option.bind (apure C n (11:Nat) [Tree.sl (1:Nat) a0, Tree.sl (7:Nat) a1, Tree.sl (4:Nat) a2]) fun y4 => cnd (List.length y4 = (1:Nat)) (cnd (okB y4 0) (cnd (gB y4 0 = true) (Option.bind (apure C n
  (12:Nat) []) fun y5 => cnd (List.length y5 = (1:Nat)) (cnd (okB y5 0) (some [Tree.bool (gB y5 0)]) none) none) (Option.bind (apure C n (15:Nat) [Tree.sl (1:Nat) a0, Tree.sl (7:Nat) a1, Tree.sl (4:Nat)
  a2, tI a3]) fun y6 => cnd (List.length y6 = (2:Nat)) (cnd (okL 2 y6 0) (cnd (okI y6 1) (Option.bind (apure C n (16:Nat) [Tree.sl (1:Nat) a0, Tree.sl (7:Nat) a1, Tree.sl (4:Nat) a2, tI a3]) fun y7 =>
  cnd (List.length y7 = (2:Nat)) (cnd (okL 2 y7 0) (cnd (okI y7 1) (Option.bind (apure C n (17:Nat) [Tree.sl (1:Nat) a0, Tree.sl (7:Nat) a1, Tree.sl (4:Nat) a2, tI a3]) fun y8 => cnd (List.length y8 =
  (2:Nat)) (cnd (okI y8 0) (cnd (okI y8 1) (Option.bind (apure C n (18:Nat) [Tree.sl (1:Nat) a0, Tree.sl (7:Nat) a1, Tree.sl (4:Nat) a2, tI a3]) fun y9 => cnd (List.length y9 = (2:Nat)) (cnd (okI y9 0)
  (cnd (okI y9 1) (Option.bind (apure C n (19:Nat) [Tree.sl (1:Nat) a0, Tree.sl (7:Nat) a1, Tree.sl (4:Nat) a2]) fun y10 => cnd (List.length y10 = (1:Nat)) (cnd (okI y10 0) (Option.bind (apure C n
  (20:Nat) [Tree.sl (1:Nat) a0, Tree.sl (7:Nat) a1, Tree.sl (4:Nat) a2]) fun y11 => cnd (List.length y11 = (1:Nat)) (cnd (okI y11 0) (cnd ((gI y10 0 == gI y11 0) = true) (Option.bind (apure C n (22:Nat)
  [Tree.sl (4:Nat) a2, tI a3]) fun y12 => cnd (List.length y12 = (1:Nat)) (cnd (okL 2 y12 0) (Option.bind (apure C n (23:Nat) [Tree.sl (4:Nat) a2, tI a3]) fun y13 => cnd (List.length y13 = (1:Nat)) (cnd
  (okL 2 y13 0) (Option.bind (apure C n (21:Nat) [Tree.sl (2:Nat) (gL y12 0), Tree.sl (2:Nat) (gL y13 0)]) fun y14 => cnd (List.length y14 = (1:Nat)) (cnd (okB y14 0) (cnd (gB y14 0 = true) (Option.bind
  (apure C n (21:Nat) [Tree.sl (2:Nat) (gL y6 0), Tree.sl (2:Nat) (gL y7 0)]) fun y15 => cnd (List.length y15 = (1:Nat)) (cnd (okB y15 0) (cnd (gB y15 0 = true) (cnd ((gI y6 1 == gI y7 1) = true) (cnd
  ((gI y8 0 == gI y9 0) = true) (cnd ((gI y8 1 == gI y9 1) = true) (Option.bind (apure C n (12:Nat) []) fun y16 => cnd (List.length y16 = (1:Nat)) (cnd (okB y16 0) (some [Tree.bool (gB y16 0)]) none)
  none) (some [Tree.bool false])) (some [Tree.bool false])) (some [Tree.bool false])) (some [Tree.bool false])) none) none) (some [Tree.bool false])) none) none) none) none) none) none) (some [Tree.bool
  false])) none) none) none) none) none) none) none) none) none) none) none) none) none) none) none) none)) none) none := by kernel_rfl

theorem e5 (n : Nat) (a0 : List (List Tree)) (a1 : List (List Tree)) (a2 : List (List Tree)) (a3 : Int) : apure C (n + 1) 5 [Tree.sl (1:Nat) a0, Tree.sl (7:Nat) a1, Tree.sl (4:Nat) a2, tI a3] =
  Option.bind (apure C n (11:Nat) [Tree.sl (1:Nat) a0, Tree.sl (7:Nat) a1, Tree.sl (4:Nat) a2]) fun y4 => cnd (List.length y4 = (1:Nat)) (cnd (okB y4 0) (cnd (gB y4 0 = true) (Option.bind (apure C n
  (12:Nat) []) fun y5 => cnd (List.length y5 = (1:Nat)) (cnd (okB y5 0) (some [Tree.bool (gB y5 0)]) none) none) (Option.bind (apure C n (15:Nat) [Tree.sl (1:Nat) a0, Tree.sl (7:Nat) a1, Tree.sl (4:Nat)
  a2, tI a3]) fun y6 => cnd (List.length y6 = (2:Nat)) (cnd (okL 2 y6 0) (cnd (okI y6 1) (Option.bind (apure C n (17:Nat) [Tree.sl (1:Nat) a0, Tree.sl (7:Nat) a1, Tree.sl (4:Nat) a2, tI a3]) fun y7 =>
  cnd (List.length y7 = (2:Nat)) (cnd (okI y7 0) (cnd (okI y7 1) (cnd ((gI y6 1 != (0:Int)) = true) (cnd ((gI y6 1 == gI y7 1) = true) (cnd ((((List.length (gL y6 0):Nat):Int) == (0:Int)) = true) (cnd
  ((gI y7 0 == (0:Int)) = true) (Option.bind (apure C n (12:Nat) []) fun y8 => cnd (List.length y8 = (1:Nat)) (cnd (okB y8 0) (some [Tree.bool (gB y8 0)]) none) none) (some [Tree.bool false])) (some
  [Tree.bool false])) (some [Tree.bool false])) (cnd ((gI y7 1 != (0:Int)) = true) (cnd ((gI y6 1 == gI y7 1) = true) (cnd ((((List.length (gL y6 0):Nat):Int) == (0:Int)) = true) (cnd ((gI y7 0 ==
  (0:Int)) = true) (Option.bind (apure C n (12:Nat) []) fun y9 => cnd (List.length y9 = (1:Nat)) (cnd (okB y9 0) (some [Tree.bool (gB y9 0)]) none) none) (some [Tree.bool false])) (some [Tree.bool
  false])) (some [Tree.bool false])) (cnd (decide (a3 < (0:Int)) = true) (some [Tree.bool false]) (cnd (decide (a3 ≥ ((List.length a1:Nat):Int)) = true) (some [Tree.bool false]) (cnd ((7:Nat) = (7:Nat)
  ∧ (0:Int) ≤ a3) (Option.bind a1[Int.toNat a3]? fun y10 => cnd (okI y10 0) (cnd (okI y10 1) (cnd (okI y10 2) (cnd (okI y10 3) (cnd (okI y10 4) (cnd (okI y10 5) (cnd (okI y10 6) (loopIter (fun (p11 :
  List AV × Heap) (again12 : _ → Option (List Tree)) => cnd (decide (vI p11 0 < if w64 (gI y10 2 + (300:Int)) < gI y10 3 then w64 (gI y10 2 + (300:Int)) else gI y10 3) = true) (Option.bind (apure C n
  (22:Nat) [Tree.sl (4:Nat) a2, tI a3]) fun y13 => cnd (List.length y13 = (1:Nat)) (cnd (okL 2 y13 0) (Option.bind (apure C n (24:Nat) [Tree.sl (2:Nat) (gL y13 0), tI (vI p11 0)]) fun y14 => cnd
  (List.length y14 = (1:Nat)) (cnd (okI y14 0) (Option.bind (apure C n (24:Nat) [Tree.sl (2:Nat) (gL y6 0), tI (vI p11 0)]) fun y15 => cnd (List.length y15 = (1:Nat)) (cnd (okI y15 0) (cnd ((w64 (gI y14
  0 + gI y15 0) != (1:Int)) = true) (some [Tree.bool false]) (again12 ([AV.t (tI (w64 (vI p11 0 + (1:Int))))], [AObj.box []]))) none) none) none) none) none) none) (loopIter (fun (p16 : List AV × Heap)
  (again17 : _ → Option (List Tree)) => cnd (decide (vI p16 1 < ((List.length (gL y6 0):Nat):Int)) = true) (cnd ((2:Nat) = (2:Nat) ∧ (0:Int) ≤ vI p16 1) (Option.bind (gL y6 0)[Int.toNat (vI p16 1)]? fun
  y18 => cnd (okI y18 0) (cnd (okI y18 1) (cnd (decide (gI y18 0 ≥ gI y18 1) = true) (some [Tree.bool false]) (cnd (decide (gI y18 0 < gI y10 2) = true) (some [Tree.bool false]) (cnd (decide (gI y18 1 >
  gI y10 3) = true) (some [Tree.bool false]) (cnd (decide (vI p16 1 > (0:Int)) = true) (cnd ((2:Nat) = (2:Nat) ∧ (0:Int) ≤ w64 (vI p16 1 - (1:Int))) (Option.bind (gL y6 0)[Int.toNat (w64 (vI p16 1 -
  (1:Int)))]? fun y19 => cnd (okI y19 1) (cnd (decide (gI y18 0 ≤ gI y19 1) = true) (some [Tree.bool false]) (again17 ([AV.t (tI (w64 (vI p16 0 + w64 (gI y18 1 - gI y18 0)))), AV.t (tI (w64 (vI p16 1 +
  (1:Int))))], [AObj.box []]))) none) none) (again17 ([AV.t (tI (w64 (vI p16 0 + w64 (gI y18 1 - gI y18 0)))), AV.t (tI (w64 (vI p16 1 + (1:Int))))], [AObj.box []])))))) none) none) none) (cnd ((vI p16
  0 == w64 (gI y10 3 - gI y10 2)) = true) (Option.bind (apure C n (12:Nat) []) fun y20 => cnd (List.length y20 = (1:Nat)) (cnd (okB y20 0) (some [Tree.bool (gB y20 0)]) none) none) (some [Tree.bool
  false]))) n ([AV.t (tI (gI y7 0)), AV.t (tI (0:Int))], [AObj.box []]))) n ([AV.t (tI (gI y10 2))], [AObj.box []])) none) none) none) none) none) none) none) none))))) none) none) none) none) none)
  none)) none) none := by kernel_rfl

theorem e16 (n : Nat) (a0 : List (List Tree)) (a1 : List (List Tree)) (a2 : List (List Tree)) (a3 : Int) : apure C (n + 1) 16 [Tree.sl (1:Nat) a0, Tree.sl (7:Nat) a1, Tree.sl (4:Nat) a2, tI a3] =
  Option.bind (apure C n (41:Nat) [Tree.sl (1:Nat) a0, Tree.sl (7:Nat) a1, Tree.sl (4:Nat) a2, tI a3]) fun y4 => cnd (List.length y4 = (1:Nat)) (cnd (okI y4 0) (cnd ((gI y4 0 != (0:Int)) = true) (some
  [Tree.sl (2:Nat) [], tI (gI y4 0)]) (Option.bind (apure C n (43:Nat) [Tree.sl (1:Nat) a0, Tree.sl (7:Nat) a1, Tree.sl (4:Nat) a2, tI a3]) fun y5 => cnd (List.length y5 = (1:Nat)) (cnd (okL 2 y5 0)
  (some [Tree.sl (2:Nat) (gL y5 0), tI (0:Int)]) none) none)) none) none := by kernel_rfl

theorem e17 (n : Nat) (a0 : List (List Tree)) (a1 : List (List Tree)) (a2 : List (List Tree)) (a3 : Int) : apure C (n + 1) 17 [Tree.sl (1:Nat) a0, Tree.sl (7:Nat) a1, Tree.sl (4:Nat) a2, tI a3] =
  Option.bind (apure C n (39:Nat) [Tree.sl (1:Nat) a0, Tree.sl (7:Nat) a1, Tree.sl (4:Nat) a2, tI a3]) fun y4 => cnd (List.length y4 = (1:Nat)) (cnd (okI y4 0) (cnd ((gI y4 0 != (0:Int)) = true) (some
  [tI (0:Int), tI (gI y4 0)]) (Option.bind (apure C n (22:Nat) [Tree.sl (4:Nat) a2, tI a3]) fun y5 => cnd (List.length y5 = (1:Nat)) (cnd (okL 2 y5 0) (loopIter (fun (p6 : List AV × Heap) (again7 : _ →
  Option (List Tree)) => cnd (decide (vI p6 1 < ((List.length (gL y5 0):Nat):Int)) = true) (cnd ((2:Nat) = (2:Nat) ∧ (0:Int) ≤ vI p6 1) (Option.bind (gL y5 0)[Int.toNat (vI p6 1)]? fun y8 => cnd (okI y8
  0) (cnd (okI y8 1) (again7 ([AV.t (tI (w64 (vI p6 0 + w64 (gI y8 1 - gI y8 0)))), AV.t (tI (w64 (vI p6 1 + (1:Int))))], [])) none) none) none) (some [tI (vI p6 0), tI (0:Int)])) n ([AV.t (tI (0:Int)),
  AV.t (tI (0:Int))], [])) none) none)) none) none := by kernel_rfl

theorem e18 (n : Nat) (a0 : List (List Tree)) (a1 : List (List Tree)) (a2 : List (List Tree)) (a3 : Int) : apure C (n + 1) 18 [Tree.sl (1:Nat) a0, Tree.sl (7:Nat) a1, Tree.sl (4:Nat) a2, tI a3] =
  Option.bind (apure C n (41:Nat) [Tree.sl (1:Nat) a0, Tree.sl (7:Nat) a1, Tree.sl (4:Nat) a2, tI a3]) fun y4 => cnd (List.length y4 = (1:Nat)) (cnd (okI y4 0) (cnd ((gI y4 0 != (0:Int)) = true) (some
  [tI (0:Int), tI (gI y4 0)]) (Option.bind (apure C n (23:Nat) [Tree.sl (4:Nat) a2, tI a3]) fun y5 => cnd (List.length y5 = (1:Nat)) (cnd (okL 2 y5 0) (loopIter (fun (p6 : List AV × Heap) (again7 : _ →
  Option (List Tree)) => cnd (decide (vI p6 1 < ((List.length (gL y5 0):Nat):Int)) = true) (cnd ((2:Nat) = (2:Nat) ∧ (0:Int) ≤ vI p6 1) (Option.bind (gL y5 0)[Int.toNat (vI p6 1)]? fun y8 => cnd (okI y8
  1) (cnd ((2:Nat) = (2:Nat) ∧ (0:Int) ≤ vI p6 1) (Option.bind (gL y5 0)[Int.toNat (vI p6 1)]? fun y9 => cnd (okI y9 0) (again7 ([AV.t (tI (w64 (vI p6 0 + w64 (gI y8 1 - gI y9 0)))), AV.t (tI (w64 (vI
  p6 1 + (1:Int))))], [])) none) none) none) none) (some [tI (vI p6 0), tI (0:Int)])) n ([AV.t (tI (0:Int)), AV.t (tI (0:Int))], [])) none) none)) none) none := by kernel_rfl

theorem e24 (n : Nat) (a0 : List (List Tree)) (a1 : Int) : apure C (n + 1) 24 [Tree.sl (2:Nat) a0, tI a1] =
  loopIter (fun (p2 : List AV × Heap) (again3 : _ → Option (List Tree)) => cnd (decide (vI p2 1 < ((List.length a0:Nat):Int)) = true) (cnd ((2:Nat) = (2:Nat) ∧ (0:Int) ≤ vI p2 1) (Option.bind
  a0[Int.toNat (vI p2 1)]? fun y4 => cnd (okI y4 0) (cnd (okI y4 1) (cnd (decide (gI y4 0 ≤ a1) = true) (cnd (decide (a1 < gI y4 1) = true) (again3 ([AV.t (tI (w64 (vI p2 0 + (1:Int)))), AV.t (tI (w64
  (vI p2 1 + (1:Int))))], [])) (again3 ([AV.t (tI (vI p2 0)), AV.t (tI (w64 (vI p2 1 + (1:Int))))], []))) (again3 ([AV.t (tI (vI p2 0)), AV.t (tI (w64 (vI p2 1 + (1:Int))))], []))) none) none) none)
  (some [tI (vI p2 0)])) n ([AV.t (tI (0:Int)), AV.t (tI (0:Int))], []) := by kernel_rfl

end Ab
