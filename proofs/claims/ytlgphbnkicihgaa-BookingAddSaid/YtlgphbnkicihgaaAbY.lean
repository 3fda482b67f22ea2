/- A part of the proof: see the last text. -/
import Derived.Test.YtlgphbnkicihgaaAbT
import Derived.Test.YtlgphbnkicihgaaAbX
set_option maxRecDepth 100000
set_option linter.unusedVariables false
namespace Ab
open Go Go.Proofs

theorem e3 (n : Nat) (a0 : List (List Tree)) (a1 : List (List Tree)) (a2 : List (List Tree)) (a3 : Int) (a4 : Int) (a5 : Int) : apure C (n + 1) 3 [Tree.sl (1:Nat) a0, Tree.sl (7:Nat) a1, Tree.sl (4:Nat) a2, tI a3, tI a4, tI a5] =
  Option.bind (apure C n (11:Nat) [Tree.sl (1:Nat) a0, Tree.sl (7:Nat) a1, Tree.sl (4:Nat) a2]) fun y6 => cnd (List.length y6 = (1:Nat)) (cnd (okB y6 0) (cnd (gB y6 0 = true) (Option.bind (apure C n
  (12:Nat) []) fun y7 => cnd (List.length y7 = (1:Nat)) (cnd (okB y7 0) (some [Tree.bool (gB y7 0)]) none) none) (Option.bind (apure C n (13:Nat) [Tree.sl (1:Nat) a0, Tree.sl (7:Nat) a1, Tree.sl (4:Nat)
  a2, tI a3, tI a4, tI a5]) fun y8 => cnd (List.length y8 = (2:Nat)) (cnd (okI y8 0) (cnd (okI y8 1) (Option.bind (apure C n (14:Nat) [Tree.sl (1:Nat) a0, Tree.sl (7:Nat) a1, Tree.sl (4:Nat) a2, tI a3,
  tI a4, tI a5]) fun y9 => cnd (List.length y9 = (2:Nat)) (cnd (okI y9 0) (cnd (okI y9 1) (cnd (((gI y8 0) == (gI y9 0)) = true) (cnd (((gI y8 1) == (gI y9 1)) = true) (Option.bind (apure C n (12:Nat)
  []) fun y10 => cnd (List.length y10 = (1:Nat)) (cnd (okB y10 0) (some [Tree.bool (gB y10 0)]) none) none) (some [Tree.bool false])) (some [Tree.bool false])) none) none) none) none) none) none)) none)
  none := by kernel_rfl

theorem e4 (n : Nat) (a0 : List (List Tree)) (a1 : List (List Tree)) (a2 : List (List Tree)) (a3 : Int) : apure C (n + 1) 4 [Tree.sl (1:Nat) a0, Tree.sl (7:Nat) a1, Tree.sl (4:Nat) a2, tI a3] =
  Option.bind (apure C n (11:Nat) [Tree.sl (1:Nat) a0, Tree.sl (7:Nat) a1, Tree.sl (4:Nat) a2]) fun y4 => cnd (List.length y4 = (1:Nat)) (cnd (okB y4 0) (cnd (gB y4 0 = true) (Option.bind (apure C n
  (12:Nat) []) fun y5 => cnd (List.length y5 = (1:Nat)) (cnd (okB y5 0) (some [Tree.bool (gB y5 0)]) none) none) (Option.bind (apure C n (15:Nat) [Tree.sl (1:Nat) a0, Tree.sl (7:Nat) a1, Tree.sl (4:Nat)
  a2, tI a3]) fun y6 => cnd (List.length y6 = (2:Nat)) (cnd (okL 2 y6 0) (cnd (okI y6 1) (Option.bind (apure C n (16:Nat) [Tree.sl (1:Nat) a0, Tree.sl (7:Nat) a1, Tree.sl (4:Nat) a2, tI a3]) fun y7 =>
  cnd (List.length y7 = (2:Nat)) (cnd (okL 2 y7 0) (cnd (okI y7 1) (Option.bind (apure C n (17:Nat) [Tree.sl (1:Nat) a0, Tree.sl (7:Nat) a1, Tree.sl (4:Nat) a2, tI a3]) fun y8 => cnd (List.length y8 =
  (2:Nat)) (cnd (okI y8 0) (cnd (okI y8 1) (Option.bind (apure C n (18:Nat) [Tree.sl (1:Nat) a0, Tree.sl (7:Nat) a1, Tree.sl (4:Nat) a2, tI a3]) fun y9 => cnd (List.length y9 = (2:Nat)) (cnd (okI y9 0)
  (cnd (okI y9 1) (Option.bind (apure C n (19:Nat) [Tree.sl (1:Nat) a0, Tree.sl (7:Nat) a1, Tree.sl (4:Nat) a2]) fun y10 => cnd (List.length y10 = (1:Nat)) (cnd (okI y10 0) (Option.bind (apure C n
  (20:Nat) [Tree.sl (1:Nat) a0, Tree.sl (7:Nat) a1, Tree.sl (4:Nat) a2]) fun y11 => cnd (List.length y11 = (1:Nat)) (cnd (okI y11 0) (cnd (((gI y10 0) == (gI y11 0)) = true) (Option.bind (apure C n
  (22:Nat) [Tree.sl (4:Nat) a2, tI a3]) fun y12 => cnd (List.length y12 = (1:Nat)) (cnd (okL 2 y12 0) (Option.bind (apure C n (23:Nat) [Tree.sl (4:Nat) a2, tI a3]) fun y13 => cnd (List.length y13 =
  (1:Nat)) (cnd (okL 2 y13 0) (Option.bind (apure C n (21:Nat) [Tree.sl (2:Nat) (gL y12 0), Tree.sl (2:Nat) (gL y13 0)]) fun y14 => cnd (List.length y14 = (1:Nat)) (cnd (okB y14 0) (cnd (gB y14 0 =
  true) (Option.bind (apure C n (21:Nat) [Tree.sl (2:Nat) (gL y6 0), Tree.sl (2:Nat) (gL y7 0)]) fun y15 => cnd (List.length y15 = (1:Nat)) (cnd (okB y15 0) (cnd (gB y15 0 = true) (cnd (((gI y6 1) ==
  (gI y7 1)) = true) (cnd (((gI y8 0) == (gI y9 0)) = true) (cnd (((gI y8 1) == (gI y9 1)) = true) (Option.bind (apure C n (12:Nat) []) fun y16 => cnd (List.length y16 = (1:Nat)) (cnd (okB y16 0) (some
  [Tree.bool (gB y16 0)]) none) none) (some [Tree.bool false])) (some [Tree.bool false])) (some [Tree.bool false])) (some [Tree.bool false])) none) none) (some [Tree.bool false])) none) none) none)
  none) none) none) (some [Tree.bool false])) none) none) none) none) none) none) none) none) none) none) none) none) none) none) none) none)) none) none := by kernel_rfl

theorem e5 (n : Nat) (a0 : List (List Tree)) (a1 : List (List Tree)) (a2 : List (List Tree)) (a3 : Int) : apure C (n + 1) 5 [Tree.sl (1:Nat) a0, Tree.sl (7:Nat) a1, Tree.sl (4:Nat) a2, tI a3] =
  Option.bind (apure C n (11:Nat) [Tree.sl (1:Nat) a0, Tree.sl (7:Nat) a1, Tree.sl (4:Nat) a2]) fun y4 => cnd (List.length y4 = (1:Nat)) (cnd (okB y4 0) (cnd (gB y4 0 = true) (Option.bind (apure C n
  (12:Nat) []) fun y5 => cnd (List.length y5 = (1:Nat)) (cnd (okB y5 0) (some [Tree.bool (gB y5 0)]) none) none) (Option.bind (apure C n (15:Nat) [Tree.sl (1:Nat) a0, Tree.sl (7:Nat) a1, Tree.sl (4:Nat)
  a2, tI a3]) fun y6 => cnd (List.length y6 = (2:Nat)) (cnd (okL 2 y6 0) (cnd (okI y6 1) (Option.bind (apure C n (17:Nat) [Tree.sl (1:Nat) a0, Tree.sl (7:Nat) a1, Tree.sl (4:Nat) a2, tI a3]) fun y7 =>
  cnd (List.length y7 = (2:Nat)) (cnd (okI y7 0) (cnd (okI y7 1) (cnd (((gI y6 1) != (0:Int)) = true) (cnd (((gI y6 1) == (gI y7 1)) = true) (cnd ((((List.length (gL y6 0):Nat):Int) == (0:Int)) = true)
  (cnd (((gI y7 0) == (0:Int)) = true) (Option.bind (apure C n (12:Nat) []) fun y8 => cnd (List.length y8 = (1:Nat)) (cnd (okB y8 0) (some [Tree.bool (gB y8 0)]) none) none) (some [Tree.bool false]))
  (some [Tree.bool false])) (some [Tree.bool false])) (cnd (((gI y7 1) != (0:Int)) = true) (cnd (((gI y6 1) == (gI y7 1)) = true) (cnd ((((List.length (gL y6 0):Nat):Int) == (0:Int)) = true) (cnd (((gI
  y7 0) == (0:Int)) = true) (Option.bind (apure C n (12:Nat) []) fun y9 => cnd (List.length y9 = (1:Nat)) (cnd (okB y9 0) (some [Tree.bool (gB y9 0)]) none) none) (some [Tree.bool false])) (some
  [Tree.bool false])) (some [Tree.bool false])) (cnd (decide (a3 < (0:Int)) = true) (some [Tree.bool false]) (cnd (decide (a3 ≥ ((List.length a1:Nat):Int)) = true) (some [Tree.bool false]) (cnd ((7:Nat)
  = (7:Nat) ∧ (0:Int) ≤ a3) (Option.bind a1[Int.toNat a3]? fun y10 => cnd (okI y10 0) (cnd (okI y10 1) (cnd (okI y10 2) (cnd (okI y10 3) (cnd (okI y10 4) (cnd (okI y10 5) (cnd (okI y10 6) (loopIter (fun
  (p11 : List AV × Heap) (again12 : _ → Option (List Tree)) => cnd (decide (vI p11 0 < (if w64 ((gI y10 2) + (300:Int)) < gI y10 3 then w64 ((gI y10 2) + (300:Int)) else gI y10 3)) = true) (Option.bind
  (apure C n (22:Nat) [Tree.sl (4:Nat) a2, tI a3]) fun y13 => cnd (List.length y13 = (1:Nat)) (cnd (okL 2 y13 0) (Option.bind (apure C n (24:Nat) [Tree.sl (2:Nat) (gL y13 0), tI (vI p11 0)]) fun y14 =>
  cnd (List.length y14 = (1:Nat)) (cnd (okI y14 0) (Option.bind (apure C n (24:Nat) [Tree.sl (2:Nat) (gL y6 0), tI (vI p11 0)]) fun y15 => cnd (List.length y15 = (1:Nat)) (cnd (okI y15 0) (cnd (((w64
  ((gI y14 0) + (gI y15 0))) != (1:Int)) = true) (some [Tree.bool false]) (again12 ([AV.t (tI (w64 ((vI p11 0) + (1:Int))))], [AObj.box []]))) none) none) none) none) none) none) (loopIter (fun (p16 :
  List AV × Heap) (again17 : _ → Option (List Tree)) => cnd (decide (vI p16 1 < ((List.length (gL y6 0):Nat):Int)) = true) (cnd ((2:Nat) = (2:Nat) ∧ (0:Int) ≤ vI p16 1) (Option.bind (gL y6 0)[Int.toNat
  (vI p16 1)]? fun y18 => cnd (okI y18 0) (cnd (okI y18 1) (cnd (decide (gI y18 0 ≥ gI y18 1) = true) (some [Tree.bool false]) (cnd (decide (gI y18 0 < gI y10 2) = true) (some [Tree.bool false]) (cnd
  (decide (gI y18 1 > gI y10 3) = true) (some [Tree.bool false]) (cnd (decide (vI p16 1 > (0:Int)) = true) (cnd ((2:Nat) = (2:Nat) ∧ (0:Int) ≤ w64 ((vI p16 1) - (1:Int))) (Option.bind (gL y6
  0)[Int.toNat (w64 ((vI p16 1) - (1:Int)))]? fun y19 => cnd (okI y19 1) (cnd (decide (gI y18 0 ≤ gI y19 1) = true) (some [Tree.bool false]) (again17 ([AV.t (tI (w64 ((vI p16 0) + (w64 ((gI y18 1) - (gI
  y18 0)))))), AV.t (tI (w64 ((vI p16 1) + (1:Int))))], [AObj.box []]))) none) none) (again17 ([AV.t (tI (w64 ((vI p16 0) + (w64 ((gI y18 1) - (gI y18 0)))))), AV.t (tI (w64 ((vI p16 1) + (1:Int))))],
  [AObj.box []])))))) none) none) none) (cnd (((vI p16 0) == (w64 ((gI y10 3) - (gI y10 2)))) = true) (Option.bind (apure C n (12:Nat) []) fun y20 => cnd (List.length y20 = (1:Nat)) (cnd (okB y20 0)
  (some [Tree.bool (gB y20 0)]) none) none) (some [Tree.bool false]))) n ([AV.t (tI (gI y7 0)), AV.t (tI (0:Int))], [AObj.box []]))) n ([AV.t (tI (gI y10 2))], [AObj.box []])) none) none) none) none)
  none) none) none) none))))) none) none) none) none) none) none)) none) none := by kernel_rfl

theorem e6 (n : Nat) (a0 : List (List Tree)) (a1 : List (List Tree)) (a2 : List (List Tree)) (a3 : Int) (a4 : Int) (a5 : Int) : apure C (n + 1) 6 [Tree.sl (1:Nat) a0, Tree.sl (7:Nat) a1, Tree.sl (4:Nat) a2, tI a3, tI a4, tI a5] =
  Option.bind (apure C n (11:Nat) [Tree.sl (1:Nat) a0, Tree.sl (7:Nat) a1, Tree.sl (4:Nat) a2]) fun y6 => cnd (List.length y6 = (1:Nat)) (cnd (okB y6 0) (cnd (gB y6 0 = true) (Option.bind (apure C n
  (12:Nat) []) fun y7 => cnd (List.length y7 = (1:Nat)) (cnd (okB y7 0) (some [Tree.bool (gB y7 0)]) none) none) (Option.bind (apure C n (13:Nat) [Tree.sl (1:Nat) a0, Tree.sl (7:Nat) a1, Tree.sl (4:Nat)
  a2, tI a3, tI a4, tI a5]) fun y8 => cnd (List.length y8 = (2:Nat)) (cnd (okI y8 0) (cnd (okI y8 1) (cnd (((gI y8 1) == (1:Int)) = true) (cnd (((gI y8 0) == (0:Int)) = true) (Option.bind (apure C n
  (12:Nat) []) fun y9 => cnd (List.length y9 = (1:Nat)) (cnd (okB y9 0) (some [Tree.bool (gB y9 0)]) none) none) (some [Tree.bool false])) (cnd (((gI y8 1) == (2:Int)) = true) (cnd (((gI y8 0) ==
  (0:Int)) = true) (Option.bind (apure C n (12:Nat) []) fun y10 => cnd (List.length y10 = (1:Nat)) (cnd (okB y10 0) (some [Tree.bool (gB y10 0)]) none) none) (some [Tree.bool false])) (cnd (decide (a3 <
  (0:Int)) = true) (some [Tree.bool false]) (cnd (decide (a3 ≥ ((List.length a1:Nat):Int)) = true) (some [Tree.bool false]) (cnd ((7:Nat) = (7:Nat) ∧ (0:Int) ≤ a3) (Option.bind a1[Int.toNat a3]? fun y11
  => cnd (okI y11 0) (cnd (okI y11 1) (cnd (okI y11 2) (cnd (okI y11 3) (cnd (okI y11 4) (cnd (okI y11 5) (cnd (okI y11 6) (Option.bind (apure C n (25:Nat) [tI (gI y11 0), tI (gI y11 1), tI (gI y11 2),
  tI (gI y11 3), tI (gI y11 4), tI (gI y11 5), tI (gI y11 6), tI a5]) fun y12 => cnd (List.length y12 = (2:Nat)) (cnd (okI y12 0) (cnd (okI y12 1) (cnd (((gI y12 1) != (0:Int)) = true) (some [Tree.bool
  false]) (cnd (((gI y8 1) == (0:Int)) = true) (Option.bind (apure C n (26:Nat) [Tree.sl (1:Nat) a0, Tree.sl (7:Nat) a1, Tree.sl (4:Nat) a2, tI a3, tI (gI y8 0), tI (w64 ((gI y8 0) + (gI y12 0))), tI
  (9:Int)]) fun y13 => cnd (List.length y13 = (2:Nat)) (cnd (okL 4 y13 0) (cnd (okI y13 1) (cnd (((gI y13 1) != (0:Int)) = true) (some [Tree.bool false]) (cnd (decide (gI y8 0 < a4) = true) (some
  [Tree.bool false]) (loopIter (fun (p14 : List AV × Heap) (again15 : _ → Option (List Tree)) => cnd (decide (vI p14 0 < gI y8 0) = true) (Option.bind (apure C n (26:Nat) [Tree.sl (1:Nat) a0, Tree.sl
  (7:Nat) a1, Tree.sl (4:Nat) a2, tI a3, tI (vI p14 0), tI (w64 ((vI p14 0) + (gI y12 0))), tI (9:Int)]) fun y16 => cnd (List.length y16 = (2:Nat)) (cnd (okL 4 y16 0) (cnd (okI y16 1) (cnd (((gI y16 1)
  == (0:Int)) = true) (some [Tree.bool false]) (again15 ([AV.t (tI (w64 ((vI p14 0) + (1:Int))))], [AObj.box []]))) none) none) none) (Option.bind (apure C n (12:Nat) []) fun y17 => cnd (List.length y17
  = (1:Nat)) (cnd (okB y17 0) (some [Tree.bool (gB y17 0)]) none) none)) n ([AV.t (tI (if w64 ((gI y8 0) - (200:Int)) > (if gI y11 2 > a4 then gI y11 2 else a4) then w64 ((gI y8 0) - (200:Int)) else (if
  gI y11 2 > a4 then gI y11 2 else a4)))], [AObj.box []])))) none) none) none) (cnd (((gI y8 1) != (16:Int)) = true) (some [Tree.bool false]) (cnd (((gI y8 0) != (0:Int)) = true) (some [Tree.bool
  false]) (loopIter (fun (p18 : List AV × Heap) (again19 : _ → Option (List Tree)) => cnd (decide (vI p18 0 < gI y11 3) = true) (Option.bind (apure C n (26:Nat) [Tree.sl (1:Nat) a0, Tree.sl (7:Nat) a1,
  Tree.sl (4:Nat) a2, tI a3, tI (vI p18 0), tI (w64 ((vI p18 0) + (gI y12 0))), tI (9:Int)]) fun y20 => cnd (List.length y20 = (2:Nat)) (cnd (okL 4 y20 0) (cnd (okI y20 1) (cnd (((gI y20 1) == (0:Int))
  = true) (some [Tree.bool false]) (again19 ([AV.t (tI (w64 ((vI p18 0) + (1:Int))))], [AObj.box []]))) none) none) none) (Option.bind (apure C n (12:Nat) []) fun y21 => cnd (List.length y21 = (1:Nat))
  (cnd (okB y21 0) (some [Tree.bool (gB y21 0)]) none) none)) n ([AV.t (tI (if w64 ((gI y11 3) - (200:Int)) > (if gI y11 2 > a4 then gI y11 2 else a4) then w64 ((gI y11 3) - (200:Int)) else (if gI y11 2
  > a4 then gI y11 2 else a4)))], [AObj.box []])))))) none) none) none) none) none) none) none) none) none) none) none))))) none) none) none)) none) none := by kernel_rfl

theorem e7 (n : Nat) (a0 : List (List Tree)) (a1 : List (List Tree)) (a2 : List (List Tree)) (a3 : Int) (a4 : Int) (a5 : Int) (a6 : Int) (a7 : Int) (a8 : Int) (a9 : Int) (a10 : Int) : apure C (n + 1) 7 [Tree.sl (1:Nat) a0, Tree.sl (7:Nat) a1, Tree.sl (4:Nat) a2, tI a3, tI a4, tI a5, tI a6, tI a7, tI a8, Tree.int IntKind.u8 a9, Tree.int IntKind.u8 a10] =
  Option.bind (apure C n (11:Nat) [Tree.sl (1:Nat) a0, Tree.sl (7:Nat) a1, Tree.sl (4:Nat) a2]) fun y11 => cnd (List.length y11 = (1:Nat)) (cnd (okB y11 0) (cnd (gB y11 0 = true) (Option.bind (apure C n
  (12:Nat) []) fun y12 => cnd (List.length y12 = (1:Nat)) (cnd (okB y12 0) (some [Tree.bool (gB y12 0)]) none) none) (Option.bind (apure C n (13:Nat) [Tree.sl (1:Nat) a0, Tree.sl (7:Nat) a1, Tree.sl
  (4:Nat) a2, tI a3, tI a7, tI a8]) fun y13 => cnd (List.length y13 = (2:Nat)) (cnd (okI y13 0) (cnd (okI y13 1) (Option.bind (apure C n (13:Nat) [Tree.sl (1:Nat) a0, Tree.sl (7:Nat) a1, Tree.sl (4:Nat)
  a2, tI a3, tI (w64 ((if (1099511627776:Int) < a7 then (1099511627776:Int) else a7) + (w64 a9))), tI a8]) fun y14 => cnd (List.length y14 = (2:Nat)) (cnd (okI y14 0) (cnd (okI y14 1) (Option.bind
  (apure C n (13:Nat) [Tree.sl (1:Nat) a0, Tree.sl (7:Nat) a1, Tree.sl (4:Nat) a2, tI a3, tI a7, tI (w64 (a8 + (w64 a10)))]) fun y15 => cnd (List.length y15 = (2:Nat)) (cnd (okI y15 0) (cnd (okI y15 1)
  (cnd (((gI y13 1) == (16:Int)) = true) (cnd (((gI y14 1) == (16:Int)) = true) (cnd (((gI y15 1) == (16:Int)) = true) (Option.bind (apure C n (12:Nat) []) fun y16 => cnd (List.length y16 = (1:Nat))
  (cnd (okB y16 0) (some [Tree.bool (gB y16 0)]) none) none) (cnd (((gI y15 1) == (2:Int)) = true) (Option.bind (apure C n (12:Nat) []) fun y17 => cnd (List.length y17 = (1:Nat)) (cnd (okB y17 0) (some
  [Tree.bool (gB y17 0)]) none) none) (some [Tree.bool false]))) (some [Tree.bool false])) (cnd (((gI y13 1) != (0:Int)) = true) (Option.bind (apure C n (12:Nat) []) fun y18 => cnd (List.length y18 =
  (1:Nat)) (cnd (okB y18 0) (some [Tree.bool (gB y18 0)]) none) none) (cnd (((gI y14 1) == (0:Int)) = true) (cnd (decide (gI y14 0 < gI y13 0) = true) (some [Tree.bool false]) (cnd (((gI y15 1) ==
  (0:Int)) = true) (cnd (decide (gI y15 0 < gI y13 0) = true) (some [Tree.bool false]) (Option.bind (apure C n (26:Nat) [Tree.sl (1:Nat) a0, Tree.sl (7:Nat) a1, Tree.sl (4:Nat) a2, tI a3, tI a4, tI a5,
  tI a6]) fun y19 => cnd (List.length y19 = (2:Nat)) (cnd (okL 4 y19 0) (cnd (okI y19 1) (cnd (((gI y19 1) == (0:Int)) = true) (Option.bind (apure C n (13:Nat) [Tree.sl (1:Nat) a0, Tree.sl (7:Nat) a1,
  Tree.sl (4:Nat) (gL y19 0), tI a3, tI a7, tI a8]) fun y20 => cnd (List.length y20 = (2:Nat)) (cnd (okI y20 0) (cnd (okI y20 1) (cnd (((gI y20 1) == (0:Int)) = true) (cnd (decide (gI y20 0 < gI y13 0)
  = true) (some [Tree.bool false]) (Option.bind (apure C n (12:Nat) []) fun y21 => cnd (List.length y21 = (1:Nat)) (cnd (okB y21 0) (some [Tree.bool (gB y21 0)]) none) none)) (Option.bind (apure C n
  (12:Nat) []) fun y22 => cnd (List.length y22 = (1:Nat)) (cnd (okB y22 0) (some [Tree.bool (gB y22 0)]) none) none)) none) none) none) (Option.bind (apure C n (12:Nat) []) fun y23 => cnd (List.length
  y23 = (1:Nat)) (cnd (okB y23 0) (some [Tree.bool (gB y23 0)]) none) none)) none) none) none)) (Option.bind (apure C n (26:Nat) [Tree.sl (1:Nat) a0, Tree.sl (7:Nat) a1, Tree.sl (4:Nat) a2, tI a3, tI
  a4, tI a5, tI a6]) fun y24 => cnd (List.length y24 = (2:Nat)) (cnd (okL 4 y24 0) (cnd (okI y24 1) (cnd (((gI y24 1) == (0:Int)) = true) (Option.bind (apure C n (13:Nat) [Tree.sl (1:Nat) a0, Tree.sl
  (7:Nat) a1, Tree.sl (4:Nat) (gL y24 0), tI a3, tI a7, tI a8]) fun y25 => cnd (List.length y25 = (2:Nat)) (cnd (okI y25 0) (cnd (okI y25 1) (cnd (((gI y25 1) == (0:Int)) = true) (cnd (decide (gI y25 0
  < gI y13 0) = true) (some [Tree.bool false]) (Option.bind (apure C n (12:Nat) []) fun y26 => cnd (List.length y26 = (1:Nat)) (cnd (okB y26 0) (some [Tree.bool (gB y26 0)]) none) none)) (Option.bind
  (apure C n (12:Nat) []) fun y27 => cnd (List.length y27 = (1:Nat)) (cnd (okB y27 0) (some [Tree.bool (gB y27 0)]) none) none)) none) none) none) (Option.bind (apure C n (12:Nat) []) fun y28 => cnd
  (List.length y28 = (1:Nat)) (cnd (okB y28 0) (some [Tree.bool (gB y28 0)]) none) none)) none) none) none))) (cnd (((gI y15 1) == (0:Int)) = true) (cnd (decide (gI y15 0 < gI y13 0) = true) (some
  [Tree.bool false]) (Option.bind (apure C n (26:Nat) [Tree.sl (1:Nat) a0, Tree.sl (7:Nat) a1, Tree.sl (4:Nat) a2, tI a3, tI a4, tI a5, tI a6]) fun y29 => cnd (List.length y29 = (2:Nat)) (cnd (okL 4 y29
  0) (cnd (okI y29 1) (cnd (((gI y29 1) == (0:Int)) = true) (Option.bind (apure C n (13:Nat) [Tree.sl (1:Nat) a0, Tree.sl (7:Nat) a1, Tree.sl (4:Nat) (gL y29 0), tI a3, tI a7, tI a8]) fun y30 => cnd
  (List.length y30 = (2:Nat)) (cnd (okI y30 0) (cnd (okI y30 1) (cnd (((gI y30 1) == (0:Int)) = true) (cnd (decide (gI y30 0 < gI y13 0) = true) (some [Tree.bool false]) (Option.bind (apure C n (12:Nat)
  []) fun y31 => cnd (List.length y31 = (1:Nat)) (cnd (okB y31 0) (some [Tree.bool (gB y31 0)]) none) none)) (Option.bind (apure C n (12:Nat) []) fun y32 => cnd (List.length y32 = (1:Nat)) (cnd (okB y32
  0) (some [Tree.bool (gB y32 0)]) none) none)) none) none) none) (Option.bind (apure C n (12:Nat) []) fun y33 => cnd (List.length y33 = (1:Nat)) (cnd (okB y33 0) (some [Tree.bool (gB y33 0)]) none)
  none)) none) none) none)) (Option.bind (apure C n (26:Nat) [Tree.sl (1:Nat) a0, Tree.sl (7:Nat) a1, Tree.sl (4:Nat) a2, tI a3, tI a4, tI a5, tI a6]) fun y34 => cnd (List.length y34 = (2:Nat)) (cnd
  (okL 4 y34 0) (cnd (okI y34 1) (cnd (((gI y34 1) == (0:Int)) = true) (Option.bind (apure C n (13:Nat) [Tree.sl (1:Nat) a0, Tree.sl (7:Nat) a1, Tree.sl (4:Nat) (gL y34 0), tI a3, tI a7, tI a8]) fun y35
  => cnd (List.length y35 = (2:Nat)) (cnd (okI y35 0) (cnd (okI y35 1) (cnd (((gI y35 1) == (0:Int)) = true) (cnd (decide (gI y35 0 < gI y13 0) = true) (some [Tree.bool false]) (Option.bind (apure C n
  (12:Nat) []) fun y36 => cnd (List.length y36 = (1:Nat)) (cnd (okB y36 0) (some [Tree.bool (gB y36 0)]) none) none)) (Option.bind (apure C n (12:Nat) []) fun y37 => cnd (List.length y37 = (1:Nat)) (cnd
  (okB y37 0) (some [Tree.bool (gB y37 0)]) none) none)) none) none) none) (Option.bind (apure C n (12:Nat) []) fun y38 => cnd (List.length y38 = (1:Nat)) (cnd (okB y38 0) (some [Tree.bool (gB y38 0)])
  none) none)) none) none) none))))) none) none) none) none) none) none) none) none) none)) none) none := by kernel_rfl

theorem e8 (n : Nat) (a0 : List (List Tree)) (a1 : List (List Tree)) (a2 : List (List Tree)) (a3 : Int) (a4 : Int) : apure C (n + 1) 8 [Tree.sl (1:Nat) a0, Tree.sl (7:Nat) a1, Tree.sl (4:Nat) a2, tI a3, tI a4] =
  Option.bind (apure C n (11:Nat) [Tree.sl (1:Nat) a0, Tree.sl (7:Nat) a1, Tree.sl (4:Nat) a2]) fun y5 => cnd (List.length y5 = (1:Nat)) (cnd (okB y5 0) (cnd (gB y5 0 = true) (Option.bind (apure C n
  (12:Nat) []) fun y6 => cnd (List.length y6 = (1:Nat)) (cnd (okB y6 0) (some [Tree.bool (gB y6 0)]) none) none) (Option.bind (apure C n (27:Nat) [Tree.sl (1:Nat) a0, Tree.sl (7:Nat) a1, Tree.sl (4:Nat)
  a2, tI a3, tI a4]) fun y7 => cnd (List.length y7 = (2:Nat)) (cnd (okL 4 y7 0) (cnd (okI y7 1) (cnd (((gI y7 1) != (0:Int)) = true) (cnd ((((List.length (gL y7 0):Nat):Int) == (0:Int)) = true)
  (Option.bind (apure C n (12:Nat) []) fun y8 => cnd (List.length y8 = (1:Nat)) (cnd (okB y8 0) (some [Tree.bool (gB y8 0)]) none) none) (some [Tree.bool false])) (Option.bind (apure C n (15:Nat)
  [Tree.sl (1:Nat) a0, Tree.sl (7:Nat) a1, Tree.sl (4:Nat) a2, tI a3]) fun y9 => cnd (List.length y9 = (2:Nat)) (cnd (okL 2 y9 0) (cnd (okI y9 1) (Option.bind (apure C n (15:Nat) [Tree.sl (1:Nat) a0,
  Tree.sl (7:Nat) a1, Tree.sl (4:Nat) (gL y7 0), tI a3]) fun y10 => cnd (List.length y10 = (2:Nat)) (cnd (okL 2 y10 0) (cnd (okI y10 1) (Option.bind (apure C n (27:Nat) [Tree.sl (1:Nat) a0, Tree.sl
  (7:Nat) a1, Tree.sl (4:Nat) (gL y7 0), tI a3, tI a4]) fun y11 => cnd (List.length y11 = (2:Nat)) (cnd (okL 4 y11 0) (cnd (okI y11 1) (cnd (((gI y9 1) != (0:Int)) = true) (some [Tree.bool false]) (cnd
  (((gI y10 1) != (0:Int)) = true) (some [Tree.bool false]) (cnd (((gI y11 1) != (0:Int)) = true) (some [Tree.bool false]) (Option.bind (apure C n (28:Nat) [Tree.sl (4:Nat) (gL y7 0), Tree.sl (4:Nat)
  (gL y11 0)]) fun y12 => cnd (List.length y12 = (1:Nat)) (cnd (okB y12 0) (cnd ((!(gB y12 0)) = true) (some [Tree.bool false]) (loopIter (fun (p13 : List AV × Heap) (again14 : _ → Option (List Tree))
  => cnd (decide (vI p13 1 < ((List.length (gL y9 0):Nat):Int)) = true) (cnd ((2:Nat) = (2:Nat) ∧ (0:Int) ≤ vI p13 1) (Option.bind (gL y9 0)[Int.toNat (vI p13 1)]? fun y15 => cnd (okI y15 0) (cnd (okI
  y15 1) (cnd (decide (gI y15 0 < (if a4 < gI y15 1 then a4 else gI y15 1)) = true) (cnd (oVer p13 0 = sVer p13 0 ∧ ((2:Nat) = (2:Nat) ∨ (2:Nat) = (0:Nat)) ∧ (sOff p13 0) + (sLen p13 0) = List.length
  (oEs p13 0) ∧ (sLen p13 0) + (1:Nat) ≤ (1073741824:Nat)) (again14 ([AV.sref (0:Nat) ((sVer p13 0) + (1:Nat)) (0:Nat) ((sLen p13 0) + (1:Nat)), AV.t (tI (w64 ((vI p13 1) + (1:Int))))], [AObj.row false
  ((sVer p13 0) + (1:Nat)) (2:Nat) ((List.drop (sOff p13 0) (oEs p13 0)) ++ [[tI (gI y15 0), tI (if a4 < gI y15 1 then a4 else gI y15 1)]])])) none) (again14 ([AV.sref (0:Nat) (sVer p13 0) (sOff p13 0)
  (sLen p13 0), AV.t (tI (w64 ((vI p13 1) + (1:Int))))], [AObj.row false (oVer p13 0) (2:Nat) (oEs p13 0)]))) none) none) none) (loopIter (fun (p16 : List AV × Heap) (again17 : _ → Option (List Tree))
  => cnd (decide (vI p16 0 < ((List.length (gL y7 0):Nat):Int)) = true) (cnd ((4:Nat) = (4:Nat) ∧ (0:Int) ≤ vI p16 0) (Option.bind (gL y7 0)[Int.toNat (vI p16 0)]? fun y18 => cnd (okI y18 0) (cnd (okI
  y18 1) (cnd (okI y18 2) (cnd (okI y18 3) (Option.bind (apure C n (29:Nat) [Tree.sl (4:Nat) a2, tI (gI y18 0), tI (gI y18 1), tI (gI y18 2), tI (gI y18 3)]) fun y19 => cnd (List.length y19 = (1:Nat))
  (cnd (okB y19 0) (cnd ((!(gB y19 0)) = true) (cnd (((gI y18 0) != a3) = true) (some [Tree.bool false]) (cnd (((gI y18 3) != (0:Int)) = true) (some [Tree.bool false]) (cnd (decide (gI y18 1 < a4) =
  true) (some [Tree.bool false]) (again17 ([AV.t (tI (w64 ((vI p16 0) + (1:Int))))], [AObj.row false (oVer p16 0) (2:Nat) (oEs p16 0)]))))) (again17 ([AV.t (tI (w64 ((vI p16 0) + (1:Int))))], [AObj.row
  false (oVer p16 0) (2:Nat) (oEs p16 0)]))) none) none) none) none) none) none) none) (loopIter (fun (p20 : List AV × Heap) (again21 : _ → Option (List Tree)) => cnd (decide (vI p20 0 < ((List.length
  a2:Nat):Int)) = true) (cnd ((4:Nat) = (4:Nat) ∧ (0:Int) ≤ vI p20 0) (Option.bind a2[Int.toNat (vI p20 0)]? fun y22 => cnd (okI y22 0) (cnd (okI y22 1) (cnd (okI y22 2) (cnd (okI y22 3) (Option.bind
  (apure C n (29:Nat) [Tree.sl (4:Nat) (gL y7 0), tI (gI y22 0), tI (gI y22 1), tI (gI y22 2), tI (gI y22 3)]) fun y23 => cnd (List.length y23 = (1:Nat)) (cnd (okB y23 0) (cnd ((!(gB y23 0)) = true)
  (some [Tree.bool false]) (again21 ([AV.t (tI (w64 ((vI p20 0) + (1:Int))))], [AObj.row false (oVer p20 0) (2:Nat) (oEs p20 0)]))) none) none) none) none) none) none) none) (cnd ((false = true ∨ false
  = false) ∧ oVer p20 0 = sVer p13 0 ∧ ((2:Nat) = (2:Nat) ∨ (2:Nat) = (0:Nat))) (Option.bind (apure C n (21:Nat) [Tree.sl (2:Nat) (gL y10 0), Tree.sl (2:Nat) (List.take (sLen p13 0) (List.drop (sOff p13
  0) (oEs p20 0)))]) fun y24 => cnd (List.length y24 = (1:Nat)) (cnd (okB y24 0) (cnd (gB y24 0 = true) (Option.bind (apure C n (12:Nat) []) fun y25 => cnd (List.length y25 = (1:Nat)) (cnd (okB y25 0)
  (some [Tree.bool (gB y25 0)]) none) none) (some [Tree.bool false])) none) none) none)) n ([AV.t (tI (0:Int))], [AObj.row false (oVer p16 0) (2:Nat) (oEs p16 0)]))) n ([AV.t (tI (0:Int))], [AObj.row
  false (oVer p13 0) (2:Nat) (oEs p13 0)]))) n ([AV.sref (0:Nat) (0:Nat) (0:Nat) (0:Nat), AV.t (tI (0:Int))], [AObj.row false (0:Nat) (2:Nat) []]))) none) none)))) none) none) none) none) none) none)
  none) none) none)) none) none) none)) none) none := by kernel_rfl

theorem e9 (n : Nat) (a0 : List (List Tree)) (a1 : List (List Tree)) (a2 : List (List Tree)) (a3 : Int) (a4 : Int) (a5 : Int) (a6 : Int) (a7 : Int) : apure C (n + 1) 9 [Tree.sl (1:Nat) a0, Tree.sl (7:Nat) a1, Tree.sl (4:Nat) a2, tI a3, tI a4, tI a5, tI a6, tI a7] =
  Option.bind (apure C n (11:Nat) [Tree.sl (1:Nat) a0, Tree.sl (7:Nat) a1, Tree.sl (4:Nat) a2]) fun y8 => cnd (List.length y8 = (1:Nat)) (cnd (okB y8 0) (cnd (gB y8 0 = true) (Option.bind (apure C n
  (12:Nat) []) fun y9 => cnd (List.length y9 = (1:Nat)) (cnd (okB y9 0) (some [Tree.bool (gB y9 0)]) none) none) (Option.bind (apure C n (26:Nat) [Tree.sl (1:Nat) a0, Tree.sl (7:Nat) a1, Tree.sl (4:Nat)
  a2, tI a3, tI a4, tI a5, tI a6]) fun y10 => cnd (List.length y10 = (2:Nat)) (cnd (okL 4 y10 0) (cnd (okI y10 1) (Option.bind (apure C n (30:Nat) [Tree.sl (1:Nat) a0, Tree.sl (7:Nat) a1, Tree.sl
  (4:Nat) a2, tI a3, tI a4, tI a5, tI a6]) fun y11 => cnd (List.length y11 = (2:Nat)) (cnd (okL 4 y11 0) (cnd (okI y11 1) (Option.bind (apure C n (27:Nat) [Tree.sl (1:Nat) a0, Tree.sl (7:Nat) a1,
  Tree.sl (4:Nat) a2, tI a3, tI a7]) fun y12 => cnd (List.length y12 = (2:Nat)) (cnd (okL 4 y12 0) (cnd (okI y12 1) (Option.bind (apure C n (31:Nat) [Tree.sl (1:Nat) a0, Tree.sl (7:Nat) a1, Tree.sl
  (4:Nat) a2, tI a3, tI a7]) fun y13 => cnd (List.length y13 = (2:Nat)) (cnd (okL 4 y13 0) (cnd (okI y13 1) (Option.bind (apure C n (32:Nat) [Tree.sl (4:Nat) (gL y10 0), Tree.sl (4:Nat) (gL y11 0)]) fun
  y14 => cnd (List.length y14 = (1:Nat)) (cnd (okB y14 0) (cnd (gB y14 0 = true) (cnd (((gI y10 1) == (gI y11 1)) = true) (Option.bind (apure C n (32:Nat) [Tree.sl (4:Nat) (gL y12 0), Tree.sl (4:Nat)
  (gL y13 0)]) fun y15 => cnd (List.length y15 = (1:Nat)) (cnd (okB y15 0) (cnd (gB y15 0 = true) (cnd (((gI y12 1) == (gI y13 1)) = true) (Option.bind (apure C n (33:Nat) [Tree.sl (4:Nat) a2, tI a6])
  fun y16 => cnd (List.length y16 = (1:Nat)) (cnd (okL 4 y16 0) (Option.bind (apure C n (34:Nat) [Tree.sl (4:Nat) a2, tI a6]) fun y17 => cnd (List.length y17 = (1:Nat)) (cnd (okL 4 y17 0) (Option.bind
  (apure C n (32:Nat) [Tree.sl (4:Nat) (gL y16 0), Tree.sl (4:Nat) (gL y17 0)]) fun y18 => cnd (List.length y18 = (1:Nat)) (cnd (okB y18 0) (cnd (gB y18 0 = true) (Option.bind (apure C n (12:Nat) [])
  fun y19 => cnd (List.length y19 = (1:Nat)) (cnd (okB y19 0) (some [Tree.bool (gB y19 0)]) none) none) (some [Tree.bool false])) none) none) none) none) none) none) (some [Tree.bool false])) (some
  [Tree.bool false])) none) none) (some [Tree.bool false])) (some [Tree.bool false])) none) none) none) none) none) none) none) none) none) none) none) none) none) none)) none) none := by kernel_rfl

theorem e10 (n : Nat) (a0 : List (List Tree)) (a1 : List (List Tree)) (a2 : List (List Tree)) (a3 : Int) (a4 : Int) (a5 : Int) (a6 : Int) : apure C (n + 1) 10 [Tree.sl (1:Nat) a0, Tree.sl (7:Nat) a1, Tree.sl (4:Nat) a2, tI a3, tI a4, tI a5, tI a6] =
  Option.bind (apure C n (11:Nat) [Tree.sl (1:Nat) a0, Tree.sl (7:Nat) a1, Tree.sl (4:Nat) a2]) fun y7 => cnd (List.length y7 = (1:Nat)) (cnd (okB y7 0) (cnd (gB y7 0 = true) (Option.bind (apure C n
  (12:Nat) []) fun y8 => cnd (List.length y8 = (1:Nat)) (cnd (okB y8 0) (some [Tree.bool (gB y8 0)]) none) none) (Option.bind (apure C n (26:Nat) [Tree.sl (1:Nat) a0, Tree.sl (7:Nat) a1, Tree.sl (4:Nat)
  a2, tI a3, tI a4, tI a5, tI a6]) fun y9 => cnd (List.length y9 = (2:Nat)) (cnd (okL 4 y9 0) (cnd (okI y9 1) (cnd (((gI y9 1) != (0:Int)) = true) (cnd ((((List.length (gL y9 0):Nat):Int) == (0:Int)) =
  true) (Option.bind (apure C n (12:Nat) []) fun y10 => cnd (List.length y10 = (1:Nat)) (cnd (okB y10 0) (some [Tree.bool (gB y10 0)]) none) none) (some [Tree.bool false])) (Option.bind (apure C n
  (19:Nat) [Tree.sl (1:Nat) a0, Tree.sl (7:Nat) a1, Tree.sl (4:Nat) (gL y9 0)]) fun y11 => cnd (List.length y11 = (1:Nat)) (cnd (okI y11 0) (cnd (((gI y11 0) != (0:Int)) = true) (some [Tree.bool false])
  (Option.bind (apure C n (29:Nat) [Tree.sl (4:Nat) (gL y9 0), tI a3, tI a4, tI a5, tI a6]) fun y12 => cnd (List.length y12 = (1:Nat)) (cnd (okB y12 0) (cnd ((!(gB y12 0)) = true) (some [Tree.bool
  false]) (cnd ((((List.length (gL y9 0):Nat):Int) != (w64 (((List.length a2:Nat):Int) + (1:Int)))) = true) (some [Tree.bool false]) (Option.bind (apure C n (17:Nat) [Tree.sl (1:Nat) a0, Tree.sl (7:Nat)
  a1, Tree.sl (4:Nat) a2, tI a3]) fun y13 => cnd (List.length y13 = (2:Nat)) (cnd (okI y13 0) (cnd (okI y13 1) (Option.bind (apure C n (17:Nat) [Tree.sl (1:Nat) a0, Tree.sl (7:Nat) a1, Tree.sl (4:Nat)
  (gL y9 0), tI a3]) fun y14 => cnd (List.length y14 = (2:Nat)) (cnd (okI y14 0) (cnd (okI y14 1) (cnd (((gI y14 1) != (0:Int)) = true) (some [Tree.bool false]) (cnd (((gI y14 0) != (w64 ((w64 ((gI y13
  0) + a5)) - a4))) = true) (some [Tree.bool false]) (loopIter (fun (p15 : List AV × Heap) (again16 : _ → Option (List Tree)) => cnd (decide (vI p15 0 < ((List.length a2:Nat):Int)) = true) (cnd ((4:Nat)
  = (4:Nat) ∧ (0:Int) ≤ vI p15 0) (Option.bind a2[Int.toNat (vI p15 0)]? fun y17 => cnd (okI y17 0) (cnd (okI y17 1) (cnd (okI y17 2) (cnd (okI y17 3) (cnd (((gI y17 3) == a6) = true) (cnd (decide (vI
  p15 0 ≥ (0:Int)) = true) (Option.bind (apure C n (12:Nat) []) fun y18 => cnd (List.length y18 = (1:Nat)) (cnd (okB y18 0) (some [Tree.bool (gB y18 0)]) none) none) (Option.bind (apure C n (33:Nat)
  [Tree.sl (4:Nat) (gL y9 0), tI a6]) fun y19 => cnd (List.length y19 = (1:Nat)) (cnd (okL 4 y19 0) (Option.bind (apure C n (28:Nat) [Tree.sl (4:Nat) (gL y19 0), Tree.sl (4:Nat) a2]) fun y20 => cnd
  (List.length y20 = (1:Nat)) (cnd (okB y20 0) (cnd (gB y20 0 = true) (Option.bind (apure C n (12:Nat) []) fun y21 => cnd (List.length y21 = (1:Nat)) (cnd (okB y21 0) (some [Tree.bool (gB y21 0)]) none)
  none) (some [Tree.bool false])) none) none) none) none)) (again16 ([AV.t (tI (w64 ((vI p15 0) + (1:Int))))], []))) none) none) none) none) none) (Option.bind (apure C n (33:Nat) [Tree.sl (4:Nat) (gL
  y9 0), tI a6]) fun y22 => cnd (List.length y22 = (1:Nat)) (cnd (okL 4 y22 0) (Option.bind (apure C n (28:Nat) [Tree.sl (4:Nat) (gL y22 0), Tree.sl (4:Nat) a2]) fun y23 => cnd (List.length y23 =
  (1:Nat)) (cnd (okB y23 0) (cnd (gB y23 0 = true) (Option.bind (apure C n (12:Nat) []) fun y24 => cnd (List.length y24 = (1:Nat)) (cnd (okB y24 0) (some [Tree.bool (gB y24 0)]) none) none) (some
  [Tree.bool false])) none) none) none) none)) n ([AV.t (tI (0:Int))], [])))) none) none) none) none) none) none))) none) none)) none) none)) none) none) none)) none) none := by kernel_rfl

theorem e11 (n : Nat) (a0 : List (List Tree)) (a1 : List (List Tree)) (a2 : List (List Tree)) : apure C (n + 1) 11 [Tree.sl (1:Nat) a0, Tree.sl (7:Nat) a1, Tree.sl (4:Nat) a2] =
  Option.bind (apure C n (37:Nat) [Tree.sl (1:Nat) a0, Tree.sl (7:Nat) a1]) fun y3 => cnd (List.length y3 = (1:Nat)) (cnd (okB y3 0) (cnd (gB y3 0 = true) (some [Tree.bool true]) (some [Tree.bool
  (decide (((List.length a2:Nat):Int) > (30:Int)))])) none) none := by kernel_rfl

theorem e12 (n : Nat)  : apure C (n + 1) 12 [] =
  Option.bind (apure C n (38:Nat) []) fun y0 => cnd (List.length y0 = (3:Nat)) (cnd (okL 1 y0 0) (cnd (okL 7 y0 1) (cnd (okL 4 y0 2) (Option.bind (apure C n (15:Nat) [Tree.sl (1:Nat) (gL y0 0), Tree.sl
  (7:Nat) (gL y0 1), Tree.sl (4:Nat) (gL y0 2), tI (0:Int)]) fun y1 => cnd (List.length y1 = (2:Nat)) (cnd (okL 2 y1 0) (cnd (okI y1 1) (Option.bind (apure C n (13:Nat) [Tree.sl (1:Nat) (gL y0 0),
  Tree.sl (7:Nat) (gL y0 1), Tree.sl (4:Nat) (gL y0 2), tI (0:Int), tI (0:Int), tI (64:Int)]) fun y2 => cnd (List.length y2 = (2:Nat)) (cnd (okI y2 0) (cnd (okI y2 1) (Option.bind (apure C n (13:Nat)
  [Tree.sl (1:Nat) (gL y0 0), Tree.sl (7:Nat) (gL y0 1), Tree.sl (4:Nat) (gL y0 2), tI (0:Int), tI (0:Int), tI (48:Int)]) fun y3 => cnd (List.length y3 = (2:Nat)) (cnd (okI y3 0) (cnd (okI y3 1) (cnd
  (((gI y1 1) == (0:Int)) = true) (cnd (((gI y2 1) == (0:Int)) = true) (cnd (((gI y3 1) == (0:Int)) = true) (Option.bind (apure C n (21:Nat) [Tree.sl (2:Nat) (gL y1 0), Tree.sl (2:Nat) [[tI (0:Int), tI
  (10:Int)], [tI (20:Int), tI (100:Int)]]]) fun y4 => cnd (List.length y4 = (1:Nat)) (cnd (okB y4 0) (cnd (gB y4 0 = true) (cnd (((gI y2 0) == (20:Int)) = true) (some [Tree.bool ((gI y3 0) == (0:Int))])
  (some [Tree.bool false])) (some [Tree.bool false])) none) none) (some [Tree.bool false])) (some [Tree.bool false])) (some [Tree.bool false])) none) none) none) none) none) none) none) none) none)
  none) none) none) none := by kernel_rfl

theorem e13 (n : Nat) (a0 : List (List Tree)) (a1 : List (List Tree)) (a2 : List (List Tree)) (a3 : Int) (a4 : Int) (a5 : Int) : apure C (n + 1) 13 [Tree.sl (1:Nat) a0, Tree.sl (7:Nat) a1, Tree.sl (4:Nat) a2, tI a3, tI a4, tI a5] =
  Option.bind (apure C n (39:Nat) [Tree.sl (1:Nat) a0, Tree.sl (7:Nat) a1, Tree.sl (4:Nat) a2, tI a3]) fun y6 => cnd (List.length y6 = (1:Nat)) (cnd (okI y6 0) (cnd (((gI y6 0) != (0:Int)) = true) (some
  [tI (0:Int), tI (gI y6 0)]) (cnd ((7:Nat) = (7:Nat) ∧ (0:Int) ≤ a3) (Option.bind a1[Int.toNat a3]? fun y7 => cnd (okI y7 0) (cnd (okI y7 1) (cnd (okI y7 2) (cnd (okI y7 3) (cnd (okI y7 4) (cnd (okI y7
  5) (cnd (okI y7 6) (Option.bind (apure C n (25:Nat) [tI (gI y7 0), tI (gI y7 1), tI (gI y7 2), tI (gI y7 3), tI (gI y7 4), tI (gI y7 5), tI (gI y7 6), tI a5]) fun y8 => cnd (List.length y8 = (2:Nat))
  (cnd (okI y8 0) (cnd (okI y8 1) (cnd (((gI y8 1) != (0:Int)) = true) (some [tI (0:Int), tI (2:Int)]) (Option.bind (apure C n (40:Nat) [Tree.sl (1:Nat) a0, Tree.sl (7:Nat) a1, Tree.sl (4:Nat) a2, tI
  a3, tI a4]) fun y9 => cnd (List.length y9 = (1:Nat)) (cnd (okL 2 y9 0) (loopIter (fun (p10 : List AV × Heap) (again11 : _ → Option (List Tree)) => cnd (decide (vI p10 0 < ((List.length (gL y9
  0):Nat):Int)) = true) (cnd ((2:Nat) = (2:Nat) ∧ (0:Int) ≤ vI p10 0) (Option.bind (gL y9 0)[Int.toNat (vI p10 0)]? fun y12 => cnd (okI y12 0) (cnd (okI y12 1) (cnd (decide (w64 ((gI y12 1) - (gI y12
  0)) ≥ gI y8 0) = true) (some [tI (gI y12 0), tI (0:Int)]) (again11 ([AV.t (tI (w64 ((vI p10 0) + (1:Int))))], []))) none) none) none) (some [tI (0:Int), tI (16:Int)])) n ([AV.t (tI (0:Int))], []))
  none) none)) none) none) none) none) none) none) none) none) none) none) none)) none) none := by kernel_rfl

theorem e14 (n : Nat) (a0 : List (List Tree)) (a1 : List (List Tree)) (a2 : List (List Tree)) (a3 : Int) (a4 : Int) (a5 : Int) : apure C (n + 1) 14 [Tree.sl (1:Nat) a0, Tree.sl (7:Nat) a1, Tree.sl (4:Nat) a2, tI a3, tI a4, tI a5] =
  Option.bind (apure C n (41:Nat) [Tree.sl (1:Nat) a0, Tree.sl (7:Nat) a1, Tree.sl (4:Nat) a2, tI a3]) fun y6 => cnd (List.length y6 = (1:Nat)) (cnd (okI y6 0) (cnd (((gI y6 0) != (0:Int)) = true) (some
  [tI (0:Int), tI (gI y6 0)]) (cnd (decide (a5 < (1:Int)) = true) (some [tI (0:Int), tI (2:Int)]) (cnd (decide (a5 > (65536:Int)) = true) (some [tI (0:Int), tI (2:Int)]) (cnd ((7:Nat) = (7:Nat) ∧
  (0:Int) ≤ a3) (Option.bind a1[Int.toNat a3]? fun y7 => cnd (okI y7 3) (cnd (decide (a4 > gI y7 3) = true) (some [tI (0:Int), tI (16:Int)]) (Option.bind (apure C n (43:Nat) [Tree.sl (1:Nat) a0, Tree.sl
  (7:Nat) a1, Tree.sl (4:Nat) a2, tI a3]) fun y8 => cnd (List.length y8 = (1:Nat)) (cnd (okL 2 y8 0) (cnd ((7:Nat) = (7:Nat) ∧ (0:Int) ≤ a3) (Option.bind a1[Int.toNat a3]? fun y9 => cnd (okI y9 0) (cnd
  (okI y9 1) (cnd (okI y9 2) (cnd (okI y9 3) (cnd (okI y9 4) (cnd (okI y9 5) (cnd (okI y9 6) (Option.bind (apure C n (44:Nat) [tI (gI y9 0), tI (gI y9 1), tI (gI y9 2), tI (gI y9 3), tI (gI y9 4), tI
  (gI y9 5), tI (gI y9 6), tI a5]) fun y10 => cnd (List.length y10 = (1:Nat)) (cnd (okI y10 0) (Option.bind (apure C n (42:Nat) [Tree.sl (2:Nat) (gL y8 0), tI a4, tI (gI y10 0)]) fun y11 => cnd
  (List.length y11 = (1:Nat)) (cnd (okI y11 0) (cnd (((gI y11 0) == (-1:Int)) = true) (some [tI (0:Int), tI (16:Int)]) (some [tI (gI y11 0), tI (0:Int)])) none) none) none) none) none) none) none) none)
  none) none) none) none) none) none)) none) none)))) none) none := by kernel_rfl

theorem e15 (n : Nat) (a0 : List (List Tree)) (a1 : List (List Tree)) (a2 : List (List Tree)) (a3 : Int) : apure C (n + 1) 15 [Tree.sl (1:Nat) a0, Tree.sl (7:Nat) a1, Tree.sl (4:Nat) a2, tI a3] =
  Option.bind (apure C n (39:Nat) [Tree.sl (1:Nat) a0, Tree.sl (7:Nat) a1, Tree.sl (4:Nat) a2, tI a3]) fun y4 => cnd (List.length y4 = (1:Nat)) (cnd (okI y4 0) (cnd (((gI y4 0) != (0:Int)) = true) (some
  [Tree.sl (2:Nat) [], tI (gI y4 0)]) (cnd ((7:Nat) = (7:Nat) ∧ (0:Int) ≤ a3) (Option.bind a1[Int.toNat a3]? fun y5 => cnd (okI y5 2) (Option.bind (apure C n (40:Nat) [Tree.sl (1:Nat) a0, Tree.sl
  (7:Nat) a1, Tree.sl (4:Nat) a2, tI a3, tI (gI y5 2)]) fun y6 => cnd (List.length y6 = (1:Nat)) (cnd (okL 2 y6 0) (some [Tree.sl (2:Nat) (gL y6 0), tI (0:Int)]) none) none) none) none)) none) none := by kernel_rfl

theorem e16 (n : Nat) (a0 : List (List Tree)) (a1 : List (List Tree)) (a2 : List (List Tree)) (a3 : Int) : apure C (n + 1) 16 [Tree.sl (1:Nat) a0, Tree.sl (7:Nat) a1, Tree.sl (4:Nat) a2, tI a3] =
  Option.bind (apure C n (41:Nat) [Tree.sl (1:Nat) a0, Tree.sl (7:Nat) a1, Tree.sl (4:Nat) a2, tI a3]) fun y4 => cnd (List.length y4 = (1:Nat)) (cnd (okI y4 0) (cnd (((gI y4 0) != (0:Int)) = true) (some
  [Tree.sl (2:Nat) [], tI (gI y4 0)]) (Option.bind (apure C n (43:Nat) [Tree.sl (1:Nat) a0, Tree.sl (7:Nat) a1, Tree.sl (4:Nat) a2, tI a3]) fun y5 => cnd (List.length y5 = (1:Nat)) (cnd (okL 2 y5 0)
  (some [Tree.sl (2:Nat) (gL y5 0), tI (0:Int)]) none) none)) none) none := by kernel_rfl

theorem e17 (n : Nat) (a0 : List (List Tree)) (a1 : List (List Tree)) (a2 : List (List Tree)) (a3 : Int) : apure C (n + 1) 17 [Tree.sl (1:Nat) a0, Tree.sl (7:Nat) a1, Tree.sl (4:Nat) a2, tI a3] =
  Option.bind (apure C n (39:Nat) [Tree.sl (1:Nat) a0, Tree.sl (7:Nat) a1, Tree.sl (4:Nat) a2, tI a3]) fun y4 => cnd (List.length y4 = (1:Nat)) (cnd (okI y4 0) (cnd (((gI y4 0) != (0:Int)) = true) (some
  [tI (0:Int), tI (gI y4 0)]) (Option.bind (apure C n (22:Nat) [Tree.sl (4:Nat) a2, tI a3]) fun y5 => cnd (List.length y5 = (1:Nat)) (cnd (okL 2 y5 0) (loopIter (fun (p6 : List AV × Heap) (again7 : _ →
  Option (List Tree)) => cnd (decide (vI p6 1 < ((List.length (gL y5 0):Nat):Int)) = true) (cnd ((2:Nat) = (2:Nat) ∧ (0:Int) ≤ vI p6 1) (Option.bind (gL y5 0)[Int.toNat (vI p6 1)]? fun y8 => cnd (okI y8
  0) (cnd (okI y8 1) (again7 ([AV.t (tI (w64 ((vI p6 0) + (w64 ((gI y8 1) - (gI y8 0)))))), AV.t (tI (w64 ((vI p6 1) + (1:Int))))], [])) none) none) none) (some [tI (vI p6 0), tI (0:Int)])) n ([AV.t (tI
  (0:Int)), AV.t (tI (0:Int))], [])) none) none)) none) none := by kernel_rfl

theorem e18 (n : Nat) (a0 : List (List Tree)) (a1 : List (List Tree)) (a2 : List (List Tree)) (a3 : Int) : apure C (n + 1) 18 [Tree.sl (1:Nat) a0, Tree.sl (7:Nat) a1, Tree.sl (4:Nat) a2, tI a3] =
  Option.bind (apure C n (41:Nat) [Tree.sl (1:Nat) a0, Tree.sl (7:Nat) a1, Tree.sl (4:Nat) a2, tI a3]) fun y4 => cnd (List.length y4 = (1:Nat)) (cnd (okI y4 0) (cnd (((gI y4 0) != (0:Int)) = true) (some
  [tI (0:Int), tI (gI y4 0)]) (Option.bind (apure C n (23:Nat) [Tree.sl (4:Nat) a2, tI a3]) fun y5 => cnd (List.length y5 = (1:Nat)) (cnd (okL 2 y5 0) (loopIter (fun (p6 : List AV × Heap) (again7 : _ →
  Option (List Tree)) => cnd (decide (vI p6 1 < ((List.length (gL y5 0):Nat):Int)) = true) (cnd ((2:Nat) = (2:Nat) ∧ (0:Int) ≤ vI p6 1) (Option.bind (gL y5 0)[Int.toNat (vI p6 1)]? fun y8 => cnd (okI y8
  1) (cnd ((2:Nat) = (2:Nat) ∧ (0:Int) ≤ vI p6 1) (Option.bind (gL y5 0)[Int.toNat (vI p6 1)]? fun y9 => cnd (okI y9 0) (again7 ([AV.t (tI (w64 ((vI p6 0) + (w64 ((gI y8 1) - (gI y9 0)))))), AV.t (tI
  (w64 ((vI p6 1) + (1:Int))))], [])) none) none) none) none) (some [tI (vI p6 0), tI (0:Int)])) n ([AV.t (tI (0:Int)), AV.t (tI (0:Int))], [])) none) none)) none) none := by kernel_rfl

theorem e19 (n : Nat) (a0 : List (List Tree)) (a1 : List (List Tree)) (a2 : List (List Tree)) : apure C (n + 1) 19 [Tree.sl (1:Nat) a0, Tree.sl (7:Nat) a1, Tree.sl (4:Nat) a2] =
  Option.bind (apure C n (45:Nat) [Tree.sl (1:Nat) a0, Tree.sl (7:Nat) a1]) fun y3 => cnd (List.length y3 = (1:Nat)) (cnd (okI y3 0) (cnd (((gI y3 0) != (0:Int)) = true) (some [tI (1:Int)]) (cnd (decide
  (((List.length a2:Nat):Int) > (512:Int)) = true) (some [tI (4:Int)]) (loopIter (fun (p4 : List AV × Heap) (again5 : _ → Option (List Tree)) => cnd (decide (vI p4 0 < ((List.length a2:Nat):Int)) =
  true) (cnd ((4:Nat) = (4:Nat) ∧ (0:Int) ≤ vI p4 0) (Option.bind a2[Int.toNat (vI p4 0)]? fun y6 => cnd (okI y6 0) (cnd (okI y6 1) (cnd (okI y6 2) (cnd (okI y6 3) (Option.bind (apure C n (46:Nat)
  [Tree.sl (1:Nat) a0, Tree.sl (7:Nat) a1, tI (gI y6 0), tI (gI y6 1), tI (gI y6 2), tI (gI y6 3)]) fun y7 => cnd (List.length y7 = (1:Nat)) (cnd (okB y7 0) (cnd ((!(gB y7 0)) = true) (some [tI
  (2:Int)]) (cnd (((vI p4 0) == (0:Int)) = true) (again5 ([AV.t (tI (w64 ((vI p4 0) + (1:Int))))], [])) (cnd ((4:Nat) = (4:Nat) ∧ (0:Int) ≤ w64 ((vI p4 0) - (1:Int))) (Option.bind a2[Int.toNat (w64 ((vI
  p4 0) - (1:Int)))]? fun y8 => cnd (okI y8 0) (cnd (okI y8 1) (cnd (okI y8 2) (cnd (okI y8 3) (Option.bind (apure C n (47:Nat) [tI (gI y8 0), tI (gI y8 1), tI (gI y8 2), tI (gI y8 3), tI (gI y6 0), tI
  (gI y6 1), tI (gI y6 2), tI (gI y6 3)]) fun y9 => cnd (List.length y9 = (1:Nat)) (cnd (okI y9 0) (cnd (decide (gI y9 0 ≥ (0:Int)) = true) (some [tI (9:Int)]) (cnd ((4:Nat) = (4:Nat) ∧ (0:Int) ≤ w64
  ((vI p4 0) - (1:Int))) (Option.bind a2[Int.toNat (w64 ((vI p4 0) - (1:Int)))]? fun y10 => cnd (okI y10 0) (cnd (((gI y10 0) == (gI y6 0)) = true) (cnd ((4:Nat) = (4:Nat) ∧ (0:Int) ≤ w64 ((vI p4 0) -
  (1:Int))) (Option.bind a2[Int.toNat (w64 ((vI p4 0) - (1:Int)))]? fun y11 => cnd (okI y11 2) (cnd (decide (gI y6 1 < gI y11 2) = true) (some [tI (14:Int)]) (again5 ([AV.t (tI (w64 ((vI p4 0) +
  (1:Int))))], []))) none) none) (again5 ([AV.t (tI (w64 ((vI p4 0) + (1:Int))))], []))) none) none)) none) none) none) none) none) none) none))) none) none) none) none) none) none) none) (some [tI
  (0:Int)])) n ([AV.t (tI (0:Int))], [])))) none) none := by kernel_rfl

theorem e20 (n : Nat) (a0 : List (List Tree)) (a1 : List (List Tree)) (a2 : List (List Tree)) : apure C (n + 1) 20 [Tree.sl (1:Nat) a0, Tree.sl (7:Nat) a1, Tree.sl (4:Nat) a2] =
  Option.bind (apure C n (48:Nat) [Tree.sl (1:Nat) a0, Tree.sl (7:Nat) a1]) fun y3 => cnd (List.length y3 = (1:Nat)) (cnd (okI y3 0) (cnd (((gI y3 0) != (0:Int)) = true) (some [tI (1:Int)]) (cnd (decide
  (((List.length a2:Nat):Int) > (512:Int)) = true) (some [tI (4:Int)]) (loopIter (fun (p4 : List AV × Heap) (again5 : _ → Option (List Tree)) => cnd (decide (vI p4 0 < ((List.length a2:Nat):Int)) =
  true) (cnd ((4:Nat) = (4:Nat) ∧ (0:Int) ≤ vI p4 0) (Option.bind a2[Int.toNat (vI p4 0)]? fun y6 => cnd (okI y6 0) (cnd (okI y6 1) (cnd (okI y6 2) (cnd (okI y6 3) (Option.bind (apure C n (49:Nat)
  [Tree.sl (1:Nat) a0, Tree.sl (7:Nat) a1, tI (gI y6 0), tI (gI y6 1), tI (gI y6 2), tI (gI y6 3)]) fun y7 => cnd (List.length y7 = (1:Nat)) (cnd (okB y7 0) (cnd ((!(gB y7 0)) = true) (some [tI
  (2:Int)]) (cnd (((vI p4 0) == (0:Int)) = true) (again5 ([AV.t (tI (w64 ((vI p4 0) + (1:Int))))], [])) (cnd ((4:Nat) = (4:Nat) ∧ (0:Int) ≤ vI p4 0) (Option.bind a2[Int.toNat (vI p4 0)]? fun y8 => cnd
  (okI y8 0) (cnd ((4:Nat) = (4:Nat) ∧ (0:Int) ≤ w64 ((vI p4 0) - (1:Int))) (Option.bind a2[Int.toNat (w64 ((vI p4 0) - (1:Int)))]? fun y9 => cnd (okI y9 0) (cnd (decide (gI y8 0 > gI y9 0) = true)
  (again5 ([AV.t (tI (w64 ((vI p4 0) + (1:Int))))], [])) (cnd ((4:Nat) = (4:Nat) ∧ (0:Int) ≤ vI p4 0) (Option.bind a2[Int.toNat (vI p4 0)]? fun y10 => cnd (okI y10 0) (cnd ((4:Nat) = (4:Nat) ∧ (0:Int) ≤
  w64 ((vI p4 0) - (1:Int))) (Option.bind a2[Int.toNat (w64 ((vI p4 0) - (1:Int)))]? fun y11 => cnd (okI y11 0) (cnd (decide (gI y10 0 < gI y11 0) = true) (some [tI (9:Int)]) (cnd ((4:Nat) = (4:Nat) ∧
  (0:Int) ≤ vI p4 0) (Option.bind a2[Int.toNat (vI p4 0)]? fun y12 => cnd (okI y12 1) (cnd ((4:Nat) = (4:Nat) ∧ (0:Int) ≤ w64 ((vI p4 0) - (1:Int))) (Option.bind a2[Int.toNat (w64 ((vI p4 0) -
  (1:Int)))]? fun y13 => cnd (okI y13 1) (cnd (decide (gI y12 1 ≤ gI y13 1) = true) (some [tI (9:Int)]) (cnd ((4:Nat) = (4:Nat) ∧ (0:Int) ≤ vI p4 0) (Option.bind a2[Int.toNat (vI p4 0)]? fun y14 => cnd
  (okI y14 1) (cnd ((4:Nat) = (4:Nat) ∧ (0:Int) ≤ w64 ((vI p4 0) - (1:Int))) (Option.bind a2[Int.toNat (w64 ((vI p4 0) - (1:Int)))]? fun y15 => cnd (okI y15 2) (cnd (decide (gI y14 1 < gI y15 2) = true)
  (some [tI (14:Int)]) (again5 ([AV.t (tI (w64 ((vI p4 0) + (1:Int))))], []))) none) none) none) none)) none) none) none) none)) none) none) none) none)) none) none) none) none))) none) none) none)
  none) none) none) none) (some [tI (0:Int)])) n ([AV.t (tI (0:Int))], [])))) none) none := by kernel_rfl

theorem e21 (n : Nat) (a0 : List (List Tree)) (a1 : List (List Tree)) : apure C (n + 1) 21 [Tree.sl (2:Nat) a0, Tree.sl (2:Nat) a1] =
  cnd ((((List.length a0:Nat):Int) != ((List.length a1:Nat):Int)) = true) (some [Tree.bool false]) (loopIter (fun (p2 : List AV × Heap) (again3 : _ → Option (List Tree)) => cnd (decide (vI p2 0 <
  ((List.length a0:Nat):Int)) = true) (cnd ((2:Nat) = (2:Nat) ∧ (0:Int) ≤ vI p2 0) (Option.bind a0[Int.toNat (vI p2 0)]? fun y4 => cnd (okI y4 0) (cnd (okI y4 1) (cnd ((2:Nat) = (2:Nat) ∧ (0:Int) ≤ vI
  p2 0) (Option.bind a1[Int.toNat (vI p2 0)]? fun y5 => cnd (okI y5 0) (cnd (okI y5 1) (cnd ((!(((gI y4 0) == (gI y5 0)) && ((gI y4 1) == (gI y5 1)))) = true) (some [Tree.bool false]) (again3 ([AV.t (tI
  (w64 ((vI p2 0) + (1:Int))))], []))) none) none) none) none) none) none) (some [Tree.bool true])) n ([AV.t (tI (0:Int))], [])) := by kernel_rfl

theorem e22 (n : Nat) (a0 : List (List Tree)) (a1 : Int) : apure C (n + 1) 22 [Tree.sl (4:Nat) a0, tI a1] =
  loopIter (fun (p2 : List AV × Heap) (again3 : _ → Option (List Tree)) => cnd (decide (vI p2 1 < ((List.length a0:Nat):Int)) = true) (cnd ((4:Nat) = (4:Nat) ∧ (0:Int) ≤ vI p2 1) (Option.bind
  a0[Int.toNat (vI p2 1)]? fun y4 => cnd (okI y4 0) (cnd (okI y4 1) (cnd (okI y4 2) (cnd (okI y4 3) (cnd (((gI y4 0) == a1) = true) (cnd (oVer p2 0 = sVer p2 0 ∧ ((2:Nat) = (2:Nat) ∨ (2:Nat) = (0:Nat))
  ∧ (sOff p2 0) + (sLen p2 0) = List.length (oEs p2 0) ∧ (sLen p2 0) + (1:Nat) ≤ (1073741824:Nat)) (again3 ([AV.sref (0:Nat) ((sVer p2 0) + (1:Nat)) (0:Nat) ((sLen p2 0) + (1:Nat)), AV.t (tI (w64 ((vI
  p2 1) + (1:Int))))], [AObj.row false ((sVer p2 0) + (1:Nat)) (2:Nat) ((List.drop (sOff p2 0) (oEs p2 0)) ++ [[tI (gI y4 1), tI (gI y4 2)]])])) none) (again3 ([AV.sref (0:Nat) (sVer p2 0) (sOff p2 0)
  (sLen p2 0), AV.t (tI (w64 ((vI p2 1) + (1:Int))))], [AObj.row false (oVer p2 0) (2:Nat) (oEs p2 0)]))) none) none) none) none) none) (cnd ((false = true ∨ false = false) ∧ oVer p2 0 = sVer p2 0 ∧
  ((2:Nat) = (2:Nat) ∨ (2:Nat) = (0:Nat))) (some [Tree.sl (2:Nat) (List.take (sLen p2 0) (List.drop (sOff p2 0) (oEs p2 0)))]) none)) n ([AV.sref (0:Nat) (0:Nat) (0:Nat) (0:Nat), AV.t (tI (0:Int))],
  [AObj.row false (0:Nat) (2:Nat) []]) := by kernel_rfl

theorem e23 (n : Nat) (a0 : List (List Tree)) (a1 : Int) : apure C (n + 1) 23 [Tree.sl (4:Nat) a0, tI a1] =
  loopIter (fun (p2 : List AV × Heap) (again3 : _ → Option (List Tree)) => cnd (decide (vI p2 1 < ((List.length a0:Nat):Int)) = true) (cnd ((4:Nat) = (4:Nat) ∧ (0:Int) ≤ vI p2 1) (Option.bind
  a0[Int.toNat (vI p2 1)]? fun y4 => cnd (okI y4 0) (cnd (((gI y4 0) == a1) = true) (cnd ((4:Nat) = (4:Nat) ∧ (0:Int) ≤ vI p2 1) (Option.bind a0[Int.toNat (vI p2 1)]? fun y5 => cnd (okI y5 1) (cnd
  ((4:Nat) = (4:Nat) ∧ (0:Int) ≤ vI p2 1) (Option.bind a0[Int.toNat (vI p2 1)]? fun y6 => cnd (okI y6 2) (cnd (oVer p2 0 = sVer p2 0 ∧ ((2:Nat) = (2:Nat) ∨ (2:Nat) = (0:Nat)) ∧ (sOff p2 0) + (sLen p2 0)
  = List.length (oEs p2 0) ∧ (sLen p2 0) + (1:Nat) ≤ (1073741824:Nat)) (again3 ([AV.sref (0:Nat) ((sVer p2 0) + (1:Nat)) (0:Nat) ((sLen p2 0) + (1:Nat)), AV.t (tI (w64 ((vI p2 1) + (1:Int))))],
  [AObj.row false ((sVer p2 0) + (1:Nat)) (2:Nat) ((List.drop (sOff p2 0) (oEs p2 0)) ++ [[tI (gI y5 1), tI (gI y6 2)]])])) none) none) none) none) none) (again3 ([AV.sref (0:Nat) (sVer p2 0) (sOff p2
  0) (sLen p2 0), AV.t (tI (w64 ((vI p2 1) + (1:Int))))], [AObj.row false (oVer p2 0) (2:Nat) (oEs p2 0)]))) none) none) (cnd ((false = true ∨ false = false) ∧ oVer p2 0 = sVer p2 0 ∧ ((2:Nat) = (2:Nat)
  ∨ (2:Nat) = (0:Nat))) (some [Tree.sl (2:Nat) (List.take (sLen p2 0) (List.drop (sOff p2 0) (oEs p2 0)))]) none)) n ([AV.sref (0:Nat) (0:Nat) (0:Nat) (0:Nat), AV.t (tI (0:Int))], [AObj.row false
  (0:Nat) (2:Nat) []]) := by kernel_rfl

theorem e24 (n : Nat) (a0 : List (List Tree)) (a1 : Int) : apure C (n + 1) 24 [Tree.sl (2:Nat) a0, tI a1] =
  loopIter (fun (p2 : List AV × Heap) (again3 : _ → Option (List Tree)) => cnd (decide (vI p2 1 < ((List.length a0:Nat):Int)) = true) (cnd ((2:Nat) = (2:Nat) ∧ (0:Int) ≤ vI p2 1) (Option.bind
  a0[Int.toNat (vI p2 1)]? fun y4 => cnd (okI y4 0) (cnd (okI y4 1) (cnd (decide (gI y4 0 ≤ a1) = true) (cnd (decide (a1 < gI y4 1) = true) (again3 ([AV.t (tI (w64 ((vI p2 0) + (1:Int)))), AV.t (tI (w64
  ((vI p2 1) + (1:Int))))], [])) (again3 ([AV.t (tI (vI p2 0)), AV.t (tI (w64 ((vI p2 1) + (1:Int))))], []))) (again3 ([AV.t (tI (vI p2 0)), AV.t (tI (w64 ((vI p2 1) + (1:Int))))], []))) none) none)
  none) (some [tI (vI p2 0)])) n ([AV.t (tI (0:Int)), AV.t (tI (0:Int))], []) := by kernel_rfl

theorem e25 (n : Nat) (a0 : Int) (a1 : Int) (a2 : Int) (a3 : Int) (a4 : Int) (a5 : Int) (a6 : Int) (a7 : Int) : apure C (n + 1) 25 [tI a0, tI a1, tI a2, tI a3, tI a4, tI a5, tI a6, tI a7] =
  Option.bind (apure C n (50:Nat) [tI a0, tI a1, tI a2, tI a3, tI a4, tI a5, tI a6, tI a7]) fun y8 => cnd (List.length y8 = (1:Nat)) (cnd (okI y8 0) (cnd (((gI y8 0) != (0:Int)) = true) (some [tI
  (0:Int), tI (gI y8 0)]) (Option.bind (apure C n (51:Nat) [tI a0, tI a1, tI a2, tI a3, tI a4, tI a5, tI a6, tI a7]) fun y9 => cnd (List.length y9 = (1:Nat)) (cnd (okI y9 0) (some [tI (gI y9 0), tI
  (0:Int)]) none) none)) none) none := by kernel_rfl

theorem e26 (n : Nat) (a0 : List (List Tree)) (a1 : List (List Tree)) (a2 : List (List Tree)) (a3 : Int) (a4 : Int) (a5 : Int) (a6 : Int) : apure C (n + 1) 26 [Tree.sl (1:Nat) a0, Tree.sl (7:Nat) a1, Tree.sl (4:Nat) a2, tI a3, tI a4, tI a5, tI a6] =
  Option.bind (apure C n (19:Nat) [Tree.sl (1:Nat) a0, Tree.sl (7:Nat) a1, Tree.sl (4:Nat) a2]) fun y7 => cnd (List.length y7 = (1:Nat)) (cnd (okI y7 0) (cnd (((gI y7 0) != (0:Int)) = true) (some
  [Tree.sl (4:Nat) [], tI (1:Int)]) (Option.bind (apure C n (46:Nat) [Tree.sl (1:Nat) a0, Tree.sl (7:Nat) a1, tI a3, tI a4, tI a5, tI a6]) fun y8 => cnd (List.length y8 = (1:Nat)) (cnd (okB y8 0) (cnd
  ((!(gB y8 0)) = true) (some [Tree.sl (4:Nat) [], tI (2:Int)]) (cnd ((((List.length a2:Nat):Int) == (512:Int)) = true) (some [Tree.sl (4:Nat) [], tI (4:Int)]) (Option.bind (apure C n (22:Nat) [Tree.sl
  (4:Nat) a2, tI a3]) fun y9 => cnd (List.length y9 = (1:Nat)) (cnd (okL 2 y9 0) (loopIter (fun (p10 : List AV × Heap) (again11 : _ → Option (List Tree)) => cnd (decide (vI p10 0 < ((List.length (gL y9
  0):Nat):Int)) = true) (cnd ((2:Nat) = (2:Nat) ∧ (0:Int) ≤ vI p10 0) (Option.bind (gL y9 0)[Int.toNat (vI p10 0)]? fun y12 => cnd (okI y12 0) (cnd (okI y12 1) (cnd (decide (gI y12 0 < a5) = true) (cnd
  (decide (a4 < gI y12 1) = true) (cnd (decide (vI p10 0 ≥ (0:Int)) = true) (some [Tree.sl (4:Nat) [], tI (14:Int)]) (Option.bind (apure C n (54:Nat) [Tree.sl (4:Nat) a2, tI a3, tI a4, tI a5, tI a6])
  fun y13 => cnd (List.length y13 = (1:Nat)) (cnd (okL 4 y13 0) (some [Tree.sl (4:Nat) (gL y13 0), tI (0:Int)]) none) none)) (again11 ([AV.t (tI (w64 ((vI p10 0) + (1:Int))))], []))) (again11 ([AV.t (tI
  (w64 ((vI p10 0) + (1:Int))))], []))) none) none) none) (Option.bind (apure C n (54:Nat) [Tree.sl (4:Nat) a2, tI a3, tI a4, tI a5, tI a6]) fun y14 => cnd (List.length y14 = (1:Nat)) (cnd (okL 4 y14 0)
  (some [Tree.sl (4:Nat) (gL y14 0), tI (0:Int)]) none) none)) n ([AV.t (tI (0:Int))], [])) none) none))) none) none)) none) none := by kernel_rfl

theorem e27 (n : Nat) (a0 : List (List Tree)) (a1 : List (List Tree)) (a2 : List (List Tree)) (a3 : Int) (a4 : Int) : apure C (n + 1) 27 [Tree.sl (1:Nat) a0, Tree.sl (7:Nat) a1, Tree.sl (4:Nat) a2, tI a3, tI a4] =
  Option.bind (apure C n (39:Nat) [Tree.sl (1:Nat) a0, Tree.sl (7:Nat) a1, Tree.sl (4:Nat) a2, tI a3]) fun y5 => cnd (List.length y5 = (1:Nat)) (cnd (okI y5 0) (cnd (((gI y5 0) != (0:Int)) = true) (some
  [Tree.sl (4:Nat) [], tI (gI y5 0)]) (Option.bind (apure C n (40:Nat) [Tree.sl (1:Nat) a0, Tree.sl (7:Nat) a1, Tree.sl (4:Nat) a2, tI a3, tI a4]) fun y6 => cnd (List.length y6 = (1:Nat)) (cnd (okL 2 y6
  0) (cnd (decide (w64 (((List.length a2:Nat):Int) + ((List.length (gL y6 0):Nat):Int)) > (512:Int)) = true) (some [Tree.sl (4:Nat) [], tI (4:Int)]) (loopIter (fun (p7 : List AV × Heap) (again8 : _ →
  Option (List Tree)) => cnd (decide (vI p7 1 < ((List.length (gL y6 0):Nat):Int)) = true) (cnd ((2:Nat) = (2:Nat) ∧ (0:Int) ≤ vI p7 1) (Option.bind (gL y6 0)[Int.toNat (vI p7 1)]? fun y9 => cnd (okI y9
  0) (cnd (okI y9 1) (Option.bind (apure C n (54:Nat) [Tree.sl (4:Nat) (vL p7 0), tI a3, tI (gI y9 0), tI (gI y9 1), tI (0:Int)]) fun y10 => cnd (List.length y10 = (1:Nat)) (cnd (okL 4 y10 0) (again8
  ([AV.t (Tree.sl (4:Nat) (gL y10 0)), AV.t (tI (w64 ((vI p7 1) + (1:Int))))], [])) none) none) none) none) none) (some [Tree.sl (4:Nat) (vL p7 0), tI (0:Int)])) n ([AV.t (Tree.sl (4:Nat) a2), AV.t (tI
  (0:Int))], []))) none) none)) none) none := by kernel_rfl

theorem e28 (n : Nat) (a0 : List (List Tree)) (a1 : List (List Tree)) : apure C (n + 1) 28 [Tree.sl (4:Nat) a0, Tree.sl (4:Nat) a1] =
  cnd ((((List.length a0:Nat):Int) != ((List.length a1:Nat):Int)) = true) (some [Tree.bool false]) (loopIter (fun (p2 : List AV × Heap) (again3 : _ → Option (List Tree)) => cnd (decide (vI p2 0 <
  ((List.length a0:Nat):Int)) = true) (cnd ((4:Nat) = (4:Nat) ∧ (0:Int) ≤ vI p2 0) (Option.bind a0[Int.toNat (vI p2 0)]? fun y4 => cnd (okI y4 0) (cnd (okI y4 1) (cnd (okI y4 2) (cnd (okI y4 3) (cnd
  ((4:Nat) = (4:Nat) ∧ (0:Int) ≤ vI p2 0) (Option.bind a1[Int.toNat (vI p2 0)]? fun y5 => cnd (okI y5 0) (cnd (okI y5 1) (cnd (okI y5 2) (cnd (okI y5 3) (cnd ((!(((((gI y4 0) == (gI y5 0)) && ((gI y4 1)
  == (gI y5 1))) && ((gI y4 2) == (gI y5 2))) && ((gI y4 3) == (gI y5 3)))) = true) (some [Tree.bool false]) (again3 ([AV.t (tI (w64 ((vI p2 0) + (1:Int))))], []))) none) none) none) none) none) none)
  none) none) none) none) (some [Tree.bool true])) n ([AV.t (tI (0:Int))], [])) := by kernel_rfl

theorem e29 (n : Nat) (a0 : List (List Tree)) (a1 : Int) (a2 : Int) (a3 : Int) (a4 : Int) : apure C (n + 1) 29 [Tree.sl (4:Nat) a0, tI a1, tI a2, tI a3, tI a4] =
  Option.bind (apure C n (55:Nat) [Tree.sl (4:Nat) a0, tI a1, tI a2, tI a3, tI a4]) fun y5 => cnd (List.length y5 = (1:Nat)) (cnd (okI y5 0) (some [Tree.bool (decide (gI y5 0 ≥ (0:Int)))]) none) none := by kernel_rfl

theorem e30 (n : Nat) (a0 : List (List Tree)) (a1 : List (List Tree)) (a2 : List (List Tree)) (a3 : Int) (a4 : Int) (a5 : Int) (a6 : Int) : apure C (n + 1) 30 [Tree.sl (1:Nat) a0, Tree.sl (7:Nat) a1, Tree.sl (4:Nat) a2, tI a3, tI a4, tI a5, tI a6] =
  Option.bind (apure C n (20:Nat) [Tree.sl (1:Nat) a0, Tree.sl (7:Nat) a1, Tree.sl (4:Nat) a2]) fun y7 => cnd (List.length y7 = (1:Nat)) (cnd (okI y7 0) (cnd (((gI y7 0) != (0:Int)) = true) (some
  [Tree.sl (4:Nat) [], tI (1:Int)]) (Option.bind (apure C n (49:Nat) [Tree.sl (1:Nat) a0, Tree.sl (7:Nat) a1, tI a3, tI a4, tI a5, tI a6]) fun y8 => cnd (List.length y8 = (1:Nat)) (cnd (okB y8 0) (cnd
  ((!(gB y8 0)) = true) (some [Tree.sl (4:Nat) [], tI (2:Int)]) (cnd (decide (((List.length a2:Nat):Int) ≥ (512:Int)) = true) (some [Tree.sl (4:Nat) [], tI (4:Int)]) (loopIter (fun (p9 : List AV × Heap)
  (again10 : _ → Option (List Tree)) => cnd (decide (vI p9 0 < ((List.length a2:Nat):Int)) = true) (cnd ((4:Nat) = (4:Nat) ∧ (0:Int) ≤ vI p9 0) (Option.bind a2[Int.toNat (vI p9 0)]? fun y11 => cnd (okI
  y11 0) (cnd (((gI y11 0) == a3) = true) (cnd ((4:Nat) = (4:Nat) ∧ (0:Int) ≤ vI p9 0) (Option.bind a2[Int.toNat (vI p9 0)]? fun y12 => cnd (okI y12 1) (cnd (decide (gI y12 1 < a5) = true) (cnd ((4:Nat)
  = (4:Nat) ∧ (0:Int) ≤ vI p9 0) (Option.bind a2[Int.toNat (vI p9 0)]? fun y13 => cnd (okI y13 2) (cnd (decide (a4 < gI y13 2) = true) (some [Tree.sl (4:Nat) [], tI (14:Int)]) (again10 ([AV.t (tI (w64
  ((vI p9 0) + (1:Int))))], []))) none) none) (again10 ([AV.t (tI (w64 ((vI p9 0) + (1:Int))))], []))) none) none) (again10 ([AV.t (tI (w64 ((vI p9 0) + (1:Int))))], []))) none) none) (Option.bind
  (apure C n (56:Nat) [Tree.sl (4:Nat) a2, tI a3, tI a4, tI a5, tI a6]) fun y14 => cnd (List.length y14 = (1:Nat)) (cnd (okL 4 y14 0) (some [Tree.sl (4:Nat) (gL y14 0), tI (0:Int)]) none) none)) n
  ([AV.t (tI (0:Int))], [])))) none) none)) none) none := by kernel_rfl

theorem e31 (n : Nat) (a0 : List (List Tree)) (a1 : List (List Tree)) (a2 : List (List Tree)) (a3 : Int) (a4 : Int) : apure C (n + 1) 31 [Tree.sl (1:Nat) a0, Tree.sl (7:Nat) a1, Tree.sl (4:Nat) a2, tI a3, tI a4] =
  Option.bind (apure C n (41:Nat) [Tree.sl (1:Nat) a0, Tree.sl (7:Nat) a1, Tree.sl (4:Nat) a2, tI a3]) fun y5 => cnd (List.length y5 = (1:Nat)) (cnd (okI y5 0) (cnd (((gI y5 0) != (0:Int)) = true) (some
  [Tree.sl (4:Nat) [], tI (gI y5 0)]) (Option.bind (apure C n (43:Nat) [Tree.sl (1:Nat) a0, Tree.sl (7:Nat) a1, Tree.sl (4:Nat) a2, tI a3]) fun y6 => cnd (List.length y6 = (1:Nat)) (cnd (okL 2 y6 0)
  (loopIter (fun (p7 : List AV × Heap) (again8 : _ → Option (List Tree)) => cnd (decide (vI p7 1 < ((List.length (gL y6 0):Nat):Int)) = true) (cnd ((2:Nat) = (2:Nat) ∧ (0:Int) ≤ vI p7 1) (Option.bind
  (gL y6 0)[Int.toNat (vI p7 1)]? fun y9 => cnd (okI y9 1) (cnd (decide (gI y9 1 ≤ a4) = true) (again8 ([AV.t (Tree.sl (4:Nat) (vL p7 0)), AV.t (tI (w64 ((vI p7 1) + (1:Int))))], [])) (cnd ((2:Nat) =
  (2:Nat) ∧ (0:Int) ≤ vI p7 1) (Option.bind (gL y6 0)[Int.toNat (vI p7 1)]? fun y10 => cnd (okI y10 0) (cnd (decide (gI y10 0 < a4) = true) (cnd ((2:Nat) = (2:Nat) ∧ (0:Int) ≤ vI p7 1) (Option.bind (gL
  y6 0)[Int.toNat (vI p7 1)]? fun y11 => cnd (okI y11 1) (Option.bind (apure C n (56:Nat) [Tree.sl (4:Nat) (vL p7 0), tI a3, tI a4, tI (gI y11 1), tI (0:Int)]) fun y12 => cnd (List.length y12 = (1:Nat))
  (cnd (okL 4 y12 0) (again8 ([AV.t (Tree.sl (4:Nat) (gL y12 0)), AV.t (tI (w64 ((vI p7 1) + (1:Int))))], [])) none) none) none) none) (cnd ((2:Nat) = (2:Nat) ∧ (0:Int) ≤ vI p7 1) (Option.bind (gL y6
  0)[Int.toNat (vI p7 1)]? fun y13 => cnd (okI y13 1) (Option.bind (apure C n (56:Nat) [Tree.sl (4:Nat) (vL p7 0), tI a3, tI (gI y10 0), tI (gI y13 1), tI (0:Int)]) fun y14 => cnd (List.length y14 =
  (1:Nat)) (cnd (okL 4 y14 0) (again8 ([AV.t (Tree.sl (4:Nat) (gL y14 0)), AV.t (tI (w64 ((vI p7 1) + (1:Int))))], [])) none) none) none) none)) none) none)) none) none) (cnd (decide (((List.length (vL
  p7 0):Nat):Int) > (512:Int)) = true) (some [Tree.sl (4:Nat) [], tI (4:Int)]) (some [Tree.sl (4:Nat) (vL p7 0), tI (0:Int)]))) n ([AV.t (Tree.sl (4:Nat) a2), AV.t (tI (0:Int))], [])) none) none)) none)
  none := by kernel_rfl

theorem e32 (n : Nat) (a0 : List (List Tree)) (a1 : List (List Tree)) : apure C (n + 1) 32 [Tree.sl (4:Nat) a0, Tree.sl (4:Nat) a1] =
  cnd ((((List.length a0:Nat):Int) != ((List.length a1:Nat):Int)) = true) (some [Tree.bool false]) (loopIter (fun (p2 : List AV × Heap) (again3 : _ → Option (List Tree)) => cnd (decide (vI p2 0 <
  ((List.length a0:Nat):Int)) = true) (cnd ((4:Nat) = (4:Nat) ∧ (0:Int) ≤ vI p2 0) (Option.bind a0[Int.toNat (vI p2 0)]? fun y4 => cnd (okI y4 0) (cnd (okI y4 1) (cnd (okI y4 2) (cnd (okI y4 3) (cnd
  ((4:Nat) = (4:Nat) ∧ (0:Int) ≤ vI p2 0) (Option.bind a1[Int.toNat (vI p2 0)]? fun y5 => cnd (okI y5 0) (cnd (okI y5 1) (cnd (okI y5 2) (cnd (okI y5 3) (cnd ((!(((((gI y4 0) == (gI y5 0)) && ((gI y4 1)
  == (gI y5 1))) && ((gI y4 2) == (gI y5 2))) && ((gI y4 3) == (gI y5 3)))) = true) (some [Tree.bool false]) (again3 ([AV.t (tI (w64 ((vI p2 0) + (1:Int))))], []))) none) none) none) none) none) none)
  none) none) none) none) (some [Tree.bool true])) n ([AV.t (tI (0:Int))], [])) := by kernel_rfl

theorem e33 (n : Nat) (a0 : List (List Tree)) (a1 : Int) : apure C (n + 1) 33 [Tree.sl (4:Nat) a0, tI a1] =
  Option.bind (apure C n (1000058:Nat) [Tree.sl (4:Nat) a0]) fun y2 => cnd (List.length y2 = (1:Nat) ∧ okL 4 y2 0) (loopIter (fun (p3 : List AV × Heap) (again4 : _ → Option (List Tree)) => cnd (decide
  (vI p3 0 < ((List.length (gL y2 0):Nat):Int)) = true) (cnd (oVer p3 0 = (0:Nat) ∧ (4:Nat) = (4:Nat) ∧ (0:Int) ≤ vI p3 0 ∧ vI p3 0 < ((List.length (gL y2 0):Nat):Int)) (cnd (oVer p3 0 = (0:Nat))
  (Option.bind (oEs p3 0)[(0:Nat) + (Int.toNat (vI p3 0))]? fun y5 => cnd (okI y5 0) (cnd (okI y5 1) (cnd (okI y5 2) (cnd (okI y5 3) (cnd (((gI y5 3) == a1) = true) (cnd (((vI p3 0) == (-1:Int)) = true)
  (cnd ((false = true ∨ false = false) ∧ oVer p3 0 = (0:Nat) ∧ ((4:Nat) = (4:Nat) ∨ (4:Nat) = (0:Nat))) (some [Tree.sl (4:Nat) (List.take (List.length (gL y2 0)) (oEs p3 0))]) none) (loopIter (fun (p6 :
  List AV × Heap) (again7 : _ → Option (List Tree)) => cnd (oVer p6 0 = (0:Nat)) (cnd (decide (vI p6 1 < ((List.length (gL y2 0):Nat):Int)) = true) (cnd (oVer p6 0 = (0:Nat) ∧ (4:Nat) = (4:Nat) ∧
  (0:Int) ≤ vI p6 1 ∧ vI p6 1 < ((List.length (gL y2 0):Nat):Int)) (cnd (oVer p6 0 = (0:Nat)) (Option.bind (oEs p6 0)[(0:Nat) + (Int.toNat (vI p6 1))]? fun y8 => cnd (okI y8 0) (cnd (okI y8 1) (cnd (okI
  y8 2) (cnd (okI y8 3) (cnd ((!((gI y8 3) == a1)) = true) (cnd (oVer p6 0 = (0:Nat) ∧ (4:Nat) = (4:Nat) ∧ (0:Int) ≤ vI p6 0 ∧ vI p6 0 < ((List.length (gL y2 0):Nat):Int)) (cnd (oVer p6 0 = (0:Nat) ∧
  (4:Nat) ≤ (4:Nat)) (Option.bind (oEs p6 0)[(0:Nat) + (Int.toNat (vI p6 0))]? fun y9 => again7 ([AV.t (tI (w64 ((vI p6 0) + (1:Int)))), AV.t (tI (w64 ((vI p6 1) + (1:Int))))], [AObj.row false (0:Nat)
  (4:Nat) (List.set (oEs p6 0) ((0:Nat) + (Int.toNat (vI p6 0))) ([tI (gI y8 0), tI (gI y8 1), tI (gI y8 2), tI (gI y8 3)] ++ List.drop (4:Nat) y9))])) none) none) (again7 ([AV.t (tI (vI p6 0)), AV.t
  (tI (w64 ((vI p6 1) + (1:Int))))], [AObj.row false (oVer p6 0) (4:Nat) (oEs p6 0)]))) none) none) none) none) none) none) (cnd (oVer p6 0 = (0:Nat) ∧ ((4:Nat) = (4:Nat) ∨ (4:Nat) = (0:Nat))) (cnd
  ((0:Int) ≤ vI p6 0 ∧ vI p6 0 ≤ ((List.length (gL y2 0):Nat):Int)) (cnd (Int.toNat (vI p6 0) < List.length (oEs p6 0) ∨ Int.toNat (vI p6 0) = (0:Nat)) (cnd (oVer p6 0 = (0:Nat) ∧ (4:Nat) = (4:Nat))
  (cnd ((0:Int) ≤ vI p6 0 ∧ vI p6 0 ≤ ((List.length (rowSet (oEs p6 0) ((0:Nat) + (Int.toNat (vI p6 0))) (List.replicate ((List.length (gL y2 0)) - (Int.toNat (vI p6 0))) [tI (0:Int), tI (0:Int), tI
  (0:Int), tI (0:Int)])):Nat):Int)) (cnd ((0:Nat) < List.length (rowSet (oEs p6 0) ((0:Nat) + (Int.toNat (vI p6 0))) (List.replicate ((List.length (gL y2 0)) - (Int.toNat (vI p6 0))) [tI (0:Int), tI
  (0:Int), tI (0:Int), tI (0:Int)])) ∨ (0:Nat) = (0:Nat)) (some [Tree.sl (4:Nat) (List.take (Int.toNat (vI p6 0)) (rowSet (oEs p6 0) ((0:Nat) + (Int.toNat (vI p6 0))) (List.replicate ((List.length (gL
  y2 0)) - (Int.toNat (vI p6 0))) [tI (0:Int), tI (0:Int), tI (0:Int), tI (0:Int)])))]) (some [Tree.sl (4:Nat) []])) none) none) (cnd (oVer p6 0 = (0:Nat) ∧ ((4:Nat) = (4:Nat) ∨ (4:Nat) = (0:Nat))) (cnd
  ((0:Int) ≤ vI p6 0 ∧ vI p6 0 ≤ ((List.length (oEs p6 0):Nat):Int)) (cnd ((0:Nat) < List.length (oEs p6 0) ∨ (0:Nat) = (0:Nat)) (cnd ((false = true ∨ false = false) ∧ oVer p6 0 = (0:Nat) ∧ ((4:Nat) =
  (4:Nat) ∨ (4:Nat) = (0:Nat))) (some [Tree.sl (4:Nat) (List.take (Int.toNat (vI p6 0)) (oEs p6 0))]) none) (some [Tree.sl (4:Nat) []])) none) none)) none) none)) none) n ([AV.t (tI (vI p3 0)), AV.t (tI
  (w64 ((vI p3 0) + (1:Int))))], [AObj.row false (oVer p3 0) (4:Nat) (oEs p3 0)]))) (again4 ([AV.t (tI (w64 ((vI p3 0) + (1:Int))))], [AObj.row false (oVer p3 0) (4:Nat) (oEs p3 0)]))) none) none) none)
  none) none) none) (cnd ((false = true ∨ false = false) ∧ oVer p3 0 = (0:Nat) ∧ ((4:Nat) = (4:Nat) ∨ (4:Nat) = (0:Nat))) (some [Tree.sl (4:Nat) (List.take (List.length (gL y2 0)) (oEs p3 0))]) none)) n
  ([AV.t (tI (0:Int))], [AObj.row false (0:Nat) (4:Nat) (gL y2 0)])) none := by kernel_rfl

theorem e34 (n : Nat) (a0 : List (List Tree)) (a1 : Int) : apure C (n + 1) 34 [Tree.sl (4:Nat) a0, tI a1] =
  loopIter (fun (p2 : List AV × Heap) (again3 : _ → Option (List Tree)) => cnd (decide (vI p2 1 < ((List.length a0:Nat):Int)) = true) (cnd ((4:Nat) = (4:Nat) ∧ (0:Int) ≤ vI p2 1) (Option.bind
  a0[Int.toNat (vI p2 1)]? fun y4 => cnd (okI y4 3) (cnd (((gI y4 3) != a1) = true) (cnd ((4:Nat) = (4:Nat) ∧ (0:Int) ≤ vI p2 1) (Option.bind a0[Int.toNat (vI p2 1)]? fun y5 => cnd (okI y5 0) (cnd (okI
  y5 1) (cnd (okI y5 2) (cnd (okI y5 3) (cnd (oVer p2 0 = sVer p2 0 ∧ ((4:Nat) = (4:Nat) ∨ (4:Nat) = (0:Nat)) ∧ (sOff p2 0) + (sLen p2 0) = List.length (oEs p2 0) ∧ (sLen p2 0) + (1:Nat) ≤
  (1073741824:Nat)) (again3 ([AV.sref (0:Nat) ((sVer p2 0) + (1:Nat)) (0:Nat) ((sLen p2 0) + (1:Nat)), AV.t (tI (w64 ((vI p2 1) + (1:Int))))], [AObj.row false ((sVer p2 0) + (1:Nat)) (4:Nat) ((List.drop
  (sOff p2 0) (oEs p2 0)) ++ [[tI (gI y5 0), tI (gI y5 1), tI (gI y5 2), tI (gI y5 3)]])])) none) none) none) none) none) none) (again3 ([AV.sref (0:Nat) (sVer p2 0) (sOff p2 0) (sLen p2 0), AV.t (tI
  (w64 ((vI p2 1) + (1:Int))))], [AObj.row false (oVer p2 0) (4:Nat) (oEs p2 0)]))) none) none) (cnd ((false = true ∨ false = false) ∧ oVer p2 0 = sVer p2 0 ∧ ((4:Nat) = (4:Nat) ∨ (4:Nat) = (0:Nat)))
  (some [Tree.sl (4:Nat) (List.take (sLen p2 0) (List.drop (sOff p2 0) (oEs p2 0)))]) none)) n ([AV.sref (0:Nat) (0:Nat) (0:Nat) (0:Nat), AV.t (tI (0:Int))], [AObj.row false (0:Nat) (4:Nat) []]) := by kernel_rfl

theorem e37 (n : Nat) (a0 : List (List Tree)) (a1 : List (List Tree)) : apure C (n + 1) 37 [Tree.sl (1:Nat) a0, Tree.sl (7:Nat) a1] =
  cnd (decide (((List.length a0:Nat):Int) > (6:Int)) = true) (some [Tree.bool true]) (some [Tree.bool (decide (((List.length a1:Nat):Int) > (10:Int)))]) := by kernel_rfl

theorem e38 (n : Nat)  : apure C (n + 1) 38 [] =
  some [Tree.sl (1:Nat) [[tI (100:Int)], [tI (100:Int)]], Tree.sl (7:Nat) [[tI (0:Int), tI (1:Int), tI (0:Int), tI (100:Int), tI (8:Int), tI (5:Int), tI (0:Int)]], Tree.sl (4:Nat) [[tI (0:Int), tI
  (10:Int), tI (20:Int), tI (1:Int)]]] := by kernel_rfl

theorem e39 (n : Nat) (a0 : List (List Tree)) (a1 : List (List Tree)) (a2 : List (List Tree)) (a3 : Int) : apure C (n + 1) 39 [Tree.sl (1:Nat) a0, Tree.sl (7:Nat) a1, Tree.sl (4:Nat) a2, tI a3] =
  Option.bind (apure C n (19:Nat) [Tree.sl (1:Nat) a0, Tree.sl (7:Nat) a1, Tree.sl (4:Nat) a2]) fun y4 => cnd (List.length y4 = (1:Nat)) (cnd (okI y4 0) (cnd (((gI y4 0) != (0:Int)) = true) (some [tI
  (1:Int)]) (cnd (decide (a3 < (0:Int)) = true) (some [tI (2:Int)]) (cnd (decide (a3 ≥ ((List.length a1:Nat):Int)) = true) (some [tI (2:Int)]) (some [tI (0:Int)])))) none) none := by kernel_rfl

theorem e40 (n : Nat) (a0 : List (List Tree)) (a1 : List (List Tree)) (a2 : List (List Tree)) (a3 : Int) (a4 : Int) : apure C (n + 1) 40 [Tree.sl (1:Nat) a0, Tree.sl (7:Nat) a1, Tree.sl (4:Nat) a2, tI a3, tI a4] =
  cnd ((7:Nat) = (7:Nat) ∧ (0:Int) ≤ a3) (Option.bind a1[Int.toNat a3]? fun y5 => cnd (okI y5 0) (cnd (okI y5 1) (cnd (okI y5 2) (cnd (okI y5 3) (cnd (okI y5 4) (cnd (okI y5 5) (cnd (okI y5 6)
  (Option.bind (apure C n (22:Nat) [Tree.sl (4:Nat) a2, tI a3]) fun y6 => cnd (List.length y6 = (1:Nat)) (cnd (okL 2 y6 0) (loopIter (fun (p7 : List AV × Heap) (again8 : _ → Option (List Tree)) => cnd
  (decide (vI p7 0 < ((List.length (gL y6 0):Nat):Int)) = true) (cnd ((2:Nat) = (2:Nat) ∧ (0:Int) ≤ vI p7 0) (Option.bind (gL y6 0)[Int.toNat (vI p7 0)]? fun y9 => cnd (okI y9 0) (cnd (okI y9 1) (cnd
  (decide (cI p7 3 0 < gI y9 0) = true) (cnd (oVer p7 1 = cVer p7 2 0 ∧ ((2:Nat) = (2:Nat) ∨ (2:Nat) = (0:Nat)) ∧ (cOff p7 2 0) + (cLen p7 2 0) = List.length (oEs p7 1) ∧ (cLen p7 2 0) + (1:Nat) ≤
  (1073741824:Nat)) (again8 ([AV.t (tI (w64 ((vI p7 0) + (1:Int))))], [AObj.box [], AObj.row false ((cVer p7 2 0) + (1:Nat)) (2:Nat) ((List.drop (cOff p7 2 0) (oEs p7 1)) ++ [[tI (cI p7 3 0), tI (gI y9
  0)]]), AObj.box [AV.sref (1:Nat) ((cVer p7 2 0) + (1:Nat)) (0:Nat) ((cLen p7 2 0) + (1:Nat))], AObj.box [AV.t (tI (if gI y9 1 > cI p7 3 0 then gI y9 1 else cI p7 3 0))]])) none) (again8 ([AV.t (tI
  (w64 ((vI p7 0) + (1:Int))))], [AObj.box [], AObj.row false (oVer p7 1) (2:Nat) (oEs p7 1), AObj.box [AV.sref (1:Nat) (cVer p7 2 0) (cOff p7 2 0) (cLen p7 2 0)], AObj.box [AV.t (tI (if gI y9 1 > cI p7
  3 0 then gI y9 1 else cI p7 3 0))]]))) none) none) none) (cnd (decide (cI p7 3 0 < gI y5 3) = true) (cnd (oVer p7 1 = cVer p7 2 0 ∧ ((2:Nat) = (2:Nat) ∨ (2:Nat) = (0:Nat)) ∧ (cOff p7 2 0) + (cLen p7 2
  0) = List.length (oEs p7 1) ∧ (cLen p7 2 0) + (1:Nat) ≤ (1073741824:Nat)) (cnd ((false = true ∨ false = false) ∧ (cVer p7 2 0) + (1:Nat) = (cVer p7 2 0) + (1:Nat) ∧ ((2:Nat) = (2:Nat) ∨ (2:Nat) =
  (0:Nat))) (some [Tree.sl (2:Nat) (List.take ((cLen p7 2 0) + (1:Nat)) ((List.drop (cOff p7 2 0) (oEs p7 1)) ++ [[tI (cI p7 3 0), tI (gI y5 3)]]))]) none) none) (cnd ((false = true ∨ false = false) ∧
  oVer p7 1 = cVer p7 2 0 ∧ ((2:Nat) = (2:Nat) ∨ (2:Nat) = (0:Nat))) (some [Tree.sl (2:Nat) (List.take (cLen p7 2 0) (List.drop (cOff p7 2 0) (oEs p7 1)))]) none))) n ([AV.t (tI (0:Int))], [AObj.box [],
  AObj.row false (0:Nat) (2:Nat) [], AObj.box [AV.sref (1:Nat) (0:Nat) (0:Nat) (0:Nat)], AObj.box [AV.t (tI (if a4 > gI y5 2 then a4 else gI y5 2))]])) none) none) none) none) none) none) none) none)
  none) none := by kernel_rfl

theorem e41 (n : Nat) (a0 : List (List Tree)) (a1 : List (List Tree)) (a2 : List (List Tree)) (a3 : Int) : apure C (n + 1) 41 [Tree.sl (1:Nat) a0, Tree.sl (7:Nat) a1, Tree.sl (4:Nat) a2, tI a3] =
  Option.bind (apure C n (20:Nat) [Tree.sl (1:Nat) a0, Tree.sl (7:Nat) a1, Tree.sl (4:Nat) a2]) fun y4 => cnd (List.length y4 = (1:Nat)) (cnd (okI y4 0) (cnd (((gI y4 0) != (0:Int)) = true) (some [tI
  (1:Int)]) (cnd (decide (a3 < (0:Int)) = true) (some [tI (2:Int)]) (cnd (decide (a3 ≥ ((List.length a1:Nat):Int)) = true) (some [tI (2:Int)]) (some [tI (0:Int)])))) none) none := by kernel_rfl

theorem e42 (n : Nat) (a0 : List (List Tree)) (a1 : Int) (a2 : Int) : apure C (n + 1) 42 [Tree.sl (2:Nat) a0, tI a1, tI a2] =
  loopIter (fun (p3 : List AV × Heap) (again4 : _ → Option (List Tree)) => cnd (decide (vI p3 0 < ((List.length a0:Nat):Int)) = true) (cnd ((2:Nat) = (2:Nat) ∧ (0:Int) ≤ vI p3 0) (Option.bind
  a0[Int.toNat (vI p3 0)]? fun y5 => cnd (okI y5 0) (cnd (decide (gI y5 0 < a1) = true) (cnd ((2:Nat) = (2:Nat) ∧ (0:Int) ≤ vI p3 0) (Option.bind a0[Int.toNat (vI p3 0)]? fun y6 => cnd (okI y6 1) (cnd
  (decide (w64 (a1 + a2) ≤ gI y6 1) = true) (cnd ((2:Nat) = (2:Nat) ∧ (0:Int) ≤ vI p3 0) (Option.bind a0[Int.toNat (vI p3 0)]? fun y7 => cnd (okI y7 1) (cnd (decide (a1 < gI y7 1) = true) (some [tI a1])
  (again4 ([AV.t (tI (w64 ((vI p3 0) + (1:Int))))], []))) none) none) (again4 ([AV.t (tI (w64 ((vI p3 0) + (1:Int))))], []))) none) none) (cnd ((2:Nat) = (2:Nat) ∧ (0:Int) ≤ vI p3 0) (Option.bind
  a0[Int.toNat (vI p3 0)]? fun y8 => cnd (okI y8 1) (cnd (decide (w64 ((gI y5 0) + a2) ≤ gI y8 1) = true) (cnd ((2:Nat) = (2:Nat) ∧ (0:Int) ≤ vI p3 0) (Option.bind a0[Int.toNat (vI p3 0)]? fun y9 => cnd
  (okI y9 1) (cnd (decide (gI y5 0 < gI y9 1) = true) (some [tI (gI y5 0)]) (again4 ([AV.t (tI (w64 ((vI p3 0) + (1:Int))))], []))) none) none) (again4 ([AV.t (tI (w64 ((vI p3 0) + (1:Int))))], [])))
  none) none)) none) none) (some [tI (-1:Int)])) n ([AV.t (tI (0:Int))], []) := by kernel_rfl

theorem e43 (n : Nat) (a0 : List (List Tree)) (a1 : List (List Tree)) (a2 : List (List Tree)) (a3 : Int) : apure C (n + 1) 43 [Tree.sl (1:Nat) a0, Tree.sl (7:Nat) a1, Tree.sl (4:Nat) a2, tI a3] =
  cnd ((7:Nat) = (7:Nat) ∧ (0:Int) ≤ a3) (Option.bind a1[Int.toNat a3]? fun y4 => cnd (okI y4 2) (Option.bind (apure C n (23:Nat) [Tree.sl (4:Nat) a2, tI a3]) fun y5 => cnd (List.length y5 = (1:Nat))
  (cnd (okL 2 y5 0) (loopIter (fun (p6 : List AV × Heap) (again7 : _ → Option (List Tree)) => cnd (decide (vI p6 2 < ((List.length (gL y5 0):Nat):Int)) = true) (cnd ((2:Nat) = (2:Nat) ∧ (0:Int) ≤ vI p6
  2) (Option.bind (gL y5 0)[Int.toNat (vI p6 2)]? fun y8 => cnd (okI y8 0) (cnd (decide (vI p6 1 < gI y8 0) = true) (cnd ((2:Nat) = (2:Nat) ∧ (0:Int) ≤ vI p6 2) (Option.bind (gL y5 0)[Int.toNat (vI p6
  2)]? fun y9 => cnd (okI y9 0) (cnd (oVer p6 0 = sVer p6 0 ∧ ((2:Nat) = (2:Nat) ∨ (2:Nat) = (0:Nat)) ∧ (sOff p6 0) + (sLen p6 0) = List.length (oEs p6 0) ∧ (sLen p6 0) + (1:Nat) ≤ (1073741824:Nat))
  (cnd ((2:Nat) = (2:Nat) ∧ (0:Int) ≤ vI p6 2) (Option.bind (gL y5 0)[Int.toNat (vI p6 2)]? fun y10 => cnd (okI y10 1) (again7 ([AV.sref (0:Nat) ((sVer p6 0) + (1:Nat)) (0:Nat) ((sLen p6 0) + (1:Nat)),
  AV.t (tI (gI y10 1)), AV.t (tI (w64 ((vI p6 2) + (1:Int))))], [AObj.row false ((sVer p6 0) + (1:Nat)) (2:Nat) ((List.drop (sOff p6 0) (oEs p6 0)) ++ [[tI (vI p6 1), tI (gI y9 0)]])])) none) none)
  none) none) none) (cnd ((2:Nat) = (2:Nat) ∧ (0:Int) ≤ vI p6 2) (Option.bind (gL y5 0)[Int.toNat (vI p6 2)]? fun y11 => cnd (okI y11 1) (again7 ([AV.sref (0:Nat) (sVer p6 0) (sOff p6 0) (sLen p6 0),
  AV.t (tI (gI y11 1)), AV.t (tI (w64 ((vI p6 2) + (1:Int))))], [AObj.row false (oVer p6 0) (2:Nat) (oEs p6 0)])) none) none)) none) none) (cnd ((7:Nat) = (7:Nat) ∧ (0:Int) ≤ a3) (Option.bind
  a1[Int.toNat a3]? fun y12 => cnd (okI y12 3) (cnd (decide (vI p6 1 < gI y12 3) = true) (cnd ((7:Nat) = (7:Nat) ∧ (0:Int) ≤ a3) (Option.bind a1[Int.toNat a3]? fun y13 => cnd (okI y13 3) (cnd (oVer p6 0
  = sVer p6 0 ∧ ((2:Nat) = (2:Nat) ∨ (2:Nat) = (0:Nat)) ∧ (sOff p6 0) + (sLen p6 0) = List.length (oEs p6 0) ∧ (sLen p6 0) + (1:Nat) ≤ (1073741824:Nat)) (cnd ((false = true ∨ false = false) ∧ (sVer p6
  0) + (1:Nat) = (sVer p6 0) + (1:Nat) ∧ ((2:Nat) = (2:Nat) ∨ (2:Nat) = (0:Nat))) (some [Tree.sl (2:Nat) (List.take ((sLen p6 0) + (1:Nat)) ((List.drop (sOff p6 0) (oEs p6 0)) ++ [[tI (vI p6 1), tI (gI
  y13 3)]]))]) none) none) none) none) (cnd ((false = true ∨ false = false) ∧ oVer p6 0 = sVer p6 0 ∧ ((2:Nat) = (2:Nat) ∨ (2:Nat) = (0:Nat))) (some [Tree.sl (2:Nat) (List.take (sLen p6 0) (List.drop
  (sOff p6 0) (oEs p6 0)))]) none)) none) none)) n ([AV.sref (0:Nat) (0:Nat) (0:Nat) (0:Nat), AV.t (tI (gI y4 2)), AV.t (tI (0:Int))], [AObj.row false (0:Nat) (2:Nat) []])) none) none) none) none := by kernel_rfl

theorem e44 (n : Nat) (a0 : Int) (a1 : Int) (a2 : Int) (a3 : Int) (a4 : Int) (a5 : Int) (a6 : Int) (a7 : Int) : apure C (n + 1) 44 [tI a0, tI a1, tI a2, tI a3, tI a4, tI a5, tI a6, tI a7] =
  Option.bind (apure C n (62:Nat) [tI a0, tI a1, tI a2, tI a3, tI a4, tI a5, tI a6, tI a7]) fun y8 => cnd (List.length y8 = (1:Nat)) (cnd (okI y8 0) (Option.bind (apure C n (63:Nat) [tI a0, tI a1, tI
  a2, tI a3, tI a4, tI a5, tI a6, tI (16:Int)]) fun y9 => cnd (List.length y9 = (1:Nat)) (cnd (okI y9 0) (some [tI (w64 ((gI y8 0) + (w64 (a6 * (w64 ((w64 ((w64 ((2:Int) * a5)) + (1:Int))) + (gI y9
  0)))))))]) none) none) none) none := by kernel_rfl

theorem e45 (n : Nat) (a0 : List (List Tree)) (a1 : List (List Tree)) : apure C (n + 1) 45 [Tree.sl (1:Nat) a0, Tree.sl (7:Nat) a1] =
  cnd (decide (((List.length a0:Nat):Int) < (1:Int)) = true) (some [tI (4:Int)]) (cnd (decide (((List.length a0:Nat):Int) > (16:Int)) = true) (some [tI (4:Int)]) (cnd (decide (((List.length a1:Nat):Int)
  > (64:Int)) = true) (some [tI (4:Int)]) (loopIter (fun (p2 : List AV × Heap) (again3 : _ → Option (List Tree)) => cnd (decide (vI p2 0 < ((List.length a0:Nat):Int)) = true) (cnd ((1:Nat) = (1:Nat) ∧
  (0:Int) ≤ vI p2 0) (Option.bind a0[Int.toNat (vI p2 0)]? fun y4 => cnd (okI y4 0) (cnd (decide (gI y4 0 < (0:Int)) = true) (some [tI (2:Int)]) (cnd (decide (gI y4 0 > (1073741824:Int)) = true) (some
  [tI (2:Int)]) (again3 ([AV.t (tI (w64 ((vI p2 0) + (1:Int))))], [])))) none) none) (loopIter (fun (p5 : List AV × Heap) (again6 : _ → Option (List Tree)) => cnd (decide (vI p5 0 < ((List.length
  a1:Nat):Int)) = true) (cnd ((7:Nat) = (7:Nat) ∧ (0:Int) ≤ vI p5 0) (Option.bind a1[Int.toNat (vI p5 0)]? fun y7 => cnd (okI y7 0) (cnd (okI y7 1) (cnd (okI y7 2) (cnd (okI y7 3) (cnd (okI y7 4) (cnd
  (okI y7 5) (cnd (okI y7 6) (Option.bind (apure C n (64:Nat) [tI (gI y7 0), tI (gI y7 1), tI (gI y7 2), tI (gI y7 3), tI (gI y7 4), tI (gI y7 5), tI (gI y7 6)]) fun y8 => cnd (List.length y8 = (1:Nat))
  (cnd (okI y8 0) (cnd (((gI y8 0) != (0:Int)) = true) (some [tI (gI y8 0)]) (cnd (decide (gI y7 0 ≥ ((List.length a0:Nat):Int)) = true) (some [tI (2:Int)]) (cnd (decide (gI y7 1 ≥ ((List.length
  a0:Nat):Int)) = true) (some [tI (2:Int)]) (cnd ((0:Int) ≤ vI p5 0 ∧ vI p5 0 ≤ ((List.length a1:Nat):Int)) (loopIter (fun (p9 : List AV × Heap) (again10 : _ → Option (List Tree)) => cnd (decide (vI p9
  0 < ((List.length (List.take (Int.toNat (vI p5 0)) a1):Nat):Int)) = true) (cnd ((7:Nat) = (7:Nat) ∧ (0:Int) ≤ vI p9 0) (Option.bind (List.take (Int.toNat (vI p5 0)) a1)[Int.toNat (vI p9 0)]? fun y11
  => cnd (okI y11 0) (cnd (okI y11 1) (cnd (okI y11 2) (cnd (okI y11 3) (cnd (okI y11 4) (cnd (okI y11 5) (cnd (okI y11 6) (Option.bind (apure C n (67:Nat) [tI (gI y7 0), tI (gI y7 1), tI (gI y7 2), tI
  (gI y7 3), tI (gI y7 4), tI (gI y7 5), tI (gI y7 6), tI (gI y11 0), tI (gI y11 1), tI (gI y11 2), tI (gI y11 3), tI (gI y11 4), tI (gI y11 5), tI (gI y11 6)]) fun y12 => cnd (List.length y12 =
  (1:Nat)) (cnd (okB y12 0) (cnd (gB y12 0 = true) (cnd (decide (vI p9 0 ≥ (0:Int)) = true) (some [tI (14:Int)]) (again6 ([AV.t (tI (w64 ((vI p5 0) + (1:Int))))], []))) (again10 ([AV.t (tI (w64 ((vI p9
  0) + (1:Int))))], [AObj.box []]))) none) none) none) none) none) none) none) none) none) none) (again6 ([AV.t (tI (w64 ((vI p5 0) + (1:Int))))], []))) n ([AV.t (tI (0:Int))], [AObj.box []])) none))))
  none) none) none) none) none) none) none) none) none) none) (some [tI (0:Int)])) n ([AV.t (tI (0:Int))], []))) n ([AV.t (tI (0:Int))], [])))) := by kernel_rfl

theorem e46 (n : Nat) (a0 : List (List Tree)) (a1 : List (List Tree)) (a2 : Int) (a3 : Int) (a4 : Int) (a5 : Int) : apure C (n + 1) 46 [Tree.sl (1:Nat) a0, Tree.sl (7:Nat) a1, tI a2, tI a3, tI a4, tI a5] =
  cnd (decide (a2 < (0:Int)) = true) (some [Tree.bool false]) (cnd (decide (a2 ≥ ((List.length a1:Nat):Int)) = true) (some [Tree.bool false]) (cnd (decide (a5 < (0:Int)) = true) (some [Tree.bool false])
  (cnd (decide (a5 > (1152921504606846976:Int)) = true) (some [Tree.bool false]) (cnd ((7:Nat) = (7:Nat) ∧ (0:Int) ≤ a2) (Option.bind a1[Int.toNat a2]? fun y6 => cnd (okI y6 0) (cnd (okI y6 1) (cnd (okI
  y6 2) (cnd (okI y6 3) (cnd (okI y6 4) (cnd (okI y6 5) (cnd (okI y6 6) (cnd (decide (a3 ≥ gI y6 2) = true) (cnd (decide (a3 < a4) = true) (some [Tree.bool (decide (a4 ≤ gI y6 3))]) (some [Tree.bool
  false])) (some [Tree.bool false])) none) none) none) none) none) none) none) none)))) := by kernel_rfl

theorem e47 (n : Nat) (a0 : Int) (a1 : Int) (a2 : Int) (a3 : Int) (a4 : Int) (a5 : Int) (a6 : Int) (a7 : Int) : apure C (n + 1) 47 [tI a0, tI a1, tI a2, tI a3, tI a4, tI a5, tI a6, tI a7] =
  Option.bind (apure C n (69:Nat) [tI a0, tI a4]) fun y8 => cnd (List.length y8 = (1:Nat)) (cnd (okI y8 0) (Option.bind (apure C n (69:Nat) [tI a1, tI a5]) fun y9 => cnd (List.length y9 = (1:Nat)) (cnd
  (okI y9 0) (Option.bind (apure C n (68:Nat) [Tree.sl (1:Nat) [[tI (gI y8 0)], [tI (gI y9 0)]]]) fun y10 => cnd (List.length y10 = (1:Nat)) (cnd (okI y10 0) (some [tI (gI y10 0)]) none) none) none)
  none) none) none := by kernel_rfl

theorem e48 (n : Nat) (a0 : List (List Tree)) (a1 : List (List Tree)) : apure C (n + 1) 48 [Tree.sl (1:Nat) a0, Tree.sl (7:Nat) a1] =
  cnd (decide (((List.length a0:Nat):Int) < (1:Int)) = true) (some [tI (4:Int)]) (cnd (decide (((List.length a0:Nat):Int) > (16:Int)) = true) (some [tI (4:Int)]) (cnd (decide (((List.length a1:Nat):Int)
  > (64:Int)) = true) (some [tI (4:Int)]) (loopIter (fun (p2 : List AV × Heap) (again3 : _ → Option (List Tree)) => cnd (decide (vI p2 0 < ((List.length a0:Nat):Int)) = true) (cnd ((1:Nat) = (1:Nat) ∧
  (0:Int) ≤ vI p2 0) (Option.bind a0[Int.toNat (vI p2 0)]? fun y4 => cnd (okI y4 0) (cnd (decide (gI y4 0 < (0:Int)) = true) (some [tI (2:Int)]) (cnd ((1:Nat) = (1:Nat) ∧ (0:Int) ≤ vI p2 0) (Option.bind
  a0[Int.toNat (vI p2 0)]? fun y5 => cnd (okI y5 0) (cnd (decide (gI y5 0 > (1073741824:Int)) = true) (some [tI (2:Int)]) (again3 ([AV.t (tI (w64 ((vI p2 0) + (1:Int))))], []))) none) none)) none) none)
  (loopIter (fun (p6 : List AV × Heap) (again7 : _ → Option (List Tree)) => cnd (decide (vI p6 0 < ((List.length a1:Nat):Int)) = true) (cnd ((7:Nat) = (7:Nat) ∧ (0:Int) ≤ vI p6 0) (Option.bind
  a1[Int.toNat (vI p6 0)]? fun y8 => cnd (okI y8 0) (cnd (okI y8 1) (cnd (okI y8 2) (cnd (okI y8 3) (cnd (okI y8 4) (cnd (okI y8 5) (cnd (okI y8 6) (Option.bind (apure C n (70:Nat) [tI (gI y8 0), tI (gI
  y8 1), tI (gI y8 2), tI (gI y8 3), tI (gI y8 4), tI (gI y8 5), tI (gI y8 6)]) fun y9 => cnd (List.length y9 = (1:Nat)) (cnd (okI y9 0) (cnd (((gI y9 0) != (0:Int)) = true) (some [tI (gI y9 0)]) (cnd
  (decide (gI y8 0 ≥ ((List.length a0:Nat):Int)) = true) (some [tI (2:Int)]) (cnd (decide (gI y8 1 ≥ ((List.length a0:Nat):Int)) = true) (some [tI (2:Int)]) (loopIter (fun (p10 : List AV × Heap)
  (again11 : _ → Option (List Tree)) => cnd (decide (vI p10 0 < vI p6 0) = true) (cnd ((7:Nat) = (7:Nat) ∧ (0:Int) ≤ vI p10 0) (Option.bind a1[Int.toNat (vI p10 0)]? fun y12 => cnd (okI y12 0) (cnd (okI
  y12 1) (cnd (okI y12 2) (cnd (okI y12 3) (cnd (okI y12 4) (cnd (okI y12 5) (cnd (okI y12 6) (Option.bind (apure C n (71:Nat) [tI (gI y12 0), tI (gI y12 1), tI (gI y12 2), tI (gI y12 3), tI (gI y12 4),
  tI (gI y12 5), tI (gI y12 6), tI (gI y8 0), tI (gI y8 1), tI (gI y8 2), tI (gI y8 3), tI (gI y8 4), tI (gI y8 5), tI (gI y8 6)]) fun y13 => cnd (List.length y13 = (1:Nat)) (cnd (okB y13 0) (cnd (gB
  y13 0 = true) (some [tI (14:Int)]) (again11 ([AV.t (tI (w64 ((vI p10 0) + (1:Int))))], [AObj.box []]))) none) none) none) none) none) none) none) none) none) none) (again7 ([AV.t (tI (w64 ((vI p6 0) +
  (1:Int))))], []))) n ([AV.t (tI (0:Int))], [AObj.box []]))))) none) none) none) none) none) none) none) none) none) none) (some [tI (0:Int)])) n ([AV.t (tI (0:Int))], []))) n ([AV.t (tI (0:Int))],
  [])))) := by kernel_rfl

theorem e49 (n : Nat) (a0 : List (List Tree)) (a1 : List (List Tree)) (a2 : Int) (a3 : Int) (a4 : Int) (a5 : Int) : apure C (n + 1) 49 [Tree.sl (1:Nat) a0, Tree.sl (7:Nat) a1, tI a2, tI a3, tI a4, tI a5] =
  cnd (decide (a2 < (0:Int)) = true) (some [Tree.bool false]) (cnd (decide (a2 ≥ ((List.length a1:Nat):Int)) = true) (some [Tree.bool false]) (cnd (decide (a5 < (0:Int)) = true) (some [Tree.bool false])
  (cnd (decide (a5 > (1152921504606846976:Int)) = true) (some [Tree.bool false]) (cnd ((7:Nat) = (7:Nat) ∧ (0:Int) ≤ a2) (Option.bind a1[Int.toNat a2]? fun y6 => cnd (okI y6 0) (cnd (okI y6 1) (cnd (okI
  y6 2) (cnd (okI y6 3) (cnd (okI y6 4) (cnd (okI y6 5) (cnd (okI y6 6) (cnd (decide (gI y6 2 ≤ a3) = true) (cnd (decide (a3 < a4) = true) (some [Tree.bool (decide (a4 ≤ gI y6 3))]) (some [Tree.bool
  false])) (some [Tree.bool false])) none) none) none) none) none) none) none) none)))) := by kernel_rfl

theorem e50 (n : Nat) (a0 : Int) (a1 : Int) (a2 : Int) (a3 : Int) (a4 : Int) (a5 : Int) (a6 : Int) (a7 : Int) : apure C (n + 1) 50 [tI a0, tI a1, tI a2, tI a3, tI a4, tI a5, tI a6, tI a7] =
  Option.bind (apure C n (64:Nat) [tI a0, tI a1, tI a2, tI a3, tI a4, tI a5, tI a6]) fun y8 => cnd (List.length y8 = (1:Nat)) (cnd (okI y8 0) (cnd (((gI y8 0) != (0:Int)) = true) (some [tI (1:Int)])
  (Option.bind (apure C n (72:Nat) [tI a7, tI (1:Int), tI (65536:Int)]) fun y9 => cnd (List.length y9 = (1:Nat)) (cnd (okB y9 0) (cnd ((!(gB y9 0)) = true) (some [tI (2:Int)]) (some [tI (0:Int)])) none)
  none)) none) none := by kernel_rfl

theorem e51 (n : Nat) (a0 : Int) (a1 : Int) (a2 : Int) (a3 : Int) (a4 : Int) (a5 : Int) (a6 : Int) (a7 : Int) : apure C (n + 1) 51 [tI a0, tI a1, tI a2, tI a3, tI a4, tI a5, tI a6, tI a7] =
  Option.bind (apure C n (73:Nat) [tI a0, tI a1, tI a2, tI a3, tI a4, tI a5, tI a6, tI a7]) fun y8 => cnd (List.length y8 = (1:Nat)) (cnd (okI y8 0) (Option.bind (apure C n (74:Nat) [tI a0, tI a1, tI
  a2, tI a3, tI a4, tI a5, tI a6, tI (16:Int)]) fun y9 => cnd (List.length y9 = (1:Nat)) (cnd (okI y9 0) (some [tI (w64 ((gI y8 0) + (w64 (a6 * (w64 ((w64 ((w64 ((2:Int) * a5)) + (1:Int))) + (gI y9
  0)))))))]) none) none) none) none := by kernel_rfl

theorem e54 (n : Nat) (a0 : List (List Tree)) (a1 : Int) (a2 : Int) (a3 : Int) (a4 : Int) : apure C (n + 1) 54 [Tree.sl (4:Nat) a0, tI a1, tI a2, tI a3, tI a4] =
  loopIter (fun (p5 : List AV × Heap) (again6 : _ → Option (List Tree)) => cnd (decide (vI p5 0 < vI p5 1) = true) (cnd ((4:Nat) = (4:Nat) ∧ (0:Int) ≤ w64 (shrK IntKind.u64 (IntKind.wrap IntKind.u64
  (w64 ((vI p5 0) + (vI p5 1)))) (1:Int))) (Option.bind a0[Int.toNat (w64 (shrK IntKind.u64 (IntKind.wrap IntKind.u64 (w64 ((vI p5 0) + (vI p5 1)))) (1:Int)))]? fun y7 => cnd (okI y7 0) (cnd (okI y7 1)
  (cnd (okI y7 2) (cnd (okI y7 3) (Option.bind (apure C n (47:Nat) [tI (gI y7 0), tI (gI y7 1), tI (gI y7 2), tI (gI y7 3), tI a1, tI a2, tI a3, tI a4]) fun y8 => cnd (List.length y8 = (1:Nat)) (cnd
  (okI y8 0) (cnd (decide (gI y8 0 < (0:Int)) = true) (again6 ([AV.t (tI (w64 ((w64 (shrK IntKind.u64 (IntKind.wrap IntKind.u64 (w64 ((vI p5 0) + (vI p5 1)))) (1:Int))) + (1:Int)))), AV.t (tI (vI p5
  1))], [])) (again6 ([AV.t (tI (vI p5 0)), AV.t (tI (w64 (shrK IntKind.u64 (IntKind.wrap IntKind.u64 (w64 ((vI p5 0) + (vI p5 1)))) (1:Int))))], []))) none) none) none) none) none) none) none) (cnd
  (decide (vI p5 0 < ((List.length a0:Nat):Int)) = true) (cnd ((4:Nat) = (4:Nat) ∧ (0:Int) ≤ vI p5 0) (Option.bind a0[Int.toNat (vI p5 0)]? fun y9 => cnd (okI y9 0) (cnd (okI y9 1) (cnd (okI y9 2) (cnd
  (okI y9 3) (Option.bind (apure C n (47:Nat) [tI (gI y9 0), tI (gI y9 1), tI (gI y9 2), tI (gI y9 3), tI a1, tI a2, tI a3, tI a4]) fun y10 => cnd (List.length y10 = (1:Nat)) (cnd (okI y10 0)
  (Option.bind (apure C n (1000058:Nat) [Tree.sl (4:Nat) a0]) fun y11 => cnd (List.length y11 = (1:Nat) ∧ okL 4 y11 0) (cnd ((0:Nat) = (0:Nat) ∧ (4:Nat) = (4:Nat) ∧ (0:Nat) + (List.length (gL y11 0)) =
  List.length (gL y11 0) ∧ (List.length (gL y11 0)) + (1:Nat) ≤ (1073741824:Nat) ∧ (0:Int) ≤ vI p5 0 ∧ vI p5 0 ≤ ((List.length (gL y11 0):Nat):Int)) (some [Tree.sl (4:Nat) (List.take ((List.length (gL
  y11 0)) + (1:Nat)) (((List.take (Int.toNat (vI p5 0)) (gL y11 0)) ++ [[tI a1, tI a2, tI a3, tI a4]]) ++ (List.drop (Int.toNat (vI p5 0)) (gL y11 0))))]) none) none) none) none) none) none) none) none)
  none) (Option.bind (apure C n (1000058:Nat) [Tree.sl (4:Nat) a0]) fun y12 => cnd (List.length y12 = (1:Nat) ∧ okL 4 y12 0) (cnd ((0:Nat) = (0:Nat) ∧ (4:Nat) = (4:Nat) ∧ (0:Nat) + (List.length (gL y12
  0)) = List.length (gL y12 0) ∧ (List.length (gL y12 0)) + (1:Nat) ≤ (1073741824:Nat) ∧ (0:Int) ≤ vI p5 0 ∧ vI p5 0 ≤ ((List.length (gL y12 0):Nat):Int)) (some [Tree.sl (4:Nat) (List.take ((List.length
  (gL y12 0)) + (1:Nat)) (((List.take (Int.toNat (vI p5 0)) (gL y12 0)) ++ [[tI a1, tI a2, tI a3, tI a4]]) ++ (List.drop (Int.toNat (vI p5 0)) (gL y12 0))))]) none) none))) n ([AV.t (tI (0:Int)), AV.t
  (tI ((List.length a0:Nat):Int))], []) := by kernel_rfl

theorem e55 (n : Nat) (a0 : List (List Tree)) (a1 : Int) (a2 : Int) (a3 : Int) (a4 : Int) : apure C (n + 1) 55 [Tree.sl (4:Nat) a0, tI a1, tI a2, tI a3, tI a4] =
  loopIter (fun (p5 : List AV × Heap) (again6 : _ → Option (List Tree)) => cnd (decide (vI p5 0 < ((List.length a0:Nat):Int)) = true) (cnd ((4:Nat) = (4:Nat) ∧ (0:Int) ≤ vI p5 0) (Option.bind
  a0[Int.toNat (vI p5 0)]? fun y7 => cnd (okI y7 0) (cnd (okI y7 1) (cnd (okI y7 2) (cnd (okI y7 3) (cnd (((((a1 == (gI y7 0)) && (a2 == (gI y7 1))) && (a3 == (gI y7 2))) && (a4 == (gI y7 3))) = true)
  (some [tI (vI p5 0)]) (again6 ([AV.t (tI (w64 ((vI p5 0) + (1:Int))))], []))) none) none) none) none) none) (some [tI (-1:Int)])) n ([AV.t (tI (0:Int))], []) := by kernel_rfl

theorem e56 (n : Nat) (a0 : List (List Tree)) (a1 : Int) (a2 : Int) (a3 : Int) (a4 : Int) : apure C (n + 1) 56 [Tree.sl (4:Nat) a0, tI a1, tI a2, tI a3, tI a4] =
  loopIter (fun (p5 : List AV × Heap) (again6 : _ → Option (List Tree)) => cnd (decide (vI p5 2 < ((List.length a0:Nat):Int)) = true) (cnd ((!(vB p5 1)) = true) (cnd ((4:Nat) = (4:Nat) ∧ (0:Int) ≤ vI p5
  2) (Option.bind a0[Int.toNat (vI p5 2)]? fun y7 => cnd (okI y7 0) (cnd (decide (gI y7 0 > a1) = true) (cnd (oVer p5 0 = sVer p5 0 ∧ ((4:Nat) = (4:Nat) ∨ (4:Nat) = (0:Nat)) ∧ (sOff p5 0) + (sLen p5 0)
  = List.length (oEs p5 0) ∧ (sLen p5 0) + (1:Nat) ≤ (1073741824:Nat)) (cnd ((4:Nat) = (4:Nat) ∧ (0:Int) ≤ vI p5 2) (Option.bind a0[Int.toNat (vI p5 2)]? fun y8 => cnd (okI y8 0) (cnd (okI y8 1) (cnd
  (okI y8 2) (cnd (okI y8 3) (cnd ((sVer p5 0) + (1:Nat) = (sVer p5 0) + (1:Nat) ∧ ((4:Nat) = (4:Nat) ∨ (4:Nat) = (0:Nat)) ∧ (0:Nat) + ((sLen p5 0) + (1:Nat)) = List.length ((List.drop (sOff p5 0) (oEs
  p5 0)) ++ [[tI a1, tI a2, tI a3, tI a4]]) ∧ ((sLen p5 0) + (1:Nat)) + (1:Nat) ≤ (1073741824:Nat)) (again6 ([AV.sref (0:Nat) (((sVer p5 0) + (1:Nat)) + (1:Nat)) (0:Nat) (((sLen p5 0) + (1:Nat)) +
  (1:Nat)), AV.t (Tree.bool true), AV.t (tI (w64 ((vI p5 2) + (1:Int))))], [AObj.row false (((sVer p5 0) + (1:Nat)) + (1:Nat)) (4:Nat) (((List.drop (sOff p5 0) (oEs p5 0)) ++ [[tI a1, tI a2, tI a3, tI
  a4]]) ++ [[tI (gI y8 0), tI (gI y8 1), tI (gI y8 2), tI (gI y8 3)]])])) none) none) none) none) none) none) none) (cnd ((4:Nat) = (4:Nat) ∧ (0:Int) ≤ vI p5 2) (Option.bind a0[Int.toNat (vI p5 2)]? fun
  y9 => cnd (okI y9 0) (cnd (((gI y9 0) == a1) = true) (cnd ((4:Nat) = (4:Nat) ∧ (0:Int) ≤ vI p5 2) (Option.bind a0[Int.toNat (vI p5 2)]? fun y10 => cnd (okI y10 1) (cnd (decide (gI y10 1 > a2) = true)
  (cnd (oVer p5 0 = sVer p5 0 ∧ ((4:Nat) = (4:Nat) ∨ (4:Nat) = (0:Nat)) ∧ (sOff p5 0) + (sLen p5 0) = List.length (oEs p5 0) ∧ (sLen p5 0) + (1:Nat) ≤ (1073741824:Nat)) (cnd ((4:Nat) = (4:Nat) ∧ (0:Int)
  ≤ vI p5 2) (Option.bind a0[Int.toNat (vI p5 2)]? fun y11 => cnd (okI y11 0) (cnd (okI y11 1) (cnd (okI y11 2) (cnd (okI y11 3) (cnd ((sVer p5 0) + (1:Nat) = (sVer p5 0) + (1:Nat) ∧ ((4:Nat) = (4:Nat)
  ∨ (4:Nat) = (0:Nat)) ∧ (0:Nat) + ((sLen p5 0) + (1:Nat)) = List.length ((List.drop (sOff p5 0) (oEs p5 0)) ++ [[tI a1, tI a2, tI a3, tI a4]]) ∧ ((sLen p5 0) + (1:Nat)) + (1:Nat) ≤ (1073741824:Nat))
  (again6 ([AV.sref (0:Nat) (((sVer p5 0) + (1:Nat)) + (1:Nat)) (0:Nat) (((sLen p5 0) + (1:Nat)) + (1:Nat)), AV.t (Tree.bool true), AV.t (tI (w64 ((vI p5 2) + (1:Int))))], [AObj.row false (((sVer p5 0)
  + (1:Nat)) + (1:Nat)) (4:Nat) (((List.drop (sOff p5 0) (oEs p5 0)) ++ [[tI a1, tI a2, tI a3, tI a4]]) ++ [[tI (gI y11 0), tI (gI y11 1), tI (gI y11 2), tI (gI y11 3)]])])) none) none) none) none)
  none) none) none) (cnd ((4:Nat) = (4:Nat) ∧ (0:Int) ≤ vI p5 2) (Option.bind a0[Int.toNat (vI p5 2)]? fun y12 => cnd (okI y12 0) (cnd (okI y12 1) (cnd (okI y12 2) (cnd (okI y12 3) (cnd (oVer p5 0 =
  sVer p5 0 ∧ ((4:Nat) = (4:Nat) ∨ (4:Nat) = (0:Nat)) ∧ (sOff p5 0) + (sLen p5 0) = List.length (oEs p5 0) ∧ (sLen p5 0) + (1:Nat) ≤ (1073741824:Nat)) (again6 ([AV.sref (0:Nat) ((sVer p5 0) + (1:Nat))
  (0:Nat) ((sLen p5 0) + (1:Nat)), AV.t (Tree.bool (vB p5 1)), AV.t (tI (w64 ((vI p5 2) + (1:Int))))], [AObj.row false ((sVer p5 0) + (1:Nat)) (4:Nat) ((List.drop (sOff p5 0) (oEs p5 0)) ++ [[tI (gI y12
  0), tI (gI y12 1), tI (gI y12 2), tI (gI y12 3)]])])) none) none) none) none) none) none)) none) none) (cnd ((4:Nat) = (4:Nat) ∧ (0:Int) ≤ vI p5 2) (Option.bind a0[Int.toNat (vI p5 2)]? fun y13 => cnd
  (okI y13 0) (cnd (okI y13 1) (cnd (okI y13 2) (cnd (okI y13 3) (cnd (oVer p5 0 = sVer p5 0 ∧ ((4:Nat) = (4:Nat) ∨ (4:Nat) = (0:Nat)) ∧ (sOff p5 0) + (sLen p5 0) = List.length (oEs p5 0) ∧ (sLen p5 0)
  + (1:Nat) ≤ (1073741824:Nat)) (again6 ([AV.sref (0:Nat) ((sVer p5 0) + (1:Nat)) (0:Nat) ((sLen p5 0) + (1:Nat)), AV.t (Tree.bool (vB p5 1)), AV.t (tI (w64 ((vI p5 2) + (1:Int))))], [AObj.row false
  ((sVer p5 0) + (1:Nat)) (4:Nat) ((List.drop (sOff p5 0) (oEs p5 0)) ++ [[tI (gI y13 0), tI (gI y13 1), tI (gI y13 2), tI (gI y13 3)]])])) none) none) none) none) none) none)) none) none)) none) none)
  (cnd ((4:Nat) = (4:Nat) ∧ (0:Int) ≤ vI p5 2) (Option.bind a0[Int.toNat (vI p5 2)]? fun y14 => cnd (okI y14 0) (cnd (okI y14 1) (cnd (okI y14 2) (cnd (okI y14 3) (cnd (oVer p5 0 = sVer p5 0 ∧ ((4:Nat)
  = (4:Nat) ∨ (4:Nat) = (0:Nat)) ∧ (sOff p5 0) + (sLen p5 0) = List.length (oEs p5 0) ∧ (sLen p5 0) + (1:Nat) ≤ (1073741824:Nat)) (again6 ([AV.sref (0:Nat) ((sVer p5 0) + (1:Nat)) (0:Nat) ((sLen p5 0) +
  (1:Nat)), AV.t (Tree.bool (vB p5 1)), AV.t (tI (w64 ((vI p5 2) + (1:Int))))], [AObj.row false ((sVer p5 0) + (1:Nat)) (4:Nat) ((List.drop (sOff p5 0) (oEs p5 0)) ++ [[tI (gI y14 0), tI (gI y14 1), tI
  (gI y14 2), tI (gI y14 3)]])])) none) none) none) none) none) none)) (cnd ((!(vB p5 1)) = true) (cnd (oVer p5 0 = sVer p5 0 ∧ ((4:Nat) = (4:Nat) ∨ (4:Nat) = (0:Nat)) ∧ (sOff p5 0) + (sLen p5 0) =
  List.length (oEs p5 0) ∧ (sLen p5 0) + (1:Nat) ≤ (1073741824:Nat)) (cnd ((false = true ∨ false = false) ∧ (sVer p5 0) + (1:Nat) = (sVer p5 0) + (1:Nat) ∧ ((4:Nat) = (4:Nat) ∨ (4:Nat) = (0:Nat))) (some
  [Tree.sl (4:Nat) (List.take ((sLen p5 0) + (1:Nat)) ((List.drop (sOff p5 0) (oEs p5 0)) ++ [[tI a1, tI a2, tI a3, tI a4]]))]) none) none) (cnd ((false = true ∨ false = false) ∧ oVer p5 0 = sVer p5 0 ∧
  ((4:Nat) = (4:Nat) ∨ (4:Nat) = (0:Nat))) (some [Tree.sl (4:Nat) (List.take (sLen p5 0) (List.drop (sOff p5 0) (oEs p5 0)))]) none))) n ([AV.sref (0:Nat) (0:Nat) (0:Nat) (0:Nat), AV.t (Tree.bool
  false), AV.t (tI (0:Int))], [AObj.row false (0:Nat) (4:Nat) []]) := by kernel_rfl

theorem e62 (n : Nat) (a0 : Int) (a1 : Int) (a2 : Int) (a3 : Int) (a4 : Int) (a5 : Int) (a6 : Int) (a7 : Int) : apure C (n + 1) 62 [tI a0, tI a1, tI a2, tI a3, tI a4, tI a5, tI a6, tI a7] =
  Option.bind (apure C n (63:Nat) [tI a0, tI a1, tI a2, tI a3, tI a4, tI a5, tI a6, tI (16:Int)]) fun y8 => cnd (List.length y8 = (1:Nat)) (cnd (okI y8 0) (cnd (decide (Int.tmod a7 (16:Int) > (0:Int)) =
  true) (Option.bind (apure C n (63:Nat) [tI a0, tI a1, tI a2, tI a3, tI a4, tI a5, tI a6, tI (Int.tmod a7 (16:Int))]) fun y9 => cnd (List.length y9 = (1:Nat)) (cnd (okI y9 0) (some [tI (w64 ((w64 ((w64
  (Int.tdiv a7 (16:Int))) * (gI y8 0))) + (gI y9 0)))]) none) none) (some [tI (w64 ((w64 (Int.tdiv a7 (16:Int))) * (gI y8 0)))])) none) none := by kernel_rfl

theorem e63 (n : Nat) (a0 : Int) (a1 : Int) (a2 : Int) (a3 : Int) (a4 : Int) (a5 : Int) (a6 : Int) (a7 : Int) : apure C (n + 1) 63 [tI a0, tI a1, tI a2, tI a3, tI a4, tI a5, tI a6, tI a7] =
  cnd (a4 = (0:Int)) none (some [tI (w64 (Int.tdiv (w64 ((w64 ((w64 (a7 + (8:Int))) + a4)) - (1:Int))) a4))]) := by kernel_rfl

theorem e64 (n : Nat) (a0 : Int) (a1 : Int) (a2 : Int) (a3 : Int) (a4 : Int) (a5 : Int) (a6 : Int) : apure C (n + 1) 64 [tI a0, tI a1, tI a2, tI a3, tI a4, tI a5, tI a6] =
  Option.bind (apure C n (72:Nat) [tI a0, tI (0:Int), tI (15:Int)]) fun y7 => cnd (List.length y7 = (1:Nat)) (cnd (okB y7 0) (cnd ((!(gB y7 0)) = true) (some [tI (2:Int)]) (Option.bind (apure C n
  (72:Nat) [tI a1, tI (0:Int), tI (15:Int)]) fun y8 => cnd (List.length y8 = (1:Nat)) (cnd (okB y8 0) (cnd ((!(gB y8 0)) = true) (some [tI (2:Int)]) (Option.bind (apure C n (72:Nat) [tI a4, tI (1:Int),
  tI (1000:Int)]) fun y9 => cnd (List.length y9 = (1:Nat)) (cnd (okB y9 0) (cnd ((!(gB y9 0)) = true) (some [tI (2:Int)]) (Option.bind (apure C n (72:Nat) [tI a5, tI (1:Int), tI (1048576:Int)]) fun y10
  => cnd (List.length y10 = (1:Nat)) (cnd (okB y10 0) (cnd ((!(gB y10 0)) = true) (some [tI (2:Int)]) (Option.bind (apure C n (72:Nat) [tI a6, tI (0:Int), tI (16:Int)]) fun y11 => cnd (List.length y11 =
  (1:Nat)) (cnd (okB y11 0) (cnd ((!(gB y11 0)) = true) (some [tI (2:Int)]) (cnd ((a0 == a1) = true) (some [tI (1:Int)]) (cnd (decide (a2 < (0:Int)) = true) (some [tI (2:Int)]) (cnd (decide (a2 ≥ a3) =
  true) (some [tI (2:Int)]) (cnd (decide (a3 > w64 ((1099511627776:Int) - (w64 ((2:Int) * a5)))) = true) (some [tI (2:Int)]) (some [tI (0:Int)])))))) none) none)) none) none)) none) none)) none) none))
  none) none := by kernel_rfl

theorem e67 (n : Nat) (a0 : Int) (a1 : Int) (a2 : Int) (a3 : Int) (a4 : Int) (a5 : Int) (a6 : Int) (a7 : Int) (a8 : Int) (a9 : Int) (a10 : Int) (a11 : Int) (a12 : Int) (a13 : Int) : apure C (n + 1) 67 [tI a0, tI a1, tI a2, tI a3, tI a4, tI a5, tI a6, tI a7, tI a8, tI a9, tI a10, tI a11, tI a12, tI a13] =
  Option.bind (apure C n (64:Nat) [tI a0, tI a1, tI a2, tI a3, tI a4, tI a5, tI a6]) fun y14 => cnd (List.length y14 = (1:Nat)) (cnd (okI y14 0) (cnd (((gI y14 0) != (0:Int)) = true) (some [Tree.bool
  false]) (Option.bind (apure C n (64:Nat) [tI a7, tI a8, tI a9, tI a10, tI a11, tI a12, tI a13]) fun y15 => cnd (List.length y15 = (1:Nat)) (cnd (okI y15 0) (cnd (((gI y15 0) != (0:Int)) = true) (some
  [Tree.bool false]) (cnd ((a0 != a7) = true) (some [Tree.bool false]) (cnd ((a1 != a8) = true) (some [Tree.bool false]) (some [Tree.bool (decide ((if a9 > a2 then a9 else a2) < (if a10 < a3 then a10
  else a3)))])))) none) none)) none) none := by kernel_rfl

theorem e68 (n : Nat) (a0 : List (List Tree)) : apure C (n + 1) 68 [Tree.sl (1:Nat) a0] =
  loopIter (fun (p1 : List AV × Heap) (again2 : _ → Option (List Tree)) => cnd (decide (vI p1 0 < ((List.length a0:Nat):Int)) = true) (cnd ((1:Nat) = (1:Nat) ∧ (0:Int) ≤ vI p1 0) (Option.bind
  a0[Int.toNat (vI p1 0)]? fun y3 => cnd (okI y3 0) (cnd (((gI y3 0) != (0:Int)) = true) (some [tI (gI y3 0)]) (again2 ([AV.t (tI (w64 ((vI p1 0) + (1:Int))))], []))) none) none) (some [tI (0:Int)])) n
  ([AV.t (tI (0:Int))], []) := by kernel_rfl

theorem e69 (n : Nat) (a0 : Int) (a1 : Int) : apure C (n + 1) 69 [tI a0, tI a1] =
  Option.bind (apure C n (79:Nat) [tI a0]) fun y2 => cnd (List.length y2 = (1:Nat)) (cnd (okB y2 0) (Option.bind (apure C n (79:Nat) [tI a1]) fun y3 => cnd (List.length y3 = (1:Nat)) (cnd (okB y3 0)
  (cnd (gB y2 0 = true) (cnd (gB y3 0 = true) (some [tI (0:Int)]) (some [tI (-1:Int)])) (cnd (gB y3 0 = true) (some [tI (1:Int)]) (cnd (decide (a0 < a1) = true) (some [tI (-1:Int)]) (cnd (decide (a0 >
  a1) = true) (some [tI (1:Int)]) (some [tI (0:Int)]))))) none) none) none) none := by kernel_rfl

theorem e70 (n : Nat) (a0 : Int) (a1 : Int) (a2 : Int) (a3 : Int) (a4 : Int) (a5 : Int) (a6 : Int) : apure C (n + 1) 70 [tI a0, tI a1, tI a2, tI a3, tI a4, tI a5, tI a6] =
  cnd (decide (a0 < (0:Int)) = true) (some [tI (2:Int)]) (cnd (decide (a0 ≥ (16:Int)) = true) (some [tI (2:Int)]) (cnd (decide (a1 < (0:Int)) = true) (some [tI (2:Int)]) (cnd (decide (a1 ≥ (16:Int)) =
  true) (some [tI (2:Int)]) (cnd (decide (a4 < (1:Int)) = true) (some [tI (2:Int)]) (cnd (decide (a4 > (1000:Int)) = true) (some [tI (2:Int)]) (cnd (decide (a5 < (1:Int)) = true) (some [tI (2:Int)])
  (cnd (decide (a5 > (1048576:Int)) = true) (some [tI (2:Int)]) (cnd (decide (a6 < (0:Int)) = true) (some [tI (2:Int)]) (cnd (decide (a6 > (16:Int)) = true) (some [tI (2:Int)]) (cnd ((a0 == a1) = true)
  (some [tI (1:Int)]) (cnd (decide (a2 < (0:Int)) = true) (some [tI (2:Int)]) (cnd (decide (a2 ≥ a3) = true) (some [tI (2:Int)]) (cnd (decide (a3 > w64 ((1099511627776:Int) - (w64 ((2:Int) * a5)))) =
  true) (some [tI (2:Int)]) (some [tI (0:Int)])))))))))))))) := by kernel_rfl

theorem e71 (n : Nat) (a0 : Int) (a1 : Int) (a2 : Int) (a3 : Int) (a4 : Int) (a5 : Int) (a6 : Int) (a7 : Int) (a8 : Int) (a9 : Int) (a10 : Int) (a11 : Int) (a12 : Int) (a13 : Int) : apure C (n + 1) 71 [tI a0, tI a1, tI a2, tI a3, tI a4, tI a5, tI a6, tI a7, tI a8, tI a9, tI a10, tI a11, tI a12, tI a13] =
  Option.bind (apure C n (70:Nat) [tI a0, tI a1, tI a2, tI a3, tI a4, tI a5, tI a6]) fun y14 => cnd (List.length y14 = (1:Nat)) (cnd (okI y14 0) (cnd (((gI y14 0) == (0:Int)) = true) (Option.bind (apure
  C n (70:Nat) [tI a7, tI a8, tI a9, tI a10, tI a11, tI a12, tI a13]) fun y15 => cnd (List.length y15 = (1:Nat)) (cnd (okI y15 0) (cnd (((gI y15 0) == (0:Int)) = true) (cnd ((a0 == a7) = true) (cnd ((a1
  == a8) = true) (cnd (decide (a2 < a10) = true) (some [Tree.bool (decide (a9 < a3))]) (some [Tree.bool false])) (some [Tree.bool false])) (some [Tree.bool false])) (some [Tree.bool false])) none) none)
  (some [Tree.bool false])) none) none := by kernel_rfl

theorem e72 (n : Nat) (a0 : Int) (a1 : Int) (a2 : Int) : apure C (n + 1) 72 [tI a0, tI a1, tI a2] =
  cnd (decide (a0 ≥ a1) = true) (some [Tree.bool (decide (a0 ≤ a2))]) (some [Tree.bool false]) := by kernel_rfl

theorem e73 (n : Nat) (a0 : Int) (a1 : Int) (a2 : Int) (a3 : Int) (a4 : Int) (a5 : Int) (a6 : Int) (a7 : Int) : apure C (n + 1) 73 [tI a0, tI a1, tI a2, tI a3, tI a4, tI a5, tI a6, tI a7] =
  loopIter (fun (p8 : List AV × Heap) (again9 : _ → Option (List Tree)) => cnd (decide (vI p8 0 > (0:Int)) = true) (Option.bind (apure C n (74:Nat) [tI a0, tI a1, tI a2, tI a3, tI a4, tI a5, tI a6, tI
  (if (16:Int) < vI p8 0 then (16:Int) else vI p8 0)]) fun y10 => cnd (List.length y10 = (1:Nat)) (cnd (okI y10 0) (again9 ([AV.t (tI (w64 ((vI p8 0) - (16:Int))))], [AObj.box [AV.t (tI (w64 ((cI p8 0
  0) + (gI y10 0))))], AObj.box []])) none) none) (some [tI (cI p8 0 0)])) n ([AV.t (tI a7)], [AObj.box [AV.t (tI (0:Int))], AObj.box []]) := by kernel_rfl

theorem e74 (n : Nat) (a0 : Int) (a1 : Int) (a2 : Int) (a3 : Int) (a4 : Int) (a5 : Int) (a6 : Int) (a7 : Int) : apure C (n + 1) 74 [tI a0, tI a1, tI a2, tI a3, tI a4, tI a5, tI a6, tI a7] =
  cnd (a4 = (0:Int)) none (some [tI (w64 (Int.tdiv (w64 ((w64 ((w64 (a7 + (8:Int))) + a4)) - (1:Int))) a4))]) := by kernel_rfl

theorem e79 (n : Nat) (a0 : Int) : apure C (n + 1) 79 [tI a0] =
  some [Tree.bool (a0 != a0)] := by kernel_rfl

theorem e1000058 (n : Nat) (a0 : List (List Tree)) : apure C (n + 1) 1000058 [Tree.sl (4:Nat) a0] =
  cnd (List.length a0 ≠ (0:Nat)) (cnd (List.length a0 ≤ (1073741824:Nat)) (some [Tree.sl (4:Nat) (List.take (List.length a0) a0)]) none) (both (some [Tree.sl (4:Nat) []]) (cnd (List.length a0 ≤
  (1073741824:Nat)) (some [Tree.sl (4:Nat) (List.take (List.length a0) a0)]) none)) := by kernel_rfl

end Ab
