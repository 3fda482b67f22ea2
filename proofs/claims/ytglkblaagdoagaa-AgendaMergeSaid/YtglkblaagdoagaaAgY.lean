/- A part of the proof: see the last text. -/
import Derived.Test.YtglkblaagdoagaaAbT
import Derived.Test.YtglkblaagdoagaaAgX
set_option maxRecDepth 100000
set_option linter.unusedVariables false
namespace Ab
open Go Go.Proofs

theorem e3 (n : Nat) (a0 : List (List Tree)) : apure C (n + 1) 3 [Tree.sl (3:Nat) a0] =
  cnd (decide (((List.length a0:Nat):Int) > (40:Int)) = true) (Option.bind (apure C n (11:Nat) []) fun y1 => cnd (List.length y1 = (1:Nat)) (cnd (okB y1 0) (some [Tree.bool (gB y1 0)]) none) none)
  (Option.bind (apure C n (10:Nat) [Tree.sl (3:Nat) a0]) fun y2 => cnd (List.length y2 = (1:Nat)) (cnd (okI y2 0) (cnd ((gI y2 0 != (0:Int)) = true) (Option.bind (apure C n (11:Nat) []) fun y3 => cnd
  (List.length y3 = (1:Nat)) (cnd (okB y3 0) (some [Tree.bool (gB y3 0)]) none) none) (loopIter (fun (p4 : List AV × Heap) (again5 : _ → Option (List Tree)) => cnd (decide (vI p4 1 < ((List.length
  a0:Nat):Int)) = true) (cnd ((3:Nat) = (3:Nat) ∧ (0:Int) ≤ vI p4 1) (Option.bind a0[Int.toNat (vI p4 1)]? fun y6 => cnd (okI y6 0) (cnd (okI y6 1) (cnd (okI y6 2) (Option.bind (apure C n (12:Nat)
  [Tree.sl (3:Nat) (vL p4 0)]) fun y7 => cnd (List.length y7 = (2:Nat)) (cnd (okI y7 0) (cnd (okB y7 1) (Option.bind (apure C n (13:Nat) [Tree.sl (3:Nat) (vL p4 0)]) fun y8 => cnd (List.length y8 =
  (5:Nat)) (cnd (okI y8 0) (cnd (okI y8 1) (cnd (okI y8 2) (cnd (okL 3 y8 3) (cnd (okI y8 4) (cnd ((!gB y7 1) = true) (some [Tree.bool false]) (cnd ((gI y8 4 != (0:Int)) = true) (some [Tree.bool false])
  (cnd ((!(true && gI y8 0 == gI y6 0 && gI y8 1 == gI y6 1 && gI y8 2 == gI y6 2)) = true) (some [Tree.bool false]) (cnd ((gI y7 0 != gI y6 0) = true) (some [Tree.bool false]) (Option.bind (apure C n
  (10:Nat) [Tree.sl (3:Nat) (gL y8 3)]) fun y9 => cnd (List.length y9 = (1:Nat)) (cnd (okI y9 0) (cnd ((gI y9 0 != (0:Int)) = true) (some [Tree.bool false]) (cnd (decide (vI p4 1 > (0:Int)) = true) (cnd
  ((3:Nat) = (3:Nat) ∧ (0:Int) ≤ w64 (vI p4 1 - (1:Int))) (Option.bind a0[Int.toNat (w64 (vI p4 1 - (1:Int)))]? fun y10 => cnd (okI y10 0) (cnd (okI y10 1) (cnd (okI y10 2) (Option.bind (apure C n
  (14:Nat) [tI (gI y10 0), tI (gI y10 1), tI (gI y10 2), tI (gI y8 0), tI (gI y8 1), tI (gI y8 2)]) fun y11 => cnd (List.length y11 = (1:Nat)) (cnd (okB y11 0) (cnd ((!gB y11 0) = true) (some [Tree.bool
  false]) (again5 ([AV.t (Tree.sl (3:Nat) (gL y8 3)), AV.t (tI (w64 (vI p4 1 + (1:Int))))], []))) none) none) none) none) none) none) (again5 ([AV.t (Tree.sl (3:Nat) (gL y8 3)), AV.t (tI (w64 (vI p4 1 +
  (1:Int))))], [])))) none) none))))) none) none) none) none) none) none) none) none) none) none) none) none) none) (Option.bind (apure C n (13:Nat) [Tree.sl (3:Nat) (vL p4 0)]) fun y12 => cnd
  (List.length y12 = (5:Nat)) (cnd (okI y12 0) (cnd (okI y12 1) (cnd (okI y12 2) (cnd (okL 3 y12 3) (cnd (okI y12 4) (cnd ((gI y12 4 == (20:Int)) = true) (Option.bind (apure C n (11:Nat) []) fun y13 =>
  cnd (List.length y13 = (1:Nat)) (cnd (okB y13 0) (some [Tree.bool (gB y13 0)]) none) none) (some [Tree.bool false])) none) none) none) none) none) none)) n ([AV.t (Tree.sl (3:Nat) a0), AV.t (tI
  (0:Int))], []))) none) none) := by kernel_rfl

theorem e4 (n : Nat) (a0 : List (List Tree)) (a1 : Int) : apure C (n + 1) 4 [Tree.sl (3:Nat) a0, tI a1] =
  Option.bind (apure C n (15:Nat) [Tree.sl (1:Nat) [[Tree.sl (3:Nat) a0]]]) fun y2 => cnd (List.length y2 = (1:Nat)) (cnd (okB y2 0) (cnd (gB y2 0 = true) (Option.bind (apure C n (11:Nat) []) fun y3 =>
  cnd (List.length y3 = (1:Nat)) (cnd (okB y3 0) (some [Tree.bool (gB y3 0)]) none) none) (Option.bind (apure C n (13:Nat) [Tree.sl (3:Nat) a0]) fun y4 => cnd (List.length y4 = (5:Nat)) (cnd (okI y4 0)
  (cnd (okI y4 1) (cnd (okI y4 2) (cnd (okL 3 y4 3) (cnd (okI y4 4) (Option.bind (apure C n (16:Nat) [Tree.sl (3:Nat) a0]) fun y5 => cnd (List.length y5 = (5:Nat)) (cnd (okI y5 0) (cnd (okI y5 1) (cnd
  (okI y5 2) (cnd (okL 3 y5 3) (cnd (okI y5 4) (Option.bind (apure C n (17:Nat) [Tree.sl (3:Nat) a0, tI a1]) fun y6 => cnd (List.length y6 = (3:Nat)) (cnd (okL 3 y6 0) (cnd (okL 3 y6 1) (cnd (okI y6 2)
  (Option.bind (apure C n (18:Nat) [Tree.sl (3:Nat) a0, tI a1]) fun y7 => cnd (List.length y7 = (3:Nat)) (cnd (okL 3 y7 0) (cnd (okL 3 y7 1) (cnd (okI y7 2) (Option.bind (apure C n (12:Nat) [Tree.sl
  (3:Nat) a0]) fun y8 => cnd (List.length y8 = (2:Nat)) (cnd (okI y8 0) (cnd (okB y8 1) (Option.bind (apure C n (19:Nat) [Tree.sl (3:Nat) a0]) fun y9 => cnd (List.length y9 = (2:Nat)) (cnd (okI y9 0)
  (cnd (okB y9 1) (cnd ((true && gI y4 0 == gI y5 0 && gI y4 1 == gI y5 1 && gI y4 2 == gI y5 2) = true) (Option.bind (apure C n (20:Nat) [Tree.sl (3:Nat) (gL y4 3), Tree.sl (3:Nat) (gL y5 3)]) fun y10
  => cnd (List.length y10 = (1:Nat)) (cnd (okB y10 0) (cnd (gB y10 0 = true) (cnd ((gI y4 4 == gI y5 4) = true) (Option.bind (apure C n (20:Nat) [Tree.sl (3:Nat) (gL y6 0), Tree.sl (3:Nat) (gL y7 0)])
  fun y11 => cnd (List.length y11 = (1:Nat)) (cnd (okB y11 0) (cnd (gB y11 0 = true) (Option.bind (apure C n (20:Nat) [Tree.sl (3:Nat) (gL y6 1), Tree.sl (3:Nat) (gL y7 1)]) fun y12 => cnd (List.length
  y12 = (1:Nat)) (cnd (okB y12 0) (cnd (gB y12 0 = true) (cnd ((gI y6 2 == gI y7 2) = true) (cnd ((gI y8 0 == gI y9 0) = true) (cnd ((gB y8 1 == gB y9 1) = true) (Option.bind (apure C n (11:Nat) []) fun
  y13 => cnd (List.length y13 = (1:Nat)) (cnd (okB y13 0) (some [Tree.bool (gB y13 0)]) none) none) (some [Tree.bool false])) (some [Tree.bool false])) (some [Tree.bool false])) (some [Tree.bool
  false])) none) none) (some [Tree.bool false])) none) none) (some [Tree.bool false])) (some [Tree.bool false])) none) none) (some [Tree.bool false])) none) none) none) none) none) none) none) none)
  none) none) none) none) none) none) none) none) none) none) none) none) none) none) none) none) none) none)) none) none := by kernel_rfl

theorem e5 (n : Nat) (a0 : List (List Tree)) (a1 : Int) (a2 : Int) (a3 : Int) : apure C (n + 1) 5 [Tree.sl (3:Nat) a0, tI a1, tI a2, tI a3] =
  Option.bind (apure C n (15:Nat) [Tree.sl (1:Nat) [[Tree.sl (3:Nat) a0]]]) fun y4 => cnd (List.length y4 = (1:Nat)) (cnd (okB y4 0) (cnd (gB y4 0 = true) (Option.bind (apure C n (11:Nat) []) fun y5 =>
  cnd (List.length y5 = (1:Nat)) (cnd (okB y5 0) (some [Tree.bool (gB y5 0)]) none) none) (Option.bind (apure C n (21:Nat) [Tree.sl (3:Nat) a0, tI a1, tI a2, tI a3]) fun y6 => cnd (List.length y6 =
  (2:Nat)) (cnd (okL 3 y6 0) (cnd (okI y6 1) (Option.bind (apure C n (22:Nat) [Tree.sl (3:Nat) a0, tI a1, tI a2, tI a3]) fun y7 => cnd (List.length y7 = (2:Nat)) (cnd (okL 3 y7 0) (cnd (okI y7 1)
  (Option.bind (apure C n (23:Nat) [Tree.sl (3:Nat) a0, tI a1, tI a2, tI a3]) fun y8 => cnd (List.length y8 = (2:Nat)) (cnd (okL 3 y8 0) (cnd (okI y8 1) (Option.bind (apure C n (24:Nat) [Tree.sl (3:Nat)
  a0, tI a1, tI a2, tI a3]) fun y9 => cnd (List.length y9 = (2:Nat)) (cnd (okL 3 y9 0) (cnd (okI y9 1) (Option.bind (apure C n (10:Nat) [Tree.sl (3:Nat) a0]) fun y10 => cnd (List.length y10 = (1:Nat))
  (cnd (okI y10 0) (Option.bind (apure C n (25:Nat) [Tree.sl (3:Nat) a0]) fun y11 => cnd (List.length y11 = (1:Nat)) (cnd (okI y11 0) (cnd ((gI y10 0 == gI y11 0) = true) (Option.bind (apure C n
  (20:Nat) [Tree.sl (3:Nat) (gL y6 0), Tree.sl (3:Nat) (gL y7 0)]) fun y12 => cnd (List.length y12 = (1:Nat)) (cnd (okB y12 0) (cnd (gB y12 0 = true) (cnd ((gI y6 1 == gI y7 1) = true) (Option.bind
  (apure C n (20:Nat) [Tree.sl (3:Nat) (gL y8 0), Tree.sl (3:Nat) (gL y9 0)]) fun y13 => cnd (List.length y13 = (1:Nat)) (cnd (okB y13 0) (cnd (gB y13 0 = true) (cnd ((gI y8 1 == gI y9 1) = true)
  (Option.bind (apure C n (11:Nat) []) fun y14 => cnd (List.length y14 = (1:Nat)) (cnd (okB y14 0) (some [Tree.bool (gB y14 0)]) none) none) (some [Tree.bool false])) (some [Tree.bool false])) none)
  none) (some [Tree.bool false])) (some [Tree.bool false])) none) none) (some [Tree.bool false])) none) none) none) none) none) none) none) none) none) none) none) none) none) none) none) none)) none)
  none := by kernel_rfl

theorem e6 (n : Nat) (a0 : List (List Tree)) (a1 : Int) (a2 : Int) : apure C (n + 1) 6 [Tree.sl (3:Nat) a0, tI a1, tI a2] =
  cnd (decide (((List.length a0:Nat):Int) > (40:Int)) = true) (Option.bind (apure C n (11:Nat) []) fun y3 => cnd (List.length y3 = (1:Nat)) (cnd (okB y3 0) (some [Tree.bool (gB y3 0)]) none) none)
  (Option.bind (apure C n (10:Nat) [Tree.sl (3:Nat) a0]) fun y4 => cnd (List.length y4 = (1:Nat)) (cnd (okI y4 0) (cnd ((gI y4 0 != (0:Int)) = true) (Option.bind (apure C n (11:Nat) []) fun y5 => cnd
  (List.length y5 = (1:Nat)) (cnd (okB y5 0) (some [Tree.bool (gB y5 0)]) none) none) (Option.bind (apure C n (17:Nat) [Tree.sl (3:Nat) a0, tI (if a2 < a1 then a2 else a1)]) fun y6 => cnd (List.length
  y6 = (3:Nat)) (cnd (okL 3 y6 0) (cnd (okL 3 y6 1) (cnd (okI y6 2) (Option.bind (apure C n (17:Nat) [Tree.sl (3:Nat) a0, tI (if a2 > a1 then a2 else a1)]) fun y7 => cnd (List.length y7 = (3:Nat)) (cnd
  (okL 3 y7 0) (cnd (okL 3 y7 1) (cnd (okI y7 2) (cnd ((gI y6 2 != (0:Int)) = true) (some [Tree.bool false]) (cnd ((gI y7 2 != (0:Int)) = true) (some [Tree.bool false]) (Option.bind (apure C n
  (1000026:Nat) [Tree.sl (1:Nat) [[Tree.sl (3:Nat) (gL y6 0)], [Tree.sl (3:Nat) (gL y6 1)]]]) fun y8 => cnd (List.length y8 = (1:Nat) ∧ okL 3 y8 0) (Option.bind (apure C n (20:Nat) [Tree.sl (3:Nat)
  (List.take (List.length (gL y8 0)) (List.drop (0:Nat) (gL y8 0))), Tree.sl (3:Nat) a0]) fun y9 => cnd (List.length y9 = (1:Nat)) (cnd (okB y9 0) (cnd ((!gB y9 0) = true) (some [Tree.bool false])
  (Option.bind (apure C n (1000026:Nat) [Tree.sl (1:Nat) [[Tree.sl (3:Nat) (gL y7 0)], [Tree.sl (3:Nat) (gL y7 1)]]]) fun y10 => cnd (List.length y10 = (1:Nat) ∧ okL 3 y10 0) (Option.bind (apure C n
  (20:Nat) [Tree.sl (3:Nat) (List.take (List.length (gL y10 0)) (List.drop (0:Nat) (gL y10 0))), Tree.sl (3:Nat) a0]) fun y11 => cnd (List.length y11 = (1:Nat)) (cnd (okB y11 0) (cnd ((!gB y11 0) =
  true) (some [Tree.bool false]) (cnd (decide (((List.length (gL y6 0):Nat):Int) > ((List.length (gL y7 0):Nat):Int)) = true) (some [Tree.bool false]) (loopIter (fun (p12 : List AV × Heap) (again13 : _
  → Option (List Tree)) => cnd (decide (vI p12 0 < ((List.length (gL y6 0):Nat):Int)) = true) (cnd ((3:Nat) = (3:Nat) ∧ (0:Int) ≤ vI p12 0) (Option.bind (gL y6 0)[Int.toNat (vI p12 0)]? fun y14 => cnd
  (okI y14 0) (cnd (okI y14 1) (cnd (okI y14 2) (cnd (decide (gI y14 0 > if a2 < a1 then a2 else a1) = true) (loopIter (fun (p15 : List AV × Heap) (again16 : _ → Option (List Tree)) => cnd (decide (vI
  p15 0 < ((List.length (gL y6 1):Nat):Int)) = true) (cnd ((3:Nat) = (3:Nat) ∧ (0:Int) ≤ vI p15 0) (Option.bind (gL y6 1)[Int.toNat (vI p15 0)]? fun y17 => cnd (okI y17 0) (cnd (okI y17 1) (cnd (okI y17
  2) (cnd (decide (gI y17 0 ≤ if a2 < a1 then a2 else a1) = true) (cnd ((!decide (vI p12 0 ≥ (0:Int))) = true) (cnd ((!decide (vI p15 0 ≥ (0:Int))) = true) (Option.bind (apure C n (11:Nat) []) fun y18
  => cnd (List.length y18 = (1:Nat)) (cnd (okB y18 0) (some [Tree.bool (gB y18 0)]) none) none) (some [Tree.bool false])) (some [Tree.bool false])) (again16 ([AV.t (tI (w64 (vI p15 0 + (1:Int))))],
  []))) none) none) none) none) (cnd ((!decide (vI p12 0 ≥ (0:Int))) = true) (Option.bind (apure C n (11:Nat) []) fun y19 => cnd (List.length y19 = (1:Nat)) (cnd (okB y19 0) (some [Tree.bool (gB y19
  0)]) none) none) (some [Tree.bool false]))) n ([AV.t (tI (0:Int))], [])) (again13 ([AV.t (tI (w64 (vI p12 0 + (1:Int))))], []))) none) none) none) none) (loopIter (fun (p20 : List AV × Heap) (again21
  : _ → Option (List Tree)) => cnd (decide (vI p20 0 < ((List.length (gL y6 1):Nat):Int)) = true) (cnd ((3:Nat) = (3:Nat) ∧ (0:Int) ≤ vI p20 0) (Option.bind (gL y6 1)[Int.toNat (vI p20 0)]? fun y22 =>
  cnd (okI y22 0) (cnd (okI y22 1) (cnd (okI y22 2) (cnd (decide (gI y22 0 ≤ if a2 < a1 then a2 else a1) = true) (cnd ((!decide (vI p20 0 ≥ (0:Int))) = true) (Option.bind (apure C n (11:Nat) []) fun y23
  => cnd (List.length y23 = (1:Nat)) (cnd (okB y23 0) (some [Tree.bool (gB y23 0)]) none) none) (some [Tree.bool false])) (again21 ([AV.t (tI (w64 (vI p20 0 + (1:Int))))], []))) none) none) none) none)
  (Option.bind (apure C n (11:Nat) []) fun y24 => cnd (List.length y24 = (1:Nat)) (cnd (okB y24 0) (some [Tree.bool (gB y24 0)]) none) none)) n ([AV.t (tI (0:Int))], []))) n ([AV.t (tI (0:Int))], []))))
  none) none) none)) none) none) none))) none) none) none) none) none) none) none) none)) none) none) := by kernel_rfl

theorem e7 (n : Nat) (a0 : List (List Tree)) (a1 : List (List Tree)) : apure C (n + 1) 7 [Tree.sl (3:Nat) a0, Tree.sl (3:Nat) a1] =
  Option.bind (apure C n (15:Nat) [Tree.sl (1:Nat) [[Tree.sl (3:Nat) a0], [Tree.sl (3:Nat) a1]]]) fun y2 => cnd (List.length y2 = (1:Nat)) (cnd (okB y2 0) (cnd (gB y2 0 = true) (Option.bind (apure C n
  (11:Nat) []) fun y3 => cnd (List.length y3 = (1:Nat)) (cnd (okB y3 0) (some [Tree.bool (gB y3 0)]) none) none) (Option.bind (apure C n (30:Nat) [Tree.sl (3:Nat) a0, Tree.sl (3:Nat) a1]) fun y4 => cnd
  (List.length y4 = (2:Nat)) (cnd (okL 3 y4 0) (cnd (okI y4 1) (Option.bind (apure C n (31:Nat) [Tree.sl (3:Nat) a0, Tree.sl (3:Nat) a1]) fun y5 => cnd (List.length y5 = (2:Nat)) (cnd (okL 3 y5 0) (cnd
  (okI y5 1) (Option.bind (apure C n (20:Nat) [Tree.sl (3:Nat) (gL y4 0), Tree.sl (3:Nat) (gL y5 0)]) fun y6 => cnd (List.length y6 = (1:Nat)) (cnd (okB y6 0) (cnd (gB y6 0 = true) (cnd ((gI y4 1 == gI
  y5 1) = true) (Option.bind (apure C n (11:Nat) []) fun y7 => cnd (List.length y7 = (1:Nat)) (cnd (okB y7 0) (some [Tree.bool (gB y7 0)]) none) none) (some [Tree.bool false])) (some [Tree.bool false]))
  none) none) none) none) none) none) none) none)) none) none := by kernel_rfl

theorem e8 (n : Nat) (a0 : List (List Tree)) (a1 : Int) : apure C (n + 1) 8 [Tree.sl (3:Nat) a0, Tree.int IntKind.u8 a1] =
  cnd (decide (((List.length a0:Nat):Int) > (40:Int)) = true) (Option.bind (apure C n (11:Nat) []) fun y2 => cnd (List.length y2 = (1:Nat)) (cnd (okB y2 0) (some [Tree.bool (gB y2 0)]) none) none)
  (loopIter (fun (p3 : List AV × Heap) (again4 : _ → Option (List Tree)) => cnd (decide (vI p3 0 < ((List.length a0:Nat):Int)) = true) (cnd ((3:Nat) = (3:Nat) ∧ (0:Int) ≤ vI p3 0) (Option.bind
  a0[Int.toNat (vI p3 0)]? fun y5 => cnd (okI y5 0) (cnd (okI y5 1) (cnd (okI y5 2) (Option.bind (apure C n (32:Nat) [tI (gI y5 0), tI (gI y5 1), tI (gI y5 2)]) fun y6 => cnd (List.length y6 = (1:Nat))
  (cnd (okB y6 0) (cnd (gB y6 0 = true) (cnd (decide (vI p3 0 ≥ (0:Int)) = true) (Option.bind (apure C n (11:Nat) []) fun y7 => cnd (List.length y7 = (1:Nat)) (cnd (okB y7 0) (some [Tree.bool (gB y7
  0)]) none) none) (cnd (w64 (((List.length a0:Nat):Int) + (1:Int)) = (0:Int)) none (loopIter (fun (p8 : List AV × Heap) (again9 : _ → Option (List Tree)) => cnd (decide (vI p8 1 < ((List.length
  a0:Nat):Int)) = true) (cnd ((3:Nat) = (3:Nat) ∧ (0:Int) ≤ vI p8 1) (Option.bind a0[Int.toNat (vI p8 1)]? fun y10 => cnd (okI y10 0) (cnd (okI y10 1) (cnd (okI y10 2) (Option.bind (apure C n (21:Nat)
  [Tree.sl (3:Nat) (vL p8 0), tI (gI y10 0), tI (gI y10 1), tI (gI y10 2)]) fun y11 => cnd (List.length y11 = (2:Nat)) (cnd (okL 3 y11 0) (cnd (okI y11 1) (cnd ((gI y11 1 == (6:Int)) = true) (again9
  ([AV.t (Tree.sl (3:Nat) (vL p8 0)), AV.t (tI (w64 (vI p8 1 + (1:Int))))], [])) (Option.bind (apure C n (23:Nat) [Tree.sl (3:Nat) (gL y11 0), tI (gI y10 0), tI (gI y10 1), tI (gI y10 2)]) fun y12 =>
  cnd (List.length y12 = (2:Nat)) (cnd (okL 3 y12 0) (cnd (okI y12 1) (Option.bind (apure C n (21:Nat) [Tree.sl (3:Nat) (gL y12 0), tI (gI y10 0), tI (gI y10 1), tI (gI y10 2)]) fun y13 => cnd
  (List.length y13 = (2:Nat)) (cnd (okL 3 y13 0) (cnd (okI y13 1) (cnd ((gI y11 1 != (0:Int)) = true) (some [Tree.bool false]) (cnd ((gI y12 1 != (0:Int)) = true) (some [Tree.bool false]) (cnd ((gI y13
  1 != (0:Int)) = true) (some [Tree.bool false]) (Option.bind (apure C n (20:Nat) [Tree.sl (3:Nat) (gL y12 0), Tree.sl (3:Nat) (vL p8 0)]) fun y14 => cnd (List.length y14 = (1:Nat)) (cnd (okB y14 0)
  (cnd ((!gB y14 0) = true) (some [Tree.bool false]) (Option.bind (apure C n (20:Nat) [Tree.sl (3:Nat) (gL y13 0), Tree.sl (3:Nat) (gL y11 0)]) fun y15 => cnd (List.length y15 = (1:Nat)) (cnd (okB y15
  0) (cnd ((!gB y15 0) = true) (some [Tree.bool false]) (Option.bind (apure C n (10:Nat) [Tree.sl (3:Nat) (gL y11 0)]) fun y16 => cnd (List.length y16 = (1:Nat)) (cnd (okI y16 0) (cnd ((gI y16 0 !=
  (0:Int)) = true) (some [Tree.bool false]) (again9 ([AV.t (Tree.sl (3:Nat) (gL y11 0)), AV.t (tI (w64 (vI p8 1 + (1:Int))))], []))) none) none)) none) none)) none) none)))) none) none) none) none)
  none) none)) none) none) none) none) none) none) none) (cnd ((0:Int) ≤ Int.tmod (w64 a1) (w64 (((List.length a0:Nat):Int) + (1:Int))) ∧ Int.tmod (w64 a1) (w64 (((List.length a0:Nat):Int) + (1:Int))) ≤
  ((List.length a0:Nat):Int)) (cnd ((0:Int) ≤ Int.tmod (w64 a1) (w64 (((List.length a0:Nat):Int) + (1:Int))) ∧ Int.tmod (w64 a1) (w64 (((List.length a0:Nat):Int) + (1:Int))) ≤ ((List.length
  a0:Nat):Int)) (Option.bind (apure C n (1000026:Nat) [Tree.sl (1:Nat) [[Tree.sl (3:Nat) (List.drop (Int.toNat (Int.tmod (w64 a1) (w64 (((List.length a0:Nat):Int) + (1:Int))))) (List.take (List.length
  a0) a0))], [Tree.sl (3:Nat) (List.drop (0:Nat) (List.take (Int.toNat (Int.tmod (w64 a1) (w64 (((List.length a0:Nat):Int) + (1:Int))))) a0))]]]) fun y17 => cnd (List.length y17 = (1:Nat) ∧ okL 3 y17 0)
  (loopIter (fun (p18 : List AV × Heap) (again19 : _ → Option (List Tree)) => cnd (decide (vI p18 1 < ((List.length (gL y17 0):Nat):Int)) = true) (cnd (oVer p18 0 = (0:Nat) ∧ (3:Nat) = (3:Nat) ∧ (0:Int)
  ≤ vI p18 1 ∧ vI p18 1 < ((List.length (gL y17 0):Nat):Int)) (cnd (oVer p18 0 = (0:Nat)) (Option.bind (oEs p18 0)[(0:Nat) + Int.toNat (vI p18 1)]? fun y20 => cnd (okI y20 0) (cnd (okI y20 1) (cnd (okI
  y20 2) (Option.bind (apure C n (21:Nat) [Tree.sl (3:Nat) (vL p18 0), tI (gI y20 0), tI (gI y20 1), tI (gI y20 2)]) fun y21 => cnd (List.length y21 = (2:Nat)) (cnd (okL 3 y21 0) (cnd (okI y21 1) (cnd
  ((gI y21 1 == (0:Int)) = true) (again19 ([AV.t (Tree.sl (3:Nat) (gL y21 0)), AV.t (tI (w64 (vI p18 1 + (1:Int))))], [AObj.row false (oVer p18 0) (3:Nat) (oEs p18 0)])) (again19 ([AV.t (Tree.sl (3:Nat)
  (vL p18 0)), AV.t (tI (w64 (vI p18 1 + (1:Int))))], [AObj.row false (oVer p18 0) (3:Nat) (oEs p18 0)]))) none) none) none) none) none) none) none) none) (Option.bind (apure C n (20:Nat) [Tree.sl
  (3:Nat) (vL p8 0), Tree.sl (3:Nat) (vL p18 0)]) fun y22 => cnd (List.length y22 = (1:Nat)) (cnd (okB y22 0) (cnd (gB y22 0 = true) (cnd (decide (((List.length (vL p8 0):Nat):Int) ≤ ((List.length
  a0:Nat):Int)) = true) (Option.bind (apure C n (11:Nat) []) fun y23 => cnd (List.length y23 = (1:Nat)) (cnd (okB y23 0) (some [Tree.bool (gB y23 0)]) none) none) (some [Tree.bool false])) (some
  [Tree.bool false])) none) none)) n ([AV.t (Tree.sl (3:Nat) []), AV.t (tI (0:Int))], [AObj.row false (0:Nat) (3:Nat) (gL y17 0)])) none) none) none)) n ([AV.t (Tree.sl (3:Nat) []), AV.t (tI (0:Int))],
  [])))) (again4 ([AV.t (tI (w64 (vI p3 0 + (1:Int))))], []))) none) none) none) none) none) none) (cnd (w64 (((List.length a0:Nat):Int) + (1:Int)) = (0:Int)) none (loopIter (fun (p24 : List AV × Heap)
  (again25 : _ → Option (List Tree)) => cnd (decide (vI p24 1 < ((List.length a0:Nat):Int)) = true) (cnd ((3:Nat) = (3:Nat) ∧ (0:Int) ≤ vI p24 1) (Option.bind a0[Int.toNat (vI p24 1)]? fun y26 => cnd
  (okI y26 0) (cnd (okI y26 1) (cnd (okI y26 2) (Option.bind (apure C n (21:Nat) [Tree.sl (3:Nat) (vL p24 0), tI (gI y26 0), tI (gI y26 1), tI (gI y26 2)]) fun y27 => cnd (List.length y27 = (2:Nat))
  (cnd (okL 3 y27 0) (cnd (okI y27 1) (cnd ((gI y27 1 == (6:Int)) = true) (again25 ([AV.t (Tree.sl (3:Nat) (vL p24 0)), AV.t (tI (w64 (vI p24 1 + (1:Int))))], [])) (Option.bind (apure C n (23:Nat)
  [Tree.sl (3:Nat) (gL y27 0), tI (gI y26 0), tI (gI y26 1), tI (gI y26 2)]) fun y28 => cnd (List.length y28 = (2:Nat)) (cnd (okL 3 y28 0) (cnd (okI y28 1) (Option.bind (apure C n (21:Nat) [Tree.sl
  (3:Nat) (gL y28 0), tI (gI y26 0), tI (gI y26 1), tI (gI y26 2)]) fun y29 => cnd (List.length y29 = (2:Nat)) (cnd (okL 3 y29 0) (cnd (okI y29 1) (cnd ((gI y27 1 != (0:Int)) = true) (some [Tree.bool
  false]) (cnd ((gI y28 1 != (0:Int)) = true) (some [Tree.bool false]) (cnd ((gI y29 1 != (0:Int)) = true) (some [Tree.bool false]) (Option.bind (apure C n (20:Nat) [Tree.sl (3:Nat) (gL y28 0), Tree.sl
  (3:Nat) (vL p24 0)]) fun y30 => cnd (List.length y30 = (1:Nat)) (cnd (okB y30 0) (cnd ((!gB y30 0) = true) (some [Tree.bool false]) (Option.bind (apure C n (20:Nat) [Tree.sl (3:Nat) (gL y29 0),
  Tree.sl (3:Nat) (gL y27 0)]) fun y31 => cnd (List.length y31 = (1:Nat)) (cnd (okB y31 0) (cnd ((!gB y31 0) = true) (some [Tree.bool false]) (Option.bind (apure C n (10:Nat) [Tree.sl (3:Nat) (gL y27
  0)]) fun y32 => cnd (List.length y32 = (1:Nat)) (cnd (okI y32 0) (cnd ((gI y32 0 != (0:Int)) = true) (some [Tree.bool false]) (again25 ([AV.t (Tree.sl (3:Nat) (gL y27 0)), AV.t (tI (w64 (vI p24 1 +
  (1:Int))))], []))) none) none)) none) none)) none) none)))) none) none) none) none) none) none)) none) none) none) none) none) none) none) (cnd ((0:Int) ≤ Int.tmod (w64 a1) (w64 (((List.length
  a0:Nat):Int) + (1:Int))) ∧ Int.tmod (w64 a1) (w64 (((List.length a0:Nat):Int) + (1:Int))) ≤ ((List.length a0:Nat):Int)) (cnd ((0:Int) ≤ Int.tmod (w64 a1) (w64 (((List.length a0:Nat):Int) + (1:Int))) ∧
  Int.tmod (w64 a1) (w64 (((List.length a0:Nat):Int) + (1:Int))) ≤ ((List.length a0:Nat):Int)) (Option.bind (apure C n (1000026:Nat) [Tree.sl (1:Nat) [[Tree.sl (3:Nat) (List.drop (Int.toNat (Int.tmod
  (w64 a1) (w64 (((List.length a0:Nat):Int) + (1:Int))))) (List.take (List.length a0) a0))], [Tree.sl (3:Nat) (List.drop (0:Nat) (List.take (Int.toNat (Int.tmod (w64 a1) (w64 (((List.length a0:Nat):Int)
  + (1:Int))))) a0))]]]) fun y33 => cnd (List.length y33 = (1:Nat) ∧ okL 3 y33 0) (loopIter (fun (p34 : List AV × Heap) (again35 : _ → Option (List Tree)) => cnd (decide (vI p34 1 < ((List.length (gL
  y33 0):Nat):Int)) = true) (cnd (oVer p34 0 = (0:Nat) ∧ (3:Nat) = (3:Nat) ∧ (0:Int) ≤ vI p34 1 ∧ vI p34 1 < ((List.length (gL y33 0):Nat):Int)) (cnd (oVer p34 0 = (0:Nat)) (Option.bind (oEs p34
  0)[(0:Nat) + Int.toNat (vI p34 1)]? fun y36 => cnd (okI y36 0) (cnd (okI y36 1) (cnd (okI y36 2) (Option.bind (apure C n (21:Nat) [Tree.sl (3:Nat) (vL p34 0), tI (gI y36 0), tI (gI y36 1), tI (gI y36
  2)]) fun y37 => cnd (List.length y37 = (2:Nat)) (cnd (okL 3 y37 0) (cnd (okI y37 1) (cnd ((gI y37 1 == (0:Int)) = true) (again35 ([AV.t (Tree.sl (3:Nat) (gL y37 0)), AV.t (tI (w64 (vI p34 1 +
  (1:Int))))], [AObj.row false (oVer p34 0) (3:Nat) (oEs p34 0)])) (again35 ([AV.t (Tree.sl (3:Nat) (vL p34 0)), AV.t (tI (w64 (vI p34 1 + (1:Int))))], [AObj.row false (oVer p34 0) (3:Nat) (oEs p34
  0)]))) none) none) none) none) none) none) none) none) (Option.bind (apure C n (20:Nat) [Tree.sl (3:Nat) (vL p24 0), Tree.sl (3:Nat) (vL p34 0)]) fun y38 => cnd (List.length y38 = (1:Nat)) (cnd (okB
  y38 0) (cnd (gB y38 0 = true) (cnd (decide (((List.length (vL p24 0):Nat):Int) ≤ ((List.length a0:Nat):Int)) = true) (Option.bind (apure C n (11:Nat) []) fun y39 => cnd (List.length y39 = (1:Nat))
  (cnd (okB y39 0) (some [Tree.bool (gB y39 0)]) none) none) (some [Tree.bool false])) (some [Tree.bool false])) none) none)) n ([AV.t (Tree.sl (3:Nat) []), AV.t (tI (0:Int))], [AObj.row false (0:Nat)
  (3:Nat) (gL y33 0)])) none) none) none)) n ([AV.t (Tree.sl (3:Nat) []), AV.t (tI (0:Int))], [])))) n ([AV.t (tI (0:Int))], [])) := by kernel_rfl

theorem e9 (n : Nat) (a0 : List (List Tree)) (a1 : List (List Tree)) (a2 : List (List Tree)) : apure C (n + 1) 9 [Tree.sl (3:Nat) a0, Tree.sl (3:Nat) a1, Tree.sl (3:Nat) a2] =
  cnd (decide (((List.length a0:Nat):Int) > (40:Int)) = true) (Option.bind (apure C n (11:Nat) []) fun y3 => cnd (List.length y3 = (1:Nat)) (cnd (okB y3 0) (some [Tree.bool (gB y3 0)]) none) none) (cnd
  (decide (((List.length a1:Nat):Int) > (40:Int)) = true) (Option.bind (apure C n (11:Nat) []) fun y4 => cnd (List.length y4 = (1:Nat)) (cnd (okB y4 0) (some [Tree.bool (gB y4 0)]) none) none) (cnd
  (decide (((List.length a2:Nat):Int) > (40:Int)) = true) (Option.bind (apure C n (11:Nat) []) fun y5 => cnd (List.length y5 = (1:Nat)) (cnd (okB y5 0) (some [Tree.bool (gB y5 0)]) none) none)
  (Option.bind (apure C n (10:Nat) [Tree.sl (3:Nat) a0]) fun y6 => cnd (List.length y6 = (1:Nat)) (cnd (okI y6 0) (cnd ((gI y6 0 != (0:Int)) = true) (Option.bind (apure C n (11:Nat) []) fun y7 => cnd
  (List.length y7 = (1:Nat)) (cnd (okB y7 0) (some [Tree.bool (gB y7 0)]) none) none) (Option.bind (apure C n (10:Nat) [Tree.sl (3:Nat) a1]) fun y8 => cnd (List.length y8 = (1:Nat)) (cnd (okI y8 0) (cnd
  ((gI y8 0 != (0:Int)) = true) (Option.bind (apure C n (11:Nat) []) fun y9 => cnd (List.length y9 = (1:Nat)) (cnd (okB y9 0) (some [Tree.bool (gB y9 0)]) none) none) (Option.bind (apure C n (10:Nat)
  [Tree.sl (3:Nat) a2]) fun y10 => cnd (List.length y10 = (1:Nat)) (cnd (okI y10 0) (cnd ((gI y10 0 != (0:Int)) = true) (Option.bind (apure C n (11:Nat) []) fun y11 => cnd (List.length y11 = (1:Nat))
  (cnd (okB y11 0) (some [Tree.bool (gB y11 0)]) none) none) (Option.bind (apure C n (30:Nat) [Tree.sl (3:Nat) a0, Tree.sl (3:Nat) a1]) fun y12 => cnd (List.length y12 = (2:Nat)) (cnd (okL 3 y12 0) (cnd
  (okI y12 1) (Option.bind (apure C n (30:Nat) [Tree.sl (3:Nat) a1, Tree.sl (3:Nat) a0]) fun y13 => cnd (List.length y13 = (2:Nat)) (cnd (okL 3 y13 0) (cnd (okI y13 1) (Option.bind (apure C n (30:Nat)
  [Tree.sl (3:Nat) (gL y12 0), Tree.sl (3:Nat) a2]) fun y14 => cnd (List.length y14 = (2:Nat)) (cnd (okL 3 y14 0) (cnd (okI y14 1) (Option.bind (apure C n (30:Nat) [Tree.sl (3:Nat) a1, Tree.sl (3:Nat)
  a2]) fun y15 => cnd (List.length y15 = (2:Nat)) (cnd (okL 3 y15 0) (cnd (okI y15 1) (Option.bind (apure C n (30:Nat) [Tree.sl (3:Nat) a0, Tree.sl (3:Nat) (gL y15 0)]) fun y16 => cnd (List.length y16 =
  (2:Nat)) (cnd (okL 3 y16 0) (cnd (okI y16 1) (Option.bind (apure C n (30:Nat) [Tree.sl (3:Nat) (gL y12 0), Tree.sl (3:Nat) a0]) fun y17 => cnd (List.length y17 = (2:Nat)) (cnd (okL 3 y17 0) (cnd (okI
  y17 1) (cnd ((gI y12 1 != (0:Int)) = true) (some [Tree.bool false]) (cnd ((gI y13 1 != (0:Int)) = true) (some [Tree.bool false]) (cnd ((gI y14 1 != (0:Int)) = true) (some [Tree.bool false]) (cnd ((gI
  y15 1 != (0:Int)) = true) (some [Tree.bool false]) (cnd ((gI y16 1 != (0:Int)) = true) (some [Tree.bool false]) (cnd ((gI y17 1 != (0:Int)) = true) (some [Tree.bool false]) (Option.bind (apure C n
  (10:Nat) [Tree.sl (3:Nat) (gL y12 0)]) fun y18 => cnd (List.length y18 = (1:Nat)) (cnd (okI y18 0) (cnd ((gI y18 0 != (0:Int)) = true) (some [Tree.bool false]) (Option.bind (apure C n (1000026:Nat)
  [Tree.sl (1:Nat) [[Tree.sl (3:Nat) a0], [Tree.sl (3:Nat) a1]]]) fun y19 => cnd (List.length y19 = (1:Nat) ∧ okL 3 y19 0) (loopIter (fun (p20 : List AV × Heap) (again21 : _ → Option (List Tree)) => cnd
  (decide (vI p20 0 < ((List.length (gL y19 0):Nat):Int)) = true) (cnd (oVer p20 0 = (0:Nat) ∧ (3:Nat) = (3:Nat) ∧ (0:Int) ≤ vI p20 0 ∧ vI p20 0 < ((List.length (gL y19 0):Nat):Int)) (cnd (oVer p20 0 =
  (0:Nat)) (Option.bind (oEs p20 0)[(0:Nat) + Int.toNat (vI p20 0)]? fun y22 => cnd (okI y22 0) (cnd (okI y22 1) (cnd (okI y22 2) (Option.bind (apure C n (34:Nat) [Tree.sl (3:Nat) (gL y12 0), tI (gI y22
  0), tI (gI y22 1), tI (gI y22 2)]) fun y23 => cnd (List.length y23 = (1:Nat)) (cnd (okB y23 0) (cnd ((!gB y23 0) = true) (some [Tree.bool false]) (again21 ([AV.t (tI (w64 (vI p20 0 + (1:Int))))],
  [AObj.row false (oVer p20 0) (3:Nat) (oEs p20 0)]))) none) none) none) none) none) none) none) (Option.bind (apure C n (20:Nat) [Tree.sl (3:Nat) (gL y12 0), Tree.sl (3:Nat) (gL y13 0)]) fun y24 => cnd
  (List.length y24 = (1:Nat)) (cnd (okB y24 0) (cnd (gB y24 0 = true) (Option.bind (apure C n (20:Nat) [Tree.sl (3:Nat) (gL y14 0), Tree.sl (3:Nat) (gL y16 0)]) fun y25 => cnd (List.length y25 =
  (1:Nat)) (cnd (okB y25 0) (cnd (gB y25 0 = true) (Option.bind (apure C n (20:Nat) [Tree.sl (3:Nat) (gL y17 0), Tree.sl (3:Nat) (gL y12 0)]) fun y26 => cnd (List.length y26 = (1:Nat)) (cnd (okB y26 0)
  (cnd (gB y26 0 = true) (cnd (decide (((List.length (gL y12 0):Nat):Int) ≤ w64 (((List.length a0:Nat):Int) + ((List.length a1:Nat):Int))) = true) (Option.bind (apure C n (11:Nat) []) fun y27 => cnd
  (List.length y27 = (1:Nat)) (cnd (okB y27 0) (some [Tree.bool (gB y27 0)]) none) none) (some [Tree.bool false])) (some [Tree.bool false])) none) none) (some [Tree.bool false])) none) none) (some
  [Tree.bool false])) none) none)) n ([AV.t (tI (0:Int))], [AObj.row false (0:Nat) (3:Nat) (gL y19 0)])) none)) none) none))))))) none) none) none) none) none) none) none) none) none) none) none) none)
  none) none) none) none) none) none)) none) none)) none) none)) none) none))) := by kernel_rfl

theorem e10 (n : Nat) (a0 : List (List Tree)) : apure C (n + 1) 10 [Tree.sl (3:Nat) a0] =
  cnd (decide (((List.length a0:Nat):Int) > (1000:Int)) = true) (some [tI (4:Int)]) (loopIter (fun (p1 : List AV × Heap) (again2 : _ → Option (List Tree)) => cnd (decide (vI p1 0 < ((List.length
  a0:Nat):Int)) = true) (cnd ((3:Nat) = (3:Nat) ∧ (0:Int) ≤ vI p1 0) (Option.bind a0[Int.toNat (vI p1 0)]? fun y3 => cnd (okI y3 0) (cnd (okI y3 1) (cnd (okI y3 2) (Option.bind (apure C n (35:Nat) [tI
  (gI y3 0), tI (gI y3 1), tI (gI y3 2)]) fun y4 => cnd (List.length y4 = (1:Nat)) (cnd (okB y4 0) (cnd ((!gB y4 0) = true) (some [tI (2:Int)]) (cnd (decide (vI p1 0 > (0:Int)) = true) (cnd ((3:Nat) =
  (3:Nat) ∧ (0:Int) ≤ w64 (vI p1 0 - (1:Int))) (Option.bind a0[Int.toNat (w64 (vI p1 0 - (1:Int)))]? fun y5 => cnd (okI y5 0) (cnd (okI y5 1) (cnd (okI y5 2) (Option.bind (apure C n (36:Nat) [tI (gI y5
  0), tI (gI y5 1), tI (gI y5 2), tI (gI y3 0), tI (gI y3 1), tI (gI y3 2)]) fun y6 => cnd (List.length y6 = (1:Nat)) (cnd (okI y6 0) (cnd (decide (gI y6 0 ≥ (0:Int)) = true) (some [tI (9:Int)]) (again2
  ([AV.t (tI (w64 (vI p1 0 + (1:Int))))], []))) none) none) none) none) none) none) (again2 ([AV.t (tI (w64 (vI p1 0 + (1:Int))))], [])))) none) none) none) none) none) none) (some [tI (0:Int)])) n
  ([AV.t (tI (0:Int))], [])) := by kernel_rfl

theorem e11 (n : Nat)  : apure C (n + 1) 11 [] =
  Option.bind (apure C n (21:Nat) [Tree.sl (3:Nat) [[tI (5:Int), tI (1:Int), tI (9:Int)]], tI (5:Int), tI (2:Int), tI (0:Int)]) fun y0 => cnd (List.length y0 = (2:Nat)) (cnd (okL 3 y0 0) (cnd (okI y0 1)
  (Option.bind (apure C n (17:Nat) [Tree.sl (3:Nat) (gL y0 0), tI (4:Int)]) fun y1 => cnd (List.length y1 = (3:Nat)) (cnd (okL 3 y1 0) (cnd (okL 3 y1 1) (cnd (okI y1 2) (Option.bind (apure C n (12:Nat)
  [Tree.sl (3:Nat) (gL y0 0)]) fun y2 => cnd (List.length y2 = (2:Nat)) (cnd (okI y2 0) (cnd (okB y2 1) (cnd ((gI y0 1 == (0:Int)) = true) (cnd ((gI y1 2 == (0:Int)) = true) (cnd (gB y2 1 = true) (cnd
  ((gI y2 0 == (5:Int)) = true) (Option.bind (apure C n (20:Nat) [Tree.sl (3:Nat) (gL y0 0), Tree.sl (3:Nat) [[tI (5:Int), tI (1:Int), tI (9:Int)], [tI (5:Int), tI (2:Int), tI (0:Int)]]]) fun y3 => cnd
  (List.length y3 = (1:Nat)) (cnd (okB y3 0) (cnd (gB y3 0 = true) (cnd ((((List.length (gL y1 0):Nat):Int) == (0:Int)) = true) (Option.bind (apure C n (20:Nat) [Tree.sl (3:Nat) (gL y1 1), Tree.sl
  (3:Nat) (gL y0 0)]) fun y4 => cnd (List.length y4 = (1:Nat)) (cnd (okB y4 0) (some [Tree.bool (gB y4 0)]) none) none) (some [Tree.bool false])) (some [Tree.bool false])) none) none) (some [Tree.bool
  false])) (some [Tree.bool false])) (some [Tree.bool false])) (some [Tree.bool false])) none) none) none) none) none) none) none) none) none) none := by kernel_rfl

theorem e12 (n : Nat) (a0 : List (List Tree)) : apure C (n + 1) 12 [Tree.sl (3:Nat) a0] =
  Option.bind (apure C n (10:Nat) [Tree.sl (3:Nat) a0]) fun y1 => cnd (List.length y1 = (1:Nat)) (cnd (okI y1 0) (cnd ((gI y1 0 != (0:Int)) = true) (some [tI (0:Int), Tree.bool false]) (cnd
  ((((List.length a0:Nat):Int) == (0:Int)) = true) (some [tI (0:Int), Tree.bool false]) (Option.bind a0[(0:Nat)]? fun y2 => cnd (okI y2 0) (some [tI (gI y2 0), Tree.bool true]) none))) none) none := by kernel_rfl

theorem e13 (n : Nat) (a0 : List (List Tree)) : apure C (n + 1) 13 [Tree.sl (3:Nat) a0] =
  Option.bind (apure C n (10:Nat) [Tree.sl (3:Nat) a0]) fun y1 => cnd (List.length y1 = (1:Nat)) (cnd (okI y1 0) (cnd ((gI y1 0 != (0:Int)) = true) (some [tI (0:Int), tI (0:Int), tI (0:Int), Tree.sl
  (3:Nat) [], tI (1:Int)]) (cnd ((((List.length a0:Nat):Int) == (0:Int)) = true) (some [tI (0:Int), tI (0:Int), tI (0:Int), Tree.sl (3:Nat) [], tI (20:Int)]) (Option.bind a0[(0:Nat)]? fun y2 => cnd (okI
  y2 0) (cnd (okI y2 1) (cnd (okI y2 2) (cnd ((0:Int) ≤ (1:Int) ∧ (1:Int) ≤ ((List.length a0:Nat):Int)) (Option.bind (apure C n (1000037:Nat) [Tree.sl (3:Nat) (List.drop (1:Nat) (List.take (List.length
  a0) a0))]) fun y3 => cnd (List.length y3 = (1:Nat) ∧ okL 3 y3 0) (some [tI (gI y2 0), tI (gI y2 1), tI (gI y2 2), Tree.sl (3:Nat) (List.take (List.length (gL y3 0)) (List.drop (0:Nat) (gL y3 0))), tI
  (0:Int)]) none) none) none) none) none))) none) none := by kernel_rfl

theorem e14 (n : Nat) (a0 : Int) (a1 : Int) (a2 : Int) (a3 : Int) (a4 : Int) (a5 : Int) : apure C (n + 1) 14 [tI a0, tI a1, tI a2, tI a3, tI a4, tI a5] =
  cnd ((a0 != a3) = true) (some [Tree.bool (decide (a0 < a3))]) (cnd ((a1 != a4) = true) (some [Tree.bool (decide (a1 < a4))]) (some [Tree.bool (decide (a2 < a5))])) := by kernel_rfl

theorem e15 (n : Nat) (a0 : List (List Tree)) : apure C (n + 1) 15 [Tree.sl (1:Nat) a0] =
  loopIter (fun (p1 : List AV × Heap) (again2 : _ → Option (List Tree)) => cnd (decide (vI p1 0 < ((List.length a0:Nat):Int)) = true) (cnd ((1:Nat) = (1:Nat) ∧ (0:Int) ≤ vI p1 0) (Option.bind
  a0[Int.toNat (vI p1 0)]? fun y3 => cnd (okL 3 y3 0) (Option.bind (apure C n (39:Nat) [Tree.sl (3:Nat) (gL y3 0)]) fun y4 => cnd (List.length y4 = (1:Nat)) (cnd (okB y4 0) (cnd (gB y4 0 = true) (some
  [Tree.bool (decide (vI p1 0 ≥ (0:Int)))]) (again2 ([AV.t (tI (w64 (vI p1 0 + (1:Int))))], []))) none) none) none) none) (some [Tree.bool false])) n ([AV.t (tI (0:Int))], []) := by kernel_rfl

theorem e16 (n : Nat) (a0 : List (List Tree)) : apure C (n + 1) 16 [Tree.sl (3:Nat) a0] =
  Option.bind (apure C n (25:Nat) [Tree.sl (3:Nat) a0]) fun y1 => cnd (List.length y1 = (1:Nat)) (cnd (okI y1 0) (cnd ((gI y1 0 != (0:Int)) = true) (some [tI (0:Int), tI (0:Int), tI (0:Int), Tree.sl
  (3:Nat) [], tI (1:Int)]) (cnd ((((List.length a0:Nat):Int) == (0:Int)) = true) (some [tI (0:Int), tI (0:Int), tI (0:Int), Tree.sl (3:Nat) [], tI (20:Int)]) (Option.bind a0[(0:Nat)]? fun y2 => cnd (okI
  y2 0) (cnd (okI y2 1) (cnd (okI y2 2) (cnd ((0:Int) ≤ (1:Int) ∧ (1:Int) ≤ ((List.length a0:Nat):Int)) (some [tI (gI y2 0), tI (gI y2 1), tI (gI y2 2), Tree.sl (3:Nat) (List.drop (1:Nat) (List.take
  (List.length a0) a0)), tI (0:Int)]) none) none) none) none))) none) none := by kernel_rfl

theorem e17 (n : Nat) (a0 : List (List Tree)) (a1 : Int) : apure C (n + 1) 17 [Tree.sl (3:Nat) a0, tI a1] =
  Option.bind (apure C n (10:Nat) [Tree.sl (3:Nat) a0]) fun y2 => cnd (List.length y2 = (1:Nat)) (cnd (okI y2 0) (cnd ((gI y2 0 != (0:Int)) = true) (some [Tree.sl (3:Nat) [], Tree.sl (3:Nat) [], tI
  (1:Int)]) (loopIter (fun (p3 : List AV × Heap) (again4 : _ → Option (List Tree)) => cnd (decide (vI p3 0 < ((List.length a0:Nat):Int)) = true) (cnd ((3:Nat) = (3:Nat) ∧ (0:Int) ≤ vI p3 0) (Option.bind
  a0[Int.toNat (vI p3 0)]? fun y5 => cnd (okI y5 0) (cnd (okI y5 1) (cnd (okI y5 2) (cnd (decide (gI y5 0 > a1) = true) (cnd (decide (vI p3 0 < (0:Int)) = true) (cnd ((0:Int) ≤ ((List.length
  a0:Nat):Int) ∧ ((List.length a0:Nat):Int) ≤ ((List.length a0:Nat):Int)) (Option.bind (apure C n (1000037:Nat) [Tree.sl (3:Nat) (List.drop (0:Nat) (List.take (Int.toNat ((List.length a0:Nat):Int))
  a0))]) fun y6 => cnd (List.length y6 = (1:Nat) ∧ okL 3 y6 0) (cnd ((0:Int) ≤ ((List.length a0:Nat):Int) ∧ ((List.length a0:Nat):Int) ≤ ((List.length a0:Nat):Int)) (Option.bind (apure C n (1000037:Nat)
  [Tree.sl (3:Nat) (List.drop (Int.toNat ((List.length a0:Nat):Int)) (List.take (List.length a0) a0))]) fun y7 => cnd (List.length y7 = (1:Nat) ∧ okL 3 y7 0) (some [Tree.sl (3:Nat) (List.take
  (List.length (gL y6 0)) (List.drop (0:Nat) (gL y6 0))), Tree.sl (3:Nat) (List.take (List.length (gL y7 0)) (List.drop (0:Nat) (gL y7 0))), tI (0:Int)]) none) none) none) none) (cnd ((0:Int) ≤ vI p3 0
  ∧ vI p3 0 ≤ ((List.length a0:Nat):Int)) (Option.bind (apure C n (1000037:Nat) [Tree.sl (3:Nat) (List.drop (0:Nat) (List.take (Int.toNat (vI p3 0)) a0))]) fun y8 => cnd (List.length y8 = (1:Nat) ∧ okL
  3 y8 0) (cnd ((0:Int) ≤ vI p3 0 ∧ vI p3 0 ≤ ((List.length a0:Nat):Int)) (Option.bind (apure C n (1000037:Nat) [Tree.sl (3:Nat) (List.drop (Int.toNat (vI p3 0)) (List.take (List.length a0) a0))]) fun
  y9 => cnd (List.length y9 = (1:Nat) ∧ okL 3 y9 0) (some [Tree.sl (3:Nat) (List.take (List.length (gL y8 0)) (List.drop (0:Nat) (gL y8 0))), Tree.sl (3:Nat) (List.take (List.length (gL y9 0))
  (List.drop (0:Nat) (gL y9 0))), tI (0:Int)]) none) none) none) none)) (again4 ([AV.t (tI (w64 (vI p3 0 + (1:Int))))], []))) none) none) none) none) (cnd ((0:Int) ≤ ((List.length a0:Nat):Int) ∧
  ((List.length a0:Nat):Int) ≤ ((List.length a0:Nat):Int)) (Option.bind (apure C n (1000037:Nat) [Tree.sl (3:Nat) (List.drop (0:Nat) (List.take (Int.toNat ((List.length a0:Nat):Int)) a0))]) fun y10 =>
  cnd (List.length y10 = (1:Nat) ∧ okL 3 y10 0) (cnd ((0:Int) ≤ ((List.length a0:Nat):Int) ∧ ((List.length a0:Nat):Int) ≤ ((List.length a0:Nat):Int)) (Option.bind (apure C n (1000037:Nat) [Tree.sl
  (3:Nat) (List.drop (Int.toNat ((List.length a0:Nat):Int)) (List.take (List.length a0) a0))]) fun y11 => cnd (List.length y11 = (1:Nat) ∧ okL 3 y11 0) (some [Tree.sl (3:Nat) (List.take (List.length (gL
  y10 0)) (List.drop (0:Nat) (gL y10 0))), Tree.sl (3:Nat) (List.take (List.length (gL y11 0)) (List.drop (0:Nat) (gL y11 0))), tI (0:Int)]) none) none) none) none)) n ([AV.t (tI (0:Int))], []))) none)
  none := by kernel_rfl

theorem e18 (n : Nat) (a0 : List (List Tree)) (a1 : Int) : apure C (n + 1) 18 [Tree.sl (3:Nat) a0, tI a1] =
  Option.bind (apure C n (25:Nat) [Tree.sl (3:Nat) a0]) fun y2 => cnd (List.length y2 = (1:Nat)) (cnd (okI y2 0) (cnd ((gI y2 0 != (0:Int)) = true) (some [Tree.sl (3:Nat) [], Tree.sl (3:Nat) [], tI
  (1:Int)]) (loopIter (fun (p3 : List AV × Heap) (again4 : _ → Option (List Tree)) => cnd (decide (vI p3 0 < ((List.length a0:Nat):Int)) = true) (cnd ((3:Nat) = (3:Nat) ∧ (0:Int) ≤ vI p3 0) (Option.bind
  a0[Int.toNat (vI p3 0)]? fun y5 => cnd (okI y5 0) (cnd (decide (gI y5 0 ≤ a1) = true) (again4 ([AV.t (tI (w64 (vI p3 0 + (1:Int))))], [])) (cnd ((0:Int) ≤ vI p3 0 ∧ vI p3 0 ≤ ((List.length
  a0:Nat):Int)) (cnd ((0:Int) ≤ vI p3 0 ∧ vI p3 0 ≤ ((List.length a0:Nat):Int)) (some [Tree.sl (3:Nat) (List.drop (0:Nat) (List.take (Int.toNat (vI p3 0)) a0)), Tree.sl (3:Nat) (List.drop (Int.toNat (vI
  p3 0)) (List.take (List.length a0) a0)), tI (0:Int)]) none) none)) none) none) (cnd ((0:Int) ≤ vI p3 0 ∧ vI p3 0 ≤ ((List.length a0:Nat):Int)) (cnd ((0:Int) ≤ vI p3 0 ∧ vI p3 0 ≤ ((List.length
  a0:Nat):Int)) (some [Tree.sl (3:Nat) (List.drop (0:Nat) (List.take (Int.toNat (vI p3 0)) a0)), Tree.sl (3:Nat) (List.drop (Int.toNat (vI p3 0)) (List.take (List.length a0) a0)), tI (0:Int)]) none)
  none)) n ([AV.t (tI (0:Int))], []))) none) none := by kernel_rfl

theorem e19 (n : Nat) (a0 : List (List Tree)) : apure C (n + 1) 19 [Tree.sl (3:Nat) a0] =
  Option.bind (apure C n (25:Nat) [Tree.sl (3:Nat) a0]) fun y1 => cnd (List.length y1 = (1:Nat)) (cnd (okI y1 0) (cnd ((gI y1 0 != (0:Int)) = true) (some [tI (0:Int), Tree.bool false]) (cnd
  ((((List.length a0:Nat):Int) == (0:Int)) = true) (some [tI (0:Int), Tree.bool false]) (Option.bind a0[(0:Nat)]? fun y2 => cnd (okI y2 0) (some [tI (gI y2 0), Tree.bool true]) none))) none) none := by kernel_rfl

theorem e20 (n : Nat) (a0 : List (List Tree)) (a1 : List (List Tree)) : apure C (n + 1) 20 [Tree.sl (3:Nat) a0, Tree.sl (3:Nat) a1] =
  cnd ((((List.length a0:Nat):Int) != ((List.length a1:Nat):Int)) = true) (some [Tree.bool false]) (loopIter (fun (p2 : List AV × Heap) (again3 : _ → Option (List Tree)) => cnd (decide (vI p2 0 <
  ((List.length a0:Nat):Int)) = true) (cnd ((3:Nat) = (3:Nat) ∧ (0:Int) ≤ vI p2 0) (Option.bind a0[Int.toNat (vI p2 0)]? fun y4 => cnd (okI y4 0) (cnd (okI y4 1) (cnd (okI y4 2) (cnd ((3:Nat) = (3:Nat)
  ∧ (0:Int) ≤ vI p2 0) (Option.bind a1[Int.toNat (vI p2 0)]? fun y5 => cnd (okI y5 0) (cnd (okI y5 1) (cnd (okI y5 2) (cnd ((!(true && gI y4 0 == gI y5 0 && gI y4 1 == gI y5 1 && gI y4 2 == gI y5 2)) =
  true) (some [Tree.bool false]) (again3 ([AV.t (tI (w64 (vI p2 0 + (1:Int))))], []))) none) none) none) none) none) none) none) none) (some [Tree.bool true])) n ([AV.t (tI (0:Int))], [])) := by kernel_rfl

theorem e21 (n : Nat) (a0 : List (List Tree)) (a1 : Int) (a2 : Int) (a3 : Int) : apure C (n + 1) 21 [Tree.sl (3:Nat) a0, tI a1, tI a2, tI a3] =
  Option.bind (apure C n (10:Nat) [Tree.sl (3:Nat) a0]) fun y4 => cnd (List.length y4 = (1:Nat)) (cnd (okI y4 0) (cnd ((gI y4 0 != (0:Int)) = true) (some [Tree.sl (3:Nat) [], tI (1:Int)]) (Option.bind
  (apure C n (35:Nat) [tI a1, tI a2, tI a3]) fun y5 => cnd (List.length y5 = (1:Nat)) (cnd (okB y5 0) (cnd ((!gB y5 0) = true) (some [Tree.sl (3:Nat) [], tI (2:Int)]) (Option.bind (apure C n (42:Nat)
  [Tree.sl (3:Nat) a0, tI a1, tI a2, tI a3]) fun y6 => cnd (List.length y6 = (2:Nat)) (cnd (okI y6 0) (cnd (okB y6 1) (cnd (gB y6 1 = true) (some [Tree.sl (3:Nat) [], tI (6:Int)]) (cnd ((((List.length
  a0:Nat):Int) == (1000:Int)) = true) (some [Tree.sl (3:Nat) [], tI (4:Int)]) (Option.bind (apure C n (1000037:Nat) [Tree.sl (3:Nat) a0]) fun y7 => cnd (List.length y7 = (1:Nat) ∧ okL 3 y7 0) (cnd
  ((0:Nat) = (0:Nat) ∧ (3:Nat) = (3:Nat) ∧ (0:Nat) + List.length (gL y7 0) = List.length (gL y7 0) ∧ List.length (gL y7 0) + (1:Nat) ≤ (1073741824:Nat) ∧ (0:Int) ≤ gI y6 0 ∧ gI y6 0 ≤ ((List.length (gL
  y7 0):Nat):Int)) (some [Tree.sl (3:Nat) (List.take (List.length (gL y7 0) + (1:Nat)) (List.drop (0:Nat) (List.take (Int.toNat (gI y6 0)) (List.drop (0:Nat) (gL y7 0)) ++ [[tI a1, tI a2, tI a3]] ++
  List.drop (Int.toNat (gI y6 0)) (List.drop (0:Nat) (gL y7 0))))), tI (0:Int)]) none) none))) none) none) none)) none) none)) none) none := by kernel_rfl

theorem e22 (n : Nat) (a0 : List (List Tree)) (a1 : Int) (a2 : Int) (a3 : Int) : apure C (n + 1) 22 [Tree.sl (3:Nat) a0, tI a1, tI a2, tI a3] =
  Option.bind (apure C n (25:Nat) [Tree.sl (3:Nat) a0]) fun y4 => cnd (List.length y4 = (1:Nat)) (cnd (okI y4 0) (cnd ((gI y4 0 != (0:Int)) = true) (some [Tree.sl (3:Nat) [], tI (1:Int)]) (Option.bind
  (apure C n (33:Nat) [tI a1, tI a2, tI a3]) fun y5 => cnd (List.length y5 = (1:Nat)) (cnd (okB y5 0) (cnd ((!gB y5 0) = true) (some [Tree.sl (3:Nat) [], tI (2:Int)]) (Option.bind (apure C n (44:Nat)
  [Tree.sl (3:Nat) a0, tI a1, tI a2, tI a3]) fun y6 => cnd (List.length y6 = (1:Nat)) (cnd (okB y6 0) (cnd (gB y6 0 = true) (some [Tree.sl (3:Nat) [], tI (6:Int)]) (cnd ((((List.length a0:Nat):Int) ==
  (1000:Int)) = true) (some [Tree.sl (3:Nat) [], tI (4:Int)]) (Option.bind (apure C n (45:Nat) [Tree.sl (3:Nat) a0, tI a1, tI a2, tI a3]) fun y7 => cnd (List.length y7 = (1:Nat)) (cnd (okL 3 y7 0) (some
  [Tree.sl (3:Nat) (gL y7 0), tI (0:Int)]) none) none))) none) none)) none) none)) none) none := by kernel_rfl

theorem e23 (n : Nat) (a0 : List (List Tree)) (a1 : Int) (a2 : Int) (a3 : Int) : apure C (n + 1) 23 [Tree.sl (3:Nat) a0, tI a1, tI a2, tI a3] =
  Option.bind (apure C n (10:Nat) [Tree.sl (3:Nat) a0]) fun y4 => cnd (List.length y4 = (1:Nat)) (cnd (okI y4 0) (cnd ((gI y4 0 != (0:Int)) = true) (some [Tree.sl (3:Nat) [], tI (1:Int)]) (Option.bind
  (apure C n (42:Nat) [Tree.sl (3:Nat) a0, tI a1, tI a2, tI a3]) fun y5 => cnd (List.length y5 = (2:Nat)) (cnd (okI y5 0) (cnd (okB y5 1) (cnd ((!gB y5 1) = true) (some [Tree.sl (3:Nat) [], tI (7:Int)])
  (Option.bind (apure C n (1000037:Nat) [Tree.sl (3:Nat) a0]) fun y6 => cnd (List.length y6 = (1:Nat) ∧ okL 3 y6 0) (cnd ((0:Int) ≤ ((List.length (gL y6 0):Nat):Int) ∧ ((List.length (gL y6 0):Nat):Int)
  ≤ ((List.length (gL y6 0) - (0:Nat):Nat):Int)) (cnd ((0:Int) ≤ w64 (gI y5 0 + (1:Int)) ∧ w64 (gI y5 0 + (1:Int)) ≤ ((Int.toNat ((List.length (gL y6 0):Nat):Int):Nat):Int)) (cnd ((0:Int) ≤ gI y5 0 ∧ gI
  y5 0 ≤ ((Int.toNat (w64 (gI y5 0 + (1:Int))):Nat):Int)) (cnd ((gI y5 0 == w64 (gI y5 0 + (1:Int))) = true) (some [Tree.sl (3:Nat) (List.take (List.length (gL y6 0)) (List.drop (0:Nat) (gL y6 0))), tI
  (0:Int)]) (cnd ((0:Int) ≤ gI y5 0 ∧ gI y5 0 ≤ ((List.length (gL y6 0) - (0:Nat):Nat):Int)) (cnd ((0:Nat) < List.length (gL y6 0) - (0:Nat) ∨ (0:Nat) = (0:Nat)) (cnd ((0:Int) ≤ w64 (gI y5 0 + (1:Int))
  ∧ w64 (gI y5 0 + (1:Int)) ≤ ((List.length (gL y6 0):Nat):Int)) (cnd (Int.toNat (w64 (gI y5 0 + (1:Int))) < List.length (gL y6 0) - (0:Nat) ∨ Int.toNat (w64 (gI y5 0 + (1:Int))) = (0:Nat)) (cnd
  ((0:Nat) = (0:Nat) ∧ (3:Nat) = (3:Nat) ∧ (0:Nat) + (Int.toNat (gI y5 0) - (0:Nat)) + List.length (List.take (List.length (gL y6 0) - Int.toNat (w64 (gI y5 0 + (1:Int)))) (List.drop ((0:Nat) +
  Int.toNat (w64 (gI y5 0 + (1:Int)))) (gL y6 0))) ≤ List.length (gL y6 0)) (cnd ((0:Int) ≤ ((List.length (gL y6 0):Nat):Int) ∧ ((List.length (gL y6 0):Nat):Int) ≤ ((List.length (rowSet (gL y6 0)
  ((0:Nat) + (Int.toNat (gI y5 0) - (0:Nat))) (List.take (List.length (gL y6 0) - Int.toNat (w64 (gI y5 0 + (1:Int)))) (List.drop ((0:Nat) + Int.toNat (w64 (gI y5 0 + (1:Int)))) (gL y6 0)))) -
  (0:Nat):Nat):Int)) (cnd ((0:Int) ≤ ((Int.toNat (gI y5 0) - (0:Nat) + List.length (List.take (List.length (gL y6 0) - Int.toNat (w64 (gI y5 0 + (1:Int)))) (List.drop ((0:Nat) + Int.toNat (w64 (gI y5 0
  + (1:Int)))) (gL y6 0))):Nat):Int) ∧ ((Int.toNat (gI y5 0) - (0:Nat) + List.length (List.take (List.length (gL y6 0) - Int.toNat (w64 (gI y5 0 + (1:Int)))) (List.drop ((0:Nat) + Int.toNat (w64 (gI y5
  0 + (1:Int)))) (gL y6 0))):Nat):Int) ≤ ((Int.toNat ((List.length (gL y6 0):Nat):Int):Nat):Int)) (cnd (Int.toNat ((Int.toNat (gI y5 0) - (0:Nat) + List.length (List.take (List.length (gL y6 0) -
  Int.toNat (w64 (gI y5 0 + (1:Int)))) (List.drop ((0:Nat) + Int.toNat (w64 (gI y5 0 + (1:Int)))) (gL y6 0))):Nat):Int) < List.length (rowSet (gL y6 0) ((0:Nat) + (Int.toNat (gI y5 0) - (0:Nat)))
  (List.take (List.length (gL y6 0) - Int.toNat (w64 (gI y5 0 + (1:Int)))) (List.drop ((0:Nat) + Int.toNat (w64 (gI y5 0 + (1:Int)))) (gL y6 0)))) - (0:Nat) ∨ Int.toNat ((Int.toNat (gI y5 0) - (0:Nat) +
  List.length (List.take (List.length (gL y6 0) - Int.toNat (w64 (gI y5 0 + (1:Int)))) (List.drop ((0:Nat) + Int.toNat (w64 (gI y5 0 + (1:Int)))) (gL y6 0))):Nat):Int) = (0:Nat)) (some [Tree.sl (3:Nat)
  (List.take (Int.toNat (gI y5 0) - (0:Nat) + List.length (List.take (List.length (gL y6 0) - Int.toNat (w64 (gI y5 0 + (1:Int)))) (List.drop ((0:Nat) + Int.toNat (w64 (gI y5 0 + (1:Int)))) (gL y6 0))))
  (List.drop (0:Nat) (rowSet (rowSet (gL y6 0) ((0:Nat) + (Int.toNat (gI y5 0) - (0:Nat))) (List.take (List.length (gL y6 0) - Int.toNat (w64 (gI y5 0 + (1:Int)))) (List.drop ((0:Nat) + Int.toNat (w64
  (gI y5 0 + (1:Int)))) (gL y6 0)))) ((0:Nat) + Int.toNat ((Int.toNat (gI y5 0) - (0:Nat) + List.length (List.take (List.length (gL y6 0) - Int.toNat (w64 (gI y5 0 + (1:Int)))) (List.drop ((0:Nat) +
  Int.toNat (w64 (gI y5 0 + (1:Int)))) (gL y6 0))):Nat):Int)) (List.replicate (Int.toNat ((List.length (gL y6 0):Nat):Int) - Int.toNat ((Int.toNat (gI y5 0) - (0:Nat) + List.length (List.take
  (List.length (gL y6 0) - Int.toNat (w64 (gI y5 0 + (1:Int)))) (List.drop ((0:Nat) + Int.toNat (w64 (gI y5 0 + (1:Int)))) (gL y6 0))):Nat):Int)) [tI (0:Int), tI (0:Int), tI (0:Int)])))), tI (0:Int)])
  (some [Tree.sl (3:Nat) (List.take (Int.toNat (gI y5 0) - (0:Nat) + List.length (List.take (List.length (gL y6 0) - Int.toNat (w64 (gI y5 0 + (1:Int)))) (List.drop ((0:Nat) + Int.toNat (w64 (gI y5 0 +
  (1:Int)))) (gL y6 0)))) (List.drop (0:Nat) (rowSet (gL y6 0) ((0:Nat) + (Int.toNat (gI y5 0) - (0:Nat))) (List.take (List.length (gL y6 0) - Int.toNat (w64 (gI y5 0 + (1:Int)))) (List.drop ((0:Nat) +
  Int.toNat (w64 (gI y5 0 + (1:Int)))) (gL y6 0)))))), tI (0:Int)])) none) none) none) (cnd ((0:Nat) = (0:Nat) ∧ (0:Nat) + (Int.toNat (gI y5 0) - (0:Nat)) < List.length (gL y6 0)) (cnd ((0:Int) ≤
  ((List.length (gL y6 0):Nat):Int) ∧ ((List.length (gL y6 0):Nat):Int) ≤ ((List.length (gL y6 0) - (0:Nat):Nat):Int)) (cnd ((0:Int) ≤ ((Int.toNat (gI y5 0) - (0:Nat):Nat):Int) ∧ ((Int.toNat (gI y5 0) -
  (0:Nat):Nat):Int) ≤ ((Int.toNat ((List.length (gL y6 0):Nat):Int):Nat):Int)) (cnd (Int.toNat ((Int.toNat (gI y5 0) - (0:Nat):Nat):Int) < List.length (gL y6 0) - (0:Nat) ∨ Int.toNat ((Int.toNat (gI y5
  0) - (0:Nat):Nat):Int) = (0:Nat)) (some [Tree.sl (3:Nat) (List.take (Int.toNat (gI y5 0) - (0:Nat)) (List.drop (0:Nat) (rowSet (gL y6 0) ((0:Nat) + Int.toNat ((Int.toNat (gI y5 0) - (0:Nat):Nat):Int))
  (List.replicate (Int.toNat ((List.length (gL y6 0):Nat):Int) - Int.toNat ((Int.toNat (gI y5 0) - (0:Nat):Nat):Int)) [tI (0:Int), tI (0:Int), tI (0:Int)])))), tI (0:Int)]) (some [Tree.sl (3:Nat)
  (List.take (Int.toNat (gI y5 0) - (0:Nat)) (List.drop (0:Nat) (gL y6 0))), tI (0:Int)])) none) none) (cnd ((0:Nat) = (0:Nat) ∧ ((3:Nat) = (3:Nat) ∨ (3:Nat) = (0:Nat)) ∧ (0:Nat) + (Int.toNat (gI y5 0)
  - (0:Nat)) = List.length (gL y6 0) ∧ Int.toNat (gI y5 0) - (0:Nat) + (0:Nat) ≤ (1073741824:Nat)) (cnd ((0:Int) ≤ ((List.length (gL y6 0):Nat):Int) ∧ ((List.length (gL y6 0):Nat):Int) ≤ ((List.length
  (List.drop (0:Nat) (gL y6 0) ++ []) - (0:Nat):Nat):Int)) (cnd ((0:Int) ≤ ((Int.toNat (gI y5 0) - (0:Nat) + (0:Nat):Nat):Int) ∧ ((Int.toNat (gI y5 0) - (0:Nat) + (0:Nat):Nat):Int) ≤ ((Int.toNat
  ((List.length (gL y6 0):Nat):Int):Nat):Int)) (cnd (Int.toNat ((Int.toNat (gI y5 0) - (0:Nat) + (0:Nat):Nat):Int) < List.length (List.drop (0:Nat) (gL y6 0) ++ []) - (0:Nat) ∨ Int.toNat ((Int.toNat (gI
  y5 0) - (0:Nat) + (0:Nat):Nat):Int) = (0:Nat)) (some [Tree.sl (3:Nat) (List.take (Int.toNat (gI y5 0) - (0:Nat) + (0:Nat)) (List.drop (0:Nat) (rowSet (List.drop (0:Nat) (gL y6 0) ++ []) ((0:Nat) +
  Int.toNat ((Int.toNat (gI y5 0) - (0:Nat) + (0:Nat):Nat):Int)) (List.replicate (Int.toNat ((List.length (gL y6 0):Nat):Int) - Int.toNat ((Int.toNat (gI y5 0) - (0:Nat) + (0:Nat):Nat):Int)) [tI
  (0:Int), tI (0:Int), tI (0:Int)])))), tI (0:Int)]) (some [Tree.sl (3:Nat) (List.take (Int.toNat (gI y5 0) - (0:Nat) + (0:Nat)) (List.drop (0:Nat) (List.drop (0:Nat) (gL y6 0) ++ []))), tI (0:Int)]))
  none) none) none))) none) (cnd ((0:Int) ≤ w64 (gI y5 0 + (1:Int)) ∧ w64 (gI y5 0 + (1:Int)) ≤ ((List.length (gL y6 0):Nat):Int)) (cnd (Int.toNat (w64 (gI y5 0 + (1:Int))) < List.length (gL y6 0) -
  (0:Nat) ∨ Int.toNat (w64 (gI y5 0 + (1:Int))) = (0:Nat)) none none) none)) none)) none) none) none) none)) none) none) none)) none) none := by kernel_rfl

theorem e24 (n : Nat) (a0 : List (List Tree)) (a1 : Int) (a2 : Int) (a3 : Int) : apure C (n + 1) 24 [Tree.sl (3:Nat) a0, tI a1, tI a2, tI a3] =
  Option.bind (apure C n (25:Nat) [Tree.sl (3:Nat) a0]) fun y4 => cnd (List.length y4 = (1:Nat)) (cnd (okI y4 0) (cnd ((gI y4 0 != (0:Int)) = true) (some [Tree.sl (3:Nat) [], tI (1:Int)]) (Option.bind
  (apure C n (44:Nat) [Tree.sl (3:Nat) a0, tI a1, tI a2, tI a3]) fun y5 => cnd (List.length y5 = (1:Nat)) (cnd (okB y5 0) (cnd ((!gB y5 0) = true) (some [Tree.sl (3:Nat) [], tI (7:Int)]) (loopIter (fun
  (p6 : List AV × Heap) (again7 : _ → Option (List Tree)) => cnd (decide (vI p6 1 < ((List.length a0:Nat):Int)) = true) (cnd ((3:Nat) = (3:Nat) ∧ (0:Int) ≤ vI p6 1) (Option.bind a0[Int.toNat (vI p6 1)]?
  fun y8 => cnd (okI y8 0) (cnd (okI y8 1) (cnd (okI y8 2) (cnd ((!(true && gI y8 0 == a1 && gI y8 1 == a2 && gI y8 2 == a3)) = true) (cnd ((3:Nat) = (3:Nat) ∧ (0:Int) ≤ vI p6 1) (Option.bind
  a0[Int.toNat (vI p6 1)]? fun y9 => cnd (okI y9 0) (cnd (okI y9 1) (cnd (okI y9 2) (cnd (oVer p6 0 = sVer p6 0 ∧ ((3:Nat) = (3:Nat) ∨ (3:Nat) = (0:Nat)) ∧ sOff p6 0 + sLen p6 0 = List.length (oEs p6 0)
  ∧ sLen p6 0 + (1:Nat) ≤ (1073741824:Nat)) (again7 ([AV.sref (0:Nat) (sVer p6 0 + (1:Nat)) (0:Nat) (sLen p6 0 + (1:Nat)), AV.t (tI (w64 (vI p6 1 + (1:Int))))], [AObj.row false (sVer p6 0 + (1:Nat))
  (3:Nat) (List.drop (sOff p6 0) (oEs p6 0) ++ [[tI (gI y9 0), tI (gI y9 1), tI (gI y9 2)]])])) none) none) none) none) none) (again7 ([AV.sref (0:Nat) (sVer p6 0) (sOff p6 0) (sLen p6 0), AV.t (tI (w64
  (vI p6 1 + (1:Int))))], [AObj.row false (oVer p6 0) (3:Nat) (oEs p6 0)]))) none) none) none) none) (cnd ((false = true ∨ false = false) ∧ oVer p6 0 = sVer p6 0 ∧ ((3:Nat) = (3:Nat) ∨ (3:Nat) =
  (0:Nat))) (some [Tree.sl (3:Nat) (List.take (sLen p6 0) (List.drop (sOff p6 0) (oEs p6 0))), tI (0:Int)]) none)) n ([AV.sref (0:Nat) (0:Nat) (0:Nat) (0:Nat), AV.t (tI (0:Int))], [AObj.row false
  (0:Nat) (3:Nat) []]))) none) none)) none) none := by kernel_rfl

theorem e25 (n : Nat) (a0 : List (List Tree)) : apure C (n + 1) 25 [Tree.sl (3:Nat) a0] =
  cnd (decide (((List.length a0:Nat):Int) > (1000:Int)) = true) (some [tI (4:Int)]) (loopIter (fun (p1 : List AV × Heap) (again2 : _ → Option (List Tree)) => cnd (decide (vI p1 0 < ((List.length
  a0:Nat):Int)) = true) (cnd ((3:Nat) = (3:Nat) ∧ (0:Int) ≤ vI p1 0) (Option.bind a0[Int.toNat (vI p1 0)]? fun y3 => cnd (okI y3 0) (cnd (okI y3 1) (cnd (okI y3 2) (Option.bind (apure C n (33:Nat) [tI
  (gI y3 0), tI (gI y3 1), tI (gI y3 2)]) fun y4 => cnd (List.length y4 = (1:Nat)) (cnd (okB y4 0) (cnd ((!gB y4 0) = true) (some [tI (2:Int)]) (cnd (decide (vI p1 0 > (0:Int)) = true) (cnd ((3:Nat) =
  (3:Nat) ∧ (0:Int) ≤ w64 (vI p1 0 - (1:Int))) (Option.bind a0[Int.toNat (w64 (vI p1 0 - (1:Int)))]? fun y5 => cnd (okI y5 0) (cnd (okI y5 1) (cnd (okI y5 2) (cnd ((3:Nat) = (3:Nat) ∧ (0:Int) ≤ vI p1 0)
  (Option.bind a0[Int.toNat (vI p1 0)]? fun y6 => cnd (okI y6 0) (cnd (okI y6 1) (cnd (okI y6 2) (Option.bind (apure C n (14:Nat) [tI (gI y5 0), tI (gI y5 1), tI (gI y5 2), tI (gI y6 0), tI (gI y6 1),
  tI (gI y6 2)]) fun y7 => cnd (List.length y7 = (1:Nat)) (cnd (okB y7 0) (cnd ((!gB y7 0) = true) (some [tI (9:Int)]) (again2 ([AV.t (tI (w64 (vI p1 0 + (1:Int))))], []))) none) none) none) none) none)
  none) none) none) none) none) (again2 ([AV.t (tI (w64 (vI p1 0 + (1:Int))))], [])))) none) none) none) none) none) none) (some [tI (0:Int)])) n ([AV.t (tI (0:Int))], [])) := by kernel_rfl

theorem e31 (n : Nat) (a0 : List (List Tree)) (a1 : List (List Tree)) : apure C (n + 1) 31 [Tree.sl (3:Nat) a0, Tree.sl (3:Nat) a1] =
  Option.bind (apure C n (25:Nat) [Tree.sl (3:Nat) a0]) fun y2 => cnd (List.length y2 = (1:Nat)) (cnd (okI y2 0) (cnd ((gI y2 0 != (0:Int)) = true) (some [Tree.sl (3:Nat) [], tI (1:Int)]) (Option.bind
  (apure C n (25:Nat) [Tree.sl (3:Nat) a1]) fun y3 => cnd (List.length y3 = (1:Nat)) (cnd (okI y3 0) (cnd ((gI y3 0 != (0:Int)) = true) (some [Tree.sl (3:Nat) [], tI (1:Int)]) (loopIter (fun (p4 : List
  AV × Heap) (again5 : _ → Option (List Tree)) => cnd (decide (vI p4 1 < ((List.length a1:Nat):Int)) = true) (cnd ((3:Nat) = (3:Nat) ∧ (0:Int) ≤ vI p4 1) (Option.bind a1[Int.toNat (vI p4 1)]? fun y6 =>
  cnd (okI y6 0) (cnd (okI y6 1) (cnd (okI y6 2) (Option.bind (apure C n (45:Nat) [Tree.sl (3:Nat) (vL p4 0), tI (gI y6 0), tI (gI y6 1), tI (gI y6 2)]) fun y7 => cnd (List.length y7 = (1:Nat)) (cnd
  (okL 3 y7 0) (again5 ([AV.t (Tree.sl (3:Nat) (gL y7 0)), AV.t (tI (w64 (vI p4 1 + (1:Int))))], [])) none) none) none) none) none) none) (cnd (decide (((List.length (vL p4 0):Nat):Int) > (1000:Int)) =
  true) (some [Tree.sl (3:Nat) [], tI (4:Int)]) (some [Tree.sl (3:Nat) (vL p4 0), tI (0:Int)]))) n ([AV.t (Tree.sl (3:Nat) a0), AV.t (tI (0:Int))], []))) none) none)) none) none := by kernel_rfl

theorem e32 (n : Nat) (a0 : Int) (a1 : Int) (a2 : Int) : apure C (n + 1) 32 [tI a0, tI a1, tI a2] =
  Option.bind (apure C n (33:Nat) [tI a0, tI a1, tI a2]) fun y3 => cnd (List.length y3 = (1:Nat)) (cnd (okB y3 0) (some [Tree.bool !gB y3 0]) none) none := by kernel_rfl

theorem e33 (n : Nat) (a0 : Int) (a1 : Int) (a2 : Int) : apure C (n + 1) 33 [tI a0, tI a1, tI a2] =
  cnd (decide (a0 ≥ (0:Int)) = true) (cnd (decide (a0 ≤ (1099511627776:Int)) = true) (cnd (decide (a1 ≥ (0:Int)) = true) (cnd (decide (a1 ≤ (1152921504606846976:Int)) = true) (cnd (decide (a2 ≥ (0:Int))
  = true) (some [Tree.bool (decide (a2 ≤ (1152921504606846976:Int)))]) (some [Tree.bool false])) (some [Tree.bool false])) (some [Tree.bool false])) (some [Tree.bool false])) (some [Tree.bool false]) := by kernel_rfl

theorem e34 (n : Nat) (a0 : List (List Tree)) (a1 : Int) (a2 : Int) (a3 : Int) : apure C (n + 1) 34 [Tree.sl (3:Nat) a0, tI a1, tI a2, tI a3] =
  Option.bind (apure C n (49:Nat) [Tree.sl (3:Nat) a0, tI a1, tI a2, tI a3]) fun y4 => cnd (List.length y4 = (1:Nat)) (cnd (okI y4 0) (some [Tree.bool (decide (gI y4 0 ≥ (0:Int)))]) none) none := by kernel_rfl

theorem e35 (n : Nat) (a0 : Int) (a1 : Int) (a2 : Int) : apure C (n + 1) 35 [tI a0, tI a1, tI a2] =
  cnd (decide (a0 ≥ (0:Int)) = true) (cnd (decide (a0 ≤ (1099511627776:Int)) = true) (cnd (decide (a1 ≥ (0:Int)) = true) (cnd (decide (a1 ≤ (1152921504606846976:Int)) = true) (cnd (decide (a2 ≥ (0:Int))
  = true) (some [Tree.bool (decide (a2 ≤ (1152921504606846976:Int)))]) (some [Tree.bool false])) (some [Tree.bool false])) (some [Tree.bool false])) (some [Tree.bool false])) (some [Tree.bool false]) := by kernel_rfl

theorem e36 (n : Nat) (a0 : Int) (a1 : Int) (a2 : Int) (a3 : Int) (a4 : Int) (a5 : Int) : apure C (n + 1) 36 [tI a0, tI a1, tI a2, tI a3, tI a4, tI a5] =
  Option.bind (apure C n (51:Nat) [tI a0, tI a3]) fun y6 => cnd (List.length y6 = (1:Nat)) (cnd (okI y6 0) (Option.bind (apure C n (51:Nat) [tI a1, tI a4]) fun y7 => cnd (List.length y7 = (1:Nat)) (cnd
  (okI y7 0) (Option.bind (apure C n (51:Nat) [tI a2, tI a5]) fun y8 => cnd (List.length y8 = (1:Nat)) (cnd (okI y8 0) (Option.bind (apure C n (50:Nat) [Tree.sl (1:Nat) [[tI (gI y6 0)], [tI (gI y7 0)],
  [tI (gI y8 0)]]]) fun y9 => cnd (List.length y9 = (1:Nat)) (cnd (okI y9 0) (some [tI (gI y9 0)]) none) none) none) none) none) none) none) none := by kernel_rfl

theorem e39 (n : Nat) (a0 : List (List Tree)) : apure C (n + 1) 39 [Tree.sl (3:Nat) a0] =
  cnd (decide (((List.length a0:Nat):Int) > (40:Int)) = true) (cnd (decide (((List.length a0:Nat):Int) < (1000:Int)) = true) (some [Tree.bool true]) (some [Tree.bool (decide (((List.length a0:Nat):Int)
  > (1001:Int)))])) (some [Tree.bool (decide (((List.length a0:Nat):Int) > (1001:Int)))]) := by kernel_rfl

theorem e42 (n : Nat) (a0 : List (List Tree)) (a1 : Int) (a2 : Int) (a3 : Int) : apure C (n + 1) 42 [Tree.sl (3:Nat) a0, tI a1, tI a2, tI a3] =
  loopIter (fun (p4 : List AV × Heap) (again5 : _ → Option (List Tree)) => cnd (decide (vI p4 0 < vI p4 1) = true) (cnd ((3:Nat) = (3:Nat) ∧ (0:Int) ≤ w64 (Int.tdiv (w64 (vI p4 0 + vI p4 1)) (2:Int)))
  (Option.bind a0[Int.toNat (w64 (Int.tdiv (w64 (vI p4 0 + vI p4 1)) (2:Int)))]? fun y6 => cnd (okI y6 0) (cnd (okI y6 1) (cnd (okI y6 2) (Option.bind (apure C n (36:Nat) [tI a1, tI a2, tI a3, tI (gI y6
  0), tI (gI y6 1), tI (gI y6 2)]) fun y7 => cnd (List.length y7 = (1:Nat)) (cnd (okI y7 0) (cnd (decide (gI y7 0 > (0:Int)) = true) (again5 ([AV.t (tI (w64 (w64 (Int.tdiv (w64 (vI p4 0 + vI p4 1))
  (2:Int)) + (1:Int)))), AV.t (tI (vI p4 1))], [])) (again5 ([AV.t (tI (vI p4 0)), AV.t (tI (w64 (Int.tdiv (w64 (vI p4 0 + vI p4 1)) (2:Int))))], []))) none) none) none) none) none) none) (cnd (decide
  (vI p4 0 < ((List.length a0:Nat):Int)) = true) (cnd ((3:Nat) = (3:Nat) ∧ (0:Int) ≤ vI p4 0) (Option.bind a0[Int.toNat (vI p4 0)]? fun y8 => cnd (okI y8 0) (cnd (okI y8 1) (cnd (okI y8 2) (Option.bind
  (apure C n (36:Nat) [tI a1, tI a2, tI a3, tI (gI y8 0), tI (gI y8 1), tI (gI y8 2)]) fun y9 => cnd (List.length y9 = (1:Nat)) (cnd (okI y9 0) (some [tI (vI p4 0), Tree.bool (gI y9 0 == (0:Int))])
  none) none) none) none) none) none) (some [tI (vI p4 0), Tree.bool false]))) n ([AV.t (tI (0:Int)), AV.t (tI ((List.length a0:Nat):Int))], []) := by kernel_rfl

theorem e44 (n : Nat) (a0 : List (List Tree)) (a1 : Int) (a2 : Int) (a3 : Int) : apure C (n + 1) 44 [Tree.sl (3:Nat) a0, tI a1, tI a2, tI a3] =
  loopIter (fun (p4 : List AV × Heap) (again5 : _ → Option (List Tree)) => cnd (decide (vI p4 0 < ((List.length a0:Nat):Int)) = true) (cnd ((3:Nat) = (3:Nat) ∧ (0:Int) ≤ vI p4 0) (Option.bind
  a0[Int.toNat (vI p4 0)]? fun y6 => cnd (okI y6 0) (cnd (okI y6 1) (cnd (okI y6 2) (cnd ((true && gI y6 0 == a1 && gI y6 1 == a2 && gI y6 2 == a3) = true) (some [Tree.bool true]) (again5 ([AV.t (tI
  (w64 (vI p4 0 + (1:Int))))], []))) none) none) none) none) (some [Tree.bool false])) n ([AV.t (tI (0:Int))], []) := by kernel_rfl

theorem e45 (n : Nat) (a0 : List (List Tree)) (a1 : Int) (a2 : Int) (a3 : Int) : apure C (n + 1) 45 [Tree.sl (3:Nat) a0, tI a1, tI a2, tI a3] =
  Option.bind (apure C n (44:Nat) [Tree.sl (3:Nat) a0, tI a1, tI a2, tI a3]) fun y4 => cnd (List.length y4 = (1:Nat)) (cnd (okB y4 0) (loopIter (fun (p5 : List AV × Heap) (again6 : _ → Option (List
  Tree)) => cnd (decide (vI p5 2 < ((List.length a0:Nat):Int)) = true) (cnd ((!vB p5 1) = true) (cnd ((3:Nat) = (3:Nat) ∧ (0:Int) ≤ vI p5 2) (Option.bind a0[Int.toNat (vI p5 2)]? fun y7 => cnd (okI y7
  0) (cnd (okI y7 1) (cnd (okI y7 2) (Option.bind (apure C n (14:Nat) [tI a1, tI a2, tI a3, tI (gI y7 0), tI (gI y7 1), tI (gI y7 2)]) fun y8 => cnd (List.length y8 = (1:Nat)) (cnd (okB y8 0) (cnd (gB
  y8 0 = true) (cnd (oVer p5 0 = sVer p5 0 ∧ ((3:Nat) = (3:Nat) ∨ (3:Nat) = (0:Nat)) ∧ sOff p5 0 + sLen p5 0 = List.length (oEs p5 0) ∧ sLen p5 0 + (1:Nat) ≤ (1073741824:Nat)) (cnd ((3:Nat) = (3:Nat) ∧
  (0:Int) ≤ vI p5 2) (Option.bind a0[Int.toNat (vI p5 2)]? fun y9 => cnd (okI y9 0) (cnd (okI y9 1) (cnd (okI y9 2) (cnd (sVer p5 0 + (1:Nat) = sVer p5 0 + (1:Nat) ∧ ((3:Nat) = (3:Nat) ∨ (3:Nat) =
  (0:Nat)) ∧ (0:Nat) + (sLen p5 0 + (1:Nat)) = List.length (List.drop (sOff p5 0) (oEs p5 0) ++ [[tI a1, tI a2, tI a3]]) ∧ sLen p5 0 + (1:Nat) + (1:Nat) ≤ (1073741824:Nat)) (again6 ([AV.sref (0:Nat)
  (sVer p5 0 + (1:Nat) + (1:Nat)) (0:Nat) (sLen p5 0 + (1:Nat) + (1:Nat)), AV.t (Tree.bool true), AV.t (tI (w64 (vI p5 2 + (1:Int))))], [AObj.row false (sVer p5 0 + (1:Nat) + (1:Nat)) (3:Nat) (List.drop
  (0:Nat) (List.drop (sOff p5 0) (oEs p5 0) ++ [[tI a1, tI a2, tI a3]]) ++ [[tI (gI y9 0), tI (gI y9 1), tI (gI y9 2)]])])) none) none) none) none) none) none) (cnd ((3:Nat) = (3:Nat) ∧ (0:Int) ≤ vI p5
  2) (Option.bind a0[Int.toNat (vI p5 2)]? fun y10 => cnd (okI y10 0) (cnd (okI y10 1) (cnd (okI y10 2) (cnd (oVer p5 0 = sVer p5 0 ∧ ((3:Nat) = (3:Nat) ∨ (3:Nat) = (0:Nat)) ∧ sOff p5 0 + sLen p5 0 =
  List.length (oEs p5 0) ∧ sLen p5 0 + (1:Nat) ≤ (1073741824:Nat)) (again6 ([AV.sref (0:Nat) (sVer p5 0 + (1:Nat)) (0:Nat) (sLen p5 0 + (1:Nat)), AV.t (Tree.bool (vB p5 1)), AV.t (tI (w64 (vI p5 2 +
  (1:Int))))], [AObj.row false (sVer p5 0 + (1:Nat)) (3:Nat) (List.drop (sOff p5 0) (oEs p5 0) ++ [[tI (gI y10 0), tI (gI y10 1), tI (gI y10 2)]])])) none) none) none) none) none)) none) none) none)
  none) none) none) (cnd ((3:Nat) = (3:Nat) ∧ (0:Int) ≤ vI p5 2) (Option.bind a0[Int.toNat (vI p5 2)]? fun y11 => cnd (okI y11 0) (cnd (okI y11 1) (cnd (okI y11 2) (cnd (oVer p5 0 = sVer p5 0 ∧ ((3:Nat)
  = (3:Nat) ∨ (3:Nat) = (0:Nat)) ∧ sOff p5 0 + sLen p5 0 = List.length (oEs p5 0) ∧ sLen p5 0 + (1:Nat) ≤ (1073741824:Nat)) (again6 ([AV.sref (0:Nat) (sVer p5 0 + (1:Nat)) (0:Nat) (sLen p5 0 + (1:Nat)),
  AV.t (Tree.bool (vB p5 1)), AV.t (tI (w64 (vI p5 2 + (1:Int))))], [AObj.row false (sVer p5 0 + (1:Nat)) (3:Nat) (List.drop (sOff p5 0) (oEs p5 0) ++ [[tI (gI y11 0), tI (gI y11 1), tI (gI y11 2)]])]))
  none) none) none) none) none)) (cnd ((!vB p5 1) = true) (cnd (oVer p5 0 = sVer p5 0 ∧ ((3:Nat) = (3:Nat) ∨ (3:Nat) = (0:Nat)) ∧ sOff p5 0 + sLen p5 0 = List.length (oEs p5 0) ∧ sLen p5 0 + (1:Nat) ≤
  (1073741824:Nat)) (cnd ((false = true ∨ false = false) ∧ sVer p5 0 + (1:Nat) = sVer p5 0 + (1:Nat) ∧ ((3:Nat) = (3:Nat) ∨ (3:Nat) = (0:Nat))) (some [Tree.sl (3:Nat) (List.take (sLen p5 0 + (1:Nat))
  (List.drop (0:Nat) (List.drop (sOff p5 0) (oEs p5 0) ++ [[tI a1, tI a2, tI a3]])))]) none) none) (cnd ((false = true ∨ false = false) ∧ oVer p5 0 = sVer p5 0 ∧ ((3:Nat) = (3:Nat) ∨ (3:Nat) = (0:Nat)))
  (some [Tree.sl (3:Nat) (List.take (sLen p5 0) (List.drop (sOff p5 0) (oEs p5 0)))]) none))) n ([AV.sref (0:Nat) (0:Nat) (0:Nat) (0:Nat), AV.t (Tree.bool (gB y4 0)), AV.t (tI (0:Int))], [AObj.row false
  (0:Nat) (3:Nat) []])) none) none := by kernel_rfl

theorem e49 (n : Nat) (a0 : List (List Tree)) (a1 : Int) (a2 : Int) (a3 : Int) : apure C (n + 1) 49 [Tree.sl (3:Nat) a0, tI a1, tI a2, tI a3] =
  loopIter (fun (p4 : List AV × Heap) (again5 : _ → Option (List Tree)) => cnd (decide (vI p4 0 < ((List.length a0:Nat):Int)) = true) (cnd ((3:Nat) = (3:Nat) ∧ (0:Int) ≤ vI p4 0) (Option.bind
  a0[Int.toNat (vI p4 0)]? fun y6 => cnd (okI y6 0) (cnd (okI y6 1) (cnd (okI y6 2) (cnd ((true && a1 == gI y6 0 && a2 == gI y6 1 && a3 == gI y6 2) = true) (some [tI (vI p4 0)]) (again5 ([AV.t (tI (w64
  (vI p4 0 + (1:Int))))], []))) none) none) none) none) (some [tI (-1:Int)])) n ([AV.t (tI (0:Int))], []) := by kernel_rfl

theorem e50 (n : Nat) (a0 : List (List Tree)) : apure C (n + 1) 50 [Tree.sl (1:Nat) a0] =
  loopIter (fun (p1 : List AV × Heap) (again2 : _ → Option (List Tree)) => cnd (decide (vI p1 0 < ((List.length a0:Nat):Int)) = true) (cnd ((1:Nat) = (1:Nat) ∧ (0:Int) ≤ vI p1 0) (Option.bind
  a0[Int.toNat (vI p1 0)]? fun y3 => cnd (okI y3 0) (cnd ((gI y3 0 != (0:Int)) = true) (some [tI (gI y3 0)]) (again2 ([AV.t (tI (w64 (vI p1 0 + (1:Int))))], []))) none) none) (some [tI (0:Int)])) n
  ([AV.t (tI (0:Int))], []) := by kernel_rfl

theorem e51 (n : Nat) (a0 : Int) (a1 : Int) : apure C (n + 1) 51 [tI a0, tI a1] =
  Option.bind (apure C n (56:Nat) [tI a0]) fun y2 => cnd (List.length y2 = (1:Nat)) (cnd (okB y2 0) (Option.bind (apure C n (56:Nat) [tI a1]) fun y3 => cnd (List.length y3 = (1:Nat)) (cnd (okB y3 0)
  (cnd (gB y2 0 = true) (cnd (gB y3 0 = true) (some [tI (0:Int)]) (some [tI (-1:Int)])) (cnd (gB y3 0 = true) (some [tI (1:Int)]) (cnd (decide (a0 < a1) = true) (some [tI (-1:Int)]) (cnd (decide (a0 >
  a1) = true) (some [tI (1:Int)]) (some [tI (0:Int)]))))) none) none) none) none := by kernel_rfl

theorem e56 (n : Nat) (a0 : Int) : apure C (n + 1) 56 [tI a0] =
  some [Tree.bool (a0 != a0)] := by kernel_rfl

theorem e1000026 (n : Nat) (a0 : List (List Tree)) : apure C (n + 1) 1000026 [Tree.sl (1:Nat) a0] =
  loopIter (fun (p1 : List AV × Heap) (again2 : _ → Option (List Tree)) => cnd (decide (vI p1 1 < ((List.length a0:Nat):Int)) = true) (cnd ((1:Nat) = (1:Nat) ∧ (0:Int) ≤ vI p1 1) (Option.bind
  a0[Int.toNat (vI p1 1)]? fun y3 => cnd (okL 3 y3 0) (cnd (decide (w64 (vI p1 0 + ((List.length (gL y3 0):Nat):Int)) < (0:Int)) = true) none (again2 ([AV.t (tI (w64 (vI p1 0 + ((List.length (gL y3
  0):Nat):Int)))), AV.t (tI (w64 (vI p1 1 + (1:Int))))], []))) none) none) (cnd ((0:Int) ≤ vI p1 0 ∧ vI p1 0 ≤ (1073741824:Int)) (loopIter (fun (p4 : List AV × Heap) (again5 : _ → Option (List Tree)) =>
  cnd (decide (vI p4 1 < ((List.length a0:Nat):Int)) = true) (cnd ((1:Nat) = (1:Nat) ∧ (0:Int) ≤ vI p4 1) (Option.bind a0[Int.toNat (vI p4 1)]? fun y6 => cnd (okL 3 y6 0) (cnd (List.length (gL y6 0) =
  (0:Nat) ∧ sOff p4 0 + sLen p4 0 < List.length (oEs p4 0)) (cnd (oVer p4 0 = sVer p4 0) (again5 ([AV.sref (0:Nat) (sVer p4 0) (sOff p4 0) (sLen p4 0), AV.t (tI (w64 (vI p4 1 + (1:Int))))], [AObj.row
  false (oVer p4 0) (3:Nat) (oEs p4 0)])) none) (cnd (oVer p4 0 = sVer p4 0 ∧ ((3:Nat) = (3:Nat) ∨ (3:Nat) = (0:Nat)) ∧ sOff p4 0 + sLen p4 0 = List.length (oEs p4 0) ∧ sLen p4 0 + List.length (gL y6 0)
  ≤ (1073741824:Nat)) (again5 ([AV.sref (0:Nat) (sVer p4 0 + (1:Nat)) (0:Nat) (sLen p4 0 + List.length (gL y6 0)), AV.t (tI (w64 (vI p4 1 + (1:Int))))], [AObj.row false (sVer p4 0 + (1:Nat)) (3:Nat)
  (List.drop (sOff p4 0) (oEs p4 0) ++ gL y6 0)])) none)) none) none) (cnd (oVer p4 0 = sVer p4 0 ∧ (3:Nat) = (3:Nat)) (some [Tree.sl (3:Nat) (List.take (sLen p4 0) (List.drop (sOff p4 0) (oEs p4 0)))])
  none)) n ([AV.sref (0:Nat) (0:Nat) (0:Nat) (0:Nat), AV.t (tI (0:Int))], [AObj.row false (0:Nat) (3:Nat) []])) none)) n ([AV.t (tI (0:Int)), AV.t (tI (0:Int))], []) := by kernel_rfl

theorem e1000037 (n : Nat) (a0 : List (List Tree)) : apure C (n + 1) 1000037 [Tree.sl (3:Nat) a0] =
  cnd (List.length a0 ≠ (0:Nat)) (cnd (List.length a0 ≤ (1073741824:Nat)) (some [Tree.sl (3:Nat) (List.take (List.length a0) a0)]) none) (both (some [Tree.sl (3:Nat) []]) (cnd (List.length a0 ≤
  (1073741824:Nat)) (some [Tree.sl (3:Nat) (List.take (List.length a0) a0)]) none)) := by kernel_rfl

end Ab
