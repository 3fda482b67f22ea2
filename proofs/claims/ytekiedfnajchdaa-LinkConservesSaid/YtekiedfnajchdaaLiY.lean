/- A part of the proof: see the last text. -/
import Derived.Test.YtekiedfnajchdaaAbT
import Derived.Test.YtekiedfnajchdaaLiX
set_option maxRecDepth 100000
set_option linter.unusedVariables false
namespace Ab
open Go Go.Proofs

noncomputable def L3_2 (n : Nat) (y2 : List Tree) (a1 : Int) (a0 : Int) (p18 : List AV × Heap) (again19 : (List AV × Heap) → Option (List Tree)) : Option (List Tree) :=
  cnd (decide (vI p18 0 < ((List.length (gL y2 0):Nat):Int)) = true) (cnd ((1:Nat) = (1:Nat) ∧ (0:Int) ≤ vI p18 0) (Option.bind (gL y2 0)[Int.toNat (vI p18 0)]? fun y20 => cnd (okI y20 0) (cnd (decide
  (gI y20 0 < w64 ((1:Int) + (w64 (Int.tmod a1 (1048576:Int))))) = true) (some [Tree.bool false]) (cnd (decide (gI y20 0 > w64 ((2:Int) * (w64 ((1:Int) + (w64 (Int.tmod a1 (1048576:Int))))))) = true)
  (some [Tree.bool false]) (cnd (decide (vI p18 0 > (0:Int)) = true) (cnd ((1:Nat) = (1:Nat) ∧ (0:Int) ≤ w64 ((vI p18 0) - (1:Int))) (Option.bind (gL y2 0)[Int.toNat (w64 ((vI p18 0) - (1:Int)))]? fun
  y23 => cnd (okI y23 0) (cnd (decide (gI y20 0 ≤ gI y23 0) = true) (some [Tree.bool false]) (again19 ([AV.t (tI (w64 ((vI p18 0) + (1:Int))))], []))) none) none) (again19 ([AV.t (tI (w64 ((vI p18 0) +
  (1:Int))))], []))))) none) none) (cnd ((1:Nat) = (1:Nat) ∧ (0:Int) ≤ Int.tmod (w64 ((Int.tmod (w64 a0) (8:Int)) + (8:Int))) (8:Int)) (Option.bind [[tI (1:Int)], [tI (1:Int)], [tI (1:Int)], [tI
  (1:Int)], [tI (2:Int)], [tI (2:Int)], [tI (1:Int)], [tI (0:Int)]][Int.toNat (Int.tmod (w64 ((Int.tmod (w64 a0) (8:Int)) + (8:Int))) (8:Int))]? fun y26 => cnd (okI y26 0) (cnd ((((List.length (gL y2
  0):Nat):Int) == (gI y26 0)) = true) (Option.bind (apure C n (8:Nat) [Tree.sl (1:Nat) (gL y2 0), tI (w64 ((1:Int) + (w64 (Int.tmod a1 (1048576:Int)))))]) fun y27 => cnd (List.length y27 = (1:Nat)) (cnd
  (okB y27 0) (cnd (((decide (Int.tmod (w64 ((Int.tmod (w64 a0) (8:Int)) + (8:Int))) (8:Int) ≥ (6:Int))) == (!(gB y27 0))) = true) (Option.bind (apure C n (9:Nat) []) fun y28 => cnd (List.length y28 =
  (1:Nat)) (cnd (okB y28 0) (some [Tree.bool (gB y28 0)]) none) none) (some [Tree.bool false])) none) none) (some [Tree.bool false])) none) none)
theorem e3 (n : Nat) (a0 : Int) (a1 : Int) : apure C (n + 1) 3 [Tree.int IntKind.i32 a0, Tree.int IntKind.u32 a1] =
  Option.bind (apure C n (6:Nat) [tI (w64 a0), tI (w64 ((1:Int) + (w64 (Int.tmod a1 (1048576:Int)))))]) fun y2 => cnd (List.length y2 = (2:Nat)) (cnd (okL 1 y2 0) (cnd (okI y2 1) (Option.bind (apure C n
  (6:Nat) [tI (w64 ((w64 a0) + (w64 ((8:Int) * (w64 ((1:Int) + (w64 (Int.tmod a1 (1048576:Int))))))))), tI (w64 ((1:Int) + (w64 (Int.tmod a1 (1048576:Int)))))]) fun y3 => cnd (List.length y3 = (2:Nat))
  (cnd (okL 1 y3 0) (cnd (okI y3 1) (cnd (((gI y2 1) != (0:Int)) = true) (some [Tree.bool false]) (cnd (((gI y3 1) != (0:Int)) = true) (some [Tree.bool false]) (Option.bind (apure C n (7:Nat) [Tree.sl
  (1:Nat) (gL y2 0), Tree.sl (1:Nat) (gL y3 0)]) fun y6 => cnd (List.length y6 = (1:Nat)) (cnd (okB y6 0) (cnd ((!(gB y6 0)) = true) (some [Tree.bool false]) (loopIter (fun (p18 : List AV × Heap)
  (again19 : _ → Option (List Tree)) => L3_2 n y2 a1 a0 p18 again19) n ([AV.t (tI (0:Int))], []))) none) none))) none) none) none) none) none) none := by kernel_rfl

noncomputable def L4_1 (n : Nat) (y3 : List Tree) (p4 : List AV × Heap) (again5 : (List AV × Heap) → Option (List Tree)) : Option (List Tree) :=
  cnd (decide (vI p4 0 < ((List.length (gL y3 5):Nat):Int)) = true) (cnd ((10:Nat) = (10:Nat) ∧ (0:Int) ≤ vI p4 0) (Option.bind (gL y3 5)[Int.toNat (vI p4 0)]? fun y6 => cnd (okI y6 0) (cnd (okI y6 1)
  (cnd (okI y6 2) (cnd (okI y6 3) (cnd (okI y6 4) (cnd (okI y6 5) (cnd (okI y6 6) (cnd (okB y6 7) (cnd (okS y6 8) (cnd (okL 2 y6 9) (join (fun (p7 : List AV × Heap) => cnd (vB p7 0 = true) (some
  [Tree.bool false]) (cnd (decide (vI p4 0 > (0:Int)) = true) (cnd ((10:Nat) = (10:Nat) ∧ (0:Int) ≤ w64 ((vI p4 0) - (1:Int))) (Option.bind (gL y3 5)[Int.toNat (w64 ((vI p4 0) - (1:Int)))]? fun y13 =>
  cnd (okI y13 0) (cnd (decide (gI y6 0 < gI y13 0) = true) (some [Tree.bool false]) (cnd ((10:Nat) = (10:Nat) ∧ (0:Int) ≤ w64 ((vI p4 0) - (1:Int))) (Option.bind (gL y3 5)[Int.toNat (w64 ((vI p4 0) -
  (1:Int)))]? fun y14 => cnd (okI y14 0) (cnd (((gI y6 0) == (gI y14 0)) = true) (cnd ((10:Nat) = (10:Nat) ∧ (0:Int) ≤ w64 ((vI p4 0) - (1:Int))) (Option.bind (gL y3 5)[Int.toNat (w64 ((vI p4 0) -
  (1:Int)))]? fun y15 => cnd (okI y15 1) (cnd (decide (gI y6 1 ≤ gI y15 1) = true) (some [Tree.bool false]) (again5 ([AV.t (tI (w64 ((vI p4 0) + (1:Int))))], [AObj.box []]))) none) none) (again5 ([AV.t
  (tI (w64 ((vI p4 0) + (1:Int))))], [AObj.box []]))) none) none)) none) none) (again5 ([AV.t (tI (w64 ((vI p4 0) + (1:Int))))], [AObj.box []])))) fun (again8 : _ → Option (List Tree)) => cnd (decide
  (gI y6 1 < (0:Int)) = true) (again8 ([AV.t (Tree.bool true)], [AObj.box [], AObj.box []])) (cnd (decide (gI y6 1 ≥ ((List.length (gL y3 4):Nat):Int)) = true) (again8 ([AV.t (Tree.bool true)],
  [AObj.box [], AObj.box []])) (cnd (((gI y6 4) != (gI y6 1)) = true) (again8 ([AV.t (Tree.bool true)], [AObj.box [], AObj.box []])) (cnd ((1:Nat) = (1:Nat) ∧ (0:Int) ≤ gI y6 1) (Option.bind (gL y3
  4)[Int.toNat (gI y6 1)]? fun y9 => cnd (okI y9 0) (cnd (decide (gI y6 0 < w64 ((gI y9 0) + (gI y3 0))) = true) (again8 ([AV.t (Tree.bool true)], [AObj.box [], AObj.box []])) (cnd ((1:Nat) = (1:Nat) ∧
  (0:Int) ≤ gI y6 1) (Option.bind (gL y3 4)[Int.toNat (gI y6 1)]? fun y10 => cnd (okI y10 0) (again8 ([AV.t (Tree.bool (decide (gI y6 0 > w64 ((gI y10 0) + (w64 ((2:Int) * (gI y3 0)))))))], [AObj.box
  [], AObj.box []])) none) none)) none) none)))) none) none) none) none) none) none) none) none) none) none) none) (Option.bind (apure C n (9:Nat) []) fun y16 => cnd (List.length y16 = (1:Nat)) (cnd
  (okB y16 0) (some [Tree.bool (gB y16 0)]) none) none)
theorem e4 (n : Nat) (a0 : Int) (a1 : List (List Tree)) : apure C (n + 1) 4 [Tree.int IntKind.u8 a0, Tree.sl (2:Nat) a1] =
  cnd (decide (((List.length a1:Nat):Int) > (20:Int)) = true) (Option.bind (apure C n (9:Nat) []) fun y2 => cnd (List.length y2 = (1:Nat)) (cnd (okB y2 0) (some [Tree.bool (gB y2 0)]) none) none)
  (Option.bind (apure C n (10:Nat) [Tree.int IntKind.u8 a0, Tree.sl (2:Nat) a1]) fun y3 => cnd (List.length y3 = (7:Nat)) (cnd (okI y3 0) (cnd (okL 10 y3 1) (cnd (okI y3 2) (cnd (okI y3 3) (cnd (okL 1
  y3 4) (cnd (okL 10 y3 5) (cnd (okB y3 6) (cnd ((!(gB y3 6)) = true) (some [Tree.bool false]) (loopIter (fun (p4 : List AV × Heap) (again5 : _ → Option (List Tree)) => L4_1 n y3 p4 again5) n ([AV.t (tI
  (0:Int))], [AObj.box []]))) none) none) none) none) none) none) none) none) := by kernel_rfl

noncomputable def L5_1 (n : Nat) (y4 : List Tree) (p5 : List AV × Heap) (y11 : List Tree) (a2 : Bool) (p12 : List AV × Heap) (again13 : (List AV × Heap) → Option (List Tree)) : Option (List Tree) :=
  cnd (decide (vI p12 2 < ((List.length (gL y4 0):Nat):Int)) = true) (cnd (oVer p5 0 = (0:Nat) ∧ (2:Nat) = (2:Nat) ∧ (0:Int) ≤ vI p12 2 ∧ vI p12 2 < ((List.length (gL y4 0):Nat):Int)) (cnd (oVer p5 0 =
  (0:Nat)) (Option.bind (oEs p5 0)[(0:Nat) + (Int.toNat (vI p12 2))]? fun y14 => cnd (isIntT IntKind.u8 (List.getD y14 (0:Nat) default) = true) (cnd (isIntT IntKind.u8 (List.getD y14 (1:Nat) default) =
  true) (cnd ((1:Nat) = (1:Nat) ∧ (0:Int) ≤ Int.tmod (gI y14 1) (8:Int)) (Option.bind [[tI (1:Int)], [tI (1:Int)], [tI (1:Int)], [tI (1:Int)], [tI (2:Int)], [tI (2:Int)], [tI (1:Int)], [tI
  (0:Int)]][Int.toNat (Int.tmod (gI y14 1) (8:Int))]? fun y15 => cnd (okI y15 0) (cnd (decide (Int.tmod (gI y14 1) (8:Int) ≥ (6:Int)) = true) (again13 ([AV.t (tI (w64 ((vI p12 0) + (gI y15 0)))), AV.t
  (tI (w64 ((vI p12 1) + (1:Int)))), AV.t (tI (w64 ((vI p12 2) + (1:Int))))], [AObj.box [], AObj.box []])) (again13 ([AV.t (tI (w64 ((vI p12 0) + (gI y15 0)))), AV.t (tI (vI p12 1)), AV.t (tI (w64 ((vI
  p12 2) + (1:Int))))], [AObj.box [], AObj.box []]))) none) none) none) none) none) none) (join (fun (p18 : List AV × Heap) => cnd (vB p18 0 = true) (some [Tree.bool false]) (loopIter (fun (p20 : List
  AV × Heap) (again21 : _ → Option (List Tree)) => cnd (decide (vI p20 0 < ((List.length (gL y11 5):Nat):Int)) = true) (cnd ((10:Nat) = (10:Nat) ∧ (0:Int) ≤ vI p20 0) (Option.bind (gL y11 5)[Int.toNat
  (vI p20 0)]? fun y22 => cnd (okI y22 0) (cnd (okI y22 1) (cnd (okI y22 2) (cnd (okI y22 3) (cnd (okI y22 4) (cnd (okI y22 5) (cnd (okI y22 6) (cnd (okB y22 7) (cnd (okS y22 8) (cnd (okL 2 y22 9) (cnd
  (a2 = true) (cnd (((gI y22 1) != (vI p20 0)) = true) (some [Tree.bool false]) (cnd ((1:Nat) = (1:Nat) ∧ (0:Int) ≤ vI p20 0) (Option.bind (gL y11 4)[Int.toNat (vI p20 0)]? fun y25 => cnd (okI y25 0)
  (cnd (((gI y22 0) != (w64 ((gI y25 0) + (gI y11 0)))) = true) (some [Tree.bool false]) (again21 ([AV.t (tI (w64 ((vI p20 0) + (1:Int))))], [AObj.box [], AObj.box []]))) none) none)) (again21 ([AV.t
  (tI (w64 ((vI p20 0) + (1:Int))))], [AObj.box [], AObj.box []]))) none) none) none) none) none) none) none) none) none) none) none) (Option.bind (apure C n (9:Nat) []) fun y26 => cnd (List.length y26
  = (1:Nat)) (cnd (okB y26 0) (some [Tree.bool (gB y26 0)]) none) none)) n ([AV.t (tI (0:Int))], [AObj.box [], AObj.box []]))) fun (again19 : _ → Option (List Tree)) => cnd ((((List.length (gL y11
  5):Nat):Int) != (vI p12 0)) = true) (again19 ([AV.t (Tree.bool true)], [AObj.box [], AObj.box []])) (cnd (oVer p5 0 = (0:Nat)) (cnd (((gI y11 2) != ((List.length (gL y4 0):Nat):Int)) = true) (again19
  ([AV.t (Tree.bool true)], [AObj.box [], AObj.box []])) (again19 ([AV.t (Tree.bool ((gI y11 3) != (vI p12 1)))], [AObj.box [], AObj.box []]))) none))
theorem e5 (n : Nat) (a0 : Int) (a1 : List (List Tree)) (a2 : Bool) : apure C (n + 1) 5 [Tree.int IntKind.u8 a0, Tree.sl (2:Nat) a1, Tree.bool a2] =
  cnd (decide (((List.length a1:Nat):Int) > (20:Int)) = true) (Option.bind (apure C n (9:Nat) []) fun y3 => cnd (List.length y3 = (1:Nat)) (cnd (okB y3 0) (some [Tree.bool (gB y3 0)]) none) none)
  (Option.bind (apure C n (1000011:Nat) [Tree.sl (2:Nat) a1]) fun y4 => cnd (List.length y4 = (1:Nat) ∧ okL 2 y4 0) (join (fun (p5 : List AV × Heap) => cnd ((true = true ∨ true = false) ∧ oVer p5 0 =
  (0:Nat) ∧ ((2:Nat) = (2:Nat) ∨ (2:Nat) = (0:Nat))) (Option.bind (apure C n (10:Nat) [Tree.int IntKind.u8 a0, Tree.sl (2:Nat) (List.take (List.length (gL y4 0)) (oEs p5 0))]) fun y11 => cnd
  (List.length y11 = (7:Nat)) (cnd (okI y11 0) (cnd (okL 10 y11 1) (cnd (okI y11 2) (cnd (okI y11 3) (cnd (okL 1 y11 4) (cnd (okL 10 y11 5) (cnd (okB y11 6) (cnd ((!(gB y11 6)) = true) (some [Tree.bool
  false]) (cnd (oVer p5 0 = (0:Nat)) (loopIter (fun (p12 : List AV × Heap) (again13 : _ → Option (List Tree)) => L5_1 n y4 p5 y11 a2 p12 again13) n ([AV.t (tI (0:Int)), AV.t (tI (0:Int)), AV.t (tI
  (0:Int))], [AObj.box [], AObj.box []])) none)) none) none) none) none) none) none) none) none) none) fun (again6 : _ → Option (List Tree)) => cnd (a2 = true) (loopIter (fun (p7 : List AV × Heap)
  (again8 : _ → Option (List Tree)) => cnd (decide (vI p7 0 < ((List.length (gL y4 0):Nat):Int)) = true) (cnd (oVer p7 0 = (0:Nat) ∧ (2:Nat) = (2:Nat) ∧ (0:Int) ≤ vI p7 0 ∧ vI p7 0 < ((List.length (gL
  y4 0):Nat):Int)) (cnd (oVer p7 0 = (0:Nat)) (cnd (oVer p7 0 = (0:Nat)) (Option.bind (oEs p7 0)[(0:Nat) + (Int.toNat (vI p7 0))]? fun y9 => cnd (isIntT IntKind.u8 (List.getD y9 (1:Nat) default) = true)
  (cnd (oVer p7 0 = (0:Nat) ∧ (2:Nat) = (2:Nat) ∧ (0:Int) ≤ vI p7 0 ∧ vI p7 0 < ((List.length (gL y4 0):Nat):Int)) (cnd (oVer p7 0 = (0:Nat)) (cnd (oVer p7 0 = (0:Nat) ∧ (2:Nat) ≤ (2:Nat)) (Option.bind
  (oEs p7 0)[(0:Nat) + (Int.toNat (vI p7 0))]? fun y10 => again8 ([AV.t (tI (w64 ((vI p7 0) + (1:Int))))], [AObj.row false (0:Nat) (2:Nat) (List.set (oEs p7 0) ((0:Nat) + (Int.toNat (vI p7 0)))
  (List.take (1:Nat) y10 ++ ([Tree.int IntKind.u8 (andK IntKind.u8 (gI y9 1) (3:Int))] ++ List.drop (2:Nat) y10)))])) none) none) none) none) none) none) none) (again6 ([], [AObj.row false (oVer p7 0)
  (2:Nat) (oEs p7 0)]))) n ([AV.t (tI (0:Int))], [AObj.row false (0:Nat) (2:Nat) (gL y4 0)])) (again6 ([], [AObj.row false (0:Nat) (2:Nat) (gL y4 0)]))) none) := by kernel_rfl

theorem e6 (n : Nat) (a0 : Int) (a1 : Int) : apure C (n + 1) 6 [tI a0, tI a1] =
  Option.bind (apure C n (12:Nat) [tI a1]) fun y2 => cnd (List.length y2 = (1:Nat)) (cnd (okB y2 0) (cnd ((!(gB y2 0)) = true) (some [Tree.sl (1:Nat) [], tI (2:Int)]) (Option.bind (apure C n (13:Nat)
  [tI a0, tI (8:Int)]) fun y3 => cnd (List.length y3 = (2:Nat)) (cnd (okI y3 0) (cnd (okI y3 1) (Option.bind (apure C n (13:Nat) [tI (gI y3 0), tI a1]) fun y4 => cnd (List.length y4 = (2:Nat)) (cnd (okI
  y4 0) (cnd (okI y4 1) (cnd ((0:Int) ≤ gI y3 1 ∧ gI y3 1 < (8:Int)) (cnd (gI y3 1 = ((7:Nat):Int)) (Option.bind (apure C n (22:Nat) [tI a1, tI (gI y4 1)]) fun y5 => cnd (List.length y5 = (1:Nat)) (cnd
  (okL 1 y5 0) (some [Tree.sl (1:Nat) (gL y5 0), tI (0:Int)]) none) none) (cnd (gI y3 1 = ((6:Nat):Int)) (Option.bind (apure C n (21:Nat) [tI a1, tI (gI y4 1)]) fun y6 => cnd (List.length y6 = (1:Nat))
  (cnd (okL 1 y6 0) (some [Tree.sl (1:Nat) (gL y6 0), tI (0:Int)]) none) none) (cnd (gI y3 1 = ((5:Nat):Int)) (Option.bind (apure C n (20:Nat) [tI a1, tI (gI y4 1)]) fun y7 => cnd (List.length y7 =
  (1:Nat)) (cnd (okL 1 y7 0) (some [Tree.sl (1:Nat) (gL y7 0), tI (0:Int)]) none) none) (cnd (gI y3 1 = ((4:Nat):Int)) (Option.bind (apure C n (20:Nat) [tI a1, tI (gI y4 1)]) fun y8 => cnd (List.length
  y8 = (1:Nat)) (cnd (okL 1 y8 0) (some [Tree.sl (1:Nat) (gL y8 0), tI (0:Int)]) none) none) (cnd (gI y3 1 = ((3:Nat):Int)) (Option.bind (apure C n (19:Nat) [tI a1, tI (gI y4 1)]) fun y9 => cnd
  (List.length y9 = (1:Nat)) (cnd (okL 1 y9 0) (some [Tree.sl (1:Nat) (gL y9 0), tI (0:Int)]) none) none) (cnd (gI y3 1 = ((2:Nat):Int)) (Option.bind (apure C n (19:Nat) [tI a1, tI (gI y4 1)]) fun y10
  => cnd (List.length y10 = (1:Nat)) (cnd (okL 1 y10 0) (some [Tree.sl (1:Nat) (gL y10 0), tI (0:Int)]) none) none) (cnd (gI y3 1 = ((1:Nat):Int)) (Option.bind (apure C n (19:Nat) [tI a1, tI (gI y4 1)])
  fun y11 => cnd (List.length y11 = (1:Nat)) (cnd (okL 1 y11 0) (some [Tree.sl (1:Nat) (gL y11 0), tI (0:Int)]) none) none) (cnd (gI y3 1 = ((0:Nat):Int)) (Option.bind (apure C n (19:Nat) [tI a1, tI (gI
  y4 1)]) fun y12 => cnd (List.length y12 = (1:Nat)) (cnd (okL 1 y12 0) (some [Tree.sl (1:Nat) (gL y12 0), tI (0:Int)]) none) none) none)))))))) none) none) none) none) none) none) none)) none) none := by kernel_rfl

theorem e7 (n : Nat) (a0 : List (List Tree)) (a1 : List (List Tree)) : apure C (n + 1) 7 [Tree.sl (1:Nat) a0, Tree.sl (1:Nat) a1] =
  cnd ((((List.length a0:Nat):Int) != ((List.length a1:Nat):Int)) = true) (some [Tree.bool false]) (loopIter (fun (p2 : List AV × Heap) (again3 : _ → Option (List Tree)) => cnd (decide (vI p2 0 <
  ((List.length a0:Nat):Int)) = true) (cnd ((1:Nat) = (1:Nat) ∧ (0:Int) ≤ vI p2 0) (Option.bind a0[Int.toNat (vI p2 0)]? fun y4 => cnd (okI y4 0) (cnd ((1:Nat) = (1:Nat) ∧ (0:Int) ≤ vI p2 0)
  (Option.bind a1[Int.toNat (vI p2 0)]? fun y5 => cnd (okI y5 0) (cnd (((gI y4 0) != (gI y5 0)) = true) (some [Tree.bool false]) (again3 ([AV.t (tI (w64 ((vI p2 0) + (1:Int))))], []))) none) none) none)
  none) (some [Tree.bool true])) n ([AV.t (tI (0:Int))], [])) := by kernel_rfl

theorem e8 (n : Nat) (a0 : List (List Tree)) (a1 : Int) : apure C (n + 1) 8 [Tree.sl (1:Nat) a0, tI a1] =
  Option.bind (apure C n (15:Nat) [Tree.sl (1:Nat) a0, tI a1]) fun y2 => cnd (List.length y2 = (1:Nat)) (cnd (okI y2 0) (some [Tree.bool (decide (gI y2 0 ≥ (0:Int)))]) none) none := by kernel_rfl

noncomputable def L9_1 (n : Nat) (again7 : (List AV × Heap) → Option (List Tree)) (p8 : List AV × Heap) (again9 : (List AV × Heap) → Option (List Tree)) : Option (List Tree) :=
  cnd (decide (vI p8 2 < (9:Int)) = true) (Option.bind (apure C n (18:Nat) [tI (cI p8 0 0), Tree.sl (10:Nat) (cL p8 0 1), tI (cI p8 0 2), tI (cI p8 0 3)]) fun y10 => cnd (List.length y10 = (15:Nat))
  (cnd (okI y10 0) (cnd (okL 10 y10 1) (cnd (okI y10 2) (cnd (okI y10 3) (cnd (okI y10 4) (cnd (okI y10 5) (cnd (okI y10 6) (cnd (okI y10 7) (cnd (okI y10 8) (cnd (okI y10 9) (cnd (okI y10 10) (cnd (okB
  y10 11) (cnd (okS y10 12) (cnd (okL 2 y10 13) (cnd (okI y10 14) (join (fun (p11 : List AV × Heap) => cnd (vB p11 0 = true) (again7 ([AV.sref (1:Nat) (sVer p8 0) (sOff p8 0) (sLen p8 0), AV.sref
  (2:Nat) (sVer p8 1) (sOff p8 1) (sLen p8 1)], [AObj.box [AV.t (tI (cI p11 0 0)), AV.t (Tree.sl (10:Nat) (cL p11 0 1)), AV.t (tI (cI p11 0 2)), AV.t (tI (cI p11 0 3))], AObj.row false (oVer p11 1)
  (1:Nat) (oEs p11 1), AObj.row false (oVer p11 2) (1:Nat) (oEs p11 2)])) (cnd (oVer p11 1 = sVer p8 0 ∧ ((1:Nat) = (1:Nat) ∨ (1:Nat) = (0:Nat)) ∧ (sOff p8 0) + (sLen p8 0) ≤ List.length (oEs p11 1) ∧
  (sLen p8 0) + (1:Nat) ≤ (1073741824:Nat)) (cnd (oVer p11 2 = sVer p8 1 ∧ ((1:Nat) = (1:Nat) ∨ (1:Nat) = (0:Nat)) ∧ (sOff p8 1) + (sLen p8 1) ≤ List.length (oEs p11 2) ∧ (sLen p8 1) + (1:Nat) ≤
  (1073741824:Nat)) (again9 ([AV.sref (1:Nat) ((sVer p8 0) + (1:Nat)) (0:Nat) ((sLen p8 0) + (1:Nat)), AV.sref (2:Nat) ((sVer p8 1) + (1:Nat)) (0:Nat) ((sLen p8 1) + (1:Nat)), AV.t (tI (w64 ((vI p8 2) +
  (1:Int))))], [AObj.box [AV.t (tI (cI p11 3 0)), AV.t (Tree.sl (10:Nat) (cL p11 3 1)), AV.t (tI (cI p11 3 2)), AV.t (tI (cI p11 3 3))], AObj.row false ((sVer p8 0) + (1:Nat)) (1:Nat) ((List.take (sLen
  p8 0) (List.drop (sOff p8 0) (oEs p11 1))) ++ [[tI (gI y10 4)]]), AObj.row false ((sVer p8 1) + (1:Nat)) (1:Nat) ((List.take (sLen p8 1) (List.drop (sOff p8 1) (oEs p11 2))) ++ [[tI (gI y10 8)]])]))
  none) none)) fun (again12 : _ → Option (List Tree)) => cnd (((gI y10 14) != (0:Int)) = true) (again12 ([AV.t (Tree.bool true)], [AObj.box [AV.t (tI (cI p8 0 0)), AV.t (Tree.sl (10:Nat) (cL p8 0 1)),
  AV.t (tI (cI p8 0 2)), AV.t (tI (cI p8 0 3))], AObj.row false (oVer p8 1) (1:Nat) (oEs p8 1), AObj.row false (oVer p8 2) (1:Nat) (oEs p8 2), AObj.box [AV.t (tI (gI y10 0)), AV.t (Tree.sl (10:Nat) (gL
  y10 1)), AV.t (tI (gI y10 2)), AV.t (tI (gI y10 3))], AObj.box []])) (again12 ([AV.t (Tree.bool ((gI y10 4) == (0:Int)))], [AObj.box [AV.t (tI (cI p8 0 0)), AV.t (Tree.sl (10:Nat) (cL p8 0 1)), AV.t
  (tI (cI p8 0 2)), AV.t (tI (cI p8 0 3))], AObj.row false (oVer p8 1) (1:Nat) (oEs p8 1), AObj.row false (oVer p8 2) (1:Nat) (oEs p8 2), AObj.box [AV.t (tI (gI y10 0)), AV.t (Tree.sl (10:Nat) (gL y10
  1)), AV.t (tI (gI y10 2)), AV.t (tI (gI y10 3))], AObj.box []]))) none) none) none) none) none) none) none) none) none) none) none) none) none) none) none) none) (again7 ([AV.sref (1:Nat) (sVer p8 0)
  (sOff p8 0) (sLen p8 0), AV.sref (2:Nat) (sVer p8 1) (sOff p8 1) (sLen p8 1)], [AObj.box [AV.t (tI (cI p8 0 0)), AV.t (Tree.sl (10:Nat) (cL p8 0 1)), AV.t (tI (cI p8 0 2)), AV.t (tI (cI p8 0 3))],
  AObj.row false (oVer p8 1) (1:Nat) (oEs p8 1), AObj.row false (oVer p8 2) (1:Nat) (oEs p8 2)]))

noncomputable def L9_2 (n : Nat)  (p1 : List AV × Heap) (again2 : (List AV × Heap) → Option (List Tree)) : Option (List Tree) :=
  cnd (decide (vI p1 1 < (3:Int)) = true) (cnd ((1:Nat) = (1:Nat) ∧ (0:Int) ≤ vI p1 1) (Option.bind [[tI (6:Int)], [tI (0:Int)], [tI (4:Int)]][Int.toNat (vI p1 1)]? fun y3 => cnd (okI y3 0) (Option.bind
  (apure C n (6:Nat) [tI (gI y3 0), tI (5:Int)]) fun y4 => cnd (List.length y4 = (2:Nat)) (cnd (okL 1 y4 0) (cnd (okI y4 1) (Option.bind (apure C n (17:Nat) [tI (cI p1 0 0), Tree.sl (10:Nat) (cL p1 0
  1), tI (cI p1 0 2), tI (cI p1 0 3), tI (w64 ((10:Int) + (vI p1 1))), tI (0:Int), tI (0:Int), tI (vI p1 1), tI (0:Int), tI (0:Int), Tree.bool false, Tree.str (ByteArray.mk #[]), Tree.sl (2:Nat) [],
  Tree.sl (1:Nat) (gL y4 0)]) fun y5 => cnd (List.length y5 = (5:Nat)) (cnd (okI y5 0) (cnd (okL 10 y5 1) (cnd (okI y5 2) (cnd (okI y5 3) (cnd (okI y5 4) (again2 ([AV.t (tI (if gI y5 4 > (if gI y4 1 >
  vI p1 0 then gI y4 1 else vI p1 0) then gI y5 4 else (if gI y4 1 > vI p1 0 then gI y4 1 else vI p1 0))), AV.t (tI (w64 ((vI p1 1) + (1:Int))))], [AObj.box [AV.t (tI (gI y5 0)), AV.t (Tree.sl (10:Nat)
  (gL y5 1)), AV.t (tI (gI y5 2)), AV.t (tI (gI y5 3))]])) none) none) none) none) none) none) none) none) none) none) none) (join (fun (p6 : List AV × Heap) => cnd (((vI p1 0) == (0:Int)) = true) (cnd
  ((false = true ∨ false = false) ∧ oVer p6 1 = sVer p6 0 ∧ ((1:Nat) = (1:Nat) ∨ (1:Nat) = (0:Nat))) (Option.bind (apure C n (7:Nat) [Tree.sl (1:Nat) (List.take (sLen p6 0) (List.drop (sOff p6 0) (oEs
  p6 1))), Tree.sl (1:Nat) [[tI (16:Int)], [tI (16:Int)], [tI (17:Int)], [tI (18:Int)]]]) fun y15 => cnd (List.length y15 = (1:Nat)) (cnd (okB y15 0) (cnd (gB y15 0 = true) (cnd ((false = true ∨ false =
  false) ∧ oVer p6 2 = sVer p6 1 ∧ ((1:Nat) = (1:Nat) ∨ (1:Nat) = (0:Nat))) (Option.bind (apure C n (7:Nat) [Tree.sl (1:Nat) (List.take (sLen p6 1) (List.drop (sOff p6 1) (oEs p6 2))), Tree.sl (1:Nat)
  [[tI (0:Int)], [tI (1:Int)], [tI (2:Int)], [tI (2:Int)]]]) fun y16 => cnd (List.length y16 = (1:Nat)) (cnd (okB y16 0) (cnd (gB y16 0 = true) (cnd (((cI p6 0 2) == (3:Int)) = true) (some [Tree.bool
  ((cI p6 0 3) == (1:Int))]) (some [Tree.bool false])) (some [Tree.bool false])) none) none) none) (some [Tree.bool false])) none) none) none) (some [Tree.bool false])) fun (again7 : _ → Option (List
  Tree)) => loopIter (fun (p8 : List AV × Heap) (again9 : _ → Option (List Tree)) => L9_1 n again7 p8 again9) n ([AV.sref (1:Nat) (0:Nat) (0:Nat) (0:Nat), AV.sref (2:Nat) (0:Nat) (0:Nat) (0:Nat), AV.t
  (tI (0:Int))], [AObj.box [AV.t (tI (cI p1 0 0)), AV.t (Tree.sl (10:Nat) (cL p1 0 1)), AV.t (tI (cI p1 0 2)), AV.t (tI (cI p1 0 3))], AObj.row false (0:Nat) (1:Nat) [], AObj.row false (0:Nat) (1:Nat)
  []]))
theorem e9 (n : Nat)  : apure C (n + 1) 9 [] =
  Option.bind (apure C n (16:Nat) [tI (5:Int)]) fun y0 => cnd (List.length y0 = (5:Nat)) (cnd (okI y0 0) (cnd (okL 10 y0 1) (cnd (okI y0 2) (cnd (okI y0 3) (cnd (okI y0 4) (loopIter (fun (p1 : List AV ×
  Heap) (again2 : _ → Option (List Tree)) => L9_2 n p1 again2) n ([AV.t (tI (gI y0 4)), AV.t (tI (0:Int))], [AObj.box [AV.t (tI (gI y0 0)), AV.t (Tree.sl (10:Nat) (gL y0 1)), AV.t (tI (gI y0 2)), AV.t
  (tI (gI y0 3))]])) none) none) none) none) none) none := by kernel_rfl

noncomputable def L10_1 (n : Nat) (a1 : List (List Tree)) (again11 : (List AV × Heap) → Option (List Tree)) (p12 : List AV × Heap) (again13 : (List AV × Heap) → Option (List Tree)) : Option (List Tree) :=
  cnd (decide (vI p12 1 < w64 ((2:Int) * ((List.length a1:Nat):Int))) = true) (Option.bind (apure C n (18:Nat) [tI (cI p12 1 0), Tree.sl (10:Nat) (cL p12 1 1), tI (cI p12 1 2), tI (cI p12 1 3)]) fun y14
  => cnd (List.length y14 = (15:Nat)) (cnd (okI y14 0) (cnd (okL 10 y14 1) (cnd (okI y14 2) (cnd (okI y14 3) (cnd (okI y14 4) (cnd (okI y14 5) (cnd (okI y14 6) (cnd (okI y14 7) (cnd (okI y14 8) (cnd
  (okI y14 9) (cnd (okI y14 10) (cnd (okB y14 11) (cnd (okS y14 12) (cnd (okL 2 y14 13) (cnd (okI y14 14) (cnd (((gI y14 14) != (0:Int)) = true) (again11 ([AV.sref (3:Nat) (sVer p12 0) (sOff p12 0)
  (sLen p12 0)], [AObj.box [AV.t (tI (cI p12 0 0)), AV.t (Tree.sl (10:Nat) (cL p12 0 1)), AV.t (tI (cI p12 0 2)), AV.t (tI (cI p12 0 3))], AObj.box [AV.t (tI (cI p12 1 0)), AV.t (Tree.sl (10:Nat) (cL
  p12 1 1)), AV.t (tI (cI p12 1 2)), AV.t (tI (cI p12 1 3))], AObj.row false (oVer p12 2) (1:Nat) (oEs p12 2), AObj.row false (oVer p12 3) (10:Nat) (oEs p12 3)])) (cnd (oVer p12 3 = sVer p12 0 ∧
  ((10:Nat) = (10:Nat) ∨ (10:Nat) = (0:Nat)) ∧ (sOff p12 0) + (sLen p12 0) ≤ List.length (oEs p12 3) ∧ (sLen p12 0) + (1:Nat) ≤ (1073741824:Nat)) (again13 ([AV.sref (3:Nat) ((sVer p12 0) + (1:Nat))
  (0:Nat) ((sLen p12 0) + (1:Nat)), AV.t (tI (w64 ((vI p12 1) + (1:Int))))], [AObj.box [AV.t (tI (cI p12 0 0)), AV.t (Tree.sl (10:Nat) (cL p12 0 1)), AV.t (tI (cI p12 0 2)), AV.t (tI (cI p12 0 3))],
  AObj.box [AV.t (tI (gI y14 0)), AV.t (Tree.sl (10:Nat) (gL y14 1)), AV.t (tI (gI y14 2)), AV.t (tI (gI y14 3))], AObj.row false (oVer p12 2) (1:Nat) (oEs p12 2), AObj.row false ((sVer p12 0) +
  (1:Nat)) (10:Nat) ((List.take (sLen p12 0) (List.drop (sOff p12 0) (oEs p12 3))) ++ [[tI (gI y14 4), tI (gI y14 5), tI (gI y14 6), tI (gI y14 7), tI (gI y14 8), tI (gI y14 9), tI (gI y14 10),
  Tree.bool (gB y14 11), Tree.str (gS y14 12), Tree.sl (2:Nat) (gL y14 13)]])])) none)) none) none) none) none) none) none) none) none) none) none) none) none) none) none) none) none) (again11 ([AV.sref
  (3:Nat) (sVer p12 0) (sOff p12 0) (sLen p12 0)], [AObj.box [AV.t (tI (cI p12 0 0)), AV.t (Tree.sl (10:Nat) (cL p12 0 1)), AV.t (tI (cI p12 0 2)), AV.t (tI (cI p12 0 3))], AObj.box [AV.t (tI (cI p12 1
  0)), AV.t (Tree.sl (10:Nat) (cL p12 1 1)), AV.t (tI (cI p12 1 2)), AV.t (tI (cI p12 1 3))], AObj.row false (oVer p12 2) (1:Nat) (oEs p12 2), AObj.row false (oVer p12 3) (10:Nat) (oEs p12 3)]))

noncomputable def L10_2 (n : Nat) (a1 : List (List Tree)) (y2 : List Tree) (p3 : List AV × Heap) (again4 : (List AV × Heap) → Option (List Tree)) : Option (List Tree) :=
  cnd (decide (vI p3 2 < ((List.length a1:Nat):Int)) = true) (cnd ((2:Nat) = (2:Nat) ∧ (0:Int) ≤ vI p3 2) (Option.bind a1[Int.toNat (vI p3 2)]? fun y5 => cnd (isIntT IntKind.u8 (List.getD y5 (0:Nat)
  default) = true) (cnd (isIntT IntKind.u8 (List.getD y5 (1:Nat) default) = true) (Option.bind (apure C n (6:Nat) [tI (w64 (gI y5 1)), tI (cI p3 1 0)]) fun y6 => cnd (List.length y6 = (2:Nat)) (cnd (okL
  1 y6 0) (cnd (okI y6 1) (Option.bind (apure C n (17:Nat) [tI (cI p3 1 0), Tree.sl (10:Nat) (cL p3 1 1), tI (cI p3 1 2), tI (cI p3 1 3), tI (w64 ((vI p3 0) + (w64 (gI y5 0)))), tI (0:Int), tI (0:Int),
  tI (vI p3 2), tI (0:Int), tI (0:Int), Tree.bool false, Tree.str (ByteArray.mk #[]), Tree.sl (2:Nat) [], Tree.sl (1:Nat) (gL y6 0)]) fun y7 => cnd (List.length y7 = (5:Nat)) (cnd (okI y7 0) (cnd (okL
  10 y7 1) (cnd (okI y7 2) (cnd (okI y7 3) (cnd (okI y7 4) (join (fun (p8 : List AV × Heap) => cnd (vB p8 0 = true) (some [tI (cI p8 1 0), Tree.sl (10:Nat) (cL p8 1 1), tI (cI p8 1 2), tI (cI p8 1 3),
  Tree.sl (1:Nat) [], Tree.sl (10:Nat) [], Tree.bool false]) (cnd (oVer p8 2 = sVer p3 1 ∧ ((1:Nat) = (1:Nat) ∨ (1:Nat) = (0:Nat)) ∧ (sOff p3 1) + (sLen p3 1) ≤ List.length (oEs p8 2) ∧ (sLen p3 1) +
  (1:Nat) ≤ (1073741824:Nat)) (again4 ([AV.t (tI (w64 ((vI p3 0) + (w64 (gI y5 0))))), AV.sref (2:Nat) ((sVer p3 1) + (1:Nat)) (0:Nat) ((sLen p3 1) + (1:Nat)), AV.t (tI (w64 ((vI p3 2) + (1:Int))))],
  [AObj.box [AV.t (tI (cI p8 0 0)), AV.t (Tree.sl (10:Nat) (cL p8 0 1)), AV.t (tI (cI p8 0 2)), AV.t (tI (cI p8 0 3))], AObj.box [AV.t (tI (cI p8 4 0)), AV.t (Tree.sl (10:Nat) (cL p8 4 1)), AV.t (tI (cI
  p8 4 2)), AV.t (tI (cI p8 4 3))], AObj.row false ((sVer p3 1) + (1:Nat)) (1:Nat) ((List.take (sLen p3 1) (List.drop (sOff p3 1) (oEs p8 2))) ++ [[tI (w64 ((vI p3 0) + (w64 (gI y5 0))))]])])) none))
  fun (again9 : _ → Option (List Tree)) => cnd (((gI y2 4) != (0:Int)) = true) (again9 ([AV.t (Tree.bool true)], [AObj.box [AV.t (tI (cI p3 0 0)), AV.t (Tree.sl (10:Nat) (cL p3 0 1)), AV.t (tI (cI p3 0
  2)), AV.t (tI (cI p3 0 3))], AObj.box [AV.t (tI (cI p3 1 0)), AV.t (Tree.sl (10:Nat) (cL p3 1 1)), AV.t (tI (cI p3 1 2)), AV.t (tI (cI p3 1 3))], AObj.row false (oVer p3 2) (1:Nat) (oEs p3 2),
  AObj.box [], AObj.box [AV.t (tI (gI y7 0)), AV.t (Tree.sl (10:Nat) (gL y7 1)), AV.t (tI (gI y7 2)), AV.t (tI (gI y7 3))]])) (cnd (((gI y6 1) != (0:Int)) = true) (again9 ([AV.t (Tree.bool true)],
  [AObj.box [AV.t (tI (cI p3 0 0)), AV.t (Tree.sl (10:Nat) (cL p3 0 1)), AV.t (tI (cI p3 0 2)), AV.t (tI (cI p3 0 3))], AObj.box [AV.t (tI (cI p3 1 0)), AV.t (Tree.sl (10:Nat) (cL p3 1 1)), AV.t (tI (cI
  p3 1 2)), AV.t (tI (cI p3 1 3))], AObj.row false (oVer p3 2) (1:Nat) (oEs p3 2), AObj.box [], AObj.box [AV.t (tI (gI y7 0)), AV.t (Tree.sl (10:Nat) (gL y7 1)), AV.t (tI (gI y7 2)), AV.t (tI (gI y7
  3))]])) (again9 ([AV.t (Tree.bool ((gI y7 4) != (0:Int)))], [AObj.box [AV.t (tI (cI p3 0 0)), AV.t (Tree.sl (10:Nat) (cL p3 0 1)), AV.t (tI (cI p3 0 2)), AV.t (tI (cI p3 0 3))], AObj.box [AV.t (tI (cI
  p3 1 0)), AV.t (Tree.sl (10:Nat) (cL p3 1 1)), AV.t (tI (cI p3 1 2)), AV.t (tI (cI p3 1 3))], AObj.row false (oVer p3 2) (1:Nat) (oEs p3 2), AObj.box [], AObj.box [AV.t (tI (gI y7 0)), AV.t (Tree.sl
  (10:Nat) (gL y7 1)), AV.t (tI (gI y7 2)), AV.t (tI (gI y7 3))]])))) none) none) none) none) none) none) none) none) none) none) none) none) (join (fun (p10 : List AV × Heap) => cnd ((((List.length (cL
  p10 1 1):Nat):Int) == (0:Int)) = true) (cnd (oVer p10 2 = sVer p3 1) (cnd ((false = true ∨ false = false) ∧ oVer p10 2 = sVer p3 1 ∧ ((1:Nat) = (1:Nat) ∨ (1:Nat) = (0:Nat))) (cnd ((false = true ∨
  false = false) ∧ oVer p10 3 = sVer p10 0 ∧ ((10:Nat) = (10:Nat) ∨ (10:Nat) = (0:Nat))) (some [tI (cI p10 1 0), Tree.sl (10:Nat) (cL p10 1 1), tI (cI p10 1 2), tI (cI p10 1 3), Tree.sl (1:Nat)
  (List.take (sLen p3 1) (List.drop (sOff p3 1) (oEs p10 2))), Tree.sl (10:Nat) (List.take (sLen p10 0) (List.drop (sOff p10 0) (oEs p10 3))), Tree.bool (((sLen p3 1:Nat):Int) == ((List.length
  a1:Nat):Int))]) none) none) none) (cnd ((false = true ∨ false = false) ∧ oVer p10 2 = sVer p3 1 ∧ ((1:Nat) = (1:Nat) ∨ (1:Nat) = (0:Nat))) (cnd ((false = true ∨ false = false) ∧ oVer p10 3 = sVer p10
  0 ∧ ((10:Nat) = (10:Nat) ∨ (10:Nat) = (0:Nat))) (some [tI (cI p10 1 0), Tree.sl (10:Nat) (cL p10 1 1), tI (cI p10 1 2), tI (cI p10 1 3), Tree.sl (1:Nat) (List.take (sLen p3 1) (List.drop (sOff p3 1)
  (oEs p10 2))), Tree.sl (10:Nat) (List.take (sLen p10 0) (List.drop (sOff p10 0) (oEs p10 3))), Tree.bool false]) none) none)) fun (again11 : _ → Option (List Tree)) => loopIter (fun (p12 : List AV ×
  Heap) (again13 : _ → Option (List Tree)) => L10_1 n a1 again11 p12 again13) n ([AV.sref (3:Nat) (0:Nat) (0:Nat) (0:Nat), AV.t (tI (0:Int))], [AObj.box [AV.t (tI (cI p3 0 0)), AV.t (Tree.sl (10:Nat)
  (cL p3 0 1)), AV.t (tI (cI p3 0 2)), AV.t (tI (cI p3 0 3))], AObj.box [AV.t (tI (cI p3 1 0)), AV.t (Tree.sl (10:Nat) (cL p3 1 1)), AV.t (tI (cI p3 1 2)), AV.t (tI (cI p3 1 3))], AObj.row false (oVer
  p3 2) (1:Nat) (oEs p3 2), AObj.row false (0:Nat) (10:Nat) []]))
theorem e10 (n : Nat) (a0 : Int) (a1 : List (List Tree)) : apure C (n + 1) 10 [Tree.int IntKind.u8 a0, Tree.sl (2:Nat) a1] =
  Option.bind (apure C n (16:Nat) [tI (w64 ((1:Int) + (Int.tmod (w64 a0) (20:Int))))]) fun y2 => cnd (List.length y2 = (5:Nat)) (cnd (okI y2 0) (cnd (okL 10 y2 1) (cnd (okI y2 2) (cnd (okI y2 3) (cnd
  (okI y2 4) (loopIter (fun (p3 : List AV × Heap) (again4 : _ → Option (List Tree)) => L10_2 n a1 y2 p3 again4) n ([AV.t (tI (0:Int)), AV.sref (2:Nat) (0:Nat) (0:Nat) (0:Nat), AV.t (tI (0:Int))],
  [AObj.box [AV.t (tI (0:Int)), AV.t (Tree.sl (10:Nat) []), AV.t (tI (0:Int)), AV.t (tI (0:Int))], AObj.box [AV.t (tI (gI y2 0)), AV.t (Tree.sl (10:Nat) (gL y2 1)), AV.t (tI (gI y2 2)), AV.t (tI (gI y2
  3))], AObj.row false (0:Nat) (1:Nat) []])) none) none) none) none) none) none := by kernel_rfl

theorem e12 (n : Nat) (a0 : Int) : apure C (n + 1) 12 [tI a0] =
  cnd (decide (a0 ≥ (1:Int)) = true) (some [Tree.bool (decide (a0 ≤ (1048576:Int)))]) (some [Tree.bool false]) := by kernel_rfl

theorem e13 (n : Nat) (a0 : Int) (a1 : Int) : apure C (n + 1) 13 [tI a0, tI a1] =
  cnd (a1 = (0:Int)) none (cnd (decide (Int.tmod a0 a1 < (0:Int)) = true) (cnd (a1 = (0:Int)) none (cnd (a1 = (0:Int)) none (cnd (decide (Int.tmod a0 a1 < (0:Int)) = true) (some [tI (w64 ((w64 (Int.tdiv
  a0 a1)) - (1:Int))), tI (w64 ((Int.tmod a0 a1) + a1))]) (some [tI (w64 (Int.tdiv a0 a1)), tI (w64 ((Int.tmod a0 a1) + a1))])))) (cnd (a1 = (0:Int)) none (cnd (a1 = (0:Int)) none (cnd (decide (Int.tmod
  a0 a1 < (0:Int)) = true) (some [tI (w64 ((w64 (Int.tdiv a0 a1)) - (1:Int))), tI (Int.tmod a0 a1)]) (some [tI (w64 (Int.tdiv a0 a1)), tI (Int.tmod a0 a1)]))))) := by kernel_rfl

theorem e15 (n : Nat) (a0 : List (List Tree)) (a1 : Int) : apure C (n + 1) 15 [Tree.sl (1:Nat) a0, tI a1] =
  loopIter (fun (p2 : List AV × Heap) (again3 : _ → Option (List Tree)) => cnd (decide (vI p2 0 < ((List.length a0:Nat):Int)) = true) (cnd ((1:Nat) = (1:Nat) ∧ (0:Int) ≤ vI p2 0) (Option.bind
  a0[Int.toNat (vI p2 0)]? fun y4 => cnd (okI y4 0) (cnd ((a1 == (gI y4 0)) = true) (some [tI (vI p2 0)]) (again3 ([AV.t (tI (w64 ((vI p2 0) + (1:Int))))], []))) none) none) (some [tI (-1:Int)])) n
  ([AV.t (tI (0:Int))], []) := by kernel_rfl

theorem e16 (n : Nat) (a0 : Int) : apure C (n + 1) 16 [tI a0] =
  Option.bind (apure C n (12:Nat) [tI a0]) fun y1 => cnd (List.length y1 = (1:Nat)) (cnd (okB y1 0) (cnd ((!(gB y1 0)) = true) (some [tI (0:Int), Tree.sl (10:Nat) [], tI (0:Int), tI (0:Int), tI
  (2:Int)]) (some [tI a0, Tree.sl (10:Nat) [], tI (0:Int), tI (0:Int), tI (0:Int)])) none) none := by kernel_rfl

noncomputable def L17_1 (n : Nat) (a13 : List (List Tree)) (again20 : (List AV × Heap) → Option (List Tree)) (p21 : List AV × Heap) (again22 : (List AV × Heap) → Option (List Tree)) : Option (List Tree) :=
  cnd (decide (vI p21 0 < ((List.length a13:Nat):Int)) = true) (cnd ((1:Nat) = (1:Nat) ∧ (0:Int) ≤ vI p21 0) (Option.bind a13[Int.toNat (vI p21 0)]? fun y23 => cnd (okI y23 0) (join (fun (p26 : List AV
  × Heap) => cnd (vB p26 0 = true) (again20 ([AV.t (tI (vI p21 0))], [AObj.box [AV.t (tI (cI p26 0 0)), AV.t (Tree.sl (10:Nat) (cL p26 0 1)), AV.t (tI (cI p26 0 2)), AV.t (tI (cI p26 0 3))], AObj.row
  false (oVer p26 1) (10:Nat) (oEs p26 1), AObj.box [AV.t (tI (cI p26 2 0)), AV.sref (1:Nat) (cVer p26 2 1) (cOff p26 2 1) (cLen p26 2 1), AV.t (tI (cI p26 2 2)), AV.t (tI (cI p26 2 3))]])) (again22
  ([AV.t (tI (w64 ((vI p21 0) + (1:Int))))], [AObj.box [AV.t (tI (cI p26 0 0)), AV.t (Tree.sl (10:Nat) (cL p26 0 1)), AV.t (tI (cI p26 0 2)), AV.t (tI (cI p26 0 3))], AObj.row false (oVer p26 1)
  (10:Nat) (oEs p26 1), AObj.box [AV.t (tI (cI p26 2 0)), AV.sref (1:Nat) (cVer p26 2 1) (cOff p26 2 1) (cLen p26 2 1), AV.t (tI (cI p26 2 2)), AV.t (tI (cI p26 2 3))]]))) fun (again27 : _ → Option
  (List Tree)) => cnd (decide (gI y23 0 < cI p21 0 0) = true) (again27 ([AV.t (Tree.bool true)], [AObj.box [AV.t (tI (cI p21 0 0)), AV.t (Tree.sl (10:Nat) (cL p21 0 1)), AV.t (tI (cI p21 0 2)), AV.t (tI
  (cI p21 0 3))], AObj.row false (oVer p21 1) (10:Nat) (oEs p21 1), AObj.box [AV.t (tI (cI p21 2 0)), AV.sref (1:Nat) (cVer p21 2 1) (cOff p21 2 1) (cLen p21 2 1), AV.t (tI (cI p21 2 2)), AV.t (tI (cI
  p21 2 3))]])) (again27 ([AV.t (Tree.bool (decide (gI y23 0 > w64 ((2:Int) * (cI p21 0 0)))))], [AObj.box [AV.t (tI (cI p21 0 0)), AV.t (Tree.sl (10:Nat) (cL p21 0 1)), AV.t (tI (cI p21 0 2)), AV.t (tI
  (cI p21 0 3))], AObj.row false (oVer p21 1) (10:Nat) (oEs p21 1), AObj.box [AV.t (tI (cI p21 2 0)), AV.sref (1:Nat) (cVer p21 2 1) (cOff p21 2 1) (cLen p21 2 1), AV.t (tI (cI p21 2 2)), AV.t (tI (cI
  p21 2 3))]]))) none) none) (again20 ([AV.t (tI (-1:Int))], [AObj.box [AV.t (tI (cI p21 0 0)), AV.t (Tree.sl (10:Nat) (cL p21 0 1)), AV.t (tI (cI p21 0 2)), AV.t (tI (cI p21 0 3))], AObj.row false
  (oVer p21 1) (10:Nat) (oEs p21 1), AObj.box [AV.t (tI (cI p21 2 0)), AV.sref (1:Nat) (cVer p21 2 1) (cOff p21 2 1) (cLen p21 2 1), AV.t (tI (cI p21 2 2)), AV.t (tI (cI p21 2 3))]]))

noncomputable def L17_2 (n : Nat) (a4 : Int) (y31 : List Tree) (again33 : (List AV × Heap) → Option (List Tree)) (p34 : List AV × Heap) (again35 : (List AV × Heap) → Option (List Tree)) : Option (List Tree) :=
  cnd (decide (vI p34 0 < vI p34 1) = true) (cnd (oVer p34 3 = cVer p34 5 0 ∧ (10:Nat) = (10:Nat) ∧ (0:Int) ≤ w64 (shrK IntKind.u64 (IntKind.wrap IntKind.u64 (w64 ((vI p34 0) + (vI p34 1)))) (1:Int)) ∧
  w64 (shrK IntKind.u64 (IntKind.wrap IntKind.u64 (w64 ((vI p34 0) + (vI p34 1)))) (1:Int)) < ((cLen p34 5 0:Nat):Int)) (cnd (oVer p34 3 = cVer p34 5 0) (cnd (oVer p34 3 = cVer p34 5 0) (Option.bind
  (oEs p34 3)[(cOff p34 5 0) + (Int.toNat (w64 (shrK IntKind.u64 (IntKind.wrap IntKind.u64 (w64 ((vI p34 0) + (vI p34 1)))) (1:Int))))]? fun y38 => cnd (okI y38 0) (join (fun (p39 : List AV × Heap) =>
  again35 ([AV.t (tI (vI p39 0)), AV.t (tI (vI p39 1))], [AObj.box [AV.t (tI (cI p39 0 0)), AV.t (Tree.sl (10:Nat) (cL p39 0 1)), AV.t (tI (cI p39 0 2)), AV.t (tI (cI p39 0 3))], AObj.row false (oVer
  p39 1) (10:Nat) (oEs p39 1), AObj.box [AV.t (tI (cI p39 2 0)), AV.sref (1:Nat) (cVer p39 2 1) (cOff p39 2 1) (cLen p39 2 1), AV.t (tI (cI p39 2 2)), AV.t (tI (cI p39 2 3))], AObj.row false (oVer p39
  3) (10:Nat) (oEs p39 3), AObj.row false (oVer p39 4) (10:Nat) (oEs p39 4), AObj.box [AV.sref (3:Nat) (cVer p39 5 0) (cOff p39 5 0) (cLen p39 5 0)], AObj.box []])) fun (again40 : _ → Option (List
  Tree)) => cnd ((!(decide (gI y38 0 > w64 (a4 + (gI y31 0))))) = true) (again40 ([AV.t (tI (w64 ((w64 (shrK IntKind.u64 (IntKind.wrap IntKind.u64 (w64 ((vI p34 0) + (vI p34 1)))) (1:Int))) +
  (1:Int)))), AV.t (tI (vI p34 1))], [AObj.box [AV.t (tI (cI p34 0 0)), AV.t (Tree.sl (10:Nat) (cL p34 0 1)), AV.t (tI (cI p34 0 2)), AV.t (tI (cI p34 0 3))], AObj.row false (oVer p34 1) (10:Nat) (oEs
  p34 1), AObj.box [AV.t (tI (cI p34 2 0)), AV.sref (1:Nat) (cVer p34 2 1) (cOff p34 2 1) (cLen p34 2 1), AV.t (tI (cI p34 2 2)), AV.t (tI (cI p34 2 3))], AObj.row false (oVer p34 3) (10:Nat) (oEs p34
  3), AObj.row false (oVer p34 4) (10:Nat) (oEs p34 4), AObj.box [AV.sref (3:Nat) (cVer p34 5 0) (cOff p34 5 0) (cLen p34 5 0)], AObj.box []])) (again40 ([AV.t (tI (vI p34 0)), AV.t (tI (w64 (shrK
  IntKind.u64 (IntKind.wrap IntKind.u64 (w64 ((vI p34 0) + (vI p34 1)))) (1:Int))))], [AObj.box [AV.t (tI (cI p34 0 0)), AV.t (Tree.sl (10:Nat) (cL p34 0 1)), AV.t (tI (cI p34 0 2)), AV.t (tI (cI p34 0
  3))], AObj.row false (oVer p34 1) (10:Nat) (oEs p34 1), AObj.box [AV.t (tI (cI p34 2 0)), AV.sref (1:Nat) (cVer p34 2 1) (cOff p34 2 1) (cLen p34 2 1), AV.t (tI (cI p34 2 2)), AV.t (tI (cI p34 2 3))],
  AObj.row false (oVer p34 3) (10:Nat) (oEs p34 3), AObj.row false (oVer p34 4) (10:Nat) (oEs p34 4), AObj.box [AV.sref (3:Nat) (cVer p34 5 0) (cOff p34 5 0) (cLen p34 5 0)], AObj.box []]))) none) none)
  none) none) (again33 ([AV.t (tI (vI p34 0))], [AObj.box [AV.t (tI (cI p34 0 0)), AV.t (Tree.sl (10:Nat) (cL p34 0 1)), AV.t (tI (cI p34 0 2)), AV.t (tI (cI p34 0 3))], AObj.row false (oVer p34 1)
  (10:Nat) (oEs p34 1), AObj.box [AV.t (tI (cI p34 2 0)), AV.sref (1:Nat) (cVer p34 2 1) (cOff p34 2 1) (cLen p34 2 1), AV.t (tI (cI p34 2 2)), AV.t (tI (cI p34 2 3))], AObj.row false (oVer p34 3)
  (10:Nat) (oEs p34 3), AObj.row false (oVer p34 4) (10:Nat) (oEs p34 4), AObj.box [AV.sref (3:Nat) (cVer p34 5 0) (cOff p34 5 0) (cLen p34 5 0)], AObj.box []]))

noncomputable def L17_3 (n : Nat) (a13 : List (List Tree)) (a4 : Int) (a5 : Int) (a6 : Int) (a7 : Int) (a8 : Int) (a9 : Int) (a10 : Bool) (a11 : ByteArray) (a12 : List (List Tree)) (p29 : List AV × Heap) (again30 : (List AV × Heap) → Option (List Tree)) : Option (List Tree) :=
  cnd (decide (vI p29 0 < ((List.length a13:Nat):Int)) = true) (cnd ((1:Nat) = (1:Nat) ∧ (0:Int) ≤ vI p29 0) (Option.bind a13[Int.toNat (vI p29 0)]? fun y31 => cnd (okI y31 0) (cnd (oVer p29 3 = cVer
  p29 5 0) (join (fun (p32 : List AV × Heap) => cnd (oVer p32 3 = cVer p32 5 0 ∧ (10:Nat) = (10:Nat) ∧ (cOff p32 5 0) + (cLen p32 5 0) = List.length (oEs p32 3) ∧ (cLen p32 5 0) + (1:Nat) ≤
  (1073741824:Nat) ∧ (0:Int) ≤ vI p32 0 ∧ vI p32 0 ≤ ((cLen p32 5 0:Nat):Int)) (again30 ([AV.t (tI (w64 ((vI p29 0) + (1:Int))))], [AObj.box [AV.t (tI (cI p32 0 0)), AV.t (Tree.sl (10:Nat) (cL p32 0
  1)), AV.t (tI (cI p32 0 2)), AV.t (tI (cI p32 0 3))], AObj.row false (oVer p32 1) (10:Nat) (oEs p32 1), AObj.box [AV.t (tI (cI p32 2 0)), AV.sref (1:Nat) (cVer p32 2 1) (cOff p32 2 1) (cLen p32 2 1),
  AV.t (tI (cI p32 2 2)), AV.t (tI (cI p32 2 3))], AObj.row false ((cVer p32 5 0) + (1:Nat)) (10:Nat) (((List.take (Int.toNat (vI p32 0)) (List.drop (cOff p32 5 0) (oEs p32 3))) ++ [[tI (w64 (a4 + (gI
  y31 0))), tI (cI p29 0 2), tI a5, tI a6, tI a7, tI a8, tI a9, Tree.bool a10, Tree.str a11, Tree.sl (2:Nat) a12]]) ++ (List.drop (Int.toNat (vI p32 0)) (List.drop (cOff p32 5 0) (oEs p32 3)))),
  AObj.row false (oVer p32 4) (10:Nat) (oEs p32 4), AObj.box [AV.sref (3:Nat) ((cVer p32 5 0) + (1:Nat)) (0:Nat) ((cLen p32 5 0) + (1:Nat))]])) none) fun (again33 : _ → Option (List Tree)) => loopIter
  (fun (p34 : List AV × Heap) (again35 : _ → Option (List Tree)) => L17_2 n a4 y31 again33 p34 again35) n ([AV.t (tI (0:Int)), AV.t (tI ((cLen p29 5 0:Nat):Int))], [AObj.box [AV.t (tI (cI p29 0 0)),
  AV.t (Tree.sl (10:Nat) (cL p29 0 1)), AV.t (tI (cI p29 0 2)), AV.t (tI (cI p29 0 3))], AObj.row false (oVer p29 1) (10:Nat) (oEs p29 1), AObj.box [AV.t (tI (cI p29 2 0)), AV.sref (1:Nat) (cVer p29 2
  1) (cOff p29 2 1) (cLen p29 2 1), AV.t (tI (cI p29 2 2)), AV.t (tI (cI p29 2 3))], AObj.row false (oVer p29 3) (10:Nat) (oEs p29 3), AObj.row false (oVer p29 4) (10:Nat) (oEs p29 4), AObj.box [AV.sref
  (3:Nat) (cVer p29 5 0) (cOff p29 5 0) (cLen p29 5 0)], AObj.box []])) none) none) none) (Option.bind (apure C n (8:Nat) [Tree.sl (1:Nat) a13, tI (cI p29 0 0)]) fun y41 => cnd (List.length y41 =
  (1:Nat)) (cnd (okB y41 0) (cnd ((!(gB y41 0)) = true) (cnd ((false = true ∨ false = false) ∧ oVer p29 3 = cVer p29 5 0 ∧ ((10:Nat) = (10:Nat) ∨ (10:Nat) = (0:Nat))) (some [tI (cI p29 0 0), Tree.sl
  (10:Nat) (List.take (cLen p29 5 0) (List.drop (cOff p29 5 0) (oEs p29 3))), tI (w64 ((cI p29 0 2) + (1:Int))), tI (w64 ((cI p29 0 3) + (1:Int))), tI (0:Int)]) none) (cnd ((false = true ∨ false =
  false) ∧ oVer p29 3 = cVer p29 5 0 ∧ ((10:Nat) = (10:Nat) ∨ (10:Nat) = (0:Nat))) (some [tI (cI p29 0 0), Tree.sl (10:Nat) (List.take (cLen p29 5 0) (List.drop (cOff p29 5 0) (oEs p29 3))), tI (w64
  ((cI p29 0 2) + (1:Int))), tI (cI p29 0 3), tI (0:Int)]) none)) none) none)
theorem e17 (n : Nat) (a0 : Int) (a1 : List (List Tree)) (a2 : Int) (a3 : Int) (a4 : Int) (a5 : Int) (a6 : Int) (a7 : Int) (a8 : Int) (a9 : Int) (a10 : Bool) (a11 : ByteArray) (a12 : List (List Tree)) (a13 : List (List Tree)) : apure C (n + 1) 17 [tI a0, Tree.sl (10:Nat) a1, tI a2, tI a3, tI a4, tI a5, tI a6, tI a7, tI a8, tI a9, Tree.bool a10, Tree.str a11, Tree.sl (2:Nat) a12, Tree.sl (1:Nat) a13] =
  Option.bind (apure C n (23:Nat) [tI a0, Tree.sl (10:Nat) a1, tI a2, tI a3]) fun y14 => cnd (List.length y14 = (1:Nat)) (cnd (okI y14 0) (cnd (((gI y14 0) != (0:Int)) = true) (some [tI (0:Int), Tree.sl
  (10:Nat) [], tI (0:Int), tI (0:Int), tI (1:Int)]) (join (fun (p15 : List AV × Heap) => cnd (vB p15 0 = true) (some [tI (0:Int), Tree.sl (10:Nat) [], tI (0:Int), tI (0:Int), tI (2:Int)]) (cnd (decide
  (w64 (((List.length (cL p15 0 1):Nat):Int) + ((List.length a13:Nat):Int)) > (10000:Int)) = true) (some [tI (0:Int), Tree.sl (10:Nat) [], tI (0:Int), tI (0:Int), tI (4:Int)]) (Option.bind (apure C n
  (1000026:Nat) [Tree.sl (10:Nat) (cL p15 0 1)]) fun y28 => cnd (List.length y28 = (1:Nat) ∧ okL 10 y28 0) (loopIter (fun (p29 : List AV × Heap) (again30 : _ → Option (List Tree)) => L17_3 n a13 a4 a5
  a6 a7 a8 a9 a10 a11 a12 p29 again30) n ([AV.t (tI (0:Int))], [AObj.box [AV.t (tI (cI p15 0 0)), AV.t (Tree.sl (10:Nat) (cL p15 0 1)), AV.t (tI (cI p15 0 2)), AV.t (tI (cI p15 0 3))], AObj.row false
  (oVer p15 1) (10:Nat) (oEs p15 1), AObj.box [AV.t (tI (cI p15 2 0)), AV.sref (1:Nat) (cVer p15 2 1) (cOff p15 2 1) (cLen p15 2 1), AV.t (tI (cI p15 2 2)), AV.t (tI (cI p15 2 3))], AObj.row false
  (0:Nat) (10:Nat) (gL y28 0), AObj.row false (0:Nat) (10:Nat) [], AObj.box [AV.sref (3:Nat) (0:Nat) (0:Nat) (List.length (gL y28 0))]])) none))) fun (again16 : _ → Option (List Tree)) => cnd (decide
  (a4 < (0:Int)) = true) (again16 ([AV.t (Tree.bool true)], [AObj.box [AV.t (tI a0), AV.t (Tree.sl (10:Nat) a1), AV.t (tI a2), AV.t (tI a3)], AObj.row false (0:Nat) (10:Nat) [], AObj.box [AV.t (tI
  (0:Int)), AV.sref (1:Nat) (0:Nat) (0:Nat) (0:Nat), AV.t (tI (0:Int)), AV.t (tI (0:Int))]])) (cnd (decide (a4 > (1099511627776:Int)) = true) (again16 ([AV.t (Tree.bool true)], [AObj.box [AV.t (tI a0),
  AV.t (Tree.sl (10:Nat) a1), AV.t (tI a2), AV.t (tI a3)], AObj.row false (0:Nat) (10:Nat) [], AObj.box [AV.t (tI (0:Int)), AV.sref (1:Nat) (0:Nat) (0:Nat) (0:Nat), AV.t (tI (0:Int)), AV.t (tI
  (0:Int))]])) (join (fun (p19 : List AV × Heap) => again16 ([AV.t (Tree.bool (decide (vI p19 0 ≥ (0:Int))))], [AObj.box [AV.t (tI (cI p19 0 0)), AV.t (Tree.sl (10:Nat) (cL p19 0 1)), AV.t (tI (cI p19 0
  2)), AV.t (tI (cI p19 0 3))], AObj.row false (oVer p19 1) (10:Nat) (oEs p19 1), AObj.box [AV.t (tI (cI p19 2 0)), AV.sref (1:Nat) (cVer p19 2 1) (cOff p19 2 1) (cLen p19 2 1), AV.t (tI (cI p19 2 2)),
  AV.t (tI (cI p19 2 3))]])) fun (again20 : _ → Option (List Tree)) => loopIter (fun (p21 : List AV × Heap) (again22 : _ → Option (List Tree)) => L17_1 n a13 again20 p21 again22) n ([AV.t (tI (0:Int))],
  [AObj.box [AV.t (tI a0), AV.t (Tree.sl (10:Nat) a1), AV.t (tI a2), AV.t (tI a3)], AObj.row false (0:Nat) (10:Nat) [], AObj.box [AV.t (tI (0:Int)), AV.sref (1:Nat) (0:Nat) (0:Nat) (0:Nat), AV.t (tI
  (0:Int)), AV.t (tI (0:Int))]]))))) none) none := by kernel_rfl

theorem e18 (n : Nat) (a0 : Int) (a1 : List (List Tree)) (a2 : Int) (a3 : Int) : apure C (n + 1) 18 [tI a0, Tree.sl (10:Nat) a1, tI a2, tI a3] =
  Option.bind (apure C n (23:Nat) [tI a0, Tree.sl (10:Nat) a1, tI a2, tI a3]) fun y4 => cnd (List.length y4 = (1:Nat)) (cnd (okI y4 0) (cnd (((gI y4 0) != (0:Int)) = true) (some [tI (0:Int), Tree.sl
  (10:Nat) [], tI (0:Int), tI (0:Int), tI (0:Int), tI (0:Int), tI (0:Int), tI (0:Int), tI (0:Int), tI (0:Int), tI (0:Int), Tree.bool false, Tree.str (ByteArray.mk #[]), Tree.sl (2:Nat) [], tI (1:Int)])
  (cnd ((((List.length a1:Nat):Int) == (0:Int)) = true) (some [tI (0:Int), Tree.sl (10:Nat) [], tI (0:Int), tI (0:Int), tI (0:Int), tI (0:Int), tI (0:Int), tI (0:Int), tI (0:Int), tI (0:Int), tI
  (0:Int), Tree.bool false, Tree.str (ByteArray.mk #[]), Tree.sl (2:Nat) [], tI (20:Int)]) (Option.bind a1[(0:Nat)]? fun y5 => cnd (okI y5 0) (cnd (okI y5 1) (cnd (okI y5 2) (cnd (okI y5 3) (cnd (okI y5
  4) (cnd (okI y5 5) (cnd (okI y5 6) (cnd (okB y5 7) (cnd (okS y5 8) (cnd (okL 2 y5 9) (cnd ((0:Int) ≤ (1:Int) ∧ (1:Int) ≤ ((List.length a1:Nat):Int)) (Option.bind (apure C n (1000026:Nat) [Tree.sl
  (10:Nat) (List.drop (1:Nat) (List.take (List.length a1) a1))]) fun y6 => cnd (List.length y6 = (1:Nat) ∧ okL 10 y6 0) (some [tI a0, Tree.sl (10:Nat) (List.take (List.length (gL y6 0)) (gL y6 0)), tI
  a2, tI a3, tI (gI y5 0), tI (gI y5 1), tI (gI y5 2), tI (gI y5 3), tI (gI y5 4), tI (gI y5 5), tI (gI y5 6), Tree.bool (gB y5 7), Tree.str (gS y5 8), Tree.sl (2:Nat) (gL y5 9), tI (0:Int)]) none)
  none) none) none) none) none) none) none) none) none) none) none))) none) none := by kernel_rfl

theorem e19 (n : Nat) (a0 : Int) (a1 : Int) : apure C (n + 1) 19 [tI a0, tI a1] =
  some [Tree.sl (1:Nat) [[tI a0]]] := by kernel_rfl

theorem e20 (n : Nat) (a0 : Int) (a1 : Int) : apure C (n + 1) 20 [tI a0, tI a1] =
  some [Tree.sl (1:Nat) [[tI a0], [tI (w64 ((w64 (a0 + (1:Int))) + a1))]]] := by kernel_rfl

theorem e21 (n : Nat) (a0 : Int) (a1 : Int) : apure C (n + 1) 21 [tI a0, tI a1] =
  some [Tree.sl (1:Nat) [[tI (w64 ((w64 (a0 + (1:Int))) + a1))]]] := by kernel_rfl

theorem e22 (n : Nat) (a0 : Int) (a1 : Int) : apure C (n + 1) 22 [tI a0, tI a1] =
  some [Tree.sl (1:Nat) []] := by kernel_rfl

theorem e23 (n : Nat) (a0 : Int) (a1 : List (List Tree)) (a2 : Int) (a3 : Int) : apure C (n + 1) 23 [tI a0, Tree.sl (10:Nat) a1, tI a2, tI a3] =
  join (fun (p4 : List AV × Heap) => cnd (vB p4 0 = true) (some [tI (2:Int)]) (cnd (decide (((List.length a1:Nat):Int) > (10000:Int)) = true) (some [tI (4:Int)]) (loopIter (fun (p7 : List AV × Heap)
  (again8 : _ → Option (List Tree)) => cnd (decide (vI p7 0 < ((List.length a1:Nat):Int)) = true) (cnd ((10:Nat) = (10:Nat) ∧ (0:Int) ≤ vI p7 0) (Option.bind a1[Int.toNat (vI p7 0)]? fun y9 => cnd (okI
  y9 0) (cnd (okI y9 1) (cnd (okI y9 2) (cnd (okI y9 3) (cnd (okI y9 4) (cnd (okI y9 5) (cnd (okI y9 6) (cnd (okB y9 7) (cnd (okS y9 8) (cnd (okL 2 y9 9) (join (fun (p10 : List AV × Heap) => cnd (vB p10
  0 = true) (some [tI (2:Int)]) (cnd (decide (vI p7 0 > (0:Int)) = true) (cnd ((10:Nat) = (10:Nat) ∧ (0:Int) ≤ w64 ((vI p7 0) - (1:Int))) (Option.bind a1[Int.toNat (w64 ((vI p7 0) - (1:Int)))]? fun y14
  => cnd (okI y14 0) (cnd (decide (gI y9 0 < gI y14 0) = true) (some [tI (9:Int)]) (again8 ([AV.t (tI (w64 ((vI p7 0) + (1:Int))))], []))) none) none) (again8 ([AV.t (tI (w64 ((vI p7 0) + (1:Int))))],
  [])))) fun (again11 : _ → Option (List Tree)) => cnd (decide (gI y9 0 < (0:Int)) = true) (again11 ([AV.t (Tree.bool true)], [AObj.box []])) (cnd (decide (gI y9 0 > (2199023255552:Int)) = true)
  (again11 ([AV.t (Tree.bool true)], [AObj.box []])) (cnd (decide (gI y9 1 < (0:Int)) = true) (again11 ([AV.t (Tree.bool true)], [AObj.box []])) (again11 ([AV.t (Tree.bool (decide (gI y9 1 ≥ a2)))],
  [AObj.box []]))))) none) none) none) none) none) none) none) none) none) none) none) (some [tI (0:Int)])) n ([AV.t (tI (0:Int))], [])))) fun (again5 : _ → Option (List Tree)) => Option.bind (apure C n
  (12:Nat) [tI a0]) fun y6 => cnd (List.length y6 = (1:Nat)) (cnd (okB y6 0) (cnd ((!(gB y6 0)) = true) (again5 ([AV.t (Tree.bool true)], [])) (cnd (decide (a2 < (0:Int)) = true) (again5 ([AV.t
  (Tree.bool true)], [])) (cnd (decide (a3 < (0:Int)) = true) (again5 ([AV.t (Tree.bool true)], [])) (again5 ([AV.t (Tree.bool (decide (a3 > a2)))], []))))) none) none := by kernel_rfl

theorem e1000011 (n : Nat) (a0 : List (List Tree)) : apure C (n + 1) 1000011 [Tree.sl (2:Nat) a0] =
  cnd (List.length a0 ≠ (0:Nat)) (cnd (List.length a0 ≤ (1073741824:Nat)) (some [Tree.sl (2:Nat) (List.take (List.length a0) a0)]) none) (both (some [Tree.sl (2:Nat) []]) (cnd (List.length a0 ≤
  (1073741824:Nat)) (some [Tree.sl (2:Nat) (List.take (List.length a0) a0)]) none)) := by kernel_rfl

theorem e1000026 (n : Nat) (a0 : List (List Tree)) : apure C (n + 1) 1000026 [Tree.sl (10:Nat) a0] =
  cnd (List.length a0 ≠ (0:Nat)) (cnd (List.length a0 ≤ (1073741824:Nat)) (some [Tree.sl (10:Nat) (List.take (List.length a0) a0)]) none) (both (some [Tree.sl (10:Nat) []]) (cnd (List.length a0 ≤
  (1073741824:Nat)) (some [Tree.sl (10:Nat) (List.take (List.length a0) a0)]) none)) := by kernel_rfl

end Ab
