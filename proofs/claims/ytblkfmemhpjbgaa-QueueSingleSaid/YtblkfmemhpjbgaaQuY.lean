/- A part of the proof: see the last text. -/
import Derived.Test.YtblkfmemhpjbgaaAbT
import Derived.Test.YtblkfmemhpjbgaaQuX
set_option maxRecDepth 100000
set_option linter.unusedVariables false
namespace Ab
open Go Go.Proofs

theorem e3 (n : Nat) (a0 : List (List Tree)) (a1 : Int) : apure C (n + 1) 3 [Tree.sl (5:Nat) a0, tI a1] =
  Option.bind (apure C n (11:Nat) [Tree.sl (5:Nat) a0]) fun y2 => cnd (List.length y2 = (1:Nat)) (cnd (okB y2 0) (cnd (gB y2 0 = true) (Option.bind (apure C n (12:Nat) []) fun y3 => cnd (List.length y3
  = (1:Nat)) (cnd (okB y3 0) (some [Tree.bool (gB y3 0)]) none) none) (Option.bind (apure C n (13:Nat) [Tree.sl (5:Nat) a0, tI a1]) fun y4 => cnd (List.length y4 = (2:Nat)) (cnd (okL 1 y4 0) (cnd (okI
  y4 1) (Option.bind (apure C n (14:Nat) [Tree.sl (5:Nat) a0, tI a1]) fun y5 => cnd (List.length y5 = (2:Nat)) (cnd (okL 1 y5 0) (cnd (okI y5 1) (Option.bind (apure C n (15:Nat) [Tree.sl (1:Nat) (gL y4
  0), Tree.sl (1:Nat) (gL y5 0)]) fun y8 => cnd (List.length y8 = (1:Nat)) (cnd (okB y8 0) (cnd (gB y8 0 = true) (cnd (((gI y4 1) == (gI y5 1)) = true) (Option.bind (apure C n (12:Nat) []) fun y9 => cnd
  (List.length y9 = (1:Nat)) (cnd (okB y9 0) (some [Tree.bool (gB y9 0)]) none) none) (some [Tree.bool false])) (some [Tree.bool false])) none) none) none) none) none) none) none) none)) none) none := by kernel_rfl

noncomputable def L4_1 (n : Nat) (a0 : List (List Tree)) (y4 : List Tree) (a1 : Int) (p10 : List AV × Heap) (again11 : (List AV × Heap) → Option (List Tree)) : Option (List Tree) :=
  cnd (decide (vI p10 2 < ((List.length a0:Nat):Int)) = true) (cnd ((5:Nat) = (5:Nat) ∧ (0:Int) ≤ vI p10 2) (Option.bind a0[Int.toNat (vI p10 2)]? fun y12 => cnd (okI y12 0) (cnd (okI y12 1) (cnd (okI
  y12 2) (cnd (okI y12 3) (cnd (okI y12 4) (cnd (((gI y12 2) == (2:Int)) = true) (cnd (oVer p10 0 = sVer p10 0 ∧ ((5:Nat) = (5:Nat) ∨ (5:Nat) = (0:Nat)) ∧ (sOff p10 0) + (sLen p10 0) ≤ List.length (oEs
  p10 0) ∧ (sLen p10 0) + (1:Nat) ≤ (1073741824:Nat)) (cnd ((1:Nat) = (1:Nat) ∧ (0:Int) ≤ vI p10 2) (Option.bind (gL y4 0)[Int.toNat (vI p10 2)]? fun y15 => cnd (okI y15 0) (cnd (oVer p10 1 = sVer p10 1
  ∧ ((1:Nat) = (1:Nat) ∨ (1:Nat) = (0:Nat)) ∧ (sOff p10 1) + (sLen p10 1) ≤ List.length (oEs p10 1) ∧ (sLen p10 1) + (1:Nat) ≤ (1073741824:Nat)) (again11 ([AV.sref (0:Nat) ((sVer p10 0) + (1:Nat))
  (0:Nat) ((sLen p10 0) + (1:Nat)), AV.sref (1:Nat) ((sVer p10 1) + (1:Nat)) (0:Nat) ((sLen p10 1) + (1:Nat)), AV.t (tI (w64 ((vI p10 2) + (1:Int))))], [AObj.row false ((sVer p10 0) + (1:Nat)) (5:Nat)
  ((List.take (sLen p10 0) (List.drop (sOff p10 0) (oEs p10 0))) ++ [[tI (gI y12 0), tI (gI y12 1), tI (gI y12 2), tI (gI y12 3), tI (gI y12 4)]]), AObj.row false ((sVer p10 1) + (1:Nat)) (1:Nat)
  ((List.take (sLen p10 1) (List.drop (sOff p10 1) (oEs p10 1))) ++ [[tI (gI y15 0)]])])) none) none) none) none) (again11 ([AV.sref (0:Nat) (sVer p10 0) (sOff p10 0) (sLen p10 0), AV.sref (1:Nat) (sVer
  p10 1) (sOff p10 1) (sLen p10 1), AV.t (tI (w64 ((vI p10 2) + (1:Int))))], [AObj.row false (oVer p10 0) (5:Nat) (oEs p10 0), AObj.row false (oVer p10 1) (1:Nat) (oEs p10 1)]))) none) none) none) none)
  none) none) (cnd ((true = true ∨ true = false) ∧ oVer p10 0 = sVer p10 0 ∧ ((5:Nat) = (5:Nat) ∨ (5:Nat) = (0:Nat))) (Option.bind (apure C n (13:Nat) [Tree.sl (5:Nat) (List.take (sLen p10 0) (List.drop
  (sOff p10 0) (oEs p10 0))), tI a1]) fun y16 => cnd (List.length y16 = (2:Nat)) (cnd (okL 1 y16 0) (cnd (okI y16 1) (cnd (((gI y16 1) == (0:Int)) = true) (cnd ((false = true ∨ false = false) ∧ oVer p10
  1 = sVer p10 1 ∧ ((1:Nat) = (1:Nat) ∨ (1:Nat) = (0:Nat))) (Option.bind (apure C n (15:Nat) [Tree.sl (1:Nat) (gL y16 0), Tree.sl (1:Nat) (List.take (sLen p10 1) (List.drop (sOff p10 1) (oEs p10 1)))])
  fun y19 => cnd (List.length y19 = (1:Nat)) (cnd (okB y19 0) (cnd (gB y19 0 = true) (Option.bind (apure C n (12:Nat) []) fun y20 => cnd (List.length y20 = (1:Nat)) (cnd (okB y20 0) (some [Tree.bool (gB
  y20 0)]) none) none) (some [Tree.bool false])) none) none) none) (some [Tree.bool false])) none) none) none) none)

noncomputable def J4_2 (n : Nat) (y4 : List Tree) (a0 : List (List Tree)) (a1 : Int) (p5 : List AV × Heap) : Option (List Tree) :=
  cnd (vB p5 0 = true) (cnd (((gI y4 1) != (0:Int)) = true) (cnd ((((List.length (gL y4 0):Nat):Int) == (0:Int)) = true) (Option.bind (apure C n (12:Nat) []) fun y9 => cnd (List.length y9 = (1:Nat))
  (cnd (okB y9 0) (some [Tree.bool (gB y9 0)]) none) none) (some [Tree.bool false])) (some [Tree.bool false])) (loopIter (fun (p10 : List AV × Heap) (again11 : _ → Option (List Tree)) => L4_1 n a0 y4 a1
  p10 again11) n ([AV.sref (0:Nat) (0:Nat) (0:Nat) (0:Nat), AV.sref (1:Nat) (0:Nat) (0:Nat) (0:Nat), AV.t (tI (0:Int))], [AObj.row false (0:Nat) (5:Nat) [], AObj.row false (0:Nat) (1:Nat) []]))
theorem e4 (n : Nat) (a0 : List (List Tree)) (a1 : Int) : apure C (n + 1) 4 [Tree.sl (5:Nat) a0, tI a1] =
  Option.bind (apure C n (11:Nat) [Tree.sl (5:Nat) a0]) fun y2 => cnd (List.length y2 = (1:Nat)) (cnd (okB y2 0) (cnd (gB y2 0 = true) (Option.bind (apure C n (12:Nat) []) fun y3 => cnd (List.length y3
  = (1:Nat)) (cnd (okB y3 0) (some [Tree.bool (gB y3 0)]) none) none) (Option.bind (apure C n (13:Nat) [Tree.sl (5:Nat) a0, tI a1]) fun y4 => cnd (List.length y4 = (2:Nat)) (cnd (okL 1 y4 0) (cnd (okI
  y4 1) (join (fun (p5 : List AV × Heap) => J4_2 n y4 a0 a1 p5) fun (again6 : _ → Option (List Tree)) => cnd (((gI y4 1) != (0:Int)) = true) (again6 ([AV.t (Tree.bool true)], [])) (again6 ([AV.t
  (Tree.bool (((List.length (gL y4 0):Nat):Int) != ((List.length a0:Nat):Int)))], []))) none) none) none)) none) none := by kernel_rfl

noncomputable def J6_1 (n : Nat) (again16 : (List AV × Heap) → Option (List Tree)) (p15 : List AV × Heap) (a0 : List (List Tree)) (a1 : Int) (a2 : Int) (y7 : List Tree) (p17 : List AV × Heap) : Option (List Tree) :=
  cnd (vB p17 0 = true) (again16 ([AV.t (tI (w64 ((vI p15 0) + (1:Int))))], [])) (cnd ((0:Int) ≤ vI p15 0 ∧ vI p15 0 ≤ ((List.length a0:Nat):Int)) (Option.bind (apure C n (13:Nat) [Tree.sl (5:Nat)
  (List.take (Int.toNat (vI p15 0)) a0), tI a1]) fun y21 => cnd (List.length y21 = (2:Nat)) (cnd (okL 1 y21 0) (cnd (okI y21 1) (cnd (((gI y21 1) == (0:Int)) = true) (cnd ((((List.length (gL y21
  0):Nat):Int) == (vI p15 0)) = true) (cnd ((1:Nat) = (1:Nat) ∧ (0:Int) ≤ Int.tmod (w64 a2) ((List.length a0:Nat):Int)) (Option.bind (gL y21 0)[Int.toNat (Int.tmod (w64 a2) ((List.length a0:Nat):Int))]?
  fun y24 => cnd (okI y24 0) (cnd ((1:Nat) = (1:Nat) ∧ (0:Int) ≤ Int.tmod (w64 a2) ((List.length a0:Nat):Int)) (Option.bind (gL y7 0)[Int.toNat (Int.tmod (w64 a2) ((List.length a0:Nat):Int))]? fun y25
  => cnd (okI y25 0) (cnd (((gI y24 0) == (gI y25 0)) = true) (Option.bind (apure C n (12:Nat) []) fun y26 => cnd (List.length y26 = (1:Nat)) (cnd (okB y26 0) (some [Tree.bool (gB y26 0)]) none) none)
  (some [Tree.bool false])) none) none) none) none) (some [Tree.bool false])) (some [Tree.bool false])) none) none) none) none)

noncomputable def L6_2 (n : Nat) (a0 : List (List Tree)) (a1 : Int) (a2 : Int) (y7 : List Tree) (p15 : List AV × Heap) (again16 : (List AV × Heap) → Option (List Tree)) : Option (List Tree) :=
  join (fun (p17 : List AV × Heap) => J6_1 n again16 p15 a0 a1 a2 y7 p17) fun (again18 : _ → Option (List Tree)) => cnd (decide (vI p15 0 < ((List.length a0:Nat):Int)) = true) (cnd ((5:Nat) = (5:Nat) ∧
  (0:Int) ≤ vI p15 0) (Option.bind a0[Int.toNat (vI p15 0)]? fun y19 => cnd (okI y19 0) (cnd ((1:Nat) = (1:Nat) ∧ (0:Int) ≤ Int.tmod (w64 a2) ((List.length a0:Nat):Int)) (Option.bind (gL y7 0)[Int.toNat
  (Int.tmod (w64 a2) ((List.length a0:Nat):Int))]? fun y20 => cnd (okI y20 0) (again18 ([AV.t (Tree.bool (decide (gI y19 0 < gI y20 0)))], [])) none) none) none) none) (again18 ([AV.t (Tree.bool
  false)], []))

noncomputable def J6_3 (n : Nat) (y7 : List Tree) (a0 : List (List Tree)) (a2 : Int) (a1 : Int) (p8 : List AV × Heap) : Option (List Tree) :=
  cnd (vB p8 0 = true) (cnd (((gI y7 1) != (0:Int)) = true) (cnd ((((List.length (gL y7 0):Nat):Int) == (0:Int)) = true) (Option.bind (apure C n (12:Nat) []) fun y12 => cnd (List.length y12 = (1:Nat))
  (cnd (okB y12 0) (some [Tree.bool (gB y12 0)]) none) none) (some [Tree.bool false])) (some [Tree.bool false])) (cnd (((List.length a0:Nat):Int) = (0:Int)) none (cnd ((1:Nat) = (1:Nat) ∧ (0:Int) ≤
  Int.tmod (w64 a2) ((List.length a0:Nat):Int)) (Option.bind (gL y7 0)[Int.toNat (Int.tmod (w64 a2) ((List.length a0:Nat):Int))]? fun y13 => cnd (okI y13 0) (cnd (decide (gI y13 0 < (0:Int)) = true)
  (Option.bind (apure C n (12:Nat) []) fun y14 => cnd (List.length y14 = (1:Nat)) (cnd (okB y14 0) (some [Tree.bool (gB y14 0)]) none) none) (loopIter (fun (p15 : List AV × Heap) (again16 : _ → Option
  (List Tree)) => L6_2 n a0 a1 a2 y7 p15 again16) n ([AV.t (tI (w64 ((Int.tmod (w64 a2) ((List.length a0:Nat):Int)) + (1:Int))))], []))) none) none))

noncomputable def J6_4 (n : Nat) (a0 : List (List Tree)) (a1 : Int) (a2 : Int) (p3 : List AV × Heap) : Option (List Tree) :=
  cnd (vB p3 0 = true) (Option.bind (apure C n (12:Nat) []) fun y6 => cnd (List.length y6 = (1:Nat)) (cnd (okB y6 0) (some [Tree.bool (gB y6 0)]) none) none) (Option.bind (apure C n (13:Nat) [Tree.sl
  (5:Nat) a0, tI a1]) fun y7 => cnd (List.length y7 = (2:Nat)) (cnd (okL 1 y7 0) (cnd (okI y7 1) (join (fun (p8 : List AV × Heap) => J6_3 n y7 a0 a2 a1 p8) fun (again9 : _ → Option (List Tree)) => cnd
  (((gI y7 1) != (0:Int)) = true) (again9 ([AV.t (Tree.bool true)], [])) (again9 ([AV.t (Tree.bool (((List.length (gL y7 0):Nat):Int) != ((List.length a0:Nat):Int)))], []))) none) none) none)
theorem e6 (n : Nat) (a0 : List (List Tree)) (a1 : Int) (a2 : Int) : apure C (n + 1) 6 [Tree.sl (5:Nat) a0, tI a1, Tree.int IntKind.u8 a2] =
  join (fun (p3 : List AV × Heap) => J6_4 n a0 a1 a2 p3) fun (again4 : _ → Option (List Tree)) => Option.bind (apure C n (11:Nat) [Tree.sl (5:Nat) a0]) fun y5 => cnd (List.length y5 = (1:Nat)) (cnd (okB
  y5 0) (cnd (gB y5 0 = true) (again4 ([AV.t (Tree.bool true)], [])) (again4 ([AV.t (Tree.bool (((List.length a0:Nat):Int) == (0:Int)))], []))) none) none := by kernel_rfl

noncomputable def L7_4 (n : Nat) (p4 : List AV × Heap) (again31 : (List AV × Heap) → Option (List Tree)) (p32 : List AV × Heap) (again33 : (List AV × Heap) → Option (List Tree)) : Option (List Tree) :=
  cnd (decide (vI p32 0 < ((sLen p4 1:Nat):Int)) = true) (cnd (oVer p4 0 = sVer p4 1 ∧ (5:Nat) = (5:Nat) ∧ (0:Int) ≤ vI p32 0 ∧ vI p32 0 < ((sLen p4 1:Nat):Int)) (cnd (oVer p4 0 = sVer p4 1)
  (Option.bind (oEs p4 0)[(sOff p4 1) + (Int.toNat (vI p32 0))]? fun y34 => cnd (okI y34 0) (cnd (okI y34 1) (cnd (okI y34 2) (cnd (okI y34 3) (cnd (okI y34 4) (cnd ((((((gI y34 1) == (cI p32 1 0)) &&
  ((gI y34 2) == (cI p32 1 1))) && ((gI y34 3) == (cI p32 1 2))) && ((gI y34 4) == (cI p32 1 3))) = true) (again31 ([AV.t (tI (vI p32 0))], [AObj.box [], AObj.box [AV.t (tI (cI p32 1 0)), AV.t (tI (cI
  p32 1 1)), AV.t (tI (cI p32 1 2)), AV.t (tI (cI p32 1 3))]])) (again33 ([AV.t (tI (w64 ((vI p32 0) + (1:Int))))], [AObj.box [], AObj.box [AV.t (tI (cI p32 1 0)), AV.t (tI (cI p32 1 1)), AV.t (tI (cI
  p32 1 2)), AV.t (tI (cI p32 1 3))]]))) none) none) none) none) none) none) none) (again31 ([AV.t (tI (-1:Int))], [AObj.box [], AObj.box [AV.t (tI (cI p32 1 0)), AV.t (tI (cI p32 1 1)), AV.t (tI (cI
  p32 1 2)), AV.t (tI (cI p32 1 3))]]))

noncomputable def J7_5 (n : Nat) (y10 : List Tree) (p27 : List AV × Heap) (y29 : List Tree) (a2 : Int) (again28 : (List AV × Heap) → Option (List Tree)) (p30 : List AV × Heap) : Option (List Tree) :=
  cnd (decide (vI p30 0 < (0:Int)) = true) (some [Tree.bool false]) (cnd ((1:Nat) = (1:Nat) ∧ (0:Int) ≤ vI p30 0) (Option.bind (gL y10 0)[Int.toNat (vI p30 0)]? fun y39 => cnd (okI y39 0) (cnd (((gI y39
  0) != (w64 ((vI p27 0) + (w64 (Int.tdiv (w64 ((w64 ((gI y29 3) + (w64 ((1:Int) + (w64 a2))))) - (1:Int))) (w64 ((1:Int) + (w64 a2)))))))) = true) (some [Tree.bool false]) (again28 ([AV.t (tI (w64 ((vI
  p27 0) + (w64 (Int.tdiv (w64 ((w64 ((gI y29 3) + (w64 ((1:Int) + (w64 a2))))) - (1:Int))) (w64 ((1:Int) + (w64 a2)))))))), AV.t (tI (w64 ((vI p27 1) + (1:Int))))], [AObj.box []]))) none) none)

noncomputable def L7_6 (n : Nat) (p4 : List AV × Heap) (a2 : Int) (y10 : List Tree) (p27 : List AV × Heap) (again28 : (List AV × Heap) → Option (List Tree)) : Option (List Tree) :=
  cnd (decide (vI p27 1 < ((List.length (vL p4 0):Nat):Int)) = true) (cnd ((4:Nat) = (4:Nat) ∧ (0:Int) ≤ vI p27 1) (Option.bind (vL p4 0)[Int.toNat (vI p27 1)]? fun y29 => cnd (okI y29 0) (cnd (okI y29
  1) (cnd (okI y29 2) (cnd (okI y29 3) (cnd (w64 ((1:Int) + (w64 a2)) = (0:Int)) none (join (fun (p30 : List AV × Heap) => J7_5 n y10 p27 y29 a2 again28 p30) fun (again31 : _ → Option (List Tree)) =>
  cnd (oVer p4 0 = sVer p4 1) (loopIter (fun (p32 : List AV × Heap) (again33 : _ → Option (List Tree)) => L7_4 n p4 again31 p32 again33) n ([AV.t (tI (0:Int))], [AObj.box [], AObj.box [AV.t (tI (gI y29
  0)), AV.t (tI (gI y29 1)), AV.t (tI (gI y29 2)), AV.t (tI (gI y29 3))]])) none)) none) none) none) none) none) (Option.bind (apure C n (12:Nat) []) fun y40 => cnd (List.length y40 = (1:Nat)) (cnd (okB
  y40 0) (some [Tree.bool (gB y40 0)]) none) none)

noncomputable def L7_7 (n : Nat) (a0 : List (List Tree)) (a1 : Int) (a2 : Int) (p4 : List AV × Heap) (again5 : (List AV × Heap) → Option (List Tree)) : Option (List Tree) :=
  cnd (decide (vI p4 2 < ((List.length a0:Nat):Int)) = true) (cnd ((4:Nat) = (4:Nat) ∧ (0:Int) ≤ vI p4 2) (Option.bind a0[Int.toNat (vI p4 2)]? fun y6 => cnd (okI y6 0) (cnd (okI y6 1) (cnd (okI y6 2)
  (cnd (okI y6 3) (Option.bind (apure C n (17:Nat) [Tree.sl (4:Nat) (vL p4 0), tI (gI y6 0), tI (andK IntKind.i64 (gI y6 1) (1:Int)), tI (w64 ((1073741824:Int) + (andK IntKind.i64 (gI y6 2)
  (1023:Int)))), tI (gI y6 3)]) fun y7 => cnd (List.length y7 = (2:Nat)) (cnd (okL 4 y7 0) (cnd (okI y7 1) (cnd (((gI y7 1) == (0:Int)) = true) (cnd (oVer p4 0 = sVer p4 1 ∧ ((5:Nat) = (5:Nat) ∨ (5:Nat)
  = (0:Nat)) ∧ (sOff p4 1) + (sLen p4 1) ≤ List.length (oEs p4 0) ∧ (sLen p4 1) + (1:Nat) ≤ (1073741824:Nat)) (again5 ([AV.t (Tree.sl (4:Nat) (gL y7 0)), AV.sref (0:Nat) ((sVer p4 1) + (1:Nat)) (0:Nat)
  ((sLen p4 1) + (1:Nat)), AV.t (tI (w64 ((vI p4 2) + (1:Int))))], [AObj.row false ((sVer p4 1) + (1:Nat)) (5:Nat) ((List.take (sLen p4 1) (List.drop (sOff p4 1) (oEs p4 0))) ++ [[tI (w64 a1), tI (gI y6
  0), tI (andK IntKind.i64 (gI y6 1) (1:Int)), tI (w64 ((1073741824:Int) + (andK IntKind.i64 (gI y6 2) (1023:Int)))), tI (gI y6 3)]])])) none) (again5 ([AV.t (Tree.sl (4:Nat) (vL p4 0)), AV.sref (0:Nat)
  (sVer p4 1) (sOff p4 1) (sLen p4 1), AV.t (tI (w64 ((vI p4 2) + (1:Int))))], [AObj.row false (oVer p4 0) (5:Nat) (oEs p4 0)]))) none) none) none) none) none) none) none) none) (cnd ((true = true ∨
  true = false) ∧ oVer p4 0 = sVer p4 1 ∧ ((5:Nat) = (5:Nat) ∨ (5:Nat) = (0:Nat))) (Option.bind (apure C n (13:Nat) [Tree.sl (5:Nat) (List.take (sLen p4 1) (List.drop (sOff p4 1) (oEs p4 0))), tI (w64
  ((1:Int) + (w64 a2)))]) fun y10 => cnd (List.length y10 = (2:Nat)) (cnd (okL 1 y10 0) (cnd (okI y10 1) (cnd (((gI y10 1) != (0:Int)) = true) (some [Tree.bool false]) (cnd (oVer p4 0 = sVer p4 1) (cnd
  ((((List.length (gL y10 0):Nat):Int) != ((sLen p4 1:Nat):Int)) = true) (some [Tree.bool false]) (loopIter (fun (p27 : List AV × Heap) (again28 : _ → Option (List Tree)) => L7_6 n p4 a2 y10 p27
  again28) n ([AV.t (tI (w64 a1)), AV.t (tI (0:Int))], [AObj.box []]))) none)) none) none) none) none)
theorem e7 (n : Nat) (a0 : List (List Tree)) (a1 : Int) (a2 : Int) : apure C (n + 1) 7 [Tree.sl (4:Nat) a0, Tree.int IntKind.u16 a1, Tree.int IntKind.u8 a2] =
  cnd (decide (((List.length a0:Nat):Int) > (12:Int)) = true) (Option.bind (apure C n (12:Nat) []) fun y3 => cnd (List.length y3 = (1:Nat)) (cnd (okB y3 0) (some [Tree.bool (gB y3 0)]) none) none)
  (loopIter (fun (p4 : List AV × Heap) (again5 : _ → Option (List Tree)) => L7_7 n a0 a1 a2 p4 again5) n ([AV.t (Tree.sl (4:Nat) []), AV.sref (0:Nat) (0:Nat) (0:Nat) (0:Nat), AV.t (tI (0:Int))],
  [AObj.row false (0:Nat) (5:Nat) []])) := by kernel_rfl

noncomputable def J8_1 (n : Nat) (a0 : List (List Tree)) (y9 : List Tree) (y10 : List Tree) (y11 : List Tree) (y12 : List Tree) (a6 : Int) (p13 : List AV × Heap) : Option (List Tree) :=
  cnd (vB p13 0 = true) (some [Tree.bool false]) (Option.bind (apure C n (26:Nat) [Tree.sl (4:Nat) a0]) fun y21 => cnd (List.length y21 = (1:Nat)) (cnd (okI y21 0) (Option.bind (apure C n (27:Nat)
  [Tree.sl (4:Nat) a0]) fun y22 => cnd (List.length y22 = (1:Nat)) (cnd (okI y22 0) (cnd (((gI y21 0) == (gI y22 0)) = true) (Option.bind (apure C n (28:Nat) [Tree.sl (4:Nat) (gL y9 0), Tree.sl (4:Nat)
  (gL y10 0)]) fun y23 => cnd (List.length y23 = (1:Nat)) (cnd (okB y23 0) (cnd (gB y23 0 = true) (cnd (((gI y9 1) == (gI y10 1)) = true) (cnd ((((((gI y11 0) == (gI y12 0)) && ((gI y11 1) == (gI y12
  1))) && ((gI y11 2) == (gI y12 2))) && ((gI y11 3) == (gI y12 3))) = true) (Option.bind (apure C n (28:Nat) [Tree.sl (4:Nat) (gL y11 4), Tree.sl (4:Nat) (gL y12 4)]) fun y24 => cnd (List.length y24 =
  (1:Nat)) (cnd (okB y24 0) (cnd (gB y24 0 = true) (cnd (((gI y11 5) == (gI y12 5)) = true) (Option.bind (apure C n (1000029:Nat) [Tree.sl (4:Nat) a0, tI a6]) fun y25 => cnd (List.length y25 = (1:Nat) ∧
  okL 4 y25 0) (Option.bind (apure C n (30:Nat) [Tree.sl (4:Nat) a0, tI a6]) fun y26 => cnd (List.length y26 = (1:Nat)) (cnd (okL 4 y26 0) (Option.bind (apure C n (28:Nat) [Tree.sl (4:Nat) (List.take
  (List.length (gL y25 0)) (gL y25 0)), Tree.sl (4:Nat) (gL y26 0)]) fun y27 => cnd (List.length y27 = (1:Nat)) (cnd (okB y27 0) (cnd (gB y27 0 = true) (Option.bind (apure C n (12:Nat) []) fun y28 =>
  cnd (List.length y28 = (1:Nat)) (cnd (okB y28 0) (some [Tree.bool (gB y28 0)]) none) none) (some [Tree.bool false])) none) none) none) none) none) (some [Tree.bool false])) (some [Tree.bool false]))
  none) none) (some [Tree.bool false])) (some [Tree.bool false])) (some [Tree.bool false])) none) none) (some [Tree.bool false])) none) none) none) none)
theorem e8 (n : Nat) (a0 : List (List Tree)) (a1 : Int) (a2 : Int) (a3 : Int) (a4 : Int) (a5 : Int) (a6 : Int) : apure C (n + 1) 8 [Tree.sl (4:Nat) a0, tI a1, tI a2, tI a3, tI a4, tI a5, tI a6] =
  Option.bind (apure C n (20:Nat) [Tree.sl (4:Nat) a0]) fun y7 => cnd (List.length y7 = (1:Nat)) (cnd (okB y7 0) (cnd (gB y7 0 = true) (Option.bind (apure C n (12:Nat) []) fun y8 => cnd (List.length y8
  = (1:Nat)) (cnd (okB y8 0) (some [Tree.bool (gB y8 0)]) none) none) (Option.bind (apure C n (17:Nat) [Tree.sl (4:Nat) a0, tI a1, tI a2, tI a3, tI a4]) fun y9 => cnd (List.length y9 = (2:Nat)) (cnd
  (okL 4 y9 0) (cnd (okI y9 1) (Option.bind (apure C n (21:Nat) [Tree.sl (4:Nat) a0, tI a1, tI a2, tI a3, tI a4]) fun y10 => cnd (List.length y10 = (2:Nat)) (cnd (okL 4 y10 0) (cnd (okI y10 1)
  (Option.bind (apure C n (22:Nat) [Tree.sl (4:Nat) a0, tI a5]) fun y11 => cnd (List.length y11 = (6:Nat)) (cnd (okI y11 0) (cnd (okI y11 1) (cnd (okI y11 2) (cnd (okI y11 3) (cnd (okL 4 y11 4) (cnd
  (okI y11 5) (Option.bind (apure C n (23:Nat) [Tree.sl (4:Nat) a0, tI a5]) fun y12 => cnd (List.length y12 = (6:Nat)) (cnd (okI y12 0) (cnd (okI y12 1) (cnd (okI y12 2) (cnd (okI y12 3) (cnd (okL 4 y12
  4) (cnd (okI y12 5) (join (fun (p13 : List AV × Heap) => J8_1 n a0 y9 y10 y11 y12 a6 p13) fun (again14 : _ → Option (List Tree)) => cnd (decide (((List.length a0:Nat):Int) > (0:Int)) = true)
  (Option.bind a0[(0:Nat)]? fun y15 => cnd (okI y15 0) (cnd (okI y15 1) (cnd (okI y15 2) (cnd (okI y15 3) (Option.bind (apure C n (24:Nat) [tI a1, tI a2, tI a3, tI a4, tI (gI y15 0), tI (gI y15 1), tI
  (gI y15 2), tI (gI y15 3)]) fun y16 => cnd (List.length y16 = (1:Nat)) (cnd (okB y16 0) (Option.bind a0[(0:Nat)]? fun y17 => cnd (okI y17 0) (cnd (okI y17 1) (cnd (okI y17 2) (cnd (okI y17 3)
  (Option.bind (apure C n (25:Nat) [tI a1, tI a2, tI a3, tI a4, tI (gI y17 0), tI (gI y17 1), tI (gI y17 2), tI (gI y17 3)]) fun y18 => cnd (List.length y18 = (1:Nat)) (cnd (okB y18 0) (again14 ([AV.t
  (Tree.bool (!((gB y16 0) == (gB y18 0))))], [AObj.box [], AObj.box []])) none) none) none) none) none) none) none) none) none) none) none) none) (again14 ([AV.t (Tree.bool false)], [AObj.box [],
  AObj.box []]))) none) none) none) none) none) none) none) none) none) none) none) none) none) none) none) none) none) none) none) none)) none) none := by kernel_rfl

noncomputable def L9_1 (n : Nat) (p4 : List AV × Heap) (again10 : (List AV × Heap) → Option (List Tree)) (p11 : List AV × Heap) (again12 : (List AV × Heap) → Option (List Tree)) : Option (List Tree) :=
  cnd (decide (vI p11 0 < ((sLen p4 0:Nat):Int)) = true) (cnd (oVer p11 0 = sVer p4 0 ∧ (4:Nat) = (4:Nat) ∧ (0:Int) ≤ vI p11 0 ∧ vI p11 0 < ((sLen p4 0:Nat):Int)) (cnd (oVer p11 0 = sVer p4 0)
  (Option.bind (oEs p11 0)[(sOff p4 0) + (Int.toNat (vI p11 0))]? fun y13 => cnd (okI y13 0) (cnd (okI y13 1) (cnd (okI y13 2) (cnd (okI y13 3) (cnd (((gI y13 0) == (cI p11 1 0)) = true) (again10 ([AV.t
  (tI (vI p11 0))], [AObj.row false (oVer p11 0) (4:Nat) (oEs p11 0), AObj.box [AV.t (tI (cI p11 1 0)), AV.t (tI (cI p11 1 1)), AV.t (tI (cI p11 1 2)), AV.t (tI (cI p11 1 3))]])) (again12 ([AV.t (tI
  (w64 ((vI p11 0) + (1:Int))))], [AObj.row false (oVer p11 0) (4:Nat) (oEs p11 0), AObj.box [AV.t (tI (cI p11 1 0)), AV.t (tI (cI p11 1 1)), AV.t (tI (cI p11 1 2)), AV.t (tI (cI p11 1 3))]]))) none)
  none) none) none) none) none) (again10 ([AV.t (tI (-1:Int))], [AObj.row false (oVer p11 0) (4:Nat) (oEs p11 0), AObj.box [AV.t (tI (cI p11 1 0)), AV.t (tI (cI p11 1 1)), AV.t (tI (cI p11 1 2)), AV.t
  (tI (cI p11 1 3))]]))

noncomputable def J9_2 (n : Nat) (again8 : (List AV × Heap) → Option (List Tree)) (p9 : List AV × Heap) : Option (List Tree) :=
  again8 ([AV.t (Tree.bool (decide (vI p9 0 ≥ (0:Int))))], [AObj.row false (oVer p9 0) (4:Nat) (oEs p9 0), AObj.box [AV.t (tI (cI p9 1 0)), AV.t (tI (cI p9 1 1)), AV.t (tI (cI p9 1 2)), AV.t (tI (cI p9
  1 3))]])

noncomputable def J9_3 (n : Nat) (p4 : List AV × Heap) (again5 : (List AV × Heap) → Option (List Tree)) (p7 : List AV × Heap) : Option (List Tree) :=
  cnd ((!(vB p7 0)) = true) (cnd (oVer p7 0 = sVer p4 0 ∧ ((4:Nat) = (4:Nat) ∨ (4:Nat) = (0:Nat)) ∧ (sOff p4 0) + (sLen p4 0) ≤ List.length (oEs p7 0) ∧ (sLen p4 0) + (1:Nat) ≤ (1073741824:Nat)) (again5
  ([AV.sref (0:Nat) ((sVer p4 0) + (1:Nat)) (0:Nat) ((sLen p4 0) + (1:Nat)), AV.t (tI (w64 ((vI p4 1) + (1:Int))))], [AObj.row false ((sVer p4 0) + (1:Nat)) (4:Nat) ((List.take (sLen p4 0) (List.drop
  (sOff p4 0) (oEs p7 0))) ++ [[tI (cI p7 1 0), tI (cI p7 1 1), tI (cI p7 1 2), tI (cI p7 1 3)]])])) none) (again5 ([AV.sref (0:Nat) (sVer p4 0) (sOff p4 0) (sLen p4 0), AV.t (tI (w64 ((vI p4 1) +
  (1:Int))))], [AObj.row false (oVer p7 0) (4:Nat) (oEs p7 0)]))

noncomputable def L9_4 (n : Nat) (p4 : List AV × Heap) (p18 : List AV × Heap) (again34 : (List AV × Heap) → Option (List Tree)) (p35 : List AV × Heap) (again36 : (List AV × Heap) → Option (List Tree)) : Option (List Tree) :=
  cnd (decide (vI p35 1 < ((sLen p4 0:Nat):Int)) = true) (cnd (oVer p35 0 = sVer p4 0 ∧ (4:Nat) = (4:Nat) ∧ (0:Int) ≤ vI p35 1 ∧ vI p35 1 < ((sLen p4 0:Nat):Int)) (cnd (oVer p35 0 = sVer p4 0)
  (Option.bind (oEs p35 0)[(sOff p4 0) + (Int.toNat (vI p35 1))]? fun y37 => cnd (okI y37 0) (cnd (okI y37 1) (cnd (okI y37 2) (cnd (okI y37 3) (Option.bind (apure C n (17:Nat) [Tree.sl (4:Nat) (vL p35
  0), tI (gI y37 0), tI (gI y37 1), tI (gI y37 2), tI (gI y37 3)]) fun y38 => cnd (List.length y38 = (2:Nat)) (cnd (okL 4 y38 0) (cnd (okI y38 1) (cnd (((gI y38 1) == (0:Int)) = true) (again36 ([AV.t
  (Tree.sl (4:Nat) (gL y38 0)), AV.t (tI (w64 ((vI p35 1) + (1:Int))))], [AObj.row false (oVer p35 0) (4:Nat) (oEs p35 0)])) (again36 ([AV.t (Tree.sl (4:Nat) (vL p35 0)), AV.t (tI (w64 ((vI p35 1) +
  (1:Int))))], [AObj.row false (oVer p35 0) (4:Nat) (oEs p35 0)]))) none) none) none) none) none) none) none) none) none) (Option.bind (apure C n (28:Nat) [Tree.sl (4:Nat) (vL p35 0), Tree.sl (4:Nat)
  (vL p18 0)]) fun y41 => cnd (List.length y41 = (1:Nat)) (cnd (okB y41 0) (cnd ((!(gB y41 0)) = true) (again34 ([AV.t (Tree.bool true)], [AObj.row false (oVer p35 0) (4:Nat) (oEs p35 0)])) (Option.bind
  (apure C n (26:Nat) [Tree.sl (4:Nat) (vL p18 0)]) fun y42 => cnd (List.length y42 = (1:Nat)) (cnd (okI y42 0) (again34 ([AV.t (Tree.bool ((gI y42 0) != (0:Int)))], [AObj.row false (oVer p35 0) (4:Nat)
  (oEs p35 0)])) none) none)) none) none)

noncomputable def J9_5 (n : Nat) (again44 : (List AV × Heap) → Option (List Tree)) (p43 : List AV × Heap) (p45 : List AV × Heap) : Option (List Tree) :=
  again44 ([AV.t (Tree.sl (4:Nat) (vL p45 0)), AV.t (tI (w64 ((vI p43 1) + (1:Int))))], [AObj.row false (oVer p45 0) (4:Nat) (oEs p45 0)])

noncomputable def L9_6 (n : Nat) (p18 : List AV × Heap) (a2 : Int) (again60 : (List AV × Heap) → Option (List Tree)) (p61 : List AV × Heap) (again62 : (List AV × Heap) → Option (List Tree)) : Option (List Tree) :=
  cnd (decide (vI p61 0 < ((List.length (vL p18 0):Nat):Int)) = true) (cnd ((4:Nat) = (4:Nat) ∧ (0:Int) ≤ vI p61 0) (Option.bind (vL p18 0)[Int.toNat (vI p61 0)]? fun y63 => cnd (okI y63 0) (cnd (okI
  y63 1) (cnd (okI y63 2) (cnd (okI y63 3) (cnd (decide (gI y63 2 > a2) = true) (again60 ([AV.t (tI (vI p61 0))], [AObj.row false (oVer p61 0) (4:Nat) (oEs p61 0), AObj.box [AV.t (tI (cI p61 1 0)), AV.t
  (tI (cI p61 1 1)), AV.t (tI (cI p61 1 2)), AV.t (tI (cI p61 1 3))]])) (again62 ([AV.t (tI (w64 ((vI p61 0) + (1:Int))))], [AObj.row false (oVer p61 0) (4:Nat) (oEs p61 0), AObj.box [AV.t (tI (cI p61 1
  0)), AV.t (tI (cI p61 1 1)), AV.t (tI (cI p61 1 2)), AV.t (tI (cI p61 1 3))]]))) none) none) none) none) none) (again60 ([AV.t (tI (-1:Int))], [AObj.row false (oVer p61 0) (4:Nat) (oEs p61 0),
  AObj.box [AV.t (tI (cI p61 1 0)), AV.t (tI (cI p61 1 1)), AV.t (tI (cI p61 1 2)), AV.t (tI (cI p61 1 3))]]))

noncomputable def J9_7 (n : Nat) (again58 : (List AV × Heap) → Option (List Tree)) (p59 : List AV × Heap) : Option (List Tree) :=
  again58 ([AV.t (Tree.bool (decide (vI p59 0 ≥ (0:Int))))], [AObj.row false (oVer p59 0) (4:Nat) (oEs p59 0), AObj.box [AV.t (tI (cI p59 1 0)), AV.t (tI (cI p59 1 1)), AV.t (tI (cI p59 1 2)), AV.t (tI
  (cI p59 1 3))]])

noncomputable def J9_8 (n : Nat) (again55 : (List AV × Heap) → Option (List Tree)) (p57 : List AV × Heap) : Option (List Tree) :=
  cnd ((!(vB p57 0)) = true) (Option.bind (apure C n (12:Nat) []) fun y66 => cnd (List.length y66 = (1:Nat)) (cnd (okB y66 0) (again55 ([AV.t (Tree.bool (gB y66 0))], [AObj.row false (oVer p57 0)
  (4:Nat) (oEs p57 0), AObj.box [AV.t (tI (cI p57 1 0)), AV.t (tI (cI p57 1 1)), AV.t (tI (cI p57 1 2)), AV.t (tI (cI p57 1 3))]])) none) none) (again55 ([AV.t (Tree.bool false)], [AObj.row false (oVer
  p57 0) (4:Nat) (oEs p57 0), AObj.box [AV.t (tI (cI p57 1 0)), AV.t (tI (cI p57 1 1)), AV.t (tI (cI p57 1 2)), AV.t (tI (cI p57 1 3))]]))

noncomputable def J9_9 (n : Nat)  (p54 : List AV × Heap) : Option (List Tree) :=
  some [Tree.bool (vB p54 0)]

noncomputable def L9_10 (n : Nat) (p18 : List AV × Heap) (a2 : Int) (p43 : List AV × Heap) (again44 : (List AV × Heap) → Option (List Tree)) : Option (List Tree) :=
  cnd (decide (vI p43 1 < ((List.length (vL p18 0):Nat):Int)) = true) (join (fun (p45 : List AV × Heap) => J9_5 n again44 p43 p45) fun (again46 : _ → Option (List Tree)) => cnd ((4:Nat) = (4:Nat) ∧
  (0:Int) ≤ vI p43 1) (Option.bind (vL p18 0)[Int.toNat (vI p43 1)]? fun y47 => cnd (okI y47 2) (cnd (decide (gI y47 2 ≤ a2) = true) (again46 ([AV.t (Tree.sl (4:Nat) (vL p43 0))], [AObj.row false (oVer
  p43 0) (4:Nat) (oEs p43 0)])) (Option.bind (apure C n (22:Nat) [Tree.sl (4:Nat) (vL p43 0), tI a2]) fun y48 => cnd (List.length y48 = (6:Nat)) (cnd (okI y48 0) (cnd (okI y48 1) (cnd (okI y48 2) (cnd
  (okI y48 3) (cnd (okL 4 y48 4) (cnd (okI y48 5) (cnd (((gI y48 5) != (0:Int)) = true) (some [Tree.bool false]) (cnd ((4:Nat) = (4:Nat) ∧ (0:Int) ≤ vI p43 1) (Option.bind (vL p18 0)[Int.toNat (vI p43
  1)]? fun y51 => cnd (okI y51 0) (cnd (okI y51 1) (cnd (okI y51 2) (cnd (okI y51 3) (cnd ((!(((((gI y48 0) == (gI y51 0)) && ((gI y48 1) == (gI y51 1))) && ((gI y48 2) == (gI y51 2))) && ((gI y48 3) ==
  (gI y51 3)))) = true) (some [Tree.bool false]) (Option.bind (apure C n (26:Nat) [Tree.sl (4:Nat) (gL y48 4)]) fun y52 => cnd (List.length y52 = (1:Nat)) (cnd (okI y52 0) (cnd (((gI y52 0) != (0:Int))
  = true) (some [Tree.bool false]) (again46 ([AV.t (Tree.sl (4:Nat) (gL y48 4))], [AObj.row false (oVer p43 0) (4:Nat) (oEs p43 0)]))) none) none)) none) none) none) none) none)) none) none) none) none)
  none) none) none)) none) none) (Option.bind (apure C n (22:Nat) [Tree.sl (4:Nat) (vL p43 0), tI a2]) fun y53 => cnd (List.length y53 = (6:Nat)) (cnd (okI y53 0) (cnd (okI y53 1) (cnd (okI y53 2) (cnd
  (okI y53 3) (cnd (okL 4 y53 4) (cnd (okI y53 5) (join (fun (p54 : List AV × Heap) => J9_9 n p54) fun (again55 : _ → Option (List Tree)) => cnd (((gI y53 5) == (20:Int)) = true) (Option.bind (apure C n
  (12:Nat) []) fun y56 => cnd (List.length y56 = (1:Nat)) (cnd (okB y56 0) (again55 ([AV.t (Tree.bool (gB y56 0))], [AObj.row false (oVer p43 0) (4:Nat) (oEs p43 0), AObj.box [AV.t (tI (gI y53 0)), AV.t
  (tI (gI y53 1)), AV.t (tI (gI y53 2)), AV.t (tI (gI y53 3))]])) none) none) (cnd ((((List.length (vL p43 0):Nat):Int) == ((List.length (vL p18 0):Nat):Int)) = true) (join (fun (p57 : List AV × Heap)
  => J9_8 n again55 p57) fun (again58 : _ → Option (List Tree)) => join (fun (p59 : List AV × Heap) => J9_7 n again58 p59) fun (again60 : _ → Option (List Tree)) => loopIter (fun (p61 : List AV × Heap)
  (again62 : _ → Option (List Tree)) => L9_6 n p18 a2 again60 p61 again62) n ([AV.t (tI (0:Int))], [AObj.row false (oVer p43 0) (4:Nat) (oEs p43 0), AObj.box [AV.t (tI (gI y53 0)), AV.t (tI (gI y53 1)),
  AV.t (tI (gI y53 2)), AV.t (tI (gI y53 3))]])) (again55 ([AV.t (Tree.bool false)], [AObj.row false (oVer p43 0) (4:Nat) (oEs p43 0), AObj.box [AV.t (tI (gI y53 0)), AV.t (tI (gI y53 1)), AV.t (tI (gI
  y53 2)), AV.t (tI (gI y53 3))]])))) none) none) none) none) none) none) none)

noncomputable def J9_11 (n : Nat) (p18 : List AV × Heap) (a2 : Int) (p33 : List AV × Heap) : Option (List Tree) :=
  cnd (vB p33 0 = true) (some [Tree.bool false]) (loopIter (fun (p43 : List AV × Heap) (again44 : _ → Option (List Tree)) => L9_10 n p18 a2 p43 again44) n ([AV.t (Tree.sl (4:Nat) (vL p18 0)), AV.t (tI
  (0:Int))], [AObj.row false (oVer p33 0) (4:Nat) (oEs p33 0)]))

noncomputable def L9_12 (n : Nat) (a1 : List (List Tree)) (p4 : List AV × Heap) (p18 : List AV × Heap) (a2 : Int) (p24 : List AV × Heap) (again25 : (List AV × Heap) → Option (List Tree)) : Option (List Tree) :=
  cnd (decide (vI p24 0 < ((List.length a1:Nat):Int)) = true) (cnd ((1:Nat) = (1:Nat) ∧ (0:Int) ≤ vI p24 0) (Option.bind a1[Int.toNat (vI p24 0)]? fun y26 => cnd (isIntT IntKind.u8 (List.getD y26
  (0:Nat) default) = true) (cnd (oVer p24 0 = sVer p4 0) (cnd (decide (((sLen p4 0:Nat):Int) > (0:Int)) = true) (cnd (oVer p24 0 = sVer p4 0) (cnd (((sLen p4 0:Nat):Int) = (0:Int)) none (cnd (oVer p24 0
  = sVer p4 0) (cnd (((sLen p4 0:Nat):Int) = (0:Int)) none (cnd (oVer p24 0 = sVer p4 0 ∧ (4:Nat) = (4:Nat) ∧ (0:Int) ≤ Int.tmod (w64 (gI y26 0)) ((sLen p4 0:Nat):Int) ∧ Int.tmod (w64 (gI y26 0)) ((sLen
  p4 0:Nat):Int) < ((sLen p4 0:Nat):Int)) (cnd (oVer p24 0 = sVer p4 0) (Option.bind (oEs p24 0)[(sOff p4 0) + (Int.toNat (Int.tmod (w64 (gI y26 0)) ((sLen p4 0:Nat):Int)))]? fun y29 => cnd (okI y29 0)
  (cnd (okI y29 1) (cnd (okI y29 2) (cnd (okI y29 3) (cnd (oVer p24 0 = sVer p4 0 ∧ (4:Nat) = (4:Nat) ∧ (0:Int) ≤ Int.tmod (vI p24 0) ((sLen p4 0:Nat):Int) ∧ Int.tmod (vI p24 0) ((sLen p4 0:Nat):Int) <
  ((sLen p4 0:Nat):Int)) (cnd (oVer p24 0 = sVer p4 0) (Option.bind (oEs p24 0)[(sOff p4 0) + (Int.toNat (Int.tmod (vI p24 0) ((sLen p4 0:Nat):Int)))]? fun y30 => cnd (okI y30 0) (cnd (okI y30 1) (cnd
  (okI y30 2) (cnd (okI y30 3) (cnd (oVer p24 0 = sVer p4 0 ∧ (4:Nat) = (4:Nat) ∧ (0:Int) ≤ Int.tmod (vI p24 0) ((sLen p4 0:Nat):Int) ∧ Int.tmod (vI p24 0) ((sLen p4 0:Nat):Int) < ((sLen p4 0:Nat):Int))
  (cnd (oVer p24 0 = sVer p4 0 ∧ (4:Nat) ≤ (4:Nat)) (Option.bind (oEs p24 0)[(sOff p4 0) + (Int.toNat (Int.tmod (vI p24 0) ((sLen p4 0:Nat):Int)))]? fun y31 => cnd (sVer p4 0 = sVer p4 0 ∧ (4:Nat) =
  (4:Nat) ∧ (0:Int) ≤ Int.tmod (w64 (gI y26 0)) ((sLen p4 0:Nat):Int) ∧ Int.tmod (w64 (gI y26 0)) ((sLen p4 0:Nat):Int) < ((sLen p4 0:Nat):Int)) (cnd (sVer p4 0 = sVer p4 0 ∧ (4:Nat) ≤ (4:Nat))
  (Option.bind (List.set (oEs p24 0) ((sOff p4 0) + (Int.toNat (Int.tmod (vI p24 0) ((sLen p4 0:Nat):Int)))) ([tI (gI y29 0), tI (gI y29 1), tI (gI y29 2), tI (gI y29 3)] ++ List.drop (4:Nat)
  y31))[(sOff p4 0) + (Int.toNat (Int.tmod (w64 (gI y26 0)) ((sLen p4 0:Nat):Int)))]? fun y32 => again25 ([AV.t (tI (w64 ((vI p24 0) + (1:Int))))], [AObj.row false (sVer p4 0) (4:Nat) (List.set
  (List.set (oEs p24 0) ((sOff p4 0) + (Int.toNat (Int.tmod (vI p24 0) ((sLen p4 0:Nat):Int)))) ([tI (gI y29 0), tI (gI y29 1), tI (gI y29 2), tI (gI y29 3)] ++ List.drop (4:Nat) y31)) ((sOff p4 0) +
  (Int.toNat (Int.tmod (w64 (gI y26 0)) ((sLen p4 0:Nat):Int)))) ([tI (gI y30 0), tI (gI y30 1), tI (gI y30 2), tI (gI y30 3)] ++ List.drop (4:Nat) y32))])) none) none) none) none) none) none) none)
  none) none) none) none) none) none) none) none) none)) none)) none) (again25 ([AV.t (tI (w64 ((vI p24 0) + (1:Int))))], [AObj.row false (oVer p24 0) (4:Nat) (oEs p24 0)]))) none) none) none) (join
  (fun (p33 : List AV × Heap) => J9_11 n p18 a2 p33) fun (again34 : _ → Option (List Tree)) => cnd (oVer p24 0 = sVer p4 0) (loopIter (fun (p35 : List AV × Heap) (again36 : _ → Option (List Tree)) =>
  L9_4 n p4 p18 again34 p35 again36) n ([AV.t (Tree.sl (4:Nat) []), AV.t (tI (0:Int))], [AObj.row false (oVer p24 0) (4:Nat) (oEs p24 0)])) none)

noncomputable def L9_13 (n : Nat) (p4 : List AV × Heap) (a1 : List (List Tree)) (a2 : Int) (p18 : List AV × Heap) (again19 : (List AV × Heap) → Option (List Tree)) : Option (List Tree) :=
  cnd (decide (vI p18 1 < ((sLen p4 0:Nat):Int)) = true) (cnd (oVer p18 0 = sVer p4 0 ∧ (4:Nat) = (4:Nat) ∧ (0:Int) ≤ vI p18 1 ∧ vI p18 1 < ((sLen p4 0:Nat):Int)) (cnd (oVer p18 0 = sVer p4 0)
  (Option.bind (oEs p18 0)[(sOff p4 0) + (Int.toNat (vI p18 1))]? fun y20 => cnd (okI y20 0) (cnd (okI y20 1) (cnd (okI y20 2) (cnd (okI y20 3) (Option.bind (apure C n (17:Nat) [Tree.sl (4:Nat) (vL p18
  0), tI (gI y20 0), tI (gI y20 1), tI (gI y20 2), tI (gI y20 3)]) fun y21 => cnd (List.length y21 = (2:Nat)) (cnd (okL 4 y21 0) (cnd (okI y21 1) (cnd (((gI y21 1) == (0:Int)) = true) (again19 ([AV.t
  (Tree.sl (4:Nat) (gL y21 0)), AV.t (tI (w64 ((vI p18 1) + (1:Int))))], [AObj.row false (oVer p18 0) (4:Nat) (oEs p18 0)])) (again19 ([AV.t (Tree.sl (4:Nat) (vL p18 0)), AV.t (tI (w64 ((vI p18 1) +
  (1:Int))))], [AObj.row false (oVer p18 0) (4:Nat) (oEs p18 0)]))) none) none) none) none) none) none) none) none) none) (loopIter (fun (p24 : List AV × Heap) (again25 : _ → Option (List Tree)) =>
  L9_12 n a1 p4 p18 a2 p24 again25) n ([AV.t (tI (0:Int))], [AObj.row false (oVer p18 0) (4:Nat) (oEs p18 0)]))

noncomputable def L9_14 (n : Nat) (a0 : List (List Tree)) (a1 : List (List Tree)) (a2 : Int) (p4 : List AV × Heap) (again5 : (List AV × Heap) → Option (List Tree)) : Option (List Tree) :=
  cnd (decide (vI p4 1 < ((List.length a0:Nat):Int)) = true) (cnd ((4:Nat) = (4:Nat) ∧ (0:Int) ≤ vI p4 1) (Option.bind a0[Int.toNat (vI p4 1)]? fun y6 => cnd (okI y6 0) (cnd (okI y6 1) (cnd (okI y6 2)
  (cnd (okI y6 3) (join (fun (p7 : List AV × Heap) => J9_3 n p4 again5 p7) fun (again8 : _ → Option (List Tree)) => join (fun (p9 : List AV × Heap) => J9_2 n again8 p9) fun (again10 : _ → Option (List
  Tree)) => cnd (oVer p4 0 = sVer p4 0) (loopIter (fun (p11 : List AV × Heap) (again12 : _ → Option (List Tree)) => L9_1 n p4 again10 p11 again12) n ([AV.t (tI (0:Int))], [AObj.row false (oVer p4 0)
  (4:Nat) (oEs p4 0), AObj.box [AV.t (tI (gI y6 0)), AV.t (tI (gI y6 1)), AV.t (tI (gI y6 2)), AV.t (tI (gI y6 3))]])) none) none) none) none) none) none) (cnd (oVer p4 0 = sVer p4 0) (loopIter (fun
  (p18 : List AV × Heap) (again19 : _ → Option (List Tree)) => L9_13 n p4 a1 a2 p18 again19) n ([AV.t (Tree.sl (4:Nat) []), AV.t (tI (0:Int))], [AObj.row false (oVer p4 0) (4:Nat) (oEs p4 0)])) none)
theorem e9 (n : Nat) (a0 : List (List Tree)) (a1 : List (List Tree)) (a2 : Int) : apure C (n + 1) 9 [Tree.sl (4:Nat) a0, Tree.sl (1:Nat) a1, tI a2] =
  cnd (decide (((List.length a0:Nat):Int) > (12:Int)) = true) (Option.bind (apure C n (12:Nat) []) fun y3 => cnd (List.length y3 = (1:Nat)) (cnd (okB y3 0) (some [Tree.bool (gB y3 0)]) none) none)
  (loopIter (fun (p4 : List AV × Heap) (again5 : _ → Option (List Tree)) => L9_14 n a0 a1 a2 p4 again5) n ([AV.sref (0:Nat) (0:Nat) (0:Nat) (0:Nat), AV.t (tI (0:Int))], [AObj.row false (0:Nat) (4:Nat)
  []])) := by kernel_rfl

theorem e10 (n : Nat) (a0 : List (List Tree)) (a1 : Int) (a2 : Int) (a3 : Int) (a4 : Int) : apure C (n + 1) 10 [Tree.sl (4:Nat) a0, tI a1, tI a2, tI a3, tI a4] =
  Option.bind (apure C n (20:Nat) [Tree.sl (4:Nat) a0]) fun y5 => cnd (List.length y5 = (1:Nat)) (cnd (okB y5 0) (cnd (gB y5 0 = true) (Option.bind (apure C n (12:Nat) []) fun y6 => cnd (List.length y6
  = (1:Nat)) (cnd (okB y6 0) (some [Tree.bool (gB y6 0)]) none) none) (Option.bind (apure C n (17:Nat) [Tree.sl (4:Nat) a0, tI a1, tI a2, tI a3, tI a4]) fun y7 => cnd (List.length y7 = (2:Nat)) (cnd
  (okL 4 y7 0) (cnd (okI y7 1) (cnd (((gI y7 1) != (0:Int)) = true) (cnd ((((List.length (gL y7 0):Nat):Int) == (0:Int)) = true) (Option.bind (apure C n (12:Nat) []) fun y10 => cnd (List.length y10 =
  (1:Nat)) (cnd (okB y10 0) (some [Tree.bool (gB y10 0)]) none) none) (some [Tree.bool false])) (cnd ((((List.length (gL y7 0):Nat):Int) == (w64 (((List.length a0:Nat):Int) + (1:Int)))) = true)
  (Option.bind (apure C n (35:Nat) [Tree.sl (4:Nat) (gL y7 0), tI a1, tI a2, tI a3, tI a4]) fun y13 => cnd (List.length y13 = (1:Nat)) (cnd (okB y13 0) (cnd (gB y13 0 = true) (Option.bind (apure C n
  (26:Nat) [Tree.sl (4:Nat) (gL y7 0)]) fun y14 => cnd (List.length y14 = (1:Nat)) (cnd (okI y14 0) (cnd (((gI y14 0) == (0:Int)) = true) (Option.bind (apure C n (1000029:Nat) [Tree.sl (4:Nat) (gL y7
  0), tI a1]) fun y15 => cnd (List.length y15 = (1:Nat) ∧ okL 4 y15 0) (Option.bind (apure C n (28:Nat) [Tree.sl (4:Nat) (List.take (List.length (gL y15 0)) (gL y15 0)), Tree.sl (4:Nat) a0]) fun y16 =>
  cnd (List.length y16 = (1:Nat)) (cnd (okB y16 0) (cnd (gB y16 0 = true) (Option.bind (apure C n (1000029:Nat) [Tree.sl (4:Nat) a0, tI a1]) fun y17 => cnd (List.length y17 = (1:Nat) ∧ okL 4 y17 0)
  (Option.bind (apure C n (28:Nat) [Tree.sl (4:Nat) (List.take (List.length (gL y17 0)) (gL y17 0)), Tree.sl (4:Nat) a0]) fun y18 => cnd (List.length y18 = (1:Nat)) (cnd (okB y18 0) (cnd (gB y18 0 =
  true) (Option.bind (apure C n (12:Nat) []) fun y19 => cnd (List.length y19 = (1:Nat)) (cnd (okB y19 0) (some [Tree.bool (gB y19 0)]) none) none) (some [Tree.bool false])) none) none) none) (some
  [Tree.bool false])) none) none) none) (some [Tree.bool false])) none) none) (some [Tree.bool false])) none) none) (some [Tree.bool false]))) none) none) none)) none) none := by kernel_rfl

theorem e11 (n : Nat) (a0 : List (List Tree)) : apure C (n + 1) 11 [Tree.sl (5:Nat) a0] =
  cnd (decide (((List.length a0:Nat):Int) > (12:Int)) = true) (cnd (decide (((List.length a0:Nat):Int) < (63:Int)) = true) (some [Tree.bool true]) (some [Tree.bool (decide (((List.length a0:Nat):Int) >
  (70:Int)))])) (some [Tree.bool (decide (((List.length a0:Nat):Int) > (70:Int)))]) := by kernel_rfl

theorem e12 (n : Nat)  : apure C (n + 1) 12 [] =
  Option.bind (apure C n (13:Nat) [Tree.sl (5:Nat) [[tI (0:Int), tI (1:Int), tI (1:Int), tI (90:Int), tI (30:Int)], [tI (2:Int), tI (2:Int), tI (2:Int), tI (90:Int), tI (20:Int)]], tI (10:Int)]) fun y0
  => cnd (List.length y0 = (2:Nat)) (cnd (okL 1 y0 0) (cnd (okI y0 1) (cnd (((gI y0 1) == (0:Int)) = true) (Option.bind (apure C n (15:Nat) [Tree.sl (1:Nat) (gL y0 0), Tree.sl (1:Nat) [[tI (7:Int)], [tI
  (4:Int)]]]) fun y3 => cnd (List.length y3 = (1:Nat)) (cnd (okB y3 0) (some [Tree.bool (gB y3 0)]) none) none) (some [Tree.bool false])) none) none) none := by kernel_rfl

noncomputable def J13_1 (n : Nat) (again7 : (List AV × Heap) → Option (List Tree)) (p8 : List AV × Heap) : Option (List Tree) :=
  cnd (vB p8 0 = true) (again7 ([AV.t (tI (cI p8 4 8)), AV.t (Tree.bool true)], [AObj.row false (oVer p8 0) (1:Nat) (oEs p8 0), AObj.row false (oVer p8 1) (1:Nat) (oEs p8 1), AObj.box [AV.sref (0:Nat)
  (cVer p8 2 0) (cOff p8 2 0) (cLen p8 2 0)], AObj.row false (oVer p8 3) (4:Nat) (oEs p8 3), AObj.box [AV.t (tI (cI p8 4 0)), AV.t (Tree.sl (5:Nat) (cL p8 4 1)), AV.sref (3:Nat) (cVer p8 4 2) (cOff p8 4
  2) (cLen p8 4 2), AV.t (Tree.bool (cB p8 4 3)), AV.t (tI (cI p8 4 4)), AV.t (tI (cI p8 4 5)), AV.t (tI (cI p8 4 6)), AV.t (tI (cI p8 4 7)), AV.t (tI (cI p8 4 8))], AObj.box [AV.ptr (4:Nat) (0:Nat)],
  AObj.box []])) (cnd (decide (((List.length (cL p8 4 1):Nat):Int) > (0:Int)) = true) (Option.bind (cL p8 4 1)[(0:Nat)]? fun y11 => cnd (okI y11 0) (again7 ([AV.t (tI (gI y11 0)), AV.t (Tree.bool
  true)], [AObj.row false (oVer p8 0) (1:Nat) (oEs p8 0), AObj.row false (oVer p8 1) (1:Nat) (oEs p8 1), AObj.box [AV.sref (0:Nat) (cVer p8 2 0) (cOff p8 2 0) (cLen p8 2 0)], AObj.row false (oVer p8 3)
  (4:Nat) (oEs p8 3), AObj.box [AV.t (tI (cI p8 4 0)), AV.t (Tree.sl (5:Nat) (cL p8 4 1)), AV.sref (3:Nat) (cVer p8 4 2) (cOff p8 4 2) (cLen p8 4 2), AV.t (Tree.bool (cB p8 4 3)), AV.t (tI (cI p8 4 4)),
  AV.t (tI (cI p8 4 5)), AV.t (tI (cI p8 4 6)), AV.t (tI (cI p8 4 7)), AV.t (tI (cI p8 4 8))], AObj.box [AV.ptr (4:Nat) (0:Nat)], AObj.box []])) none) (again7 ([AV.t (tI (0:Int)), AV.t (Tree.bool
  false)], [AObj.row false (oVer p8 0) (1:Nat) (oEs p8 0), AObj.row false (oVer p8 1) (1:Nat) (oEs p8 1), AObj.box [AV.sref (0:Nat) (cVer p8 2 0) (cOff p8 2 0) (cLen p8 2 0)], AObj.row false (oVer p8 3)
  (4:Nat) (oEs p8 3), AObj.box [AV.t (tI (cI p8 4 0)), AV.t (Tree.sl (5:Nat) (cL p8 4 1)), AV.sref (3:Nat) (cVer p8 4 2) (cOff p8 4 2) (cLen p8 4 2), AV.t (Tree.bool (cB p8 4 3)), AV.t (tI (cI p8 4 4)),
  AV.t (tI (cI p8 4 5)), AV.t (tI (cI p8 4 6)), AV.t (tI (cI p8 4 7)), AV.t (tI (cI p8 4 8))], AObj.box [AV.ptr (4:Nat) (0:Nat)], AObj.box []])))

noncomputable def L13_2 (n : Nat) (a0 : List (List Tree)) (p12 : List AV × Heap) (again17 : (List AV × Heap) → Option (List Tree)) (p18 : List AV × Heap) (again19 : (List AV × Heap) → Option (List Tree)) : Option (List Tree) :=
  cnd (decide (vI p18 0 < ((List.length a0:Nat):Int)) = true) (cnd ((5:Nat) = (5:Nat) ∧ (0:Int) ≤ vI p18 0) (Option.bind a0[Int.toNat (vI p18 0)]? fun y20 => cnd (okI y20 0) (cnd (okI y20 1) (cnd (okI
  y20 2) (cnd (okI y20 3) (cnd (okI y20 4) (cnd (((gI y20 1) == (cI p12 4 4)) = true) (again17 ([AV.t (tI (vI p18 0))], [AObj.row false (oVer p18 0) (1:Nat) (oEs p18 0), AObj.row false (oVer p18 1)
  (1:Nat) (oEs p18 1), AObj.box [AV.sref (0:Nat) (cVer p18 2 0) (cOff p18 2 0) (cLen p18 2 0)], AObj.row false (oVer p18 3) (4:Nat) (oEs p18 3), AObj.box [AV.t (tI (cI p18 4 0)), AV.t (Tree.sl (5:Nat)
  (cL p18 4 1)), AV.sref (3:Nat) (cVer p18 4 2) (cOff p18 4 2) (cLen p18 4 2), AV.t (Tree.bool (cB p18 4 3)), AV.t (tI (cI p18 4 4)), AV.t (tI (cI p18 4 5)), AV.t (tI (cI p18 4 6)), AV.t (tI (cI p18 4
  7)), AV.t (tI (cI p18 4 8))], AObj.box [AV.ptr (4:Nat) (0:Nat)], AObj.box [], AObj.box []])) (again19 ([AV.t (tI (w64 ((vI p18 0) + (1:Int))))], [AObj.row false (oVer p18 0) (1:Nat) (oEs p18 0),
  AObj.row false (oVer p18 1) (1:Nat) (oEs p18 1), AObj.box [AV.sref (0:Nat) (cVer p18 2 0) (cOff p18 2 0) (cLen p18 2 0)], AObj.row false (oVer p18 3) (4:Nat) (oEs p18 3), AObj.box [AV.t (tI (cI p18 4
  0)), AV.t (Tree.sl (5:Nat) (cL p18 4 1)), AV.sref (3:Nat) (cVer p18 4 2) (cOff p18 4 2) (cLen p18 4 2), AV.t (Tree.bool (cB p18 4 3)), AV.t (tI (cI p18 4 4)), AV.t (tI (cI p18 4 5)), AV.t (tI (cI p18
  4 6)), AV.t (tI (cI p18 4 7)), AV.t (tI (cI p18 4 8))], AObj.box [AV.ptr (4:Nat) (0:Nat)], AObj.box [], AObj.box []]))) none) none) none) none) none) none) (again17 ([AV.t (tI (-1:Int))], [AObj.row
  false (oVer p18 0) (1:Nat) (oEs p18 0), AObj.row false (oVer p18 1) (1:Nat) (oEs p18 1), AObj.box [AV.sref (0:Nat) (cVer p18 2 0) (cOff p18 2 0) (cLen p18 2 0)], AObj.row false (oVer p18 3) (4:Nat)
  (oEs p18 3), AObj.box [AV.t (tI (cI p18 4 0)), AV.t (Tree.sl (5:Nat) (cL p18 4 1)), AV.sref (3:Nat) (cVer p18 4 2) (cOff p18 4 2) (cLen p18 4 2), AV.t (Tree.bool (cB p18 4 3)), AV.t (tI (cI p18 4 4)),
  AV.t (tI (cI p18 4 5)), AV.t (tI (cI p18 4 6)), AV.t (tI (cI p18 4 7)), AV.t (tI (cI p18 4 8))], AObj.box [AV.ptr (4:Nat) (0:Nat)], AObj.box [], AObj.box []]))

noncomputable def J13_3 (n : Nat) (again15 : (List AV × Heap) → Option (List Tree)) (p6 : List AV × Heap) (p16 : List AV × Heap) : Option (List Tree) :=
  cnd (oVer p16 0 = cVer p16 2 0 ∧ (1:Nat) = (1:Nat) ∧ (0:Int) ≤ vI p16 0 ∧ vI p16 0 < ((cLen p16 2 0:Nat):Int)) (cnd (oVer p16 0 = cVer p16 2 0 ∧ (1:Nat) ≤ (1:Nat)) (Option.bind (oEs p16 0)[(cOff p16 2
  0) + (Int.toNat (vI p16 0))]? fun y23 => again15 ([], [AObj.row false (cVer p16 2 0) (1:Nat) (List.set (oEs p16 0) ((cOff p16 2 0) + (Int.toNat (vI p16 0))) ([tI (vI p6 0)] ++ List.drop (1:Nat) y23)),
  AObj.row false (oVer p16 1) (1:Nat) (oEs p16 1), AObj.box [AV.sref (0:Nat) (cVer p16 2 0) (cOff p16 2 0) (cLen p16 2 0)], AObj.row false (oVer p16 3) (4:Nat) (oEs p16 3), AObj.box [AV.t (tI (cI p16 4
  0)), AV.t (Tree.sl (5:Nat) (cL p16 4 1)), AV.sref (3:Nat) (cVer p16 4 2) (cOff p16 4 2) (cLen p16 4 2), AV.t (Tree.bool (cB p16 4 3)), AV.t (tI (cI p16 4 4)), AV.t (tI (cI p16 4 5)), AV.t (tI (cI p16
  4 6)), AV.t (tI (cI p16 4 7)), AV.t (tI (cI p16 4 8))], AObj.box [AV.ptr (4:Nat) (0:Nat)], AObj.box []])) none) none

noncomputable def L13_4 (n : Nat) (p28 : List AV × Heap) (p6 : List AV × Heap) (again35 : (List AV × Heap) → Option (List Tree)) (p36 : List AV × Heap) (again37 : (List AV × Heap) → Option (List Tree)) : Option (List Tree) :=
  cnd (decide (vI p36 0 < ((cLen p28 4 2:Nat):Int)) = true) (cnd (oVer p36 3 = cVer p28 4 2 ∧ (4:Nat) = (4:Nat) ∧ (0:Int) ≤ vI p36 0 ∧ vI p36 0 < ((cLen p28 4 2:Nat):Int)) (cnd (oVer p36 3 = cVer p28 4
  2) (Option.bind (oEs p36 3)[(cOff p28 4 2) + (Int.toNat (vI p36 0))]? fun y38 => cnd (okI y38 0) (cnd (okI y38 1) (cnd (okI y38 2) (cnd (okI y38 3) (cnd (decide (gI y38 2 ≤ vI p6 0) = true) (again35
  ([AV.t (tI (vI p36 0))], [AObj.row false (oVer p36 0) (1:Nat) (oEs p36 0), AObj.row false (oVer p36 1) (1:Nat) (oEs p36 1), AObj.box [AV.sref (0:Nat) (cVer p36 2 0) (cOff p36 2 0) (cLen p36 2 0)],
  AObj.row false (oVer p36 3) (4:Nat) (oEs p36 3), AObj.box [AV.t (tI (cI p36 4 0)), AV.t (Tree.sl (5:Nat) (cL p36 4 1)), AV.sref (3:Nat) (cVer p36 4 2) (cOff p36 4 2) (cLen p36 4 2), AV.t (Tree.bool
  (cB p36 4 3)), AV.t (tI (cI p36 4 4)), AV.t (tI (cI p36 4 5)), AV.t (tI (cI p36 4 6)), AV.t (tI (cI p36 4 7)), AV.t (tI (cI p36 4 8))], AObj.box [AV.ptr (4:Nat) (0:Nat)], AObj.box [], AObj.box [AV.ptr
  (4:Nat) (0:Nat)]])) (again37 ([AV.t (tI (w64 ((vI p36 0) + (1:Int))))], [AObj.row false (oVer p36 0) (1:Nat) (oEs p36 0), AObj.row false (oVer p36 1) (1:Nat) (oEs p36 1), AObj.box [AV.sref (0:Nat)
  (cVer p36 2 0) (cOff p36 2 0) (cLen p36 2 0)], AObj.row false (oVer p36 3) (4:Nat) (oEs p36 3), AObj.box [AV.t (tI (cI p36 4 0)), AV.t (Tree.sl (5:Nat) (cL p36 4 1)), AV.sref (3:Nat) (cVer p36 4 2)
  (cOff p36 4 2) (cLen p36 4 2), AV.t (Tree.bool (cB p36 4 3)), AV.t (tI (cI p36 4 4)), AV.t (tI (cI p36 4 5)), AV.t (tI (cI p36 4 6)), AV.t (tI (cI p36 4 7)), AV.t (tI (cI p36 4 8))], AObj.box [AV.ptr
  (4:Nat) (0:Nat)], AObj.box [], AObj.box [AV.ptr (4:Nat) (0:Nat)]]))) none) none) none) none) none) none) (again35 ([AV.t (tI (-1:Int))], [AObj.row false (oVer p36 0) (1:Nat) (oEs p36 0), AObj.row
  false (oVer p36 1) (1:Nat) (oEs p36 1), AObj.box [AV.sref (0:Nat) (cVer p36 2 0) (cOff p36 2 0) (cLen p36 2 0)], AObj.row false (oVer p36 3) (4:Nat) (oEs p36 3), AObj.box [AV.t (tI (cI p36 4 0)), AV.t
  (Tree.sl (5:Nat) (cL p36 4 1)), AV.sref (3:Nat) (cVer p36 4 2) (cOff p36 4 2) (cLen p36 4 2), AV.t (Tree.bool (cB p36 4 3)), AV.t (tI (cI p36 4 4)), AV.t (tI (cI p36 4 5)), AV.t (tI (cI p36 4 6)),
  AV.t (tI (cI p36 4 7)), AV.t (tI (cI p36 4 8))], AObj.box [AV.ptr (4:Nat) (0:Nat)], AObj.box [], AObj.box [AV.ptr (4:Nat) (0:Nat)]]))

noncomputable def J13_5 (n : Nat) (again42 : (List AV × Heap) → Option (List Tree)) (p41 : List AV × Heap) (p46 : List AV × Heap) : Option (List Tree) :=
  again42 ([AV.t (tI (vI p46 0)), AV.t (tI (w64 ((vI p41 1) + (1:Int))))], [AObj.row false (oVer p46 0) (1:Nat) (oEs p46 0), AObj.row false (oVer p46 1) (1:Nat) (oEs p46 1), AObj.box [AV.sref (0:Nat)
  (cVer p46 2 0) (cOff p46 2 0) (cLen p46 2 0)], AObj.row false (oVer p46 3) (4:Nat) (oEs p46 3), AObj.box [AV.t (tI (cI p46 4 0)), AV.t (Tree.sl (5:Nat) (cL p46 4 1)), AV.sref (3:Nat) (cVer p46 4 2)
  (cOff p46 4 2) (cLen p46 4 2), AV.t (Tree.bool (cB p46 4 3)), AV.t (tI (cI p46 4 4)), AV.t (tI (cI p46 4 5)), AV.t (tI (cI p46 4 6)), AV.t (tI (cI p46 4 7)), AV.t (tI (cI p46 4 8))], AObj.box [AV.ptr
  (4:Nat) (0:Nat)], AObj.box [], AObj.box [AV.ptr (4:Nat) (0:Nat)]])

noncomputable def L13_6 (n : Nat) (p28 : List AV × Heap) (p6 : List AV × Heap) (again33 : (List AV × Heap) → Option (List Tree)) (p41 : List AV × Heap) (again42 : (List AV × Heap) → Option (List Tree)) : Option (List Tree) :=
  cnd (oVer p41 3 = cVer p28 4 2) (cnd (decide (vI p41 1 < ((cLen p28 4 2:Nat):Int)) = true) (cnd (oVer p41 3 = cVer p28 4 2 ∧ (4:Nat) = (4:Nat) ∧ (0:Int) ≤ vI p41 1 ∧ vI p41 1 < ((cLen p28 4
  2:Nat):Int)) (cnd (oVer p41 3 = cVer p28 4 2) (Option.bind (oEs p41 3)[(cOff p28 4 2) + (Int.toNat (vI p41 1))]? fun y43 => cnd (okI y43 0) (cnd (okI y43 1) (cnd (okI y43 2) (cnd (okI y43 3) (join
  (fun (p46 : List AV × Heap) => J13_5 n again42 p41 p46) fun (again47 : _ → Option (List Tree)) => cnd ((!(decide (gI y43 2 ≤ vI p6 0))) = true) (cnd (oVer p41 3 = cVer p28 4 2 ∧ (4:Nat) = (4:Nat) ∧
  (0:Int) ≤ vI p41 0 ∧ vI p41 0 < ((cLen p28 4 2:Nat):Int)) (cnd (oVer p41 3 = cVer p28 4 2 ∧ (4:Nat) ≤ (4:Nat)) (Option.bind (oEs p41 3)[(cOff p28 4 2) + (Int.toNat (vI p41 0))]? fun y48 => again47
  ([AV.t (tI (w64 ((vI p41 0) + (1:Int))))], [AObj.row false (oVer p41 0) (1:Nat) (oEs p41 0), AObj.row false (oVer p41 1) (1:Nat) (oEs p41 1), AObj.box [AV.sref (0:Nat) (cVer p41 2 0) (cOff p41 2 0)
  (cLen p41 2 0)], AObj.row false (cVer p28 4 2) (4:Nat) (List.set (oEs p41 3) ((cOff p28 4 2) + (Int.toNat (vI p41 0))) ([tI (gI y43 0), tI (gI y43 1), tI (gI y43 2), tI (gI y43 3)] ++ List.drop
  (4:Nat) y48)), AObj.box [AV.t (tI (cI p41 4 0)), AV.t (Tree.sl (5:Nat) (cL p41 4 1)), AV.sref (3:Nat) (cVer p41 4 2) (cOff p41 4 2) (cLen p41 4 2), AV.t (Tree.bool (cB p41 4 3)), AV.t (tI (cI p41 4
  4)), AV.t (tI (cI p41 4 5)), AV.t (tI (cI p41 4 6)), AV.t (tI (cI p41 4 7)), AV.t (tI (cI p41 4 8))], AObj.box [AV.ptr (4:Nat) (0:Nat)], AObj.box [], AObj.box [AV.ptr (4:Nat) (0:Nat)], AObj.box [AV.t
  (tI (gI y43 0)), AV.t (tI (gI y43 1)), AV.t (tI (gI y43 2)), AV.t (tI (gI y43 3))]])) none) none) (again47 ([AV.t (tI (vI p41 0))], [AObj.row false (oVer p41 0) (1:Nat) (oEs p41 0), AObj.row false
  (oVer p41 1) (1:Nat) (oEs p41 1), AObj.box [AV.sref (0:Nat) (cVer p41 2 0) (cOff p41 2 0) (cLen p41 2 0)], AObj.row false (oVer p41 3) (4:Nat) (oEs p41 3), AObj.box [AV.t (tI (cI p41 4 0)), AV.t
  (Tree.sl (5:Nat) (cL p41 4 1)), AV.sref (3:Nat) (cVer p41 4 2) (cOff p41 4 2) (cLen p41 4 2), AV.t (Tree.bool (cB p41 4 3)), AV.t (tI (cI p41 4 4)), AV.t (tI (cI p41 4 5)), AV.t (tI (cI p41 4 6)),
  AV.t (tI (cI p41 4 7)), AV.t (tI (cI p41 4 8))], AObj.box [AV.ptr (4:Nat) (0:Nat)], AObj.box [], AObj.box [AV.ptr (4:Nat) (0:Nat)], AObj.box [AV.t (tI (gI y43 0)), AV.t (tI (gI y43 1)), AV.t (tI (gI
  y43 2)), AV.t (tI (gI y43 3))]]))) none) none) none) none) none) none) (cnd (oVer p41 3 = cVer p28 4 2 ∧ ((4:Nat) = (4:Nat) ∨ (4:Nat) = (0:Nat))) (cnd ((0:Int) ≤ vI p41 0 ∧ vI p41 0 ≤ ((cLen p28 4
  2:Nat):Int)) (cnd (Int.toNat (vI p41 0) < (List.length (oEs p41 3)) - (cOff p28 4 2) ∨ Int.toNat (vI p41 0) = (0:Nat)) (cnd (oVer p41 3 = cVer p28 4 2 ∧ (4:Nat) = (4:Nat)) (cnd (cVer p28 4 2 = cVer
  p28 4 2 ∧ ((4:Nat) = (4:Nat) ∨ (4:Nat) = (0:Nat))) (cnd ((0:Int) ≤ vI p41 0 ∧ vI p41 0 ≤ (((List.length (rowSet (oEs p41 3) ((cOff p28 4 2) + (Int.toNat (vI p41 0))) (List.replicate ((cLen p28 4 2) -
  (Int.toNat (vI p41 0))) [tI (0:Int), tI (0:Int), tI (0:Int), tI (0:Int)]))) - (cOff p28 4 2):Nat):Int)) (cnd ((0:Nat) < (List.length (rowSet (oEs p41 3) ((cOff p28 4 2) + (Int.toNat (vI p41 0)))
  (List.replicate ((cLen p28 4 2) - (Int.toNat (vI p41 0))) [tI (0:Int), tI (0:Int), tI (0:Int), tI (0:Int)]))) - (cOff p28 4 2) ∨ (0:Nat) = (0:Nat)) (again33 ([], [AObj.row false (oVer p41 0) (1:Nat)
  (oEs p41 0), AObj.row false (oVer p41 1) (1:Nat) (oEs p41 1), AObj.box [AV.sref (0:Nat) (cVer p41 2 0) (cOff p41 2 0) (cLen p41 2 0)], AObj.row false (cVer p28 4 2) (4:Nat) (rowSet (oEs p41 3) ((cOff
  p28 4 2) + (Int.toNat (vI p41 0))) (List.replicate ((cLen p28 4 2) - (Int.toNat (vI p41 0))) [tI (0:Int), tI (0:Int), tI (0:Int), tI (0:Int)])), AObj.box [AV.t (tI (cI p41 4 0)), AV.t (Tree.sl (5:Nat)
  (cL p41 4 1)), AV.sref (3:Nat) (cVer p28 4 2) (cOff p28 4 2) (Int.toNat (vI p41 0)), AV.t (Tree.bool (cB p41 4 3)), AV.t (tI (cI p41 4 4)), AV.t (tI (cI p41 4 5)), AV.t (tI (cI p41 4 6)), AV.t (tI (cI
  p41 4 7)), AV.t (tI (cI p41 4 8))], AObj.box [AV.ptr (4:Nat) (0:Nat)], AObj.box [], AObj.box [AV.ptr (4:Nat) (0:Nat)]])) none) none) none) none) (cnd (oVer p41 3 = cVer p28 4 2 ∧ ((4:Nat) = (4:Nat) ∨
  (4:Nat) = (0:Nat))) (cnd ((0:Int) ≤ vI p41 0 ∧ vI p41 0 ≤ (((List.length (oEs p41 3)) - (cOff p28 4 2):Nat):Int)) (cnd ((0:Nat) < (List.length (oEs p41 3)) - (cOff p28 4 2) ∨ (0:Nat) = (0:Nat))
  (again33 ([], [AObj.row false (oVer p41 0) (1:Nat) (oEs p41 0), AObj.row false (oVer p41 1) (1:Nat) (oEs p41 1), AObj.box [AV.sref (0:Nat) (cVer p41 2 0) (cOff p41 2 0) (cLen p41 2 0)], AObj.row false
  (oVer p41 3) (4:Nat) (oEs p41 3), AObj.box [AV.t (tI (cI p41 4 0)), AV.t (Tree.sl (5:Nat) (cL p41 4 1)), AV.sref (3:Nat) (cVer p28 4 2) (cOff p28 4 2) (Int.toNat (vI p41 0)), AV.t (Tree.bool (cB p41 4
  3)), AV.t (tI (cI p41 4 4)), AV.t (tI (cI p41 4 5)), AV.t (tI (cI p41 4 6)), AV.t (tI (cI p41 4 7)), AV.t (tI (cI p41 4 8))], AObj.box [AV.ptr (4:Nat) (0:Nat)], AObj.box [], AObj.box [AV.ptr (4:Nat)
  (0:Nat)]])) none) none) none)) none) none)) none

noncomputable def J13_7 (n : Nat) (again33 : (List AV × Heap) → Option (List Tree)) (p28 : List AV × Heap) (p6 : List AV × Heap) (p34 : List AV × Heap) : Option (List Tree) :=
  cnd (((vI p34 0) == (-1:Int)) = true) (again33 ([], [AObj.row false (oVer p34 0) (1:Nat) (oEs p34 0), AObj.row false (oVer p34 1) (1:Nat) (oEs p34 1), AObj.box [AV.sref (0:Nat) (cVer p34 2 0) (cOff
  p34 2 0) (cLen p34 2 0)], AObj.row false (oVer p34 3) (4:Nat) (oEs p34 3), AObj.box [AV.t (tI (cI p34 4 0)), AV.t (Tree.sl (5:Nat) (cL p34 4 1)), AV.sref (3:Nat) (cVer p28 4 2) (cOff p28 4 2) (cLen
  p28 4 2), AV.t (Tree.bool (cB p34 4 3)), AV.t (tI (cI p34 4 4)), AV.t (tI (cI p34 4 5)), AV.t (tI (cI p34 4 6)), AV.t (tI (cI p34 4 7)), AV.t (tI (cI p34 4 8))], AObj.box [AV.ptr (4:Nat) (0:Nat)],
  AObj.box [], AObj.box [AV.ptr (4:Nat) (0:Nat)]])) (loopIter (fun (p41 : List AV × Heap) (again42 : _ → Option (List Tree)) => L13_6 n p28 p6 again33 p41 again42) n ([AV.t (tI (vI p34 0)), AV.t (tI
  (w64 ((vI p34 0) + (1:Int))))], [AObj.row false (oVer p34 0) (1:Nat) (oEs p34 0), AObj.row false (oVer p34 1) (1:Nat) (oEs p34 1), AObj.box [AV.sref (0:Nat) (cVer p34 2 0) (cOff p34 2 0) (cLen p34 2
  0)], AObj.row false (oVer p34 3) (4:Nat) (oEs p34 3), AObj.box [AV.t (tI (cI p34 4 0)), AV.t (Tree.sl (5:Nat) (cL p34 4 1)), AV.sref (3:Nat) (cVer p34 4 2) (cOff p34 4 2) (cLen p34 4 2), AV.t
  (Tree.bool (cB p34 4 3)), AV.t (tI (cI p34 4 4)), AV.t (tI (cI p34 4 5)), AV.t (tI (cI p34 4 6)), AV.t (tI (cI p34 4 7)), AV.t (tI (cI p34 4 8))], AObj.box [AV.ptr (4:Nat) (0:Nat)], AObj.box [],
  AObj.box [AV.ptr (4:Nat) (0:Nat)]]))

noncomputable def L13_8 (n : Nat) (p32 : List AV × Heap) (again54 : (List AV × Heap) → Option (List Tree)) (p55 : List AV × Heap) (again56 : (List AV × Heap) → Option (List Tree)) : Option (List Tree) :=
  cnd (decide (vI p55 0 < ((cLen p32 4 2:Nat):Int)) = true) (cnd (oVer p55 3 = cVer p32 4 2 ∧ (4:Nat) = (4:Nat) ∧ (0:Int) ≤ vI p55 0 ∧ vI p55 0 < ((cLen p32 4 2:Nat):Int)) (cnd (oVer p55 3 = cVer p32 4
  2) (Option.bind (oEs p55 3)[(cOff p32 4 2) + (Int.toNat (vI p55 0))]? fun y57 => cnd (okI y57 0) (cnd (okI y57 1) (cnd (okI y57 2) (cnd (okI y57 3) (Option.bind (apure C n (24:Nat) [tI (gI y57 0), tI
  (gI y57 1), tI (gI y57 2), tI (gI y57 3), tI (cI p55 4 4), tI (cI p55 4 5), tI (cI p55 4 6), tI (cI p55 4 7)]) fun y60 => cnd (List.length y60 = (1:Nat)) (cnd (okB y60 0) (cnd (gB y60 0 = true)
  (again54 ([AV.t (tI (vI p55 0))], [AObj.row false (oVer p55 0) (1:Nat) (oEs p55 0), AObj.row false (oVer p55 1) (1:Nat) (oEs p55 1), AObj.box [AV.sref (0:Nat) (cVer p55 2 0) (cOff p55 2 0) (cLen p55 2
  0)], AObj.row false (oVer p55 3) (4:Nat) (oEs p55 3), AObj.box [AV.t (tI (cI p55 4 0)), AV.t (Tree.sl (5:Nat) (cL p55 4 1)), AV.sref (3:Nat) (cVer p55 4 2) (cOff p55 4 2) (cLen p55 4 2), AV.t
  (Tree.bool (cB p55 4 3)), AV.t (tI (cI p55 4 4)), AV.t (tI (cI p55 4 5)), AV.t (tI (cI p55 4 6)), AV.t (tI (cI p55 4 7)), AV.t (tI (cI p55 4 8))], AObj.box [AV.ptr (4:Nat) (0:Nat)], AObj.box [],
  AObj.box [AV.ptr (4:Nat) (0:Nat)]])) (again56 ([AV.t (tI (w64 ((vI p55 0) + (1:Int))))], [AObj.row false (oVer p55 0) (1:Nat) (oEs p55 0), AObj.row false (oVer p55 1) (1:Nat) (oEs p55 1), AObj.box
  [AV.sref (0:Nat) (cVer p55 2 0) (cOff p55 2 0) (cLen p55 2 0)], AObj.row false (oVer p55 3) (4:Nat) (oEs p55 3), AObj.box [AV.t (tI (cI p55 4 0)), AV.t (Tree.sl (5:Nat) (cL p55 4 1)), AV.sref (3:Nat)
  (cVer p55 4 2) (cOff p55 4 2) (cLen p55 4 2), AV.t (Tree.bool (cB p55 4 3)), AV.t (tI (cI p55 4 4)), AV.t (tI (cI p55 4 5)), AV.t (tI (cI p55 4 6)), AV.t (tI (cI p55 4 7)), AV.t (tI (cI p55 4 8))],
  AObj.box [AV.ptr (4:Nat) (0:Nat)], AObj.box [], AObj.box [AV.ptr (4:Nat) (0:Nat)]]))) none) none) none) none) none) none) none) none) (again54 ([AV.t (tI (-1:Int))], [AObj.row false (oVer p55 0)
  (1:Nat) (oEs p55 0), AObj.row false (oVer p55 1) (1:Nat) (oEs p55 1), AObj.box [AV.sref (0:Nat) (cVer p55 2 0) (cOff p55 2 0) (cLen p55 2 0)], AObj.row false (oVer p55 3) (4:Nat) (oEs p55 3), AObj.box
  [AV.t (tI (cI p55 4 0)), AV.t (Tree.sl (5:Nat) (cL p55 4 1)), AV.sref (3:Nat) (cVer p55 4 2) (cOff p55 4 2) (cLen p55 4 2), AV.t (Tree.bool (cB p55 4 3)), AV.t (tI (cI p55 4 4)), AV.t (tI (cI p55 4
  5)), AV.t (tI (cI p55 4 6)), AV.t (tI (cI p55 4 7)), AV.t (tI (cI p55 4 8))], AObj.box [AV.ptr (4:Nat) (0:Nat)], AObj.box [], AObj.box [AV.ptr (4:Nat) (0:Nat)]]))

noncomputable def J13_9 (n : Nat) (again52 : (List AV × Heap) → Option (List Tree)) (p53 : List AV × Heap) : Option (List Tree) :=
  again52 ([AV.t (Tree.bool (decide (vI p53 0 ≥ (0:Int))))], [AObj.row false (oVer p53 0) (1:Nat) (oEs p53 0), AObj.row false (oVer p53 1) (1:Nat) (oEs p53 1), AObj.box [AV.sref (0:Nat) (cVer p53 2 0)
  (cOff p53 2 0) (cLen p53 2 0)], AObj.row false (oVer p53 3) (4:Nat) (oEs p53 3), AObj.box [AV.t (tI (cI p53 4 0)), AV.t (Tree.sl (5:Nat) (cL p53 4 1)), AV.sref (3:Nat) (cVer p53 4 2) (cOff p53 4 2)
  (cLen p53 4 2), AV.t (Tree.bool (cB p53 4 3)), AV.t (tI (cI p53 4 4)), AV.t (tI (cI p53 4 5)), AV.t (tI (cI p53 4 6)), AV.t (tI (cI p53 4 7)), AV.t (tI (cI p53 4 8))], AObj.box [AV.ptr (4:Nat)
  (0:Nat)], AObj.box [], AObj.box [AV.ptr (4:Nat) (0:Nat)]])

noncomputable def J13_10 (n : Nat) (again50 : (List AV × Heap) → Option (List Tree)) (p51 : List AV × Heap) : Option (List Tree) :=
  again50 ([AV.t (Tree.bool (vB p51 0))], [AObj.row false (oVer p51 0) (1:Nat) (oEs p51 0), AObj.row false (oVer p51 1) (1:Nat) (oEs p51 1), AObj.box [AV.sref (0:Nat) (cVer p51 2 0) (cOff p51 2 0) (cLen
  p51 2 0)], AObj.row false (oVer p51 3) (4:Nat) (oEs p51 3), AObj.box [AV.t (tI (cI p51 4 0)), AV.t (Tree.sl (5:Nat) (cL p51 4 1)), AV.sref (3:Nat) (cVer p51 4 2) (cOff p51 4 2) (cLen p51 4 2), AV.t
  (Tree.bool (cB p51 4 3)), AV.t (tI (cI p51 4 4)), AV.t (tI (cI p51 4 5)), AV.t (tI (cI p51 4 6)), AV.t (tI (cI p51 4 7)), AV.t (tI (cI p51 4 8))], AObj.box [AV.ptr (4:Nat) (0:Nat)], AObj.box [],
  AObj.box [AV.ptr (4:Nat) (0:Nat)]])

noncomputable def L13_11 (n : Nat) (p49 : List AV × Heap) (p6 : List AV × Heap) (again66 : (List AV × Heap) → Option (List Tree)) (p67 : List AV × Heap) (again68 : (List AV × Heap) → Option (List Tree)) : Option (List Tree) :=
  cnd (decide (vI p67 0 < (((cLen p49 4 2) + (1:Nat):Nat):Int)) = true) (cnd (oVer p67 3 = (cVer p49 4 2) + (1:Nat) ∧ (4:Nat) = (4:Nat) ∧ (0:Int) ≤ vI p67 0 ∧ vI p67 0 < (((cLen p49 4 2) +
  (1:Nat):Nat):Int)) (cnd (oVer p67 3 = (cVer p49 4 2) + (1:Nat)) (Option.bind (oEs p67 3)[(0:Nat) + (Int.toNat (vI p67 0))]? fun y69 => cnd (okI y69 0) (cnd (okI y69 1) (cnd (okI y69 2) (cnd (okI y69
  3) (cnd (decide (gI y69 2 ≤ vI p6 0) = true) (again66 ([AV.t (tI (vI p67 0))], [AObj.row false (oVer p67 0) (1:Nat) (oEs p67 0), AObj.row false (oVer p67 1) (1:Nat) (oEs p67 1), AObj.box [AV.sref
  (0:Nat) (cVer p67 2 0) (cOff p67 2 0) (cLen p67 2 0)], AObj.row false (oVer p67 3) (4:Nat) (oEs p67 3), AObj.box [AV.t (tI (cI p67 4 0)), AV.t (Tree.sl (5:Nat) (cL p67 4 1)), AV.sref (3:Nat) (cVer p67
  4 2) (cOff p67 4 2) (cLen p67 4 2), AV.t (Tree.bool (cB p67 4 3)), AV.t (tI (cI p67 4 4)), AV.t (tI (cI p67 4 5)), AV.t (tI (cI p67 4 6)), AV.t (tI (cI p67 4 7)), AV.t (tI (cI p67 4 8))], AObj.box
  [AV.ptr (4:Nat) (0:Nat)], AObj.box [], AObj.box [AV.ptr (4:Nat) (0:Nat)]])) (again68 ([AV.t (tI (w64 ((vI p67 0) + (1:Int))))], [AObj.row false (oVer p67 0) (1:Nat) (oEs p67 0), AObj.row false (oVer
  p67 1) (1:Nat) (oEs p67 1), AObj.box [AV.sref (0:Nat) (cVer p67 2 0) (cOff p67 2 0) (cLen p67 2 0)], AObj.row false (oVer p67 3) (4:Nat) (oEs p67 3), AObj.box [AV.t (tI (cI p67 4 0)), AV.t (Tree.sl
  (5:Nat) (cL p67 4 1)), AV.sref (3:Nat) (cVer p67 4 2) (cOff p67 4 2) (cLen p67 4 2), AV.t (Tree.bool (cB p67 4 3)), AV.t (tI (cI p67 4 4)), AV.t (tI (cI p67 4 5)), AV.t (tI (cI p67 4 6)), AV.t (tI (cI
  p67 4 7)), AV.t (tI (cI p67 4 8))], AObj.box [AV.ptr (4:Nat) (0:Nat)], AObj.box [], AObj.box [AV.ptr (4:Nat) (0:Nat)]]))) none) none) none) none) none) none) (again66 ([AV.t (tI (-1:Int))], [AObj.row
  false (oVer p67 0) (1:Nat) (oEs p67 0), AObj.row false (oVer p67 1) (1:Nat) (oEs p67 1), AObj.box [AV.sref (0:Nat) (cVer p67 2 0) (cOff p67 2 0) (cLen p67 2 0)], AObj.row false (oVer p67 3) (4:Nat)
  (oEs p67 3), AObj.box [AV.t (tI (cI p67 4 0)), AV.t (Tree.sl (5:Nat) (cL p67 4 1)), AV.sref (3:Nat) (cVer p67 4 2) (cOff p67 4 2) (cLen p67 4 2), AV.t (Tree.bool (cB p67 4 3)), AV.t (tI (cI p67 4 4)),
  AV.t (tI (cI p67 4 5)), AV.t (tI (cI p67 4 6)), AV.t (tI (cI p67 4 7)), AV.t (tI (cI p67 4 8))], AObj.box [AV.ptr (4:Nat) (0:Nat)], AObj.box [], AObj.box [AV.ptr (4:Nat) (0:Nat)]]))

noncomputable def J13_12 (n : Nat) (again73 : (List AV × Heap) → Option (List Tree)) (p72 : List AV × Heap) (p77 : List AV × Heap) : Option (List Tree) :=
  again73 ([AV.t (tI (vI p77 0)), AV.t (tI (w64 ((vI p72 1) + (1:Int))))], [AObj.row false (oVer p77 0) (1:Nat) (oEs p77 0), AObj.row false (oVer p77 1) (1:Nat) (oEs p77 1), AObj.box [AV.sref (0:Nat)
  (cVer p77 2 0) (cOff p77 2 0) (cLen p77 2 0)], AObj.row false (oVer p77 3) (4:Nat) (oEs p77 3), AObj.box [AV.t (tI (cI p77 4 0)), AV.t (Tree.sl (5:Nat) (cL p77 4 1)), AV.sref (3:Nat) (cVer p77 4 2)
  (cOff p77 4 2) (cLen p77 4 2), AV.t (Tree.bool (cB p77 4 3)), AV.t (tI (cI p77 4 4)), AV.t (tI (cI p77 4 5)), AV.t (tI (cI p77 4 6)), AV.t (tI (cI p77 4 7)), AV.t (tI (cI p77 4 8))], AObj.box [AV.ptr
  (4:Nat) (0:Nat)], AObj.box [], AObj.box [AV.ptr (4:Nat) (0:Nat)]])

noncomputable def L13_13 (n : Nat) (p49 : List AV × Heap) (p6 : List AV × Heap) (again64 : (List AV × Heap) → Option (List Tree)) (p72 : List AV × Heap) (again73 : (List AV × Heap) → Option (List Tree)) : Option (List Tree) :=
  cnd (oVer p72 3 = (cVer p49 4 2) + (1:Nat)) (cnd (decide (vI p72 1 < (((cLen p49 4 2) + (1:Nat):Nat):Int)) = true) (cnd (oVer p72 3 = (cVer p49 4 2) + (1:Nat) ∧ (4:Nat) = (4:Nat) ∧ (0:Int) ≤ vI p72 1
  ∧ vI p72 1 < (((cLen p49 4 2) + (1:Nat):Nat):Int)) (cnd (oVer p72 3 = (cVer p49 4 2) + (1:Nat)) (Option.bind (oEs p72 3)[(0:Nat) + (Int.toNat (vI p72 1))]? fun y74 => cnd (okI y74 0) (cnd (okI y74 1)
  (cnd (okI y74 2) (cnd (okI y74 3) (join (fun (p77 : List AV × Heap) => J13_12 n again73 p72 p77) fun (again78 : _ → Option (List Tree)) => cnd ((!(decide (gI y74 2 ≤ vI p6 0))) = true) (cnd (oVer p72
  3 = (cVer p49 4 2) + (1:Nat) ∧ (4:Nat) = (4:Nat) ∧ (0:Int) ≤ vI p72 0 ∧ vI p72 0 < (((cLen p49 4 2) + (1:Nat):Nat):Int)) (cnd (oVer p72 3 = (cVer p49 4 2) + (1:Nat) ∧ (4:Nat) ≤ (4:Nat)) (Option.bind
  (oEs p72 3)[(0:Nat) + (Int.toNat (vI p72 0))]? fun y79 => again78 ([AV.t (tI (w64 ((vI p72 0) + (1:Int))))], [AObj.row false (oVer p72 0) (1:Nat) (oEs p72 0), AObj.row false (oVer p72 1) (1:Nat) (oEs
  p72 1), AObj.box [AV.sref (0:Nat) (cVer p72 2 0) (cOff p72 2 0) (cLen p72 2 0)], AObj.row false ((cVer p49 4 2) + (1:Nat)) (4:Nat) (List.set (oEs p72 3) ((0:Nat) + (Int.toNat (vI p72 0))) ([tI (gI y74
  0), tI (gI y74 1), tI (gI y74 2), tI (gI y74 3)] ++ List.drop (4:Nat) y79)), AObj.box [AV.t (tI (cI p72 4 0)), AV.t (Tree.sl (5:Nat) (cL p72 4 1)), AV.sref (3:Nat) (cVer p72 4 2) (cOff p72 4 2) (cLen
  p72 4 2), AV.t (Tree.bool (cB p72 4 3)), AV.t (tI (cI p72 4 4)), AV.t (tI (cI p72 4 5)), AV.t (tI (cI p72 4 6)), AV.t (tI (cI p72 4 7)), AV.t (tI (cI p72 4 8))], AObj.box [AV.ptr (4:Nat) (0:Nat)],
  AObj.box [], AObj.box [AV.ptr (4:Nat) (0:Nat)], AObj.box [AV.t (tI (gI y74 0)), AV.t (tI (gI y74 1)), AV.t (tI (gI y74 2)), AV.t (tI (gI y74 3))]])) none) none) (again78 ([AV.t (tI (vI p72 0))],
  [AObj.row false (oVer p72 0) (1:Nat) (oEs p72 0), AObj.row false (oVer p72 1) (1:Nat) (oEs p72 1), AObj.box [AV.sref (0:Nat) (cVer p72 2 0) (cOff p72 2 0) (cLen p72 2 0)], AObj.row false (oVer p72 3)
  (4:Nat) (oEs p72 3), AObj.box [AV.t (tI (cI p72 4 0)), AV.t (Tree.sl (5:Nat) (cL p72 4 1)), AV.sref (3:Nat) (cVer p72 4 2) (cOff p72 4 2) (cLen p72 4 2), AV.t (Tree.bool (cB p72 4 3)), AV.t (tI (cI
  p72 4 4)), AV.t (tI (cI p72 4 5)), AV.t (tI (cI p72 4 6)), AV.t (tI (cI p72 4 7)), AV.t (tI (cI p72 4 8))], AObj.box [AV.ptr (4:Nat) (0:Nat)], AObj.box [], AObj.box [AV.ptr (4:Nat) (0:Nat)], AObj.box
  [AV.t (tI (gI y74 0)), AV.t (tI (gI y74 1)), AV.t (tI (gI y74 2)), AV.t (tI (gI y74 3))]]))) none) none) none) none) none) none) (cnd (oVer p72 3 = (cVer p49 4 2) + (1:Nat) ∧ ((4:Nat) = (4:Nat) ∨
  (4:Nat) = (0:Nat))) (cnd ((0:Int) ≤ vI p72 0 ∧ vI p72 0 ≤ (((cLen p49 4 2) + (1:Nat):Nat):Int)) (cnd (Int.toNat (vI p72 0) < List.length (oEs p72 3) ∨ Int.toNat (vI p72 0) = (0:Nat)) (cnd (oVer p72 3
  = (cVer p49 4 2) + (1:Nat) ∧ (4:Nat) = (4:Nat)) (cnd ((cVer p49 4 2) + (1:Nat) = (cVer p49 4 2) + (1:Nat) ∧ ((4:Nat) = (4:Nat) ∨ (4:Nat) = (0:Nat))) (cnd ((0:Int) ≤ vI p72 0 ∧ vI p72 0 ≤ ((List.length
  (rowSet (oEs p72 3) ((0:Nat) + (Int.toNat (vI p72 0))) (List.replicate (((cLen p49 4 2) + (1:Nat)) - (Int.toNat (vI p72 0))) [tI (0:Int), tI (0:Int), tI (0:Int), tI (0:Int)])):Nat):Int)) (cnd ((0:Nat)
  < List.length (rowSet (oEs p72 3) ((0:Nat) + (Int.toNat (vI p72 0))) (List.replicate (((cLen p49 4 2) + (1:Nat)) - (Int.toNat (vI p72 0))) [tI (0:Int), tI (0:Int), tI (0:Int), tI (0:Int)])) ∨ (0:Nat)
  = (0:Nat)) (again64 ([], [AObj.row false (oVer p72 0) (1:Nat) (oEs p72 0), AObj.row false (oVer p72 1) (1:Nat) (oEs p72 1), AObj.box [AV.sref (0:Nat) (cVer p72 2 0) (cOff p72 2 0) (cLen p72 2 0)],
  AObj.row false ((cVer p49 4 2) + (1:Nat)) (4:Nat) (rowSet (oEs p72 3) ((0:Nat) + (Int.toNat (vI p72 0))) (List.replicate (((cLen p49 4 2) + (1:Nat)) - (Int.toNat (vI p72 0))) [tI (0:Int), tI (0:Int),
  tI (0:Int), tI (0:Int)])), AObj.box [AV.t (tI (cI p72 4 0)), AV.t (Tree.sl (5:Nat) (cL p72 4 1)), AV.sref (3:Nat) ((cVer p49 4 2) + (1:Nat)) (0:Nat) (Int.toNat (vI p72 0)), AV.t (Tree.bool (cB p72 4
  3)), AV.t (tI (cI p72 4 4)), AV.t (tI (cI p72 4 5)), AV.t (tI (cI p72 4 6)), AV.t (tI (cI p72 4 7)), AV.t (tI (cI p72 4 8))], AObj.box [AV.ptr (4:Nat) (0:Nat)], AObj.box [], AObj.box [AV.ptr (4:Nat)
  (0:Nat)]])) none) none) none) none) (cnd (oVer p72 3 = (cVer p49 4 2) + (1:Nat) ∧ ((4:Nat) = (4:Nat) ∨ (4:Nat) = (0:Nat))) (cnd ((0:Int) ≤ vI p72 0 ∧ vI p72 0 ≤ ((List.length (oEs p72 3):Nat):Int))
  (cnd ((0:Nat) < List.length (oEs p72 3) ∨ (0:Nat) = (0:Nat)) (again64 ([], [AObj.row false (oVer p72 0) (1:Nat) (oEs p72 0), AObj.row false (oVer p72 1) (1:Nat) (oEs p72 1), AObj.box [AV.sref (0:Nat)
  (cVer p72 2 0) (cOff p72 2 0) (cLen p72 2 0)], AObj.row false (oVer p72 3) (4:Nat) (oEs p72 3), AObj.box [AV.t (tI (cI p72 4 0)), AV.t (Tree.sl (5:Nat) (cL p72 4 1)), AV.sref (3:Nat) ((cVer p49 4 2) +
  (1:Nat)) (0:Nat) (Int.toNat (vI p72 0)), AV.t (Tree.bool (cB p72 4 3)), AV.t (tI (cI p72 4 4)), AV.t (tI (cI p72 4 5)), AV.t (tI (cI p72 4 6)), AV.t (tI (cI p72 4 7)), AV.t (tI (cI p72 4 8))],
  AObj.box [AV.ptr (4:Nat) (0:Nat)], AObj.box [], AObj.box [AV.ptr (4:Nat) (0:Nat)]])) none) none) none)) none) none)) none

noncomputable def J13_14 (n : Nat) (again64 : (List AV × Heap) → Option (List Tree)) (p49 : List AV × Heap) (p6 : List AV × Heap) (p65 : List AV × Heap) : Option (List Tree) :=
  cnd (((vI p65 0) == (-1:Int)) = true) (again64 ([], [AObj.row false (oVer p65 0) (1:Nat) (oEs p65 0), AObj.row false (oVer p65 1) (1:Nat) (oEs p65 1), AObj.box [AV.sref (0:Nat) (cVer p65 2 0) (cOff
  p65 2 0) (cLen p65 2 0)], AObj.row false (oVer p65 3) (4:Nat) (oEs p65 3), AObj.box [AV.t (tI (cI p65 4 0)), AV.t (Tree.sl (5:Nat) (cL p65 4 1)), AV.sref (3:Nat) ((cVer p49 4 2) + (1:Nat)) (0:Nat)
  ((cLen p49 4 2) + (1:Nat)), AV.t (Tree.bool (cB p65 4 3)), AV.t (tI (cI p65 4 4)), AV.t (tI (cI p65 4 5)), AV.t (tI (cI p65 4 6)), AV.t (tI (cI p65 4 7)), AV.t (tI (cI p65 4 8))], AObj.box [AV.ptr
  (4:Nat) (0:Nat)], AObj.box [], AObj.box [AV.ptr (4:Nat) (0:Nat)]])) (loopIter (fun (p72 : List AV × Heap) (again73 : _ → Option (List Tree)) => L13_13 n p49 p6 again64 p72 again73) n ([AV.t (tI (vI
  p65 0)), AV.t (tI (w64 ((vI p65 0) + (1:Int))))], [AObj.row false (oVer p65 0) (1:Nat) (oEs p65 0), AObj.row false (oVer p65 1) (1:Nat) (oEs p65 1), AObj.box [AV.sref (0:Nat) (cVer p65 2 0) (cOff p65
  2 0) (cLen p65 2 0)], AObj.row false (oVer p65 3) (4:Nat) (oEs p65 3), AObj.box [AV.t (tI (cI p65 4 0)), AV.t (Tree.sl (5:Nat) (cL p65 4 1)), AV.sref (3:Nat) (cVer p65 4 2) (cOff p65 4 2) (cLen p65 4
  2), AV.t (Tree.bool (cB p65 4 3)), AV.t (tI (cI p65 4 4)), AV.t (tI (cI p65 4 5)), AV.t (tI (cI p65 4 6)), AV.t (tI (cI p65 4 7)), AV.t (tI (cI p65 4 8))], AObj.box [AV.ptr (4:Nat) (0:Nat)], AObj.box
  [], AObj.box [AV.ptr (4:Nat) (0:Nat)]]))

noncomputable def J13_15 (n : Nat) (again62 : (List AV × Heap) → Option (List Tree)) (p63 : List AV × Heap) : Option (List Tree) :=
  again62 ([], [AObj.row false (oVer p63 0) (1:Nat) (oEs p63 0), AObj.row false (oVer p63 1) (1:Nat) (oEs p63 1), AObj.box [AV.sref (0:Nat) (cVer p63 2 0) (cOff p63 2 0) (cLen p63 2 0)], AObj.row false
  (oVer p63 3) (4:Nat) (oEs p63 3), AObj.box [AV.t (tI (cI p63 4 0)), AV.t (Tree.sl (5:Nat) (cL p63 4 1)), AV.sref (3:Nat) (cVer p63 4 2) (cOff p63 4 2) (cLen p63 4 2), AV.t (Tree.bool (cB p63 4 3)),
  AV.t (tI (cI p63 4 4)), AV.t (tI (cI p63 4 5)), AV.t (tI (cI p63 4 6)), AV.t (tI (cI p63 4 7)), AV.t (tI (cI p63 4 8))], AObj.box [AV.ptr (4:Nat) (0:Nat)], AObj.box [], AObj.box [AV.ptr (4:Nat)
  (0:Nat)]])

noncomputable def J13_16 (n : Nat) (again90 : (List AV × Heap) → Option (List Tree)) (p89 : List AV × Heap) (p93 : List AV × Heap) : Option (List Tree) :=
  again90 ([AV.t (tI (w64 ((vI p89 0) + (1:Int))))], [AObj.row false (oVer p93 0) (1:Nat) (oEs p93 0), AObj.row false (oVer p93 1) (1:Nat) (oEs p93 1), AObj.box [AV.sref (0:Nat) (cVer p93 2 0) (cOff p93
  2 0) (cLen p93 2 0)], AObj.row false (oVer p93 3) (4:Nat) (oEs p93 3), AObj.box [AV.t (tI (cI p93 4 0)), AV.t (Tree.sl (5:Nat) (cL p93 4 1)), AV.sref (3:Nat) (cVer p93 4 2) (cOff p93 4 2) (cLen p93 4
  2), AV.t (Tree.bool (cB p93 4 3)), AV.t (tI (cI p93 4 4)), AV.t (tI (cI p93 4 5)), AV.t (tI (cI p93 4 6)), AV.t (tI (cI p93 4 7)), AV.t (tI (cI p93 4 8))], AObj.box [AV.ptr (4:Nat) (0:Nat)], AObj.box
  [], AObj.box [AV.ptr (4:Nat) (0:Nat)], AObj.box [AV.t (tI (cI p93 8 0)), AV.t (tI (cI p93 8 1)), AV.t (tI (cI p93 8 2)), AV.t (tI (cI p93 8 3))], AObj.box [AV.t (tI (cI p93 9 0)), AV.t (tI (cI p93 9
  1)), AV.t (tI (cI p93 9 2)), AV.t (tI (cI p93 9 3))]])

noncomputable def L13_17 (n : Nat) (p80 : List AV × Heap) (again85 : (List AV × Heap) → Option (List Tree)) (p89 : List AV × Heap) (again90 : (List AV × Heap) → Option (List Tree)) : Option (List Tree) :=
  cnd (oVer p89 3 = cVer p80 4 2) (cnd (decide (vI p89 0 < ((cLen p80 4 2:Nat):Int)) = true) (cnd (oVer p89 3 = cVer p80 4 2 ∧ (4:Nat) = (4:Nat) ∧ (0:Int) ≤ vI p89 0 ∧ vI p89 0 < ((cLen p80 4
  2:Nat):Int)) (cnd (oVer p89 3 = cVer p80 4 2) (Option.bind (oEs p89 3)[(cOff p80 4 2) + (Int.toNat (vI p89 0))]? fun y91 => cnd (okI y91 0) (cnd (okI y91 1) (cnd (okI y91 2) (cnd (okI y91 3)
  (Option.bind (apure C n (46:Nat) [tI (gI y91 0), tI (gI y91 1), tI (gI y91 2), tI (gI y91 3), tI (cI p89 9 0), tI (cI p89 9 1), tI (cI p89 9 2), tI (cI p89 9 3)]) fun y92 => cnd (List.length y92 =
  (1:Nat)) (cnd (okI y92 0) (join (fun (p93 : List AV × Heap) => J13_16 n again90 p89 p93) fun (again94 : _ → Option (List Tree)) => cnd (decide (gI y92 0 < (0:Int)) = true) (cnd (oVer p89 3 = cVer p80
  4 2 ∧ (4:Nat) = (4:Nat) ∧ (0:Int) ≤ vI p89 0 ∧ vI p89 0 < ((cLen p80 4 2:Nat):Int)) (cnd (oVer p89 3 = cVer p80 4 2) (Option.bind (oEs p89 3)[(cOff p80 4 2) + (Int.toNat (vI p89 0))]? fun y95 => cnd
  (okI y95 0) (cnd (okI y95 1) (cnd (okI y95 2) (cnd (okI y95 3) (again94 ([], [AObj.row false (oVer p89 0) (1:Nat) (oEs p89 0), AObj.row false (oVer p89 1) (1:Nat) (oEs p89 1), AObj.box [AV.sref
  (0:Nat) (cVer p89 2 0) (cOff p89 2 0) (cLen p89 2 0)], AObj.row false (oVer p89 3) (4:Nat) (oEs p89 3), AObj.box [AV.t (tI (cI p89 4 0)), AV.t (Tree.sl (5:Nat) (cL p89 4 1)), AV.sref (3:Nat) (cVer p89
  4 2) (cOff p89 4 2) (cLen p89 4 2), AV.t (Tree.bool (cB p89 4 3)), AV.t (tI (cI p89 4 4)), AV.t (tI (cI p89 4 5)), AV.t (tI (cI p89 4 6)), AV.t (tI (cI p89 4 7)), AV.t (tI (cI p89 4 8))], AObj.box
  [AV.ptr (4:Nat) (0:Nat)], AObj.box [], AObj.box [AV.ptr (4:Nat) (0:Nat)], AObj.box [AV.t (tI (cI p89 8 0)), AV.t (tI (cI p89 8 1)), AV.t (tI (cI p89 8 2)), AV.t (tI (cI p89 8 3))], AObj.box [AV.t (tI
  (gI y95 0)), AV.t (tI (gI y95 1)), AV.t (tI (gI y95 2)), AV.t (tI (gI y95 3))]])) none) none) none) none) none) none) (again94 ([], [AObj.row false (oVer p89 0) (1:Nat) (oEs p89 0), AObj.row false
  (oVer p89 1) (1:Nat) (oEs p89 1), AObj.box [AV.sref (0:Nat) (cVer p89 2 0) (cOff p89 2 0) (cLen p89 2 0)], AObj.row false (oVer p89 3) (4:Nat) (oEs p89 3), AObj.box [AV.t (tI (cI p89 4 0)), AV.t
  (Tree.sl (5:Nat) (cL p89 4 1)), AV.sref (3:Nat) (cVer p89 4 2) (cOff p89 4 2) (cLen p89 4 2), AV.t (Tree.bool (cB p89 4 3)), AV.t (tI (cI p89 4 4)), AV.t (tI (cI p89 4 5)), AV.t (tI (cI p89 4 6)),
  AV.t (tI (cI p89 4 7)), AV.t (tI (cI p89 4 8))], AObj.box [AV.ptr (4:Nat) (0:Nat)], AObj.box [], AObj.box [AV.ptr (4:Nat) (0:Nat)], AObj.box [AV.t (tI (cI p89 8 0)), AV.t (tI (cI p89 8 1)), AV.t (tI
  (cI p89 8 2)), AV.t (tI (cI p89 8 3))], AObj.box [AV.t (tI (cI p89 9 0)), AV.t (tI (cI p89 9 1)), AV.t (tI (cI p89 9 2)), AV.t (tI (cI p89 9 3))]]))) none) none) none) none) none) none) none) none)
  (again85 ([AV.t (tI (cI p89 9 0)), AV.t (tI (cI p89 9 1)), AV.t (tI (cI p89 9 2)), AV.t (tI (cI p89 9 3))], [AObj.row false (oVer p89 0) (1:Nat) (oEs p89 0), AObj.row false (oVer p89 1) (1:Nat) (oEs
  p89 1), AObj.box [AV.sref (0:Nat) (cVer p89 2 0) (cOff p89 2 0) (cLen p89 2 0)], AObj.row false (oVer p89 3) (4:Nat) (oEs p89 3), AObj.box [AV.t (tI (cI p89 4 0)), AV.t (Tree.sl (5:Nat) (cL p89 4 1)),
  AV.sref (3:Nat) (cVer p89 4 2) (cOff p89 4 2) (cLen p89 4 2), AV.t (Tree.bool (cB p89 4 3)), AV.t (tI (cI p89 4 4)), AV.t (tI (cI p89 4 5)), AV.t (tI (cI p89 4 6)), AV.t (tI (cI p89 4 7)), AV.t (tI
  (cI p89 4 8))], AObj.box [AV.ptr (4:Nat) (0:Nat)], AObj.box [], AObj.box [AV.ptr (4:Nat) (0:Nat)]]))) none

noncomputable def J13_18 (n : Nat) (again83 : (List AV × Heap) → Option (List Tree)) (p6 : List AV × Heap) (p84 : List AV × Heap) : Option (List Tree) :=
  cnd ((true = true ∨ true = false) ∧ oVer p84 3 = cVer p84 4 2 ∧ ((4:Nat) = (4:Nat) ∨ (4:Nat) = (0:Nat))) (Option.bind (apure C n (1000029:Nat) [Tree.sl (4:Nat) (List.take (cLen p84 4 2) (List.drop
  (cOff p84 4 2) (oEs p84 3))), tI (vI p84 0)]) fun y96 => cnd (List.length y96 = (1:Nat) ∧ okL 4 y96 0) (cnd (cI p84 4 0 = (0:Int)) none (again83 ([], [AObj.row false (oVer p84 0) (1:Nat) (oEs p84 0),
  AObj.row false (oVer p84 1) (1:Nat) (oEs p84 1), AObj.box [AV.sref (0:Nat) (cVer p84 2 0) (cOff p84 2 0) (cLen p84 2 0)], AObj.row false ((oVer p84 3) + (1:Nat)) (4:Nat) (gL y96 0), AObj.box [AV.t (tI
  (cI p84 4 0)), AV.t (Tree.sl (5:Nat) (cL p84 4 1)), AV.sref (3:Nat) ((oVer p84 3) + (1:Nat)) (0:Nat) (List.length (gL y96 0)), AV.t (Tree.bool true), AV.t (tI (vI p84 0)), AV.t (tI (vI p84 1)), AV.t
  (tI (vI p84 2)), AV.t (tI (vI p84 3)), AV.t (tI (w64 ((vI p6 0) + (w64 (Int.tdiv (w64 ((w64 ((vI p84 3) + (cI p84 4 0))) - (1:Int))) (cI p84 4 0))))))], AObj.box [AV.ptr (4:Nat) (0:Nat)], AObj.box [],
  AObj.box [AV.ptr (4:Nat) (0:Nat)]]))) none) none

noncomputable def J13_19 (n : Nat) (again25 : (List AV × Heap) → Option (List Tree)) (p82 : List AV × Heap) : Option (List Tree) :=
  again25 ([], [AObj.row false (oVer p82 0) (1:Nat) (oEs p82 0), AObj.row false (oVer p82 1) (1:Nat) (oEs p82 1), AObj.box [AV.sref (0:Nat) (cVer p82 2 0) (cOff p82 2 0) (cLen p82 2 0)], AObj.row false
  (oVer p82 3) (4:Nat) (oEs p82 3), AObj.box [AV.t (tI (cI p82 4 0)), AV.t (Tree.sl (5:Nat) (cL p82 4 1)), AV.sref (3:Nat) (cVer p82 4 2) (cOff p82 4 2) (cLen p82 4 2), AV.t (Tree.bool (cB p82 4 3)),
  AV.t (tI (cI p82 4 4)), AV.t (tI (cI p82 4 5)), AV.t (tI (cI p82 4 6)), AV.t (tI (cI p82 4 7)), AV.t (tI (cI p82 4 8))], AObj.box [AV.ptr (4:Nat) (0:Nat)], AObj.box []])

noncomputable def J13_20 (n : Nat) (again25 : (List AV × Heap) → Option (List Tree)) (p6 : List AV × Heap) (p80 : List AV × Heap) : Option (List Tree) :=
  join (fun (p82 : List AV × Heap) => J13_19 n again25 p82) fun (again83 : _ → Option (List Tree)) => cnd (vB p80 0 = true) (join (fun (p84 : List AV × Heap) => J13_18 n again83 p6 p84) fun (again85 : _
  → Option (List Tree)) => cnd (oVer p80 3 = cVer p80 4 2) (cnd (decide (((cLen p80 4 2:Nat):Int) < (1:Int)) = true) none (cnd (oVer p80 3 = cVer p80 4 2 ∧ (4:Nat) = (4:Nat) ∧ (0:Int) ≤ (0:Int) ∧
  (0:Int) < ((cLen p80 4 2:Nat):Int)) (cnd (oVer p80 3 = cVer p80 4 2) (Option.bind (oEs p80 3)[cOff p80 4 2]? fun y88 => cnd (okI y88 0) (cnd (okI y88 1) (cnd (okI y88 2) (cnd (okI y88 3) (loopIter
  (fun (p89 : List AV × Heap) (again90 : _ → Option (List Tree)) => L13_17 n p80 again85 p89 again90) n ([AV.t (tI (1:Int))], [AObj.row false (oVer p80 0) (1:Nat) (oEs p80 0), AObj.row false (oVer p80
  1) (1:Nat) (oEs p80 1), AObj.box [AV.sref (0:Nat) (cVer p80 2 0) (cOff p80 2 0) (cLen p80 2 0)], AObj.row false (oVer p80 3) (4:Nat) (oEs p80 3), AObj.box [AV.t (tI (cI p80 4 0)), AV.t (Tree.sl
  (5:Nat) (cL p80 4 1)), AV.sref (3:Nat) (cVer p80 4 2) (cOff p80 4 2) (cLen p80 4 2), AV.t (Tree.bool (cB p80 4 3)), AV.t (tI (cI p80 4 4)), AV.t (tI (cI p80 4 5)), AV.t (tI (cI p80 4 6)), AV.t (tI (cI
  p80 4 7)), AV.t (tI (cI p80 4 8))], AObj.box [AV.ptr (4:Nat) (0:Nat)], AObj.box [], AObj.box [AV.ptr (4:Nat) (0:Nat)], AObj.box [AV.t (tI (0:Int)), AV.t (tI (0:Int)), AV.t (tI (0:Int)), AV.t (tI
  (0:Int))], AObj.box [AV.t (tI (gI y88 0)), AV.t (tI (gI y88 1)), AV.t (tI (gI y88 2)), AV.t (tI (gI y88 3))]])) none) none) none) none) none) none)) none) (again83 ([], [AObj.row false (oVer p80 0)
  (1:Nat) (oEs p80 0), AObj.row false (oVer p80 1) (1:Nat) (oEs p80 1), AObj.box [AV.sref (0:Nat) (cVer p80 2 0) (cOff p80 2 0) (cLen p80 2 0)], AObj.row false (oVer p80 3) (4:Nat) (oEs p80 3), AObj.box
  [AV.t (tI (cI p80 4 0)), AV.t (Tree.sl (5:Nat) (cL p80 4 1)), AV.sref (3:Nat) (cVer p80 4 2) (cOff p80 4 2) (cLen p80 4 2), AV.t (Tree.bool (cB p80 4 3)), AV.t (tI (cI p80 4 4)), AV.t (tI (cI p80 4
  5)), AV.t (tI (cI p80 4 6)), AV.t (tI (cI p80 4 7)), AV.t (tI (cI p80 4 8))], AObj.box [AV.ptr (4:Nat) (0:Nat)], AObj.box [], AObj.box [AV.ptr (4:Nat) (0:Nat)]]))

noncomputable def J13_21 (n : Nat) (again25 : (List AV × Heap) → Option (List Tree)) (p6 : List AV × Heap) (p61 : List AV × Heap) : Option (List Tree) :=
  join (fun (p80 : List AV × Heap) => J13_20 n again25 p6 p80) fun (again81 : _ → Option (List Tree)) => cnd ((!(cB p61 4 3)) = true) (cnd (oVer p61 3 = cVer p61 4 2) (again81 ([AV.t (Tree.bool (decide
  (((cLen p61 4 2:Nat):Int) > (0:Int))))], [AObj.row false (oVer p61 0) (1:Nat) (oEs p61 0), AObj.row false (oVer p61 1) (1:Nat) (oEs p61 1), AObj.box [AV.sref (0:Nat) (cVer p61 2 0) (cOff p61 2 0)
  (cLen p61 2 0)], AObj.row false (oVer p61 3) (4:Nat) (oEs p61 3), AObj.box [AV.t (tI (cI p61 4 0)), AV.t (Tree.sl (5:Nat) (cL p61 4 1)), AV.sref (3:Nat) (cVer p61 4 2) (cOff p61 4 2) (cLen p61 4 2),
  AV.t (Tree.bool (cB p61 4 3)), AV.t (tI (cI p61 4 4)), AV.t (tI (cI p61 4 5)), AV.t (tI (cI p61 4 6)), AV.t (tI (cI p61 4 7)), AV.t (tI (cI p61 4 8))], AObj.box [AV.ptr (4:Nat) (0:Nat)], AObj.box [],
  AObj.box [AV.ptr (4:Nat) (0:Nat)]])) none) (again81 ([AV.t (Tree.bool false)], [AObj.row false (oVer p61 0) (1:Nat) (oEs p61 0), AObj.row false (oVer p61 1) (1:Nat) (oEs p61 1), AObj.box [AV.sref
  (0:Nat) (cVer p61 2 0) (cOff p61 2 0) (cLen p61 2 0)], AObj.row false (oVer p61 3) (4:Nat) (oEs p61 3), AObj.box [AV.t (tI (cI p61 4 0)), AV.t (Tree.sl (5:Nat) (cL p61 4 1)), AV.sref (3:Nat) (cVer p61
  4 2) (cOff p61 4 2) (cLen p61 4 2), AV.t (Tree.bool (cB p61 4 3)), AV.t (tI (cI p61 4 4)), AV.t (tI (cI p61 4 5)), AV.t (tI (cI p61 4 6)), AV.t (tI (cI p61 4 7)), AV.t (tI (cI p61 4 8))], AObj.box
  [AV.ptr (4:Nat) (0:Nat)], AObj.box [], AObj.box [AV.ptr (4:Nat) (0:Nat)]]))

noncomputable def J13_22 (n : Nat) (again25 : (List AV × Heap) → Option (List Tree)) (p6 : List AV × Heap) (p49 : List AV × Heap) : Option (List Tree) :=
  join (fun (p61 : List AV × Heap) => J13_21 n again25 p6 p61) fun (again62 : _ → Option (List Tree)) => cnd (vB p49 0 = true) (cnd (oVer p49 3 = cVer p49 4 2 ∧ ((4:Nat) = (4:Nat) ∨ (4:Nat) = (0:Nat)) ∧
  (cOff p49 4 2) + (cLen p49 4 2) ≤ List.length (oEs p49 3) ∧ (cLen p49 4 2) + (1:Nat) ≤ (1073741824:Nat)) (join (fun (p63 : List AV × Heap) => J13_15 n again62 p63) fun (again64 : _ → Option (List
  Tree)) => join (fun (p65 : List AV × Heap) => J13_14 n again64 p49 p6 p65) fun (again66 : _ → Option (List Tree)) => cnd ((cVer p49 4 2) + (1:Nat) = (cVer p49 4 2) + (1:Nat)) (loopIter (fun (p67 :
  List AV × Heap) (again68 : _ → Option (List Tree)) => L13_11 n p49 p6 again66 p67 again68) n ([AV.t (tI (0:Int))], [AObj.row false (oVer p49 0) (1:Nat) (oEs p49 0), AObj.row false (oVer p49 1) (1:Nat)
  (oEs p49 1), AObj.box [AV.sref (0:Nat) (cVer p49 2 0) (cOff p49 2 0) (cLen p49 2 0)], AObj.row false ((cVer p49 4 2) + (1:Nat)) (4:Nat) ((List.take (cLen p49 4 2) (List.drop (cOff p49 4 2) (oEs p49
  3))) ++ [[tI (cI p49 4 4), tI (cI p49 4 5), tI (cI p49 4 6), tI (cI p49 4 7)]]), AObj.box [AV.t (tI (cI p49 4 0)), AV.t (Tree.sl (5:Nat) (cL p49 4 1)), AV.sref (3:Nat) ((cVer p49 4 2) + (1:Nat))
  (0:Nat) ((cLen p49 4 2) + (1:Nat)), AV.t (Tree.bool false), AV.t (tI (cI p49 4 4)), AV.t (tI (cI p49 4 5)), AV.t (tI (cI p49 4 6)), AV.t (tI (cI p49 4 7)), AV.t (tI (cI p49 4 8))], AObj.box [AV.ptr
  (4:Nat) (0:Nat)], AObj.box [], AObj.box [AV.ptr (4:Nat) (0:Nat)]])) none) none) (again62 ([], [AObj.row false (oVer p49 0) (1:Nat) (oEs p49 0), AObj.row false (oVer p49 1) (1:Nat) (oEs p49 1),
  AObj.box [AV.sref (0:Nat) (cVer p49 2 0) (cOff p49 2 0) (cLen p49 2 0)], AObj.row false (oVer p49 3) (4:Nat) (oEs p49 3), AObj.box [AV.t (tI (cI p49 4 0)), AV.t (Tree.sl (5:Nat) (cL p49 4 1)), AV.sref
  (3:Nat) (cVer p49 4 2) (cOff p49 4 2) (cLen p49 4 2), AV.t (Tree.bool (cB p49 4 3)), AV.t (tI (cI p49 4 4)), AV.t (tI (cI p49 4 5)), AV.t (tI (cI p49 4 6)), AV.t (tI (cI p49 4 7)), AV.t (tI (cI p49 4
  8))], AObj.box [AV.ptr (4:Nat) (0:Nat)], AObj.box [], AObj.box [AV.ptr (4:Nat) (0:Nat)]]))

noncomputable def J13_23 (n : Nat) (again25 : (List AV × Heap) → Option (List Tree)) (p6 : List AV × Heap) (p32 : List AV × Heap) : Option (List Tree) :=
  join (fun (p49 : List AV × Heap) => J13_22 n again25 p6 p49) fun (again50 : _ → Option (List Tree)) => cnd (cB p32 4 3 = true) (join (fun (p51 : List AV × Heap) => J13_10 n again50 p51) fun (again52 :
  _ → Option (List Tree)) => join (fun (p53 : List AV × Heap) => J13_9 n again52 p53) fun (again54 : _ → Option (List Tree)) => cnd (oVer p32 3 = cVer p32 4 2) (loopIter (fun (p55 : List AV × Heap)
  (again56 : _ → Option (List Tree)) => L13_8 n p32 again54 p55 again56) n ([AV.t (tI (0:Int))], [AObj.row false (oVer p32 0) (1:Nat) (oEs p32 0), AObj.row false (oVer p32 1) (1:Nat) (oEs p32 1),
  AObj.box [AV.sref (0:Nat) (cVer p32 2 0) (cOff p32 2 0) (cLen p32 2 0)], AObj.row false (oVer p32 3) (4:Nat) (oEs p32 3), AObj.box [AV.t (tI (cI p32 4 0)), AV.t (Tree.sl (5:Nat) (cL p32 4 1)), AV.sref
  (3:Nat) (cVer p32 4 2) (cOff p32 4 2) (cLen p32 4 2), AV.t (Tree.bool (cB p32 4 3)), AV.t (tI (cI p32 4 4)), AV.t (tI (cI p32 4 5)), AV.t (tI (cI p32 4 6)), AV.t (tI (cI p32 4 7)), AV.t (tI (cI p32 4
  8))], AObj.box [AV.ptr (4:Nat) (0:Nat)], AObj.box [], AObj.box [AV.ptr (4:Nat) (0:Nat)]])) none) (again50 ([AV.t (Tree.bool false)], [AObj.row false (oVer p32 0) (1:Nat) (oEs p32 0), AObj.row false
  (oVer p32 1) (1:Nat) (oEs p32 1), AObj.box [AV.sref (0:Nat) (cVer p32 2 0) (cOff p32 2 0) (cLen p32 2 0)], AObj.row false (oVer p32 3) (4:Nat) (oEs p32 3), AObj.box [AV.t (tI (cI p32 4 0)), AV.t
  (Tree.sl (5:Nat) (cL p32 4 1)), AV.sref (3:Nat) (cVer p32 4 2) (cOff p32 4 2) (cLen p32 4 2), AV.t (Tree.bool (cB p32 4 3)), AV.t (tI (cI p32 4 4)), AV.t (tI (cI p32 4 5)), AV.t (tI (cI p32 4 6)),
  AV.t (tI (cI p32 4 7)), AV.t (tI (cI p32 4 8))], AObj.box [AV.ptr (4:Nat) (0:Nat)], AObj.box [], AObj.box [AV.ptr (4:Nat) (0:Nat)]]))

noncomputable def J13_24 (n : Nat) (again27 : (List AV × Heap) → Option (List Tree)) (again25 : (List AV × Heap) → Option (List Tree)) (p6 : List AV × Heap) (p28 : List AV × Heap) : Option (List Tree) :=
  cnd (vB p28 0 = true) (Option.bind (cL p28 4 1)[(0:Nat)]? fun y31 => cnd (okI y31 1) (cnd (okI y31 2) (cnd (okI y31 3) (cnd (okI y31 4) (cnd (oVer p28 3 = cVer p28 4 2 ∧ ((4:Nat) = (4:Nat) ∨ (4:Nat) =
  (0:Nat)) ∧ (cOff p28 4 2) + (cLen p28 4 2) ≤ List.length (oEs p28 3) ∧ (cLen p28 4 2) + (1:Nat) ≤ (1073741824:Nat)) (cnd ((0:Int) ≤ (1:Int) ∧ (1:Int) ≤ ((List.length (cL p28 4 1):Nat):Int)) (again27
  ([], [AObj.row false (oVer p28 0) (1:Nat) (oEs p28 0), AObj.row false (oVer p28 1) (1:Nat) (oEs p28 1), AObj.box [AV.sref (0:Nat) (cVer p28 2 0) (cOff p28 2 0) (cLen p28 2 0)], AObj.row false ((cVer
  p28 4 2) + (1:Nat)) (4:Nat) ((List.take (cLen p28 4 2) (List.drop (cOff p28 4 2) (oEs p28 3))) ++ [[tI (gI y31 1), tI (gI y31 2), tI (gI y31 3), tI (gI y31 4)]]), AObj.box [AV.t (tI (cI p28 4 0)),
  AV.t (Tree.sl (5:Nat) (List.drop (1:Nat) (List.take (List.length (cL p28 4 1)) (cL p28 4 1)))), AV.sref (3:Nat) ((cVer p28 4 2) + (1:Nat)) (0:Nat) ((cLen p28 4 2) + (1:Nat)), AV.t (Tree.bool (cB p28 4
  3)), AV.t (tI (cI p28 4 4)), AV.t (tI (cI p28 4 5)), AV.t (tI (cI p28 4 6)), AV.t (tI (cI p28 4 7)), AV.t (tI (cI p28 4 8))], AObj.box [AV.ptr (4:Nat) (0:Nat)], AObj.box [], AObj.box [AV.ptr (4:Nat)
  (0:Nat)]])) none) none) none) none) none) none) (join (fun (p32 : List AV × Heap) => J13_23 n again25 p6 p32) fun (again33 : _ → Option (List Tree)) => join (fun (p34 : List AV × Heap) => J13_7 n
  again33 p28 p6 p34) fun (again35 : _ → Option (List Tree)) => cnd (oVer p28 3 = cVer p28 4 2) (loopIter (fun (p36 : List AV × Heap) (again37 : _ → Option (List Tree)) => L13_4 n p28 p6 again35 p36
  again37) n ([AV.t (tI (0:Int))], [AObj.row false (oVer p28 0) (1:Nat) (oEs p28 0), AObj.row false (oVer p28 1) (1:Nat) (oEs p28 1), AObj.box [AV.sref (0:Nat) (cVer p28 2 0) (cOff p28 2 0) (cLen p28 2
  0)], AObj.row false (oVer p28 3) (4:Nat) (oEs p28 3), AObj.box [AV.t (tI (cI p28 4 0)), AV.t (Tree.sl (5:Nat) (cL p28 4 1)), AV.sref (3:Nat) (cVer p28 4 2) (cOff p28 4 2) (cLen p28 4 2), AV.t
  (Tree.bool (cB p28 4 3)), AV.t (tI (cI p28 4 4)), AV.t (tI (cI p28 4 5)), AV.t (tI (cI p28 4 6)), AV.t (tI (cI p28 4 7)), AV.t (tI (cI p28 4 8))], AObj.box [AV.ptr (4:Nat) (0:Nat)], AObj.box [],
  AObj.box [AV.ptr (4:Nat) (0:Nat)]])) none)

noncomputable def L13_25 (n : Nat) (again25 : (List AV × Heap) → Option (List Tree)) (p6 : List AV × Heap) (p26 : List AV × Heap) (again27 : (List AV × Heap) → Option (List Tree)) : Option (List Tree) :=
  join (fun (p28 : List AV × Heap) => J13_24 n again27 again25 p6 p28) fun (again29 : _ → Option (List Tree)) => cnd (decide (((List.length (cL p26 4 1):Nat):Int) > (0:Int)) = true) (Option.bind (cL p26
  4 1)[(0:Nat)]? fun y30 => cnd (okI y30 0) (again29 ([AV.t (Tree.bool ((gI y30 0) == (vI p6 0)))], [AObj.row false (oVer p26 0) (1:Nat) (oEs p26 0), AObj.row false (oVer p26 1) (1:Nat) (oEs p26 1),
  AObj.box [AV.sref (0:Nat) (cVer p26 2 0) (cOff p26 2 0) (cLen p26 2 0)], AObj.row false (oVer p26 3) (4:Nat) (oEs p26 3), AObj.box [AV.t (tI (cI p26 4 0)), AV.t (Tree.sl (5:Nat) (cL p26 4 1)), AV.sref
  (3:Nat) (cVer p26 4 2) (cOff p26 4 2) (cLen p26 4 2), AV.t (Tree.bool (cB p26 4 3)), AV.t (tI (cI p26 4 4)), AV.t (tI (cI p26 4 5)), AV.t (tI (cI p26 4 6)), AV.t (tI (cI p26 4 7)), AV.t (tI (cI p26 4
  8))], AObj.box [AV.ptr (4:Nat) (0:Nat)], AObj.box [], AObj.box [AV.ptr (4:Nat) (0:Nat)]])) none) (again29 ([AV.t (Tree.bool false)], [AObj.row false (oVer p26 0) (1:Nat) (oEs p26 0), AObj.row false
  (oVer p26 1) (1:Nat) (oEs p26 1), AObj.box [AV.sref (0:Nat) (cVer p26 2 0) (cOff p26 2 0) (cLen p26 2 0)], AObj.row false (oVer p26 3) (4:Nat) (oEs p26 3), AObj.box [AV.t (tI (cI p26 4 0)), AV.t
  (Tree.sl (5:Nat) (cL p26 4 1)), AV.sref (3:Nat) (cVer p26 4 2) (cOff p26 4 2) (cLen p26 4 2), AV.t (Tree.bool (cB p26 4 3)), AV.t (tI (cI p26 4 4)), AV.t (tI (cI p26 4 5)), AV.t (tI (cI p26 4 6)),
  AV.t (tI (cI p26 4 7)), AV.t (tI (cI p26 4 8))], AObj.box [AV.ptr (4:Nat) (0:Nat)], AObj.box [], AObj.box [AV.ptr (4:Nat) (0:Nat)]]))

noncomputable def J13_26 (n : Nat) (again5 : (List AV × Heap) → Option (List Tree)) (p24 : List AV × Heap) : Option (List Tree) :=
  again5 ([], [AObj.row false (oVer p24 0) (1:Nat) (oEs p24 0), AObj.row false (oVer p24 1) (1:Nat) (oEs p24 1), AObj.box [AV.sref (0:Nat) (cVer p24 2 0) (cOff p24 2 0) (cLen p24 2 0)], AObj.row false
  (oVer p24 3) (4:Nat) (oEs p24 3), AObj.box [AV.t (tI (cI p24 4 0)), AV.t (Tree.sl (5:Nat) (cL p24 4 1)), AV.sref (3:Nat) (cVer p24 4 2) (cOff p24 4 2) (cLen p24 4 2), AV.t (Tree.bool (cB p24 4 3)),
  AV.t (tI (cI p24 4 4)), AV.t (tI (cI p24 4 5)), AV.t (tI (cI p24 4 6)), AV.t (tI (cI p24 4 7)), AV.t (tI (cI p24 4 8))], AObj.box [AV.ptr (4:Nat) (0:Nat)], AObj.box []])

noncomputable def J13_27 (n : Nat) (again5 : (List AV × Heap) → Option (List Tree)) (p6 : List AV × Heap) (p14 : List AV × Heap) : Option (List Tree) :=
  join (fun (p24 : List AV × Heap) => J13_26 n again5 p24) fun (again25 : _ → Option (List Tree)) => loopIter (fun (p26 : List AV × Heap) (again27 : _ → Option (List Tree)) => L13_25 n again25 p6 p26
  again27) n ([], [AObj.row false (oVer p14 0) (1:Nat) (oEs p14 0), AObj.row false (oVer p14 1) (1:Nat) (oEs p14 1), AObj.box [AV.sref (0:Nat) (cVer p14 2 0) (cOff p14 2 0) (cLen p14 2 0)], AObj.row
  false (oVer p14 3) (4:Nat) (oEs p14 3), AObj.box [AV.t (tI (cI p14 4 0)), AV.t (Tree.sl (5:Nat) (cL p14 4 1)), AV.sref (3:Nat) (cVer p14 4 2) (cOff p14 4 2) (cLen p14 4 2), AV.t (Tree.bool (cB p14 4
  3)), AV.t (tI (cI p14 4 4)), AV.t (tI (cI p14 4 5)), AV.t (tI (cI p14 4 6)), AV.t (tI (cI p14 4 7)), AV.t (tI (cI p14 4 8))], AObj.box [AV.ptr (4:Nat) (0:Nat)], AObj.box [], AObj.box [AV.ptr (4:Nat)
  (0:Nat)]])

noncomputable def J13_28 (n : Nat) (again5 : (List AV × Heap) → Option (List Tree)) (p6 : List AV × Heap) (a0 : List (List Tree)) (p12 : List AV × Heap) : Option (List Tree) :=
  join (fun (p14 : List AV × Heap) => J13_27 n again5 p6 p14) fun (again15 : _ → Option (List Tree)) => cnd (vB p12 0 = true) (join (fun (p16 : List AV × Heap) => J13_3 n again15 p6 p16) fun (again17 :
  _ → Option (List Tree)) => loopIter (fun (p18 : List AV × Heap) (again19 : _ → Option (List Tree)) => L13_2 n a0 p12 again17 p18 again19) n ([AV.t (tI (0:Int))], [AObj.row false (oVer p12 0) (1:Nat)
  (oEs p12 0), AObj.row false (oVer p12 1) (1:Nat) (oEs p12 1), AObj.box [AV.sref (0:Nat) (cVer p12 2 0) (cOff p12 2 0) (cLen p12 2 0)], AObj.row false (oVer p12 3) (4:Nat) (oEs p12 3), AObj.box [AV.t
  (tI (cI p12 4 0)), AV.t (Tree.sl (5:Nat) (cL p12 4 1)), AV.sref (3:Nat) (cVer p12 4 2) (cOff p12 4 2) (cLen p12 4 2), AV.t (Tree.bool false), AV.t (tI (cI p12 4 4)), AV.t (tI (cI p12 4 5)), AV.t (tI
  (cI p12 4 6)), AV.t (tI (cI p12 4 7)), AV.t (tI (cI p12 4 8))], AObj.box [AV.ptr (4:Nat) (0:Nat)], AObj.box [], AObj.box []])) (again15 ([], [AObj.row false (oVer p12 0) (1:Nat) (oEs p12 0), AObj.row
  false (oVer p12 1) (1:Nat) (oEs p12 1), AObj.box [AV.sref (0:Nat) (cVer p12 2 0) (cOff p12 2 0) (cLen p12 2 0)], AObj.row false (oVer p12 3) (4:Nat) (oEs p12 3), AObj.box [AV.t (tI (cI p12 4 0)), AV.t
  (Tree.sl (5:Nat) (cL p12 4 1)), AV.sref (3:Nat) (cVer p12 4 2) (cOff p12 4 2) (cLen p12 4 2), AV.t (Tree.bool (cB p12 4 3)), AV.t (tI (cI p12 4 4)), AV.t (tI (cI p12 4 5)), AV.t (tI (cI p12 4 6)),
  AV.t (tI (cI p12 4 7)), AV.t (tI (cI p12 4 8))], AObj.box [AV.ptr (4:Nat) (0:Nat)], AObj.box []]))

noncomputable def J13_29 (n : Nat) (again5 : (List AV × Heap) → Option (List Tree)) (a0 : List (List Tree)) (p6 : List AV × Heap) : Option (List Tree) :=
  cnd ((!(vB p6 1)) = true) (cnd ((false = true ∨ false = false) ∧ oVer p6 0 = cVer p6 2 0 ∧ ((1:Nat) = (1:Nat) ∨ (1:Nat) = (0:Nat))) (some [Tree.sl (1:Nat) (List.take (cLen p6 2 0) (List.drop (cOff p6
  2 0) (oEs p6 0))), tI (0:Int)]) none) (join (fun (p12 : List AV × Heap) => J13_28 n again5 p6 a0 p12) fun (again13 : _ → Option (List Tree)) => cnd (cB p6 4 3 = true) (again13 ([AV.t (Tree.bool ((cI
  p6 4 8) == (vI p6 0)))], [AObj.row false (oVer p6 0) (1:Nat) (oEs p6 0), AObj.row false (oVer p6 1) (1:Nat) (oEs p6 1), AObj.box [AV.sref (0:Nat) (cVer p6 2 0) (cOff p6 2 0) (cLen p6 2 0)], AObj.row
  false (oVer p6 3) (4:Nat) (oEs p6 3), AObj.box [AV.t (tI (cI p6 4 0)), AV.t (Tree.sl (5:Nat) (cL p6 4 1)), AV.sref (3:Nat) (cVer p6 4 2) (cOff p6 4 2) (cLen p6 4 2), AV.t (Tree.bool (cB p6 4 3)), AV.t
  (tI (cI p6 4 4)), AV.t (tI (cI p6 4 5)), AV.t (tI (cI p6 4 6)), AV.t (tI (cI p6 4 7)), AV.t (tI (cI p6 4 8))], AObj.box [AV.ptr (4:Nat) (0:Nat)], AObj.box []])) (again13 ([AV.t (Tree.bool false)],
  [AObj.row false (oVer p6 0) (1:Nat) (oEs p6 0), AObj.row false (oVer p6 1) (1:Nat) (oEs p6 1), AObj.box [AV.sref (0:Nat) (cVer p6 2 0) (cOff p6 2 0) (cLen p6 2 0)], AObj.row false (oVer p6 3) (4:Nat)
  (oEs p6 3), AObj.box [AV.t (tI (cI p6 4 0)), AV.t (Tree.sl (5:Nat) (cL p6 4 1)), AV.sref (3:Nat) (cVer p6 4 2) (cOff p6 4 2) (cLen p6 4 2), AV.t (Tree.bool (cB p6 4 3)), AV.t (tI (cI p6 4 4)), AV.t
  (tI (cI p6 4 5)), AV.t (tI (cI p6 4 6)), AV.t (tI (cI p6 4 7)), AV.t (tI (cI p6 4 8))], AObj.box [AV.ptr (4:Nat) (0:Nat)], AObj.box []])))

noncomputable def L13_30 (n : Nat) (a0 : List (List Tree)) (p4 : List AV × Heap) (again5 : (List AV × Heap) → Option (List Tree)) : Option (List Tree) :=
  join (fun (p6 : List AV × Heap) => J13_29 n again5 a0 p6) fun (again7 : _ → Option (List Tree)) => join (fun (p8 : List AV × Heap) => J13_1 n again7 p8) fun (again9 : _ → Option (List Tree)) => cnd
  (cB p4 4 3 = true) (cnd ((((List.length (cL p4 4 1):Nat):Int) == (0:Int)) = true) (again9 ([AV.t (Tree.bool true)], [AObj.row false (oVer p4 0) (1:Nat) (oEs p4 0), AObj.row false (oVer p4 1) (1:Nat)
  (oEs p4 1), AObj.box [AV.sref (0:Nat) (cVer p4 2 0) (cOff p4 2 0) (cLen p4 2 0)], AObj.row false (oVer p4 3) (4:Nat) (oEs p4 3), AObj.box [AV.t (tI (cI p4 4 0)), AV.t (Tree.sl (5:Nat) (cL p4 4 1)),
  AV.sref (3:Nat) (cVer p4 4 2) (cOff p4 4 2) (cLen p4 4 2), AV.t (Tree.bool (cB p4 4 3)), AV.t (tI (cI p4 4 4)), AV.t (tI (cI p4 4 5)), AV.t (tI (cI p4 4 6)), AV.t (tI (cI p4 4 7)), AV.t (tI (cI p4 4
  8))], AObj.box [AV.ptr (4:Nat) (0:Nat)], AObj.box []])) (Option.bind (cL p4 4 1)[(0:Nat)]? fun y10 => cnd (okI y10 0) (again9 ([AV.t (Tree.bool (decide (cI p4 4 8 ≤ gI y10 0)))], [AObj.row false (oVer
  p4 0) (1:Nat) (oEs p4 0), AObj.row false (oVer p4 1) (1:Nat) (oEs p4 1), AObj.box [AV.sref (0:Nat) (cVer p4 2 0) (cOff p4 2 0) (cLen p4 2 0)], AObj.row false (oVer p4 3) (4:Nat) (oEs p4 3), AObj.box
  [AV.t (tI (cI p4 4 0)), AV.t (Tree.sl (5:Nat) (cL p4 4 1)), AV.sref (3:Nat) (cVer p4 4 2) (cOff p4 4 2) (cLen p4 4 2), AV.t (Tree.bool (cB p4 4 3)), AV.t (tI (cI p4 4 4)), AV.t (tI (cI p4 4 5)), AV.t
  (tI (cI p4 4 6)), AV.t (tI (cI p4 4 7)), AV.t (tI (cI p4 4 8))], AObj.box [AV.ptr (4:Nat) (0:Nat)], AObj.box []])) none)) (again9 ([AV.t (Tree.bool false)], [AObj.row false (oVer p4 0) (1:Nat) (oEs p4
  0), AObj.row false (oVer p4 1) (1:Nat) (oEs p4 1), AObj.box [AV.sref (0:Nat) (cVer p4 2 0) (cOff p4 2 0) (cLen p4 2 0)], AObj.row false (oVer p4 3) (4:Nat) (oEs p4 3), AObj.box [AV.t (tI (cI p4 4 0)),
  AV.t (Tree.sl (5:Nat) (cL p4 4 1)), AV.sref (3:Nat) (cVer p4 4 2) (cOff p4 4 2) (cLen p4 4 2), AV.t (Tree.bool (cB p4 4 3)), AV.t (tI (cI p4 4 4)), AV.t (tI (cI p4 4 5)), AV.t (tI (cI p4 4 6)), AV.t
  (tI (cI p4 4 7)), AV.t (tI (cI p4 4 8))], AObj.box [AV.ptr (4:Nat) (0:Nat)], AObj.box []]))
theorem e13 (n : Nat) (a0 : List (List Tree)) (a1 : Int) : apure C (n + 1) 13 [Tree.sl (5:Nat) a0, tI a1] =
  Option.bind (apure C n (36:Nat) [Tree.sl (5:Nat) a0, tI a1]) fun y2 => cnd (List.length y2 = (1:Nat)) (cnd (okI y2 0) (cnd (((gI y2 0) != (0:Int)) = true) (some [Tree.sl (1:Nat) [], tI (gI y2 0)])
  (Option.bind (apure C n (1000037:Nat) [Tree.sl (1:Nat) [[tI (-1:Int)]], tI ((List.length a0:Nat):Int)]) fun y3 => cnd (List.length y3 = (1:Nat) ∧ okL 1 y3 0) (loopIter (fun (p4 : List AV × Heap)
  (again5 : _ → Option (List Tree)) => L13_30 n a0 p4 again5) n ([], [AObj.row false (0:Nat) (1:Nat) (gL y3 0), AObj.row false (0:Nat) (1:Nat) [], AObj.box [AV.sref (0:Nat) (0:Nat) (0:Nat) (List.length
  (gL y3 0))], AObj.row false (0:Nat) (4:Nat) [], AObj.box [AV.t (tI a1), AV.t (Tree.sl (5:Nat) a0), AV.sref (3:Nat) (0:Nat) (0:Nat) (0:Nat), AV.t (Tree.bool false), AV.t (tI (0:Int)), AV.t (tI
  (0:Int)), AV.t (tI (0:Int)), AV.t (tI (0:Int)), AV.t (tI (0:Int))], AObj.box [AV.ptr (4:Nat) (0:Nat)], AObj.box []])) none)) none) none := by kernel_rfl

noncomputable def L14_1 (n : Nat) (a0 : List (List Tree)) (p5 : List AV × Heap) (p14 : List AV × Heap) (again20 : (List AV × Heap) → Option (List Tree)) (p21 : List AV × Heap) (again22 : (List AV × Heap) → Option (List Tree)) : Option (List Tree) :=
  cnd (decide (vI p21 0 < ((List.length a0:Nat):Int)) = true) (cnd ((5:Nat) = (5:Nat) ∧ (0:Int) ≤ vI p21 0) (Option.bind a0[Int.toNat (vI p21 0)]? fun y23 => cnd (okI y23 1) (cnd (((gI y23 1) == (cI p21
  1 0)) = true) (cnd (oVer p21 0 = sVer p5 0 ∧ (1:Nat) = (1:Nat) ∧ (0:Int) ≤ vI p21 0 ∧ vI p21 0 < ((sLen p5 0:Nat):Int)) (cnd (oVer p21 0 = sVer p5 0 ∧ (1:Nat) ≤ (1:Nat)) (Option.bind (oEs p21 0)[(sOff
  p5 0) + (Int.toNat (vI p21 0))]? fun y26 => again22 ([AV.t (tI (w64 ((vI p21 0) + (1:Int))))], [AObj.row false (sVer p5 0) (1:Nat) (List.set (oEs p21 0) ((sOff p5 0) + (Int.toNat (vI p21 0))) ([tI (vI
  p14 0)] ++ List.drop (1:Nat) y26)), AObj.box [AV.t (tI (cI p21 1 0)), AV.t (tI (cI p21 1 1)), AV.t (tI (cI p21 1 2)), AV.t (tI (cI p21 1 3))]])) none) none) (again22 ([AV.t (tI (w64 ((vI p21 0) +
  (1:Int))))], [AObj.row false (oVer p21 0) (1:Nat) (oEs p21 0), AObj.box [AV.t (tI (cI p21 1 0)), AV.t (tI (cI p21 1 1)), AV.t (tI (cI p21 1 2)), AV.t (tI (cI p21 1 3))]]))) none) none) (again20 ([AV.t
  (Tree.bool false)], [AObj.row false (oVer p21 0) (1:Nat) (oEs p21 0), AObj.box [AV.t (tI (cI p21 1 0)), AV.t (tI (cI p21 1 1)), AV.t (tI (cI p21 1 2)), AV.t (tI (cI p21 1 3))]]))

noncomputable def J14_2 (n : Nat) (p39 : List AV × Heap) (a1 : Int) (again8 : (List AV × Heap) → Option (List Tree)) (p27 : List AV × Heap) (p14 : List AV × Heap) (p7 : List AV × Heap) (p43 : List AV × Heap) : Option (List Tree) :=
  cnd (vB p43 0 = true) (Option.bind (vL p39 0)[(0:Nat)]? fun y47 => cnd (okI y47 0) (cnd (okI y47 1) (cnd (okI y47 2) (cnd (okI y47 3) (cnd ((0:Int) ≤ (1:Int) ∧ (1:Int) ≤ ((List.length (vL p39
  0):Nat):Int)) (cnd (a1 = (0:Int)) none (again8 ([AV.t (Tree.bool true), AV.t (Tree.sl (4:Nat) (List.drop (1:Nat) (List.take (List.length (vL p39 0)) (vL p39 0)))), AV.t (tI (vI p27 1)), AV.t (tI (w64
  ((vI p14 0) + (w64 (Int.tdiv (w64 ((w64 ((gI y47 3) + a1)) - (1:Int))) a1)))))], [AObj.row false (oVer p43 0) (1:Nat) (oEs p43 0), AObj.box [AV.t (tI (gI y47 0)), AV.t (tI (gI y47 1)), AV.t (tI (gI
  y47 2)), AV.t (tI (gI y47 3))]]))) none) none) none) none) none) (again8 ([AV.t (Tree.bool (vB p39 1)), AV.t (Tree.sl (4:Nat) (vL p39 0)), AV.t (tI (vI p27 1)), AV.t (tI (vI p7 3))], [AObj.row false
  (oVer p43 0) (1:Nat) (oEs p43 0), AObj.box [AV.t (tI (cI p43 1 0)), AV.t (tI (cI p43 1 1)), AV.t (tI (cI p43 1 2)), AV.t (tI (cI p43 1 3))]]))

noncomputable def J14_3 (n : Nat) (a1 : Int) (again8 : (List AV × Heap) → Option (List Tree)) (p27 : List AV × Heap) (p14 : List AV × Heap) (p7 : List AV × Heap) (p39 : List AV × Heap) : Option (List Tree) :=
  join (fun (p43 : List AV × Heap) => J14_2 n p39 a1 again8 p27 p14 p7 p43) fun (again44 : _ → Option (List Tree)) => cnd ((!(vB p39 1)) = true) (again44 ([AV.t (Tree.bool (decide (((List.length (vL p39
  0):Nat):Int) > (0:Int))))], [AObj.row false (oVer p39 0) (1:Nat) (oEs p39 0), AObj.box [AV.t (tI (cI p39 1 0)), AV.t (tI (cI p39 1 1)), AV.t (tI (cI p39 1 2)), AV.t (tI (cI p39 1 3))]])) (again44
  ([AV.t (Tree.bool false)], [AObj.row false (oVer p39 0) (1:Nat) (oEs p39 0), AObj.box [AV.t (tI (cI p39 1 0)), AV.t (tI (cI p39 1 1)), AV.t (tI (cI p39 1 2)), AV.t (tI (cI p39 1 3))]]))

noncomputable def J14_4 (n : Nat) (a1 : Int) (again8 : (List AV × Heap) → Option (List Tree)) (p27 : List AV × Heap) (p14 : List AV × Heap) (p7 : List AV × Heap) (y34 : List Tree) (p19 : List AV × Heap) (p35 : List AV × Heap) : Option (List Tree) :=
  join (fun (p39 : List AV × Heap) => J14_3 n a1 again8 p27 p14 p7 p39) fun (again40 : _ → Option (List Tree)) => cnd (vB p35 0 = true) (Option.bind (apure C n (41:Nat) [Tree.sl (4:Nat) (gL y34 0), tI
  (cI p35 1 0), tI (cI p35 1 1), tI (cI p35 1 2), tI (cI p35 1 3)]) fun y41 => cnd (List.length y41 = (1:Nat)) (cnd (okL 4 y41 0) (Option.bind (apure C n (42:Nat) [Tree.sl (4:Nat) (gL y41 0), tI (vI p14
  0)]) fun y42 => cnd (List.length y42 = (1:Nat)) (cnd (okL 4 y42 0) (again40 ([AV.t (Tree.sl (4:Nat) (gL y42 0)), AV.t (Tree.bool false)], [AObj.row false (oVer p35 0) (1:Nat) (oEs p35 0), AObj.box
  [AV.t (tI (cI p35 1 0)), AV.t (tI (cI p35 1 1)), AV.t (tI (cI p35 1 2)), AV.t (tI (cI p35 1 3))]])) none) none) none) none) (again40 ([AV.t (Tree.sl (4:Nat) (gL y34 0)), AV.t (Tree.bool (vB p19 0))],
  [AObj.row false (oVer p35 0) (1:Nat) (oEs p35 0), AObj.box [AV.t (tI (cI p35 1 0)), AV.t (tI (cI p35 1 1)), AV.t (tI (cI p35 1 2)), AV.t (tI (cI p35 1 3))]]))

noncomputable def J14_5 (n : Nat) (p27 : List AV × Heap) (a0 : List (List Tree)) (again28 : (List AV × Heap) → Option (List Tree)) (p14 : List AV × Heap) (a1 : Int) (again8 : (List AV × Heap) → Option (List Tree)) (p7 : List AV × Heap) (p19 : List AV × Heap) (p29 : List AV × Heap) : Option (List Tree) :=
  cnd (vB p29 0 = true) (cnd ((5:Nat) = (5:Nat) ∧ (0:Int) ≤ vI p27 1) (Option.bind a0[Int.toNat (vI p27 1)]? fun y32 => cnd (okI y32 1) (cnd (okI y32 2) (cnd (okI y32 3) (cnd (okI y32 4) (Option.bind
  (apure C n (41:Nat) [Tree.sl (4:Nat) (vL p27 0), tI (gI y32 1), tI (gI y32 2), tI (gI y32 3), tI (gI y32 4)]) fun y33 => cnd (List.length y33 = (1:Nat)) (cnd (okL 4 y33 0) (again28 ([AV.t (Tree.sl
  (4:Nat) (gL y33 0)), AV.t (tI (w64 ((vI p27 1) + (1:Int))))], [AObj.row false (oVer p29 0) (1:Nat) (oEs p29 0), AObj.box [AV.t (tI (cI p29 1 0)), AV.t (tI (cI p29 1 1)), AV.t (tI (cI p29 1 2)), AV.t
  (tI (cI p29 1 3))]])) none) none) none) none) none) none) none) (Option.bind (apure C n (42:Nat) [Tree.sl (4:Nat) (vL p27 0), tI (vI p14 0)]) fun y34 => cnd (List.length y34 = (1:Nat)) (cnd (okL 4 y34
  0) (join (fun (p35 : List AV × Heap) => J14_4 n a1 again8 p27 p14 p7 y34 p19 p35) fun (again36 : _ → Option (List Tree)) => cnd (vB p19 0 = true) (cnd (decide (((List.length (gL y34 0):Nat):Int) >
  (0:Int)) = true) (Option.bind (gL y34 0)[(0:Nat)]? fun y37 => cnd (okI y37 0) (cnd (okI y37 1) (cnd (okI y37 2) (cnd (okI y37 3) (Option.bind (apure C n (25:Nat) [tI (gI y37 0), tI (gI y37 1), tI (gI
  y37 2), tI (gI y37 3), tI (cI p29 1 0), tI (cI p29 1 1), tI (cI p29 1 2), tI (cI p29 1 3)]) fun y38 => cnd (List.length y38 = (1:Nat)) (cnd (okB y38 0) (again36 ([AV.t (Tree.bool (gB y38 0))],
  [AObj.row false (oVer p29 0) (1:Nat) (oEs p29 0), AObj.box [AV.t (tI (cI p29 1 0)), AV.t (tI (cI p29 1 1)), AV.t (tI (cI p29 1 2)), AV.t (tI (cI p29 1 3))]])) none) none) none) none) none) none)
  (again36 ([AV.t (Tree.bool false)], [AObj.row false (oVer p29 0) (1:Nat) (oEs p29 0), AObj.box [AV.t (tI (cI p29 1 0)), AV.t (tI (cI p29 1 1)), AV.t (tI (cI p29 1 2)), AV.t (tI (cI p29 1 3))]])))
  (again36 ([AV.t (Tree.bool false)], [AObj.row false (oVer p29 0) (1:Nat) (oEs p29 0), AObj.box [AV.t (tI (cI p29 1 0)), AV.t (tI (cI p29 1 1)), AV.t (tI (cI p29 1 2)), AV.t (tI (cI p29 1 3))]])))
  none) none)

noncomputable def L14_6 (n : Nat) (a0 : List (List Tree)) (p14 : List AV × Heap) (a1 : Int) (again8 : (List AV × Heap) → Option (List Tree)) (p7 : List AV × Heap) (p19 : List AV × Heap) (p27 : List AV × Heap) (again28 : (List AV × Heap) → Option (List Tree)) : Option (List Tree) :=
  join (fun (p29 : List AV × Heap) => J14_5 n p27 a0 again28 p14 a1 again8 p7 p19 p29) fun (again30 : _ → Option (List Tree)) => cnd (decide (vI p27 1 < ((List.length a0:Nat):Int)) = true) (cnd ((5:Nat)
  = (5:Nat) ∧ (0:Int) ≤ vI p27 1) (Option.bind a0[Int.toNat (vI p27 1)]? fun y31 => cnd (okI y31 0) (again30 ([AV.t (Tree.bool ((gI y31 0) == (vI p14 0)))], [AObj.row false (oVer p27 0) (1:Nat) (oEs p27
  0), AObj.box [AV.t (tI (cI p27 1 0)), AV.t (tI (cI p27 1 1)), AV.t (tI (cI p27 1 2)), AV.t (tI (cI p27 1 3))]])) none) none) (again30 ([AV.t (Tree.bool false)], [AObj.row false (oVer p27 0) (1:Nat)
  (oEs p27 0), AObj.box [AV.t (tI (cI p27 1 0)), AV.t (tI (cI p27 1 1)), AV.t (tI (cI p27 1 2)), AV.t (tI (cI p27 1 3))]]))

noncomputable def J14_7 (n : Nat) (a0 : List (List Tree)) (p14 : List AV × Heap) (a1 : Int) (again8 : (List AV × Heap) → Option (List Tree)) (p7 : List AV × Heap) (p19 : List AV × Heap) : Option (List Tree) :=
  loopIter (fun (p27 : List AV × Heap) (again28 : _ → Option (List Tree)) => L14_6 n a0 p14 a1 again8 p7 p19 p27 again28) n ([AV.t (Tree.sl (4:Nat) (vL p7 1)), AV.t (tI (vI p7 2))], [AObj.row false
  (oVer p19 0) (1:Nat) (oEs p19 0), AObj.box [AV.t (tI (cI p19 1 0)), AV.t (tI (cI p19 1 1)), AV.t (tI (cI p19 1 2)), AV.t (tI (cI p19 1 3))]])

noncomputable def J14_8 (n : Nat) (a0 : List (List Tree)) (p14 : List AV × Heap) (a1 : Int) (again8 : (List AV × Heap) → Option (List Tree)) (p7 : List AV × Heap) (p5 : List AV × Heap) (p17 : List AV × Heap) : Option (List Tree) :=
  join (fun (p19 : List AV × Heap) => J14_7 n a0 p14 a1 again8 p7 p19) fun (again20 : _ → Option (List Tree)) => cnd (vB p17 0 = true) (loopIter (fun (p21 : List AV × Heap) (again22 : _ → Option (List
  Tree)) => L14_1 n a0 p5 p14 again20 p21 again22) n ([AV.t (tI (0:Int))], [AObj.row false (oVer p17 0) (1:Nat) (oEs p17 0), AObj.box [AV.t (tI (cI p17 1 0)), AV.t (tI (cI p17 1 1)), AV.t (tI (cI p17 1
  2)), AV.t (tI (cI p17 1 3))]])) (again20 ([AV.t (Tree.bool (vB p7 0))], [AObj.row false (oVer p17 0) (1:Nat) (oEs p17 0), AObj.box [AV.t (tI (cI p17 1 0)), AV.t (tI (cI p17 1 1)), AV.t (tI (cI p17 1
  2)), AV.t (tI (cI p17 1 3))]]))

noncomputable def J14_9 (n : Nat) (a0 : List (List Tree)) (a1 : Int) (again8 : (List AV × Heap) → Option (List Tree)) (p7 : List AV × Heap) (p5 : List AV × Heap) (p14 : List AV × Heap) : Option (List Tree) :=
  join (fun (p17 : List AV × Heap) => J14_8 n a0 p14 a1 again8 p7 p5 p17) fun (again18 : _ → Option (List Tree)) => cnd (vB p7 0 = true) (again18 ([AV.t (Tree.bool ((vI p14 0) == (vI p7 3)))], [AObj.row
  false (oVer p14 0) (1:Nat) (oEs p14 0), AObj.box [AV.t (tI (cI p14 1 0)), AV.t (tI (cI p14 1 1)), AV.t (tI (cI p14 1 2)), AV.t (tI (cI p14 1 3))]])) (again18 ([AV.t (Tree.bool false)], [AObj.row false
  (oVer p14 0) (1:Nat) (oEs p14 0), AObj.box [AV.t (tI (cI p14 1 0)), AV.t (tI (cI p14 1 1)), AV.t (tI (cI p14 1 2)), AV.t (tI (cI p14 1 3))]]))

noncomputable def J14_10 (n : Nat) (a0 : List (List Tree)) (a1 : Int) (again8 : (List AV × Heap) → Option (List Tree)) (p7 : List AV × Heap) (p5 : List AV × Heap) (p11 : List AV × Heap) : Option (List Tree) :=
  join (fun (p14 : List AV × Heap) => J14_9 n a0 a1 again8 p7 p5 p14) fun (again15 : _ → Option (List Tree)) => cnd (vB p11 0 = true) (cnd ((5:Nat) = (5:Nat) ∧ (0:Int) ≤ vI p7 2) (Option.bind
  a0[Int.toNat (vI p7 2)]? fun y16 => cnd (okI y16 0) (again15 ([AV.t (tI (gI y16 0))], [AObj.row false (oVer p11 0) (1:Nat) (oEs p11 0), AObj.box [AV.t (tI (cI p11 1 0)), AV.t (tI (cI p11 1 1)), AV.t
  (tI (cI p11 1 2)), AV.t (tI (cI p11 1 3))]])) none) none) (again15 ([AV.t (tI (vI p7 3))], [AObj.row false (oVer p11 0) (1:Nat) (oEs p11 0), AObj.box [AV.t (tI (cI p11 1 0)), AV.t (tI (cI p11 1 1)),
  AV.t (tI (cI p11 1 2)), AV.t (tI (cI p11 1 3))]]))

noncomputable def J14_11 (n : Nat) (a0 : List (List Tree)) (a1 : Int) (again8 : (List AV × Heap) → Option (List Tree)) (p7 : List AV × Heap) (p5 : List AV × Heap) (p9 : List AV × Heap) : Option (List Tree) :=
  cnd (vB p9 0 = true) (join (fun (p11 : List AV × Heap) => J14_10 n a0 a1 again8 p7 p5 p11) fun (again12 : _ → Option (List Tree)) => cnd ((!(vB p7 0)) = true) (again12 ([AV.t (Tree.bool true)],
  [AObj.row false (oVer p9 0) (1:Nat) (oEs p9 0), AObj.box [AV.t (tI (cI p9 1 0)), AV.t (tI (cI p9 1 1)), AV.t (tI (cI p9 1 2)), AV.t (tI (cI p9 1 3))]])) (cnd (decide (vI p7 2 < ((List.length
  a0:Nat):Int)) = true) (cnd ((5:Nat) = (5:Nat) ∧ (0:Int) ≤ vI p7 2) (Option.bind a0[Int.toNat (vI p7 2)]? fun y13 => cnd (okI y13 0) (again12 ([AV.t (Tree.bool (decide (gI y13 0 < vI p7 3)))],
  [AObj.row false (oVer p9 0) (1:Nat) (oEs p9 0), AObj.box [AV.t (tI (cI p9 1 0)), AV.t (tI (cI p9 1 1)), AV.t (tI (cI p9 1 2)), AV.t (tI (cI p9 1 3))]])) none) none) (again12 ([AV.t (Tree.bool false)],
  [AObj.row false (oVer p9 0) (1:Nat) (oEs p9 0), AObj.box [AV.t (tI (cI p9 1 0)), AV.t (tI (cI p9 1 1)), AV.t (tI (cI p9 1 2)), AV.t (tI (cI p9 1 3))]])))) (cnd ((false = true ∨ false = false) ∧ oVer
  p9 0 = sVer p5 0 ∧ ((1:Nat) = (1:Nat) ∨ (1:Nat) = (0:Nat))) (some [Tree.sl (1:Nat) (List.take (sLen p5 0) (List.drop (sOff p5 0) (oEs p9 0))), tI (0:Int)]) none)

noncomputable def L14_12 (n : Nat) (a0 : List (List Tree)) (a1 : Int) (p5 : List AV × Heap) (p7 : List AV × Heap) (again8 : (List AV × Heap) → Option (List Tree)) : Option (List Tree) :=
  join (fun (p9 : List AV × Heap) => J14_11 n a0 a1 again8 p7 p5 p9) fun (again10 : _ → Option (List Tree)) => cnd (decide (vI p7 2 < ((List.length a0:Nat):Int)) = true) (again10 ([AV.t (Tree.bool
  true)], [AObj.row false (oVer p7 0) (1:Nat) (oEs p7 0), AObj.box [AV.t (tI (cI p7 1 0)), AV.t (tI (cI p7 1 1)), AV.t (tI (cI p7 1 2)), AV.t (tI (cI p7 1 3))]])) (again10 ([AV.t (Tree.bool (vB p7 0))],
  [AObj.row false (oVer p7 0) (1:Nat) (oEs p7 0), AObj.box [AV.t (tI (cI p7 1 0)), AV.t (tI (cI p7 1 1)), AV.t (tI (cI p7 1 2)), AV.t (tI (cI p7 1 3))]]))

noncomputable def L14_13 (n : Nat) (a0 : List (List Tree)) (a1 : Int) (p5 : List AV × Heap) (again6 : (List AV × Heap) → Option (List Tree)) : Option (List Tree) :=
  cnd (decide (vI p5 1 < ((List.length a0:Nat):Int)) = true) (cnd (oVer p5 0 = sVer p5 0 ∧ ((1:Nat) = (1:Nat) ∨ (1:Nat) = (0:Nat)) ∧ (sOff p5 0) + (sLen p5 0) ≤ List.length (oEs p5 0) ∧ (sLen p5 0) +
  (1:Nat) ≤ (1073741824:Nat)) (again6 ([AV.sref (0:Nat) ((sVer p5 0) + (1:Nat)) (0:Nat) ((sLen p5 0) + (1:Nat)), AV.t (tI (w64 ((vI p5 1) + (1:Int))))], [AObj.row false ((sVer p5 0) + (1:Nat)) (1:Nat)
  ((List.take (sLen p5 0) (List.drop (sOff p5 0) (oEs p5 0))) ++ [[tI (-1:Int)]])])) none) (loopIter (fun (p7 : List AV × Heap) (again8 : _ → Option (List Tree)) => L14_12 n a0 a1 p5 p7 again8) n ([AV.t
  (Tree.bool false), AV.t (Tree.sl (4:Nat) []), AV.t (tI (0:Int)), AV.t (tI (0:Int))], [AObj.row false (oVer p5 0) (1:Nat) (oEs p5 0), AObj.box [AV.t (tI (0:Int)), AV.t (tI (0:Int)), AV.t (tI (0:Int)),
  AV.t (tI (0:Int))]]))

noncomputable def J14_14 (n : Nat) (a0 : List (List Tree)) (a1 : Int) (p2 : List AV × Heap) : Option (List Tree) :=
  cnd (vB p2 0 = true) (some [Tree.sl (1:Nat) [], tI (2:Int)]) (Option.bind (apure C n (40:Nat) [Tree.sl (5:Nat) a0]) fun y4 => cnd (List.length y4 = (1:Nat)) (cnd (okI y4 0) (cnd (((gI y4 0) !=
  (0:Int)) = true) (some [Tree.sl (1:Nat) [], tI (gI y4 0)]) (loopIter (fun (p5 : List AV × Heap) (again6 : _ → Option (List Tree)) => L14_13 n a0 a1 p5 again6) n ([AV.sref (0:Nat) (0:Nat) (0:Nat)
  (0:Nat), AV.t (tI (0:Int))], [AObj.row false (0:Nat) (1:Nat) []]))) none) none)
theorem e14 (n : Nat) (a0 : List (List Tree)) (a1 : Int) : apure C (n + 1) 14 [Tree.sl (5:Nat) a0, tI a1] =
  join (fun (p2 : List AV × Heap) => J14_14 n a0 a1 p2) fun (again3 : _ → Option (List Tree)) => cnd (decide (a1 < (1:Int)) = true) (again3 ([AV.t (Tree.bool true)], [])) (again3 ([AV.t (Tree.bool
  (decide (a1 > (1000:Int))))], [])) := by kernel_rfl

noncomputable def L15_1 (n : Nat) (a0 : List (List Tree)) (a1 : List (List Tree)) (p2 : List AV × Heap) (again3 : (List AV × Heap) → Option (List Tree)) : Option (List Tree) :=
  cnd (decide (vI p2 0 < ((List.length a0:Nat):Int)) = true) (cnd ((1:Nat) = (1:Nat) ∧ (0:Int) ≤ vI p2 0) (Option.bind a0[Int.toNat (vI p2 0)]? fun y4 => cnd (okI y4 0) (cnd ((1:Nat) = (1:Nat) ∧ (0:Int)
  ≤ vI p2 0) (Option.bind a1[Int.toNat (vI p2 0)]? fun y5 => cnd (okI y5 0) (cnd (((gI y4 0) != (gI y5 0)) = true) (some [Tree.bool false]) (again3 ([AV.t (tI (w64 ((vI p2 0) + (1:Int))))], []))) none)
  none) none) none) (some [Tree.bool true])
theorem e15 (n : Nat) (a0 : List (List Tree)) (a1 : List (List Tree)) : apure C (n + 1) 15 [Tree.sl (1:Nat) a0, Tree.sl (1:Nat) a1] =
  cnd ((((List.length a0:Nat):Int) != ((List.length a1:Nat):Int)) = true) (some [Tree.bool false]) (loopIter (fun (p2 : List AV × Heap) (again3 : _ → Option (List Tree)) => L15_1 n a0 a1 p2 again3) n
  ([AV.t (tI (0:Int))], [])) := by kernel_rfl

noncomputable def L17_1 (n : Nat) (a0 : List (List Tree)) (a1 : Int) (a2 : Int) (a3 : Int) (a4 : Int) (again9 : (List AV × Heap) → Option (List Tree)) (p10 : List AV × Heap) (again11 : (List AV × Heap) → Option (List Tree)) : Option (List Tree) :=
  cnd (decide (vI p10 0 < vI p10 1) = true) (cnd ((4:Nat) = (4:Nat) ∧ (0:Int) ≤ w64 (shrK IntKind.u64 (IntKind.wrap IntKind.u64 (w64 ((vI p10 0) + (vI p10 1)))) (1:Int))) (Option.bind a0[Int.toNat (w64
  (shrK IntKind.u64 (IntKind.wrap IntKind.u64 (w64 ((vI p10 0) + (vI p10 1)))) (1:Int)))]? fun y12 => cnd (okI y12 0) (cnd (okI y12 1) (cnd (okI y12 2) (cnd (okI y12 3) (Option.bind (apure C n (46:Nat)
  [tI (gI y12 0), tI (gI y12 1), tI (gI y12 2), tI (gI y12 3), tI a1, tI a2, tI a3, tI a4]) fun y13 => cnd (List.length y13 = (1:Nat)) (cnd (okI y13 0) (cnd (decide (gI y13 0 < (0:Int)) = true) (again11
  ([AV.t (tI (w64 ((w64 (shrK IntKind.u64 (IntKind.wrap IntKind.u64 (w64 ((vI p10 0) + (vI p10 1)))) (1:Int))) + (1:Int)))), AV.t (tI (vI p10 1))], [])) (again11 ([AV.t (tI (vI p10 0)), AV.t (tI (w64
  (shrK IntKind.u64 (IntKind.wrap IntKind.u64 (w64 ((vI p10 0) + (vI p10 1)))) (1:Int))))], []))) none) none) none) none) none) none) none) (cnd (decide (vI p10 0 < ((List.length a0:Nat):Int)) = true)
  (cnd ((4:Nat) = (4:Nat) ∧ (0:Int) ≤ vI p10 0) (Option.bind a0[Int.toNat (vI p10 0)]? fun y18 => cnd (okI y18 0) (cnd (okI y18 1) (cnd (okI y18 2) (cnd (okI y18 3) (Option.bind (apure C n (46:Nat) [tI
  (gI y18 0), tI (gI y18 1), tI (gI y18 2), tI (gI y18 3), tI a1, tI a2, tI a3, tI a4]) fun y19 => cnd (List.length y19 = (1:Nat)) (cnd (okI y19 0) (again9 ([AV.t (tI (vI p10 0)), AV.t (Tree.bool ((gI
  y19 0) == (0:Int)))], [])) none) none) none) none) none) none) none) (again9 ([AV.t (tI (vI p10 0)), AV.t (Tree.bool false)], [])))

noncomputable def J17_2 (n : Nat) (a0 : List (List Tree)) (a1 : Int) (a2 : Int) (a3 : Int) (a4 : Int) (p8 : List AV × Heap) : Option (List Tree) :=
  Option.bind (apure C n (1000048:Nat) [Tree.sl (4:Nat) a0]) fun y20 => cnd (List.length y20 = (1:Nat) ∧ okL 4 y20 0) (cnd ((0:Nat) = (0:Nat) ∧ (4:Nat) = (4:Nat) ∧ (0:Nat) + (List.length (gL y20 0)) =
  List.length (gL y20 0) ∧ (List.length (gL y20 0)) + (1:Nat) ≤ (1073741824:Nat) ∧ (0:Int) ≤ vI p8 0 ∧ vI p8 0 ≤ ((List.length (gL y20 0):Nat):Int)) (some [Tree.sl (4:Nat) (List.take ((List.length (gL
  y20 0)) + (1:Nat)) (((List.take (Int.toNat (vI p8 0)) (gL y20 0)) ++ [[tI a1, tI a2, tI a3, tI a4]]) ++ (List.drop (Int.toNat (vI p8 0)) (gL y20 0)))), tI (0:Int)]) none) none
theorem e17 (n : Nat) (a0 : List (List Tree)) (a1 : Int) (a2 : Int) (a3 : Int) (a4 : Int) : apure C (n + 1) 17 [Tree.sl (4:Nat) a0, tI a1, tI a2, tI a3, tI a4] =
  Option.bind (apure C n (26:Nat) [Tree.sl (4:Nat) a0]) fun y5 => cnd (List.length y5 = (1:Nat)) (cnd (okI y5 0) (cnd (((gI y5 0) != (0:Int)) = true) (some [Tree.sl (4:Nat) [], tI (1:Int)]) (Option.bind
  (apure C n (43:Nat) [tI a1, tI a2, tI a3, tI a4]) fun y6 => cnd (List.length y6 = (1:Nat)) (cnd (okB y6 0) (cnd ((!(gB y6 0)) = true) (some [Tree.sl (4:Nat) [], tI (2:Int)]) (Option.bind (apure C n
  (44:Nat) [Tree.sl (4:Nat) a0, tI a1]) fun y7 => cnd (List.length y7 = (1:Nat)) (cnd (okB y7 0) (cnd (gB y7 0 = true) (some [Tree.sl (4:Nat) [], tI (6:Int)]) (cnd ((((List.length a0:Nat):Int) ==
  (64:Int)) = true) (some [Tree.sl (4:Nat) [], tI (4:Int)]) (join (fun (p8 : List AV × Heap) => J17_2 n a0 a1 a2 a3 a4 p8) fun (again9 : _ → Option (List Tree)) => loopIter (fun (p10 : List AV × Heap)
  (again11 : _ → Option (List Tree)) => L17_1 n a0 a1 a2 a3 a4 again9 p10 again11) n ([AV.t (tI (0:Int)), AV.t (tI ((List.length a0:Nat):Int))], [])))) none) none)) none) none)) none) none := by kernel_rfl

theorem e20 (n : Nat) (a0 : List (List Tree)) : apure C (n + 1) 20 [Tree.sl (4:Nat) a0] =
  cnd (decide (((List.length a0:Nat):Int) > (12:Int)) = true) (cnd (decide (((List.length a0:Nat):Int) < (63:Int)) = true) (some [Tree.bool true]) (some [Tree.bool (decide (((List.length a0:Nat):Int) >
  (70:Int)))])) (some [Tree.bool (decide (((List.length a0:Nat):Int) > (70:Int)))]) := by kernel_rfl

theorem e21 (n : Nat) (a0 : List (List Tree)) (a1 : Int) (a2 : Int) (a3 : Int) (a4 : Int) : apure C (n + 1) 21 [Tree.sl (4:Nat) a0, tI a1, tI a2, tI a3, tI a4] =
  Option.bind (apure C n (27:Nat) [Tree.sl (4:Nat) a0]) fun y5 => cnd (List.length y5 = (1:Nat)) (cnd (okI y5 0) (cnd (((gI y5 0) != (0:Int)) = true) (some [Tree.sl (4:Nat) [], tI (1:Int)]) (Option.bind
  (apure C n (49:Nat) [tI a1, tI a2, tI a3, tI a4]) fun y6 => cnd (List.length y6 = (1:Nat)) (cnd (okB y6 0) (cnd ((!(gB y6 0)) = true) (some [Tree.sl (4:Nat) [], tI (2:Int)]) (Option.bind (apure C n
  (50:Nat) [Tree.sl (4:Nat) a0, tI a1]) fun y7 => cnd (List.length y7 = (1:Nat)) (cnd (okB y7 0) (cnd (gB y7 0 = true) (some [Tree.sl (4:Nat) [], tI (6:Int)]) (cnd ((((List.length a0:Nat):Int) ==
  (64:Int)) = true) (some [Tree.sl (4:Nat) [], tI (4:Int)]) (Option.bind (apure C n (41:Nat) [Tree.sl (4:Nat) a0, tI a1, tI a2, tI a3, tI a4]) fun y8 => cnd (List.length y8 = (1:Nat)) (cnd (okL 4 y8 0)
  (some [Tree.sl (4:Nat) (gL y8 0), tI (0:Int)]) none) none))) none) none)) none) none)) none) none := by kernel_rfl

noncomputable def L22_1 (n : Nat) (y3 : List Tree) (a1 : Int) (again5 : (List AV × Heap) → Option (List Tree)) (p6 : List AV × Heap) (again7 : (List AV × Heap) → Option (List Tree)) : Option (List Tree) :=
  cnd (decide (vI p6 0 < ((List.length (gL y3 0):Nat):Int)) = true) (cnd (oVer p6 1 = (0:Nat) ∧ (4:Nat) = (4:Nat) ∧ (0:Int) ≤ vI p6 0 ∧ vI p6 0 < ((List.length (gL y3 0):Nat):Int)) (cnd (oVer p6 1 =
  (0:Nat)) (Option.bind (oEs p6 1)[(0:Nat) + (Int.toNat (vI p6 0))]? fun y8 => cnd (okI y8 0) (cnd (okI y8 1) (cnd (okI y8 2) (cnd (okI y8 3) (cnd (decide (gI y8 2 ≤ a1) = true) (again5 ([AV.t (tI (vI
  p6 0))], [AObj.box [AV.t (tI (cI p6 0 0)), AV.t (tI (cI p6 0 1)), AV.t (tI (cI p6 0 2)), AV.t (tI (cI p6 0 3))], AObj.row false (oVer p6 1) (4:Nat) (oEs p6 1)])) (again7 ([AV.t (tI (w64 ((vI p6 0) +
  (1:Int))))], [AObj.box [AV.t (tI (cI p6 0 0)), AV.t (tI (cI p6 0 1)), AV.t (tI (cI p6 0 2)), AV.t (tI (cI p6 0 3))], AObj.row false (oVer p6 1) (4:Nat) (oEs p6 1)]))) none) none) none) none) none)
  none) (again5 ([AV.t (tI (-1:Int))], [AObj.box [AV.t (tI (cI p6 0 0)), AV.t (tI (cI p6 0 1)), AV.t (tI (cI p6 0 2)), AV.t (tI (cI p6 0 3))], AObj.row false (oVer p6 1) (4:Nat) (oEs p6 1)]))

noncomputable def L22_2 (n : Nat) (y3 : List Tree) (a1 : Int) (p12 : List AV × Heap) (again13 : (List AV × Heap) → Option (List Tree)) : Option (List Tree) :=
  cnd (oVer p12 1 = (0:Nat)) (cnd (decide (vI p12 1 < ((List.length (gL y3 0):Nat):Int)) = true) (cnd (oVer p12 1 = (0:Nat) ∧ (4:Nat) = (4:Nat) ∧ (0:Int) ≤ vI p12 1 ∧ vI p12 1 < ((List.length (gL y3
  0):Nat):Int)) (cnd (oVer p12 1 = (0:Nat)) (Option.bind (oEs p12 1)[(0:Nat) + (Int.toNat (vI p12 1))]? fun y14 => cnd (okI y14 0) (cnd (okI y14 1) (cnd (okI y14 2) (cnd (okI y14 3) (cnd ((!(decide (gI
  y14 2 ≤ a1))) = true) (cnd (oVer p12 1 = (0:Nat) ∧ (4:Nat) = (4:Nat) ∧ (0:Int) ≤ vI p12 0 ∧ vI p12 0 < ((List.length (gL y3 0):Nat):Int)) (cnd (oVer p12 1 = (0:Nat) ∧ (4:Nat) ≤ (4:Nat)) (Option.bind
  (oEs p12 1)[(0:Nat) + (Int.toNat (vI p12 0))]? fun y19 => again13 ([AV.t (tI (w64 ((vI p12 0) + (1:Int)))), AV.t (tI (w64 ((vI p12 1) + (1:Int))))], [AObj.box [AV.t (tI (cI p12 0 0)), AV.t (tI (cI p12
  0 1)), AV.t (tI (cI p12 0 2)), AV.t (tI (cI p12 0 3))], AObj.row false (0:Nat) (4:Nat) (List.set (oEs p12 1) ((0:Nat) + (Int.toNat (vI p12 0))) ([tI (gI y14 0), tI (gI y14 1), tI (gI y14 2), tI (gI
  y14 3)] ++ List.drop (4:Nat) y19))])) none) none) (again13 ([AV.t (tI (vI p12 0)), AV.t (tI (w64 ((vI p12 1) + (1:Int))))], [AObj.box [AV.t (tI (cI p12 0 0)), AV.t (tI (cI p12 0 1)), AV.t (tI (cI p12
  0 2)), AV.t (tI (cI p12 0 3))], AObj.row false (oVer p12 1) (4:Nat) (oEs p12 1)]))) none) none) none) none) none) none) (cnd (oVer p12 1 = (0:Nat) ∧ ((4:Nat) = (4:Nat) ∨ (4:Nat) = (0:Nat))) (cnd
  ((0:Int) ≤ vI p12 0 ∧ vI p12 0 ≤ ((List.length (gL y3 0):Nat):Int)) (cnd (Int.toNat (vI p12 0) < List.length (oEs p12 1) ∨ Int.toNat (vI p12 0) = (0:Nat)) (cnd (oVer p12 1 = (0:Nat) ∧ (4:Nat) =
  (4:Nat)) (cnd ((0:Int) ≤ vI p12 0 ∧ vI p12 0 ≤ ((List.length (rowSet (oEs p12 1) ((0:Nat) + (Int.toNat (vI p12 0))) (List.replicate ((List.length (gL y3 0)) - (Int.toNat (vI p12 0))) [tI (0:Int), tI
  (0:Int), tI (0:Int), tI (0:Int)])):Nat):Int)) (cnd ((0:Nat) < List.length (rowSet (oEs p12 1) ((0:Nat) + (Int.toNat (vI p12 0))) (List.replicate ((List.length (gL y3 0)) - (Int.toNat (vI p12 0))) [tI
  (0:Int), tI (0:Int), tI (0:Int), tI (0:Int)])) ∨ (0:Nat) = (0:Nat)) (cnd ((((Int.toNat (vI p12 0):Nat):Int) == (0:Int)) = true) (some [tI (0:Int), tI (0:Int), tI (0:Int), tI (0:Int), Tree.sl (4:Nat)
  [], tI (20:Int)]) (cnd ((0:Nat) = (0:Nat) ∧ (4:Nat) = (4:Nat) ∧ (0:Int) ≤ (0:Int) ∧ (0:Int) < ((Int.toNat (vI p12 0):Nat):Int)) (Option.bind (rowSet (oEs p12 1) ((0:Nat) + (Int.toNat (vI p12 0)))
  (List.replicate ((List.length (gL y3 0)) - (Int.toNat (vI p12 0))) [tI (0:Int), tI (0:Int), tI (0:Int), tI (0:Int)]))[(0:Nat)]? fun y20 => cnd (okI y20 0) (cnd (okI y20 1) (cnd (okI y20 2) (cnd (okI
  y20 3) (cnd ((0:Int) ≤ (1:Int) ∧ (1:Int) ≤ ((Int.toNat (vI p12 0):Nat):Int)) (cnd ((1:Nat) < List.length (rowSet (oEs p12 1) ((0:Nat) + (Int.toNat (vI p12 0))) (List.replicate ((List.length (gL y3 0))
  - (Int.toNat (vI p12 0))) [tI (0:Int), tI (0:Int), tI (0:Int), tI (0:Int)])) ∨ (1:Nat) = (0:Nat)) (some [tI (gI y20 0), tI (gI y20 1), tI (gI y20 2), tI (gI y20 3), Tree.sl (4:Nat) (List.take
  ((Int.toNat (vI p12 0)) - (1:Nat)) (List.drop (1:Nat) (rowSet (oEs p12 1) ((0:Nat) + (Int.toNat (vI p12 0))) (List.replicate ((List.length (gL y3 0)) - (Int.toNat (vI p12 0))) [tI (0:Int), tI (0:Int),
  tI (0:Int), tI (0:Int)])))), tI (0:Int)]) (some [tI (gI y20 0), tI (gI y20 1), tI (gI y20 2), tI (gI y20 3), Tree.sl (4:Nat) [], tI (0:Int)])) none) none) none) none) none) none)) (some [tI (0:Int),
  tI (0:Int), tI (0:Int), tI (0:Int), Tree.sl (4:Nat) [], tI (20:Int)])) none) none) (cnd (oVer p12 1 = (0:Nat) ∧ ((4:Nat) = (4:Nat) ∨ (4:Nat) = (0:Nat))) (cnd ((0:Int) ≤ vI p12 0 ∧ vI p12 0 ≤
  ((List.length (oEs p12 1):Nat):Int)) (cnd ((0:Nat) < List.length (oEs p12 1) ∨ (0:Nat) = (0:Nat)) (cnd (oVer p12 1 = (0:Nat)) (cnd ((((Int.toNat (vI p12 0):Nat):Int) == (0:Int)) = true) (some [tI
  (0:Int), tI (0:Int), tI (0:Int), tI (0:Int), Tree.sl (4:Nat) [], tI (20:Int)]) (cnd (oVer p12 1 = (0:Nat) ∧ (4:Nat) = (4:Nat) ∧ (0:Int) ≤ (0:Int) ∧ (0:Int) < ((Int.toNat (vI p12 0):Nat):Int)) (cnd
  (oVer p12 1 = (0:Nat)) (Option.bind (oEs p12 1)[(0:Nat)]? fun y21 => cnd (okI y21 0) (cnd (okI y21 1) (cnd (okI y21 2) (cnd (okI y21 3) (cnd (oVer p12 1 = (0:Nat) ∧ ((4:Nat) = (4:Nat) ∨ (4:Nat) =
  (0:Nat))) (cnd ((0:Int) ≤ (1:Int) ∧ (1:Int) ≤ ((Int.toNat (vI p12 0):Nat):Int)) (cnd ((1:Nat) < List.length (oEs p12 1) ∨ (1:Nat) = (0:Nat)) (cnd ((false = true ∨ false = false) ∧ oVer p12 1 = (0:Nat)
  ∧ ((4:Nat) = (4:Nat) ∨ (4:Nat) = (0:Nat))) (some [tI (gI y21 0), tI (gI y21 1), tI (gI y21 2), tI (gI y21 3), Tree.sl (4:Nat) (List.take ((Int.toNat (vI p12 0)) - (1:Nat)) (List.drop (1:Nat) (oEs p12
  1))), tI (0:Int)]) none) (some [tI (gI y21 0), tI (gI y21 1), tI (gI y21 2), tI (gI y21 3), Tree.sl (4:Nat) [], tI (0:Int)])) none) none) none) none) none) none) none) none)) none) (some [tI (0:Int),
  tI (0:Int), tI (0:Int), tI (0:Int), Tree.sl (4:Nat) [], tI (20:Int)])) none) none)) none) none)) none

noncomputable def J22_3 (n : Nat) (y3 : List Tree) (a1 : Int) (p4 : List AV × Heap) : Option (List Tree) :=
  cnd (((vI p4 0) == (-1:Int)) = true) (cnd (oVer p4 1 = (0:Nat)) (cnd ((((List.length (gL y3 0):Nat):Int) == (0:Int)) = true) (some [tI (0:Int), tI (0:Int), tI (0:Int), tI (0:Int), Tree.sl (4:Nat) [],
  tI (20:Int)]) (cnd (oVer p4 1 = (0:Nat) ∧ (4:Nat) = (4:Nat) ∧ (0:Int) ≤ (0:Int) ∧ (0:Int) < ((List.length (gL y3 0):Nat):Int)) (cnd (oVer p4 1 = (0:Nat)) (Option.bind (oEs p4 1)[(0:Nat)]? fun y11 =>
  cnd (okI y11 0) (cnd (okI y11 1) (cnd (okI y11 2) (cnd (okI y11 3) (cnd (oVer p4 1 = (0:Nat) ∧ ((4:Nat) = (4:Nat) ∨ (4:Nat) = (0:Nat))) (cnd ((0:Int) ≤ (1:Int) ∧ (1:Int) ≤ ((List.length (gL y3
  0):Nat):Int)) (cnd ((1:Nat) < List.length (oEs p4 1) ∨ (1:Nat) = (0:Nat)) (cnd ((false = true ∨ false = false) ∧ oVer p4 1 = (0:Nat) ∧ ((4:Nat) = (4:Nat) ∨ (4:Nat) = (0:Nat))) (some [tI (gI y11 0), tI
  (gI y11 1), tI (gI y11 2), tI (gI y11 3), Tree.sl (4:Nat) (List.take ((List.length (gL y3 0)) - (1:Nat)) (List.drop (1:Nat) (oEs p4 1))), tI (0:Int)]) none) (some [tI (gI y11 0), tI (gI y11 1), tI (gI
  y11 2), tI (gI y11 3), Tree.sl (4:Nat) [], tI (0:Int)])) none) none) none) none) none) none) none) none)) none) (loopIter (fun (p12 : List AV × Heap) (again13 : _ → Option (List Tree)) => L22_2 n y3
  a1 p12 again13) n ([AV.t (tI (vI p4 0)), AV.t (tI (w64 ((vI p4 0) + (1:Int))))], [AObj.box [AV.t (tI (cI p4 0 0)), AV.t (tI (cI p4 0 1)), AV.t (tI (cI p4 0 2)), AV.t (tI (cI p4 0 3))], AObj.row false
  (oVer p4 1) (4:Nat) (oEs p4 1)]))
theorem e22 (n : Nat) (a0 : List (List Tree)) (a1 : Int) : apure C (n + 1) 22 [Tree.sl (4:Nat) a0, tI a1] =
  Option.bind (apure C n (26:Nat) [Tree.sl (4:Nat) a0]) fun y2 => cnd (List.length y2 = (1:Nat)) (cnd (okI y2 0) (cnd (((gI y2 0) != (0:Int)) = true) (some [tI (0:Int), tI (0:Int), tI (0:Int), tI
  (0:Int), Tree.sl (4:Nat) [], tI (1:Int)]) (Option.bind (apure C n (1000048:Nat) [Tree.sl (4:Nat) a0]) fun y3 => cnd (List.length y3 = (1:Nat) ∧ okL 4 y3 0) (join (fun (p4 : List AV × Heap) => J22_3 n
  y3 a1 p4) fun (again5 : _ → Option (List Tree)) => loopIter (fun (p6 : List AV × Heap) (again7 : _ → Option (List Tree)) => L22_1 n y3 a1 again5 p6 again7) n ([AV.t (tI (0:Int))], [AObj.box [AV.t (tI
  (0:Int)), AV.t (tI (0:Int)), AV.t (tI (0:Int)), AV.t (tI (0:Int))], AObj.row false (0:Nat) (4:Nat) (gL y3 0)])) none)) none) none := by kernel_rfl

theorem e23 (n : Nat) (a0 : List (List Tree)) (a1 : Int) : apure C (n + 1) 23 [Tree.sl (4:Nat) a0, tI a1] =
  Option.bind (apure C n (27:Nat) [Tree.sl (4:Nat) a0]) fun y2 => cnd (List.length y2 = (1:Nat)) (cnd (okI y2 0) (cnd (((gI y2 0) != (0:Int)) = true) (some [tI (0:Int), tI (0:Int), tI (0:Int), tI
  (0:Int), Tree.sl (4:Nat) [], tI (1:Int)]) (Option.bind (apure C n (42:Nat) [Tree.sl (4:Nat) a0, tI a1]) fun y3 => cnd (List.length y3 = (1:Nat)) (cnd (okL 4 y3 0) (cnd ((((List.length (gL y3
  0):Nat):Int) == (0:Int)) = true) (some [tI (0:Int), tI (0:Int), tI (0:Int), tI (0:Int), Tree.sl (4:Nat) [], tI (20:Int)]) (Option.bind (gL y3 0)[(0:Nat)]? fun y4 => cnd (okI y4 0) (cnd (okI y4 1) (cnd
  (okI y4 2) (cnd (okI y4 3) (cnd ((0:Int) ≤ (1:Int) ∧ (1:Int) ≤ ((List.length (gL y3 0):Nat):Int)) (some [tI (gI y4 0), tI (gI y4 1), tI (gI y4 2), tI (gI y4 3), Tree.sl (4:Nat) (List.drop (1:Nat)
  (List.take (List.length (gL y3 0)) (gL y3 0))), tI (0:Int)]) none) none) none) none) none)) none) none)) none) none := by kernel_rfl

theorem e24 (n : Nat) (a0 : Int) (a1 : Int) (a2 : Int) (a3 : Int) (a4 : Int) (a5 : Int) (a6 : Int) (a7 : Int) : apure C (n + 1) 24 [tI a0, tI a1, tI a2, tI a3, tI a4, tI a5, tI a6, tI a7] =
  cnd ((a1 == (2:Int)) = true) (some [Tree.bool (decide (a5 < (2:Int)))]) (some [Tree.bool false]) := by kernel_rfl

theorem e25 (n : Nat) (a0 : Int) (a1 : Int) (a2 : Int) (a3 : Int) (a4 : Int) (a5 : Int) (a6 : Int) (a7 : Int) : apure C (n + 1) 25 [tI a0, tI a1, tI a2, tI a3, tI a4, tI a5, tI a6, tI a7] =
  cnd ((a1 == (2:Int)) = true) (some [Tree.bool (decide (a5 < (2:Int)))]) (some [Tree.bool false]) := by kernel_rfl

noncomputable def L26_1 (n : Nat) (a0 : List (List Tree)) (p1 : List AV × Heap) (again2 : (List AV × Heap) → Option (List Tree)) : Option (List Tree) :=
  cnd (decide (vI p1 0 < ((List.length a0:Nat):Int)) = true) (cnd ((4:Nat) = (4:Nat) ∧ (0:Int) ≤ vI p1 0) (Option.bind a0[Int.toNat (vI p1 0)]? fun y3 => cnd (okI y3 0) (cnd (okI y3 1) (cnd (okI y3 2)
  (cnd (okI y3 3) (Option.bind (apure C n (43:Nat) [tI (gI y3 0), tI (gI y3 1), tI (gI y3 2), tI (gI y3 3)]) fun y4 => cnd (List.length y4 = (1:Nat)) (cnd (okB y4 0) (cnd ((!(gB y4 0)) = true) (some [tI
  (2:Int)]) (cnd ((0:Int) ≤ vI p1 0 ∧ vI p1 0 ≤ ((List.length a0:Nat):Int)) (Option.bind (apure C n (44:Nat) [Tree.sl (4:Nat) (List.take (Int.toNat (vI p1 0)) a0), tI (gI y3 0)]) fun y5 => cnd
  (List.length y5 = (1:Nat)) (cnd (okB y5 0) (cnd (gB y5 0 = true) (some [tI (6:Int)]) (cnd (decide (vI p1 0 > (0:Int)) = true) (cnd ((4:Nat) = (4:Nat) ∧ (0:Int) ≤ w64 ((vI p1 0) - (1:Int)))
  (Option.bind a0[Int.toNat (w64 ((vI p1 0) - (1:Int)))]? fun y8 => cnd (okI y8 0) (cnd (okI y8 1) (cnd (okI y8 2) (cnd (okI y8 3) (Option.bind (apure C n (46:Nat) [tI (gI y8 0), tI (gI y8 1), tI (gI y8
  2), tI (gI y8 3), tI (gI y3 0), tI (gI y3 1), tI (gI y3 2), tI (gI y3 3)]) fun y9 => cnd (List.length y9 = (1:Nat)) (cnd (okI y9 0) (cnd (decide (gI y9 0 ≥ (0:Int)) = true) (some [tI (9:Int)]) (again2
  ([AV.t (tI (w64 ((vI p1 0) + (1:Int))))], []))) none) none) none) none) none) none) none) (again2 ([AV.t (tI (w64 ((vI p1 0) + (1:Int))))], [])))) none) none) none)) none) none) none) none) none)
  none) none) (some [tI (0:Int)])
theorem e26 (n : Nat) (a0 : List (List Tree)) : apure C (n + 1) 26 [Tree.sl (4:Nat) a0] =
  cnd (decide (((List.length a0:Nat):Int) > (64:Int)) = true) (some [tI (4:Int)]) (loopIter (fun (p1 : List AV × Heap) (again2 : _ → Option (List Tree)) => L26_1 n a0 p1 again2) n ([AV.t (tI (0:Int))],
  [])) := by kernel_rfl

noncomputable def L27_1 (n : Nat) (a0 : List (List Tree)) (p1 : List AV × Heap) (again2 : (List AV × Heap) → Option (List Tree)) : Option (List Tree) :=
  cnd (decide (vI p1 0 < ((List.length a0:Nat):Int)) = true) (cnd ((4:Nat) = (4:Nat) ∧ (0:Int) ≤ vI p1 0) (Option.bind a0[Int.toNat (vI p1 0)]? fun y3 => cnd (okI y3 0) (cnd (okI y3 1) (cnd (okI y3 2)
  (cnd (okI y3 3) (Option.bind (apure C n (49:Nat) [tI (gI y3 0), tI (gI y3 1), tI (gI y3 2), tI (gI y3 3)]) fun y4 => cnd (List.length y4 = (1:Nat)) (cnd (okB y4 0) (cnd ((!(gB y4 0)) = true) (some [tI
  (2:Int)]) (cnd ((0:Int) ≤ vI p1 0 ∧ vI p1 0 ≤ ((List.length a0:Nat):Int)) (cnd ((4:Nat) = (4:Nat) ∧ (0:Int) ≤ vI p1 0) (Option.bind a0[Int.toNat (vI p1 0)]? fun y5 => cnd (okI y5 0) (Option.bind
  (apure C n (50:Nat) [Tree.sl (4:Nat) (List.take (Int.toNat (vI p1 0)) a0), tI (gI y5 0)]) fun y6 => cnd (List.length y6 = (1:Nat)) (cnd (okB y6 0) (cnd (gB y6 0 = true) (some [tI (6:Int)]) (cnd
  (decide (vI p1 0 > (0:Int)) = true) (cnd ((4:Nat) = (4:Nat) ∧ (0:Int) ≤ w64 ((vI p1 0) - (1:Int))) (Option.bind a0[Int.toNat (w64 ((vI p1 0) - (1:Int)))]? fun y9 => cnd (okI y9 0) (cnd (okI y9 1) (cnd
  (okI y9 2) (cnd (okI y9 3) (cnd ((4:Nat) = (4:Nat) ∧ (0:Int) ≤ vI p1 0) (Option.bind a0[Int.toNat (vI p1 0)]? fun y10 => cnd (okI y10 0) (cnd (okI y10 1) (cnd (okI y10 2) (cnd (okI y10 3) (Option.bind
  (apure C n (53:Nat) [tI (gI y9 0), tI (gI y9 1), tI (gI y9 2), tI (gI y9 3), tI (gI y10 0), tI (gI y10 1), tI (gI y10 2), tI (gI y10 3)]) fun y11 => cnd (List.length y11 = (1:Nat)) (cnd (okB y11 0)
  (cnd ((!(gB y11 0)) = true) (some [tI (9:Int)]) (again2 ([AV.t (tI (w64 ((vI p1 0) + (1:Int))))], []))) none) none) none) none) none) none) none) none) none) none) none) none) (again2 ([AV.t (tI (w64
  ((vI p1 0) + (1:Int))))], [])))) none) none) none) none) none)) none) none) none) none) none) none) none) (some [tI (0:Int)])
theorem e27 (n : Nat) (a0 : List (List Tree)) : apure C (n + 1) 27 [Tree.sl (4:Nat) a0] =
  cnd (decide (((List.length a0:Nat):Int) > (64:Int)) = true) (some [tI (4:Int)]) (loopIter (fun (p1 : List AV × Heap) (again2 : _ → Option (List Tree)) => L27_1 n a0 p1 again2) n ([AV.t (tI (0:Int))],
  [])) := by kernel_rfl

noncomputable def L28_1 (n : Nat) (a0 : List (List Tree)) (a1 : List (List Tree)) (p2 : List AV × Heap) (again3 : (List AV × Heap) → Option (List Tree)) : Option (List Tree) :=
  cnd (decide (vI p2 0 < ((List.length a0:Nat):Int)) = true) (cnd ((4:Nat) = (4:Nat) ∧ (0:Int) ≤ vI p2 0) (Option.bind a0[Int.toNat (vI p2 0)]? fun y4 => cnd (okI y4 0) (cnd (okI y4 1) (cnd (okI y4 2)
  (cnd (okI y4 3) (cnd ((4:Nat) = (4:Nat) ∧ (0:Int) ≤ vI p2 0) (Option.bind a1[Int.toNat (vI p2 0)]? fun y5 => cnd (okI y5 0) (cnd (okI y5 1) (cnd (okI y5 2) (cnd (okI y5 3) (cnd ((!(((((gI y4 0) == (gI
  y5 0)) && ((gI y4 1) == (gI y5 1))) && ((gI y4 2) == (gI y5 2))) && ((gI y4 3) == (gI y5 3)))) = true) (some [Tree.bool false]) (again3 ([AV.t (tI (w64 ((vI p2 0) + (1:Int))))], []))) none) none)
  none) none) none) none) none) none) none) none) (some [Tree.bool true])
theorem e28 (n : Nat) (a0 : List (List Tree)) (a1 : List (List Tree)) : apure C (n + 1) 28 [Tree.sl (4:Nat) a0, Tree.sl (4:Nat) a1] =
  cnd ((((List.length a0:Nat):Int) != ((List.length a1:Nat):Int)) = true) (some [Tree.bool false]) (loopIter (fun (p2 : List AV × Heap) (again3 : _ → Option (List Tree)) => L28_1 n a0 a1 p2 again3) n
  ([AV.t (tI (0:Int))], [])) := by kernel_rfl

noncomputable def L29_1 (n : Nat) (y2 : List Tree) (a1 : Int) (again4 : (List AV × Heap) → Option (List Tree)) (p5 : List AV × Heap) (again6 : (List AV × Heap) → Option (List Tree)) : Option (List Tree) :=
  cnd (decide (vI p5 0 < ((List.length (gL y2 0):Nat):Int)) = true) (cnd (oVer p5 0 = (0:Nat) ∧ (4:Nat) = (4:Nat) ∧ (0:Int) ≤ vI p5 0 ∧ vI p5 0 < ((List.length (gL y2 0):Nat):Int)) (cnd (oVer p5 0 =
  (0:Nat)) (Option.bind (oEs p5 0)[(0:Nat) + (Int.toNat (vI p5 0))]? fun y7 => cnd (okI y7 0) (cnd (okI y7 1) (cnd (okI y7 2) (cnd (okI y7 3) (cnd (((gI y7 0) == a1) = true) (again4 ([AV.t (tI (vI p5
  0))], [AObj.row false (oVer p5 0) (4:Nat) (oEs p5 0)])) (again6 ([AV.t (tI (w64 ((vI p5 0) + (1:Int))))], [AObj.row false (oVer p5 0) (4:Nat) (oEs p5 0)]))) none) none) none) none) none) none) (again4
  ([AV.t (tI (-1:Int))], [AObj.row false (oVer p5 0) (4:Nat) (oEs p5 0)]))

noncomputable def L29_2 (n : Nat) (y2 : List Tree) (a1 : Int) (p10 : List AV × Heap) (again11 : (List AV × Heap) → Option (List Tree)) : Option (List Tree) :=
  cnd (oVer p10 0 = (0:Nat)) (cnd (decide (vI p10 1 < ((List.length (gL y2 0):Nat):Int)) = true) (cnd (oVer p10 0 = (0:Nat) ∧ (4:Nat) = (4:Nat) ∧ (0:Int) ≤ vI p10 1 ∧ vI p10 1 < ((List.length (gL y2
  0):Nat):Int)) (cnd (oVer p10 0 = (0:Nat)) (Option.bind (oEs p10 0)[(0:Nat) + (Int.toNat (vI p10 1))]? fun y12 => cnd (okI y12 0) (cnd (okI y12 1) (cnd (okI y12 2) (cnd (okI y12 3) (cnd ((!((gI y12 0)
  == a1)) = true) (cnd (oVer p10 0 = (0:Nat) ∧ (4:Nat) = (4:Nat) ∧ (0:Int) ≤ vI p10 0 ∧ vI p10 0 < ((List.length (gL y2 0):Nat):Int)) (cnd (oVer p10 0 = (0:Nat) ∧ (4:Nat) ≤ (4:Nat)) (Option.bind (oEs
  p10 0)[(0:Nat) + (Int.toNat (vI p10 0))]? fun y17 => again11 ([AV.t (tI (w64 ((vI p10 0) + (1:Int)))), AV.t (tI (w64 ((vI p10 1) + (1:Int))))], [AObj.row false (0:Nat) (4:Nat) (List.set (oEs p10 0)
  ((0:Nat) + (Int.toNat (vI p10 0))) ([tI (gI y12 0), tI (gI y12 1), tI (gI y12 2), tI (gI y12 3)] ++ List.drop (4:Nat) y17))])) none) none) (again11 ([AV.t (tI (vI p10 0)), AV.t (tI (w64 ((vI p10 1) +
  (1:Int))))], [AObj.row false (oVer p10 0) (4:Nat) (oEs p10 0)]))) none) none) none) none) none) none) (cnd (oVer p10 0 = (0:Nat) ∧ ((4:Nat) = (4:Nat) ∨ (4:Nat) = (0:Nat))) (cnd ((0:Int) ≤ vI p10 0 ∧
  vI p10 0 ≤ ((List.length (gL y2 0):Nat):Int)) (cnd (Int.toNat (vI p10 0) < List.length (oEs p10 0) ∨ Int.toNat (vI p10 0) = (0:Nat)) (cnd (oVer p10 0 = (0:Nat) ∧ (4:Nat) = (4:Nat)) (cnd ((0:Int) ≤ vI
  p10 0 ∧ vI p10 0 ≤ ((List.length (rowSet (oEs p10 0) ((0:Nat) + (Int.toNat (vI p10 0))) (List.replicate ((List.length (gL y2 0)) - (Int.toNat (vI p10 0))) [tI (0:Int), tI (0:Int), tI (0:Int), tI
  (0:Int)])):Nat):Int)) (cnd ((0:Nat) < List.length (rowSet (oEs p10 0) ((0:Nat) + (Int.toNat (vI p10 0))) (List.replicate ((List.length (gL y2 0)) - (Int.toNat (vI p10 0))) [tI (0:Int), tI (0:Int), tI
  (0:Int), tI (0:Int)])) ∨ (0:Nat) = (0:Nat)) (some [Tree.sl (4:Nat) (List.take (Int.toNat (vI p10 0)) (rowSet (oEs p10 0) ((0:Nat) + (Int.toNat (vI p10 0))) (List.replicate ((List.length (gL y2 0)) -
  (Int.toNat (vI p10 0))) [tI (0:Int), tI (0:Int), tI (0:Int), tI (0:Int)])))]) (some [Tree.sl (4:Nat) []])) none) none) (cnd (oVer p10 0 = (0:Nat) ∧ ((4:Nat) = (4:Nat) ∨ (4:Nat) = (0:Nat))) (cnd
  ((0:Int) ≤ vI p10 0 ∧ vI p10 0 ≤ ((List.length (oEs p10 0):Nat):Int)) (cnd ((0:Nat) < List.length (oEs p10 0) ∨ (0:Nat) = (0:Nat)) (cnd ((false = true ∨ false = false) ∧ oVer p10 0 = (0:Nat) ∧
  ((4:Nat) = (4:Nat) ∨ (4:Nat) = (0:Nat))) (some [Tree.sl (4:Nat) (List.take (Int.toNat (vI p10 0)) (oEs p10 0))]) none) (some [Tree.sl (4:Nat) []])) none) none)) none) none)) none

noncomputable def J29_3 (n : Nat) (y2 : List Tree) (a1 : Int) (p3 : List AV × Heap) : Option (List Tree) :=
  cnd (((vI p3 0) == (-1:Int)) = true) (cnd ((false = true ∨ false = false) ∧ oVer p3 0 = (0:Nat) ∧ ((4:Nat) = (4:Nat) ∨ (4:Nat) = (0:Nat))) (some [Tree.sl (4:Nat) (List.take (List.length (gL y2 0))
  (oEs p3 0))]) none) (loopIter (fun (p10 : List AV × Heap) (again11 : _ → Option (List Tree)) => L29_2 n y2 a1 p10 again11) n ([AV.t (tI (vI p3 0)), AV.t (tI (w64 ((vI p3 0) + (1:Int))))], [AObj.row
  false (oVer p3 0) (4:Nat) (oEs p3 0)]))
theorem e29 (n : Nat) (a0 : List (List Tree)) (a1 : Int) : apure C (n + 1) 29 [Tree.sl (4:Nat) a0, tI a1] =
  Option.bind (apure C n (1000048:Nat) [Tree.sl (4:Nat) a0]) fun y2 => cnd (List.length y2 = (1:Nat) ∧ okL 4 y2 0) (join (fun (p3 : List AV × Heap) => J29_3 n y2 a1 p3) fun (again4 : _ → Option (List
  Tree)) => loopIter (fun (p5 : List AV × Heap) (again6 : _ → Option (List Tree)) => L29_1 n y2 a1 again4 p5 again6) n ([AV.t (tI (0:Int))], [AObj.row false (0:Nat) (4:Nat) (gL y2 0)])) none := by kernel_rfl

noncomputable def L30_1 (n : Nat) (a0 : List (List Tree)) (a1 : Int) (p2 : List AV × Heap) (again3 : (List AV × Heap) → Option (List Tree)) : Option (List Tree) :=
  cnd (decide (vI p2 1 < ((List.length a0:Nat):Int)) = true) (cnd ((4:Nat) = (4:Nat) ∧ (0:Int) ≤ vI p2 1) (Option.bind a0[Int.toNat (vI p2 1)]? fun y4 => cnd (okI y4 0) (cnd (((gI y4 0) != a1) = true)
  (cnd ((4:Nat) = (4:Nat) ∧ (0:Int) ≤ vI p2 1) (Option.bind a0[Int.toNat (vI p2 1)]? fun y7 => cnd (okI y7 0) (cnd (okI y7 1) (cnd (okI y7 2) (cnd (okI y7 3) (cnd (oVer p2 0 = sVer p2 0 ∧ ((4:Nat) =
  (4:Nat) ∨ (4:Nat) = (0:Nat)) ∧ (sOff p2 0) + (sLen p2 0) ≤ List.length (oEs p2 0) ∧ (sLen p2 0) + (1:Nat) ≤ (1073741824:Nat)) (again3 ([AV.sref (0:Nat) ((sVer p2 0) + (1:Nat)) (0:Nat) ((sLen p2 0) +
  (1:Nat)), AV.t (tI (w64 ((vI p2 1) + (1:Int))))], [AObj.row false ((sVer p2 0) + (1:Nat)) (4:Nat) ((List.take (sLen p2 0) (List.drop (sOff p2 0) (oEs p2 0))) ++ [[tI (gI y7 0), tI (gI y7 1), tI (gI y7
  2), tI (gI y7 3)]])])) none) none) none) none) none) none) (again3 ([AV.sref (0:Nat) (sVer p2 0) (sOff p2 0) (sLen p2 0), AV.t (tI (w64 ((vI p2 1) + (1:Int))))], [AObj.row false (oVer p2 0) (4:Nat)
  (oEs p2 0)]))) none) none) (cnd ((false = true ∨ false = false) ∧ oVer p2 0 = sVer p2 0 ∧ ((4:Nat) = (4:Nat) ∨ (4:Nat) = (0:Nat))) (some [Tree.sl (4:Nat) (List.take (sLen p2 0) (List.drop (sOff p2 0)
  (oEs p2 0)))]) none)
theorem e30 (n : Nat) (a0 : List (List Tree)) (a1 : Int) : apure C (n + 1) 30 [Tree.sl (4:Nat) a0, tI a1] =
  loopIter (fun (p2 : List AV × Heap) (again3 : _ → Option (List Tree)) => L30_1 n a0 a1 p2 again3) n ([AV.sref (0:Nat) (0:Nat) (0:Nat) (0:Nat), AV.t (tI (0:Int))], [AObj.row false (0:Nat) (4:Nat) []]) := by kernel_rfl

noncomputable def L33_1 (n : Nat) (a0 : List (List Tree)) (p1 : List AV × Heap) (again2 : (List AV × Heap) → Option (List Tree)) : Option (List Tree) :=
  cnd (decide (vI p1 1 < ((List.length a0:Nat):Int)) = true) (cnd ((4:Nat) = (4:Nat) ∧ (0:Int) ≤ vI p1 1) (Option.bind a0[Int.toNat (vI p1 1)]? fun y3 => cnd (okI y3 0) (cnd (okI y3 1) (cnd (okI y3 2)
  (cnd (okI y3 3) (Option.bind (apure C n (17:Nat) [Tree.sl (4:Nat) (vL p1 0), tI (gI y3 0), tI (gI y3 1), tI (gI y3 2), tI (gI y3 3)]) fun y4 => cnd (List.length y4 = (2:Nat)) (cnd (okL 4 y4 0) (cnd
  (okI y4 1) (cnd (((gI y4 1) == (0:Int)) = true) (again2 ([AV.t (Tree.sl (4:Nat) (gL y4 0)), AV.t (tI (w64 ((vI p1 1) + (1:Int))))], [])) (again2 ([AV.t (Tree.sl (4:Nat) (vL p1 0)), AV.t (tI (w64 ((vI
  p1 1) + (1:Int))))], []))) none) none) none) none) none) none) none) none) (some [Tree.sl (4:Nat) (vL p1 0)])
theorem e33 (n : Nat) (a0 : List (List Tree)) : apure C (n + 1) 33 [Tree.sl (4:Nat) a0] =
  loopIter (fun (p1 : List AV × Heap) (again2 : _ → Option (List Tree)) => L33_1 n a0 p1 again2) n ([AV.t (Tree.sl (4:Nat) []), AV.t (tI (0:Int))], []) := by kernel_rfl

theorem e35 (n : Nat) (a0 : List (List Tree)) (a1 : Int) (a2 : Int) (a3 : Int) (a4 : Int) : apure C (n + 1) 35 [Tree.sl (4:Nat) a0, tI a1, tI a2, tI a3, tI a4] =
  Option.bind (apure C n (56:Nat) [Tree.sl (4:Nat) a0, tI a1, tI a2, tI a3, tI a4]) fun y5 => cnd (List.length y5 = (1:Nat)) (cnd (okI y5 0) (some [Tree.bool (decide (gI y5 0 ≥ (0:Int)))]) none) none := by kernel_rfl

noncomputable def L36_7 (n : Nat) (p22 : List AV × Heap) (a0 : List (List Tree)) (y24 : List Tree) (again34 : (List AV × Heap) → Option (List Tree)) (p35 : List AV × Heap) (again36 : (List AV × Heap) → Option (List Tree)) : Option (List Tree) :=
  cnd (decide (vI p35 0 < ((List.length (List.take (Int.toNat (vI p22 0)) a0):Nat):Int)) = true) (cnd ((5:Nat) = (5:Nat) ∧ (0:Int) ≤ vI p35 0) (Option.bind (List.take (Int.toNat (vI p22 0))
  a0)[Int.toNat (vI p35 0)]? fun y37 => cnd (okI y37 0) (cnd (okI y37 1) (cnd (okI y37 2) (cnd (okI y37 3) (cnd (okI y37 4) (cnd (((gI y37 1) == (gI y24 1)) = true) (again34 ([AV.t (tI (vI p35 0))],
  [AObj.box []])) (again36 ([AV.t (tI (w64 ((vI p35 0) + (1:Int))))], [AObj.box []]))) none) none) none) none) none) none) (again34 ([AV.t (tI (-1:Int))], [AObj.box []]))

noncomputable def J36_8 (n : Nat) (again32 : (List AV × Heap) → Option (List Tree)) (p33 : List AV × Heap) : Option (List Tree) :=
  again32 ([AV.t (Tree.bool (decide (vI p33 0 ≥ (0:Int))))], [AObj.box []])

noncomputable def J36_9 (n : Nat) (again23 : (List AV × Heap) → Option (List Tree)) (p22 : List AV × Heap) (p31 : List AV × Heap) : Option (List Tree) :=
  cnd (vB p31 0 = true) (some [tI (6:Int)]) (again23 ([AV.t (tI (w64 ((vI p22 0) + (1:Int))))], []))

noncomputable def J36_10 (n : Nat) (p22 : List AV × Heap) (a0 : List (List Tree)) (again23 : (List AV × Heap) → Option (List Tree)) (y24 : List Tree) (p28 : List AV × Heap) : Option (List Tree) :=
  cnd (vB p28 0 = true) (some [tI (9:Int)]) (cnd ((0:Int) ≤ vI p22 0 ∧ vI p22 0 ≤ ((List.length a0:Nat):Int)) (join (fun (p31 : List AV × Heap) => J36_9 n again23 p22 p31) fun (again32 : _ → Option
  (List Tree)) => join (fun (p33 : List AV × Heap) => J36_8 n again32 p33) fun (again34 : _ → Option (List Tree)) => loopIter (fun (p35 : List AV × Heap) (again36 : _ → Option (List Tree)) => L36_7 n
  p22 a0 y24 again34 p35 again36) n ([AV.t (tI (0:Int))], [AObj.box []])) none)

noncomputable def J36_11 (n : Nat) (p22 : List AV × Heap) (a0 : List (List Tree)) (again23 : (List AV × Heap) → Option (List Tree)) (y24 : List Tree) (p25 : List AV × Heap) : Option (List Tree) :=
  cnd (vB p25 0 = true) (some [tI (2:Int)]) (join (fun (p28 : List AV × Heap) => J36_10 n p22 a0 again23 y24 p28) fun (again29 : _ → Option (List Tree)) => cnd (decide (vI p22 0 > (0:Int)) = true) (cnd
  ((5:Nat) = (5:Nat) ∧ (0:Int) ≤ w64 ((vI p22 0) - (1:Int))) (Option.bind a0[Int.toNat (w64 ((vI p22 0) - (1:Int)))]? fun y30 => cnd (okI y30 0) (again29 ([AV.t (Tree.bool (decide (gI y24 0 < gI y30
  0)))], [AObj.box []])) none) none) (again29 ([AV.t (Tree.bool false)], [AObj.box []])))

noncomputable def L36_12 (n : Nat) (a0 : List (List Tree)) (p22 : List AV × Heap) (again23 : (List AV × Heap) → Option (List Tree)) : Option (List Tree) :=
  cnd (decide (vI p22 0 < ((List.length a0:Nat):Int)) = true) (cnd ((5:Nat) = (5:Nat) ∧ (0:Int) ≤ vI p22 0) (Option.bind a0[Int.toNat (vI p22 0)]? fun y24 => cnd (okI y24 0) (cnd (okI y24 1) (cnd (okI
  y24 2) (cnd (okI y24 3) (cnd (okI y24 4) (join (fun (p25 : List AV × Heap) => J36_11 n p22 a0 again23 y24 p25) fun (again26 : _ → Option (List Tree)) => cnd (decide (gI y24 0 < (0:Int)) = true)
  (again26 ([AV.t (Tree.bool true)], [AObj.box []])) (cnd (decide (gI y24 0 > (1099511627776:Int)) = true) (again26 ([AV.t (Tree.bool true)], [AObj.box []])) (Option.bind (apure C n (43:Nat) [tI (gI y24
  1), tI (gI y24 2), tI (gI y24 3), tI (gI y24 4)]) fun y27 => cnd (List.length y27 = (1:Nat)) (cnd (okB y27 0) (again26 ([AV.t (Tree.bool (!(gB y27 0)))], [AObj.box []])) none) none))) none) none)
  none) none) none) none) (some [tI (0:Int)])
theorem e36 (n : Nat) (a0 : List (List Tree)) (a1 : Int) : apure C (n + 1) 36 [Tree.sl (5:Nat) a0, tI a1] =
  cnd (decide (a1 < (1:Int)) = true) (some [tI (2:Int)]) (cnd (decide (a1 > (1000:Int)) = true) (some [tI (2:Int)]) (cnd (decide (((List.length a0:Nat):Int) > (64:Int)) = true) (some [tI (4:Int)])
  (loopIter (fun (p22 : List AV × Heap) (again23 : _ → Option (List Tree)) => L36_12 n a0 p22 again23) n ([AV.t (tI (0:Int))], [])))) := by kernel_rfl

noncomputable def L40_2 (n : Nat) (p1 : List AV × Heap) (a0 : List (List Tree)) (again2 : (List AV × Heap) → Option (List Tree)) (p17 : List AV × Heap) (again18 : (List AV × Heap) → Option (List Tree)) : Option (List Tree) :=
  cnd (decide (vI p17 0 < vI p1 0) = true) (cnd ((5:Nat) = (5:Nat) ∧ (0:Int) ≤ vI p17 0) (Option.bind a0[Int.toNat (vI p17 0)]? fun y19 => cnd (okI y19 1) (cnd ((5:Nat) = (5:Nat) ∧ (0:Int) ≤ vI p1 0)
  (Option.bind a0[Int.toNat (vI p1 0)]? fun y20 => cnd (okI y20 1) (cnd (((gI y19 1) == (gI y20 1)) = true) (some [tI (6:Int)]) (again18 ([AV.t (tI (w64 ((vI p17 0) + (1:Int))))], []))) none) none)
  none) none) (again2 ([AV.t (tI (w64 ((vI p1 0) + (1:Int))))], []))

noncomputable def L40_3 (n : Nat) (p1 : List AV × Heap) (a0 : List (List Tree)) (again2 : (List AV × Heap) → Option (List Tree)) (p21 : List AV × Heap) (again22 : (List AV × Heap) → Option (List Tree)) : Option (List Tree) :=
  cnd (decide (vI p21 0 < vI p1 0) = true) (cnd ((5:Nat) = (5:Nat) ∧ (0:Int) ≤ vI p21 0) (Option.bind a0[Int.toNat (vI p21 0)]? fun y23 => cnd (okI y23 1) (cnd ((5:Nat) = (5:Nat) ∧ (0:Int) ≤ vI p1 0)
  (Option.bind a0[Int.toNat (vI p1 0)]? fun y24 => cnd (okI y24 1) (cnd (((gI y23 1) == (gI y24 1)) = true) (some [tI (6:Int)]) (again22 ([AV.t (tI (w64 ((vI p21 0) + (1:Int))))], []))) none) none)
  none) none) (again2 ([AV.t (tI (w64 ((vI p1 0) + (1:Int))))], []))

noncomputable def J40_4 (n : Nat) (p1 : List AV × Heap) (a0 : List (List Tree)) (again2 : (List AV × Heap) → Option (List Tree)) (p3 : List AV × Heap) : Option (List Tree) :=
  cnd (vB p3 0 = true) (some [tI (2:Int)]) (cnd (decide (vI p1 0 > (0:Int)) = true) (cnd ((5:Nat) = (5:Nat) ∧ (0:Int) ≤ vI p1 0) (Option.bind a0[Int.toNat (vI p1 0)]? fun y11 => cnd (okI y11 0) (cnd
  ((5:Nat) = (5:Nat) ∧ (0:Int) ≤ w64 ((vI p1 0) - (1:Int))) (Option.bind a0[Int.toNat (w64 ((vI p1 0) - (1:Int)))]? fun y12 => cnd (okI y12 0) (cnd (decide (gI y11 0 < gI y12 0) = true) (some [tI
  (9:Int)]) (loopIter (fun (p17 : List AV × Heap) (again18 : _ → Option (List Tree)) => L40_2 n p1 a0 again2 p17 again18) n ([AV.t (tI (0:Int))], []))) none) none) none) none) (loopIter (fun (p21 : List
  AV × Heap) (again22 : _ → Option (List Tree)) => L40_3 n p1 a0 again2 p21 again22) n ([AV.t (tI (0:Int))], [])))

noncomputable def L40_5 (n : Nat) (a0 : List (List Tree)) (p1 : List AV × Heap) (again2 : (List AV × Heap) → Option (List Tree)) : Option (List Tree) :=
  cnd (decide (vI p1 0 < ((List.length a0:Nat):Int)) = true) (join (fun (p3 : List AV × Heap) => J40_4 n p1 a0 again2 p3) fun (again4 : _ → Option (List Tree)) => cnd ((5:Nat) = (5:Nat) ∧ (0:Int) ≤ vI
  p1 0) (Option.bind a0[Int.toNat (vI p1 0)]? fun y5 => cnd (okI y5 0) (cnd (decide (gI y5 0 < (0:Int)) = true) (again4 ([AV.t (Tree.bool true)], [])) (cnd ((5:Nat) = (5:Nat) ∧ (0:Int) ≤ vI p1 0)
  (Option.bind a0[Int.toNat (vI p1 0)]? fun y6 => cnd (okI y6 0) (cnd (decide (gI y6 0 > (1099511627776:Int)) = true) (again4 ([AV.t (Tree.bool true)], [])) (cnd ((5:Nat) = (5:Nat) ∧ (0:Int) ≤ vI p1 0)
  (Option.bind a0[Int.toNat (vI p1 0)]? fun y7 => cnd (okI y7 1) (cnd (okI y7 2) (cnd (okI y7 3) (cnd (okI y7 4) (Option.bind (apure C n (49:Nat) [tI (gI y7 1), tI (gI y7 2), tI (gI y7 3), tI (gI y7
  4)]) fun y8 => cnd (List.length y8 = (1:Nat)) (cnd (okB y8 0) (again4 ([AV.t (Tree.bool (!(gB y8 0)))], [])) none) none) none) none) none) none) none)) none) none)) none) none) (some [tI (0:Int)])
theorem e40 (n : Nat) (a0 : List (List Tree)) : apure C (n + 1) 40 [Tree.sl (5:Nat) a0] =
  cnd (decide (((List.length a0:Nat):Int) > (64:Int)) = true) (some [tI (4:Int)]) (loopIter (fun (p1 : List AV × Heap) (again2 : _ → Option (List Tree)) => L40_5 n a0 p1 again2) n ([AV.t (tI (0:Int))],
  [])) := by kernel_rfl

noncomputable def J41_1 (n : Nat) (p5 : List AV × Heap) (a0 : List (List Tree)) (again6 : (List AV × Heap) → Option (List Tree)) (a1 : Int) (a2 : Int) (a3 : Int) (a4 : Int) (p7 : List AV × Heap) : Option (List Tree) :=
  cnd (vB p7 0 = true) (cnd ((4:Nat) = (4:Nat) ∧ (0:Int) ≤ vI p5 1) (Option.bind a0[Int.toNat (vI p5 1)]? fun y11 => cnd (okI y11 0) (cnd (okI y11 1) (cnd (okI y11 2) (cnd (okI y11 3) (cnd (oVer p7 0 =
  sVer p5 0 ∧ ((4:Nat) = (4:Nat) ∨ (4:Nat) = (0:Nat)) ∧ (sOff p5 0) + (sLen p5 0) ≤ List.length (oEs p7 0) ∧ (sLen p5 0) + (1:Nat) ≤ (1073741824:Nat)) (again6 ([AV.sref (0:Nat) ((sVer p5 0) + (1:Nat))
  (0:Nat) ((sLen p5 0) + (1:Nat)), AV.t (tI (w64 ((vI p5 1) + (1:Int))))], [AObj.row false ((sVer p5 0) + (1:Nat)) (4:Nat) ((List.take (sLen p5 0) (List.drop (sOff p5 0) (oEs p7 0))) ++ [[tI (gI y11 0),
  tI (gI y11 1), tI (gI y11 2), tI (gI y11 3)]])])) none) none) none) none) none) none) (cnd (oVer p7 0 = sVer p5 0 ∧ ((4:Nat) = (4:Nat) ∨ (4:Nat) = (0:Nat)) ∧ (sOff p5 0) + (sLen p5 0) ≤ List.length
  (oEs p7 0) ∧ (sLen p5 0) + (1:Nat) ≤ (1073741824:Nat)) (cnd ((0:Int) ≤ vI p5 1 ∧ vI p5 1 ≤ ((List.length a0:Nat):Int)) (cnd (List.length (List.drop (Int.toNat (vI p5 1)) (List.take (List.length a0)
  a0)) = (0:Nat) ∧ (0:Nat) + ((sLen p5 0) + (1:Nat)) < List.length ((List.take (sLen p5 0) (List.drop (sOff p5 0) (oEs p7 0))) ++ [[tI a1, tI a2, tI a3, tI a4]])) (cnd ((sVer p5 0) + (1:Nat) = (sVer p5
  0) + (1:Nat)) (cnd ((false = true ∨ false = false) ∧ (sVer p5 0) + (1:Nat) = (sVer p5 0) + (1:Nat) ∧ ((4:Nat) = (4:Nat) ∨ (4:Nat) = (0:Nat))) (some [Tree.sl (4:Nat) (List.take ((sLen p5 0) + (1:Nat))
  ((List.take (sLen p5 0) (List.drop (sOff p5 0) (oEs p7 0))) ++ [[tI a1, tI a2, tI a3, tI a4]]))]) none) none) (cnd ((sVer p5 0) + (1:Nat) = (sVer p5 0) + (1:Nat) ∧ ((4:Nat) = (4:Nat) ∨ (4:Nat) =
  (0:Nat)) ∧ (0:Nat) + ((sLen p5 0) + (1:Nat)) ≤ List.length ((List.take (sLen p5 0) (List.drop (sOff p5 0) (oEs p7 0))) ++ [[tI a1, tI a2, tI a3, tI a4]]) ∧ ((sLen p5 0) + (1:Nat)) + (List.length
  (List.drop (Int.toNat (vI p5 1)) (List.take (List.length a0) a0))) ≤ (1073741824:Nat)) (cnd ((false = true ∨ false = false) ∧ ((sVer p5 0) + (1:Nat)) + (1:Nat) = ((sVer p5 0) + (1:Nat)) + (1:Nat) ∧
  ((4:Nat) = (4:Nat) ∨ (4:Nat) = (0:Nat))) (some [Tree.sl (4:Nat) (List.take (((sLen p5 0) + (1:Nat)) + (List.length (List.drop (Int.toNat (vI p5 1)) (List.take (List.length a0) a0)))) ((List.take
  ((sLen p5 0) + (1:Nat)) ((List.take (sLen p5 0) (List.drop (sOff p5 0) (oEs p7 0))) ++ [[tI a1, tI a2, tI a3, tI a4]])) ++ (List.drop (Int.toNat (vI p5 1)) (List.take (List.length a0) a0))))]) none)
  none)) none) none)

noncomputable def L41_2 (n : Nat) (a0 : List (List Tree)) (a1 : Int) (a2 : Int) (a3 : Int) (a4 : Int) (p5 : List AV × Heap) (again6 : (List AV × Heap) → Option (List Tree)) : Option (List Tree) :=
  join (fun (p7 : List AV × Heap) => J41_1 n p5 a0 again6 a1 a2 a3 a4 p7) fun (again8 : _ → Option (List Tree)) => cnd (decide (vI p5 1 < ((List.length a0:Nat):Int)) = true) (cnd ((4:Nat) = (4:Nat) ∧
  (0:Int) ≤ vI p5 1) (Option.bind a0[Int.toNat (vI p5 1)]? fun y9 => cnd (okI y9 0) (cnd (okI y9 1) (cnd (okI y9 2) (cnd (okI y9 3) (Option.bind (apure C n (53:Nat) [tI (gI y9 0), tI (gI y9 1), tI (gI
  y9 2), tI (gI y9 3), tI a1, tI a2, tI a3, tI a4]) fun y10 => cnd (List.length y10 = (1:Nat)) (cnd (okB y10 0) (again8 ([AV.t (Tree.bool (gB y10 0))], [AObj.row false (oVer p5 0) (4:Nat) (oEs p5 0)]))
  none) none) none) none) none) none) none) (again8 ([AV.t (Tree.bool false)], [AObj.row false (oVer p5 0) (4:Nat) (oEs p5 0)]))
theorem e41 (n : Nat) (a0 : List (List Tree)) (a1 : Int) (a2 : Int) (a3 : Int) (a4 : Int) : apure C (n + 1) 41 [Tree.sl (4:Nat) a0, tI a1, tI a2, tI a3, tI a4] =
  loopIter (fun (p5 : List AV × Heap) (again6 : _ → Option (List Tree)) => L41_2 n a0 a1 a2 a3 a4 p5 again6) n ([AV.sref (0:Nat) (0:Nat) (0:Nat) (0:Nat), AV.t (tI (0:Int))], [AObj.row false (0:Nat)
  (4:Nat) []]) := by kernel_rfl

noncomputable def L42_1 (n : Nat) (a0 : List (List Tree)) (a1 : Int) (p2 : List AV × Heap) (again3 : (List AV × Heap) → Option (List Tree)) : Option (List Tree) :=
  cnd (decide (vI p2 1 < ((List.length a0:Nat):Int)) = true) (cnd ((4:Nat) = (4:Nat) ∧ (0:Int) ≤ vI p2 1) (Option.bind a0[Int.toNat (vI p2 1)]? fun y4 => cnd (okI y4 2) (cnd (decide (gI y4 2 > a1) =
  true) (cnd ((4:Nat) = (4:Nat) ∧ (0:Int) ≤ vI p2 1) (Option.bind a0[Int.toNat (vI p2 1)]? fun y7 => cnd (okI y7 0) (cnd (okI y7 1) (cnd (okI y7 2) (cnd (okI y7 3) (cnd (oVer p2 0 = sVer p2 0 ∧ ((4:Nat)
  = (4:Nat) ∨ (4:Nat) = (0:Nat)) ∧ (sOff p2 0) + (sLen p2 0) ≤ List.length (oEs p2 0) ∧ (sLen p2 0) + (1:Nat) ≤ (1073741824:Nat)) (again3 ([AV.sref (0:Nat) ((sVer p2 0) + (1:Nat)) (0:Nat) ((sLen p2 0) +
  (1:Nat)), AV.t (tI (w64 ((vI p2 1) + (1:Int))))], [AObj.row false ((sVer p2 0) + (1:Nat)) (4:Nat) ((List.take (sLen p2 0) (List.drop (sOff p2 0) (oEs p2 0))) ++ [[tI (gI y7 0), tI (gI y7 1), tI (gI y7
  2), tI (gI y7 3)]])])) none) none) none) none) none) none) (again3 ([AV.sref (0:Nat) (sVer p2 0) (sOff p2 0) (sLen p2 0), AV.t (tI (w64 ((vI p2 1) + (1:Int))))], [AObj.row false (oVer p2 0) (4:Nat)
  (oEs p2 0)]))) none) none) (cnd ((false = true ∨ false = false) ∧ oVer p2 0 = sVer p2 0 ∧ ((4:Nat) = (4:Nat) ∨ (4:Nat) = (0:Nat))) (some [Tree.sl (4:Nat) (List.take (sLen p2 0) (List.drop (sOff p2 0)
  (oEs p2 0)))]) none)
theorem e42 (n : Nat) (a0 : List (List Tree)) (a1 : Int) : apure C (n + 1) 42 [Tree.sl (4:Nat) a0, tI a1] =
  loopIter (fun (p2 : List AV × Heap) (again3 : _ → Option (List Tree)) => L42_1 n a0 a1 p2 again3) n ([AV.sref (0:Nat) (0:Nat) (0:Nat) (0:Nat), AV.t (tI (0:Int))], [AObj.row false (0:Nat) (4:Nat) []]) := by kernel_rfl

theorem e43 (n : Nat) (a0 : Int) (a1 : Int) (a2 : Int) (a3 : Int) : apure C (n + 1) 43 [tI a0, tI a1, tI a2, tI a3] =
  cnd (decide (a0 ≥ (0:Int)) = true) (cnd (decide (a0 ≤ (1152921504606846976:Int)) = true) (cnd (decide (a1 ≥ (0:Int)) = true) (cnd (decide (a1 ≤ (2:Int)) = true) (cnd (decide (a2 ≥ (0:Int)) = true)
  (cnd (decide (a2 ≤ (1099511627776:Int)) = true) (cnd (decide (a3 ≥ (1:Int)) = true) (some [Tree.bool (decide (a3 ≤ (65536:Int)))]) (some [Tree.bool false])) (some [Tree.bool false])) (some [Tree.bool
  false])) (some [Tree.bool false])) (some [Tree.bool false])) (some [Tree.bool false])) (some [Tree.bool false]) := by kernel_rfl

noncomputable def L44_1 (n : Nat) (a0 : List (List Tree)) (a1 : Int) (again5 : (List AV × Heap) → Option (List Tree)) (p6 : List AV × Heap) (again7 : (List AV × Heap) → Option (List Tree)) : Option (List Tree) :=
  cnd (decide (vI p6 0 < ((List.length a0:Nat):Int)) = true) (cnd ((4:Nat) = (4:Nat) ∧ (0:Int) ≤ vI p6 0) (Option.bind a0[Int.toNat (vI p6 0)]? fun y8 => cnd (okI y8 0) (cnd (okI y8 1) (cnd (okI y8 2)
  (cnd (okI y8 3) (cnd (((gI y8 0) == a1) = true) (again5 ([AV.t (tI (vI p6 0))], [])) (again7 ([AV.t (tI (w64 ((vI p6 0) + (1:Int))))], []))) none) none) none) none) none) (again5 ([AV.t (tI
  (-1:Int))], []))

noncomputable def J44_2 (n : Nat) (again3 : (List AV × Heap) → Option (List Tree)) (p4 : List AV × Heap) : Option (List Tree) :=
  again3 ([AV.t (Tree.bool (decide (vI p4 0 ≥ (0:Int))))], [])

noncomputable def J44_3 (n : Nat)  (p2 : List AV × Heap) : Option (List Tree) :=
  some [Tree.bool (vB p2 0)]
theorem e44 (n : Nat) (a0 : List (List Tree)) (a1 : Int) : apure C (n + 1) 44 [Tree.sl (4:Nat) a0, tI a1] =
  join (fun (p2 : List AV × Heap) => J44_3 n p2) fun (again3 : _ → Option (List Tree)) => join (fun (p4 : List AV × Heap) => J44_2 n again3 p4) fun (again5 : _ → Option (List Tree)) => loopIter (fun (p6
  : List AV × Heap) (again7 : _ → Option (List Tree)) => L44_1 n a0 a1 again5 p6 again7) n ([AV.t (tI (0:Int))], []) := by kernel_rfl

theorem e46 (n : Nat) (a0 : Int) (a1 : Int) (a2 : Int) (a3 : Int) (a4 : Int) (a5 : Int) (a6 : Int) (a7 : Int) : apure C (n + 1) 46 [tI a0, tI a1, tI a2, tI a3, tI a4, tI a5, tI a6, tI a7] =
  Option.bind (apure C n (65:Nat) [tI a5, tI a1]) fun y8 => cnd (List.length y8 = (1:Nat)) (cnd (okI y8 0) (Option.bind (apure C n (65:Nat) [tI a2, tI a6]) fun y9 => cnd (List.length y9 = (1:Nat)) (cnd
  (okI y9 0) (Option.bind (apure C n (65:Nat) [tI a0, tI a4]) fun y10 => cnd (List.length y10 = (1:Nat)) (cnd (okI y10 0) (Option.bind (apure C n (64:Nat) [Tree.sl (1:Nat) [[tI (gI y8 0)], [tI (gI y9
  0)], [tI (gI y10 0)]]]) fun y11 => cnd (List.length y11 = (1:Nat)) (cnd (okI y11 0) (some [tI (gI y11 0)]) none) none) none) none) none) none) none) none := by kernel_rfl

theorem e49 (n : Nat) (a0 : Int) (a1 : Int) (a2 : Int) (a3 : Int) : apure C (n + 1) 49 [tI a0, tI a1, tI a2, tI a3] =
  cnd (decide (a0 ≥ (0:Int)) = true) (cnd (decide (a0 ≤ (1152921504606846976:Int)) = true) (cnd (decide (a1 ≥ (0:Int)) = true) (cnd (decide (a1 ≤ (2:Int)) = true) (cnd (decide (a2 ≥ (0:Int)) = true)
  (cnd (decide (a2 ≤ (1099511627776:Int)) = true) (cnd (decide (a3 ≥ (1:Int)) = true) (some [Tree.bool (decide (a3 ≤ (65536:Int)))]) (some [Tree.bool false])) (some [Tree.bool false])) (some [Tree.bool
  false])) (some [Tree.bool false])) (some [Tree.bool false])) (some [Tree.bool false])) (some [Tree.bool false]) := by kernel_rfl

noncomputable def L50_1 (n : Nat) (a0 : List (List Tree)) (a1 : Int) (p2 : List AV × Heap) (again3 : (List AV × Heap) → Option (List Tree)) : Option (List Tree) :=
  cnd (decide (vI p2 0 < ((List.length a0:Nat):Int)) = true) (cnd ((4:Nat) = (4:Nat) ∧ (0:Int) ≤ vI p2 0) (Option.bind a0[Int.toNat (vI p2 0)]? fun y4 => cnd (okI y4 0) (cnd (((gI y4 0) == a1) = true)
  (some [Tree.bool true]) (again3 ([AV.t (tI (w64 ((vI p2 0) + (1:Int))))], []))) none) none) (some [Tree.bool false])
theorem e50 (n : Nat) (a0 : List (List Tree)) (a1 : Int) : apure C (n + 1) 50 [Tree.sl (4:Nat) a0, tI a1] =
  loopIter (fun (p2 : List AV × Heap) (again3 : _ → Option (List Tree)) => L50_1 n a0 a1 p2 again3) n ([AV.t (tI (0:Int))], []) := by kernel_rfl

theorem e53 (n : Nat) (a0 : Int) (a1 : Int) (a2 : Int) (a3 : Int) (a4 : Int) (a5 : Int) (a6 : Int) (a7 : Int) : apure C (n + 1) 53 [tI a0, tI a1, tI a2, tI a3, tI a4, tI a5, tI a6, tI a7] =
  cnd ((a1 != a5) = true) (some [Tree.bool (decide (a1 > a5))]) (cnd ((a2 != a6) = true) (some [Tree.bool (decide (a2 < a6))]) (some [Tree.bool (decide (a0 < a4))])) := by kernel_rfl

noncomputable def L56_1 (n : Nat) (a0 : List (List Tree)) (a1 : Int) (a2 : Int) (a3 : Int) (a4 : Int) (p5 : List AV × Heap) (again6 : (List AV × Heap) → Option (List Tree)) : Option (List Tree) :=
  cnd (decide (vI p5 0 < ((List.length a0:Nat):Int)) = true) (cnd ((4:Nat) = (4:Nat) ∧ (0:Int) ≤ vI p5 0) (Option.bind a0[Int.toNat (vI p5 0)]? fun y7 => cnd (okI y7 0) (cnd (okI y7 1) (cnd (okI y7 2)
  (cnd (okI y7 3) (cnd (((((a1 == (gI y7 0)) && (a2 == (gI y7 1))) && (a3 == (gI y7 2))) && (a4 == (gI y7 3))) = true) (some [tI (vI p5 0)]) (again6 ([AV.t (tI (w64 ((vI p5 0) + (1:Int))))], []))) none)
  none) none) none) none) (some [tI (-1:Int)])
theorem e56 (n : Nat) (a0 : List (List Tree)) (a1 : Int) (a2 : Int) (a3 : Int) (a4 : Int) : apure C (n + 1) 56 [Tree.sl (4:Nat) a0, tI a1, tI a2, tI a3, tI a4] =
  loopIter (fun (p5 : List AV × Heap) (again6 : _ → Option (List Tree)) => L56_1 n a0 a1 a2 a3 a4 p5 again6) n ([AV.t (tI (0:Int))], []) := by kernel_rfl

theorem e59 (n : Nat) (a0 : Int) (a1 : Int) : apure C (n + 1) 59 [Tree.int IntKind.u64 a0, Tree.int IntKind.u64 a1] =
  Option.bind (apure C n (69:Nat) [Tree.int IntKind.u64 a0, Tree.int IntKind.u64 a1]) fun y2 => cnd (List.length y2 = (2:Nat)) (cnd (isIntT IntKind.u64 (List.getD y2 (0:Nat) default) = true) (cnd
  (isIntT IntKind.u64 (List.getD y2 (1:Nat) default) = true) (some [Tree.int IntKind.u64 (gI y2 0), Tree.int IntKind.u64 (gI y2 1)]) none) none) none := by kernel_rfl

noncomputable def L64_1 (n : Nat) (a0 : List (List Tree)) (p1 : List AV × Heap) (again2 : (List AV × Heap) → Option (List Tree)) : Option (List Tree) :=
  cnd (decide (vI p1 0 < ((List.length a0:Nat):Int)) = true) (cnd ((1:Nat) = (1:Nat) ∧ (0:Int) ≤ vI p1 0) (Option.bind a0[Int.toNat (vI p1 0)]? fun y3 => cnd (okI y3 0) (cnd (((gI y3 0) != (0:Int)) =
  true) (some [tI (gI y3 0)]) (again2 ([AV.t (tI (w64 ((vI p1 0) + (1:Int))))], []))) none) none) (some [tI (0:Int)])
theorem e64 (n : Nat) (a0 : List (List Tree)) : apure C (n + 1) 64 [Tree.sl (1:Nat) a0] =
  loopIter (fun (p1 : List AV × Heap) (again2 : _ → Option (List Tree)) => L64_1 n a0 p1 again2) n ([AV.t (tI (0:Int))], []) := by kernel_rfl

theorem e65 (n : Nat) (a0 : Int) (a1 : Int) : apure C (n + 1) 65 [tI a0, tI a1] =
  Option.bind (apure C n (74:Nat) [tI a0]) fun y2 => cnd (List.length y2 = (1:Nat)) (cnd (okB y2 0) (Option.bind (apure C n (74:Nat) [tI a1]) fun y3 => cnd (List.length y3 = (1:Nat)) (cnd (okB y3 0)
  (cnd (gB y2 0 = true) (cnd (gB y3 0 = true) (some [tI (0:Int)]) (some [tI (-1:Int)])) (cnd (gB y3 0 = true) (some [tI (1:Int)]) (cnd (decide (a0 < a1) = true) (some [tI (-1:Int)]) (cnd (decide (a0 >
  a1) = true) (some [tI (1:Int)]) (some [tI (0:Int)]))))) none) none) none) none := by kernel_rfl

theorem e74 (n : Nat) (a0 : Int) : apure C (n + 1) 74 [tI a0] =
  some [Tree.bool (a0 != a0)] := by kernel_rfl

noncomputable def L1000029_1 (n : Nat) (y2 : List Tree) (a1 : Int) (again4 : (List AV × Heap) → Option (List Tree)) (p5 : List AV × Heap) (again6 : (List AV × Heap) → Option (List Tree)) : Option (List Tree) :=
  cnd (decide (vI p5 0 < ((List.length (gL y2 0):Nat):Int)) = true) (cnd (oVer p5 0 = (0:Nat) ∧ (4:Nat) = (4:Nat) ∧ (0:Int) ≤ vI p5 0 ∧ vI p5 0 < ((List.length (gL y2 0):Nat):Int)) (cnd (oVer p5 0 =
  (0:Nat)) (Option.bind (oEs p5 0)[(0:Nat) + (Int.toNat (vI p5 0))]? fun y7 => cnd (okI y7 0) (cnd (okI y7 1) (cnd (okI y7 2) (cnd (okI y7 3) (cnd (((gI y7 0) == a1) = true) (again4 ([AV.t (tI (vI p5
  0))], [AObj.row false (oVer p5 0) (4:Nat) (oEs p5 0)])) (again6 ([AV.t (tI (w64 ((vI p5 0) + (1:Int))))], [AObj.row false (oVer p5 0) (4:Nat) (oEs p5 0)]))) none) none) none) none) none) none) (again4
  ([AV.t (tI (-1:Int))], [AObj.row false (oVer p5 0) (4:Nat) (oEs p5 0)]))

noncomputable def L1000029_2 (n : Nat) (y2 : List Tree) (a1 : Int) (p10 : List AV × Heap) (again11 : (List AV × Heap) → Option (List Tree)) : Option (List Tree) :=
  cnd (oVer p10 0 = (0:Nat)) (cnd (decide (vI p10 1 < ((List.length (gL y2 0):Nat):Int)) = true) (cnd (oVer p10 0 = (0:Nat) ∧ (4:Nat) = (4:Nat) ∧ (0:Int) ≤ vI p10 1 ∧ vI p10 1 < ((List.length (gL y2
  0):Nat):Int)) (cnd (oVer p10 0 = (0:Nat)) (Option.bind (oEs p10 0)[(0:Nat) + (Int.toNat (vI p10 1))]? fun y12 => cnd (okI y12 0) (cnd (okI y12 1) (cnd (okI y12 2) (cnd (okI y12 3) (cnd ((!((gI y12 0)
  == a1)) = true) (cnd (oVer p10 0 = (0:Nat) ∧ (4:Nat) = (4:Nat) ∧ (0:Int) ≤ vI p10 0 ∧ vI p10 0 < ((List.length (gL y2 0):Nat):Int)) (cnd (oVer p10 0 = (0:Nat) ∧ (4:Nat) ≤ (4:Nat)) (Option.bind (oEs
  p10 0)[(0:Nat) + (Int.toNat (vI p10 0))]? fun y17 => again11 ([AV.t (tI (w64 ((vI p10 0) + (1:Int)))), AV.t (tI (w64 ((vI p10 1) + (1:Int))))], [AObj.row false (0:Nat) (4:Nat) (List.set (oEs p10 0)
  ((0:Nat) + (Int.toNat (vI p10 0))) ([tI (gI y12 0), tI (gI y12 1), tI (gI y12 2), tI (gI y12 3)] ++ List.drop (4:Nat) y17))])) none) none) (again11 ([AV.t (tI (vI p10 0)), AV.t (tI (w64 ((vI p10 1) +
  (1:Int))))], [AObj.row false (oVer p10 0) (4:Nat) (oEs p10 0)]))) none) none) none) none) none) none) (cnd (oVer p10 0 = (0:Nat) ∧ ((4:Nat) = (4:Nat) ∨ (4:Nat) = (0:Nat))) (cnd ((0:Int) ≤ vI p10 0 ∧
  vI p10 0 ≤ ((List.length (gL y2 0):Nat):Int)) (cnd (Int.toNat (vI p10 0) < List.length (oEs p10 0) ∨ Int.toNat (vI p10 0) = (0:Nat)) (cnd (oVer p10 0 = (0:Nat) ∧ (4:Nat) = (4:Nat)) (cnd ((0:Int) ≤ vI
  p10 0 ∧ vI p10 0 ≤ ((List.length (rowSet (oEs p10 0) ((0:Nat) + (Int.toNat (vI p10 0))) (List.replicate ((List.length (gL y2 0)) - (Int.toNat (vI p10 0))) [tI (0:Int), tI (0:Int), tI (0:Int), tI
  (0:Int)])):Nat):Int)) (cnd ((0:Nat) < List.length (rowSet (oEs p10 0) ((0:Nat) + (Int.toNat (vI p10 0))) (List.replicate ((List.length (gL y2 0)) - (Int.toNat (vI p10 0))) [tI (0:Int), tI (0:Int), tI
  (0:Int), tI (0:Int)])) ∨ (0:Nat) = (0:Nat)) (some [Tree.sl (4:Nat) (List.take (Int.toNat (vI p10 0)) (rowSet (oEs p10 0) ((0:Nat) + (Int.toNat (vI p10 0))) (List.replicate ((List.length (gL y2 0)) -
  (Int.toNat (vI p10 0))) [tI (0:Int), tI (0:Int), tI (0:Int), tI (0:Int)])))]) none) none) none) (cnd (oVer p10 0 = (0:Nat) ∧ ((4:Nat) = (4:Nat) ∨ (4:Nat) = (0:Nat))) (cnd ((0:Int) ≤ vI p10 0 ∧ vI p10
  0 ≤ ((List.length (oEs p10 0):Nat):Int)) (cnd ((0:Nat) < List.length (oEs p10 0) ∨ (0:Nat) = (0:Nat)) (cnd (oVer p10 0 = (0:Nat) ∧ (4:Nat) = (4:Nat)) (some [Tree.sl (4:Nat) (List.take (Int.toNat (vI
  p10 0)) (oEs p10 0))]) none) none) none) none)) none) none)) none

noncomputable def J1000029_3 (n : Nat) (y2 : List Tree) (a1 : Int) (p3 : List AV × Heap) : Option (List Tree) :=
  cnd (((vI p3 0) == (-1:Int)) = true) (cnd (oVer p3 0 = (0:Nat) ∧ (4:Nat) = (4:Nat)) (some [Tree.sl (4:Nat) (List.take (List.length (gL y2 0)) (oEs p3 0))]) none) (loopIter (fun (p10 : List AV × Heap)
  (again11 : _ → Option (List Tree)) => L1000029_2 n y2 a1 p10 again11) n ([AV.t (tI (vI p3 0)), AV.t (tI (w64 ((vI p3 0) + (1:Int))))], [AObj.row false (oVer p3 0) (4:Nat) (oEs p3 0)]))
theorem e1000029 (n : Nat) (a0 : List (List Tree)) (a1 : Int) : apure C (n + 1) 1000029 [Tree.sl (4:Nat) a0, tI a1] =
  Option.bind (apure C n (1000048:Nat) [Tree.sl (4:Nat) a0]) fun y2 => cnd (List.length y2 = (1:Nat) ∧ okL 4 y2 0) (join (fun (p3 : List AV × Heap) => J1000029_3 n y2 a1 p3) fun (again4 : _ → Option
  (List Tree)) => loopIter (fun (p5 : List AV × Heap) (again6 : _ → Option (List Tree)) => L1000029_1 n y2 a1 again4 p5 again6) n ([AV.t (tI (0:Int))], [AObj.row false (0:Nat) (4:Nat) (gL y2 0)])) none := by kernel_rfl

noncomputable def L1000037_1 (n : Nat) (y4 : List Tree) (p9 : List AV × Heap) (again10 : (List AV × Heap) → Option (List Tree)) : Option (List Tree) :=
  cnd (oVer p9 0 = (0:Nat)) (cnd (decide (vI p9 0 < ((Int.toNat (w64 (gI y4 1)):Nat):Int)) = true) (cnd (oVer p9 0 = (0:Nat) ∧ ((1:Nat) = (1:Nat) ∨ (1:Nat) = (0:Nat))) (cnd ((0:Int) ≤ vI p9 0 ∧ vI p9 0
  ≤ ((Int.toNat (w64 (gI y4 1)):Nat):Int)) (cnd (Int.toNat (vI p9 0) < List.length (oEs p9 0) ∨ Int.toNat (vI p9 0) = (0:Nat)) (cnd (oVer p9 0 = (0:Nat) ∧ ((1:Nat) = (1:Nat) ∨ (1:Nat) = (0:Nat))) (cnd
  ((0:Int) ≤ vI p9 0 ∧ vI p9 0 ≤ ((List.length (oEs p9 0):Nat):Int)) (cnd ((0:Nat) < List.length (oEs p9 0) ∨ (0:Nat) = (0:Nat)) (cnd (oVer p9 0 = (0:Nat) ∧ ((1:Nat) = (1:Nat) ∨ (1:Nat) = (0:Nat))) (cnd
  (oVer p9 0 = (0:Nat) ∧ (1:Nat) = (1:Nat)) (again10 ([AV.t (tI (w64 ((vI p9 0) + ((min (List.length (List.take (Int.toNat (vI p9 0)) (oEs p9 0))) ((Int.toNat (w64 (gI y4 1))) - (Int.toNat (vI p9
  0))):Nat):Int))))], [AObj.row false (0:Nat) (1:Nat) (rowSet (oEs p9 0) ((0:Nat) + (Int.toNat (vI p9 0))) (List.take ((Int.toNat (w64 (gI y4 1))) - (Int.toNat (vI p9 0))) (List.take (Int.toNat (vI p9
  0)) (oEs p9 0))))])) none) none) (cnd (oVer p9 0 = (0:Nat) ∧ (1:Nat) = (1:Nat)) (again10 ([AV.t (tI (w64 ((vI p9 0) + ((min (0:Nat) ((Int.toNat (w64 (gI y4 1))) - (Int.toNat (vI p9 0))):Nat):Int))))],
  [AObj.row false (0:Nat) (1:Nat) (rowSet (oEs p9 0) ((0:Nat) + (Int.toNat (vI p9 0))) (List.take ((Int.toNat (w64 (gI y4 1))) - (Int.toNat (vI p9 0))) []))])) none)) none) none) (cnd (oVer p9 0 =
  (0:Nat) ∧ ((1:Nat) = (1:Nat) ∨ (1:Nat) = (0:Nat))) (cnd ((0:Int) ≤ vI p9 0 ∧ vI p9 0 ≤ ((List.length (oEs p9 0):Nat):Int)) (cnd ((0:Nat) < List.length (oEs p9 0) ∨ (0:Nat) = (0:Nat)) (cnd (oVer p9 0 =
  (0:Nat) ∧ ((1:Nat) = (1:Nat) ∨ (1:Nat) = (0:Nat))) none none) none) none) none)) none) none) (cnd (oVer p9 0 = (0:Nat) ∧ (1:Nat) = (1:Nat)) (some [Tree.sl (1:Nat) (List.take (Int.toNat (w64 (gI y4
  1))) (oEs p9 0))]) none)) none

noncomputable def J1000037_2 (n : Nat) (y4 : List Tree) (a0 : List (List Tree)) (p5 : List AV × Heap) : Option (List Tree) :=
  cnd (vB p5 0 = true) none (cnd (w64 (gI y4 1) = w64 (gI y4 1) ∧ (0:Int) ≤ w64 (gI y4 1) ∧ w64 (gI y4 1) ≤ (1073741824:Int) ∧ (1:Nat) = (1:Nat)) (loopIter (fun (p9 : List AV × Heap) (again10 : _ →
  Option (List Tree)) => L1000037_1 n y4 p9 again10) n ([AV.t (tI ((min (List.length a0) (Int.toNat (w64 (gI y4 1))):Nat):Int))], [AObj.row false (0:Nat) (1:Nat) (rowSet (List.replicate (Int.toNat (w64
  (gI y4 1))) [tI (0:Int)]) (0:Nat) (List.take (Int.toNat (w64 (gI y4 1))) a0))])) none)
theorem e1000037 (n : Nat) (a0 : List (List Tree)) (a1 : Int) : apure C (n + 1) 1000037 [Tree.sl (1:Nat) a0, tI a1] =
  cnd (decide (a1 < (0:Int)) = true) none (Option.bind (apure C n (59:Nat) [Tree.int IntKind.u64 (IntKind.wrap IntKind.u64 ((List.length a0:Nat):Int)), Tree.int IntKind.u64 (IntKind.wrap IntKind.u64
  a1)]) fun y4 => cnd (List.length y4 = (2:Nat)) (cnd (isIntT IntKind.u64 (List.getD y4 (0:Nat) default) = true) (cnd (isIntT IntKind.u64 (List.getD y4 (1:Nat) default) = true) (join (fun (p5 : List AV
  × Heap) => J1000037_2 n y4 a0 p5) fun (again6 : _ → Option (List Tree)) => cnd (decide (gI y4 0 > (0:Int)) = true) (again6 ([AV.t (Tree.bool true)], [])) (again6 ([AV.t (Tree.bool (decide (gI y4 1 >
  (9223372036854775807:Int))))], []))) none) none) none) := by kernel_rfl

theorem e1000048 (n : Nat) (a0 : List (List Tree)) : apure C (n + 1) 1000048 [Tree.sl (4:Nat) a0] =
  cnd (List.length a0 ≠ (0:Nat)) (cnd (List.length a0 ≤ (1073741824:Nat)) (some [Tree.sl (4:Nat) (List.take (List.length a0) a0)]) none) (both (some [Tree.sl (4:Nat) []]) (cnd (List.length a0 ≤
  (1073741824:Nat)) (some [Tree.sl (4:Nat) (List.take (List.length a0) a0)]) none)) := by kernel_rfl

end Ab
