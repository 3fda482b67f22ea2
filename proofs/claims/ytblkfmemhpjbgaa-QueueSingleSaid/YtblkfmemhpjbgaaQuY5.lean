/- A part of the proof: see the last text. -/
import Derived.Test.YtblkfmemhpjbgaaAbT
import Derived.Test.YtblkfmemhpjbgaaQuX
set_option maxRecDepth 100000
set_option linter.unusedVariables false
namespace Ab
open Go Go.Proofs

noncomputable def L5_2 (n : Nat) (p10 : List AV × Heap) (y4 : List Tree) (a0 : List (List Tree)) (a1 : Int) (y14 : List Tree) (again13 : (List AV × Heap) → Option (List Tree)) (p41 : List AV × Heap) (again42 : (List AV × Heap) → Option (List Tree)) : Option (List Tree) :=
  cnd (decide (vI p41 0 < vI p10 0) = true) (cnd ((1:Nat) = (1:Nat) ∧ (0:Int) ≤ vI p41 0) (Option.bind (gL y4 0)[Int.toNat (vI p41 0)]? fun y45 => cnd (okI y45 0) (cnd (decide (gI y45 0 ≥ (0:Int)) =
  true) (cnd ((1:Nat) = (1:Nat) ∧ (0:Int) ≤ vI p41 0) (Option.bind (gL y4 0)[Int.toNat (vI p41 0)]? fun y46 => cnd (okI y46 0) (cnd ((1:Nat) = (1:Nat) ∧ (0:Int) ≤ vI p10 0) (Option.bind (gL y4
  0)[Int.toNat (vI p10 0)]? fun y49 => cnd (okI y49 0) (cnd ((5:Nat) = (5:Nat) ∧ (0:Int) ≤ vI p10 0) (Option.bind a0[Int.toNat (vI p10 0)]? fun y50 => cnd (okI y50 4) (cnd (a1 = (0:Int)) none (cndO
  (AObj.row true (0:Nat) (1:Nat) [[Tree.sl (1:Nat) (gL y4 0)]]) (AObj.row true (0:Nat) (1:Nat) [[Tree.sl (1:Nat) (gL y4 0)]]) (cnd (decide (w64 ((gI y49 0) - (w64 (Int.tdiv (w64 ((w64 ((gI y50 4) + a1))
  - (1:Int))) a1))) < gI y46 0) = true) (cnd ((1:Nat) = (1:Nat) ∧ (0:Int) ≤ vI p41 0) (Option.bind (gL y4 0)[Int.toNat (vI p41 0)]? fun y53 => cnd (okI y53 0) (cnd ((5:Nat) = (5:Nat) ∧ (0:Int) ≤ vI p41
  0) (Option.bind a0[Int.toNat (vI p41 0)]? fun y54 => cnd (okI y54 4) (cnd (a1 = (0:Int)) none (cnd (decide (w64 ((gI y53 0) - (w64 (Int.tdiv (w64 ((w64 ((gI y54 4) + a1)) - (1:Int))) a1))) < gI y14 0)
  = true) (some [Tree.bool false]) (again42 ([AV.t (tI (w64 ((vI p41 0) + (1:Int))))], [AObj.box []])))) none) none) none) none) (again42 ([AV.t (tI (w64 ((vI p41 0) + (1:Int))))], [AObj.box []])))))
  none) none) none) none) none) none) (again42 ([AV.t (tI (w64 ((vI p41 0) + (1:Int))))], [AObj.box []]))) none) none) (again13 ([], [AObj.box []]))

noncomputable def J5_3 (n : Nat) (again11 : (List AV × Heap) → Option (List Tree)) (p10 : List AV × Heap) (p12 : List AV × Heap) : Option (List Tree) :=
  again11 ([AV.t (tI (w64 ((vI p10 0) + (1:Int))))], [AObj.box []])

noncomputable def L5_4 (n : Nat) (y4 : List Tree) (a0 : List (List Tree)) (a1 : Int) (p10 : List AV × Heap) (again11 : (List AV × Heap) → Option (List Tree)) : Option (List Tree) :=
  cnd (decide (vI p10 0 < ((List.length (gL y4 0):Nat):Int)) = true) (join (fun (p12 : List AV × Heap) => J5_3 n again11 p10 p12) fun (again13 : _ → Option (List Tree)) => cnd ((1:Nat) = (1:Nat) ∧
  (0:Int) ≤ vI p10 0) (Option.bind (gL y4 0)[Int.toNat (vI p10 0)]? fun y14 => cnd (okI y14 0) (cnd (decide (gI y14 0 < (0:Int)) = true) (cnd (((gI y14 0) != (-1:Int)) = true) (some [Tree.bool false])
  (again13 ([], [AObj.box []]))) (cnd ((5:Nat) = (5:Nat) ∧ (0:Int) ≤ vI p10 0) (Option.bind a0[Int.toNat (vI p10 0)]? fun y17 => cnd (okI y17 0) (cnd ((1:Nat) = (1:Nat) ∧ (0:Int) ≤ vI p10 0)
  (Option.bind (gL y4 0)[Int.toNat (vI p10 0)]? fun y20 => cnd (okI y20 0) (cnd ((5:Nat) = (5:Nat) ∧ (0:Int) ≤ vI p10 0) (Option.bind a0[Int.toNat (vI p10 0)]? fun y21 => cnd (okI y21 4) (cnd (a1 =
  (0:Int)) none (cnd (decide (w64 ((gI y20 0) - (w64 (Int.tdiv (w64 ((w64 ((gI y21 4) + a1)) - (1:Int))) a1))) < gI y17 0) = true) (some [Tree.bool false]) (cnd ((5:Nat) = (5:Nat) ∧ (0:Int) ≤ vI p10 0)
  (Option.bind a0[Int.toNat (vI p10 0)]? fun y22 => cnd (okI y22 3) (cnd ((1:Nat) = (1:Nat) ∧ (0:Int) ≤ vI p10 0) (Option.bind (gL y4 0)[Int.toNat (vI p10 0)]? fun y25 => cnd (okI y25 0) (cnd ((5:Nat) =
  (5:Nat) ∧ (0:Int) ≤ vI p10 0) (Option.bind a0[Int.toNat (vI p10 0)]? fun y26 => cnd (okI y26 4) (cnd (a1 = (0:Int)) none (cnd (decide (gI y22 3 ≤ w64 ((gI y25 0) - (w64 (Int.tdiv (w64 ((w64 ((gI y26
  4) + a1)) - (1:Int))) a1)))) = true) (some [Tree.bool false]) (loopIter (fun (p41 : List AV × Heap) (again42 : _ → Option (List Tree)) => L5_2 n p10 y4 a0 a1 y14 again13 p41 again42) n ([AV.t (tI
  (0:Int))], [AObj.box []])))) none) none) none) none) none) none))) none) none) none) none) none) none)) none) none) (Option.bind (apure C n (12:Nat) []) fun y55 => cnd (List.length y55 = (1:Nat)) (cnd
  (okB y55 0) (some [Tree.bool (gB y55 0)]) none) none)

noncomputable def J5_5 (n : Nat) (y4 : List Tree) (a0 : List (List Tree)) (a1 : Int) (p5 : List AV × Heap) : Option (List Tree) :=
  cnd (vB p5 0 = true) (cnd (((gI y4 1) != (0:Int)) = true) (cnd ((((List.length (gL y4 0):Nat):Int) == (0:Int)) = true) (Option.bind (apure C n (12:Nat) []) fun y9 => cnd (List.length y9 = (1:Nat))
  (cnd (okB y9 0) (some [Tree.bool (gB y9 0)]) none) none) (some [Tree.bool false])) (some [Tree.bool false])) (loopIter (fun (p10 : List AV × Heap) (again11 : _ → Option (List Tree)) => L5_4 n y4 a0 a1
  p10 again11) n ([AV.t (tI (0:Int))], [AObj.box []]))
theorem e5 (n : Nat) (a0 : List (List Tree)) (a1 : Int) : apure C (n + 1) 5 [Tree.sl (5:Nat) a0, tI a1] =
  Option.bind (apure C n (11:Nat) [Tree.sl (5:Nat) a0]) fun y2 => cnd (List.length y2 = (1:Nat)) (cnd (okB y2 0) (cnd (gB y2 0 = true) (Option.bind (apure C n (12:Nat) []) fun y3 => cnd (List.length y3
  = (1:Nat)) (cnd (okB y3 0) (some [Tree.bool (gB y3 0)]) none) none) (Option.bind (apure C n (13:Nat) [Tree.sl (5:Nat) a0, tI a1]) fun y4 => cnd (List.length y4 = (2:Nat)) (cnd (okL 1 y4 0) (cnd (okI
  y4 1) (join (fun (p5 : List AV × Heap) => J5_5 n y4 a0 a1 p5) fun (again6 : _ → Option (List Tree)) => cnd (((gI y4 1) != (0:Int)) = true) (again6 ([AV.t (Tree.bool true)], [AObj.box []])) (again6
  ([AV.t (Tree.bool (((List.length (gL y4 0):Nat):Int) != ((List.length a0:Nat):Int)))], [AObj.box []]))) none) none) none)) none) none := by kernel_rfl

end Ab
