/- A part of the proof: see the last text. -/
import Derived.Test.YtekiedfnajchdaaAbT
import Derived.Test.YtekiedfnajchdaaLiX
set_option maxRecDepth 100000
set_option linter.unusedVariables false
namespace Ab
open Go Go.Proofs

noncomputable def M5_1 (n : Nat) (y4 : List Tree) (again6 : (List AV × Heap) → Option (List Tree)) (p7 : List AV × Heap) (again8 : (List AV × Heap) → Option (List Tree)) : Option (List Tree) :=
  cnd (decide (vI p7 0 < ((List.length (gL y4 0):Nat):Int)) = true) (cnd (oVer p7 0 = (0:Nat) ∧ (2:Nat) = (2:Nat) ∧ (0:Int) ≤ vI p7 0 ∧ vI p7 0 < ((List.length (gL y4 0):Nat):Int)) (cnd (oVer p7 0 =
  (0:Nat)) (cnd (oVer p7 0 = (0:Nat)) (Option.bind (oEs p7 0)[(0:Nat) + (Int.toNat (vI p7 0))]? fun y9 => cnd (isIntT IntKind.u8 (List.getD y9 (1:Nat) default) = true) (cnd (oVer p7 0 = (0:Nat) ∧
  (2:Nat) = (2:Nat) ∧ (0:Int) ≤ vI p7 0 ∧ vI p7 0 < ((List.length (gL y4 0):Nat):Int)) (cnd (oVer p7 0 = (0:Nat)) (cnd (oVer p7 0 = (0:Nat) ∧ (2:Nat) ≤ (2:Nat)) (Option.bind (oEs p7 0)[(0:Nat) +
  (Int.toNat (vI p7 0))]? fun y10 => again8 ([AV.t (tI (w64 ((vI p7 0) + (1:Int))))], [AObj.row false (0:Nat) (2:Nat) (List.set (oEs p7 0) ((0:Nat) + (Int.toNat (vI p7 0))) (List.take (1:Nat) y10 ++
  ([Tree.int IntKind.u8 (andK IntKind.u8 (gI y9 1) (3:Int))] ++ List.drop (2:Nat) y10)))])) none) none) none) none) none) none) none) (again6 ([], [AObj.row false (oVer p7 0) (2:Nat) (oEs p7 0)]))

noncomputable def M5_3 (n : Nat) (y11 : List Tree) (a2 : Bool) (p27 : List AV × Heap) (again28 : (List AV × Heap) → Option (List Tree)) : Option (List Tree) :=
  cnd (decide (vI p27 0 < ((List.length (gL y11 5):Nat):Int)) = true) (cnd ((10:Nat) = (10:Nat) ∧ (0:Int) ≤ vI p27 0) (Option.bind (gL y11 5)[Int.toNat (vI p27 0)]? fun y29 => cnd (okI y29 0) (cnd (okI
  y29 1) (cnd (okI y29 2) (cnd (okI y29 3) (cnd (okI y29 4) (cnd (okI y29 5) (cnd (okI y29 6) (cnd (okB y29 7) (cnd (okS y29 8) (cnd (okL 2 y29 9) (cnd (a2 = true) (cnd (((gI y29 1) != (vI p27 0)) =
  true) (some [Tree.bool false]) (cnd ((1:Nat) = (1:Nat) ∧ (0:Int) ≤ vI p27 0) (Option.bind (gL y11 4)[Int.toNat (vI p27 0)]? fun y32 => cnd (okI y32 0) (cnd (((gI y29 0) != (w64 ((gI y32 0) + (gI y11
  0)))) = true) (some [Tree.bool false]) (again28 ([AV.t (tI (w64 ((vI p27 0) + (1:Int))))], [AObj.box [], AObj.box []]))) none) none)) (again28 ([AV.t (tI (w64 ((vI p27 0) + (1:Int))))], [AObj.box [],
  AObj.box []]))) none) none) none) none) none) none) none) none) none) none) none) (Option.bind (apure C n (9:Nat) []) fun y33 => cnd (List.length y33 = (1:Nat)) (cnd (okB y33 0) (some [Tree.bool (gB
  y33 0)]) none) none)

noncomputable def M5_4 (n : Nat) (y4 : List Tree) (p5 : List AV × Heap) (y11 : List Tree) (a2 : Bool) (p12 : List AV × Heap) (again13 : (List AV × Heap) → Option (List Tree)) : Option (List Tree) :=
  cnd (decide (vI p12 2 < ((List.length (gL y4 0):Nat):Int)) = true) (cnd (oVer p5 0 = (0:Nat) ∧ (2:Nat) = (2:Nat) ∧ (0:Int) ≤ vI p12 2 ∧ vI p12 2 < ((List.length (gL y4 0):Nat):Int)) (cnd (oVer p5 0 =
  (0:Nat)) (Option.bind (oEs p5 0)[(0:Nat) + (Int.toNat (vI p12 2))]? fun y14 => cnd (isIntT IntKind.u8 (List.getD y14 (0:Nat) default) = true) (cnd (isIntT IntKind.u8 (List.getD y14 (1:Nat) default) =
  true) (cnd ((1:Nat) = (1:Nat) ∧ (0:Int) ≤ Int.tmod (gI y14 1) (8:Int)) (Option.bind [[tI (1:Int)], [tI (1:Int)], [tI (1:Int)], [tI (1:Int)], [tI (2:Int)], [tI (2:Int)], [tI (1:Int)], [tI
  (0:Int)]][Int.toNat (Int.tmod (gI y14 1) (8:Int))]? fun y15 => cnd (okI y15 0) (cnd (decide (Int.tmod (gI y14 1) (8:Int) ≥ (6:Int)) = true) (again13 ([AV.t (tI (w64 ((vI p12 0) + (gI y15 0)))), AV.t
  (tI (w64 ((vI p12 1) + (1:Int)))), AV.t (tI (w64 ((vI p12 2) + (1:Int))))], [AObj.box [], AObj.box []])) (again13 ([AV.t (tI (w64 ((vI p12 0) + (gI y15 0)))), AV.t (tI (vI p12 1)), AV.t (tI (w64 ((vI
  p12 2) + (1:Int))))], [AObj.box [], AObj.box []]))) none) none) none) none) none) none) (cnd ((((List.length (gL y11 5):Nat):Int) != (vI p12 0)) = true) (some [Tree.bool false]) (cnd (oVer p5 0 =
  (0:Nat)) (cnd (((gI y11 2) != ((List.length (gL y4 0):Nat):Int)) = true) (some [Tree.bool false]) (cnd (((gI y11 3) != (vI p12 1)) = true) (some [Tree.bool false]) (loopIter (fun (p27 : List AV ×
  Heap) (again28 : _ → Option (List Tree)) => M5_3 n y11 a2 p27 again28) n ([AV.t (tI (0:Int))], [AObj.box [], AObj.box []])))) none))

noncomputable def JM5_5 (n : Nat) (a0 : Int) (y4 : List Tree) (a2 : Bool) (p5 : List AV × Heap) : Option (List Tree) :=
  cnd ((true = true ∨ true = false) ∧ oVer p5 0 = (0:Nat) ∧ ((2:Nat) = (2:Nat) ∨ (2:Nat) = (0:Nat))) (Option.bind (apure C n (10:Nat) [Tree.int IntKind.u8 a0, Tree.sl (2:Nat) (List.take (List.length (gL
  y4 0)) (oEs p5 0))]) fun y11 => cnd (List.length y11 = (7:Nat)) (cnd (okI y11 0) (cnd (okL 10 y11 1) (cnd (okI y11 2) (cnd (okI y11 3) (cnd (okL 1 y11 4) (cnd (okL 10 y11 5) (cnd (okB y11 6) (cnd
  ((!(gB y11 6)) = true) (some [Tree.bool false]) (cnd (oVer p5 0 = (0:Nat)) (loopIter (fun (p12 : List AV × Heap) (again13 : _ → Option (List Tree)) => M5_4 n y4 p5 y11 a2 p12 again13) n ([AV.t (tI
  (0:Int)), AV.t (tI (0:Int)), AV.t (tI (0:Int))], [AObj.box [], AObj.box []])) none)) none) none) none) none) none) none) none) none) none
theorem f5 (n : Nat) (a0 : Int) (a1 : List (List Tree)) (a2 : Bool) : apure C (n + 1) 5 [Tree.int IntKind.u8 a0, Tree.sl (2:Nat) a1, Tree.bool a2] =
  cnd (decide (((List.length a1:Nat):Int) > (20:Int)) = true) (Option.bind (apure C n (9:Nat) []) fun y3 => cnd (List.length y3 = (1:Nat)) (cnd (okB y3 0) (some [Tree.bool (gB y3 0)]) none) none)
  (Option.bind (apure C n (1000011:Nat) [Tree.sl (2:Nat) a1]) fun y4 => cnd (List.length y4 = (1:Nat) ∧ okL 2 y4 0) (join (fun (p5 : List AV × Heap) => JM5_5 n a0 y4 a2 p5) fun (again6 : _ → Option (List
  Tree)) => cnd (a2 = true) (loopIter (fun (p7 : List AV × Heap) (again8 : _ → Option (List Tree)) => M5_1 n y4 again6 p7 again8) n ([AV.t (tI (0:Int))], [AObj.row false (0:Nat) (2:Nat) (gL y4 0)]))
  (again6 ([], [AObj.row false (0:Nat) (2:Nat) (gL y4 0)]))) none) := by kernel_rfl

end Ab
