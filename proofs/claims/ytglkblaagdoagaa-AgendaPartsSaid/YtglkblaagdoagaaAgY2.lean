/- A part of the proof: see the last text. -/
import Derived.Test.YtglkblaagdoagaaAbT
import Derived.Test.YtglkblaagdoagaaAgX
set_option maxRecDepth 100000
set_option linter.unusedVariables false
namespace Ab
open Go Go.Proofs

theorem e11 (n : Nat)  : apure C (n + 1) 11 [] =
  Option.bind (apure C n (21:Nat) [Tree.sl (3:Nat) [[tI (5:Int), tI (1:Int), tI (9:Int)]], tI (5:Int), tI (2:Int), tI (0:Int)]) fun y0 => cnd (List.length y0 = (2:Nat)) (cnd (okL 3 y0 0) (cnd (okI y0 1)
  (Option.bind (apure C n (17:Nat) [Tree.sl (3:Nat) (gL y0 0), tI (4:Int)]) fun y1 => cnd (List.length y1 = (3:Nat)) (cnd (okL 3 y1 0) (cnd (okL 3 y1 1) (cnd (okI y1 2) (Option.bind (apure C n (12:Nat)
  [Tree.sl (3:Nat) (gL y0 0)]) fun y2 => cnd (List.length y2 = (2:Nat)) (cnd (okI y2 0) (cnd (okB y2 1) (cnd ((gI y0 1 == (0:Int)) = true) (cnd ((gI y1 2 == (0:Int)) = true) (cnd (gB y2 1 = true) (cnd
  ((gI y2 0 == (5:Int)) = true) (Option.bind (apure C n (20:Nat) [Tree.sl (3:Nat) (gL y0 0), Tree.sl (3:Nat) [[tI (5:Int), tI (1:Int), tI (9:Int)], [tI (5:Int), tI (2:Int), tI (0:Int)]]]) fun y3 => cnd
  (List.length y3 = (1:Nat)) (cnd (okB y3 0) (cnd (gB y3 0 = true) (cnd ((((List.length (gL y1 0):Nat):Int) == (0:Int)) = true) (Option.bind (apure C n (20:Nat) [Tree.sl (3:Nat) (gL y1 1), Tree.sl
  (3:Nat) (gL y0 0)]) fun y4 => cnd (List.length y4 = (1:Nat)) (cnd (okB y4 0) (some [Tree.bool (gB y4 0)]) none) none) (some [Tree.bool false])) (some [Tree.bool false])) none) none) (some [Tree.bool
  false])) (some [Tree.bool false])) (some [Tree.bool false])) (some [Tree.bool false])) none) none) none) none) none) none) none) none) none) none := by kernel_rfl

theorem e21 (n : Nat) (a0 : List (List Tree)) (a1 : Int) (a2 : Int) (a3 : Int) : apure C (n + 1) 21 [Tree.sl (3:Nat) a0, tI a1, tI a2, tI a3] =
  Option.bind (apure C n (10:Nat) [Tree.sl (3:Nat) a0]) fun y4 => cnd (List.length y4 = (1:Nat)) (cnd (okI y4 0) (cnd ((gI y4 0 != (0:Int)) = true) (some [Tree.sl (3:Nat) [], tI (1:Int)]) (Option.bind
  (apure C n (35:Nat) [tI a1, tI a2, tI a3]) fun y5 => cnd (List.length y5 = (1:Nat)) (cnd (okB y5 0) (cnd ((!gB y5 0) = true) (some [Tree.sl (3:Nat) [], tI (2:Int)]) (Option.bind (apure C n (42:Nat)
  [Tree.sl (3:Nat) a0, tI a1, tI a2, tI a3]) fun y6 => cnd (List.length y6 = (2:Nat)) (cnd (okI y6 0) (cnd (okB y6 1) (cnd (gB y6 1 = true) (some [Tree.sl (3:Nat) [], tI (6:Int)]) (cnd ((((List.length
  a0:Nat):Int) == (1000:Int)) = true) (some [Tree.sl (3:Nat) [], tI (4:Int)]) (Option.bind (apure C n (1000037:Nat) [Tree.sl (3:Nat) a0]) fun y7 => cnd (List.length y7 = (1:Nat) ∧ okL 3 y7 0) (cnd
  ((0:Int) ≤ gI y6 0 ∧ gI y6 0 ≤ ((List.length (gL y7 0):Nat):Int)) (cnd (Int.toNat (gI y6 0) < List.length (gL y7 0) ∨ Int.toNat (gI y6 0) = (0:Nat)) (cnd ((gI y6 0 == ((List.length (gL y7
  0):Nat):Int)) = true) (cnd ((0:Nat) = (0:Nat) ∧ ((3:Nat) = (3:Nat) ∨ (3:Nat) = (0:Nat)) ∧ (0:Nat) + List.length (gL y7 0) = List.length (gL y7 0) ∧ List.length (gL y7 0) + (1:Nat) ≤ (1073741824:Nat))
  (some [Tree.sl (3:Nat) (List.take (List.length (gL y7 0) + (1:Nat)) (List.drop (0:Nat) (List.drop (0:Nat) (gL y7 0) ++ [[tI a1, tI a2, tI a3]]))), tI (0:Int)]) none) none) (cnd ((gI y6 0 ==
  ((List.length (gL y7 0):Nat):Int)) = true) (cnd ((0:Nat) = (0:Nat) ∧ ((3:Nat) = (3:Nat) ∨ (3:Nat) = (0:Nat)) ∧ (0:Nat) + List.length (gL y7 0) = List.length (gL y7 0) ∧ List.length (gL y7 0) + (1:Nat)
  ≤ (1073741824:Nat)) (some [Tree.sl (3:Nat) (List.take (List.length (gL y7 0) + (1:Nat)) (List.drop (0:Nat) (List.drop (0:Nat) (gL y7 0) ++ [[tI a1, tI a2, tI a3]]))), tI (0:Int)]) none) none)) none)
  none))) none) none) none)) none) none)) none) none := by kernel_rfl

end Ab
