/- A part of the proof: see the last text. -/
import Derived.Test.YthgemjameiibpaaDoorAbT
import Derived.Test.YthgemjameiibpaaDoorReX
set_option maxRecDepth 100000
set_option linter.unusedVariables false
namespace Ab
open Go Go.Proofs

theorem e36 (n : Nat) (a0 : Int) (a1 : Int) (a2 : Int) (a3 : Int) (a4 : Int) (a5 : Bool) (a6 : ByteArray) (a7 : List (List Tree)) : apure C (n + 1) 36 [tI a0, tI a1, tI a2, tI a3, tI a4, Tree.bool a5, Tree.str a6, Tree.sl (2:Nat) a7] =
  Option.bind (apure C n (37:Nat) [tI a0, tI a1, tI a2, tI a3, tI a4, Tree.bool a5, Tree.str a6, Tree.sl (2:Nat) a7]) fun y10 => cnd (List.length y10 = (1:Nat)) (cnd (okB y10 0) (cnd (gB y10 0 = true)
  (some [Tree.bool true]) (cnd (decide (a4 > (300:Int)) = true) (some [Tree.bool (decide (a4 ≤ (65536:Int)))]) (some [Tree.bool false]))) none) none := by kernel_rfl

end Ab
