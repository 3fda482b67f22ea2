/- A part of the proof: see the last text. -/
import Derived.Test.YtblkfmemhpjbgaaAbT
import Derived.Test.YtblkfmemhpjbgaaQuX
set_option maxRecDepth 100000
set_option linter.unusedVariables false
namespace Ab
open Go Go.Proofs

theorem e69 (n : Nat) (a0 : Int) (a1 : Int) : apure C (n + 1) 69 [Tree.int IntKind.u64 a0, Tree.int IntKind.u64 a1] =
  some [Tree.int IntKind.u64 (IntKind.wrap IntKind.u64 ((IntKind.wrap IntKind.u64 ((IntKind.wrap IntKind.u64 ((shrK IntKind.u64 a0 (32:Int)) * (shrK IntKind.u64 a1 (32:Int)))) + (shrK IntKind.u64
  (IntKind.wrap IntKind.u64 ((IntKind.wrap IntKind.u64 ((shrK IntKind.u64 a0 (32:Int)) * (andK IntKind.u64 a1 (4294967295:Int)))) + (shrK IntKind.u64 (IntKind.wrap IntKind.u64 ((andK IntKind.u64 a0
  (4294967295:Int)) * (andK IntKind.u64 a1 (4294967295:Int)))) (32:Int)))) (32:Int)))) + (shrK IntKind.u64 (IntKind.wrap IntKind.u64 ((andK IntKind.u64 (IntKind.wrap IntKind.u64 ((IntKind.wrap
  IntKind.u64 ((shrK IntKind.u64 a0 (32:Int)) * (andK IntKind.u64 a1 (4294967295:Int)))) + (shrK IntKind.u64 (IntKind.wrap IntKind.u64 ((andK IntKind.u64 a0 (4294967295:Int)) * (andK IntKind.u64 a1
  (4294967295:Int)))) (32:Int)))) (4294967295:Int)) + (IntKind.wrap IntKind.u64 ((andK IntKind.u64 a0 (4294967295:Int)) * (shrK IntKind.u64 a1 (32:Int)))))) (32:Int)))), Tree.int IntKind.u64
  (IntKind.wrap IntKind.u64 (a0 * a1))] := by kernel_rfl

end Ab
