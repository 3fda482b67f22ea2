/- A part of the proof: see the last text. -/
import Derived.Test.YtbpgmjfpfgpkjaaGreatDoorM7
import Derived.Test.YtbpgmjfpfgpkjaaGreatDoorRows
import Derived.Test.YtbpgmjfpfgpkjaaGreatDoorChecked
import Derived.JoinedOf
import Derived.ProofKit
import Derived.RowKit
set_option linter.unusedVariables false
set_option linter.unusedSimpArgs false
namespace Go.Proofs.YtbpgmjfpfgpkjaaGreatDoor.topSessionBundle
open Go Go.ChangeShapes Go.WideShapes Go.ChangeAt Go.RowKit
set_option maxRecDepth 100000
theorem jf0:(Rows.topSessionBundleRow.wf (OpenSpec.ofChange Rows.topSessionBundleSpec))=true:=by kernel_rfl
theorem jf1:laidOutB Tryz.pinned.checked.prog=true:=by kernel_rfl
theorem jf2:mapsRowed Tryz.pinned.checked.prog=true:=by kernel_rfl
theorem jf3:(Rows.topSessionBundleRow.inPlace==Tryz.pinned.checked.prog.inPlace 3)=true:=by kernel_rfl
theorem jf4:(Rows.topSessionBundleRow.unfollowed==Tryz.pinned.checked.prog.unfollowed 3)=true:=by kernel_rfl
theorem jf5:(Rows.topSessionBundleRow.recurses==Tryz.pinned.checked.prog.recurses 3)=true:=by kernel_rfl
theorem jf6:(Rows.topSessionBundleRow.named==Tryz.pinned.checked.prog.varsNamed 3)=true:=by kernel_rfl
theorem jf7:(Rows.topSessionBundleRow.plainKeys==Tryz.pinned.checked.prog.plainKeys)=true:=by kernel_rfl
theorem jf8:Tryz.pinned.checked.prog.stopsHeard=true:=by kernel_rfl
theorem jf9:Tryz.pinned.checked.prog.mayEnter=true:=by kernel_rfl
theorem jf10:(Rows.topSessionBundleRow.lifted==Tryz.pinned.checked.prog.liftsFinal)=true:=by kernel_rfl
theorem jf11:(Tryz.pinned.checked.prog.make==some Rows.topSessionBundleRow.make)=true:=by kernel_rfl
theorem closed:joinedFacts Tryz.pinned.checked.prog 3 Tryz.f3 Rows.topSessionBundleSpec Rows.topSessionBundleRow=true:=by
 unfold joinedFacts
 repeat' (with_reducible refine Bool.and_eq_true_iff.mpr ⟨?_,?_⟩)
 all_goals first
  |with_reducible exact jf0
  |with_reducible exact jf1
  |with_reducible exact jf2
  |with_reducible exact jf3
  |with_reducible exact jf4
  |with_reducible exact jf5
  |with_reducible exact jf6
  |with_reducible exact jf7
  |with_reducible exact jf8
  |with_reducible exact jf9
  |with_reducible exact jf10
  |with_reducible exact jf11
  |kernel_rfl
end Go.Proofs.YtbpgmjfpfgpkjaaGreatDoor.topSessionBundle
