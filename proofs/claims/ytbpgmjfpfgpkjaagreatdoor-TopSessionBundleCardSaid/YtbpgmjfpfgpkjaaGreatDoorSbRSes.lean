/- The law TopSessionBundle returns true for every bundle, contact and list of picks; the two tables of unicode/utf8 that the row lists are laid; no other condition. -/
import Derived.Test.YtbpgmjfpfgpkjaaGreatDoorM9
import Derived.Test.YtbpgmjfpfgpkjaaGreatDoorRows
import Derived.Test.YtbpgmjfpfgpkjaaGreatDoorCards
import Derived.Test.YtbpgmjfpfgpkjaaGreatDoorTie
import Derived.SevenTiedAt
set_option linter.unusedVariables false
namespace Go.Proofs.YtbpgmjfpfgpkjaaGreatDoor.topSessionBundle
open Go Go.ChangeShapes Go.WideShapes Go.ChangeAt Go.RowKit Ab
set_option maxRecDepth 100000
theorem cw:Rows.topSessionBundleRow.wfByText (OpenSpec.ofChange Rows.topSessionBundleSpec)=true:=by kernel_rfl
theorem cm : Tryz.pinned.checked.prog.mainIs = some (true, ("03080c0f496078c29f990a9253560f1729c59f54baf6ab829341bff20295e793" : String).toList) := by kernel_rfl
theorem ck:true=Tryz.pinned.checked.prog.looks []:=by kernel_rfl
theorem cg:false=Rows.topSessionBundleRow.goesBy Tryz.pinned.checked.prog:=by kernel_rfl
theorem cn:Tryz.prog.funcNamed Rows.topSessionBundleRow.func=some 3:=by kernel_rfl
theorem cs28:Tryz.prog.wantsStandIn 28=false:=by kernel_rfl
theorem cs30:Tryz.prog.wantsStandIn 30=false:=by kernel_rfl
theorem cs31:Tryz.prog.wantsStandIn 31=false:=by kernel_rfl
theorem proved:Rows.TopSessionBundleCardSaid:=
 Claim7.holds_tied_plain_at .later [] [.data, .pinned] true (true, "03080c0f496078c29f990a9253560f1729c59f54baf6ab829341bff20295e793") true
  over (fun _ h=>by cases h) cw (fun _ h=>by cases h) topSessionBundle_row_tie rfl ⟨rfl,rfl⟩ cm rfl
  (fun f fn hf hfn=>by
   obtain rfl:f=3:=Option.some.inj (cn.symm.trans hf) |>.symm;obtain rfl:fn=Tryz.f3:=(Option.some.inj (Tryz.func3.symm.trans hfn)).symm;exact ⟨ck,fun j t ht=>by
    rw [Tryz.params3] at ht;have h3:t=28∨t=30∨t=31:=by
     rcases j with _|_|_|j
     all_goals first|(simp at ht;subst ht;decide)|(simp at ht)
    rcases h3 with rfl|rfl|rfl
    ·exact cs28
    ·exact cs30
    ·exact cs31⟩)
  cg
end Go.Proofs.YtbpgmjfpfgpkjaaGreatDoor.topSessionBundle
#print axioms Go.Proofs.YtbpgmjfpfgpkjaaGreatDoor.topSessionBundle.proved
