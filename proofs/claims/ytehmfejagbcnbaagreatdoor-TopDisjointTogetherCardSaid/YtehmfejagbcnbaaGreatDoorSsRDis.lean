/- The law TopDisjointTogether returns true for all tables, requests and both orders; the two tables of unicode/utf8 that the row lists are laid; no other condition. -/
import Derived.Test.YtehmfejagbcnbaaGreatDoorM10
import Derived.Test.YtehmfejagbcnbaaGreatDoorRows
import Derived.Test.YtehmfejagbcnbaaGreatDoorCards
import Derived.Test.YtehmfejagbcnbaaGreatDoorTie
import Derived.SevenTiedAt
set_option linter.unusedVariables false
namespace Go.Proofs.YtehmfejagbcnbaaGreatDoor.topDisjointTogether
open Go Go.ChangeShapes Go.WideShapes Go.ChangeAt Go.RowKit Ab
set_option maxRecDepth 100000
theorem cw:Rows.topDisjointTogetherRow.wfByText (OpenSpec.ofChange Rows.topDisjointTogetherSpec)=true:=by kernel_rfl
theorem cm : Tryz.pinned.checked.prog.mainIs = some (true, ("2916834e1a2b76e607b4aa2517232dcd63207949d8cdb404503ce30a5c00a212" : String).toList) := by kernel_rfl
theorem ck:false=Tryz.pinned.checked.prog.looks []:=by kernel_rfl
theorem cg:false=Rows.topDisjointTogetherRow.goesBy Tryz.pinned.checked.prog:=by kernel_rfl
theorem cn:Tryz.prog.funcNamed Rows.topDisjointTogetherRow.func=some 3:=by kernel_rfl
theorem cs4:Tryz.prog.wantsStandIn 4=false:=by kernel_rfl
theorem cs29:Tryz.prog.wantsStandIn 29=false:=by kernel_rfl
theorem cs31:Tryz.prog.wantsStandIn 31=false:=by kernel_rfl
theorem proved:Rows.TopDisjointTogetherCardSaid:=
 Claim7.holds_tied_plain_at .later [] [.data, .pinned] true (true, "2916834e1a2b76e607b4aa2517232dcd63207949d8cdb404503ce30a5c00a212") false
  over (fun _ h=>by cases h) cw (fun _ h=>by cases h) topDisjointTogether_row_tie rfl ⟨rfl,rfl⟩ cm rfl
  (fun f fn hf hfn=>by
   obtain rfl:f=3:=Option.some.inj (cn.symm.trans hf) |>.symm;obtain rfl:fn=Tryz.f3:=(Option.some.inj (Tryz.func3.symm.trans hfn)).symm;exact ⟨ck,fun j t ht=>by
    rw [Tryz.params3] at ht;have h3:t=4∨t=29∨t=31:=by
     rcases j with _|_|_|j
     all_goals first|(simp at ht;subst ht;decide)|(simp at ht)
    rcases h3 with rfl|rfl|rfl
    ·exact cs4
    ·exact cs29
    ·exact cs31⟩)
  cg
end Go.Proofs.YtehmfejagbcnbaaGreatDoor.topDisjointTogether
#print axioms Go.Proofs.YtehmfejagbcnbaaGreatDoor.topDisjointTogether.proved
