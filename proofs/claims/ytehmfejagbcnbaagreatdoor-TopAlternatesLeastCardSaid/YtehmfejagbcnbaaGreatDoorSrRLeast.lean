/- The law TopAlternatesLeast returns true for all tables, requests and hops; the two tables of unicode/utf8 that the row lists are laid; no other condition. -/
import Derived.Test.YtehmfejagbcnbaaGreatDoorM9
import Derived.Test.YtehmfejagbcnbaaGreatDoorRows
import Derived.Test.YtehmfejagbcnbaaGreatDoorCards
import Derived.Test.YtehmfejagbcnbaaGreatDoorTie
import Derived.SevenTiedAt
set_option linter.unusedVariables false
namespace Go.Proofs.YtehmfejagbcnbaaGreatDoor.topAlternatesLeast
open Go Go.ChangeShapes Go.WideShapes Go.ChangeAt Go.RowKit Ab
set_option maxRecDepth 100000
theorem cw:Rows.topAlternatesLeastRow.wfByText (OpenSpec.ofChange Rows.topAlternatesLeastSpec)=true:=by kernel_rfl
theorem cm : Tryz.pinned.checked.prog.mainIs = some (true, ("2916834e1a2b76e607b4aa2517232dcd63207949d8cdb404503ce30a5c00a212" : String).toList) := by kernel_rfl
theorem ck:false=Tryz.pinned.checked.prog.looks []:=by kernel_rfl
theorem cg:false=Rows.topAlternatesLeastRow.goesBy Tryz.pinned.checked.prog:=by kernel_rfl
theorem cn:Tryz.prog.funcNamed Rows.topAlternatesLeastRow.func=some 5:=by kernel_rfl
theorem cs29:Tryz.prog.wantsStandIn 29=false:=by kernel_rfl
theorem cs31:Tryz.prog.wantsStandIn 31=false:=by kernel_rfl
theorem cs39:Tryz.prog.wantsStandIn 39=false:=by kernel_rfl
theorem proved:Rows.TopAlternatesLeastCardSaid:=
 Claim7.holds_tied_plain_at .later [] [.data, .pinned] true (true, "2916834e1a2b76e607b4aa2517232dcd63207949d8cdb404503ce30a5c00a212") false
  over (fun _ h=>by cases h) cw (fun _ h=>by cases h) topAlternatesLeast_row_tie rfl ⟨rfl,rfl⟩ cm rfl
  (fun f fn hf hfn=>by
   obtain rfl:f=5:=Option.some.inj (cn.symm.trans hf) |>.symm;obtain rfl:fn=Tryz.f5:=(Option.some.inj (Tryz.func5.symm.trans hfn)).symm;exact ⟨ck,fun j t ht=>by
    rw [Tryz.params5] at ht;have h3:t=29∨t=31∨t=39:=by
     rcases j with _|_|_|j
     all_goals first|(simp at ht;subst ht;decide)|(simp at ht)
    rcases h3 with rfl|rfl|rfl
    ·exact cs29
    ·exact cs31
    ·exact cs39⟩)
  cg
end Go.Proofs.YtehmfejagbcnbaaGreatDoor.topAlternatesLeast
#print axioms Go.Proofs.YtehmfejagbcnbaaGreatDoor.topAlternatesLeast.proved
