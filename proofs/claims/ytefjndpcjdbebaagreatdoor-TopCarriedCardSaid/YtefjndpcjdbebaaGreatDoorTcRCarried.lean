/- The law TopCarried returns true for every bundle, order and change; the two tables of unicode/utf8 that the row lists are laid; no other condition. -/
import Derived.Test.YtefjndpcjdbebaaGreatDoorM6
import Derived.Test.YtefjndpcjdbebaaGreatDoorRows
import Derived.Test.YtefjndpcjdbebaaGreatDoorCards
import Derived.Test.YtefjndpcjdbebaaGreatDoorTie
import Derived.WalkKit
import Derived.ProofKit
import Derived.OpenShut
import Derived.LaidMore
import Derived.Lay
import Derived.SevenTiedAt
import Derived.Stop.Joined
import Derived.JoinedCond
set_option linter.unusedVariables false
namespace Go.Proofs.YtefjndpcjdbebaaGreatDoor.topCarried
open Go Go.ChangeShapes Go.WideShapes Go.ChangeAt Go.RowKit Ab
theorem six_pure:Du Tryz.prog 6 [] [.bool true]:=by have h:=k192;rw [EOk,if_pos (show d192.1<OWN by decide)] at h;exact h
set_option maxRecDepth 100000 in
theorem law (xs:List Tree) (h:Ek (Typed Ab.C2.P 6) [28,29,5] xs):∃n,AB Ab.C2 n 3 xs=some [.bool true]:=by obtain ⟨_,t1,rfl,x1,g1⟩:=Ap h;obtain ⟨b,rfl,_⟩:=dec_bun x1;obtain ⟨_,t2,rfl,x2,g2⟩:=Ap g1;obtain ⟨l,rfl,hl⟩:=Sb x2;obtain ⟨_,t3,rfl,x3,g3⟩:=Ap g2;obtain ⟨c,rfl,hc⟩:=UT x3;obtain rfl:=EW g3;obtain ⟨N,hN⟩:=law3 b l (c:Int) hl ⟨by omega,by omega⟩;exact ⟨N,hN N (Nat.le_refl _)⟩
set_option maxRecDepth 100000 in
theorem lifted (os:Os) (started:os.Started) (H:Type) (enc:TypeId×Value→H) :
  ReturnsInHanded {} Tryz.checked os 3 .any (fun w args=>(Rows.topCarriedSpec.pre enc Tryz.prog Tryz.f3 Rows.topCarriedRow.domain false w args∧laidMetH Tryz.prog Rows.topCarriedRow.laid w)∧sizedMet enc Tryz.prog Tryz.f3 (OpenSpec.ofChange Rows.topCarriedSpec) false w args)
   (Rows.topCarriedSpec.post enc Tryz.prog Tryz.f3 false true false false):=by
 refine returnsInHanded_of_change_and (C:=Tryz.checked) (X:=fun w _=>laidMetH Tryz.prog Rows.topCarriedRow.laid w) (fun _ _ _ hh h=>h.of_heap hh) Ab.own started (by kernel_rfl) Tryz.func3
  (ChangeSpec.witness_shaped (enc:=enc) (C:=Tryz.checked) (os:=os) (X:=fun w _=>laidMetH Tryz.prog Rows.topCarriedRow.laid w) false (World.laidAll Tryz.prog os Rows.topCarriedRow.laid) #[.agg #[.int .i64 0,.int .i64 0,.int .i64 0,.int .i64 0,.int .i64 0,.int .i64 0,.int .i64 0,.int .i64 0,.int .i64 0,.int .i64 0,.slice none 0 0,.string (ByteArray.mk #[])],.slice none 0 0,.int .u8 0] 8 (World.laidAll_os _ _ _)
   (World.shaped_of_ZipB (by kernel_rfl) (by kernel_rfl)) (by kernel_rfl) (by kernel_rfl) (by kernel_rfl)
   (by rw [MakeChecks.laidMetH_plain _ _ _ (by kernel_rfl)];exact laidMet_laidAll _ (by kernel_rfl) (by kernel_rfl))) ?_
 intro W base args ds gs before hval hW hc _ hL _;exact Ig (C:=Ab.C2) Ab.mix2 (Ab.ext2_ok six_pure) (d:=6) (bt:=4) (by decide) Tryz.func3 rfl (by kernel_rfl) (by kernel_rfl) (by kernel_rfl) (by kernel_rfl)
  (fun H ds hl=>by
   match ds,hl with
   |[_,_,_],_=>exact ⟨rfl,rfl,rfl⟩)
  law W base args ds gs before hval hW
theorem over:Rows.topCarriedRow.holds Tryz.pinned (OpenSpec.ofChange Rows.topCarriedSpec):=
 OpenClaim.holds_of_wide 3 Tryz.f3 rfl rfl rfl rfl rfl rfl rfl ⟨rfl,rfl,rfl,rfl,rfl⟩ rfl rfl rfl rfl rfl (by kernel_rfl) Tryz.func3 closed
  (of_decide_eq_true (by kernel_rfl)) (by unfold Func.isWrapper;first|(rw [if_pos (by decide +kernel)];kernel_rfl)|(rw [if_neg (by decide +kernel)];exact ⟨rfl,rfl⟩))
  (fun os started H enc _=>lifted os started H enc)
theorem proved:Rows.TopCarriedCardSaid:=
 Claim7.holds_tied_plain_at .later [] [.data, .pinned] true (true, "5d7cd6969ce2877985a1502782ecc26969eea2c3dc7f3e2d9115a9ebcc19cf23") false
  over (fun _ h=>by cases h) (by kernel_rfl) (fun _ h=>by cases h) topCarried_row_tie rfl ⟨rfl,rfl⟩ (by kernel_rfl) rfl
  (fun f fn hf hfn=>by
   obtain rfl:f=3:=Option.some.inj ((show Tryz.prog.funcNamed Rows.topCarriedRow.func=some 3 by kernel_rfl).symm.trans hf) |>.symm;obtain rfl:fn=Tryz.f3:=(Option.some.inj (Tryz.func3.symm.trans hfn)).symm;exact ⟨by kernel_rfl,fun j t ht=>by
    rw [Tryz.params3] at ht;have h3:t=5∨t=28∨t=29:=by
     rcases j with _|_|_|j
     all_goals first|(simp at ht;subst ht;decide)|(simp at ht)
    rcases h3 with rfl|rfl|rfl
    ·exact (show Tryz.prog.wantsStandIn 5=false by kernel_rfl)
    ·exact (show Tryz.prog.wantsStandIn 28=false by kernel_rfl)
    ·exact (show Tryz.prog.wantsStandIn 29=false by kernel_rfl)⟩)
  (by kernel_rfl)
end Go.Proofs.YtefjndpcjdbebaaGreatDoor.topCarried
#print axioms Go.Proofs.YtefjndpcjdbebaaGreatDoor.topCarried.proved
