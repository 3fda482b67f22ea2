/- The law TransferFrames returns true for every case and size; the two tables of unicode/utf8 that the row lists are laid; no other condition. -/
import Derived.Test.YtabheiodkaljcaaGreatDoorM6
import Derived.Test.YtabheiodkaljcaaGreatDoorRows
import Derived.Test.YtabheiodkaljcaaGreatDoorCards
import Derived.Test.YtabheiodkaljcaaGreatDoorTie
import Derived.WalkKit
import Derived.ProofKit
import Derived.OpenShut
import Derived.LaidMore
import Derived.Lay
import Derived.SevenTiedAt
import Derived.Stop.Joined
import Derived.JoinedCond
set_option linter.unusedVariables false
namespace Go.Proofs.YtabheiodkaljcaaGreatDoor.transferFrames
open Go Go.ChangeShapes Go.WideShapes Go.ChangeAt Go.RowKit Ab
set_option maxRecDepth 100000 in
theorem law (xs:List Tree) (h:Fq (Typed Ab.C.P 6) [27,3] xs):∃n,AA Ab.C n 9 xs=some [.bool true]:=by obtain ⟨_,t1,rfl,x1,g1⟩:=A7 h;obtain ⟨p,rfl,hp⟩:=Yu x1;obtain ⟨_,t2,rfl,x2,g2⟩:=A7 g1;obtain ⟨z,rfl,hz⟩:=DQ x2;obtain rfl:=Gk g2;obtain ⟨N,hN⟩:=YR p z hp.pk;exact ⟨N,hN N (Nat.le_refl _)⟩
set_option maxRecDepth 100000 in
theorem lifted (os:Os) (started:os.Started) (H:Type) (enc:TypeId×Value→H) :
  ReturnsInHanded {} Tryz.checked os 9 .any (fun w args=>(Rows.transferFramesSpec.pre enc Tryz.prog Tryz.f9 Rows.transferFramesRow.domain false w args∧laidMetH Tryz.prog Rows.transferFramesRow.laid w)∧sizedMet enc Tryz.prog Tryz.f9 (OpenSpec.ofChange Rows.transferFramesSpec) false w args)
   (Rows.transferFramesSpec.post enc Tryz.prog Tryz.f9 false true false false):=by
 refine returnsInHanded_of_change_and (C:=Tryz.checked) (X:=fun w _=>laidMetH Tryz.prog Rows.transferFramesRow.laid w) (fun _ _ _ hh h=>h.of_heap hh) Ab.own started (by kernel_rfl) Tryz.func9
  (ChangeSpec.witness_shaped (enc:=enc) (C:=Tryz.checked) (os:=os) (X:=fun w _=>laidMetH Tryz.prog Rows.transferFramesRow.laid w) false (World.laidAll Tryz.prog os Rows.transferFramesRow.laid) #[.agg #[.int .i64 0,.int .i64 0,.int .i64 0,.int .i64 0,.int .i64 0,.int .i64 0,.int .i64 0,.int .i64 0,.int .i64 0,.string (ByteArray.mk #[]),.slice none 0 0,.int .i64 0,.slice none 0 0],.int .i64 0] 8 (World.laidAll_os _ _ _)
   (World.shaped_of_ZipB (by kernel_rfl) (by kernel_rfl)) (by kernel_rfl) (by kernel_rfl) (by kernel_rfl)
   (by rw [MakeChecks.laidMetH_plain _ _ _ (by kernel_rfl)];exact laidMet_laidAll _ (by kernel_rfl) (by kernel_rfl))) ?_
 intro W base args ds gs before hval hW hc _ hL _;exact KS (C:=Ab.C) Ab.mix Ab.extOk (d:=6) (bt:=4) (by decide) Tryz.func9 rfl (by kernel_rfl) (by kernel_rfl) (by kernel_rfl) (by kernel_rfl)
  (fun H ds hl=>by
   match ds,hl with
   |[_,_],_=>exact ⟨rfl,rfl,rfl⟩)
  law W base args ds gs before hval hW
theorem over:Rows.transferFramesRow.holds Tryz.pinned (OpenSpec.ofChange Rows.transferFramesSpec):=
 OpenClaim.holds_of_wide 9 Tryz.f9 rfl rfl rfl rfl rfl rfl rfl ⟨rfl,rfl,rfl,rfl,rfl⟩ rfl rfl rfl rfl rfl (by kernel_rfl) Tryz.func9 (by kernel_rfl)
  (of_decide_eq_true (by kernel_rfl)) (by unfold Func.isWrapper;first|(rw [if_pos (by decide +kernel)];kernel_rfl)|(rw [if_neg (by decide +kernel)];exact ⟨rfl,rfl⟩))
  (fun os started H enc _=>lifted os started H enc)
theorem proved:Rows.TransferFramesCardSaid:=
 Claim7.holds_tied_plain_at .later [] [.data, .pinned] true (true, "2db058c7e406ff112f79e1d1768fa0ed70cc80b5a5d6ea23dec8bd1b624e12ad") false
  over (fun _ h=>by cases h) (by kernel_rfl) (fun _ h=>by cases h) transferFrames_row_tie rfl ⟨rfl,rfl⟩ (by kernel_rfl) rfl
  (fun f fn hf hfn=>by
   obtain rfl:f=9:=Option.some.inj ((show Tryz.prog.funcNamed Rows.transferFramesRow.func=some 9 by kernel_rfl).symm.trans hf) |>.symm;obtain rfl:fn=Tryz.f9:=(Option.some.inj (Tryz.func9.symm.trans hfn)).symm;exact ⟨by kernel_rfl,fun j t ht=>by
    rw [Tryz.params9] at ht;have h3:t=3∨t=27:=by
     rcases j with _|_|j
     all_goals first|(simp at ht;subst ht;decide)|(simp at ht)
    rcases h3 with rfl|rfl
    ·exact (show Tryz.prog.wantsStandIn 3=false by kernel_rfl)
    ·exact (show Tryz.prog.wantsStandIn 27=false by kernel_rfl)⟩)
  (by kernel_rfl)
end Go.Proofs.YtabheiodkaljcaaGreatDoor.transferFrames
#print axioms Go.Proofs.YtabheiodkaljcaaGreatDoor.transferFrames.proved
