/- A part of the proof: see the last text. -/
import Derived.Test.YtbpgmjfpfgpkjaaGreatDoorM8
import Derived.Test.YtbpgmjfpfgpkjaaGreatDoorRows
import Derived.Test.YtbpgmjfpfgpkjaaGreatDoorCards
import Derived.Test.YtbpgmjfpfgpkjaaGreatDoorTie
import Derived.WalkKit
import Derived.ProofKit
import Derived.OpenShut
import Derived.LaidMore
import Derived.Lay
import Derived.SevenTiedAt
import Derived.Stop.Joined
import Derived.JoinedCond
set_option linter.unusedVariables false
set_option linter.unusedSimpArgs false
open Nat (le_refl)
namespace Go.Proofs.YtbpgmjfpfgpkjaaGreatDoor.topSessionBundle
open Go Go.ChangeShapes Go.WideShapes Go.ChangeAt Go.RowKit Ab
set_option maxRecDepth 100000 in
theorem law (xs:List Tree) (h:GC (Typed Ab.C.P 6) [28,30,31] xs):∃n,AA Ab.C n 3 xs=some [.bool true]:=by obtain ⟨_,t1,rfl,x1,g1⟩:=Am h;obtain ⟨b,rfl,_⟩:=dec_bun x1;obtain ⟨_,t2,rfl,x2,g2⟩:=Am g1;obtain ⟨c,rfl,_⟩:=dec_con x2;obtain ⟨_,t3,rfl,x3,g3⟩:=Am g2;obtain ⟨l,rfl,hl⟩:=ZF x3;obtain rfl:=Ey g3;obtain ⟨N,hN⟩:=l3 b c l hl;exact ⟨N,hN N (le_refl _)⟩
set_option maxRecDepth 100000 in
theorem lifted (os:Os) (started:os.Started) (H:Type) (enc:TypeId×Value→H) :
  ReturnsInHanded {} Tryz.checked os 3 .any (fun w args=>(Rows.topSessionBundleSpec.pre enc Tryz.prog Tryz.f3 Rows.topSessionBundleRow.domain false w args∧laidMetH Tryz.prog Rows.topSessionBundleRow.laid w)∧sizedMet enc Tryz.prog Tryz.f3 (OpenSpec.ofChange Rows.topSessionBundleSpec) false w args)
   (Rows.topSessionBundleSpec.post enc Tryz.prog Tryz.f3 false true false false):=by
 refine returnsInHanded_of_change_and (C:=Tryz.checked) (X:=fun w _=>laidMetH Tryz.prog Rows.topSessionBundleRow.laid w) (fun _ _ _ hh h=>h.of_heap hh) Ab.own started (by kernel_rfl) Tryz.func3
  (ChangeSpec.witness_shaped (enc:=enc) (C:=Tryz.checked) (os:=os) (X:=fun w _=>laidMetH Tryz.prog Rows.topSessionBundleRow.laid w) false (World.laidAll Tryz.prog os Rows.topSessionBundleRow.laid) #[.agg #[.int .i64 0,.int .i64 0,.int .i64 0,.int .i64 0,.int .i64 0,.int .i64 0,.int .i64 0,.int .i64 0,.int .i64 0,.int .i64 0,.slice none 0 0,.string (ByteArray.mk #[])],.agg #[.int .i64 0,.int .i64 0,.int .i64 0,.int .i64 0,.int .i64 0,.int .i64 0,.int .i64 0],.slice none 0 0] 8 (World.laidAll_os _ _ _)
   (World.shaped_of_ZipB (by kernel_rfl) (by kernel_rfl)) (by kernel_rfl) (by kernel_rfl) (by kernel_rfl)
   (by rw [MakeChecks.laidMetH_plain _ _ _ (by kernel_rfl)];exact laidMet_laidAll _ (by kernel_rfl) (by kernel_rfl))) ?_
 intro W base args ds gs before hval hW hc _ hL _;exact Kh (C:=Ab.C) Ab.mix Ab.extOk (d:=6) (bt:=4) (by decide) Tryz.func3 rfl (by kernel_rfl) (by kernel_rfl) (by kernel_rfl) (by kernel_rfl)
  (fun H ds hl=>by
   match ds,hl with
   |[_,_,_],_=>exact ⟨rfl,rfl,rfl⟩)
  law W base args ds gs before hval hW
theorem over:Rows.topSessionBundleRow.holds Tryz.pinned (OpenSpec.ofChange Rows.topSessionBundleSpec):=
 OpenClaim.holds_of_wide 3 Tryz.f3 rfl rfl rfl rfl rfl rfl rfl ⟨rfl,rfl,rfl,rfl,rfl⟩ rfl rfl rfl rfl rfl (by kernel_rfl) Tryz.func3 closed
  (of_decide_eq_true (by kernel_rfl)) (by unfold Func.isWrapper;first|(rw [if_pos (by decide +kernel)];kernel_rfl)|(rw [if_neg (by decide +kernel)];exact ⟨rfl,rfl⟩))
  (fun os started H enc _=>lifted os started H enc)
end Go.Proofs.YtbpgmjfpfgpkjaaGreatDoor.topSessionBundle
