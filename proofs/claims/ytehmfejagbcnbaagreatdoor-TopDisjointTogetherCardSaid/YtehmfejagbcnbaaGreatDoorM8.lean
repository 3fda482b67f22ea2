/- A part of the proof: see the last text. -/
import Derived.Test.YtehmfejagbcnbaaGreatDoorM7
set_option linter.unusedVariables false
set_option linter.unusedSimpArgs false
set_option maxRecDepth 1000000
namespace Ab
open Go
def d191:Ent:=(29,[tI 0,tI 1,tI 0,tI 10,tI 24,tI 5,tI 0,tI 0,tI 10,.str (ByteArray.mk #[104,101,108,108,111]),.sl 1 [],tI (-1),.sl 2 []],[.bool true,tI 6,.bool true,tI 11,tI 1,tI 2,tI 0,tI 0])
theorem k191:EOk C0.P d191:=AD AR AG (l:=[d115,d141,d143,d144,d146,d147,d151,d153,d154,d168,d169,d170,d172,d174,d176,d177,d190]) ⟨RR,⟨k141,⟨k143,⟨k144,⟨k146,⟨k147,⟨k151,⟨k153,⟨k154,⟨k168,⟨k169,⟨k170,⟨k172,⟨k174,⟨k176,⟨k177,⟨k190,trivial⟩⟩⟩⟩⟩⟩⟩⟩⟩⟩⟩⟩⟩⟩⟩⟩⟩ (n:=5000) (by kernel_rfl)
def d192:Ent:=(7,[],[.bool true])
theorem k192:EOk C0.P d192:=AD AR AG (l:=[d36,d53,d54,d55,d114,d191]) ⟨k36,⟨k53,⟨k54,⟨k55,⟨k114,⟨k191,trivial⟩⟩⟩⟩⟩⟩ (n:=5000) (by kernel_rfl)
end Ab
namespace Ab
open Go
theorem Vx:G0 C.P 7 [] [.bool true]:=by
 have h:=k192;unfold EOk at h;have hg:d192.1<OWN:=by decide
 rw [if_pos hg] at h;exact h
theorem extOk:Mu C:=by
 intro g xs ys hg h;have h2:extT g xs=some ys:=h;unfold extT at h2;split at h2
 ·rename_i e;subst e;split at h2
  ·cases h2;exact Vx
  ·cases h2
 ·exact AG g xs ys hg h2
end Ab
