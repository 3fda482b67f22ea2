/- A part of the proof: see the last text. -/
import Derived.Test.YtbpgmjfpfgpkjaaGreatDoorM5
import Derived.KernelRfl
import Derived.Test.YtbpgmjfpfgpkjaaGreatDoorProg
import Derived.Deep.LoopGhost
import Derived.Deep.WholeRow
import Derived.Laws.ResultCell
import Derived.Below
import Derived.WalkKit
import Derived.Lib.Walk
import Derived.WideMake
set_option linter.unusedVariables false
open Array renaming eq_empty_of_size_eq_zero → zA, getElem?_push → zB, getElem?_push_lt → vW
open Bool (and_eq_true)
open Bool renaming false_eq_true → zF
open Int (emod_nonneg tdiv tmod toNat_natCast)
open Int renaming lt_irrefl → wP, natCast_nonneg → vX, natCast_zero → vN, toNat → wT, toNat_zero → vY
open List (all_eq_true drop drop_drop drop_zero ext_getElem? foldl_cons getElem?_append_left getElem?_drop getElem?_range head?_cons length length_nil mem_map take)
open List renaming append_assoc → zH, append_nil → yW, cons_append → yY, drop_eq_getElem_cons → xY, drop_left → vZ, drop_left' → uA, drop_nil → uB, drop_succ_cons → uC, flatten_append → uD, flatten_cons → xA, getD_eq_getElem?_getD → zK, getElem?_append_right → zM, getElem?_cons_succ → uE, getElem?_cons_zero → xC, getElem?_eq_getElem → zO, getElem?_map → zQ, getElem?_take_of_lt → zT, length_append → xE, length_cons → xF, length_drop → xG, length_map → xH, length_pos_iff → zW, length_range → wF, length_replicate → uF, length_take → zX, map_append → wZ, map_cons → xJ, map_nil → vA, mem_cons → xL, mem_of_getElem? → xN, nil_append → xR, replicate → zY, set_cons_zero → uG, tail_cons → uH, take_add_one → uI, take_append_drop → uJ, take_length → uK, take_of_length_le → vD, take_zero → uL
open Nat (add_zero lt_of_lt_of_le lt_or_ge mul_comm reduceEqDiff zero_add zero_le)
open Nat renaming le_refl → yE, ne_of_lt → uM, reduceAdd → vE, sub_zero → uN
open Option (map_none)
open Option renaming getD_none → vF, isSome_none → vG, isSome_some → vH, map_some → yP
set_option maxRecDepth 100000
namespace Ab
open Go
variable (zq:Bool)
def clM (zq:Bool) (g:Gh) (s:Ses):List AV:=[.t (tI s.dat.rng),.t (.sl 10 (s.dat.frames.map Frame.enc)),.t (tI s.dat.sent),.t (tI s.dat.lost),.t (tI s.rep.rng),.t (.sl 10 (s.rep.frames.map Frame.enc)),.t (tI s.rep.sent),.t (tI s.rep.lost),.t (.sl 1 (s.picks.map DR)),.t (tI s.limit),.t (.sl 2 (s.dark.map Span.enc)),.t (tI s.entered),.t (tI s.dist),.sref (ix zq 4) g.v4 0 s.sent.length,.sref (ix zq 5) g.v5 0 s.told.length,.t (tI s.now),.t (tI s.snd.c.frm),.t (tI s.snd.c.dst),.t (tI s.snd.c.start),.t (tI s.snd.c.fin),.t (tI s.snd.c.rate),.t (tI s.snd.c.rng),.t (tI s.snd.c.loss),.t (tI s.snd.ses),.t (.str s.snd.data),.t (tI s.snd.fin),.t (tI s.snd.busy),.t (tI s.snd.ser),.t (.sl 2 (s.snd.acked.map Span.enc)),.t (tI s.snd.due),.t (tI s.snd.st),.t (tI s.rcv.ses),.t (tI s.rcv.tot),.t (.sl 2 (s.rcv.known.map Span.enc)),.t (.str s.rcv.data),.sref (ix zq 0) g.v0 g.pre.length s.pend.length,.t (.bool s.rcvd),.t (tI s.arrive),.t (.bool s.kno),.t (tI s.knoAt)]
def hsM (zq:Bool) (f1 f2 f3:AF) (v0:Nat) (e0:List (List Tree)) (v4:Nat) (e4:List (List Tree)) (v5:Nat) (e5:List (List Tree)) (c:List AV) (tl:Heap):Heap:=
 pz zq (.row false v0 9 e0::f1::f2::f3 :: .row false v4 9 e4 :: .row false v5 9 e5 :: .box c::tl)
def HM (zq:Bool) (f1 f2 f3:AF) (g:Gh) (s:Ses) (tl:Heap):Heap:=hsM zq f1 f2 f3 g.v0 (g.pre++s.pend.map Out.enc) g.v4 (s.sent.map Out.enc) g.v5 (s.told.map Out.enc) (clM zq g s) tl
variable (e:List AV) (g:Gh) (s:Ses) (f1 f2 f3:AF) (v0:Nat) (e0:List (List Tree)) (v4:Nat) (e4:List (List Tree)) (v5:Nat) (e5:List (List Tree))
theorem ra0M (tl:Heap) (Z:List AV×Heap) (h:Z=(e,hsM zq f1 f2 f3 v0 e0 v4 e4 v5 e5 (clM zq g s) tl)) :
 cI Z (ix zq 6) 0=s.dat.rng∧cL Z (ix zq 6) 1=s.dat.frames.map Frame.enc∧cI Z (ix zq 6) 2=s.dat.sent∧cI Z (ix zq 6) 3=s.dat.lost∧cI Z (ix zq 6) 4=s.rep.rng∧cL Z (ix zq 6) 5=s.rep.frames.map Frame.enc∧cI Z (ix zq 6) 6=s.rep.sent∧cI Z (ix zq 6) 7=s.rep.lost∧cL Z (ix zq 6) 8=s.picks.map DR∧cI Z (ix zq 6) 9=s.limit∧cL Z (ix zq 6) 10=s.dark.map Span.enc∧cI Z (ix zq 6) 11=s.entered∧cI Z (ix zq 6) 12=s.dist∧AK Z (ix zq 6) 13=g.v4∧AR Z (ix zq 6) 13=0∧AJ Z (ix zq 6) 13=s.sent.length∧AK Z (ix zq 6) 14=g.v5∧AR Z (ix zq 6) 14=0∧AJ Z (ix zq 6) 14=s.told.length∧cI Z (ix zq 6) 15=s.now∧cI Z (ix zq 6) 16=s.snd.c.frm∧cI Z (ix zq 6) 17=s.snd.c.dst∧cI Z (ix zq 6) 18=s.snd.c.start∧cI Z (ix zq 6) 19=s.snd.c.fin∧cI Z (ix zq 6) 20=s.snd.c.rate∧cI Z (ix zq 6) 21=s.snd.c.rng∧cI Z (ix zq 6) 22=s.snd.c.loss∧cI Z (ix zq 6) 23=s.snd.ses∧cS Z (ix zq 6) 24=s.snd.data∧cI Z (ix zq 6) 25=s.snd.fin∧cI Z (ix zq 6) 26=s.snd.busy∧cI Z (ix zq 6) 27=s.snd.ser∧cL Z (ix zq 6) 28=s.snd.acked.map Span.enc∧cI Z (ix zq 6) 29=s.snd.due∧cI Z (ix zq 6) 30=s.snd.st∧cI Z (ix zq 6) 31=s.rcv.ses∧cI Z (ix zq 6) 32=s.rcv.tot∧cL Z (ix zq 6) 33=s.rcv.known.map Span.enc∧cS Z (ix zq 6) 34=s.rcv.data∧AK Z (ix zq 6) 35=g.v0∧AR Z (ix zq 6) 35=g.pre.length∧AJ Z (ix zq 6) 35=s.pend.length∧cB Z (ix zq 6) 36=s.rcvd∧cI Z (ix zq 6) 37=s.arrive∧cB Z (ix zq 6) 38=s.kno∧cI Z (ix zq 6) 39=s.knoAt:=by
 subst h;cases zq<;>and_intros<;>intros<;>rfl
theorem rd0M (tl:Heap):type_of% (ra0M zq e g s f1 f2 f3 v0 e0 v4 e4 v5 e5 tl _ rfl):=ra0M zq e g s f1 f2 f3 v0 e0 v4 e4 v5 e5 tl _ rfl
theorem ra1M (c:List AV) (tl:Heap) (Z:List AV×Heap) (h:Z=(e,hsM zq f1 f2 f3 v0 e0 v4 e4 v5 e5 c tl)) :
 AE Z (ix zq 0)=v0∧oEs Z (ix zq 0)=e0∧AE Z (ix zq 4)=v4∧oEs Z (ix zq 4)=e4∧AE Z (ix zq 5)=v5∧oEs Z (ix zq 5)=e5∧AE Z (ix zq 1)=AF.ver f1∧oEs Z (ix zq 1)=CA f1∧AE Z (ix zq 2)=AF.ver f2∧oEs Z (ix zq 2)=CA f2∧AE Z (ix zq 3)=AF.ver f3∧oEs Z (ix zq 3)=CA f3:=by
 subst h;cases zq<;>and_intros<;>intros<;>rfl
theorem rd1M (c:List AV) (tl:Heap):type_of% (ra1M zq e f1 f2 f3 v0 e0 v4 e4 v5 e5 c tl _ rfl):=ra1M zq e f1 f2 f3 v0 e0 v4 e4 v5 e5 c tl _ rfl
theorem ra2M (c:List AV) (o0:AF) (tl:Heap) (Z:List AV×Heap) (h:Z=(e,hsM zq f1 f2 f3 v0 e0 v4 e4 v5 e5 c (o0::tl))) :
 AE Z (ix zq 7)=AF.ver o0∧oEs Z (ix zq 7)=CA o0∧(∀j,cI Z (ix zq 7) j=intOf (AG (cellOf o0 j)))∧(∀j,cB Z (ix zq 7) j=BN (AG (cellOf o0 j)))∧(∀j,cS Z (ix zq 7) j=strOf (AG (cellOf o0 j)))∧(∀j,cL Z (ix zq 7) j=Cx (AG (cellOf o0 j))):=by
 subst h;cases zq<;>and_intros<;>intros<;>rfl
theorem rd2M (c:List AV) (o0:AF) (tl:Heap):type_of% (ra2M zq e f1 f2 f3 v0 e0 v4 e4 v5 e5 c o0 tl _ rfl):=ra2M zq e f1 f2 f3 v0 e0 v4 e4 v5 e5 c o0 tl _ rfl
theorem ra3M (c:List AV) (o0 o1:AF) (tl:Heap) (Z:List AV×Heap) (h:Z=(e,hsM zq f1 f2 f3 v0 e0 v4 e4 v5 e5 c (o0::o1::tl))) :
 AE Z (ix zq 8)=AF.ver o1∧oEs Z (ix zq 8)=CA o1∧(∀j,cI Z (ix zq 8) j=intOf (AG (cellOf o1 j)))∧(∀j,cB Z (ix zq 8) j=BN (AG (cellOf o1 j)))∧(∀j,cS Z (ix zq 8) j=strOf (AG (cellOf o1 j)))∧(∀j,cL Z (ix zq 8) j=Cx (AG (cellOf o1 j))):=by
 subst h;cases zq<;>and_intros<;>intros<;>rfl
theorem rd3M (c:List AV) (o0 o1:AF) (tl:Heap):type_of% (ra3M zq e f1 f2 f3 v0 e0 v4 e4 v5 e5 c o0 o1 tl _ rfl):=ra3M zq e f1 f2 f3 v0 e0 v4 e4 v5 e5 c o0 o1 tl _ rfl
theorem ra4M (c:List AV) (o0 o1 o2:AF) (tl:Heap) (Z:List AV×Heap) (h:Z=(e,hsM zq f1 f2 f3 v0 e0 v4 e4 v5 e5 c (o0::o1::o2::tl))) :
 AE Z (ix zq 9)=AF.ver o2∧oEs Z (ix zq 9)=CA o2∧(∀j,cI Z (ix zq 9) j=intOf (AG (cellOf o2 j)))∧(∀j,cB Z (ix zq 9) j=BN (AG (cellOf o2 j)))∧(∀j,cS Z (ix zq 9) j=strOf (AG (cellOf o2 j)))∧(∀j,cL Z (ix zq 9) j=Cx (AG (cellOf o2 j))):=by
 subst h;cases zq<;>and_intros<;>intros<;>rfl
theorem rd4M (c:List AV) (o0 o1 o2:AF) (tl:Heap):type_of% (ra4M zq e f1 f2 f3 v0 e0 v4 e4 v5 e5 c o0 o1 o2 tl _ rfl):=ra4M zq e f1 f2 f3 v0 e0 v4 e4 v5 e5 c o0 o1 o2 tl _ rfl
theorem ra5M (c:List AV) (o0 o1 o2 o3:AF) (tl:Heap) (Z:List AV×Heap) (h:Z=(e,hsM zq f1 f2 f3 v0 e0 v4 e4 v5 e5 c (o0::o1::o2::o3::tl))) :
 AE Z (ix zq 10)=AF.ver o3∧oEs Z (ix zq 10)=CA o3∧(∀j,cI Z (ix zq 10) j=intOf (AG (cellOf o3 j)))∧(∀j,cB Z (ix zq 10) j=BN (AG (cellOf o3 j)))∧(∀j,cS Z (ix zq 10) j=strOf (AG (cellOf o3 j)))∧(∀j,cL Z (ix zq 10) j=Cx (AG (cellOf o3 j))):=by
 subst h;cases zq<;>and_intros<;>intros<;>rfl
theorem rd5M (c:List AV) (o0 o1 o2 o3:AF) (tl:Heap):type_of% (ra5M zq e f1 f2 f3 v0 e0 v4 e4 v5 e5 c o0 o1 o2 o3 tl _ rfl):=ra5M zq e f1 f2 f3 v0 e0 v4 e4 v5 e5 c o0 o1 o2 o3 tl _ rfl
theorem ra6M (c:List AV) (o0 o1 o2 o3 o4:AF) (tl:Heap) (Z:List AV×Heap) (h:Z=(e,hsM zq f1 f2 f3 v0 e0 v4 e4 v5 e5 c (o0::o1::o2::o3::o4::tl))) :
 AE Z (ix zq 11)=AF.ver o4∧oEs Z (ix zq 11)=CA o4∧(∀j,cI Z (ix zq 11) j=intOf (AG (cellOf o4 j)))∧(∀j,cB Z (ix zq 11) j=BN (AG (cellOf o4 j)))∧(∀j,cS Z (ix zq 11) j=strOf (AG (cellOf o4 j)))∧(∀j,cL Z (ix zq 11) j=Cx (AG (cellOf o4 j))):=by
 subst h;cases zq<;>and_intros<;>intros<;>rfl
theorem rd6M (c:List AV) (o0 o1 o2 o3 o4:AF) (tl:Heap):type_of% (ra6M zq e f1 f2 f3 v0 e0 v4 e4 v5 e5 c o0 o1 o2 o3 o4 tl _ rfl):=ra6M zq e f1 f2 f3 v0 e0 v4 e4 v5 e5 c o0 o1 o2 o3 o4 tl _ rfl
theorem rh6_M (tl:Heap):rh (e,hsM zq f1 f2 f3 v0 e0 v4 e4 v5 e5 (clM zq g s) (tl)) 0 (Bo zq)=hsM zq E0 E0 E0 v0 e0 v4 e4 v5 e5 (clM zq g s) []:=by intros;cases zq<;>rfl
theorem rh1_M (tl:Heap):rh (e,hsM zq f1 f2 f3 v0 e0 v4 e4 v5 e5 (clM zq g s) (tl)) 0 (CC zq)=hsM zq (.row true f1.ver 15 (CA f1)) (.row true f2.ver 4 (CA f2)) (.row true f3.ver 4 (CA f3)) v0 e0 v4 e4 v5 e5 (clM zq g s) []:=by intros;cases zq<;>rfl
theorem rh5_M (o0 o1:AF) (tl:Heap):rh (e,hsM zq f1 f2 f3 v0 e0 v4 e4 v5 e5 (clM zq g s) (o0::o1::tl)) 0 (Dt zq)=hsM zq E0 E0 E0 v0 e0 v4 e4 v5 e5 (clM zq g s) [.box [.t (tI (intOf (AG (cellOf o0 0))))],.box [.t (.bool (BN (AG (cellOf o1 0))))]]:=by intros;cases zq<;>rfl
theorem rh8_M (o0:AF) (tl:Heap):rh (e,hsM zq f1 f2 f3 v0 e0 v4 e4 v5 e5 (clM zq g s) (o0::tl)) 0 (Qa zq)=hsM zq E0 E0 E0 v0 e0 v4 e4 v5 e5 (clM zq g s) [.box [.t (tI (intOf (AG (cellOf o0 0)))),.t (tI (intOf (AG (cellOf o0 1)))),.t (tI (intOf (AG (cellOf o0 2)))),.t (tI (intOf (AG (cellOf o0 3)))),.t (tI (intOf (AG (cellOf o0 4)))),.t (.bool (BN (AG (cellOf o0 5)))),.t (.str (strOf (AG (cellOf o0 6)))),.t (.sl 2 (Cx (AG (cellOf o0 7))))]]:=by intros;cases zq<;>rfl
theorem rh9_M (o0:AF) (tl:Heap):rh (e,hsM zq f1 f2 f3 v0 e0 v4 e4 v5 e5 (clM zq g s) (o0::tl)) 0 (D2 zq)=hsM zq E0 E0 E0 v0 e0 v4 e4 v5 e5 (clM zq g s) [.row false o0.ver 8 (CA o0)]:=by intros;cases zq<;>rfl
theorem YK (o0 o1:AF) (tl:Heap):rh (e,hsM zq f1 f2 f3 v0 e0 v4 e4 v5 e5 (clM zq g s) (o0::o1::tl)) 0 (MB zq)=hsM zq E0 E0 E0 v0 e0 v4 e4 v5 e5 (clM zq g s) [.row false o0.ver 8 (CA o0),.box [.t (tI (intOf (AG (cellOf o1 0)))),.t (tI (intOf (AG (cellOf o1 1)))),.t (tI (intOf (AG (cellOf o1 2)))),.t (tI (intOf (AG (cellOf o1 3)))),.t (tI (intOf (AG (cellOf o1 4)))),.t (.bool (BN (AG (cellOf o1 5)))),.t (.str (strOf (AG (cellOf o1 6)))),.t (.sl 2 (Cx (AG (cellOf o1 7))))]]:=by intros;cases zq<;>rfl
theorem YJ (o0 o1 o2:AF) (tl:Heap):rh (e,hsM zq f1 f2 f3 v0 e0 v4 e4 v5 e5 (clM zq g s) (o0::o1::o2::tl)) 0 (J2 zq)=hsM zq (.row true f1.ver 15 (CA f1)) (.row true f2.ver 4 (CA f2)) (.row true f3.ver 4 (CA f3)) v0 e0 v4 e4 v5 e5 (clM zq g s) [.row false o0.ver 8 (CA o0),.box [.t (tI (intOf (AG (cellOf o1 0)))),.t (tI (intOf (AG (cellOf o1 1)))),.t (.sl 2 (Cx (AG (cellOf o1 2)))),.t (.str (strOf (AG (cellOf o1 3))))],.box [.t (tI (intOf (AG (cellOf o2 0)))),.t (tI (intOf (AG (cellOf o2 1)))),.t (tI (intOf (AG (cellOf o2 2)))),.t (tI (intOf (AG (cellOf o2 3)))),.t (tI (intOf (AG (cellOf o2 4)))),.t (.bool (BN (AG (cellOf o2 5)))),.t (.str (strOf (AG (cellOf o2 6)))),.t (.sl 2 (Cx (AG (cellOf o2 7))))]]:=by intros;cases zq<;>rfl
theorem YI (o0 o1 o2:AF) (tl:Heap):rh (e,hsM zq f1 f2 f3 v0 e0 v4 e4 v5 e5 (clM zq g s) (o0::o1::o2::tl)) 0 (Cl zq)=hsM zq E0 E0 E0 v0 e0 v4 e4 v5 e5 (clM zq g s) [.row false o0.ver 8 (CA o0),.box [.t (tI (intOf (AG (cellOf o1 0)))),.t (tI (intOf (AG (cellOf o1 1)))),.t (.sl 2 (Cx (AG (cellOf o1 2)))),.t (.str (strOf (AG (cellOf o1 3))))],.box [.t (tI (intOf (AG (cellOf o2 0)))),.t (tI (intOf (AG (cellOf o2 1)))),.t (tI (intOf (AG (cellOf o2 2)))),.t (tI (intOf (AG (cellOf o2 3)))),.t (tI (intOf (AG (cellOf o2 4)))),.t (.bool (BN (AG (cellOf o2 5)))),.t (.str (strOf (AG (cellOf o2 6)))),.t (.sl 2 (Cx (AG (cellOf o2 7))))]]:=by intros;cases zq<;>rfl
theorem YH (o0 o1 o2 o3:AF) (tl:Heap):rh (e,hsM zq f1 f2 f3 v0 e0 v4 e4 v5 e5 (clM zq g s) (o0::o1::o2::o3::tl)) 0 (MA zq)=hsM zq E0 E0 E0 v0 e0 v4 e4 v5 e5 (clM zq g s) [.row false o0.ver 8 (CA o0),.box [.t (tI (intOf (AG (cellOf o1 0)))),.t (tI (intOf (AG (cellOf o1 1)))),.t (.sl 2 (Cx (AG (cellOf o1 2)))),.t (.str (strOf (AG (cellOf o1 3))))],.box [.t (tI (intOf (AG (cellOf o2 0)))),.t (tI (intOf (AG (cellOf o2 1)))),.t (tI (intOf (AG (cellOf o2 2)))),.t (tI (intOf (AG (cellOf o2 3)))),.t (tI (intOf (AG (cellOf o2 4)))),.t (.bool (BN (AG (cellOf o2 5)))),.t (.str (strOf (AG (cellOf o2 6)))),.t (.sl 2 (Cx (AG (cellOf o2 7))))],.box [.t (tI (intOf (AG (cellOf o3 0)))),.t (.sl 10 (Cx (AG (cellOf o3 1)))),.t (tI (intOf (AG (cellOf o3 2)))),.t (tI (intOf (AG (cellOf o3 3))))]]:=by intros;cases zq<;>rfl
theorem YG (o0 o1:AF) (tl:Heap):rh (e,hsM zq f1 f2 f3 v0 e0 v4 e4 v5 e5 (clM zq g s) (o0::o1::tl)) 0 (O5 zq)=hsM zq E0 E0 E0 v0 e0 v4 e4 v5 e5 (clM zq g s) [.row false o0.ver 8 (CA o0),.box [.t (tI (intOf (AG (cellOf o1 0)))),.t (tI (intOf (AG (cellOf o1 1)))),.t (.sl 2 (Cx (AG (cellOf o1 2)))),.t (.str (strOf (AG (cellOf o1 3))))]]:=by intros;cases zq<;>rfl
theorem YF (o0:AF) (tl:Heap):rh (e,hsM zq f1 f2 f3 v0 e0 v4 e4 v5 e5 (clM zq g s) (o0::tl)) 0 (L9 zq)=hsM zq E0 E0 E0 v0 e0 v4 e4 v5 e5 (clM zq g s) [.box [.t (tI (intOf (AG (cellOf o0 0)))),.t (.sl 10 (Cx (AG (cellOf o0 1)))),.t (tI (intOf (AG (cellOf o0 2)))),.t (tI (intOf (AG (cellOf o0 3))))]]:=by intros;cases zq<;>rfl
theorem ru5_M (x y:AF):upd (rh (e,hsM zq f1 f2 f3 v0 e0 v4 e4 v5 e5 (clM zq g s) []) 0 (Dt zq)) [((ix zq 7),x),((ix zq 8),y)]=hsM zq E0 E0 E0 v0 e0 v4 e4 v5 e5 (clM zq g s) [x,y]:=by intros;cases zq<;>rfl
theorem ru8_M (x:AF):upd (rh (e,hsM zq f1 f2 f3 v0 e0 v4 e4 v5 e5 (clM zq g s) []) 0 (Qa zq)) [((ix zq 7),x)]=hsM zq E0 E0 E0 v0 e0 v4 e4 v5 e5 (clM zq g s) [x]:=by intros;cases zq<;>rfl
theorem ru9_M (x:AF):upd (rh (e,hsM zq f1 f2 f3 v0 e0 v4 e4 v5 e5 (clM zq g s) []) 0 (D2 zq)) [((ix zq 7),x)]=hsM zq E0 E0 E0 v0 e0 v4 e4 v5 e5 (clM zq g s) [x]:=by intros;cases zq<;>rfl
theorem YD (o0:AF) (x y:AF):upd (rh (e,hsM zq f1 f2 f3 v0 e0 v4 e4 v5 e5 (clM zq g s) [o0]) 0 (MB zq)) [((ix zq 7),x),((ix zq 8),y)]=hsM zq E0 E0 E0 v0 e0 v4 e4 v5 e5 (clM zq g s) [x,y]:=by intros;cases zq<;>rfl
theorem YA (o0:AF) (y:AF):upd (rh (e,hsM zq f1 f2 f3 v0 e0 v4 e4 v5 e5 (clM zq g s) [o0]) 0 (O5 zq)) [((ix zq 8),y)]=hsM zq E0 E0 E0 v0 e0 v4 e4 v5 e5 (clM zq g s) [.row false o0.ver 8 (CA o0),y]:=by intros;cases zq<;>rfl
theorem YB (o0 o1 o2:AF) (y:AF):upd (rh (e,hsM zq f1 f2 f3 v0 e0 v4 e4 v5 e5 (clM zq g s) [o0,o1,o2]) 0 (MA zq)) [((ix zq 10),y)]=hsM zq E0 E0 E0 v0 e0 v4 e4 v5 e5 (clM zq g s) [.row false o0.ver 8 (CA o0),.box [.t (tI (intOf (AG (cellOf o1 0)))),.t (tI (intOf (AG (cellOf o1 1)))),.t (.sl 2 (Cx (AG (cellOf o1 2)))),.t (.str (strOf (AG (cellOf o1 3))))],.box [.t (tI (intOf (AG (cellOf o2 0)))),.t (tI (intOf (AG (cellOf o2 1)))),.t (tI (intOf (AG (cellOf o2 2)))),.t (tI (intOf (AG (cellOf o2 3)))),.t (tI (intOf (AG (cellOf o2 4)))),.t (.bool (BN (AG (cellOf o2 5)))),.t (.str (strOf (AG (cellOf o2 6)))),.t (.sl 2 (Cx (AG (cellOf o2 7))))],y]:=by intros;cases zq<;>rfl
theorem X9 (y:AF):upd (rh (e,hsM zq f1 f2 f3 v0 e0 v4 e4 v5 e5 (clM zq g s) []) 0 (L9 zq)) [((ix zq 7),y)]=hsM zq E0 E0 E0 v0 e0 v4 e4 v5 e5 (clM zq g s) [y]:=by intros;cases zq<;>rfl
theorem YC (o0 o1 x y z w:AF):upd (rh (e,hsM zq f1 f2 f3 v0 e0 v4 e4 v5 e5 (clM zq g s) [o0,o1]) 0 (J2 zq)) [((ix zq 1),x),((ix zq 2),y),((ix zq 3),z),((ix zq 9),w)]=hsM zq x y z v0 e0 v4 e4 v5 e5 (clM zq g s) [.row false o0.ver 8 (CA o0),.box [.t (tI (intOf (AG (cellOf o1 0)))),.t (tI (intOf (AG (cellOf o1 1)))),.t (.sl 2 (Cx (AG (cellOf o1 2)))),.t (.str (strOf (AG (cellOf o1 3))))],w]:=by intros;cases zq<;>rfl
theorem VX (o0 y:AF) (d:List AV):upd (rh (e,hsM zq f1 f2 f3 v0 e0 v4 e4 v5 e5 (clM zq g s) [o0]) 0 (O5 zq)) [((ix zq 6),.box d),((ix zq 8),y)]=hsM zq E0 E0 E0 v0 e0 v4 e4 v5 e5 d [.row false o0.ver 8 (CA o0),y]:=by intros;cases zq<;>rfl
theorem VG (x y z:AF) (c:List AV) (tl:Heap):upd (hsM zq f1 f2 f3 v0 e0 v4 e4 v5 e5 c tl) [((ix zq 1),x),((ix zq 2),y),((ix zq 3),z)]=hsM zq x y z v0 e0 v4 e4 v5 e5 c tl:=by intros;cases zq<;>rfl
theorem Rt (x y z w o0 o1 o2:AF) (c:List AV) (tl:Heap):upd (hsM zq f1 f2 f3 v0 e0 v4 e4 v5 e5 c (o0::o1::o2::tl)) [((ix zq 1),x),((ix zq 2),y),((ix zq 3),z),((ix zq 9),w)]=hsM zq x y z v0 e0 v4 e4 v5 e5 c (o0::o1::w::tl):=by intros;cases zq<;>rfl
theorem ud6_M (d:List AV) (c:List AV) (tl:Heap):upd (hsM zq f1 f2 f3 v0 e0 v4 e4 v5 e5 c tl) [((ix zq 6),.box d)]=hsM zq f1 f2 f3 v0 e0 v4 e4 v5 e5 d tl:=by intros;cases zq<;>rfl
theorem Xk (d:List AV) (w:Nat) (r:List (List Tree)) (c:List AV) (tl:Heap):upd (hsM zq f1 f2 f3 v0 e0 v4 e4 v5 e5 c tl) [((ix zq 0),.row false w 9 r),((ix zq 6),.box d)]=hsM zq f1 f2 f3 w r v4 e4 v5 e5 d tl:=by intros;cases zq<;>rfl
theorem Xj (d:List AV) (w:Nat) (r:List (List Tree)) (c:List AV) (tl:Heap):upd (hsM zq f1 f2 f3 v0 e0 v4 e4 v5 e5 c tl) [((ix zq 4),.row false w 9 r),((ix zq 6),.box d)]=hsM zq f1 f2 f3 v0 e0 w r v5 e5 d tl:=by intros;cases zq<;>rfl
theorem Xi (d:List AV) (w:Nat) (r:List (List Tree)) (c:List AV) (tl:Heap):upd (hsM zq f1 f2 f3 v0 e0 v4 e4 v5 e5 c tl) [((ix zq 5),.row false w 9 r),((ix zq 6),.box d)]=hsM zq f1 f2 f3 v0 e0 v4 e4 w r d tl:=by intros;cases zq<;>rfl
theorem ud7_M (x o0:AF) (c:List AV) (tl:Heap):upd (hsM zq f1 f2 f3 v0 e0 v4 e4 v5 e5 c (o0::tl)) [((ix zq 7),x)]=hsM zq f1 f2 f3 v0 e0 v4 e4 v5 e5 c (x::tl):=by intros;cases zq<;>rfl
theorem Xf (x y o0 o1:AF) (c:List AV) (tl:Heap):upd (hsM zq f1 f2 f3 v0 e0 v4 e4 v5 e5 c (o0::o1::tl)) [((ix zq 7),x),((ix zq 8),y)]=hsM zq f1 f2 f3 v0 e0 v4 e4 v5 e5 c (x::y::tl):=by intros;cases zq<;>rfl
theorem Xh (x o0:AF) (d:List AV) (c:List AV) (tl:Heap):upd (hsM zq f1 f2 f3 v0 e0 v4 e4 v5 e5 c (o0::tl)) [((ix zq 6),.box d),((ix zq 7),x)]=hsM zq f1 f2 f3 v0 e0 v4 e4 v5 e5 d (x::tl):=by intros;cases zq<;>rfl
theorem Xg (x o0 o1:AF) (d:List AV) (c:List AV) (tl:Heap):upd (hsM zq f1 f2 f3 v0 e0 v4 e4 v5 e5 c (o0::o1::tl)) [((ix zq 6),.box d),((ix zq 8),x)]=hsM zq f1 f2 f3 v0 e0 v4 e4 v5 e5 d (o0::x::tl):=by intros;cases zq<;>rfl
theorem rb6_M (tl:Heap):rb (e,hsM zq f1 f2 f3 v0 e0 v4 e4 v5 e5 (clM zq g s) tl) (ix zq 6) 0 (BT zq)=clM zq g s:=by intros;cases zq<;>rfl
theorem ucD_M (a b d:Int) (fs:List Frame):upd (clM zq g s) [(0,.t (tI a)),(1,.t (.sl 10 (fs.map Frame.enc))),(2,.t (tI b)),(3,.t (tI d))]=clM zq g {s with dat:=⟨a,fs,b,d⟩}:=by cases zq<;>kernel_rfl
theorem ucR_M (a b d:Int) (fs:List Frame):upd (clM zq g s) [(4,.t (tI a)),(5,.t (.sl 10 (fs.map Frame.enc))),(6,.t (tI b)),(7,.t (tI d))]=clM zq g {s with rep:=⟨a,fs,b,d⟩}:=by cases zq<;>kernel_rfl
theorem ucN_M (a:Int):upd (clM zq g s) [(15,.t (tI a))]=clM zq g {s with now:=a}:=by cases zq<;>kernel_rfl
theorem Xm (a:Int):upd (clM zq g s) [(12,.t (tI a))]=clM zq g {s with dist:=a}:=by cases zq<;>kernel_rfl
theorem ucS_M (a:Snd):upd (clM zq g s) [(16,.t (tI a.c.frm)),(17,.t (tI a.c.dst)),(18,.t (tI a.c.start)),(19,.t (tI a.c.fin)),(20,.t (tI a.c.rate)),(21,.t (tI a.c.rng)),(22,.t (tI a.c.loss)),(23,.t (tI a.ses)),(24,.t (.str a.data)),(25,.t (tI a.fin)),(26,.t (tI a.busy)),(27,.t (tI a.ser)),(28,.t (.sl 2 (a.acked.map Span.enc))),(29,.t (tI a.due)),(30,.t (tI a.st))]=clM zq g {s with snd:=a}:=by cases zq<;>kernel_rfl
theorem Xl (a:Snd) (k:Bool) (t:Int):upd (clM zq g s) [(16,.t (tI a.c.frm)),(17,.t (tI a.c.dst)),(18,.t (tI a.c.start)),(19,.t (tI a.c.fin)),(20,.t (tI a.c.rate)),(21,.t (tI a.c.rng)),(22,.t (tI a.c.loss)),(23,.t (tI a.ses)),(24,.t (.str a.data)),(25,.t (tI a.fin)),(26,.t (tI a.busy)),(27,.t (tI a.ser)),(28,.t (.sl 2 (a.acked.map Span.enc))),(29,.t (tI a.due)),(30,.t (tI a.st)),(38,.t (.bool k)),(39,.t (tI t))]=clM zq g {s with snd:=a,kno:=k,knoAt:=t}:=by cases zq<;>kernel_rfl
theorem ucV_M (a:Rcv):upd (clM zq g s) [(31,.t (tI a.ses)),(32,.t (tI a.tot)),(33,.t (.sl 2 (a.known.map Span.enc))),(34,.t (.str a.data))]=clM zq g {s with rcv:=a}:=by cases zq<;>kernel_rfl
theorem ucA_M (k:Bool) (t:Int):upd (clM zq g s) [(36,.t (.bool k)),(37,.t (tI t))]=clM zq g {s with rcvd:=k,arrive:=t}:=by cases zq<;>kernel_rfl
theorem M3 (a:Snd) (w:Nat) (o:List Out):upd (clM zq g s) [(16,.t (tI a.c.frm)),(17,.t (tI a.c.dst)),(18,.t (tI a.c.start)),(19,.t (tI a.c.fin)),(20,.t (tI a.c.rate)),(21,.t (tI a.c.rng)),(22,.t (tI a.c.loss)),(23,.t (tI a.ses)),(24,.t (.str a.data)),(25,.t (tI a.fin)),(26,.t (tI a.busy)),(27,.t (tI a.ser)),(28,.t (.sl 2 (a.acked.map Span.enc))),(29,.t (tI a.due)),(30,.t (tI a.st)),(35,.sref (ix zq 0) w 0 (s.pend.length+o.length))]=clM zq {g with v0:=w,pre:=[]} {s with snd:=a,pend:=s.pend++o}:=by rw [← xE];cases zq<;>kernel_rfl
theorem Qf (a:Snd) (w:Nat) (o:List Out) (k:Bool) (t:Int):upd (clM zq g s) [(16,.t (tI a.c.frm)),(17,.t (tI a.c.dst)),(18,.t (tI a.c.start)),(19,.t (tI a.c.fin)),(20,.t (tI a.c.rate)),(21,.t (tI a.c.rng)),(22,.t (tI a.c.loss)),(23,.t (tI a.ses)),(24,.t (.str a.data)),(25,.t (tI a.fin)),(26,.t (tI a.busy)),(27,.t (tI a.ser)),(28,.t (.sl 2 (a.acked.map Span.enc))),(29,.t (tI a.due)),(30,.t (tI a.st)),(35,.sref (ix zq 0) w 0 (s.pend.length+o.length)),(38,.t (.bool k)),(39,.t (tI t))]=clM zq {g with v0:=w,pre:=[]} {s with snd:=a,pend:=s.pend++o,kno:=k,knoAt:=t}:=by rw [← xE];cases zq<;>kernel_rfl
theorem ucP_M (x:Out) (l:List Out) (hp:s.pend=x::l):upd (clM zq g s) [(35,.sref (ix zq 0) g.v0 (g.pre.length+1) (s.pend.length-1))]=clM zq {g with pre:=g.pre++[x.enc]} {s with pend:=l}:=by rw [show s.pend.length-1=l.length by rw [hp];rfl,show g.pre.length+1=(g.pre++[x.enc]).length by simp];cases zq<;>kernel_rfl
theorem M5 (a b d:Int) (fs:List Frame) (e:Int) (w:Nat) (x:Out):upd (clM zq g s) [(0,.t (tI a)),(1,.t (.sl 10 (fs.map Frame.enc))),(2,.t (tI b)),(3,.t (tI d)),(11,.t (tI e)),(13,.sref (ix zq 4) w 0 (s.sent.length+1))]=clM zq {g with v4:=w} {s with dat:=⟨a,fs,b,d⟩,entered:=e,sent:=s.sent++[x]}:=by rw [show s.sent.length+1=(s.sent++[x]).length by simp];cases zq<;>kernel_rfl
theorem Qh (a b d:Int) (fs:List Frame) (e u:Int) (w:Nat) (x:Out):upd (clM zq g s) [(0,.t (tI a)),(1,.t (.sl 10 (fs.map Frame.enc))),(2,.t (tI b)),(3,.t (tI d)),(11,.t (tI e)),(12,.t (tI u)),(13,.sref (ix zq 4) w 0 (s.sent.length+1))]=clM zq {g with v4:=w} {s with dat:=⟨a,fs,b,d⟩,entered:=e,dist:=u,sent:=s.sent++[x]}:=by rw [show s.sent.length+1=(s.sent++[x]).length by simp];cases zq<;>kernel_rfl
theorem M4 (a b d:Int) (fs:List Frame) (e:Int) (w:Nat) (x:Out):upd (clM zq g s) [(4,.t (tI a)),(5,.t (.sl 10 (fs.map Frame.enc))),(6,.t (tI b)),(7,.t (tI d)),(11,.t (tI e)),(14,.sref (ix zq 5) w 0 (s.told.length+1))]=clM zq {g with v5:=w} {s with rep:=⟨a,fs,b,d⟩,entered:=e,told:=s.told++[x]}:=by rw [show s.told.length+1=(s.told++[x]).length by simp];cases zq<;>kernel_rfl
theorem Qg (a b d:Int) (fs:List Frame) (e u:Int) (w:Nat) (x:Out):upd (clM zq g s) [(4,.t (tI a)),(5,.t (.sl 10 (fs.map Frame.enc))),(6,.t (tI b)),(7,.t (tI d)),(11,.t (tI e)),(12,.t (tI u)),(14,.sref (ix zq 5) w 0 (s.told.length+1))]=clM zq {g with v5:=w} {s with rep:=⟨a,fs,b,d⟩,entered:=e,dist:=u,told:=s.told++[x]}:=by rw [show s.told.length+1=(s.told++[x]).length by simp];cases zq<;>kernel_rfl
theorem sSM:type_of% (And.intro (And.intro @rd0M (And.intro @rd1M (And.intro @rd2M (And.intro @rd3M (And.intro @rd4M (And.intro @rd5M @rd6M)))))) (And.intro @rh6_M (And.intro @rh1_M (And.intro @rh5_M (And.intro @rh8_M (And.intro @rh9_M (And.intro @YK (And.intro @YJ (And.intro @YI (And.intro @YH (And.intro @YG (And.intro @YF (And.intro @ru5_M (And.intro @ru8_M (And.intro @ru9_M (And.intro @YD (And.intro @YA (And.intro @YB (And.intro @X9 (And.intro @YC (And.intro @VX (And.intro @VG (And.intro @Rt (And.intro @ud6_M (And.intro @Xk (And.intro @Xj (And.intro @Xi (And.intro @ud7_M (And.intro @Xf (And.intro @Xh (And.intro @Xg (And.intro @rb6_M (And.intro @ucD_M (And.intro @ucR_M (And.intro @ucN_M (And.intro @Xm (And.intro @ucS_M (And.intro @Xl (And.intro @ucV_M (And.intro @ucA_M (And.intro @M3 @Qf))))))))))))))))))))))))))))))))))))))))):=(And.intro (And.intro @rd0M (And.intro @rd1M (And.intro @rd2M (And.intro @rd3M (And.intro @rd4M (And.intro @rd5M @rd6M)))))) (And.intro @rh6_M (And.intro @rh1_M (And.intro @rh5_M (And.intro @rh8_M (And.intro @rh9_M (And.intro @YK (And.intro @YJ (And.intro @YI (And.intro @YH (And.intro @YG (And.intro @YF (And.intro @ru5_M (And.intro @ru8_M (And.intro @ru9_M (And.intro @YD (And.intro @YA (And.intro @YB (And.intro @X9 (And.intro @YC (And.intro @VX (And.intro @VG (And.intro @Rt (And.intro @ud6_M (And.intro @Xk (And.intro @Xj (And.intro @Xi (And.intro @ud7_M (And.intro @Xf (And.intro @Xh (And.intro @Xg (And.intro @rb6_M (And.intro @ucD_M (And.intro @ucR_M (And.intro @ucN_M (And.intro @Xm (And.intro @ucS_M (And.intro @Xl (And.intro @ucV_M (And.intro @ucA_M (And.intro @M3 @Qf)))))))))))))))))))))))))))))))))))))))))
end Ab
namespace Ab
open Go
variable (zq:Bool)
theorem entD_M (g:Gh) (s:Ses) (x:Seg) (f1 f2 f3:AF) (hc:EOk s s.dat) :
  Ev fun n=>∀again,CM_6 zq n (fI C n) again ([.ptr (ix zq 6) 0,.ptr (ix zq 6) 0,.t (tI 0),.t (tI s.now),.agg (Dc x)],HM zq f1 f2 f3 g s [])=again ([],HM zq E0 E0 E0 {g with v4:=g.v4+1} (D4 s x) []):=by
 have q1:¬(10000:Int)≤s.entered:=by have:=hc.ent;omega
 have q2:w64 (s.entered+1)=s.entered+1:=by have:=hc.ent;exact AN (by omega) (by omega)
 have q3:w64 (s.dist+1)=s.dist+1:=by have:=hc.dst;exact AN (by omega) (by omega)
 have q4:s.sent.length+1≤1073741824:=by have:=hc.sl;omega
 have q5:take s.sent.length (List.map Out.enc s.sent)=List.map Out.enc s.sent:=vD (by simp);have key:=fun (ds:List Int) (hd:∀d∈ds,s.dat.rng≤d∧d≤2*s.dat.rng) (hl:ds.length≤2)=>s244 s.dat hc.gc s.now x hc.now ds hd (by have:=hc.len;omega);have kR:∀d∈[s.dat.rng],s.dat.rng≤d∧d≤2*s.dat.rng:=by have:=hc.gc.rng;simp;omega
 simp only [Cm.enc,yY,xR] at key;by_cases h0:Q8 s.dark s.now=true
 ·rw [Ks s x [] s.dist (by simp [DF,h0])];refine ((PD s.dark s.now).and (key [] (by simp) (by simp))).mono fun n h again => ?_;obtain ⟨h1,h2⟩:=h;simp only [vA] at h2;simp only [HM,KA,Om,Dc,sSM,vv2,vf,reduceCtorEq,vE,h1,h0,h2,Az,AT,q1,q2,q4,q5,bne_self_eq_false,yE,M5 (x:=⟨s.now,x⟩),wZ,xJ,vA,Out.enc]
 ·have h0:Q8 s.dark s.now=false:=by simpa using h0
  by_cases h5:s.picks=[]
  ·rw [Ks s x [s.dat.rng] s.dist (by simp [DF,h0,h5])];refine ((PD s.dark s.now).and (key [s.dat.rng] kR (by simp))).mono fun n h again => ?_;obtain ⟨h1,h2⟩:=h;simp only [xJ,vA,DR] at h2;have h5':(s.picks.length:Int)=0:=by simp [h5]
   simp only [HM,KA,Om,Dc,sSM,vv2,vf,reduceCtorEq,vE,h1,h0,h2,h5',beq_self_eq_true,Az,AT,q1,q2,q4,q5,bne_self_eq_false,yE,M5 (x:=⟨s.now,x⟩),wZ,xJ,vA,Out.enc]
  ·have hpos:=zW.2 h5;have h6:¬(s.picks.length:Int)=0:=by omega
   have h6':((s.picks.length:Int)==0)=false:=by simpa using h6
   have hm1:=emod_nonneg s.entered h6;have hm2:=Int.emod_lt_of_pos s.entered (show (0:Int)<s.picks.length by omega);have hm:tmod s.entered s.picks.length=s.entered % s.picks.length:=Int.tmod_eq_emod_of_nonneg hc.ent.1;obtain ⟨p,hp⟩:∃p,s.picks[(s.entered % s.picks.length).toNat]? = some p:=⟨_,zO (by omega)⟩
   have hg:s.picks.getD (s.entered % s.picks.length).toNat 0=p:=by rw [zK,hp];rfl
   have hpk:=hc.pk p (xN hp);have hrg:=hc.gc.rng;have k176:=s272 p s.dat.rng hpk hrg;have kf:=key (C2 p s.dat.rng) (fun d hd=>Ko hrg.1 hd) (Kp _ _);have kr:=key [s.dat.rng] kR (by simp);have c1:∀z:Int×List (List Tree),True:=fun _=>trivial;by_cases h7:(C2 p s.dat.rng).head? = some s.dat.rng
   ·rw [Ks s x (C2 p s.dat.rng) s.dist (by simp only [DF,h0,h5,hg,h7,if_true,if_false,zF])];obtain ⟨l,hl⟩:∃l,C2 p s.dat.rng=s.dat.rng::l:=by
     cases hf:C2 p s.dat.rng with
     |nil=>rw [hf] at h7;cases h7
     |cons a l=>rw [hf] at h7;cases h7;exact ⟨l,rfl⟩
    rw [hl] at kf k176 ⊢;refine ((PD s.dark s.now).and (k176.and kf)).mono fun n h again => ?_;obtain ⟨h1,h2,h3⟩:=h;simp only [xJ,DR] at h2 h3;simp only [HM,KA,Om,Fi,Ma,Fi,MZ,Dc,sSM,vv2,vf,reduceCtorEq,vE,h1,h0,h2,h3,h6,h6',hm,hm1,hp,xJ,DR,xC,(show (0:Int)<((l.length+1:Nat):Int) by omega),beq_self_eq_true,Az,AT,q1,q2,q3,q4,q5,bne_self_eq_false,yE,M5 (x:=⟨s.now,x⟩),wZ,vA,Out.enc]
   ·have h8:∀y:Int,((C2 p s.dat.rng).map DR)[0]? = some [tI y]→(y==s.dat.rng)=false:=by
     intro y hy;cases hf:C2 p s.dat.rng with
     |nil=>rw [hf] at hy;cases hy
     |cons a l=>
      rw [hf] at hy h7;cases hy;simp at h7;simpa using h7
    have k8:(C2 p s.dat.rng).length=0∨∃y,0<(C2 p s.dat.rng).length∧((C2 p s.dat.rng).map DR)[0]? = some [tI y]∧(y==s.dat.rng)=false:=by
     cases hf:C2 p s.dat.rng with
     |nil=>exact .inl rfl
     |cons a l=>exact .inr ⟨a,by simp,rfl,h8 a (by rw [hf];rfl)⟩
    by_cases h9:0≤s.limit∧s.limit≤s.dist
    ·rw [Ks s x [s.dat.rng] s.dist (by simp only [DF,h0,h5,hg,h7,h9,if_true,if_false,zF,and_self])];refine ((PD s.dark s.now).and (k176.and kr)).mono fun n h again => ?_;obtain ⟨h1,h2,h3⟩:=h;simp only [xJ,vA,DR] at h3;rcases k8 with k8|⟨y,k8,k9,k10⟩
     ·simp only [HM,KA,Om,Fi,Ma,Fi,MZ,Dc,sSM,vv2,vf,reduceCtorEq,vE,h1,h0,h2,h3,h6,h6',hm,hm1,hp,xJ,DR,k8,vN,wP,h9,Az,AT,q1,q2,q3,q4,q5,bne_self_eq_false,yE,M5 (x:=⟨s.now,x⟩),wZ,vA,Out.enc]
     ·simp only [HM,KA,Om,Fi,Ma,Fi,MZ,Dc,sSM,vv2,vf,reduceCtorEq,vE,h1,h0,h2,h3,h6,h6',hm,hm1,hp,xJ,DR,(show (0:Int)<((C2 p s.dat.rng).length:Int) by omega),k9,k10,h9,Az,AT,q1,q2,q3,q4,q5,bne_self_eq_false,yE,M5 (x:=⟨s.now,x⟩),wZ,vA,Out.enc]
    ·rw [Ks s x (C2 p s.dat.rng) (s.dist+1) (by simp only [DF,h0,h5,hg,h7,h9,if_false,zF])];refine ((PD s.dark s.now).and (k176.and kf)).mono fun n h again => ?_;obtain ⟨h1,h2,h3⟩:=h;have h9':(0≤s.limit→¬s.limit≤s.dist):=fun a b=>h9 ⟨a,b⟩;by_cases h10:0≤s.limit
     ·have h11:=h9' h10;rcases k8 with k8|⟨y,k8,k9,k10⟩
      ·simp only [HM,KA,Om,Fi,Ma,Fi,MZ,Dc,sSM,vv2,vf,reduceCtorEq,vE,h1,h0,h2,h3,h6,h6',hm,hm1,hp,xJ,DR,k8,vN,wP,h10,h11,Az,AT,q1,q2,q3,q4,q5,bne_self_eq_false,yE,Qh (x:=⟨s.now,x⟩),wZ,vA,Out.enc]
      ·simp only [HM,KA,Om,Fi,Ma,Fi,MZ,Dc,sSM,vv2,vf,reduceCtorEq,vE,h1,h0,h2,h3,h6,h6',hm,hm1,hp,xJ,DR,(show (0:Int)<((C2 p s.dat.rng).length:Int) by omega),k9,k10,h10,h11,Az,AT,q1,q2,q3,q4,q5,bne_self_eq_false,yE,Qh (x:=⟨s.now,x⟩),wZ,vA,Out.enc]
     ·rcases k8 with k8|⟨y,k8,k9,k10⟩
      ·simp only [HM,KA,Om,Fi,Ma,Fi,MZ,Dc,sSM,vv2,vf,reduceCtorEq,vE,h1,h0,h2,h3,h6,h6',hm,hm1,hp,xJ,DR,k8,vN,wP,h10,Az,AT,q1,q2,q3,q4,q5,bne_self_eq_false,yE,Qh (x:=⟨s.now,x⟩),wZ,vA,Out.enc]
      ·simp only [HM,KA,Om,Fi,Ma,Fi,MZ,Dc,sSM,vv2,vf,reduceCtorEq,vE,h1,h0,h2,h3,h6,h6',hm,hm1,hp,xJ,DR,(show (0:Int)<((C2 p s.dat.rng).length:Int) by omega),k9,k10,h10,Az,AT,q1,q2,q3,q4,q5,bne_self_eq_false,yE,Qh (x:=⟨s.now,x⟩),wZ,vA,Out.enc]
theorem entR_M (g:Gh) (s:Ses) (x:Seg) (f1 f2 f3:AF) (hc:EOk s s.rep) (v8:Nat) (e8:List (List Tree)) (a b:Int) (ks:List (List Tree)) (bd:ByteArray) (y:Seg) :
  Ev fun n=>∀again,CM_4 zq n (fI C n) again ([.ptr (ix zq 6) 0,.ptr (ix zq 6) 4,.t (tI 1),.t (tI s.now),.agg (Dc x)],HM zq f1 f2 f3 g s [.row false v8 8 e8,.box [.t (tI a),.t (tI b),.t (.sl 2 ks),.t (.str bd)],.box (Dc y)])=again ([],HM zq E0 E0 E0 {g with v5:=g.v5+1} (DQ s x) [.row false v8 8 e8,.box [.t (tI a),.t (tI b),.t (.sl 2 ks),.t (.str bd)],.box (Dc y)]):=by
 have q1:¬(10000:Int)≤s.entered:=by have:=hc.ent;omega
 have q2:w64 (s.entered+1)=s.entered+1:=by have:=hc.ent;exact AN (by omega) (by omega)
 have q3:w64 (s.dist+1)=s.dist+1:=by have:=hc.dst;exact AN (by omega) (by omega)
 have q4:s.told.length+1≤1073741824:=by have:=hc.sl;omega
 have q5:take s.told.length (List.map Out.enc s.told)=List.map Out.enc s.told:=vD (by simp);have key:=fun (ds:List Int) (hd:∀d∈ds,s.rep.rng≤d∧d≤2*s.rep.rng) (hl:ds.length≤2)=>s244 s.rep hc.gc s.now x hc.now ds hd (by have:=hc.len;omega);have kR:∀d∈[s.rep.rng],s.rep.rng≤d∧d≤2*s.rep.rng:=by have:=hc.gc.rng;simp;omega
 simp only [Cm.enc,yY,xR] at key;by_cases h0:Q8 s.dark s.now=true
 ·rw [Kr s x [] s.dist (by simp [DF,h0])];refine ((PD s.dark s.now).and (key [] (by simp) (by simp))).mono fun n h again => ?_;obtain ⟨h1,h2⟩:=h;simp only [vA] at h2;simp only [HM,KB,On,Dc,sSM,vv2,vf,reduceCtorEq,vE,h1,h0,h2,Az,AT,q1,q2,q4,q5,bne_self_eq_false,yE,M4 (x:=⟨s.now,x⟩),wZ,xJ,vA,Out.enc]
 ·have h0:Q8 s.dark s.now=false:=by simpa using h0
  by_cases h5:s.picks=[]
  ·rw [Kr s x [s.rep.rng] s.dist (by simp [DF,h0,h5])];refine ((PD s.dark s.now).and (key [s.rep.rng] kR (by simp))).mono fun n h again => ?_;obtain ⟨h1,h2⟩:=h;simp only [xJ,vA,DR] at h2;have h5':(s.picks.length:Int)=0:=by simp [h5]
   simp only [HM,KB,On,Dc,sSM,vv2,vf,reduceCtorEq,vE,h1,h0,h2,h5',beq_self_eq_true,Az,AT,q1,q2,q4,q5,bne_self_eq_false,yE,M4 (x:=⟨s.now,x⟩),wZ,xJ,vA,Out.enc]
  ·have hpos:=zW.2 h5;have h6:¬(s.picks.length:Int)=0:=by omega
   have h6':((s.picks.length:Int)==0)=false:=by simpa using h6
   have hm1:=emod_nonneg s.entered h6;have hm2:=Int.emod_lt_of_pos s.entered (show (0:Int)<s.picks.length by omega);have hm:tmod s.entered s.picks.length=s.entered % s.picks.length:=Int.tmod_eq_emod_of_nonneg hc.ent.1;obtain ⟨p,hp⟩:∃p,s.picks[(s.entered % s.picks.length).toNat]? = some p:=⟨_,zO (by omega)⟩
   have hg:s.picks.getD (s.entered % s.picks.length).toNat 0=p:=by rw [zK,hp];rfl
   have hpk:=hc.pk p (xN hp);have hrg:=hc.gc.rng;have k176:=s272 p s.rep.rng hpk hrg;have kf:=key (C2 p s.rep.rng) (fun d hd=>Ko hrg.1 hd) (Kp _ _);have kr:=key [s.rep.rng] kR (by simp);have c1:∀z:Int×List (List Tree),True:=fun _=>trivial;by_cases h7:(C2 p s.rep.rng).head? = some s.rep.rng
   ·rw [Kr s x (C2 p s.rep.rng) s.dist (by simp only [DF,h0,h5,hg,h7,if_true,if_false,zF])];obtain ⟨l,hl⟩:∃l,C2 p s.rep.rng=s.rep.rng::l:=by
     cases hf:C2 p s.rep.rng with
     |nil=>rw [hf] at h7;cases h7
     |cons a l=>rw [hf] at h7;cases h7;exact ⟨l,rfl⟩
    rw [hl] at kf k176 ⊢;refine ((PD s.dark s.now).and (k176.and kf)).mono fun n h again => ?_;obtain ⟨h1,h2,h3⟩:=h;simp only [xJ,DR] at h2 h3;simp only [HM,KB,On,Fj,Mc,Fj,Mb,Dc,sSM,vv2,vf,reduceCtorEq,vE,h1,h0,h2,h3,h6,h6',hm,hm1,hp,xJ,DR,xC,(show (0:Int)<((l.length+1:Nat):Int) by omega),beq_self_eq_true,Az,AT,q1,q2,q3,q4,q5,bne_self_eq_false,yE,M4 (x:=⟨s.now,x⟩),wZ,vA,Out.enc]
   ·have h8:∀y:Int,((C2 p s.rep.rng).map DR)[0]? = some [tI y]→(y==s.rep.rng)=false:=by
     intro y hy;cases hf:C2 p s.rep.rng with
     |nil=>rw [hf] at hy;cases hy
     |cons a l=>
      rw [hf] at hy h7;cases hy;simp at h7;simpa using h7
    have k8:(C2 p s.rep.rng).length=0∨∃y,0<(C2 p s.rep.rng).length∧((C2 p s.rep.rng).map DR)[0]? = some [tI y]∧(y==s.rep.rng)=false:=by
     cases hf:C2 p s.rep.rng with
     |nil=>exact .inl rfl
     |cons a l=>exact .inr ⟨a,by simp,rfl,h8 a (by rw [hf];rfl)⟩
    by_cases h9:0≤s.limit∧s.limit≤s.dist
    ·rw [Kr s x [s.rep.rng] s.dist (by simp only [DF,h0,h5,hg,h7,h9,if_true,if_false,zF,and_self])];refine ((PD s.dark s.now).and (k176.and kr)).mono fun n h again => ?_;obtain ⟨h1,h2,h3⟩:=h;simp only [xJ,vA,DR] at h3;rcases k8 with k8|⟨y,k8,k9,k10⟩
     ·simp only [HM,KB,On,Fj,Mc,Fj,Mb,Dc,sSM,vv2,vf,reduceCtorEq,vE,h1,h0,h2,h3,h6,h6',hm,hm1,hp,xJ,DR,k8,vN,wP,h9,Az,AT,q1,q2,q3,q4,q5,bne_self_eq_false,yE,M4 (x:=⟨s.now,x⟩),wZ,vA,Out.enc]
     ·simp only [HM,KB,On,Fj,Mc,Fj,Mb,Dc,sSM,vv2,vf,reduceCtorEq,vE,h1,h0,h2,h3,h6,h6',hm,hm1,hp,xJ,DR,(show (0:Int)<((C2 p s.rep.rng).length:Int) by omega),k9,k10,h9,Az,AT,q1,q2,q3,q4,q5,bne_self_eq_false,yE,M4 (x:=⟨s.now,x⟩),wZ,vA,Out.enc]
    ·rw [Kr s x (C2 p s.rep.rng) (s.dist+1) (by simp only [DF,h0,h5,hg,h7,h9,if_false,zF])];refine ((PD s.dark s.now).and (k176.and kf)).mono fun n h again => ?_;obtain ⟨h1,h2,h3⟩:=h;have h9':(0≤s.limit→¬s.limit≤s.dist):=fun a b=>h9 ⟨a,b⟩;by_cases h10:0≤s.limit
     ·have h11:=h9' h10;rcases k8 with k8|⟨y,k8,k9,k10⟩
      ·simp only [HM,KB,On,Fj,Mc,Fj,Mb,Dc,sSM,vv2,vf,reduceCtorEq,vE,h1,h0,h2,h3,h6,h6',hm,hm1,hp,xJ,DR,k8,vN,wP,h10,h11,Az,AT,q1,q2,q3,q4,q5,bne_self_eq_false,yE,Qg (x:=⟨s.now,x⟩),wZ,vA,Out.enc]
      ·simp only [HM,KB,On,Fj,Mc,Fj,Mb,Dc,sSM,vv2,vf,reduceCtorEq,vE,h1,h0,h2,h3,h6,h6',hm,hm1,hp,xJ,DR,(show (0:Int)<((C2 p s.rep.rng).length:Int) by omega),k9,k10,h10,h11,Az,AT,q1,q2,q3,q4,q5,bne_self_eq_false,yE,Qg (x:=⟨s.now,x⟩),wZ,vA,Out.enc]
     ·rcases k8 with k8|⟨y,k8,k9,k10⟩
      ·simp only [HM,KB,On,Fj,Mc,Fj,Mb,Dc,sSM,vv2,vf,reduceCtorEq,vE,h1,h0,h2,h3,h6,h6',hm,hm1,hp,xJ,DR,k8,vN,wP,h10,Az,AT,q1,q2,q3,q4,q5,bne_self_eq_false,yE,Qg (x:=⟨s.now,x⟩),wZ,vA,Out.enc]
      ·simp only [HM,KB,On,Fj,Mc,Fj,Mb,Dc,sSM,vv2,vf,reduceCtorEq,vE,h1,h0,h2,h3,h6,h6',hm,hm1,hp,xJ,DR,(show (0:Int)<((C2 p s.rep.rng).length:Int) by omega),k9,k10,h10,Az,AT,q1,q2,q3,q4,q5,bne_self_eq_false,yE,Qg (x:=⟨s.now,x⟩),wZ,vA,Out.enc]
end Ab
namespace Ab
open Go
variable (zq:Bool)
theorem nx2_M (n:Nat) (again:List AV×Heap→Option (List Tree)) (g:Gh) (s:Ses) (e:List AV) (o:Option Int) :
  JM_2 zq n (fI C n) again (e,HM zq E0 E0 E0 g s (boO o))=again (Fg o,HM zq E0 E0 E0 g s []):=by
 cases o<;>simp only [JM_2,boO,Fg,HM,sSM,vv2,vf,vF,Option.getD_some,vG,vH]
theorem nx3_M (n:Nat) (again:List AV×Heap→Option (List Tree)) (g:Gh) (s:Ses) (e:List AV) (o:Option Int) (tl:Heap) (w:Bool) :
  U6 zq n (fI C n) (e,HM zq E0 E0 E0 g s tl) again ([.t (.bool w)],HM zq E0 E0 E0 g s (boO o))=again (Fg (Dn o (if w=true then some s.snd.due else none)),HM zq E0 E0 E0 g s []):=by
 have k:=nx2_M zq n again g s [];cases w
 ·cases o with
  |none=>
   have k:=k none;simp only [boO,vF,vG,HM] at k;simp only [U6,boO,HM,sSM,vv2,vF,vG,Az,k,Dn]
  |some a=>
   have k:=k (some a);simp only [boO,Option.getD_some,vH,HM] at k;simp only [U6,boO,HM,sSM,vv2,Option.getD_some,vH,Az,k,Dn]
 ·cases o with
  |none=>
   have k:=k (some s.snd.due);simp only [boO,Option.getD_some,vH,HM] at k;simp only [U6,boO,HM,sSM,vv2,vF,vG,Az,k,Dn]
  |some a=>
   by_cases hq:s.snd.due<a
   ·have k:=k (some s.snd.due);simp only [boO,Option.getD_some,vH,HM] at k;simp only [U6,boO,HM,sSM,vv2,Option.getD_some,vH,Az,k,Dn,hq]
   ·have k:=k (some a);simp only [boO,Option.getD_some,vH,HM] at k;simp only [U6,boO,HM,sSM,vv2,Option.getD_some,vH,Az,k,Dn,hq]
theorem nx4_M (n:Nat) (again:List AV×Heap→Option (List Tree)) (g:Gh) (s:Ses) (e:List AV) (o:Option Int) (he:s.entered<10000) :
  JM_4 zq n (fI C n) again (e,HM zq E0 E0 E0 g s (boO o))=again (Fg (Dn o (if s.snd.st=1 then some s.snd.due else none)),HM zq E0 E0 E0 g s []):=by
 have q:¬(10000:Int)≤s.entered:=by omega
 have k:=nx3_M zq n again g s e o (boO o);by_cases h:s.snd.st=1
 ·have k:=k true;simp only [boO,HM] at k;simp only [JM_4,boO,HM,sSM,vv2,h,beq_self_eq_true,q,k]
 ·have k:=k false;have h':(s.snd.st==1)=false:=by simpa using h
  simp only [boO,HM] at k;simp only [JM_4,boO,HM,sSM,vv2,h,h',k]
theorem nx5_M (g:Gh) (s:Ses) (e:List AV) (o:Option Int) (he:s.entered<10000) (hr:Cw s.rep) :
  Ev fun n=>∀again,XZ zq n (fI C n) again (e,HM zq E0 E0 E0 g s (boO o))=again (Fg (Dn (Dn o (Bn s.rep)) (if s.snd.st=1 then some s.snd.due else none)),HM zq E0 E0 E0 g s []):=by
 refine (Hq s.rep hr).mono fun n h again => ?_;have k:=fun o=>nx4_M zq n again g s [] o he;simp only [Cm.enc] at h;cases hn:Bn s.rep with
 |none=>
  have k:=k o;rw [hn] at h;simp only [GV] at h;simp only [boO,HM] at k;simp only [XZ,boO,HM,sSM,vv2,vf,vE,h,k];cases o<;>rfl
 |some a=>
  rw [hn] at h;simp only [GV] at h;cases o with
  |none=>
   have k:=k (some a);simp only [boO,HM,Option.getD_some,vH] at k;simp only [XZ,boO,HM,sSM,vv2,vf,vE,vF,vG,h,k,Dn]
  |some b=>
   by_cases hq:a<b
   ·have k:=k (some a);simp only [boO,HM,Option.getD_some,vH] at k;simp only [XZ,boO,HM,sSM,vv2,vf,vE,Option.getD_some,vH,h,k,Dn,hq]
   ·have k:=k (some b);simp only [boO,HM,Option.getD_some,vH] at k;simp only [XZ,boO,HM,sSM,vv2,vf,vE,Option.getD_some,vH,h,k,Dn,hq]
theorem nx6_M (g:Gh) (s:Ses) (e:List AV) (o:Option Int) (he:s.entered<10000) (hd:Cw s.dat) (hr:Cw s.rep) :
  Ev fun n=>∀again,XY zq n (fI C n) again (e,HM zq E0 E0 E0 g s (boO o))=again (Fg (Dn (Dn (Dn o (Bn s.dat)) (Bn s.rep)) (if s.snd.st=1 then some s.snd.due else none)),HM zq E0 E0 E0 g s []):=by
 have key:=fun o=>nx5_M zq g s [] o he hr;cases hn:Bn s.dat with
 |none=>
  refine ((Hq s.dat hd).and (key o)).mono fun n h again => ?_;obtain ⟨h,k⟩:=h;have k:=k again;simp only [Cm.enc,hn,GV] at h;simp only [boO,HM] at k;simp only [XY,boO,HM,sSM,vv2,vf,vE,h,k];cases o<;>rfl
 |some a=>
  cases o with
  |none=>
   refine ((Hq s.dat hd).and (key (some a))).mono fun n h again => ?_;obtain ⟨h,k⟩:=h;have k:=k again;simp only [Cm.enc,hn,GV] at h;simp only [boO,HM,Option.getD_some,vH] at k;simp only [XY,boO,HM,sSM,vv2,vf,vE,vF,vG,h,k,Dn]
  |some b=>
   by_cases hq:a<b
   ·refine ((Hq s.dat hd).and (key (some a))).mono fun n h again => ?_;obtain ⟨h,k⟩:=h;have k:=k again;simp only [Cm.enc,hn,GV] at h;simp only [boO,HM,Option.getD_some,vH] at k;simp only [XY,boO,HM,sSM,vv2,vf,vE,Option.getD_some,vH,h,k,Dn,hq]
   ·refine ((Hq s.dat hd).and (key (some b))).mono fun n h again => ?_;obtain ⟨h,k⟩:=h;have k:=k again;simp only [Cm.enc,hn,GV] at h;simp only [boO,HM,Option.getD_some,vH] at k;simp only [XY,boO,HM,sSM,vv2,vf,vE,Option.getD_some,vH,h,k,Dn,hq]
theorem nx_M (g:Gh) (s:Ses) (f1 f2 f3:AF) (he:s.entered<10000) (hd:Cw s.dat) (hr:Cw s.rep) :
  Ev fun n=>∀again,CM_1 zq n (fI C n) again ([.ptr (ix zq 6) 0],HM zq f1 f2 f3 g s [])=again (Fg (nxS s),HM zq E0 E0 E0 g s []):=by
 have q:¬(10000:Int)≤s.entered:=by omega
 have key:=nx6_M zq g s [] (s.pend.head?.map (·.at_)) he hd hr;refine key.mono fun n k again => ?_;have k:=k again;have e1:∀(o:Out) (l:List Out),s.pend=o::l→(g.pre++List.map Out.enc s.pend)[g.pre.length]? = some o.enc:=by intro o l h;rw [zM (yE _),h];simp
 unfold nxS;cases hp:s.pend with
 |nil=>
  simp only [hp,List.head?_nil,map_none,boO,HM,vF,vG,vA] at k;simp only [tCM_1,XM_1,JM_7,HM,hp,vA,sSM,vv2,q,wP,vN,k,List.head?_nil]
 |cons o l=>
  have e1:=e1 o l hp;simp only [hp] at e1;simp only [hp,head?_cons,yP,boO,HM,Option.getD_some,vH] at k;simp only [tCM_1,XM_1,JM_7,JM_1,HM,hp,sSM,vv2,q,(show (0:Int)<((l.length+1:Nat):Int) by omega),e1,Out.enc,k,head?_cons,Int.le_refl]
end Ab
namespace Ab
open Go
variable (zq:Bool)
theorem ex_M (g:Gh) (s:Ses) (f1 f2 f3:AF) (he:s.entered<10000) (ha:s.snd.acked.length≤400) (hl:s.pend.length≤1000000)
  (hw:s.snd.st=1→s.snd.due=s.now→(DY s.snd s.now).2.2=0∧(DY s.snd s.now).2.1.length≤1000000) :
  Ev fun n=>∀again,CM_2 zq n (fI C n) again ([.ptr (ix zq 6) 0],HM zq f1 f2 f3 g s [])=again ([],HM zq E0 E0 E0 (exG g s) (exS s) []):=by
 have q:¬(10000:Int)≤s.entered:=by omega
 by_cases h1:s.snd.st=1
 ·by_cases h2:s.snd.due=s.now
  ·obtain ⟨w1,w2⟩:=hw h1 h2;have e1:exS s={s with snd:=(DY s.snd s.now).1,pend:=s.pend++(DY s.snd s.now).2.1}:=by simp only [exS,h1,h2,and_self,if_true]
   have e2:exG g s={g with v0:=g.v0+1,pre:=[]}:=by simp only [exG,h1,h2,and_self,if_true]
   rw [e1,e2];refine (s213 s.snd s.now ha).mono fun n h again => ?_;simp only [D6,w1,Snd.enc,yY,xR,h1,h2] at h;generalize DY s.snd s.now=w at h w1 w2 ⊢;obtain ⟨a,o,e⟩:=w;simp only at h w1 w2 ⊢;have q2:¬g.pre.length+s.pend.length<g.pre.length+s.pend.length:=by omega
   have q3:s.pend.length+o.length≤1073741824:=by omega
   have q4:take s.pend.length (List.map Out.enc s.pend)=List.map Out.enc s.pend:=vD (by simp);simp only [Xu,Zd,JM_8,JM_9,HM,sSM,vv2,vf,reduceCtorEq,vE,h1,h2,h,q,beq_self_eq_true,bne_self_eq_false,xE,q2,q3,q4,vZ,wZ,yE,xR]
  ·have h2':(s.snd.due != s.now)=true:=by simpa using h2
   have e1:exS s=s:=by simp only [exS,h2,and_false,if_false]
   have e2:exG g s=g:=by simp only [exG,h2,and_false,if_false]
   rw [e1,e2];refine Ev.of fun n again => ?_;simp only [Xu,Zd,JM_8,JM_9,HM,sSM,vv2,vf,reduceCtorEq,vE,h1,h2',q,beq_self_eq_true]
 ·have h1':(s.snd.st==1)=false:=by simpa using h1
  have e1:exS s=s:=by simp only [exS,h1,false_and,if_false]
  have e2:exG g s=g:=by simp only [exG,h1,false_and,if_false]
  rw [e1,e2];refine Ev.of fun n again => ?_;simp only [Xu,Zd,JM_8,JM_9,HM,sSM,vv2,vf,reduceCtorEq,vE,h1']
def PX (q:Gh×Ses):Rd (Gh×Ses) (Gh×Ses):=
 match q.2.pend with
 |[]=>.done q
 |o::l=>if o.at_=q.2.now then .next ({q.1 with v4:=q.1.v4+1,pre:=q.1.pre++[o.enc]},{D4 q.2 o.seg with pend:=l}) else .done q
theorem tx_M (g:Gh) (s:Ses) (f1 f2 f3:AF) (hb:Bud s.pend.length s) :
  Ev fun n=>∀again,CM_7 zq n (fI C n) again ([.ptr (ix zq 6) 0],HM zq f1 f2 f3 g s [])=again ([],HM zq E0 E0 E0 (txT s.pend.length (g,s)).1 (txS s.pend.length s) []):=by
 have key:=Dj (R:=List Tree) (Z:=List AV×Heap→Option (List Tree)) (Q:=Gh×Ses)
  (B:=fun n z p again=>Td zq n (fI C n) ([.ptr (ix zq 6) 0],HM zq f1 f2 f3 g s []) z p again)
  (s:=(([],HM zq E0 E0 E0 g s []):List AV×Heap)) (r:=txT s.pend.length (g,s))
  (fun z q=>z ([],HM zq E0 E0 E0 q.1 q.2 [])) (fun q:Gh×Ses=>(([],HM zq E0 E0 E0 q.1 q.2 []):List AV×Heap)) PX (fun q=>Bud q.2.pend.length q.2) (fun q=>q.2.pend.length) (fun q=>txT q.2.pend.length q) (g,s) rfl hb rfl
  (fun q hI => ?_) (fun q q' hI hs => ?_) (fun q hI => ?_)
 ·refine key.mono fun n h again => ?_;have h:=h again;rw [VH] at h;simp only [HM] at h;simp only [tCM_7,XM_7,HM,sSM,h]
 ·obtain ⟨g1,s1⟩:=q;simp only at hI ⊢;have e1:∀(o:Out) (l:List Out),s1.pend=o::l→(g1.pre++List.map Out.enc s1.pend)[g1.pre.length]? = some o.enc:=by intro o l h;rw [zM (yE _),h];simp
  cases hp:s1.pend with
  |nil=>
   refine Ev.of fun n z again => ?_;simp only [PX,Td,WM,HM,hp,sSM,vv2,vf,vE,vN,wP,Rd.Be,vA]
  |cons o l=>
   have e1:=e1 o l hp;by_cases ho:o.at_=s1.now
   ·rw [hp] at hI;have k:=entD_M zq g1 s1 o.seg (.row true (AF.ver f1) 15 (CA f1)) (.row true (AF.ver f2) 4 (CA f2)) (.row true (AF.ver f3) 4 (CA f3)) (Bud.eD hI);refine k.mono fun n h z again => ?_;simp only [Dc,HM] at h;have h2:=fun again=>h again;have ep:(D4 s1 o.seg).pend=o::l:=hp;have q1:(1:Int)≤((l.length+1:Nat):Int):=by omega
    have q2:=ucP_M zq {g1 with v4:=g1.v4+1} (D4 s1 o.seg) o l ep;rw [ep] at q2;simp only [xF,Nat.add_sub_cancel] at q2;have e2:(g1.pre++List.map Out.enc (o::l))[g1.pre.length]? = some [tI s1.now,tI o.seg.kind,tI o.seg.ses,tI o.seg.ser,tI o.seg.off,tI o.seg.tot,.bool o.seg.chk,.str o.seg.data,.sl 2 (o.seg.claims.map Span.enc)]:=by rw [hp] at e1;rw [e1,← ho];rfl
    simp only [ep,hp] at h2;simp only [PX,Td,WM,JM_39,HM,hp,ep,ho,sSM,vv2,vf,reduceCtorEq,vE,(show (0:Int)<((l.length+1:Nat):Int) by omega),Int.le_refl,e2,beq_self_eq_true,Rd.Aw,h2,q1,Nat.add_sub_cancel,q2,(show (0:Int)≤1 by omega)];simp only [xJ,zH,yY,xR]
   ·have ho':(o.at_==s1.now)=false:=by simpa using ho
    refine Ev.of fun n z again => ?_;have e2:(g1.pre++List.map Out.enc (o::l))[g1.pre.length]? = some [tI o.at_,tI o.seg.kind,tI o.seg.ses,tI o.seg.ser,tI o.seg.off,tI o.seg.tot,.bool o.seg.chk,.str o.seg.data,.sl 2 (o.seg.claims.map Span.enc)]:=by rw [hp] at e1;rw [e1];rfl
    simp only [PX,Td,WM,HM,hp,ho,ho',sSM,vv2,vf,vE,(show (0:Int)<((l.length+1:Nat):Int) by omega),Int.le_refl,e2,Rd.Be]
 ·obtain ⟨g1,s1⟩:=q;unfold PX at hs;simp only at hI hs ⊢;cases hp:s1.pend with
  |nil=>rw [hp] at hs;cases hs
  |cons o l=>
   rw [hp] at hs hI;simp only at hs;split at hs
   ·cases hs;refine ⟨?_,by simp⟩;exact (Bud.D4 hI o.seg).of rfl rfl rfl rfl rfl rfl rfl rfl
   ·cases hs
 ·obtain ⟨g1,s1⟩:=q;unfold PX;simp only;cases hp:s1.pend with
  |nil=>simp [txT,Rd.fin]
  |cons o l=>
   simp only [xF,txT,hp];split
   ·rfl
   ·simp [Rd.fin, *]
end Ab
namespace Ab
open Go
variable (zq:Bool)
def Bw (g:Gh) (s:Ses) (v:Nat) (o:Option Seg):List AV×Heap:=([.rptr (ix zq 7) v 0 0,.t (.bool o.isSome)],HM zq E0 E0 E0 g s [.row false v 8 [(o.getD J3).enc]])
theorem tkR_M (g:Gh) (s:Ses) (v:Nat) (y:Seg) (hr:Cw s.rep) :
  Ev fun n=>∀again e1 hp,To zq n (fI C n) ((.rptr (ix zq 7) v 0 0::e1),hp) again ([],HM zq E0 E0 E0 g s [.row false v 8 [y.enc]])=again (Bw zq g (Da s).1 (v+1) (Da s).2):=by
 cases hf:s.rep.frames with
 |nil=>
  have hn:Bn s.rep=none:=by simp [Bn,hf]
  rw [show Da s=(s,none) by simp only [Da,hf]];refine (Hq s.rep hr).mono fun n h again e1 hp => ?_;rw [hn] at h;simp only [Cm.enc,GV] at h;simp only [Bw,To,WR,HM,sSM,vv2,vf,vE,xC,Seg.enc,h,vG,vF,J3,vA,uG,uC,uB,yW,yE]
 |cons f l=>
  have hn:Bn s.rep=some f.arr:=by simp [Bn,hf]
  by_cases ha:f.arr=s.now
  ·rw [show Da s=(B7 s,some f.seg) by simp only [Da,hf,ha,if_true]];refine ((Hq s.rep hr).and (s246 s.rep hr f l hf)).mono fun n h again e1 hp => ?_;obtain ⟨h,h2⟩:=h;rw [hn,ha] at h;simp only [Cm.enc,GV] at h h2;have hx:B7 s={s with rep:=⟨s.rep.rng,l,s.rep.sent,s.rep.lost⟩}:=by simp only [B7,hf,uH]
   simp only [hx,Bw,To,WR,HM,sSM,vv2,vf,vE,xC,Seg.enc,h,h2,bne_self_eq_false,vH,Option.getD_some,uG,uC,uB,yW,yE]
  ·have ha':(f.arr != s.now)=true:=by simpa using ha
   rw [show Da s=(s,none) by simp only [Da,hf,ha,if_false]];refine (Hq s.rep hr).mono fun n h again e1 hp => ?_;rw [hn] at h;simp only [Cm.enc,GV] at h;simp only [ha',Bw,To,WR,HM,sSM,vv2,vf,vE,xC,Seg.enc,h,vG,vF,J3,vA,uG,uC,uB,yW,yE]
theorem hr_M (g:Gh) (s:Ses) (v:Nat) (x:Seg) (hr:Cw s.rep) (ha:s.snd.acked.length≤400∧s.pend.length≤1000000) (hx:x.claims.length≤400∨1000<x.claims.length)
  (hw:¬s.now<s.snd.busy→(Bx s.snd s.now x).2.2=0∧(Bx s.snd s.now x).2.1.length≤1000000) :
  Ev fun n=>∀z again,HY zq n (fI C n) z (Bw zq g s v (some x)) again=again (Bw zq (lsG g s) (Da (lsX s x)).1 (v+1) (Da (lsX s x)).2):=by
 by_cases hb:s.now<s.snd.busy
 ·have e1:lsX s x=s:=by simp only [lsX,hb,if_true]
  have e2:lsG g s=g:=by simp only [lsG,hb,if_true]
  rw [e1,e2];refine (tkR_M zq g s v x hr).mono fun n h z again => ?_;simp only [HM] at h;have hb':decide (s.now<s.snd.busy)=true:=decide_eq_true hb;simp only [Bw,HM,vH,Option.getD_some] at h ⊢;simp only [HY,sSM,vv2,vf,reduceCtorEq,vE,hb,h]
 ·obtain ⟨w1,w2⟩:=hw hb;have e2:lsG g s=gP g:=by simp only [lsG,hb,if_false]
  have hx2:lsX s x=lsF {s with snd:=(Bx s.snd s.now x).1,pend:=s.pend++(Bx s.snd s.now x).2.1}:=by simp only [lsX,hb,if_false]
  rw [e2];have key:=fun s' (hs:s'.rep=s.rep)=>tkR_M zq (gP g) s' v x (by rw [hs];exact hr);have q2:¬g.pre.length+s.pend.length<g.pre.length+s.pend.length:=by omega
  have q4:take s.pend.length (List.map Out.enc s.pend)=List.map Out.enc s.pend:=vD (by simp);have h148:=s212 s.snd s.now x ha.1 hx;simp only [D6,w1,Snd.enc,Seg.enc,yY,xR] at h148;rw [hx2];generalize Bx s.snd s.now x=w at h148 w1 w2 ⊢;obtain ⟨a,o,e⟩:=w;simp only at h148 w1 w2 ⊢;have q3:s.pend.length+o.length≤1073741824:=by omega
  by_cases hk:s.kno=false∧a.st=2
  ·have e3:lsF {s with snd:=a,pend:=s.pend++o}={s with snd:=a,pend:=s.pend++o,kno:=true,knoAt:=s.now}:=by simp only [lsF,hk,and_self,if_true]
   rw [e3];refine (h148.and (key {s with snd:=a,pend:=s.pend++o,kno:=true,knoAt:=s.now} rfl)).mono fun n h z again => ?_;obtain ⟨h,h2⟩:=h;simp only [HM,gP,wZ,xR] at h2;have hk1:(!s.kno)=true:=by simp [hk.1]
   have hk2:(a.st==2)=true:=by simp [hk.2]
   simp only [Bw,HM,vH,Option.getD_some,gP,xR];simp only [Bw,HM,xR,Seg.enc] at h2;simp only [HY,sSM,vv2,vf,reduceCtorEq,vE,hb,hk1,hk2,Seg.enc,xC,h,bne_self_eq_false,xE,q2,q3,q4,vZ,yE,h2]
  ·have e3:lsF {s with snd:=a,pend:=s.pend++o}={s with snd:=a,pend:=s.pend++o}:=by simp only [lsF,hk,if_false]
   rw [e3];refine (h148.and (key {s with snd:=a,pend:=s.pend++o} rfl)).mono fun n h z again => ?_;obtain ⟨h,h2⟩:=h;simp only [HM,gP,wZ,xR] at h2;simp only [Bw,HM,vH,Option.getD_some,gP,xR];simp only [Bw,HM,xR,Seg.enc] at h2;rcases Bool.eq_false_or_eq_true s.kno with hk0|hk0
   ·have hk1:(!s.kno)=false:=by simp [hk0]
    simp only [HY,sSM,vv2,vf,reduceCtorEq,vE,hb,hk1,Seg.enc,xC,h,bne_self_eq_false,xE,q2,q3,q4,vZ,yE,h2]
   ·have hk1:(!s.kno)=true:=by simp [hk0]
    have hk2:(a.st==2)=false:=by simpa using fun h=>hk ⟨hk0,h⟩
    simp only [HY,sSM,vv2,vf,reduceCtorEq,vE,hb,hk1,hk2,Seg.enc,xC,h,bne_self_eq_false,xE,q2,q3,q4,vZ,yE,h2]
theorem l16_M:HY=HY:=rfl
theorem lp_M {P:Ses→Prop} (hP:LsP P) (q:LS) (h:q.inv P) :
  Ev fun n=>∀z,AH (fun p again=>HY zq n (fI C n) z p again) n (Bw zq q.g q.s q.v q.o)=z ([],HM zq E0 E0 E0 q.res.1 q.res.2 []):=by
 refine Dj (R:=List Tree) (Z:=List AV×Heap→Option (List Tree)) (Q:=Gh×Ses) (B:=fun n z p again=>HY zq n (fI C n) z p again) (r:=q.res)
  (fun z r=>z ([],HM zq E0 E0 E0 r.1 r.2 [])) (fun q:LS=>Bw zq q.g q.s q.v q.o) LS.step (LS.inv P) (fun q=>q.s.rep.frames.length+(if q.o.isSome then 1 else 0)) LS.res q rfl h rfl
  (fun q hI => ?_) (fun q q' hI hs=>LS.sound hP q q' hI hs) (fun q hI=>LS.fin hP q hI)
 obtain ⟨g,s,v,o⟩:=q;cases o with
 |none=>
  refine Ev.of fun n z again => ?_;simp only [Bw,vG,HY,HM,sSM,vv2,vf,reduceCtorEq,vE,LS.step,Rd.Be]
 |some x=>
  obtain ⟨h1,h2,h3,h4,h5⟩:=hI;refine (hr_M zq g s v x h1 h2 h3 h4).mono fun n h z again => ?_;simp only [LS.step,Rd.Aw];exact h z again
theorem ls_M {P:Ses→Prop} (hP:LsP P) (g:Gh) (s:Ses) (f1 f2 f3:AF) (h:P s) :
  Ev fun n=>∀again,CM_3 zq n (fI C n) again ([.ptr (ix zq 6) 0],HM zq f1 f2 f3 g s [])=again ([],HM zq E0 E0 E0 (lsT s.rep.frames.length (g,s)).1 (lsS s.rep.frames.length s) []):=by
 have hr:=hP.rep s h;obtain ⟨i1,i2⟩:=LS.take hP h g 0;have key:=lp_M zq hP _ i1;rw [i2,Vl] at key;simp only at key;cases hf:s.rep.frames with
 |nil=>
  have hn:Bn s.rep=none:=by simp [Bn,hf]
  have e:Da s=(s,none):=by simp only [Da,hf]
  rw [e] at key;rw [hf] at key;refine ((Hq s.rep hr).and key).mono fun n h again => ?_;obtain ⟨h,k⟩:=h;rw [hn] at h;simp only [Cm.enc,GV] at h;have k:=k again;simp only [Bw,HM,vG,vF,J3,Seg.enc,vA] at k;simp only [Xt,Zc,WQ,HM,sSM,vv2,vf,vE,h,k]
 |cons f l=>
  have hn:Bn s.rep=some f.arr:=by simp [Bn,hf]
  by_cases ha:f.arr=s.now
  ·have e:Da s=(B7 s,some f.seg):=by simp only [Da,hf,ha,if_true]
   rw [e] at key;rw [hf] at key;refine ((Hq s.rep hr).and ((s246 s.rep hr f l hf).and key)).mono fun n h again => ?_;obtain ⟨h,h2,k⟩:=h;rw [hn,ha] at h;simp only [Cm.enc,GV] at h h2;have hx:B7 s={s with rep:=⟨s.rep.rng,l,s.rep.sent,s.rep.lost⟩}:=by simp only [B7,hf,uH]
   have k:=k again;simp only [Bw,HM,vH,Option.getD_some,Seg.enc,hx] at k;simp only [Xt,Zc,WQ,HM,sSM,vv2,vf,vE,h,h2,bne_self_eq_false,k]
  ·have ha':(f.arr != s.now)=true:=by simpa using ha
   have e:Da s=(s,none):=by simp only [Da,hf,ha,if_false]
   rw [e] at key;rw [hf] at key;refine ((Hq s.rep hr).and key).mono fun n h again => ?_;obtain ⟨h,k⟩:=h;rw [hn] at h;simp only [Cm.enc,GV] at h;have k:=k again;simp only [Bw,HM,vG,vF,J3,Seg.enc,vA] at k;simp only [Xt,Zc,WQ,HM,sSM,vv2,vf,vE,h,ha',k]
end Ab
namespace Ab
open Go
variable (zq:Bool)
theorem tkD_M (g:Gh) (s:Ses) (v:Nat) (y:Seg) (hr:Cw s.dat) :
  Ev fun n=>∀again e1 hp,Tn zq n (fI C n) ((.rptr (ix zq 7) v 0 0::e1),hp) again ([],HM zq E0 E0 E0 g s [.row false v 8 [y.enc]])=again (Bw zq g (Db s).1 (v+1) (Db s).2):=by
 cases hf:s.dat.frames with
 |nil=>
  have hn:Bn s.dat=none:=by simp [Bn,hf]
  rw [show Db s=(s,none) by simp only [Db,hf]];refine (Hq s.dat hr).mono fun n h again e1 hp => ?_;rw [hn] at h;simp only [Cm.enc,GV] at h;simp only [Bw,Tn,WO,HM,sSM,vv2,vf,vE,xC,Seg.enc,h,vG,vF,J3,vA,uG,uC,uB,yW,yE]
 |cons f l=>
  have hn:Bn s.dat=some f.arr:=by simp [Bn,hf]
  by_cases ha:f.arr=s.now
  ·rw [show Db s=(By s,some f.seg) by simp only [Db,hf,ha,if_true]];refine ((Hq s.dat hr).and (s246 s.dat hr f l hf)).mono fun n h again e1 hp => ?_;obtain ⟨h,h2⟩:=h;rw [hn,ha] at h;simp only [Cm.enc,GV] at h h2;have hx:By s={s with dat:=⟨s.dat.rng,l,s.dat.sent,s.dat.lost⟩}:=by simp only [By,hf,uH]
   simp only [hx,Bw,Tn,WO,HM,sSM,vv2,vf,vE,xC,Seg.enc,h,h2,bne_self_eq_false,vH,Option.getD_some,uG,uC,uB,yW,yE]
  ·have ha':(f.arr != s.now)=true:=by simpa using ha
   rw [show Db s=(s,none) by simp only [Db,hf,ha,if_false]];refine (Hq s.dat hr).mono fun n h again e1 hp => ?_;rw [hn] at h;simp only [Cm.enc,GV] at h;simp only [ha',Bw,Tn,WO,HM,sSM,vv2,vf,vE,xC,Seg.enc,h,vG,vF,J3,vA,uG,uC,uB,yW,yE]
theorem rp_M (g:Gh) (s:Ses) (v:Nat) (x:Seg) (r:Rcv) (l:List Seg) (y:List Tree) (hy:gL y 4=l.map Seg.enc) (f1 f2 f3:AF) (e00:List AV) (g00:Gh) (s00:Ses) (hb:Bud l.length s) :
  Ev fun n=>∀z,AH (fun p again=>Ov zq n (fI C n) y (e00,HM zq f1 f2 f3 g00 s00 []) z p again) n ([.t (tI 0)],HM zq E0 E0 E0 g s [.row false v 8 [x.enc],SF r])=z ([],HM zq E0 E0 E0 {g with v5:=g.v5+l.length} (rxF (l.foldl DQ s)) [.row false v 8 [x.enc]]):=by
 have key:=F7 (R:=List Tree) (Z:=List AV×Heap→Option (List Tree)) (Q:=Gh×Ses) (B:=fun n z p again=>Ov zq n (fI C n) y (e00,HM zq f1 f2 f3 g00 s00 []) z p again)
  (s:=(([.t (tI 0)],HM zq E0 E0 E0 g s [.row false v 8 [x.enc],SF r]):List AV×Heap)) (r:=({g with v5:=g.v5+l.length},l.foldl DQ s)) l
  (fun i (q:Gh×Ses)=>(([.t (tI i)],HM zq E0 E0 E0 q.1 q.2 [.row false v 8 [x.enc],SF r]):List AV×Heap)) (fun _ q y =>.next ({q.1 with v5:=q.1.v5+1},DQ q.2 y)) (fun q=>q)
  (fun z q=>z ([],HM zq E0 E0 E0 q.1 (rxF q.2) [.row false v 8 [x.enc]])) (fun i q=>Bud (l.length-i) q.2) (g,s) rfl hb ?_
  (fun i q w hx hI => ?_) (fun i q w q' hx hI hs => ?_) (fun q hI => ?_)
 ·exact key
 ·rw [C4,Yx]
 ·have hi:=AW hx;obtain ⟨g1,s1⟩:=q;have hI':Bud (l.length-(i+1)+1) s1:=by
   have:l.length-(i+1)+1=l.length-i:=by omega
   rw [this];exact hI
  have k:=entR_M zq g1 s1 w (.row true (AF.ver f1) 15 (CA f1)) (.row true (AF.ver f2) 4 (CA f2)) (.row true (AF.ver f3) 4 (CA f3)) hI'.eR v [x.enc] r.ses r.tot (r.known.map Span.enc) r.data w;refine k.mono fun n h z again => ?_;have h:=fun again=>h again;simp only [Dc,HM] at h;simp only [Ov,SF,HM,hy,sSM,vv2,vf,vE,hx,Seg.enc,(show (i:Int)<(l.length:Int) by omega),Rd.Aw];simp only [Seg.enc] at h;simp only [h,Zm,sSM,vv2,BE (show i<4611686018427387904 by have:=hb.ent;omega)]
 ·cases hs;have hi:=AW hx;have:l.length-i=l.length-(i+1)+1:=by omega
  rw [this] at hI;exact hI.DQ w
 ·obtain ⟨g1,s1⟩:=q;rcases Bool.eq_false_or_eq_true s1.rcvd with hr|hr
  ·have hr1:(!s1.rcvd)=false:=by simp [hr]
   have e:rxF s1=s1:=by simp only [rxF,hr,Bool.true_eq_false,false_and,if_false]
   rw [e];refine Ev.of fun n z again => ?_;simp only [Ov,SF,HM,hy,sSM,vv2,vf,vE,wP,hr1]
  ·have hr1:(!s1.rcvd)=true:=by simp [hr]
   refine (s211 s1.rcv).mono fun n h z again => ?_;simp only [Rcv.enc] at h;rcases Bool.eq_false_or_eq_true (BQ s1.rcv) with hc|hc
   ·have e:rxF s1={s1 with rcvd:=true,arrive:=s1.now}:=by simp only [rxF,hr,hc,and_self,if_true]
    rw [e];simp only [Ov,SF,HM,hy,sSM,vv2,vf,vE,wP,hr1,h,hc]
   ·have e:rxF s1=s1:=by simp only [rxF,hc,zF,and_false,if_false]
    rw [e];simp only [Ov,SF,HM,hy,sSM,vv2,vf,vE,wP,hr1,h,hc]
theorem hd_M (g:Gh) (s:Ses) (v:Nat) (x:Seg) (f1 f2 f3:AF) (e00:List AV) (g00:Gh) (s00:Ses) (hd:Cw s.dat) (hw:(Fp s.rcv x).2.2=0) (hb:Bud (Fp s.rcv x).2.1.length s) :
  Ev fun n=>∀z again,LF zq n (fI C n) (e00,HM zq f1 f2 f3 g00 s00 []) z (Bw zq g s v (some x)) again=again (Bw zq (rxG g s x) (Db (rxX s x)).1 (v+1) (Db (rxX s x)).2):=by
 have key:=tkD_M zq (rxG g s x) (rxX s x) v x (by rw [GH];exact hd);have k146:=s210 s.rcv x;unfold rxG rxX rxH at key ⊢;generalize Fp s.rcv x=w at hw hb k146 key ⊢;obtain ⟨a,l,e⟩:=w;simp only at hw hb key ⊢;subst hw;have kl:=rp_M zq g {s with rcv:=a} v x a l [tI a.ses,tI a.tot,.sl 2 (a.known.map Span.enc),.str a.data,.sl 8 (l.map Seg.enc),tI 0] rfl f1 f2 f3 e00 g00 s00 (hb.of rfl rfl rfl rfl rfl rfl rfl rfl);simp only [hearT,Rcv.enc,Seg.enc,yY,xR] at k146;refine (k146.and (kl.and key)).mono fun n h z again => ?_;obtain ⟨h,h2,h3⟩:=h;have h3:=fun e1 hp=>h3 again e1 hp;simp only [Bw,HM,vH,Option.getD_some,SF,Seg.enc] at h2 h3 ⊢;simp only [LF,sSM,vv2,vf,vE,xC,h,bne_self_eq_false,h2,h3]
theorem l32_M:LF=LF:=rfl
theorem dp_M {P:Ses→Prop} (hP:RxP P) (q:RS) (h:q.inv P) (f1 f2 f3:AF) (e00:List AV) (g00:Gh) (s00:Ses) :
  Ev fun n=>∀z,AH (fun p again=>LF zq n (fI C n) (e00,HM zq f1 f2 f3 g00 s00 []) z p again) n (Bw zq q.g q.s q.v q.o)=z ([],HM zq E0 E0 E0 q.res.1 q.res.2 []):=by
 refine Dj (R:=List Tree) (Z:=List AV×Heap→Option (List Tree)) (Q:=Gh×Ses) (B:=fun n z p again=>LF zq n (fI C n) (e00,HM zq f1 f2 f3 g00 s00 []) z p again) (r:=q.res)
  (fun z r=>z ([],HM zq E0 E0 E0 r.1 r.2 [])) (fun q:RS=>Bw zq q.g q.s q.v q.o) RS.step (RS.inv P) (fun q=>q.s.dat.frames.length+(if q.o.isSome then 1 else 0)) RS.res q rfl h rfl
  (fun q hI => ?_) (fun q q' hI hs=>RS.sound hP q q' hI hs) (fun q hI=>RS.fin hP q hI)
 obtain ⟨g,s,v,o⟩:=q;cases o with
 |none=>
  refine Ev.of fun n z again => ?_;simp only [Bw,vG,LF,HM,sSM,vv2,vf,vE,RS.step,Rd.Be]
 |some x=>
  obtain ⟨h1,h2,h3,h4⟩:=hI;refine (hd_M zq g s v x f1 f2 f3 e00 g00 s00 h1 h2 h3).mono fun n h z again => ?_;simp only [RS.step,Rd.Aw];exact h z again
theorem rx_M {P:Ses→Prop} (hP:RxP P) (g:Gh) (s:Ses) (f1 f2 f3:AF) (h:P s) :
  Ev fun n=>∀again,CM_5 zq n (fI C n) again ([.ptr (ix zq 6) 0],HM zq f1 f2 f3 g s [])=again ([],HM zq E0 E0 E0 (rxT s.dat.frames.length (g,s)).1 (rxS s.dat.frames.length s) []):=by
 have hr:=hP.dat s h;obtain ⟨i1,i2⟩:=RS.take hP h g 0;have key:=dp_M zq hP _ i1 f1 f2 f3 [.ptr (ix zq 6) 0] g s;rw [i2,VT] at key;simp only at key;cases hf:s.dat.frames with
 |nil=>
  have hn:Bn s.dat=none:=by simp [Bn,hf]
  have e:Db s=(s,none):=by simp only [Db,hf]
  rw [e] at key;rw [hf] at key;refine ((Hq s.dat hr).and key).mono fun n h again => ?_;obtain ⟨h,k⟩:=h;rw [hn] at h;simp only [Cm.enc,GV] at h;have k:=k again;simp only [Bw,HM,vG,vF,J3,Seg.enc,vA] at k;simp only [Xs,Zb,WN,HM,sSM,vv2,vf,vE,h,k]
 |cons f l=>
  have hn:Bn s.dat=some f.arr:=by simp [Bn,hf]
  by_cases ha:f.arr=s.now
  ·have e:Db s=(By s,some f.seg):=by simp only [Db,hf,ha,if_true]
   rw [e] at key;rw [hf] at key;refine ((Hq s.dat hr).and ((s246 s.dat hr f l hf).and key)).mono fun n h again => ?_;obtain ⟨h,h2,k⟩:=h;rw [hn,ha] at h;simp only [Cm.enc,GV] at h h2;have hx:By s={s with dat:=⟨s.dat.rng,l,s.dat.sent,s.dat.lost⟩}:=by simp only [By,hf,uH]
   have k:=k again;simp only [Bw,HM,vH,Option.getD_some,Seg.enc,hx] at k;simp only [Xs,Zb,WN,HM,sSM,vv2,vf,vE,h,h2,bne_self_eq_false,k]
  ·have ha':(f.arr != s.now)=true:=by simpa using ha
   have e:Db s=(s,none):=by simp only [Db,hf,ha,if_false]
   rw [e] at key;rw [hf] at key;refine ((Hq s.dat hr).and key).mono fun n h again => ?_;obtain ⟨h,k⟩:=h;rw [hn] at h;simp only [Cm.enc,GV] at h;have k:=k again;simp only [Bw,HM,vG,vF,J3,Seg.enc,vA] at k;simp only [Xs,Zb,WN,HM,sSM,vv2,vf,vE,h,ha',k]
end Ab
namespace Ab
open Go
variable (zq:Bool)
theorem stp_M {W P1 P2:Ses→Prop} {μ:Ses→Nat} (hR:XX W P1 P2 μ) (g:Gh) (s:Ses) (t:Int) (h:W s) (ht:nxS s=some t) (f1 f2 f3:AF) (e00:List AV) (g00:Gh) (s00:Ses) :
  Ev fun n=>∀z again,Tc zq n (fI C n) (e00,HM zq f1 f2 f3 g00 s00 []) z (Fg (nxS s),HM zq E0 E0 E0 g s []) again=again (Fg (nxS (stS s t)),HM zq E0 E0 E0 (stT (g,s) t).1 (stS s t) []):=by
 have k0:=tx_M zq g {s with now:=t} (.row true (AF.ver f1) 15 (CA f1)) (.row true (AF.ver f2) 4 (CA f2)) (.row true (AF.ver f3) 4 (CA f3)) (hR.tx s t h ht);have k1:=rx_M zq hR.rx (g1T g s t) (ph1 s t) (.row true (AF.ver f1) 15 (CA f1)) (.row true (AF.ver f2) 4 (CA f2)) (.row true (AF.ver f3) 4 (CA f3)) (hR.p1 s t h ht);have k2:=ls_M zq hR.ls (g2T g s t) (ph2 s t) (.row true (AF.ver f1) 15 (CA f1)) (.row true (AF.ver f2) 4 (CA f2)) (.row true (AF.ver f3) 4 (CA f3)) (hR.p2 s t h ht);have hx:=hR.ex s t h ht;have k3:=ex_M zq (g3T g s t) (ph3 s t) (.row true (AF.ver f1) 15 (CA f1)) (.row true (AF.ver f2) 4 (CA f2)) (.row true (AF.ver f3) 4 (CA f3)) hx.ent hx.ack hx.pl hx.w;obtain ⟨n1,n2,n3⟩:=hR.nx _ (hR.st s t h ht).1;have k4:=nx_M zq (exG (g3T g s t) (ph3 s t)) (stS s t) (.row true (AF.ver f1) 15 (CA f1)) (.row true (AF.ver f2) 4 (CA f2)) (.row true (AF.ver f3) 4 (CA f3)) n1 n2 n3;refine (k0.and (k1.and (k2.and (k3.and (k4.and (Ev.ge 5)))))).mono fun n hh z again => ?_;obtain ⟨k0,k1,k2,k3,k4,hn⟩:=hh;have q:AH (fun p again'=>Ou zq n (fI C n) (e00,HM zq f1 f2 f3 g00 s00 []) again p again') n ([.t (tI 0)],HM zq E0 E0 E0 g {s with now:=t} [])=again (Fg (nxS (stS s t)),HM zq E0 E0 E0 (exG (g3T g s t) (ph3 s t)) (stS s t) []):=by
  refine UM _ _ ([.t (tI 1)],HM zq E0 E0 E0 (g1T g s t) (ph1 s t) []) ([.t (tI 2)],HM zq E0 E0 E0 (g2T g s t) (ph2 s t) []) ([.t (tI 3)],HM zq E0 E0 E0 (g3T g s t) (ph3 s t) []) ([.t (tI 4)],HM zq E0 E0 E0 (exG (g3T g s t) (ph3 s t)) (stS s t) []) _ n hn (fun ag => ?_) (fun ag => ?_) (fun ag => ?_) (fun ag => ?_) (fun ag => ?_)
  ·have k0:=fun ag=>k0 ag;simp only [HM] at k0;simp only [Ou,Md,HM,sSM,vv2,(show (0:Int)=((0:Nat):Int) by omega),k0];rfl
  ·have k1:=fun ag=>k1 ag;simp only [HM] at k1;simp only [Ou,Md,HM,sSM,vv2,(show (1:Int)=((1:Nat):Int) by omega),k1];rfl
  ·have k2:=fun ag=>k2 ag;simp only [HM] at k2;simp only [Ou,Md,HM,sSM,vv2,(show (2:Int)=((2:Nat):Int) by omega),k2];rfl
  ·have k3:=fun ag=>k3 ag;simp only [HM] at k3;simp only [Ou,Md,HM,sSM,vv2,(show (3:Int)=((3:Nat):Int) by omega),k3];rfl
  ·have k4:=fun ag=>k4 ag;simp only [HM] at k4;simp only [Ou,JM_43,HM,sSM,vv2,vf,(show ¬(4:Int)<4 by omega),k4,Fg]
 rw [ht];simp only [HM] at q;simp only [Tc,Fg,Option.getD_some,vH,HM,sSM,vv2];exact q
theorem rn_M {W P1 P2:Ses→Prop} {μ:Ses→Nat} (hR:XX W P1 P2 μ) (g:Gh) (s:Ses) (f1 f2 f3:AF) (h:W s) :
  Ev fun n=>∀again,Xa zq n (fI C n) again ([.ptr (ix zq 6) 0],HM zq f1 f2 f3 g s [])=again ([],HM zq E0 E0 E0 (rnT (μ s) (g,s)).1 (Hu (μ s) s) []):=by
 have key:=Dj (R:=List Tree) (Z:=List AV×Heap→Option (List Tree)) (Q:=Gh×Ses) (B:=fun n z p again=>Tc zq n (fI C n) ([.ptr (ix zq 6) 0],HM zq f1 f2 f3 g s []) z p again)
  (s:=((Fg (nxS s),HM zq E0 E0 E0 g s []):List AV×Heap)) (r:=rnT (μ s) (g,s))
  (fun z r=>z ([],HM zq E0 E0 E0 r.1 r.2 [])) (fun q:Gh×Ses=>((Fg (nxS q.2),HM zq E0 E0 E0 q.1 q.2 []):List AV×Heap)) (fun q=>match nxS q.2 with
   |none =>.done q
   |some t =>.next (stT q t)) (fun q=>W q.2) (fun q=>μ q.2) (fun q=>rnT (μ q.2) q) (g,s) rfl h rfl
  (fun q hI => ?_) (fun q q' hI hs => ?_) (fun q hI => ?_)
 ·obtain ⟨n1,n2,n3⟩:=hR.nx s h;have k4:=nx_M zq g s (.row true (AF.ver f1) 15 (CA f1)) (.row true (AF.ver f2) 4 (CA f2)) (.row true (AF.ver f3) 4 (CA f3)) n1 n2 n3;refine (key.and k4).mono fun n hh again => ?_;obtain ⟨k,k4⟩:=hh;have k:=k again;rw [VY] at k;simp only [HM,Fg] at k k4;simp only [tCM_8,XM_8,JM_46,HM,sSM,vv2,vf,k4,k]
 ·obtain ⟨g1,s1⟩:=q;simp only at hI ⊢;cases hn:nxS s1 with
  |none=>
   refine Ev.of fun n z again => ?_;simp only [Tc,Fg,vF,vG,HM,sSM,vv2,Rd.Be]
  |some t=>
   have:=stp_M zq hR g1 s1 t hI hn f1 f2 f3 [.ptr (ix zq 6) 0] g s;rw [hn] at this;refine this.mono fun n h z again => ?_;simp only [Rd.Aw];exact h z again
 ·cases hn:nxS q.2 with
  |none=>rw [hn] at hs;cases hs
  |some t=>
   rw [hn] at hs;cases hs;exact hR.st q.2 t hI hn
 ·cases hn:nxS q.2 with
  |none=>
   cases hm:μ q.2 with
   |zero=>rfl
   |succ m=>simp only [rnT,hn,Rd.fin]
  |some t=>
   obtain ⟨h1,h2⟩:=hR.st q.2 t hI hn;simp only [Rd.fin];cases hm:μ q.2 with
   |zero=>omega
   |succ m=>
    simp only [rnT,hn];exact Jb hR m (stT q t) h1 (by simp only [stT];omega)
end Ab
namespace Ab
open Go
theorem s9 {W P1 P2:Ses→Prop} {μ:Ses→Nat} (hR:XX W P1 P2 μ) (c:Con) (b e:Int) (d:ByteArray) (ps:List Int) (lim:Int) (dk:List Span) (hW:OK c b e d ps lim dk=0→W (ini c b e d ps lim dk)) (hL:OK c b e d ps lim dk=0→ -9223372036854775808≤(Hu (μ (ini c b e d ps lim dk)) (ini c b e d ps lim dk)).dat.lost+(Hu (μ (ini c b e d ps lim dk)) (ini c b e d ps lim dk)).rep.lost∧(Hu (μ (ini c b e d ps lim dk)) (ini c b e d ps lim dk)).dat.lost+(Hu (μ (ini c b e d ps lim dk)) (ini c b e d ps lim dk)).rep.lost<9223372036854775808) :
  AL C 9 (OZ c b e d ps lim dk) (if OK c b e d ps lim dk=0 then outT (Hu (μ (ini c b e d ps lim dk)) (ini c b e d ps lim dk)) else [.bool false,tI 0,.bool false,tI 0,tI 0,tI 0,tI 0,tI (OK c b e d ps lim dk)]):=by
 unfold OZ OK at *;refine AL.of (fun n=>e9 n _ _ _ _ _ _ _ _ _ _ _ _ _) ?_;by_cases h1:1000<ps.length
 ·refine Ev.of fun n => ?_;simp only [h1,vv2,vf,vE,(show (1000:Int)<(ps.length:Int) by omega),(show ¬(4:Int)=0 by omega)]
 ·have h1':¬(1000:Int)<(ps.length:Int):=by omega
  by_cases h2:lim < -1
  ·refine Ev.of fun n => ?_;simp only [h1,h1',h2,vv2,vf,vE,(show ¬(2:Int)=0 by omega)]
  ·by_cases h3:BU dk=0
   ·by_cases h4:(BS c 0 d b e).2.2=0
    ·have hr:=Pb h4;simp only [h1,h2,h3,h4,if_false,ne_eq,not_true_eq_false,if_true] at hW hL ⊢;have hL:=hL trivial;have kr:=rn_M true hR ⟨0,0,0,[]⟩ (ini c b e d ps lim dk) (.row true 0 15 [(ini c b e d ps lim dk).snd.enc]) (.row true 0 4 [[tI c.rng,.sl 10 [],tI 0,tI 0]]) (.row true 0 4 [[tI 0,tI (-1),.sl 2 [],.str (ByteArray.mk #[])]]) (hW trivial);refine ((s61 dk).and ((KH c 0 d b e).and ((s63 c.rng hr).and ((s64 0).and kr)))).mono fun n hh => ?_;obtain ⟨k1,k2,k3,k4,kr⟩:=hh;have k4':Ye 0=(⟨0,-1,[],ByteArray.mk #[]⟩,0):=rfl;rw [k4'] at k4;simp only [D6,h4,Con.enc,Snd.enc,Rcv.enc,yY,xR,vA] at k2 k4;simp only [h1',h3,k1,k2,k3,k4,vv2,vf,vE,bne_self_eq_false];refine (kr _).trans ?_;generalize Hu (μ (ini c b e d ps lim dk)) (ini c b e d ps lim dk)=fs at hL ⊢;generalize (rnT (μ (ini c b e d ps lim dk)) (⟨0,0,0,[]⟩,ini c b e d ps lim dk)).1=g;simp only [Zn,outT,HM,sSM,vf,vE,AN hL.1 hL.2]
    ·have h4':((BS c 0 d b e).2.2 != 0)=true:=by simpa using h4
     refine ((s61 dk).and (KH c 0 d b e)).mono fun n hh => ?_;obtain ⟨k1,k2⟩:=hh;simp only [D6,Con.enc,Snd.enc,yY,xR] at k2;simp only [h1,h1',h2,h3,h4,k1,k2,h4',vv2,vf,vE,bne_self_eq_false,ne_eq,not_true_eq_false]
   ·have h3':(BU dk != 0)=true:=by simpa using h3
    refine (s61 dk).mono fun n k1 => ?_;simp only [h1,h1',h2,h3,k1,h3',vv2,vf,vE,ne_eq,not_false_eq_true,(show ¬(1:Int)=0 by omega)]
end Ab
namespace Ab
open Go
theorem s27 {W P1 P2:Ses→Prop} {μ:Ses→Nat} (hR:XX W P1 P2 μ) (c:Con) (b e:Int) (d:ByteArray) (ps:List Int) (lim:Int) (dk:List Span) (hW:OK c b e d ps lim dk=0→W (ini c b e d ps lim dk)) :
  AL C 27 (OZ c b e d ps lim dk) (if OK c b e d ps lim dk=0 then Wy (Hu (μ (ini c b e d ps lim dk)) (ini c b e d ps lim dk)) else [.sl 9 [],.sl 9 [],tI (OK c b e d ps lim dk)]):=by
 unfold OZ OK at *;refine AL.of (fun n=>e27 n _ _ _ _ _ _ _ _ _ _ _ _ _) ?_;by_cases h1:1000<ps.length
 ·refine Ev.of fun n => ?_;simp only [h1,vv2,vf,vE,(show (1000:Int)<(ps.length:Int) by omega),(show ¬(4:Int)=0 by omega)]
 ·have h1':¬(1000:Int)<(ps.length:Int):=by omega
  by_cases h2:lim < -1
  ·refine Ev.of fun n => ?_;simp only [h1,h1',h2,vv2,vf,vE,(show ¬(2:Int)=0 by omega)]
  ·by_cases h3:BU dk=0
   ·by_cases h4:(BS c 0 d b e).2.2=0
    ·have hr:=Pb h4;simp only [h1,h2,h3,h4,if_false,ne_eq,not_true_eq_false,if_true] at hW ⊢;have kr:=rn_M false hR ⟨0,0,0,[]⟩ (ini c b e d ps lim dk) (.row true 0 15 [(ini c b e d ps lim dk).snd.enc]) (.row true 0 4 [[tI c.rng,.sl 10 [],tI 0,tI 0]]) (.row true 0 4 [[tI 0,tI (-1),.sl 2 [],.str (ByteArray.mk #[])]]) (hW trivial);refine ((s61 dk).and ((KH c 0 d b e).and ((s63 c.rng hr).and ((s64 0).and kr)))).mono fun n hh => ?_;obtain ⟨k1,k2,k3,k4,kr⟩:=hh;have k4':Ye 0=(⟨0,-1,[],ByteArray.mk #[]⟩,0):=rfl;rw [k4'] at k4;simp only [D6,h4,Con.enc,Snd.enc,Rcv.enc,yY,xR,vA] at k2 k4;simp only [h1',h3,k1,k2,k3,k4,vv2,vf,vE,bne_self_eq_false];refine (kr _).trans ?_;generalize Hu (μ (ini c b e d ps lim dk)) (ini c b e d ps lim dk)=fs;generalize (rnT (μ (ini c b e d ps lim dk)) (⟨0,0,0,[]⟩,ini c b e d ps lim dk)).1=g;simp only [U9,Wy,HM,sSM,vv2,reduceCtorEq];rw [vD (by simp),vD (by simp)]
    ·have h4':((BS c 0 d b e).2.2 != 0)=true:=by simpa using h4
     refine ((s61 dk).and (KH c 0 d b e)).mono fun n hh => ?_;obtain ⟨k1,k2⟩:=hh;simp only [D6,Con.enc,Snd.enc,yY,xR] at k2;simp only [h1,h1',h2,h3,h4,k1,k2,h4',vv2,vf,vE,bne_self_eq_false,ne_eq,not_true_eq_false]
   ·have h3':(BU dk != 0)=true:=by simpa using h3
    refine (s61 dk).mono fun n k1 => ?_;simp only [h1,h1',h2,h3,k1,h3',vv2,vf,vE,ne_eq,not_false_eq_true,(show ¬(1:Int)=0 by omega)]
end Ab
namespace Ab
open Go
def QU (p:Par):List Tree:=OZ p.c p.b p.e p.d p.ps p.lim p.dk
theorem Y0 {p:Par} (hp:POk p) (h:(BS p.c 0 p.d p.b p.e).2.2=0):0≤(ER p).dat.lost∧0≤(ER p).rep.lost∧(ER p).dat.lost+(ER p).rep.lost≤(ER p).entered∧(ER p).entered≤5000:=by have hw:=(OG hp h).2.1.i;have:=hw.gd.lost;have:=hw.gr.lost;have:=hw.c1;have:=hw.small hp;omega
theorem dat_fin {p:Par} (hp:POk p) (h:(BS p.c 0 p.d p.b p.e).2.2=0) (hrv:(ER p).rcvd=true) :
  (∀o∈(ER p).sent,Df p.d o.seg)∧(ER p).sent.length≤5000∧∀t:Int,0≤t→t<p.d.size→∃o∈(ER p).sent,cov o.seg t:=by
 have hD:=dc_fin hp h;obtain ⟨F,hC,hpn⟩:=ic_fin hp h;have hI:=(OG hp h).2.1.i;have hsm:=hI.small hp;have c1:=hI.c1;have c2:=hI.c2;have c3:=hI.c3;refine ⟨fun o ho=>(hC.sg o ho).1.pc,by omega,fun t t0 t1 => ?_⟩;rw [hI.rv] at hrv;obtain ⟨x,hx,hcv,_⟩:=hD.kn t (((hI.full hp).1 hrv t).2 ⟨t0,t1⟩);exact ⟨x,hx,hcv⟩
def Je (c:Con) (d:ByteArray) (ps:List Int):Par:=⟨c,c.start,c.start+EB c d.size,d,ps,c.loss,[]⟩
structure ResB (c:Con) (d:ByteArray) (o:Ses):Prop where
 rcvd:o.rcvd=true
 kno:o.kno=true
 arr:o.arrive≤c.start+EB c d.size+c.rng
 kat:o.knoAt≤c.start+EB c d.size+c.rng+c.rng
 busy:o.snd.busy≤c.start+EB c d.size
 pc:∀x∈o.sent,Df d x.seg
 few:o.sent.length≤5000
 all:∀t:Int,0≤t→t<d.size→∃x∈o.sent,cov x.seg t
theorem bnd_fin (c:Con) (d:ByteArray) (ps:List Int) (hc:ES c=0) (hd:1≤d.size∧d.size≤300) (hf:PK c c.start d.size=true) (hpl:ps.length≤60) (hpk:∀x∈ps,-9223372036854775808≤x∧x≤9223372036854775807) :
  ∃o:Ses,ResB c d o∧AL C 9 (QU (Je c d ps)) (outT o)∧AL C 27 (QU (Je c d ps)) (Wy o):=by
 have hn:=FQ hc;have hq:=RA hc hf (by omega);have hB:BP (Je c d ps):=⟨rfl,by show 0≤c.loss∧c.loss≤c.loss;omega,by show c.start+EB c d.size=_;unfold EB TTp Je;simp only;omega⟩
 obtain ⟨hok,b1,b2,b3,b4⟩:=bnd_ok hB hc (Int.le_refl _) (by show c.start+EB c d.size≤c.fin;omega) hd hpl hpk;have hE:OK c c.start (c.start+EB c d.size) d ps c.loss []=0:=by unfold OK;rw [if_neg (by omega),if_neg (by omega),if_neg (by simp [BU,CJ])];exact b4
 obtain ⟨g1,g2,g3,g4,g5,g6,g7⟩:=bi_fin hok hB b4;obtain ⟨k1,k2,k3⟩:=dat_fin hok b4 g1;have hl:=Y0 hok b4;refine ⟨ER (Je c d ps),⟨g1,g2,?_,?_,g5,k1,k2,k3⟩,?_,?_⟩
 ·have:(ER (Je c d ps)).arrive+c.rng≤(c.start+EB c d.size)+2*c.rng:=g3;omega
 ·have:(ER (Je c d ps)).knoAt≤(c.start+EB c d.size)+2*c.rng:=g4;omega
 ·have:=s9 (runP hok) c c.start (c.start+EB c d.size) d ps c.loss [] (fun _=>US hok b4) (fun _=>by show _≤(ER (Je c d ps)).dat.lost+(ER (Je c d ps)).rep.lost∧(ER (Je c d ps)).dat.lost+(ER (Je c d ps)).rep.lost<_;omega);rw [if_pos hE] at this;exact this
 ·have:=s27 (runP hok) c c.start (c.start+EB c d.size) d ps c.loss [] (fun _=>US hok b4);rw [if_pos hE] at this;exact this
end Ab
namespace Ab
open Go Go.Proofs
noncomputable def As (p:List AV×Heap) (r:Heap):Heap :=.row false (AE p 0) 3 (oEs p 0) :: .box [.t (tI (cI p 1 0)),.t (tI (cI p 1 1)),.t (tI (cI p 1 2)),.t (tI (cI p 1 3)),.t (tI (cI p 1 4)),.t (tI (cI p 1 5)),.t (tI (cI p 1 6)),.t (tI (cI p 1 7)),.t (tI (cI p 1 8)),.t (tI (cI p 1 9)),.sref 0 (AK p 1 10) (AR p 1 10) (AJ p 1 10),.t (.str (cS p 1 11))] :: .box [.t (.str (cS p 2 0)),.t (tI (cI p 2 1)),.t (.bool (cB p 2 2))] :: .row false (AE p 3) 3 (oEs p 3)::r
noncomputable def Ar (p:List AV×Heap) (r:Heap):Heap :=.row false (AE p 0) 3 (oEs p 0) :: .box [.t (tI (cI p 1 0)),.t (tI (cI p 1 1)),.t (tI (cI p 1 2)),.t (tI (cI p 1 3)),.t (tI (cI p 1 4)),.t (tI (cI p 1 5)),.t (tI (cI p 1 6)),.t (tI (cI p 1 7)),.t (tI (cI p 1 8)),.t (tI (cI p 1 9)),.sref 0 (AK p 1 10) (AR p 1 10) (AJ p 1 10),.t (.str (cS p 1 11))] :: .box [.t (.str (cS p 2 0)),.t (tI (cI p 2 1)),.t (.bool true)] :: .row false (AE p 3) 3 (oEs p 3) :: .box [.t (tI (cI p 4 0)),.t (tI (cI p 4 1)),.t (tI (cI p 4 2)),.t (tI (cI p 4 3)),.t (tI (cI p 4 4)),.t (tI (cI p 4 5)),.t (tI (cI p 4 6)),.t (tI (cI p 4 7)),.t (tI (cI p 4 8)),.t (tI (cI p 4 9)),.sref 3 (AK p 4 10) (AR p 4 10) (AJ p 4 10),.t (.str (cS p 4 11))]::r
noncomputable def Aq (p:List AV×Heap) (r:Heap):Heap :=.row false (AE p 0) 3 (oEs p 0) :: .box [.t (tI (cI p 1 0)),.t (tI (cI p 1 1)),.t (tI (cI p 1 2)),.t (tI (cI p 1 3)),.t (tI (cI p 1 4)),.t (tI (cI p 1 5)),.t (tI (cI p 1 6)),.t (tI (cI p 1 7)),.t (tI (cI p 1 8)),.t (tI (cI p 1 9)),.sref 0 (AK p 1 10) (AR p 1 10) (AJ p 1 10),.t (.str (cS p 1 11))] :: .box [.t (.str (cS p 2 0)),.t (tI (cI p 2 1)),.t (.bool (cB p 2 2))] :: .row false (AE p 3) 3 (oEs p 3) :: .box [.t (tI (cI p 4 0)),.t (tI (cI p 4 1)),.t (tI (cI p 4 2)),.t (tI (cI p 4 3)),.t (tI (cI p 4 4)),.t (tI (cI p 4 5)),.t (tI (cI p 4 6)),.t (tI (cI p 4 7)),.t (tI (cI p 4 8)),.t (tI (cI p 4 9)),.sref 3 (AK p 4 10) (AR p 4 10) (AJ p 4 10),.t (.str (cS p 4 11))]::r
noncomputable def Ad (p:List AV×Heap):AF :=.row false (AE p 0) 3 (oEs p 0)
noncomputable def Ac (p:List AV×Heap):AF :=.box [.t (.str (cS p 0 0)),.t (tI (cI p 0 1)),.t (tI (cI p 0 2))]
noncomputable def Ag (p:List AV×Heap):AF :=.box [.t (tI (cI p 1 0)),.t (tI (cI p 1 1)),.t (tI (cI p 1 2)),.t (tI (cI p 1 3)),.t (tI (cI p 1 4)),.t (tI (cI p 1 5)),.t (tI (cI p 1 6)),.t (tI (cI p 1 7)),.t (tI (cI p 1 8)),.t (tI (cI p 1 9)),.sref 0 (AK p 1 10) (AR p 1 10) (AJ p 1 10),.t (.str (cS p 1 11))]
noncomputable def Af (p:List AV×Heap):AF :=.row false (AE p 3) 3 (oEs p 3)
noncomputable def Ai (p:List AV×Heap):AF :=.box [.t (tI (cI p 4 0)),.t (tI (cI p 4 1)),.t (tI (cI p 4 2)),.t (tI (cI p 4 3)),.t (tI (cI p 4 4)),.t (tI (cI p 4 5)),.t (tI (cI p 4 6)),.t (tI (cI p 4 7)),.t (tI (cI p 4 8)),.t (tI (cI p 4 9)),.sref 3 (AK p 4 10) (AR p 4 10) (AJ p 4 10),.t (.str (cS p 4 11))]
noncomputable def Al (p:List AV×Heap):AF :=.box [.t (tI (cI p 0 0)),.t (tI (cI p 0 1)),.t (tI (cI p 0 2)),.t (tI (cI p 0 3)),.t (tI (cI p 0 4)),.t (tI (cI p 0 5)),.t (tI (cI p 0 6)),.t (tI (cI p 0 7)),.t (tI (cI p 0 8)),.t (tI (cI p 0 9)),.t (.sl 3 (cL p 0 10)),.t (.str (cS p 0 11))]
noncomputable def Au (p:List AV×Heap):AF :=.row false (AE p 1) 1 (oEs p 1)
noncomputable def Ay (p:List AV×Heap):AF :=.box [.t (.str (cS p 0 0)),.t (tI (cI p 0 1)),.t (tI 11)]
noncomputable def Ti (n:Nat) (a10:List (List Tree)) (p22:List AV×Heap) (again23:(List AV×Heap)→Option (List Tree)):Option (List Tree):=cnd (decide (vI p22 0<((length a10:Nat):Int))=true) (cnd (3=3∧(0:Int)≤vI p22 0) (Option.bind a10[wT (vI p22 0)]? fun y26=>cnd (okS y26 2) (cnd (decide (((ByteArray.size (gS y26 2):Nat):Int)>200)=true) (cnd (3=3∧(0:Int)≤vI p22 0) (Option.bind a10[wT (vI p22 0)]? fun y27=>cnd (okS y27 2) (cnd (decide (((ByteArray.size (gS y27 2):Nat):Int)≤1024)=true) (some [.bool true]) (cnd (3=3∧(0:Int)≤vI p22 0) (Option.bind a10[wT (vI p22 0)]? fun y28=>cnd (okS y28 2) (cnd (decide (((ByteArray.size (gS y28 2):Nat):Int)>1034)=true) (some [.bool true]) (again23 ([.t (tI (w64 ((vI p22 0)+1)))],[]))) none) none)) none) none) (cnd (3=3∧(0:Int)≤vI p22 0) (Option.bind a10[wT (vI p22 0)]? fun y29=>cnd (okS y29 2) (cnd (decide (((ByteArray.size (gS y29 2):Nat):Int)>1034)=true) (some [.bool true]) (again23 ([.t (tI (w64 ((vI p22 0)+1)))],[]))) none) none)) none) none) (some [.bool false])
theorem e4 (n:Nat) (a0:Int) (a1:Int) (a2:Int) (a3:Int) (a4:Int) (a5:Int) (a6:Int) (a7:Int) (a8:Int) (a9:Int) (a10:List (List Tree)) (a11:ByteArray):AA C (n+1) 4 [tI a0,tI a1,tI a2,tI a3,tI a4,tI a5,tI a6,tI a7,tI a8,tI a9,.sl 3 a10,.str a11]=cnd (decide (((length a10:Nat):Int)>12)=true) (some [.bool true]) (cnd (decide (((ByteArray.size a11:Nat):Int)>200)=true) (cnd (decide (((ByteArray.size a11:Nat):Int)≤4096)=true) (some [.bool true]) (cnd (decide (((ByteArray.size a11:Nat):Int)>4106)=true) (some [.bool true]) (AH (fun (p22:List AV×Heap) (again23:_→Option (List Tree))=>Ti n a10 p22 again23) n ([.t (tI 0)],[])))) (cnd (decide (((ByteArray.size a11:Nat):Int)>4106)=true) (some [.bool true]) (AH (fun (p22:List AV×Heap) (again23:_→Option (List Tree))=>Ti n a10 p22 again23) n ([.t (tI 0)],[])))):=by kernel_rfl
noncomputable def Zk (n:Nat)  (p14:List AV×Heap) (again15:(List AV×Heap)→Option (List Tree)):Option (List Tree):=cnd (decide (vI p14 1<10)=true) (cnd ((0:Int)≤vI p14 1∧vI p14 1<10) (cnd (vI p14 1=((9:Nat):Int)) (Option.bind (AA C n 19 [tI (cI p14 0 9)]) fun y16=>cnd (length y16=2) (cnd (okS y16 0) (cnd (okI y16 1) (cnd (length (AZ (gS y16 0))=0∧(CO p14 0)+(Ak p14 0)<length (oEs p14 1)) (cnd (AE p14 1=Bg p14 0) (again15 ([.sref 1 (Bg p14 0) (CO p14 0) (Ak p14 0),.t (tI (w64 ((vI p14 1)+1)))],[Al p14,Au p14])) none) (cnd (AE p14 1=Bg p14 0∧(1=1∨1=0)∧(CO p14 0)+(Ak p14 0)≤length (oEs p14 1)∧(Ak p14 0)+(length (AZ (gS y16 0)))≤1073741824) (again15 ([.sref 1 ((Bg p14 0)+1) 0 ((Ak p14 0)+(length (AZ (gS y16 0)))),.t (tI (w64 ((vI p14 1)+1)))],[Al p14,.row false ((Bg p14 0)+1) 1 ((take (Ak p14 0) (drop (CO p14 0) (oEs p14 1)))++(AZ (gS y16 0)))])) none)) none) none) none) (cnd (vI p14 1=((8:Nat):Int)) (Option.bind (AA C n 19 [tI (cI p14 0 8)]) fun y17=>cnd (length y17=2) (cnd (okS y17 0) (cnd (okI y17 1) (cnd (length (AZ (gS y17 0))=0∧(CO p14 0)+(Ak p14 0)<length (oEs p14 1)) (cnd (AE p14 1=Bg p14 0) (again15 ([.sref 1 (Bg p14 0) (CO p14 0) (Ak p14 0),.t (tI (w64 ((vI p14 1)+1)))],[Al p14,Au p14])) none) (cnd (AE p14 1=Bg p14 0∧(1=1∨1=0)∧(CO p14 0)+(Ak p14 0)≤length (oEs p14 1)∧(Ak p14 0)+(length (AZ (gS y17 0)))≤1073741824) (again15 ([.sref 1 ((Bg p14 0)+1) 0 ((Ak p14 0)+(length (AZ (gS y17 0)))),.t (tI (w64 ((vI p14 1)+1)))],[Al p14,.row false ((Bg p14 0)+1) 1 ((take (Ak p14 0) (drop (CO p14 0) (oEs p14 1)))++(AZ (gS y17 0)))])) none)) none) none) none) (cnd (vI p14 1=((7:Nat):Int)) (Option.bind (AA C n 19 [tI (cI p14 0 7)]) fun y18=>cnd (length y18=2) (cnd (okS y18 0) (cnd (okI y18 1) (cnd (length (AZ (gS y18 0))=0∧(CO p14 0)+(Ak p14 0)<length (oEs p14 1)) (cnd (AE p14 1=Bg p14 0) (again15 ([.sref 1 (Bg p14 0) (CO p14 0) (Ak p14 0),.t (tI (w64 ((vI p14 1)+1)))],[Al p14,Au p14])) none) (cnd (AE p14 1=Bg p14 0∧(1=1∨1=0)∧(CO p14 0)+(Ak p14 0)≤length (oEs p14 1)∧(Ak p14 0)+(length (AZ (gS y18 0)))≤1073741824) (again15 ([.sref 1 ((Bg p14 0)+1) 0 ((Ak p14 0)+(length (AZ (gS y18 0)))),.t (tI (w64 ((vI p14 1)+1)))],[Al p14,.row false ((Bg p14 0)+1) 1 ((take (Ak p14 0) (drop (CO p14 0) (oEs p14 1)))++(AZ (gS y18 0)))])) none)) none) none) none) (cnd (vI p14 1=((6:Nat):Int)) (Option.bind (AA C n 19 [tI (cI p14 0 6)]) fun y19=>cnd (length y19=2) (cnd (okS y19 0) (cnd (okI y19 1) (cnd (length (AZ (gS y19 0))=0∧(CO p14 0)+(Ak p14 0)<length (oEs p14 1)) (cnd (AE p14 1=Bg p14 0) (again15 ([.sref 1 (Bg p14 0) (CO p14 0) (Ak p14 0),.t (tI (w64 ((vI p14 1)+1)))],[Al p14,Au p14])) none) (cnd (AE p14 1=Bg p14 0∧(1=1∨1=0)∧(CO p14 0)+(Ak p14 0)≤length (oEs p14 1)∧(Ak p14 0)+(length (AZ (gS y19 0)))≤1073741824) (again15 ([.sref 1 ((Bg p14 0)+1) 0 ((Ak p14 0)+(length (AZ (gS y19 0)))),.t (tI (w64 ((vI p14 1)+1)))],[Al p14,.row false ((Bg p14 0)+1) 1 ((take (Ak p14 0) (drop (CO p14 0) (oEs p14 1)))++(AZ (gS y19 0)))])) none)) none) none) none) (cnd (vI p14 1=((5:Nat):Int)) (Option.bind (AA C n 19 [tI (cI p14 0 5)]) fun y20=>cnd (length y20=2) (cnd (okS y20 0) (cnd (okI y20 1) (cnd (length (AZ (gS y20 0))=0∧(CO p14 0)+(Ak p14 0)<length (oEs p14 1)) (cnd (AE p14 1=Bg p14 0) (again15 ([.sref 1 (Bg p14 0) (CO p14 0) (Ak p14 0),.t (tI (w64 ((vI p14 1)+1)))],[Al p14,Au p14])) none) (cnd (AE p14 1=Bg p14 0∧(1=1∨1=0)∧(CO p14 0)+(Ak p14 0)≤length (oEs p14 1)∧(Ak p14 0)+(length (AZ (gS y20 0)))≤1073741824) (again15 ([.sref 1 ((Bg p14 0)+1) 0 ((Ak p14 0)+(length (AZ (gS y20 0)))),.t (tI (w64 ((vI p14 1)+1)))],[Al p14,.row false ((Bg p14 0)+1) 1 ((take (Ak p14 0) (drop (CO p14 0) (oEs p14 1)))++(AZ (gS y20 0)))])) none)) none) none) none) (cnd (vI p14 1=((4:Nat):Int)) (Option.bind (AA C n 19 [tI (cI p14 0 4)]) fun y21=>cnd (length y21=2) (cnd (okS y21 0) (cnd (okI y21 1) (cnd (length (AZ (gS y21 0))=0∧(CO p14 0)+(Ak p14 0)<length (oEs p14 1)) (cnd (AE p14 1=Bg p14 0) (again15 ([.sref 1 (Bg p14 0) (CO p14 0) (Ak p14 0),.t (tI (w64 ((vI p14 1)+1)))],[Al p14,Au p14])) none) (cnd (AE p14 1=Bg p14 0∧(1=1∨1=0)∧(CO p14 0)+(Ak p14 0)≤length (oEs p14 1)∧(Ak p14 0)+(length (AZ (gS y21 0)))≤1073741824) (again15 ([.sref 1 ((Bg p14 0)+1) 0 ((Ak p14 0)+(length (AZ (gS y21 0)))),.t (tI (w64 ((vI p14 1)+1)))],[Al p14,.row false ((Bg p14 0)+1) 1 ((take (Ak p14 0) (drop (CO p14 0) (oEs p14 1)))++(AZ (gS y21 0)))])) none)) none) none) none) (cnd (vI p14 1=((3:Nat):Int)) (Option.bind (AA C n 19 [tI (cI p14 0 3)]) fun y22=>cnd (length y22=2) (cnd (okS y22 0) (cnd (okI y22 1) (cnd (length (AZ (gS y22 0))=0∧(CO p14 0)+(Ak p14 0)<length (oEs p14 1)) (cnd (AE p14 1=Bg p14 0) (again15 ([.sref 1 (Bg p14 0) (CO p14 0) (Ak p14 0),.t (tI (w64 ((vI p14 1)+1)))],[Al p14,Au p14])) none) (cnd (AE p14 1=Bg p14 0∧(1=1∨1=0)∧(CO p14 0)+(Ak p14 0)≤length (oEs p14 1)∧(Ak p14 0)+(length (AZ (gS y22 0)))≤1073741824) (again15 ([.sref 1 ((Bg p14 0)+1) 0 ((Ak p14 0)+(length (AZ (gS y22 0)))),.t (tI (w64 ((vI p14 1)+1)))],[Al p14,.row false ((Bg p14 0)+1) 1 ((take (Ak p14 0) (drop (CO p14 0) (oEs p14 1)))++(AZ (gS y22 0)))])) none)) none) none) none) (cnd (vI p14 1=((2:Nat):Int)) (Option.bind (AA C n 19 [tI (cI p14 0 2)]) fun y23=>cnd (length y23=2) (cnd (okS y23 0) (cnd (okI y23 1) (cnd (length (AZ (gS y23 0))=0∧(CO p14 0)+(Ak p14 0)<length (oEs p14 1)) (cnd (AE p14 1=Bg p14 0) (again15 ([.sref 1 (Bg p14 0) (CO p14 0) (Ak p14 0),.t (tI (w64 ((vI p14 1)+1)))],[Al p14,Au p14])) none) (cnd (AE p14 1=Bg p14 0∧(1=1∨1=0)∧(CO p14 0)+(Ak p14 0)≤length (oEs p14 1)∧(Ak p14 0)+(length (AZ (gS y23 0)))≤1073741824) (again15 ([.sref 1 ((Bg p14 0)+1) 0 ((Ak p14 0)+(length (AZ (gS y23 0)))),.t (tI (w64 ((vI p14 1)+1)))],[Al p14,.row false ((Bg p14 0)+1) 1 ((take (Ak p14 0) (drop (CO p14 0) (oEs p14 1)))++(AZ (gS y23 0)))])) none)) none) none) none) (cnd (vI p14 1=((1:Nat):Int)) (Option.bind (AA C n 19 [tI (cI p14 0 1)]) fun y24=>cnd (length y24=2) (cnd (okS y24 0) (cnd (okI y24 1) (cnd (length (AZ (gS y24 0))=0∧(CO p14 0)+(Ak p14 0)<length (oEs p14 1)) (cnd (AE p14 1=Bg p14 0) (again15 ([.sref 1 (Bg p14 0) (CO p14 0) (Ak p14 0),.t (tI (w64 ((vI p14 1)+1)))],[Al p14,Au p14])) none) (cnd (AE p14 1=Bg p14 0∧(1=1∨1=0)∧(CO p14 0)+(Ak p14 0)≤length (oEs p14 1)∧(Ak p14 0)+(length (AZ (gS y24 0)))≤1073741824) (again15 ([.sref 1 ((Bg p14 0)+1) 0 ((Ak p14 0)+(length (AZ (gS y24 0)))),.t (tI (w64 ((vI p14 1)+1)))],[Al p14,.row false ((Bg p14 0)+1) 1 ((take (Ak p14 0) (drop (CO p14 0) (oEs p14 1)))++(AZ (gS y24 0)))])) none)) none) none) none) (cnd (vI p14 1=((0:Nat):Int)) (Option.bind (AA C n 19 [tI (cI p14 0 0)]) fun y25=>cnd (length y25=2) (cnd (okS y25 0) (cnd (okI y25 1) (cnd (length (AZ (gS y25 0))=0∧(CO p14 0)+(Ak p14 0)<length (oEs p14 1)) (cnd (AE p14 1=Bg p14 0) (again15 ([.sref 1 (Bg p14 0) (CO p14 0) (Ak p14 0),.t (tI (w64 ((vI p14 1)+1)))],[Al p14,Au p14])) none) (cnd (AE p14 1=Bg p14 0∧(1=1∨1=0)∧(CO p14 0)+(Ak p14 0)≤length (oEs p14 1)∧(Ak p14 0)+(length (AZ (gS y25 0)))≤1073741824) (again15 ([.sref 1 ((Bg p14 0)+1) 0 ((Ak p14 0)+(length (AZ (gS y25 0)))),.t (tI (w64 ((vI p14 1)+1)))],[Al p14,.row false ((Bg p14 0)+1) 1 ((take (Ak p14 0) (drop (CO p14 0) (oEs p14 1)))++(AZ (gS y25 0)))])) none)) none) none) none) none)))))))))) none) (Option.bind (AA C n 20 [.sl 3 (cL p14 0 10)]) fun y26=>cnd (length y26=2) (cnd (okS y26 0) (cnd (okI y26 1) (Option.bind (AA C n 17 [.str (cS p14 0 11)]) fun y27=>cnd (length y27=2) (cnd (okS y27 0) (cnd (okI y27 1) (cnd (AE p14 1=Bg p14 0∧(1=1∨1=0)) (cnd (Fo (take (Ak p14 0) (drop (CO p14 0) (oEs p14 1)))=true) (cnd ((ByteArray.size (bytesOf (take (Ak p14 0) (drop (CO p14 0) (oEs p14 1)))))+(ByteArray.size (gS y26 0))≤9223372036854775807) (cnd ((ByteArray.size ((bytesOf (take (Ak p14 0) (drop (CO p14 0) (oEs p14 1))))++(gS y26 0)))+(ByteArray.size (gS y27 0))≤9223372036854775807) (Option.bind (AA C n 21 [.str (((bytesOf (take (Ak p14 0) (drop (CO p14 0) (oEs p14 1))))++(gS y26 0))++(gS y27 0))]) fun y28=>cnd (length y28=2) (cnd (okS y28 0) (cnd (okI y28 1) (some [.str (gS y28 0),tI (gI y28 1)]) none) none) none) none) none) none) none) none) none) none) none) none) none)
theorem e6 (n:Nat) (a0:Int) (a1:Int) (a2:Int) (a3:Int) (a4:Int) (a5:Int) (a6:Int) (a7:Int) (a8:Int) (a9:Int) (a10:List (List Tree)) (a11:ByteArray):AA C (n+1) 6 [tI a0,tI a1,tI a2,tI a3,tI a4,tI a5,tI a6,tI a7,tI a8,tI a9,.sl 3 a10,.str a11]=Option.bind (AA C n 16 [tI a0,tI a1,tI a2,tI a3,tI a4,tI a5,tI a6,tI a7,tI a8,tI a9,.sl 3 a10,.str a11]) fun y12=>cnd (length y12=1) (cnd (okI y12 0) (cnd (((gI y12 0) != 0)=true) (some [.str (ByteArray.mk #[]),tI (gI y12 0)]) (Option.bind (AA C n 17 [.str (ByteArray.mk #[77,66,49])]) fun y13=>cnd (length y13=2) (cnd (okS y13 0) (cnd (okI y13 1) (AH (fun (p14:List AV×Heap) (again15:_→Option (List Tree))=>Zk n p14 again15) n ([.sref 1 0 0 (ByteArray.size (gS y13 0)),.t (tI 0)],[.box [.t (tI a0),.t (tI a1),.t (tI a2),.t (tI a3),.t (tI a4),.t (tI a5),.t (tI a6),.t (tI a7),.t (tI a8),.t (tI a9),.t (.sl 3 a10),.t (.str a11)],.row false 0 1 (AZ (gS y13 0))])) none) none) none)) none) none:=by kernel_rfl
noncomputable def J11_1 (n:Nat) (again21:(List AV×Heap)→Option (List Tree)) (y19:List Tree) (p22:List AV×Heap):Option (List Tree):=cnd ((!(cB p22 2 2))=true) (again21 ([],[Ad p22,Ag p22,.box [.t (.str (cS p22 2 0)),.t (tI (w64 ((cI p22 2 1)+(gI y19 1)))),.t (.bool (cB p22 2 2))],Af p22,Ai p22])) none
noncomputable def J11_2 (n:Nat) (again16:(List AV×Heap)→Option (List Tree)) (y19:List Tree) (p20:List AV×Heap):Option (List Tree):=again16 ([.t (tI (gI y19 0))],(Aq p20 []))
noncomputable def J11_3 (n:Nat) (again14:(List AV×Heap)→Option (List Tree)) (p13:List AV×Heap) (p15:List AV×Heap):Option (List Tree):=again14 ([.t (tI (w64 ((vI p13 0)+1)))],(As p15 [.box [.t (tI (cI p15 4 0)),.t (tI (cI p15 4 1)),.t (tI (cI p15 4 2)),.t (tI (cI p15 4 3)),.t (tI (cI p15 4 4)),.t (tI (cI p15 4 5)),.t (tI (cI p15 4 6)),.t (tI (cI p15 4 7)),.t (tI (cI p15 4 8)),.t (tI (vI p15 0)),.sref 3 (AK p15 4 10) (AR p15 4 10) (AJ p15 4 10),.t (.str (cS p15 4 11))]]))
noncomputable def J11_4 (n:Nat) (again30:(List AV×Heap)→Option (List Tree)) (y28:List Tree) (p31:List AV×Heap):Option (List Tree):=cnd ((!(cB p31 2 2))=true) (again30 ([],[Ad p31,Ag p31,.box [.t (.str (cS p31 2 0)),.t (tI (w64 ((cI p31 2 1)+(gI y28 1)))),.t (.bool (cB p31 2 2))],Af p31,Ai p31])) none
noncomputable def J11_5 (n:Nat) (again25:(List AV×Heap)→Option (List Tree)) (y28:List Tree) (p29:List AV×Heap):Option (List Tree):=again25 ([.t (tI (gI y28 0))],(Aq p29 []))
noncomputable def J11_6 (n:Nat) (again14:(List AV×Heap)→Option (List Tree)) (p13:List AV×Heap) (p24:List AV×Heap):Option (List Tree):=again14 ([.t (tI (w64 ((vI p13 0)+1)))],(As p24 [.box [.t (tI (cI p24 4 0)),.t (tI (cI p24 4 1)),.t (tI (cI p24 4 2)),.t (tI (cI p24 4 3)),.t (tI (cI p24 4 4)),.t (tI (cI p24 4 5)),.t (tI (cI p24 4 6)),.t (tI (cI p24 4 7)),.t (tI (vI p24 0)),.t (tI (cI p24 4 9)),.sref 3 (AK p24 4 10) (AR p24 4 10) (AJ p24 4 10),.t (.str (cS p24 4 11))]]))
noncomputable def J11_7 (n:Nat) (again39:(List AV×Heap)→Option (List Tree)) (y37:List Tree) (p40:List AV×Heap):Option (List Tree):=cnd ((!(cB p40 2 2))=true) (again39 ([],[Ad p40,Ag p40,.box [.t (.str (cS p40 2 0)),.t (tI (w64 ((cI p40 2 1)+(gI y37 1)))),.t (.bool (cB p40 2 2))],Af p40,Ai p40])) none
noncomputable def J11_8 (n:Nat) (again34:(List AV×Heap)→Option (List Tree)) (y37:List Tree) (p38:List AV×Heap):Option (List Tree):=again34 ([.t (tI (gI y37 0))],(Aq p38 []))
noncomputable def J11_9 (n:Nat) (again14:(List AV×Heap)→Option (List Tree)) (p13:List AV×Heap) (p33:List AV×Heap):Option (List Tree):=again14 ([.t (tI (w64 ((vI p13 0)+1)))],(As p33 [.box [.t (tI (cI p33 4 0)),.t (tI (cI p33 4 1)),.t (tI (cI p33 4 2)),.t (tI (cI p33 4 3)),.t (tI (cI p33 4 4)),.t (tI (cI p33 4 5)),.t (tI (cI p33 4 6)),.t (tI (vI p33 0)),.t (tI (cI p33 4 8)),.t (tI (cI p33 4 9)),.sref 3 (AK p33 4 10) (AR p33 4 10) (AJ p33 4 10),.t (.str (cS p33 4 11))]]))
noncomputable def aP (n:Nat) (again48:(List AV×Heap)→Option (List Tree)) (y46:List Tree) (p49:List AV×Heap):Option (List Tree):=cnd ((!(cB p49 2 2))=true) (again48 ([],[Ad p49,Ag p49,.box [.t (.str (cS p49 2 0)),.t (tI (w64 ((cI p49 2 1)+(gI y46 1)))),.t (.bool (cB p49 2 2))],Af p49,Ai p49])) none
noncomputable def aO (n:Nat) (again43:(List AV×Heap)→Option (List Tree)) (y46:List Tree) (p47:List AV×Heap):Option (List Tree):=again43 ([.t (tI (gI y46 0))],(Aq p47 []))
noncomputable def aN (n:Nat) (again14:(List AV×Heap)→Option (List Tree)) (p13:List AV×Heap) (p42:List AV×Heap):Option (List Tree):=again14 ([.t (tI (w64 ((vI p13 0)+1)))],(As p42 [.box [.t (tI (cI p42 4 0)),.t (tI (cI p42 4 1)),.t (tI (cI p42 4 2)),.t (tI (cI p42 4 3)),.t (tI (cI p42 4 4)),.t (tI (cI p42 4 5)),.t (tI (vI p42 0)),.t (tI (cI p42 4 7)),.t (tI (cI p42 4 8)),.t (tI (cI p42 4 9)),.sref 3 (AK p42 4 10) (AR p42 4 10) (AJ p42 4 10),.t (.str (cS p42 4 11))]]))
noncomputable def aM (n:Nat) (again57:(List AV×Heap)→Option (List Tree)) (y55:List Tree) (p58:List AV×Heap):Option (List Tree):=cnd ((!(cB p58 2 2))=true) (again57 ([],[Ad p58,Ag p58,.box [.t (.str (cS p58 2 0)),.t (tI (w64 ((cI p58 2 1)+(gI y55 1)))),.t (.bool (cB p58 2 2))],Af p58,Ai p58])) none
noncomputable def aK (n:Nat) (again52:(List AV×Heap)→Option (List Tree)) (y55:List Tree) (p56:List AV×Heap):Option (List Tree):=again52 ([.t (tI (gI y55 0))],(Aq p56 []))
noncomputable def aJ (n:Nat) (again14:(List AV×Heap)→Option (List Tree)) (p13:List AV×Heap) (p51:List AV×Heap):Option (List Tree):=again14 ([.t (tI (w64 ((vI p13 0)+1)))],(As p51 [.box [.t (tI (cI p51 4 0)),.t (tI (cI p51 4 1)),.t (tI (cI p51 4 2)),.t (tI (cI p51 4 3)),.t (tI (cI p51 4 4)),.t (tI (vI p51 0)),.t (tI (cI p51 4 6)),.t (tI (cI p51 4 7)),.t (tI (cI p51 4 8)),.t (tI (cI p51 4 9)),.sref 3 (AK p51 4 10) (AR p51 4 10) (AJ p51 4 10),.t (.str (cS p51 4 11))]]))
noncomputable def aH (n:Nat) (again66:(List AV×Heap)→Option (List Tree)) (y64:List Tree) (p67:List AV×Heap):Option (List Tree):=cnd ((!(cB p67 2 2))=true) (again66 ([],[Ad p67,Ag p67,.box [.t (.str (cS p67 2 0)),.t (tI (w64 ((cI p67 2 1)+(gI y64 1)))),.t (.bool (cB p67 2 2))],Af p67,Ai p67])) none
noncomputable def aG (n:Nat) (again61:(List AV×Heap)→Option (List Tree)) (y64:List Tree) (p65:List AV×Heap):Option (List Tree):=again61 ([.t (tI (gI y64 0))],(Aq p65 []))
noncomputable def aF (n:Nat) (again14:(List AV×Heap)→Option (List Tree)) (p13:List AV×Heap) (p60:List AV×Heap):Option (List Tree):=again14 ([.t (tI (w64 ((vI p13 0)+1)))],(As p60 [.box [.t (tI (cI p60 4 0)),.t (tI (cI p60 4 1)),.t (tI (cI p60 4 2)),.t (tI (cI p60 4 3)),.t (tI (vI p60 0)),.t (tI (cI p60 4 5)),.t (tI (cI p60 4 6)),.t (tI (cI p60 4 7)),.t (tI (cI p60 4 8)),.t (tI (cI p60 4 9)),.sref 3 (AK p60 4 10) (AR p60 4 10) (AJ p60 4 10),.t (.str (cS p60 4 11))]]))
noncomputable def aE (n:Nat) (again75:(List AV×Heap)→Option (List Tree)) (y73:List Tree) (p76:List AV×Heap):Option (List Tree):=cnd ((!(cB p76 2 2))=true) (again75 ([],[Ad p76,Ag p76,.box [.t (.str (cS p76 2 0)),.t (tI (w64 ((cI p76 2 1)+(gI y73 1)))),.t (.bool (cB p76 2 2))],Af p76,Ai p76])) none
noncomputable def aD (n:Nat) (again70:(List AV×Heap)→Option (List Tree)) (y73:List Tree) (p74:List AV×Heap):Option (List Tree):=again70 ([.t (tI (gI y73 0))],(Aq p74 []))
noncomputable def aC (n:Nat) (again14:(List AV×Heap)→Option (List Tree)) (p13:List AV×Heap) (p69:List AV×Heap):Option (List Tree):=again14 ([.t (tI (w64 ((vI p13 0)+1)))],(As p69 [.box [.t (tI (cI p69 4 0)),.t (tI (cI p69 4 1)),.t (tI (cI p69 4 2)),.t (tI (vI p69 0)),.t (tI (cI p69 4 4)),.t (tI (cI p69 4 5)),.t (tI (cI p69 4 6)),.t (tI (cI p69 4 7)),.t (tI (cI p69 4 8)),.t (tI (cI p69 4 9)),.sref 3 (AK p69 4 10) (AR p69 4 10) (AJ p69 4 10),.t (.str (cS p69 4 11))]]))
noncomputable def aA (n:Nat) (again84:(List AV×Heap)→Option (List Tree)) (y82:List Tree) (p85:List AV×Heap):Option (List Tree):=cnd ((!(cB p85 2 2))=true) (again84 ([],[Ad p85,Ag p85,.box [.t (.str (cS p85 2 0)),.t (tI (w64 ((cI p85 2 1)+(gI y82 1)))),.t (.bool (cB p85 2 2))],Af p85,Ai p85])) none
noncomputable def Z9 (n:Nat) (again79:(List AV×Heap)→Option (List Tree)) (y82:List Tree) (p83:List AV×Heap):Option (List Tree):=again79 ([.t (tI (gI y82 0))],(Aq p83 []))
noncomputable def Z8 (n:Nat) (again14:(List AV×Heap)→Option (List Tree)) (p13:List AV×Heap) (p78:List AV×Heap):Option (List Tree):=again14 ([.t (tI (w64 ((vI p13 0)+1)))],(As p78 [.box [.t (tI (cI p78 4 0)),.t (tI (cI p78 4 1)),.t (tI (vI p78 0)),.t (tI (cI p78 4 3)),.t (tI (cI p78 4 4)),.t (tI (cI p78 4 5)),.t (tI (cI p78 4 6)),.t (tI (cI p78 4 7)),.t (tI (cI p78 4 8)),.t (tI (cI p78 4 9)),.sref 3 (AK p78 4 10) (AR p78 4 10) (AJ p78 4 10),.t (.str (cS p78 4 11))]]))
noncomputable def Z7 (n:Nat) (again93:(List AV×Heap)→Option (List Tree)) (y91:List Tree) (p94:List AV×Heap):Option (List Tree):=cnd ((!(cB p94 2 2))=true) (again93 ([],[Ad p94,Ag p94,.box [.t (.str (cS p94 2 0)),.t (tI (w64 ((cI p94 2 1)+(gI y91 1)))),.t (.bool (cB p94 2 2))],Af p94,Ai p94])) none
noncomputable def Z6 (n:Nat) (again88:(List AV×Heap)→Option (List Tree)) (y91:List Tree) (p92:List AV×Heap):Option (List Tree):=again88 ([.t (tI (gI y91 0))],(Aq p92 []))
noncomputable def Z5 (n:Nat) (again14:(List AV×Heap)→Option (List Tree)) (p13:List AV×Heap) (p87:List AV×Heap):Option (List Tree):=again14 ([.t (tI (w64 ((vI p13 0)+1)))],(As p87 [.box [.t (tI (cI p87 4 0)),.t (tI (vI p87 0)),.t (tI (cI p87 4 2)),.t (tI (cI p87 4 3)),.t (tI (cI p87 4 4)),.t (tI (cI p87 4 5)),.t (tI (cI p87 4 6)),.t (tI (cI p87 4 7)),.t (tI (cI p87 4 8)),.t (tI (cI p87 4 9)),.sref 3 (AK p87 4 10) (AR p87 4 10) (AJ p87 4 10),.t (.str (cS p87 4 11))]]))
noncomputable def Z4 (n:Nat) (again102:(List AV×Heap)→Option (List Tree)) (y100:List Tree) (p103:List AV×Heap):Option (List Tree):=cnd ((!(cB p103 2 2))=true) (again102 ([],[Ad p103,Ag p103,.box [.t (.str (cS p103 2 0)),.t (tI (w64 ((cI p103 2 1)+(gI y100 1)))),.t (.bool (cB p103 2 2))],Af p103,Ai p103])) none
noncomputable def Z3 (n:Nat) (again97:(List AV×Heap)→Option (List Tree)) (y100:List Tree) (p101:List AV×Heap):Option (List Tree):=again97 ([.t (tI (gI y100 0))],(Aq p101 []))
noncomputable def Z2 (n:Nat) (again14:(List AV×Heap)→Option (List Tree)) (p13:List AV×Heap) (p96:List AV×Heap):Option (List Tree):=again14 ([.t (tI (w64 ((vI p13 0)+1)))],(As p96 [.box [.t (tI (vI p96 0)),.t (tI (cI p96 4 1)),.t (tI (cI p96 4 2)),.t (tI (cI p96 4 3)),.t (tI (cI p96 4 4)),.t (tI (cI p96 4 5)),.t (tI (cI p96 4 6)),.t (tI (cI p96 4 7)),.t (tI (cI p96 4 8)),.t (tI (cI p96 4 9)),.sref 3 (AK p96 4 10) (AR p96 4 10) (AJ p96 4 10),.t (.str (cS p96 4 11))]]))
noncomputable def Z1 (n:Nat) (again109:(List AV×Heap)→Option (List Tree)) (y107:List Tree) (p110:List AV×Heap):Option (List Tree):=cnd ((!(cB p110 2 2))=true) (again109 ([],[Ad p110,Ag p110,.box [.t (.str (cS p110 2 0)),.t (tI (w64 ((cI p110 2 1)+(gI y107 1)))),.t (.bool (cB p110 2 2))],Af p110,Ai p110])) none
noncomputable def Z0 (n:Nat) (again118:(List AV×Heap)→Option (List Tree)) (y116:List Tree) (p119:List AV×Heap):Option (List Tree):=cnd ((!(cB p119 2 2))=true) (again118 ([],[Ad p119,Ag p119,.box [.t (.str (cS p119 2 0)),.t (tI (w64 ((cI p119 2 1)+(gI y116 1)))),.t (.bool (cB p119 2 2))],Af p119,.box [.t (tI (cI p119 4 0)),.t (tI (cI p119 4 1)),.t (tI (cI p119 4 2)),.t (tI (cI p119 4 3)),.t (tI (cI p119 4 4)),.t (tI (cI p119 4 5)),.t (tI (cI p119 4 6)),.t (tI (cI p119 4 7)),.t (tI (cI p119 4 8)),.t (tI (cI p119 4 9)),.t (.sl 3 (cL p119 4 10)),.t (.str (cS p119 4 11))]])) none
noncomputable def Zz (n:Nat) (again113:(List AV×Heap)→Option (List Tree)) (y116:List Tree) (p117:List AV×Heap):Option (List Tree):=again113 ([.t (.str (gS y116 0))],(As p117 [.box [.t (tI (cI p117 4 0)),.t (tI (cI p117 4 1)),.t (tI (cI p117 4 2)),.t (tI (cI p117 4 3)),.t (tI (cI p117 4 4)),.t (tI (cI p117 4 5)),.t (tI (cI p117 4 6)),.t (tI (cI p117 4 7)),.t (tI (cI p117 4 8)),.t (tI (cI p117 4 9)),.t (.sl 3 (cL p117 4 10)),.t (.str (cS p117 4 11))]]))
noncomputable def Zy (n:Nat)  (p112:List AV×Heap):Option (List Tree):=cnd (cB p112 2 2=true) none (cnd ((0:Int)≤cI p112 2 1∧cI p112 2 1≤((ByteArray.size (cS p112 2 0):Nat):Int)) (cnd (((ByteArray.extract (cS p112 2 0) (wT (cI p112 2 1)) (ByteArray.size (cS p112 2 0))) != (ByteArray.mk #[]))=true) none (Option.bind (AA C n 16 [tI (cI p112 4 0),tI (cI p112 4 1),tI (cI p112 4 2),tI (cI p112 4 3),tI (cI p112 4 4),tI (cI p112 4 5),tI (cI p112 4 6),tI (cI p112 4 7),tI (cI p112 4 8),tI (cI p112 4 9),.sl 3 (cL p112 4 10),.str (vS p112 0)]) fun y125=>cnd (length y125=1) (cnd (okI y125 0) (cnd (((gI y125 0) != 0)=true) none (some [tI (cI p112 4 0),tI (cI p112 4 1),tI (cI p112 4 2),tI (cI p112 4 3),tI (cI p112 4 4),tI (cI p112 4 5),tI (cI p112 4 6),tI (cI p112 4 7),tI (cI p112 4 8),tI (cI p112 4 9),.sl 3 (cL p112 4 10),.str (vS p112 0),tI 0])) none) none)) none)
noncomputable def Zx (n:Nat) (y107:List Tree) (p108:List AV×Heap):Option (List Tree):=join (fun (p112:List AV×Heap)=>Zy n p112) fun (again113:_→Option (List Tree))=>cnd ((0:Int)≤cI p108 2 1∧cI p108 2 1≤((ByteArray.size (cS p108 2 0):Nat):Int)) (Option.bind (AA C n 67 [.str (ByteArray.extract (cS p108 2 0) (wT (cI p108 2 1)) (ByteArray.size (cS p108 2 0)))]) fun y116=>cnd (length y116=3) (cnd (okS y116 0) (cnd (okI y116 1) (cnd (okI y116 2) (join (fun (p117:List AV×Heap)=>Zz n again113 y116 p117) fun (again118:_→Option (List Tree))=>join (fun (p119:List AV×Heap)=>Z0 n again118 y116 p119) fun (again120:_→Option (List Tree))=>cnd (cB p108 2 2=true) (again120 ([],[Ad p108,Ag p108,.box [.t (.str (cS p108 2 0)),.t (tI (cI p108 2 1)),.t (.bool true)],Af p108,.box [.t (tI (cI p108 4 0)),.t (tI (cI p108 4 1)),.t (tI (cI p108 4 2)),.t (tI (cI p108 4 3)),.t (tI (cI p108 4 4)),.t (tI (cI p108 4 5)),.t (tI (cI p108 4 6)),.t (tI (cI p108 4 7)),.t (tI (cI p108 4 8)),.t (tI (cI p108 4 9)),.t (.sl 3 (gL y107 0)),.t (.str (cS p108 4 11))]])) (again120 ([],[Ad p108,Ag p108,.box [.t (.str (cS p108 2 0)),.t (tI (cI p108 2 1)),.t (.bool ((gI y116 2) != 0))],Af p108,.box [.t (tI (cI p108 4 0)),.t (tI (cI p108 4 1)),.t (tI (cI p108 4 2)),.t (tI (cI p108 4 3)),.t (tI (cI p108 4 4)),.t (tI (cI p108 4 5)),.t (tI (cI p108 4 6)),.t (tI (cI p108 4 7)),.t (tI (cI p108 4 8)),.t (tI (cI p108 4 9)),.t (.sl 3 (gL y107 0)),.t (.str (cS p108 4 11))]]))) none) none) none) none) none
noncomputable def Oz (n:Nat)  (p13:List AV×Heap) (again14:(List AV×Heap)→Option (List Tree)):Option (List Tree):=cnd (decide (vI p13 0<10)=true) (cnd ((0:Int)≤vI p13 0∧vI p13 0<10) (cnd (vI p13 0=((9:Nat):Int)) (join (fun (p15:List AV×Heap)=>J11_3 n again14 p13 p15) fun (again16:_→Option (List Tree))=>cnd ((0:Int)≤cI p13 2 1∧cI p13 2 1≤((ByteArray.size (cS p13 2 0):Nat):Int)) (Option.bind (AA C n 66 [.str (ByteArray.extract (cS p13 2 0) (wT (cI p13 2 1)) (ByteArray.size (cS p13 2 0)))]) fun y19=>cnd (length y19=3) (cnd (okI y19 0) (cnd (okI y19 1) (cnd (okI y19 2) (join (fun (p20:List AV×Heap)=>J11_2 n again16 y19 p20) fun (again21:_→Option (List Tree))=>join (fun (p22:List AV×Heap)=>J11_1 n again21 y19 p22) fun (again23:_→Option (List Tree))=>cnd (cB p13 2 2=true) (again23 ([],(Ar p13 []))) (again23 ([],[Ad p13,Ag p13,.box [.t (.str (cS p13 2 0)),.t (tI (cI p13 2 1)),.t (.bool ((gI y19 2) != 0))],Af p13,Ai p13]))) none) none) none) none) none) (cnd (vI p13 0=((8:Nat):Int)) (join (fun (p24:List AV×Heap)=>J11_6 n again14 p13 p24) fun (again25:_→Option (List Tree))=>cnd ((0:Int)≤cI p13 2 1∧cI p13 2 1≤((ByteArray.size (cS p13 2 0):Nat):Int)) (Option.bind (AA C n 66 [.str (ByteArray.extract (cS p13 2 0) (wT (cI p13 2 1)) (ByteArray.size (cS p13 2 0)))]) fun y28=>cnd (length y28=3) (cnd (okI y28 0) (cnd (okI y28 1) (cnd (okI y28 2) (join (fun (p29:List AV×Heap)=>J11_5 n again25 y28 p29) fun (again30:_→Option (List Tree))=>join (fun (p31:List AV×Heap)=>J11_4 n again30 y28 p31) fun (again32:_→Option (List Tree))=>cnd (cB p13 2 2=true) (again32 ([],(Ar p13 []))) (again32 ([],[Ad p13,Ag p13,.box [.t (.str (cS p13 2 0)),.t (tI (cI p13 2 1)),.t (.bool ((gI y28 2) != 0))],Af p13,Ai p13]))) none) none) none) none) none) (cnd (vI p13 0=((7:Nat):Int)) (join (fun (p33:List AV×Heap)=>J11_9 n again14 p13 p33) fun (again34:_→Option (List Tree))=>cnd ((0:Int)≤cI p13 2 1∧cI p13 2 1≤((ByteArray.size (cS p13 2 0):Nat):Int)) (Option.bind (AA C n 66 [.str (ByteArray.extract (cS p13 2 0) (wT (cI p13 2 1)) (ByteArray.size (cS p13 2 0)))]) fun y37=>cnd (length y37=3) (cnd (okI y37 0) (cnd (okI y37 1) (cnd (okI y37 2) (join (fun (p38:List AV×Heap)=>J11_8 n again34 y37 p38) fun (again39:_→Option (List Tree))=>join (fun (p40:List AV×Heap)=>J11_7 n again39 y37 p40) fun (again41:_→Option (List Tree))=>cnd (cB p13 2 2=true) (again41 ([],(Ar p13 []))) (again41 ([],[Ad p13,Ag p13,.box [.t (.str (cS p13 2 0)),.t (tI (cI p13 2 1)),.t (.bool ((gI y37 2) != 0))],Af p13,Ai p13]))) none) none) none) none) none) (cnd (vI p13 0=((6:Nat):Int)) (join (fun (p42:List AV×Heap)=>aN n again14 p13 p42) fun (again43:_→Option (List Tree))=>cnd ((0:Int)≤cI p13 2 1∧cI p13 2 1≤((ByteArray.size (cS p13 2 0):Nat):Int)) (Option.bind (AA C n 66 [.str (ByteArray.extract (cS p13 2 0) (wT (cI p13 2 1)) (ByteArray.size (cS p13 2 0)))]) fun y46=>cnd (length y46=3) (cnd (okI y46 0) (cnd (okI y46 1) (cnd (okI y46 2) (join (fun (p47:List AV×Heap)=>aO n again43 y46 p47) fun (again48:_→Option (List Tree))=>join (fun (p49:List AV×Heap)=>aP n again48 y46 p49) fun (again50:_→Option (List Tree))=>cnd (cB p13 2 2=true) (again50 ([],(Ar p13 []))) (again50 ([],[Ad p13,Ag p13,.box [.t (.str (cS p13 2 0)),.t (tI (cI p13 2 1)),.t (.bool ((gI y46 2) != 0))],Af p13,Ai p13]))) none) none) none) none) none) (cnd (vI p13 0=((5:Nat):Int)) (join (fun (p51:List AV×Heap)=>aJ n again14 p13 p51) fun (again52:_→Option (List Tree))=>cnd ((0:Int)≤cI p13 2 1∧cI p13 2 1≤((ByteArray.size (cS p13 2 0):Nat):Int)) (Option.bind (AA C n 66 [.str (ByteArray.extract (cS p13 2 0) (wT (cI p13 2 1)) (ByteArray.size (cS p13 2 0)))]) fun y55=>cnd (length y55=3) (cnd (okI y55 0) (cnd (okI y55 1) (cnd (okI y55 2) (join (fun (p56:List AV×Heap)=>aK n again52 y55 p56) fun (again57:_→Option (List Tree))=>join (fun (p58:List AV×Heap)=>aM n again57 y55 p58) fun (again59:_→Option (List Tree))=>cnd (cB p13 2 2=true) (again59 ([],(Ar p13 []))) (again59 ([],[Ad p13,Ag p13,.box [.t (.str (cS p13 2 0)),.t (tI (cI p13 2 1)),.t (.bool ((gI y55 2) != 0))],Af p13,Ai p13]))) none) none) none) none) none) (cnd (vI p13 0=((4:Nat):Int)) (join (fun (p60:List AV×Heap)=>aF n again14 p13 p60) fun (again61:_→Option (List Tree))=>cnd ((0:Int)≤cI p13 2 1∧cI p13 2 1≤((ByteArray.size (cS p13 2 0):Nat):Int)) (Option.bind (AA C n 66 [.str (ByteArray.extract (cS p13 2 0) (wT (cI p13 2 1)) (ByteArray.size (cS p13 2 0)))]) fun y64=>cnd (length y64=3) (cnd (okI y64 0) (cnd (okI y64 1) (cnd (okI y64 2) (join (fun (p65:List AV×Heap)=>aG n again61 y64 p65) fun (again66:_→Option (List Tree))=>join (fun (p67:List AV×Heap)=>aH n again66 y64 p67) fun (again68:_→Option (List Tree))=>cnd (cB p13 2 2=true) (again68 ([],(Ar p13 []))) (again68 ([],[Ad p13,Ag p13,.box [.t (.str (cS p13 2 0)),.t (tI (cI p13 2 1)),.t (.bool ((gI y64 2) != 0))],Af p13,Ai p13]))) none) none) none) none) none) (cnd (vI p13 0=((3:Nat):Int)) (join (fun (p69:List AV×Heap)=>aC n again14 p13 p69) fun (again70:_→Option (List Tree))=>cnd ((0:Int)≤cI p13 2 1∧cI p13 2 1≤((ByteArray.size (cS p13 2 0):Nat):Int)) (Option.bind (AA C n 66 [.str (ByteArray.extract (cS p13 2 0) (wT (cI p13 2 1)) (ByteArray.size (cS p13 2 0)))]) fun y73=>cnd (length y73=3) (cnd (okI y73 0) (cnd (okI y73 1) (cnd (okI y73 2) (join (fun (p74:List AV×Heap)=>aD n again70 y73 p74) fun (again75:_→Option (List Tree))=>join (fun (p76:List AV×Heap)=>aE n again75 y73 p76) fun (again77:_→Option (List Tree))=>cnd (cB p13 2 2=true) (again77 ([],(Ar p13 []))) (again77 ([],[Ad p13,Ag p13,.box [.t (.str (cS p13 2 0)),.t (tI (cI p13 2 1)),.t (.bool ((gI y73 2) != 0))],Af p13,Ai p13]))) none) none) none) none) none) (cnd (vI p13 0=((2:Nat):Int)) (join (fun (p78:List AV×Heap)=>Z8 n again14 p13 p78) fun (again79:_→Option (List Tree))=>cnd ((0:Int)≤cI p13 2 1∧cI p13 2 1≤((ByteArray.size (cS p13 2 0):Nat):Int)) (Option.bind (AA C n 66 [.str (ByteArray.extract (cS p13 2 0) (wT (cI p13 2 1)) (ByteArray.size (cS p13 2 0)))]) fun y82=>cnd (length y82=3) (cnd (okI y82 0) (cnd (okI y82 1) (cnd (okI y82 2) (join (fun (p83:List AV×Heap)=>Z9 n again79 y82 p83) fun (again84:_→Option (List Tree))=>join (fun (p85:List AV×Heap)=>aA n again84 y82 p85) fun (again86:_→Option (List Tree))=>cnd (cB p13 2 2=true) (again86 ([],(Ar p13 []))) (again86 ([],[Ad p13,Ag p13,.box [.t (.str (cS p13 2 0)),.t (tI (cI p13 2 1)),.t (.bool ((gI y82 2) != 0))],Af p13,Ai p13]))) none) none) none) none) none) (cnd (vI p13 0=((1:Nat):Int)) (join (fun (p87:List AV×Heap)=>Z5 n again14 p13 p87) fun (again88:_→Option (List Tree))=>cnd ((0:Int)≤cI p13 2 1∧cI p13 2 1≤((ByteArray.size (cS p13 2 0):Nat):Int)) (Option.bind (AA C n 66 [.str (ByteArray.extract (cS p13 2 0) (wT (cI p13 2 1)) (ByteArray.size (cS p13 2 0)))]) fun y91=>cnd (length y91=3) (cnd (okI y91 0) (cnd (okI y91 1) (cnd (okI y91 2) (join (fun (p92:List AV×Heap)=>Z6 n again88 y91 p92) fun (again93:_→Option (List Tree))=>join (fun (p94:List AV×Heap)=>Z7 n again93 y91 p94) fun (again95:_→Option (List Tree))=>cnd (cB p13 2 2=true) (again95 ([],(Ar p13 []))) (again95 ([],[Ad p13,Ag p13,.box [.t (.str (cS p13 2 0)),.t (tI (cI p13 2 1)),.t (.bool ((gI y91 2) != 0))],Af p13,Ai p13]))) none) none) none) none) none) (cnd (vI p13 0=((0:Nat):Int)) (join (fun (p96:List AV×Heap)=>Z2 n again14 p13 p96) fun (again97:_→Option (List Tree))=>cnd ((0:Int)≤cI p13 2 1∧cI p13 2 1≤((ByteArray.size (cS p13 2 0):Nat):Int)) (Option.bind (AA C n 66 [.str (ByteArray.extract (cS p13 2 0) (wT (cI p13 2 1)) (ByteArray.size (cS p13 2 0)))]) fun y100=>cnd (length y100=3) (cnd (okI y100 0) (cnd (okI y100 1) (cnd (okI y100 2) (join (fun (p101:List AV×Heap)=>Z3 n again97 y100 p101) fun (again102:_→Option (List Tree))=>join (fun (p103:List AV×Heap)=>Z4 n again102 y100 p103) fun (again104:_→Option (List Tree))=>cnd (cB p13 2 2=true) (again104 ([],(Ar p13 []))) (again104 ([],[Ad p13,Ag p13,.box [.t (.str (cS p13 2 0)),.t (tI (cI p13 2 1)),.t (.bool ((gI y100 2) != 0))],Af p13,Ai p13]))) none) none) none) none) none) none)))))))))) none) (cnd ((0:Int)≤cI p13 2 1∧cI p13 2 1≤((ByteArray.size (cS p13 2 0):Nat):Int)) (Option.bind (AA C n 69 [.str (ByteArray.extract (cS p13 2 0) (wT (cI p13 2 1)) (ByteArray.size (cS p13 2 0)))]) fun y107=>cnd (length y107=3) (cnd (okL 3 y107 0) (cnd (okI y107 1) (cnd (okI y107 2) (join (fun (p108:List AV×Heap)=>Zx n y107 p108) fun (again109:_→Option (List Tree))=>join (fun (p110:List AV×Heap)=>Z1 n again109 y107 p110) fun (again111:_→Option (List Tree))=>cnd (cB p13 2 2=true) (again111 ([],(Ar p13 []))) (again111 ([],[Ad p13,Ag p13,.box [.t (.str (cS p13 2 0)),.t (tI (cI p13 2 1)),.t (.bool ((gI y107 2) != 0))],Af p13,Ai p13]))) none) none) none) none) none)
noncomputable def Zw (n:Nat)  (p2:List AV×Heap):Option (List Tree):=cnd (vB p2 0=true) none (AH (fun (p13:List AV×Heap) (again14:_→Option (List Tree))=>Oz n p13 again14) n ([.t (tI 0)],(Aq p2 [])))
theorem e11 (n:Nat) (a0:ByteArray):AA C (n+1) 11 [.str a0]=Option.bind (AA C n 28 [.str a0]) fun y1=>cnd (length y1=3) (cnd (okS y1 0) (cnd (okI y1 1) (cnd (okI y1 2) (cnd (((gI y1 2) != 0)=true) none (join (fun (p2:List AV×Heap)=>Zw n p2) fun (again3:_→Option (List Tree))=>cnd ((0:Int)≤0∧(0:Int)≤((ByteArray.size (gS y1 0):Nat):Int)) (Option.bind (AA C n 67 [.str (ByteArray.extract (gS y1 0) 0 (ByteArray.size (gS y1 0)))]) fun y8=>cnd (length y8=3) (cnd (okS y8 0) (cnd (okI y8 1) (cnd (okI y8 2) (cnd ((!((gI y8 2) != 0))=true) (cnd (((gS y8 0) != (ByteArray.mk #[77,66,49]))=true) (again3 ([.t (.bool true)],[.row false 0 3 [],.box [.t (tI 0),.t (tI 0),.t (tI 0),.t (tI 0),.t (tI 0),.t (tI 0),.t (tI 0),.t (tI 0),.t (tI 0),.t (tI 0),.sref 0 0 0 0,.t (.str (ByteArray.mk #[]))],.box [.t (.str (gS y1 0)),.t (tI (w64 ((0:Int)+(gI y8 1)))),.t (.bool ((gI y8 2) != 0))],.row false 0 3 [],.box [.t (tI 0),.t (tI 0),.t (tI 0),.t (tI 0),.t (tI 0),.t (tI 0),.t (tI 0),.t (tI 0),.t (tI 0),.t (tI 0),.sref 3 0 0 0,.t (.str (ByteArray.mk #[]))]])) (again3 ([.t (.bool ((gI y1 1) != ((ByteArray.size a0:Nat):Int)))],[.row false 0 3 [],.box [.t (tI 0),.t (tI 0),.t (tI 0),.t (tI 0),.t (tI 0),.t (tI 0),.t (tI 0),.t (tI 0),.t (tI 0),.t (tI 0),.sref 0 0 0 0,.t (.str (ByteArray.mk #[]))],.box [.t (.str (gS y1 0)),.t (tI (w64 ((0:Int)+(gI y8 1)))),.t (.bool ((gI y8 2) != 0))],.row false 0 3 [],.box [.t (tI 0),.t (tI 0),.t (tI 0),.t (tI 0),.t (tI 0),.t (tI 0),.t (tI 0),.t (tI 0),.t (tI 0),.t (tI 0),.sref 3 0 0 0,.t (.str (ByteArray.mk #[]))]]))) none) none) none) none) none) none)) none) none) none) none:=by kernel_rfl
theorem e12 (n:Nat) (a0:Int) (a1:Int) (a2:Int) (a3:Int) (a4:Int) (a5:Int) (a6:Int) (a7:Int) (a8:Int) (a9:Int) (a10:List (List Tree)) (a11:ByteArray) (a12:Int) (a13:Int) (a14:Int) (a15:Int) (a16:Int) (a17:Int) (a18:Int) (a19:Int) (a20:Int) (a21:Int) (a22:List (List Tree)) (a23:ByteArray):AA C (n+1) 12 [tI a0,tI a1,tI a2,tI a3,tI a4,tI a5,tI a6,tI a7,tI a8,tI a9,.sl 3 a10,.str a11,tI a12,tI a13,tI a14,tI a15,tI a16,tI a17,tI a18,tI a19,tI a20,tI a21,.sl 3 a22,.str a23]=cnd ((((((a0==a12)&&(a1==a13))&&(a2==a14))&&(a3==a15))&&(a4==a16))=true) (cnd (((a5==a17)&&(a6==a18))=true) (cnd ((a7==a19)=true) (cnd ((a8==a20)=true) (cnd ((a9==a21)=true) (Option.bind (AA C n 33 [.sl 3 a10,.sl 3 a22]) fun y26=>cnd (length y26=1) (cnd (okB y26 0) (cnd (gB y26 0=true) (some [.bool (a11==a23)]) (some [.bool false])) none) none) (some [.bool false])) (some [.bool false])) (some [.bool false])) (some [.bool false])) (some [.bool false]):=by kernel_rfl
noncomputable def Me (n:Nat) (a8:Int) (a0:Int) (a1:Int) (a2:Int) (a3:Int) (a4:Int) (a5:Int) (a6:Int) (a7:Int) (a9:Int) (a10:List (List Tree)) (a11:ByteArray) (p14:List AV×Heap):Option (List Tree):=cnd (vB p14 0=true) (some [tI 2]) (Option.bind (AA C n 48 [tI a8,tI 0,tI 2]) fun y16=>cnd (length y16=1) (cnd (okB y16 0) (cnd ((!(gB y16 0))=true) (some [tI 8]) (Option.bind (AA C n 49 [tI a0,tI a1,tI a2,tI a3,tI a4,tI a5,tI a6,tI a7,tI a8,tI a9,.sl 3 a10,.str a11]) fun y17=>cnd (length y17=1) (cnd (okI y17 0) (cnd (((gI y17 0) != 0)=true) (some [tI (gI y17 0)]) (Option.bind (AA C n 50 [.sl 3 a10]) fun y18=>cnd (length y18=1) (cnd (okI y18 0) (cnd (((gI y18 0) != 0)=true) (some [tI (gI y18 0)]) (Option.bind (AA C n 51 [tI a0,tI a1,tI a2,tI a3,tI a4,tI a5,tI a6,tI a7,tI a8,tI a9,.sl 3 a10,.str a11]) fun y19=>cnd (length y19=1) (cnd (okI y19 0) (some [tI (gI y19 0)]) none) none)) none) none)) none) none)) none) none)
theorem e16 (n:Nat) (a0:Int) (a1:Int) (a2:Int) (a3:Int) (a4:Int) (a5:Int) (a6:Int) (a7:Int) (a8:Int) (a9:Int) (a10:List (List Tree)) (a11:ByteArray):AA C (n+1) 16 [tI a0,tI a1,tI a2,tI a3,tI a4,tI a5,tI a6,tI a7,tI a8,tI a9,.sl 3 a10,.str a11]=Option.bind (AA C n 46 [tI a0,tI a1,tI a2,tI a3,tI a4]) fun y12=>cnd (length y12=1) (cnd (okI y12 0) (cnd (((gI y12 0) != 0)=true) (some [tI (gI y12 0)]) (Option.bind (AA C n 47 [tI a5,tI a6]) fun y13=>cnd (length y13=1) (cnd (okI y13 0) (cnd (((gI y13 0) != 0)=true) (some [tI (gI y13 0)]) (join (fun (p14:List AV×Heap)=>Me n a8 a0 a1 a2 a3 a4 a5 a6 a7 a9 a10 a11 p14) fun (again15:_→Option (List Tree))=>cnd (decide (a7<1)=true) (again15 ([.t (.bool true)],[])) (again15 ([.t (.bool (decide (a7>w64 ((1099511627776:Int)-a1))))],[])))) none) none)) none) none:=by kernel_rfl
theorem e17 (n:Nat) (a0:ByteArray):AA C (n+1) 17 [.str a0]=cnd (decide (((ByteArray.size a0:Nat):Int)>65536)=true) (some [.str (ByteArray.mk #[]),tI 4]) (Option.bind (AA C n 19 [tI ((ByteArray.size a0:Nat):Int)]) fun y1=>cnd (length y1=2) (cnd (okS y1 0) (cnd (okI y1 1) (cnd ((ByteArray.size (gS y1 0))+(ByteArray.size a0)≤9223372036854775807) (some [.str ((gS y1 0)++a0),tI 0]) none) none) none) none):=by kernel_rfl
noncomputable def J19_1 (n:Nat) (again6:(List AV×Heap)→Option (List Tree)) (p5:List AV×Heap) (p7:List AV×Heap):Option (List Tree):=cnd (AE p7 0=AK p7 1 0∧(1=1∨1=0)∧(AR p7 1 0)+(AJ p7 1 0)≤length (oEs p7 0)∧(AJ p7 1 0)+1≤1073741824) (again6 ([.t (tI (w64 ((vI p5 0)-(7:Int))))],[.row false ((AK p7 1 0)+1) 1 ((take (AJ p7 1 0) (drop (AR p7 1 0) (oEs p7 0)))++[[.int IntKind.u8 (vI p7 0)]]),.box [.sref 0 ((AK p7 1 0)+1) 0 ((AJ p7 1 0)+1)],.box []])) none
noncomputable def Tl (n:Nat) (y2:List Tree) (p5:List AV×Heap) (again6:(List AV×Heap)→Option (List Tree)):Option (List Tree):=cnd (decide (vI p5 0≥(0:Int))=true) (cnd (vI p5 0<0) none (join (fun (p7:List AV×Heap)=>J19_1 n again6 p5 p7) fun (again8:_→Option (List Tree))=>cnd ((!((vI p5 0)==0))=true) (again8 ([.t (.int IntKind.u8 (IntKind.wrap IntKind.u8 ((Fv IntKind.u8 (IntKind.wrap IntKind.u8 (EM IntKind.i64 (gI y2 0) (vI p5 0))) (127:Int))+128)))],[.row false (AE p5 0) 1 (oEs p5 0),.box [.sref 0 (AK p5 1 0) (AR p5 1 0) (AJ p5 1 0)],.box []])) (again8 ([.t (.int IntKind.u8 (Fv IntKind.u8 (IntKind.wrap IntKind.u8 (EM IntKind.i64 (gI y2 0) (vI p5 0))) (127:Int)))],[.row false (AE p5 0) 1 (oEs p5 0),.box [.sref 0 (AK p5 1 0) (AR p5 1 0) (AJ p5 1 0)],.box []])))) (cnd (AE p5 0=AK p5 1 0∧(1=1∨1=0)) (cnd (Fo (take (AJ p5 1 0) (drop (AR p5 1 0) (oEs p5 0)))=true) (some [.str (bytesOf (take (AJ p5 1 0) (drop (AR p5 1 0) (oEs p5 0)))),tI 0]) none) none)
noncomputable def Tk (n:Nat) (y2:List Tree) (p3:List AV×Heap) (again4:(List AV×Heap)→Option (List Tree)):Option (List Tree):=cnd (vI p3 0<0) none (cnd (decide (EM IntKind.i64 (gI y2 0) (vI p3 0)≥(128:Int))=true) (again4 ([.t (tI (w64 ((vI p3 0)+7)))],[.row false (AE p3 0) 1 (oEs p3 0),.box [.sref 0 (AK p3 1 0) (AR p3 1 0) (AJ p3 1 0)],.box []])) (AH (fun (p5:List AV×Heap) (again6:_→Option (List Tree))=>Tl n y2 p5 again6) n ([.t (tI (vI p3 0))],[.row false (AE p3 0) 1 (oEs p3 0),.box [.sref 0 (AK p3 1 0) (AR p3 1 0) (AJ p3 1 0)],.box []])))
theorem e19 (n:Nat) (a0:Int):AA C (n+1) 19 [tI a0]=Option.bind (AA C n 52 [tI a0]) fun y1=>cnd (length y1=1) (cnd (okB y1 0) (cnd ((!(gB y1 0))=true) (some [.str (ByteArray.mk #[]),tI 2]) (Option.bind (AA C n 54 [tI a0]) fun y2=>cnd (length y2=1) (cnd (okI y2 0) (AH (fun (p3:List AV×Heap) (again4:_→Option (List Tree))=>Tk n y2 p3 again4) n ([.t (tI 0)],[.row false 0 1 [],.box [.sref 0 0 0 0],.box []])) none) none)) none) none:=by kernel_rfl
noncomputable def Tj (n:Nat) (a0:List (List Tree)) (p2:List AV×Heap) (again3:(List AV×Heap)→Option (List Tree)):Option (List Tree):=cnd (decide (vI p2 1<((length a0:Nat):Int))=true) (cnd (3=3∧(0:Int)≤vI p2 1) (Option.bind a0[wT (vI p2 1)]? fun y4=>cnd (okI y4 0) (cnd (okI y4 1) (cnd (okS y4 2) (Option.bind (AA C n 55 [tI (gI y4 0),tI (gI y4 1),.str (gS y4 2)]) fun y5=>cnd (length y5=2) (cnd (okS y5 0) (cnd (okI y5 1) (cnd (((gI y5 1) != 0)=true) (some [.str (ByteArray.mk #[]),tI (gI y5 1)]) (cnd (decide (vI p2 1>0)=true) (cnd (3=3∧(0:Int)≤w64 ((vI p2 1)-(1:Int))) (Option.bind a0[wT (w64 ((vI p2 1)-(1:Int)))]? fun y8=>cnd (okI y8 0) (cnd (decide (gI y4 0≤gI y8 0)=true) (some [.str (ByteArray.mk #[]),tI 9]) (cnd ((ByteArray.size (vS p2 0))+(ByteArray.size (gS y5 0))≤9223372036854775807) (again3 ([.t (.str ((vS p2 0)++(gS y5 0))),.t (tI (w64 ((vI p2 1)+1)))],[])) none)) none) none) (cnd ((ByteArray.size (vS p2 0))+(ByteArray.size (gS y5 0))≤9223372036854775807) (again3 ([.t (.str ((vS p2 0)++(gS y5 0))),.t (tI (w64 ((vI p2 1)+1)))],[])) none))) none) none) none) none) none) none) none) (some [.str (vS p2 0),tI 0])
theorem e20 (n:Nat) (a0:List (List Tree)):AA C (n+1) 20 [.sl 3 a0]=cnd (decide (((length a0:Nat):Int)>8)=true) (some [.str (ByteArray.mk #[]),tI 4]) (Option.bind (AA C n 19 [tI ((length a0:Nat):Int)]) fun y1=>cnd (length y1=2) (cnd (okS y1 0) (cnd (okI y1 1) (AH (fun (p2:List AV×Heap) (again3:_→Option (List Tree))=>Tj n a0 p2 again3) n ([.t (.str (gS y1 0)),.t (tI 0)],[])) none) none) none):=by kernel_rfl
theorem e21 (n:Nat) (a0:ByteArray):AA C (n+1) 21 [.str a0]=Option.bind (AA C n 17 [.str a0]) fun y1=>cnd (length y1=2) (cnd (okS y1 0) (cnd (okI y1 1) (cnd (((gI y1 1) != 0)=true) (some [.str (ByteArray.mk #[]),tI (gI y1 1)]) (Option.bind (AA C n 56 [.str (gS y1 0)]) fun y2=>cnd (length y2=1) (cnd (okS y2 0) (cnd ((ByteArray.size (gS y1 0))+(ByteArray.size (gS y2 0))≤9223372036854775807) (some [.str ((gS y1 0)++(gS y2 0)),tI 0]) none) none) none)) none) none) none:=by kernel_rfl
noncomputable def J28_1 (n:Nat) (a0:ByteArray) (y1:List Tree) (p2:List AV×Heap):Option (List Tree):=cnd (vB p2 0=true) (some [.str (ByteArray.mk #[]),tI 0,tI 2]) (cnd (decide (((ByteArray.size a0:Nat):Int)<w64 ((w64 ((gI y1 1)+(gI y1 0)))+4))=true) (some [.str (ByteArray.mk #[]),tI 0,tI 12]) (cnd ((0:Int)≤w64 ((gI y1 1)+(gI y1 0))∧w64 ((gI y1 1)+(gI y1 0))≤((ByteArray.size a0:Nat):Int)) (Option.bind (AA C n 56 [.str (ByteArray.extract a0 0 (wT (w64 ((gI y1 1)+(gI y1 0)))))]) fun y4=>cnd (length y4=1) (cnd (okS y4 0) (cnd ((0:Int)≤w64 ((w64 ((gI y1 1)+(gI y1 0)))+4)∧w64 ((w64 ((gI y1 1)+(gI y1 0)))+4)≤((ByteArray.size a0:Nat):Int)) (cnd ((0:Int)≤w64 ((gI y1 1)+(gI y1 0))∧w64 ((gI y1 1)+(gI y1 0))≤((wT (w64 ((w64 ((gI y1 1)+(gI y1 0)))+4)):Nat):Int)) (cnd (((gS y4 0) != (ByteArray.extract a0 (wT (w64 ((gI y1 1)+(gI y1 0)))) (wT (w64 ((w64 ((gI y1 1)+(gI y1 0)))+4)))))=true) (some [.str (ByteArray.mk #[]),tI 0,tI 13]) (cnd ((0:Int)≤w64 ((gI y1 1)+(gI y1 0))∧w64 ((gI y1 1)+(gI y1 0))≤((ByteArray.size a0:Nat):Int)) (cnd ((0:Int)≤gI y1 1∧gI y1 1≤((wT (w64 ((gI y1 1)+(gI y1 0))):Nat):Int)) (some [.str (ByteArray.extract a0 (wT (gI y1 1)) (wT (w64 ((gI y1 1)+(gI y1 0))))),tI (w64 ((w64 ((gI y1 1)+(gI y1 0)))+4)),tI 0]) none) none)) none) none) none) none) none))
theorem e28 (n:Nat) (a0:ByteArray):AA C (n+1) 28 [.str a0]=Option.bind (AA C n 66 [.str a0]) fun y1=>cnd (length y1=3) (cnd (okI y1 0) (cnd (okI y1 1) (cnd (okI y1 2) (cnd (((gI y1 2) != 0)=true) (some [.str (ByteArray.mk #[]),tI 0,tI (gI y1 2)]) (join (fun (p2:List AV×Heap)=>J28_1 n a0 y1 p2) fun (again3:_→Option (List Tree))=>cnd (decide (gI y1 0<0)=true) (again3 ([.t (.bool true)],[])) (again3 ([.t (.bool (decide (gI y1 0>65536)))],[])))) none) none) none) none:=by kernel_rfl
noncomputable def WL (n:Nat) (a0:List (List Tree)) (a1:List (List Tree)) (p2:List AV×Heap) (again3:(List AV×Heap)→Option (List Tree)):Option (List Tree):=cnd (decide (vI p2 0<((length a0:Nat):Int))=true) (cnd (3=3∧(0:Int)≤vI p2 0) (Option.bind a0[wT (vI p2 0)]? fun y4=>cnd (okI y4 0) (cnd (okI y4 1) (cnd (okS y4 2) (cnd (3=3∧(0:Int)≤vI p2 0) (Option.bind a1[wT (vI p2 0)]? fun y5=>cnd (okI y5 0) (cnd (okI y5 1) (cnd (okS y5 2) (cnd ((!((((gI y4 0)==(gI y5 0))&&((gI y4 1)==(gI y5 1)))&&((gS y4 2)==(gS y5 2))))=true) (some [.bool false]) (again3 ([.t (tI (w64 ((vI p2 0)+1)))],[]))) none) none) none) none) none) none) none) none) (some [.bool true])
theorem e33 (n:Nat) (a0:List (List Tree)) (a1:List (List Tree)):AA C (n+1) 33 [.sl 3 a0,.sl 3 a1]=cnd ((((length a0:Nat):Int) != ((length a1:Nat):Int))=true) (some [.bool false]) (AH (fun (p2:List AV×Heap) (again3:_→Option (List Tree))=>WL n a0 a1 p2 again3) n ([.t (tI 0)],[])):=by kernel_rfl
noncomputable def Tp (n:Nat) (a4:Int) (a3:Int) (p16:List AV×Heap):Option (List Tree):=cnd (vB p16 0=true) (some [tI 0]) (Option.bind (AA C n 48 [tI a4,tI 1,tI 4096]) fun y20=>cnd (length y20=1) (cnd (okB y20 0) (cnd ((!(gB y20 0))=true) (some [tI 2]) (Option.bind (AA C n 48 [tI a3,tI 0,tI (w64 (a4-(1:Int)))]) fun y21=>cnd (length y21=1) (cnd (okB y21 0) (cnd ((!(gB y21 0))=true) (some [tI 2]) (some [tI 0])) none) none)) none) none)
theorem e46 (n:Nat) (a0:Int) (a1:Int) (a2:Int) (a3:Int) (a4:Int):AA C (n+1) 46 [tI a0,tI a1,tI a2,tI a3,tI a4]=Option.bind (AA C n 48 [tI a0,tI 0,tI 15]) fun y7=>cnd (length y7=1) (cnd (okB y7 0) (cnd ((!(gB y7 0))=true) (some [tI 2]) (Option.bind (AA C n 48 [tI a1,tI 0,tI 1099511627776]) fun y8=>cnd (length y8=1) (cnd (okB y8 0) (cnd ((!(gB y8 0))=true) (some [tI 2]) (Option.bind (AA C n 48 [tI a2,tI 0,tI 1099511627776]) fun y9=>cnd (length y9=1) (cnd (okB y9 0) (cnd ((!(gB y9 0))=true) (some [tI 2]) (join (fun (p16:List AV×Heap)=>Tp n a4 a3 p16) fun (again17:_→Option (List Tree))=>cnd ((a3==0)=true) (again17 ([.t (.bool (a4==0))],[])) (again17 ([.t (.bool false)],[])))) none) none)) none) none)) none) none:=by kernel_rfl
theorem e47 (n:Nat) (a0:Int) (a1:Int):AA C (n+1) 47 [tI a0,tI a1]=cnd ((a0==1)=true) (cnd (decide (a1<0)=true) (some [tI 2]) (cnd (decide (a1≥(16:Int))=true) (some [tI 2]) (some [tI 0]))) (cnd ((a0==2)=true) (cnd (decide (a1<0)=true) (some [tI 2]) (cnd (decide (a1≥(8:Int))=true) (some [tI 2]) (some [tI 0]))) (some [tI 8])):=by kernel_rfl
theorem e48 (n:Nat) (a0:Int) (a1:Int) (a2:Int):AA C (n+1) 48 [tI a0,tI a1,tI a2]=cnd (decide (a0≥a1)=true) (some [.bool (decide (a0≤a2))]) (some [.bool false]):=by kernel_rfl
theorem e49 (n:Nat) (a0:Int) (a1:Int) (a2:Int) (a3:Int) (a4:Int) (a5:Int) (a6:Int) (a7:Int) (a8:Int) (a9:Int) (a10:List (List Tree)) (a11:ByteArray):AA C (n+1) 49 [tI a0,tI a1,tI a2,tI a3,tI a4,tI a5,tI a6,tI a7,tI a8,tI a9,.sl 3 a10,.str a11]=Option.bind (AA C n 48 [tI a9,tI 0,tI 127]) fun y14=>cnd (length y14=1) (cnd (okB y14 0) (cnd ((!(gB y14 0))=true) (some [tI 1]) (cnd (((Fv IntKind.i64 a9 (4:Int)) != 0)=true) (cnd (((Fv IntKind.i64 a9 (64:Int)) != 0)=true) (some [tI 1]) (cnd (decide (a4>0)=true) (cnd (((Fv IntKind.i64 a9 (2:Int)) != 0)=true) (some [tI 1]) (some [tI 0])) (some [tI 0]))) (cnd (decide (a4>0)=true) (cnd (((Fv IntKind.i64 a9 (2:Int)) != 0)=true) (some [tI 1]) (some [tI 0])) (some [tI 0])))) none) none:=by kernel_rfl
noncomputable def Th (n:Nat) (a0:List (List Tree)) (p5:List AV×Heap) (again6:(List AV×Heap)→Option (List Tree)):Option (List Tree):=cnd (decide (vI p5 0<((length a0:Nat):Int))=true) (cnd (3=3∧(0:Int)≤vI p5 0) (Option.bind a0[wT (vI p5 0)]? fun y7=>cnd (okI y7 0) (cnd (3=3∧(0:Int)≤w64 ((vI p5 0)-(1:Int))) (Option.bind a0[wT (w64 ((vI p5 0)-(1:Int)))]? fun y8=>cnd (okI y8 0) (cnd (decide (gI y7 0≤gI y8 0)=true) (some [tI 9]) (again6 ([.t (tI (w64 ((vI p5 0)+1)))],[]))) none) none) none) none) (some [tI 0])
noncomputable def WJ (n:Nat) (a0:List (List Tree)) (p1:List AV×Heap) (again2:(List AV×Heap)→Option (List Tree)):Option (List Tree):=cnd (decide (vI p1 0<((length a0:Nat):Int))=true) (cnd (3=3∧(0:Int)≤vI p1 0) (Option.bind a0[wT (vI p1 0)]? fun y3=>cnd (okI y3 0) (cnd (okI y3 1) (cnd (okS y3 2) (Option.bind (AA C n 101 [tI (gI y3 0),tI (gI y3 1),.str (gS y3 2)]) fun y4=>cnd (length y4=1) (cnd (okI y4 0) (cnd (((gI y4 0) != 0)=true) (some [tI (gI y4 0)]) (again2 ([.t (tI (w64 ((vI p1 0)+1)))],[]))) none) none) none) none) none) none) (AH (fun (p5:List AV×Heap) (again6:_→Option (List Tree))=>Th n a0 p5 again6) n ([.t (tI 1)],[]))
theorem e50 (n:Nat) (a0:List (List Tree)):AA C (n+1) 50 [.sl 3 a0]=cnd (decide (((length a0:Nat):Int)>8)=true) (some [tI 4]) (AH (fun (p1:List AV×Heap) (again2:_→Option (List Tree))=>WJ n a0 p1 again2) n ([.t (tI 0)],[])):=by kernel_rfl
theorem e51 (n:Nat) (a0:Int) (a1:Int) (a2:Int) (a3:Int) (a4:Int) (a5:Int) (a6:Int) (a7:Int) (a8:Int) (a9:Int) (a10:List (List Tree)) (a11:ByteArray):AA C (n+1) 51 [tI a0,tI a1,tI a2,tI a3,tI a4,tI a5,tI a6,tI a7,tI a8,tI a9,.sl 3 a10,.str a11]=cnd (decide (((ByteArray.size a11:Nat):Int)>4096)=true) (some [tI 4]) (cnd (decide (a4>0)=true) (Option.bind (AA C n 48 [tI ((ByteArray.size a11:Nat):Int),tI 1,tI (w64 (a4-a3))]) fun y14=>cnd (length y14=1) (cnd (okB y14 0) (cnd ((!(gB y14 0))=true) (some [tI 10]) (some [tI 0])) none) none) (some [tI 0])):=by kernel_rfl
theorem e52 (n:Nat) (a0:Int):AA C (n+1) 52 [tI a0]=cnd (decide (a0≥(-1152921504606846976:Int))=true) (some [.bool (decide (a0≤1152921504606846976))]) (some [.bool false]):=by kernel_rfl
theorem e54 (n:Nat) (a0:Int):AA C (n+1) 54 [tI a0]=cnd (decide (a0<0)=true) (some [tI (w64 ((w64 ((-2:Int)*a0))-(1:Int)))]) (some [tI (w64 ((2:Int)*a0))]):=by kernel_rfl
theorem e55 (n:Nat) (a0:Int) (a1:Int) (a2:ByteArray):AA C (n+1) 55 [tI a0,tI a1,.str a2]=Option.bind (AA C n 101 [tI a0,tI a1,.str a2]) fun y3=>cnd (length y3=1) (cnd (okI y3 0) (cnd (((gI y3 0) != 0)=true) (some [.str (ByteArray.mk #[]),tI (gI y3 0)]) (Option.bind (AA C n 19 [tI a0]) fun y4=>cnd (length y4=2) (cnd (okS y4 0) (cnd (okI y4 1) (Option.bind (AA C n 19 [tI a1]) fun y5=>cnd (length y5=2) (cnd (okS y5 0) (cnd (okI y5 1) (Option.bind (AA C n 17 [.str a2]) fun y6=>cnd (length y6=2) (cnd (okS y6 0) (cnd (okI y6 1) (cnd ((ByteArray.size (gS y4 0))+(ByteArray.size (gS y5 0))≤9223372036854775807) (cnd ((ByteArray.size ((gS y4 0)++(gS y5 0)))+(ByteArray.size (gS y6 0))≤9223372036854775807) (Option.bind (AA C n 21 [.str (((gS y4 0)++(gS y5 0))++(gS y6 0))]) fun y7=>cnd (length y7=2) (cnd (okS y7 0) (cnd (okI y7 1) (some [.str (gS y7 0),tI (gI y7 1)]) none) none) none) none) none) none) none) none) none) none) none) none) none) none)) none) none:=by kernel_rfl
theorem e56 (n:Nat) (a0:ByteArray):AA C (n+1) 56 [.str a0]=Option.bind (AA C n 103 [.str a0]) fun y1=>cnd (length y1=1) (cnd (okI y1 0) (cnd (Fo [[.int IntKind.u8 (IntKind.wrap IntKind.u8 (gI y1 0))],[.int IntKind.u8 (IntKind.wrap IntKind.u8 (EM IntKind.i64 (gI y1 0) (8:Int)))],[.int IntKind.u8 (IntKind.wrap IntKind.u8 (EM IntKind.i64 (gI y1 0) (16:Int)))],[.int IntKind.u8 (IntKind.wrap IntKind.u8 (EM IntKind.i64 (gI y1 0) (24:Int)))]]=true) (some [.str (bytesOf [[.int IntKind.u8 (IntKind.wrap IntKind.u8 (gI y1 0))],[.int IntKind.u8 (IntKind.wrap IntKind.u8 (EM IntKind.i64 (gI y1 0) (8:Int)))],[.int IntKind.u8 (IntKind.wrap IntKind.u8 (EM IntKind.i64 (gI y1 0) (16:Int)))],[.int IntKind.u8 (IntKind.wrap IntKind.u8 (EM IntKind.i64 (gI y1 0) (24:Int)))]])]) none) none) none:=by kernel_rfl
noncomputable def J66_1 (n:Nat) (again2:(List AV×Heap)→Option (List Tree)) (p5:List AV×Heap):Option (List Tree):=again2 ([.t (tI 0)],[Ac p5])
noncomputable def J66_2 (n:Nat) (again2:(List AV×Heap)→Option (List Tree)) (p11:List AV×Heap):Option (List Tree):=again2 ([.t (tI 0)],[Ac p11])
noncomputable def J66_3 (n:Nat) (again2:(List AV×Heap)→Option (List Tree)) (p15:List AV×Heap):Option (List Tree):=again2 ([.t (tI 0)],[Ac p15])
noncomputable def J66_4 (n:Nat) (again2:(List AV×Heap)→Option (List Tree)) (p24:List AV×Heap):Option (List Tree):=again2 ([.t (tI 0)],[Ac p24])
noncomputable def J66_5 (n:Nat) (again2:(List AV×Heap)→Option (List Tree)) (p19:List AV×Heap) (p3:List AV×Heap) (p21:List AV×Heap):Option (List Tree):=cnd (vB p21 0=true) (join (fun (p24:List AV×Heap)=>J66_4 n again2 p24) fun (again25:_→Option (List Tree))=>cnd (((cI p21 0 2)==0)=true) (again25 ([],[Ay p21])) (again25 ([],[Ac p21]))) (again2 ([.t (tI (vI p19 0))],[.box [.t (.str (cS p21 0 0)),.t (tI (w64 ((cI p21 0 1)+(vI p3 2)))),.t (tI (cI p21 0 2))]]))
noncomputable def J66_6 (n:Nat) (again2:(List AV×Heap)→Option (List Tree)) (p3:List AV×Heap) (p19:List AV×Heap):Option (List Tree):=join (fun (p21:List AV×Heap)=>J66_5 n again2 p19 p3 p21) fun (again22:_→Option (List Tree))=>cnd (decide (vI p3 0<0)=true) (again22 ([.t (.bool true)],[Ac p19])) (Option.bind (AA C n 52 [tI (vI p19 0)]) fun y23=>cnd (length y23=1) (cnd (okB y23 0) (again22 ([.t (.bool (!(gB y23 0)))],[Ac p19])) none) none)
noncomputable def Tg (n:Nat) (again2:(List AV×Heap)→Option (List Tree)) (p3:List AV×Heap) (again4:(List AV×Heap)→Option (List Tree)):Option (List Tree):=cnd ((!(vB p3 1))=true) (cnd (((vI p3 2)==9)=true) (join (fun (p5:List AV×Heap)=>J66_1 n again2 p5) fun (again6:_→Option (List Tree))=>cnd (((cI p3 0 2)==0)=true) (again6 ([],[Ay p3])) (again6 ([],[Ac p3]))) (cnd (((w64 (((ByteArray.size (cS p3 0 0):Nat):Int)-(cI p3 0 1)))==(vI p3 2))=true) (join (fun (p11:List AV×Heap)=>J66_2 n again2 p11) fun (again12:_→Option (List Tree))=>cnd (((cI p3 0 2)==0)=true) (again12 ([],[.box [.t (.str (cS p3 0 0)),.t (tI (cI p3 0 1)),.t (tI 12)]])) (again12 ([],[Ac p3]))) (cnd ((0:Int)≤w64 ((cI p3 0 1)+(vI p3 2))∧w64 ((cI p3 0 1)+(vI p3 2))<((ByteArray.size (cS p3 0 0):Nat):Int)) (again4 ([.t (tI (orK IntKind.i64 (Tz IntKind.i64 (vI p3 0) (7:Int)) (w64 (Fv IntKind.u8 (CU (cS p3 0 0) (wT (w64 ((cI p3 0 1)+(vI p3 2))))) (127:Int))))),.t (.bool (decide (CU (cS p3 0 0) (wT (w64 ((cI p3 0 1)+(vI p3 2))))<128))),.t (tI (w64 ((vI p3 2)+1)))],[Ac p3])) none))) (cnd ((0:Int)≤cI p3 0 1∧cI p3 0 1<((ByteArray.size (cS p3 0 0):Nat):Int)) (cnd (((CU (cS p3 0 0) (wT (cI p3 0 1)))==128)=true) (join (fun (p15:List AV×Heap)=>J66_3 n again2 p15) fun (again16:_→Option (List Tree))=>cnd (((cI p3 0 2)==0)=true) (again16 ([],[Ay p3])) (again16 ([],[Ac p3]))) (join (fun (p19:List AV×Heap)=>J66_6 n again2 p3 p19) fun (again20:_→Option (List Tree))=>cnd (((Fv IntKind.i64 (vI p3 0) (1:Int))==1)=true) (again20 ([.t (tI (w64 ((w64 ((0:Int)-(EM IntKind.i64 (vI p3 0) (1:Int))))-(1:Int))))],[Ac p3])) (again20 ([.t (tI (EM IntKind.i64 (vI p3 0) (1:Int)))],[Ac p3])))) none)
noncomputable def J66_8 (n:Nat)  (p1:List AV×Heap):Option (List Tree):=cnd (((cI p1 0 2) != 0)=true) (some [tI 0,tI 0,tI (cI p1 0 2)]) (some [tI (vI p1 0),tI (cI p1 0 1),tI 0])
theorem e66 (n:Nat) (a0:ByteArray):AA C (n+1) 66 [.str a0]=join (fun (p1:List AV×Heap)=>J66_8 n p1) fun (again2:_→Option (List Tree))=>AH (fun (p3:List AV×Heap) (again4:_→Option (List Tree))=>Tg n again2 p3 again4) n ([.t (tI 0),.t (.bool false),.t (tI 0)],[.box [.t (.str a0),.t (tI 0),.t (tI 0)]]):=by kernel_rfl
noncomputable def J67_1 (n:Nat) (again4:(List AV×Heap)→Option (List Tree)) (p7:List AV×Heap):Option (List Tree):=again4 ([.t (tI 0)],[Ac p7])
noncomputable def J67_2 (n:Nat) (again4:(List AV×Heap)→Option (List Tree)) (p13:List AV×Heap):Option (List Tree):=again4 ([.t (tI 0)],[Ac p13])
noncomputable def J67_3 (n:Nat) (again4:(List AV×Heap)→Option (List Tree)) (p17:List AV×Heap):Option (List Tree):=again4 ([.t (tI 0)],[Ac p17])
noncomputable def J67_4 (n:Nat) (again4:(List AV×Heap)→Option (List Tree)) (p26:List AV×Heap):Option (List Tree):=again4 ([.t (tI 0)],[Ac p26])
noncomputable def J67_5 (n:Nat) (again4:(List AV×Heap)→Option (List Tree)) (p21:List AV×Heap) (p5:List AV×Heap) (p23:List AV×Heap):Option (List Tree):=cnd (vB p23 0=true) (join (fun (p26:List AV×Heap)=>J67_4 n again4 p26) fun (again27:_→Option (List Tree))=>cnd (((cI p23 0 2)==0)=true) (again27 ([],[Ay p23])) (again27 ([],[Ac p23]))) (again4 ([.t (tI (vI p21 0))],[.box [.t (.str (cS p23 0 0)),.t (tI (w64 ((cI p23 0 1)+(vI p5 2)))),.t (tI (cI p23 0 2))]]))
noncomputable def J67_6 (n:Nat) (again4:(List AV×Heap)→Option (List Tree)) (p5:List AV×Heap) (p21:List AV×Heap):Option (List Tree):=join (fun (p23:List AV×Heap)=>J67_5 n again4 p21 p5 p23) fun (again24:_→Option (List Tree))=>cnd (decide (vI p5 0<0)=true) (again24 ([.t (.bool true)],[Ac p21])) (Option.bind (AA C n 52 [tI (vI p21 0)]) fun y25=>cnd (length y25=1) (cnd (okB y25 0) (again24 ([.t (.bool (!(gB y25 0)))],[Ac p21])) none) none)
noncomputable def Tf (n:Nat) (again4:(List AV×Heap)→Option (List Tree)) (p5:List AV×Heap) (again6:(List AV×Heap)→Option (List Tree)):Option (List Tree):=cnd ((!(vB p5 1))=true) (cnd (((vI p5 2)==9)=true) (join (fun (p7:List AV×Heap)=>J67_1 n again4 p7) fun (again8:_→Option (List Tree))=>cnd (((cI p5 0 2)==0)=true) (again8 ([],[Ay p5])) (again8 ([],[Ac p5]))) (cnd (((w64 (((ByteArray.size (cS p5 0 0):Nat):Int)-(cI p5 0 1)))==(vI p5 2))=true) (join (fun (p13:List AV×Heap)=>J67_2 n again4 p13) fun (again14:_→Option (List Tree))=>cnd (((cI p5 0 2)==0)=true) (again14 ([],[.box [.t (.str (cS p5 0 0)),.t (tI (cI p5 0 1)),.t (tI 12)]])) (again14 ([],[Ac p5]))) (cnd ((0:Int)≤w64 ((cI p5 0 1)+(vI p5 2))∧w64 ((cI p5 0 1)+(vI p5 2))<((ByteArray.size (cS p5 0 0):Nat):Int)) (again6 ([.t (tI (orK IntKind.i64 (Tz IntKind.i64 (vI p5 0) (7:Int)) (w64 (Fv IntKind.u8 (CU (cS p5 0 0) (wT (w64 ((cI p5 0 1)+(vI p5 2))))) (127:Int))))),.t (.bool (decide (CU (cS p5 0 0) (wT (w64 ((cI p5 0 1)+(vI p5 2))))<128))),.t (tI (w64 ((vI p5 2)+1)))],[Ac p5])) none))) (cnd ((0:Int)≤cI p5 0 1∧cI p5 0 1<((ByteArray.size (cS p5 0 0):Nat):Int)) (cnd (((CU (cS p5 0 0) (wT (cI p5 0 1)))==128)=true) (join (fun (p17:List AV×Heap)=>J67_3 n again4 p17) fun (again18:_→Option (List Tree))=>cnd (((cI p5 0 2)==0)=true) (again18 ([],[Ay p5])) (again18 ([],[Ac p5]))) (join (fun (p21:List AV×Heap)=>J67_6 n again4 p5 p21) fun (again22:_→Option (List Tree))=>cnd (((Fv IntKind.i64 (vI p5 0) (1:Int))==1)=true) (again22 ([.t (tI (w64 ((w64 ((0:Int)-(EM IntKind.i64 (vI p5 0) (1:Int))))-(1:Int))))],[Ac p5])) (again22 ([.t (tI (EM IntKind.i64 (vI p5 0) (1:Int)))],[Ac p5])))) none)
noncomputable def J67_8 (n:Nat) (again2:(List AV×Heap)→Option (List Tree)) (p3:List AV×Heap):Option (List Tree):=cnd (decide (vI p3 0<0)=true) none (cnd (decide (vI p3 0>65536)=true) none (again2 ([.t (tI (vI p3 0))],[Ac p3])))
noncomputable def J67_9 (n:Nat) (a0:ByteArray) (p1:List AV×Heap):Option (List Tree):=cnd (decide (w64 (((ByteArray.size (cS p1 0 0):Nat):Int)-(cI p1 0 1))<vI p1 0)=true) none (cnd (((cI p1 0 2) != 0)=true) none (cnd ((0:Int)≤w64 ((cI p1 0 1)+(vI p1 0))∧w64 ((cI p1 0 1)+(vI p1 0))≤((ByteArray.size a0:Nat):Int)) (cnd ((0:Int)≤cI p1 0 1∧cI p1 0 1≤((wT (w64 ((cI p1 0 1)+(vI p1 0))):Nat):Int)) (some [.str (ByteArray.extract a0 (wT (cI p1 0 1)) (wT (w64 ((cI p1 0 1)+(vI p1 0))))),tI (w64 ((cI p1 0 1)+(vI p1 0))),tI 0]) none) none))
theorem e67 (n:Nat) (a0:ByteArray):AA C (n+1) 67 [.str a0]=join (fun (p1:List AV×Heap)=>J67_9 n a0 p1) fun (again2:_→Option (List Tree))=>join (fun (p3:List AV×Heap)=>J67_8 n again2 p3) fun (again4:_→Option (List Tree))=>AH (fun (p5:List AV×Heap) (again6:_→Option (List Tree))=>Tf n again4 p5 again6) n ([.t (tI 0),.t (.bool false),.t (tI 0)],[.box [.t (.str a0),.t (tI 0),.t (tI 0)]]):=by kernel_rfl
noncomputable def J69_3 (n:Nat) (p10:List AV×Heap) (again11:(List AV×Heap)→Option (List Tree)) (y12:List Tree) (p13:List AV×Heap):Option (List Tree):=cnd (vB p13 0=true) none (cnd (AE p13 0=Bg p10 0∧(3=3∨3=0)∧(CO p10 0)+(Ak p10 0)≤length (oEs p13 0)∧(Ak p10 0)+1≤1073741824) (again11 ([.sref 0 ((Bg p10 0)+1) 0 ((Ak p10 0)+1),.t (tI (w64 ((vI p10 1)+(gI y12 3)))),.t (tI (w64 ((vI p10 2)+1)))],[.row false ((Bg p10 0)+1) 3 ((take (Ak p10 0) (drop (CO p10 0) (oEs p13 0)))++[[tI (gI y12 0),tI (gI y12 1),.str (gS y12 2)]])])) none)
noncomputable def Te (n:Nat) (y1:List Tree) (a0:ByteArray) (p10:List AV×Heap) (again11:(List AV×Heap)→Option (List Tree)):Option (List Tree):=cnd (decide (vI p10 2<gI y1 0)=true) (cnd ((0:Int)≤vI p10 1∧vI p10 1≤((ByteArray.size a0:Nat):Int)) (Option.bind (AA C n 117 [.str (ByteArray.extract a0 (wT (vI p10 1)) (ByteArray.size a0))]) fun y12=>cnd (length y12=5) (cnd (okI y12 0) (cnd (okI y12 1) (cnd (okS y12 2) (cnd (okI y12 3) (cnd (okI y12 4) (cnd (((gI y12 4) != 0)=true) none (join (fun (p13:List AV×Heap)=>J69_3 n p10 again11 y12 p13) fun (again14:_→Option (List Tree))=>cnd (AE p10 0=Bg p10 0) (cnd (decide (((Ak p10 0:Nat):Int)>0)=true) (cnd (AE p10 0=Bg p10 0) (cnd (AE p10 0=Bg p10 0∧3=3∧(0:Int)≤w64 (((Ak p10 0:Nat):Int)-(1:Int))∧w64 (((Ak p10 0:Nat):Int)-(1:Int))<((Ak p10 0:Nat):Int)) (cnd (AE p10 0=Bg p10 0) (cnd (AE p10 0=Bg p10 0) (Option.bind (oEs p10 0)[(CO p10 0)+(wT (w64 (((Ak p10 0:Nat):Int)-(1:Int))))]? fun y15=>cnd (okI y15 0) (again14 ([.t (.bool (decide (gI y12 0≤gI y15 0)))],[Ad p10,.box []])) none) none) none) none) none) (again14 ([.t (.bool false)],[Ad p10,.box []]))) none)) none) none) none) none) none) none) none) (cnd ((false=true∨false=false)∧AE p10 0=Bg p10 0∧(3=3∨3=0)) (some [.sl 3 (take (Ak p10 0) (drop (CO p10 0) (oEs p10 0))),tI (vI p10 1),tI 0]) none)
theorem e69 (n:Nat) (a0:ByteArray):AA C (n+1) 69 [.str a0]=Option.bind (AA C n 66 [.str a0]) fun y1=>cnd (length y1=3) (cnd (okI y1 0) (cnd (okI y1 1) (cnd (okI y1 2) (cnd (((gI y1 2) != 0)=true) none (cnd (decide (gI y1 0<0)=true) none (cnd (decide (gI y1 0>8)=true) none (AH (fun (p10:List AV×Heap) (again11:_→Option (List Tree))=>Te n y1 a0 p10 again11) n ([.sref 0 0 0 0,.t (tI (gI y1 1)),.t (tI 0)],[.row false 0 3 []]))))) none) none) none) none:=by kernel_rfl
theorem e101 (n:Nat) (a0:Int) (a1:Int) (a2:ByteArray):AA C (n+1) 101 [tI a0,tI a1,.str a2]=cnd (decide (a0<1)=true) (some [tI 8]) (cnd (decide (a0>255)=true) (some [tI 8]) (cnd (decide (a1<0)=true) (some [tI 2]) (cnd (decide (a1>15)=true) (some [tI 2]) (cnd (decide (((ByteArray.size a2:Nat):Int)>1024)=true) (some [tI 4]) (some [tI 0]))))):=by kernel_rfl
theorem e103 (n:Nat) (a0:ByteArray):AA C (n+1) 103 [.str a0]=Option.bind (AA C n 153 [.int IntKind.u32 (4294967295:Int),.str a0]) fun y1=>cnd (length y1=1) (cnd (EO IntKind.u32 (List.getD y1 0 default)=true) (some [tI (w64 (Ha IntKind.u32 (gI y1 0) (4294967295:Int)))]) none) none:=by kernel_rfl
theorem e117 (n:Nat) (a0:ByteArray):AA C (n+1) 117 [.str a0]=Option.bind (AA C n 28 [.str a0]) fun y1=>cnd (length y1=3) (cnd (okS y1 0) (cnd (okI y1 1) (cnd (okI y1 2) (cnd (((gI y1 2) != 0)=true) none (cnd ((0:Int)≤0∧(0:Int)≤((ByteArray.size (gS y1 0):Nat):Int)) (Option.bind (AA C n 66 [.str (ByteArray.extract (gS y1 0) 0 (ByteArray.size (gS y1 0)))]) fun y6=>cnd (length y6=3) (cnd (okI y6 0) (cnd (okI y6 1) (cnd (okI y6 2) (cnd (((gI y6 2) != 0)=true) none (cnd ((0:Int)≤w64 ((0:Int)+(gI y6 1))∧w64 ((0:Int)+(gI y6 1))≤((ByteArray.size (gS y1 0):Nat):Int)) (Option.bind (AA C n 66 [.str (ByteArray.extract (gS y1 0) (wT (w64 ((0:Int)+(gI y6 1)))) (ByteArray.size (gS y1 0)))]) fun y11=>cnd (length y11=3) (cnd (okI y11 0) (cnd (okI y11 1) (cnd (okI y11 2) (cnd (((gI y11 2) != 0)=true) none (cnd ((0:Int)≤w64 ((w64 ((0:Int)+(gI y6 1)))+(gI y11 1))∧w64 ((w64 ((0:Int)+(gI y6 1)))+(gI y11 1))≤((ByteArray.size (gS y1 0):Nat):Int)) (Option.bind (AA C n 67 [.str (ByteArray.extract (gS y1 0) (wT (w64 ((w64 ((0:Int)+(gI y6 1)))+(gI y11 1)))) (ByteArray.size (gS y1 0)))]) fun y16=>cnd (length y16=3) (cnd (okS y16 0) (cnd (okI y16 1) (cnd (okI y16 2) (cnd (((gI y16 2) != 0)=true) none (cnd (((w64 ((w64 ((w64 ((0:Int)+(gI y6 1)))+(gI y11 1)))+(gI y16 1))) != ((ByteArray.size (gS y1 0):Nat):Int))=true) none (Option.bind (AA C n 101 [tI (gI y6 0),tI (gI y11 0),.str (gS y16 0)]) fun y19=>cnd (length y19=1) (cnd (okI y19 0) (cnd (((gI y19 0) != 0)=true) none (some [tI (gI y6 0),tI (gI y11 0),.str (gS y16 0),tI (gI y1 1),tI 0])) none) none))) none) none) none) none) none)) none) none) none) none) none)) none) none) none) none) none)) none) none) none) none:=by kernel_rfl
noncomputable def Rg (n:Nat) (a1:ByteArray) (p2:List AV×Heap) (again3:(List AV×Heap)→Option (List Tree)):Option (List Tree):=cnd (decide (vI p2 0<((ByteArray.size a1:Nat):Int))=true) (cnd ((0:Int)≤vI p2 0∧vI p2 0<((ByteArray.size a1:Nat):Int)) (cnd (0=0∧(0:Int)≤Ha IntKind.u8 (IntKind.wrap IntKind.u8 (cI p2 0 0)) (CU a1 (wT (vI p2 0)))∧Ha IntKind.u8 (IntKind.wrap IntKind.u8 (cI p2 0 0)) (CU a1 (wT (vI p2 0)))<256) (cnd (0+((wT (Ha IntKind.u8 (IntKind.wrap IntKind.u8 (cI p2 0 0)) (CU a1 (wT (vI p2 0)))))*1)<256) (cnd (EO IntKind.u32 (List.getD J9 (0+((wT (Ha IntKind.u8 (IntKind.wrap IntKind.u8 (cI p2 0 0)) (CU a1 (wT (vI p2 0)))))*1)) default)=true) (again3 ([.t (tI (w64 ((vI p2 0)+1)))],[.box [.t (.int IntKind.u32 (Ha IntKind.u32 (EM IntKind.u32 (cI p2 0 0) (8:Int)) (intOf (List.getD J9 (0+((wT (Ha IntKind.u8 (IntKind.wrap IntKind.u8 (cI p2 0 0)) (CU a1 (wT (vI p2 0)))))*1)) default))))],.box [],.box []])) none) none) none) none) (some [.int IntKind.u32 (cI p2 0 0)])
theorem e153 (n:Nat) (a0:Int) (a1:ByteArray):AA C (n+1) 153 [.int IntKind.u32 a0,.str a1]=AH (fun (p2:List AV×Heap) (again3:_→Option (List Tree))=>Rg n a1 p2 again3) n ([.t (tI 0)],[.box [.t (.int IntKind.u32 a0)],.box [],.box []]):=by kernel_rfl
end Ab
namespace Ab
open Go
def zz (n:Int):Nat:=(if n<0 then -2*n-1 else 2*n).toNat
def nkF:Nat→Nat→Nat
 |0,_=>0
 |f+1,m=>if m<128 then 0 else nkF f (m / 128)+1
def nk (m:Nat):Nat:=nkF 9 m
theorem div_pow (m j:Nat):m / 128 ^ (j+1)=m / 128 / 128 ^ j:=by rw [Nat.pow_succ,mul_comm,Nat.div_div_eq_div_mul]
theorem div_pow' (m j:Nat):m / 128 ^ (j+1)=m / 128 ^ j / 128:=by rw [Nat.pow_succ,Nat.div_div_eq_div_mul]
theorem SY:∀(f m:Nat),m<128 ^ (f+1)→m / 128 ^ nkF f m<128∧(∀j,j<nkF f m→128≤m / 128 ^ j)∧nkF f m≤f
 |0,m,h=>by refine ⟨by simpa [nkF] using h,fun j hj => ?_,yE _⟩;simp [nkF] at hj
 |f+1,m,h=>by
  unfold nkF;by_cases hm:m<128
  ·simp only [hm,if_true];exact ⟨by simpa using hm,fun j hj=>by omega,by omega⟩
  ·simp only [hm,if_false];have h1:m / 128<128 ^ (f+1):=by rw [Nat.pow_succ] at h;exact Nat.div_lt_of_lt_mul (by rw [mul_comm];exact h)
   obtain ⟨a,b,c⟩:=SY f (m / 128) h1;refine ⟨by rw [div_pow];exact a,fun j hj => ?_,by omega⟩;cases j with
   |zero=>simpa using hm
   |succ j=>rw [div_pow];exact b j (by omega)
theorem KY {m:Nat} (h:m<9223372036854775808):m / 128 ^ nk m<128∧(∀j,j<nk m→128≤m / 128 ^ j)∧nk m≤8:=by
 obtain ⟨a,b,c⟩:=SY 9 m (by
  have:(128:Nat) ^ (9+1)=1180591620717411303424:=by decide
  omega)
 refine ⟨a,b,?_⟩;rcases lt_or_ge (nkF 9 m) 9 with h1|h1
 ·show nkF 9 m≤8;omega
 ·have h2:=b 8 (by omega);have e:(128:Nat) ^ 8=72057594037927936:=by decide
  rw [e] at h2;have:72057594037927936*(m / 72057594037927936)≤m:=Nat.mul_div_le _ _;omega
def grp (m:Nat):Nat→List UInt8
 |0=>[UInt8.ofNat (m % 128)]
 |j+1=>UInt8.ofNat (m / 128 ^ (j+1) % 128+128)::grp m j
theorem Kk (m:Nat):∀k,(grp m k).length=k+1
 |0=>rfl
 |k+1=>by rw [grp,xF,Kk m k]
theorem Q9 (m:Nat):∀k i,i≤k→(grp m k)[i]? = some (UInt8.ofNat (m / 128 ^ (k-i) % 128+if i<k then 128 else 0))
 |0,i,h=>by
  obtain rfl:i=0:=by omega
  simp [grp]
 |k+1,0,_=>by simp [grp]
 |k+1,i+1,h=>by
  rw [grp,uE,Q9 m k i (by omega)];congr 3
  ·rw [show k+1-(i+1)=k-i by omega]
  ·simp
theorem Yv (m k:Nat) (i:Nat) (hi:i≤k):(grp m k).take (i+1)=(grp m k).take i++[UInt8.ofNat (m / 128 ^ (k-i) % 128+if i<k then 128 else 0)]:=by rw [uI,Q9 m k i hi];rfl
def Bi (n:Int):List UInt8:=grp (zz n) (nk (zz n))
def JI (n:Int):ByteArray:=mkB (Bi n)
def inR (n:Int):Prop := -1152921504606846976≤n∧n≤1152921504606846976
instance (n:Int):Decidable (inR n):=by unfold inR;exact inferInstance
theorem Rq {n:Int} (h:inR n):zz n<2305843009213693953:=by unfold inR at h;unfold zz;split<;>omega
theorem Ku (n:Int):(Bi n).length=nk (zz n)+1:=Kk _ _
theorem El (n:Int) (h:inR n):1≤(Bi n).length∧(Bi n).length≤9:=by have:=(KY (m:=zz n) (by have:=Rq h;omega)).2.2;rw [Ku];omega
theorem E4 (n:Int) (h:inR n):1≤(JI n).size∧(JI n).size≤9:=by rw [JI,DL];exact El n h
theorem s52 (n:Int):AL C 52 [tI n] [.bool (decide (inR n))]:=by refine AL.of (fun m=>e52 m _) (Ev.of fun m => ?_);simp only [AB,ge_iff_le,decide_eq_true_eq,inR];by_cases h : -1152921504606846976≤n<;>simp [h]
theorem s54 (n:Int) (h:inR n):AL C 54 [tI n] [tI (zz n:Nat)]:=by
 refine AL.of (fun m=>e54 m _) (Ev.of fun m => ?_);unfold inR at h;simp only [AB,decide_eq_true_eq,zz];by_cases hn:n<0
 ·rw [if_pos hn,if_pos hn,AN (x := -2*n) (by omega) (by omega),AN (by omega) (by omega)];congr 3;omega
 ·rw [if_neg hn,if_neg hn,AN (by omega) (by omega)];congr 3;omega
theorem fdiv_pow (m p:Nat):Int.fdiv (m:Int) ((2:Int) ^ p)=((m / 2 ^ p:Nat):Int):=by
 have e:((2:Int) ^ p)=((2 ^ p:Nat):Int):=by simp
 rw [e,Int.fdiv_eq_ediv_of_nonneg _ (vX _)];rfl
theorem shr7 (m i:Nat) (h:7*i≤64):EM .i64 (m:Int) ((7*i:Nat):Int)=((m / 128 ^ i:Nat):Int):=by
 unfold EM;have e:min ((7*i:Nat):Int).toNat IntKind.i64.bits=7*i:=by show min ((7*i:Nat):Int).toNat 64=_;omega
 rw [e,fdiv_pow,Nat.pow_mul]
theorem wrap_u8 (x:Int):IntKind.wrap .u8 x=x % 256:=by simp only [IntKind.wrap,IntKind.signed,IntKind.bits];simp
theorem GK (k x:Nat) (h:x<2 ^ k):(BitVec.ofInt k (x:Int)).toNat=x:=by rw [BitVec.ofInt_natCast,BitVec.toNat_ofNat,Nat.mod_eq_of_lt h]
theorem RU (x:Nat) (h:x<256):Fv .u8 (x:Int) 127=((x % 128:Nat):Int):=by
 unfold Fv;have e1:(BitVec.ofInt IntKind.u8.bits (x:Int)).toNat=x:=GK 8 x h;have e2:(BitVec.ofInt IntKind.u8.bits 127).toNat=127:=by decide
 rw [BitVec.toNat_and,e1,e2,show (127:Nat)=2 ^ 7-1 by decide,Nat.and_two_pow_sub_one_eq_mod,wrap_u8];omega
theorem and1 (x:Nat) (h:x<9223372036854775808):Fv .i64 (x:Int) 1=((x % 2:Nat):Int):=by
 unfold Fv;have e1:(BitVec.ofInt IntKind.i64.bits (x:Int)).toNat=x:=GK 64 x (by omega);have e2:(BitVec.ofInt IntKind.i64.bits 1).toNat=1:=by decide
 rw [BitVec.toNat_and,e1,e2,show (1:Nat)=2 ^ 1-1 by decide,Nat.and_two_pow_sub_one_eq_mod,wrap64];omega
theorem or7 (a b:Nat) (ha:a<36028797018963968) (hb:b<128):orK .i64 (Tz .i64 (a:Int) 7) (b:Int)=((a*128+b:Nat):Int):=by
 have e0:Tz .i64 (a:Int) 7=((a*128:Nat):Int):=by
  unfold Tz;have:min (7:Int).toNat IntKind.i64.bits=7:=by decide
  rw [this,wrap64];omega
 rw [e0];unfold orK;have e1:(BitVec.ofInt IntKind.i64.bits ((a*128:Nat):Int)).toNat=a*128:=GK 64 _ (by omega);have e2:(BitVec.ofInt IntKind.i64.bits (b:Int)).toNat=b:=GK 64 _ (by omega);have e3:a*128 ||| b=a*128+b:=by have:=Nat.shiftLeft_add_eq_or_of_lt (i:=7) hb a;rw [Nat.shiftLeft_eq] at this;exact this.symm
 rw [BitVec.toNat_or,e1,e2,e3,wrap64];omega
theorem byte_hi (m p:Nat):IntKind.wrap .u8 (Fv .u8 (IntKind.wrap .u8 ((m / 128 ^ p:Nat):Int)) 127+128)=((m / 128 ^ p % 128+128:Nat):Int):=by rw [wrap_u8 ((m / 128 ^ p:Nat):Int),show (((m / 128 ^ p:Nat):Int) % 256)=((m / 128 ^ p % 256:Nat):Int) by omega,RU _ (by omega),wrap_u8];omega
theorem byte_lo (m p:Nat):Fv .u8 (IntKind.wrap .u8 ((m / 128 ^ p:Nat):Int)) 127=((m / 128 ^ p % 128:Nat):Int):=by rw [wrap_u8 ((m / 128 ^ p:Nat):Int),show (((m / 128 ^ p:Nat):Int) % 256)=((m / 128 ^ p % 256:Nat):Int) by omega,RU _ (by omega)];omega
theorem Ry (x:Nat) (h:x<256):([Tree.int IntKind.u8 (x:Int)]:List Tree)=tb (UInt8.ofNat x):=by unfold tb;rw [UInt8.toNat_ofNat'];congr 2;omega
def stW (m k i:Nat) (j:Int):List AV×Heap:=([.t (tI j)],[.row false i 1 (((grp m k).take i).map tb),.box [.sref 0 i 0 i],.box []])
theorem write32 (m k:Nat) (hm:m<2305843009213693953) (hk:k≤8) (y:List Tree) (hy:gI y 0=(m:Int)) :
  Ev fun n=>AH (fun p ag=>Tl n y p ag) n (stW m k 0 (7*k:Nat))=some [.str (mkB (grp m k)),tI 0]:=by
 refine A7 (B:=fun n=>Tl n y) id (List.range (k+1)) (fun i _=>stW m k i (7*(k:Int)-7*i)) (fun _ _ _ =>.next ()) (fun _=>[Tree.str (mkB (grp m k)),tI 0]) (fun _ _=>True) () ?_ trivial ?_
  (fun i s x hx hI=>Ev.of fun n again => ?_) (fun _ _ _ _ _ _ _=>trivial) (fun s hI=>Ev.of fun n again => ?_)
 ·simp only [stW];congr 4
 ·generalize List.range (k+1)=l;generalize 0=i
  induction l generalizing i with
  |nil=>rfl
  |cons x l ih=>exact ih (i+1)
 ·have hi:i≤k:=by have:=AW hx;simp at this;omega
  have h1:(7*(k:Int)-7*i)=((7*(k-i):Nat):Int):=by omega
  have h2:((grp m k).take i).length=i:=by rw [zX,Kk];omega
  have h3:=Yv m k i hi;have h9:take i (List.map tb ((grp m k).take i))=List.map tb ((grp m k).take i):=vD (by rw [xH,h2];exact yE _);rw [Rd.Aw];unfold Tl;simp only [stW,vv,reduceCtorEq,hy,h1,shr7 m (k-i) (by omega),J19_1,h9,h2];have h4:¬(((7*(k-i):Nat):Int)<0):=by omega
  have h5:(0:Int)≤((7*(k-i):Nat):Int):=by omega
  have h6:w64 (((7*(k-i):Nat):Int)-7)=7*(k:Int)-7*((i+1:Nat):Int):=by rw [AN (by omega) (by omega)];omega
  have h7:i+1≤1073741824:=by omega
  simp only [h4,h6,h7,vv,yE];by_cases hq:i<k
  ·have h8:(((7*(k-i):Nat):Int)==0)=false:=by rw [beq_eq_false_iff_ne];omega
   simp only [h8,vv,byte_hi];rw [h3,if_pos hq,wZ,xJ,vA,Ry _ (by omega)]
  ·have h8:(((7*(k-i):Nat):Int)==0)=true:=by rw [beq_iff_eq];omega
   simp only [h8,vv,byte_lo];rw [if_neg hq] at h3;simp only [add_zero] at h3;rw [h3,wZ,xJ,vA,Ry _ (by omega)]
 ·have h1:¬((0:Int)≤7*(k:Int)-7*((List.range (k+1)).length:Nat)):=by rw [wF];omega
  have h2:(grp m k).take (List.range (k+1)).length=grp m k:=vD (by rw [Kk,wF];omega);have h3:take (List.range (k+1)).length ((grp m k).map tb)=(grp m k).map tb:=vD (by rw [xH,Kk,wF];omega);unfold Tl;simp only [stW,vv,reduceCtorEq,h1,h2,h3,G4,HD,id]
theorem s19 (n:Int) (hn:inR n):AL C 19 [tI n] [.str (JI n),tI 0]:=by
 refine AL.of (fun m=>e19 m _) ?_;have hz:=Rq hn;obtain ⟨k1,k2,k3⟩:=KY (m:=zz n) (by omega);refine Ev.rw ((s52 n).and (s54 n hn)) (T':=fun m=>AH (fun p ag=>Tk m [tI (zz n:Nat)] p ag) m (stW (zz n) (nk (zz n)) 0 0)) (fun m h=>by simp only [h.1,h.2,hn,vv,stW,uL,vA]) ?_
 refine A7 (B:=fun m=>Tk m [tI (zz n:Nat)]) id (List.range (nk (zz n))) (fun i _=>stW (zz n) (nk (zz n)) 0 (7*i:Nat)) (fun _ _ _ =>.next ()) (fun _=>[Tree.str (JI n),tI 0]) (fun _ _=>True) () rfl trivial ?_
  (fun i s x hx hI=>Ev.of fun m again => ?_) (fun _ _ _ _ _ _ _=>trivial) (fun s hI => ?_)
 ·generalize List.range (nk (zz n))=l;generalize 0=i
  induction l generalizing i with
  |nil=>rfl
  |cons x l ih=>exact ih (i+1)
 ·have hi:i<nk (zz n):=by have:=AW hx;simpa using this
  have h1:=k2 i hi;have h2:¬(((7*i:Nat):Int)<0):=by omega
  have h3:w64 (((7*i:Nat):Int)+7)=((7*(i+1):Nat):Int):=by rw [AN (by omega) (by omega)];omega
  rw [Rd.Aw];unfold Tk;simp only [stW,vv,shr7 (zz n) i (by omega),h2,h3,uL,vA];rw [A9 (by omega)]
 ·refine (write32 (zz n) (nk (zz n)) (by omega) k3 [tI (zz n:Nat)] rfl).mono fun m h again => ?_;have h0:((List.range (nk (zz n))).length)=nk (zz n):=wF;have h2:¬(((7*nk (zz n):Nat):Int)<0):=by omega
  have h3:¬((128:Int)≤((zz n / 128 ^ nk (zz n):Nat):Int)):=by omega
  unfold Tk;simp only [h0,stW,vv,shr7 (zz n) (nk (zz n)) (by omega),h2,h3,uL,vA];simp only [stW,uL,vA] at h;exact h
def uz (m:Nat):Int:=if m % 2=1 then -((m / 2:Nat):Int)-1 else ((m / 2:Nat):Int)
theorem uz_zz (n:Int):uz (zz n)=n:=by
 unfold uz zz;by_cases h:n<0
 ·rw [if_pos h,if_pos (by omega)];omega
 ·rw [if_neg h,if_neg (by omega)];omega
theorem shr1 (m:Nat):EM .i64 (m:Int) 1=((m / 2:Nat):Int):=by
 have:=fdiv_pow m 1;unfold EM;have e:min (1:Int).toNat IntKind.i64.bits=1:=by decide
 rw [e,this]
def O4 (s:ByteArray) (n:Int):Prop:=inR n∧s.size≤1099511627776∧∃post,bl s=Bi n++post
theorem O4.byte {s:ByteArray} {n:Int} (h:O4 s n) {i:Nat} (hi:i≤nk (zz n)):i<s.size∧CU s i=((zz n / 128 ^ (nk (zz n)-i) % 128+if i<nk (zz n) then 128 else 0:Nat):Int):=by
 obtain ⟨h1,h2,post,h3⟩:=h;have h4:=Q9 (zz n) (nk (zz n)) i hi;have h5:(bl s)[i]? = some (UInt8.ofNat (zz n / 128 ^ (nk (zz n)-i) % 128+if i<nk (zz n) then 128 else 0)):=by rw [h3,getElem?_append_left (by rw [Ku];omega)];exact h4
 refine ⟨by rw [← Aj];exact AW h5,?_⟩;rw [Lr,zK,h5,Option.getD_some,UInt8.toNat_ofNat'];congr 1;apply Nat.mod_eq_of_lt;split<;>omega
def stR (s:ByteArray) (n:Int) (i:Nat):List AV×Heap:=([.t (tI ((zz n / 128 ^ (nk (zz n)+1-i):Nat):Int)),.t (.bool (decide (i=nk (zz n)+1))),.t (tI (i:Nat))],[.box [.t (.str s),.t (tI 0),.t (tI 0)]])
theorem R3 (s:ByteArray) {n:Int} (hn:inR n):stR s n 0=([.t (tI 0),.t (.bool false),.t (tI 0)],[.box [.t (.str s),.t (tI 0),.t (tI 0)]]):=by
 have hz:=Rq hn;obtain ⟨k1,k2,k3⟩:=KY (m:=zz n) (by omega);have:zz n / 128 ^ (nk (zz n)+1-0)=0:=by rw [uN,div_pow',Nat.div_eq_of_lt k1]
 unfold stR;rw [this,decide_eq_false (by omega)];rfl
theorem read83 {s:ByteArray} {n:Int} (h:O4 s n):Ev fun m=>∀ag:List AV×Heap→Option (List Tree),AH (fun p again=>Tg m ag p again) m ([.t (tI 0),.t (.bool false),.t (tI 0)],[.box [.t (.str s),.t (tI 0),.t (tI 0)]])=
  ag ([.t (tI n)],[.box [.t (.str s),.t (tI ((Bi n).length:Nat)),.t (tI 0)]]):=by
 have hn:=h.1;have hz:=Rq hn;obtain ⟨k1,k2,k3⟩:=KY (m:=zz n) (by omega);have hsz:=h.2.1;refine F7 (B:=fun m ag p again=>Tg m ag p again) (List.range (nk (zz n)+1)) (fun i _=>stR s n i) (fun _ _ _ =>.next ()) (fun _=>(([.t (tI n)],[.box [.t (.str s),.t (tI ((Bi n).length:Nat)),.t (tI 0)]]):List AV×Heap)) (fun ag q=>ag q) (fun _ _=>True) ()
  (R3 s hn).symm trivial ?_ (fun i s' x hx hI=>Ev.of fun m ag again => ?_) (fun _ _ _ _ _ _ _=>trivial) (fun s' hI => ?_)
 ·generalize List.range (nk (zz n)+1)=l;generalize 0=i
  induction l generalizing i with
  |nil=>rfl
  |cons x l ih=>exact ih (i+1)
 ·have hi:i≤nk (zz n):=by have:=AW hx;simp at this;omega
  obtain ⟨b1,b2⟩:=h.byte hi;rw [Rd.Aw];unfold Tg;have e1:w64 (((s.size:Nat):Int)-0)=(s.size:Int):=by rw [AN (by omega) (by omega)];omega
  have e2:w64 (0+((i:Nat):Int))=(i:Int):=by rw [AN (by omega) (by omega)];omega
  have e3:((i:Int)==9)=false:=by rw [beq_eq_false_iff_ne];omega
  have e4:(((s.size:Nat):Int)==(i:Int))=false:=by rw [beq_eq_false_iff_ne];omega
  have e5:decide (i=nk (zz n)+1)=false:=by rw [decide_eq_false_iff_not];omega
  simp only [stR,vv,reduceEqDiff,Ac,Ay,e1,e2,e3,e4,e5,(show (i:Int)<(s.size:Int) by omega),b2];have e6:(zz n / 128 ^ (nk (zz n)-i) % 128+if i<nk (zz n) then 128 else 0)<256:=by split<;>omega
  rw [RU _ e6];have e7:(zz n / 128 ^ (nk (zz n)-i) % 128+if i<nk (zz n) then 128 else 0) % 128=zz n / 128 ^ (nk (zz n)-i) % 128:=by split<;>omega
  have e8:zz n / 128 ^ (nk (zz n)+1-i)=zz n / 128 ^ (nk (zz n)-i) / 128:=by rw [show nk (zz n)+1-i=nk (zz n)-i+1 by omega,div_pow']
  have e9:zz n / 128 ^ (nk (zz n)-i)≤zz n:=Nat.div_le_self _ _;have e10:w64 ((zz n / 128 ^ (nk (zz n)-i) % 128:Nat):Int)=((zz n / 128 ^ (nk (zz n)-i) % 128:Nat):Int):=AN (by omega) (by omega);rw [e7,e10,e8,or7 _ _ (by omega) (by omega)];have e11:zz n / 128 ^ (nk (zz n)-i) / 128*128+zz n / 128 ^ (nk (zz n)-i) % 128=zz n / 128 ^ (nk (zz n)+1-(i+1)):=by rw [show nk (zz n)+1-(i+1)=nk (zz n)-i by omega];omega
  have e12:w64 ((i:Int)+1)=((i+1:Nat):Int):=BE (by omega);have e13:decide (((zz n / 128 ^ (nk (zz n)-i) % 128+if i<nk (zz n) then 128 else 0:Nat):Int)<128)=decide (i=nk (zz n)):=by
   by_cases hq:i<nk (zz n)
   ·rw [if_pos hq,decide_eq_false (by omega),decide_eq_false (by omega)]
   ·rw [if_neg hq,decide_eq_true (by omega),decide_eq_true (by omega)]
  rw [e11,e12,e13]
 ·obtain ⟨b1,b2⟩:=h.byte (zero_le _);refine (s52 n).mono fun m h75 ag again => ?_;have h0:(List.range (nk (zz n)+1)).length=nk (zz n)+1:=wF;have hne:(((zz n / 128 ^ (nk (zz n)-0) % 128+if 0<nk (zz n) then 128 else 0:Nat):Int)==128)=false:=by
   rw [beq_eq_false_iff_ne,uN];by_cases hq:0<nk (zz n)
   ·have:=k2 (nk (zz n)-1) (by omega);have e:zz n / 128 ^ nk (zz n)=zz n / 128 ^ (nk (zz n)-1) / 128:=by rw [← div_pow',show nk (zz n)-1+1=nk (zz n) by omega]
    rw [if_pos hq];omega
   ·rw [if_neg hq];omega
  have hv:zz n / 128 ^ (nk (zz n)+1-(nk (zz n)+1))=zz n:=by simp
  have hu:=uz_zz n;unfold uz at hu;unfold Tg;have e14:w64 (0+(((nk (zz n)+1:Nat)):Int))=(((Bi n).length:Nat):Int):=by rw [Ku,AN (by omega) (by omega)];omega
  have e15:¬(((zz n:Nat):Int)<0):=by omega
  simp only [h0,stR,vv,Ac,Ay,hv,(show (0:Int)<(s.size:Int) by omega),b2,hne,vY,J66_6,J66_5,Int.le_refl,and1 (zz n) (by omega),shr1,e14,e15];by_cases hp:zz n % 2=1
  ·rw [if_pos hp] at hu;have e11:w64 (w64 (0-((zz n / 2:Nat):Int))-1)=n:=by rw [AN (x:=0-((zz n / 2:Nat):Int)) (by omega) (by omega),AN (by omega) (by omega)];omega
   have e12:(((zz n % 2:Nat):Int)==1)=true:=by rw [beq_iff_eq];omega
   simp only [e12,e11,vv,h75,hn]
  ·rw [if_neg hp] at hu;have e12:(((zz n % 2:Nat):Int)==1)=false:=by rw [beq_eq_false_iff_ne];omega
   simp only [e12,hu,vv,h75,hn]
theorem read84 {s:ByteArray} {n:Int} (h:O4 s n):Ev fun m=>∀ag:List AV×Heap→Option (List Tree),AH (fun p again=>Tf m ag p again) m ([.t (tI 0),.t (.bool false),.t (tI 0)],[.box [.t (.str s),.t (tI 0),.t (tI 0)]])=
  ag ([.t (tI n)],[.box [.t (.str s),.t (tI ((Bi n).length:Nat)),.t (tI 0)]]):=by
 have hn:=h.1;have hz:=Rq hn;obtain ⟨k1,k2,k3⟩:=KY (m:=zz n) (by omega);have hsz:=h.2.1;refine F7 (B:=fun m ag p again=>Tf m ag p again) (List.range (nk (zz n)+1)) (fun i _=>stR s n i) (fun _ _ _ =>.next ()) (fun _=>(([.t (tI n)],[.box [.t (.str s),.t (tI ((Bi n).length:Nat)),.t (tI 0)]]):List AV×Heap)) (fun ag q=>ag q) (fun _ _=>True) ()
  (R3 s hn).symm trivial ?_ (fun i s' x hx hI=>Ev.of fun m ag again => ?_) (fun _ _ _ _ _ _ _=>trivial) (fun s' hI => ?_)
 ·generalize List.range (nk (zz n)+1)=l;generalize 0=i
  induction l generalizing i with
  |nil=>rfl
  |cons x l ih=>exact ih (i+1)
 ·have hi:i≤nk (zz n):=by have:=AW hx;simp at this;omega
  obtain ⟨b1,b2⟩:=h.byte hi;rw [Rd.Aw];unfold Tf;have e1:w64 (((s.size:Nat):Int)-0)=(s.size:Int):=by rw [AN (by omega) (by omega)];omega
  have e2:w64 (0+((i:Nat):Int))=(i:Int):=by rw [AN (by omega) (by omega)];omega
  have e3:((i:Int)==9)=false:=by rw [beq_eq_false_iff_ne];omega
  have e4:(((s.size:Nat):Int)==(i:Int))=false:=by rw [beq_eq_false_iff_ne];omega
  have e5:decide (i=nk (zz n)+1)=false:=by rw [decide_eq_false_iff_not];omega
  simp only [stR,vv,reduceEqDiff,Ac,Ay,e1,e2,e3,e4,e5,(show (i:Int)<(s.size:Int) by omega),b2];have e6:(zz n / 128 ^ (nk (zz n)-i) % 128+if i<nk (zz n) then 128 else 0)<256:=by split<;>omega
  rw [RU _ e6];have e7:(zz n / 128 ^ (nk (zz n)-i) % 128+if i<nk (zz n) then 128 else 0) % 128=zz n / 128 ^ (nk (zz n)-i) % 128:=by split<;>omega
  have e8:zz n / 128 ^ (nk (zz n)+1-i)=zz n / 128 ^ (nk (zz n)-i) / 128:=by rw [show nk (zz n)+1-i=nk (zz n)-i+1 by omega,div_pow']
  have e9:zz n / 128 ^ (nk (zz n)-i)≤zz n:=Nat.div_le_self _ _;have e10:w64 ((zz n / 128 ^ (nk (zz n)-i) % 128:Nat):Int)=((zz n / 128 ^ (nk (zz n)-i) % 128:Nat):Int):=AN (by omega) (by omega);rw [e7,e10,e8,or7 _ _ (by omega) (by omega)];have e11:zz n / 128 ^ (nk (zz n)-i) / 128*128+zz n / 128 ^ (nk (zz n)-i) % 128=zz n / 128 ^ (nk (zz n)+1-(i+1)):=by rw [show nk (zz n)+1-(i+1)=nk (zz n)-i by omega];omega
  have e12:w64 ((i:Int)+1)=((i+1:Nat):Int):=BE (by omega);have e13:decide (((zz n / 128 ^ (nk (zz n)-i) % 128+if i<nk (zz n) then 128 else 0:Nat):Int)<128)=decide (i=nk (zz n)):=by
   by_cases hq:i<nk (zz n)
   ·rw [if_pos hq,decide_eq_false (by omega),decide_eq_false (by omega)]
   ·rw [if_neg hq,decide_eq_true (by omega),decide_eq_true (by omega)]
  rw [e11,e12,e13]
 ·obtain ⟨b1,b2⟩:=h.byte (zero_le _);refine (s52 n).mono fun m h75 ag again => ?_;have h0:(List.range (nk (zz n)+1)).length=nk (zz n)+1:=wF;have hne:(((zz n / 128 ^ (nk (zz n)-0) % 128+if 0<nk (zz n) then 128 else 0:Nat):Int)==128)=false:=by
   rw [beq_eq_false_iff_ne,uN];by_cases hq:0<nk (zz n)
   ·have:=k2 (nk (zz n)-1) (by omega);have e:zz n / 128 ^ nk (zz n)=zz n / 128 ^ (nk (zz n)-1) / 128:=by rw [← div_pow',show nk (zz n)-1+1=nk (zz n) by omega]
    rw [if_pos hq];omega
   ·rw [if_neg hq];omega
  have hv:zz n / 128 ^ (nk (zz n)+1-(nk (zz n)+1))=zz n:=by simp
  have hu:=uz_zz n;unfold uz at hu;unfold Tf;have e14:w64 (0+(((nk (zz n)+1:Nat)):Int))=(((Bi n).length:Nat):Int):=by rw [Ku,AN (by omega) (by omega)];omega
  have e15:¬(((zz n:Nat):Int)<0):=by omega
  simp only [h0,stR,vv,Ac,Ay,hv,(show (0:Int)<(s.size:Int) by omega),b2,hne,vY,J67_6,J67_5,Int.le_refl,and1 (zz n) (by omega),shr1,e14,e15];by_cases hp:zz n % 2=1
  ·rw [if_pos hp] at hu;have e11:w64 (w64 (0-((zz n / 2:Nat):Int))-1)=n:=by rw [AN (x:=0-((zz n / 2:Nat):Int)) (by omega) (by omega),AN (by omega) (by omega)];omega
   have e12:(((zz n % 2:Nat):Int)==1)=true:=by rw [beq_iff_eq];omega
   simp only [e12,e11,vv,h75,hn]
  ·rw [if_neg hp] at hu;have e12:(((zz n % 2:Nat):Int)==1)=false:=by rw [beq_eq_false_iff_ne];omega
   simp only [e12,hu,vv,h75,hn]
theorem s66 {s:ByteArray} {n:Int} (h:O4 s n):AL C 66 [.str s] [tI n,tI ((Bi n).length:Nat),tI 0]:=by refine AL.of (fun m=>e66 m _) ?_;refine (read83 h).mono fun m hm => ?_;rw [join_eq,hm];simp only [J66_8,vv];rfl
end Ab
namespace Ab
open Go
theorem IU (a b:ByteArray):bl (a++b)=bl a++bl b:=by simp [bl]
theorem K4 (n:Int):bl (JI n)=Bi n:=IS _
theorem Cb (a b:ByteArray):(a++b).size=a.size+b.size:=by rw [← Aj,IU,xE,Aj,Aj]
def A4 (s:ByteArray):ByteArray:=JI s.size++s
theorem FH {k:Nat} (h:k≤1152921504606846976):inR (k:Int):=by unfold inR;omega
theorem IQ (s:ByteArray):bl (A4 s)=Bi s.size++bl s:=by rw [A4,IU,K4]
theorem Dk (s:ByteArray) (h:s.size≤1152921504606846976):s.size+1≤(A4 s).size∧(A4 s).size≤s.size+9:=by have:=E4 s.size (FH h);rw [A4,Cb];omega
theorem s17 (s:ByteArray) (h:s.size≤65536):AL C 17 [.str s] [.str (A4 s),tI 0]:=by refine AL.of (fun m=>e17 m _) ?_;refine (s19 (s.size:Nat) (FH (by omega))).mono fun m hm => ?_;have h1:=E4 s.size (FH (by omega));rw [CT (by rw [decide_eq_true_eq];omega)];simp only [hm,vv,vE,A9 (show (JI (s.size:Nat)).size+s.size≤9223372036854775807 by omega)];rfl
theorem s67 {S t:ByteArray} {post:List UInt8} (h:bl S=bl (A4 t)++post) (ht:t.size≤65536) (hS:S.size≤1099511627776):AL C 67 [.str S] [.str t,tI ((A4 t).size:Nat),tI 0]:=by
 refine AL.of (fun m=>e67 m _) ?_;have hI:O4 S (t.size:Nat):=⟨FH (by omega),hS,bl t++post,by rw [h,IQ,zH]⟩
 refine (read84 hI).mono fun m hm => ?_;have hlen:S.size=(Bi (t.size:Nat)).length+t.size+post.length:=by rw [← Aj S,h,xE,IQ,xE,Aj]
 have hp:=El (t.size:Nat) (FH (by omega));have e1:¬(((t.size:Nat):Int)<0):=by omega
 have e2:¬((65536:Int)<((t.size:Nat):Int)):=by omega
 have e3:w64 ((S.size:Int)-(((Bi (t.size:Nat)).length:Nat):Int))=(t.size+post.length:Nat):=by rw [AN (by omega) (by omega)];omega
 have e4:w64 ((((Bi (t.size:Nat)).length:Nat):Int)+((t.size:Nat):Int))=(((A4 t).size:Nat):Int):=by rw [AN (by omega) (by omega),A4,Cb,JI,DL];omega
 have e5:(A4 t).size=(Bi (t.size:Nat)).length+t.size:=by rw [A4,Cb,JI,DL]
 rw [join_eq,join_eq,hm];simp only [J67_8,J67_9,vv,Ac,e1,e2,e3,e4,bne_self_eq_false];rw [CT (by omega),A9 (by omega),A9 (by omega)];congr 3;apply Fe;rw [Cf,h,IQ,zH,vZ,e5,Nat.add_sub_cancel_left,List.take_left' (Aj t)]
def updc (r:Int) (b:UInt8):Int:=Ha .u32 (EM .u32 r 8) (intOf (J9.getD (Ha .u8 (IntKind.wrap .u8 r) (b.toNat:Int)).toNat default))
def crcF (r:Int) (l:List UInt8):Int:=l.foldl updc r
theorem xor8 (a b:Int):0≤Ha .u8 a b∧Ha .u8 a b<256:=by unfold Ha;rw [wrap_u8];omega
theorem Xq (i:Nat) (h:i<256):EO .u32 (J9.getD i default)=true:=by
 have:J9.getD i default = .int .u32 (steps 8 (i:Nat)):=by simp [J9,h]
 rw [this];rfl
def stC (i:Nat) (r:Int):List AV×Heap:=([.t (tI (i:Nat))],[.box [.t (.int .u32 r)],.box [],.box []])
theorem s153 (r:Int) (s:ByteArray) (hs:s.size≤1099511627776):AL C 153 [.int .u32 r,.str s] [.int .u32 (crcF r (bl s))]:=by
 refine AL.of (fun m=>e153 m _ _) ?_;refine A7 (B:=fun m=>Rg m s) (fun q=>[Tree.int .u32 q]) (bl s) (fun i x=>stC i x) (fun _ x b =>.next (updc x b)) (fun x=>x) (fun _ _=>True) r rfl trivial (C4 updc (fun x=>x) 0 (bl s) r)
  (fun i x b hx hI=>Ev.of fun m again => ?_) (fun _ _ _ _ _ _ _=>trivial) (fun x hI=>Ev.of fun m again => ?_)
 ·have hi:=AW hx;rw [Aj] at hi;have hb:CU s i=(b.toNat:Int):=by rw [Lr,zK,hx];rfl
  have hr:=xor8 (IntKind.wrap .u8 x) (b.toNat:Int);have hn:(Ha .u8 (IntKind.wrap .u8 x) (b.toNat:Int)).toNat<256:=by omega
  rw [Rd.Aw];unfold Rg;simp only [stC,vv,(show (i:Int)<(s.size:Int) by omega),hb,hr,Nat.mul_one,hn,Xq _ hn,BE (show i<4611686018427387904 by omega)];rfl
 ·unfold Rg;simp only [stC,vv,Aj,wP]
def sumI (s:ByteArray):Int:=w64 (Ha .u32 (crcF 4294967295 (bl s)) 4294967295)
theorem s103 (s:ByteArray) (hs:s.size≤1099511627776):AL C 103 [.str s] [tI (sumI s)]:=by refine AL.of (fun m=>e103 m _) ?_;refine (s153 4294967295 s hs).mono fun m hm => ?_;simp only [hm,vv];rfl
theorem TI (es:List (List Tree)):bytesOf es=mkB (es.map JS):=by unfold bytesOf;apply Fe;rw [Pj,IS];rfl
def tail4 (x:Int):List UInt8:=[JS [.int .u8 (IntKind.wrap .u8 x)],JS [.int .u8 (IntKind.wrap .u8 (EM .i64 x 8))],JS [.int .u8 (IntKind.wrap .u8 (EM .i64 x 16))],JS [.int .u8 (IntKind.wrap .u8 (EM .i64 x 24))]]
def J8 (s:ByteArray):ByteArray:=mkB (tail4 (sumI s))
theorem Gx (s:ByteArray):(J8 s).size=4:=by rw [J8,DL];rfl
theorem s56 (s:ByteArray) (hs:s.size≤1099511627776):AL C 56 [.str s] [.str (J8 s)]:=by refine AL.of (fun m=>e56 m _) ?_;have hb:∀a b c d:Int,Fo [[.int .u8 a],[.int .u8 b],[.int .u8 c],[.int .u8 d]]=true:=fun _ _ _ _=>rfl;refine (s103 s hs).mono fun m hm => ?_;simp only [hm,vv,hb];rw [TI];rfl
def GG (s:ByteArray):ByteArray:=A4 s++J8 (A4 s)
theorem NN (s:ByteArray) (h:s.size≤65536):s.size+5≤(GG s).size∧(GG s).size≤s.size+13:=by have:=Dk s (by omega);rw [GG,Cb,Gx];omega
theorem s21 (s:ByteArray) (h:s.size≤65536):AL C 21 [.str s] [.str (GG s),tI 0]:=by refine AL.of (fun m=>e21 m _) ?_;have hz:=Dk s (by omega);refine ((s17 s h).and (s56 (A4 s) (by omega))).mono fun m hm => ?_;simp only [hm.1,hm.2,vv,vE,bne_self_eq_false];rw [A9 (by rw [Gx];omega)];rfl
theorem s41_any {S t:ByteArray} {d post:List UInt8} (h:bl S=bl (A4 t)++(d++post)) (hd:d.length=4) (ht:t.size≤65536) (hS:S.size≤1099511627776) :
  AL C 28 [.str S] (if d=bl (J8 (A4 t)) then [.str t,tI ((GG t).size:Nat),tI 0] else [.str (ByteArray.mk #[]),tI 0,tI 13]):=by
 refine AL.of (fun m=>e28 m _) ?_;have hI:O4 S (t.size:Nat):=⟨FH (by omega),hS,bl t++(d++post),by rw [h,IQ,zH]⟩
 have hz:=Dk t (by omega);have hlen:S.size=(A4 t).size+4+post.length:=by rw [← Aj S,h,xE,xE,Aj,hd];omega
 have e5:(A4 t).size=(Bi (t.size:Nat)).length+t.size:=by rw [A4,Cb,JI,DL]
 have hp:=El (t.size:Nat) (FH (by omega));have x1:S.extract 0 (A4 t).size=A4 t:=by apply Fe;rw [Cf,drop_zero,uN,h,← Aj (A4 t),List.take_left]
 have x2:bl (S.extract (A4 t).size ((A4 t).size+4))=d:=by rw [Cf,h,← Aj (A4 t),vZ,Nat.add_sub_cancel_left,List.take_left' hd]
 have x3:S.extract (Bi (t.size:Nat)).length (A4 t).size=t:=by apply Fe;rw [Cf,h,IQ,zH,vZ,e5,Nat.add_sub_cancel_left,List.take_left' (Aj t)]
 refine ((s66 hI).and (s56 (A4 t) (by omega))).mono fun m hm => ?_;have e1:¬(((t.size:Nat):Int)<0):=by omega
 have e2:¬((65536:Int)<((t.size:Nat):Int)):=by omega
 have e3:w64 ((((Bi (t.size:Nat)).length:Nat):Int)+((t.size:Nat):Int))=(((A4 t).size:Nat):Int):=by rw [AN (by omega) (by omega)];omega
 have e4:w64 ((((A4 t).size:Nat):Int)+4)=(((A4 t).size+4:Nat):Int):=by rw [AN (by omega) (by omega)];omega
 simp only [hm.1,vv,vE,bne_self_eq_false,e1,e2,J28_1,e3,e4,x1,x3,hm.2];rw [CT (by omega),A9 (by omega),A9 (by omega),A9 (by omega)];by_cases hq:d=bl (J8 (A4 t))
 ·have:S.extract (A4 t).size ((A4 t).size+4)=J8 (A4 t):=Fe (by rw [x2,hq]);rw [if_pos hq,this];simp only [bne,F0,decide_true,Bool.not_true];rw [CT (by decide),A9 (by omega),A9 (by omega)];have:(GG t).size=(A4 t).size+4:=by rw [GG,Cb,Gx]
  rw [this]
 ·rw [if_neg hq,A9];have hne:¬J8 (A4 t)=S.extract (A4 t).size ((A4 t).size+4):=fun e=>hq (by rw [e,x2]);simp only [bne,F0,hne,decide_false,Bool.not_false]
theorem s28 {S t:ByteArray} {post:List UInt8} (h:bl S=bl (GG t)++post) (ht:t.size≤65536) (hS:S.size≤1099511627776):AL C 28 [.str S] [.str t,tI ((GG t).size:Nat),tI 0]:=by have:=s41_any (S:=S) (t:=t) (d:=bl (J8 (A4 t))) (post:=post) (by rw [h,GG,IU,zH]) (by rw [Aj,Gx]) ht hS;rw [if_pos rfl] at this;exact this
end Ab
namespace Ab
open Go
structure BH where
 kind:Int
 flags:Int
 data:ByteArray
 deriving DecidableEq
structure Bun where
 src:Int
 cre:Int
 seq:Int
 off:Int
 tot:Int
 dk:Int
 dn:Int
 life:Int
 pri:Int
 flg:Int
 blocks:List BH
 pay:ByteArray
 deriving DecidableEq
def BH.enc (x:BH):List Tree:=[tI x.kind,tI x.flags,.str x.data]
def Bun.enc (b:Bun):List Tree:=[tI b.src,tI b.cre,tI b.seq,tI b.off,tI b.tot,tI b.dk,tI b.dn,tI b.life,tI b.pri,tI b.flg,.sl 3 (b.blocks.map BH.enc),.str b.pay]
def HZ (x:BH):Prop:=(1≤x.kind∧x.kind≤255)∧(0≤x.flags∧x.flags≤15)∧x.data.size≤1024
instance (x:BH):Decidable (HZ x):=by unfold HZ;exact inferInstance
def PQ (x:BH):Int:=if x.kind<1 then 8 else if x.kind>255 then 8 else if x.flags<0 then 2 else if x.flags>15 then 2 else if (x.data.size:Int)>1024 then 4 else 0
theorem Kz (x:BH):PQ x=0↔HZ x:=by
 unfold PQ HZ
 repeat' split
 all_goals omega
theorem s101 (x:BH):AL C 101 x.enc [tI (PQ x)]:=by
 refine AL.of (fun m=>e101 m _ _ _) (Ev.of fun m => ?_);unfold PQ;simp only [AB,decide_eq_true_eq]
 repeat' split
 all_goals rfl
def G3 (l:List BH) (i:Nat) (_:Unit) (x:BH):Rd Unit Int:=match l[i]? with
 |some y=>if x.kind≤y.kind then .done 9 else .next ()
 |none =>.next ()
def XJ (l:List BH):Int:=if 8<l.length then 4 else CJ (fun _ (_:Unit) x=>if PQ x≠0 then Rd.done (PQ x) else .next ()) (fun _=>CJ (G3 l) (fun _=>0) 0 (l.drop 1) ()) 0 l ()
def Asc:List BH→Prop
 |x::y::l=>x.kind<y.kind∧Asc (y::l)
 |_=>True
def BV (l:List BH):Prop:=l.length≤8∧(∀x∈l,HZ x)∧Asc l
theorem Vf (L:List BH):∀(l pre:List BH) (p:BH),L=pre++p::l→(CJ (G3 L) (fun _=>(0:Int)) pre.length l ()=0↔Asc (p::l))
 |[],pre,p,h=>by simp [CJ,Asc]
 |x::l,pre,p,h=>by
  have hp:L[pre.length]? = some p:=by rw [h];simp
  have ih:=Vf L l (pre++[p]) x (by rw [h];simp);rw [xE,List.length_singleton] at ih;unfold CJ;simp only [G3,hp];by_cases hx:x.kind≤p.kind
  ·simp only [hx,if_true,Asc];constructor
   ·intro h;cases h
   ·intro h;omega
  ·simp only [hx,if_false,Asc];rw [ih];constructor
   ·intro h;exact ⟨by omega,h⟩
   ·exact fun h=>h.2
theorem VV (fin:Int):∀(i:Nat) (l:List BH),CJ (fun _ (_:Unit) x=>if PQ x≠0 then Rd.done (PQ x) else .next ()) (fun _=>fin) i l ()=0↔(∀x∈l,HZ x)∧fin=0
 |_,[]=>by simp [CJ]
 |i,x::l=>by
  unfold CJ;by_cases h:PQ x=0
  ·simp only [h,ne_eq,not_true_eq_false,if_false];rw [VV fin (i+1) l];simp [(Kz x).1 h]
  ·simp only [ne_eq,h,not_false_eq_true,if_true];have:¬HZ x:=fun e=>h ((Kz x).2 e);simp [this]
theorem TL (l:List BH):XJ l=0↔BV l:=by
 unfold XJ BV;by_cases h:8<l.length
 ·rw [if_pos h];constructor
  ·intro e;cases e
  ·intro e;omega
 ·rw [if_neg h,VV];have e:CJ (G3 l) (fun _=>(0:Int)) 0 (l.drop 1) ()=0↔Asc l:=by
   cases l with
   |nil=>simp [CJ,Asc]
   |cons p l=>exact Vf (p::l) l [] p rfl
  rw [e];constructor
  ·rintro ⟨a,b⟩;exact ⟨by omega,a,b⟩
  ·rintro ⟨_,a,b⟩;exact ⟨a,b⟩
theorem ord73 (l:List BH) (hl:l.length≤8):Ev fun n=>AH (fun p again=>Th n (l.map BH.enc) p again) n ([.t (tI 1)],[])=some [tI (CJ (G3 l) (fun _=>0) 0 (l.drop 1) ())]:=by
 refine A7 (B:=fun n=>Th n (l.map BH.enc)) (fun r=>[tI r]) (l.drop 1) (fun i _=>(([.t (tI ((i+1:Nat):Int))],[]):List AV×Heap)) (G3 l) (fun _=>0) (fun _ _=>True) () rfl trivial rfl
  (fun i s x hx hI=>Ev.of fun n again => ?_) (fun _ _ _ _ _ _ _=>trivial) (fun s hI=>Ev.of fun n again => ?_)
 ·rw [getElem?_drop] at hx;have hi:=AW hx;have hy:l[i]? = some l[i]:=zO (by omega);have hx':l[i+1]? = some x:=by rw [← hx];congr 1;omega
  have e1:w64 (((i+1:Nat):Int)-1)=(i:Int):=by rw [AN (by omega) (by omega)];omega
  unfold Th;simp only [vv,hx',hy,BH.enc,e1,BE (show i+1<4611686018427387904 by omega),(show ((i+1:Nat):Int)<l.length by omega),G3];by_cases hq:x.kind≤l[i].kind
  ·simp only [hq,if_true,vv,Rd.Be]
  ·simp only [hq,if_false,vv,Rd.Aw]
 ·unfold Th;simp only [vv,xG];rw [CT (by omega)]
theorem s50 (l:List BH):AL C 50 [.sl 3 (l.map BH.enc)] [tI (XJ l)]:=by
 refine AL.of (fun m=>e50 m _) ?_;unfold XJ;simp only [vv];by_cases hl:8<l.length
 ·rw [if_pos hl];exact Ev.of fun m=>by rw [A9 (by omega)]
 ·simp only [if_neg hl,(show ¬((8:Int)<(l.length:Int)) by omega),vv];refine A7 (B:=fun n=>WJ n (l.map BH.enc)) (fun r=>[tI r]) l (fun i _=>(([.t (tI (i:Nat))],[]):List AV×Heap)) _ _ (fun _ _=>True) () rfl trivial rfl
   (fun i s x hx hI => ?_) (fun _ _ _ _ _ _ _=>trivial) (fun s hI => ?_)
  ·have hi:=AW hx;refine (s101 x).mono fun n h again => ?_;simp only [BH.enc] at h;unfold WJ;simp only [vv,hx,BH.enc,h,BE (show i<4611686018427387904 by omega),(show (i:Int)<l.length by omega)];by_cases hq:PQ x=0
   ·simp only [hq,bne_self_eq_false,vv,ne_eq,not_true_eq_false,Rd.Aw]
   ·simp only [bne,beq_eq_false_iff_ne.2 hq,vv,ne_eq,hq,not_false_eq_true,Rd.Be]
  ·refine (ord73 l (by omega)).mono fun n h again => ?_;unfold WJ;simp only [vv,wP];exact h
def PT (b:Bun):Prop:=(0≤b.src∧b.src≤15)∧(0≤b.cre∧b.cre≤1099511627776)∧(0≤b.seq∧b.seq≤1099511627776)∧(b.off=0∧b.tot=0∨(1≤b.tot∧b.tot≤4096)∧(0≤b.off∧b.off≤b.tot-1))
def O8 (b:Bun):Prop:=b.dk=1∧0≤b.dn∧b.dn<16∨b.dk=2∧0≤b.dn∧b.dn<8
def Hf (f:Int) (q:Nat):Bool:=decide (f.toNat / q % 2=1)
def O6 (b:Bun):Prop:=(0≤b.flg∧b.flg≤127)∧(Hf b.flg 4=true→Hf b.flg 64=false)∧(b.tot>0→Hf b.flg 2=false)
def QZ (b:Bun):Prop:=b.pay.size≤4096∧(b.tot>0→1≤b.pay.size∧(b.pay.size:Int)≤b.tot-b.off)
instance (b:Bun):Decidable (PT b):=by unfold PT;exact inferInstance
instance (b:Bun):Decidable (O8 b):=by unfold O8;exact inferInstance
instance (b:Bun):Decidable (O6 b):=by unfold O6;exact inferInstance
instance (b:Bun):Decidable (QZ b):=by unfold QZ;exact inferInstance
structure O9 (b:Bun):Prop where
 id:PT b
 dest:O8 b
 life:1≤b.life∧b.life≤1099511627776-b.cre
 pri:0≤b.pri∧b.pri≤2
 flg:O6 b
 blk:BV b.blocks
 pay:QZ b
theorem s48 (n a c:Int):AL C 48 [tI n,tI a,tI c] [.bool (wi n a c)]:=AL.of (fun m=>e48 m _ _ _) (Ev.of fun m=>by rw [AB];exact Ii n a c)
theorem s46 (b:Bun) (h:PT b):AL C 46 [tI b.src,tI b.cre,tI b.seq,tI b.off,tI b.tot] [tI 0]:=by
 refine AL.of (fun m=>e46 m _ _ _ _ _) ?_;obtain ⟨h1,h2,h3,h4⟩:=h;refine ((s48 b.src 0 15).and ((s48 b.cre 0 1099511627776).and ((s48 b.seq 0 1099511627776).and ((s48 b.tot 1 4096).and (s48 b.off 0 (w64 (b.tot-1))))))).mono fun m h => ?_;obtain ⟨g1,g2,g3,g4,g5⟩:=h;simp only [join_eq,Tp,vv,g1,g2,g3,g4,g5,wi,h1,h2,h3];rcases h4 with ⟨a,c⟩|⟨a,c⟩
 ·simp [a,c,AB]
 ·have e:w64 (b.tot-1)=b.tot-1:=AN (by omega) (by omega);rw [e];have hn:¬b.tot=0:=by omega
  by_cases hz:b.off=0<;>simp [hz,a,c,AB,hn]
  all_goals omega
theorem s47 (b:Bun) (h:O8 b):AL C 47 [tI b.dk,tI b.dn] [tI 0]:=by
 refine AL.of (fun m=>e47 m _ _) (Ev.of fun m => ?_);rcases h with ⟨h1,h2,h3⟩|⟨h1,h2,h3⟩
 ·simp [h1,AB,show ¬b.dn<0 by omega,show ¬16≤b.dn by omega]
 ·simp [h1,AB,show ¬b.dn<0 by omega,show ¬8≤b.dn by omega]
def FlgR (b:Bun):Prop:=(0≤b.flg∧b.flg≤127)∧(Hf b.flg 4=true→Hf b.flg 64=false)∧(¬b.tot=0→Hf b.flg 2=false)
instance (b:Bun):Decidable (FlgR b):=by unfold FlgR;exact inferInstance
theorem TP (f:Int) (hf:0≤f∧f≤127):((Fv .i64 f 4 != 0)=Hf f 4)∧((Fv .i64 f 64 != 0)=Hf f 64)∧((Fv .i64 f 2 != 0)=Hf f 2):=by
 obtain ⟨k,rfl⟩:=Int.eq_ofNat_of_zero_le hf.1;have hk:k<128:=by omega
 have key:∀k:Fin 128,((Fv .i64 ((k.val:Nat):Int) 4 != 0)=Hf ((k.val:Nat):Int) 4)∧((Fv .i64 ((k.val:Nat):Int) 64 != 0)=Hf ((k.val:Nat):Int) 64)∧((Fv .i64 ((k.val:Nat):Int) 2 != 0)=Hf ((k.val:Nat):Int) 2):=by decide
 exact key ⟨k,hk⟩
theorem s49 (b:Bun) (h:O6 b):AL C 49 b.enc [tI 0]:=by
 refine AL.of (fun m=>e49 m _ _ _ _ _ _ _ _ _ _ _ _) ?_;obtain ⟨h1,h2,h3⟩:=h;obtain ⟨a1,a2,a3⟩:=TP b.flg h1;refine (s48 b.flg 0 127).mono fun m g => ?_;simp only [vv,g,wi,h1,a1,a2,a3]
 revert h2 h3
 cases Hf b.flg 4<;>cases Hf b.flg 64<;>cases Hf b.flg 2<;>by_cases ht:b.tot>0<;>simp [ht,AB]
theorem s51 (b:Bun) (h:QZ b) (hi:PT b):AL C 51 b.enc [tI 0]:=by
 refine AL.of (fun m=>e51 m _ _ _ _ _ _ _ _ _ _ _ _) ?_;obtain ⟨h1,h2⟩:=h;refine (s48 (b.pay.size:Nat) 1 (w64 (b.tot-b.off))).mono fun m g => ?_;simp only [vv,g,wi];rw [CT (by omega)];by_cases ht:b.tot>0
 ·obtain ⟨h3,h4⟩:=h2 ht;have e:w64 (b.tot-b.off)=b.tot-b.off:=by have:=hi.2.2.2;exact AN (by omega) (by omega)
  rw [A9 (by omega),e,CT (by simp;omega)]
 ·rw [CT (by omega)]
theorem s16 (b:Bun) (h:O9 b):AL C 16 b.enc [tI 0]:=by refine AL.of (fun m=>e16 m _ _ _ _ _ _ _ _ _ _ _ _) ?_;have hb:=(TL b.blocks).2 h.blk;refine ((s46 b h.id).and ((s47 b h.dest).and ((s48 b.pri 0 2).and ((s49 b h.flg).and ((s50 b.blocks).and (s51 b h.pay h.id)))))).mono fun m g => ?_;obtain ⟨g1,g2,g3,g4,g5,g6⟩:=g;simp only [Bun.enc] at g4 g6;have hl:=h.life;have hc:=h.id.2.1;have e:w64 (1099511627776-b.cre)=1099511627776-b.cre:=AN (by omega) (by omega);simp only [join_eq,Me,vv,g1,g2,g3,g4,g5,g6,wi,h.pri,bne_self_eq_false,hb,e,(show ¬b.life<1 by omega),(show ¬(1099511627776-b.cre<b.life) by omega)]
end Ab
namespace Ab
open Go
def inB (x:BH):ByteArray:=(JI x.kind++JI x.flags)++A4 x.data
def Fu (x:BH):ByteArray:=GG (inB x)
theorem N5 {x:BH} (h:HZ x):(inB x).size≤x.data.size+27:=by obtain ⟨h1,h2,h3⟩:=h;have a1:=E4 x.kind (by unfold inR;omega);have a2:=E4 x.flags (by unfold inR;omega);have a3:=Dk x.data (by omega);rw [inB,Cb,Cb];omega
theorem Gr {x:BH} (h:HZ x):5≤(Fu x).size∧(Fu x).size≤1064:=by have a:=N5 h;have:=h.2.2;have b:=NN (inB x) (by omega);unfold Fu;omega
theorem s55 (x:BH) (h:HZ x):AL C 55 x.enc [.str (Fu x),tI 0]:=by
 refine AL.of (fun m=>e55 m _ _ _) ?_;have h2:=h;obtain ⟨h3,h4,h5⟩:=h2;have k1:inR x.kind:=by unfold inR;omega
 have k2:inR x.flags:=by unfold inR;omega
 have a1:=E4 x.kind k1;have a2:=E4 x.flags k2;have a3:=Dk x.data (by omega);have a4:=N5 h;have hc:=(Kz x).2 h;refine ((s101 x).and ((s19 x.kind k1).and ((s19 x.flags k2).and ((s17 x.data (by omega)).and (s21 (inB x) (by omega)))))).mono fun m g => ?_;obtain ⟨g1,g2,g3,g4,g5⟩:=g;simp only [BH.enc] at g1;simp only [g1,g2,g3,g4,hc,bne_self_eq_false,vv,vE];rw [A9 (by omega),A9 (by rw [Cb];omega)];show Option.bind (AA C m 21 [Tree.str (inB x)]) _=_;rw [g5];simp only [vv,vE];rfl
def Ds (l:List BH):ByteArray:=l.foldl (fun s x=>s++Fu x) (JI (l.length:Nat))
theorem fold_bl (l:List BH) (s:ByteArray):bl (l.foldl (fun s x=>s++Fu x) s)=bl s++(l.map fun x=>bl (Fu x)).flatten:=by
 induction l generalizing s with
 |nil=>simp
 |cons x l ih=>rw [foldl_cons,ih,IU,xJ,xA,zH]
theorem IT (l:List BH):bl (Ds l)=Bi (l.length:Nat)++(l.map fun x=>bl (Fu x)).flatten:=by rw [Ds,fold_bl,K4]
theorem Yz {l:List BH} (h:∀x∈l,HZ x):((l.map fun x=>bl (Fu x)).flatten).length≤1064*l.length:=by
 induction l with
 |nil=>simp
 |cons x l ih=>
  have h1:=Gr (h x (by simp));have h2:=ih fun y hy=>h y (by simp [hy]);rw [xJ,xA,xE,Aj,xF];omega
theorem Js {l:List BH} (h:BV l):(Ds l).size≤8521:=by have h1:=Yz h.2.1;have h2:=El (l.length:Nat) (FH (by have:=h.1;omega));have h3:=h.1;rw [← Aj,IT,xE];omega
theorem RQ:∀{l:List BH} {i:Nat} {y x:BH},Asc l→l[i]? = some y→l[i+1]? = some x→y.kind<x.kind
 |[],i,y,x,h,hy,hx=>by simp at hy
 |[a],i,y,x,h,hy,hx=>by simp at hx
 |a::b::l,0,y,x,h,hy,hx=>by simp at hy hx;subst hy hx;exact h.1
 |a::b::l,i+1,y,x,h,hy,hx=>RQ (l:=b::l) h.2 (by simpa using hy) (by simpa using hx)
theorem s20 (l:List BH) (h:BV l):AL C 20 [.sl 3 (l.map BH.enc)] [.str (Ds l),tI 0]:=by
 refine AL.of (fun m=>e20 m _) ?_;obtain ⟨h1,h2,h3⟩:=h;have k1:inR (l.length:Nat):=FH (by omega);refine Ev.rw (s19 (l.length:Nat) k1) (T':=fun m=>AH (fun p again=>Tj m (l.map BH.enc) p again) m ([.t (.str (JI (l.length:Nat))),.t (tI 0)],[])) (fun m g=>by simp only [vv];rw [CT (by omega),g];simp only [vv,vE]) ?_
 have hsz0:=E4 (l.length:Nat) k1;refine A7 (B:=fun m=>Tj m (l.map BH.enc)) (fun q=>[Tree.str q,tI 0]) l (fun i s=>(([.t (.str s),.t (tI (i:Nat))],[]):List AV×Heap)) (fun _ s x =>.next (s++Fu x)) (fun s=>s) (fun i s=>s.size≤9+1064*i) (JI (l.length:Nat)) rfl (by omega) (C4 (fun s x=>s++Fu x) (fun s=>s) 0 l _)
  (fun i s x hx hI => ?_) (fun i s x s' hx hI hs => ?_) (fun s hI=>Ev.of fun m again => ?_)
 ·have hi:=AW hx;have hb:=Gr (h2 x (xN hx));refine (s55 x (h2 x (xN hx))).mono fun m g again => ?_;simp only [BH.enc] at g;rw [Rd.Aw];unfold Tj;simp only [vv,vE,hx,BH.enc,g,bne_self_eq_false,(show (i:Int)<l.length by omega),BE (show i<4611686018427387904 by omega)];cases i with
  |zero=>
   rw [CT (by decide),A9 (by omega)]
  |succ i=>
   have hy:l[i]? = some l[i]:=zO (by omega);have hlt:=RQ h3 hy hx;have e1:w64 (((i+1:Nat):Int)-1)=(i:Int):=by rw [AN (by omega) (by omega)];omega
   simp only [e1,hy,vv,BH.enc,(show (0:Int)<((i+1:Nat):Int) by omega),(show ¬x.kind≤l[i].kind by omega)];rw [A9 (by omega)]
 ·have hb:=Gr (h2 x (xN hx));cases hs;rw [Cb];omega
 ·unfold Tj;simp only [vv,wP]
theorem FK (s:ByteArray) (i:Nat):bl (s.extract i s.size)=(bl s).drop i:=by rw [Cf];apply vD;rw [xG,Aj];omega
theorem V5 (s:ByteArray):s.extract 0 s.size=s:=Fe (by rw [FK,drop_zero])
theorem Gm (s:ByteArray) (i:Nat):(s.extract i s.size).size=s.size-i:=by rw [← Aj,FK,xG,Aj]
theorem s117 {S:ByteArray} {x:BH} {post:List UInt8} (h:HZ x) (hS:bl S=bl (Fu x)++post) (hz:S.size≤1099511627776):AL C 117 [.str S] [tI x.kind,tI x.flags,.str x.data,tI ((Fu x).size:Nat),tI 0]:=by
 refine AL.of (fun m=>e117 m _) ?_;have h2:=h;obtain ⟨h3,h4,h5⟩:=h2;have k1:inR x.kind:=by unfold inR;omega
 have k2:inR x.flags:=by unfold inR;omega
 have p1:=El x.kind k1;have p2:=El x.flags k2;have a4:=N5 h;have hc:=(Kz x).2 h;have hbl:bl (inB x)=Bi x.kind++(Bi x.flags++bl (A4 x.data)):=by rw [inB,IU,IU,K4,K4,zH]
 have hsz:(inB x).size=(Bi x.kind).length+(Bi x.flags).length+(A4 x.data).size:=by rw [← Aj,hbl];simp [Aj];omega
 have q1:O4 (inB x) x.kind:=⟨k1,by omega,_,hbl⟩
 have e2:bl ((inB x).extract (Bi x.kind).length (inB x).size)=Bi x.flags++bl (A4 x.data):=by rw [FK,hbl,vZ]
 have q2:O4 ((inB x).extract (Bi x.kind).length (inB x).size) x.flags:=⟨k2,by rw [Gm];omega,_,e2⟩
 have e3:bl ((inB x).extract ((Bi x.kind).length+(Bi x.flags).length) (inB x).size)=bl (A4 x.data)++[]:=by rw [FK,hbl,← zH,uA (by simp),yW]
 refine ((s28 (t:=inB x) (post:=post) hS (by omega) hz).and ((s66 q1).and ((s66 q2).and ((s67 e3 (by omega) (by rw [Gm];omega)).and (s101 x))))).mono fun m g => ?_;obtain ⟨g1,g2,g3,g4,g5⟩:=g;simp only [BH.enc] at g5;have w1:w64 (0+(((Bi x.kind).length:Nat):Int))=(((Bi x.kind).length:Nat):Int):=by rw [AN (by omega) (by omega)];omega
 have w2:w64 ((((Bi x.kind).length:Nat):Int)+(((Bi x.flags).length:Nat):Int))=(((Bi x.kind).length+(Bi x.flags).length:Nat):Int):=by rw [AN (by omega) (by omega)];omega
 have w3:w64 ((((Bi x.kind).length+(Bi x.flags).length:Nat):Int)+(((A4 x.data).size:Nat):Int))=(((inB x).size:Nat):Int):=by rw [hsz,AN (by omega) (by omega)];omega
 have z0:(0:Int)≤0:=Int.le_refl _;simp only [g1,vv,vE,bne_self_eq_false,z0,V5,g2,w1,(show (((Bi x.kind).length:Nat):Int)≤((inB x).size:Nat) by omega),g3,w2,(show (((Bi x.kind).length+(Bi x.flags).length:Nat):Int)≤((inB x).size:Nat) by omega),g4,w3,g5,hc];rfl
def H5 (l:List BH) (i:Nat):Nat:=(Bi (l.length:Nat)).length+(((l.take i).map fun x=>bl (Fu x)).flatten).length
theorem LX {l:List BH} {i:Nat} {x:BH} (h:l[i]? = some x):H5 l (i+1)=H5 l i+(Fu x).size:=by
 have:l.take (i+1)=l.take i++[x]:=by rw [uI,h];rfl
 unfold H5;rw [this,wZ,uD,xE];simp [Aj];omega
theorem P8 {l:List BH} {i:Nat} {x:BH} (h:l[i]? = some x) {S:ByteArray} {post:List UInt8} (hS:bl S=bl (Ds l)++post) :
  (bl S).drop (H5 l i)=bl (Fu x)++((((l.drop (i+1)).map fun x=>bl (Fu x)).flatten)++post):=by
 have hi:=AW h;have e:l=l.take i++(x::l.drop (i+1)):=by have h9:=zO hi;rw [h] at h9;have h10:=xY hi;rw [← Option.some.inj h9] at h10;rw [← h10,uJ]
 have e2:(l.map fun x=>bl (Fu x)).flatten=((l.take i).map fun x=>bl (Fu x)).flatten++(bl (Fu x)++((l.drop (i+1)).map fun x=>bl (Fu x)).flatten):=by
  conv=>lhs;rw [e]
  rw [wZ,uD,xJ,xA]
 rw [hS,IT,e2,H5,zH,zH,← zH (Bi _),uA (by rw [xE]),zH]
theorem s69 {S:ByteArray} {l:List BH} {post:List UInt8} (h:BV l) (hS:bl S=bl (Ds l)++post) (hz:S.size≤1099511627776):AL C 69 [.str S] [.sl 3 (l.map BH.enc),tI ((Ds l).size:Nat),tI 0]:=by
 refine AL.of (fun m=>e69 m _) ?_;obtain ⟨h1,h2,h3⟩:=h;have k1:inR (l.length:Nat):=FH (by omega);have q1:O4 S (l.length:Nat):=⟨k1,hz,_,by rw [hS,IT,zH]⟩
 have hlen:H5 l l.length≤S.size:=by rw [← Aj S,hS,IT,H5,uK,xE,xE];omega
 have hpos:∀i x,l[i]? = some x→H5 l (i+1)≤S.size:=fun i x hx=>by have:=P8 hx hS;have h9:=congrArg length this;rw [xG,xE,Aj,Aj] at h9;rw [LX hx];have hb:=Gr (h2 x (xN hx));omega
 have hfin:H5 l l.length=(Ds l).size:=by rw [← Aj (Ds l),IT,H5,uK,xE]
 refine Ev.rw (s66 q1) (T':=fun m=>AH (fun p again=>Te m [tI (l.length:Nat),tI ((Bi (l.length:Nat)).length:Nat),tI 0] S p again) m ([.sref 0 0 0 0,.t (tI (H5 l 0:Nat)),.t (tI 0)],[.row false 0 3 []])) (fun m g=>by simp only [g,vv,vE,bne_self_eq_false];rw [CT (by omega),CT (by omega)];rfl) ?_
 refine A7 (B:=fun m=>Te m [tI (l.length:Nat),tI ((Bi (l.length:Nat)).length:Nat),tI 0] S) (fun q=>[Tree.sl 3 (l.map BH.enc),tI (H5 l l.length:Nat),tI 0]) l
  (fun i _=>(([.sref 0 i 0 i,.t (tI (H5 l i:Nat)),.t (tI (i:Nat))],[.row false i 3 ((l.take i).map BH.enc)]):List AV×Heap)) (fun _ _ _ =>.next ()) (fun _=>()) (fun _ _=>True) () rfl trivial rfl
  (fun i s x hx hI => ?_) (fun _ _ _ _ _ _ _=>trivial) (fun s hI=>Ev.of fun m again => ?_) |>.mono fun m g => ?_
 ·have hi:=AW hx;have hp:=hpos i x hx;have hb:=Gr (h2 x (xN hx));rw [LX hx] at hp;have hd:bl (S.extract (H5 l i) S.size)=bl (Fu x)++((((l.drop (i+1)).map fun x=>bl (Fu x)).flatten)++post):=by rw [FK,P8 hx hS]
  refine (s117 (h2 x (xN hx)) hd (by rw [Gm];omega)).mono fun m g again => ?_;have e1:w64 ((H5 l i:Int)+((Fu x).size:Int))=((H5 l (i+1):Nat):Int):=by rw [LX hx,AN (by omega) (by omega)];omega
  have htk:((l.take i).map BH.enc).length=i:=by simp;omega
  have e2:take i ((l.take i).map BH.enc)=(l.take i).map BH.enc:=vD (by rw [htk];exact yE _);have e3:l.take (i+1)=l.take i++[x]:=by rw [uI,hx];rfl
  rw [Rd.Aw];unfold Te;simp only [vv,reduceCtorEq,vE,Ad,g,bne_self_eq_false,(show (i:Int)<l.length by omega),(show ((H5 l i:Nat):Int)≤(S.size:Nat) by omega),BE (show i<4611686018427387904 by omega),J69_3];cases i with
  |zero=>
   rw [CT (by decide)];simp only [vv,e1,e3,uL,vA,xR];rfl
  |succ i=>
   have hy:l[i]? = some l[i]:=zO (by omega);have hlt:=RQ h3 hy hx;have e5:w64 (((i+1:Nat):Int)-1)=(i:Int):=by rw [AN (by omega) (by omega)];omega
   have e6:((l.take (i+1)).map BH.enc)[i]? = some (l[i]).enc:=by rw [zQ,zT (by omega),hy];rfl
   simp only [e5,vv,(show (0:Int)<((i+1:Nat):Int) by omega),(show ((i:Nat):Int)<((i+1:Nat):Int) by omega),zT (show i<i+1 by omega),hy,BH.enc,(show ¬x.kind≤l[i].kind by omega),e1,e3,(show i+1+1≤1073741824 by omega)];rw [A9 (by rw [zX];omega),e2,wZ];rfl
 ·unfold Te;simp only [vv,reduceCtorEq,Ad,wP,uK,vD (show (l.map BH.enc).length≤l.length by simp)]
 ·rw [hfin] at g;exact g
end Ab
namespace Ab
open Go
def LW (p:List UInt8) (L:List (List UInt8)) (i:Nat):Nat:=p.length+(L.take i).flatten.length
theorem Pk {p:List UInt8} {L:List (List UInt8)} {i:Nat} {x:List UInt8} (h:L[i]? = some x):LW p L (i+1)=LW p L i+x.length:=by
 have:L.take (i+1)=L.take i++[x]:=by rw [uI,h];rfl
 unfold LW;rw [this,uD,xE];simp;omega
theorem P7 {p post:List UInt8} {L:List (List UInt8)} {i:Nat} {x:List UInt8} (h:L[i]? = some x):(p++(L.flatten++post)).drop (LW p L i)=x++((L.drop (i+1)).flatten++post):=by
 have hi:=AW h;have e:L=L.take i++(x::L.drop (i+1)):=by have h9:=zO hi;rw [h] at h9;have h10:=xY hi;rw [← Option.some.inj h9] at h10;rw [← h10,uJ]
 have e2:L.flatten=(L.take i).flatten++(x++(L.drop (i+1)).flatten):=by
  conv=>lhs;rw [e]
  rw [uD,xA]
 rw [e2,LW,zH,← zH p,uA (by rw [xE]),zH]
theorem Y7 {p post:List UInt8} {L:List (List UInt8)}:(p++(L.flatten++post)).drop (LW p L L.length)=post:=by rw [LW,uK,← zH,uA (by rw [xE])]
theorem posG_le {p:List UInt8} {L:List (List UInt8)} {i:Nat} {x:List UInt8} (h:L[i]? = some x):LW p L (i+1)≤p.length+L.flatten.length:=by
 have h9:=congrArg length (P7 (p:=p) (post:=[]) h);rw [Pk h];simp only [yW,xG,xE] at h9;have hx:LW p L i≤p.length+L.flatten.length:=by
  unfold LW;have e:L.flatten=(L.take i).flatten++(L.drop i).flatten:=by rw [← uD,uJ]
  rw [e,xE];omega
 omega
theorem nc4:((4:Nat):Int)=4:=rfl
theorem nc5:((5:Nat):Int)=5:=rfl
theorem nc6:((6:Nat):Int)=6:=rfl
theorem nc7:((7:Nat):Int)=7:=rfl
theorem nc8:((8:Nat):Int)=8:=rfl
theorem nc9:((9:Nat):Int)=9:=rfl
theorem nc10:((10:Nat):Int)=10:=rfl
def JH:ByteArray:=ByteArray.mk #[77,66,49]
def nums (b:Bun):List Int:=[b.src,b.cre,b.seq,b.off,b.tot,b.dk,b.dn,b.life,b.pri,b.flg]
def hdL (b:Bun):List UInt8:=bl (A4 JH)++((nums b).map Bi).flatten
def Ce (b:Bun):ByteArray:=(mkB (hdL b)++Ds b.blocks)++A4 b.pay
def HE (b:Bun):ByteArray:=GG (Ce b)
theorem KX {b:Bun} (h:O9 b):∀x∈nums b,inR x:=by have h1:=h.id;have h2:=h.dest;have h3:=h.life;have h4:=h.pri;have h5:=h.flg.1;unfold PT at h1;unfold O8 at h2;intro x hx;simp only [nums,xL,List.not_mem_nil,or_false] at hx;unfold inR;omega
theorem Kt {l:List Int} (h:∀x∈l,inR x):(l.map Bi).flatten.length≤9*l.length:=by
 induction l with
 |nil=>simp
 |cons x l ih=>
  have h1:=El x (h x (by simp));have h2:=ih fun y hy=>h y (by simp [hy]);rw [xJ,xA,xE,xF];omega
theorem Iu:(A4 JH).size=4:=by decide
theorem Q7 {b:Bun} (h:O9 b):(hdL b).length≤94:=by have:=Kt (KX h);rw [hdL,xE,Aj,Iu];have:(nums b).length=10:=rfl;omega
theorem OV (b:Bun):bl (Ce b)=bl (A4 JH)++(((nums b).map Bi).flatten++(bl (Ds b.blocks)++bl (A4 b.pay))):=by rw [Ce,IU,IU,IS,hdL,zH,zH]
theorem OU {b:Bun} (h:O9 b):(Ce b).size≤13000:=by have h1:=Q7 h;have h2:=Js h.blk;have h3:=Dk b.pay (by have:=h.pay.1;omega);have h4:=h.pay.1;rw [Ce,Cb,Cb,DL];omega
def stE (b:Bun) (i:Nat) (l:List UInt8):List AV×Heap:=([.sref 1 i 0 l.length,.t (tI (i:Nat))],[.box [.t (tI b.src),.t (tI b.cre),.t (tI b.seq),.t (tI b.off),.t (tI b.tot),.t (tI b.dk),.t (tI b.dn),.t (tI b.life),.t (tI b.pri),.t (tI b.flg),.t (.sl 3 (b.blocks.map BH.enc)),.t (.str b.pay)],.row false i 1 (l.map tb)])
theorem s6 (b:Bun) (h:O9 b):AL C 6 b.enc [.str (HE b),tI 0]:=by
 refine AL.of (fun m=>e6 m _ _ _ _ _ _ _ _ _ _ _ _) ?_;have hbs:=OU h;have hh:=Q7 h;have hb1:=Js h.blk;have hb2:=Dk b.pay (by have:=h.pay.1;omega);have hm:AL C 17 [.str (ByteArray.mk #[77,66,49])] [.str (A4 JH),tI 0]:=s17 JH (by decide);refine Ev.rw ((s16 b h).and hm) (T':=fun m=>AH (fun p again=>Zk m p again) m (stE b 0 (bl (A4 JH)))) (fun m g=>by obtain ⟨g1,g2⟩:=g;simp only [Bun.enc] at g1;simp only [g1,g2,vv,vE,bne_self_eq_false,stE,Aj,Gb];rfl) ?_
 refine A7 (B:=fun m=>Zk m) id (nums b) (fun i l=>stE b i l) (fun _ l x =>.next (l++Bi x)) (fun l=>[Tree.str (HE b),tI 0]) (fun i l=>l=bl (A4 JH)++(((nums b).take i).map Bi).flatten) (bl (A4 JH)) rfl (by simp) ?_
  (fun i l x hx hI => ?_) (fun i l x l' hx hI hs => ?_) (fun l hI => ?_)
 ·rw [show (fun (_:Nat) (l:List UInt8) (x:Int)=>(Rd.next (l++Bi x):Rd (List UInt8) (List Tree)))=fun _ s x =>.next ((fun s x=>s++Bi x) s x) from rfl];exact C4 (fun (s:List UInt8) x=>s++Bi x) (fun _=>[Tree.str (HE b),tI 0]) 0 (nums b) _
 ·have hr:=KX h x (xN hx);have hlen:l.length≤94:=by
   rw [hI,xE,Aj,Iu];have h9:=Kt (l:=(nums b).take i) (fun y hy=>KX h y (List.mem_of_mem_take hy));have:((nums b).take i).length≤10:=by rw [zX];exact Nat.min_le_right _ _
   omega
  have hp:=El x hr;have hi:i<10:=AW hx;refine (s19 x hr).mono fun m g again => ?_;have q1:¬((Bi x).length=0):=by omega
  have q2:l.length+(Bi x).length≤1073741824:=by omega
  have q3:take l.length (l.map tb)=l.map tb:=vD (by simp);have key:∀(k:Nat) (y:Int),y=x→i=k→(nums b)[k]? = some y→True:=fun _ _ _ _ _=>trivial;rw [Rd.Aw];unfold Zk;have hcase:i=0∨i=1∨i=2∨i=3∨i=4∨i=5∨i=6∨i=7∨i=8∨i=9:=by omega
  rcases hcase with rfl|rfl|rfl|rfl|rfl|rfl|rfl|rfl|rfl|rfl
  all_goals
   simp only [nums,xC,uE,Option.some.injEq] at hx;subst hx;simp only [stE,vv,reduceCtorEq,vE,Al,Au,nc0,nc1,nc2,nc3,nc4,nc5,nc6,nc7,nc8,nc9,nc10,Int.reduceLT,Int.reduceLE,Int.reduceEq,g,Gb,K4,q1,q2,q3,xE,wZ,yE];rfl
 ·cases hs;rw [hI,uI,hx,wZ,uD];simp
 ·have hl:l=hdL b:=by rw [hI];show _++(((nums b).take 10).map Bi).flatten=_;rfl
  subst hl;refine ((s20 b.blocks h.blk).and ((s17 b.pay (by have:=h.pay.1;omega)).and (s21 (Ce b) (by omega)))).mono fun m g again => ?_;obtain ⟨g1,g2,g3⟩:=g;have hp1:=h.pay.1;have q3:take (hdL b).length ((hdL b).map tb)=(hdL b).map tb:=vD (by simp);have hn:(nums b).length=10:=rfl;unfold Zk;simp only [hn,stE,vv,reduceCtorEq,vE,Al,Au,nc10,wP,g1,g2,q3,G4,HD];rw [A9 (by rw [DL];omega),A9 (by rw [Cb,DL];omega)];show Option.bind (AA C m 21 [Tree.str (Ce b)]) _=_;rw [g3];simp only [vv,vE];rfl
def fil (i j:Nat) (x:Int):Int:=if j<i then x else 0
def F5 (b:Bun) (i:Nat):Nat:=LW (bl (A4 JH)) ((nums b).map Bi) i
def stD (b:Bun) (i:Nat):List AV×Heap:=([.t (tI (i:Nat))],[.row false 0 3 [],.box [.t (tI 0),.t (tI 0),.t (tI 0),.t (tI 0),.t (tI 0),.t (tI 0),.t (tI 0),.t (tI 0),.t (tI 0),.t (tI 0),.sref 0 0 0 0,.t (.str (ByteArray.mk #[]))],
 .box [.t (.str (Ce b)),.t (tI (F5 b i:Nat)),.t (.bool false)],.row false 0 3 [],.box [.t (tI (fil i 0 b.src)),.t (tI (fil i 1 b.cre)),.t (tI (fil i 2 b.seq)),.t (tI (fil i 3 b.off)),.t (tI (fil i 4 b.tot)),.t (tI (fil i 5 b.dk)),.t (tI (fil i 6 b.dn)),.t (tI (fil i 7 b.life)),.t (tI (fil i 8 b.pri)),.t (tI (fil i 9 b.flg)),.sref 3 0 0 0,.t (.str (ByteArray.mk #[]))]])
theorem Po (b:Bun):F5 b 10=(hdL b).length:=by have:((nums b).map Bi).take 10=(nums b).map Bi:=rfl;rw [F5,LW,this,hdL,xE]
theorem s11 (b:Bun) (h:O9 b):AL C 11 [.str (HE b)] (b.enc++[tI 0]):=by
 refine AL.of (fun m=>e11 m _) ?_;have hbs:=OU h;have hh:=Q7 h;have hb1:=Js h.blk;have hp1:=h.pay.1;have hb2:=Dk b.pay (by omega);have hz:=NN (Ce b) (by omega);have hbz:(Ce b).size=(hdL b).length+(Ds b.blocks).size+(A4 b.pay).size:=by rw [Ce,Cb,Cb,DL]
 have hop:AL C 28 [.str (HE b)] [.str (Ce b),tI ((GG (Ce b)).size:Nat),tI 0]:=s28 (post:=[]) (by rw [yW];rfl) (by omega) (by unfold HE;omega);have hmg:AL C 67 [.str ((Ce b).extract 0 (Ce b).size)] [.str JH,tI ((A4 JH).size:Nat),tI 0]:=by rw [V5];exact s67 (OV b) (by decide) (by omega)
 refine Ev.rw (hop.and hmg) (T':=fun m=>AH (fun p again=>Oz m p again) m (stD b 0)) (fun m g=>by
  obtain ⟨g1,g2⟩:=g;have e1:w64 (0+(((A4 JH).size:Nat):Int))=((F5 b 0:Nat):Int):=by rw [Iu,F5,LW,Aj,Iu];rfl
  have e2:(JH != ByteArray.mk #[77,66,49])=false:=by decide
  have e3:(HE b).size=(GG (Ce b)).size:=rfl;have z0:(0:Int)≤0:=Int.le_refl _;simp only [g1,g2,vv,vE,Aq,bne_self_eq_false,z0,e1,e2,e3,Zw,stD];rfl) ?_
 refine A7 (B:=fun m=>Oz m) id (nums b) (fun i _=>stD b i) (fun _ _ _ =>.next ()) (fun _=>b.enc++[tI 0]) (fun _ _=>True) () rfl trivial rfl
  (fun i s x hx hI => ?_) (fun _ _ _ _ _ _ _=>trivial) (fun s hI => ?_)
 ·have hr:=KX h x (xN hx);have hi:i<10:=AW hx;have hxe:((nums b).map Bi)[i]? = some (Bi x):=by rw [zQ,hx];rfl
  have hle:=posG_le (p:=bl (A4 JH)) hxe;have hfl:(bl (A4 JH)).length+((nums b).map Bi).flatten.length=(hdL b).length:=by rw [hdL,xE]
  have hsu:=Pk (p:=bl (A4 JH)) hxe;have hd:bl ((Ce b).extract (F5 b i) (Ce b).size)=Bi x++((((nums b).map Bi).drop (i+1)).flatten++(bl (Ds b.blocks)++bl (A4 b.pay))):=by rw [FK,OV];exact P7 hxe
  have hI:O4 ((Ce b).extract (F5 b i) (Ce b).size) x:=⟨hr,by rw [Gm];omega,_,hd⟩
  refine (s66 hI).mono fun m g again => ?_;have hpl:=El x hr;have e1:w64 ((F5 b i:Int)+(((Bi x).length:Nat):Int))=((F5 b (i+1):Nat):Int):=by unfold F5 at *;rw [hsu,AN (by omega) (by omega)];omega
  have e2:((F5 b i:Nat):Int)≤((Ce b).size:Nat):=by unfold F5 at *;omega
  rw [Rd.Aw];unfold Oz;have hcase:i=0∨i=1∨i=2∨i=3∨i=4∨i=5∨i=6∨i=7∨i=8∨i=9:=by omega
  rcases hcase with rfl|rfl|rfl|rfl|rfl|rfl|rfl|rfl|rfl|rfl
  all_goals
   simp only [nums,xC,uE,Option.some.injEq] at hx;subst hx;simp only [stD,vv,vE,As,Ar,Aq,Ad,Ag,Af,Ai,nc0,nc1,nc2,nc3,nc4,nc5,nc6,nc7,nc8,nc9,nc10,Int.reduceLT,Int.reduceLE,Int.reduceEq,e2,g,e1,bne_self_eq_false,J11_1,J11_2,J11_3,J11_4,J11_5,J11_6,J11_7,J11_8,J11_9,aP,aO,aN,aM,aK,aJ,aH,aG,aF,aE,aD,aC,aA,Z9,Z8,Z7,Z6,Z5,Z4,Z3,Z2];rfl
 ·have hn:(nums b).length=10:=rfl;have d1:bl ((Ce b).extract (F5 b 10) (Ce b).size)=bl (Ds b.blocks)++bl (A4 b.pay):=by rw [FK,OV];exact Y7
  have d2:bl ((Ce b).extract (F5 b 10+(Ds b.blocks).size) (Ce b).size)=bl (A4 b.pay)++[]:=by rw [FK,← drop_drop,← FK (Ce b) (F5 b 10),d1,← Aj (Ds b.blocks),vZ,yW]
  have d3:(Ce b).extract (F5 b 10+(Ds b.blocks).size+(A4 b.pay).size) (Ce b).size=ByteArray.mk #[]:=by apply Fe;rw [FK,ZL,List.drop_of_length_le];rw [Aj,hbz,Po];exact yE _
  refine ((s69 h.blk d1 (by rw [Gm];omega)).and ((s67 d2 (by omega) (by rw [Gm];omega)).and (s16 b h))).mono fun m g again => ?_;obtain ⟨g1,g2,g3⟩:=g;have hnp:=Po b;have e1:((F5 b 10:Nat):Int)≤((Ce b).size:Nat):=by omega
  have e2:w64 (((F5 b 10:Nat):Int)+(((Ds b.blocks).size:Nat):Int))=((F5 b 10+(Ds b.blocks).size:Nat):Int):=by rw [AN (by omega) (by omega)];omega
  have e3:((F5 b 10+(Ds b.blocks).size:Nat):Int)≤((Ce b).size:Nat):=by omega
  have e4:w64 (((F5 b 10+(Ds b.blocks).size:Nat):Int)+(((A4 b.pay).size:Nat):Int))=((F5 b 10+(Ds b.blocks).size+(A4 b.pay).size:Nat):Int):=by rw [AN (by omega) (by omega)];omega
  have e5:((F5 b 10+(Ds b.blocks).size+(A4 b.pay).size:Nat):Int)≤((Ce b).size:Nat):=by omega
  have e6:(ByteArray.mk #[] != ByteArray.mk #[])=false:=by decide
  simp only [Bun.enc] at g3;rw [hn];unfold Oz;simp only [stD,vv,vE,As,Ar,Ad,Ag,Af,Ai,nc10,wP,e1,g1,bne_self_eq_false,Z1,Zx,e2,e3,g2,Z0,Zz,e4,Zy,e5,d3,e6];show Option.bind (AA C m 16 [tI b.src,tI b.cre,tI b.seq,tI b.off,tI b.tot,tI b.dk,tI b.dn,tI b.life,tI b.pri,tI b.flg,.sl 3 (b.blocks.map BH.enc),.str b.pay]) _=_;rw [g3];simp only [vv,bne_self_eq_false];rfl
end Ab
namespace Ab
open Go
theorem s46g (b:Bun) (h:¬PT b):AL C 46 [tI b.src,tI b.cre,tI b.seq,tI b.off,tI b.tot] [tI 2]:=by
 refine AL.of (fun m=>e46 m _ _ _ _ _) ?_;refine ((s48 b.src 0 15).and ((s48 b.cre 0 1099511627776).and ((s48 b.seq 0 1099511627776).and ((s48 b.tot 1 4096).and (s48 b.off 0 (w64 (b.tot-1))))))).mono fun m g => ?_;obtain ⟨g1,g2,g3,g4,g5⟩:=g;unfold PT at h;by_cases h1:0≤b.src∧b.src≤15
 ·by_cases h2:0≤b.cre∧b.cre≤1099511627776
  ·by_cases h3:0≤b.seq∧b.seq≤1099511627776
   ·by_cases h5:1≤b.tot∧b.tot≤4096
    ·have e:w64 (b.tot-1)=b.tot-1:=AN (by omega) (by omega);rw [e] at g5;have h6:¬(0≤b.off∧b.off≤b.tot-1):=by omega
     have hz:¬b.off=0:=by omega
     simp only [join_eq,Tp,vv,g1,g2,g3,g4,g5,e,wi,h1,h2,h3,h5,h6,and_self,beq_eq_false_iff_ne.2 hz]
    ·by_cases hz:b.off=0
     ·have ht:¬b.tot=0:=by omega
      simp only [join_eq,Tp,vv,g1,g2,g3,g4,wi,h1,h2,h3,h5,hz,and_self,beq_self_eq_true,beq_eq_false_iff_ne.2 ht]
     ·simp only [join_eq,Tp,vv,g1,g2,g3,g4,g5,wi,h1,h2,h3,h5,and_self,beq_eq_false_iff_ne.2 hz]
   ·simp only [vv,g1,g2,g3,wi,h1,h2,h3,and_self]
  ·simp only [vv,g1,g2,wi,h1,h2,and_self]
 ·simp only [vv,g1,wi,h1]
theorem s47g (b:Bun):∃c,AL C 47 [tI b.dk,tI b.dn] [tI c]∧(c=0→O8 b):=by
 refine ⟨if b.dk=1 then (if b.dn<0 then 2 else if b.dn≥16 then 2 else 0) else if b.dk=2 then (if b.dn<0 then 2 else if b.dn≥8 then 2 else 0) else 8,?_,fun h => ?_⟩
 ·refine AL.of (fun m=>e47 m _ _) (Ev.of fun m => ?_);simp only [AB,beq_iff_eq,decide_eq_true_eq]
  repeat' split
  all_goals rfl
 ·unfold O8
  revert h
  repeat' split
  all_goals omega
theorem s49g (b:Bun):∃c,AL C 49 b.enc [tI c]∧(c=0→O6 b):=by
 by_cases h1:0≤b.flg∧b.flg≤127
 ·obtain ⟨a1,a2,a3⟩:=TP b.flg h1;refine ⟨if O6 b then 0 else 1,?_,fun h => ?_⟩
  ·refine AL.of (fun m=>e49 m _ _ _ _ _ _ _ _ _ _ _ _) ((s48 b.flg 0 127).mono fun m g => ?_);unfold O6;simp only [vv,g,wi,h1,a1,a2,a3];cases Hf b.flg 4<;>cases Hf b.flg 64<;>cases Hf b.flg 2<;>by_cases ht:b.tot>0<;>simp [ht,AB]
  ·split at h
   ·assumption
   ·cases h
 ·refine ⟨1,AL.of (fun m=>e49 m _ _ _ _ _ _ _ _ _ _ _ _) ((s48 b.flg 0 127).mono fun m g => ?_),fun e=>by cases e⟩;simp only [vv,g,wi,h1]
theorem s51g (b:Bun) (hi:PT b):∃c,AL C 51 b.enc [tI c]∧(c=0→QZ b):=by
 have e:w64 (b.tot-b.off)=b.tot-b.off:=by have:=hi.2.2.2;exact AN (by omega) (by omega)
 refine ⟨if (b.pay.size:Int)>4096 then 4 else if b.tot>0 then (if 1≤(b.pay.size:Int)∧(b.pay.size:Int)≤b.tot-b.off then 0 else 10) else 0,?_,fun h => ?_⟩
 ·refine AL.of (fun m=>e51 m _ _ _ _ _ _ _ _ _ _ _ _) ((s48 (b.pay.size:Nat) 1 (w64 (b.tot-b.off))).mono fun m g => ?_);rw [e] at g;simp only [vv,e,g,wi,AB];by_cases h1:(b.pay.size:Int)>4096
  ·simp only [h1,if_true]
  ·by_cases h2:b.tot>0
   ·by_cases h3:1≤(b.pay.size:Int)∧(b.pay.size:Int)≤b.tot-b.off<;>simp [h1,h2,h3]
   ·simp [h1,h2]
 ·unfold QZ
  revert h
  repeat' split
  all_goals omega
theorem s16g (b:Bun):∃c,AL C 16 b.enc [tI c]∧(c=0→O9 b):=by
 by_cases h1:PT b;rotate_left
 ·refine ⟨2,AL.of (fun m=>e16 m _ _ _ _ _ _ _ _ _ _ _ _) ((s46g b h1).mono fun m g => ?_),fun e=>by cases e⟩;simp only [vv,g,bne,(show ((2:Int)==0)=false from rfl)]
 obtain ⟨c2,g2,i2⟩:=s47g b;by_cases h2:c2=0;rotate_left
 ·refine ⟨c2,AL.of (fun m=>e16 m _ _ _ _ _ _ _ _ _ _ _ _) (((s46 b h1).and g2).mono fun m g => ?_),fun e=>(h2 e).elim⟩;simp only [vv,g.1,g.2,bne,beq_eq_false_iff_ne.2 h2,beq_self_eq_true]
 subst h2;have hd:=i2 rfl;have hc:=h1.2.1;have e:w64 (1099511627776-b.cre)=1099511627776-b.cre:=AN (by omega) (by omega);by_cases h3:1≤b.life∧b.life≤1099511627776-b.cre;rotate_left
 ·refine ⟨2,AL.of (fun m=>e16 m _ _ _ _ _ _ _ _ _ _ _ _) (((s46 b h1).and g2).mono fun m g => ?_),fun e=>by cases e⟩;by_cases h4:b.life<1
  ·simp only [join_eq,Me,vv,g.1,g.2,bne_self_eq_false,h4]
  ·simp only [join_eq,Me,vv,g.1,g.2,bne_self_eq_false,h4,e,(show 1099511627776-b.cre<b.life by omega)]
 have l1:¬b.life<1:=by omega
 have l2:¬(1099511627776-b.cre<b.life):=by omega
 by_cases h5:0≤b.pri∧b.pri≤2;rotate_left
 ·refine ⟨8,AL.of (fun m=>e16 m _ _ _ _ _ _ _ _ _ _ _ _) (((s46 b h1).and (g2.and (s48 b.pri 0 2))).mono fun m g => ?_),fun e=>by cases e⟩;obtain ⟨k1,k2,k3⟩:=g;simp only [join_eq,Me,vv,k1,k2,k3,bne_self_eq_false,l1,l2,e,wi,h5]
 obtain ⟨c6,g6,i6⟩:=s49g b;by_cases h6:c6=0;rotate_left
 ·refine ⟨c6,AL.of (fun m=>e16 m _ _ _ _ _ _ _ _ _ _ _ _) (((s46 b h1).and (g2.and ((s48 b.pri 0 2).and g6))).mono fun m g => ?_),fun e=>(h6 e).elim⟩;obtain ⟨k1,k2,k3,k4⟩:=g;simp only [Bun.enc] at k4;simp only [join_eq,Me,vv,k1,k2,k3,k4,l1,l2,e,wi,h5,bne,beq_eq_false_iff_ne.2 h6,beq_self_eq_true,and_self]
 subst h6;by_cases h7:XJ b.blocks=0;rotate_left
 ·refine ⟨XJ b.blocks,AL.of (fun m=>e16 m _ _ _ _ _ _ _ _ _ _ _ _) (((s46 b h1).and (g2.and ((s48 b.pri 0 2).and (g6.and (s50 b.blocks))))).mono fun m g => ?_),fun e=>(h7 e).elim⟩;obtain ⟨k1,k2,k3,k4,k5⟩:=g;simp only [Bun.enc] at k4;simp only [join_eq,Me,vv,k1,k2,k3,k4,k5,l1,l2,e,wi,h5,bne,beq_eq_false_iff_ne.2 h7,beq_self_eq_true,and_self]
 obtain ⟨c8,g8,i8⟩:=s51g b h1;refine ⟨c8,AL.of (fun m=>e16 m _ _ _ _ _ _ _ _ _ _ _ _) (((s46 b h1).and (g2.and ((s48 b.pri 0 2).and (g6.and ((s50 b.blocks).and g8))))).mono fun m g => ?_),fun h8=>⟨h1,hd,h3,h5,i6 rfl,(TL b.blocks).1 h7,i8 h8⟩⟩;obtain ⟨k1,k2,k3,k4,k5,k6⟩:=g;simp only [Bun.enc] at k4 k6;simp only [join_eq,Me,vv,k1,k2,k3,k4,k5,k6,bne_self_eq_false,l1,l2,e,wi,h5,h7,and_self]
theorem s6e (b:Bun) (c:Int) (h:AL C 16 b.enc [tI c]) (hc:¬c=0):AL C 6 b.enc [.str (ByteArray.mk #[]),tI c]:=by refine AL.of (fun m=>e6 m _ _ _ _ _ _ _ _ _ _ _ _) (h.mono fun m g => ?_);simp only [Bun.enc] at g;simp only [vv,g,bne,beq_eq_false_iff_ne.2 hc]
end Ab
namespace Ab
open Go
def tBo (b:Bool):List Tree:=[.bool b]
def Yw (z:Nat):Bool:=if 200<z then (if z≤1024 then true else decide (1034<z)) else decide (1034<z)
def Tx (_:Nat) (_:Unit) (x:BH):Rd Unit Bool:=if Yw x.data.size then .done true else .next ()
theorem s4 (b:Bun):∃r,AL C 4 b.enc [.bool r]:=by
 by_cases h1:12<b.blocks.length
 ·exact ⟨true,AL.of (fun m=>e4 m _ _ _ _ _ _ _ _ _ _ _ _) (Ev.of fun m=>by simp only [vv];rw [A9 (by omega)])⟩
 have hL:Ev fun m=>AH (fun p again=>Ti m (b.blocks.map BH.enc) p again) m (([.t (tI ((0:Nat):Int))],[]):List AV×Heap)=some (tBo (CJ Tx (fun _=>false) 0 b.blocks ())):=by
  refine A7 (B:=fun m=>Ti m (b.blocks.map BH.enc)) tBo b.blocks (fun i _=>(([.t (tI (i:Nat))],[]):List AV×Heap)) Tx (fun _=>false) (fun _ _=>True) () rfl trivial rfl
   (fun i s x hx hI=>Ev.of fun m again => ?_) (fun _ _ _ _ _ _ _=>trivial) (fun s hI=>Ev.of fun m again => ?_)
  ·have hi:i<b.blocks.length:=AW hx;have hi':((i:Nat):Int)<((b.blocks.length:Nat):Int):=by omega
   have hx':(b.blocks.map BH.enc)[i]? = some x.enc:=by rw [zQ,hx];rfl
   have hw:w64 (((i:Nat):Int)+1)=((i+1:Nat):Int):=by rw [AN (by omega) (by omega)];omega
   unfold Ti Tx Yw;simp only [vv,hi',hx',BH.enc,vX,hw,AB];by_cases q1:200<x.data.size
   ·have q1':((x.data.size:Nat):Int)>200:=by omega
    by_cases q2:x.data.size≤1024
    ·have q2':((x.data.size:Nat):Int)≤1024:=by omega
     simp only [q1,q1',q2,q2',if_true];rfl
    ·have q2':¬((x.data.size:Nat):Int)≤1024:=by omega
     by_cases q3:1034<x.data.size
     ·have q3':((x.data.size:Nat):Int)>1034:=by omega
      simp only [q1,q1',q2,q2',q3,q3',if_true,if_false,decide_true];rfl
     ·have q3':¬((x.data.size:Nat):Int)>1034:=by omega
      simp only [q1,q1',q2,q2',q3,q3',if_true,if_false,decide_false];rfl
   ·have q1':¬((x.data.size:Nat):Int)>200:=by omega
    have q3:¬1034<x.data.size:=by omega
    have q3':¬((x.data.size:Nat):Int)>1034:=by omega
    simp only [q1,q1',q3,q3',if_false,decide_false];rfl
  ·unfold Ti;simp only [vv,wP];rfl
 have key:∃r,Ev fun m=>cnd (decide (((b.pay.size:Nat):Int)>200)=true) (cnd (decide (((b.pay.size:Nat):Int)≤4096)=true) (some [Tree.bool true]) (cnd (decide (((b.pay.size:Nat):Int)>4106)=true) (some [Tree.bool true]) (AH (fun p again=>Ti m (b.blocks.map BH.enc) p again) m (([.t (tI ((0:Nat):Int))],[]):List AV×Heap)))) (cnd (decide (((b.pay.size:Nat):Int)>4106)=true) (some [Tree.bool true]) (AH (fun p again=>Ti m (b.blocks.map BH.enc) p again) m (([.t (tI ((0:Nat):Int))],[]):List AV×Heap)))=some [Tree.bool r]:=by
  by_cases g1:((b.pay.size:Nat):Int)>200<;>by_cases g2:((b.pay.size:Nat):Int)≤4096<;>by_cases g3:((b.pay.size:Nat):Int)>4106
  all_goals
   simp only [AB,decide_eq_true_eq,g1,g2,g3,if_true,if_false]
   first
    |exact ⟨true,Ev.of fun _=>rfl⟩
    |exact ⟨_,hL⟩
 obtain ⟨r,hr⟩:=key;refine ⟨r,AL.of (fun m=>e4 m _ _ _ _ _ _ _ _ _ _ _ _) (hr.mono fun m g => ?_)⟩;rw [xH,CT (by simp;omega)];exact g
theorem s33 (l:List BH) (hl:l.length≤1000000):AL C 33 [.sl 3 (l.map BH.enc),.sl 3 (l.map BH.enc)] [.bool true]:=by
 refine AL.of (fun m=>e33 m _ _) ?_;simp only [bne_self_eq_false,vv];refine A7 (B:=fun m=>WL m (l.map BH.enc) (l.map BH.enc)) tBo l (fun i _=>(([.t (tI (i:Nat))],[]):List AV×Heap)) (fun _ _ _ =>.next ()) (fun _=>true) (fun _ _=>True) () rfl trivial (C4 (fun (_:Unit) _=>()) (fun _=>true) 0 l _)
   (fun i s x hx hI=>Ev.of fun m again => ?_) (fun _ _ _ _ _ _ _=>trivial) (fun s hI=>Ev.of fun m again => ?_)
 ·have hi:i<l.length:=AW hx;have hi':((i:Nat):Int)<((l.length:Nat):Int):=by omega
  have hx':(l.map BH.enc)[i]? = some x.enc:=by rw [zQ,hx];rfl
  have hw:w64 (((i:Nat):Int)+1)=((i+1:Nat):Int):=by rw [AN (by omega) (by omega)];omega
  unfold WL;have hd:(x.data==x.data)=true:=by rw [F0];simp
  simp only [vv,hi',hx',BH.enc,vX,hw,beq_self_eq_true,hd,Bool.and_self];rfl
 ·unfold WL;simp only [vv,wP];rfl
theorem s12 (b:Bun) (hl:b.blocks.length≤1000000):AL C 12 (b.enc++b.enc) [.bool true]:=by
 refine AL.of (fun m=>e12 m _ _ _ _ _ _ _ _ _ _ _ _ _ _ _ _ _ _ _ _ _ _ _ _) ((s33 b.blocks hl).mono fun m g => ?_);have hd:(b.pay==b.pay)=true:=by rw [F0];simp
 simp only [vv,beq_self_eq_true,Bool.and_self,g,hd]
end Ab
namespace Ab
open Go Go.Proofs
noncomputable def J8_1 (n:Nat) (a9:Int) (a1:List (List Tree)) (a10:Int) (a4:Int) (a0:List (List Tree)) (a2:Int) (a3:Int) (a5:Int) (a6:Int) (a7:Int) (a8:Bool) (p12:List AV×Heap):Option (List Tree):=
 cnd (vB p12 0=true) (some [tI (0:Int),tI (0:Int),tI (0:Int),tI (0:Int),tI (2:Int)]) (cnd ((7:Nat)=(7:Nat)∧(0:Int)≤a9) (Option.bind a1[wT a9]? fun y14=>cnd (okI y14 0) (cnd (okI
 y14 1) (cnd (okI y14 2) (cnd (okI y14 3) (cnd (okI y14 4) (cnd (okI y14 5) (cnd (okI y14 6) (Option.bind (AA C n (7:Nat) [tI (gI y14 0),tI (gI y14 1),tI (gI y14 2),tI (gI y14 3),tI (gI y14 4),
 tI (gI y14 5),tI (gI y14 6),tI a10,tI a4]) fun y15=>cnd (length y15=(1:Nat)) (cnd (okB y15 0) (cnd ((!(gB y15 0))=true) (some [tI (0:Int),tI (0:Int),tI (0:Int),tI (0:Int),tI
 (16:Int)]) (Option.bind (AA C n (25:Nat) [Tree.sl (1:Nat) a0,Tree.sl (7:Nat) a1,tI a2,tI a3,tI a4,tI a5,tI a6,tI a7,Tree.bool a8,tI a9,tI a10]) fun y16=>cnd (length y16=(4:Nat))
 (cnd (okI y16 0) (cnd (okI y16 1) (cnd (okI y16 2) (cnd (okI y16 3) (some [tI (gI y16 0),tI (gI y16 1),tI (gI y16 2),tI (gI y16 3),tI (0:Int)]) none) none) none) none) none)) none) none) none)
 none) none) none) none) none) none) none)
theorem e8 (n:Nat) (a0:List (List Tree)) (a1:List (List Tree)) (a2:Int) (a3:Int) (a4:Int) (a5:Int) (a6:Int) (a7:Int) (a8:Bool) (a9:Int) (a10:Int):AA C (n+1) 8 [Tree.sl (1:Nat) a0,Tree.sl (7:Nat) a1,tI a2,tI a3,tI a4,tI a5,tI a6,tI a7,Tree.bool a8,tI a9,tI a10]=
 Option.bind (AA C n (24:Nat) [Tree.sl (1:Nat) a0,Tree.sl (7:Nat) a1,tI a2,tI a3,tI a4,tI a5,tI a6,tI a7,Tree.bool a8]) fun y11=>cnd (length y11=(1:Nat)) (cnd (okI y11 0) (cnd (((gI
 y11 0) != (0:Int))=true) (some [tI (0:Int),tI (0:Int),tI (0:Int),tI (0:Int),tI (1:Int)]) (join (fun (p12:List AV×Heap)=>J8_1 n a9 a1 a10 a4 a0 a2 a3 a5 a6 a7 a8 p12) fun (again13:_→
 Option (List Tree))=>cnd (decide (a9<(0:Int))=true) (again13 ([AV.t (Tree.bool true)],[AF.box [AV.t (tI (0:Int)),AV.t (tI (0:Int)),AV.t (tI (0:Int)),AV.t (tI (0:Int))]])) (again13 ([AV.t
 (Tree.bool (decide (a9≥((length a1:Nat):Int))))],[AF.box [AV.t (tI (0:Int)),AV.t (tI (0:Int)),AV.t (tI (0:Int)),AV.t (tI (0:Int))]])))) none) none:=by kernel_rfl
noncomputable def J24_1 (n:Nat) (a2:Int) (a3:Int) (a4:Int) (a5:Int) (a6:Int) (a7:Int) (p10:List AV×Heap):Option (List Tree):=
 cnd (vB p10 0=true) (some [tI (2:Int)]) (cnd ((a2==a3)=true) (some [tI (10:Int)]) (cnd (decide (a4<(1:Int))=true) (some [tI (2:Int)]) (cnd (decide (a4>(65536:Int))=true) (some [tI
 (2:Int)]) (cnd (decide (a5<(0:Int))=true) (some [tI (2:Int)]) (cnd (decide (a5>a6)=true) (some [tI (2:Int)]) (cnd (decide (a6>(1099511627776:Int))=true) (some [tI (2:Int)]) (cnd (decide
 (a7<(0:Int))=true) (some [tI (8:Int)]) (cnd (decide (a7>(2:Int))=true) (some [tI (8:Int)]) (some [tI (0:Int)])))))))))
theorem e24 (n:Nat) (a0:List (List Tree)) (a1:List (List Tree)) (a2:Int) (a3:Int) (a4:Int) (a5:Int) (a6:Int) (a7:Int) (a8:Bool):AA C (n+1) 24 [Tree.sl (1:Nat) a0,Tree.sl (7:Nat) a1,tI a2,tI a3,tI a4,tI a5,tI a6,tI a7,Tree.bool a8]=
 Option.bind (AA C n (34:Nat) [Tree.sl (1:Nat) a0,Tree.sl (7:Nat) a1]) fun y9=>cnd (length y9=(1:Nat)) (cnd (okI y9 0) (cnd (((gI y9 0) != (0:Int))=true) (some [tI (1:Int)]) (join (fun
 (p10:List AV×Heap)=>J24_1 n a2 a3 a4 a5 a6 a7 p10) fun (again11:_→Option (List Tree))=>cnd (decide (a2<(0:Int))=true) (again11 ([AV.t (Tree.bool true)],[])) (cnd (decide (a2 ≥
 ((length a0:Nat):Int))=true) (again11 ([AV.t (Tree.bool true)],[])) (cnd (decide (a3<(0:Int))=true) (again11 ([AV.t (Tree.bool true)],[])) (again11 ([AV.t (Tree.bool (decide (a3 ≥
 ((length a0:Nat):Int))))],[])))))) none) none:=by kernel_rfl
theorem e25 (n:Nat) (a0:List (List Tree)) (a1:List (List Tree)) (a2:Int) (a3:Int) (a4:Int) (a5:Int) (a6:Int) (a7:Int) (a8:Bool) (a9:Int) (a10:Int):AA C (n+1) 25 [Tree.sl (1:Nat) a0,Tree.sl (7:Nat) a1,tI a2,tI a3,tI a4,tI a5,tI a6,tI a7,Tree.bool a8,tI a9,tI a10]=
 cnd ((7:Nat)=(7:Nat)∧(0:Int)≤a9) (Option.bind a1[wT a9]? fun y11=>cnd (okI y11 0) (cnd (okI y11 1) (cnd (okI y11 2) (cnd (okI y11 3) (cnd (okI y11 4) (cnd (okI y11 5) (cnd (okI y11 6)
 (Option.bind (AA C n (60:Nat) [tI (gI y11 0),tI (gI y11 1),tI (gI y11 2),tI (gI y11 3),tI (gI y11 4),tI (gI y11 5),tI (gI y11 6),tI a4]) fun y12=>cnd (length y12=(2:Nat)) (cnd (okI
 y12 0) (cnd (okI y12 1) (some [tI a9,tI a10,tI (w64 (a10+(gI y12 0))),tI (w64 ((w64 (a10+(gI y12 0)))+(gI y11 5)))]) none) none) none) none) none) none) none) none) none) none) none:=by kernel_rfl
noncomputable def WK (n:Nat) (p30:List AV×Heap) (a1:List (List Tree)) (y32:List Tree) (again39:(List AV×Heap)→Option (List Tree)) (p40:List AV×Heap) (again41:(List AV×Heap)→Option (List Tree)):Option (List Tree):=
 cnd (decide (vI p40 0<((length (take (wT (vI p30 0)) a1):Nat):Int))=true) (cnd ((7:Nat)=(7:Nat)∧(0:Int)≤vI p40 0) (Option.bind (take (wT (vI p30 0))
 a1)[wT (vI p40 0)]? fun y42=>cnd (okI y42 0) (cnd (okI y42 1) (cnd (okI y42 2) (cnd (okI y42 3) (cnd (okI y42 4) (cnd (okI y42 5) (cnd (okI y42 6) (Option.bind (AA C n (72:Nat) [tI (gI y32
 0),tI (gI y32 1),tI (gI y32 2),tI (gI y32 3),tI (gI y32 4),tI (gI y32 5),tI (gI y32 6),tI (gI y42 0),tI (gI y42 1),tI (gI y42 2),tI (gI y42 3),tI (gI y42 4),tI (gI y42 5),tI (gI y42 6)])
 fun y45=>cnd (length y45=(1:Nat)) (cnd (okB y45 0) (cnd (gB y45 0=true) (again39 ([AV.t (tI (vI p40 0))],[AF.box []])) (again41 ([AV.t (tI (w64 ((vI p40 0)+(1:Int))))],[AF.box
 []]))) none) none) none) none) none) none) none) none) none) none) (again39 ([AV.t (tI (-1:Int))],[AF.box []]))
noncomputable def J34_8 (n:Nat) (again37:(List AV×Heap)→Option (List Tree)) (p38:List AV×Heap):Option (List Tree):=
 again37 ([AV.t (Tree.bool (decide (vI p38 0≥(0:Int))))],[AF.box []])
noncomputable def J34_9 (n:Nat) (again31:(List AV×Heap)→Option (List Tree)) (p30:List AV×Heap) (p36:List AV×Heap):Option (List Tree):=
 cnd (vB p36 0=true) (some [tI (14:Int)]) (again31 ([AV.t (tI (w64 ((vI p30 0)+(1:Int))))],[]))
noncomputable def Zp (n:Nat) (p30:List AV×Heap) (a1:List (List Tree)) (again31:(List AV×Heap)→Option (List Tree)) (y32:List Tree) (p34:List AV×Heap):Option (List Tree):=
 cnd (vB p34 0=true) (some [tI (2:Int)]) (cnd ((0:Int)≤vI p30 0∧vI p30 0≤((length a1:Nat):Int)) (join (fun (p36:List AV×Heap)=>J34_9 n again31 p30 p36) fun (again37:_→Option
 (List Tree))=>join (fun (p38:List AV×Heap)=>J34_8 n again37 p38) fun (again39:_→Option (List Tree))=>AH (fun (p40:List AV×Heap) (again41:_→Option (List Tree))=>WK n
 p30 a1 y32 again39 p40 again41) n ([AV.t (tI (0:Int))],[AF.box []])) none)
noncomputable def Ox (n:Nat) (a1:List (List Tree)) (a0:List (List Tree)) (p30:List AV×Heap) (again31:(List AV×Heap)→Option (List Tree)):Option (List Tree):=
 cnd (decide (vI p30 0<((length a1:Nat):Int))=true) (cnd ((7:Nat)=(7:Nat)∧(0:Int)≤vI p30 0) (Option.bind a1[wT (vI p30 0)]? fun y32=>cnd (okI y32 0) (cnd (okI y32 1) (cnd (okI
 y32 2) (cnd (okI y32 3) (cnd (okI y32 4) (cnd (okI y32 5) (cnd (okI y32 6) (Option.bind (AA C n (57:Nat) [tI (gI y32 0),tI (gI y32 1),tI (gI y32 2),tI (gI y32 3),tI (gI y32 4),tI (gI y32 5),
 tI (gI y32 6)]) fun y33=>cnd (length y33=(1:Nat)) (cnd (okI y33 0) (cnd (((gI y33 0) != (0:Int))=true) (some [tI (gI y33 0)]) (join (fun (p34:List AV×Heap)=>Zp n p30 a1 again31
 y32 p34) fun (again35:_→Option (List Tree))=>cnd (decide (gI y32 0≥((length a0:Nat):Int))=true) (again35 ([AV.t (Tree.bool true)],[AF.box []])) (again35 ([AV.t (Tree.bool (decide (gI
 y32 1≥((length a0:Nat):Int))))],[AF.box []])))) none) none) none) none) none) none) none) none) none) none) (some [tI (0:Int)])
noncomputable def Ow (n:Nat) (a0:List (List Tree)) (a1:List (List Tree)) (p25:List AV×Heap) (again26:(List AV×Heap)→Option (List Tree)):Option (List Tree):=
 cnd (decide (vI p25 0<((length a0:Nat):Int))=true) (cnd ((1:Nat)=(1:Nat)∧(0:Int)≤vI p25 0) (Option.bind a0[wT (vI p25 0)]? fun y27=>cnd (okI y27 0) (cnd (decide (gI y27 0 <
 (0:Int))=true) (some [tI (2:Int)]) (cnd (decide (gI y27 0>(1073741824:Int))=true) (some [tI (2:Int)]) (again26 ([AV.t (tI (w64 ((vI p25 0)+(1:Int))))],[])))) none) none) (AH (fun (p30 :
 List AV×Heap) (again31:_→Option (List Tree))=>Ox n a1 a0 p30 again31) n ([AV.t (tI (0:Int))],[]))
theorem e34 (n:Nat) (a0:List (List Tree)) (a1:List (List Tree)):AA C (n+1) 34 [Tree.sl (1:Nat) a0,Tree.sl (7:Nat) a1]=
 cnd (decide (((length a0:Nat):Int)<(1:Int))=true) (some [tI (4:Int)]) (cnd (decide (((length a0:Nat):Int)>(16:Int))=true) (some [tI (4:Int)]) (cnd (decide (((length a1:Nat):Int)
 > (64:Int))=true) (some [tI (4:Int)]) (AH (fun (p25:List AV×Heap) (again26:_→Option (List Tree))=>Ow n a0 a1 p25 again26) n ([AV.t (tI (0:Int))],[])))):=by kernel_rfl
noncomputable def J10_1 (n:Nat) (y16:List Tree) (a9:ByteArray) (again15:(List AV×Heap)→Option (List Tree)) (p14:List AV×Heap) (p17:List AV×Heap):Option (List Tree):=
 cnd (vB p17 0=true) (some [Tree.str (ByteArray.mk #[]),Tree.bool false]) (cnd (AE p17 0=(0:Nat)∧((1:Nat)=(1:Nat)∨(1:Nat)=(0:Nat))) (cnd ((0:Int)≤gI y16 4∧gI y16 4≤((ByteArray.size
 a9:Nat):Int)) (cnd (AE p17 0=(0:Nat)∧(1:Nat)=(1:Nat)) (again15 ([AV.t (tI (w64 ((vI p14 0)+(1:Int))))],[AF.row false (0:Nat) (1:Nat) (BM (oEs p17 0) ((0:Nat)+(wT (gI y16 4)))
 (take ((ByteArray.size a9)-(wT (gI y16 4))) (AZ (gS y16 7))))])) none) none) none)
noncomputable def Tm (n:Nat) (y13:List Tree) (a9:ByteArray) (p14:List AV×Heap) (again15:(List AV×Heap)→Option (List Tree)):Option (List Tree):=
 cnd (decide (vI p14 0<((length (gL y13 0):Nat):Int))=true) (cnd ((9:Nat)=(9:Nat)∧(0:Int)≤vI p14 0) (Option.bind (gL y13 0)[wT (vI p14 0)]? fun y16=>cnd (okI y16 0) (cnd (okI
 y16 1) (cnd (okI y16 2) (cnd (okI y16 3) (cnd (okI y16 4) (cnd (okI y16 5) (cnd (okB y16 6) (cnd (okS y16 7) (cnd (okL 2 y16 8) (join (fun (p17:List AV×Heap)=>J10_1 n y16 a9 again15 p14 p17) fun
 (again18:_→Option (List Tree))=>cnd (decide (gI y16 4<(0:Int))=true) (again18 ([AV.t (Tree.bool true)],[AF.row false (AE p14 0) (1:Nat) (oEs p14 0),AF.box []])) (cnd (AE p14 0 =
 (0:Nat)) (again18 ([AV.t (Tree.bool (decide (w64 ((gI y16 4)+((ByteArray.size (gS y16 7):Nat):Int))>((ByteArray.size a9:Nat):Int))))],[AF.row false (AE p14 0) (1:Nat) (oEs p14 0),AF.box
 []])) none)) none) none) none) none) none) none) none) none) none) none) (cnd (AE p14 0=(0:Nat)∧((1:Nat)=(1:Nat)∨(1:Nat)=(0:Nat))) (cnd (Fo (take (ByteArray.size a9) (oEs p14 0))
 = true) (some [Tree.str (bytesOf (take (ByteArray.size a9) (oEs p14 0))),Tree.bool ((gI y13 2)==(0:Int))]) none) none)
theorem e10 (n:Nat) (a0:Int) (a1:Int) (a2:Int) (a3:Int) (a4:Int) (a5:Int) (a6:Int) (a7:Int) (a8:Int) (a9:ByteArray) (a10:List (List Tree)) (a11:Int) (a12:List (List Tree)):AA C (n+1) 10 [tI a0,tI a1,tI a2,tI a3,tI a4,tI a5,tI a6,tI a7,tI a8,Tree.str a9,Tree.sl (1:Nat) a10,tI a11,Tree.sl (2:Nat) a12]=
 Option.bind (AA C n (27:Nat) [tI a0,tI a1,tI a2,tI a3,tI a4,tI a5,tI a6,tI a7,tI a8,Tree.str a9,Tree.sl (1:Nat) a10,tI a11,Tree.sl (2:Nat) a12]) fun y13=>cnd (length y13 =
 (3:Nat)) (cnd (okL 9 y13 0) (cnd (okL 9 y13 1) (cnd (okI y13 2) (cnd (((ByteArray.size a9:Nat):Int)=((ByteArray.size a9:Nat):Int)∧(0:Int)≤((ByteArray.size a9:Nat):Int)∧((ByteArray.size
 a9:Nat):Int)≤(1073741824:Int)∧(1:Nat)=(1:Nat)) (AH (fun (p14:List AV×Heap) (again15:_→Option (List Tree))=>Tm n y13 a9 p14 again15) n ([AV.t (tI (0:Int))],[AF.row false
 (0:Nat) (1:Nat) (zY (ByteArray.size a9) [Tree.int IntKind.u8 (0:Int)])])) none) none) none) none) none:=by kernel_rfl
end Ab
namespace Ab
open Go
theorem in34 (a1:TT) (y32:List Tree):Ev fun m=>∀z:KT,AH (fun p again=>WK m ([.t (tI ((0:Nat):Int))],[]) a1 y32 z p again) m ([.t (tI ((0:Nat):Int))],[.box []])=z ([.t (tI (-1))],[.box []]):=by refine F7 (Z:=KT) (B:=fun m z p again=>WK m ([.t (tI ((0:Nat):Int))],[]) a1 y32 z p again) ([]:List Int) (fun i (_:Unit)=>(([.t (tI (i:Nat))],[.box []]):List AV×Heap)) (fun _ s _ =>.next s) (fun _=>()) (fun z _=>z (([.t (tI (-1))],[.box []]):List AV×Heap)) (fun _ _=>True) () rfl trivial rfl (fun i s x hx hI=>by cases hx) (fun _ _ _ _ _ _ _=>trivial) (fun s hI=>Ev.of fun m z again => ?_);simp only [WK,vv,vN,vY,uL,wP]
theorem s34o (c:Con) (n:Nat) (hc:ES c=0) (hn:1≤n∧n≤16) (h1:c.frm<n) (h2:c.dst<n):AL C 34 [.sl 1 (zY n [tI 0]),.sl 7 [c.enc]] [tI 0]:=by
 have hA:Ev fun m=>AH (fun p again=>Ox m [c.enc] (zY n [tI 0]) p again) m (([.t (tI 0)],[]):List AV×Heap)=some [tI 0]:=by
  refine A7 (B:=fun m p again=>Ox m [c.enc] (zY n [tI 0]) p again) (fun q=>[tI q]) [c] (fun i (_:Unit)=>(([.t (tI (i:Nat))],[]):List AV×Heap)) (fun _ s _ =>.next s) (fun _=>0) (fun _ _=>True) () rfl trivial rfl (fun i s x hx hI => ?_) (fun _ _ _ _ _ _ _=>trivial) (fun s hI=>Ev.of fun m again => ?_)
  ·have hi:=AW hx;simp only [xF,length_nil] at hi;obtain rfl:i=0:=by omega
   simp only [xC,Option.some.injEq] at hx;subst hx;have k1:=s57 c;rw [hc] at k1;refine ((in34 [c.enc] c.enc).and k1).mono fun m g again => ?_;obtain ⟨g1,g2⟩:=g;simp only [Con.enc] at g1 g2 ⊢;simp only [Ox,Zp,join_eq,vv,vN,vY,xC,g2,bne_self_eq_false,uF,(show ¬(n:Int)≤c.frm by omega),(show ¬(n:Int)≤c.dst by omega),Rd.Aw];refine (g1 _).trans ?_;simp only [J34_8,J34_9,vv];rfl
  ·simp only [Ox,vv,wP]
 have hB:Ev fun m=>AH (fun p again=>Ow m (zY n [tI 0]) [c.enc] p again) m (([.t (tI 0)],[]):List AV×Heap)=some [tI 0]:=by
  refine A7 (B:=fun m p again=>Ow m (zY n [tI 0]) [c.enc] p again) (fun q=>[tI q]) (zY n (0:Int)) (fun i (_:Unit)=>(([.t (tI (i:Nat))],[]):List AV×Heap)) (fun _ s _ =>.next s) (fun _=>0) (fun _ _=>True) () rfl trivial (C4 (fun (s:Unit) _=>s) (fun _=>(0:Int)) 0 _ _) (fun i s x hx hI=>Ev.of fun m again => ?_) (fun _ _ _ _ _ _ _=>trivial) (fun s hI=>hA.mono fun m g again => ?_)
  ·have hi:=AW hx;rw [uF] at hi;have hx':(zY n [tI 0])[i]? = some [tI 0]:=by rw [List.getElem?_replicate,if_pos hi]
   simp only [Ow,vv,uF,(show (i:Int)<(n:Int) by omega),hx',wP,(show ¬(1073741824:Int)<0 by decide),BE (show i<4611686018427387904 by omega),Rd.Aw]
  ·simp only [Ow,vv,uF,wP,g]
 refine AL.of (fun m=>e34 m _ _) (hB.mono fun m g => ?_);simp only [vv,uF,(show ¬(n:Int)<1 by omega),(show ¬(16:Int)<(n:Int) by omega),g];rfl
end Ab
namespace Ab
open Go
def YM (c:Con) (n:Nat) (z:Int):List Tree:=[.sl 1 (zY n [tI 0]),.sl 7 [c.enc],tI c.frm,tI c.dst,tI z,tI 0,tI 1099511627776,tI 0,.bool false]
theorem s24o (c:Con) (n:Nat) (z:Int) (hc:ES c=0) (hn:1≤n∧n≤16) (h1:c.frm<n) (h2:c.dst<n) (hz:1≤z∧z≤65536):AL C 24 (YM c n z) [tI 0]:=by
 obtain ⟨c1,c2⟩:=Dy hc;have hnd:c.frm≠c.dst:=fun e=>by unfold ES at hc;rw [if_neg (fun f=>f c1),if_pos e] at hc;cases hc
 have hne:(c.frm==c.dst)=false:=beq_eq_false_iff_ne.2 hnd;unfold GR at c1;refine AL.of (fun m=>e24 m _ _ _ _ _ _ _ _ _) ((s34o c n hc hn h1 h2).mono fun m g => ?_);simp only [J24_1,join_eq,vv,g,bne_self_eq_false,uF,hne,(show ¬c.frm<0 by omega),(show ¬(n:Int)≤c.frm by omega),(show ¬c.dst<0 by omega),(show ¬(n:Int)≤c.dst by omega),(show ¬z<1 by omega),(show ¬(65536:Int)<z by omega)];rfl
theorem s25o (c:Con) (n:Nat) (z:Int) (hc:ES c=0) (hz:1≤z∧z≤65536) (hf:PK c c.start z=true):AL C 25 (YM c n z++[tI 0,tI c.start]) [tI 0,tI c.start,tI (c.start+EB c z),tI (c.start+EB c z+c.rng)]:=by
 have hN:=FQ hc;have hq:=RA hc hf hz;have hA:IV c z=0:=by unfold IV;rw [if_neg (by omega),if_pos hz]
 have k:=s60 c z;rw [if_pos hA,hA] at k;have hd:=Mu hc hz;refine AL.of (fun m=>e25 m _ _ _ _ _ _ _ _ _ _ _) (k.mono fun m g => ?_);simp only [Con.enc,yY,xR] at g;simp only [vv,vE,Con.enc,vY,xC,g,Int.le_refl,AN (x:=c.start+EB c z) (by omega) (by omega),AN (x:=c.start+EB c z+c.rng) (by omega) (by omega)]
theorem s8o (c:Con) (n:Nat) (z:Int) (hc:ES c=0) (hn:1≤n∧n≤16) (h1:c.frm<n) (h2:c.dst<n) (hz:1≤z∧z≤65536) (hf:PK c c.start z=true) :
  AL C 8 (YM c n z++[tI 0,tI c.start]) [tI 0,tI c.start,tI (c.start+EB c z),tI (c.start+EB c z+c.rng),tI 0]:=by
 have hA:IV c z=0:=by unfold IV;rw [if_neg (by omega),if_pos hz]
 have k:=s7 c c.start z;rw [hA,hf] at k;refine AL.of (fun m=>e8 m _ _ _ _ _ _ _ _ _ _ _) (((s24o c n z hc hn h1 h2 hz).and (k.and (s25o c n z hc hz hf))).mono fun m g => ?_);obtain ⟨g1,g2,g3⟩:=g;simp only [YM,Con.enc,yY,xR] at g1 g2 g3;simp only [J8_1,join_eq,vv,vE,Con.enc,g1,g2,g3,bne_self_eq_false,vY,xC,wP,Int.le_refl,Bool.and_self];rfl
end Ab
namespace Ab
open Go
def Ni (a:List UInt8) (x:Out):List UInt8:=Mf a x.seg.off.toNat (bl x.seg.data)
theorem UB (d:ByteArray):∀(l:List Out) (a:List UInt8),a.length=d.size→(∀x∈l,Df d x.seg)→(l.foldl Ni a).length=d.size∧
  ∀i:Nat,i<d.size→((∃x∈l,cov x.seg i)∨a.getD i 0=(bl d).getD i 0)→(l.foldl Ni a).getD i 0=(bl d).getD i 0
 |[],a,h,_=>⟨h,fun i hi q=>by rcases q with ⟨x,hx,_⟩|q;cases hx;exact q⟩
 |x::l,a,h,hp=>by
  have hx:=hp x (by simp);obtain ⟨b1,b2,b3,b4⟩:=Eg hx;have hfit:x.seg.off.toNat+(bl x.seg.data).length≤a.length:=by rw [Aj,h];omega
  obtain ⟨k1,k2⟩:=UB d l (Ni a x) (by unfold Ni;rw [Gd _ _ _ hfit,h]) fun y hy=>hp y (by simp [hy]);rw [foldl_cons];refine ⟨k1,fun i hi q=>k2 i hi ?_⟩;by_cases hc:x.seg.off.toNat≤i∧i<x.seg.off.toNat+(bl x.seg.data).length
  ·right;have:=hx.2.2.2.2 (i-x.seg.off.toNat) (by rw [Aj] at hc;omega);unfold Ni;rw [KF _ _ _ hfit,if_pos hc,this];congr 1;omega
  ·rcases q with ⟨y,hy,hcv⟩|q
   ·rcases xL.1 hy with rfl|hy
    ·refine absurd ?_ hc;unfold cov at hcv;rw [Aj];omega
    ·exact .inl ⟨y,hy,hcv⟩
   ·right;unfold Ni;rw [KF _ _ _ hfit,if_neg hc];exact q
theorem Vc {c:Con} {d:ByteArray} {o:Ses} (h:ResB c d o):o.sent.foldl Ni (zY d.size 0)=bl d:=by obtain ⟨k1,k2⟩:=UB d o.sent (zY d.size 0) (by simp) h.pc;refine List.ext_getElem (by rw [k1,Aj]) fun i h1 h2 => ?_;have:=k2 i (by omega) (.inl (h.all i (by omega) (by omega)));simpa [zK,zO h1,zO h2] using this
theorem s10o (c:Con) (d:ByteArray) (ps:List Int) (o:Ses) (hd:d.size≤300) (h:ResB c d o) (k:AL C 27 (QU (Je c d ps)) (Wy o)):AL C 10 (QU (Je c d ps)) [.str d,.bool true]:=by
 have hfew:=h.few;have hL:∀y13:List Tree,gL y13 0=o.sent.map Out.enc→gI y13 2=0→Ev fun m=>AH (fun p again=>Tm m y13 d p again) m (([.t (tI 0)],[.row false 0 1 (zY d.size [Tree.int .u8 0])]):List AV×Heap)=some [.str d,.bool true]:=by
  intro y13 g0 g2;refine A7 (B:=fun m p again=>Tm m y13 d p again) (fun (q:List UInt8)=>[Tree.str (mkB q),.bool true]) o.sent (fun i (a:List UInt8)=>(([.t (tI (i:Nat))],[.row false 0 1 (a.map tb)]):List AV×Heap)) (fun _ a x =>.next (Ni a x)) (fun a=>a) (fun i a=>a=(o.sent.take i).foldl Ni (zY d.size 0)) (r:=bl d) (zY d.size 0) (by rw [YN];rfl) (by simp) ?_ (fun i a x hx hI=>Ev.of fun m again => ?_) (fun i a x a' hx hI he => ?_) (fun a hI=>Ev.of fun m again => ?_)
  ·exact (C4 Ni (fun a=>a) 0 o.sent _).trans (Vc h)
  ·have hi:=AW hx;have hp:=h.pc x (xN hx);obtain ⟨b1,b2,b3,b4⟩:=Eg hp;have hal:a.length=d.size:=by rw [hI];exact (UB d _ _ (by simp) fun y hy=>h.pc y (List.mem_of_mem_take hy)).1
   have r1:take (d.size-x.seg.off.toNat) (AZ x.seg.data)=(bl x.seg.data).map tb:=by rw [Gb,vD (by rw [xH,Aj];omega)]
   have hx':(o.sent.map Out.enc)[i]? = some x.enc:=by rw [zQ,hx];rfl
   simp only [Tm,J10_1,join_eq,vv,reduceCtorEq,g0,hx',Out.enc,(show (i:Int)<(o.sent.length:Int) by omega),(show ¬x.seg.off<0 by omega),AN (x:=x.seg.off+x.seg.data.size) (by omega) (by omega),(show ¬(d.size:Int)<x.seg.off+(x.seg.data.size:Int) by omega),b1,(show x.seg.off≤(d.size:Int) by omega),r1,Io,BE (show i<4611686018427387904 by omega),Rd.Aw,Ni]
  ·cases he;rw [uI,hx,List.foldl_append,← hI];rfl
  ·rw [uK] at hI;rw [Vc h] at hI;subst hI;have r4:take d.size ((bl d).map tb)=(bl d).map tb:=by rw [vD (by rw [xH,Aj];exact yE _)]
   simp only [Tm,vv,reduceCtorEq,g0,g2,wP,r4,G4,HD,beq_self_eq_true]
 unfold QU OZ at *;refine AL.of (fun m=>e10 m _ _ _ _ _ _ _ _ _ _ _ _ _) ?_;refine (k.and (hL (Wy o) rfl rfl)).mono fun m g => ?_;obtain ⟨g1,g2⟩:=g;simp only [Con.enc,Je,Wy,yY,xR] at g1 g2 ⊢;simp only [g1,vv,vE,(show (0:Int)≤(d.size:Int) by omega),(show (d.size:Int)≤1073741824 by omega),and_self];exact g2
end Ab
namespace Ab
open Go Go.Proofs
noncomputable def J3_1 (n:Nat) (y29:List Tree) (a0:Int) (a1:Int) (a2:Int) (a3:Int) (a4:Int) (a5:Int) (a6:Int) (a7:Int) (a8:Int) (a9:Int) (a10:List (List Tree)) (a11:ByteArray) (p30:List AV×Heap):Option (List Tree):=
 cnd (vB p30 0=true) (some [Tree.bool false]) (Option.bind (AA C n (11:Nat) [Tree.str (gS y29 0)]) fun y32=>cnd (length y32=(13:Nat)) (cnd (okI y32 0) (cnd (okI y32 1) (cnd (okI y32 2)
 (cnd (okI y32 3) (cnd (okI y32 4) (cnd (okI y32 5) (cnd (okI y32 6) (cnd (okI y32 7) (cnd (okI y32 8) (cnd (okI y32 9) (cnd (okL 3 y32 10) (cnd (okS y32 11) (cnd (okI y32 12) (cnd (((gI y32 12)==
 (0:Int))=true) (Option.bind (AA C n (12:Nat) [tI a0,tI a1,tI a2,tI a3,tI a4,tI a5,tI a6,tI a7,tI a8,tI a9,Tree.sl (3:Nat) a10,Tree.str a11,tI (gI y32 0),tI (gI y32 1),tI (gI y32 2),
 tI (gI y32 3),tI (gI y32 4),tI (gI y32 5),tI (gI y32 6),tI (gI y32 7),tI (gI y32 8),tI (gI y32 9),Tree.sl (3:Nat) (gL y32 10),Tree.str (gS y32 11)]) fun y35=>cnd (length y35=(1:Nat))
 (cnd (okB y35 0) (cnd (gB y35 0=true) (some [Tree.bool true]) (some [Tree.bool false])) none) none) (some [Tree.bool false])) none) none) none) none) none) none) none) none) none) none) none) none)
 none) none)
noncomputable def J3_2 (n:Nat) (y38:List Tree) (a0:Int) (a1:Int) (a2:Int) (a3:Int) (a4:Int) (a5:Int) (a6:Int) (a7:Int) (a8:Int) (a9:Int) (a10:List (List Tree)) (a11:ByteArray) (p39:List AV×Heap):Option (List Tree):=
 cnd (vB p39 0=true) (some [Tree.bool false]) (Option.bind (AA C n (11:Nat) [Tree.str (gS y38 0)]) fun y41=>cnd (length y41=(13:Nat)) (cnd (okI y41 0) (cnd (okI y41 1) (cnd (okI y41 2)
 (cnd (okI y41 3) (cnd (okI y41 4) (cnd (okI y41 5) (cnd (okI y41 6) (cnd (okI y41 7) (cnd (okI y41 8) (cnd (okI y41 9) (cnd (okL 3 y41 10) (cnd (okS y41 11) (cnd (okI y41 12) (cnd (((gI y41 12)==
 (0:Int))=true) (Option.bind (AA C n (12:Nat) [tI a0,tI a1,tI a2,tI a3,tI a4,tI a5,tI a6,tI a7,tI a8,tI a9,Tree.sl (3:Nat) a10,Tree.str a11,tI (gI y41 0),tI (gI y41 1),tI (gI y41 2),
 tI (gI y41 3),tI (gI y41 4),tI (gI y41 5),tI (gI y41 6),tI (gI y41 7),tI (gI y41 8),tI (gI y41 9),Tree.sl (3:Nat) (gL y41 10),Tree.str (gS y41 11)]) fun y44=>cnd (length y44=(1:Nat))
 (cnd (okB y44 0) (cnd (gB y44 0=true) (some [Tree.bool true]) (some [Tree.bool false])) none) none) (some [Tree.bool false])) none) none) none) none) none) none) none) none) none) none) none) none)
 none) none)
noncomputable def Zo (n:Nat) (a13:Int) (a12:Int) (a14:Int) (a15:Int) (a16:Int) (a17:Int) (a18:Int) (y23:List Tree) (a19:List (List Tree)) (a0:Int) (a1:Int) (a2:Int) (a3:Int) (a4:Int) (a5:Int) (a6:Int) (a7:Int) (a8:Int) (a9:Int) (a10:List (List Tree)) (a11:ByteArray) (p24:List AV×Heap):Option (List Tree):=
 cnd (vB p24 0=true) (some [Tree.bool true]) (both (cnd (w64 ((if a13>a12 then a13 else a12)+(1:Int))=w64 ((if a13>a12 then a13 else a12)+(1:Int))∧(0:Int)≤w64 ((if a13>a12 then a13
 else a12)+(1:Int))∧w64 ((if a13>a12 then a13 else a12)+(1:Int))≤(1073741824:Int)∧(1:Nat)=(1:Nat)) (Option.bind (AA C n (8:Nat) [Tree.sl (1:Nat) (take (wT (w64 ((if a13 >
 a12 then a13 else a12)+(1:Int)))) (zY (wT (w64 ((if a13>a12 then a13 else a12)+(1:Int)))) [tI (0:Int)])),Tree.sl (7:Nat) [[tI a12,tI a13,tI a14,tI a15,tI a16,tI a17,tI
 a18]],tI a12,tI a13,tI ((ByteArray.size (gS y23 0):Nat):Int),tI (0:Int),tI (1099511627776:Int),tI (0:Int),Tree.bool false,tI (0:Int),tI a14]) fun y27=>cnd (length y27=(5:Nat)) (cnd
 (okI y27 0) (cnd (okI y27 1) (cnd (okI y27 2) (cnd (okI y27 3) (cnd (okI y27 4) (cnd (((gI y27 4) != (0:Int))=true) (some [Tree.bool false]) (Option.bind (AA C n (9:Nat) [tI a12,tI a13,tI a14,
 tI a15,tI a16,tI a17,tI a18,tI (gI y27 1),tI (gI y27 2),Tree.str (gS y23 0),Tree.sl (1:Nat) a19,tI a18,Tree.sl (2:Nat) []]) fun y28=>cnd (length y28=(8:Nat)) (cnd (okB y28 0) (cnd
 (okI y28 1) (cnd (okB y28 2) (cnd (okI y28 3) (cnd (okI y28 4) (cnd (okI y28 5) (cnd (okI y28 6) (cnd (okI y28 7) (Option.bind (AA C n (10:Nat) [tI a12,tI a13,tI a14,tI a15,tI a16,tI a17,tI
 a18,tI (gI y27 1),tI (gI y27 2),Tree.str (gS y23 0),Tree.sl (1:Nat) a19,tI a18,Tree.sl (2:Nat) []]) fun y29=>cnd (length y29=(2:Nat)) (cnd (okS y29 0) (cnd (okB y29 1) (join (fun (p30 :
 List AV×Heap)=>J3_1 n y29 a0 a1 a2 a3 a4 a5 a6 a7 a8 a9 a10 a11 p30) fun (again31:_→Option (List Tree))=>cnd (((gI y28 7) != (0:Int))=true) (again31 ([AV.t (Tree.bool true)],[AF.row
 false (0:Nat) (1:Nat) (zY (wT (w64 ((if a13>a12 then a13 else a12)+(1:Int)))) [tI (0:Int)]),AF.box [AV.sref (0:Nat) (0:Nat) (0:Nat) (wT (w64 ((if a13>a12 then a13
 else a12)+(1:Int)))),AV.t (Tree.sl (7:Nat) [[tI a12,tI a13,tI a14,tI a15,tI a16,tI a17,tI a18]])],AF.box [],AF.box [],AF.box []])) (cnd ((!(gB y29 1))=true) (again31 ([AV.t
 (Tree.bool true)],[AF.row false (0:Nat) (1:Nat) (zY (wT (w64 ((if a13>a12 then a13 else a12)+(1:Int)))) [tI (0:Int)]),AF.box [AV.sref (0:Nat) (0:Nat) (0:Nat) (wT
 (w64 ((if a13>a12 then a13 else a12)+(1:Int)))),AV.t (Tree.sl (7:Nat) [[tI a12,tI a13,tI a14,tI a15,tI a16,tI a17,tI a18]])],AF.box [],AF.box [],AF.box []])) (cnd ((!(gB y28 0))=
 true) (again31 ([AV.t (Tree.bool true)],[AF.row false (0:Nat) (1:Nat) (zY (wT (w64 ((if a13>a12 then a13 else a12)+(1:Int)))) [tI (0:Int)]),AF.box [AV.sref (0:Nat) (0:Nat)
 (0:Nat) (wT (w64 ((if a13>a12 then a13 else a12)+(1:Int)))),AV.t (Tree.sl (7:Nat) [[tI a12,tI a13,tI a14,tI a15,tI a16,tI a17,tI a18]])],AF.box [],AF.box [],AF.box []]))
 (cnd ((!(gB y28 2))=true) (again31 ([AV.t (Tree.bool true)],[AF.row false (0:Nat) (1:Nat) (zY (wT (w64 ((if a13>a12 then a13 else a12)+(1:Int)))) [tI (0:Int)]),AF.box
 [AV.sref (0:Nat) (0:Nat) (0:Nat) (wT (w64 ((if a13>a12 then a13 else a12)+(1:Int)))),AV.t (Tree.sl (7:Nat) [[tI a12,tI a13,tI a14,tI a15,tI a16,tI a17,tI a18]])],AF.box [],
 AF.box [],AF.box []])) (cnd (decide (gI y28 1>gI y27 3)=true) (again31 ([AV.t (Tree.bool true)],[AF.row false (0:Nat) (1:Nat) (zY (wT (w64 ((if a13>a12 then a13 else
 a12)+(1:Int)))) [tI (0:Int)]),AF.box [AV.sref (0:Nat) (0:Nat) (0:Nat) (wT (w64 ((if a13>a12 then a13 else a12)+(1:Int)))),AV.t (Tree.sl (7:Nat) [[tI a12,tI a13,tI a14,tI a15,tI
 a16,tI a17,tI a18]])],AF.box [],AF.box [],AF.box []])) (cnd (decide (gI y28 3>w64 ((gI y27 3)+a17))=true) (again31 ([AV.t (Tree.bool true)],[AF.row false (0:Nat) (1:Nat)
 (zY (wT (w64 ((if a13>a12 then a13 else a12)+(1:Int)))) [tI (0:Int)]),AF.box [AV.sref (0:Nat) (0:Nat) (0:Nat) (wT (w64 ((if a13>a12 then a13 else a12)+(1:Int)))),
 AV.t (Tree.sl (7:Nat) [[tI a12,tI a13,tI a14,tI a15,tI a16,tI a17,tI a18]])],AF.box [],AF.box [],AF.box []])) (again31 ([AV.t (Tree.bool (decide (gI y28 4>gI y27 2)))],[AF.row
 false (0:Nat) (1:Nat) (zY (wT (w64 ((if a13>a12 then a13 else a12)+(1:Int)))) [tI (0:Int)]),AF.box [AV.sref (0:Nat) (0:Nat) (0:Nat) (wT (w64 ((if a13>a12 then a13
 else a12)+(1:Int)))),AV.t (Tree.sl (7:Nat) [[tI a12,tI a13,tI a14,tI a15,tI a16,tI a17,tI a18]])],AF.box [],AF.box [],AF.box []])))))))) none) none) none) none) none) none) none)
 none) none) none) none) none)) none) none) none) none) none) none) none) (cnd (w64 ((if a13>a12 then a13 else a12)+(1:Int))=w64 ((if a13>a12 then a13 else a12)+(1:Int))∧(0:Int)≤w64 ((if
 a13>a12 then a13 else a12)+(1:Int))∧w64 ((if a13>a12 then a13 else a12)+(1:Int))≤(1073741824:Int)∧(1:Nat)=(1:Nat)) (Option.bind (AA C n (8:Nat) [Tree.sl (1:Nat) (take
 (wT (w64 ((if a13>a12 then a13 else a12)+(1:Int)))) (zY (wT (w64 ((if a13>a12 then a13 else a12)+(1:Int)))) [tI (0:Int)])),Tree.sl (7:Nat) [[tI a12,tI a13,tI a14,
 tI a15,tI a16,tI a17,tI a18]],tI a12,tI a13,tI ((ByteArray.size (gS y23 0):Nat):Int),tI (0:Int),tI (1099511627776:Int),tI (0:Int),Tree.bool false,tI (0:Int),tI a14]) fun y36=>cnd
 (length y36=(5:Nat)) (cnd (okI y36 0) (cnd (okI y36 1) (cnd (okI y36 2) (cnd (okI y36 3) (cnd (okI y36 4) (cnd (((gI y36 4) != (0:Int))=true) (some [Tree.bool false]) (Option.bind (AA C n
 (9:Nat) [tI a12,tI a13,tI a14,tI a15,tI a16,tI a17,tI a18,tI (gI y36 1),tI (gI y36 2),Tree.str (gS y23 0),Tree.sl (1:Nat) a19,tI a18,Tree.sl (2:Nat) []]) fun y37=>cnd (length y37 =
 (8:Nat)) (cnd (okB y37 0) (cnd (okI y37 1) (cnd (okB y37 2) (cnd (okI y37 3) (cnd (okI y37 4) (cnd (okI y37 5) (cnd (okI y37 6) (cnd (okI y37 7) (Option.bind (AA C n (10:Nat) [tI a12,tI a13,tI
 a14,tI a15,tI a16,tI a17,tI a18,tI (gI y36 1),tI (gI y36 2),Tree.str (gS y23 0),Tree.sl (1:Nat) a19,tI a18,Tree.sl (2:Nat) []]) fun y38=>cnd (length y38=(2:Nat)) (cnd (okS y38 0)
 (cnd (okB y38 1) (join (fun (p39:List AV×Heap)=>J3_2 n y38 a0 a1 a2 a3 a4 a5 a6 a7 a8 a9 a10 a11 p39) fun (again40:_→Option (List Tree))=>cnd (((gI y37 7) != (0:Int))=true) (again40
 ([AV.t (Tree.bool true)],[AF.box [AV.sref (1:Nat) (0:Nat) (0:Nat) (wT (w64 ((if a13>a12 then a13 else a12)+(1:Int)))),AV.t (Tree.sl (7:Nat) [[tI a12,tI a13,tI a14,tI a15,tI a16,tI
 a17,tI a18]])],AF.row false (0:Nat) (1:Nat) (zY (wT (w64 ((if a13>a12 then a13 else a12)+(1:Int)))) [tI (0:Int)]),AF.box [],AF.box [],AF.box []])) (cnd ((!(gB y38
 1))=true) (again40 ([AV.t (Tree.bool true)],[AF.box [AV.sref (1:Nat) (0:Nat) (0:Nat) (wT (w64 ((if a13>a12 then a13 else a12)+(1:Int)))),AV.t (Tree.sl (7:Nat) [[tI a12,tI a13,tI
 a14,tI a15,tI a16,tI a17,tI a18]])],AF.row false (0:Nat) (1:Nat) (zY (wT (w64 ((if a13>a12 then a13 else a12)+(1:Int)))) [tI (0:Int)]),AF.box [],AF.box [],AF.box
 []])) (cnd ((!(gB y37 0))=true) (again40 ([AV.t (Tree.bool true)],[AF.box [AV.sref (1:Nat) (0:Nat) (0:Nat) (wT (w64 ((if a13>a12 then a13 else a12)+(1:Int)))),AV.t (Tree.sl (7:Nat)
 [[tI a12,tI a13,tI a14,tI a15,tI a16,tI a17,tI a18]])],AF.row false (0:Nat) (1:Nat) (zY (wT (w64 ((if a13>a12 then a13 else a12)+(1:Int)))) [tI (0:Int)]),AF.box [],
 AF.box [],AF.box []])) (cnd ((!(gB y37 2))=true) (again40 ([AV.t (Tree.bool true)],[AF.box [AV.sref (1:Nat) (0:Nat) (0:Nat) (wT (w64 ((if a13>a12 then a13 else a12)+(1:Int)))),
 AV.t (Tree.sl (7:Nat) [[tI a12,tI a13,tI a14,tI a15,tI a16,tI a17,tI a18]])],AF.row false (0:Nat) (1:Nat) (zY (wT (w64 ((if a13>a12 then a13 else a12)+(1:Int)))) [tI
 (0:Int)]),AF.box [],AF.box [],AF.box []])) (cnd (decide (gI y37 1>gI y36 3)=true) (again40 ([AV.t (Tree.bool true)],[AF.box [AV.sref (1:Nat) (0:Nat) (0:Nat) (wT (w64 ((if a13 >
 a12 then a13 else a12)+(1:Int)))),AV.t (Tree.sl (7:Nat) [[tI a12,tI a13,tI a14,tI a15,tI a16,tI a17,tI a18]])],AF.row false (0:Nat) (1:Nat) (zY (wT (w64 ((if a13>a12
 then a13 else a12)+(1:Int)))) [tI (0:Int)]),AF.box [],AF.box [],AF.box []])) (cnd (decide (gI y37 3>w64 ((gI y36 3)+a17))=true) (again40 ([AV.t (Tree.bool true)],[AF.box [AV.sref
 (1:Nat) (0:Nat) (0:Nat) (wT (w64 ((if a13>a12 then a13 else a12)+(1:Int)))),AV.t (Tree.sl (7:Nat) [[tI a12,tI a13,tI a14,tI a15,tI a16,tI a17,tI a18]])],AF.row false (0:Nat)
 (1:Nat) (zY (wT (w64 ((if a13>a12 then a13 else a12)+(1:Int)))) [tI (0:Int)]),AF.box [],AF.box [],AF.box []])) (again40 ([AV.t (Tree.bool (decide (gI y37 4>gI y36
 2)))],[AF.box [AV.sref (1:Nat) (0:Nat) (0:Nat) (wT (w64 ((if a13>a12 then a13 else a12)+(1:Int)))),AV.t (Tree.sl (7:Nat) [[tI a12,tI a13,tI a14,tI a15,tI a16,tI a17,tI a18]])],
 AF.row false (0:Nat) (1:Nat) (zY (wT (w64 ((if a13>a12 then a13 else a12)+(1:Int)))) [tI (0:Int)]),AF.box [],AF.box [],AF.box []])))))))) none) none) none) none)
 none) none) none) none) none) none) none) none)) none) none) none) none) none) none) none))
noncomputable def Tq (n:Nat) (a0:Int) (a1:Int) (a2:Int) (a3:Int) (a4:Int) (a5:Int) (a6:Int) (a7:Int) (a8:Int) (a9:Int) (a10:List (List Tree)) (a11:ByteArray) (a13:Int) (a12:Int) (a14:Int) (a15:Int) (a16:Int) (a17:Int) (a18:Int) (a19:List (List Tree)) (p20:List AV×Heap):Option (List Tree):=
 cnd (vB p20 0=true) (some [Tree.bool true]) (Option.bind (AA C n (6:Nat) [tI a0,tI a1,tI a2,tI a3,tI a4,tI a5,tI a6,tI a7,tI a8,tI a9,Tree.sl (3:Nat) a10,Tree.str a11]) fun y23=>cnd
 (length y23=(2:Nat)) (cnd (okS y23 0) (cnd (okI y23 1) (join (fun (p24:List AV×Heap)=>Zo n a13 a12 a14 a15 a16 a17 a18 y23 a19 a0 a1 a2 a3 a4 a5 a6 a7 a8 a9 a10 a11 p24) fun (again25 :
 _→Option (List Tree))=>cnd (((gI y23 1) != (0:Int))=true) (again25 ([AV.t (Tree.bool true)],[])) (cnd (decide (((ByteArray.size (gS y23 0):Nat):Int)>(300:Int))=true) (again25 ([AV.t
 (Tree.bool true)],[])) (Option.bind (AA C n (7:Nat) [tI a12,tI a13,tI a14,tI a15,tI a16,tI a17,tI a18,tI a14,tI ((ByteArray.size (gS y23 0):Nat):Int)]) fun y26=>cnd (length y26 =
 (1:Nat)) (cnd (okB y26 0) (again25 ([AV.t (Tree.bool (!(gB y26 0)))],[])) none) none))) none) none) none)
theorem e3 (n:Nat) (a0:Int) (a1:Int) (a2:Int) (a3:Int) (a4:Int) (a5:Int) (a6:Int) (a7:Int) (a8:Int) (a9:Int) (a10:List (List Tree)) (a11:ByteArray) (a12:Int) (a13:Int) (a14:Int) (a15:Int) (a16:Int) (a17:Int) (a18:Int) (a19:List (List Tree)):AA C (n+1) 3 [tI a0,tI a1,tI a2,tI a3,tI a4,tI a5,tI a6,tI a7,tI a8,tI a9,Tree.sl (3:Nat) a10,Tree.str a11,tI a12,tI a13,tI a14,tI a15,tI a16,tI a17,tI a18,Tree.sl (1:Nat) a19]=
 join (fun (p20:List AV×Heap)=>Tq n a0 a1 a2 a3 a4 a5 a6 a7 a8 a9 a10 a11 a13 a12 a14 a15 a16 a17 a18 a19 p20) fun (again21:_→Option (List Tree))=>Option.bind (AA C n (4:Nat) [tI a0,
 tI a1,tI a2,tI a3,tI a4,tI a5,tI a6,tI a7,tI a8,tI a9,Tree.sl (3:Nat) a10,Tree.str a11]) fun y22=>cnd (length y22=(1:Nat)) (cnd (okB y22 0) (cnd (gB y22 0=true) (again21 ([AV.t
 (Tree.bool true)],[])) (cnd (decide (((ByteArray.size a11:Nat):Int)>(100:Int))=true) (again21 ([AV.t (Tree.bool true)],[])) (again21 ([AV.t (Tree.bool (decide (((length a19:Nat):Int) >
 (60:Int))))],[])))) none) none:=by kernel_rfl
end Ab
namespace Ab
open Go
def X5 (b:Bun) (c:Con) (ps:List Int):List Tree:=b.enc++c.enc++[.sl 1 (ps.map DR)]
theorem fits_of {c:Con} {t n:Int} (h:(decide (IV c n=0)&&PK c t n)=true):ES c=0∧(1≤n∧n≤65536)∧PK c t n=true:=by rw [and_eq_true,decide_eq_true_eq] at h;obtain ⟨a1,a2⟩:=Lw h.1;exact ⟨a1,a2,h.2⟩
theorem l3 (b:Bun) (c:Con) (ps:List Int) (hpk:∀x∈ps,-9223372036854775808≤x∧x≤9223372036854775807):AL C 3 (X5 b c ps) [.bool true]:=by
 unfold X5;refine AL.of (fun m=>e3 m _ _ _ _ _ _ _ _ _ _ _ _ _ _ _ _ _ _ _ _) ?_;obtain ⟨r,hG⟩:=s4 b;cases r with
 |true=>
  refine hG.mono fun m g => ?_;simp only [Bun.enc] at g;simp only [join_eq,Tq,vv,g]
 |false=>
 by_cases hp:(b.pay.size:Int)>100
 ·refine hG.mono fun m g => ?_;simp only [Bun.enc] at g;simp only [join_eq,Tq,vv,g,hp]
 by_cases hl:(ps.length:Int)>60
 ·refine hG.mono fun m g => ?_;simp only [Bun.enc] at g;simp only [join_eq,Tq,vv,g,hp,hl]
 obtain ⟨e,hC,hE⟩:=s16g b;by_cases he:e=0;rotate_left
 ·refine (hG.and (s6e b e hC he)).mono fun m g => ?_;obtain ⟨g1,g2⟩:=g;simp only [Bun.enc] at g1 g2;simp only [join_eq,Tq,Zo,vv,vE,g1,g2,hp,hl,bne,beq_eq_false_iff_ne.2 he]
 have hb:=hE he;have k6:=s6 b hb;by_cases hz:((HE b).size:Int)>300
 ·refine (hG.and k6).mono fun m g => ?_;obtain ⟨g1,g2⟩:=g;simp only [Bun.enc] at g1 g2;simp only [join_eq,Tq,Zo,vv,vE,g1,g2,hp,hl,bne_self_eq_false,hz]
 have k7:=s7 c c.start (HE b).size;cases hf:(decide (IV c (HE b).size=0)&&PK c c.start (HE b).size) with
 |false=>
  rw [hf] at k7;refine (hG.and (k6.and k7)).mono fun m g => ?_;obtain ⟨g1,g2,g3⟩:=g;simp only [Bun.enc,Con.enc,yY,xR] at g1 g2 g3;simp only [join_eq,Tq,Zo,vv,vE,g1,g2,g3,hp,hl,bne_self_eq_false,hz]
 |true=>
  rw [hf] at k7;obtain ⟨f1,f2,f3⟩:=fits_of hf;obtain ⟨o,hR,k9,k27⟩:=bnd_fin c (HE b) ps f1 (by omega) f3 (by omega) hpk;have k10:=s10o c (HE b) ps o (by omega) hR k27;obtain ⟨c1,c2⟩:=Dy f1;unfold GR at c1;have hq:=RA f1 f3 f2;have hd:=Mu f1 f2;obtain ⟨N,hN⟩:∃N:Nat,(if c.dst>c.frm then c.dst else c.frm)+1=(N:Int):=⟨((if c.dst>c.frm then c.dst else c.frm)+1).toNat,by split<;>omega⟩
  have hN1:1≤N∧N≤16:=by split at hN<;>omega
  have hN2:c.frm<N∧c.dst<N:=by split at hN<;>omega
  have hw:w64 ((if c.dst>c.frm then c.dst else c.frm)+1)=(N:Int):=by rw [hN];exact AN (by omega) (by omega)
  have hv:w64 (c.start+EB c (HE b).size+c.rng+c.rng)=c.start+EB c (HE b).size+c.rng+c.rng:=AN (by omega) (by omega);have ht:take N (zY N [tI 0])=zY N [tI 0]:=vD (by simp);have k8:=s8o c N (HE b).size f1 hN1 hN2.1 hN2.2 f2 f3;have k11:=s11 b hb;have k12:=s12 b (by have:=hb.blk.1;omega);refine (hG.and (k6.and (k7.and (k8.and (k9.and (k10.and (k11.and k12))))))).mono fun m g => ?_;obtain ⟨g1,g2,g3,g4,g5,g6,g7,g8⟩:=g;simp only [QU,OZ,Je,YM,outT,Bun.enc,Con.enc,yY,xR,vA] at g1 g2 g3 g4 g5 g6 g7 g8;have r1:=hR.rcvd;have r2:=hR.kno;have r3:=hR.arr;have r4:=hR.kat;have r5:=hR.busy;rw [r1,r2] at g5;simp only [join_eq,Tq,Zo,J3_1,J3_2,vv,vE,g1,g2,g3,hp,hl,bne_self_eq_false,hz,hw,ht,g4,g5,g6,g7,g8,hv,AT,vX,(show (N:Int)≤1073741824 by omega),(show ¬(o.arrive>c.start+EB c (HE b).size+c.rng) by omega),(show ¬(o.knoAt>c.start+EB c (HE b).size+c.rng+c.rng) by omega),(show ¬(o.snd.busy>c.start+EB c (HE b).size) by omega),beq_self_eq_true,and_self]
end Ab
namespace Ab
open Go
variable {P:Program}
theorem WV {d:Nat} {t:TypeId} {k:IntKind} (hu:P.underlying t=some (.int k)) {ts:List Tree} (h:Typed P d t ts):∃n,ts=[.int k n]∧(Lit.int k n).wf=true:=by
 cases d with
 |zero=>cases h
 |succ d=>unfold Typed at h;rw [hu] at h;exact h
theorem WU {d:Nat} {t:TypeId} (hu:P.underlying t=some .string) {ts:List Tree} (h:Typed P d t ts):∃s:ByteArray,ts=[.str s]∧s.size≤maxLen:=by
 cases d with
 |zero=>cases h
 |succ d=>unfold Typed at h;rw [hu] at h;exact h
theorem ME {d:Nat} {t e:TypeId} (hu:P.underlying t=some (.slice e)) {ts:List Tree} (h:Typed P (d+1) t ts):∃es,ts=[.sl (P.cellsOf e) es]∧es.length≤maxLen∧∀x∈es,Typed P d e x:=by unfold Typed at h;rw [hu] at h;exact h
theorem Qi {d:Nat} {t:TypeId} {fs:Array Field} (hu:P.underlying t=some (.struct fs)) {ts:List Tree} (h:Typed P (d+1) t ts):GC (Typed P d) (fs.toList.map (·.type)) ts:=by unfold Typed at h;rw [hu] at h;exact h
def Sx (P:Program) (t:TypeId):Option (List TypeId):=
 match P.underlying t with
 |some (.struct fs)=>some (fs.toList.map (·.type))
 |_=>none
theorem Eb {d:Nat} {t:TypeId} (l:List TypeId) (hu:Sx P t=some l) {ts:List Tree} (h:Typed P (d+1) t ts):GC (Typed P d) l ts:=by
 unfold Sx at hu;split at hu
 ·rename_i fs hf;cases hu;exact Qi hf h
 ·cases hu
theorem Am {Ty:TypeId→List Tree→Prop} {t:TypeId} {l:List TypeId} {ts:List Tree} (h:GC Ty (t::l) ts):∃a b,ts=a++b∧Ty t a∧GC Ty l b:=h
theorem Ey {Ty:TypeId→List Tree→Prop} {ts:List Tree} (h:GC Ty [] ts):ts=[]:=h
theorem HC {α:Type} {enc:α→List Tree} {p:α→Prop}:∀{es:List (List Tree)},(∀x∈es,∃a,x=enc a∧p a)→∃l:List α,es=l.map enc∧∀a∈l,p a
 |[],_=>⟨[],rfl,by simp⟩
 |x::es,h=>by
  obtain ⟨a,ha,pa⟩:=h x (by simp);obtain ⟨l,hl,pl⟩:=HC (es:=es) fun y hy=>h y (by simp [hy]);refine ⟨a::l,by simp [ha,hl],fun b hb => ?_⟩;rcases xL.1 hb with rfl|hb
  ·exact pa
  ·exact pl b hb
end Ab
namespace Ab
open Go Go.Proofs
theorem uInt:C.P.underlying 3=some (.int .i64):=by kernel_rfl
theorem uStr:C.P.underlying 9=some .string:=by kernel_rfl
def In64 (n:Int):Prop := -9223372036854775808≤n∧n≤9223372036854775807
theorem CN {d:Nat} {ts:List Tree} (h:Typed C.P d 3 ts):∃n,ts=[tI n]∧In64 n:=by obtain ⟨n,h1,h2⟩:=WV uInt h;refine ⟨n,h1,?_⟩;simp only [Lit.wf,and_eq_true,decide_eq_true_eq,show IntKind.i64.min = -9223372036854775808 from rfl,show IntKind.i64.max=9223372036854775807 from rfl] at h2;exact h2
theorem V6 {d:Nat} {ts:List Tree} (h:Typed C.P d 9 ts):∃b:ByteArray,ts=[.str b]∧True:=by obtain ⟨b,h1,_⟩:=WU uStr h;exact ⟨b,h1,trivial⟩
theorem dec_blk {d:Nat} {ts:List Tree} (h:Typed C.P (d+1) 61 ts):∃e:BH,ts=e.enc∧True:=by have h1:=Eb (t:=61) [3,3,9] (by kernel_rfl) h;clear h;obtain ⟨_,t1,rfl,x1,g1⟩:=Am h1;obtain ⟨a1,rfl,_⟩:=CN x1;obtain ⟨_,t2,rfl,x2,g2⟩:=Am g1;obtain ⟨a2,rfl,_⟩:=CN x2;obtain ⟨_,t3,rfl,x3,g3⟩:=Am g2;obtain ⟨a3,rfl,_⟩:=V6 x3;obtain rfl:=Ey g3;exact ⟨⟨a1,a2,a3⟩,rfl,trivial⟩
theorem dec_con {d:Nat} {ts:List Tree} (h:Typed C.P (d+1) 30 ts):∃e:Con,ts=e.enc∧True:=by have h1:=Eb (t:=30) [3,3,3,3,3,3,3] (by kernel_rfl) h;clear h;obtain ⟨_,t1,rfl,x1,g1⟩:=Am h1;obtain ⟨a1,rfl,_⟩:=CN x1;obtain ⟨_,t2,rfl,x2,g2⟩:=Am g1;obtain ⟨a2,rfl,_⟩:=CN x2;obtain ⟨_,t3,rfl,x3,g3⟩:=Am g2;obtain ⟨a3,rfl,_⟩:=CN x3;obtain ⟨_,t4,rfl,x4,g4⟩:=Am g3;obtain ⟨a4,rfl,_⟩:=CN x4;obtain ⟨_,t5,rfl,x5,g5⟩:=Am g4;obtain ⟨a5,rfl,_⟩:=CN x5;obtain ⟨_,t6,rfl,x6,g6⟩:=Am g5;obtain ⟨a6,rfl,_⟩:=CN x6;obtain ⟨_,t7,rfl,x7,g7⟩:=Am g6;obtain ⟨a7,rfl,_⟩:=CN x7;obtain rfl:=Ey g7;exact ⟨⟨a1,a2,a3,a4,a5,a6,a7⟩,rfl,trivial⟩
theorem dec_id {d:Nat} {ts:List Tree} (h:Typed C.P (d+1) 23 ts):∃a1 a2 a3 a4 a5:Int,ts=[tI a1,tI a2,tI a3,tI a4,tI a5]:=by have h1:=Eb (t:=23) [3,3,3,3,3] (by kernel_rfl) h;clear h;obtain ⟨_,t1,rfl,x1,g1⟩:=Am h1;obtain ⟨a1,rfl,_⟩:=CN x1;obtain ⟨_,t2,rfl,x2,g2⟩:=Am g1;obtain ⟨a2,rfl,_⟩:=CN x2;obtain ⟨_,t3,rfl,x3,g3⟩:=Am g2;obtain ⟨a3,rfl,_⟩:=CN x3;obtain ⟨_,t4,rfl,x4,g4⟩:=Am g3;obtain ⟨a4,rfl,_⟩:=CN x4;obtain ⟨_,t5,rfl,x5,g5⟩:=Am g4;obtain ⟨a5,rfl,_⟩:=CN x5;obtain rfl:=Ey g5;exact ⟨a1,a2,a3,a4,a5,rfl⟩
theorem dec_end {d:Nat} {ts:List Tree} (h:Typed C.P (d+1) 25 ts):∃a1 a2:Int,ts=[tI a1,tI a2]:=by have h1:=Eb (t:=25) [3,3] (by kernel_rfl) h;clear h;obtain ⟨_,t1,rfl,x1,g1⟩:=Am h1;obtain ⟨a1,rfl,_⟩:=CN x1;obtain ⟨_,t2,rfl,x2,g2⟩:=Am g1;obtain ⟨a2,rfl,_⟩:=CN x2;obtain rfl:=Ey g2;exact ⟨a1,a2,rfl⟩
theorem ZG {d:Nat} {ts:List Tree} (h:Typed C.P (d+2) 26 ts):∃l:List BH,ts=[.sl 3 (l.map BH.enc)]∧True:=by obtain ⟨es,rfl,_,h2⟩:=ME (t:=26) (e:=61) (by kernel_rfl) h;obtain ⟨l,rfl,hl⟩:=HC fun x hx=>dec_blk (h2 x hx);exact ⟨l,by rw [show C.P.cellsOf 61=3 by kernel_rfl],trivial⟩
theorem ZF {d:Nat} {ts:List Tree} (h:Typed C.P (d+2) 31 ts):∃l:List Int,ts=[.sl 1 (l.map DR)]∧∀n∈l,In64 n:=by obtain ⟨es,rfl,_,h2⟩:=ME (t:=31) (e:=3) (by kernel_rfl) h;obtain ⟨l,rfl,hl⟩:=HC (enc:=DR) fun x hx=>CN (h2 x hx);exact ⟨l,by rw [show C.P.cellsOf 3=1 by kernel_rfl],hl⟩
theorem dec_bun {d:Nat} {ts:List Tree} (h:Typed C.P (d+3) 28 ts):∃b:Bun,ts=b.enc∧True:=by have h1:=Eb (t:=28) [23,25,3,3,3,26,9] (by kernel_rfl) h;clear h;obtain ⟨_,t1,rfl,x1,g1⟩:=Am h1;obtain ⟨a1,a2,a3,a4,a5,rfl⟩:=dec_id x1;obtain ⟨_,t2,rfl,x2,g2⟩:=Am g1;obtain ⟨b1,b2,rfl⟩:=dec_end x2;obtain ⟨_,t3,rfl,x3,g3⟩:=Am g2;obtain ⟨c1,rfl,_⟩:=CN x3;obtain ⟨_,t4,rfl,x4,g4⟩:=Am g3;obtain ⟨c2,rfl,_⟩:=CN x4;obtain ⟨_,t5,rfl,x5,g5⟩:=Am g4;obtain ⟨c3,rfl,_⟩:=CN x5;obtain ⟨_,t6,rfl,x6,g6⟩:=Am g5;obtain ⟨bl,rfl,_⟩:=ZG x6;obtain ⟨_,t7,rfl,x7,g7⟩:=Am g6;obtain ⟨pay,rfl,_⟩:=V6 x7;obtain rfl:=Ey g7;exact ⟨⟨a1,a2,a3,a4,a5,b1,b2,c1,c2,c3,bl,pay⟩,rfl,trivial⟩
theorem own:ownKnob Tryz.prog.godebug=none:=by kernel_rfl
end Ab
namespace Ab
open Go
abbrev REn:=FuncId×List Tree×List Tree
def REk (P:Program) (e:REn):Prop:=if e.1<OWN then Ib P e.1 e.2.1 e.2.2 else if e.1<FT then Zg P (e.1-OWN) e.2.1 e.2.2 else Ux P ((e.1-FT) % 64) ((e.1-FT) / 64) e.2.1 e.2.2
def PE:List REn→BX
 |[],_,_=>none
 |e::l,g,xs=>match Nat.beq e.1 g with
  |true=>match tL e.2.1 xs with
   |true=>some e.2.2
   |false=>PE l g xs
  |false=>PE l g xs
def aT (P:Program):List REn→Prop
 |[]=>True
 |e::l=>REk P e∧aT P l
theorem Qp {P:Program}:∀{l:List REn},aT P l→Cg P (PE l)
 |[],_=>fun g xs ys h=>by cases h
 |e::l,hl=>fun g xs ys h=>by
  unfold PE at h;split at h
  ·rename_i h1;split at h
   ·rename_i h2;cases h;have e1:=Nat.eq_of_beq_eq_true h1;have e2:=R1 _ _ h2;subst e1 e2;exact hl.1
   ·exact Qp hl.2 g xs ys h
  ·exact Qp hl.2 g xs ys h
noncomputable def stepT (C:Cfg) (l:List REn) (n:Nat) (e:REn):Option (List Tree):=
 if e.1<OWN then JN C (inl C (pcx C (PE l)) n C.depth) (pcx C (PE l)) n e.1 e.2.1 else if e.1<FT then KU C (inl C (pcx C (PE l)) n C.depth) (pcx C (PE l)) n (e.1-OWN) e.2.1
 else Is C (inl C (pcx C (PE l)) n C.depth) (pcx C (PE l)) n ((e.1-FT) % 64) ((e.1-FT) / 64) e.2.1
theorem AI {C:Cfg} (hmix:C.P.follows .mixedOrders=true) (hext:O7 C) {l:List REn} (hl:aT C.P l) {n:Nat} {e:REn} (hk:stepT C l n e=some e.2.2):REk C.P e:=by
 have hp:=Jd hext (Qp hl);unfold stepT at hk;unfold REk;by_cases hg:e.1<OWN
 ·rw [if_pos hg] at hk ⊢;exact Vb (IF hmix hp n C.depth) hp hmix hk
 ·rw [if_neg hg] at hk ⊢;by_cases hg2:e.1<FT
  ·rw [if_pos hg2] at hk ⊢;exact YU (IF hmix hp n C.depth) hp hmix hk
  ·rw [if_neg hg2] at hk ⊢;exact Ve (IF hmix hp n C.depth) hp hmix hk
end Ab
namespace Ab
open Go Go.Proofs Go.RowKit Go.Lib
set_option maxHeartbeats 4000000
theorem Tt {P:Program} {o:Oper} {a:Act} {w:World} {K:Act→World→Prop} {Q:Exit→Act→World→Prop} {t:TypeId} {x:Operand} {v:Value} (ho:o.op = .load t x) (h:(Instr.loadAt t (a.eval x)).run P w = .ok v w) (hk:K (a.put o.dst v) w):o.wp P a w K Q:=by
 have:(execOp a.eval o).run P w = .ok (.value v) w:=by unfold execOp;rw [ho];simp [h]
 unfold Oper.wp;rw [this,Oper.upon_value];exact hk
theorem NC (r:Int) (w:World):Calls Tryz.prog 238 #[.int .u32 r] w fun e w'=>e = .returned (.int .u32 (steps 8 r))∧w'=w:=by
 go_enter Tryz.func238,Tryz.ntmps238
 go_wp2
 go_loopg [0,3] 8 (fun g s0 s3 wx=>∃i:Nat,i+g=8∧s0 = .int .u32 (steps i r)∧s3 = .int .i64 i∧wx=w)
 case atStart=>exact ⟨0,rfl,rfl,rfl,rfl⟩
 case round=>
  obtain ⟨i,hig,rfl,rfl,rfl⟩:=hrel;generalize hx:steps i r=x;cases gk with
  |zero=>
   obtain rfl:i=8:=by omega
   have hiz:¬(((8:Nat):Int)<(8:Int)):=by omega
   go_wp2
   go_ret
   exact ⟨rfl,rfl⟩
  |succ g=>
   have hiz:(i:Int)<(8:Int):=by omega
   have Hx:Aside (steps i r=x):=hx;clear hx;by_cases hodd:x.tmod 2=1
   ·have Hs:Aside (steps (i+1) r=Ha .u32 (IntKind.u32.wrap (x.tdiv 2)) 2197175160):=by show steps (i+1) r=_;rw [NB,Hx.out,R2,if_pos hodd]
    go_wp2
    go_roundg g
    case measure=>omega
    case rel=>exact ⟨i+1,by omega,by rw [Hs.out];rfl,by first|rfl|simp,rfl⟩
   ·have Hs:Aside (steps (i+1) r=IntKind.u32.wrap (x.tdiv 2)):=by show steps (i+1) r=_;rw [NB,Hx.out,R2,if_neg hodd]
    go_wp2
    go_roundg g
    case measure=>omega
    case rel=>exact ⟨i+1,by omega,by rw [Hs.out];rfl,by first|rfl|simp,rfl⟩
theorem Rz (w:World):Calls Tryz.prog 196 #[] w fun e w'=>e = .returned (.agg (A0 256))∧w'=(w.alloc (.cells (A0 256) 328)).alloc (.cells (A0 256) 328):=by
 go_enter Tryz.func196,Tryz.ntmps196
 have e1:(zeroValue 328).run Tryz.prog w = .ok (.agg (Array.replicate 256 (.int .u32 0))) w:=Tryz.zeroValue328 w
 go_wp2
 rw [← TG]
 go_loopg [2,3] 256 (fun g s2 s3 wx=>∃i:Nat,i+g=256∧s3 = .int .i64 i∧wx=(w.alloc (.cells (A0 0) 328)).alloc (.cells (A0 i) 328))
 case atStart=>exact ⟨0,rfl,rfl,rfl⟩
 case round=>
  obtain ⟨i,hig,rfl,rfl⟩:=hrel;cases gk with
  |zero=>
   obtain rfl:i=256:=by omega
   have hiz:¬(((256:Nat):Int)<(256:Int)):=by omega
   have hsz:(w.alloc (.cells (A0 0) 328)).heap.size=w.heap.size+1:=by simp
   have hld:=run_loadAt_new (P:=Tryz.prog) (w.alloc (.cells (A0 0) 328)) 328 (A0 256) 256 279 (by kernel_rfl) (by rw [Dr];kernel_rfl);rw [hsz] at hld;have h0:((w.alloc (.cells (A0 0) 328)).alloc (.cells (A0 256) 328)).heap[w.heap.size]? = some (.cells (A0 0) 328):=by show ((w.heap.push _).push _)[w.heap.size]? = _;rw [vW (by simp)];simp
   have hW:((w.alloc (.cells (A0 0) 328)).alloc (.cells (A0 256) 328)).setRow w.heap.size (A0 256)=(w.alloc (.cells (A0 256) 328)).alloc (.cells (A0 256) 328):=by
    simp only [World.setRow,World.alloc];congr 1;apply Array.ext_getElem?;intro i;rw [Array.getElem?_modify];by_cases h:w.heap.size=i
    ·subst h;rw [vW (by simp),vW (by simp)];simp
    ·simp only [h,if_false,zB];simp [Ne.symm h]
   have Hld:Aside _:=hld;have hst2:(storeCells ⟨w.heap.size,0,none⟩ (A0 256).toList 0).run Tryz.prog ((w.alloc (.cells (A0 0) 328)).alloc (.cells (A0 256) 328))= .ok () ((w.alloc (.cells (A0 256) 328)).alloc (.cells (A0 256) 328)):=by
    have h9:=run_storeCells_at Tryz.prog w.heap.size 0 328 (A0 256).toList 0 (A0 0) ((w.alloc (.cells (A0 0) 328)).alloc (.cells (A0 256) 328)) h0 (by simp [Dr]) (fun v hv=>by have:=Uo 256;rw [Array.all_eq_true_iff_forall_mem] at this;exact this v (by simpa using hv))
    have h10:((A0 0).toList.take (0+0)++(A0 256).toList++(A0 0).toList.drop (0+0+(A0 256).toList.length)).toArray=A0 256:=by rw [List.drop_of_length_le (by simp [Dr])];simp
    rw [h10,hW] at h9;exact h9
   have Hst:Aside _:=hst2;have h1:((w.alloc (.cells (A0 256) 328)).alloc (.cells (A0 256) 328)).heap[w.heap.size]? = some (.cells (A0 256) 328):=by show ((w.heap.push _).push _)[w.heap.size]? = _;rw [vW (by simp)];simp
   have hu328:Tryz.prog.underlying 328=some (.array 256 279):=by kernel_rfl
   have hl2:=run_loadVar_row (P:=Tryz.prog) ((w.alloc (.cells (A0 256) 328)).alloc (.cells (A0 256) 328)) w.heap.size 328 328 (A0 256) (0,0) _ h1 hu328 rfl (by rw [Dr];kernel_rfl);have Hl2:Aside _:=hl2;clear hld hst2 hsz h0 h1 hW hl2 hu328
   go_wp2
   refine Tt (v :=.agg (A0 256)) rfl Hld.out ?_
   go_wp2
   rw [Hst.out];simp only [Result.andThen];rw [Oper.upon_skip]
   go_wp2
   (try simp only [Exit.inBlock,Exit.then])
   refine bodyPost_ret (v :=.agg (A0 256)) ?_ rfl ⟨rfl,rfl⟩;simp [results,asAddr,Act.put,Hl2.out]
  |succ g=>
   have hiz:(i:Int)<(256:Int):=by omega
   have hw:IntKind.u32.wrap (i:Int)=i:=by simp only [IntKind.wrap,IntKind.signed,IntKind.bits];simp;omega
   have Hi:Aside (i<256):=by show i<256;omega
   go_wp2_with (go_at_fn 238;refine (NC _ _).mono ?_)
   refine (NC _ _).mono ?_
   rintro e w1 ⟨rfl,rfl⟩
   have hcell:(A0 i)[i]? = some (.int .u32 0):=by rw [OO i i Hi.out,if_neg (Nat.lt_irrefl i)]
   go_wp2
   go_roundg g
   case measure=>omega
   case rel=>exact ⟨i+1,by omega,by first|rfl|simp,by rw [TH i Hi.out]⟩
theorem Xp:Ib Tryz.prog 196 [] J9:=by
 intro B w avs vs n hm hB hc;have e:avs=[]:=by
  have:D3 Tryz.prog 196 (fun i =>.t ((List.getD [] i default:Tree)))=some []:=by kernel_rfl
  rw [this] at hm;exact (Option.some.inj hm).symm
 subst e;obtain rfl:vs = #[]:=zA (by simpa using hc.1);refine (callsIn_wide (n:=n)).2 (Rz w) |>.mono ?_
 rintro e w' ⟨rfl,rfl⟩
 have hg:MC w ((w.alloc (.cells (A0 256) 328)).alloc (.cells (A0 256) 328)):=⟨rfl,rfl,rfl,by simp;omega,fun b hb=>by show ((w.heap.push _).push _)[b]? = _;rw [zB,if_neg (by simp;omega),zB,if_neg (uM hb)]⟩
 have hr:C7 Tryz.prog 196 (fun i =>.t (J9.getD i default))=some (.agg (BK (fun i =>.t (J9.getD i default)) 0 256)):=by
  have h1:BF Tryz.prog 328=some true:=by kernel_rfl
  have h2:B6 Tryz.prog 328=some 256:=by kernel_rfl
  have h3:Tryz.prog.funcs[196]? = some Tryz.f196:=Tryz.func196;have h4:Tryz.f196.resultTypes.toList=[328]:=by kernel_rfl
  simp only [C7,h3,h4,Ck,IA,h1,h2,yP]
 refine ⟨_,_,rfl,hr,.agg _ _ (by rw [Dr];simp [BK]) fun j x hx => ?_,hg,fun h => ?_⟩
 ·have hj:j<256:=by have:=AS hx;simpa [BK] using this
  have h1:=OO 256 j hj;rw [if_pos hj] at h1;have h2:(A0 256).getD j undef = .int .u32 (steps 8 j):=by rw [Array.getD_eq_getD_getElem?,h1];rfl
  rw [h2];simp only [BK,zQ,getElem?_range hj,yP,Option.some.injEq,zero_add] at hx;subst hx;have h3:J9.getD j default = .int .u32 (steps 8 j):=by simp [J9,hj]
  rw [h3];exact .t _ _ (.int _ _)
 ·show J9.all Tree.scalar=true;rw [all_eq_true];intro x hx;simp only [J9,mem_map] at hx;obtain ⟨j,_,rfl⟩:=hx;rfl
end Ab
namespace Ab
open Go Go.Proofs Go.Shelf Go.RowKit Go.Lib
theorem Hr {P:Program} {t key elem:TypeId} {kd:IntKind} (hu:P.underlying t=some (.map key elem)) (hk:P.underlying key=some (.int kd)) {w:World} {b:Nat} {es:Array MapEntry} {clock:Nat} (hb:w.heap[b]? = some (.map es clock)) (n:Int) (v:Value)
  (hnew:Instr.findNow (.int kd) (.int kd n) es.toList 0=some none) :
  (Instr.mapUpdate t (.map (some b)) (.int kd n) v).run P w = .ok () (w.putObj b (.map (es.push {key :=.int kd n,val:=v,born:=clock}) (clock+1))):=by
 have hck:(Instr.checkKey false 10000 key (.int kd n)).run P w = .ok () w:=by
  have:∀m:Nat,(Instr.checkKey false (m+1) key (.int kd n)).run P w = .ok () w:=fun m=>by simp [Instr.checkKey,run_underlying hk]
  exact this 9999
 simp only [Instr.mapUpdate,Sem.run_bind,run_underlying hu,Result.andThen_ok,DJ hb,hck,Instr.findKey,run_underlying hk,hnew,Sem.run_pure];simp [setObj,Sem.run,hb,World.putObj]
theorem N7 (w:World):Calls Tryz.prog 253 #[] w fun e w'=>∃b,e = .returned (.map (some b))∧w.heap.size≤b∧b<w'.heap.size∧Below w.heap.size w w'∧∃es clock,w'.heap[b]? = some (.map es clock)∧es.toList.map (fun e=>(e.key,e.val))=[(.int .i64 2,.func (.func 282) #[] #[]),(.int .i64 3,.func (.func 283) #[] #[])]:=by
 have hmm:=@Go.run_makeMap_plain Tryz.prog;have hw0:(w.alloc (.map #[] 0)).heap[w.heap.size]? = some (.map #[] 0):=by show (w.heap.push (.map #[] 0))[w.heap.size]? = _;exact Array.getElem?_push_size
 have h1:(Instr.mapUpdate 397 (.map (some w.heap.size)) (.int .i64 2) (.func (.func 282) #[] #[])).run Tryz.prog (w.alloc (.map #[] 0))= .ok () ((w.alloc (.map #[] 0)).putObj w.heap.size (.map #[{key :=.int .i64 2,val :=.func (.func 282) #[] #[],born:=0}] 1)):=
  Hr (P:=Tryz.prog) (t:=397) (key:=3) (elem:=395) (kd :=.i64) (by kernel_rfl) (by kernel_rfl) hw0 2 (.func (.func 282) #[] #[]) rfl
 have hlt:=Dx hw0;have hw1:=World.putObj_heap_same (o :=.map #[{key :=.int .i64 2,val :=.func (.func 282) #[] #[],born:=0}] 1) hlt;have hlt2:=Dx hw1;have hw2:=World.putObj_heap_same (o :=.map #[{key :=.int .i64 2,val :=.func (.func 282) #[] #[],born:=0},{key :=.int .i64 3,val :=.func (.func 283) #[] #[],born:=1}] 2) hlt2;have hlt3:=Dx hw2;have h2:(Instr.mapUpdate 397 (.map (some w.heap.size)) (.int .i64 3) (.func (.func 283) #[] #[])).run Tryz.prog ((w.alloc (.map #[] 0)).putObj w.heap.size (.map #[{key :=.int .i64 2,val :=.func (.func 282) #[] #[],born:=0}] 1))= .ok () (((w.alloc (.map #[] 0)).putObj w.heap.size (.map #[{key :=.int .i64 2,val :=.func (.func 282) #[] #[],born:=0}] 1)).putObj w.heap.size (.map #[{key :=.int .i64 2,val :=.func (.func 282) #[] #[],born:=0},{key :=.int .i64 3,val :=.func (.func 283) #[] #[],born:=1}] 2)):=
  Hr (P:=Tryz.prog) (t:=397) (key:=3) (elem:=395) (kd :=.i64) (by kernel_rfl) (by kernel_rfl) hw1 3 (.func (.func 283) #[] #[]) rfl
 go_enter Tryz.func253,Tryz.ntmps253
 go_wp2
 go_ret
 exact ⟨w.heap.size,rfl,yE _,hlt3,⟨rfl,rfl,rfl,Nat.le_of_lt hlt3,fun k hk=>by rw [World.putObj_heap_other (uM hk),World.putObj_heap_other (uM hk)];show (w.heap.push (.map #[] 0))[k]? = _;rw [zB,if_neg (uM hk)]⟩,_,_,hw2,rfl⟩
theorem mapExt:Ib Tryz.prog 253 [] [.mp .i64 [(2,282),(3,283)]]:=by
 intro B w avs vs n hm hB hc;have e:avs=[]:=by
  have:D3 Tryz.prog 253 (fun i =>.t ((List.getD [] i default:Tree)))=some []:=by kernel_rfl
  rw [this] at hm;exact (Option.some.inj hm).symm
 subst e;obtain rfl:vs = #[]:=zA (by simpa using hc.1);refine (callsIn_wide (n:=n)).2 (N7 w) |>.mono ?_
 rintro e w' ⟨b,rfl,h1,h2,h3,es,clock,h4,h5⟩
 refine ⟨_,.t (.mp .i64 [(2,282),(3,283)]),rfl,by kernel_rfl,.t _ _ (.mp .i64 _ b es clock h2 ?_ h4 (by rw [h5];rfl)),⟨h3.os,h3.tape,h3.output,h3.size,h3.block⟩,fun h => ?_⟩
 ·rintro (h|h)
  ·exact Nat.lt_irrefl _ (lt_of_lt_of_le (hB b h) h1)
  ·exact EA h
 ·have:Co Tryz.prog 253=false:=by kernel_rfl
  rw [this] at h;cases h
theorem AQ:O7 C0:=by
 intro g xs ys _ h;have h2:RC g xs=some ys:=h;clear h;unfold RC at h2;split at h2
 ·rename_i e;split at h2
  ·cases h2;subst e;exact Xp
  ·cases h2
 split at h2
 ·rename_i e;split at h2
  ·cases h2;subst e;exact mapExt
  ·cases h2
 cases h2
end Ab
