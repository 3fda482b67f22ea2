/- A part of the proof: see the last text. -/
import Derived.Test.YtabheiodkaljcaaGreatDoorM5
import Derived.Shelf.Strings.Builder1
import Derived.Shelf.Strings.Builder2
import Derived.Shelf.Strings.BuilderF
import Derived.Shelf.Strings.Prefix
import Derived.Shelf.Bits.Mul64
import Derived.Shelf.Strings.Repeat
import Derived.Test.YtabheiodkaljcaaGreatDoorProg
import Derived.Deep.LoopGhost
import Derived.Below
import Derived.WideMake
import Derived.WalkKit
open Array (eq_empty_of_size_eq_zero)
open Bool (and_eq_true true_eq_false)
open Bool renaming false_eq_true → zD
open Int (emod_nonneg tmod toNat toNat_natCast)
open Int renaming emod_lt_of_pos → wP, lt_irrefl → wE, natCast_zero → vH
open List (drop_zero getElem?_map head?_cons head?_nil length length_map mem_append mem_cons tail_cons take)
open List renaming append_assoc → zH, append_nil → yZ, cons_append → xB, drop_left → vK, getD_eq_getElem?_getD → xJ, getElem?_append_right → zL, getElem?_cons_zero → zM, getElem?_eq_getElem → zO, length_append → zV, length_cons → zW, length_nil → zX, length_pos_iff → zY, map_append → wY, map_cons → xN, map_nil → vA, mem_of_getElem? → yA, mem_singleton → xW, nil_append → xX, take_of_length_le → vD
open Nat (lt_of_lt_of_le reduceEqDiff)
open Nat renaming add_sub_cancel → vQ, le_refl → yI, ne_of_lt → vR, reduceAdd → wK, zero_add → yR
open Option (getD_none isSome_none isSome_some map_none map_some)
set_option linter.unusedVariables false
set_option maxRecDepth 100000
namespace Ab
open Go
def Af (a:Rw):List AV:=[.t (tI a.snd.c.frm),.t (tI a.snd.c.dst),.t (tI a.snd.c.start),.t (tI a.snd.c.fin),.t (tI a.snd.c.rate),.t (tI a.snd.c.rng),.t (tI a.snd.c.loss),.t (tI a.snd.ses),.t (.str a.snd.data),.t (tI a.snd.fin),.t (tI a.snd.busy),.t (tI a.snd.ser),.t (.sl 2 (a.snd.acked.map Span.enc)),.t (tI a.snd.due),.t (tI a.snd.st),.t (tI a.rcv.ses),.t (tI a.rcv.tot),.t (.sl 2 (a.rcv.known.map Span.enc)),.t (.str a.rcv.data),.t (tI a.dat.rng),.t (.sl 10 (a.dat.frames.map Frame.enc)),.t (tI a.dat.sent),.t (tI a.dat.lost),.t (tI a.rep.rng),.t (.sl 10 (a.rep.frames.map Frame.enc)),.t (tI a.rep.sent),.t (tI a.rep.lost),.sref 0 a.v0 a.p1 a.p2,.t (.sl 1 (a.picks.map Aw)),.t (tI a.limit),.t (.sl 2 (a.dark.map Span.enc)),.t (tI a.entered),.t (tI a.dist),.t (.bool a.rcvd),.t (tI a.arrive),.t (.bool a.kno),.t (tI a.knoAt),.t (tI 0),.t (tI 0),.t (tI 0),.sref 4 a.v4 0 a.n4,.sref 5 a.v5 0 a.n5]
def Ai (f1 f2 f3:AI) (v0:Nat) (e0:List (List Tree)) (v4:Nat) (e4:List (List Tree)) (v5:Nat) (e5:List (List Tree)) (c:List AV) (tl:Heap):Heap:=
 .row false v0 9 e0::f1::f2::f3 :: .row false v4 9 e4 :: .row false v5 9 e5 :: .box c::tl
def H21 (f1 f2 f3:AI) (g:Gh) (s:Ses) (tl:Heap):Heap:=Ai f1 f2 f3 g.v0 (g.pre++s.pend.map Out.enc) g.v4 (s.sent.map Out.enc) g.v5 (s.told.map Out.enc) (Af (rwO g s)) tl
section
variable (e:List AV) (f1 f2 f3:AI) (v0:Nat) (e0:List (List Tree)) (v4:Nat) (e4:List (List Tree)) (v5:Nat) (e5:List (List Tree)) (a:Rw)
theorem rd21 (tl:Heap) :
 cI (e,Ai f1 f2 f3 v0 e0 v4 e4 v5 e5 (Af a) tl) 6 0=a.snd.c.frm∧
 cI (e,Ai f1 f2 f3 v0 e0 v4 e4 v5 e5 (Af a) tl) 6 1=a.snd.c.dst∧
 cI (e,Ai f1 f2 f3 v0 e0 v4 e4 v5 e5 (Af a) tl) 6 2=a.snd.c.start∧
 cI (e,Ai f1 f2 f3 v0 e0 v4 e4 v5 e5 (Af a) tl) 6 3=a.snd.c.fin∧
 cI (e,Ai f1 f2 f3 v0 e0 v4 e4 v5 e5 (Af a) tl) 6 4=a.snd.c.rate∧
 cI (e,Ai f1 f2 f3 v0 e0 v4 e4 v5 e5 (Af a) tl) 6 5=a.snd.c.rng∧
 cI (e,Ai f1 f2 f3 v0 e0 v4 e4 v5 e5 (Af a) tl) 6 6=a.snd.c.loss∧
 cI (e,Ai f1 f2 f3 v0 e0 v4 e4 v5 e5 (Af a) tl) 6 7=a.snd.ses∧
 cS (e,Ai f1 f2 f3 v0 e0 v4 e4 v5 e5 (Af a) tl) 6 8=a.snd.data∧
 cI (e,Ai f1 f2 f3 v0 e0 v4 e4 v5 e5 (Af a) tl) 6 9=a.snd.fin∧
 cI (e,Ai f1 f2 f3 v0 e0 v4 e4 v5 e5 (Af a) tl) 6 10=a.snd.busy∧
 cI (e,Ai f1 f2 f3 v0 e0 v4 e4 v5 e5 (Af a) tl) 6 11=a.snd.ser∧
 cL (e,Ai f1 f2 f3 v0 e0 v4 e4 v5 e5 (Af a) tl) 6 12=a.snd.acked.map Span.enc∧
 cI (e,Ai f1 f2 f3 v0 e0 v4 e4 v5 e5 (Af a) tl) 6 13=a.snd.due∧
 cI (e,Ai f1 f2 f3 v0 e0 v4 e4 v5 e5 (Af a) tl) 6 14=a.snd.st∧
 cI (e,Ai f1 f2 f3 v0 e0 v4 e4 v5 e5 (Af a) tl) 6 15=a.rcv.ses∧
 cI (e,Ai f1 f2 f3 v0 e0 v4 e4 v5 e5 (Af a) tl) 6 16=a.rcv.tot∧
 cL (e,Ai f1 f2 f3 v0 e0 v4 e4 v5 e5 (Af a) tl) 6 17=a.rcv.known.map Span.enc∧
 cS (e,Ai f1 f2 f3 v0 e0 v4 e4 v5 e5 (Af a) tl) 6 18=a.rcv.data∧
 cI (e,Ai f1 f2 f3 v0 e0 v4 e4 v5 e5 (Af a) tl) 6 19=a.dat.rng∧
 cL (e,Ai f1 f2 f3 v0 e0 v4 e4 v5 e5 (Af a) tl) 6 20=a.dat.frames.map Frame.enc∧
 cI (e,Ai f1 f2 f3 v0 e0 v4 e4 v5 e5 (Af a) tl) 6 21=a.dat.sent∧
 cI (e,Ai f1 f2 f3 v0 e0 v4 e4 v5 e5 (Af a) tl) 6 22=a.dat.lost∧
 cI (e,Ai f1 f2 f3 v0 e0 v4 e4 v5 e5 (Af a) tl) 6 23=a.rep.rng∧
 cL (e,Ai f1 f2 f3 v0 e0 v4 e4 v5 e5 (Af a) tl) 6 24=a.rep.frames.map Frame.enc∧
 cI (e,Ai f1 f2 f3 v0 e0 v4 e4 v5 e5 (Af a) tl) 6 25=a.rep.sent∧
 cI (e,Ai f1 f2 f3 v0 e0 v4 e4 v5 e5 (Af a) tl) 6 26=a.rep.lost∧
 AL (e,Ai f1 f2 f3 v0 e0 v4 e4 v5 e5 (Af a) tl) 6 27=a.v0∧
 AP (e,Ai f1 f2 f3 v0 e0 v4 e4 v5 e5 (Af a) tl) 6 27=a.p1∧
 AJ (e,Ai f1 f2 f3 v0 e0 v4 e4 v5 e5 (Af a) tl) 6 27=a.p2∧
 cL (e,Ai f1 f2 f3 v0 e0 v4 e4 v5 e5 (Af a) tl) 6 28=a.picks.map Aw∧
 cI (e,Ai f1 f2 f3 v0 e0 v4 e4 v5 e5 (Af a) tl) 6 29=a.limit∧
 cL (e,Ai f1 f2 f3 v0 e0 v4 e4 v5 e5 (Af a) tl) 6 30=a.dark.map Span.enc∧
 cI (e,Ai f1 f2 f3 v0 e0 v4 e4 v5 e5 (Af a) tl) 6 31=a.entered∧
 cI (e,Ai f1 f2 f3 v0 e0 v4 e4 v5 e5 (Af a) tl) 6 32=a.dist∧
 cB (e,Ai f1 f2 f3 v0 e0 v4 e4 v5 e5 (Af a) tl) 6 33=a.rcvd∧
 cI (e,Ai f1 f2 f3 v0 e0 v4 e4 v5 e5 (Af a) tl) 6 34=a.arrive∧
 cB (e,Ai f1 f2 f3 v0 e0 v4 e4 v5 e5 (Af a) tl) 6 35=a.kno∧
 cI (e,Ai f1 f2 f3 v0 e0 v4 e4 v5 e5 (Af a) tl) 6 36=a.knoAt∧
 cI (e,Ai f1 f2 f3 v0 e0 v4 e4 v5 e5 (Af a) tl) 6 37=0∧
 cI (e,Ai f1 f2 f3 v0 e0 v4 e4 v5 e5 (Af a) tl) 6 38=0∧
 cI (e,Ai f1 f2 f3 v0 e0 v4 e4 v5 e5 (Af a) tl) 6 39=0∧
 AL (e,Ai f1 f2 f3 v0 e0 v4 e4 v5 e5 (Af a) tl) 6 40=a.v4∧
 AP (e,Ai f1 f2 f3 v0 e0 v4 e4 v5 e5 (Af a) tl) 6 40=0∧
 AJ (e,Ai f1 f2 f3 v0 e0 v4 e4 v5 e5 (Af a) tl) 6 40=a.n4∧
 AL (e,Ai f1 f2 f3 v0 e0 v4 e4 v5 e5 (Af a) tl) 6 41=a.v5∧
 AP (e,Ai f1 f2 f3 v0 e0 v4 e4 v5 e5 (Af a) tl) 6 41=0∧
 AJ (e,Ai f1 f2 f3 v0 e0 v4 e4 v5 e5 (Af a) tl) 6 41=a.n5:=
 ⟨rfl,rfl,rfl,rfl,rfl,rfl,rfl,rfl,rfl,rfl,rfl,rfl,rfl,rfl,rfl,rfl,rfl,rfl,rfl,rfl,rfl,rfl,rfl,rfl,rfl,rfl,rfl,rfl,rfl,rfl,rfl,rfl,rfl,rfl,rfl,rfl,rfl,rfl,rfl,rfl,rfl,rfl,rfl,rfl,rfl,rfl,rfl,rfl⟩
theorem rc21 (c:List AV) (tl:Heap) :
 AD (e,Ai f1 f2 f3 v0 e0 v4 e4 v5 e5 c tl) 0=v0∧
 oEs (e,Ai f1 f2 f3 v0 e0 v4 e4 v5 e5 c tl) 0=e0∧
 AD (e,Ai f1 f2 f3 v0 e0 v4 e4 v5 e5 c tl) 4=v4∧
 oEs (e,Ai f1 f2 f3 v0 e0 v4 e4 v5 e5 c tl) 4=e4∧
 AD (e,Ai f1 f2 f3 v0 e0 v4 e4 v5 e5 c tl) 5=v5∧
 oEs (e,Ai f1 f2 f3 v0 e0 v4 e4 v5 e5 c tl) 5=e5∧
 AD (e,Ai f1 f2 f3 v0 e0 v4 e4 v5 e5 c tl) 1=f1.ver∧
 oEs (e,Ai f1 f2 f3 v0 e0 v4 e4 v5 e5 c tl) 1=Be f1∧
 AD (e,Ai f1 f2 f3 v0 e0 v4 e4 v5 e5 c tl) 2=f2.ver∧
 oEs (e,Ai f1 f2 f3 v0 e0 v4 e4 v5 e5 c tl) 2=Be f2∧
 AD (e,Ai f1 f2 f3 v0 e0 v4 e4 v5 e5 c tl) 3=f3.ver∧
 oEs (e,Ai f1 f2 f3 v0 e0 v4 e4 v5 e5 c tl) 3=Be f3:=
 ⟨rfl,rfl,rfl,rfl,rfl,rfl,rfl,rfl,rfl,rfl,rfl,rfl⟩
theorem Xp (c:List AV) (o0:AI) (tl:Heap) :
 AD (e,Ai f1 f2 f3 v0 e0 v4 e4 v5 e5 c (o0::tl)) 7=o0.ver∧
 oEs (e,Ai f1 f2 f3 v0 e0 v4 e4 v5 e5 c (o0::tl)) 7=Be o0:=
 ⟨rfl,rfl⟩
theorem Xx (tl:Heap):rh (e,Ai f1 f2 f3 v0 e0 v4 e4 v5 e5 (Af a) (tl)) 0 C4=Ai (.row true f1.ver 15 (Be f1)) (.row true f2.ver 4 (Be f2)) (.row true f3.ver 4 (Be f3)) v0 e0 v4 e4 v5 e5 (Af a) []:=by intros;rfl
theorem Xv (tl:Heap):rh (e,Ai f1 f2 f3 v0 e0 v4 e4 v5 e5 (Af a) (tl)) 0 CH=Ai E0 E0 E0 v0 e0 v4 e4 v5 e5 (Af a) []:=by intros;rfl
theorem Xu (tl:Heap):rh (e,Ai f1 f2 f3 v0 e0 v4 e4 v5 e5 (Af a) (tl)) 0 TH=Ai E0 E0 E0 v0 e0 v4 e4 v5 e5 (Af a) [.box []]:=by intros;rfl
theorem Xw (o0:AI) (tl:Heap):rh (e,Ai f1 f2 f3 v0 e0 v4 e4 v5 e5 (Af a) (o0::tl)) 0 FL=Ai E0 E0 E0 v0 e0 v4 e4 v5 e5 (Af a) [.row false o0.ver 1 (Be o0)]:=by intros;rfl
theorem Xt (o0 o1:AI) (tl:Heap):rh (e,Ai f1 f2 f3 v0 e0 v4 e4 v5 e5 (Af a) (o0::o1::tl)) 0 Cm=Ai E0 E0 E0 v0 e0 v4 e4 v5 e5 (Af a) [.box [],.box [.t (tI (intOf (AE (cellOf o1 0)))),.t (.sl 10 (B8 (AE (cellOf o1 1)))),.t (tI (intOf (AE (cellOf o1 2)))),.t (tI (intOf (AE (cellOf o1 3))))]]:=by intros;rfl
theorem Xs (o0 o1 o2:AI) (tl:Heap):rh (e,Ai f1 f2 f3 v0 e0 v4 e4 v5 e5 (Af a) (o0::o1::o2::tl)) 0 Gf=Ai E0 E0 E0 v0 e0 v4 e4 v5 e5 (Af a) [.box [.t (tI (intOf (AE (cellOf o0 0)))),.t (.sl 10 (B8 (AE (cellOf o0 1)))),.t (tI (intOf (AE (cellOf o0 2)))),.t (tI (intOf (AE (cellOf o0 3))))],.box [],.box [.t (tI (intOf (AE (cellOf o2 0)))),.t (tI (intOf (AE (cellOf o2 1)))),.t (.sl 2 (B8 (AE (cellOf o2 2)))),.t (.str (strOf (AE (cellOf o2 3))))]]:=by intros;rfl
theorem U5 (o0 o1 o2 o3:AI) (tl:Heap):rh (e,Ai f1 f2 f3 v0 e0 v4 e4 v5 e5 (Af a) (o0::o1::o2::o3::tl)) 0 CR=Ai E0 E0 E0 v0 e0 v4 e4 v5 e5 (Af a) [.box [.t (tI (intOf (AE (cellOf o0 0)))),.t (.sl 10 (B8 (AE (cellOf o0 1)))),.t (tI (intOf (AE (cellOf o0 2)))),.t (tI (intOf (AE (cellOf o0 3))))],.box [],.box [.t (tI (intOf (AE (cellOf o2 0)))),.t (tI (intOf (AE (cellOf o2 1)))),.t (.sl 2 (B8 (AE (cellOf o2 2)))),.t (.str (strOf (AE (cellOf o2 3))))],.box [.t (tI (intOf (AE (cellOf o3 0)))),.t (.sl 10 (B8 (AE (cellOf o3 1)))),.t (tI (intOf (AE (cellOf o3 2)))),.t (tI (intOf (AE (cellOf o3 3))))]]:=by intros;rfl
theorem Xj (x:AI):upd (rh (e,Ai f1 f2 f3 v0 e0 v4 e4 v5 e5 (Af a) []) 0 FL) [(7,x)]=Ai E0 E0 E0 v0 e0 v4 e4 v5 e5 (Af a) [x]:=by intros;rfl
theorem Xi (d:List AV) (y:AI):upd (rh (e,Ai f1 f2 f3 v0 e0 v4 e4 v5 e5 (Af a) []) 0 Cm) [(6,.box d),(8,y)]=Ai E0 E0 E0 v0 e0 v4 e4 v5 e5 d [.box [],y]:=by intros;rfl
theorem U1 (y:AI):upd (rh (e,Ai f1 f2 f3 v0 e0 v4 e4 v5 e5 (Af a) []) 0 Cm) [(8,y)]=Ai E0 E0 E0 v0 e0 v4 e4 v5 e5 (Af a) [.box [],y]:=by intros;rfl
theorem U0 (o0:AI) (d:List AV) (y:AI):upd (rh (e,Ai f1 f2 f3 v0 e0 v4 e4 v5 e5 (Af a) [o0]) 0 Cm) [(6,.box d),(8,y)]=Ai E0 E0 E0 v0 e0 v4 e4 v5 e5 d [.box [],y]:=by intros;rfl
theorem Uz (o0:AI) (y:AI):upd (rh (e,Ai f1 f2 f3 v0 e0 v4 e4 v5 e5 (Af a) [o0]) 0 Cm) [(8,y)]=Ai E0 E0 E0 v0 e0 v4 e4 v5 e5 (Af a) [.box [],y]:=by intros;rfl
theorem Xh (d:List AV) (x y:AI):upd (rh (e,Ai f1 f2 f3 v0 e0 v4 e4 v5 e5 (Af a) []) 0 Gf) [(6,.box d),(7,x),(9,y)]=Ai E0 E0 E0 v0 e0 v4 e4 v5 e5 d [x,.box [],y]:=by intros;rfl
theorem U3 (o0 o1 o2:AI) (d:List AV) (y:AI):upd (rh (e,Ai f1 f2 f3 v0 e0 v4 e4 v5 e5 (Af a) [o0,o1,o2]) 0 CR) [(6,.box d),(10,y)]=Ai E0 E0 E0 v0 e0 v4 e4 v5 e5 d [.box [.t (tI (intOf (AE (cellOf o0 0)))),.t (.sl 10 (B8 (AE (cellOf o0 1)))),.t (tI (intOf (AE (cellOf o0 2)))),.t (tI (intOf (AE (cellOf o0 3))))],.box [],.box [.t (tI (intOf (AE (cellOf o2 0)))),.t (tI (intOf (AE (cellOf o2 1)))),.t (.sl 2 (B8 (AE (cellOf o2 2)))),.t (.str (strOf (AE (cellOf o2 3))))],y]:=by intros;rfl
theorem Rq (o0 o1 o2:AI) (y:AI):upd (rh (e,Ai f1 f2 f3 v0 e0 v4 e4 v5 e5 (Af a) [o0,o1,o2]) 0 CR) [(10,y)]=Ai E0 E0 E0 v0 e0 v4 e4 v5 e5 (Af a) [.box [.t (tI (intOf (AE (cellOf o0 0)))),.t (.sl 10 (B8 (AE (cellOf o0 1)))),.t (tI (intOf (AE (cellOf o0 2)))),.t (tI (intOf (AE (cellOf o0 3))))],.box [],.box [.t (tI (intOf (AE (cellOf o2 0)))),.t (tI (intOf (AE (cellOf o2 1)))),.t (.sl 2 (B8 (AE (cellOf o2 2)))),.t (.str (strOf (AE (cellOf o2 3))))],y]:=by intros;rfl
theorem RZ (x y z:AI) (c:List AV) (tl:Heap):upd (Ai f1 f2 f3 v0 e0 v4 e4 v5 e5 c (tl)) [(1,x),(2,y),(3,z)]=Ai x y z v0 e0 v4 e4 v5 e5 c tl:=by intros;rfl
theorem W9 (d:List AV) (c:List AV) (tl:Heap):upd (Ai f1 f2 f3 v0 e0 v4 e4 v5 e5 c (tl)) [(6,.box d)]=Ai f1 f2 f3 v0 e0 v4 e4 v5 e5 d tl:=by intros;rfl
theorem Uh (d:List AV) (w:Nat) (r:List (List Tree)) (c:List AV) (tl:Heap):upd (Ai f1 f2 f3 v0 e0 v4 e4 v5 e5 c (tl)) [(0,.row false w 9 r),(6,.box d)]=Ai f1 f2 f3 w r v4 e4 v5 e5 d tl:=by intros;rfl
theorem Ue (d:List AV) (w:Nat) (r:List (List Tree)) (c:List AV) (tl:Heap):upd (Ai f1 f2 f3 v0 e0 v4 e4 v5 e5 c (tl)) [(4,.row false w 9 r),(6,.box d)]=Ai f1 f2 f3 v0 e0 w r v5 e5 d tl:=by intros;rfl
theorem Ud (d:List AV) (w:Nat) (r:List (List Tree)) (c:List AV) (tl:Heap):upd (Ai f1 f2 f3 v0 e0 v4 e4 v5 e5 c (tl)) [(5,.row false w 9 r),(6,.box d)]=Ai f1 f2 f3 v0 e0 v4 e4 w r d tl:=by intros;rfl
theorem W7 (x o0:AI) (c:List AV) (tl:Heap):upd (Ai f1 f2 f3 v0 e0 v4 e4 v5 e5 c (o0::tl)) [(7,x)]=Ai f1 f2 f3 v0 e0 v4 e4 v5 e5 c (x::tl):=by intros;rfl
theorem W6 (x o0 o1:AI) (c:List AV) (tl:Heap):upd (Ai f1 f2 f3 v0 e0 v4 e4 v5 e5 c (o0::o1::tl)) [(8,x)]=Ai f1 f2 f3 v0 e0 v4 e4 v5 e5 c (o0::x::tl):=by intros;rfl
theorem Uc (d:List AV) (x o0 o1:AI) (c:List AV) (tl:Heap):upd (Ai f1 f2 f3 v0 e0 v4 e4 v5 e5 c (o0::o1::tl)) [(6,.box d),(8,x)]=Ai f1 f2 f3 v0 e0 v4 e4 v5 e5 d (o0::x::tl):=by intros;rfl
theorem Ug (x o0 o1 o2 o3:AI) (c:List AV) (tl:Heap):upd (Ai f1 f2 f3 v0 e0 v4 e4 v5 e5 c (o0::o1::o2::o3::tl)) [(10,x)]=Ai f1 f2 f3 v0 e0 v4 e4 v5 e5 c (o0::o1::o2::x::tl):=by intros;rfl
theorem RY (d:List AV) (x o0 o1 o2 o3:AI) (c:List AV) (tl:Heap):upd (Ai f1 f2 f3 v0 e0 v4 e4 v5 e5 c (o0::o1::o2::o3::tl)) [(6,.box d),(10,x)]=Ai f1 f2 f3 v0 e0 v4 e4 v5 e5 d (o0::o1::o2::x::tl):=by intros;rfl
theorem X8 (tl:Heap):rb (e,Ai f1 f2 f3 v0 e0 v4 e4 v5 e5 (Af a) tl) 6 0 A2=Af a:=by intros;rfl
theorem O5 (q:Snd)  : upd (Af a) [(0,.t (tI q.c.frm)),(1,.t (tI q.c.dst)),(2,.t (tI q.c.start)),(3,.t (tI q.c.fin)),(4,.t (tI q.c.rate)),(5,.t (tI q.c.rng)),(6,.t (tI q.c.loss)),(7,.t (tI q.ses)),(8,.t (.str q.data)),(9,.t (tI q.fin)),(10,.t (tI q.busy)),(11,.t (tI q.ser)),(12,.t (.sl 2 (q.acked.map Span.enc))),(13,.t (tI q.due)),(14,.t (tI q.st))]=Af {a with snd:=q}:=by kernel_rfl
theorem JC (q:Snd) (ca cb cd:Int) (fs:List Frame)  : upd (Af a) [(0,.t (tI q.c.frm)),(1,.t (tI q.c.dst)),(2,.t (tI q.c.start)),(3,.t (tI q.c.fin)),(4,.t (tI q.c.rate)),(5,.t (tI q.c.rng)),(6,.t (tI q.c.loss)),(7,.t (tI q.ses)),(8,.t (.str q.data)),(9,.t (tI q.fin)),(10,.t (tI q.busy)),(11,.t (tI q.ser)),(12,.t (.sl 2 (q.acked.map Span.enc))),(13,.t (tI q.due)),(14,.t (tI q.st)),(23,.t (tI ca)),(24,.t (.sl 10 (fs.map Frame.enc))),(25,.t (tI cb)),(26,.t (tI cd))]=Af {a with snd:=q,rep:=⟨ca,fs,cb,cd⟩}:=by kernel_rfl
theorem Fb (q:Snd) (ca cb cd:Int) (fs:List Frame) (pv po pl:Nat)  : upd (Af a) [(0,.t (tI q.c.frm)),(1,.t (tI q.c.dst)),(2,.t (tI q.c.start)),(3,.t (tI q.c.fin)),(4,.t (tI q.c.rate)),(5,.t (tI q.c.rng)),(6,.t (tI q.c.loss)),(7,.t (tI q.ses)),(8,.t (.str q.data)),(9,.t (tI q.fin)),(10,.t (tI q.busy)),(11,.t (tI q.ser)),(12,.t (.sl 2 (q.acked.map Span.enc))),(13,.t (tI q.due)),(14,.t (tI q.st)),(23,.t (tI ca)),(24,.t (.sl 10 (fs.map Frame.enc))),(25,.t (tI cb)),(26,.t (tI cd)),(27,.sref 0 pv po pl)]=Af {a with snd:=q,rep:=⟨ca,fs,cb,cd⟩,v0:=pv,p1:=po,p2:=pl}:=by kernel_rfl
theorem EV (q:Snd) (ca cb cd:Int) (fs:List Frame) (pv po pl:Nat) (k:Bool) (t:Int)  : upd (Af a) [(0,.t (tI q.c.frm)),(1,.t (tI q.c.dst)),(2,.t (tI q.c.start)),(3,.t (tI q.c.fin)),(4,.t (tI q.c.rate)),(5,.t (tI q.c.rng)),(6,.t (tI q.c.loss)),(7,.t (tI q.ses)),(8,.t (.str q.data)),(9,.t (tI q.fin)),(10,.t (tI q.busy)),(11,.t (tI q.ser)),(12,.t (.sl 2 (q.acked.map Span.enc))),(13,.t (tI q.due)),(14,.t (tI q.st)),(23,.t (tI ca)),(24,.t (.sl 10 (fs.map Frame.enc))),(25,.t (tI cb)),(26,.t (tI cd)),(27,.sref 0 pv po pl),(35,.t (.bool k)),(36,.t (tI t))]=Af {a with snd:=q,rep:=⟨ca,fs,cb,cd⟩,v0:=pv,p1:=po,p2:=pl,kno:=k,knoAt:=t}:=by kernel_rfl
theorem GQ (q:Snd) (ca cb cd:Int) (fs:List Frame) (k:Bool) (t:Int)  : upd (Af a) [(0,.t (tI q.c.frm)),(1,.t (tI q.c.dst)),(2,.t (tI q.c.start)),(3,.t (tI q.c.fin)),(4,.t (tI q.c.rate)),(5,.t (tI q.c.rng)),(6,.t (tI q.c.loss)),(7,.t (tI q.ses)),(8,.t (.str q.data)),(9,.t (tI q.fin)),(10,.t (tI q.busy)),(11,.t (tI q.ser)),(12,.t (.sl 2 (q.acked.map Span.enc))),(13,.t (tI q.due)),(14,.t (tI q.st)),(23,.t (tI ca)),(24,.t (.sl 10 (fs.map Frame.enc))),(25,.t (tI cb)),(26,.t (tI cd)),(35,.t (.bool k)),(36,.t (tI t))]=Af {a with snd:=q,rep:=⟨ca,fs,cb,cd⟩,kno:=k,knoAt:=t}:=by kernel_rfl
theorem Hl (q:Snd) (pv po pl:Nat)  : upd (Af a) [(0,.t (tI q.c.frm)),(1,.t (tI q.c.dst)),(2,.t (tI q.c.start)),(3,.t (tI q.c.fin)),(4,.t (tI q.c.rate)),(5,.t (tI q.c.rng)),(6,.t (tI q.c.loss)),(7,.t (tI q.ses)),(8,.t (.str q.data)),(9,.t (tI q.fin)),(10,.t (tI q.busy)),(11,.t (tI q.ser)),(12,.t (.sl 2 (q.acked.map Span.enc))),(13,.t (tI q.due)),(14,.t (tI q.st)),(27,.sref 0 pv po pl)]=Af {a with snd:=q,v0:=pv,p1:=po,p2:=pl}:=by kernel_rfl
theorem JE (w:Rcv) (ca cb cd:Int) (fs:List Frame)  : upd (Af a) [(15,.t (tI w.ses)),(16,.t (tI w.tot)),(17,.t (.sl 2 (w.known.map Span.enc))),(18,.t (.str w.data)),(19,.t (tI ca)),(20,.t (.sl 10 (fs.map Frame.enc))),(21,.t (tI cb)),(22,.t (tI cd))]=Af {a with rcv:=w,dat:=⟨ca,fs,cb,cd⟩}:=by kernel_rfl
theorem O8 (ca cb cd:Int) (fs:List Frame)  : upd (Af a) [(19,.t (tI ca)),(20,.t (.sl 10 (fs.map Frame.enc))),(21,.t (tI cb)),(22,.t (tI cd))]=Af {a with dat:=⟨ca,fs,cb,cd⟩}:=by kernel_rfl
theorem Fc (ca cb cd:Int) (fs:List Frame) (pv po pl:Nat) (u:Int)  : upd (Af a) [(19,.t (tI ca)),(20,.t (.sl 10 (fs.map Frame.enc))),(21,.t (tI cb)),(22,.t (tI cd)),(27,.sref 0 pv po pl),(31,.t (tI u))]=Af {a with dat:=⟨ca,fs,cb,cd⟩,v0:=pv,p1:=po,p2:=pl,entered:=u}:=by kernel_rfl
theorem Ho (ca cb cd:Int) (fs:List Frame) (y:Int)  : upd (Af a) [(19,.t (tI ca)),(20,.t (.sl 10 (fs.map Frame.enc))),(21,.t (tI cb)),(22,.t (tI cd)),(32,.t (tI y))]=Af {a with dat:=⟨ca,fs,cb,cd⟩,dist:=y}:=by kernel_rfl
theorem O6 (ca cb cd:Int) (fs:List Frame)  : upd (Af a) [(23,.t (tI ca)),(24,.t (.sl 10 (fs.map Frame.enc))),(25,.t (tI cb)),(26,.t (tI cd))]=Af {a with rep:=⟨ca,fs,cb,cd⟩}:=by kernel_rfl
theorem JD (ca cb cd:Int) (fs:List Frame) (u:Int)  : upd (Af a) [(23,.t (tI ca)),(24,.t (.sl 10 (fs.map Frame.enc))),(25,.t (tI cb)),(26,.t (tI cd)),(31,.t (tI u))]=Af {a with rep:=⟨ca,fs,cb,cd⟩,entered:=u}:=by kernel_rfl
theorem Hm (ca cb cd:Int) (fs:List Frame) (y:Int)  : upd (Af a) [(23,.t (tI ca)),(24,.t (.sl 10 (fs.map Frame.enc))),(25,.t (tI cb)),(26,.t (tI cd)),(32,.t (tI y))]=Af {a with rep:=⟨ca,fs,cb,cd⟩,dist:=y}:=by kernel_rfl
theorem Mt (pv po pl:Nat)  : upd (Af a) [(27,.sref 0 pv po pl)]=Af {a with v0:=pv,p1:=po,p2:=pl}:=by kernel_rfl
theorem Hn (pv po pl:Nat) (u:Int)  : upd (Af a) [(27,.sref 0 pv po pl),(31,.t (tI u))]=Af {a with v0:=pv,p1:=po,p2:=pl,entered:=u}:=by kernel_rfl
theorem O7 (u:Int)  : upd (Af a) [(31,.t (tI u))]=Af {a with entered:=u}:=by kernel_rfl
theorem Mu (y:Int)  : upd (Af a) [(32,.t (tI y))]=Af {a with dist:=y}:=by kernel_rfl
theorem Rb (k:Bool) (t:Int)  : upd (Af a) [(33,.t (.bool k)),(34,.t (tI t))]=Af {a with rcvd:=k,arrive:=t}:=by kernel_rfl
theorem Ms (m l:Nat)  : upd (Af a) [(40,.sref 4 m 0 l)]=Af {a with v4:=m,n4:=l}:=by kernel_rfl
theorem Mr (m l:Nat)  : upd (Af a) [(41,.sref 5 m 0 l)]=Af {a with v5:=m,n5:=l}:=by kernel_rfl
theorem Bo:type_of% (And.intro @rd21 (And.intro @rc21 (And.intro @Xp (And.intro @Xx (And.intro @Xv (And.intro @Xu (And.intro @Xw (And.intro @Xt (And.intro @Xs (And.intro @U5 (And.intro @Xj (And.intro @Xi (And.intro @U1 (And.intro @U0 (And.intro @Uz (And.intro @Xh (And.intro @U3 (And.intro @Rq (And.intro @RZ (And.intro @W9 (And.intro @Uh (And.intro @Ue (And.intro @Ud (And.intro @W7 (And.intro @W6 (And.intro @Uc (And.intro @Ug (And.intro @RY (And.intro @X8 (And.intro @O5 (And.intro @JC (And.intro @Fb (And.intro @EV (And.intro @GQ (And.intro @Hl (And.intro @JE (And.intro @O8 (And.intro @Fc (And.intro @Ho (And.intro @O6 (And.intro @JD (And.intro @Hm (And.intro @Mt (And.intro @Hn (And.intro @O7 (And.intro @Mu (And.intro @Rb (And.intro @Ms @Mr)))))))))))))))))))))))))))))))))))))))))))))))):=(And.intro @rd21 (And.intro @rc21 (And.intro @Xp (And.intro @Xx (And.intro @Xv (And.intro @Xu (And.intro @Xw (And.intro @Xt (And.intro @Xs (And.intro @U5 (And.intro @Xj (And.intro @Xi (And.intro @U1 (And.intro @U0 (And.intro @Uz (And.intro @Xh (And.intro @U3 (And.intro @Rq (And.intro @RZ (And.intro @W9 (And.intro @Uh (And.intro @Ue (And.intro @Ud (And.intro @W7 (And.intro @W6 (And.intro @Uc (And.intro @Ug (And.intro @RY (And.intro @X8 (And.intro @O5 (And.intro @JC (And.intro @Fb (And.intro @EV (And.intro @GQ (And.intro @Hl (And.intro @JE (And.intro @O8 (And.intro @Fc (And.intro @Ho (And.intro @O6 (And.intro @JD (And.intro @Hm (And.intro @Mt (And.intro @Hn (And.intro @O7 (And.intro @Mu (And.intro @Rb (And.intro @Ms @Mr))))))))))))))))))))))))))))))))))))))))))))))))
end
end Ab
namespace Ab
open Go
theorem VB (g:Gh) (s:Ses) (l:List Int) (v:Nat) (hl:l.length≤10) :
  Ev fun n=>∀z,TG n (fI C n) z ([.sref 7 v 0 l.length],H21 E0 E0 E0 g s [.row false v 1 (l.map Aw)])=z (DO (Tf l),H21 E0 E0 E0 g s []):=by
 cases l with
 |nil=>
  refine Ev.of fun n z => ?_;simp only [TG,H21,Bo,vv2,vf,vA,vH,beq_self_eq_true,Tf,List.foldl_nil,DO,getD_none,isSome_none]
 |cons a r=>
  have key:=Fj (R:=List Tree) (Z:=List AV×Heap→Option (List Tree)) (Q:=Int)
   (B:=fun n z p again=>Vl n (fI C n) ([.sref 7 v 0 (r.length+1)],H21 E0 E0 E0 g s [.row false v 1 ((a::r).map Aw)]) z p again)
   (s:=(([.t (tI a),.t (tI 1)],H21 E0 E0 E0 g s [.row false v 1 ((a::r).map Aw)]):List AV×Heap)) (r:=r.foldl (fun m x=>if x<m then x else m) a) r
   (fun i (m:Int)=>(([.t (tI m),.t (tI (i+1:Nat))],H21 E0 E0 E0 g s [.row false v 1 ((a::r).map Aw)]):List AV×Heap)) (fun _ m x =>.next (if x<m then x else m)) (fun m=>m)
   (fun z m=>z (([.t (tI m),.t (.bool true)],H21 E0 E0 E0 g s []):List AV×Heap)) (fun _ _=>True) a rfl trivial (CL _ _ _ _ _)
   (fun i m x hx hI=>Ev.of fun n z again => ?_) (fun _ _ _ _ _ _ _=>trivial) (fun m hI=>Ev.of fun n z again => ?_)
  ·have e:Tf (a::r)=some (r.foldl (fun m x=>if x<m then x else m) a):=by
    have:∀(r:List Int) (a:Int),r.foldl (fun o x=>C1 o (some x)) (some a)=some (r.foldl (fun m x=>if x<m then x else m) a):=by
     intro r
     induction r with
     |nil=>intro a;rfl
     |cons x r ih=>intro a;exact ih _
    exact this r a
   refine key.mono fun n h z => ?_;have h:=h z;simp only [H21,xN,Aw] at h;simp only [TG,H21,Bo,vv2,vf,xN,zM,Aw,(show (((r.length+1:Nat):Int)==0)=false by simp;omega),(show (0:Int)<((r.length+1:Nat):Int) by omega),Int.le_refl,h,e,DO,Option.getD_some,isSome_some]
  ·have hi:=AN hx;simp only [zW] at hl;simp only [Vl,H21,Bo,vv2,vf,xN,Aw,List.getElem?_cons_succ,hx,(show ((i+1:Nat):Int)<((r.length+1:Nat):Int) by omega),AT (show i+1<4611686018427387904 by omega),Rd.AR]
  ·simp only [Vl,H21,Bo,vv2,vf,xN,Aw,wE]
theorem nt_21 (g:Gh) (s:Ses) (l:List Int) (v:Nat) (hl:l.length≤8) (he:s.entered<10000) (hr:Bn s.rep) :
  Ev fun n=>∀z,Ly n (fI C n) z ([.sref 7 v 0 l.length],H21 E0 E0 E0 g s [.row false v 1 (l.map Aw)])=z (DO (Tf ((l++GB (Ax s.rep))++GB (if s.snd.st=1 then some s.snd.due else none))),H21 E0 E0 E0 g s []):=by
 have q:¬(10000:Int)≤s.entered:=by omega
 have k76:=s76 s.rep hr;have et:take l.length (List.map Aw l)=List.map Aw l:=vD (by simp);have e1:l.length+1≤1073741824:=by omega
 have e2:l.length+1+1≤1073741824:=by omega
 have et2:∀b:Int,take (l.length+1) (List.map Aw l++[[tI b]])=List.map Aw l++[[tI b]]:=fun b=>vD (by simp);by_cases h1:s.snd.st=1
 ·rw [if_pos h1];cases hn:Ax s.rep with
  |none=>
   refine (k76.and (VB g s (l++[s.snd.due]) (v+1) (by simp;omega))).mono fun n h z => ?_;obtain ⟨h,k⟩:=h;have k:=k z;simp only [BI.enc,hn,DU] at h;simp only [H21,wY,xN,vA,Aw,zV,zW,zX,yR] at k;simp only [Ly,ZT,H21,rwO,Bo,vv2,vf,reduceCtorEq,wK,h,h1,q,et,e1,beq_self_eq_true,yI,GB,yZ];simp only [rwO] at k;exact k
  |some b=>
   refine (k76.and (VB g s (l++[b]++[s.snd.due]) (v+1+1) (by simp;omega))).mono fun n h z => ?_;obtain ⟨h,k⟩:=h;have k:=k z;simp only [BI.enc,hn,DU] at h;simp only [H21,wY,xN,vA,Aw,zV,zW,zX,yR] at k;simp only [Ly,ZX,H21,rwO,Bo,vv2,vf,reduceCtorEq,wK,h,h1,q,et,et2,e1,e2,beq_self_eq_true,yI,zV,GB];simp only [rwO] at k;exact k
 ·rw [if_neg h1];have h1':(s.snd.st==1)=false:=by simpa using h1
  cases hn:Ax s.rep with
  |none=>
   refine (k76.and (VB g s l v (by omega))).mono fun n h z => ?_;obtain ⟨h,k⟩:=h;have k:=k z;simp only [BI.enc,hn,DU] at h;simp only [H21,rwO] at k;simp only [Ly,ZT,H21,rwO,Bo,vv2,vf,reduceCtorEq,wK,h,h1',GB,yZ];exact k
  |some b=>
   refine (k76.and (VB g s (l++[b]) (v+1) (by simp;omega))).mono fun n h z => ?_;obtain ⟨h,k⟩:=h;have k:=k z;simp only [BI.enc,hn,DU] at h;simp only [H21,rwO,wY,xN,vA,Aw,zV,zW,zX,yR] at k;simp only [Ly,ZX,H21,rwO,Bo,vv2,vf,reduceCtorEq,wK,h,h1',et,e1,yI,GB,yZ];exact k
theorem nd_21 (g:Gh) (s:Ses) (l:List Int) (v:Nat) (hl:l.length≤4) (he:s.entered<10000) (hd:Bn s.dat) (hr:Bn s.rep) :
  Ev fun n=>∀z,RJ n (fI C n) z ([.sref 7 v 0 l.length],H21 E0 E0 E0 g s [.row false v 1 (l.map Aw)])=z (DO (Tf (((l++GB (Ax s.dat))++GB (Ax s.rep))++GB (if s.snd.st=1 then some s.snd.due else none))),H21 E0 E0 E0 g s []):=by
 have k76:=s76 s.dat hd;have et:take l.length (List.map Aw l)=List.map Aw l:=vD (by simp);have e1:l.length+1≤1073741824:=by omega
 cases hn:Ax s.dat with
 |none=>
  refine (k76.and (nt_21 g s l v (by omega) he hr)).mono fun n h z => ?_;obtain ⟨h,k⟩:=h;have k:=k z;simp only [BI.enc,hn,DU] at h;simp only [H21,rwO] at k;simp only [RJ,H21,rwO,Bo,vv2,vf,reduceCtorEq,wK,h,GB,yZ];exact k
 |some b=>
  refine (k76.and (nt_21 g s (l++[b]) (v+1) (by simp;omega) he hr)).mono fun n h z => ?_;obtain ⟨h,k⟩:=h;have k:=k z;simp only [BI.enc,hn,DU] at h;simp only [H21,rwO,wY,xN,vA,Aw,zV,zW,zX,yR] at k;simp only [RJ,H21,rwO,Bo,vv2,vf,reduceCtorEq,wK,h,et,e1,yI,GB];exact k
theorem nx_21 (g:Gh) (s:Ses) (f1 f2 f3:AI) (he:s.entered<10000) (hd:Bn s.dat) (hr:Bn s.rep) :
  Ev fun n=>∀again,Zg n (fI C n) again ([.ptr 6 0],H21 f1 f2 f3 g s [])=again (DO (nxS s),H21 E0 E0 E0 g s []):=by
 have e1:∀(o:Out) (l:List Out),s.pend=o::l→(g.pre++List.map Out.enc s.pend)[g.pre.length]? = some o.enc:=by intro o l h;rw [zL (yI _),h];simp
 have en:nxS s=Tf (((GB (s.pend.head?.map (·.at_))++GB (Ax s.dat))++GB (Ax s.rep))++GB (if s.snd.st=1 then some s.snd.due else none)):=by rw [minL_nx];rfl
 rw [en];cases hp:s.pend with
 |nil=>
  refine (nd_21 g s [] 0 (by simp) he hd hr).mono fun n k again => ?_;have k:=k again;simp only [H21,rwO,hp,vA,zX] at k;simp only [XN,Vg,H21,rwO,hp,vA,zX,Bo,vv2,wE,vH,head?_nil,GB];exact k
 |cons o l=>
  have e1:=e1 o l hp;simp only [hp] at e1;refine (nd_21 g s [o.at_] 1 (by simp) he hd hr).mono fun n k again => ?_;have k:=k again;simp only [H21,rwO,hp,xN,vA,Aw,zW,zX,yR] at k;simp only [xN,Out.enc] at e1;simp only [XN,Vg,H21,rwO,hp,xN,zW,Bo,vv2,(show (0:Int)<((l.length+1:Nat):Int) by omega),e1,Out.enc,head?_cons,Int.le_refl,(show GB (some o.at_)=[o.at_] from rfl)];simp only [Out.enc] at k;exact k
end Ab
namespace Ab
open Go
theorem txb_21 (g:Gh) (s:Ses) (o:Out) (l:List Out) (hp:s.pend=o::l) (hat:o.at_=s.now) (hc:EOk s s.dat) (hq:s.snd.c.rng=s.dat.rng) (p62:ST) (h62:vI p62 1=s.now) :
  Ev fun n=>∀z again,Eo n (fI C n) again p62 z ([.t (.bool true)],H21 E0 E0 E0 g s [])=again ([],H21 E0 E0 E0 {g with v4:=g.v4+1,pre:=g.pre++[o.enc]} {EU s o.seg with pend:=l} []):=by
 have q1:¬(10000:Int)≤s.entered:=by have:=hc.ent;omega
 have q2:w64 (s.entered+1)=s.entered+1:=by have:=hc.ent;exact AM (by omega) (by omega)
 have q3:w64 (s.dist+1)=s.dist+1:=by have:=hc.dst;exact AM (by omega) (by omega)
 have q4:s.sent.length+1≤1073741824:=by have:=hc.sl;omega
 have q5:take s.sent.length (List.map Out.enc s.sent)=List.map Out.enc s.sent:=vD (by simp);have q6:(1:Int)≤((l.length+1:Nat):Int)∧(0:Int)<((l.length+1:Nat):Int):=by omega
 have e2:(g.pre++[tI s.now,tI o.seg.kind,tI o.seg.ses,tI o.seg.ser,tI o.seg.off,tI o.seg.tot,.bool o.seg.chk,.str o.seg.data,.sl 2 (o.seg.claims.map Span.enc)]::List.map Out.enc l)[g.pre.length]? = some [tI s.now,tI o.seg.kind,tI o.seg.ses,tI o.seg.ser,tI o.seg.off,tI o.seg.tot,.bool o.seg.chk,.str o.seg.data,.sl 2 (o.seg.claims.map Span.enc)]:=by rw [zL (yI _)];simp
 have key:=fun (ds:List Int) (hd:∀d∈ds,s.dat.rng≤d∧d≤2*s.dat.rng) (hl:ds.length≤2)=>s78 s.dat hc.gc s.now o.seg hc.now ds hd (by have:=hc.len;omega);have kR:∀d∈[s.dat.rng],s.dat.rng≤d∧d≤2*s.dat.rng:=by have:=hc.gc.rng;simp;omega
 have k103:AK C 103 [.sl 2 (s.dark.map Span.enc),tI s.now] [.bool (LX s.dark s.now)]:=Xc s.dark s.now;simp only [BI.enc,xB,xX] at key;by_cases h0:LX s.dark s.now=true
 ·rw [Ey s o.seg [] s.dist (by simp [C9,h0])];refine (k103.and (key [] (by simp) (by simp))).mono fun n h z again => ?_;obtain ⟨h1,h2⟩:=h;simp only [vA] at h2;simp only [Eo,GL,GM,GK,GJ,DB,Dd,H21,rwO,Bo,vv2,vf,reduceCtorEq,wK,hp,xN,Out.enc,e2,hat,h62,hq,q1,q2,q3,q4,q5,q6,Int.le_refl,(show (0:Int)≤1 by omega),vQ,beq_self_eq_true,DA,AS,AF,yI,wY,vA,zV,zH,xB,xX,h1,h0,h2]
 ·have h0:LX s.dark s.now=false:=by simpa using h0
  by_cases h5:s.picks=[]
  ·rw [Ey s o.seg [s.dat.rng] s.dist (by simp [C9,h0,h5])];refine (k103.and (key [s.dat.rng] kR (by simp))).mono fun n h z again => ?_;obtain ⟨h1,h2⟩:=h;simp only [xN,vA,Aw] at h2;have h5':(s.picks.length:Int)=0:=by simp [h5]
   simp only [Eo,GL,GM,GK,GJ,DB,Dd,H21,rwO,Bo,vv2,vf,reduceCtorEq,wK,hp,xN,Out.enc,e2,hat,h62,hq,q1,q2,q3,q4,q5,q6,Int.le_refl,(show (0:Int)≤1 by omega),vQ,beq_self_eq_true,DA,AS,AF,yI,wY,vA,zV,zH,xB,xX,h1,h0,h2,h5']
  ·have hpos:=zY.2 h5;have h6:¬(s.picks.length:Int)=0:=by omega
   have h6':((s.picks.length:Int)==0)=false:=by simpa using h6
   have hm1:=emod_nonneg s.entered h6;have hm2:=wP s.entered (show (0:Int)<s.picks.length by omega);have hm:tmod s.entered s.picks.length=s.entered % s.picks.length:=Int.tmod_eq_emod_of_nonneg hc.ent.1;obtain ⟨p,hpp⟩:∃p,s.picks[(s.entered % s.picks.length).toNat]? = some p:=⟨_,zO (by omega)⟩
   have hg:s.picks.getD (s.entered % s.picks.length).toNat 0=p:=by rw [xJ,hpp];rfl
   have hpk:=hc.pk p (yA hpp);have hrg:=hc.gc.rng;have k104:=s104 p s.dat.rng hpk hrg;have kf:=key (BL p s.dat.rng) (fun d hd=>GY hrg.1 hd) (GZ _ _);have kr:=key [s.dat.rng] kR (by simp);by_cases h7:(BL p s.dat.rng).head? = some s.dat.rng
   ·rw [Ey s o.seg (BL p s.dat.rng) s.dist (by simp only [C9,h0,h5,hg,h7,if_true,if_false,zD])];obtain ⟨r,hl⟩:∃r,BL p s.dat.rng=s.dat.rng::r:=by
     cases hf:BL p s.dat.rng with
     |nil=>rw [hf] at h7;cases h7
     |cons a r=>rw [hf] at h7;cases h7;exact ⟨r,rfl⟩
    rw [hl] at kf k104 ⊢;refine (k103.and (k104.and kf)).mono fun n h z again => ?_;obtain ⟨h1,h2,h3⟩:=h;simp only [xN,Aw] at h2 h3;simp only [Eo,GL,GM,GK,GJ,DB,Dd,H21,rwO,Bo,vv2,vf,reduceCtorEq,wK,hp,xN,Out.enc,e2,hat,h62,hq,q1,q2,q3,q4,q5,q6,Int.le_refl,(show (0:Int)≤1 by omega),vQ,beq_self_eq_true,DA,AS,AF,yI,wY,vA,zV,zH,xB,xX,h1,h0,h2,h3,h6,h6',hm,hm1,hpp,Aw,zM,(show (0:Int)<((r.length+1:Nat):Int) by omega)]
   ·have h8:∀y:Int,((BL p s.dat.rng).map Aw)[0]? = some [tI y]→(y==s.dat.rng)=false:=by
     intro y hy;cases hf:BL p s.dat.rng with
     |nil=>rw [hf] at hy;cases hy
     |cons a r=>
      rw [hf] at hy h7;cases hy;simp at h7;simpa using h7
    have k8:(BL p s.dat.rng).length=0∨∃y,0<(BL p s.dat.rng).length∧((BL p s.dat.rng).map Aw)[0]? = some [tI y]∧(y==s.dat.rng)=false:=by
     cases hf:BL p s.dat.rng with
     |nil=>exact .inl rfl
     |cons a r=>exact .inr ⟨a,by simp,rfl,h8 a (by rw [hf];rfl)⟩
    by_cases h9:0≤s.limit∧s.limit≤s.dist
    ·rw [Ey s o.seg [s.dat.rng] s.dist (by simp only [C9,h0,h5,hg,h7,h9,if_true,if_false,zD,and_self])];refine (k103.and (k104.and kr)).mono fun n h z again => ?_;obtain ⟨h1,h2,h3⟩:=h;simp only [xN,vA,Aw] at h3;rcases k8 with k8|⟨y,k8,k9,k10⟩
     ·simp only [Eo,GL,GM,GK,GJ,DB,Dd,H21,rwO,Bo,vv2,vf,reduceCtorEq,wK,hp,xN,Out.enc,e2,hat,h62,hq,q1,q2,q3,q4,q5,q6,Int.le_refl,(show (0:Int)≤1 by omega),vQ,beq_self_eq_true,DA,AS,AF,yI,wY,vA,zV,zH,xB,xX,h1,h0,h2,h3,h6,h6',hm,hm1,hpp,Aw,k8,vH,wE,h9]
     ·simp only [Eo,GL,GM,GK,GJ,DB,Dd,H21,rwO,Bo,vv2,vf,reduceCtorEq,wK,hp,xN,Out.enc,e2,hat,h62,hq,q1,q2,q3,q4,q5,q6,Int.le_refl,(show (0:Int)≤1 by omega),vQ,beq_self_eq_true,DA,AS,AF,yI,wY,vA,zV,zH,xB,xX,h1,h0,h2,h3,h6,h6',hm,hm1,hpp,Aw,(show (0:Int)<((BL p s.dat.rng).length:Int) by omega),k9,k10,h9]
    ·rw [Ey s o.seg (BL p s.dat.rng) (s.dist+1) (by simp only [C9,h0,h5,hg,h7,h9,if_false,zD])];refine (k103.and (k104.and kf)).mono fun n h z again => ?_;obtain ⟨h1,h2,h3⟩:=h;have h9':(0≤s.limit→¬s.limit≤s.dist):=fun a b=>h9 ⟨a,b⟩;by_cases h10:0≤s.limit
     ·have h11:=h9' h10;rcases k8 with k8|⟨y,k8,k9,k10⟩
      ·simp only [Eo,GL,GM,GK,GJ,DB,Dd,H21,rwO,Bo,vv2,vf,reduceCtorEq,wK,hp,xN,Out.enc,e2,hat,h62,hq,q1,q2,q3,q4,q5,q6,Int.le_refl,(show (0:Int)≤1 by omega),vQ,beq_self_eq_true,DA,AS,AF,yI,wY,vA,zV,zH,xB,xX,h1,h0,h2,h3,h6,h6',hm,hm1,hpp,Aw,k8,vH,wE,h10,h11]
      ·simp only [Eo,GL,GM,GK,GJ,DB,Dd,H21,rwO,Bo,vv2,vf,reduceCtorEq,wK,hp,xN,Out.enc,e2,hat,h62,hq,q1,q2,q3,q4,q5,q6,Int.le_refl,(show (0:Int)≤1 by omega),vQ,beq_self_eq_true,DA,AS,AF,yI,wY,vA,zV,zH,xB,xX,h1,h0,h2,h3,h6,h6',hm,hm1,hpp,Aw,(show (0:Int)<((BL p s.dat.rng).length:Int) by omega),k9,k10,h10,h11]
     ·rcases k8 with k8|⟨y,k8,k9,k10⟩
      ·simp only [Eo,GL,GM,GK,GJ,DB,Dd,H21,rwO,Bo,vv2,vf,reduceCtorEq,wK,hp,xN,Out.enc,e2,hat,h62,hq,q1,q2,q3,q4,q5,q6,Int.le_refl,(show (0:Int)≤1 by omega),vQ,beq_self_eq_true,DA,AS,AF,yI,wY,vA,zV,zH,xB,xX,h1,h0,h2,h3,h6,h6',hm,hm1,hpp,Aw,k8,vH,wE,h10]
      ·simp only [Eo,GL,GM,GK,GJ,DB,Dd,H21,rwO,Bo,vv2,vf,reduceCtorEq,wK,hp,xN,Out.enc,e2,hat,h62,hq,q1,q2,q3,q4,q5,q6,Int.le_refl,(show (0:Int)≤1 by omega),vQ,beq_self_eq_true,DA,AS,AF,yI,wY,vA,zV,zH,xB,xX,h1,h0,h2,h3,h6,h6',hm,hm1,hpp,Aw,(show (0:Int)<((BL p s.dat.rng).length:Int) by omega),k9,k10,h10]
def K8 (q:Gh×Ses):Rd (Gh×Ses) (Gh×Ses):=
 match q.2.pend with
 |[]=>.done q
 |o::l=>if o.at_=q.2.now then .next ({q.1 with v4:=q.1.v4+1,pre:=q.1.pre++[o.enc]},{EU q.2 o.seg with pend:=l}) else .done q
theorem tx_21 (g:Gh) (s:Ses) (f1 f2 f3:AI) (hb:Bud s.pend.length s) (hq:s.snd.c.rng=s.dat.rng) :
  Ev fun n=>∀again,Vy n (fI C n) again ([.ptr 6 0,.t (tI s.now)],H21 f1 f2 f3 g s [])=again ([],H21 E0 E0 E0 (txT s.pend.length (g,s)).1 (txS s.pend.length s) []):=by
 have key:=B6 (R:=List Tree) (Z:=List AV×Heap→Option (List Tree)) (Q:=Gh×Ses)
  (B:=fun n z p again=>Oa n (fI C n) ([.ptr 6 0,.t (tI s.now)],H21 f1 f2 f3 g s []) z p again)
  (s:=(([],H21 E0 E0 E0 g s []):List AV×Heap)) (r:=txT s.pend.length (g,s))
  (fun z q=>z ([],H21 E0 E0 E0 q.1 q.2 [])) (fun q:Gh×Ses=>(([],H21 E0 E0 E0 q.1 q.2 []):List AV×Heap)) K8 (fun q=>Bud q.2.pend.length q.2∧q.2.snd.c.rng=q.2.dat.rng∧q.2.now=s.now) (fun q=>q.2.pend.length) (fun q=>txT q.2.pend.length q) (g,s) rfl ⟨hb,hq,rfl⟩ rfl
  (fun q hI => ?_) (fun q q' hI hs => ?_) (fun q hI => ?_)
 ·refine key.mono fun n h again => ?_;have h:=h again;rw [QM] at h;simp only [H21] at h;simp only [tC21_2,ZE,H21,Bo,h]
 ·obtain ⟨g1,s1⟩:=q;obtain ⟨hI,i2,i3⟩:=hI;simp only at hI i2 i3 ⊢;cases hp:s1.pend with
  |nil=>
   refine Ev.of fun n z again => ?_;simp only [K8,Oa,Eo,H21,rwO,hp,Bo,vv2,vf,reduceCtorEq,wK,vH,wE,Rd.Aj,vA]
  |cons o l=>
   have e1:(g1.pre++List.map Out.enc (o::l))[g1.pre.length]? = some o.enc:=by rw [zL (yI _)];simp
   simp only [xN] at e1;by_cases ho:o.at_=s1.now
   ·rw [hp] at hI;refine (txb_21 g1 s1 o l hp ho (Bud.eD hI) i2 ([.ptr 6 0,.t (tI s.now)],H21 f1 f2 f3 g s []) (by rw [i3];rfl)).mono fun n h z again => ?_;have h:=h z again;simp only [H21,rwO,hp,xN,zW] at h;simp only [K8,Oa,H21,rwO,hp,xN,zW,Bo,vv2,(show (0:Int)<((l.length+1:Nat):Int) by omega),Int.le_refl,e1];simp only [Out.enc,ho,i3,vv2,beq_self_eq_true];simp only [Out.enc,ho,i3] at h;exact h
   ·have ho':(o.at_==s.now)=false:=by rw [← i3];simpa using ho
    refine Ev.of fun n z again => ?_;simp only [Out.enc] at e1;simp only [K8,Oa,Eo,H21,rwO,hp,ho,ho',xN,zW,Out.enc,Bo,vv2,vf,reduceCtorEq,wK,(show (0:Int)<((l.length+1:Nat):Int) by omega),Int.le_refl,e1,Rd.Aj]
 ·obtain ⟨g1,s1⟩:=q;obtain ⟨hI,i2,i3⟩:=hI;unfold K8 at hs;simp only at hI hs i2 i3 ⊢;cases hp:s1.pend with
  |nil=>rw [hp] at hs;cases hs
  |cons o l=>
   rw [hp] at hs hI;simp only at hs;split at hs
   ·cases hs;exact ⟨⟨(Bud.EU hI o.seg).of rfl rfl rfl rfl rfl rfl rfl rfl,i2,i3⟩,by simp⟩
   ·cases hs
 ·obtain ⟨g1,s1⟩:=q;unfold K8;simp only;cases hp:s1.pend with
  |nil=>simp [txT,Rd.fin]
  |cons o l=>
   simp only [zW,txT,hp];split
   ·rfl
   ·simp [Rd.fin, *]
end Ab
namespace Ab
open Go
theorem rpb_21 (g:Gh) (s:Ses) (x:Seg) (l:List Seg) (i:Nat) (hx:l[i]? = some x) (hln:l.length≤10000) (hc:EOk s s.rep) (hq:s.snd.c.rng=s.rep.rng) (c0:BI) (r0:Rcv) (y:List Tree) (hy:gL y 4=l.map Seg.enc) (p122:ST) (h122:vI p122 1=s.now) :
  Ev fun n=>∀z again,D6 n (fI C n) y p122 z ([.t (tI i)],H21 E0 E0 E0 g s [chB c0,.box [],E8 r0]) again=again ([.t (tI (i+1:Nat))],H21 E0 E0 E0 {g with v5:=g.v5+1} (CM s x) [chB c0,.box [],E8 r0]):=by
 have q1:¬(10000:Int)≤s.entered:=by have:=hc.ent;omega
 have q2:w64 (s.entered+1)=s.entered+1:=by have:=hc.ent;exact AM (by omega) (by omega)
 have q3:w64 (s.dist+1)=s.dist+1:=by have:=hc.dst;exact AM (by omega) (by omega)
 have q4:s.told.length+1≤1073741824:=by have:=hc.sl;omega
 have q5:take s.told.length (List.map Out.enc s.told)=List.map Out.enc s.told:=vD (by simp);have hi:=AN hx;have q6:(i:Int)<(l.length:Int):=by omega
 have key:=fun (ds:List Int) (hd:∀d∈ds,s.rep.rng≤d∧d≤2*s.rep.rng) (hl:ds.length≤2)=>s78 s.rep hc.gc s.now x hc.now ds hd (by have:=hc.len;omega);have kR:∀d∈[s.rep.rng],s.rep.rng≤d∧d≤2*s.rep.rng:=by have:=hc.gc.rng;simp;omega
 have k103:AK C 103 [.sl 2 (s.dark.map Span.enc),tI s.now] [.bool (LX s.dark s.now)]:=Xc s.dark s.now;simp only [BI.enc,xB,xX] at key;by_cases h0:LX s.dark s.now=true
 ·rw [Ew s x [] s.dist (by simp [C9,h0])];refine (k103.and (key [] (by simp) (by simp))).mono fun n h z again => ?_;obtain ⟨h1,h2⟩:=h;simp only [vA] at h2;simp only [D6,Fs,GI,GH,GG,Dc,chB,E8,H21,rwO,Bo,vv2,vf,reduceCtorEq,wK,hy,hx,Seg.enc,Out.enc,h122,hq,q1,q2,q3,q4,q5,q6,AT (show i<4611686018427387904 by omega),beq_self_eq_true,DZ,AS,AF,yI,wY,xN,vA,zV,h1,h0,h2]
 ·have h0:LX s.dark s.now=false:=by simpa using h0
  by_cases h5:s.picks=[]
  ·rw [Ew s x [s.rep.rng] s.dist (by simp [C9,h0,h5])];refine (k103.and (key [s.rep.rng] kR (by simp))).mono fun n h z again => ?_;obtain ⟨h1,h2⟩:=h;simp only [xN,vA,Aw] at h2;have h5':(s.picks.length:Int)=0:=by simp [h5]
   simp only [D6,Fs,GI,GH,GG,Dc,chB,E8,H21,rwO,Bo,vv2,vf,reduceCtorEq,wK,hy,hx,Seg.enc,Out.enc,h122,hq,q1,q2,q3,q4,q5,q6,AT (show i<4611686018427387904 by omega),beq_self_eq_true,DZ,AS,AF,yI,wY,xN,vA,zV,h1,h0,h2,h5']
  ·have hpos:=zY.2 h5;have h6:¬(s.picks.length:Int)=0:=by omega
   have h6':((s.picks.length:Int)==0)=false:=by simpa using h6
   have hm1:=emod_nonneg s.entered h6;have hm2:=wP s.entered (show (0:Int)<s.picks.length by omega);have hm:tmod s.entered s.picks.length=s.entered % s.picks.length:=Int.tmod_eq_emod_of_nonneg hc.ent.1;obtain ⟨p,hpp⟩:∃p,s.picks[(s.entered % s.picks.length).toNat]? = some p:=⟨_,zO (by omega)⟩
   have hg:s.picks.getD (s.entered % s.picks.length).toNat 0=p:=by rw [xJ,hpp];rfl
   have hpk:=hc.pk p (yA hpp);have hrg:=hc.gc.rng;have k104:=s104 p s.rep.rng hpk hrg;have kf:=key (BL p s.rep.rng) (fun d hd=>GY hrg.1 hd) (GZ _ _);have kr:=key [s.rep.rng] kR (by simp);by_cases h7:(BL p s.rep.rng).head? = some s.rep.rng
   ·rw [Ew s x (BL p s.rep.rng) s.dist (by simp only [C9,h0,h5,hg,h7,if_true,if_false,zD])];obtain ⟨r,hl⟩:∃r,BL p s.rep.rng=s.rep.rng::r:=by
     cases hf:BL p s.rep.rng with
     |nil=>rw [hf] at h7;cases h7
     |cons a r=>rw [hf] at h7;cases h7;exact ⟨r,rfl⟩
    rw [hl] at kf k104 ⊢;refine (k103.and (k104.and kf)).mono fun n h z again => ?_;obtain ⟨h1,h2,h3⟩:=h;simp only [xN,Aw] at h2 h3;simp only [D6,Fs,GI,GH,GG,Dc,chB,E8,H21,rwO,Bo,vv2,vf,reduceCtorEq,wK,hy,hx,Seg.enc,Out.enc,h122,hq,q1,q2,q3,q4,q5,q6,AT (show i<4611686018427387904 by omega),beq_self_eq_true,DZ,AS,AF,yI,wY,xN,vA,zV,h1,h0,h2,h3,h6,h6',hm,hm1,hpp,Aw,zM,(show (0:Int)<((r.length+1:Nat):Int) by omega)]
   ·have h8:∀y:Int,((BL p s.rep.rng).map Aw)[0]? = some [tI y]→(y==s.rep.rng)=false:=by
     intro y hy;cases hf:BL p s.rep.rng with
     |nil=>rw [hf] at hy;cases hy
     |cons a r=>
      rw [hf] at hy h7;cases hy;simp at h7;simpa using h7
    have k8:(BL p s.rep.rng).length=0∨∃y,0<(BL p s.rep.rng).length∧((BL p s.rep.rng).map Aw)[0]? = some [tI y]∧(y==s.rep.rng)=false:=by
     cases hf:BL p s.rep.rng with
     |nil=>exact .inl rfl
     |cons a r=>exact .inr ⟨a,by simp,rfl,h8 a (by rw [hf];rfl)⟩
    by_cases h9:0≤s.limit∧s.limit≤s.dist
    ·rw [Ew s x [s.rep.rng] s.dist (by simp only [C9,h0,h5,hg,h7,h9,if_true,if_false,zD,and_self])];refine (k103.and (k104.and kr)).mono fun n h z again => ?_;obtain ⟨h1,h2,h3⟩:=h;simp only [xN,vA,Aw] at h3;rcases k8 with k8|⟨y,k8,k9,k10⟩
     ·simp only [D6,Fs,GI,GH,GG,Dc,chB,E8,H21,rwO,Bo,vv2,vf,reduceCtorEq,wK,hy,hx,Seg.enc,Out.enc,h122,hq,q1,q2,q3,q4,q5,q6,AT (show i<4611686018427387904 by omega),beq_self_eq_true,DZ,AS,AF,yI,wY,xN,vA,zV,h1,h0,h2,h3,h6,h6',hm,hm1,hpp,Aw,k8,vH,wE,h9]
     ·simp only [D6,Fs,GI,GH,GG,Dc,chB,E8,H21,rwO,Bo,vv2,vf,reduceCtorEq,wK,hy,hx,Seg.enc,Out.enc,h122,hq,q1,q2,q3,q4,q5,q6,AT (show i<4611686018427387904 by omega),beq_self_eq_true,DZ,AS,AF,yI,wY,xN,vA,zV,h1,h0,h2,h3,h6,h6',hm,hm1,hpp,Aw,(show (0:Int)<((BL p s.rep.rng).length:Int) by omega),k9,k10,h9]
    ·rw [Ew s x (BL p s.rep.rng) (s.dist+1) (by simp only [C9,h0,h5,hg,h7,h9,if_false,zD])];refine (k103.and (k104.and kf)).mono fun n h z again => ?_;obtain ⟨h1,h2,h3⟩:=h;have h9':(0≤s.limit→¬s.limit≤s.dist):=fun a b=>h9 ⟨a,b⟩;by_cases h10:0≤s.limit
     ·have h11:=h9' h10;rcases k8 with k8|⟨y,k8,k9,k10⟩
      ·simp only [D6,Fs,GI,GH,GG,Dc,chB,E8,H21,rwO,Bo,vv2,vf,reduceCtorEq,wK,hy,hx,Seg.enc,Out.enc,h122,hq,q1,q2,q3,q4,q5,q6,AT (show i<4611686018427387904 by omega),beq_self_eq_true,DZ,AS,AF,yI,wY,xN,vA,zV,h1,h0,h2,h3,h6,h6',hm,hm1,hpp,Aw,k8,vH,wE,h10,h11]
      ·simp only [D6,Fs,GI,GH,GG,Dc,chB,E8,H21,rwO,Bo,vv2,vf,reduceCtorEq,wK,hy,hx,Seg.enc,Out.enc,h122,hq,q1,q2,q3,q4,q5,q6,AT (show i<4611686018427387904 by omega),beq_self_eq_true,DZ,AS,AF,yI,wY,xN,vA,zV,h1,h0,h2,h3,h6,h6',hm,hm1,hpp,Aw,(show (0:Int)<((BL p s.rep.rng).length:Int) by omega),k9,k10,h10,h11]
     ·rcases k8 with k8|⟨y,k8,k9,k10⟩
      ·simp only [D6,Fs,GI,GH,GG,Dc,chB,E8,H21,rwO,Bo,vv2,vf,reduceCtorEq,wK,hy,hx,Seg.enc,Out.enc,h122,hq,q1,q2,q3,q4,q5,q6,AT (show i<4611686018427387904 by omega),beq_self_eq_true,DZ,AS,AF,yI,wY,xN,vA,zV,h1,h0,h2,h3,h6,h6',hm,hm1,hpp,Aw,k8,vH,wE,h10]
      ·simp only [D6,Fs,GI,GH,GG,Dc,chB,E8,H21,rwO,Bo,vv2,vf,reduceCtorEq,wK,hy,hx,Seg.enc,Out.enc,h122,hq,q1,q2,q3,q4,q5,q6,AT (show i<4611686018427387904 by omega),beq_self_eq_true,DZ,AS,AF,yI,wY,xN,vA,zV,h1,h0,h2,h3,h6,h6',hm,hm1,hpp,Aw,(show (0:Int)<((BL p s.rep.rng).length:Int) by omega),k9,k10,h10]
theorem Xq (g:Gh) (s:Ses) (l:List Seg) (hb:Bud l.length s) (hq:s.snd.c.rng=s.rep.rng) (c0:BI) (r0:Rcv) (y:List Tree) (hy:gL y 4=l.map Seg.enc) (p122:ST) (h122:vI p122 1=s.now) :
  Ev fun n=>∀z,AH (D6 n (fI C n) y p122 z) n ([.t (tI 0)],H21 E0 E0 E0 g s [chB c0,.box [],E8 r0])=z ([],H21 E0 E0 E0 {g with v5:=g.v5+l.length} (l.foldl CM s) []):=by
 have hln:l.length≤10000:=by have:=hb.ent;omega
 have key:=Fj (R:=List Tree) (Z:=List AV×Heap→Option (List Tree)) (Q:=Gh×Ses) (B:=fun n z p again=>D6 n (fI C n) y p122 z p again)
  (s:=(([.t (tI 0)],H21 E0 E0 E0 g s [chB c0,.box [],E8 r0]):List AV×Heap)) (r:=({g with v5:=g.v5+l.length},l.foldl CM s)) l
  (fun i (q:Gh×Ses)=>(([.t (tI i)],H21 E0 E0 E0 q.1 q.2 [chB c0,.box [],E8 r0]):List AV×Heap)) (fun _ q y =>.next ({q.1 with v5:=q.1.v5+1},CM q.2 y)) (fun q=>q)
  (fun z q=>z ([],H21 E0 E0 E0 q.1 q.2 [])) (fun i q=>Bud (l.length-i) q.2∧q.2.snd.c.rng=q.2.rep.rng∧q.2.now=s.now) (g,s) rfl ⟨hb,hq,rfl⟩ ?_
  (fun i q w hx hI => ?_) (fun i q w q' hx hI hs => ?_) (fun q hI => ?_)
 ·exact key
 ·rw [CL,Tt]
 ·have hi:=AN hx;obtain ⟨g1,s1⟩:=q;obtain ⟨hI,i2,i3⟩:=hI;simp only at hI i2 i3;have hI':Bud (l.length-(i+1)+1) s1:=by
   have:l.length-(i+1)+1=l.length-i:=by omega
   rw [this];exact hI
  refine (rpb_21 g1 s1 w l i hx hln hI'.eR i2 c0 r0 y hy p122 (by rw [i3];exact h122)).mono fun n h z again => ?_;simp only [Rd.AR];exact h z again
 ·cases hs;have hi:=AN hx;obtain ⟨hI,i2,i3⟩:=hI;have:l.length-i=l.length-(i+1)+1:=by omega
  rw [this] at hI;exact ⟨hI.CM w,i2,i3⟩
 ·obtain ⟨g1,s1⟩:=q;refine Ev.of fun n z again => ?_;simp only [D6,H21,hy,Bo,vv2,vf,wK,wE]
theorem hd_21 (g:Gh) (s:Ses) (f:Frame) (l:List Frame) (hf:s.dat.frames=f::l) (hd:Bn s.dat) (hw:(DX s.rcv f.seg).2.2=0) (hb:Bud (DX s.rcv f.seg).2.1.length (BC s)) (hrv:s.rcvd=Ay s.rcv) (hq:s.snd.c.rng=s.rep.rng) (p122:ST) (h122:vI p122 1=s.now) :
  Ev fun n=>∀z again,IX n (fI C n) z p122 again ([.t (.bool false)],H21 E0 E0 E0 g s [])=again ([],H21 E0 E0 E0 (rxG g (BC s) f.seg) (rxX (BC s) f.seg) []):=by
 have k80:=s80 s.dat hd f l hf;have k81:=s81 s.rcv;have k82:=s82 s.rcv f.seg;rw [Xe];unfold rxG;have hpr:(BC s).rcv=s.rcv:=rfl;rw [hpr];generalize DX s.rcv f.seg=w at hw hb k82 ⊢;obtain ⟨a,r,e⟩:=w;simp only at hw hb k82 ⊢;subst hw;have k81':=s81 a;have hx:BC s={s with dat:=⟨s.dat.rng,l,s.dat.sent,s.dat.lost⟩}:=by simp only [BC,hf,tail_cons]
 simp only [ML,Rcv.enc,BI.enc,Seg.enc,xB,xX] at k80 k81 k82 k81';cases hc:Ay s.rcv with
 |true=>
  have e:rxF {BC s with rcv:=a}={BC s with rcv:=a}:=by simp only [rxF,BC,hrv,hc,true_eq_false,false_and,if_false]
  rw [e];have kl:=Xq g {BC s with rcv:=a} r (hb.of rfl rfl rfl rfl rfl rfl rfl rfl) hq ⟨s.dat.rng,l,s.dat.sent,s.dat.lost⟩ a [tI a.ses,tI a.tot,.sl 2 (a.known.map Span.enc),.str a.data,.sl 8 (r.map Seg.enc),tI 0] rfl p122 h122;refine (k80.and (k81.and (k82.and kl))).mono fun n h z again => ?_;obtain ⟨h1,h2,h3,h4⟩:=h;have h4:=h4 again;simp only [hx,H21,rwO,chB,E8] at h4 ⊢;simp only [IX,RI,Bo,vv2,vf,wK,h1,h2,hc,h3];exact h4
 |false=>
  cases hc2:Ay a with
  |true=>
   have e:rxF {BC s with rcv:=a}={BC s with rcv:=a,rcvd:=true,arrive:=s.now}:=by simp only [rxF,BC,hrv,hc,hc2,and_self,if_true]
   rw [e];have kl:=Xq g {BC s with rcv:=a,rcvd:=true,arrive:=s.now} r (hb.of rfl rfl rfl rfl rfl rfl rfl rfl) hq ⟨s.dat.rng,l,s.dat.sent,s.dat.lost⟩ a [tI a.ses,tI a.tot,.sl 2 (a.known.map Span.enc),.str a.data,.sl 8 (r.map Seg.enc),tI 0] rfl p122 h122;refine (k80.and (k81.and (k82.and (k81'.and kl)))).mono fun n h z again => ?_;obtain ⟨h1,h2,h3,h5,h4⟩:=h;have h4:=h4 again;simp only [hx,H21,rwO,chB,E8] at h4 ⊢;simp only [IX,RI,Bo,vv2,vf,wK,h1,h2,hc,hc2,h3,h5,h122];exact h4
  |false=>
   have e:rxF {BC s with rcv:=a}={BC s with rcv:=a}:=by simp only [rxF,BC,hc2,zD,and_false,if_false]
   rw [e];have kl:=Xq g {BC s with rcv:=a} r (hb.of rfl rfl rfl rfl rfl rfl rfl rfl) hq ⟨s.dat.rng,l,s.dat.sent,s.dat.lost⟩ a [tI a.ses,tI a.tot,.sl 2 (a.known.map Span.enc),.str a.data,.sl 8 (r.map Seg.enc),tI 0] rfl p122 h122;refine (k80.and (k81.and (k82.and (k81'.and kl)))).mono fun n h z again => ?_;obtain ⟨h1,h2,h3,h5,h4⟩:=h;have h4:=h4 again;simp only [hx,H21,rwO,chB,E8] at h4 ⊢;simp only [IX,RI,Bo,vv2,vf,wK,h1,h2,hc,hc2,h3,h5];exact h4
theorem rx_21 {P:Ses→Prop} (hP:RxQ P) (g:Gh) (s:Ses) (f1 f2 f3:AI) (h:P s) :
  Ev fun n=>∀again,Vx n (fI C n) again ([.ptr 6 0,.t (tI s.now)],H21 f1 f2 f3 g s [])=again ([],H21 E0 E0 E0 (rxT s.dat.frames.length (g,s)).1 (rxS s.dat.frames.length s) []):=by
 have key:=B6 (R:=List Tree) (Z:=List AV×Heap→Option (List Tree)) (Q:=Gh×Ses)
  (B:=fun n z p again=>OZ n (fI C n) z ([.ptr 6 0,.t (tI s.now)],H21 f1 f2 f3 g s []) p again)
  (s:=(([],H21 E0 E0 E0 g s []):List AV×Heap)) (r:=rxT s.dat.frames.length (g,s))
  (fun z q=>z ([],H21 E0 E0 E0 q.1 q.2 [])) (fun q:Gh×Ses=>(([],H21 E0 E0 E0 q.1 q.2 []):List AV×Heap)) rx1 (fun q=>P q.2∧q.2.now=s.now) (fun q=>q.2.dat.frames.length) (fun q=>rxT q.2.dat.frames.length q) (g,s) rfl ⟨h,rfl⟩ rfl
  (fun q hI => ?_) (fun q q' hI hs=>rx1_ok hP hI hs) (fun q hI=>rx1_fin q)
 ·refine key.mono fun n h again => ?_;have h:=h again;rw [QT] at h;simp only [H21] at h;simp only [tC21_3,ZD,H21,Bo,h]
 ·obtain ⟨g1,s1⟩:=q;obtain ⟨hI,i3⟩:=hI;simp only at hI i3 ⊢;have hd:=hP.p.dat s1 hI;have k76:=s76 s1.dat hd;cases hf:s1.dat.frames with
  |nil=>
   have hn:Ax s1.dat=none:=by simp [Ax,hf]
   refine k76.mono fun n h z again => ?_;rw [hn] at h;simp only [BI.enc,DU] at h;simp only [rx1,hf,OZ,IX,H21,rwO,Bo,vv2,vf,wK,Rd.Aj];rw [hf] at h;simp only [h,vv2,wK]
  |cons f l=>
   have hn:Ax s1.dat=some f.arr:=by simp [Ax,hf]
   by_cases ha:f.arr=s1.now
   ·obtain ⟨w1,w2,w3⟩:=hP.p.DX s1 f l hI hf ha;obtain ⟨r1,r2⟩:=hP.rv s1 hI;refine (k76.and (hd_21 g1 s1 f l hf hd w1 w2 r1 r2 ([.ptr 6 0,.t (tI s.now)],H21 f1 f2 f3 g s []) (by rw [i3];rfl))).mono fun n h z again => ?_;obtain ⟨h,h2⟩:=h;rw [hn] at h;simp only [BI.enc,DU] at h;have h2:=h2 z again;simp only [rx1,hf,ha,if_true,Rd.AR];simp only [H21,rwO] at h2;simp only [OZ,H21,rwO,Bo,vv2,vf,wK,h,ha,i3,bne_self_eq_false];exact h2
   ·have ha':(f.arr != s.now)=true:=by rw [← i3];simpa using ha
    refine k76.mono fun n h z again => ?_;rw [hn] at h;simp only [BI.enc,DU] at h;simp only [rx1,hf,ha,if_false,Rd.Aj];simp only [OZ,IX,H21,rwO,Bo,vv2,vf,wK,h,ha']
end Ab
namespace Ab
open Go
theorem hr_21 (g:Gh) (s:Ses) (f:Frame) (l:List Frame) (hf:s.rep.frames=f::l) (hat:f.arr=s.now) (hr:Bn s.rep) (ha:s.snd.acked.length≤100∧s.pend.length≤1000000) (hx:f.seg.claims.length≤100∨1000<f.seg.claims.length)
  (hw:¬s.now<s.snd.busy→(Av s.snd s.now f.seg).2.2=0∧(Av s.snd s.now f.seg).2.1.length≤1000000)
  (hk:¬s.now<s.snd.busy→((s.kno=false∧(Av s.snd s.now f.seg).1.st=2)↔(s.snd.st=1∧(Av s.snd s.now f.seg).1.st=2))) (p331:ST) (h331:vI p331 1=s.now) :
  Ev fun n=>∀z again,HB n (fI C n) z p331 ([],H21 E0 E0 E0 g s []) again=again ([],H21 E0 E0 E0 (lsG g (CC s)) (lsX (CC s) f.seg) []):=by
 have k76:=s76 s.rep hr;have k80:=s80 s.rep hr f l hf;have hn:Ax s.rep=some f.arr:=by simp [Ax,hf]
 rw [hn,hat] at k76;have hpx:CC s={s with rep:=⟨s.rep.rng,l,s.rep.sent,s.rep.lost⟩}:=by simp only [CC,hf,tail_cons]
 rw [hpx];simp only [BI.enc,DU] at k76 k80;by_cases hb:s.now<s.snd.busy
 ·refine (k76.and k80).mono fun n h z again => ?_;obtain ⟨h1,h2⟩:=h;simp only [lsX,lsG,hb,if_true];simp only [HB,IW,Dd,H21,rwO,Bo,vv2,vf,reduceCtorEq,wK,h1,h2,h331,hb,bne_self_eq_false]
 ·obtain ⟨w1,w2⟩:=hw hb;have hk:=hk hb;have q2:¬g.pre.length+s.pend.length<g.pre.length+s.pend.length:=by omega
  have q4:take s.pend.length (List.map Out.enc s.pend)=List.map Out.enc s.pend:=vD (by simp);have h83:=s83 s.snd s.now f.seg ha.1 hx;simp only [BK,w1,Snd.enc,Seg.enc,xB,xX] at h83;simp only [lsX,lsG,hb,if_false,gP];generalize Av s.snd s.now f.seg=w at h83 w1 w2 hk ⊢;obtain ⟨a,o,e⟩:=w;simp only at h83 w1 w2 hk ⊢;have q3:s.pend.length+o.length≤1073741824:=by omega
  by_cases hk0:s.kno=false∧a.st=2
  ·obtain ⟨k1,k2⟩:=hk.1 hk0;have k2:(a.st==2)=true:=by simpa using k2
   refine (k76.and (k80.and h83)).mono fun n h z again => ?_;obtain ⟨h1,h2,h3⟩:=h;simp only [k1] at h3;simp only [lsF,hk0,and_self,if_true];simp only [HB,IW,Dd,H21,rwO,Bo,vv2,vf,reduceCtorEq,wK,h1,h2,h331,hb,k1,k2,h3,bne_self_eq_false,beq_self_eq_true,zV,q2,q3,q4,vK,yI,wY,xX]
  ·have hk1:¬(s.snd.st=1∧a.st=2):=fun q=>hk0 (hk.2 q);refine (k76.and (k80.and h83)).mono fun n h z again => ?_;obtain ⟨h1,h2,h3⟩:=h;simp only [lsF,hk0,if_false];by_cases k1:s.snd.st=1
   ·have k2:(a.st==2)=false:=by simpa using fun q=>hk1 ⟨k1,q⟩
    simp only [k1] at h3;simp only [HB,IW,Dd,H21,rwO,Bo,vv2,vf,reduceCtorEq,wK,h1,h2,h331,hb,k1,k2,h3,bne_self_eq_false,beq_self_eq_true,zV,q2,q3,q4,vK,yI,wY,xX]
   ·have k1':(s.snd.st==1)=false:=by simpa using k1
    simp only [HB,IW,Dd,H21,rwO,Bo,vv2,vf,reduceCtorEq,wK,h1,h2,h331,hb,k1',h3,bne_self_eq_false,zV,q2,q3,q4,vK,yI,wY,xX]
theorem ls_21 {P:Ses→Prop} (hP:LsQ P) (g:Gh) (s:Ses) (f1 f2 f3:AI) (h:P s) :
  Ev fun n=>∀again,Vw n (fI C n) again ([.ptr 6 0,.t (tI s.now)],H21 f1 f2 f3 g s [])=again ([],H21 E0 E0 E0 (lsT s.rep.frames.length (g,s)).1 (lsS s.rep.frames.length s) []):=by
 have key:=B6 (R:=List Tree) (Z:=List AV×Heap→Option (List Tree)) (Q:=Gh×Ses)
  (B:=fun n z p again=>HB n (fI C n) z ([.ptr 6 0,.t (tI s.now)],H21 f1 f2 f3 g s []) p again)
  (s:=(([],H21 E0 E0 E0 g s []):List AV×Heap)) (r:=lsT s.rep.frames.length (g,s))
  (fun z q=>z ([],H21 E0 E0 E0 q.1 q.2 [])) (fun q:Gh×Ses=>(([],H21 E0 E0 E0 q.1 q.2 []):List AV×Heap)) ls1 (fun q=>P q.2∧q.2.now=s.now) (fun q=>q.2.rep.frames.length) (fun q=>lsT q.2.rep.frames.length q) (g,s) rfl ⟨h,rfl⟩ rfl
  (fun q hI => ?_) (fun q q' hI hs=>ls1_ok hP hI hs) (fun q hI=>ls1_fin q)
 ·refine key.mono fun n h again => ?_;have h:=h again;rw [Qj] at h;simp only [H21] at h;simp only [tC21_4,ZC,H21,Bo,h]
 ·obtain ⟨g1,s1⟩:=q;obtain ⟨hI,i3⟩:=hI;simp only at hI i3 ⊢;have hd:=hP.p.rep s1 hI;have k76:=s76 s1.rep hd;cases hf:s1.rep.frames with
  |nil=>
   have hn:Ax s1.rep=none:=by simp [Ax,hf]
   refine k76.mono fun n h z again => ?_;rw [hn] at h;simp only [BI.enc,DU] at h;simp only [ls1,hf,HB,IW,H21,rwO,Bo,vv2,vf,reduceCtorEq,wK,Rd.Aj];rw [hf] at h;simp only [h,vv2,wK]
  |cons f l=>
   have hn:Ax s1.rep=some f.arr:=by simp [Ax,hf]
   by_cases ha:f.arr=s1.now
   ·obtain ⟨w1,w2,w3⟩:=hP.p.DX s1 f l hI hf ha;refine (hr_21 g1 s1 f l hf ha hd (hP.p.ack s1 hI) w1 w2 (hP.kn s1 f l hI hf ha) ([.ptr 6 0,.t (tI s.now)],H21 f1 f2 f3 g s []) (by rw [i3];rfl)).mono fun n h2 z again => ?_;have h2:=h2 z again;simp only [ls1,hf,ha,if_true,Rd.AR];exact h2
   ·have ha':(f.arr != s.now)=true:=by rw [← i3];simpa using ha
    refine k76.mono fun n h z again => ?_;rw [hn] at h;simp only [BI.enc,DU] at h;simp only [ls1,hf,ha,if_false,Rd.Aj];simp only [HB,IW,H21,rwO,Bo,vv2,vf,reduceCtorEq,wK,h,ha']
theorem ex_21 (g:Gh) (s:Ses) (f1 f2 f3:AI) (he:s.entered<10000) (ha:s.snd.acked.length≤100) (hl:s.pend.length≤1000000)
  (hw:s.snd.st=1→s.snd.due=s.now→(Bt s.snd s.now).2.2=0∧(Bt s.snd s.now).2.1.length≤1000000) :
  Ev fun n=>∀again,Vv n (fI C n) again ([.ptr 6 0,.t (tI s.now)],H21 f1 f2 f3 g s [])=again ([],H21 E0 E0 E0 (exG g s) (exS s) []):=by
 have q:¬(10000:Int)≤s.entered:=by omega
 by_cases h1:s.snd.st=1
 ·by_cases h2:s.snd.due=s.now
  ·obtain ⟨w1,w2⟩:=hw h1 h2;have e1:exS s={s with snd:=(Bt s.snd s.now).1,pend:=s.pend++(Bt s.snd s.now).2.1}:=by simp only [exS,h1,h2,and_self,if_true]
   have e2:exG g s={g with v0:=g.v0+1,pre:=[]}:=by simp only [exG,h1,h2,and_self,if_true]
   rw [e1,e2];refine (s84 s.snd s.now ha).mono fun n h again => ?_;simp only [BK,w1,Snd.enc,xB,xX,h1,h2] at h;generalize Bt s.snd s.now=w at h w1 w2 ⊢;obtain ⟨a,o,e⟩:=w;simp only at h w1 w2 ⊢;have q2:¬g.pre.length+s.pend.length<g.pre.length+s.pend.length:=by omega
   have q3:s.pend.length+o.length≤1073741824:=by omega
   have q4:take s.pend.length (List.map Out.enc s.pend)=List.map Out.enc s.pend:=vD (by simp);simp only [TM,S5,RH,H21,rwO,Bo,vv2,vf,reduceCtorEq,wK,h1,h2,h,q,beq_self_eq_true,bne_self_eq_false,zV,q2,q3,q4,vK,wY,yI,xX]
  ·have h2':(s.snd.due==s.now)=false:=by simpa using h2
   have e1:exS s=s:=by simp only [exS,h2,and_false,if_false]
   have e2:exG g s=g:=by simp only [exG,h2,and_false,if_false]
   rw [e1,e2];refine Ev.of fun n again => ?_;simp only [TM,S5,RH,H21,rwO,Bo,vv2,vf,reduceCtorEq,wK,h1,h2',q,beq_self_eq_true]
 ·have h1':(s.snd.st==1)=false:=by simpa using h1
  have e1:exS s=s:=by simp only [exS,h1,false_and,if_false]
  have e2:exG g s=g:=by simp only [exG,h1,false_and,if_false]
  rw [e1,e2];refine Ev.of fun n again => ?_;simp only [TM,S5,RH,H21,rwO,Bo,vv2,vf,reduceCtorEq,wK,h1']
end Ab
namespace Ab
open Go
theorem stp_21 {W P1 P2:Ses→Prop} {μ:Ses→Nat} (hR:ZG W P1 P2 μ) (g:Gh) (s:Ses) (h:W s) (y14 y15 y16:List Tree) :
  Ev fun n=>∀again,Lu n (fI C n) y14 y15 y16 ([],H21 E0 E0 E0 g s []) again=(match nxS s with
   |none=>some (Ow s)
   |some t=>again ([],H21 E0 E0 E0 (stT (g,s) t).1 (stS s t) [])):=by
 obtain ⟨n1,n2,n3⟩:=hR.p.nx s h;have kx:=nx_21 g s (.row true 0 15 [[tI (gI y14 0),tI (gI y14 1),tI (gI y14 2),tI (gI y14 3),tI (gI y14 4),tI (gI y14 5),tI (gI y14 6),tI (gI y14 7),.str (gS y14 8),tI (gI y14 9),tI (gI y14 10),tI (gI y14 11),.sl 2 (gL y14 12),tI (gI y14 13),tI (gI y14 14)]]) (.row true 0 4 [[tI (gI y15 0),tI (gI y15 1),.sl 2 (gL y15 2),.str (gS y15 3)]]) (.row true 0 4 [[tI (gI y16 0),.sl 10 (gL y16 1),tI (gI y16 2),tI (gI y16 3)]]) n1 n2 n3;cases hn:nxS s with
 |none=>
  rw [hn] at kx;refine kx.mono fun n k again => ?_;simp only [H21,rwO,DO,getD_none,isSome_none] at k;simp only [Lu,UT,H21,rwO,Bo,vv2,reduceCtorEq,k,Ow]
  try rw [vD (by simp),vD (by simp)]
 |some t=>
  rw [hn] at kx;have t1:(ph1 s t).now=t:=Ui _ _;have t2:(ph2 s t).now=t:=(Uw _ _).trans t1;have t3:(ph3 s t).now=t:=(VG _ _).trans t2;have k0:Ev fun n=>∀again,Vy n (fI C n) again ([.ptr 6 0,.t (tI t)],H21 (.row true 0 15 [[tI (gI y14 0),tI (gI y14 1),tI (gI y14 2),tI (gI y14 3),tI (gI y14 4),tI (gI y14 5),tI (gI y14 6),tI (gI y14 7),.str (gS y14 8),tI (gI y14 9),tI (gI y14 10),tI (gI y14 11),.sl 2 (gL y14 12),tI (gI y14 13),tI (gI y14 14)]]) (.row true 0 4 [[tI (gI y15 0),tI (gI y15 1),.sl 2 (gL y15 2),.str (gS y15 3)]]) (.row true 0 4 [[tI (gI y16 0),.sl 10 (gL y16 1),tI (gI y16 2),tI (gI y16 3)]]) g s [])=again ([],H21 E0 E0 E0 (g1T g s t) (ph1 s t) []):=tx_21 g {s with now:=t} _ _ _ (hR.p.tx s t h hn) (hR.tx s h);have k1:Ev fun n=>∀again,Vx n (fI C n) again ([.ptr 6 0,.t (tI (ph1 s t).now)],H21 (.row true 0 15 [[tI (gI y14 0),tI (gI y14 1),tI (gI y14 2),tI (gI y14 3),tI (gI y14 4),tI (gI y14 5),tI (gI y14 6),tI (gI y14 7),.str (gS y14 8),tI (gI y14 9),tI (gI y14 10),tI (gI y14 11),.sl 2 (gL y14 12),tI (gI y14 13),tI (gI y14 14)]]) (.row true 0 4 [[tI (gI y15 0),tI (gI y15 1),.sl 2 (gL y15 2),.str (gS y15 3)]]) (.row true 0 4 [[tI (gI y16 0),.sl 10 (gL y16 1),tI (gI y16 2),tI (gI y16 3)]]) (g1T g s t) (ph1 s t) [])=again ([],H21 E0 E0 E0 (g2T g s t) (ph2 s t) []):=rx_21 hR.rx (g1T g s t) (ph1 s t) _ _ _ (hR.p.p1 s t h hn);have k2:Ev fun n=>∀again,Vw n (fI C n) again ([.ptr 6 0,.t (tI (ph2 s t).now)],H21 (.row true 0 15 [[tI (gI y14 0),tI (gI y14 1),tI (gI y14 2),tI (gI y14 3),tI (gI y14 4),tI (gI y14 5),tI (gI y14 6),tI (gI y14 7),.str (gS y14 8),tI (gI y14 9),tI (gI y14 10),tI (gI y14 11),.sl 2 (gL y14 12),tI (gI y14 13),tI (gI y14 14)]]) (.row true 0 4 [[tI (gI y15 0),tI (gI y15 1),.sl 2 (gL y15 2),.str (gS y15 3)]]) (.row true 0 4 [[tI (gI y16 0),.sl 10 (gL y16 1),tI (gI y16 2),tI (gI y16 3)]]) (g2T g s t) (ph2 s t) [])=again ([],H21 E0 E0 E0 (g3T g s t) (ph3 s t) []):=ls_21 hR.ls (g2T g s t) (ph2 s t) _ _ _ (hR.p.p2 s t h hn);have hx:=hR.p.ex s t h hn;have k3:Ev fun n=>∀again,Vv n (fI C n) again ([.ptr 6 0,.t (tI (ph3 s t).now)],H21 (.row true 0 15 [[tI (gI y14 0),tI (gI y14 1),tI (gI y14 2),tI (gI y14 3),tI (gI y14 4),tI (gI y14 5),tI (gI y14 6),tI (gI y14 7),.str (gS y14 8),tI (gI y14 9),tI (gI y14 10),tI (gI y14 11),.sl 2 (gL y14 12),tI (gI y14 13),tI (gI y14 14)]]) (.row true 0 4 [[tI (gI y15 0),tI (gI y15 1),.sl 2 (gL y15 2),.str (gS y15 3)]]) (.row true 0 4 [[tI (gI y16 0),.sl 10 (gL y16 1),tI (gI y16 2),tI (gI y16 3)]]) (g3T g s t) (ph3 s t) [])=again ([],H21 E0 E0 E0 (stT (g,s) t).1 (stS s t) []):=ex_21 (g3T g s t) (ph3 s t) _ _ _ hx.ent hx.ack hx.pl hx.w;rw [t1] at k1;rw [t2] at k2;rw [t3] at k3;refine (kx.and (k0.and (k1.and (k2.and k3)))).mono fun n hh again => ?_;obtain ⟨kx,k0,k1,k2,k3⟩:=hh;simp only [H21,rwO,DO,Option.getD_some,isSome_some] at kx k0 k1 k2 k3;simp only [Lu,UT,H21,rwO,Bo,vv2,reduceCtorEq,kx];rw [k0];simp only [ZU,Bo,vv2];rw [k1];simp only [ZV,Bo,vv2];rw [k2];simp only [ZW,Bo,vv2];rw [k3];simp only [Dd,Bo]
theorem rn_21 {W P1 P2:Ses→Prop} {μ:Ses→Nat} (hR:ZG W P1 P2 μ) (g:Gh) (s:Ses) (h:W s) (y14 y15 y16:List Tree) :
  Ev fun n=>AH (fun p again=>Lu n (fI C n) y14 y15 y16 p again) n ([],H21 E0 E0 E0 g s [])=some (Ow (Gp (μ s) s)):=by
 rw [← QU (μ s) (g,s)];refine Fy (R:=List Tree) (Q:=Gh×Ses) (B:=fun n p again=>Lu n (fI C n) y14 y15 y16 p again) (s:=(([],H21 E0 E0 E0 g s []):List AV×Heap)) (r:=rnT (μ s) (g,s))
  (fun r=>Ow r.2) (fun q:Gh×Ses=>(([],H21 E0 E0 E0 q.1 q.2 []):List AV×Heap)) (fun q=>match nxS q.2 with
   |none =>.done q
   |some t =>.next (stT q t)) (fun q=>W q.2) (fun q=>μ q.2) (fun q=>rnT (μ q.2) q) (g,s) rfl h rfl
  (fun q hI => ?_) (fun q q' hI hs => ?_) (fun q hI => ?_)
 ·obtain ⟨g1,s1⟩:=q;simp only at hI ⊢;have k:=stp_21 hR g1 s1 hI y14 y15 y16;cases hn:nxS s1 with
  |none=>
   rw [hn] at k;refine k.mono fun n k again => ?_;simp only [Rd.Aj];exact k again
  |some t=>
   rw [hn] at k;refine k.mono fun n k again => ?_;simp only [Rd.AR];exact k again
 ·cases hn:nxS q.2 with
  |none=>rw [hn] at hs;cases hs
  |some t=>
   rw [hn] at hs;cases hs;exact hR.p.st q.2 t hI hn
 ·cases hn:nxS q.2 with
  |none=>
   cases hm:μ q.2 with
   |zero=>rfl
   |succ m=>simp only [rnT,hn,Rd.fin]
  |some t=>
   obtain ⟨h1,h2⟩:=hR.p.st q.2 t hI hn;simp only [Rd.fin];cases hm:μ q.2 with
   |zero=>omega
   |succ m=>
    simp only [rnT,hn];exact Gq hR.p m (stT q t) h1 (by simp only [stT];omega)
end Ab
namespace Ab
open Go
theorem s21 {W P1 P2:Ses→Prop} {μ:Ses→Nat} (hR:ZG W P1 P2 μ) (c:Con) (b e:Int) (d:ByteArray) (ps:List Int) (lim:Int) (dk:List Span) (hW:Hg c b e d ps lim dk=0→W (ini c b e d ps lim dk)) :
  AK C 21 (Gc c b e d ps lim dk) (if Hg c b e d ps lim dk=0 then Ow (Gp (μ (ini c b e d ps lim dk)) (ini c b e d ps lim dk)) else [.sl 9 [],.sl 9 [],tI (Hg c b e d ps lim dk)]):=by
 unfold Gc Hg at *;refine AK.of (fun n=>e21 n _ _ _ _ _ _ _ _ _ _ _ _ _) ?_;by_cases h1:1000<ps.length
 ·refine Ev.of fun n => ?_;simp only [h1,vv2,vf,wK,(show (1000:Int)<(ps.length:Int) by omega),(show ¬(4:Int)=0 by omega)]
 ·have h1':¬(1000:Int)<(ps.length:Int):=by omega
  by_cases h2:lim < -1
  ·refine Ev.of fun n => ?_;simp only [h1,h1',h2,vv2,vf,wK,(show ¬(2:Int)=0 by omega)]
  ·by_cases h3:A4 dk=0
   ·by_cases h4:(Ak c 0 d b e).2.2=0
    ·have hr:=K9 h4;simp only [h1,h2,h3,h4,if_false,ne_eq,not_true_eq_false,if_true] at hW ⊢;have kr:=rn_21 hR ⟨0,0,0,[]⟩ (ini c b e d ps lim dk) (hW trivial);have k2':=Rj c 0 d b e;have k4':Qg 0=(⟨0,-1,[],ByteArray.mk #[]⟩,0):=rfl;have k4:=s48 0;rw [k4'] at k4;simp only [BK,h4,Con.enc,Snd.enc,Rcv.enc,xB,xX,vA] at k2' k4;refine ((s31 dk).and (k2'.and ((s49 c.rng hr).and (k4.and (kr [tI (Ak c 0 d b e).1.c.frm,tI (Ak c 0 d b e).1.c.dst,tI (Ak c 0 d b e).1.c.start,tI (Ak c 0 d b e).1.c.fin,tI (Ak c 0 d b e).1.c.rate,tI (Ak c 0 d b e).1.c.rng,tI (Ak c 0 d b e).1.c.loss,tI (Ak c 0 d b e).1.ses,.str (Ak c 0 d b e).1.data,tI (Ak c 0 d b e).1.fin,tI (Ak c 0 d b e).1.busy,tI (Ak c 0 d b e).1.ser,.sl 2 ((Ak c 0 d b e).1.acked.map Span.enc),tI (Ak c 0 d b e).1.due,tI (Ak c 0 d b e).1.st,.sl 9 ((Ak c 0 d b e).2.1.map Out.enc),tI 0] [tI 0,tI (-1),.sl 2 [],.str (ByteArray.mk #[]),tI 0] [tI c.rng,.sl 10 [],tI 0,tI 0,tI 0]))))).mono fun n hh => ?_;obtain ⟨k1,k2,k3,k4,kr⟩:=hh;simp only [h1',h3,k1,k2,k3,k4,vv2,vf,wK,bne_self_eq_false];exact kr
    ·have h4':((Ak c 0 d b e).2.2 != 0)=true:=by simpa using h4
     refine ((s31 dk).and (Rj c 0 d b e)).mono fun n hh => ?_;obtain ⟨k1,k2⟩:=hh;simp only [BK,Con.enc,Snd.enc,xB,xX] at k2;simp only [h1,h1',h2,h3,h4,k1,k2,h4',vv2,vf,wK,bne_self_eq_false,ne_eq,not_true_eq_false]
   ·have h3':(A4 dk != 0)=true:=by simpa using h3
    refine (s31 dk).mono fun n k1 => ?_;simp only [h1,h1',h2,h3,k1,h3',vv2,vf,wK,ne_eq,not_false_eq_true,(show ¬(1:Int)=0 by omega)]
end Ab
namespace Ab
open Go
structure FC (s:Ses):Prop where
 sg:∀o∈s.sent,o.seg.claims.length≤1000
 tl:∀o∈s.told,o.seg.claims.length≤1000
theorem FC.mic {p:Par} {s s':Ses} (hp:POk p) (h:FC s) (m:Mic p s s'):FC s':=by
 cases m with
 |time t q1 q2 q3 q4 q5 q6=>exact ⟨h.sg,h.tl⟩
 |tx o l q1 q2 q3=>
  have o1:=(q1.pd o (by rw [q2];simp)).1;refine ⟨fun x hx => ?_,h.tl⟩;rcases mem_append.1 hx with hx|hx
  ·exact h.sg x hx
  ·rw [xW] at hx;subst hx;show o.seg.claims.length≤1000;rw [o1.cl];simp
 |rx f l q1 q2 q3 q4=>
  have hF:=q1.rxFs hp q3 q4;refine ⟨by rw [hF.sent];exact h.sg,?_⟩;cases hc:f.seg.chk with
  |false=>rw [(hF.no hc).2.1];exact h.tl
  |true=>
   rw [(hF.yes hc).2.2.1];intro o ho;rcases mem_append.1 ho with ho|ho
   ·exact h.tl o ho
   ·rw [xW] at ho;subst ho;have:=(hF.yes hc).1.few hp.sz.2;show (B9 s.rcv f.seg).claims.length≤1000;omega
 |ls _ f l q1 q2 q3 q4 q5 q6=>cases q6<;>exact ⟨h.sg,h.tl⟩
 |ex _ q1 q2 q3 q4 q5=>cases q5<;>exact ⟨h.sg,h.tl⟩
theorem fc_fin {p:Par} (hp:POk p) (h:(Ak p.c 0 p.d p.b p.e).2.2=0):FC (G3 p):=
 (Tu hp h).1.ind FC ⟨(fun x hx=>by cases hx),(fun x hx=>by cases hx)⟩ fun s s' k m=>k.mic hp m
end Ab
namespace Ab
open Go
theorem s21P (p:Par) (hp:Fu p=0→POk p):AK C 21 (Gb p) (Qp p):=by
 by_cases h:Fu p=0
 ·have hok:=hp h;exact s21 (runQ hok) p.c p.b p.e p.d p.ps p.lim p.dk (fun _=>Qm hok (Ef h).2.2.2)
 ·have h0:¬Hg p.c p.b p.e p.d p.ps p.lim p.dk=0:=h;have:=s21 runQ0 p.c p.b p.e p.d p.ps p.lim p.dk (fun q=>(h0 q).elim);rw [if_neg h0] at this;unfold Qp;rw [if_neg h];exact this
theorem WV {p:Par} (hp:Fu p=0→POk p):∃(a b:List Out) (e:Int),Qp p=[.sl 9 (a.map Out.enc),.sl 9 (b.map Out.enc),tI e]∧(a.length≤1000000∧∀x∈a,x.seg.claims.length≤1000000)∧(b.length≤1000000∧∀x∈b,x.seg.claims.length≤1000000):=by
 unfold Qp;by_cases h:Fu p=0
 ·have hok:=hp h;have hS:=(Ef h).2.2.2;have hf:=fc_fin hok hS;have hw:=(Tu hok hS).2.1.i;have hl:=SX hok h;have h1:=hw.c1;have h2:=hw.c2;have h3:=hw.c3;rw [if_pos h];exact ⟨(G3 p).sent,(G3 p).told,0,rfl,⟨by omega,fun x hx=>by have:=hf.sg x hx;omega⟩,⟨by omega,fun x hx=>by have:=hf.tl x hx;omega⟩⟩
 ·rw [if_neg h];exact ⟨[],[],Fu p,rfl,⟨by simp,(fun x hx=>by cases hx)⟩,⟨by simp,(fun x hx=>by cases hx)⟩⟩
theorem WC (c:Con) (t n:Int):∃b1 i2 b3 i4 i5 i6 i7 i8,R3 c t n=[.bool b1,tI i2,.bool b3,tI i4,tI i5,tI i6,tI i7,tI i8]:=by unfold R3;split<;>exact ⟨_,_,_,_,_,_,_,_,rfl⟩
theorem YR (p:Par) (z:Int) (hpk:∀x∈p.ps,-9223372036854775808≤x∧x≤9223372036854775807):AK C 9 (Gb p++[tI z]) [.bool true]:=by
 have k11:=s11 p;have k19:=s19 p.c p.b z;have k20:=s20 p.c p.b z;obtain ⟨b1,i2,b3,i4,i5,i6,i7,i8,eo⟩:=WC p.c p.b z;rw [eo] at k19 k20;cases hg:Qo p with
 |true=>
  rw [hg] at k11;unfold Gb Gc at k11 ⊢;refine AK.of (fun n=>e9 n _ _ _ _ _ _ _ _ _ _ _ _ _ _) ?_;refine (k19.and (k20.and (k11.and s12))).mono fun n h => ?_;obtain ⟨h1,h2,h3,h4⟩:=h;simp only [Con.enc,xB,xX] at h1 h2 h3;simp only [h1,h2,h3,h4,J9_1,vv,vf,wK,beq_self_eq_true,bne_self_eq_false,Bool.and_self]
 |false=>
  rw [hg] at k11;have hp:=Qa hg hpk;have k15:=s15P p hp;have k21:=s21P p hp;obtain ⟨a,b,e,ef,⟨a1,a2⟩,⟨c1,c2⟩⟩:=WV hp;rw [ef] at k15 k21;have kA:=s22 a a a1 a2;have kB:=s22 b b c1 c2;rw [decide_eq_true rfl] at kA kB;unfold Gb Gc at k11 k15 k21 ⊢;refine AK.of (fun n=>e9 n _ _ _ _ _ _ _ _ _ _ _ _ _ _) ?_;refine (k19.and (k20.and (k11.and (k15.and (k21.and (kA.and (kB.and s12))))))).mono fun n h => ?_;obtain ⟨h1,h2,h3,h4,h5,h6,h7,h8⟩:=h;simp only [Con.enc,xB,xX] at h1 h2 h3 h4 h5;simp only [h1,h2,h3,h4,h5,h6,h7,h8,J9_1,vv,vf,wK,beq_self_eq_true,bne_self_eq_false,Bool.and_self]
end Ab
namespace Ab
open Go
variable {P:Program}
theorem V2 {d:Nat} {t:TypeId} {k:IntKind} (hu:P.underlying t=some (.int k)) {ts:List Tree} (h:Typed P d t ts):∃n,ts=[.int k n]∧(Lit.int k n).wf=true:=by
 cases d with
 |zero=>cases h
 |succ d=>unfold Typed at h;rw [hu] at h;exact h
theorem V1 {d:Nat} {t:TypeId} (hu:P.underlying t=some .string) {ts:List Tree} (h:Typed P d t ts):∃s:ByteArray,ts=[.str s]∧s.size≤maxLen:=by
 cases d with
 |zero=>cases h
 |succ d=>unfold Typed at h;rw [hu] at h;exact h
theorem L7 {d:Nat} {t e:TypeId} (hu:P.underlying t=some (.slice e)) {ts:List Tree} (h:Typed P (d+1) t ts):∃es,ts=[.sl (P.cellsOf e) es]∧es.length≤maxLen∧∀x∈es,Typed P d e x:=by unfold Typed at h;rw [hu] at h;exact h
theorem QL {d:Nat} {t:TypeId} {fs:Array Field} (hu:P.underlying t=some (.struct fs)) {ts:List Tree} (h:Typed P (d+1) t ts):Fq (Typed P d) (fs.toList.map (·.type)) ts:=by unfold Typed at h;rw [hu] at h;exact h
def SY (P:Program) (t:TypeId):Option (List TypeId):=
 match P.underlying t with
 |some (.struct fs)=>some (fs.toList.map (·.type))
 |_=>none
theorem Gj {d:Nat} {t:TypeId} (l:List TypeId) (hu:SY P t=some l) {ts:List Tree} (h:Typed P (d+1) t ts):Fq (Typed P d) l ts:=by
 unfold SY at hu;split at hu
 ·rename_i fs hf;cases hu;exact QL hf h
 ·cases hu
theorem A7 {Ty:TypeId→List Tree→Prop} {t:TypeId} {l:List TypeId} {ts:List Tree} (h:Fq Ty (t::l) ts):∃a b,ts=a++b∧Ty t a∧Fq Ty l b:=h
theorem Gk {Ty:TypeId→List Tree→Prop} {ts:List Tree} (h:Fq Ty [] ts):ts=[]:=h
theorem G6 {α:Type} {enc:α→List Tree} {p:α→Prop}:∀{es:List (List Tree)},(∀x∈es,∃a,x=enc a∧p a)→∃l:List α,es=l.map enc∧∀a∈l,p a
 |[],_=>⟨[],rfl,by simp⟩
 |x::es,h=>by
  obtain ⟨a,ha,pa⟩:=h x (by simp);obtain ⟨l,hl,pl⟩:=G6 (es:=es) fun y hy=>h y (by simp [hy]);refine ⟨a::l,by simp [ha,hl],fun b hb => ?_⟩;rcases mem_cons.1 hb with rfl|hb
  ·exact pa
  ·exact pl b hb
end Ab
namespace Ab
open Go Go.Proofs
theorem uInt:C.P.underlying 3=some (.int .i64):=by kernel_rfl
theorem uStr:C.P.underlying 9=some .string:=by kernel_rfl
def W2 (n:Int):Prop := -9223372036854775808≤n∧n≤9223372036854775807
theorem DQ {d:Nat} {ts:List Tree} (h:Typed C.P d 3 ts):∃n,ts=[tI n]∧W2 n:=by obtain ⟨n,h1,h2⟩:=V2 uInt h;refine ⟨n,h1,?_⟩;simp only [Lit.wf,and_eq_true,decide_eq_true_eq,show IntKind.i64.min = -9223372036854775808 from rfl,show IntKind.i64.max=9223372036854775807 from rfl] at h2;exact h2
theorem dec_str {d:Nat} {ts:List Tree} (h:Typed C.P d 9 ts):∃b:ByteArray,ts=[.str b]∧True:=by obtain ⟨b,h1,_⟩:=V1 uStr h;exact ⟨b,h1,trivial⟩
theorem Ys {d:Nat} {ts:List Tree} (h:Typed C.P (d+1) 45 ts):∃e:Span,ts=e.enc∧True:=by have h1:=Gj (t:=45) [3,3] (by kernel_rfl) h;clear h;obtain ⟨_,t1,rfl,x1,g1⟩:=A7 h1;obtain ⟨a1,rfl,k1⟩:=DQ x1;obtain ⟨_,t2,rfl,x2,g2⟩:=A7 g1;obtain ⟨a2,rfl,k2⟩:=DQ x2;obtain rfl:=Gk g2;exact ⟨⟨a1,a2⟩,rfl,trivial⟩
theorem Wf {d:Nat} {ts:List Tree} (h:Typed C.P (d+2) 25 ts):∃l:List Span,ts=[.sl 2 (l.map Span.enc)]∧True:=by obtain ⟨es,rfl,_,h2⟩:=L7 (t:=25) (e:=45) (by kernel_rfl) h;obtain ⟨l,rfl,hl⟩:=G6 fun x hx=>Ys (h2 x hx);exact ⟨l,by rw [show C.P.cellsOf 45=2 by kernel_rfl],trivial⟩
theorem Yt {d:Nat} {ts:List Tree} (h:Typed C.P (d+2) 24 ts):∃l:List Int,ts=[.sl 1 (l.map Aw)]∧∀n∈l,W2 n:=by obtain ⟨es,rfl,_,h2⟩:=L7 (t:=24) (e:=3) (by kernel_rfl) h;obtain ⟨l,rfl,hl⟩:=G6 (enc:=Aw) fun x hx=>DQ (h2 x hx);exact ⟨l,by rw [show C.P.cellsOf 3=1 by kernel_rfl],hl⟩
theorem dec_con {d:Nat} {ts:List Tree} (h:Typed C.P (d+1) 23 ts):∃e:Con,ts=e.enc∧True:=by have h1:=Gj (t:=23) [3,3,3,3,3,3,3] (by kernel_rfl) h;clear h;obtain ⟨_,t1,rfl,x1,g1⟩:=A7 h1;obtain ⟨a1,rfl,k1⟩:=DQ x1;obtain ⟨_,t2,rfl,x2,g2⟩:=A7 g1;obtain ⟨a2,rfl,k2⟩:=DQ x2;obtain ⟨_,t3,rfl,x3,g3⟩:=A7 g2;obtain ⟨a3,rfl,k3⟩:=DQ x3;obtain ⟨_,t4,rfl,x4,g4⟩:=A7 g3;obtain ⟨a4,rfl,k4⟩:=DQ x4;obtain ⟨_,t5,rfl,x5,g5⟩:=A7 g4;obtain ⟨a5,rfl,k5⟩:=DQ x5;obtain ⟨_,t6,rfl,x6,g6⟩:=A7 g5;obtain ⟨a6,rfl,k6⟩:=DQ x6;obtain ⟨_,t7,rfl,x7,g7⟩:=A7 g6;obtain ⟨a7,rfl,k7⟩:=DQ x7;obtain rfl:=Gk g7;exact ⟨⟨a1,a2,a3,a4,a5,a6,a7⟩,rfl,trivial⟩
structure Wd (p:Par):Prop where
 b:W2 p.b
 e:W2 p.e
 lim:W2 p.lim
 pk:∀n∈p.ps,W2 n
theorem Yu {d:Nat} {ts:List Tree} (h:Typed C.P (d+3) 27 ts):∃p:Par,ts=Gb p∧Wd p:=by have h1:=Gj (t:=27) [23,3,3,9,24,3,25] (by kernel_rfl) h;clear h;obtain ⟨_,t1,rfl,x1,g1⟩:=A7 h1;obtain ⟨a1,rfl,k1⟩:=dec_con x1;obtain ⟨_,t2,rfl,x2,g2⟩:=A7 g1;obtain ⟨a2,rfl,k2⟩:=DQ x2;obtain ⟨_,t3,rfl,x3,g3⟩:=A7 g2;obtain ⟨a3,rfl,k3⟩:=DQ x3;obtain ⟨_,t4,rfl,x4,g4⟩:=A7 g3;obtain ⟨a4,rfl,k4⟩:=dec_str x4;obtain ⟨_,t5,rfl,x5,g5⟩:=A7 g4;obtain ⟨a5,rfl,k5⟩:=Yt x5;obtain ⟨_,t6,rfl,x6,g6⟩:=A7 g5;obtain ⟨a6,rfl,k6⟩:=DQ x6;obtain ⟨_,t7,rfl,x7,g7⟩:=A7 g6;obtain ⟨a7,rfl,k7⟩:=Wf x7;obtain rfl:=Gk g7;exact ⟨⟨a1,a2,a3,a4,a5,a6,a7⟩,rfl,⟨k2,k3,k6,k5⟩⟩
theorem own:ownKnob Tryz.prog.godebug=none:=by kernel_rfl
end Ab
namespace Go.Proofs
open Go.Shelf
open Go.RowKit in
open Go.RowKit in
open Go.RowKit in
open Go.RowKit in
open Go.RowKit in
open Go.RowKit in
open Go.RowKit in
open Go.RowKit in
open Go.RowKit in
open Go.RowKit in
open Go.RowKit Go.Lib in
open Go.RowKit Go.Lib in
open Go.RowKit Go.Lib in
open Go.RowKit Go.Lib in
def Tryz.MG:Go.Shelf.Ren:=⟨fun|105=>25|212=>40|99=>41|165=>42|166=>43|170=>44|169=>45|263=>62|264=>63|206=>64|240=>65|241=>66|276=>89|277=>90|n=>n,fun|9=>9|3=>3|4=>4|20=>20|0=>0|46=>76|109=>77|5=>5|72=>83|76=>87|51=>114|146=>115|53=>117|148=>118|70=>80|37=>81|75=>86|127=>120|164=>139|80=>90|n=>n,fun|n=>n⟩
theorem Tryz.lays105:Go.Proofs.Lays.n105 Tryz.prog Tryz.MG:={
 mixed:=by kernel_rfl
 f99:=Tryz.func41.trans (congrArg some (by kernel_rfl))
 f105:=Tryz.func25.trans (congrArg some (by kernel_rfl))
 f165:=Tryz.func42.trans (congrArg some (by kernel_rfl))
 f166:=Tryz.func43.trans (congrArg some (by kernel_rfl))
 f169:=Tryz.func45.trans (congrArg some (by kernel_rfl))
 f170:=Tryz.func44.trans (congrArg some (by kernel_rfl))
 f206:=Tryz.func64.trans (congrArg some (by kernel_rfl))
 f212:=Tryz.func40.trans (congrArg some (by kernel_rfl))
 f240:=Tryz.func65.trans (congrArg some (by kernel_rfl))
 f241:=Tryz.func66.trans (congrArg some (by kernel_rfl))
 f263:=Tryz.func62.trans (congrArg some (by kernel_rfl))
 f264:=Tryz.func63.trans (congrArg some (by kernel_rfl))
 f276:=Tryz.func89.trans (congrArg some (by kernel_rfl))
 f277:=Tryz.func90.trans (congrArg some (by kernel_rfl))
 t0:=Tryz.underlying0
 a0:=Tryz.isAgg0
 z0:=Tryz.sizeOf0
 v0:=Tryz.zeroValue0
 t3:=Tryz.underlying3
 a3:=Tryz.isAgg3
 z3:=Tryz.sizeOf3
 v3:=Tryz.zeroValue3
 t4:=Tryz.underlying4
 a4:=Tryz.isAgg4
 z4:=Tryz.sizeOf4
 v4:=Tryz.zeroValue4
 t5:=Tryz.underlying5
 a5:=Tryz.isAgg5
 z5:=Tryz.sizeOf5
 v5:=Tryz.zeroValue5
 t9:=Tryz.underlying9
 a9:=Tryz.isAgg9
 z9:=Tryz.sizeOf9
 v9:=Tryz.zeroValue9
 t20:=Tryz.underlying20
 a20:=Tryz.isAgg20
 z20:=Tryz.sizeOf20
 v20:=Tryz.zeroValue20
 t37:=Tryz.underlying81
 a37:=Tryz.isAgg81
 z37:=Tryz.sizeOf81
 v37:=Tryz.zeroValue81
 t46:=Tryz.underlying76
 a46:=Tryz.isAgg76
 z46:=Tryz.sizeOf76
 v46:=Tryz.zeroValue76
 t51:=Tryz.underlying114
 a51:=Tryz.isAgg114
 z51:=Tryz.sizeOf114
 v51:=Tryz.zeroValue114
 t53:=Tryz.underlying117
 a53:=Tryz.isAgg117
 z53:=Tryz.sizeOf117
 v53:=Tryz.zeroValue117
 t70:=Tryz.underlying80
 a70:=Tryz.isAgg80
 z70:=Tryz.sizeOf80
 v70:=Tryz.zeroValue80
 t72:=Tryz.underlying83
 a72:=Tryz.isAgg83
 z72:=Tryz.sizeOf83
 v72:=Tryz.zeroValue83
 t75:=Tryz.underlying86
 a75:=Tryz.isAgg86
 z75:=Tryz.sizeOf86
 v75:=Tryz.zeroValue86
 t76:=Tryz.underlying87
 a76:=Tryz.isAgg87
 z76:=Tryz.sizeOf87
 v76:=Tryz.zeroValue87
 t109:=Tryz.underlying77
 a109:=Tryz.isAgg77
 z109:=Tryz.sizeOf77
 v109:=Tryz.zeroValue77
 t127:=Tryz.underlying120
 a127:=Tryz.isAgg120
 z127:=Tryz.sizeOf120
 v127:=Tryz.zeroValue120
 t146:=Tryz.underlying115
 a146:=Tryz.isAgg115
 z146:=Tryz.sizeOf115
 v146:=Tryz.zeroValue115
 t148:=Tryz.underlying118
 a148:=Tryz.isAgg118
 z148:=Tryz.sizeOf118
 v148:=Tryz.zeroValue118
 t164:=Tryz.underlying139
 a164:=Tryz.isAgg139
 z164:=Tryz.sizeOf139
 v164:=Tryz.zeroValue139}
theorem Tryz.K5:Builder.Extra Tryz.prog Tryz.MG:={
 sizeBuilder:=by kernel_rfl
 liesBuilder:=by kernel_rfl
 t5:=Tryz.underlying5
 a5:=Tryz.isAgg5
 z5:=Tryz.sizeOf5
 v5:=Tryz.zeroValue5
 infoByte:=by kernel_rfl
 cellsByte:=by kernel_rfl
 sizeByte:=by kernel_rfl
 neB5:=by decide}
open Go.RowKit Go.Lib in
open Go.RowKit Go.Lib in
open Go.RowKit Go.Lib in
open Go.RowKit Go.Lib in
open Go.RowKit Go.Lib in
open Go.RowKit Go.Lib in
open Go.RowKit Go.Lib in
theorem Tryz.strings_Repeat (s:ByteArray) (c:Nat) (w:World) (hc:c≤9223372036854775807) (hlen:s.size*c≤140737488355328) :
  Calls Tryz.prog 25 #[.string s,.int .i64 c] w fun e w'=>e = .returned (.string ⟨(Lib.repeatL s.data.toList c).toArray⟩)∧Below w.heap.size w w':=Any.strings_Repeat Tryz.lays105 Tryz.K5 s c w hc hlen
end Go.Proofs
namespace Ab
open Go Go.Proofs Go.Shelf Go.RowKit Go.Lib
theorem Hz {P:Program} {t key elem:TypeId} {kd:IntKind} (hu:P.underlying t=some (.map key elem)) (hk:P.underlying key=some (.int kd)) {w:World} {b:Nat} {es:Array MapEntry} {clock:Nat} (hb:w.heap[b]? = some (.map es clock)) (n:Int) (v:Value)
  (hnew:Instr.findNow (.int kd) (.int kd n) es.toList 0=some none) :
  (Instr.mapUpdate t (.map (some b)) (.int kd n) v).run P w = .ok () (w.putObj b (.map (es.push {key :=.int kd n,val:=v,born:=clock}) (clock+1))):=by
 have hck:(Instr.checkKey false 10000 key (.int kd n)).run P w = .ok () w:=by
  have:∀m:Nat,(Instr.checkKey false (m+1) key (.int kd n)).run P w = .ok () w:=fun m=>by simp [Instr.checkKey,run_underlying hk]
  exact this 9999
 simp only [Instr.mapUpdate,Sem.run_bind,run_underlying hu,Result.andThen_ok,JT hb,hck,Instr.findKey,run_underlying hk,hnew,Sem.run_pure];simp [setObj,Sem.run,hb,World.putObj]
theorem Ns (w:World):Calls Tryz.prog 165 #[] w fun e w'=>∃b,e = .returned (.map (some b))∧w.heap.size≤b∧b<w'.heap.size∧Below w.heap.size w w'∧∃es clock,w'.heap[b]? = some (.map es clock)∧es.toList.map (fun e=>(e.key,e.val))=[(.int .i64 2,.func (.func 186) #[] #[]),(.int .i64 3,.func (.func 187) #[] #[])]:=by
 have hmm:=@Go.run_makeMap_plain Tryz.prog;have hw0:(w.alloc (.map #[] 0)).heap[w.heap.size]? = some (.map #[] 0):=by show (w.heap.push (.map #[] 0))[w.heap.size]? = _;exact Array.getElem?_push_size
 have h1:(Instr.mapUpdate 191 (.map (some w.heap.size)) (.int .i64 2) (.func (.func 186) #[] #[])).run Tryz.prog (w.alloc (.map #[] 0))= .ok () ((w.alloc (.map #[] 0)).putObj w.heap.size (.map #[{key :=.int .i64 2,val :=.func (.func 186) #[] #[],born:=0}] 1)):=
  Hz (P:=Tryz.prog) (t:=191) (key:=3) (elem:=189) (kd :=.i64) (by kernel_rfl) (by kernel_rfl) hw0 2 (.func (.func 186) #[] #[]) rfl
 have hlt:=D0 hw0;have hw1:=World.putObj_heap_same (o :=.map #[{key :=.int .i64 2,val :=.func (.func 186) #[] #[],born:=0}] 1) hlt;have hlt2:=D0 hw1;have hw2:=World.putObj_heap_same (o :=.map #[{key :=.int .i64 2,val :=.func (.func 186) #[] #[],born:=0},{key :=.int .i64 3,val :=.func (.func 187) #[] #[],born:=1}] 2) hlt2;have hlt3:=D0 hw2;have h2:(Instr.mapUpdate 191 (.map (some w.heap.size)) (.int .i64 3) (.func (.func 187) #[] #[])).run Tryz.prog ((w.alloc (.map #[] 0)).putObj w.heap.size (.map #[{key :=.int .i64 2,val :=.func (.func 186) #[] #[],born:=0}] 1))= .ok () (((w.alloc (.map #[] 0)).putObj w.heap.size (.map #[{key :=.int .i64 2,val :=.func (.func 186) #[] #[],born:=0}] 1)).putObj w.heap.size (.map #[{key :=.int .i64 2,val :=.func (.func 186) #[] #[],born:=0},{key :=.int .i64 3,val :=.func (.func 187) #[] #[],born:=1}] 2)):=
  Hz (P:=Tryz.prog) (t:=191) (key:=3) (elem:=189) (kd :=.i64) (by kernel_rfl) (by kernel_rfl) hw1 3 (.func (.func 187) #[] #[]) rfl
 go_enter Tryz.func165,Tryz.ntmps165
 go_wp2
 go_ret
 exact ⟨w.heap.size,rfl,yI _,hlt3,⟨rfl,rfl,rfl,Nat.le_of_lt hlt3,fun k hk=>by rw [World.putObj_heap_other (vR hk),World.putObj_heap_other (vR hk)];show (w.heap.push (.map #[] 0))[k]? = _;rw [Array.getElem?_push,if_neg (vR hk)]⟩,_,_,hw2,rfl⟩
theorem mapExt:Lt Tryz.prog 165 [] [.mp .i64 [(2,186),(3,187)]]:=by
 intro B w avs vs n hm hB hc;have e:avs=[]:=by
  have:Dm Tryz.prog 165 (fun i =>.t ((List.getD [] i default:Tree)))=some []:=by kernel_rfl
  rw [this] at hm;exact (Option.some.inj hm).symm
 subst e;obtain rfl:vs = #[]:=eq_empty_of_size_eq_zero (by simpa using hc.1);refine (callsIn_wide (n:=n)).2 (Ns w) |>.mono ?_
 rintro e w' ⟨b,rfl,h1,h2,h3,es,clock,h4,h5⟩
 refine ⟨_,.t (.mp .i64 [(2,186),(3,187)]),rfl,by kernel_rfl,.t _ _ (.mp .i64 _ b es clock h2 ?_ h4 (by rw [h5];rfl)),⟨h3.os,h3.tape,h3.output,h3.size,h3.block⟩,fun h => ?_⟩
 ·rintro (h|h)
  ·exact Nat.lt_irrefl _ (lt_of_lt_of_le (hB b h) h1)
  ·exact Du h
 ·have:CZ Tryz.prog 165=false:=by kernel_rfl
  rw [this] at h;cases h
theorem repExt (s:ByteArray) (c:Int) (h0:0≤c∧c≤9223372036854775807∧s.size*c.toNat≤140737488355328):Lt Tryz.prog 25 [.str s,.int .i64 c] [.str ⟨(Go.Lib.repeatL s.data.toList c.toNat).toArray⟩]:=by
 intro B w avs vs n hm hB hc;have e:avs=[.t (.str s),.t (.int .i64 c)]:=by
  have:Dm Tryz.prog 25 (fun i =>.t ((List.getD [.str s,.int .i64 c] i default:Tree)))=some [.t (.str s),.t (.int .i64 c)]:=by kernel_rfl
  rw [this] at hm;exact (Option.some.inj hm).symm
 subst e;obtain ⟨h1,h2,h3⟩:=h0;obtain ⟨k,rfl⟩:∃k:Nat,c=(k:Int):=⟨c.toNat,by omega⟩
 simp only [toNat_natCast] at h3 ⊢;obtain rfl:vs = #[.string s,.int .i64 (k:Int)]:=by
  obtain ⟨hl,hv⟩:=hc;obtain ⟨l⟩:=vs
  match l,hl with
  |[u,v],_=>
   have q0:=hv 0 _ rfl;have q1:=hv 1 _ rfl;simp only [Array.getD] at q0 q1;have r0:u = .string s:=by cases q0 with|t _ _ q=>cases q with|str=>rfl
   have r1:v = .int .i64 (k:Int):=by cases q1 with|t _ _ q=>cases q with|int=>rfl
   rw [r0,r1]
 refine (callsIn_wide (n:=n)).2 (Tryz.strings_Repeat s k w (by omega) h3) |>.mono ?_
 rintro e w' ⟨rfl,h3⟩
 exact ⟨_,.t (.str _),rfl,by kernel_rfl,.t _ _ (.str _),⟨h3.os,h3.tape,h3.output,h3.size,h3.block⟩,fun _=>rfl⟩
theorem extOk:TI C:=by
 intro g xs ys _ h;unfold C at h;simp only at h;unfold Yf at h;split at h
 ·rename_i e;subst e;split at h
  ·split at h
   ·rename_i hq;cases h;exact repExt _ _ hq
   ·cases h
  ·cases h
 ·split at h
  ·rename_i e;subst e;split at h
   ·cases h;exact mapExt
   ·cases h
  ·cases h
end Ab
