/- A part of the proof: see the last text. -/
import Derived.Test.YtabheiodkaljcaaGreatDoorM4
import Derived.Shelf.Strings.Builder1
import Derived.Shelf.Strings.Builder2
import Derived.Shelf.Strings.BuilderF
import Derived.Shelf.Strings.Prefix
import Derived.Shelf.Bits.Mul64
import Derived.Shelf.Strings.Repeat
import Derived.Test.YtabheiodkaljcaaGreatDoorProg
import Derived.Deep.LoopGhost
import Derived.Below
import Derived.WideMake
import Derived.WalkKit
open Array (eq_empty_of_size_eq_zero)
open Bool (and_eq_true eq_false_or_eq_true false_eq_true)
open Int (emod_lt_of_pos emod_nonneg lt_irrefl natCast_zero tmod toNat toNat_natCast)
open List (append_assoc append_nil cons_append drop drop_left drop_nil drop_succ_cons drop_zero getD_eq_getElem?_getD getElem?_append_right getElem?_cons_zero getElem?_eq_getElem head?_cons head?_nil length length_append length_cons length_eq_zero_iff length_map length_pos_iff map_append map_cons map_nil mem_cons mem_of_getElem? nil_append set_cons_zero tail_cons take take_of_length_le)
open Nat (add_zero le_refl lt_of_lt_of_le ne_of_lt reduceAdd reduceEqDiff zero_add)
open Option (getD_none isSome_none isSome_some map_none map_some)
set_option linter.unusedVariables false
set_option linter.unusedSimpArgs false
set_option maxRecDepth 100000
namespace Ab
open Go
def Ad (g:Gh) (s:Ses):List AV:=[.t (tI s.dat.rng),.t (.sl 10 (s.dat.frames.map Frame.enc)),.t (tI s.dat.sent),.t (tI s.dat.lost),.t (tI s.rep.rng),.t (.sl 10 (s.rep.frames.map Frame.enc)),.t (tI s.rep.sent),.t (tI s.rep.lost),.t (.sl 1 (s.picks.map BY)),.t (tI s.limit),.t (.sl 2 (s.dark.map Span.enc)),.t (tI s.entered),.t (tI s.dist),.sref 5 g.v4 0 s.sent.length,.sref 6 g.v5 0 s.told.length,.t (tI s.now),.t (tI s.snd.c.frm),.t (tI s.snd.c.dst),.t (tI s.snd.c.start),.t (tI s.snd.c.fin),.t (tI s.snd.c.rate),.t (tI s.snd.c.rng),.t (tI s.snd.c.loss),.t (tI s.snd.ses),.t (.str s.snd.data),.t (tI s.snd.fin),.t (tI s.snd.busy),.t (tI s.snd.ser),.t (.sl 2 (s.snd.acked.map Span.enc)),.t (tI s.snd.due),.t (tI s.snd.st),.t (tI s.rcv.ses),.t (tI s.rcv.tot),.t (.sl 2 (s.rcv.known.map Span.enc)),.t (.str s.rcv.data),.sref 1 g.v0 g.pre.length s.pend.length,.t (.bool s.rcvd),.t (tI s.arrive),.t (.bool s.kno),.t (tI s.knoAt)]
def AS (f1 f2 f3:AF) (v0:Nat) (e0:List (List Tree)) (v4:Nat) (e4:List (List Tree)) (v5:Nat) (e5:List (List Tree)) (c:List AV) (tl:Heap):Heap:=
 .box [.t (.bool false),.t (tI 0),.t (.bool false),.t (tI 0),.t (tI 0),.t (tI 0),.t (tI 0)] :: .row false v0 9 e0::f1::f2::f3 :: .row false v4 9 e4 :: .row false v5 9 e5 :: .box c::tl
def H26 (f1 f2 f3:AF) (g:Gh) (s:Ses) (tl:Heap):Heap:=AS f1 f2 f3 g.v0 (g.pre++s.pend.map Out.enc) g.v4 (s.sent.map Out.enc) g.v5 (s.told.map Out.enc) (Ad g s) tl
theorem rd26 :
 (∀(e:List AV) (f1 f2 f3:AF) (v0:Nat) (e0:List (List Tree)) (v4:Nat) (e4:List (List Tree)) (v5:Nat) (e5:List (List Tree)) (g:Gh) (s:Ses) (tl:Heap),
  cI (e,AS f1 f2 f3 v0 e0 v4 e4 v5 e5 (Ad g s) tl) 7 0=s.dat.rng∧
  cL (e,AS f1 f2 f3 v0 e0 v4 e4 v5 e5 (Ad g s) tl) 7 1=s.dat.frames.map Frame.enc∧
  cI (e,AS f1 f2 f3 v0 e0 v4 e4 v5 e5 (Ad g s) tl) 7 2=s.dat.sent∧
  cI (e,AS f1 f2 f3 v0 e0 v4 e4 v5 e5 (Ad g s) tl) 7 3=s.dat.lost∧
  cI (e,AS f1 f2 f3 v0 e0 v4 e4 v5 e5 (Ad g s) tl) 7 4=s.rep.rng∧
  cL (e,AS f1 f2 f3 v0 e0 v4 e4 v5 e5 (Ad g s) tl) 7 5=s.rep.frames.map Frame.enc∧
  cI (e,AS f1 f2 f3 v0 e0 v4 e4 v5 e5 (Ad g s) tl) 7 6=s.rep.sent∧
  cI (e,AS f1 f2 f3 v0 e0 v4 e4 v5 e5 (Ad g s) tl) 7 7=s.rep.lost∧
  cL (e,AS f1 f2 f3 v0 e0 v4 e4 v5 e5 (Ad g s) tl) 7 8=s.picks.map BY∧
  cI (e,AS f1 f2 f3 v0 e0 v4 e4 v5 e5 (Ad g s) tl) 7 9=s.limit∧
  cL (e,AS f1 f2 f3 v0 e0 v4 e4 v5 e5 (Ad g s) tl) 7 10=s.dark.map Span.enc∧
  cI (e,AS f1 f2 f3 v0 e0 v4 e4 v5 e5 (Ad g s) tl) 7 11=s.entered∧
  cI (e,AS f1 f2 f3 v0 e0 v4 e4 v5 e5 (Ad g s) tl) 7 12=s.dist∧
  AI (e,AS f1 f2 f3 v0 e0 v4 e4 v5 e5 (Ad g s) tl) 7 13=g.v4∧
  AL (e,AS f1 f2 f3 v0 e0 v4 e4 v5 e5 (Ad g s) tl) 7 13=0∧
  AH (e,AS f1 f2 f3 v0 e0 v4 e4 v5 e5 (Ad g s) tl) 7 13=s.sent.length∧
  AI (e,AS f1 f2 f3 v0 e0 v4 e4 v5 e5 (Ad g s) tl) 7 14=g.v5∧
  AL (e,AS f1 f2 f3 v0 e0 v4 e4 v5 e5 (Ad g s) tl) 7 14=0∧
  AH (e,AS f1 f2 f3 v0 e0 v4 e4 v5 e5 (Ad g s) tl) 7 14=s.told.length∧
  cI (e,AS f1 f2 f3 v0 e0 v4 e4 v5 e5 (Ad g s) tl) 7 15=s.now∧
  cI (e,AS f1 f2 f3 v0 e0 v4 e4 v5 e5 (Ad g s) tl) 7 16=s.snd.c.frm∧
  cI (e,AS f1 f2 f3 v0 e0 v4 e4 v5 e5 (Ad g s) tl) 7 17=s.snd.c.dst∧
  cI (e,AS f1 f2 f3 v0 e0 v4 e4 v5 e5 (Ad g s) tl) 7 18=s.snd.c.start∧
  cI (e,AS f1 f2 f3 v0 e0 v4 e4 v5 e5 (Ad g s) tl) 7 19=s.snd.c.fin∧
  cI (e,AS f1 f2 f3 v0 e0 v4 e4 v5 e5 (Ad g s) tl) 7 20=s.snd.c.rate∧
  cI (e,AS f1 f2 f3 v0 e0 v4 e4 v5 e5 (Ad g s) tl) 7 21=s.snd.c.rng∧
  cI (e,AS f1 f2 f3 v0 e0 v4 e4 v5 e5 (Ad g s) tl) 7 22=s.snd.c.loss∧
  cI (e,AS f1 f2 f3 v0 e0 v4 e4 v5 e5 (Ad g s) tl) 7 23=s.snd.ses∧
  cS (e,AS f1 f2 f3 v0 e0 v4 e4 v5 e5 (Ad g s) tl) 7 24=s.snd.data∧
  cI (e,AS f1 f2 f3 v0 e0 v4 e4 v5 e5 (Ad g s) tl) 7 25=s.snd.fin∧
  cI (e,AS f1 f2 f3 v0 e0 v4 e4 v5 e5 (Ad g s) tl) 7 26=s.snd.busy∧
  cI (e,AS f1 f2 f3 v0 e0 v4 e4 v5 e5 (Ad g s) tl) 7 27=s.snd.ser∧
  cL (e,AS f1 f2 f3 v0 e0 v4 e4 v5 e5 (Ad g s) tl) 7 28=s.snd.acked.map Span.enc∧
  cI (e,AS f1 f2 f3 v0 e0 v4 e4 v5 e5 (Ad g s) tl) 7 29=s.snd.due∧
  cI (e,AS f1 f2 f3 v0 e0 v4 e4 v5 e5 (Ad g s) tl) 7 30=s.snd.st∧
  cI (e,AS f1 f2 f3 v0 e0 v4 e4 v5 e5 (Ad g s) tl) 7 31=s.rcv.ses∧
  cI (e,AS f1 f2 f3 v0 e0 v4 e4 v5 e5 (Ad g s) tl) 7 32=s.rcv.tot∧
  cL (e,AS f1 f2 f3 v0 e0 v4 e4 v5 e5 (Ad g s) tl) 7 33=s.rcv.known.map Span.enc∧
  cS (e,AS f1 f2 f3 v0 e0 v4 e4 v5 e5 (Ad g s) tl) 7 34=s.rcv.data∧
  AI (e,AS f1 f2 f3 v0 e0 v4 e4 v5 e5 (Ad g s) tl) 7 35=g.v0∧
  AL (e,AS f1 f2 f3 v0 e0 v4 e4 v5 e5 (Ad g s) tl) 7 35=g.pre.length∧
  AH (e,AS f1 f2 f3 v0 e0 v4 e4 v5 e5 (Ad g s) tl) 7 35=s.pend.length∧
  cB (e,AS f1 f2 f3 v0 e0 v4 e4 v5 e5 (Ad g s) tl) 7 36=s.rcvd∧
  cI (e,AS f1 f2 f3 v0 e0 v4 e4 v5 e5 (Ad g s) tl) 7 37=s.arrive∧
  cB (e,AS f1 f2 f3 v0 e0 v4 e4 v5 e5 (Ad g s) tl) 7 38=s.kno∧
  cI (e,AS f1 f2 f3 v0 e0 v4 e4 v5 e5 (Ad g s) tl) 7 39=s.knoAt)∧
 (∀(e:List AV) (f1 f2 f3:AF) (v0:Nat) (e0:List (List Tree)) (v4:Nat) (e4:List (List Tree)) (v5:Nat) (e5:List (List Tree)) (c:List AV) (tl:Heap),
  AD (e,AS f1 f2 f3 v0 e0 v4 e4 v5 e5 c tl) 1=v0∧
  oEs (e,AS f1 f2 f3 v0 e0 v4 e4 v5 e5 c tl) 1=e0∧
  AD (e,AS f1 f2 f3 v0 e0 v4 e4 v5 e5 c tl) 5=v4∧
  oEs (e,AS f1 f2 f3 v0 e0 v4 e4 v5 e5 c tl) 5=e4∧
  AD (e,AS f1 f2 f3 v0 e0 v4 e4 v5 e5 c tl) 6=v5∧
  oEs (e,AS f1 f2 f3 v0 e0 v4 e4 v5 e5 c tl) 6=e5∧
  AD (e,AS f1 f2 f3 v0 e0 v4 e4 v5 e5 c tl) 2=AF.ver f1∧
  oEs (e,AS f1 f2 f3 v0 e0 v4 e4 v5 e5 c tl) 2=Am f1∧
  AD (e,AS f1 f2 f3 v0 e0 v4 e4 v5 e5 c tl) 3=AF.ver f2∧
  oEs (e,AS f1 f2 f3 v0 e0 v4 e4 v5 e5 c tl) 3=Am f2∧
  AD (e,AS f1 f2 f3 v0 e0 v4 e4 v5 e5 c tl) 4=AF.ver f3∧
  oEs (e,AS f1 f2 f3 v0 e0 v4 e4 v5 e5 c tl) 4=Am f3)∧
 (∀(e:List AV) (f1 f2 f3:AF) (v0:Nat) (e0:List (List Tree)) (v4:Nat) (e4:List (List Tree)) (v5:Nat) (e5:List (List Tree)) (c:List AV) (o0:AF) (tl:Heap),
  AD (e,AS f1 f2 f3 v0 e0 v4 e4 v5 e5 c (o0::tl)) 8=AF.ver o0∧
  oEs (e,AS f1 f2 f3 v0 e0 v4 e4 v5 e5 c (o0::tl)) 8=Am o0)∧
 (∀(e:List AV) (f1 f2 f3:AF) (v0:Nat) (e0:List (List Tree)) (v4:Nat) (e4:List (List Tree)) (v5:Nat) (e5:List (List Tree)) (c:List AV) (o0:AF) (tl:Heap) (j:Nat),
  cI (e,AS f1 f2 f3 v0 e0 v4 e4 v5 e5 c (o0::tl)) 8 j=intOf (AB (cellOf o0 j))∧
  cB (e,AS f1 f2 f3 v0 e0 v4 e4 v5 e5 c (o0::tl)) 8 j=Ar (AB (cellOf o0 j))∧
  cS (e,AS f1 f2 f3 v0 e0 v4 e4 v5 e5 c (o0::tl)) 8 j=strOf (AB (cellOf o0 j))∧
  cL (e,AS f1 f2 f3 v0 e0 v4 e4 v5 e5 c (o0::tl)) 8 j=Bb (AB (cellOf o0 j)))∧
 (∀(e:List AV) (f1 f2 f3:AF) (v0:Nat) (e0:List (List Tree)) (v4:Nat) (e4:List (List Tree)) (v5:Nat) (e5:List (List Tree)) (c:List AV) (o0 o1:AF) (tl:Heap),
  AD (e,AS f1 f2 f3 v0 e0 v4 e4 v5 e5 c (o0::o1::tl)) 9=AF.ver o1∧
  oEs (e,AS f1 f2 f3 v0 e0 v4 e4 v5 e5 c (o0::o1::tl)) 9=Am o1)∧
 (∀(e:List AV) (f1 f2 f3:AF) (v0:Nat) (e0:List (List Tree)) (v4:Nat) (e4:List (List Tree)) (v5:Nat) (e5:List (List Tree)) (c:List AV) (o0 o1:AF) (tl:Heap) (j:Nat),
  cI (e,AS f1 f2 f3 v0 e0 v4 e4 v5 e5 c (o0::o1::tl)) 9 j=intOf (AB (cellOf o1 j))∧
  cB (e,AS f1 f2 f3 v0 e0 v4 e4 v5 e5 c (o0::o1::tl)) 9 j=Ar (AB (cellOf o1 j))∧
  cS (e,AS f1 f2 f3 v0 e0 v4 e4 v5 e5 c (o0::o1::tl)) 9 j=strOf (AB (cellOf o1 j))∧
  cL (e,AS f1 f2 f3 v0 e0 v4 e4 v5 e5 c (o0::o1::tl)) 9 j=Bb (AB (cellOf o1 j)))∧
 (∀(e:List AV) (f1 f2 f3:AF) (v0:Nat) (e0:List (List Tree)) (v4:Nat) (e4:List (List Tree)) (v5:Nat) (e5:List (List Tree)) (c:List AV) (o0 o1 o2:AF) (tl:Heap),
  AD (e,AS f1 f2 f3 v0 e0 v4 e4 v5 e5 c (o0::o1::o2::tl)) 10=AF.ver o2∧
  oEs (e,AS f1 f2 f3 v0 e0 v4 e4 v5 e5 c (o0::o1::o2::tl)) 10=Am o2)∧
 (∀(e:List AV) (f1 f2 f3:AF) (v0:Nat) (e0:List (List Tree)) (v4:Nat) (e4:List (List Tree)) (v5:Nat) (e5:List (List Tree)) (c:List AV) (o0 o1 o2:AF) (tl:Heap) (j:Nat),
  cI (e,AS f1 f2 f3 v0 e0 v4 e4 v5 e5 c (o0::o1::o2::tl)) 10 j=intOf (AB (cellOf o2 j))∧
  cB (e,AS f1 f2 f3 v0 e0 v4 e4 v5 e5 c (o0::o1::o2::tl)) 10 j=Ar (AB (cellOf o2 j))∧
  cS (e,AS f1 f2 f3 v0 e0 v4 e4 v5 e5 c (o0::o1::o2::tl)) 10 j=strOf (AB (cellOf o2 j))∧
  cL (e,AS f1 f2 f3 v0 e0 v4 e4 v5 e5 c (o0::o1::o2::tl)) 10 j=Bb (AB (cellOf o2 j)))∧
 (∀(e:List AV) (f1 f2 f3:AF) (v0:Nat) (e0:List (List Tree)) (v4:Nat) (e4:List (List Tree)) (v5:Nat) (e5:List (List Tree)) (c:List AV) (o0 o1 o2 o3:AF) (tl:Heap),
  AD (e,AS f1 f2 f3 v0 e0 v4 e4 v5 e5 c (o0::o1::o2::o3::tl)) 11=AF.ver o3∧
  oEs (e,AS f1 f2 f3 v0 e0 v4 e4 v5 e5 c (o0::o1::o2::o3::tl)) 11=Am o3)∧
 (∀(e:List AV) (f1 f2 f3:AF) (v0:Nat) (e0:List (List Tree)) (v4:Nat) (e4:List (List Tree)) (v5:Nat) (e5:List (List Tree)) (c:List AV) (o0 o1 o2 o3:AF) (tl:Heap) (j:Nat),
  cI (e,AS f1 f2 f3 v0 e0 v4 e4 v5 e5 c (o0::o1::o2::o3::tl)) 11 j=intOf (AB (cellOf o3 j))∧
  cB (e,AS f1 f2 f3 v0 e0 v4 e4 v5 e5 c (o0::o1::o2::o3::tl)) 11 j=Ar (AB (cellOf o3 j))∧
  cS (e,AS f1 f2 f3 v0 e0 v4 e4 v5 e5 c (o0::o1::o2::o3::tl)) 11 j=strOf (AB (cellOf o3 j))∧
  cL (e,AS f1 f2 f3 v0 e0 v4 e4 v5 e5 c (o0::o1::o2::o3::tl)) 11 j=Bb (AB (cellOf o3 j)))∧
 (∀(e:List AV) (f1 f2 f3:AF) (v0:Nat) (e0:List (List Tree)) (v4:Nat) (e4:List (List Tree)) (v5:Nat) (e5:List (List Tree)) (c:List AV) (o0 o1 o2 o3 o4:AF) (tl:Heap),
  AD (e,AS f1 f2 f3 v0 e0 v4 e4 v5 e5 c (o0::o1::o2::o3::o4::tl)) 12=AF.ver o4∧
  oEs (e,AS f1 f2 f3 v0 e0 v4 e4 v5 e5 c (o0::o1::o2::o3::o4::tl)) 12=Am o4)∧
 (∀(e:List AV) (f1 f2 f3:AF) (v0:Nat) (e0:List (List Tree)) (v4:Nat) (e4:List (List Tree)) (v5:Nat) (e5:List (List Tree)) (c:List AV) (o0 o1 o2 o3 o4:AF) (tl:Heap) (j:Nat),
  cI (e,AS f1 f2 f3 v0 e0 v4 e4 v5 e5 c (o0::o1::o2::o3::o4::tl)) 12 j=intOf (AB (cellOf o4 j))∧
  cB (e,AS f1 f2 f3 v0 e0 v4 e4 v5 e5 c (o0::o1::o2::o3::o4::tl)) 12 j=Ar (AB (cellOf o4 j))∧
  cS (e,AS f1 f2 f3 v0 e0 v4 e4 v5 e5 c (o0::o1::o2::o3::o4::tl)) 12 j=strOf (AB (cellOf o4 j))∧
  cL (e,AS f1 f2 f3 v0 e0 v4 e4 v5 e5 c (o0::o1::o2::o3::o4::tl)) 12 j=Bb (AB (cellOf o4 j))):=by
 refine ⟨?_,?_,?_,?_,?_,?_,?_,?_,?_,?_,?_,?_⟩
 ·intros;exact ⟨rfl,rfl,rfl,rfl,rfl,rfl,rfl,rfl,rfl,rfl,rfl,rfl,rfl,rfl,rfl,rfl,rfl,rfl,rfl,rfl,rfl,rfl,rfl,rfl,rfl,rfl,rfl,rfl,rfl,rfl,rfl,rfl,rfl,rfl,rfl,rfl,rfl,rfl,rfl,rfl,rfl,rfl,rfl,rfl,rfl,rfl⟩
 ·intros;exact ⟨rfl,rfl,rfl,rfl,rfl,rfl,rfl,rfl,rfl,rfl,rfl,rfl⟩
 ·intros;exact ⟨rfl,rfl⟩
 ·intros;exact ⟨rfl,rfl,rfl,rfl⟩
 ·intros;exact ⟨rfl,rfl⟩
 ·intros;exact ⟨rfl,rfl,rfl,rfl⟩
 ·intros;exact ⟨rfl,rfl⟩
 ·intros;exact ⟨rfl,rfl,rfl,rfl⟩
 ·intros;exact ⟨rfl,rfl⟩
 ·intros;exact ⟨rfl,rfl,rfl,rfl⟩
 ·intros;exact ⟨rfl,rfl⟩
 ·intros;exact ⟨rfl,rfl,rfl,rfl⟩
variable (e:List AV) (g:Gh) (s:Ses) (f1 f2 f3:AF) (v0:Nat) (e0:List (List Tree)) (v4:Nat) (e4:List (List Tree)) (v5:Nat) (e5:List (List Tree))
theorem XD (tl:Heap):rh (e,AS f1 f2 f3 v0 e0 v4 e4 v5 e5 (Ad g s) (tl)) 0 BU=AS E0 E0 E0 v0 e0 v4 e4 v5 e5 (Ad g s) []:=by intros;rfl
theorem XH (tl:Heap):rh (e,AS f1 f2 f3 v0 e0 v4 e4 v5 e5 (Ad g s) (tl)) 0 Bt=AS (.row true f1.ver 15 (Am f1)) (.row true f2.ver 4 (Am f2)) (.row true f3.ver 4 (Am f3)) v0 e0 v4 e4 v5 e5 (Ad g s) []:=by intros;rfl
theorem XF (o0 o1:AF) (tl:Heap):rh (e,AS f1 f2 f3 v0 e0 v4 e4 v5 e5 (Ad g s) (o0::o1::tl)) 0 DN=AS E0 E0 E0 v0 e0 v4 e4 v5 e5 (Ad g s) [.box [.t (tI (intOf (AB (cellOf o0 0))))],.box [.t (.bool (Ar (AB (cellOf o1 0))))]]:=by intros;rfl
theorem XB (o0:AF) (tl:Heap):rh (e,AS f1 f2 f3 v0 e0 v4 e4 v5 e5 (Ad g s) (o0::tl)) 0 O1=AS E0 E0 E0 v0 e0 v4 e4 v5 e5 (Ad g s) [.box [.t (tI (intOf (AB (cellOf o0 0)))),.t (tI (intOf (AB (cellOf o0 1)))),.t (tI (intOf (AB (cellOf o0 2)))),.t (tI (intOf (AB (cellOf o0 3)))),.t (tI (intOf (AB (cellOf o0 4)))),.t (.bool (Ar (AB (cellOf o0 5)))),.t (.str (strOf (AB (cellOf o0 6)))),.t (.sl 2 (Bb (AB (cellOf o0 7))))]]:=by intros;rfl
theorem W9 (o0:AF) (tl:Heap):rh (e,AS f1 f2 f3 v0 e0 v4 e4 v5 e5 (Ad g s) (o0::tl)) 0 CN=AS E0 E0 E0 v0 e0 v4 e4 v5 e5 (Ad g s) [.row false o0.ver 8 (Am o0)]:=by intros;rfl
theorem UX (o0 o1:AF) (tl:Heap):rh (e,AS f1 f2 f3 v0 e0 v4 e4 v5 e5 (Ad g s) (o0::o1::tl)) 0 Ky=AS E0 E0 E0 v0 e0 v4 e4 v5 e5 (Ad g s) [.row false o0.ver 8 (Am o0),.box [.t (tI (intOf (AB (cellOf o1 0)))),.t (tI (intOf (AB (cellOf o1 1)))),.t (tI (intOf (AB (cellOf o1 2)))),.t (tI (intOf (AB (cellOf o1 3)))),.t (tI (intOf (AB (cellOf o1 4)))),.t (.bool (Ar (AB (cellOf o1 5)))),.t (.str (strOf (AB (cellOf o1 6)))),.t (.sl 2 (Bb (AB (cellOf o1 7))))]]:=by intros;rfl
theorem UU (o0 o1 o2:AF) (tl:Heap):rh (e,AS f1 f2 f3 v0 e0 v4 e4 v5 e5 (Ad g s) (o0::o1::o2::tl)) 0 I7=AS (.row true f1.ver 15 (Am f1)) (.row true f2.ver 4 (Am f2)) (.row true f3.ver 4 (Am f3)) v0 e0 v4 e4 v5 e5 (Ad g s) [.row false o0.ver 8 (Am o0),.box [.t (tI (intOf (AB (cellOf o1 0)))),.t (tI (intOf (AB (cellOf o1 1)))),.t (.sl 2 (Bb (AB (cellOf o1 2)))),.t (.str (strOf (AB (cellOf o1 3))))],.box [.t (tI (intOf (AB (cellOf o2 0)))),.t (tI (intOf (AB (cellOf o2 1)))),.t (tI (intOf (AB (cellOf o2 2)))),.t (tI (intOf (AB (cellOf o2 3)))),.t (tI (intOf (AB (cellOf o2 4)))),.t (.bool (Ar (AB (cellOf o2 5)))),.t (.str (strOf (AB (cellOf o2 6)))),.t (.sl 2 (Bb (AB (cellOf o2 7))))]]:=by intros;rfl
theorem US (o0 o1 o2:AF) (tl:Heap):rh (e,AS f1 f2 f3 v0 e0 v4 e4 v5 e5 (Ad g s) (o0::o1::o2::tl)) 0 CM=AS E0 E0 E0 v0 e0 v4 e4 v5 e5 (Ad g s) [.row false o0.ver 8 (Am o0),.box [.t (tI (intOf (AB (cellOf o1 0)))),.t (tI (intOf (AB (cellOf o1 1)))),.t (.sl 2 (Bb (AB (cellOf o1 2)))),.t (.str (strOf (AB (cellOf o1 3))))],.box [.t (tI (intOf (AB (cellOf o2 0)))),.t (tI (intOf (AB (cellOf o2 1)))),.t (tI (intOf (AB (cellOf o2 2)))),.t (tI (intOf (AB (cellOf o2 3)))),.t (tI (intOf (AB (cellOf o2 4)))),.t (.bool (Ar (AB (cellOf o2 5)))),.t (.str (strOf (AB (cellOf o2 6)))),.t (.sl 2 (Bb (AB (cellOf o2 7))))]]:=by intros;rfl
theorem UQ (o0 o1 o2 o3:AF) (tl:Heap):rh (e,AS f1 f2 f3 v0 e0 v4 e4 v5 e5 (Ad g s) (o0::o1::o2::o3::tl)) 0 Kx=AS E0 E0 E0 v0 e0 v4 e4 v5 e5 (Ad g s) [.row false o0.ver 8 (Am o0),.box [.t (tI (intOf (AB (cellOf o1 0)))),.t (tI (intOf (AB (cellOf o1 1)))),.t (.sl 2 (Bb (AB (cellOf o1 2)))),.t (.str (strOf (AB (cellOf o1 3))))],.box [.t (tI (intOf (AB (cellOf o2 0)))),.t (tI (intOf (AB (cellOf o2 1)))),.t (tI (intOf (AB (cellOf o2 2)))),.t (tI (intOf (AB (cellOf o2 3)))),.t (tI (intOf (AB (cellOf o2 4)))),.t (.bool (Ar (AB (cellOf o2 5)))),.t (.str (strOf (AB (cellOf o2 6)))),.t (.sl 2 (Bb (AB (cellOf o2 7))))],.box [.t (tI (intOf (AB (cellOf o3 0)))),.t (.sl 10 (Bb (AB (cellOf o3 1)))),.t (tI (intOf (AB (cellOf o3 2)))),.t (tI (intOf (AB (cellOf o3 3))))]]:=by intros;rfl
theorem UO (o0 o1:AF) (tl:Heap):rh (e,AS f1 f2 f3 v0 e0 v4 e4 v5 e5 (Ad g s) (o0::o1::tl)) 0 Nh=AS E0 E0 E0 v0 e0 v4 e4 v5 e5 (Ad g s) [.row false o0.ver 8 (Am o0),.box [.t (tI (intOf (AB (cellOf o1 0)))),.t (tI (intOf (AB (cellOf o1 1)))),.t (.sl 2 (Bb (AB (cellOf o1 2)))),.t (.str (strOf (AB (cellOf o1 3))))]]:=by intros;rfl
theorem UM (o0:AF) (tl:Heap):rh (e,AS f1 f2 f3 v0 e0 v4 e4 v5 e5 (Ad g s) (o0::tl)) 0 Kw=AS E0 E0 E0 v0 e0 v4 e4 v5 e5 (Ad g s) [.box [.t (tI (intOf (AB (cellOf o0 0)))),.t (.sl 10 (Bb (AB (cellOf o0 1)))),.t (tI (intOf (AB (cellOf o0 2)))),.t (tI (intOf (AB (cellOf o0 3))))]]:=by intros;rfl
theorem W6 (x y:AF):upd (rh (e,AS f1 f2 f3 v0 e0 v4 e4 v5 e5 (Ad g s) []) 0 DN) [(8,x),(9,y)]=AS E0 E0 E0 v0 e0 v4 e4 v5 e5 (Ad g s) [x,y]:=by intros;rfl
theorem W4 (x:AF):upd (rh (e,AS f1 f2 f3 v0 e0 v4 e4 v5 e5 (Ad g s) []) 0 O1) [(8,x)]=AS E0 E0 E0 v0 e0 v4 e4 v5 e5 (Ad g s) [x]:=by intros;rfl
theorem W2 (x:AF):upd (rh (e,AS f1 f2 f3 v0 e0 v4 e4 v5 e5 (Ad g s) []) 0 CN) [(8,x)]=AS E0 E0 E0 v0 e0 v4 e4 v5 e5 (Ad g s) [x]:=by intros;rfl
theorem UK (o0:AF) (x y:AF):upd (rh (e,AS f1 f2 f3 v0 e0 v4 e4 v5 e5 (Ad g s) [o0]) 0 Ky) [(8,x),(9,y)]=AS E0 E0 E0 v0 e0 v4 e4 v5 e5 (Ad g s) [x,y]:=by intros;rfl
theorem UE (o0:AF) (y:AF):upd (rh (e,AS f1 f2 f3 v0 e0 v4 e4 v5 e5 (Ad g s) [o0]) 0 Nh) [(9,y)]=AS E0 E0 E0 v0 e0 v4 e4 v5 e5 (Ad g s) [.row false o0.ver 8 (Am o0),y]:=by intros;rfl
theorem UG (o0 o1 o2:AF) (y:AF):upd (rh (e,AS f1 f2 f3 v0 e0 v4 e4 v5 e5 (Ad g s) [o0,o1,o2]) 0 Kx) [(11,y)]=AS E0 E0 E0 v0 e0 v4 e4 v5 e5 (Ad g s) [.row false o0.ver 8 (Am o0),.box [.t (tI (intOf (AB (cellOf o1 0)))),.t (tI (intOf (AB (cellOf o1 1)))),.t (.sl 2 (Bb (AB (cellOf o1 2)))),.t (.str (strOf (AB (cellOf o1 3))))],.box [.t (tI (intOf (AB (cellOf o2 0)))),.t (tI (intOf (AB (cellOf o2 1)))),.t (tI (intOf (AB (cellOf o2 2)))),.t (tI (intOf (AB (cellOf o2 3)))),.t (tI (intOf (AB (cellOf o2 4)))),.t (.bool (Ar (AB (cellOf o2 5)))),.t (.str (strOf (AB (cellOf o2 6)))),.t (.sl 2 (Bb (AB (cellOf o2 7))))],y]:=by intros;rfl
theorem UC (y:AF):upd (rh (e,AS f1 f2 f3 v0 e0 v4 e4 v5 e5 (Ad g s) []) 0 Kw) [(8,y)]=AS E0 E0 E0 v0 e0 v4 e4 v5 e5 (Ad g s) [y]:=by intros;rfl
theorem UI (o0 o1 x y z w:AF):upd (rh (e,AS f1 f2 f3 v0 e0 v4 e4 v5 e5 (Ad g s) [o0,o1]) 0 I7) [(2,x),(3,y),(4,z),(10,w)]=AS x y z v0 e0 v4 e4 v5 e5 (Ad g s) [.row false o0.ver 8 (Am o0),.box [.t (tI (intOf (AB (cellOf o1 0)))),.t (tI (intOf (AB (cellOf o1 1)))),.t (.sl 2 (Bb (AB (cellOf o1 2)))),.t (.str (strOf (AB (cellOf o1 3))))],w]:=by intros;rfl
theorem Qo (o0 y:AF) (d:List AV):upd (rh (e,AS f1 f2 f3 v0 e0 v4 e4 v5 e5 (Ad g s) [o0]) 0 Nh) [(7,.box d),(9,y)]=AS E0 E0 E0 v0 e0 v4 e4 v5 e5 d [.row false o0.ver 8 (Am o0),y]:=by intros;rfl
theorem QY (x y z:AF) (c:List AV) (tl:Heap):upd (AS f1 f2 f3 v0 e0 v4 e4 v5 e5 c tl) [(2,x),(3,y),(4,z)]=AS x y z v0 e0 v4 e4 v5 e5 c tl:=by intros;rfl
theorem N3 (x y z w o0 o1 o2:AF) (c:List AV) (tl:Heap):upd (AS f1 f2 f3 v0 e0 v4 e4 v5 e5 c (o0::o1::o2::tl)) [(2,x),(3,y),(4,z),(10,w)]=AS x y z v0 e0 v4 e4 v5 e5 c (o0::o1::w::tl):=by intros;rfl
theorem WR (d:List AV) (c:List AV) (tl:Heap):upd (AS f1 f2 f3 v0 e0 v4 e4 v5 e5 c tl) [(7,.box d)]=AS f1 f2 f3 v0 e0 v4 e4 v5 e5 d tl:=by intros;rfl
theorem Ts (d:List AV) (w:Nat) (r:List (List Tree)) (c:List AV) (tl:Heap):upd (AS f1 f2 f3 v0 e0 v4 e4 v5 e5 c tl) [(1,.row false w 9 r),(7,.box d)]=AS f1 f2 f3 w r v4 e4 v5 e5 d tl:=by intros;rfl
theorem Tq (d:List AV) (w:Nat) (r:List (List Tree)) (c:List AV) (tl:Heap):upd (AS f1 f2 f3 v0 e0 v4 e4 v5 e5 c tl) [(5,.row false w 9 r),(7,.box d)]=AS f1 f2 f3 v0 e0 w r v5 e5 d tl:=by intros;rfl
theorem To (d:List AV) (w:Nat) (r:List (List Tree)) (c:List AV) (tl:Heap):upd (AS f1 f2 f3 v0 e0 v4 e4 v5 e5 c tl) [(6,.row false w 9 r),(7,.box d)]=AS f1 f2 f3 v0 e0 v4 e4 w r d tl:=by intros;rfl
theorem WO (x o0:AF) (c:List AV) (tl:Heap):upd (AS f1 f2 f3 v0 e0 v4 e4 v5 e5 c (o0::tl)) [(8,x)]=AS f1 f2 f3 v0 e0 v4 e4 v5 e5 c (x::tl):=by intros;rfl
theorem Ti (x y o0 o1:AF) (c:List AV) (tl:Heap):upd (AS f1 f2 f3 v0 e0 v4 e4 v5 e5 c (o0::o1::tl)) [(8,x),(9,y)]=AS f1 f2 f3 v0 e0 v4 e4 v5 e5 c (x::y::tl):=by intros;rfl
theorem Tm (x o0:AF) (d:List AV) (c:List AV) (tl:Heap):upd (AS f1 f2 f3 v0 e0 v4 e4 v5 e5 c (o0::tl)) [(7,.box d),(8,x)]=AS f1 f2 f3 v0 e0 v4 e4 v5 e5 d (x::tl):=by intros;rfl
theorem Tk (x o0 o1:AF) (d:List AV) (c:List AV) (tl:Heap):upd (AS f1 f2 f3 v0 e0 v4 e4 v5 e5 c (o0::o1::tl)) [(7,.box d),(9,x)]=AS f1 f2 f3 v0 e0 v4 e4 v5 e5 d (o0::x::tl):=by intros;rfl
theorem XM (tl:Heap):rb (e,AS f1 f2 f3 v0 e0 v4 e4 v5 e5 (Ad g s) tl) 7 0 BC=Ad g s:=by intros;rfl
theorem Wb (a b d:Int) (fs:List Frame):upd (Ad g s) [(0,.t (tI a)),(1,.t (.sl 10 (fs.map Frame.enc))),(2,.t (tI b)),(3,.t (tI d))]=Ad g {s with dat:=⟨a,fs,b,d⟩}:=by kernel_rfl
theorem WX (a b d:Int) (fs:List Frame):upd (Ad g s) [(4,.t (tI a)),(5,.t (.sl 10 (fs.map Frame.enc))),(6,.t (tI b)),(7,.t (tI d))]=Ad g {s with rep:=⟨a,fs,b,d⟩}:=by kernel_rfl
theorem WZ (a:Int):upd (Ad g s) [(15,.t (tI a))]=Ad g {s with now:=a}:=by kernel_rfl
theorem Tw (a:Int):upd (Ad g s) [(12,.t (tI a))]=Ad g {s with dist:=a}:=by kernel_rfl
theorem WV (a:Snd):upd (Ad g s) [(16,.t (tI a.c.frm)),(17,.t (tI a.c.dst)),(18,.t (tI a.c.start)),(19,.t (tI a.c.fin)),(20,.t (tI a.c.rate)),(21,.t (tI a.c.rng)),(22,.t (tI a.c.loss)),(23,.t (tI a.ses)),(24,.t (.str a.data)),(25,.t (tI a.fin)),(26,.t (tI a.busy)),(27,.t (tI a.ser)),(28,.t (.sl 2 (a.acked.map Span.enc))),(29,.t (tI a.due)),(30,.t (tI a.st))]=Ad g {s with snd:=a}:=by kernel_rfl
theorem Tu (a:Snd) (k:Bool) (t:Int):upd (Ad g s) [(16,.t (tI a.c.frm)),(17,.t (tI a.c.dst)),(18,.t (tI a.c.start)),(19,.t (tI a.c.fin)),(20,.t (tI a.c.rate)),(21,.t (tI a.c.rng)),(22,.t (tI a.c.loss)),(23,.t (tI a.ses)),(24,.t (.str a.data)),(25,.t (tI a.fin)),(26,.t (tI a.busy)),(27,.t (tI a.ser)),(28,.t (.sl 2 (a.acked.map Span.enc))),(29,.t (tI a.due)),(30,.t (tI a.st)),(38,.t (.bool k)),(39,.t (tI t))]=Ad g {s with snd:=a,kno:=k,knoAt:=t}:=by kernel_rfl
theorem WT (a:Rcv):upd (Ad g s) [(31,.t (tI a.ses)),(32,.t (tI a.tot)),(33,.t (.sl 2 (a.known.map Span.enc))),(34,.t (.str a.data))]=Ad g {s with rcv:=a}:=by kernel_rfl
theorem We (k:Bool) (t:Int):upd (Ad g s) [(36,.t (.bool k)),(37,.t (tI t))]=Ad g {s with rcvd:=k,arrive:=t}:=by kernel_rfl
theorem JB (a:Snd) (w:Nat) (o:List Out):upd (Ad g s) [(16,.t (tI a.c.frm)),(17,.t (tI a.c.dst)),(18,.t (tI a.c.start)),(19,.t (tI a.c.fin)),(20,.t (tI a.c.rate)),(21,.t (tI a.c.rng)),(22,.t (tI a.c.loss)),(23,.t (tI a.ses)),(24,.t (.str a.data)),(25,.t (tI a.fin)),(26,.t (tI a.busy)),(27,.t (tI a.ser)),(28,.t (.sl 2 (a.acked.map Span.enc))),(29,.t (tI a.due)),(30,.t (tI a.st)),(35,.sref 1 w 0 (s.pend.length+o.length))]=Ad {g with v0:=w,pre:=[]} {s with snd:=a,pend:=s.pend++o}:=by rw [← length_append];kernel_rfl
theorem Lu (a:Snd) (w:Nat) (o:List Out) (k:Bool) (t:Int):upd (Ad g s) [(16,.t (tI a.c.frm)),(17,.t (tI a.c.dst)),(18,.t (tI a.c.start)),(19,.t (tI a.c.fin)),(20,.t (tI a.c.rate)),(21,.t (tI a.c.rng)),(22,.t (tI a.c.loss)),(23,.t (tI a.ses)),(24,.t (.str a.data)),(25,.t (tI a.fin)),(26,.t (tI a.busy)),(27,.t (tI a.ser)),(28,.t (.sl 2 (a.acked.map Span.enc))),(29,.t (tI a.due)),(30,.t (tI a.st)),(35,.sref 1 w 0 (s.pend.length+o.length)),(38,.t (.bool k)),(39,.t (tI t))]=Ad {g with v0:=w,pre:=[]} {s with snd:=a,pend:=s.pend++o,kno:=k,knoAt:=t}:=by rw [← length_append];kernel_rfl
theorem ucP_26 (x:Out) (l:List Out) (hp:s.pend=x::l):upd (Ad g s) [(35,.sref 1 g.v0 (g.pre.length+1) (s.pend.length-1))]=Ad {g with pre:=g.pre++[x.enc]} {s with pend:=l}:=by rw [show s.pend.length-1=l.length by rw [hp];rfl,show g.pre.length+1=(g.pre++[x.enc]).length by simp];kernel_rfl
theorem JF (a b d:Int) (fs:List Frame) (e:Int) (w:Nat) (x:Out):upd (Ad g s) [(0,.t (tI a)),(1,.t (.sl 10 (fs.map Frame.enc))),(2,.t (tI b)),(3,.t (tI d)),(11,.t (tI e)),(13,.sref 5 w 0 (s.sent.length+1))]=Ad {g with v4:=w} {s with dat:=⟨a,fs,b,d⟩,entered:=e,sent:=s.sent++[x]}:=by rw [show s.sent.length+1=(s.sent++[x]).length by simp];kernel_rfl
theorem Lc (a b d:Int) (fs:List Frame) (e u:Int) (w:Nat) (x:Out):upd (Ad g s) [(0,.t (tI a)),(1,.t (.sl 10 (fs.map Frame.enc))),(2,.t (tI b)),(3,.t (tI d)),(11,.t (tI e)),(12,.t (tI u)),(13,.sref 5 w 0 (s.sent.length+1))]=Ad {g with v4:=w} {s with dat:=⟨a,fs,b,d⟩,entered:=e,dist:=u,sent:=s.sent++[x]}:=by rw [show s.sent.length+1=(s.sent++[x]).length by simp];kernel_rfl
theorem JD (a b d:Int) (fs:List Frame) (e:Int) (w:Nat) (x:Out):upd (Ad g s) [(4,.t (tI a)),(5,.t (.sl 10 (fs.map Frame.enc))),(6,.t (tI b)),(7,.t (tI d)),(11,.t (tI e)),(14,.sref 6 w 0 (s.told.length+1))]=Ad {g with v5:=w} {s with rep:=⟨a,fs,b,d⟩,entered:=e,told:=s.told++[x]}:=by rw [show s.told.length+1=(s.told++[x]).length by simp];kernel_rfl
theorem La (a b d:Int) (fs:List Frame) (e u:Int) (w:Nat) (x:Out):upd (Ad g s) [(4,.t (tI a)),(5,.t (.sl 10 (fs.map Frame.enc))),(6,.t (tI b)),(7,.t (tI d)),(11,.t (tI e)),(12,.t (tI u)),(14,.sref 6 w 0 (s.told.length+1))]=Ad {g with v5:=w} {s with rep:=⟨a,fs,b,d⟩,entered:=e,dist:=u,told:=s.told++[x]}:=by rw [show s.told.length+1=(s.told++[x]).length by simp];kernel_rfl
theorem A8:type_of% (And.intro @rd26 (And.intro @XD (And.intro @XH (And.intro @XF (And.intro @XB (And.intro @W9 (And.intro @UX (And.intro @UU (And.intro @US (And.intro @UQ (And.intro @UO (And.intro @UM (And.intro @W6 (And.intro @W4 (And.intro @W2 (And.intro @UK (And.intro @UE (And.intro @UG (And.intro @UC (And.intro @UI (And.intro @Qo (And.intro @QY (And.intro @N3 (And.intro @WR (And.intro @Ts (And.intro @Tq (And.intro @To (And.intro @WO (And.intro @Ti (And.intro @Tm (And.intro @Tk (And.intro @XM (And.intro @Wb (And.intro @WX (And.intro @WZ (And.intro @Tw (And.intro @WV (And.intro @Tu (And.intro @WT (And.intro @We (And.intro @JB @Lu))))))))))))))))))))))))))))))))))))))))):=(And.intro @rd26 (And.intro @XD (And.intro @XH (And.intro @XF (And.intro @XB (And.intro @W9 (And.intro @UX (And.intro @UU (And.intro @US (And.intro @UQ (And.intro @UO (And.intro @UM (And.intro @W6 (And.intro @W4 (And.intro @W2 (And.intro @UK (And.intro @UE (And.intro @UG (And.intro @UC (And.intro @UI (And.intro @Qo (And.intro @QY (And.intro @N3 (And.intro @WR (And.intro @Ts (And.intro @Tq (And.intro @To (And.intro @WO (And.intro @Ti (And.intro @Tm (And.intro @Tk (And.intro @XM (And.intro @Wb (And.intro @WX (And.intro @WZ (And.intro @Tw (And.intro @WV (And.intro @Tu (And.intro @WT (And.intro @We (And.intro @JB @Lu)))))))))))))))))))))))))))))))))))))))))
end Ab
set_option linter.unusedVariables false
set_option linter.unusedSimpArgs false
set_option maxRecDepth 100000
namespace Ab
open Go
theorem entD_26 (g:Gh) (s:Ses) (x:Seg) (f1 f2 f3:AF) (hc:EOk s s.dat) :
  Ev fun n=>∀again,Yy n (fI C n) again ([.ptr 7 0,.ptr 7 0,.t (tI 0),.t (tI s.now),.agg (BB x)],H26 f1 f2 f3 g s [])=again ([],H26 E0 E0 E0 {g with v4:=g.v4+1} (DJ s x) []):=by
 have q1:¬(10000:Int)≤s.entered:=by have:=hc.ent;omega
 have q2:w64 (s.entered+1)=s.entered+1:=by have:=hc.ent;exact Aa (by omega) (by omega)
 have q3:w64 (s.dist+1)=s.dist+1:=by have:=hc.dst;exact Aa (by omega) (by omega)
 have q4:s.sent.length+1≤1073741824:=by have:=hc.sl;omega
 have q5:take s.sent.length (List.map Out.enc s.sent)=List.map Out.enc s.sent:=take_of_length_le (by simp);have key:=fun (ds:List Int) (hd:∀d∈ds,s.dat.rng≤d∧d≤2*s.dat.rng) (hl:ds.length≤2)=>s156 s.dat hc.gc s.now x hc.now ds hd (by have:=hc.len;omega);have kR:∀d∈[s.dat.rng],s.dat.rng≤d∧d≤2*s.dat.rng:=by have:=hc.gc.rng;simp;omega
 simp only [BW.enc,cons_append,nil_append] at key;by_cases h0:LQ s.dark s.now=true
 ·rw [Ee s x [] s.dist (by simp [Ce,h0])];refine ((Fq s.dark s.now).and (key [] (by simp) (by simp))).mono fun n h again => ?_;obtain ⟨h1,h2⟩:=h;simp only [map_nil] at h2;simp only [H26,F5,HV,BB,A8,vv2,vf,reduceCtorEq,reduceAdd,reduceEqDiff,h1,h0,h2,AN,AJ,q1,q2,q3,q4,q5,bne_self_eq_false,le_refl,JF (x:=⟨s.now,x⟩),map_append,map_cons,map_nil,Out.enc]
 ·have h0:LQ s.dark s.now=false:=by simpa using h0
  by_cases h5:s.picks=[]
  ·rw [Ee s x [s.dat.rng] s.dist (by simp [Ce,h0,h5])];refine ((Fq s.dark s.now).and (key [s.dat.rng] kR (by simp))).mono fun n h again => ?_;obtain ⟨h1,h2⟩:=h;simp only [map_cons,map_nil,BY] at h2;have h5':(s.picks.length:Int)=0:=by simp [h5]
   simp only [H26,F5,HV,BB,A8,vv2,vf,reduceCtorEq,reduceAdd,reduceEqDiff,h1,h0,h2,h5',beq_self_eq_true,AN,AJ,q1,q2,q3,q4,q5,bne_self_eq_false,le_refl,JF (x:=⟨s.now,x⟩),map_append,map_cons,map_nil,Out.enc]
  ·have hpos:=length_pos_iff.2 h5;have h6:¬(s.picks.length:Int)=0:=by omega
   have h6':((s.picks.length:Int)==0)=false:=by simpa using h6
   have hm1:=emod_nonneg s.entered h6;have hm2:=emod_lt_of_pos s.entered (show (0:Int)<s.picks.length by omega);have hm:tmod s.entered s.picks.length=s.entered % s.picks.length:=Int.tmod_eq_emod_of_nonneg hc.ent.1;obtain ⟨p,hp⟩:∃p,s.picks[(s.entered % s.picks.length).toNat]? = some p:=⟨_,getElem?_eq_getElem (by omega)⟩
   have hg:s.picks.getD (s.entered % s.picks.length).toNat 0=p:=by rw [getD_eq_getElem?_getD,hp];rfl
   have hpk:=hc.pk p (mem_of_getElem? hp);have hrg:=hc.gc.rng;have k176:=s176 p s.dat.rng hpk hrg;have kf:=key (BJ p s.dat.rng) (fun d hd=>Fx hrg.1 hd) (Fy _ _);have kr:=key [s.dat.rng] kR (by simp);have c1:∀z:Int×List (List Tree),True:=fun _=>trivial;by_cases h7:(BJ p s.dat.rng).head? = some s.dat.rng
   ·rw [Ee s x (BJ p s.dat.rng) s.dist (by simp only [Ce,h0,h5,hg,h7,if_true,if_false,false_eq_true])];obtain ⟨l,hl⟩:∃l,BJ p s.dat.rng=s.dat.rng::l:=by
     cases hf:BJ p s.dat.rng with
     |nil=>rw [hf] at h7;cases h7
     |cons a l=>rw [hf] at h7;cases h7;exact ⟨l,rfl⟩
    rw [hl] at kf k176 ⊢;refine ((Fq s.dark s.now).and (k176.and kf)).mono fun n h again => ?_;obtain ⟨h1,h2,h3⟩:=h;simp only [map_cons,BY] at h2 h3;simp only [H26,F5,HV,Da,He,Da,Hc,BB,A8,vv2,vf,reduceCtorEq,reduceAdd,reduceEqDiff,h1,h0,h2,h3,h6,h6',hm,hm1,hp,map_cons,BY,getElem?_cons_zero,(show (0:Int)<((l.length+1:Nat):Int) by omega),beq_self_eq_true,AN,AJ,q1,q2,q3,q4,q5,bne_self_eq_false,le_refl,JF (x:=⟨s.now,x⟩),map_append,map_nil,Out.enc]
   ·have h8:∀y:Int,((BJ p s.dat.rng).map BY)[0]? = some [tI y]→(y==s.dat.rng)=false:=by
     intro y hy;cases hf:BJ p s.dat.rng with
     |nil=>rw [hf] at hy;cases hy
     |cons a l=>
      rw [hf] at hy h7;cases hy;simp at h7;simpa using h7
    have k8:(BJ p s.dat.rng).length=0∨∃y,0<(BJ p s.dat.rng).length∧((BJ p s.dat.rng).map BY)[0]? = some [tI y]∧(y==s.dat.rng)=false:=by
     cases hf:BJ p s.dat.rng with
     |nil=>exact .inl rfl
     |cons a l=>exact .inr ⟨a,by simp,rfl,h8 a (by rw [hf];rfl)⟩
    by_cases h9:0≤s.limit∧s.limit≤s.dist
    ·rw [Ee s x [s.dat.rng] s.dist (by simp only [Ce,h0,h5,hg,h7,h9,if_true,if_false,false_eq_true,and_self])];refine ((Fq s.dark s.now).and (k176.and kr)).mono fun n h again => ?_;obtain ⟨h1,h2,h3⟩:=h;simp only [map_cons,map_nil,BY] at h3;rcases k8 with k8|⟨y,k8,k9,k10⟩
     ·simp only [H26,F5,HV,Da,He,Da,Hc,BB,A8,vv2,vf,reduceCtorEq,reduceAdd,reduceEqDiff,h1,h0,h2,h3,h6,h6',hm,hm1,hp,map_cons,BY,k8,natCast_zero,lt_irrefl,h9,beq_self_eq_true,AN,AJ,q1,q2,q3,q4,q5,bne_self_eq_false,le_refl,JF (x:=⟨s.now,x⟩),map_append,map_nil,Out.enc]
     ·simp only [H26,F5,HV,Da,He,Da,Hc,BB,A8,vv2,vf,reduceCtorEq,reduceAdd,reduceEqDiff,h1,h0,h2,h3,h6,h6',hm,hm1,hp,map_cons,BY,(show (0:Int)<((BJ p s.dat.rng).length:Int) by omega),k9,k10,h9,beq_self_eq_true,AN,AJ,q1,q2,q3,q4,q5,bne_self_eq_false,le_refl,JF (x:=⟨s.now,x⟩),map_append,map_nil,Out.enc]
    ·rw [Ee s x (BJ p s.dat.rng) (s.dist+1) (by simp only [Ce,h0,h5,hg,h7,h9,if_true,if_false,false_eq_true,and_self])];refine ((Fq s.dark s.now).and (k176.and kf)).mono fun n h again => ?_;obtain ⟨h1,h2,h3⟩:=h;have h9':(0≤s.limit→¬s.limit≤s.dist):=fun a b=>h9 ⟨a,b⟩;by_cases h10:0≤s.limit
     ·have h11:=h9' h10;rcases k8 with k8|⟨y,k8,k9,k10⟩
      ·simp only [H26,F5,HV,Da,He,Da,Hc,BB,A8,vv2,vf,reduceCtorEq,reduceAdd,reduceEqDiff,h1,h0,h2,h3,h6,h6',hm,hm1,hp,map_cons,BY,k8,natCast_zero,lt_irrefl,h10,h11,beq_self_eq_true,AN,AJ,q1,q2,q3,q4,q5,bne_self_eq_false,le_refl,Lc (x:=⟨s.now,x⟩),map_append,map_nil,Out.enc]
      ·simp only [H26,F5,HV,Da,He,Da,Hc,BB,A8,vv2,vf,reduceCtorEq,reduceAdd,reduceEqDiff,h1,h0,h2,h3,h6,h6',hm,hm1,hp,map_cons,BY,(show (0:Int)<((BJ p s.dat.rng).length:Int) by omega),k9,k10,h10,h11,beq_self_eq_true,AN,AJ,q1,q2,q3,q4,q5,bne_self_eq_false,le_refl,Lc (x:=⟨s.now,x⟩),map_append,map_nil,Out.enc]
     ·rcases k8 with k8|⟨y,k8,k9,k10⟩
      ·simp only [H26,F5,HV,Da,He,Da,Hc,BB,A8,vv2,vf,reduceCtorEq,reduceAdd,reduceEqDiff,h1,h0,h2,h3,h6,h6',hm,hm1,hp,map_cons,BY,k8,natCast_zero,lt_irrefl,h10,beq_self_eq_true,AN,AJ,q1,q2,q3,q4,q5,bne_self_eq_false,le_refl,Lc (x:=⟨s.now,x⟩),map_append,map_nil,Out.enc]
      ·simp only [H26,F5,HV,Da,He,Da,Hc,BB,A8,vv2,vf,reduceCtorEq,reduceAdd,reduceEqDiff,h1,h0,h2,h3,h6,h6',hm,hm1,hp,map_cons,BY,(show (0:Int)<((BJ p s.dat.rng).length:Int) by omega),k9,k10,h10,beq_self_eq_true,AN,AJ,q1,q2,q3,q4,q5,bne_self_eq_false,le_refl,Lc (x:=⟨s.now,x⟩),map_append,map_nil,Out.enc]
theorem entR_26 (g:Gh) (s:Ses) (x:Seg) (f1 f2 f3:AF) (hc:EOk s s.rep) (v8:Nat) (e8:List (List Tree)) (a b:Int) (ks:List (List Tree)) (bd:ByteArray) (y:Seg) :
  Ev fun n=>∀again,Y0 n (fI C n) again ([.ptr 7 0,.ptr 7 4,.t (tI 1),.t (tI s.now),.agg (BB x)],H26 f1 f2 f3 g s [.row false v8 8 e8,.box [.t (tI a),.t (tI b),.t (.sl 2 ks),.t (.str bd)],.box (BB y)])=again ([],H26 E0 E0 E0 {g with v5:=g.v5+1} (Ch s x) [.row false v8 8 e8,.box [.t (tI a),.t (tI b),.t (.sl 2 ks),.t (.str bd)],.box (BB y)]):=by
 have q1:¬(10000:Int)≤s.entered:=by have:=hc.ent;omega
 have q2:w64 (s.entered+1)=s.entered+1:=by have:=hc.ent;exact Aa (by omega) (by omega)
 have q3:w64 (s.dist+1)=s.dist+1:=by have:=hc.dst;exact Aa (by omega) (by omega)
 have q4:s.told.length+1≤1073741824:=by have:=hc.sl;omega
 have q5:take s.told.length (List.map Out.enc s.told)=List.map Out.enc s.told:=take_of_length_le (by simp);have key:=fun (ds:List Int) (hd:∀d∈ds,s.rep.rng≤d∧d≤2*s.rep.rng) (hl:ds.length≤2)=>s156 s.rep hc.gc s.now x hc.now ds hd (by have:=hc.len;omega);have kR:∀d∈[s.rep.rng],s.rep.rng≤d∧d≤2*s.rep.rng:=by have:=hc.gc.rng;simp;omega
 simp only [BW.enc,cons_append,nil_append] at key;by_cases h0:LQ s.dark s.now=true
 ·rw [Ed s x [] s.dist (by simp [Ce,h0])];refine ((Fq s.dark s.now).and (key [] (by simp) (by simp))).mono fun n h again => ?_;obtain ⟨h1,h2⟩:=h;simp only [map_nil] at h2;simp only [H26,F6,HW,BB,A8,vv2,vf,reduceCtorEq,reduceAdd,reduceEqDiff,h1,h0,h2,AN,AJ,q1,q2,q3,q4,q5,bne_self_eq_false,le_refl,JD (x:=⟨s.now,x⟩),map_append,map_cons,map_nil,Out.enc]
 ·have h0:LQ s.dark s.now=false:=by simpa using h0
  by_cases h5:s.picks=[]
  ·rw [Ed s x [s.rep.rng] s.dist (by simp [Ce,h0,h5])];refine ((Fq s.dark s.now).and (key [s.rep.rng] kR (by simp))).mono fun n h again => ?_;obtain ⟨h1,h2⟩:=h;simp only [map_cons,map_nil,BY] at h2;have h5':(s.picks.length:Int)=0:=by simp [h5]
   simp only [H26,F6,HW,BB,A8,vv2,vf,reduceCtorEq,reduceAdd,reduceEqDiff,h1,h0,h2,h5',beq_self_eq_true,AN,AJ,q1,q2,q3,q4,q5,bne_self_eq_false,le_refl,JD (x:=⟨s.now,x⟩),map_append,map_cons,map_nil,Out.enc]
  ·have hpos:=length_pos_iff.2 h5;have h6:¬(s.picks.length:Int)=0:=by omega
   have h6':((s.picks.length:Int)==0)=false:=by simpa using h6
   have hm1:=emod_nonneg s.entered h6;have hm2:=emod_lt_of_pos s.entered (show (0:Int)<s.picks.length by omega);have hm:tmod s.entered s.picks.length=s.entered % s.picks.length:=Int.tmod_eq_emod_of_nonneg hc.ent.1;obtain ⟨p,hp⟩:∃p,s.picks[(s.entered % s.picks.length).toNat]? = some p:=⟨_,getElem?_eq_getElem (by omega)⟩
   have hg:s.picks.getD (s.entered % s.picks.length).toNat 0=p:=by rw [getD_eq_getElem?_getD,hp];rfl
   have hpk:=hc.pk p (mem_of_getElem? hp);have hrg:=hc.gc.rng;have k176:=s176 p s.rep.rng hpk hrg;have kf:=key (BJ p s.rep.rng) (fun d hd=>Fx hrg.1 hd) (Fy _ _);have kr:=key [s.rep.rng] kR (by simp);have c1:∀z:Int×List (List Tree),True:=fun _=>trivial;by_cases h7:(BJ p s.rep.rng).head? = some s.rep.rng
   ·rw [Ed s x (BJ p s.rep.rng) s.dist (by simp only [Ce,h0,h5,hg,h7,if_true,if_false,false_eq_true])];obtain ⟨l,hl⟩:∃l,BJ p s.rep.rng=s.rep.rng::l:=by
     cases hf:BJ p s.rep.rng with
     |nil=>rw [hf] at h7;cases h7
     |cons a l=>rw [hf] at h7;cases h7;exact ⟨l,rfl⟩
    rw [hl] at kf k176 ⊢;refine ((Fq s.dark s.now).and (k176.and kf)).mono fun n h again => ?_;obtain ⟨h1,h2,h3⟩:=h;simp only [map_cons,BY] at h2 h3;simp only [H26,F6,HW,Db,Hg,Db,Hf,BB,A8,vv2,vf,reduceCtorEq,reduceAdd,reduceEqDiff,h1,h0,h2,h3,h6,h6',hm,hm1,hp,map_cons,BY,getElem?_cons_zero,(show (0:Int)<((l.length+1:Nat):Int) by omega),beq_self_eq_true,AN,AJ,q1,q2,q3,q4,q5,bne_self_eq_false,le_refl,JD (x:=⟨s.now,x⟩),map_append,map_nil,Out.enc]
   ·have h8:∀y:Int,((BJ p s.rep.rng).map BY)[0]? = some [tI y]→(y==s.rep.rng)=false:=by
     intro y hy;cases hf:BJ p s.rep.rng with
     |nil=>rw [hf] at hy;cases hy
     |cons a l=>
      rw [hf] at hy h7;cases hy;simp at h7;simpa using h7
    have k8:(BJ p s.rep.rng).length=0∨∃y,0<(BJ p s.rep.rng).length∧((BJ p s.rep.rng).map BY)[0]? = some [tI y]∧(y==s.rep.rng)=false:=by
     cases hf:BJ p s.rep.rng with
     |nil=>exact .inl rfl
     |cons a l=>exact .inr ⟨a,by simp,rfl,h8 a (by rw [hf];rfl)⟩
    by_cases h9:0≤s.limit∧s.limit≤s.dist
    ·rw [Ed s x [s.rep.rng] s.dist (by simp only [Ce,h0,h5,hg,h7,h9,if_true,if_false,false_eq_true,and_self])];refine ((Fq s.dark s.now).and (k176.and kr)).mono fun n h again => ?_;obtain ⟨h1,h2,h3⟩:=h;simp only [map_cons,map_nil,BY] at h3;rcases k8 with k8|⟨y,k8,k9,k10⟩
     ·simp only [H26,F6,HW,Db,Hg,Db,Hf,BB,A8,vv2,vf,reduceCtorEq,reduceAdd,reduceEqDiff,h1,h0,h2,h3,h6,h6',hm,hm1,hp,map_cons,BY,k8,natCast_zero,lt_irrefl,h9,beq_self_eq_true,AN,AJ,q1,q2,q3,q4,q5,bne_self_eq_false,le_refl,JD (x:=⟨s.now,x⟩),map_append,map_nil,Out.enc]
     ·simp only [H26,F6,HW,Db,Hg,Db,Hf,BB,A8,vv2,vf,reduceCtorEq,reduceAdd,reduceEqDiff,h1,h0,h2,h3,h6,h6',hm,hm1,hp,map_cons,BY,(show (0:Int)<((BJ p s.rep.rng).length:Int) by omega),k9,k10,h9,beq_self_eq_true,AN,AJ,q1,q2,q3,q4,q5,bne_self_eq_false,le_refl,JD (x:=⟨s.now,x⟩),map_append,map_nil,Out.enc]
    ·rw [Ed s x (BJ p s.rep.rng) (s.dist+1) (by simp only [Ce,h0,h5,hg,h7,h9,if_true,if_false,false_eq_true,and_self])];refine ((Fq s.dark s.now).and (k176.and kf)).mono fun n h again => ?_;obtain ⟨h1,h2,h3⟩:=h;have h9':(0≤s.limit→¬s.limit≤s.dist):=fun a b=>h9 ⟨a,b⟩;by_cases h10:0≤s.limit
     ·have h11:=h9' h10;rcases k8 with k8|⟨y,k8,k9,k10⟩
      ·simp only [H26,F6,HW,Db,Hg,Db,Hf,BB,A8,vv2,vf,reduceCtorEq,reduceAdd,reduceEqDiff,h1,h0,h2,h3,h6,h6',hm,hm1,hp,map_cons,BY,k8,natCast_zero,lt_irrefl,h10,h11,beq_self_eq_true,AN,AJ,q1,q2,q3,q4,q5,bne_self_eq_false,le_refl,La (x:=⟨s.now,x⟩),map_append,map_nil,Out.enc]
      ·simp only [H26,F6,HW,Db,Hg,Db,Hf,BB,A8,vv2,vf,reduceCtorEq,reduceAdd,reduceEqDiff,h1,h0,h2,h3,h6,h6',hm,hm1,hp,map_cons,BY,(show (0:Int)<((BJ p s.rep.rng).length:Int) by omega),k9,k10,h10,h11,beq_self_eq_true,AN,AJ,q1,q2,q3,q4,q5,bne_self_eq_false,le_refl,La (x:=⟨s.now,x⟩),map_append,map_nil,Out.enc]
     ·rcases k8 with k8|⟨y,k8,k9,k10⟩
      ·simp only [H26,F6,HW,Db,Hg,Db,Hf,BB,A8,vv2,vf,reduceCtorEq,reduceAdd,reduceEqDiff,h1,h0,h2,h3,h6,h6',hm,hm1,hp,map_cons,BY,k8,natCast_zero,lt_irrefl,h10,beq_self_eq_true,AN,AJ,q1,q2,q3,q4,q5,bne_self_eq_false,le_refl,La (x:=⟨s.now,x⟩),map_append,map_nil,Out.enc]
      ·simp only [H26,F6,HW,Db,Hg,Db,Hf,BB,A8,vv2,vf,reduceCtorEq,reduceAdd,reduceEqDiff,h1,h0,h2,h3,h6,h6',hm,hm1,hp,map_cons,BY,(show (0:Int)<((BJ p s.rep.rng).length:Int) by omega),k9,k10,h10,beq_self_eq_true,AN,AJ,q1,q2,q3,q4,q5,bne_self_eq_false,le_refl,La (x:=⟨s.now,x⟩),map_append,map_nil,Out.enc]
end Ab
set_option linter.unusedVariables false
set_option linter.unusedSimpArgs false
set_option maxRecDepth 100000
namespace Ab
open Go
theorem nx2_26 (n:Nat) (again:List AV×Heap→Option (List Tree)) (g:Gh) (s:Ses) (e:List AV) (o:Option Int) :
  Yj n (fI C n) again (e,H26 E0 E0 E0 g s (boO o))=again (CG o,H26 E0 E0 E0 g s []):=by
 cases o<;>simp only [Yj,boO,CG,H26,A8,vv2,vf,reduceCtorEq,reduceAdd,reduceEqDiff,getD_none,Option.getD_some,isSome_none,isSome_some]
theorem nx3_26 (n:Nat) (again:List AV×Heap→Option (List Tree)) (g:Gh) (s:Ses) (e:List AV) (o:Option Int) (tl:Heap) (w:Bool) :
  NZ n (fI C n) (e,H26 E0 E0 E0 g s tl) again ([.t (.bool w)],H26 E0 E0 E0 g s (boO o))=again (CG (B3 o (if w=true then some s.snd.due else none)),H26 E0 E0 E0 g s []):=by
 have k:=nx2_26 n again g s [];cases w
 ·cases o with
  |none=>
   have k:=k none;simp only [boO,getD_none,isSome_none,H26] at k;simp only [NZ,boO,H26,A8,vv2,vf,reduceCtorEq,reduceAdd,reduceEqDiff,getD_none,Option.getD_some,isSome_none,isSome_some,AN,k,B3]
  |some a=>
   have k:=k (some a);simp only [boO,Option.getD_some,isSome_some,H26] at k;simp only [NZ,boO,H26,A8,vv2,vf,reduceCtorEq,reduceAdd,reduceEqDiff,getD_none,Option.getD_some,isSome_none,isSome_some,AN,k,B3]
 ·cases o with
  |none=>
   have k:=k (some s.snd.due);simp only [boO,Option.getD_some,isSome_some,H26] at k;simp only [NZ,boO,H26,A8,vv2,vf,reduceCtorEq,reduceAdd,reduceEqDiff,getD_none,Option.getD_some,isSome_none,isSome_some,AN,k,B3]
  |some a=>
   by_cases hq:s.snd.due<a
   ·have k:=k (some s.snd.due);simp only [boO,Option.getD_some,isSome_some,H26] at k;simp only [NZ,boO,H26,A8,vv2,vf,reduceCtorEq,reduceAdd,reduceEqDiff,getD_none,Option.getD_some,isSome_none,isSome_some,AN,k,B3,hq]
   ·have k:=k (some a);simp only [boO,Option.getD_some,isSome_some,H26] at k;simp only [NZ,boO,H26,A8,vv2,vf,reduceCtorEq,reduceAdd,reduceEqDiff,getD_none,Option.getD_some,isSome_none,isSome_some,AN,k,B3,hq]
theorem nx4_26 (n:Nat) (again:List AV×Heap→Option (List Tree)) (g:Gh) (s:Ses) (e:List AV) (o:Option Int) (he:s.entered<10000) :
  VE n (fI C n) again (e,H26 E0 E0 E0 g s (boO o))=again (CG (B3 o (if s.snd.st=1 then some s.snd.due else none)),H26 E0 E0 E0 g s []):=by
 have q:¬(10000:Int)≤s.entered:=by omega
 have k:=nx3_26 n again g s e o (boO o);by_cases h:s.snd.st=1
 ·have k:=k true;simp only [boO,H26] at k;simp only [VE,boO,H26,A8,vv2,vf,reduceCtorEq,reduceAdd,reduceEqDiff,h,beq_self_eq_true,q,k]
 ·have k:=k false;have h':(s.snd.st==1)=false:=by simpa using h
  simp only [boO,H26] at k;simp only [VE,boO,H26,A8,vv2,vf,reduceCtorEq,reduceAdd,reduceEqDiff,h,h',k]
theorem nx5_26 (g:Gh) (s:Ses) (e:List AV) (o:Option Int) (he:s.entered<10000) (hr:Bo s.rep) :
  Ev fun n=>∀again,O0 n (fI C n) again (e,H26 E0 E0 E0 g s (boO o))=again (CG (B3 (B3 o (Au s.rep)) (if s.snd.st=1 then some s.snd.due else none)),H26 E0 E0 E0 g s []):=by
 refine (DQ s.rep hr).mono fun n h again => ?_;have k:=fun o=>nx4_26 n again g s [] o he;simp only [BW.enc] at h;cases hn:Au s.rep with
 |none=>
  have k:=k o;rw [hn] at h;simp only [C2] at h;simp only [boO,H26] at k;simp only [O0,boO,H26,A8,vv2,vf,reduceCtorEq,reduceAdd,reduceEqDiff,h,k];cases o<;>rfl
 |some a=>
  rw [hn] at h;simp only [C2] at h;cases o with
  |none=>
   have k:=k (some a);simp only [boO,H26,Option.getD_some,isSome_some] at k;simp only [O0,boO,H26,A8,vv2,vf,reduceCtorEq,reduceAdd,reduceEqDiff,getD_none,isSome_none,h,k,B3]
  |some b=>
   by_cases hq:a<b
   ·have k:=k (some a);simp only [boO,H26,Option.getD_some,isSome_some] at k;simp only [O0,boO,H26,A8,vv2,vf,reduceCtorEq,reduceAdd,reduceEqDiff,Option.getD_some,isSome_some,h,k,B3,hq]
   ·have k:=k (some b);simp only [boO,H26,Option.getD_some,isSome_some] at k;simp only [O0,boO,H26,A8,vv2,vf,reduceCtorEq,reduceAdd,reduceEqDiff,Option.getD_some,isSome_some,h,k,B3,hq]
theorem nx6_26 (g:Gh) (s:Ses) (e:List AV) (o:Option Int) (he:s.entered<10000) (hd:Bo s.dat) (hr:Bo s.rep) :
  Ev fun n=>∀again,Oz n (fI C n) again (e,H26 E0 E0 E0 g s (boO o))=again (CG (B3 (B3 (B3 o (Au s.dat)) (Au s.rep)) (if s.snd.st=1 then some s.snd.due else none)),H26 E0 E0 E0 g s []):=by
 have key:=fun o=>nx5_26 g s [] o he hr;cases hn:Au s.dat with
 |none=>
  refine ((DQ s.dat hd).and (key o)).mono fun n h again => ?_;obtain ⟨h,k⟩:=h;have k:=k again;simp only [BW.enc,hn,C2] at h;simp only [boO,H26] at k;simp only [Oz,boO,H26,A8,vv2,vf,reduceCtorEq,reduceAdd,reduceEqDiff,h,k];cases o<;>rfl
 |some a=>
  cases o with
  |none=>
   refine ((DQ s.dat hd).and (key (some a))).mono fun n h again => ?_;obtain ⟨h,k⟩:=h;have k:=k again;simp only [BW.enc,hn,C2] at h;simp only [boO,H26,Option.getD_some,isSome_some] at k;simp only [Oz,boO,H26,A8,vv2,vf,reduceCtorEq,reduceAdd,reduceEqDiff,getD_none,isSome_none,h,k,B3]
  |some b=>
   by_cases hq:a<b
   ·refine ((DQ s.dat hd).and (key (some a))).mono fun n h again => ?_;obtain ⟨h,k⟩:=h;have k:=k again;simp only [BW.enc,hn,C2] at h;simp only [boO,H26,Option.getD_some,isSome_some] at k;simp only [Oz,boO,H26,A8,vv2,vf,reduceCtorEq,reduceAdd,reduceEqDiff,Option.getD_some,isSome_some,h,k,B3,hq]
   ·refine ((DQ s.dat hd).and (key (some b))).mono fun n h again => ?_;obtain ⟨h,k⟩:=h;have k:=k again;simp only [BW.enc,hn,C2] at h;simp only [boO,H26,Option.getD_some,isSome_some] at k;simp only [Oz,boO,H26,A8,vv2,vf,reduceCtorEq,reduceAdd,reduceEqDiff,Option.getD_some,isSome_some,h,k,B3,hq]
theorem nx_26 (g:Gh) (s:Ses) (f1 f2 f3:AF) (he:s.entered<10000) (hd:Bo s.dat) (hr:Bo s.rep) :
  Ev fun n=>∀again,VK n (fI C n) again ([.ptr 7 0],H26 f1 f2 f3 g s [])=again (CG (nxS s),H26 E0 E0 E0 g s []):=by
 have q:¬(10000:Int)≤s.entered:=by omega
 have key:=nx6_26 g s [] (s.pend.head?.map (·.at_)) he hd hr;refine key.mono fun n k again => ?_;have k:=k again;have e1:∀(o:Out) (l:List Out),s.pend=o::l→(g.pre++List.map Out.enc s.pend)[g.pre.length]? = some o.enc:=by intro o l h;rw [getElem?_append_right (le_refl _),h];simp
 unfold nxS;cases hp:s.pend with
 |nil=>
  simp only [hp,head?_nil,map_none,boO,H26,getD_none,isSome_none,map_nil] at k;simp only [Wm,U6,Yf,H26,hp,map_nil,A8,vv2,vf,reduceCtorEq,reduceAdd,reduceEqDiff,q,lt_irrefl,natCast_zero,k,head?_nil,map_none]
 |cons o l=>
  have e1:=e1 o l hp;simp only [hp] at e1;simp only [hp,head?_cons,map_some,boO,H26,Option.getD_some,isSome_some] at k;simp only [Wm,U6,Yf,J26_1,H26,hp,A8,vv2,vf,reduceCtorEq,reduceAdd,reduceEqDiff,q,(show (0:Int)<((l.length+1:Nat):Int) by omega),e1,Out.enc,k,head?_cons,map_some,Int.le_refl]
end Ab
set_option linter.unusedVariables false
set_option linter.unusedSimpArgs false
set_option maxRecDepth 100000
namespace Ab
open Go
theorem ex_26 (g:Gh) (s:Ses) (f1 f2 f3:AF) (he:s.entered<10000) (ha:s.snd.acked.length≤100) (hl:s.pend.length≤1000000)
  (hw:s.snd.st=1→s.snd.due=s.now→(Ca s.snd s.now).2.2=0∧(Ca s.snd s.now).2.1.length≤1000000) :
  Ev fun n=>∀again,Y2 n (fI C n) again ([.ptr 7 0],H26 f1 f2 f3 g s [])=again ([],H26 E0 E0 E0 (exG g s) (exS s) []):=by
 have q:¬(10000:Int)≤s.entered:=by omega
 by_cases h1:s.snd.st=1
 ·by_cases h2:s.snd.due=s.now
  ·obtain ⟨w1,w2⟩:=hw h1 h2;have e1:exS s={s with snd:=(Ca s.snd s.now).1,pend:=s.pend++(Ca s.snd s.now).2.1}:=by simp only [exS,h1,h2,and_self,if_true]
   have e2:exG g s={g with v0:=g.v0+1,pre:=[]}:=by simp only [exG,h1,h2,and_self,if_true]
   rw [e1,e2];refine (s149 s.snd s.now ha).mono fun n h again => ?_;simp only [DT,w1,Snd.enc,cons_append,nil_append,h1,h2] at h;generalize Ca s.snd s.now=w at h w1 w2 ⊢;obtain ⟨a,o,e⟩:=w;simp only at h w1 w2 ⊢;have q2:¬g.pre.length+s.pend.length<g.pre.length+s.pend.length:=by omega
   have q3:s.pend.length+o.length≤1073741824:=by omega
   have q4:take s.pend.length (List.map Out.enc s.pend)=List.map Out.enc s.pend:=take_of_length_le (by simp);simp only [SM,R9,VD,VC,H26,A8,vv2,vf,reduceCtorEq,reduceAdd,reduceEqDiff,h1,h2,h,q,beq_self_eq_true,bne_self_eq_false,length_append,q2,q3,q4,JB,drop_left,map_append,le_refl,nil_append]
  ·have h2':(s.snd.due != s.now)=true:=by simpa using h2
   have e1:exS s=s:=by simp only [exS,h2,and_false,if_false]
   have e2:exG g s=g:=by simp only [exG,h2,and_false,if_false]
   rw [e1,e2];refine Ev.of fun n again => ?_;simp only [SM,R9,VD,VC,H26,A8,vv2,vf,reduceCtorEq,reduceAdd,reduceEqDiff,h1,h2',q,beq_self_eq_true]
 ·have h1':(s.snd.st==1)=false:=by simpa using h1
  have e1:exS s=s:=by simp only [exS,h1,false_and,if_false]
  have e2:exG g s=g:=by simp only [exG,h1,false_and,if_false]
  rw [e1,e2];refine Ev.of fun n again => ?_;simp only [SM,R9,VD,VC,H26,A8,vv2,vf,reduceCtorEq,reduceAdd,reduceEqDiff,h1']
def KF (q:Gh×Ses):Rd (Gh×Ses) (Gh×Ses):=
 match q.2.pend with
 |[]=>.done q
 |o::l=>if o.at_=q.2.now then .next ({q.1 with v4:=q.1.v4+1,pre:=q.1.pre++[o.enc]},{DJ q.2 o.seg with pend:=l}) else .done q
theorem tx_26 (g:Gh) (s:Ses) (f1 f2 f3:AF) (hb:Bud s.pend.length s) :
  Ev fun n=>∀again,Yx n (fI C n) again ([.ptr 7 0],H26 f1 f2 f3 g s [])=again ([],H26 E0 E0 E0 (txT s.pend.length (g,s)).1 (txS s.pend.length s) []):=by
 have key:=By (R:=List Tree) (Z:=List AV×Heap→Option (List Tree)) (Q:=Gh×Ses)
  (B:=fun n z p again=>NU n (fI C n) ([.ptr 7 0],H26 f1 f2 f3 g s []) z p again)
  (s:=(([],H26 E0 E0 E0 g s []):List AV×Heap)) (r:=txT s.pend.length (g,s))
  (fun z q=>z ([],H26 E0 E0 E0 q.1 q.2 [])) (fun q:Gh×Ses=>(([],H26 E0 E0 E0 q.1 q.2 []):List AV×Heap)) KF (fun q=>Bud q.2.pend.length q.2) (fun q=>q.2.pend.length) (fun q=>txT q.2.pend.length q) (g,s) rfl hb rfl
  (fun q hI => ?_) (fun q q' hI hs => ?_) (fun q hI => ?_)
 ·refine key.mono fun n h again => ?_;have h:=h again;rw [O8] at h;simp only [H26] at h;simp only [tC26_7,YR,H26,A8,h]
 ·obtain ⟨g1,s1⟩:=q;simp only at hI ⊢;have e1:∀(o:Out) (l:List Out),s1.pend=o::l→(g1.pre++List.map Out.enc s1.pend)[g1.pre.length]? = some o.enc:=by intro o l h;rw [getElem?_append_right (le_refl _),h];simp
  cases hp:s1.pend with
  |nil=>
   refine Ev.of fun n z again => ?_;simp only [KF,NU,QG,H26,hp,A8,vv2,vf,reduceCtorEq,reduceAdd,reduceEqDiff,natCast_zero,lt_irrefl,Rd.BA,map_nil]
  |cons o l=>
   have e1:=e1 o l hp;by_cases ho:o.at_=s1.now
   ·rw [hp] at hI;have k:=entD_26 g1 s1 o.seg (.row true (AF.ver f1) 15 (Am f1)) (.row true (AF.ver f2) 4 (Am f2)) (.row true (AF.ver f3) 4 (Am f3)) (Bud.eD hI);refine k.mono fun n h z again => ?_;simp only [BB,H26] at h;have h2:=fun again=>h again;have ep:(DJ s1 o.seg).pend=o::l:=hp;have q1:(1:Int)≤((l.length+1:Nat):Int):=by omega
    have q2:=ucP_26 {g1 with v4:=g1.v4+1} (DJ s1 o.seg) o l ep;rw [ep] at q2;simp only [length_cons,Nat.add_sub_cancel] at q2;have e2:(g1.pre++List.map Out.enc (o::l))[g1.pre.length]? = some [tI s1.now,tI o.seg.kind,tI o.seg.ses,tI o.seg.ser,tI o.seg.off,tI o.seg.tot,.bool o.seg.chk,.str o.seg.data,.sl 2 (o.seg.AY.map Span.enc)]:=by rw [hp] at e1;rw [e1,← ho];rfl
    simp only [ep,hp] at h2;simp only [KF,NU,QG,Yi,H26,hp,ep,ho,A8,vv2,vf,reduceCtorEq,reduceAdd,reduceEqDiff,(show (0:Int)<((l.length+1:Nat):Int) by omega),Int.le_refl,e2,beq_self_eq_true,Rd.Av,h2,q1,Nat.add_sub_cancel,q2,(show (0:Int)≤1 by omega)];simp only [map_cons,append_assoc,cons_append,nil_append]
   ·have ho':(o.at_==s1.now)=false:=by simpa using ho
    refine Ev.of fun n z again => ?_;have e2:(g1.pre++List.map Out.enc (o::l))[g1.pre.length]? = some [tI o.at_,tI o.seg.kind,tI o.seg.ses,tI o.seg.ser,tI o.seg.off,tI o.seg.tot,.bool o.seg.chk,.str o.seg.data,.sl 2 (o.seg.AY.map Span.enc)]:=by rw [hp] at e1;rw [e1];rfl
    simp only [KF,NU,QG,H26,hp,ho,ho',A8,vv2,vf,reduceCtorEq,reduceAdd,reduceEqDiff,(show (0:Int)<((l.length+1:Nat):Int) by omega),Int.le_refl,e2,Rd.BA]
 ·obtain ⟨g1,s1⟩:=q;unfold KF at hs;simp only at hI hs ⊢;cases hp:s1.pend with
  |nil=>rw [hp] at hs;cases hs
  |cons o l=>
   rw [hp] at hs hI;simp only at hs;split at hs
   ·cases hs;refine ⟨?_,by simp⟩;exact (Bud.DJ hI o.seg).of rfl rfl rfl rfl rfl rfl rfl rfl
   ·cases hs
 ·obtain ⟨g1,s1⟩:=q;unfold KF;simp only;cases hp:s1.pend with
  |nil=>simp [txT,Rd.fin]
  |cons o l=>
   simp only [length_cons,txT,hp];split
   ·rfl
   ·simp [Rd.fin,txT,hp, *]
end Ab
set_option linter.unusedVariables false
set_option linter.unusedSimpArgs false
set_option maxRecDepth 100000
namespace Ab
open Go
def A6 (g:Gh) (s:Ses) (v:Nat) (o:Option Seg):List AV×Heap:=([.rptr 8 v 0 0,.t (.bool o.isSome)],H26 E0 E0 E0 g s [.row false v 8 [(o.getD EB).enc]])
theorem Wi (g:Gh) (s:Ses) (v:Nat) (y:Seg) (hr:Bo s.rep) :
  Ev fun n=>∀again e1 hp,Nb n (fI C n) ((.rptr 8 v 0 0::e1),hp) again ([],H26 E0 E0 E0 g s [.row false v 8 [y.enc]])=again (A6 g (Bf s).1 (v+1) (Bf s).2):=by
 cases hf:s.rep.frames with
 |nil=>
  have hn:Au s.rep=none:=by simp [Au,hf]
  rw [show Bf s=(s,none) by simp only [Bf,hf]];refine (DQ s.rep hr).mono fun n h again e1 hp => ?_;rw [hn] at h;simp only [BW.enc,C2] at h;simp only [A6,Nb,QK,H26,A8,vv2,vf,reduceCtorEq,reduceAdd,reduceEqDiff,getElem?_cons_zero,Seg.enc,h,isSome_none,getD_none,EB,map_nil,set_cons_zero,drop_succ_cons,drop_nil,append_nil,le_refl]
 |cons f l=>
  have hn:Au s.rep=some f.arr:=by simp [Au,hf]
  by_cases ha:f.arr=s.now
  ·rw [show Bf s=(Bq s,some f.seg) by simp only [Bf,hf,ha,if_true]];refine ((DQ s.rep hr).and (Qh s.rep hr f l hf)).mono fun n h again e1 hp => ?_;obtain ⟨h,h2⟩:=h;rw [hn,ha] at h;simp only [BW.enc,C2] at h h2;have hx:Bq s={s with rep:=⟨s.rep.rng,l,s.rep.sent,s.rep.lost⟩}:=by simp only [Bq,hf,tail_cons]
   simp only [hx,A6,Nb,QK,H26,A8,vv2,vf,reduceCtorEq,reduceAdd,reduceEqDiff,getElem?_cons_zero,Seg.enc,h,h2,bne_self_eq_false,isSome_some,Option.getD_some,set_cons_zero,drop_succ_cons,drop_nil,append_nil,le_refl]
  ·have ha':(f.arr != s.now)=true:=by simpa using ha
   rw [show Bf s=(s,none) by simp only [Bf,hf,ha,if_false]];refine (DQ s.rep hr).mono fun n h again e1 hp => ?_;rw [hn] at h;simp only [BW.enc,C2] at h;simp only [ha',A6,Nb,QK,H26,A8,vv2,vf,reduceCtorEq,reduceAdd,reduceEqDiff,getElem?_cons_zero,Seg.enc,h,isSome_none,getD_none,EB,map_nil,set_cons_zero,drop_succ_cons,drop_nil,append_nil,le_refl]
theorem hr_26 (g:Gh) (s:Ses) (v:Nat) (x:Seg) (hr:Bo s.rep) (ha:s.snd.acked.length≤100∧s.pend.length≤1000000) (hx:x.AY.length≤100∨1000<x.AY.length)
  (hw:¬s.now<s.snd.busy→(BK s.snd s.now x).2.2=0∧(BK s.snd s.now x).2.1.length≤1000000) :
  Ev fun n=>∀z again,E1 n (fI C n) z (A6 g s v (some x)) again=again (A6 (lsG g s) (Bf (lsX s x)).1 (v+1) (Bf (lsX s x)).2):=by
 by_cases hb:s.now<s.snd.busy
 ·have e1:lsX s x=s:=by simp only [lsX,hb,if_true]
  have e2:lsG g s=g:=by simp only [lsG,hb,if_true]
  rw [e1,e2];refine (Wi g s v x hr).mono fun n h z again => ?_;simp only [H26] at h;have hb':decide (s.now<s.snd.busy)=true:=decide_eq_true hb;simp only [A6,H26,isSome_some,Option.getD_some] at h ⊢;simp only [E1,H26,A8,vv2,vf,reduceCtorEq,reduceAdd,reduceEqDiff,hb,FW,Ej,h]
 ·obtain ⟨w1,w2⟩:=hw hb;have e2:lsG g s=gP g:=by simp only [lsG,hb,if_false]
  have hx2:lsX s x=lsF {s with snd:=(BK s.snd s.now x).1,pend:=s.pend++(BK s.snd s.now x).2.1}:=by simp only [lsX,hb,if_false]
  rw [e2];have key:=fun s' (hs:s'.rep=s.rep)=>Wi (gP g) s' v x (by rw [hs];exact hr);have q2:¬g.pre.length+s.pend.length<g.pre.length+s.pend.length:=by omega
  have q4:take s.pend.length (List.map Out.enc s.pend)=List.map Out.enc s.pend:=take_of_length_le (by simp);have h148:=s148 s.snd s.now x ha.1 hx;simp only [DT,w1,Snd.enc,Seg.enc,cons_append,nil_append] at h148;rw [hx2];generalize BK s.snd s.now x=w at h148 w1 w2 ⊢;obtain ⟨a,o,e⟩:=w;simp only at h148 w1 w2 ⊢;have q3:s.pend.length+o.length≤1073741824:=by omega
  by_cases hk:s.kno=false∧a.st=2
  ·have e3:lsF {s with snd:=a,pend:=s.pend++o}={s with snd:=a,pend:=s.pend++o,kno:=true,knoAt:=s.now}:=by simp only [lsF,hk,and_self,if_true]
   rw [e3];refine (h148.and (key {s with snd:=a,pend:=s.pend++o,kno:=true,knoAt:=s.now} rfl)).mono fun n h z again => ?_;obtain ⟨h,h2⟩:=h;simp only [H26,gP,map_append,nil_append] at h2;have hk1:(!s.kno)=true:=by simp [hk.1]
   have hk2:(a.st==2)=true:=by simp [hk.2]
   simp only [A6,H26,isSome_some,Option.getD_some,gP,map_append,nil_append];simp only [A6,H26,isSome_some,Option.getD_some,gP,map_append,nil_append,Seg.enc] at h2;simp only [E1,H26,A8,vv2,vf,reduceCtorEq,reduceAdd,reduceEqDiff,hb,hk1,hk2,Seg.enc,getElem?_cons_zero,h,bne_self_eq_false,beq_self_eq_true,length_append,q2,q3,q4,drop_left,le_refl,Lu,h2]
  ·have e3:lsF {s with snd:=a,pend:=s.pend++o}={s with snd:=a,pend:=s.pend++o}:=by simp only [lsF,hk,if_false]
   rw [e3];refine (h148.and (key {s with snd:=a,pend:=s.pend++o} rfl)).mono fun n h z again => ?_;obtain ⟨h,h2⟩:=h;simp only [H26,gP,map_append,nil_append] at h2;simp only [A6,H26,isSome_some,Option.getD_some,gP,map_append,nil_append];simp only [A6,H26,isSome_some,Option.getD_some,gP,map_append,nil_append,Seg.enc] at h2;rcases eq_false_or_eq_true s.kno with hk0|hk0
   ·have hk1:(!s.kno)=false:=by simp [hk0]
    simp only [E1,H26,A8,vv2,vf,reduceCtorEq,reduceAdd,reduceEqDiff,hb,hk1,Seg.enc,getElem?_cons_zero,h,bne_self_eq_false,beq_self_eq_true,length_append,q2,q3,q4,drop_left,le_refl,JB,h2]
   ·have hk1:(!s.kno)=true:=by simp [hk0]
    have hk2:(a.st==2)=false:=by simpa using fun h=>hk ⟨hk0,h⟩
    simp only [E1,H26,A8,vv2,vf,reduceCtorEq,reduceAdd,reduceEqDiff,hb,hk1,hk2,Seg.enc,getElem?_cons_zero,h,bne_self_eq_false,beq_self_eq_true,length_append,q2,q3,q4,drop_left,le_refl,JB,h2]
theorem l16_26:E1=E1:=rfl
theorem lp_26 {P:Ses→Prop} (hP:LsP P) (q:LS) (h:q.inv P) :
  Ev fun n=>∀z,AK (fun p again=>E1 n (fI C n) z p again) n (A6 q.g q.s q.v q.o)=z ([],H26 E0 E0 E0 q.res.1 q.res.2 []):=by
 refine By (R:=List Tree) (Z:=List AV×Heap→Option (List Tree)) (Q:=Gh×Ses) (B:=fun n z p again=>E1 n (fI C n) z p again) (r:=q.res)
  (fun z r=>z ([],H26 E0 E0 E0 r.1 r.2 [])) (fun q:LS=>A6 q.g q.s q.v q.o) LS.step (LS.inv P) (fun q=>q.s.rep.frames.length+(if q.o.isSome then 1 else 0)) LS.res q rfl h rfl
  (fun q hI => ?_) (fun q q' hI hs=>LS.sound hP q q' hI hs) (fun q hI=>LS.fin hP q hI)
 obtain ⟨g,s,v,o⟩:=q;cases o with
 |none=>
  refine Ev.of fun n z again => ?_;simp only [A6,isSome_none,E1,H26,A8,vv2,vf,reduceCtorEq,reduceAdd,reduceEqDiff,LS.step,Rd.BA]
 |some x=>
  obtain ⟨h1,h2,h3,h4,h5⟩:=hI;refine (hr_26 g s v x h1 h2 h3 h4).mono fun n h z again => ?_;simp only [LS.step,Rd.Av];exact h z again
theorem ls_26 {P:Ses→Prop} (hP:LsP P) (g:Gh) (s:Ses) (f1 f2 f3:AF) (h:P s) :
  Ev fun n=>∀again,Y1 n (fI C n) again ([.ptr 7 0],H26 f1 f2 f3 g s [])=again ([],H26 E0 E0 E0 (lsT s.rep.frames.length (g,s)).1 (lsS s.rep.frames.length s) []):=by
 have hr:=hP.rep s h;obtain ⟨i1,i2⟩:=LS.take hP h g 0;have key:=lp_26 hP _ i1;rw [i2,PX] at key;simp only at key;cases hf:s.rep.frames with
 |nil=>
  have hn:Au s.rep=none:=by simp [Au,hf]
  have e:Bf s=(s,none):=by simp only [Bf,hf]
  rw [e] at key;rw [hf] at key;refine ((DQ s.rep hr).and key).mono fun n h again => ?_;obtain ⟨h,k⟩:=h;rw [hn] at h;simp only [BW.enc,C2] at h;have k:=k again;simp only [A6,H26,isSome_none,getD_none,EB,Seg.enc,map_nil] at k;simp only [SL,R8,QJ,H26,A8,vv2,vf,reduceCtorEq,reduceAdd,reduceEqDiff,h,k]
 |cons f l=>
  have hn:Au s.rep=some f.arr:=by simp [Au,hf]
  by_cases ha:f.arr=s.now
  ·have e:Bf s=(Bq s,some f.seg):=by simp only [Bf,hf,ha,if_true]
   rw [e] at key;rw [hf] at key;refine ((DQ s.rep hr).and ((Qh s.rep hr f l hf).and key)).mono fun n h again => ?_;obtain ⟨h,h2,k⟩:=h;rw [hn,ha] at h;simp only [BW.enc,C2] at h h2;have hx:Bq s={s with rep:=⟨s.rep.rng,l,s.rep.sent,s.rep.lost⟩}:=by simp only [Bq,hf,tail_cons]
   have k:=k again;simp only [A6,H26,isSome_some,Option.getD_some,Seg.enc,hx] at k;simp only [SL,R8,QJ,l16_26,H26,A8,vv2,vf,reduceCtorEq,reduceAdd,reduceEqDiff,h,h2,bne_self_eq_false,k]
  ·have ha':(f.arr != s.now)=true:=by simpa using ha
   have e:Bf s=(s,none):=by simp only [Bf,hf,ha,if_false]
   rw [e] at key;rw [hf] at key;refine ((DQ s.rep hr).and key).mono fun n h again => ?_;obtain ⟨h,k⟩:=h;rw [hn] at h;simp only [BW.enc,C2] at h;have k:=k again;simp only [A6,H26,isSome_none,getD_none,EB,Seg.enc,map_nil] at k;simp only [SL,R8,QJ,H26,A8,vv2,vf,reduceCtorEq,reduceAdd,reduceEqDiff,h,ha',k]
end Ab
set_option linter.unusedVariables false
set_option linter.unusedSimpArgs false
set_option maxRecDepth 100000
namespace Ab
open Go
theorem tkD_26 (g:Gh) (s:Ses) (v:Nat) (y:Seg) (hr:Bo s.dat) :
  Ev fun n=>∀again e1 hp,Na n (fI C n) ((.rptr 8 v 0 0::e1),hp) again ([],H26 E0 E0 E0 g s [.row false v 8 [y.enc]])=again (A6 g (Bg s).1 (v+1) (Bg s).2):=by
 cases hf:s.dat.frames with
 |nil=>
  have hn:Au s.dat=none:=by simp [Au,hf]
  rw [show Bg s=(s,none) by simp only [Bg,hf]];refine (DQ s.dat hr).mono fun n h again e1 hp => ?_;rw [hn] at h;simp only [BW.enc,C2] at h;simp only [A6,Na,QI,H26,A8,vv2,vf,reduceCtorEq,reduceAdd,reduceEqDiff,getElem?_cons_zero,Seg.enc,h,isSome_none,getD_none,EB,map_nil,set_cons_zero,drop_succ_cons,drop_nil,append_nil,le_refl]
 |cons f l=>
  have hn:Au s.dat=some f.arr:=by simp [Au,hf]
  by_cases ha:f.arr=s.now
  ·rw [show Bg s=(BE s,some f.seg) by simp only [Bg,hf,ha,if_true]];refine ((DQ s.dat hr).and (Qh s.dat hr f l hf)).mono fun n h again e1 hp => ?_;obtain ⟨h,h2⟩:=h;rw [hn,ha] at h;simp only [BW.enc,C2] at h h2;have hx:BE s={s with dat:=⟨s.dat.rng,l,s.dat.sent,s.dat.lost⟩}:=by simp only [BE,hf,tail_cons]
   simp only [hx,A6,Na,QI,H26,A8,vv2,vf,reduceCtorEq,reduceAdd,reduceEqDiff,getElem?_cons_zero,Seg.enc,h,h2,bne_self_eq_false,isSome_some,Option.getD_some,set_cons_zero,drop_succ_cons,drop_nil,append_nil,le_refl]
  ·have ha':(f.arr != s.now)=true:=by simpa using ha
   rw [show Bg s=(s,none) by simp only [Bg,hf,ha,if_false]];refine (DQ s.dat hr).mono fun n h again e1 hp => ?_;rw [hn] at h;simp only [BW.enc,C2] at h;simp only [ha',A6,Na,QI,H26,A8,vv2,vf,reduceCtorEq,reduceAdd,reduceEqDiff,getElem?_cons_zero,Seg.enc,h,isSome_none,getD_none,EB,map_nil,set_cons_zero,drop_succ_cons,drop_nil,append_nil,le_refl]
theorem rp_26 (g:Gh) (s:Ses) (v:Nat) (x:Seg) (r:Rcv) (l:List Seg) (y:List Tree) (hy:gL y 4=l.map Seg.enc) (f1 f2 f3:AF) (e00:List AV) (g00:Gh) (s00:Ses) (hb:Bud l.length s) :
  Ev fun n=>∀z,AK (fun p again=>I1 n (fI C n) y (e00,H26 f1 f2 f3 g00 s00 []) z p again) n ([.t (tI 0)],H26 E0 E0 E0 g s [.row false v 8 [x.enc],IM r])=z ([],H26 E0 E0 E0 {g with v5:=g.v5+l.length} (rxF (l.foldl Ch s)) [.row false v 8 [x.enc]]):=by
 have key:=Ik (R:=List Tree) (Z:=List AV×Heap→Option (List Tree)) (Q:=Gh×Ses) (B:=fun n z p again=>I1 n (fI C n) y (e00,H26 f1 f2 f3 g00 s00 []) z p again)
  (s:=(([.t (tI 0)],H26 E0 E0 E0 g s [.row false v 8 [x.enc],IM r]):List AV×Heap)) (r:=({g with v5:=g.v5+l.length},l.foldl Ch s)) l
  (fun i (q:Gh×Ses)=>(([.t (tI i)],H26 E0 E0 E0 q.1 q.2 [.row false v 8 [x.enc],IM r]):List AV×Heap)) (fun _ q y =>.next ({q.1 with v5:=q.1.v5+1},Ch q.2 y)) (fun q=>q)
  (fun z q=>z ([],H26 E0 E0 E0 q.1 (rxF q.2) [.row false v 8 [x.enc]])) (fun i q=>Bud (l.length-i) q.2) (g,s) rfl hb ?_
  (fun i q w hx hI => ?_) (fun i q w q' hx hI hs => ?_) (fun q hI => ?_)
 ·exact key
 ·rw [FB,S1]
 ·have hi:=Ag hx;obtain ⟨g1,s1⟩:=q;have hI':Bud (l.length-(i+1)+1) s1:=by
   have:l.length-(i+1)+1=l.length-i:=by omega
   rw [this];exact hI
  have k:=entR_26 g1 s1 w (.row true (AF.ver f1) 15 (Am f1)) (.row true (AF.ver f2) 4 (Am f2)) (.row true (AF.ver f3) 4 (Am f3)) hI'.eR v [x.enc] r.ses r.tot (r.known.map Span.enc) r.data w;refine k.mono fun n h z again => ?_;have h:=fun again=>h again;simp only [BB,H26] at h;simp only [I1,TZ,IM,H26,hy,A8,vv2,vf,reduceCtorEq,reduceAdd,reduceEqDiff,hx,Seg.enc,(show (i:Int)<(l.length:Int) by omega),A9 (show i<4611686018427387904 by have:=hb.ent;omega),Rd.Av,FW,Ej];simp only [Seg.enc] at h;simp only [h,TZ,A8,vv2,vf,reduceCtorEq,reduceAdd,reduceEqDiff,A9 (show i<4611686018427387904 by have:=hb.ent;omega)]
 ·cases hs;have hi:=Ag hx;have:l.length-i=l.length-(i+1)+1:=by omega
  rw [this] at hI;exact hI.Ch w
 ·obtain ⟨g1,s1⟩:=q;rcases eq_false_or_eq_true s1.rcvd with hr|hr
  ·have hr1:(!s1.rcvd)=false:=by simp [hr]
   have e:rxF s1=s1:=by simp only [rxF,hr,Bool.true_eq_false,false_and,if_false]
   rw [e];refine Ev.of fun n z again => ?_;simp only [I1,IM,H26,hy,A8,vv2,vf,reduceCtorEq,reduceAdd,reduceEqDiff,lt_irrefl,hr1]
  ·have hr1:(!s1.rcvd)=true:=by simp [hr]
   refine (s147 s1.rcv).mono fun n h z again => ?_;simp only [Rcv.enc] at h;rcases eq_false_or_eq_true (A3 s1.rcv) with hc|hc
   ·have e:rxF s1={s1 with rcvd:=true,arrive:=s1.now}:=by simp only [rxF,hr,hc,and_self,if_true]
    rw [e];simp only [I1,IM,H26,hy,A8,vv2,vf,reduceCtorEq,reduceAdd,reduceEqDiff,lt_irrefl,hr1,h,hc]
   ·have e:rxF s1=s1:=by simp only [rxF,hc,false_eq_true,and_false,if_false]
    rw [e];simp only [I1,IM,H26,hy,A8,vv2,vf,reduceCtorEq,reduceAdd,reduceEqDiff,lt_irrefl,hr1,h,hc]
theorem hd_26 (g:Gh) (s:Ses) (v:Nat) (x:Seg) (f1 f2 f3:AF) (e00:List AV) (g00:Gh) (s00:Ses) (hd:Bo s.dat) (hw:(EN s.rcv x).2.2=0) (hb:Bud (EN s.rcv x).2.1.length s) :
  Ev fun n=>∀z again,GV n (fI C n) (e00,H26 f1 f2 f3 g00 s00 []) z (A6 g s v (some x)) again=again (A6 (rxG g s x) (Bg (rxX s x)).1 (v+1) (Bg (rxX s x)).2):=by
 have key:=tkD_26 (rxG g s x) (rxX s x) v x (by rw [E6];exact hd);have k146:=s146 s.rcv x;unfold rxG rxX rxH at key ⊢;generalize EN s.rcv x=w at hw hb k146 key ⊢;obtain ⟨a,l,e⟩:=w;simp only at hw hb key ⊢;subst hw;have kl:=rp_26 g {s with rcv:=a} v x a l [tI a.ses,tI a.tot,.sl 2 (a.known.map Span.enc),.str a.data,.sl 8 (l.map Seg.enc),tI 0] rfl f1 f2 f3 e00 g00 s00 (hb.of rfl rfl rfl rfl rfl rfl rfl rfl);simp only [Xq,Rcv.enc,Seg.enc,cons_append,nil_append] at k146;refine (k146.and (kl.and key)).mono fun n h z again => ?_;obtain ⟨h,h2,h3⟩:=h;have h3:=fun e1 hp=>h3 again e1 hp;simp only [A6,H26,isSome_some,Option.getD_some,IM,Seg.enc] at h2 h3 ⊢;simp only [GV,H26,A8,vv2,vf,reduceCtorEq,reduceAdd,reduceEqDiff,FW,Ej,getElem?_cons_zero,h,bne_self_eq_false,h2,h3]
theorem l32_26:GV=GV:=rfl
theorem dp_26 {P:Ses→Prop} (hP:RxP P) (q:RS) (h:q.inv P) (f1 f2 f3:AF) (e00:List AV) (g00:Gh) (s00:Ses) :
  Ev fun n=>∀z,AK (fun p again=>GV n (fI C n) (e00,H26 f1 f2 f3 g00 s00 []) z p again) n (A6 q.g q.s q.v q.o)=z ([],H26 E0 E0 E0 q.res.1 q.res.2 []):=by
 refine By (R:=List Tree) (Z:=List AV×Heap→Option (List Tree)) (Q:=Gh×Ses) (B:=fun n z p again=>GV n (fI C n) (e00,H26 f1 f2 f3 g00 s00 []) z p again) (r:=q.res)
  (fun z r=>z ([],H26 E0 E0 E0 r.1 r.2 [])) (fun q:RS=>A6 q.g q.s q.v q.o) RS.step (RS.inv P) (fun q=>q.s.dat.frames.length+(if q.o.isSome then 1 else 0)) RS.res q rfl h rfl
  (fun q hI => ?_) (fun q q' hI hs=>RS.sound hP q q' hI hs) (fun q hI=>RS.fin hP q hI)
 obtain ⟨g,s,v,o⟩:=q;cases o with
 |none=>
  refine Ev.of fun n z again => ?_;simp only [A6,isSome_none,GV,H26,A8,vv2,vf,reduceCtorEq,reduceAdd,reduceEqDiff,RS.step,Rd.BA]
 |some x=>
  obtain ⟨h1,h2,h3,h4⟩:=hI;refine (hd_26 g s v x f1 f2 f3 e00 g00 s00 h1 h2 h3).mono fun n h z again => ?_;simp only [RS.step,Rd.Av];exact h z again
theorem rx_26 {P:Ses→Prop} (hP:RxP P) (g:Gh) (s:Ses) (f1 f2 f3:AF) (h:P s) :
  Ev fun n=>∀again,Yz n (fI C n) again ([.ptr 7 0],H26 f1 f2 f3 g s [])=again ([],H26 E0 E0 E0 (rxT s.dat.frames.length (g,s)).1 (rxS s.dat.frames.length s) []):=by
 have hr:=hP.dat s h;obtain ⟨i1,i2⟩:=RS.take hP h g 0;have key:=dp_26 hP _ i1 f1 f2 f3 [.ptr 7 0] g s;rw [i2,PH] at key;simp only at key;cases hf:s.dat.frames with
 |nil=>
  have hn:Au s.dat=none:=by simp [Au,hf]
  have e:Bg s=(s,none):=by simp only [Bg,hf]
  rw [e] at key;rw [hf] at key;refine ((DQ s.dat hr).and key).mono fun n h again => ?_;obtain ⟨h,k⟩:=h;rw [hn] at h;simp only [BW.enc,C2] at h;have k:=k again;simp only [A6,H26,isSome_none,getD_none,EB,Seg.enc,map_nil] at k;simp only [SK,R7,QH,H26,A8,vv2,vf,reduceCtorEq,reduceAdd,reduceEqDiff,h,k]
 |cons f l=>
  have hn:Au s.dat=some f.arr:=by simp [Au,hf]
  by_cases ha:f.arr=s.now
  ·have e:Bg s=(BE s,some f.seg):=by simp only [Bg,hf,ha,if_true]
   rw [e] at key;rw [hf] at key;refine ((DQ s.dat hr).and ((Qh s.dat hr f l hf).and key)).mono fun n h again => ?_;obtain ⟨h,h2,k⟩:=h;rw [hn,ha] at h;simp only [BW.enc,C2] at h h2;have hx:BE s={s with dat:=⟨s.dat.rng,l,s.dat.sent,s.dat.lost⟩}:=by simp only [BE,hf,tail_cons]
   have k:=k again;simp only [A6,H26,isSome_some,Option.getD_some,Seg.enc,hx] at k;simp only [SK,R7,QH,l32_26,H26,A8,vv2,vf,reduceCtorEq,reduceAdd,reduceEqDiff,h,h2,bne_self_eq_false,k]
  ·have ha':(f.arr != s.now)=true:=by simpa using ha
   have e:Bg s=(s,none):=by simp only [Bg,hf,ha,if_false]
   rw [e] at key;rw [hf] at key;refine ((DQ s.dat hr).and key).mono fun n h again => ?_;obtain ⟨h,k⟩:=h;rw [hn] at h;simp only [BW.enc,C2] at h;have k:=k again;simp only [A6,H26,isSome_none,getD_none,EB,Seg.enc,map_nil] at k;simp only [SK,R7,QH,H26,A8,vv2,vf,reduceCtorEq,reduceAdd,reduceEqDiff,h,ha',k]
end Ab
set_option linter.unusedVariables false
set_option linter.unusedSimpArgs false
set_option maxRecDepth 100000
namespace Ab
open Go
theorem stp_26 {W P1 P2:Ses→Prop} {μ:Ses→Nat} (hR:SA W P1 P2 μ) (g:Gh) (s:Ses) (t:Int) (h:W s) (ht:nxS s=some t) (f1 f2 f3:AF) (e00:List AV) (g00:Gh) (s00:Ses) :
  Ev fun n=>∀z again,NT n (fI C n) (e00,H26 f1 f2 f3 g00 s00 []) z (CG (nxS s),H26 E0 E0 E0 g s []) again=again (CG (nxS (stS s t)),H26 E0 E0 E0 (stT (g,s) t).1 (stS s t) []):=by
 have k0:=tx_26 g {s with now:=t} (.row true (AF.ver f1) 15 (Am f1)) (.row true (AF.ver f2) 4 (Am f2)) (.row true (AF.ver f3) 4 (Am f3)) (hR.tx s t h ht);have k1:=rx_26 hR.rx (g1T g s t) (ph1 s t) (.row true (AF.ver f1) 15 (Am f1)) (.row true (AF.ver f2) 4 (Am f2)) (.row true (AF.ver f3) 4 (Am f3)) (hR.p1 s t h ht);have k2:=ls_26 hR.ls (g2T g s t) (ph2 s t) (.row true (AF.ver f1) 15 (Am f1)) (.row true (AF.ver f2) 4 (Am f2)) (.row true (AF.ver f3) 4 (Am f3)) (hR.p2 s t h ht);have hx:=hR.ex s t h ht;have k3:=ex_26 (g3T g s t) (ph3 s t) (.row true (AF.ver f1) 15 (Am f1)) (.row true (AF.ver f2) 4 (Am f2)) (.row true (AF.ver f3) 4 (Am f3)) hx.ent hx.ack hx.pl hx.w;obtain ⟨n1,n2,n3⟩:=hR.nx _ (hR.st s t h ht).1;have k4:=nx_26 (exG (g3T g s t) (ph3 s t)) (stS s t) (.row true (AF.ver f1) 15 (Am f1)) (.row true (AF.ver f2) 4 (Am f2)) (.row true (AF.ver f3) 4 (Am f3)) n1 n2 n3;refine (k0.and (k1.and (k2.and (k3.and (k4.and (Ev.ge 5)))))).mono fun n hh z again => ?_;obtain ⟨k0,k1,k2,k3,k4,hn⟩:=hh;have q:AK (fun p again'=>I0 n (fI C n) (e00,H26 f1 f2 f3 g00 s00 []) again p again') n ([.t (tI 0)],H26 E0 E0 E0 g {s with now:=t} [])=again (CG (nxS (stS s t)),H26 E0 E0 E0 (exG (g3T g s t) (ph3 s t)) (stS s t) []):=by
  refine MZ _ _ ([.t (tI 1)],H26 E0 E0 E0 (g1T g s t) (ph1 s t) []) ([.t (tI 2)],H26 E0 E0 E0 (g2T g s t) (ph2 s t) []) ([.t (tI 3)],H26 E0 E0 E0 (g3T g s t) (ph3 s t) []) ([.t (tI 4)],H26 E0 E0 E0 (exG (g3T g s t) (ph3 s t)) (stS s t) []) _ n hn (fun ag => ?_) (fun ag => ?_) (fun ag => ?_) (fun ag => ?_) (fun ag => ?_)
  ·have k0:=fun ag=>k0 ag;simp only [H26] at k0;simp only [I0,Hh,H26,A8,vv2,vf,reduceCtorEq,reduceAdd,reduceEqDiff,(show ¬(0:Int)=((3:Nat):Int) by omega),(show ¬(0:Int)=((2:Nat):Int) by omega),(show ¬(0:Int)=((1:Nat):Int) by omega),(show (0:Int)=((0:Nat):Int) by omega),(show (0:Int)<4 by omega),(show (0:Int)≤0 by omega),k0];rfl
  ·have k1:=fun ag=>k1 ag;simp only [H26] at k1;simp only [I0,Hh,H26,A8,vv2,vf,reduceCtorEq,reduceAdd,reduceEqDiff,(show ¬(1:Int)=((3:Nat):Int) by omega),(show ¬(1:Int)=((2:Nat):Int) by omega),(show (1:Int)=((1:Nat):Int) by omega),(show (1:Int)<4 by omega),(show (0:Int)≤1 by omega),k1];rfl
  ·have k2:=fun ag=>k2 ag;simp only [H26] at k2;simp only [I0,Hh,H26,A8,vv2,vf,reduceCtorEq,reduceAdd,reduceEqDiff,(show ¬(2:Int)=((3:Nat):Int) by omega),(show (2:Int)=((2:Nat):Int) by omega),(show (2:Int)<4 by omega),(show (0:Int)≤2 by omega),k2];rfl
  ·have k3:=fun ag=>k3 ag;simp only [H26] at k3;simp only [I0,Hh,H26,A8,vv2,vf,reduceCtorEq,reduceAdd,reduceEqDiff,(show (3:Int)=((3:Nat):Int) by omega),(show (3:Int)<4 by omega),(show (0:Int)≤3 by omega),k3];rfl
  ·have k4:=fun ag=>k4 ag;simp only [H26] at k4;simp only [I0,Yh,H26,A8,vv2,vf,reduceCtorEq,reduceAdd,reduceEqDiff,(show ¬(4:Int)<4 by omega),k4,CG]
 rw [ht];simp only [H26] at q;simp only [NT,CG,Option.getD_some,isSome_some,H26,A8,vv2,vf,reduceCtorEq,reduceAdd,reduceEqDiff];exact q
theorem rn_26 {W P1 P2:Ses→Prop} {μ:Ses→Nat} (hR:SA W P1 P2 μ) (g:Gh) (s:Ses) (f1 f2 f3:AF) (h:W s) :
  Ev fun n=>∀again,VJ n (fI C n) again ([.ptr 7 0],H26 f1 f2 f3 g s [])=again ([],H26 E0 E0 E0 (rnT (μ s) (g,s)).1 (Gn (μ s) s) []):=by
 have key:=By (R:=List Tree) (Z:=List AV×Heap→Option (List Tree)) (Q:=Gh×Ses) (B:=fun n z p again=>NT n (fI C n) ([.ptr 7 0],H26 f1 f2 f3 g s []) z p again)
  (s:=((CG (nxS s),H26 E0 E0 E0 g s []):List AV×Heap)) (r:=rnT (μ s) (g,s))
  (fun z r=>z ([],H26 E0 E0 E0 r.1 r.2 [])) (fun q:Gh×Ses=>((CG (nxS q.2),H26 E0 E0 E0 q.1 q.2 []):List AV×Heap)) (fun q=>match nxS q.2 with
   |none =>.done q
   |some t =>.next (stT q t)) (fun q=>W q.2) (fun q=>μ q.2) (fun q=>rnT (μ q.2) q) (g,s) rfl h rfl
  (fun q hI => ?_) (fun q q' hI hs => ?_) (fun q hI => ?_)
 ·obtain ⟨n1,n2,n3⟩:=hR.nx s h;have k4:=nx_26 g s (.row true (AF.ver f1) 15 (Am f1)) (.row true (AF.ver f2) 4 (Am f2)) (.row true (AF.ver f3) 4 (Am f3)) n1 n2 n3;refine (key.and k4).mono fun n hh again => ?_;obtain ⟨k,k4⟩:=hh;have k:=k again;rw [PI] at k;simp only [H26,CG] at k k4;simp only [tC26_8,YQ,Yg,H26,A8,vv2,vf,reduceCtorEq,reduceAdd,reduceEqDiff,k4,k]
 ·obtain ⟨g1,s1⟩:=q;simp only at hI ⊢;cases hn:nxS s1 with
  |none=>
   refine Ev.of fun n z again => ?_;simp only [NT,CG,getD_none,isSome_none,H26,A8,vv2,vf,reduceCtorEq,reduceAdd,reduceEqDiff,Rd.BA]
  |some t=>
   have:=stp_26 hR g1 s1 t hI hn f1 f2 f3 [.ptr 7 0] g s;rw [hn] at this;refine this.mono fun n h z again => ?_;simp only [Rd.Av];exact h z again
 ·cases hn:nxS q.2 with
  |none=>rw [hn] at hs;cases hs
  |some t=>
   rw [hn] at hs;cases hs;exact hR.st q.2 t hI hn
 ·cases hn:nxS q.2 with
  |none=>
   cases hm:μ q.2 with
   |zero=>rfl
   |succ m=>simp only [rnT,hn,Rd.fin]
  |some t=>
   obtain ⟨h1,h2⟩:=hR.st q.2 t hI hn;simp only [Rd.fin];cases hm:μ q.2 with
   |zero=>omega
   |succ m=>
    simp only [rnT,hn];exact GA hR m (stT q t) h1 (by simp only [stT];omega)
end Ab
set_option linter.unusedVariables false
set_option linter.unusedSimpArgs false
set_option maxRecDepth 100000
namespace Ab
open Go
theorem s26 {W P1 P2:Ses→Prop} {μ:Ses→Nat} (hR:SA W P1 P2 μ) (c:Con) (b e:Int) (d:ByteArray) (ps:List Int) (lim:Int) (dk:List Span) (hW:Kc c b e d ps lim dk=0→W (ini c b e d ps lim dk)) (hL:Kc c b e d ps lim dk=0→ -9223372036854775808≤(Gn (μ (ini c b e d ps lim dk)) (ini c b e d ps lim dk)).dat.lost+(Gn (μ (ini c b e d ps lim dk)) (ini c b e d ps lim dk)).rep.lost∧(Gn (μ (ini c b e d ps lim dk)) (ini c b e d ps lim dk)).dat.lost+(Gn (μ (ini c b e d ps lim dk)) (ini c b e d ps lim dk)).rep.lost<9223372036854775808) :
  AT C 26 (Ff c b e d ps lim dk) (if Kc c b e d ps lim dk=0 then Se (Gn (μ (ini c b e d ps lim dk)) (ini c b e d ps lim dk)) else [.bool false,tI 0,.bool false,tI 0,tI 0,tI 0,tI 0,tI (Kc c b e d ps lim dk)]):=by
 unfold Ff Kc at *;refine AT.of (fun n=>e26 n _ _ _ _ _ _ _ _ _ _ _ _ _) ?_;by_cases h1:1000<ps.length
 ·refine Ev.of fun n => ?_;simp only [h1,vv2,vf,reduceCtorEq,reduceAdd,reduceEqDiff,(show (1000:Int)<(ps.length:Int) by omega),(show ¬(4:Int)=0 by omega)]
 ·have h1':¬(1000:Int)<(ps.length:Int):=by omega
  by_cases h2:lim < -1
  ·refine Ev.of fun n => ?_;simp only [h1,h1',h2,vv2,vf,reduceCtorEq,reduceAdd,reduceEqDiff,(show ¬(2:Int)=0 by omega)]
  ·by_cases h3:BM dk=0
   ·by_cases h4:(Bp c 0 d b e).2.2=0
    ·have hr:=N7 h4;simp only [h1,h2,h3,h4,if_false,ne_eq,not_true_eq_false,if_true] at hW hL ⊢;have hL:=hL trivial;have kr:=rn_26 hR ⟨0,0,0,[]⟩ (ini c b e d ps lim dk) (.row true 0 15 [(ini c b e d ps lim dk).snd.enc]) (.row true 0 4 [[tI c.rng,.sl 10 [],tI 0,tI 0]]) (.row true 0 4 [[tI 0,tI (-1),.sl 2 [],.str (ByteArray.mk #[])]]) (hW trivial);refine ((s67 dk).and ((JK c 0 d b e).and ((s69 c.rng hr).and ((s70 0).and kr)))).mono fun n hh => ?_;obtain ⟨k1,k2,k3,k4,kr⟩:=hh;have k4':Xa 0=(⟨0,-1,[],ByteArray.mk #[]⟩,0):=rfl;rw [k4'] at k4;simp only [DT,h4,Con.enc,Snd.enc,Rcv.enc,cons_append,nil_append,map_nil] at k2 k4;simp only [h1',h2,h3,k1,k2,k3,k4,vv2,vf,reduceCtorEq,reduceAdd,reduceEqDiff,bne_self_eq_false];refine (kr _).trans ?_;generalize Gn (μ (ini c b e d ps lim dk)) (ini c b e d ps lim dk)=fs at hL ⊢;generalize (rnT (μ (ini c b e d ps lim dk)) (⟨0,0,0,[]⟩,ini c b e d ps lim dk)).1=g;simp only [TY,Se,H26,A8,vv2,vf,reduceCtorEq,reduceAdd,reduceEqDiff,Aa hL.1 hL.2]
    ·have h4':((Bp c 0 d b e).2.2 != 0)=true:=by simpa using h4
     refine ((s67 dk).and (JK c 0 d b e)).mono fun n hh => ?_;obtain ⟨k1,k2⟩:=hh;simp only [DT,Con.enc,Snd.enc,cons_append,nil_append] at k2;simp only [h1,h1',h2,h3,h4,k1,k2,h4',vv2,vf,reduceCtorEq,reduceAdd,reduceEqDiff,bne_self_eq_false,ne_eq,not_true_eq_false]
   ·have h3':(BM dk != 0)=true:=by simpa using h3
    refine (s67 dk).mono fun n k1 => ?_;simp only [h1,h1',h2,h3,k1,h3',vv2,vf,reduceCtorEq,reduceAdd,reduceEqDiff,ne_eq,not_false_eq_true,(show ¬(1:Int)=0 by omega)]
end Ab
set_option maxRecDepth 100000
set_option linter.unusedVariables false
namespace Ab
open Go Go.Proofs
theorem e13 (n:Nat) (a0:Int) (a1:Int) (a2:Int) (a3:Int) (a4:Int) (a5:Int) (a6:Int) (a7:Int) (a8:Int) (a9:ByteArray) (a10:List (List Tree)) (a11:Int) (a12:List (List Tree)):AA C (n+1) 13 [tI a0,tI a1,tI a2,tI a3,tI a4,tI a5,tI a6,tI a7,tI a8,Tree.str a9,Tree.sl 1 a10,tI a11,Tree.sl 2 a12]=
 Option.bind (AA C n 26 [tI a0,tI a1,tI a2,tI a3,tI a4,tI a5,tI a6,tI a7,tI a8,Tree.str a9,Tree.sl 1 a10,tI a11,Tree.sl 2 a12]) fun y13=>cnd (length y13 =
 (8:Nat)) (cnd (okB y13 0) (cnd (okI y13 1) (cnd (okB y13 2) (cnd (okI y13 3) (cnd (okI y13 4) (cnd (okI y13 5) (cnd (okI y13 6) (cnd (okI y13 7) (some [Tree.bool (gB y13 0),tI (gI y13 1),Tree.bool
 (gB y13 2),tI (gI y13 3),tI (gI y13 4),tI (gI y13 5),tI (gI y13 6),tI (gI y13 7)]) none) none) none) none) none) none) none) none) none:=by kernel_rfl
theorem e15 (n:Nat) (a0:Int) (a1:Int) (a2:Int) (a3:Int) (a4:Int) (a5:Int) (a6:Int) (a7:Int) (a8:Int) (a9:ByteArray) (a10:List (List Tree)) (a11:Int) (a12:List (List Tree)):AA C (n+1) 15 [tI a0,tI a1,tI a2,tI a3,tI a4,tI a5,tI a6,tI a7,tI a8,Tree.str a9,Tree.sl 1 a10,tI a11,Tree.sl 2 a12]=
 Option.bind (AA C n 28 [tI a0,tI a1,tI a2,tI a3,tI a4,tI a5,tI a6,tI a7,tI a8,Tree.str a9,Tree.sl 1 a10,tI a11,Tree.sl 2 a12]) fun y13=>cnd (length y13 =
 (3:Nat)) (cnd (okL 9 y13 0) (cnd (okL 9 y13 1) (cnd (okI y13 2) (some [Tree.sl 9 (gL y13 0),Tree.sl 9 (gL y13 1),tI (gI y13 2)]) none) none) none) none:=by kernel_rfl
end Ab
set_option linter.unusedVariables false
set_option linter.unusedSimpArgs false
set_option maxRecDepth 100000
namespace Ab
open Go
def Pp (r:Int):Int:=if (if 1048576<r then 1048576 else r)>0 then (if 1048576<r then 1048576 else r) else 0
def Pc (p:Par):Bool:=decide (120<p.d.size∨(60<p.ps.length∧p.ps.length≤1000)∨20<p.dk.length∨p.e>w64 (p.b+w64 (40*w64 (w64 (2*Pp p.c.rng)+1))))
def E4 (p:Par):List Tree:=Ff p.c p.b p.e p.d p.ps p.lim p.dk
def Ew (p:Par):Int:=Kc p.c p.b p.e p.d p.ps p.lim p.dk
theorem s11 (p:Par):AT C 11 (E4 p) [.bool (Pc p)]:=by
 unfold E4 Ff;refine AT.of (fun n=>e11 n _ _ _ _ _ _ _ _ _ _ _ _ _) (Ev.of fun n => ?_);unfold Pc;simp only [length_map];have e:(if (if (1048576:Int)<p.c.rng then (1048576:Int) else p.c.rng)>(0:Int) then (if (1048576:Int)<p.c.rng then (1048576:Int) else p.c.rng) else (0:Int))=Pp p.c.rng:=rfl;rw [e];by_cases h1:120<p.d.size
 ·simp only [vv,vf,reduceCtorEq,reduceAdd,reduceEqDiff,h1,(show (p.d.size:Int)>120 by omega)]
 ·by_cases h2:60<p.ps.length
  ·by_cases h3:p.ps.length≤1000
   ·simp only [vv,vf,reduceCtorEq,reduceAdd,reduceEqDiff,h1,h2,h3,(show ¬(120:Int)<(p.d.size:Int) by omega),(show (60:Int)<(p.ps.length:Int) by omega),(show (p.ps.length:Int)≤1000 by omega)]
   ·by_cases h4:20<p.dk.length
    ·simp only [vv,vf,reduceCtorEq,reduceAdd,reduceEqDiff,h1,h2,h3,h4,(show ¬(120:Int)<(p.d.size:Int) by omega),(show (60:Int)<(p.ps.length:Int) by omega),(show ¬(p.ps.length:Int)≤1000 by omega),(show (20:Int)<(p.dk.length:Int) by omega)]
    ·simp only [vv,vf,reduceCtorEq,reduceAdd,reduceEqDiff,h1,h2,h3,h4,(show ¬(120:Int)<(p.d.size:Int) by omega),(show (60:Int)<(p.ps.length:Int) by omega),(show ¬(p.ps.length:Int)≤1000 by omega),(show ¬(20:Int)<(p.dk.length:Int) by omega)]
  ·by_cases h4:20<p.dk.length
   ·simp only [vv,vf,reduceCtorEq,reduceAdd,reduceEqDiff,h1,h2,h4,(show ¬(120:Int)<(p.d.size:Int) by omega),(show ¬(60:Int)<(p.ps.length:Int) by omega),(show (20:Int)<(p.dk.length:Int) by omega)]
   ·simp only [vv,vf,reduceCtorEq,reduceAdd,reduceEqDiff,h1,h2,h4,(show ¬(120:Int)<(p.d.size:Int) by omega),(show ¬(60:Int)<(p.ps.length:Int) by omega),(show ¬(20:Int)<(p.dk.length:Int) by omega)]
def Np (p:Par):List Tree:=if Ew p=0 then Se (Cd p) else [.bool false,tI 0,.bool false,tI 0,tI 0,tI 0,tI 0,tI (Ew p)]
theorem EP {p:Par} (h:Ew p=0):p.ps.length≤1000∧ -1≤p.lim∧BM p.dk=0∧(Bp p.c 0 p.d p.b p.e).2.2=0:=by
 unfold Ew Kc at h;split at h
 ·omega
 ·split at h
  ·omega
  ·split at h
   ·omega
   ·rename_i h1 h2 h3;exact ⟨by omega,by omega,by omega,h⟩
theorem RU {p:Par} (hp:POk p) (h:Ew p=0):0≤(Cd p).dat.lost∧0≤(Cd p).rep.lost∧(Cd p).dat.lost+(Cd p).rep.lost≤(Cd p).entered∧(Cd p).entered≤5000:=by have hw:=(Pd hp (EP h).2.2.2).2.1.i;have:=hw.gd.lost;have:=hw.gr.lost;have:=hw.c1;have:=hw.small hp;omega
theorem s26P (p:Par) (hp:Ew p=0→POk p):AT C 26 (E4 p) (Np p):=by
 by_cases h:Ew p=0
 ·have hok:=hp h;have hl:=RU hok h;have:=s26 (runP hok) p.c p.b p.e p.d p.ps p.lim p.dk (fun _=>Ss hok (EP h).2.2.2) (fun _=>by show _≤(Cd p).dat.lost+(Cd p).rep.lost∧(Cd p).dat.lost+(Cd p).rep.lost<_;omega);exact this
 ·have h0:¬Kc p.c p.b p.e p.d p.ps p.lim p.dk=0:=h;have:=s26 (W:=fun _=>False) (P1:=fun _=>False) (P2:=fun _=>False) (μ:=fun _=>0) ⟨⟨fun _ h=>h.elim,fun _ _ _ h=>h.elim⟩,⟨fun _ h=>h.elim,fun _ h=>h.elim,fun _ _ _ h=>h.elim⟩,fun _ h=>h.elim,fun _ _ h=>h.elim,fun _ _ h=>h.elim,fun _ _ h=>h.elim,fun _ _ h=>h.elim,fun _ _ h=>h.elim⟩ p.c p.b p.e p.d p.ps p.lim p.dk (fun q=>(h0 q).elim) (fun q=>(h0 q).elim);rw [if_neg h0] at this;unfold Np;rw [if_neg h];exact this
theorem s13P (p:Par) (hp:Ew p=0→POk p):AT C 13 (E4 p) (Np p):=by
 have k:=s26P p hp;by_cases h0:Ew p=0
 ·have e:Np p=Se (Cd p):=if_pos h0;rw [e] at k ⊢;unfold Se at k ⊢;unfold E4 Ff at k ⊢;refine AT.of (fun n=>e13 n _ _ _ _ _ _ _ _ _ _ _ _ _) ?_;refine k.mono fun n h => ?_;simp only [Con.enc,cons_append,nil_append] at h;simp only [h,vv,vf,reduceCtorEq,reduceAdd,reduceEqDiff]
 ·have e:Np p=[.bool false,tI 0,.bool false,tI 0,tI 0,tI 0,tI 0,tI (Ew p)]:=if_neg h0;rw [e] at k ⊢;unfold E4 Ff at k ⊢;refine AT.of (fun n=>e13 n _ _ _ _ _ _ _ _ _ _ _ _ _) ?_;refine k.mono fun n h => ?_;simp only [Con.enc,cons_append,nil_append] at h;simp only [h,vv,vf,reduceCtorEq,reduceAdd,reduceEqDiff]
theorem PO {p:Par} (hg:Pc p=false) (hpk:∀x∈p.ps,-9223372036854775808≤x∧x≤9223372036854775807) (h:Ew p=0):POk p:=by
 obtain ⟨h1,h2,h3,h4⟩:=EP h;have hg:=of_decide_eq_false hg;have hS:=h4;unfold Bp at hS;split at hS
 ·simp [C3] at hS
 rename_i g1;have g1:Jr p.c=0:=by simpa using g1
 rw [if_neg (by omega)] at hS;split at hS
 ·simp [C3] at hS
 rw [if_neg (by omega)] at hS;split at hS
 ·simp [C3] at hS
 rename_i g2 g3;obtain ⟨c1,c2⟩:=FI g1;unfold Hm at c1;have hcl:Pp p.c.rng=p.c.rng:=by have e:(if (1048576:Int)<p.c.rng then (1048576:Int) else p.c.rng)=p.c.rng:=if_neg (by omega);unfold Pp;rw [e,if_pos (by omega)]
 rw [hcl,Aa (x:=2*p.c.rng) (by omega) (by omega),Aa (x:=2*p.c.rng+1) (by omega) (by omega),Aa (x:=40*(2*p.c.rng+1)) (by omega) (by omega),Aa (x:=p.b+40*(2*p.c.rng+1)) (by omega) (by omega)] at hg;refine ⟨g1,by omega,by omega,hpk,h1,fun k k1 k2 =>.inl ?_⟩;have hk:k≤40:=by refine Classical.byContradiction fun q => ?_;have:40*(2*p.c.rng+1)≤(k-1)*(2*p.c.rng+1):=Int.mul_le_mul_of_nonneg_right (by omega) (by omega);omega
 have:((p.d.size:Int)+1)*k≤121*k:=Int.mul_le_mul_of_nonneg_right (by omega) (by omega);omega
end Ab
set_option linter.unusedVariables false
set_option linter.unusedSimpArgs false
set_option maxRecDepth 100000
namespace Ab
open Go
def exC:Con:=⟨0,1,10,60,4,5,1⟩
def exD:ByteArray:=⟨(Go.Lib.repeatL [120] 20).toArray⟩
def ex1:Par:=⟨exC,10,36,exD,[],-1,[]⟩
def ex2:Par:=⟨exC,10,36,exD,[7,0,0,0,0,0],1,[]⟩
def ex3:Par:=⟨exC,10,36,exD,[0,0,7,0,0,0],1,[]⟩
theorem ex1_out:Np ex1=[.bool true,tI 24,.bool true,tI 29,tI 19,tI 3,tI 0,tI 0]:=by kernel_rfl
theorem ex2_out:Np ex2=[.bool true,tI 40,.bool true,tI 45,tI 35,tI 5,tI 1,tI 0]:=by kernel_rfl
theorem ex3_out:Np ex3=[.bool true,tI 24,.bool true,tI 43,tI 33,tI 5,tI 1,tI 0]:=by kernel_rfl
theorem S3:(∀h:Ew ex1=0,POk ex1)∧(∀h:Ew ex2=0,POk ex2)∧(∀h:Ew ex3=0,POk ex3):=
 ⟨PO (by decide +kernel) (by decide),PO (by decide +kernel) (by decide),PO (by decide +kernel) (by decide)⟩
theorem s25x:AT C 25 [.str (ByteArray.mk #[120]),tI 20] [.str exD]:=AT.of (g:=fun _=>some [.str exD]) (fun n=>by kernel_rfl) (Ev.of fun _=>rfl)
theorem fin_now {p:Par} (hp:POk p) (h:Ew p=0):0≤(Cd p).now∧(Cd p).now≤p.e+4*p.c.rng+2:=by
 obtain ⟨f1,f2,f3⟩:=Pd hp (EP h).2.2.2;have hr:=hp.rng;refine ⟨f2.i.now,f1.ind (fun s=>s.now≤p.e+4*p.c.rng+2) (by show (0:Int)≤_;omega) fun s s' k m => ?_⟩;cases m with
 |time t q1 q2 q3 q4 q5 q6=>exact (Wt.nx hp ⟨q1,q2,q3,q4,q5⟩ q6).2
 |tx o l q1 q2 q3=>exact k
 |rx f l q1 q2 q3 q4=>rw [(q1.Qk hp q3 q4).now];exact k
 |ls _ f l q1 q2 q3 q4 q5 q6=>cases q6<;>exact k
 |ex _ q1 q2 q3 q4 q5=>cases q5<;>exact k
theorem s12:AT C 12 [] [.bool true]:=by refine AT.of (fun n=>e12 n) ?_;have a:=s26P ex1 S3.1;have b:=s26P ex2 S3.2.1;have c:=s26P ex3 S3.2.2;rw [ex1_out] at a;rw [ex2_out] at b;rw [ex3_out] at c;refine (s25x.and (a.and (b.and c))).mono fun n h => ?_;obtain ⟨h1,h2,h3,h4⟩:=h;simp only [E4,Ff,ex1,ex2,ex3,exC,Con.enc,BY,map_nil,map_cons,cons_append,nil_append] at h2 h3 h4;simp only [h1,h2,h3,h4,vv,vf,reduceCtorEq,reduceAdd,reduceEqDiff,J12_1,J12_2,beq_self_eq_true,Bool.and_self]
end Ab
set_option maxRecDepth 100000
set_option linter.unusedVariables false
namespace Ab
open Go Go.Proofs
def BD:List Sh:=[Sh.i,Sh.l 10,Sh.i,Sh.i,Sh.i,Sh.l 10,Sh.i,Sh.i,Sh.l 1,Sh.i,Sh.l 2,Sh.i,Sh.i,Sh.r 4,Sh.r 5,Sh.i,Sh.i,Sh.i,Sh.i,Sh.i,Sh.i,Sh.i,Sh.i,Sh.i,Sh.s,Sh.i,Sh.i,Sh.i,Sh.l 2,Sh.i,Sh.i,Sh.i,Sh.i,Sh.l 2,Sh.s,Sh.r 0,Sh.b,Sh.i,Sh.b,Sh.i]
def Bu:List OSh:=[OSh.row 9,OSh.frz 15,OSh.frz 4,OSh.frz 4,OSh.row 9,OSh.row 9,OSh.box BD]
def Cv:List Sh:=[]
def BSA_3:List Sh:=[Sh.i]
def BSA_4:List Sh:=[Sh.b]
def DO:List OSh:=[OSh.row 9,OSh.box Cv,OSh.box Cv,OSh.box Cv,OSh.row 9,OSh.row 9,OSh.box BD,OSh.box BSA_3,OSh.box BSA_4]
def BV:List OSh:=[OSh.row 9,OSh.box Cv,OSh.box Cv,OSh.box Cv,OSh.row 9,OSh.row 9,OSh.box BD]
def SE:List Sh:=[Sh.i,Sh.i,Sh.i,Sh.i,Sh.i,Sh.b,Sh.s,Sh.l 2]
def O2:List OSh:=[OSh.row 9,OSh.box Cv,OSh.box Cv,OSh.box Cv,OSh.row 9,OSh.row 9,OSh.box BD,OSh.box SE]
def DW:List OSh:=[OSh.row 9,OSh.box Cv,OSh.box Cv,OSh.box Cv,OSh.row 9,OSh.row 9,OSh.box BD,OSh.row 8]
def K3:List OSh:=[OSh.row 9,OSh.box Cv,OSh.box Cv,OSh.box Cv,OSh.row 9,OSh.row 9,OSh.box BD,OSh.row 8,OSh.box SE]
def QS:List Sh:=[Sh.i,Sh.i,Sh.l 2,Sh.s]
def I8:List OSh:=[OSh.row 9,OSh.frz 15,OSh.frz 4,OSh.frz 4,OSh.row 9,OSh.row 9,OSh.box BD,OSh.row 8,OSh.box QS,OSh.box SE]
def CO:List OSh:=[OSh.row 9,OSh.box Cv,OSh.box Cv,OSh.box Cv,OSh.row 9,OSh.row 9,OSh.box BD,OSh.row 8,OSh.box QS,OSh.box SE]
def Y4:List Sh:=[Sh.i,Sh.l 10,Sh.i,Sh.i]
def K2:List OSh:=[OSh.row 9,OSh.box Cv,OSh.box Cv,OSh.box Cv,OSh.row 9,OSh.row 9,OSh.box BD,OSh.row 8,OSh.box QS,OSh.box SE,OSh.box Y4]
def Ni:List OSh:=[OSh.row 9,OSh.box Cv,OSh.box Cv,OSh.box Cv,OSh.row 9,OSh.row 9,OSh.box BD,OSh.row 8,OSh.box QS]
def Kz:List OSh:=[OSh.row 9,OSh.box Cv,OSh.box Cv,OSh.box Cv,OSh.row 9,OSh.row 9,OSh.box BD,OSh.box Y4]
def ED:List FuncId:=[50,51,52,53,54,71,96,124,125,126,127,144]
noncomputable def J28_1 (n:Nat) (ff:Nat→Rec) (k26:KT) (p28:ST):RT:=k26 ([],rh p28 0 DO)
noncomputable def Ye (n:Nat) (ff:Nat→Rec) (k20:KT) (p70:ST):RT:=k20 (tv [tI (cI p70 7 0),.bool (cB p70 8 0)],rh p70 0 BV)
noncomputable def NW (n:Nat) (ff:Nat→Rec) (p52:ST) (k20:KT) (p64:ST):RT:=AP (.box [AV.yld 40,.t (tI (cI p52 6 29))]) (.box [AV.yld 40,.t (tI (cI p64 6 29))]) (join (Ye n ff k20) fun k71=>cnd (vB p64 0=true) (cnd ((!(cB p64 8 0))=true) (k71 ([],upd (rh p64 0 DO) [(7,.box [.t (tI (cI p52 6 29))]),(8,.box [.t (.bool true)])])) (cnd (decide (cI p52 6 29<cI p64 7 0)=true) (k71 ([],upd (rh p64 0 DO) [(7,.box [.t (tI (cI p52 6 29))]),(8,.box [.t (.bool true)])])) (k71 ([],rh p64 0 DO)))) (k71 ([],rh p64 0 DO)))
noncomputable def VB (n:Nat) (ff:Nat→Rec) (k20:KT) (p52:ST):RT:=join (NW n ff p52 k20) fun k65=>cnd ((cI p52 6 30==1)=true) (k65 ([.t (.bool (!(decide (cI p52 6 11≥(10000:Int)))))],rh p52 0 DO)) (k65 ([.t (.bool false)],rh p52 0 DO))
noncomputable def Oy (n:Nat) (ff:Nat→Rec) (k20:KT) (p39:ST):RT:=bd [0,1] (AA C n 122 (ct [0,13,0,0] p39 6 4 [])) fun y51=>join (VB n ff k20) fun k53=>cnd (gB y51 1=true) (cnd ((!(cB p39 8 0))=true) (k53 ([],upd (rh p39 0 DO) [(7,.box [.t (tI (gI y51 0))]),(8,.box [.t (.bool true)])])) (cnd (decide (gI y51 0<cI p39 7 0)=true) (k53 ([],upd (rh p39 0 DO) [(7,.box [.t (tI (gI y51 0))]),(8,.box [.t (.bool true)])])) (k53 ([],rh p39 0 DO)))) (k53 ([],rh p39 0 DO))
noncomputable def Ox (n:Nat) (ff:Nat→Rec) (k20:KT) (p25:ST):RT:=bd [0,1] (AA C n 122 (ct [0,13,0,0] p25 6 0 [])) fun y38=>join (Oy n ff k20) fun k40=>cnd (gB y38 1=true) (cnd ((!(cB p25 8 0))=true) (k40 ([],upd (rh p25 0 DO) [(7,.box [.t (tI (gI y38 0))]),(8,.box [.t (.bool true)])])) (cnd (decide (gI y38 0<cI p25 7 0)=true) (k40 ([],upd (rh p25 0 DO) [(7,.box [.t (tI (gI y38 0))]),(8,.box [.t (.bool true)])])) (k40 ([],rh p25 0 DO)))) (k40 ([],rh p25 0 DO))
noncomputable def Ya (n:Nat) (ff:Nat→Rec) (k20:KT) (p23:ST):RT:=cnd (AD p23 0=AI p23 6 35) (join (Ox n ff k20) fun k26=>cnd (decide ((AH p23 6 35:Int)>0)=true) (cnd (AD p23 0=AI p23 6 35∧9=9∧(0:Int)≤0∧0<(AH p23 6 35:Int)) (cnd (AD p23 0=AI p23 6 35) (cnd (AD p23 0=AI p23 6 35) (Option.bind (oEs p23 0)[AL p23 6 35]? fun y27=>cnd (okI y27 0) (join (J28_1 n ff k26) fun k29=>cnd ((!(cB p23 8 0))=true) (k29 ([],upd (rh p23 0 DO) [(7,.box [.t (tI (gI y27 0))]),(8,.box [.t (.bool true)])])) (cnd (decide (gI y27 0<cI p23 7 0)=true) (k29 ([],upd (rh p23 0 DO) [(7,.box [.t (tI (gI y27 0))]),(8,.box [.t (.bool true)])])) (k29 ([],rh p23 0 DO)))) none) none) none) none) (k26 ([],rh p23 0 DO))) none
noncomputable def VI (n:Nat) (ff:Nat→Rec) (k20:KT) (p19:ST):RT:=ff 10 (List Tree) (.fn 96 [AV.ptr 6 0]) (rh p19 0 Bu) fun rs h1=>cnd (Ay C.P (As C.P 96) rs=true) (DK (rh p19 0 Bu) h1 fun hs=>k20 (rs,hs)) none
noncomputable def U5 (n:Nat) (ff:Nat→Rec) (k20:KT) (p19:ST):RT:=join (Ya n ff k20) fun k24=>cnd (decide (cI p19 6 11≥(10000:Int))=true) (cnd (AD p19 0=AI p19 6 35) (k24 ([],upd (rh p19 0 DO) [(6,.box (upd (rb p19 6 0 BD) [(35,.sref 0 (AI p19 6 35) (length (oEs p19 0)) 0)])),(7,.box [.t (tI 0)]),(8,.box [.t (.bool false)])])) none) (k24 ([],upd (rh p19 0 DO) [(7,.box [.t (tI 0)]),(8,.box [.t (.bool false)])]))
theorem vC28_1 (n:Nat) (ff:Nat→Rec) (k20:KT) (p19:ST):Cy C (Es C (pcx C (AA C n)) n ff ED 9) (pcx C (AA C n)) n 96 [AV.ptr 6 0] (rh p19 0 Bu) (fun rs h1=>cnd (Ay C.P (As C.P 96) rs=true) (DK (rh p19 0 Bu) h1 fun hs=>k20 (rs,hs)) none)=U5 n ff k20 p19:=by kernel_rfl
theorem Wl (n:Nat) (k20:KT) (p19:ST):VI n (fI C n) k20 p19=U5 n (fI C n) k20 p19:=(E3 C n ED 9 _ 96 _ _ _).trans (vC28_1 n (fI C n) k20 p19)
noncomputable def VA (n:Nat) (ff:Nat→Rec) (k91:KT) (p92:ST):RT:=cnd ((!(vB p92 0))=true) (k91 ([.t (.bool true)],rh p92 0 BV)) (k91 ([.t (.bool ((cI p92 6 29) != cI p92 6 15))],rh p92 0 BV))
noncomputable def U9 (n:Nat) (ff:Nat→Rec) (k89:KT) (p90:ST):RT:=cnd (vB p90 0=true) (k89 ([],rh p90 0 BV)) (bd [0,0,0,0,0,0,0,0,2,0,0,0,5,0,0,12,0] (AA C n 149 (ct kS p90 6 16 [tI (cI p90 6 15)])) fun y98=>cnd (((gI y98 16) != 0)=true) (k89 ([],upd (rh p90 0 BV) [(6,.box (upd (rb p90 6 0 BD) [(29,.t (tI 0)),(30,.t (tI 3))]))])) (cnd (length (gL y98 15)=0∧AL p90 6 35+AH p90 6 35<length (oEs p90 0)) (cnd (AD p90 0=AI p90 6 35) (k89 ([],upd (rh p90 0 BV) [(6,.box (upd (rb p90 6 0 BD) [(16,.t (tI (gI y98 0))),(17,.t (tI (gI y98 1))),(18,.t (tI (gI y98 2))),(19,.t (tI (gI y98 3))),(20,.t (tI (gI y98 4))),(21,.t (tI (gI y98 5))),(22,.t (tI (gI y98 6))),(23,.t (tI (gI y98 7))),(24,.t (.str (gS y98 8))),(25,.t (tI (gI y98 9))),(26,.t (tI (gI y98 10))),(27,.t (tI (gI y98 11))),(28,.t (.sl 2 (gL y98 12))),(29,.t (tI (gI y98 13))),(30,.t (tI (gI y98 14)))]))])) none) (cnd (AD p90 0=AI p90 6 35∧(9=9∨9=0)∧AL p90 6 35+AH p90 6 35≤length (oEs p90 0)∧AH p90 6 35+length (gL y98 15)≤1073741824) (k89 ([],upd (rh p90 0 BV) [(0,.row false (AI p90 6 35+1) 9 (take (AH p90 6 35) (drop (AL p90 6 35) (oEs p90 0))++gL y98 15)),(6,.box (upd (rb p90 6 0 BD) [(16,.t (tI (gI y98 0))),(17,.t (tI (gI y98 1))),(18,.t (tI (gI y98 2))),(19,.t (tI (gI y98 3))),(20,.t (tI (gI y98 4))),(21,.t (tI (gI y98 5))),(22,.t (tI (gI y98 6))),(23,.t (tI (gI y98 7))),(24,.t (.str (gS y98 8))),(25,.t (tI (gI y98 9))),(26,.t (tI (gI y98 10))),(27,.t (tI (gI y98 11))),(28,.t (.sl 2 (gL y98 12))),(29,AV.t (tI (gI y98 13))),(30,.t (tI (gI y98 14))),(35,.sref 0 (AI p90 6 35+1) 0 (AH p90 6 35+length (gL y98 15)))]))])) none)))
noncomputable def Yw (n:Nat) (ff:Nat→Rec) (k89:KT) (p88:ST):RT:=ff 10 (List Tree) (.fn 127 [AV.ptr 6 0]) (rh p88 0 Bu) fun rs h1=>cnd (Ay C.P (As C.P 127) rs=true) (DK (rh p88 0 Bu) h1 fun hs=>k89 (rs,hs)) none
noncomputable def R6 (n:Nat) (ff:Nat→Rec) (k89:KT) (p88:ST):RT:=join (U9 n ff k89) fun k91=>join (VA n ff k91) fun k93=>cnd ((cI p88 6 30==1)=true) (k93 ([.t (.bool (!(decide (cI p88 6 11≥(10000:Int)))))],rh p88 0 BV)) (k93 ([.t (.bool false)],rh p88 0 BV))
theorem vC28_2 (n:Nat) (ff:Nat→Rec) (k89:KT) (p88:ST):Cy C (Es C (pcx C (AA C n)) n ff ED 9) (pcx C (AA C n)) n 127 [AV.ptr 6 0] (rh p88 0 Bu) (fun rs h1=>cnd (Ay C.P (As C.P 127) rs=true) (DK (rh p88 0 Bu) h1 fun hs=>k89 (rs,hs)) none)=R6 n ff k89 p88:=by kernel_rfl
theorem SJ (n:Nat) (k89:KT) (p88:ST):Yw n (fI C n) k89 p88=R6 n (fI C n) k89 p88:=(E3 C n ED 9 _ 127 _ _ _).trans (vC28_2 n (fI C n) k89 p88)
noncomputable def Hb (n:Nat) (ff:Nat→Rec) (k87:KT) (p86 p99:ST):RT:=k87 ([.t (tI (w64 (vI p86 0+1)))],rh p99 0 BV)
noncomputable def QF (n:Nat) (ff:Nat→Rec) (p108:ST) (k107:KT) (p130:ST):RT:=cnd (vB p130 0=true) (cnd (AD p130 7=AD p108 7+1∧8≤8) (Option.bind (oEs p130 7)[0]? fun y132=>k107 ([.rptr 7 (AD p108 7+1) 0 0,.t (.bool false)],upd (rh p130 0 DW) [(7,.row false (AD p108 7+1) 8 (List.set (oEs p130 7) 0 (zt kG []++drop 8 y132)))])) none) (bd [0,13,0,0,0,0,0,0,0,0,0,1,2,5,0] (AA C n 158 (ct [0,13,0,0] p130 6 4 [])) fun y133=>cnd (AD p130 7=AD p108 7+1∧8≤8) (Option.bind (oEs p130 7)[0]? fun y134=>k107 ([.rptr 7 (AD p108 7+1) 0 0,.t (.bool true)],upd (rh p130 0 DW) [(6,.box (upd (rb p130 6 0 BD) [(4,.t (tI (gI y133 0))),(5,.t (.sl 10 (gL y133 1))),(6,.t (tI (gI y133 2))),(7,.t (tI (gI y133 3)))])),(7,.row false (AD p108 7+1) 8 (List.set (oEs p130 7) 0 (gt kG y133 6 []++drop 8 y134)))])) none)
noncomputable def NY (n:Nat) (ff:Nat→Rec) (p106:ST) (k107:KT) (p108:ST):RT:=cnd (AD p108 7=L9 p106 0) (Option.bind (oEs p108 7)[0]? fun y128=>bk kG 0 y128 (cnd (AD p108 7+1=AD p108 7+1∧8≤8) (bd [0,1] (AA C n 122 (ct [0,13,0,0] p108 6 4 [])) fun y129=>join (QF n ff p108 k107) fun k131=>cnd ((!(gB y129 1))=true) (k131 ([.t (.bool true)],upd (rh p108 0 K3) [(7,.row false (AD p108 7+1) 8 [[tI (gI y128 0),tI (gI y128 1),tI (gI y128 2),tI (gI y128 3),tI (gI y128 4),.bool (gB y128 5),.str (gS y128 6),.sl 2 (gL y128 7)]]),(8,.box (tv (zt kG [])))])) (k131 ([.t (.bool ((gI y129 0) != cI p108 6 15))],upd (rh p108 0 K3) [(7,.row false (AD p108 7+1) 8 [[tI (gI y128 0),tI (gI y128 1),tI (gI y128 2),tI (gI y128 3),tI (gI y128 4),.bool (gB y128 5),.str (gS y128 6),.sl 2 (gL y128 7)]]),(8,.box (tv (zt kG [])))]))) none)) none
noncomputable def Ez (n:Nat) (ff:Nat→Rec) (k102:KT) (p106:ST) (k107:KT):RT:=cnd (vB p106 1=true) (join (NY n ff p106 k107) fun k109=>cnd (decide (cI p106 6 15<cI p106 6 26)=true) (k109 ([],rh p106 0 DW)) (cnd (AD p106 7=L9 p106 0) (Option.bind (oEs p106 7)[0]? fun y110=>bk kG 0 y110 (bd [0,0,0,0,0,0,0,0,2,0,0,0,5,0,0,12,0] (AA C n 148 (ct kS p106 6 16 (tI (cI p106 6 15)::gt kG y110 0 []))) fun y111=>cnd (((gI y111 16) != 0)=true) (k109 ([],rh p106 0 DW)) (cnd (length (gL y111 15)=0∧AL p106 6 35+AH p106 6 35<length (oEs p106 0)) (cnd (AD p106 0=AI p106 6 35) (cnd ((!(cB p106 6 38))=true) (cnd ((gI y111 14==2)=true) (k109 ([],upd (rh p106 0 DW) [(6,.box (upd (rb p106 6 0 BD) [(16,.t (tI (gI y111 0))),(17,.t (tI (gI y111 1))),(18,.t (tI (gI y111 2))),(19,.t (tI (gI y111 3))),(20,.t (tI (gI y111 4))),(21,.t (tI (gI y111 5))),(22,.t (tI (gI y111 6))),(23,.t (tI (gI y111 7))),(24,.t (.str (gS y111 8))),(25,.t (tI (gI y111 9))),(26,AV.t (tI (gI y111 10))),(27,.t (tI (gI y111 11))),(28,.t (.sl 2 (gL y111 12))),(29,.t (tI (gI y111 13))),(30,.t (tI (gI y111 14))),(38,.t (.bool true)),(39,.t (tI (cI p106 6 15)))]))])) (k109 ([],upd (rh p106 0 DW) [(6,.box (upd (rb p106 6 0 BD) [(16,.t (tI (gI y111 0))),(17,.t (tI (gI y111 1))),(18,.t (tI (gI y111 2))),(19,.t (tI (gI y111 3))),(20,.t (tI (gI y111 4))),(21,.t (tI (gI y111 5))),(22,.t (tI (gI y111 6))),(23,.t (tI (gI y111 7))),(24,.t (.str (gS y111 8))),(25,.t (tI (gI y111 9))),(26,AV.t (tI (gI y111 10))),(27,.t (tI (gI y111 11))),(28,.t (.sl 2 (gL y111 12))),(29,.t (tI (gI y111 13))),(30,.t (tI (gI y111 14)))]))]))) (k109 ([],upd (rh p106 0 DW) [(6,.box (upd (rb p106 6 0 BD) [(16,.t (tI (gI y111 0))),(17,.t (tI (gI y111 1))),(18,.t (tI (gI y111 2))),(19,.t (tI (gI y111 3))),(20,.t (tI (gI y111 4))),(21,.t (tI (gI y111 5))),(22,.t (tI (gI y111 6))),(23,.t (tI (gI y111 7))),(24,.t (.str (gS y111 8))),(25,.t (tI (gI y111 9))),(26,.t (tI (gI y111 10))),(27,.t (tI (gI y111 11))),(28,.t (.sl 2 (gL y111 12))),(29,.t (tI (gI y111 13))),(30,.t (tI (gI y111 14)))]))]))) none) (cnd (AD p106 0=AI p106 6 35∧(9=9∨9=0)∧AL p106 6 35+AH p106 6 35≤length (oEs p106 0)∧AH p106 6 35+length (gL y111 15)≤1073741824) (cnd ((!(cB p106 6 38))=true) (cnd ((gI y111 14==2)=true) (k109 ([],upd (rh p106 0 DW) [(0,.row false (AI p106 6 35+1) 9 (take (AH p106 6 35) (drop (AL p106 6 35) (oEs p106 0))++gL y111 15)),(6,.box (upd (rb p106 6 0 BD) [(16,.t (tI (gI y111 0))),(17,.t (tI (gI y111 1))),(18,.t (tI (gI y111 2))),(19,.t (tI (gI y111 3))),(20,.t (tI (gI y111 4))),(21,.t (tI (gI y111 5))),(22,.t (tI (gI y111 6))),(23,.t (tI (gI y111 7))),(24,.t (.str (gS y111 8))),(25,.t (tI (gI y111 9))),(26,.t (tI (gI y111 10))),(27,.t (tI (gI y111 11))),(28,.t (.sl 2 (gL y111 12))),(29,.t (tI (gI y111 13))),(30,.t (tI (gI y111 14))),(35,.sref 0 (AI p106 6 35+1) 0 (AH p106 6 35+length (gL y111 15))),(38,.t (.bool true)),(39,.t (tI (cI p106 6 15)))]))])) (k109 ([],upd (rh p106 0 DW) [(0,.row false (AI p106 6 35+1) 9 (take (AH p106 6 35) (drop (AL p106 6 35) (oEs p106 0))++gL y111 15)),(6,.box (upd (rb p106 6 0 BD) [(16,.t (tI (gI y111 0))),(17,.t (tI (gI y111 1))),(18,.t (tI (gI y111 2))),(19,.t (tI (gI y111 3))),(20,.t (tI (gI y111 4))),(21,.t (tI (gI y111 5))),(22,.t (tI (gI y111 6))),(23,.t (tI (gI y111 7))),(24,.t (.str (gS y111 8))),(25,.t (tI (gI y111 9))),(26,.t (tI (gI y111 10))),(27,.t (tI (gI y111 11))),(28,.t (.sl 2 (gL y111 12))),(29,.t (tI (gI y111 13))),(30,.t (tI (gI y111 14))),(35,.sref 0 (AI p106 6 35+1) 0 (AH p106 6 35+length (gL y111 15)))]))]))) (k109 ([],upd (rh p106 0 DW) [(0,.row false (AI p106 6 35+1) 9 (take (AH p106 6 35) (drop (AL p106 6 35) (oEs p106 0))++gL y111 15)),(6,.box (upd (rb p106 6 0 BD) [(16,.t (tI (gI y111 0))),(17,.t (tI (gI y111 1))),(18,.t (tI (gI y111 2))),(19,.t (tI (gI y111 3))),(20,.t (tI (gI y111 4))),(21,.t (tI (gI y111 5))),(22,.t (tI (gI y111 6))),(23,.t (tI (gI y111 7))),(24,.t (.str (gS y111 8))),(25,.t (tI (gI y111 9))),(26,.t (tI (gI y111 10))),(27,.t (tI (gI y111 11))),(28,.t (.sl 2 (gL y111 12))),(29,.t (tI (gI y111 13))),(30,.t (tI (gI y111 14))),(35,.sref 0 (AI p106 6 35+1) 0 (AH p106 6 35+length (gL y111 15)))]))]))) none)))) none)) (k102 ([],rh p106 0 BV))
noncomputable def QE (n:Nat) (ff:Nat→Rec) (k102:KT) (p104:ST):RT:=cnd (vB p104 0=true) (AK (Ez n ff k102) n ([.rptr 7 0 0 0,.t (.bool false)],upd (rh p104 0 DW) [(7,.row false 0 8 [[tI 0,tI 0,tI 0,tI 0,tI 0,.bool false,.str B0,.sl 2 []]])])) (bd [0,13,0,0,0,0,0,0,0,0,0,1,2,5,0] (AA C n 158 (ct [0,13,0,0] p104 6 4 [])) fun y135=>AK (Ez n ff k102) n ([.rptr 7 0 0 0,.t (.bool true)],upd (rh p104 0 DW) [(6,.box (upd (rb p104 6 0 BD) [(4,.t (tI (gI y135 0))),(5,.t (.sl 10 (gL y135 1))),(6,.t (tI (gI y135 2))),(7,.t (tI (gI y135 3)))])),(7,.row false 0 8 [[tI (gI y135 6),tI (gI y135 7),tI (gI y135 8),tI (gI y135 9),tI (gI y135 10),.bool (gB y135 11),.str (gS y135 12),.sl 2 (gL y135 13)]])]))
noncomputable def Yv (n:Nat) (ff:Nat→Rec) (k102:KT) (p101:ST):RT:=ff 10 (List Tree) (.fn 126 [AV.ptr 6 0]) (rh p101 0 Bu) fun rs h1=>cnd (Ay C.P (As C.P 126) rs=true) (DK (rh p101 0 Bu) h1 fun hs=>k102 (rs,hs)) none
noncomputable def R5 (n:Nat) (ff:Nat→Rec) (k102:KT) (p101:ST):RT:=bd [0,1] (AA C n 122 (ct [0,13,0,0] p101 6 4 [])) fun y103=>join (QE n ff k102) fun k105=>cnd ((!(gB y103 1))=true) (k105 ([.t (.bool true)],upd (rh p101 0 O2) [(7,.box (tv (zt kG [])))])) (k105 ([.t (.bool ((gI y103 0) != cI p101 6 15))],upd (rh p101 0 O2) [(7,.box (tv (zt kG [])))]))
theorem vC28_3 (n:Nat) (ff:Nat→Rec) (k102:KT) (p101:ST):Cy C (Es C (pcx C (AA C n)) n ff ED 9) (pcx C (AA C n)) n 126 [AV.ptr 6 0] (rh p101 0 Bu) (fun rs h1=>cnd (Ay C.P (As C.P 126) rs=true) (DK (rh p101 0 Bu) h1 fun hs=>k102 (rs,hs)) none)=R5 n ff k102 p101:=by kernel_rfl
theorem SI (n:Nat) (k102:KT) (p101:ST):Yv n (fI C n) k102 p101=R5 n (fI C n) k102 p101:=(E3 C n ED 9 _ 126 _ _ _).trans (vC28_3 n (fI C n) k102 p101)
noncomputable def DZ (n:Nat) (ff:Nat→Rec) (p181:ST) (k182:KT) (y189:List Tree) (p194:ST):RT:=cnd (vB p194 0=true) (AP (.box [AV.yld 40,.t (tI (cI p181 6 4)),.t (.sl 10 (cL p181 6 5)),.t (tI (cI p181 6 6)),.t (tI (cI p181 6 7))]) (.box [AV.yld 40,.t (tI (cI p194 6 4)),.t (.sl 10 (cL p194 6 5)),.t (tI (cI p194 6 6)),.t (tI (cI p194 6 7))]) (AP (.box [AV.yld 40,.t (tI (cI p181 6 4))]) (.box [AV.yld 40,.t (tI (cI p194 6 4))]) (AP (.row false (AD p181 4) 9 (oEs p181 4)) (.row false (AD p194 4) 9 (oEs p194 4)) (AP (.row false (AD p181 5) 9 (oEs p181 5)) (.row false (AD p194 5) 9 (oEs p194 5)) (AP (.row false (AD p181 0) 9 (oEs p181 0)) (.row false (AD p194 0) 9 (oEs p194 0)) (bd [0,13,0,0,0] (AA C n 156 (ct [0,13,0,0] p181 6 4 [tI (vI p181 3),tI (aI p181 4 0),tI (aI p181 4 1),tI (aI p181 4 2),tI (aI p181 4 3),tI (aI p181 4 4),.bool (aB p181 4 5),.str (aS p181 4 6),.sl 2 (aL p181 4 7),.sl 1 [[tI (cI p181 6 4)]]])) fun y196=>cnd (((gI y196 4) != 0)=true) (k182 ([],rh p194 0 CO)) (cnd (AD p194 5=AI p194 6 14∧(9=9∨9=0)∧AL p194 6 14+AH p194 6 14≤length (oEs p194 5)∧AH p194 6 14+1≤1073741824) (k182 ([],upd (rh p194 0 CO) [(5,.row false (AI p194 6 14+1) 9 (take (AH p194 6 14) (drop (AL p194 6 14) (oEs p194 5))++[[tI (vI p181 3),tI (aI p181 4 0),tI (aI p181 4 1),tI (aI p181 4 2),tI (aI p181 4 3),tI (aI p181 4 4),Tree.bool (aB p181 4 5),.str (aS p181 4 6),.sl 2 (aL p181 4 7)]])),(6,.box (upd (rb p194 6 0 BD) [(4,.t (tI (gI y196 0))),(5,.t (.sl 10 (gL y196 1))),(6,.t (tI (gI y196 2))),(7,.t (tI (gI y196 3))),(11,.t (tI (w64 (cI p194 6 11+1)))),(14,.sref 5 (AI p194 6 14+1) 0 (AH p194 6 14+1))]))])) none))))))) (AP (.box [AV.yld 40,.t (tI (cI p181 6 4)),.t (.sl 10 (cL p181 6 5)),.t (tI (cI p181 6 6)),.t (tI (cI p181 6 7))]) (.box [AV.yld 40,.t (tI (cI p194 6 4)),.t (.sl 10 (cL p194 6 5)),.t (tI (cI p194 6 6)),.t (tI (cI p194 6 7))]) (AP (.box [AV.yld 40,.t (tI (cI p181 6 4))]) (.box [AV.yld 40,.t (tI (cI p194 6 4))]) (AP (.row false (AD p181 4) 9 (oEs p181 4)) (.row false (AD p194 4) 9 (oEs p194 4)) (AP (.row false (AD p181 5) 9 (oEs p181 5)) (.row false (AD p194 5) 9 (oEs p194 5)) (AP (.row false (AD p181 0) 9 (oEs p181 0)) (.row false (AD p194 0) 9 (oEs p194 0)) (bd [0,13,0,0,0] (AA C n 156 (ct [0,13,0,0] p181 6 4 [tI (vI p181 3),tI (aI p181 4 0),tI (aI p181 4 1),tI (aI p181 4 2),tI (aI p181 4 3),tI (aI p181 4 4),.bool (aB p181 4 5),.str (aS p181 4 6),.sl 2 (aL p181 4 7),.sl 1 (gL y189 0)])) fun y197=>cnd (((gI y197 4) != 0)=true) (k182 ([],upd (rh p194 0 CO) [(6,.box (upd (rb p194 6 0 BD) [(12,.t (tI (w64 (cI p194 6 12+1))))]))])) (cnd (AD p194 5=AI p194 6 14∧(9=9∨9=0)∧AL p194 6 14+AH p194 6 14≤length (oEs p194 5)∧AH p194 6 14+1≤1073741824) (k182 ([],upd (rh p194 0 CO) [(5,.row false (AI p194 6 14+1) 9 (take (AH p194 6 14) (drop (AL p194 6 14) (oEs p194 5))++[[tI (vI p181 3),tI (aI p181 4 0),tI (aI p181 4 1),tI (aI p181 4 2),tI (aI p181 4 3),tI (aI p181 4 4),.bool (aB p181 4 5),.str (aS p181 4 6),.sl 2 (aL p181 4 7)]])),(6,.box (upd (rb p194 6 0 BD) [(4,.t (tI (gI y197 0))),(5,.t (.sl 10 (gL y197 1))),(6,.t (tI (gI y197 2))),(7,.t (tI (gI y197 3))),(11,.t (tI (w64 (cI p194 6 11+1)))),(12,.t (tI (w64 (cI p194 6 12+1)))),(14,.sref 5 (AI p194 6 14+1) 0 (AH p194 6 14+1))]))])) none)))))))
noncomputable def Ha (n:Nat) (ff:Nat→Rec) (p181:ST) (y189:List Tree) (k182:KT) (p190:ST):RT:=cnd (vB p190 0=true) (AP (.box [AV.yld 40,.t (tI (cI p181 6 4)),.t (.sl 10 (cL p181 6 5)),.t (tI (cI p181 6 6)),.t (tI (cI p181 6 7))]) (.box [AV.yld 40,.t (tI (cI p190 6 4)),.t (.sl 10 (cL p190 6 5)),.t (tI (cI p190 6 6)),.t (tI (cI p190 6 7))]) (AP (.box [AV.yld 40,.t (tI (cI p181 6 4))]) (.box [AV.yld 40,.t (tI (cI p190 6 4))]) (AP (.row false (AD p181 4) 9 (oEs p181 4)) (.row false (AD p190 4) 9 (oEs p190 4)) (AP (.row false (AD p181 5) 9 (oEs p181 5)) (.row false (AD p190 5) 9 (oEs p190 5)) (AP (.row false (AD p181 0) 9 (oEs p181 0)) (.row false (AD p190 0) 9 (oEs p190 0)) (bd [0,13,0,0,0] (AA C n 156 (ct [0,13,0,0] p181 6 4 [tI (vI p181 3),tI (aI p181 4 0),tI (aI p181 4 1),tI (aI p181 4 2),tI (aI p181 4 3),tI (aI p181 4 4),.bool (aB p181 4 5),.str (aS p181 4 6),.sl 2 (aL p181 4 7),.sl 1 (gL y189 0)])) fun y193=>cnd (((gI y193 4) != 0)=true) (k182 ([],rh p190 0 CO)) (cnd (AD p190 5=AI p190 6 14∧(9=9∨9=0)∧AL p190 6 14+AH p190 6 14≤length (oEs p190 5)∧AH p190 6 14+1≤1073741824) (k182 ([],upd (rh p190 0 CO) [(5,.row false (AI p190 6 14+1) 9 (take (AH p190 6 14) (drop (AL p190 6 14) (oEs p190 5))++[[tI (vI p181 3),tI (aI p181 4 0),tI (aI p181 4 1),tI (aI p181 4 2),tI (aI p181 4 3),tI (aI p181 4 4),.bool (aB p181 4 5),.str (aS p181 4 6),.sl 2 (aL p181 4 7)]])),(6,.box (upd (rb p190 6 0 BD) [(4,.t (tI (gI y193 0))),(5,.t (.sl 10 (gL y193 1))),(6,.t (tI (gI y193 2))),(7,.t (tI (gI y193 3))),(11,.t (tI (w64 (cI p190 6 11+1)))),(14,.sref 5 (AI p190 6 14+1) 0 (AH p190 6 14+1))]))])) none))))))) (join (DZ n ff p181 k182 y189) fun k195=>cnd (decide (cI p190 6 9≥(0:Int))=true) (k195 ([.t (.bool (decide (cI p190 6 12≥cI p190 6 9)))],rh p190 0 K2)) (k195 ([.t (.bool false)],rh p190 0 K2)))
noncomputable def HZ (n:Nat) (ff:Nat→Rec) (p181:ST) (y202:List Tree) (k182:KT) (p203:ST):RT:=cnd (vB p203 0=true) (AP (.box [AV.yld 40,.t (tI (cI p181 6 4)),.t (.sl 10 (cL p181 6 5)),.t (tI (cI p181 6 6)),.t (tI (cI p181 6 7))]) (.box [AV.yld 40,.t (tI (cI p203 6 4)),.t (.sl 10 (cL p203 6 5)),.t (tI (cI p203 6 6)),.t (tI (cI p203 6 7))]) (AP (.box [AV.yld 40,.t (tI (cI p181 6 4))]) (.box [AV.yld 40,.t (tI (cI p203 6 4))]) (AP (.row false (AD p181 4) 9 (oEs p181 4)) (.row false (AD p203 4) 9 (oEs p203 4)) (AP (.row false (AD p181 5) 9 (oEs p181 5)) (.row false (AD p203 5) 9 (oEs p203 5)) (AP (.row false (AD p181 0) 9 (oEs p181 0)) (.row false (AD p203 0) 9 (oEs p203 0)) (bd [0,13,0,0,0] (AA C n 156 (ct [0,13,0,0] p181 6 4 [tI (vI p181 3),tI (aI p181 4 0),tI (aI p181 4 1),tI (aI p181 4 2),tI (aI p181 4 3),tI (aI p181 4 4),.bool (aB p181 4 5),.str (aS p181 4 6),.sl 2 (aL p181 4 7),.sl 1 (gL y202 0)])) fun y206=>cnd (((gI y206 4) != 0)=true) (k182 ([],rh p203 0 CO)) (cnd (AD p203 5=AI p203 6 14∧(9=9∨9=0)∧AL p203 6 14+AH p203 6 14≤length (oEs p203 5)∧AH p203 6 14+1≤1073741824) (k182 ([],upd (rh p203 0 CO) [(5,.row false (AI p203 6 14+1) 9 (take (AH p203 6 14) (drop (AL p203 6 14) (oEs p203 5))++[[tI (vI p181 3),tI (aI p181 4 0),tI (aI p181 4 1),tI (aI p181 4 2),tI (aI p181 4 3),tI (aI p181 4 4),.bool (aB p181 4 5),.str (aS p181 4 6),.sl 2 (aL p181 4 7)]])),(6,.box (upd (rb p203 6 0 BD) [(4,.t (tI (gI y206 0))),(5,.t (.sl 10 (gL y206 1))),(6,.t (tI (gI y206 2))),(7,.t (tI (gI y206 3))),(11,.t (tI (w64 (cI p203 6 11+1)))),(14,.sref 5 (AI p203 6 14+1) 0 (AH p203 6 14+1))]))])) none))))))) (join (DZ n ff p181 k182 y202) fun k208=>cnd (decide (cI p203 6 9≥(0:Int))=true) (k208 ([.t (.bool (decide (cI p203 6 12≥cI p203 6 9)))],rh p203 0 CO)) (k208 ([.t (.bool false)],rh p203 0 CO)))
noncomputable def Yu (n:Nat) (ff:Nat→Rec) (k182:KT) (p181:ST):RT:=ff 9 (List Tree) (.fn 144 [AV.ptr 6 0,AV.ptr 6 4,.t (tI 1),.t (tI (vI p181 3)),AV.agg (tv [tI (aI p181 4 0),tI (aI p181 4 1),tI (aI p181 4 2),tI (aI p181 4 3),tI (aI p181 4 4),.bool (aB p181 4 5),.str (aS p181 4 6),.sl 2 (aL p181 4 7)])]) (rh p181 0 I8) fun rs h1=>cnd (Ay C.P (As C.P 144) rs=true) (DK (rh p181 0 I8) h1 fun hs=>k182 (rs,hs)) none
noncomputable def HU (n:Nat) (ff:Nat→Rec) (k182:KT) (p181:ST):RT:=cnd (decide (cI p181 6 11≥(10000:Int))=true) (k182 ([],rh p181 0 CO)) (both (bd [1] (AA C n 175 [.sl 2 (cL p181 6 10),tI (vI p181 3)]) fun y185=>cnd (gB y185 0=true) (AP (.box [AV.yld 40,.t (tI (cI p181 6 4)),.t (.sl 10 (cL p181 6 5)),.t (tI (cI p181 6 6)),.t (tI (cI p181 6 7))]) (.box [AV.yld 40,.t (tI (cI p181 6 4)),.t (.sl 10 (cL p181 6 5)),.t (tI (cI p181 6 6)),.t (tI (cI p181 6 7))]) (AP (.box [AV.yld 40,.t (tI (cI p181 6 4))]) (.box [AV.yld 40,.t (tI (cI p181 6 4))]) (AP (.row false (AD p181 4) 9 (oEs p181 4)) (.row false (AD p181 4) 9 (oEs p181 4)) (AP (.row false (AD p181 5) 9 (oEs p181 5)) (.row false (AD p181 5) 9 (oEs p181 5)) (AP (.row false (AD p181 0) 9 (oEs p181 0)) (.row false (AD p181 0) 9 (oEs p181 0)) (bd [0,13,0,0,0] (AA C n 156 (ct [0,13,0,0] p181 6 4 [tI (vI p181 3),tI (aI p181 4 0),tI (aI p181 4 1),tI (aI p181 4 2),tI (aI p181 4 3),tI (aI p181 4 4),.bool (aB p181 4 5),.str (aS p181 4 6),.sl 2 (aL p181 4 7),.sl 1 []])) fun y186=>cnd (((gI y186 4) != 0)=true) (k182 ([],rh p181 0 CO)) (cnd (AD p181 5=AI p181 6 14∧(9=9∨9=0)∧AL p181 6 14+AH p181 6 14≤length (oEs p181 5)∧AH p181 6 14+1≤1073741824) (k182 ([],upd (rh p181 0 CO) [(5,.row false (AI p181 6 14+1) 9 (take (AH p181 6 14) (drop (AL p181 6 14) (oEs p181 5))++[[tI (vI p181 3),tI (aI p181 4 0),tI (aI p181 4 1),tI (aI p181 4 2),tI (aI p181 4 3),tI (aI p181 4 4),.bool (aB p181 4 5),.str (aS p181 4 6),.sl 2 (aL p181 4 7)]])),(6,.box (upd (rb p181 6 0 BD) [(4,.t (tI (gI y186 0))),(5,.t (.sl 10 (gL y186 1))),(6,.t (tI (gI y186 2))),(7,.t (tI (gI y186 3))),(11,.t (tI (w64 (cI p181 6 11+1)))),(14,.sref 5 (AI p181 6 14+1) 0 (AH p181 6 14+1))]))])) none))))))) (cnd (((length (cL p181 6 8):Int)==0)=true) (AP (.box [AV.yld 40,.t (tI (cI p181 6 4)),.t (.sl 10 (cL p181 6 5)),.t (tI (cI p181 6 6)),.t (tI (cI p181 6 7))]) (.box [AV.yld 40,.t (tI (cI p181 6 4)),.t (.sl 10 (cL p181 6 5)),.t (tI (cI p181 6 6)),.t (tI (cI p181 6 7))]) (AP (.box [AV.yld 40,.t (tI (cI p181 6 4))]) (.box [AV.yld 40,.t (tI (cI p181 6 4))]) (AP (.row false (AD p181 4) 9 (oEs p181 4)) (.row false (AD p181 4) 9 (oEs p181 4)) (AP (.row false (AD p181 5) 9 (oEs p181 5)) (.row false (AD p181 5) 9 (oEs p181 5)) (AP (.row false (AD p181 0) 9 (oEs p181 0)) (.row false (AD p181 0) 9 (oEs p181 0)) (bd [0,13,0,0,0] (AA C n 156 (ct [0,13,0,0] p181 6 4 [tI (vI p181 3),tI (aI p181 4 0),tI (aI p181 4 1),tI (aI p181 4 2),tI (aI p181 4 3),tI (aI p181 4 4),.bool (aB p181 4 5),.str (aS p181 4 6),.sl 2 (aL p181 4 7),.sl 1 [[tI (cI p181 6 4)]]])) fun y187=>cnd (((gI y187 4) != 0)=true) (k182 ([],rh p181 0 CO)) (cnd (AD p181 5=AI p181 6 14∧(9=9∨9=0)∧AL p181 6 14+AH p181 6 14≤length (oEs p181 5)∧AH p181 6 14+1≤1073741824) (k182 ([],upd (rh p181 0 CO) [(5,.row false (AI p181 6 14+1) 9 (take (AH p181 6 14) (drop (AL p181 6 14) (oEs p181 5))++[[tI (vI p181 3),tI (aI p181 4 0),tI (aI p181 4 1),tI (aI p181 4 2),tI (aI p181 4 3),tI (aI p181 4 4),.bool (aB p181 4 5),.str (aS p181 4 6),.sl 2 (aL p181 4 7)]])),(6,.box (upd (rb p181 6 0 BD) [(4,.t (tI (gI y187 0))),(5,.t (.sl 10 (gL y187 1))),(6,.t (tI (gI y187 2))),(7,.t (tI (gI y187 3))),(11,.t (tI (w64 (cI p181 6 11+1)))),(14,.sref 5 (AI p181 6 14+1) 0 (AH p181 6 14+1))]))])) none))))))) (cnd ((length (cL p181 6 8):Int)=0) none (cnd (1=1∧0≤tmod (cI p181 6 11) (length (cL p181 6 8):Int)) (Option.bind (cL p181 6 8)[toNat (tmod (cI p181 6 11) (length (cL p181 6 8):Int))]? fun y188=>cnd (okI y188 0) (bd [4,0] (AA C n 176 [tI (gI y188 0),tI (cI p181 6 4)]) fun y189=>join (Ha n ff p181 y189 k182) fun k191=>cnd (decide ((length (gL y189 0):Int)>0)=true) (Option.bind (gL y189 0)[0]? fun y192=>cnd (okI y192 0) (k191 ([.t (.bool (gI y192 0==cI p181 6 4))],upd (rh p181 0 K2) [(10,.box (tv (zt [0,13,0,0] [])))])) none) (k191 ([.t (.bool false)],upd (rh p181 0 K2) [(10,.box (tv (zt [0,13,0,0] [])))]))) none) none)))) (bd [1] (AA C n 175 [.sl 2 (cL p181 6 10),tI (vI p181 3)]) fun y198=>cnd (gB y198 0=true) (AP (.box [AV.yld 40,.t (tI (cI p181 6 4)),.t (.sl 10 (cL p181 6 5)),.t (tI (cI p181 6 6)),.t (tI (cI p181 6 7))]) (.box [AV.yld 40,.t (tI (cI p181 6 4)),.t (.sl 10 (cL p181 6 5)),.t (tI (cI p181 6 6)),.t (tI (cI p181 6 7))]) (AP (.box [AV.yld 40,.t (tI (cI p181 6 4))]) (.box [AV.yld 40,.t (tI (cI p181 6 4))]) (AP (.row false (AD p181 4) 9 (oEs p181 4)) (.row false (AD p181 4) 9 (oEs p181 4)) (AP (.row false (AD p181 5) 9 (oEs p181 5)) (.row false (AD p181 5) 9 (oEs p181 5)) (AP (.row false (AD p181 0) 9 (oEs p181 0)) (.row false (AD p181 0) 9 (oEs p181 0)) (bd [0,13,0,0,0] (AA C n 156 (ct [0,13,0,0] p181 6 4 [tI (vI p181 3),tI (aI p181 4 0),tI (aI p181 4 1),tI (aI p181 4 2),tI (aI p181 4 3),tI (aI p181 4 4),.bool (aB p181 4 5),.str (aS p181 4 6),.sl 2 (aL p181 4 7),.sl 1 []])) fun y199=>cnd (((gI y199 4) != 0)=true) (k182 ([],rh p181 0 CO)) (cnd (AD p181 5=AI p181 6 14∧(9=9∨9=0)∧AL p181 6 14+AH p181 6 14≤length (oEs p181 5)∧AH p181 6 14+1≤1073741824) (k182 ([],upd (rh p181 0 CO) [(5,.row false (AI p181 6 14+1) 9 (take (AH p181 6 14) (drop (AL p181 6 14) (oEs p181 5))++[[tI (vI p181 3),tI (aI p181 4 0),tI (aI p181 4 1),tI (aI p181 4 2),tI (aI p181 4 3),tI (aI p181 4 4),.bool (aB p181 4 5),.str (aS p181 4 6),.sl 2 (aL p181 4 7)]])),(6,.box (upd (rb p181 6 0 BD) [(4,.t (tI (gI y199 0))),(5,.t (.sl 10 (gL y199 1))),(6,.t (tI (gI y199 2))),(7,.t (tI (gI y199 3))),(11,.t (tI (w64 (cI p181 6 11+1)))),(14,.sref 5 (AI p181 6 14+1) 0 (AH p181 6 14+1))]))])) none))))))) (cnd (((length (cL p181 6 8):Int)==0)=true) (AP (.box [AV.yld 40,.t (tI (cI p181 6 4)),.t (.sl 10 (cL p181 6 5)),.t (tI (cI p181 6 6)),.t (tI (cI p181 6 7))]) (.box [AV.yld 40,.t (tI (cI p181 6 4)),.t (.sl 10 (cL p181 6 5)),.t (tI (cI p181 6 6)),.t (tI (cI p181 6 7))]) (AP (.box [AV.yld 40,.t (tI (cI p181 6 4))]) (.box [AV.yld 40,.t (tI (cI p181 6 4))]) (AP (.row false (AD p181 4) 9 (oEs p181 4)) (.row false (AD p181 4) 9 (oEs p181 4)) (AP (.row false (AD p181 5) 9 (oEs p181 5)) (.row false (AD p181 5) 9 (oEs p181 5)) (AP (.row false (AD p181 0) 9 (oEs p181 0)) (.row false (AD p181 0) 9 (oEs p181 0)) (bd [0,13,0,0,0] (AA C n 156 (ct [0,13,0,0] p181 6 4 [tI (vI p181 3),tI (aI p181 4 0),tI (aI p181 4 1),tI (aI p181 4 2),tI (aI p181 4 3),tI (aI p181 4 4),.bool (aB p181 4 5),.str (aS p181 4 6),.sl 2 (aL p181 4 7),.sl 1 [[tI (cI p181 6 4)]]])) fun y200=>cnd (((gI y200 4) != 0)=true) (k182 ([],rh p181 0 CO)) (cnd (AD p181 5=AI p181 6 14∧(9=9∨9=0)∧AL p181 6 14+AH p181 6 14≤length (oEs p181 5)∧AH p181 6 14+1≤1073741824) (k182 ([],upd (rh p181 0 CO) [(5,.row false (AI p181 6 14+1) 9 (take (AH p181 6 14) (drop (AL p181 6 14) (oEs p181 5))++[[tI (vI p181 3),tI (aI p181 4 0),tI (aI p181 4 1),tI (aI p181 4 2),tI (aI p181 4 3),tI (aI p181 4 4),.bool (aB p181 4 5),.str (aS p181 4 6),.sl 2 (aL p181 4 7)]])),(6,.box (upd (rb p181 6 0 BD) [(4,AV.t (tI (gI y200 0))),(5,.t (.sl 10 (gL y200 1))),(6,.t (tI (gI y200 2))),(7,.t (tI (gI y200 3))),(11,.t (tI (w64 (cI p181 6 11+1)))),(14,.sref 5 (AI p181 6 14+1) 0 (AH p181 6 14+1))]))])) none))))))) (cnd ((length (cL p181 6 8):Int)=0) none (cnd (1=1∧0≤tmod (cI p181 6 11) (length (cL p181 6 8):Int)) (Option.bind (cL p181 6 8)[toNat (tmod (cI p181 6 11) (length (cL p181 6 8):Int))]? fun y201=>cnd (okI y201 0) (bd [4,0] (AA C n 176 [tI (gI y201 0),tI (cI p181 6 4)]) fun y202=>join (HZ n ff p181 y202 k182) fun k204=>cnd (decide ((length (gL y202 0):Int)>0)=true) (Option.bind (gL y202 0)[0]? fun y205=>cnd (okI y205 0) (k204 ([.t (.bool (gI y205 0==cI p181 6 4))],rh p181 0 CO)) none) (k204 ([.t (.bool false)],rh p181 0 CO))) none) none)))))
theorem vC28_4 (n:Nat) (ff:Nat→Rec) (k182:KT) (p181:ST):Cy C (Es C (pcx C (AA C n)) n ff ED 8) (pcx C (AA C n)) n 144 [AV.ptr 6 0,AV.ptr 6 4,.t (tI 1),.t (tI (vI p181 3)),AV.agg (tv [tI (aI p181 4 0),tI (aI p181 4 1),tI (aI p181 4 2),tI (aI p181 4 3),tI (aI p181 4 4),.bool (aB p181 4 5),.str (aS p181 4 6),.sl 2 (aL p181 4 7)])] (rh p181 0 I8) (fun rs h1=>cnd (Ay C.P (As C.P 144) rs=true) (DK (rh p181 0 I8) h1 fun hs=>k182 (rs,hs)) none)=HU n ff k182 p181:=by kernel_rfl
theorem F4 (n:Nat) (k182:KT) (p181:ST):Yu n (fI C n) k182 p181=HU n (fI C n) k182 p181:=(E3 C n ED 8 _ 144 _ _ _).trans (vC28_4 n (fI C n) k182 p181)
noncomputable def TX (n:Nat) (ff:Nat→Rec) (k179:KT) (p178 p211:ST):RT:=k179 ([.t (tI (w64 (vI p178 0+1)))],rh p211 0 Ni)
noncomputable def Iz (n:Nat) (ff:Nat→Rec) (y177:List Tree) (p167:ST) (k175:KT) (p178:ST) (k179:KT):RT:=cnd (decide (vI p178 0<(length (gL y177 4):Int))=true) (cnd (8=8∧0≤vI p178 0) (Option.bind (gL y177 4)[toNat (vI p178 0)]? fun y180=>bk kG 0 y180 (join (TX n ff k179 p178) fun k212=>Yu n ff k212 ([AV.ptr 6 0,AV.ptr 6 4,.t (tI 1),.t (tI (cI p178 6 15)),AV.agg (tv (gt kG y180 0 []))],upd (rh p178 0 I8) [(1,.row true (AD p167 1) 15 (oEs p167 1)),(2,.row true (AD p167 2) 4 (oEs p167 2)),(3,.row true (AD p167 3) 4 (oEs p167 3)),(9,.box (tv (gt kG y180 0 [])))]))) none) (cnd ((!(cB p178 6 36))=true) (bd [1] (AA C n 147 (ct [0,0,5,2] p178 6 31 [])) fun y215=>cnd (gB y215 0=true) (k175 ([],upd (rh p178 0 DW) [(6,.box (upd (rb p178 6 0 BD) [(36,AV.t (Tree.bool true)),(37,.t (tI (cI p178 6 15)))]))])) (k175 ([],rh p178 0 DW))) (k175 ([],rh p178 0 DW)))
noncomputable def QD (n:Nat) (ff:Nat→Rec) (p174:ST) (k173:KT) (p224:ST):RT:=cnd (vB p224 0=true) (cnd (AD p224 7=AD p174 7+1∧8≤8) (Option.bind (oEs p224 7)[0]? fun y226=>k173 ([.rptr 7 (AD p174 7+1) 0 0,.t (.bool false)],upd (rh p224 0 DW) [(7,.row false (AD p174 7+1) 8 (List.set (oEs p224 7) 0 (zt kG []++drop 8 y226)))])) none) (bd [0,13,0,0,0,0,0,0,0,0,0,1,2,5,0] (AA C n 158 (ct [0,13,0,0] p224 6 0 [])) fun y227=>cnd (AD p224 7=AD p174 7+1∧8≤8) (Option.bind (oEs p224 7)[0]? fun y228=>k173 ([.rptr 7 (AD p174 7+1) 0 0,.t (.bool true)],upd (rh p224 0 DW) [(6,.box (upd (rb p224 6 0 BD) [(0,.t (tI (gI y227 0))),(1,.t (.sl 10 (gL y227 1))),(2,.t (tI (gI y227 2))),(3,.t (tI (gI y227 3)))])),(7,.row false (AD p174 7+1) 8 (List.set (oEs p224 7) 0 (gt kG y227 6 []++drop 8 y228)))])) none)
noncomputable def NX (n:Nat) (ff:Nat→Rec) (p172:ST) (k173:KT) (p174:ST):RT:=cnd (AD p174 7=L9 p172 0) (Option.bind (oEs p174 7)[0]? fun y222=>bk kG 0 y222 (cnd (AD p174 7+1=AD p174 7+1∧8≤8) (bd [0,1] (AA C n 122 (ct [0,13,0,0] p174 6 0 [])) fun y223=>join (QD n ff p174 k173) fun k225=>cnd ((!(gB y223 1))=true) (k225 ([.t (.bool true)],upd (rh p174 0 K3) [(7,.row false (AD p174 7+1) 8 [[tI (gI y222 0),tI (gI y222 1),tI (gI y222 2),tI (gI y222 3),tI (gI y222 4),.bool (gB y222 5),.str (gS y222 6),.sl 2 (gL y222 7)]]),(8,.box (tv (zt kG [])))])) (k225 ([.t (.bool ((gI y223 0) != cI p174 6 15))],upd (rh p174 0 K3) [(7,.row false (AD p174 7+1) 8 [[tI (gI y222 0),tI (gI y222 1),tI (gI y222 2),tI (gI y222 3),tI (gI y222 4),.bool (gB y222 5),.str (gS y222 6),.sl 2 (gL y222 7)]]),(8,.box (tv (zt kG [])))]))) none)) none
noncomputable def GU (n:Nat) (ff:Nat→Rec) (p167:ST) (k168:KT) (p172:ST) (k173:KT):RT:=cnd (vB p172 1=true) (join (NX n ff p172 k173) fun k175=>cnd (AD p172 7=L9 p172 0) (Option.bind (oEs p172 7)[0]? fun y176=>bk kG 0 y176 (bd [0,0,5,2,11,0] (AA C n 146 (ct [0,0,5,2] p172 6 31 (gt kG y176 0 []))) fun y177=>cnd (((gI y177 5) != 0)=true) (k175 ([],rh p172 0 DW)) (AK (Iz n ff y177 p167 k175) n ([.t (tI 0)],upd (rh p172 0 Ni) [(6,.box (upd (rb p172 6 0 BD) [(31,.t (tI (gI y177 0))),(32,.t (tI (gI y177 1))),(33,.t (.sl 2 (gL y177 2))),(34,.t (.str (gS y177 3)))])),(8,.box (tv (gt [0,0,5,2] y177 0 [])))])))) none) (k168 ([],rh p172 0 BV))
noncomputable def P9 (n:Nat) (ff:Nat→Rec) (p167:ST) (k168:KT) (p170:ST):RT:=cnd (vB p170 0=true) (AK (GU n ff p167 k168) n ([.rptr 7 0 0 0,.t (.bool false)],upd (rh p170 0 DW) [(7,.row false 0 8 [[tI 0,tI 0,tI 0,tI 0,tI 0,.bool false,.str B0,.sl 2 []]])])) (bd [0,13,0,0,0,0,0,0,0,0,0,1,2,5,0] (AA C n 158 (ct [0,13,0,0] p170 6 0 [])) fun y229=>AK (GU n ff p167 k168) n ([.rptr 7 0 0 0,.t (.bool true)],upd (rh p170 0 DW) [(6,.box (upd (rb p170 6 0 BD) [(0,.t (tI (gI y229 0))),(1,.t (.sl 10 (gL y229 1))),(2,AV.t (tI (gI y229 2))),(3,.t (tI (gI y229 3)))])),(7,.row false 0 8 [[tI (gI y229 6),tI (gI y229 7),tI (gI y229 8),tI (gI y229 9),tI (gI y229 10),.bool (gB y229 11),.str (gS y229 12),.sl 2 (gL y229 13)]])]))
noncomputable def Yt (n:Nat) (ff:Nat→Rec) (k168:KT) (p167:ST):RT:=ff 10 (List Tree) (.fn 125 [AV.ptr 6 0]) (rh p167 0 Bu) fun rs h1=>cnd (Ay C.P (As C.P 125) rs=true) (DK (rh p167 0 Bu) h1 fun hs=>k168 (rs,hs)) none
noncomputable def R4 (n:Nat) (ff:Nat→Rec) (k168:KT) (p167:ST):RT:=bd [0,1] (AA C n 122 (ct [0,13,0,0] p167 6 0 [])) fun y169=>join (P9 n ff p167 k168) fun k171=>cnd ((!(gB y169 1))=true) (k171 ([.t (.bool true)],upd (rh p167 0 O2) [(7,.box (tv (zt kG [])))])) (k171 ([.t (.bool ((gI y169 0) != cI p167 6 15))],upd (rh p167 0 O2) [(7,.box (tv (zt kG [])))]))
theorem vC28_5 (n:Nat) (ff:Nat→Rec) (k168:KT) (p167:ST):Cy C (Es C (pcx C (AA C n)) n ff ED 9) (pcx C (AA C n)) n 125 [AV.ptr 6 0] (rh p167 0 Bu) (fun rs h1=>cnd (Ay C.P (As C.P 125) rs=true) (DK (rh p167 0 Bu) h1 fun hs=>k168 (rs,hs)) none)=R4 n ff k168 p167:=by kernel_rfl
theorem SH (n:Nat) (k168:KT) (p167:ST):Yt n (fI C n) k168 p167=R4 n (fI C n) k168 p167:=(E3 C n ED 9 _ 125 _ _ _).trans (vC28_5 n (fI C n) k168 p167)
noncomputable def DY (n:Nat) (ff:Nat→Rec) (p267:ST) (k268:KT) (y275:List Tree) (p280:ST):RT:=cnd (vB p280 0=true) (AP (.box [AV.yld 40,.t (tI (cI p267 6 0)),.t (.sl 10 (cL p267 6 1)),.t (tI (cI p267 6 2)),.t (tI (cI p267 6 3))]) (.box [AV.yld 40,.t (tI (cI p280 6 0)),.t (.sl 10 (cL p280 6 1)),.t (tI (cI p280 6 2)),.t (tI (cI p280 6 3))]) (AP (.box [AV.yld 40,.t (tI (cI p267 6 0))]) (.box [AV.yld 40,.t (tI (cI p280 6 0))]) (AP (.row false (AD p267 4) 9 (oEs p267 4)) (.row false (AD p280 4) 9 (oEs p280 4)) (AP (.row false (AD p267 5) 9 (oEs p267 5)) (.row false (AD p280 5) 9 (oEs p280 5)) (AP (.row false (AD p267 0) 9 (oEs p267 0)) (.row false (AD p280 0) 9 (oEs p280 0)) (bd [0,13,0,0,0] (AA C n 156 (ct [0,13,0,0] p267 6 0 [tI (vI p267 3),tI (aI p267 4 0),tI (aI p267 4 1),tI (aI p267 4 2),tI (aI p267 4 3),tI (aI p267 4 4),.bool (aB p267 4 5),.str (aS p267 4 6),.sl 2 (aL p267 4 7),.sl 1 [[tI (cI p267 6 0)]]])) fun y282=>cnd (((gI y282 4) != 0)=true) (k268 ([],rh p280 0 BV)) (cnd (AD p280 4=AI p280 6 13∧(9=9∨9=0)∧AL p280 6 13+AH p280 6 13≤length (oEs p280 4)∧AH p280 6 13+1≤1073741824) (k268 ([],upd (rh p280 0 BV) [(4,.row false (AI p280 6 13+1) 9 (take (AH p280 6 13) (drop (AL p280 6 13) (oEs p280 4))++[[tI (vI p267 3),tI (aI p267 4 0),tI (aI p267 4 1),tI (aI p267 4 2),tI (aI p267 4 3),tI (aI p267 4 4),Tree.bool (aB p267 4 5),.str (aS p267 4 6),.sl 2 (aL p267 4 7)]])),(6,.box (upd (rb p280 6 0 BD) [(0,.t (tI (gI y282 0))),(1,.t (.sl 10 (gL y282 1))),(2,.t (tI (gI y282 2))),(3,.t (tI (gI y282 3))),(11,.t (tI (w64 (cI p280 6 11+1)))),(13,.sref 4 (AI p280 6 13+1) 0 (AH p280 6 13+1))]))])) none))))))) (AP (.box [AV.yld 40,.t (tI (cI p267 6 0)),.t (.sl 10 (cL p267 6 1)),.t (tI (cI p267 6 2)),.t (tI (cI p267 6 3))]) (.box [AV.yld 40,.t (tI (cI p280 6 0)),.t (.sl 10 (cL p280 6 1)),.t (tI (cI p280 6 2)),.t (tI (cI p280 6 3))]) (AP (.box [AV.yld 40,.t (tI (cI p267 6 0))]) (.box [AV.yld 40,.t (tI (cI p280 6 0))]) (AP (.row false (AD p267 4) 9 (oEs p267 4)) (.row false (AD p280 4) 9 (oEs p280 4)) (AP (.row false (AD p267 5) 9 (oEs p267 5)) (.row false (AD p280 5) 9 (oEs p280 5)) (AP (.row false (AD p267 0) 9 (oEs p267 0)) (.row false (AD p280 0) 9 (oEs p280 0)) (bd [0,13,0,0,0] (AA C n 156 (ct [0,13,0,0] p267 6 0 [tI (vI p267 3),tI (aI p267 4 0),tI (aI p267 4 1),tI (aI p267 4 2),tI (aI p267 4 3),tI (aI p267 4 4),.bool (aB p267 4 5),.str (aS p267 4 6),.sl 2 (aL p267 4 7),.sl 1 (gL y275 0)])) fun y283=>cnd (((gI y283 4) != 0)=true) (k268 ([],upd (rh p280 0 BV) [(6,.box (upd (rb p280 6 0 BD) [(12,.t (tI (w64 (cI p280 6 12+1))))]))])) (cnd (AD p280 4=AI p280 6 13∧(9=9∨9=0)∧AL p280 6 13+AH p280 6 13≤length (oEs p280 4)∧AH p280 6 13+1≤1073741824) (k268 ([],upd (rh p280 0 BV) [(4,.row false (AI p280 6 13+1) 9 (take (AH p280 6 13) (drop (AL p280 6 13) (oEs p280 4))++[[tI (vI p267 3),tI (aI p267 4 0),tI (aI p267 4 1),tI (aI p267 4 2),tI (aI p267 4 3),tI (aI p267 4 4),.bool (aB p267 4 5),.str (aS p267 4 6),.sl 2 (aL p267 4 7)]])),(6,.box (upd (rb p280 6 0 BD) [(0,.t (tI (gI y283 0))),(1,.t (.sl 10 (gL y283 1))),(2,.t (tI (gI y283 2))),(3,.t (tI (gI y283 3))),(11,.t (tI (w64 (cI p280 6 11+1)))),(12,.t (tI (w64 (cI p280 6 12+1)))),(13,.sref 4 (AI p280 6 13+1) 0 (AH p280 6 13+1))]))])) none)))))))
noncomputable def HY (n:Nat) (ff:Nat→Rec) (p267:ST) (y275:List Tree) (k268:KT) (p276:ST):RT:=cnd (vB p276 0=true) (AP (.box [AV.yld 40,.t (tI (cI p267 6 0)),.t (.sl 10 (cL p267 6 1)),.t (tI (cI p267 6 2)),.t (tI (cI p267 6 3))]) (.box [AV.yld 40,.t (tI (cI p276 6 0)),.t (.sl 10 (cL p276 6 1)),.t (tI (cI p276 6 2)),.t (tI (cI p276 6 3))]) (AP (.box [AV.yld 40,.t (tI (cI p267 6 0))]) (.box [AV.yld 40,.t (tI (cI p276 6 0))]) (AP (.row false (AD p267 4) 9 (oEs p267 4)) (.row false (AD p276 4) 9 (oEs p276 4)) (AP (.row false (AD p267 5) 9 (oEs p267 5)) (.row false (AD p276 5) 9 (oEs p276 5)) (AP (.row false (AD p267 0) 9 (oEs p267 0)) (.row false (AD p276 0) 9 (oEs p276 0)) (bd [0,13,0,0,0] (AA C n 156 (ct [0,13,0,0] p267 6 0 [tI (vI p267 3),tI (aI p267 4 0),tI (aI p267 4 1),tI (aI p267 4 2),tI (aI p267 4 3),tI (aI p267 4 4),.bool (aB p267 4 5),.str (aS p267 4 6),.sl 2 (aL p267 4 7),.sl 1 (gL y275 0)])) fun y279=>cnd (((gI y279 4) != 0)=true) (k268 ([],rh p276 0 BV)) (cnd (AD p276 4=AI p276 6 13∧(9=9∨9=0)∧AL p276 6 13+AH p276 6 13≤length (oEs p276 4)∧AH p276 6 13+1≤1073741824) (k268 ([],upd (rh p276 0 BV) [(4,.row false (AI p276 6 13+1) 9 (take (AH p276 6 13) (drop (AL p276 6 13) (oEs p276 4))++[[tI (vI p267 3),tI (aI p267 4 0),tI (aI p267 4 1),tI (aI p267 4 2),tI (aI p267 4 3),tI (aI p267 4 4),.bool (aB p267 4 5),.str (aS p267 4 6),.sl 2 (aL p267 4 7)]])),(6,.box (upd (rb p276 6 0 BD) [(0,.t (tI (gI y279 0))),(1,.t (.sl 10 (gL y279 1))),(2,.t (tI (gI y279 2))),(3,.t (tI (gI y279 3))),(11,.t (tI (w64 (cI p276 6 11+1)))),(13,.sref 4 (AI p276 6 13+1) 0 (AH p276 6 13+1))]))])) none))))))) (join (DY n ff p267 k268 y275) fun k281=>cnd (decide (cI p276 6 9≥(0:Int))=true) (k281 ([.t (.bool (decide (cI p276 6 12≥cI p276 6 9)))],rh p276 0 Kz)) (k281 ([.t (.bool false)],rh p276 0 Kz)))
noncomputable def HX (n:Nat) (ff:Nat→Rec) (p267:ST) (y288:List Tree) (k268:KT) (p289:ST):RT:=cnd (vB p289 0=true) (AP (.box [AV.yld 40,.t (tI (cI p267 6 0)),.t (.sl 10 (cL p267 6 1)),.t (tI (cI p267 6 2)),.t (tI (cI p267 6 3))]) (.box [AV.yld 40,.t (tI (cI p289 6 0)),.t (.sl 10 (cL p289 6 1)),.t (tI (cI p289 6 2)),.t (tI (cI p289 6 3))]) (AP (.box [AV.yld 40,.t (tI (cI p267 6 0))]) (.box [AV.yld 40,.t (tI (cI p289 6 0))]) (AP (.row false (AD p267 4) 9 (oEs p267 4)) (.row false (AD p289 4) 9 (oEs p289 4)) (AP (.row false (AD p267 5) 9 (oEs p267 5)) (.row false (AD p289 5) 9 (oEs p289 5)) (AP (.row false (AD p267 0) 9 (oEs p267 0)) (.row false (AD p289 0) 9 (oEs p289 0)) (bd [0,13,0,0,0] (AA C n 156 (ct [0,13,0,0] p267 6 0 [tI (vI p267 3),tI (aI p267 4 0),tI (aI p267 4 1),tI (aI p267 4 2),tI (aI p267 4 3),tI (aI p267 4 4),.bool (aB p267 4 5),.str (aS p267 4 6),.sl 2 (aL p267 4 7),.sl 1 (gL y288 0)])) fun y292=>cnd (((gI y292 4) != 0)=true) (k268 ([],rh p289 0 BV)) (cnd (AD p289 4=AI p289 6 13∧(9=9∨9=0)∧AL p289 6 13+AH p289 6 13≤length (oEs p289 4)∧AH p289 6 13+1≤1073741824) (k268 ([],upd (rh p289 0 BV) [(4,.row false (AI p289 6 13+1) 9 (take (AH p289 6 13) (drop (AL p289 6 13) (oEs p289 4))++[[tI (vI p267 3),tI (aI p267 4 0),tI (aI p267 4 1),tI (aI p267 4 2),tI (aI p267 4 3),tI (aI p267 4 4),.bool (aB p267 4 5),.str (aS p267 4 6),.sl 2 (aL p267 4 7)]])),(6,.box (upd (rb p289 6 0 BD) [(0,.t (tI (gI y292 0))),(1,.t (.sl 10 (gL y292 1))),(2,.t (tI (gI y292 2))),(3,.t (tI (gI y292 3))),(11,.t (tI (w64 (cI p289 6 11+1)))),(13,.sref 4 (AI p289 6 13+1) 0 (AH p289 6 13+1))]))])) none))))))) (join (DY n ff p267 k268 y288) fun k294=>cnd (decide (cI p289 6 9≥(0:Int))=true) (k294 ([.t (.bool (decide (cI p289 6 12≥cI p289 6 9)))],rh p289 0 BV)) (k294 ([.t (.bool false)],rh p289 0 BV)))
noncomputable def Ys (n:Nat) (ff:Nat→Rec) (k268:KT) (p267:ST):RT:=ff 9 (List Tree) (.fn 144 [AV.ptr 6 0,AV.ptr 6 0,.t (tI 0),.t (tI (vI p267 3)),AV.agg (tv [tI (aI p267 4 0),tI (aI p267 4 1),tI (aI p267 4 2),tI (aI p267 4 3),tI (aI p267 4 4),.bool (aB p267 4 5),.str (aS p267 4 6),.sl 2 (aL p267 4 7)])]) (rh p267 0 Bu) fun rs h1=>cnd (Ay C.P (As C.P 144) rs=true) (DK (rh p267 0 Bu) h1 fun hs=>k268 (rs,hs)) none
noncomputable def HT (n:Nat) (ff:Nat→Rec) (k268:KT) (p267:ST):RT:=cnd (decide (cI p267 6 11≥(10000:Int))=true) (k268 ([],rh p267 0 BV)) (both (bd [1] (AA C n 175 [.sl 2 (cL p267 6 10),tI (vI p267 3)]) fun y271=>cnd (gB y271 0=true) (AP (.box [AV.yld 40,.t (tI (cI p267 6 0)),.t (.sl 10 (cL p267 6 1)),.t (tI (cI p267 6 2)),.t (tI (cI p267 6 3))]) (.box [AV.yld 40,.t (tI (cI p267 6 0)),.t (.sl 10 (cL p267 6 1)),.t (tI (cI p267 6 2)),.t (tI (cI p267 6 3))]) (AP (.box [AV.yld 40,.t (tI (cI p267 6 0))]) (.box [AV.yld 40,.t (tI (cI p267 6 0))]) (AP (.row false (AD p267 4) 9 (oEs p267 4)) (.row false (AD p267 4) 9 (oEs p267 4)) (AP (.row false (AD p267 5) 9 (oEs p267 5)) (.row false (AD p267 5) 9 (oEs p267 5)) (AP (.row false (AD p267 0) 9 (oEs p267 0)) (.row false (AD p267 0) 9 (oEs p267 0)) (bd [0,13,0,0,0] (AA C n 156 (ct [0,13,0,0] p267 6 0 [tI (vI p267 3),tI (aI p267 4 0),tI (aI p267 4 1),tI (aI p267 4 2),tI (aI p267 4 3),tI (aI p267 4 4),.bool (aB p267 4 5),.str (aS p267 4 6),.sl 2 (aL p267 4 7),.sl 1 []])) fun y272=>cnd (((gI y272 4) != 0)=true) (k268 ([],rh p267 0 BV)) (cnd (AD p267 4=AI p267 6 13∧(9=9∨9=0)∧AL p267 6 13+AH p267 6 13≤length (oEs p267 4)∧AH p267 6 13+1≤1073741824) (k268 ([],upd (rh p267 0 BV) [(4,.row false (AI p267 6 13+1) 9 (take (AH p267 6 13) (drop (AL p267 6 13) (oEs p267 4))++[[tI (vI p267 3),tI (aI p267 4 0),tI (aI p267 4 1),tI (aI p267 4 2),tI (aI p267 4 3),tI (aI p267 4 4),.bool (aB p267 4 5),.str (aS p267 4 6),.sl 2 (aL p267 4 7)]])),(6,.box (upd (rb p267 6 0 BD) [(0,.t (tI (gI y272 0))),(1,.t (.sl 10 (gL y272 1))),(2,.t (tI (gI y272 2))),(3,.t (tI (gI y272 3))),(11,.t (tI (w64 (cI p267 6 11+1)))),(13,.sref 4 (AI p267 6 13+1) 0 (AH p267 6 13+1))]))])) none))))))) (cnd (((length (cL p267 6 8):Int)==0)=true) (AP (.box [AV.yld 40,.t (tI (cI p267 6 0)),.t (.sl 10 (cL p267 6 1)),.t (tI (cI p267 6 2)),.t (tI (cI p267 6 3))]) (.box [AV.yld 40,.t (tI (cI p267 6 0)),.t (.sl 10 (cL p267 6 1)),.t (tI (cI p267 6 2)),.t (tI (cI p267 6 3))]) (AP (.box [AV.yld 40,.t (tI (cI p267 6 0))]) (.box [AV.yld 40,.t (tI (cI p267 6 0))]) (AP (.row false (AD p267 4) 9 (oEs p267 4)) (.row false (AD p267 4) 9 (oEs p267 4)) (AP (.row false (AD p267 5) 9 (oEs p267 5)) (.row false (AD p267 5) 9 (oEs p267 5)) (AP (.row false (AD p267 0) 9 (oEs p267 0)) (.row false (AD p267 0) 9 (oEs p267 0)) (bd [0,13,0,0,0] (AA C n 156 (ct [0,13,0,0] p267 6 0 [tI (vI p267 3),tI (aI p267 4 0),tI (aI p267 4 1),tI (aI p267 4 2),tI (aI p267 4 3),tI (aI p267 4 4),.bool (aB p267 4 5),.str (aS p267 4 6),.sl 2 (aL p267 4 7),.sl 1 [[tI (cI p267 6 0)]]])) fun y273=>cnd (((gI y273 4) != 0)=true) (k268 ([],rh p267 0 BV)) (cnd (AD p267 4=AI p267 6 13∧(9=9∨9=0)∧AL p267 6 13+AH p267 6 13≤length (oEs p267 4)∧AH p267 6 13+1≤1073741824) (k268 ([],upd (rh p267 0 BV) [(4,.row false (AI p267 6 13+1) 9 (take (AH p267 6 13) (drop (AL p267 6 13) (oEs p267 4))++[[tI (vI p267 3),tI (aI p267 4 0),tI (aI p267 4 1),tI (aI p267 4 2),tI (aI p267 4 3),tI (aI p267 4 4),.bool (aB p267 4 5),.str (aS p267 4 6),.sl 2 (aL p267 4 7)]])),(6,.box (upd (rb p267 6 0 BD) [(0,.t (tI (gI y273 0))),(1,.t (.sl 10 (gL y273 1))),(2,.t (tI (gI y273 2))),(3,.t (tI (gI y273 3))),(11,.t (tI (w64 (cI p267 6 11+1)))),(13,.sref 4 (AI p267 6 13+1) 0 (AH p267 6 13+1))]))])) none))))))) (cnd ((length (cL p267 6 8):Int)=0) none (cnd (1=1∧0≤tmod (cI p267 6 11) (length (cL p267 6 8):Int)) (Option.bind (cL p267 6 8)[toNat (tmod (cI p267 6 11) (length (cL p267 6 8):Int))]? fun y274=>cnd (okI y274 0) (bd [4,0] (AA C n 176 [tI (gI y274 0),tI (cI p267 6 0)]) fun y275=>join (HY n ff p267 y275 k268) fun k277=>cnd (decide ((length (gL y275 0):Int)>0)=true) (Option.bind (gL y275 0)[0]? fun y278=>cnd (okI y278 0) (k277 ([.t (.bool (gI y278 0==cI p267 6 0))],upd (rh p267 0 Kz) [(7,.box (tv (zt [0,13,0,0] [])))])) none) (k277 ([.t (.bool false)],upd (rh p267 0 Kz) [(7,.box (tv (zt [0,13,0,0] [])))]))) none) none)))) (bd [1] (AA C n 175 [.sl 2 (cL p267 6 10),tI (vI p267 3)]) fun y284=>cnd (gB y284 0=true) (AP (.box [AV.yld 40,.t (tI (cI p267 6 0)),.t (.sl 10 (cL p267 6 1)),.t (tI (cI p267 6 2)),.t (tI (cI p267 6 3))]) (.box [AV.yld 40,.t (tI (cI p267 6 0)),.t (.sl 10 (cL p267 6 1)),.t (tI (cI p267 6 2)),.t (tI (cI p267 6 3))]) (AP (.box [AV.yld 40,.t (tI (cI p267 6 0))]) (.box [AV.yld 40,.t (tI (cI p267 6 0))]) (AP (.row false (AD p267 4) 9 (oEs p267 4)) (.row false (AD p267 4) 9 (oEs p267 4)) (AP (.row false (AD p267 5) 9 (oEs p267 5)) (.row false (AD p267 5) 9 (oEs p267 5)) (AP (.row false (AD p267 0) 9 (oEs p267 0)) (.row false (AD p267 0) 9 (oEs p267 0)) (bd [0,13,0,0,0] (AA C n 156 (ct [0,13,0,0] p267 6 0 [tI (vI p267 3),tI (aI p267 4 0),tI (aI p267 4 1),tI (aI p267 4 2),tI (aI p267 4 3),tI (aI p267 4 4),.bool (aB p267 4 5),.str (aS p267 4 6),.sl 2 (aL p267 4 7),.sl 1 []])) fun y285=>cnd (((gI y285 4) != 0)=true) (k268 ([],rh p267 0 BV)) (cnd (AD p267 4=AI p267 6 13∧(9=9∨9=0)∧AL p267 6 13+AH p267 6 13≤length (oEs p267 4)∧AH p267 6 13+1≤1073741824) (k268 ([],upd (rh p267 0 BV) [(4,.row false (AI p267 6 13+1) 9 (take (AH p267 6 13) (drop (AL p267 6 13) (oEs p267 4))++[[tI (vI p267 3),tI (aI p267 4 0),tI (aI p267 4 1),tI (aI p267 4 2),tI (aI p267 4 3),tI (aI p267 4 4),.bool (aB p267 4 5),.str (aS p267 4 6),.sl 2 (aL p267 4 7)]])),(6,.box (upd (rb p267 6 0 BD) [(0,.t (tI (gI y285 0))),(1,.t (.sl 10 (gL y285 1))),(2,.t (tI (gI y285 2))),(3,.t (tI (gI y285 3))),(11,.t (tI (w64 (cI p267 6 11+1)))),(13,.sref 4 (AI p267 6 13+1) 0 (AH p267 6 13+1))]))])) none))))))) (cnd (((length (cL p267 6 8):Int)==0)=true) (AP (.box [AV.yld 40,.t (tI (cI p267 6 0)),.t (.sl 10 (cL p267 6 1)),.t (tI (cI p267 6 2)),.t (tI (cI p267 6 3))]) (.box [AV.yld 40,.t (tI (cI p267 6 0)),.t (.sl 10 (cL p267 6 1)),.t (tI (cI p267 6 2)),.t (tI (cI p267 6 3))]) (AP (.box [AV.yld 40,.t (tI (cI p267 6 0))]) (.box [AV.yld 40,.t (tI (cI p267 6 0))]) (AP (.row false (AD p267 4) 9 (oEs p267 4)) (.row false (AD p267 4) 9 (oEs p267 4)) (AP (.row false (AD p267 5) 9 (oEs p267 5)) (.row false (AD p267 5) 9 (oEs p267 5)) (AP (.row false (AD p267 0) 9 (oEs p267 0)) (.row false (AD p267 0) 9 (oEs p267 0)) (bd [0,13,0,0,0] (AA C n 156 (ct [0,13,0,0] p267 6 0 [tI (vI p267 3),tI (aI p267 4 0),tI (aI p267 4 1),tI (aI p267 4 2),tI (aI p267 4 3),tI (aI p267 4 4),.bool (aB p267 4 5),.str (aS p267 4 6),.sl 2 (aL p267 4 7),.sl 1 [[tI (cI p267 6 0)]]])) fun y286=>cnd (((gI y286 4) != 0)=true) (k268 ([],rh p267 0 BV)) (cnd (AD p267 4=AI p267 6 13∧(9=9∨9=0)∧AL p267 6 13+AH p267 6 13≤length (oEs p267 4)∧AH p267 6 13+1≤1073741824) (k268 ([],upd (rh p267 0 BV) [(4,.row false (AI p267 6 13+1) 9 (take (AH p267 6 13) (drop (AL p267 6 13) (oEs p267 4))++[[tI (vI p267 3),tI (aI p267 4 0),tI (aI p267 4 1),tI (aI p267 4 2),tI (aI p267 4 3),tI (aI p267 4 4),.bool (aB p267 4 5),.str (aS p267 4 6),.sl 2 (aL p267 4 7)]])),(6,.box (upd (rb p267 6 0 BD) [(0,.t (tI (gI y286 0))),(1,.t (.sl 10 (gL y286 1))),(2,.t (tI (gI y286 2))),(3,.t (tI (gI y286 3))),(11,.t (tI (w64 (cI p267 6 11+1)))),(13,.sref 4 (AI p267 6 13+1) 0 (AH p267 6 13+1))]))])) none))))))) (cnd ((length (cL p267 6 8):Int)=0) none (cnd (1=1∧0≤tmod (cI p267 6 11) (length (cL p267 6 8):Int)) (Option.bind (cL p267 6 8)[toNat (tmod (cI p267 6 11) (length (cL p267 6 8):Int))]? fun y287=>cnd (okI y287 0) (bd [4,0] (AA C n 176 [tI (gI y287 0),tI (cI p267 6 0)]) fun y288=>join (HX n ff p267 y288 k268) fun k290=>cnd (decide ((length (gL y288 0):Int)>0)=true) (Option.bind (gL y288 0)[0]? fun y291=>cnd (okI y291 0) (k290 ([.t (.bool (gI y291 0==cI p267 6 0))],rh p267 0 BV)) none) (k290 ([.t (.bool false)],rh p267 0 BV))) none) none)))))
theorem vC28_6 (n:Nat) (ff:Nat→Rec) (k268:KT) (p267:ST):Cy C (Es C (pcx C (AA C n)) n ff ED 8) (pcx C (AA C n)) n 144 [AV.ptr 6 0,AV.ptr 6 0,.t (tI 0),.t (tI (vI p267 3)),AV.agg (tv [tI (aI p267 4 0),tI (aI p267 4 1),tI (aI p267 4 2),tI (aI p267 4 3),tI (aI p267 4 4),.bool (aB p267 4 5),.str (aS p267 4 6),.sl 2 (aL p267 4 7)])] (rh p267 0 Bu) (fun rs h1=>cnd (Ay C.P (As C.P 144) rs=true) (DK (rh p267 0 Bu) h1 fun hs=>k268 (rs,hs)) none)=HT n ff k268 p267:=by kernel_rfl
theorem F3 (n:Nat) (k268:KT) (p267:ST):Ys n (fI C n) k268 p267=HT n (fI C n) k268 p267:=(E3 C n ED 8 _ 144 _ _ _).trans (vC28_6 n (fI C n) k268 p267)
noncomputable def Yd (n:Nat) (ff:Nat→Rec) (k262:KT) (p297:ST):RT:=cnd (AD p297 0=AI p297 6 35∧(9=9∨9=0)) (cnd ((0:Int)≤1∧1≤(AH p297 6 35:Int)) (k262 ([],upd (rh p297 0 BV) [(6,.box (upd (rb p297 6 0 BD) [(35,.sref 0 (AI p297 6 35) (AL p297 6 35+1) (AH p297 6 35-1))]))])) none) none
noncomputable def P8 (n:Nat) (ff:Nat→Rec) (k262:KT) (p259:ST) (k260:KT) (p263:ST):RT:=cnd (vB p263 0=true) (cnd (AD p263 0=AI p263 6 35∧9=9∧(0:Int)≤0∧0<(AH p263 6 35:Int)) (cnd (AD p263 0=AI p263 6 35) (cnd (AD p263 0=AI p263 6 35) (Option.bind (oEs p263 0)[AL p263 6 35]? fun y266=>bk kG 1 y266 (join (Yd n ff k262) fun k298=>Ys n ff k298 ([AV.ptr 6 0,AV.ptr 6 0,.t (tI 0),.t (tI (cI p263 6 15)),AV.agg (tv (gt kG y266 1 []))],upd (rh p263 0 Bu) [(1,.row true (AD p259 1) 15 (oEs p259 1)),(2,.row true (AD p259 2) 4 (oEs p259 2)),(3,.row true (AD p259 3) 4 (oEs p259 3))]))) none) none) none) (k260 ([],rh p263 0 BV))
noncomputable def NR (n:Nat) (ff:Nat→Rec) (p259:ST) (k260:KT) (p261:ST) (k262:KT):RT:=join (P8 n ff k262 p259 k260) fun k264=>cnd (AD p261 0=AI p261 6 35) (cnd (decide ((AH p261 6 35:Int)>0)=true) (cnd (AD p261 0=AI p261 6 35∧9=9∧(0:Int)≤0∧0<(AH p261 6 35:Int)) (cnd (AD p261 0=AI p261 6 35) (cnd (AD p261 0=AI p261 6 35) (Option.bind (oEs p261 0)[AL p261 6 35]? fun y265=>cnd (okI y265 0) (k264 ([.t (.bool (gI y265 0==cI p261 6 15))],rh p261 0 BV)) none) none) none) none) (k264 ([.t (.bool false)],rh p261 0 BV))) none
noncomputable def Yr (n:Nat) (ff:Nat→Rec) (k260:KT) (p259:ST):RT:=ff 10 (List Tree) (.fn 124 [AV.ptr 6 0]) (rh p259 0 Bu) fun rs h1=>cnd (Ay C.P (As C.P 124) rs=true) (DK (rh p259 0 Bu) h1 fun hs=>k260 (rs,hs)) none
noncomputable def YP (n:Nat) (ff:Nat→Rec) (k260:KT) (p259:ST):RT:=AK (NR n ff p259 k260) n ([],rh p259 0 BV)
theorem vC28_7 (n:Nat) (ff:Nat→Rec) (k260:KT) (p259:ST):Cy C (Es C (pcx C (AA C n)) n ff ED 9) (pcx C (AA C n)) n 124 [AV.ptr 6 0] (rh p259 0 Bu) (fun rs h1=>cnd (Ay C.P (As C.P 124) rs=true) (DK (rh p259 0 Bu) h1 fun hs=>k260 (rs,hs)) none)=YP n ff k260 p259:=by kernel_rfl
theorem tC28_7 (n:Nat) (k260:KT) (p259:ST):Yr n (fI C n) k260 p259=YP n (fI C n) k260 p259:=(E3 C n ED 9 _ 124 _ _ _).trans (vC28_7 n (fI C n) k260 p259)
noncomputable def Yc (n:Nat) (ff:Nat→Rec) (k85:KT) (p301:ST):RT:=k85 (tv [tI (vI p301 0),.bool (vB p301 1)],rh p301 0 BV)
noncomputable def Iy (n:Nat) (ff:Nat→Rec) (p17:ST) (k85:KT) (p86:ST) (k87:KT):RT:=cnd (decide (vI p86 0<4)=true) (cnd (0≤vI p86 0∧vI p86 0<4) (cnd (vI p86 0=(3:Int)) (join (Hb n ff k87 p86) fun k100=>Yw n ff k100 ([AV.ptr 6 0],upd (rh p86 0 Bu) [(1,.row true (AD p17 1) 15 (oEs p17 1)),(2,.row true (AD p17 2) 4 (oEs p17 2)),(3,.row true (AD p17 3) 4 (oEs p17 3))])) (cnd (vI p86 0=(2:Int)) (join (Hb n ff k87 p86) fun k166=>Yv n ff k166 ([AV.ptr 6 0],upd (rh p86 0 Bu) [(1,.row true (AD p17 1) 15 (oEs p17 1)),(2,.row true (AD p17 2) 4 (oEs p17 2)),(3,.row true (AD p17 3) 4 (oEs p17 3))])) (cnd (vI p86 0=(1:Int)) (join (Hb n ff k87 p86) fun k258=>Yt n ff k258 ([AV.ptr 6 0],upd (rh p86 0 Bu) [(1,.row true (AD p17 1) 15 (oEs p17 1)),(2,.row true (AD p17 2) 4 (oEs p17 2)),(3,.row true (AD p17 3) 4 (oEs p17 3))])) (cnd (vI p86 0=(0:Int)) (join (Hb n ff k87 p86) fun k300=>Yr n ff k300 ([AV.ptr 6 0],upd (rh p86 0 Bu) [(1,.row true (AD p17 1) 15 (oEs p17 1)),(2,.row true (AD p17 2) 4 (oEs p17 2)),(3,.row true (AD p17 3) 4 (oEs p17 3))])) none)))) none) (join (Yc n ff k85) fun k302=>VI n ff k302 ([AV.ptr 6 0],upd (rh p86 0 Bu) [(1,.row true (AD p17 1) 15 (oEs p17 1)),(2,.row true (AD p17 2) 4 (oEs p17 2)),(3,.row true (AD p17 3) 4 (oEs p17 3))]))
noncomputable def NQ (n:Nat) (ff:Nat→Rec) (p17:ST) (k18:KT) (p84:ST) (k85:KT):RT:=cnd (vB p84 1=true) (AK (Iy n ff p17 k85) n ([.t (tI 0)],upd (rh p84 0 BV) [(6,.box (upd (rb p84 6 0 BD) [(15,.t (tI (vI p84 0)))]))])) (k18 ([],rh p84 0 BV))
noncomputable def Yb (n:Nat) (ff:Nat→Rec) (p17:ST) (k18:KT) (p82:ST):RT:=AK (NQ n ff p17 k18) n (tv [tI (vI p82 0),.bool (vB p82 1)],rh p82 0 BV)
noncomputable def VH (n:Nat) (ff:Nat→Rec) (k18:KT) (p17:ST):RT:=ff 11 (List Tree) (.fn 71 [AV.ptr 6 0]) (rh p17 0 Bu) fun rs h1=>cnd (Ay C.P (As C.P 71) rs=true) (DK (rh p17 0 Bu) h1 fun hs=>k18 (rs,hs)) none
noncomputable def YO (n:Nat) (ff:Nat→Rec) (k18:KT) (p17:ST):RT:=join (Yb n ff p17 k18) fun k83=>VI n ff k83 ([AV.ptr 6 0],rh p17 0 Bu)
theorem vC28_8 (n:Nat) (ff:Nat→Rec) (k18:KT) (p17:ST):Cy C (Es C (pcx C (AA C n)) n ff ED 10) (pcx C (AA C n)) n 71 [AV.ptr 6 0] (rh p17 0 Bu) (fun rs h1=>cnd (Ay C.P (As C.P 71) rs=true) (DK (rh p17 0 Bu) h1 fun hs=>k18 (rs,hs)) none)=YO n ff k18 p17:=by kernel_rfl
theorem tC28_8 (n:Nat) (k18:KT) (p17:ST):VH n (fI C n) k18 p17=YO n (fI C n) k18 p17:=(E3 C n ED 10 _ 71 _ _ _).trans (vC28_8 n (fI C n) k18 p17)
noncomputable def TW (n:Nat) (ff:Nat→Rec) (p303:ST):RT:=cnd ((false=true∨false=false)∧AD p303 4=AI p303 6 13∧(9=9∨9=0)) (cnd ((false=true∨false=false)∧AD p303 5=AI p303 6 14∧(9=9∨9=0)) (some [.sl 9 (take (AH p303 6 13) (drop (AL p303 6 13) (oEs p303 4))),.sl 9 (take (AH p303 6 14) (drop (AL p303 6 14) (oEs p303 5))),tI 0]) none) none
theorem v28 (n:Nat) (ff:Nat→Rec) (a0 a1 a2 a3 a4 a5 a6 a7 a8:Int) (a9:ByteArray) (a10:TT) (a11:Int) (a12:TT):JQ C (Es C (pcx C (AA C n)) n ff ED C.depth) (pcx C (AA C n)) n 28 [tI a0,tI a1,tI a2,tI a3,tI a4,tI a5,tI a6,tI a7,tI a8,.str a9,.sl 1 a10,tI a11,.sl 2 a12]=cnd (decide ((length a10:Int)>1000)=true) (some [.sl 9 [],.sl 9 [],tI 4]) (cnd (decide (a11<(-1))=true) (some [.sl 9 [],.sl 9 [],tI 2]) (bd [0] (AA C n 67 [.sl 2 a12]) fun y13=>cnd (((gI y13 0) != 0)=true) (some [.sl 9 [],.sl 9 [],tI 1]) (bd [0,0,0,0,0,0,0,0,2,0,0,0,5,0,0,12,0] (AA C n 2004367 [tI a0,tI a1,tI a2,tI a3,tI a4,tI a5,tI a6,tI 0,.str a9,tI a7,tI a8]) fun y14=>cnd (((gI y14 16) != 0)=true) (cnd (((gI y14 16) != 0)=true) (some [.sl 9 [],.sl 9 [],tI (gI y14 16)]) none) (bd [0,13,0,0,0] (AA C n 69 [tI a5]) fun y15=>bd [0,0,5,2,0] (AA C n 70 [tI 0]) fun y16=>join (TW n ff) fun k304=>VH n ff k304 ([AV.ptr 6 0],[.row false 0 9 (gL y14 15),.row true 0 15 [[tI (gI y14 0),tI (gI y14 1),tI (gI y14 2),tI (gI y14 3),tI (gI y14 4),tI (gI y14 5),tI (gI y14 6),tI (gI y14 7),.str (gS y14 8),tI (gI y14 9),tI (gI y14 10),tI (gI y14 11),.sl 2 (gL y14 12),tI (gI y14 13),tI (gI y14 14)]],.row true 0 4 [[tI (gI y15 0),.sl 10 (gL y15 1),tI (gI y15 2),tI (gI y15 3)]],.row true 0 4 [[tI (gI y16 0),tI (gI y16 1),.sl 2 (gL y16 2),.str (gS y16 3)]],.row false 0 9 [],.row false 0 9 [],.box [.t (tI (gI y15 0)),.t (.sl 10 (gL y15 1)),.t (tI (gI y15 2)),.t (tI (gI y15 3)),.t (tI (gI y15 0)),.t (.sl 10 (gL y15 1)),.t (tI (gI y15 2)),.t (tI (gI y15 3)),.t (.sl 1 a10),.t (tI a11),.t (.sl 2 a12),.t (tI 0),.t (tI 0),.sref 4 0 0 0,.sref 5 0 0 0,.t (tI 0),.t (tI (gI y14 0)),.t (tI (gI y14 1)),.t (tI (gI y14 2)),.t (tI (gI y14 3)),.t (tI (gI y14 4)),.t (tI (gI y14 5)),.t (tI (gI y14 6)),.t (tI (gI y14 7)),.t (.str (gS y14 8)),.t (tI (gI y14 9)),.t (tI (gI y14 10)),.t (tI (gI y14 11)),.t (.sl 2 (gL y14 12)),.t (tI (gI y14 13)),.t (tI (gI y14 14)),.t (tI (gI y16 0)),.t (tI (gI y16 1)),.t (.sl 2 (gL y16 2)),.t (.str (gS y16 3)),.sref 0 0 0 (length (gL y14 15)),.t (.bool false),.t (tI 0),.t (.bool false),.t (tI 0)]]))))):=by kernel_rfl
theorem u28 (a0:Int) (a1:Int) (a2:Int) (a3:Int) (a4:Int) (a5:Int) (a6:Int) (a7:Int) (a8:Int) (a9:ByteArray) (a10:List (List Tree)) (a11:Int) (a12:List (List Tree)):C.ext 28 [tI a0,tI a1,tI a2,tI a3,tI a4,tI a5,tI a6,tI a7,tI a8,.str a9,.sl 1 a10,tI a11,.sl 2 a12]=none:=by kernel_rfl
theorem e28 (n:Nat) (a0 a1 a2 a3 a4 a5 a6 a7 a8:Int) (a9:ByteArray) (a10:TT) (a11:Int) (a12:TT):AA C (n+1) 28 [tI a0,tI a1,tI a2,tI a3,tI a4,tI a5,tI a6,tI a7,tI a8,.str a9,.sl 1 a10,tI a11,.sl 2 a12]=cnd (decide ((length a10:Int)>1000)=true) (some [.sl 9 [],.sl 9 [],tI 4]) (cnd (decide (a11<(-1))=true) (some [.sl 9 [],.sl 9 [],tI 2]) (bd [0] (AA C n 67 [.sl 2 a12]) fun y13=>cnd (((gI y13 0) != 0)=true) (some [.sl 9 [],.sl 9 [],tI 1]) (bd [0,0,0,0,0,0,0,0,2,0,0,0,5,0,0,12,0] (AA C n 2004367 [tI a0,tI a1,tI a2,tI a3,tI a4,tI a5,tI a6,tI 0,.str a9,tI a7,tI a8]) fun y14=>cnd (((gI y14 16) != 0)=true) (cnd (((gI y14 16) != 0)=true) (some [.sl 9 [],.sl 9 [],tI (gI y14 16)]) none) (bd [0,13,0,0,0] (AA C n 69 [tI a5]) fun y15=>bd [0,0,5,2,0] (AA C n 70 [tI 0]) fun y16=>join (fun (p303:ST)=>TW n (fI C n) p303) fun k304=>VH n (fI C n) k304 ([AV.ptr 6 0],[.row false 0 9 (gL y14 15),.row true 0 15 [[tI (gI y14 0),tI (gI y14 1),tI (gI y14 2),tI (gI y14 3),tI (gI y14 4),tI (gI y14 5),tI (gI y14 6),tI (gI y14 7),.str (gS y14 8),tI (gI y14 9),tI (gI y14 10),tI (gI y14 11),.sl 2 (gL y14 12),tI (gI y14 13),tI (gI y14 14)]],.row true 0 4 [[tI (gI y15 0),.sl 10 (gL y15 1),tI (gI y15 2),tI (gI y15 3)]],.row true 0 4 [[tI (gI y16 0),tI (gI y16 1),.sl 2 (gL y16 2),.str (gS y16 3)]],.row false 0 9 [],.row false 0 9 [],.box [.t (tI (gI y15 0)),.t (.sl 10 (gL y15 1)),.t (tI (gI y15 2)),.t (tI (gI y15 3)),.t (tI (gI y15 0)),.t (.sl 10 (gL y15 1)),.t (tI (gI y15 2)),.t (tI (gI y15 3)),.t (.sl 1 a10),.t (tI a11),.t (.sl 2 a12),.t (tI 0),.t (tI 0),.sref 4 0 0 0,.sref 5 0 0 0,.t (tI 0),.t (tI (gI y14 0)),.t (tI (gI y14 1)),.t (tI (gI y14 2)),.t (tI (gI y14 3)),.t (tI (gI y14 4)),.t (tI (gI y14 5)),.t (tI (gI y14 6)),.t (tI (gI y14 7)),.t (.str (gS y14 8)),.t (tI (gI y14 9)),.t (tI (gI y14 10)),.t (tI (gI y14 11)),.t (.sl 2 (gL y14 12)),.t (tI (gI y14 13)),.t (tI (gI y14 14)),.t (tI (gI y16 0)),.t (tI (gI y16 1)),.t (.sl 2 (gL y16 2)),.t (.str (gS y16 3)),.sref 0 0 0 (length (gL y14 15)),.t (.bool false),.t (tI 0),.t (.bool false),.t (tI 0)]]))))):=(NB C n 28 _ (by decide) (u28 a0 a1 a2 a3 a4 a5 a6 a7 a8 a9 a10 a11 a12)).trans ((pureO C n ED 28 _).symm.trans (v28 n (fI C n) a0 a1 a2 a3 a4 a5 a6 a7 a8 a9 a10 a11 a12))
end Ab
set_option linter.unusedVariables false
set_option linter.unusedSimpArgs false
set_option maxRecDepth 100000
namespace Ab
open Go
def Ac (g:Gh) (s:Ses):List AV:=[.t (tI s.dat.rng),.t (.sl 10 (s.dat.frames.map Frame.enc)),.t (tI s.dat.sent),.t (tI s.dat.lost),.t (tI s.rep.rng),.t (.sl 10 (s.rep.frames.map Frame.enc)),.t (tI s.rep.sent),.t (tI s.rep.lost),.t (.sl 1 (s.picks.map BY)),.t (tI s.limit),.t (.sl 2 (s.dark.map Span.enc)),.t (tI s.entered),.t (tI s.dist),.sref 4 g.v4 0 s.sent.length,.sref 5 g.v5 0 s.told.length,.t (tI s.now),.t (tI s.snd.c.frm),.t (tI s.snd.c.dst),.t (tI s.snd.c.start),.t (tI s.snd.c.fin),.t (tI s.snd.c.rate),.t (tI s.snd.c.rng),.t (tI s.snd.c.loss),.t (tI s.snd.ses),.t (.str s.snd.data),.t (tI s.snd.fin),.t (tI s.snd.busy),.t (tI s.snd.ser),.t (.sl 2 (s.snd.acked.map Span.enc)),.t (tI s.snd.due),.t (tI s.snd.st),.t (tI s.rcv.ses),.t (tI s.rcv.tot),.t (.sl 2 (s.rcv.known.map Span.enc)),.t (.str s.rcv.data),.sref 0 g.v0 g.pre.length s.pend.length,.t (.bool s.rcvd),.t (tI s.arrive),.t (.bool s.kno),.t (tI s.knoAt)]
def AR (f1 f2 f3:AF) (v0:Nat) (e0:List (List Tree)) (v4:Nat) (e4:List (List Tree)) (v5:Nat) (e5:List (List Tree)) (c:List AV) (tl:Heap):Heap:=
 .row false v0 9 e0::f1::f2::f3 :: .row false v4 9 e4 :: .row false v5 9 e5 :: .box c::tl
def H28 (f1 f2 f3:AF) (g:Gh) (s:Ses) (tl:Heap):Heap:=AR f1 f2 f3 g.v0 (g.pre++s.pend.map Out.enc) g.v4 (s.sent.map Out.enc) g.v5 (s.told.map Out.enc) (Ac g s) tl
theorem rd28 :
 (∀(e:List AV) (f1 f2 f3:AF) (v0:Nat) (e0:List (List Tree)) (v4:Nat) (e4:List (List Tree)) (v5:Nat) (e5:List (List Tree)) (g:Gh) (s:Ses) (tl:Heap),
  cI (e,AR f1 f2 f3 v0 e0 v4 e4 v5 e5 (Ac g s) tl) 6 0=s.dat.rng∧
  cL (e,AR f1 f2 f3 v0 e0 v4 e4 v5 e5 (Ac g s) tl) 6 1=s.dat.frames.map Frame.enc∧
  cI (e,AR f1 f2 f3 v0 e0 v4 e4 v5 e5 (Ac g s) tl) 6 2=s.dat.sent∧
  cI (e,AR f1 f2 f3 v0 e0 v4 e4 v5 e5 (Ac g s) tl) 6 3=s.dat.lost∧
  cI (e,AR f1 f2 f3 v0 e0 v4 e4 v5 e5 (Ac g s) tl) 6 4=s.rep.rng∧
  cL (e,AR f1 f2 f3 v0 e0 v4 e4 v5 e5 (Ac g s) tl) 6 5=s.rep.frames.map Frame.enc∧
  cI (e,AR f1 f2 f3 v0 e0 v4 e4 v5 e5 (Ac g s) tl) 6 6=s.rep.sent∧
  cI (e,AR f1 f2 f3 v0 e0 v4 e4 v5 e5 (Ac g s) tl) 6 7=s.rep.lost∧
  cL (e,AR f1 f2 f3 v0 e0 v4 e4 v5 e5 (Ac g s) tl) 6 8=s.picks.map BY∧
  cI (e,AR f1 f2 f3 v0 e0 v4 e4 v5 e5 (Ac g s) tl) 6 9=s.limit∧
  cL (e,AR f1 f2 f3 v0 e0 v4 e4 v5 e5 (Ac g s) tl) 6 10=s.dark.map Span.enc∧
  cI (e,AR f1 f2 f3 v0 e0 v4 e4 v5 e5 (Ac g s) tl) 6 11=s.entered∧
  cI (e,AR f1 f2 f3 v0 e0 v4 e4 v5 e5 (Ac g s) tl) 6 12=s.dist∧
  AI (e,AR f1 f2 f3 v0 e0 v4 e4 v5 e5 (Ac g s) tl) 6 13=g.v4∧
  AL (e,AR f1 f2 f3 v0 e0 v4 e4 v5 e5 (Ac g s) tl) 6 13=0∧
  AH (e,AR f1 f2 f3 v0 e0 v4 e4 v5 e5 (Ac g s) tl) 6 13=s.sent.length∧
  AI (e,AR f1 f2 f3 v0 e0 v4 e4 v5 e5 (Ac g s) tl) 6 14=g.v5∧
  AL (e,AR f1 f2 f3 v0 e0 v4 e4 v5 e5 (Ac g s) tl) 6 14=0∧
  AH (e,AR f1 f2 f3 v0 e0 v4 e4 v5 e5 (Ac g s) tl) 6 14=s.told.length∧
  cI (e,AR f1 f2 f3 v0 e0 v4 e4 v5 e5 (Ac g s) tl) 6 15=s.now∧
  cI (e,AR f1 f2 f3 v0 e0 v4 e4 v5 e5 (Ac g s) tl) 6 16=s.snd.c.frm∧
  cI (e,AR f1 f2 f3 v0 e0 v4 e4 v5 e5 (Ac g s) tl) 6 17=s.snd.c.dst∧
  cI (e,AR f1 f2 f3 v0 e0 v4 e4 v5 e5 (Ac g s) tl) 6 18=s.snd.c.start∧
  cI (e,AR f1 f2 f3 v0 e0 v4 e4 v5 e5 (Ac g s) tl) 6 19=s.snd.c.fin∧
  cI (e,AR f1 f2 f3 v0 e0 v4 e4 v5 e5 (Ac g s) tl) 6 20=s.snd.c.rate∧
  cI (e,AR f1 f2 f3 v0 e0 v4 e4 v5 e5 (Ac g s) tl) 6 21=s.snd.c.rng∧
  cI (e,AR f1 f2 f3 v0 e0 v4 e4 v5 e5 (Ac g s) tl) 6 22=s.snd.c.loss∧
  cI (e,AR f1 f2 f3 v0 e0 v4 e4 v5 e5 (Ac g s) tl) 6 23=s.snd.ses∧
  cS (e,AR f1 f2 f3 v0 e0 v4 e4 v5 e5 (Ac g s) tl) 6 24=s.snd.data∧
  cI (e,AR f1 f2 f3 v0 e0 v4 e4 v5 e5 (Ac g s) tl) 6 25=s.snd.fin∧
  cI (e,AR f1 f2 f3 v0 e0 v4 e4 v5 e5 (Ac g s) tl) 6 26=s.snd.busy∧
  cI (e,AR f1 f2 f3 v0 e0 v4 e4 v5 e5 (Ac g s) tl) 6 27=s.snd.ser∧
  cL (e,AR f1 f2 f3 v0 e0 v4 e4 v5 e5 (Ac g s) tl) 6 28=s.snd.acked.map Span.enc∧
  cI (e,AR f1 f2 f3 v0 e0 v4 e4 v5 e5 (Ac g s) tl) 6 29=s.snd.due∧
  cI (e,AR f1 f2 f3 v0 e0 v4 e4 v5 e5 (Ac g s) tl) 6 30=s.snd.st∧
  cI (e,AR f1 f2 f3 v0 e0 v4 e4 v5 e5 (Ac g s) tl) 6 31=s.rcv.ses∧
  cI (e,AR f1 f2 f3 v0 e0 v4 e4 v5 e5 (Ac g s) tl) 6 32=s.rcv.tot∧
  cL (e,AR f1 f2 f3 v0 e0 v4 e4 v5 e5 (Ac g s) tl) 6 33=s.rcv.known.map Span.enc∧
  cS (e,AR f1 f2 f3 v0 e0 v4 e4 v5 e5 (Ac g s) tl) 6 34=s.rcv.data∧
  AI (e,AR f1 f2 f3 v0 e0 v4 e4 v5 e5 (Ac g s) tl) 6 35=g.v0∧
  AL (e,AR f1 f2 f3 v0 e0 v4 e4 v5 e5 (Ac g s) tl) 6 35=g.pre.length∧
  AH (e,AR f1 f2 f3 v0 e0 v4 e4 v5 e5 (Ac g s) tl) 6 35=s.pend.length∧
  cB (e,AR f1 f2 f3 v0 e0 v4 e4 v5 e5 (Ac g s) tl) 6 36=s.rcvd∧
  cI (e,AR f1 f2 f3 v0 e0 v4 e4 v5 e5 (Ac g s) tl) 6 37=s.arrive∧
  cB (e,AR f1 f2 f3 v0 e0 v4 e4 v5 e5 (Ac g s) tl) 6 38=s.kno∧
  cI (e,AR f1 f2 f3 v0 e0 v4 e4 v5 e5 (Ac g s) tl) 6 39=s.knoAt)∧
 (∀(e:List AV) (f1 f2 f3:AF) (v0:Nat) (e0:List (List Tree)) (v4:Nat) (e4:List (List Tree)) (v5:Nat) (e5:List (List Tree)) (c:List AV) (tl:Heap),
  AD (e,AR f1 f2 f3 v0 e0 v4 e4 v5 e5 c tl) 0=v0∧
  oEs (e,AR f1 f2 f3 v0 e0 v4 e4 v5 e5 c tl) 0=e0∧
  AD (e,AR f1 f2 f3 v0 e0 v4 e4 v5 e5 c tl) 4=v4∧
  oEs (e,AR f1 f2 f3 v0 e0 v4 e4 v5 e5 c tl) 4=e4∧
  AD (e,AR f1 f2 f3 v0 e0 v4 e4 v5 e5 c tl) 5=v5∧
  oEs (e,AR f1 f2 f3 v0 e0 v4 e4 v5 e5 c tl) 5=e5∧
  AD (e,AR f1 f2 f3 v0 e0 v4 e4 v5 e5 c tl) 1=AF.ver f1∧
  oEs (e,AR f1 f2 f3 v0 e0 v4 e4 v5 e5 c tl) 1=Am f1∧
  AD (e,AR f1 f2 f3 v0 e0 v4 e4 v5 e5 c tl) 2=AF.ver f2∧
  oEs (e,AR f1 f2 f3 v0 e0 v4 e4 v5 e5 c tl) 2=Am f2∧
  AD (e,AR f1 f2 f3 v0 e0 v4 e4 v5 e5 c tl) 3=AF.ver f3∧
  oEs (e,AR f1 f2 f3 v0 e0 v4 e4 v5 e5 c tl) 3=Am f3)∧
 (∀(e:List AV) (f1 f2 f3:AF) (v0:Nat) (e0:List (List Tree)) (v4:Nat) (e4:List (List Tree)) (v5:Nat) (e5:List (List Tree)) (c:List AV) (o0:AF) (tl:Heap),
  AD (e,AR f1 f2 f3 v0 e0 v4 e4 v5 e5 c (o0::tl)) 7=AF.ver o0∧
  oEs (e,AR f1 f2 f3 v0 e0 v4 e4 v5 e5 c (o0::tl)) 7=Am o0)∧
 (∀(e:List AV) (f1 f2 f3:AF) (v0:Nat) (e0:List (List Tree)) (v4:Nat) (e4:List (List Tree)) (v5:Nat) (e5:List (List Tree)) (c:List AV) (o0:AF) (tl:Heap) (j:Nat),
  cI (e,AR f1 f2 f3 v0 e0 v4 e4 v5 e5 c (o0::tl)) 7 j=intOf (AB (cellOf o0 j))∧
  cB (e,AR f1 f2 f3 v0 e0 v4 e4 v5 e5 c (o0::tl)) 7 j=Ar (AB (cellOf o0 j))∧
  cS (e,AR f1 f2 f3 v0 e0 v4 e4 v5 e5 c (o0::tl)) 7 j=strOf (AB (cellOf o0 j))∧
  cL (e,AR f1 f2 f3 v0 e0 v4 e4 v5 e5 c (o0::tl)) 7 j=Bb (AB (cellOf o0 j)))∧
 (∀(e:List AV) (f1 f2 f3:AF) (v0:Nat) (e0:List (List Tree)) (v4:Nat) (e4:List (List Tree)) (v5:Nat) (e5:List (List Tree)) (c:List AV) (o0 o1:AF) (tl:Heap),
  AD (e,AR f1 f2 f3 v0 e0 v4 e4 v5 e5 c (o0::o1::tl)) 8=AF.ver o1∧
  oEs (e,AR f1 f2 f3 v0 e0 v4 e4 v5 e5 c (o0::o1::tl)) 8=Am o1)∧
 (∀(e:List AV) (f1 f2 f3:AF) (v0:Nat) (e0:List (List Tree)) (v4:Nat) (e4:List (List Tree)) (v5:Nat) (e5:List (List Tree)) (c:List AV) (o0 o1:AF) (tl:Heap) (j:Nat),
  cI (e,AR f1 f2 f3 v0 e0 v4 e4 v5 e5 c (o0::o1::tl)) 8 j=intOf (AB (cellOf o1 j))∧
  cB (e,AR f1 f2 f3 v0 e0 v4 e4 v5 e5 c (o0::o1::tl)) 8 j=Ar (AB (cellOf o1 j))∧
  cS (e,AR f1 f2 f3 v0 e0 v4 e4 v5 e5 c (o0::o1::tl)) 8 j=strOf (AB (cellOf o1 j))∧
  cL (e,AR f1 f2 f3 v0 e0 v4 e4 v5 e5 c (o0::o1::tl)) 8 j=Bb (AB (cellOf o1 j)))∧
 (∀(e:List AV) (f1 f2 f3:AF) (v0:Nat) (e0:List (List Tree)) (v4:Nat) (e4:List (List Tree)) (v5:Nat) (e5:List (List Tree)) (c:List AV) (o0 o1 o2:AF) (tl:Heap),
  AD (e,AR f1 f2 f3 v0 e0 v4 e4 v5 e5 c (o0::o1::o2::tl)) 9=AF.ver o2∧
  oEs (e,AR f1 f2 f3 v0 e0 v4 e4 v5 e5 c (o0::o1::o2::tl)) 9=Am o2)∧
 (∀(e:List AV) (f1 f2 f3:AF) (v0:Nat) (e0:List (List Tree)) (v4:Nat) (e4:List (List Tree)) (v5:Nat) (e5:List (List Tree)) (c:List AV) (o0 o1 o2:AF) (tl:Heap) (j:Nat),
  cI (e,AR f1 f2 f3 v0 e0 v4 e4 v5 e5 c (o0::o1::o2::tl)) 9 j=intOf (AB (cellOf o2 j))∧
  cB (e,AR f1 f2 f3 v0 e0 v4 e4 v5 e5 c (o0::o1::o2::tl)) 9 j=Ar (AB (cellOf o2 j))∧
  cS (e,AR f1 f2 f3 v0 e0 v4 e4 v5 e5 c (o0::o1::o2::tl)) 9 j=strOf (AB (cellOf o2 j))∧
  cL (e,AR f1 f2 f3 v0 e0 v4 e4 v5 e5 c (o0::o1::o2::tl)) 9 j=Bb (AB (cellOf o2 j)))∧
 (∀(e:List AV) (f1 f2 f3:AF) (v0:Nat) (e0:List (List Tree)) (v4:Nat) (e4:List (List Tree)) (v5:Nat) (e5:List (List Tree)) (c:List AV) (o0 o1 o2 o3:AF) (tl:Heap),
  AD (e,AR f1 f2 f3 v0 e0 v4 e4 v5 e5 c (o0::o1::o2::o3::tl)) 10=AF.ver o3∧
  oEs (e,AR f1 f2 f3 v0 e0 v4 e4 v5 e5 c (o0::o1::o2::o3::tl)) 10=Am o3)∧
 (∀(e:List AV) (f1 f2 f3:AF) (v0:Nat) (e0:List (List Tree)) (v4:Nat) (e4:List (List Tree)) (v5:Nat) (e5:List (List Tree)) (c:List AV) (o0 o1 o2 o3:AF) (tl:Heap) (j:Nat),
  cI (e,AR f1 f2 f3 v0 e0 v4 e4 v5 e5 c (o0::o1::o2::o3::tl)) 10 j=intOf (AB (cellOf o3 j))∧
  cB (e,AR f1 f2 f3 v0 e0 v4 e4 v5 e5 c (o0::o1::o2::o3::tl)) 10 j=Ar (AB (cellOf o3 j))∧
  cS (e,AR f1 f2 f3 v0 e0 v4 e4 v5 e5 c (o0::o1::o2::o3::tl)) 10 j=strOf (AB (cellOf o3 j))∧
  cL (e,AR f1 f2 f3 v0 e0 v4 e4 v5 e5 c (o0::o1::o2::o3::tl)) 10 j=Bb (AB (cellOf o3 j)))∧
 (∀(e:List AV) (f1 f2 f3:AF) (v0:Nat) (e0:List (List Tree)) (v4:Nat) (e4:List (List Tree)) (v5:Nat) (e5:List (List Tree)) (c:List AV) (o0 o1 o2 o3 o4:AF) (tl:Heap),
  AD (e,AR f1 f2 f3 v0 e0 v4 e4 v5 e5 c (o0::o1::o2::o3::o4::tl)) 11=AF.ver o4∧
  oEs (e,AR f1 f2 f3 v0 e0 v4 e4 v5 e5 c (o0::o1::o2::o3::o4::tl)) 11=Am o4)∧
 (∀(e:List AV) (f1 f2 f3:AF) (v0:Nat) (e0:List (List Tree)) (v4:Nat) (e4:List (List Tree)) (v5:Nat) (e5:List (List Tree)) (c:List AV) (o0 o1 o2 o3 o4:AF) (tl:Heap) (j:Nat),
  cI (e,AR f1 f2 f3 v0 e0 v4 e4 v5 e5 c (o0::o1::o2::o3::o4::tl)) 11 j=intOf (AB (cellOf o4 j))∧
  cB (e,AR f1 f2 f3 v0 e0 v4 e4 v5 e5 c (o0::o1::o2::o3::o4::tl)) 11 j=Ar (AB (cellOf o4 j))∧
  cS (e,AR f1 f2 f3 v0 e0 v4 e4 v5 e5 c (o0::o1::o2::o3::o4::tl)) 11 j=strOf (AB (cellOf o4 j))∧
  cL (e,AR f1 f2 f3 v0 e0 v4 e4 v5 e5 c (o0::o1::o2::o3::o4::tl)) 11 j=Bb (AB (cellOf o4 j))):=by
 refine ⟨?_,?_,?_,?_,?_,?_,?_,?_,?_,?_,?_,?_⟩
 ·intros;exact ⟨rfl,rfl,rfl,rfl,rfl,rfl,rfl,rfl,rfl,rfl,rfl,rfl,rfl,rfl,rfl,rfl,rfl,rfl,rfl,rfl,rfl,rfl,rfl,rfl,rfl,rfl,rfl,rfl,rfl,rfl,rfl,rfl,rfl,rfl,rfl,rfl,rfl,rfl,rfl,rfl,rfl,rfl,rfl,rfl,rfl,rfl⟩
 ·intros;exact ⟨rfl,rfl,rfl,rfl,rfl,rfl,rfl,rfl,rfl,rfl,rfl,rfl⟩
 ·intros;exact ⟨rfl,rfl⟩
 ·intros;exact ⟨rfl,rfl,rfl,rfl⟩
 ·intros;exact ⟨rfl,rfl⟩
 ·intros;exact ⟨rfl,rfl,rfl,rfl⟩
 ·intros;exact ⟨rfl,rfl⟩
 ·intros;exact ⟨rfl,rfl,rfl,rfl⟩
 ·intros;exact ⟨rfl,rfl⟩
 ·intros;exact ⟨rfl,rfl,rfl,rfl⟩
 ·intros;exact ⟨rfl,rfl⟩
 ·intros;exact ⟨rfl,rfl,rfl,rfl⟩
variable (e:List AV) (g:Gh) (s:Ses) (f1 f2 f3:AF) (v0:Nat) (e0:List (List Tree)) (v4:Nat) (e4:List (List Tree)) (v5:Nat) (e5:List (List Tree))
theorem XC (tl:Heap):rh (e,AR f1 f2 f3 v0 e0 v4 e4 v5 e5 (Ac g s) (tl)) 0 BV=AR E0 E0 E0 v0 e0 v4 e4 v5 e5 (Ac g s) []:=by intros;rfl
theorem XG (tl:Heap):rh (e,AR f1 f2 f3 v0 e0 v4 e4 v5 e5 (Ac g s) (tl)) 0 Bu=AR (.row true f1.ver 15 (Am f1)) (.row true f2.ver 4 (Am f2)) (.row true f3.ver 4 (Am f3)) v0 e0 v4 e4 v5 e5 (Ac g s) []:=by intros;rfl
theorem XE (o0 o1:AF) (tl:Heap):rh (e,AR f1 f2 f3 v0 e0 v4 e4 v5 e5 (Ac g s) (o0::o1::tl)) 0 DO=AR E0 E0 E0 v0 e0 v4 e4 v5 e5 (Ac g s) [.box [.t (tI (intOf (AB (cellOf o0 0))))],.box [.t (.bool (Ar (AB (cellOf o1 0))))]]:=by intros;rfl
theorem XA (o0:AF) (tl:Heap):rh (e,AR f1 f2 f3 v0 e0 v4 e4 v5 e5 (Ac g s) (o0::tl)) 0 O2=AR E0 E0 E0 v0 e0 v4 e4 v5 e5 (Ac g s) [.box [.t (tI (intOf (AB (cellOf o0 0)))),.t (tI (intOf (AB (cellOf o0 1)))),.t (tI (intOf (AB (cellOf o0 2)))),.t (tI (intOf (AB (cellOf o0 3)))),.t (tI (intOf (AB (cellOf o0 4)))),.t (.bool (Ar (AB (cellOf o0 5)))),.t (.str (strOf (AB (cellOf o0 6)))),.t (.sl 2 (Bb (AB (cellOf o0 7))))]]:=by intros;rfl
theorem W8 (o0:AF) (tl:Heap):rh (e,AR f1 f2 f3 v0 e0 v4 e4 v5 e5 (Ac g s) (o0::tl)) 0 DW=AR E0 E0 E0 v0 e0 v4 e4 v5 e5 (Ac g s) [.row false o0.ver 8 (Am o0)]:=by intros;rfl
theorem UW (o0 o1:AF) (tl:Heap):rh (e,AR f1 f2 f3 v0 e0 v4 e4 v5 e5 (Ac g s) (o0::o1::tl)) 0 K3=AR E0 E0 E0 v0 e0 v4 e4 v5 e5 (Ac g s) [.row false o0.ver 8 (Am o0),.box [.t (tI (intOf (AB (cellOf o1 0)))),.t (tI (intOf (AB (cellOf o1 1)))),.t (tI (intOf (AB (cellOf o1 2)))),.t (tI (intOf (AB (cellOf o1 3)))),.t (tI (intOf (AB (cellOf o1 4)))),.t (.bool (Ar (AB (cellOf o1 5)))),.t (.str (strOf (AB (cellOf o1 6)))),.t (.sl 2 (Bb (AB (cellOf o1 7))))]]:=by intros;rfl
theorem UT (o0 o1 o2:AF) (tl:Heap):rh (e,AR f1 f2 f3 v0 e0 v4 e4 v5 e5 (Ac g s) (o0::o1::o2::tl)) 0 I8=AR (.row true f1.ver 15 (Am f1)) (.row true f2.ver 4 (Am f2)) (.row true f3.ver 4 (Am f3)) v0 e0 v4 e4 v5 e5 (Ac g s) [.row false o0.ver 8 (Am o0),.box [.t (tI (intOf (AB (cellOf o1 0)))),.t (tI (intOf (AB (cellOf o1 1)))),.t (.sl 2 (Bb (AB (cellOf o1 2)))),.t (.str (strOf (AB (cellOf o1 3))))],.box [.t (tI (intOf (AB (cellOf o2 0)))),.t (tI (intOf (AB (cellOf o2 1)))),.t (tI (intOf (AB (cellOf o2 2)))),.t (tI (intOf (AB (cellOf o2 3)))),.t (tI (intOf (AB (cellOf o2 4)))),.t (.bool (Ar (AB (cellOf o2 5)))),.t (.str (strOf (AB (cellOf o2 6)))),.t (.sl 2 (Bb (AB (cellOf o2 7))))]]:=by intros;rfl
theorem UR (o0 o1 o2:AF) (tl:Heap):rh (e,AR f1 f2 f3 v0 e0 v4 e4 v5 e5 (Ac g s) (o0::o1::o2::tl)) 0 CO=AR E0 E0 E0 v0 e0 v4 e4 v5 e5 (Ac g s) [.row false o0.ver 8 (Am o0),.box [.t (tI (intOf (AB (cellOf o1 0)))),.t (tI (intOf (AB (cellOf o1 1)))),.t (.sl 2 (Bb (AB (cellOf o1 2)))),.t (.str (strOf (AB (cellOf o1 3))))],.box [.t (tI (intOf (AB (cellOf o2 0)))),.t (tI (intOf (AB (cellOf o2 1)))),.t (tI (intOf (AB (cellOf o2 2)))),.t (tI (intOf (AB (cellOf o2 3)))),.t (tI (intOf (AB (cellOf o2 4)))),.t (.bool (Ar (AB (cellOf o2 5)))),.t (.str (strOf (AB (cellOf o2 6)))),.t (.sl 2 (Bb (AB (cellOf o2 7))))]]:=by intros;rfl
theorem UP (o0 o1 o2 o3:AF) (tl:Heap):rh (e,AR f1 f2 f3 v0 e0 v4 e4 v5 e5 (Ac g s) (o0::o1::o2::o3::tl)) 0 K2=AR E0 E0 E0 v0 e0 v4 e4 v5 e5 (Ac g s) [.row false o0.ver 8 (Am o0),.box [.t (tI (intOf (AB (cellOf o1 0)))),.t (tI (intOf (AB (cellOf o1 1)))),.t (.sl 2 (Bb (AB (cellOf o1 2)))),.t (.str (strOf (AB (cellOf o1 3))))],.box [.t (tI (intOf (AB (cellOf o2 0)))),.t (tI (intOf (AB (cellOf o2 1)))),.t (tI (intOf (AB (cellOf o2 2)))),.t (tI (intOf (AB (cellOf o2 3)))),.t (tI (intOf (AB (cellOf o2 4)))),.t (.bool (Ar (AB (cellOf o2 5)))),.t (.str (strOf (AB (cellOf o2 6)))),.t (.sl 2 (Bb (AB (cellOf o2 7))))],.box [.t (tI (intOf (AB (cellOf o3 0)))),.t (.sl 10 (Bb (AB (cellOf o3 1)))),.t (tI (intOf (AB (cellOf o3 2)))),.t (tI (intOf (AB (cellOf o3 3))))]]:=by intros;rfl
theorem UN (o0 o1:AF) (tl:Heap):rh (e,AR f1 f2 f3 v0 e0 v4 e4 v5 e5 (Ac g s) (o0::o1::tl)) 0 Ni=AR E0 E0 E0 v0 e0 v4 e4 v5 e5 (Ac g s) [.row false o0.ver 8 (Am o0),.box [.t (tI (intOf (AB (cellOf o1 0)))),.t (tI (intOf (AB (cellOf o1 1)))),.t (.sl 2 (Bb (AB (cellOf o1 2)))),.t (.str (strOf (AB (cellOf o1 3))))]]:=by intros;rfl
theorem UL (o0:AF) (tl:Heap):rh (e,AR f1 f2 f3 v0 e0 v4 e4 v5 e5 (Ac g s) (o0::tl)) 0 Kz=AR E0 E0 E0 v0 e0 v4 e4 v5 e5 (Ac g s) [.box [.t (tI (intOf (AB (cellOf o0 0)))),.t (.sl 10 (Bb (AB (cellOf o0 1)))),.t (tI (intOf (AB (cellOf o0 2)))),.t (tI (intOf (AB (cellOf o0 3))))]]:=by intros;rfl
theorem W5 (x y:AF):upd (rh (e,AR f1 f2 f3 v0 e0 v4 e4 v5 e5 (Ac g s) []) 0 DO) [(7,x),(8,y)]=AR E0 E0 E0 v0 e0 v4 e4 v5 e5 (Ac g s) [x,y]:=by intros;rfl
theorem W3 (x:AF):upd (rh (e,AR f1 f2 f3 v0 e0 v4 e4 v5 e5 (Ac g s) []) 0 O2) [(7,x)]=AR E0 E0 E0 v0 e0 v4 e4 v5 e5 (Ac g s) [x]:=by intros;rfl
theorem W0 (x:AF):upd (rh (e,AR f1 f2 f3 v0 e0 v4 e4 v5 e5 (Ac g s) []) 0 DW) [(7,x)]=AR E0 E0 E0 v0 e0 v4 e4 v5 e5 (Ac g s) [x]:=by intros;rfl
theorem UJ (o0:AF) (x y:AF):upd (rh (e,AR f1 f2 f3 v0 e0 v4 e4 v5 e5 (Ac g s) [o0]) 0 K3) [(7,x),(8,y)]=AR E0 E0 E0 v0 e0 v4 e4 v5 e5 (Ac g s) [x,y]:=by intros;rfl
theorem UD (o0:AF) (y:AF):upd (rh (e,AR f1 f2 f3 v0 e0 v4 e4 v5 e5 (Ac g s) [o0]) 0 Ni) [(8,y)]=AR E0 E0 E0 v0 e0 v4 e4 v5 e5 (Ac g s) [.row false o0.ver 8 (Am o0),y]:=by intros;rfl
theorem UF (o0 o1 o2:AF) (y:AF):upd (rh (e,AR f1 f2 f3 v0 e0 v4 e4 v5 e5 (Ac g s) [o0,o1,o2]) 0 K2) [(10,y)]=AR E0 E0 E0 v0 e0 v4 e4 v5 e5 (Ac g s) [.row false o0.ver 8 (Am o0),.box [.t (tI (intOf (AB (cellOf o1 0)))),.t (tI (intOf (AB (cellOf o1 1)))),.t (.sl 2 (Bb (AB (cellOf o1 2)))),.t (.str (strOf (AB (cellOf o1 3))))],.box [.t (tI (intOf (AB (cellOf o2 0)))),.t (tI (intOf (AB (cellOf o2 1)))),.t (tI (intOf (AB (cellOf o2 2)))),.t (tI (intOf (AB (cellOf o2 3)))),.t (tI (intOf (AB (cellOf o2 4)))),.t (.bool (Ar (AB (cellOf o2 5)))),.t (.str (strOf (AB (cellOf o2 6)))),.t (.sl 2 (Bb (AB (cellOf o2 7))))],y]:=by intros;rfl
theorem UB (y:AF):upd (rh (e,AR f1 f2 f3 v0 e0 v4 e4 v5 e5 (Ac g s) []) 0 Kz) [(7,y)]=AR E0 E0 E0 v0 e0 v4 e4 v5 e5 (Ac g s) [y]:=by intros;rfl
theorem UH (o0 o1 x y z w:AF):upd (rh (e,AR f1 f2 f3 v0 e0 v4 e4 v5 e5 (Ac g s) [o0,o1]) 0 I8) [(1,x),(2,y),(3,z),(9,w)]=AR x y z v0 e0 v4 e4 v5 e5 (Ac g s) [.row false o0.ver 8 (Am o0),.box [.t (tI (intOf (AB (cellOf o1 0)))),.t (tI (intOf (AB (cellOf o1 1)))),.t (.sl 2 (Bb (AB (cellOf o1 2)))),.t (.str (strOf (AB (cellOf o1 3))))],w]:=by intros;rfl
theorem Qn (o0 y:AF) (d:List AV):upd (rh (e,AR f1 f2 f3 v0 e0 v4 e4 v5 e5 (Ac g s) [o0]) 0 Ni) [(6,.box d),(8,y)]=AR E0 E0 E0 v0 e0 v4 e4 v5 e5 d [.row false o0.ver 8 (Am o0),y]:=by intros;rfl
theorem QX (x y z:AF) (c:List AV) (tl:Heap):upd (AR f1 f2 f3 v0 e0 v4 e4 v5 e5 c tl) [(1,x),(2,y),(3,z)]=AR x y z v0 e0 v4 e4 v5 e5 c tl:=by intros;rfl
theorem N2 (x y z w o0 o1 o2:AF) (c:List AV) (tl:Heap):upd (AR f1 f2 f3 v0 e0 v4 e4 v5 e5 c (o0::o1::o2::tl)) [(1,x),(2,y),(3,z),(9,w)]=AR x y z v0 e0 v4 e4 v5 e5 c (o0::o1::w::tl):=by intros;rfl
theorem WQ (d:List AV) (c:List AV) (tl:Heap):upd (AR f1 f2 f3 v0 e0 v4 e4 v5 e5 c tl) [(6,.box d)]=AR f1 f2 f3 v0 e0 v4 e4 v5 e5 d tl:=by intros;rfl
theorem Tr (d:List AV) (w:Nat) (r:List (List Tree)) (c:List AV) (tl:Heap):upd (AR f1 f2 f3 v0 e0 v4 e4 v5 e5 c tl) [(0,.row false w 9 r),(6,.box d)]=AR f1 f2 f3 w r v4 e4 v5 e5 d tl:=by intros;rfl
theorem Tp (d:List AV) (w:Nat) (r:List (List Tree)) (c:List AV) (tl:Heap):upd (AR f1 f2 f3 v0 e0 v4 e4 v5 e5 c tl) [(4,.row false w 9 r),(6,.box d)]=AR f1 f2 f3 v0 e0 w r v5 e5 d tl:=by intros;rfl
theorem Tn (d:List AV) (w:Nat) (r:List (List Tree)) (c:List AV) (tl:Heap):upd (AR f1 f2 f3 v0 e0 v4 e4 v5 e5 c tl) [(5,.row false w 9 r),(6,.box d)]=AR f1 f2 f3 v0 e0 v4 e4 w r d tl:=by intros;rfl
theorem WN (x o0:AF) (c:List AV) (tl:Heap):upd (AR f1 f2 f3 v0 e0 v4 e4 v5 e5 c (o0::tl)) [(7,x)]=AR f1 f2 f3 v0 e0 v4 e4 v5 e5 c (x::tl):=by intros;rfl
theorem Th (x y o0 o1:AF) (c:List AV) (tl:Heap):upd (AR f1 f2 f3 v0 e0 v4 e4 v5 e5 c (o0::o1::tl)) [(7,x),(8,y)]=AR f1 f2 f3 v0 e0 v4 e4 v5 e5 c (x::y::tl):=by intros;rfl
theorem Tl (x o0:AF) (d:List AV) (c:List AV) (tl:Heap):upd (AR f1 f2 f3 v0 e0 v4 e4 v5 e5 c (o0::tl)) [(6,.box d),(7,x)]=AR f1 f2 f3 v0 e0 v4 e4 v5 e5 d (x::tl):=by intros;rfl
theorem Tj (x o0 o1:AF) (d:List AV) (c:List AV) (tl:Heap):upd (AR f1 f2 f3 v0 e0 v4 e4 v5 e5 c (o0::o1::tl)) [(6,.box d),(8,x)]=AR f1 f2 f3 v0 e0 v4 e4 v5 e5 d (o0::x::tl):=by intros;rfl
theorem XL (tl:Heap):rb (e,AR f1 f2 f3 v0 e0 v4 e4 v5 e5 (Ac g s) tl) 6 0 BD=Ac g s:=by intros;rfl
theorem Wa (a b d:Int) (fs:List Frame):upd (Ac g s) [(0,.t (tI a)),(1,.t (.sl 10 (fs.map Frame.enc))),(2,.t (tI b)),(3,.t (tI d))]=Ac g {s with dat:=⟨a,fs,b,d⟩}:=by kernel_rfl
theorem WW (a b d:Int) (fs:List Frame):upd (Ac g s) [(4,.t (tI a)),(5,.t (.sl 10 (fs.map Frame.enc))),(6,.t (tI b)),(7,.t (tI d))]=Ac g {s with rep:=⟨a,fs,b,d⟩}:=by kernel_rfl
theorem WY (a:Int):upd (Ac g s) [(15,.t (tI a))]=Ac g {s with now:=a}:=by kernel_rfl
theorem Tv (a:Int):upd (Ac g s) [(12,.t (tI a))]=Ac g {s with dist:=a}:=by kernel_rfl
theorem WU (a:Snd):upd (Ac g s) [(16,.t (tI a.c.frm)),(17,.t (tI a.c.dst)),(18,.t (tI a.c.start)),(19,.t (tI a.c.fin)),(20,.t (tI a.c.rate)),(21,.t (tI a.c.rng)),(22,.t (tI a.c.loss)),(23,.t (tI a.ses)),(24,.t (.str a.data)),(25,.t (tI a.fin)),(26,.t (tI a.busy)),(27,.t (tI a.ser)),(28,.t (.sl 2 (a.acked.map Span.enc))),(29,.t (tI a.due)),(30,.t (tI a.st))]=Ac g {s with snd:=a}:=by kernel_rfl
theorem Tt (a:Snd) (k:Bool) (t:Int):upd (Ac g s) [(16,.t (tI a.c.frm)),(17,.t (tI a.c.dst)),(18,.t (tI a.c.start)),(19,.t (tI a.c.fin)),(20,.t (tI a.c.rate)),(21,.t (tI a.c.rng)),(22,.t (tI a.c.loss)),(23,.t (tI a.ses)),(24,.t (.str a.data)),(25,.t (tI a.fin)),(26,.t (tI a.busy)),(27,.t (tI a.ser)),(28,.t (.sl 2 (a.acked.map Span.enc))),(29,.t (tI a.due)),(30,.t (tI a.st)),(38,.t (.bool k)),(39,.t (tI t))]=Ac g {s with snd:=a,kno:=k,knoAt:=t}:=by kernel_rfl
theorem WS (a:Rcv):upd (Ac g s) [(31,.t (tI a.ses)),(32,.t (tI a.tot)),(33,.t (.sl 2 (a.known.map Span.enc))),(34,.t (.str a.data))]=Ac g {s with rcv:=a}:=by kernel_rfl
theorem Wc (k:Bool) (t:Int):upd (Ac g s) [(36,.t (.bool k)),(37,.t (tI t))]=Ac g {s with rcvd:=k,arrive:=t}:=by kernel_rfl
theorem JA (a:Snd) (w:Nat) (o:List Out):upd (Ac g s) [(16,.t (tI a.c.frm)),(17,.t (tI a.c.dst)),(18,.t (tI a.c.start)),(19,.t (tI a.c.fin)),(20,.t (tI a.c.rate)),(21,.t (tI a.c.rng)),(22,.t (tI a.c.loss)),(23,.t (tI a.ses)),(24,.t (.str a.data)),(25,.t (tI a.fin)),(26,.t (tI a.busy)),(27,.t (tI a.ser)),(28,.t (.sl 2 (a.acked.map Span.enc))),(29,.t (tI a.due)),(30,.t (tI a.st)),(35,.sref 0 w 0 (s.pend.length+o.length))]=Ac {g with v0:=w,pre:=[]} {s with snd:=a,pend:=s.pend++o}:=by rw [← length_append];kernel_rfl
theorem Lt (a:Snd) (w:Nat) (o:List Out) (k:Bool) (t:Int):upd (Ac g s) [(16,.t (tI a.c.frm)),(17,.t (tI a.c.dst)),(18,.t (tI a.c.start)),(19,.t (tI a.c.fin)),(20,.t (tI a.c.rate)),(21,.t (tI a.c.rng)),(22,.t (tI a.c.loss)),(23,.t (tI a.ses)),(24,.t (.str a.data)),(25,.t (tI a.fin)),(26,.t (tI a.busy)),(27,.t (tI a.ser)),(28,.t (.sl 2 (a.acked.map Span.enc))),(29,.t (tI a.due)),(30,.t (tI a.st)),(35,.sref 0 w 0 (s.pend.length+o.length)),(38,.t (.bool k)),(39,.t (tI t))]=Ac {g with v0:=w,pre:=[]} {s with snd:=a,pend:=s.pend++o,kno:=k,knoAt:=t}:=by rw [← length_append];kernel_rfl
theorem ucP_28 (x:Out) (l:List Out) (hp:s.pend=x::l):upd (Ac g s) [(35,.sref 0 g.v0 (g.pre.length+1) (s.pend.length-1))]=Ac {g with pre:=g.pre++[x.enc]} {s with pend:=l}:=by rw [show s.pend.length-1=l.length by rw [hp];rfl,show g.pre.length+1=(g.pre++[x.enc]).length by simp];kernel_rfl
theorem JE (a b d:Int) (fs:List Frame) (e:Int) (w:Nat) (x:Out):upd (Ac g s) [(0,.t (tI a)),(1,.t (.sl 10 (fs.map Frame.enc))),(2,.t (tI b)),(3,.t (tI d)),(11,.t (tI e)),(13,.sref 4 w 0 (s.sent.length+1))]=Ac {g with v4:=w} {s with dat:=⟨a,fs,b,d⟩,entered:=e,sent:=s.sent++[x]}:=by rw [show s.sent.length+1=(s.sent++[x]).length by simp];kernel_rfl
theorem Lb (a b d:Int) (fs:List Frame) (e u:Int) (w:Nat) (x:Out):upd (Ac g s) [(0,.t (tI a)),(1,.t (.sl 10 (fs.map Frame.enc))),(2,.t (tI b)),(3,.t (tI d)),(11,.t (tI e)),(12,.t (tI u)),(13,.sref 4 w 0 (s.sent.length+1))]=Ac {g with v4:=w} {s with dat:=⟨a,fs,b,d⟩,entered:=e,dist:=u,sent:=s.sent++[x]}:=by rw [show s.sent.length+1=(s.sent++[x]).length by simp];kernel_rfl
theorem JC (a b d:Int) (fs:List Frame) (e:Int) (w:Nat) (x:Out):upd (Ac g s) [(4,.t (tI a)),(5,.t (.sl 10 (fs.map Frame.enc))),(6,.t (tI b)),(7,.t (tI d)),(11,.t (tI e)),(14,.sref 5 w 0 (s.told.length+1))]=Ac {g with v5:=w} {s with rep:=⟨a,fs,b,d⟩,entered:=e,told:=s.told++[x]}:=by rw [show s.told.length+1=(s.told++[x]).length by simp];kernel_rfl
theorem LZ (a b d:Int) (fs:List Frame) (e u:Int) (w:Nat) (x:Out):upd (Ac g s) [(4,.t (tI a)),(5,.t (.sl 10 (fs.map Frame.enc))),(6,.t (tI b)),(7,.t (tI d)),(11,.t (tI e)),(12,.t (tI u)),(14,.sref 5 w 0 (s.told.length+1))]=Ac {g with v5:=w} {s with rep:=⟨a,fs,b,d⟩,entered:=e,dist:=u,told:=s.told++[x]}:=by rw [show s.told.length+1=(s.told++[x]).length by simp];kernel_rfl
theorem A7:type_of% (And.intro @rd28 (And.intro @XC (And.intro @XG (And.intro @XE (And.intro @XA (And.intro @W8 (And.intro @UW (And.intro @UT (And.intro @UR (And.intro @UP (And.intro @UN (And.intro @UL (And.intro @W5 (And.intro @W3 (And.intro @W0 (And.intro @UJ (And.intro @UD (And.intro @UF (And.intro @UB (And.intro @UH (And.intro @Qn (And.intro @QX (And.intro @N2 (And.intro @WQ (And.intro @Tr (And.intro @Tp (And.intro @Tn (And.intro @WN (And.intro @Th (And.intro @Tl (And.intro @Tj (And.intro @XL (And.intro @Wa (And.intro @WW (And.intro @WY (And.intro @Tv (And.intro @WU (And.intro @Tt (And.intro @WS (And.intro @Wc (And.intro @JA @Lt))))))))))))))))))))))))))))))))))))))))):=(And.intro @rd28 (And.intro @XC (And.intro @XG (And.intro @XE (And.intro @XA (And.intro @W8 (And.intro @UW (And.intro @UT (And.intro @UR (And.intro @UP (And.intro @UN (And.intro @UL (And.intro @W5 (And.intro @W3 (And.intro @W0 (And.intro @UJ (And.intro @UD (And.intro @UF (And.intro @UB (And.intro @UH (And.intro @Qn (And.intro @QX (And.intro @N2 (And.intro @WQ (And.intro @Tr (And.intro @Tp (And.intro @Tn (And.intro @WN (And.intro @Th (And.intro @Tl (And.intro @Tj (And.intro @XL (And.intro @Wa (And.intro @WW (And.intro @WY (And.intro @Tv (And.intro @WU (And.intro @Tt (And.intro @WS (And.intro @Wc (And.intro @JA @Lt)))))))))))))))))))))))))))))))))))))))))
end Ab
set_option linter.unusedVariables false
set_option linter.unusedSimpArgs false
set_option maxRecDepth 100000
namespace Ab
open Go
theorem entD_28 (g:Gh) (s:Ses) (x:Seg) (f1 f2 f3:AF) (hc:EOk s s.dat) :
  Ev fun n=>∀again,Ys n (fI C n) again ([.ptr 6 0,.ptr 6 0,.t (tI 0),.t (tI s.now),.agg (BB x)],H28 f1 f2 f3 g s [])=again ([],H28 E0 E0 E0 {g with v4:=g.v4+1} (DJ s x) []):=by
 have q1:¬(10000:Int)≤s.entered:=by have:=hc.ent;omega
 have q2:w64 (s.entered+1)=s.entered+1:=by have:=hc.ent;exact Aa (by omega) (by omega)
 have q3:w64 (s.dist+1)=s.dist+1:=by have:=hc.dst;exact Aa (by omega) (by omega)
 have q4:s.sent.length+1≤1073741824:=by have:=hc.sl;omega
 have q5:take s.sent.length (List.map Out.enc s.sent)=List.map Out.enc s.sent:=take_of_length_le (by simp);have key:=fun (ds:List Int) (hd:∀d∈ds,s.dat.rng≤d∧d≤2*s.dat.rng) (hl:ds.length≤2)=>s156 s.dat hc.gc s.now x hc.now ds hd (by have:=hc.len;omega);have kR:∀d∈[s.dat.rng],s.dat.rng≤d∧d≤2*s.dat.rng:=by have:=hc.gc.rng;simp;omega
 simp only [BW.enc,cons_append,nil_append] at key;by_cases h0:LQ s.dark s.now=true
 ·rw [Ee s x [] s.dist (by simp [Ce,h0])];refine ((Fq s.dark s.now).and (key [] (by simp) (by simp))).mono fun n h again => ?_;obtain ⟨h1,h2⟩:=h;simp only [map_nil] at h2;simp only [H28,F3,HT,BB,A7,vv2,vf,reduceCtorEq,reduceAdd,reduceEqDiff,h1,h0,h2,AN,AJ,q1,q2,q3,q4,q5,bne_self_eq_false,le_refl,JE (x:=⟨s.now,x⟩),map_append,map_cons,map_nil,Out.enc]
 ·have h0:LQ s.dark s.now=false:=by simpa using h0
  by_cases h5:s.picks=[]
  ·rw [Ee s x [s.dat.rng] s.dist (by simp [Ce,h0,h5])];refine ((Fq s.dark s.now).and (key [s.dat.rng] kR (by simp))).mono fun n h again => ?_;obtain ⟨h1,h2⟩:=h;simp only [map_cons,map_nil,BY] at h2;have h5':(s.picks.length:Int)=0:=by simp [h5]
   simp only [H28,F3,HT,BB,A7,vv2,vf,reduceCtorEq,reduceAdd,reduceEqDiff,h1,h0,h2,h5',beq_self_eq_true,AN,AJ,q1,q2,q3,q4,q5,bne_self_eq_false,le_refl,JE (x:=⟨s.now,x⟩),map_append,map_cons,map_nil,Out.enc]
  ·have hpos:=length_pos_iff.2 h5;have h6:¬(s.picks.length:Int)=0:=by omega
   have h6':((s.picks.length:Int)==0)=false:=by simpa using h6
   have hm1:=emod_nonneg s.entered h6;have hm2:=emod_lt_of_pos s.entered (show (0:Int)<s.picks.length by omega);have hm:tmod s.entered s.picks.length=s.entered % s.picks.length:=Int.tmod_eq_emod_of_nonneg hc.ent.1;obtain ⟨p,hp⟩:∃p,s.picks[(s.entered % s.picks.length).toNat]? = some p:=⟨_,getElem?_eq_getElem (by omega)⟩
   have hg:s.picks.getD (s.entered % s.picks.length).toNat 0=p:=by rw [getD_eq_getElem?_getD,hp];rfl
   have hpk:=hc.pk p (mem_of_getElem? hp);have hrg:=hc.gc.rng;have k176:=s176 p s.dat.rng hpk hrg;have kf:=key (BJ p s.dat.rng) (fun d hd=>Fx hrg.1 hd) (Fy _ _);have kr:=key [s.dat.rng] kR (by simp);have c1:∀z:Int×List (List Tree),True:=fun _=>trivial;by_cases h7:(BJ p s.dat.rng).head? = some s.dat.rng
   ·rw [Ee s x (BJ p s.dat.rng) s.dist (by simp only [Ce,h0,h5,hg,h7,if_true,if_false,false_eq_true])];obtain ⟨l,hl⟩:∃l,BJ p s.dat.rng=s.dat.rng::l:=by
     cases hf:BJ p s.dat.rng with
     |nil=>rw [hf] at h7;cases h7
     |cons a l=>rw [hf] at h7;cases h7;exact ⟨l,rfl⟩
    rw [hl] at kf k176 ⊢;refine ((Fq s.dark s.now).and (k176.and kf)).mono fun n h again => ?_;obtain ⟨h1,h2,h3⟩:=h;simp only [map_cons,BY] at h2 h3;simp only [H28,F3,HT,DY,HY,DY,HX,BB,A7,vv2,vf,reduceCtorEq,reduceAdd,reduceEqDiff,h1,h0,h2,h3,h6,h6',hm,hm1,hp,map_cons,BY,getElem?_cons_zero,(show (0:Int)<((l.length+1:Nat):Int) by omega),beq_self_eq_true,AN,AJ,q1,q2,q3,q4,q5,bne_self_eq_false,le_refl,JE (x:=⟨s.now,x⟩),map_append,map_nil,Out.enc]
   ·have h8:∀y:Int,((BJ p s.dat.rng).map BY)[0]? = some [tI y]→(y==s.dat.rng)=false:=by
     intro y hy;cases hf:BJ p s.dat.rng with
     |nil=>rw [hf] at hy;cases hy
     |cons a l=>
      rw [hf] at hy h7;cases hy;simp at h7;simpa using h7
    have k8:(BJ p s.dat.rng).length=0∨∃y,0<(BJ p s.dat.rng).length∧((BJ p s.dat.rng).map BY)[0]? = some [tI y]∧(y==s.dat.rng)=false:=by
     cases hf:BJ p s.dat.rng with
     |nil=>exact .inl rfl
     |cons a l=>exact .inr ⟨a,by simp,rfl,h8 a (by rw [hf];rfl)⟩
    by_cases h9:0≤s.limit∧s.limit≤s.dist
    ·rw [Ee s x [s.dat.rng] s.dist (by simp only [Ce,h0,h5,hg,h7,h9,if_true,if_false,false_eq_true,and_self])];refine ((Fq s.dark s.now).and (k176.and kr)).mono fun n h again => ?_;obtain ⟨h1,h2,h3⟩:=h;simp only [map_cons,map_nil,BY] at h3;rcases k8 with k8|⟨y,k8,k9,k10⟩
     ·simp only [H28,F3,HT,DY,HY,DY,HX,BB,A7,vv2,vf,reduceCtorEq,reduceAdd,reduceEqDiff,h1,h0,h2,h3,h6,h6',hm,hm1,hp,map_cons,BY,k8,natCast_zero,lt_irrefl,h9,beq_self_eq_true,AN,AJ,q1,q2,q3,q4,q5,bne_self_eq_false,le_refl,JE (x:=⟨s.now,x⟩),map_append,map_nil,Out.enc]
     ·simp only [H28,F3,HT,DY,HY,DY,HX,BB,A7,vv2,vf,reduceCtorEq,reduceAdd,reduceEqDiff,h1,h0,h2,h3,h6,h6',hm,hm1,hp,map_cons,BY,(show (0:Int)<((BJ p s.dat.rng).length:Int) by omega),k9,k10,h9,beq_self_eq_true,AN,AJ,q1,q2,q3,q4,q5,bne_self_eq_false,le_refl,JE (x:=⟨s.now,x⟩),map_append,map_nil,Out.enc]
    ·rw [Ee s x (BJ p s.dat.rng) (s.dist+1) (by simp only [Ce,h0,h5,hg,h7,h9,if_true,if_false,false_eq_true,and_self])];refine ((Fq s.dark s.now).and (k176.and kf)).mono fun n h again => ?_;obtain ⟨h1,h2,h3⟩:=h;have h9':(0≤s.limit→¬s.limit≤s.dist):=fun a b=>h9 ⟨a,b⟩;by_cases h10:0≤s.limit
     ·have h11:=h9' h10;rcases k8 with k8|⟨y,k8,k9,k10⟩
      ·simp only [H28,F3,HT,DY,HY,DY,HX,BB,A7,vv2,vf,reduceCtorEq,reduceAdd,reduceEqDiff,h1,h0,h2,h3,h6,h6',hm,hm1,hp,map_cons,BY,k8,natCast_zero,lt_irrefl,h10,h11,beq_self_eq_true,AN,AJ,q1,q2,q3,q4,q5,bne_self_eq_false,le_refl,Lb (x:=⟨s.now,x⟩),map_append,map_nil,Out.enc]
      ·simp only [H28,F3,HT,DY,HY,DY,HX,BB,A7,vv2,vf,reduceCtorEq,reduceAdd,reduceEqDiff,h1,h0,h2,h3,h6,h6',hm,hm1,hp,map_cons,BY,(show (0:Int)<((BJ p s.dat.rng).length:Int) by omega),k9,k10,h10,h11,beq_self_eq_true,AN,AJ,q1,q2,q3,q4,q5,bne_self_eq_false,le_refl,Lb (x:=⟨s.now,x⟩),map_append,map_nil,Out.enc]
     ·rcases k8 with k8|⟨y,k8,k9,k10⟩
      ·simp only [H28,F3,HT,DY,HY,DY,HX,BB,A7,vv2,vf,reduceCtorEq,reduceAdd,reduceEqDiff,h1,h0,h2,h3,h6,h6',hm,hm1,hp,map_cons,BY,k8,natCast_zero,lt_irrefl,h10,beq_self_eq_true,AN,AJ,q1,q2,q3,q4,q5,bne_self_eq_false,le_refl,Lb (x:=⟨s.now,x⟩),map_append,map_nil,Out.enc]
      ·simp only [H28,F3,HT,DY,HY,DY,HX,BB,A7,vv2,vf,reduceCtorEq,reduceAdd,reduceEqDiff,h1,h0,h2,h3,h6,h6',hm,hm1,hp,map_cons,BY,(show (0:Int)<((BJ p s.dat.rng).length:Int) by omega),k9,k10,h10,beq_self_eq_true,AN,AJ,q1,q2,q3,q4,q5,bne_self_eq_false,le_refl,Lb (x:=⟨s.now,x⟩),map_append,map_nil,Out.enc]
theorem entR_28 (g:Gh) (s:Ses) (x:Seg) (f1 f2 f3:AF) (hc:EOk s s.rep) (v8:Nat) (e8:List (List Tree)) (a b:Int) (ks:List (List Tree)) (bd:ByteArray) (y:Seg) :
  Ev fun n=>∀again,Yu n (fI C n) again ([.ptr 6 0,.ptr 6 4,.t (tI 1),.t (tI s.now),.agg (BB x)],H28 f1 f2 f3 g s [.row false v8 8 e8,.box [.t (tI a),.t (tI b),.t (.sl 2 ks),.t (.str bd)],.box (BB y)])=again ([],H28 E0 E0 E0 {g with v5:=g.v5+1} (Ch s x) [.row false v8 8 e8,.box [.t (tI a),.t (tI b),.t (.sl 2 ks),.t (.str bd)],.box (BB y)]):=by
 have q1:¬(10000:Int)≤s.entered:=by have:=hc.ent;omega
 have q2:w64 (s.entered+1)=s.entered+1:=by have:=hc.ent;exact Aa (by omega) (by omega)
 have q3:w64 (s.dist+1)=s.dist+1:=by have:=hc.dst;exact Aa (by omega) (by omega)
 have q4:s.told.length+1≤1073741824:=by have:=hc.sl;omega
 have q5:take s.told.length (List.map Out.enc s.told)=List.map Out.enc s.told:=take_of_length_le (by simp);have key:=fun (ds:List Int) (hd:∀d∈ds,s.rep.rng≤d∧d≤2*s.rep.rng) (hl:ds.length≤2)=>s156 s.rep hc.gc s.now x hc.now ds hd (by have:=hc.len;omega);have kR:∀d∈[s.rep.rng],s.rep.rng≤d∧d≤2*s.rep.rng:=by have:=hc.gc.rng;simp;omega
 simp only [BW.enc,cons_append,nil_append] at key;by_cases h0:LQ s.dark s.now=true
 ·rw [Ed s x [] s.dist (by simp [Ce,h0])];refine ((Fq s.dark s.now).and (key [] (by simp) (by simp))).mono fun n h again => ?_;obtain ⟨h1,h2⟩:=h;simp only [map_nil] at h2;simp only [H28,F4,HU,BB,A7,vv2,vf,reduceCtorEq,reduceAdd,reduceEqDiff,h1,h0,h2,AN,AJ,q1,q2,q3,q4,q5,bne_self_eq_false,le_refl,JC (x:=⟨s.now,x⟩),map_append,map_cons,map_nil,Out.enc]
 ·have h0:LQ s.dark s.now=false:=by simpa using h0
  by_cases h5:s.picks=[]
  ·rw [Ed s x [s.rep.rng] s.dist (by simp [Ce,h0,h5])];refine ((Fq s.dark s.now).and (key [s.rep.rng] kR (by simp))).mono fun n h again => ?_;obtain ⟨h1,h2⟩:=h;simp only [map_cons,map_nil,BY] at h2;have h5':(s.picks.length:Int)=0:=by simp [h5]
   simp only [H28,F4,HU,BB,A7,vv2,vf,reduceCtorEq,reduceAdd,reduceEqDiff,h1,h0,h2,h5',beq_self_eq_true,AN,AJ,q1,q2,q3,q4,q5,bne_self_eq_false,le_refl,JC (x:=⟨s.now,x⟩),map_append,map_cons,map_nil,Out.enc]
  ·have hpos:=length_pos_iff.2 h5;have h6:¬(s.picks.length:Int)=0:=by omega
   have h6':((s.picks.length:Int)==0)=false:=by simpa using h6
   have hm1:=emod_nonneg s.entered h6;have hm2:=emod_lt_of_pos s.entered (show (0:Int)<s.picks.length by omega);have hm:tmod s.entered s.picks.length=s.entered % s.picks.length:=Int.tmod_eq_emod_of_nonneg hc.ent.1;obtain ⟨p,hp⟩:∃p,s.picks[(s.entered % s.picks.length).toNat]? = some p:=⟨_,getElem?_eq_getElem (by omega)⟩
   have hg:s.picks.getD (s.entered % s.picks.length).toNat 0=p:=by rw [getD_eq_getElem?_getD,hp];rfl
   have hpk:=hc.pk p (mem_of_getElem? hp);have hrg:=hc.gc.rng;have k176:=s176 p s.rep.rng hpk hrg;have kf:=key (BJ p s.rep.rng) (fun d hd=>Fx hrg.1 hd) (Fy _ _);have kr:=key [s.rep.rng] kR (by simp);have c1:∀z:Int×List (List Tree),True:=fun _=>trivial;by_cases h7:(BJ p s.rep.rng).head? = some s.rep.rng
   ·rw [Ed s x (BJ p s.rep.rng) s.dist (by simp only [Ce,h0,h5,hg,h7,if_true,if_false,false_eq_true])];obtain ⟨l,hl⟩:∃l,BJ p s.rep.rng=s.rep.rng::l:=by
     cases hf:BJ p s.rep.rng with
     |nil=>rw [hf] at h7;cases h7
     |cons a l=>rw [hf] at h7;cases h7;exact ⟨l,rfl⟩
    rw [hl] at kf k176 ⊢;refine ((Fq s.dark s.now).and (k176.and kf)).mono fun n h again => ?_;obtain ⟨h1,h2,h3⟩:=h;simp only [map_cons,BY] at h2 h3;simp only [H28,F4,HU,DZ,Ha,DZ,HZ,BB,A7,vv2,vf,reduceCtorEq,reduceAdd,reduceEqDiff,h1,h0,h2,h3,h6,h6',hm,hm1,hp,map_cons,BY,getElem?_cons_zero,(show (0:Int)<((l.length+1:Nat):Int) by omega),beq_self_eq_true,AN,AJ,q1,q2,q3,q4,q5,bne_self_eq_false,le_refl,JC (x:=⟨s.now,x⟩),map_append,map_nil,Out.enc]
   ·have h8:∀y:Int,((BJ p s.rep.rng).map BY)[0]? = some [tI y]→(y==s.rep.rng)=false:=by
     intro y hy;cases hf:BJ p s.rep.rng with
     |nil=>rw [hf] at hy;cases hy
     |cons a l=>
      rw [hf] at hy h7;cases hy;simp at h7;simpa using h7
    have k8:(BJ p s.rep.rng).length=0∨∃y,0<(BJ p s.rep.rng).length∧((BJ p s.rep.rng).map BY)[0]? = some [tI y]∧(y==s.rep.rng)=false:=by
     cases hf:BJ p s.rep.rng with
     |nil=>exact .inl rfl
     |cons a l=>exact .inr ⟨a,by simp,rfl,h8 a (by rw [hf];rfl)⟩
    by_cases h9:0≤s.limit∧s.limit≤s.dist
    ·rw [Ed s x [s.rep.rng] s.dist (by simp only [Ce,h0,h5,hg,h7,h9,if_true,if_false,false_eq_true,and_self])];refine ((Fq s.dark s.now).and (k176.and kr)).mono fun n h again => ?_;obtain ⟨h1,h2,h3⟩:=h;simp only [map_cons,map_nil,BY] at h3;rcases k8 with k8|⟨y,k8,k9,k10⟩
     ·simp only [H28,F4,HU,DZ,Ha,DZ,HZ,BB,A7,vv2,vf,reduceCtorEq,reduceAdd,reduceEqDiff,h1,h0,h2,h3,h6,h6',hm,hm1,hp,map_cons,BY,k8,natCast_zero,lt_irrefl,h9,beq_self_eq_true,AN,AJ,q1,q2,q3,q4,q5,bne_self_eq_false,le_refl,JC (x:=⟨s.now,x⟩),map_append,map_nil,Out.enc]
     ·simp only [H28,F4,HU,DZ,Ha,DZ,HZ,BB,A7,vv2,vf,reduceCtorEq,reduceAdd,reduceEqDiff,h1,h0,h2,h3,h6,h6',hm,hm1,hp,map_cons,BY,(show (0:Int)<((BJ p s.rep.rng).length:Int) by omega),k9,k10,h9,beq_self_eq_true,AN,AJ,q1,q2,q3,q4,q5,bne_self_eq_false,le_refl,JC (x:=⟨s.now,x⟩),map_append,map_nil,Out.enc]
    ·rw [Ed s x (BJ p s.rep.rng) (s.dist+1) (by simp only [Ce,h0,h5,hg,h7,h9,if_true,if_false,false_eq_true,and_self])];refine ((Fq s.dark s.now).and (k176.and kf)).mono fun n h again => ?_;obtain ⟨h1,h2,h3⟩:=h;have h9':(0≤s.limit→¬s.limit≤s.dist):=fun a b=>h9 ⟨a,b⟩;by_cases h10:0≤s.limit
     ·have h11:=h9' h10;rcases k8 with k8|⟨y,k8,k9,k10⟩
      ·simp only [H28,F4,HU,DZ,Ha,DZ,HZ,BB,A7,vv2,vf,reduceCtorEq,reduceAdd,reduceEqDiff,h1,h0,h2,h3,h6,h6',hm,hm1,hp,map_cons,BY,k8,natCast_zero,lt_irrefl,h10,h11,beq_self_eq_true,AN,AJ,q1,q2,q3,q4,q5,bne_self_eq_false,le_refl,LZ (x:=⟨s.now,x⟩),map_append,map_nil,Out.enc]
      ·simp only [H28,F4,HU,DZ,Ha,DZ,HZ,BB,A7,vv2,vf,reduceCtorEq,reduceAdd,reduceEqDiff,h1,h0,h2,h3,h6,h6',hm,hm1,hp,map_cons,BY,(show (0:Int)<((BJ p s.rep.rng).length:Int) by omega),k9,k10,h10,h11,beq_self_eq_true,AN,AJ,q1,q2,q3,q4,q5,bne_self_eq_false,le_refl,LZ (x:=⟨s.now,x⟩),map_append,map_nil,Out.enc]
     ·rcases k8 with k8|⟨y,k8,k9,k10⟩
      ·simp only [H28,F4,HU,DZ,Ha,DZ,HZ,BB,A7,vv2,vf,reduceCtorEq,reduceAdd,reduceEqDiff,h1,h0,h2,h3,h6,h6',hm,hm1,hp,map_cons,BY,k8,natCast_zero,lt_irrefl,h10,beq_self_eq_true,AN,AJ,q1,q2,q3,q4,q5,bne_self_eq_false,le_refl,LZ (x:=⟨s.now,x⟩),map_append,map_nil,Out.enc]
      ·simp only [H28,F4,HU,DZ,Ha,DZ,HZ,BB,A7,vv2,vf,reduceCtorEq,reduceAdd,reduceEqDiff,h1,h0,h2,h3,h6,h6',hm,hm1,hp,map_cons,BY,(show (0:Int)<((BJ p s.rep.rng).length:Int) by omega),k9,k10,h10,beq_self_eq_true,AN,AJ,q1,q2,q3,q4,q5,bne_self_eq_false,le_refl,LZ (x:=⟨s.now,x⟩),map_append,map_nil,Out.enc]
end Ab
set_option linter.unusedVariables false
set_option linter.unusedSimpArgs false
set_option maxRecDepth 100000
namespace Ab
open Go
theorem nx2_28 (n:Nat) (again:List AV×Heap→Option (List Tree)) (g:Gh) (s:Ses) (e:List AV) (o:Option Int) :
  Ye n (fI C n) again (e,H28 E0 E0 E0 g s (boO o))=again (CG o,H28 E0 E0 E0 g s []):=by
 cases o<;>simp only [Ye,boO,CG,H28,A7,vv2,vf,reduceCtorEq,reduceAdd,reduceEqDiff,getD_none,Option.getD_some,isSome_none,isSome_some]
theorem nx3_28 (n:Nat) (again:List AV×Heap→Option (List Tree)) (g:Gh) (s:Ses) (e:List AV) (o:Option Int) (tl:Heap) (w:Bool) :
  NW n (fI C n) (e,H28 E0 E0 E0 g s tl) again ([.t (.bool w)],H28 E0 E0 E0 g s (boO o))=again (CG (B3 o (if w=true then some s.snd.due else none)),H28 E0 E0 E0 g s []):=by
 have k:=nx2_28 n again g s [];cases w
 ·cases o with
  |none=>
   have k:=k none;simp only [boO,getD_none,isSome_none,H28] at k;simp only [NW,boO,H28,A7,vv2,vf,reduceCtorEq,reduceAdd,reduceEqDiff,getD_none,Option.getD_some,isSome_none,isSome_some,AN,k,B3]
  |some a=>
   have k:=k (some a);simp only [boO,Option.getD_some,isSome_some,H28] at k;simp only [NW,boO,H28,A7,vv2,vf,reduceCtorEq,reduceAdd,reduceEqDiff,getD_none,Option.getD_some,isSome_none,isSome_some,AN,k,B3]
 ·cases o with
  |none=>
   have k:=k (some s.snd.due);simp only [boO,Option.getD_some,isSome_some,H28] at k;simp only [NW,boO,H28,A7,vv2,vf,reduceCtorEq,reduceAdd,reduceEqDiff,getD_none,Option.getD_some,isSome_none,isSome_some,AN,k,B3]
  |some a=>
   by_cases hq:s.snd.due<a
   ·have k:=k (some s.snd.due);simp only [boO,Option.getD_some,isSome_some,H28] at k;simp only [NW,boO,H28,A7,vv2,vf,reduceCtorEq,reduceAdd,reduceEqDiff,getD_none,Option.getD_some,isSome_none,isSome_some,AN,k,B3,hq]
   ·have k:=k (some a);simp only [boO,Option.getD_some,isSome_some,H28] at k;simp only [NW,boO,H28,A7,vv2,vf,reduceCtorEq,reduceAdd,reduceEqDiff,getD_none,Option.getD_some,isSome_none,isSome_some,AN,k,B3,hq]
theorem nx4_28 (n:Nat) (again:List AV×Heap→Option (List Tree)) (g:Gh) (s:Ses) (e:List AV) (o:Option Int) (he:s.entered<10000) :
  VB n (fI C n) again (e,H28 E0 E0 E0 g s (boO o))=again (CG (B3 o (if s.snd.st=1 then some s.snd.due else none)),H28 E0 E0 E0 g s []):=by
 have q:¬(10000:Int)≤s.entered:=by omega
 have k:=nx3_28 n again g s e o (boO o);by_cases h:s.snd.st=1
 ·have k:=k true;simp only [boO,H28] at k;simp only [VB,boO,H28,A7,vv2,vf,reduceCtorEq,reduceAdd,reduceEqDiff,h,beq_self_eq_true,q,k]
 ·have k:=k false;have h':(s.snd.st==1)=false:=by simpa using h
  simp only [boO,H28] at k;simp only [VB,boO,H28,A7,vv2,vf,reduceCtorEq,reduceAdd,reduceEqDiff,h,h',k]
theorem nx5_28 (g:Gh) (s:Ses) (e:List AV) (o:Option Int) (he:s.entered<10000) (hr:Bo s.rep) :
  Ev fun n=>∀again,Oy n (fI C n) again (e,H28 E0 E0 E0 g s (boO o))=again (CG (B3 (B3 o (Au s.rep)) (if s.snd.st=1 then some s.snd.due else none)),H28 E0 E0 E0 g s []):=by
 refine (DQ s.rep hr).mono fun n h again => ?_;have k:=fun o=>nx4_28 n again g s [] o he;simp only [BW.enc] at h;cases hn:Au s.rep with
 |none=>
  have k:=k o;rw [hn] at h;simp only [C2] at h;simp only [boO,H28] at k;simp only [Oy,boO,H28,A7,vv2,vf,reduceCtorEq,reduceAdd,reduceEqDiff,h,k];cases o<;>rfl
 |some a=>
  rw [hn] at h;simp only [C2] at h;cases o with
  |none=>
   have k:=k (some a);simp only [boO,H28,Option.getD_some,isSome_some] at k;simp only [Oy,boO,H28,A7,vv2,vf,reduceCtorEq,reduceAdd,reduceEqDiff,getD_none,isSome_none,h,k,B3]
  |some b=>
   by_cases hq:a<b
   ·have k:=k (some a);simp only [boO,H28,Option.getD_some,isSome_some] at k;simp only [Oy,boO,H28,A7,vv2,vf,reduceCtorEq,reduceAdd,reduceEqDiff,Option.getD_some,isSome_some,h,k,B3,hq]
   ·have k:=k (some b);simp only [boO,H28,Option.getD_some,isSome_some] at k;simp only [Oy,boO,H28,A7,vv2,vf,reduceCtorEq,reduceAdd,reduceEqDiff,Option.getD_some,isSome_some,h,k,B3,hq]
theorem nx6_28 (g:Gh) (s:Ses) (e:List AV) (o:Option Int) (he:s.entered<10000) (hd:Bo s.dat) (hr:Bo s.rep) :
  Ev fun n=>∀again,Ox n (fI C n) again (e,H28 E0 E0 E0 g s (boO o))=again (CG (B3 (B3 (B3 o (Au s.dat)) (Au s.rep)) (if s.snd.st=1 then some s.snd.due else none)),H28 E0 E0 E0 g s []):=by
 have key:=fun o=>nx5_28 g s [] o he hr;cases hn:Au s.dat with
 |none=>
  refine ((DQ s.dat hd).and (key o)).mono fun n h again => ?_;obtain ⟨h,k⟩:=h;have k:=k again;simp only [BW.enc,hn,C2] at h;simp only [boO,H28] at k;simp only [Ox,boO,H28,A7,vv2,vf,reduceCtorEq,reduceAdd,reduceEqDiff,h,k];cases o<;>rfl
 |some a=>
  cases o with
  |none=>
   refine ((DQ s.dat hd).and (key (some a))).mono fun n h again => ?_;obtain ⟨h,k⟩:=h;have k:=k again;simp only [BW.enc,hn,C2] at h;simp only [boO,H28,Option.getD_some,isSome_some] at k;simp only [Ox,boO,H28,A7,vv2,vf,reduceCtorEq,reduceAdd,reduceEqDiff,getD_none,isSome_none,h,k,B3]
  |some b=>
   by_cases hq:a<b
   ·refine ((DQ s.dat hd).and (key (some a))).mono fun n h again => ?_;obtain ⟨h,k⟩:=h;have k:=k again;simp only [BW.enc,hn,C2] at h;simp only [boO,H28,Option.getD_some,isSome_some] at k;simp only [Ox,boO,H28,A7,vv2,vf,reduceCtorEq,reduceAdd,reduceEqDiff,Option.getD_some,isSome_some,h,k,B3,hq]
   ·refine ((DQ s.dat hd).and (key (some b))).mono fun n h again => ?_;obtain ⟨h,k⟩:=h;have k:=k again;simp only [BW.enc,hn,C2] at h;simp only [boO,H28,Option.getD_some,isSome_some] at k;simp only [Ox,boO,H28,A7,vv2,vf,reduceCtorEq,reduceAdd,reduceEqDiff,Option.getD_some,isSome_some,h,k,B3,hq]
theorem nx_28 (g:Gh) (s:Ses) (f1 f2 f3:AF) (he:s.entered<10000) (hd:Bo s.dat) (hr:Bo s.rep) :
  Ev fun n=>∀again,VI n (fI C n) again ([.ptr 6 0],H28 f1 f2 f3 g s [])=again (CG (nxS s),H28 E0 E0 E0 g s []):=by
 have q:¬(10000:Int)≤s.entered:=by omega
 have key:=nx6_28 g s [] (s.pend.head?.map (·.at_)) he hd hr;refine key.mono fun n k again => ?_;have k:=k again;have e1:∀(o:Out) (l:List Out),s.pend=o::l→(g.pre++List.map Out.enc s.pend)[g.pre.length]? = some o.enc:=by intro o l h;rw [getElem?_append_right (le_refl _),h];simp
 unfold nxS;cases hp:s.pend with
 |nil=>
  simp only [hp,head?_nil,map_none,boO,H28,getD_none,isSome_none,map_nil] at k;simp only [Wl,U5,Ya,H28,hp,map_nil,A7,vv2,vf,reduceCtorEq,reduceAdd,reduceEqDiff,q,lt_irrefl,natCast_zero,k,head?_nil,map_none]
 |cons o l=>
  have e1:=e1 o l hp;simp only [hp] at e1;simp only [hp,head?_cons,map_some,boO,H28,Option.getD_some,isSome_some] at k;simp only [Wl,U5,Ya,J28_1,H28,hp,A7,vv2,vf,reduceCtorEq,reduceAdd,reduceEqDiff,q,(show (0:Int)<((l.length+1:Nat):Int) by omega),e1,Out.enc,k,head?_cons,map_some,Int.le_refl]
end Ab
set_option linter.unusedVariables false
set_option linter.unusedSimpArgs false
set_option maxRecDepth 100000
namespace Ab
open Go
theorem ex_28 (g:Gh) (s:Ses) (f1 f2 f3:AF) (he:s.entered<10000) (ha:s.snd.acked.length≤100) (hl:s.pend.length≤1000000)
  (hw:s.snd.st=1→s.snd.due=s.now→(Ca s.snd s.now).2.2=0∧(Ca s.snd s.now).2.1.length≤1000000) :
  Ev fun n=>∀again,Yw n (fI C n) again ([.ptr 6 0],H28 f1 f2 f3 g s [])=again ([],H28 E0 E0 E0 (exG g s) (exS s) []):=by
 have q:¬(10000:Int)≤s.entered:=by omega
 by_cases h1:s.snd.st=1
 ·by_cases h2:s.snd.due=s.now
  ·obtain ⟨w1,w2⟩:=hw h1 h2;have e1:exS s={s with snd:=(Ca s.snd s.now).1,pend:=s.pend++(Ca s.snd s.now).2.1}:=by simp only [exS,h1,h2,and_self,if_true]
   have e2:exG g s={g with v0:=g.v0+1,pre:=[]}:=by simp only [exG,h1,h2,and_self,if_true]
   rw [e1,e2];refine (s149 s.snd s.now ha).mono fun n h again => ?_;simp only [DT,w1,Snd.enc,cons_append,nil_append,h1,h2] at h;generalize Ca s.snd s.now=w at h w1 w2 ⊢;obtain ⟨a,o,e⟩:=w;simp only at h w1 w2 ⊢;have q2:¬g.pre.length+s.pend.length<g.pre.length+s.pend.length:=by omega
   have q3:s.pend.length+o.length≤1073741824:=by omega
   have q4:take s.pend.length (List.map Out.enc s.pend)=List.map Out.enc s.pend:=take_of_length_le (by simp);simp only [SJ,R6,VA,U9,H28,A7,vv2,vf,reduceCtorEq,reduceAdd,reduceEqDiff,h1,h2,h,q,beq_self_eq_true,bne_self_eq_false,length_append,q2,q3,q4,JA,drop_left,map_append,le_refl,nil_append]
  ·have h2':(s.snd.due != s.now)=true:=by simpa using h2
   have e1:exS s=s:=by simp only [exS,h2,and_false,if_false]
   have e2:exG g s=g:=by simp only [exG,h2,and_false,if_false]
   rw [e1,e2];refine Ev.of fun n again => ?_;simp only [SJ,R6,VA,U9,H28,A7,vv2,vf,reduceCtorEq,reduceAdd,reduceEqDiff,h1,h2',q,beq_self_eq_true]
 ·have h1':(s.snd.st==1)=false:=by simpa using h1
  have e1:exS s=s:=by simp only [exS,h1,false_and,if_false]
  have e2:exG g s=g:=by simp only [exG,h1,false_and,if_false]
  rw [e1,e2];refine Ev.of fun n again => ?_;simp only [SJ,R6,VA,U9,H28,A7,vv2,vf,reduceCtorEq,reduceAdd,reduceEqDiff,h1']
def KE (q:Gh×Ses):Rd (Gh×Ses) (Gh×Ses):=
 match q.2.pend with
 |[]=>.done q
 |o::l=>if o.at_=q.2.now then .next ({q.1 with v4:=q.1.v4+1,pre:=q.1.pre++[o.enc]},{DJ q.2 o.seg with pend:=l}) else .done q
theorem tx_28 (g:Gh) (s:Ses) (f1 f2 f3:AF) (hb:Bud s.pend.length s) :
  Ev fun n=>∀again,Yr n (fI C n) again ([.ptr 6 0],H28 f1 f2 f3 g s [])=again ([],H28 E0 E0 E0 (txT s.pend.length (g,s)).1 (txS s.pend.length s) []):=by
 have key:=By (R:=List Tree) (Z:=List AV×Heap→Option (List Tree)) (Q:=Gh×Ses)
  (B:=fun n z p again=>NR n (fI C n) ([.ptr 6 0],H28 f1 f2 f3 g s []) z p again)
  (s:=(([],H28 E0 E0 E0 g s []):List AV×Heap)) (r:=txT s.pend.length (g,s))
  (fun z q=>z ([],H28 E0 E0 E0 q.1 q.2 [])) (fun q:Gh×Ses=>(([],H28 E0 E0 E0 q.1 q.2 []):List AV×Heap)) KE (fun q=>Bud q.2.pend.length q.2) (fun q=>q.2.pend.length) (fun q=>txT q.2.pend.length q) (g,s) rfl hb rfl
  (fun q hI => ?_) (fun q q' hI hs => ?_) (fun q hI => ?_)
 ·refine key.mono fun n h again => ?_;have h:=h again;rw [O8] at h;simp only [H28] at h;simp only [tC28_7,YP,H28,A7,h]
 ·obtain ⟨g1,s1⟩:=q;simp only at hI ⊢;have e1:∀(o:Out) (l:List Out),s1.pend=o::l→(g1.pre++List.map Out.enc s1.pend)[g1.pre.length]? = some o.enc:=by intro o l h;rw [getElem?_append_right (le_refl _),h];simp
  cases hp:s1.pend with
  |nil=>
   refine Ev.of fun n z again => ?_;simp only [KE,NR,P8,H28,hp,A7,vv2,vf,reduceCtorEq,reduceAdd,reduceEqDiff,natCast_zero,lt_irrefl,Rd.BA,map_nil]
  |cons o l=>
   have e1:=e1 o l hp;by_cases ho:o.at_=s1.now
   ·rw [hp] at hI;have k:=entD_28 g1 s1 o.seg (.row true (AF.ver f1) 15 (Am f1)) (.row true (AF.ver f2) 4 (Am f2)) (.row true (AF.ver f3) 4 (Am f3)) (Bud.eD hI);refine k.mono fun n h z again => ?_;simp only [BB,H28] at h;have h2:=fun again=>h again;have ep:(DJ s1 o.seg).pend=o::l:=hp;have q1:(1:Int)≤((l.length+1:Nat):Int):=by omega
    have q2:=ucP_28 {g1 with v4:=g1.v4+1} (DJ s1 o.seg) o l ep;rw [ep] at q2;simp only [length_cons,Nat.add_sub_cancel] at q2;have e2:(g1.pre++List.map Out.enc (o::l))[g1.pre.length]? = some [tI s1.now,tI o.seg.kind,tI o.seg.ses,tI o.seg.ser,tI o.seg.off,tI o.seg.tot,.bool o.seg.chk,.str o.seg.data,.sl 2 (o.seg.AY.map Span.enc)]:=by rw [hp] at e1;rw [e1,← ho];rfl
    simp only [ep,hp] at h2;simp only [KE,NR,P8,Yd,H28,hp,ep,ho,A7,vv2,vf,reduceCtorEq,reduceAdd,reduceEqDiff,(show (0:Int)<((l.length+1:Nat):Int) by omega),Int.le_refl,e2,beq_self_eq_true,Rd.Av,h2,q1,Nat.add_sub_cancel,q2,(show (0:Int)≤1 by omega)];simp only [map_cons,append_assoc,cons_append,nil_append]
   ·have ho':(o.at_==s1.now)=false:=by simpa using ho
    refine Ev.of fun n z again => ?_;have e2:(g1.pre++List.map Out.enc (o::l))[g1.pre.length]? = some [tI o.at_,tI o.seg.kind,tI o.seg.ses,tI o.seg.ser,tI o.seg.off,tI o.seg.tot,.bool o.seg.chk,.str o.seg.data,.sl 2 (o.seg.AY.map Span.enc)]:=by rw [hp] at e1;rw [e1];rfl
    simp only [KE,NR,P8,H28,hp,ho,ho',A7,vv2,vf,reduceCtorEq,reduceAdd,reduceEqDiff,(show (0:Int)<((l.length+1:Nat):Int) by omega),Int.le_refl,e2,Rd.BA]
 ·obtain ⟨g1,s1⟩:=q;unfold KE at hs;simp only at hI hs ⊢;cases hp:s1.pend with
  |nil=>rw [hp] at hs;cases hs
  |cons o l=>
   rw [hp] at hs hI;simp only at hs;split at hs
   ·cases hs;refine ⟨?_,by simp⟩;exact (Bud.DJ hI o.seg).of rfl rfl rfl rfl rfl rfl rfl rfl
   ·cases hs
 ·obtain ⟨g1,s1⟩:=q;unfold KE;simp only;cases hp:s1.pend with
  |nil=>simp [txT,Rd.fin]
  |cons o l=>
   simp only [length_cons,txT,hp];split
   ·rfl
   ·simp [Rd.fin,txT,hp, *]
end Ab
set_option linter.unusedVariables false
set_option linter.unusedSimpArgs false
set_option maxRecDepth 100000
namespace Ab
open Go
def A5 (g:Gh) (s:Ses) (v:Nat) (o:Option Seg):List AV×Heap:=([.rptr 7 v 0 0,.t (.bool o.isSome)],H28 E0 E0 E0 g s [.row false v 8 [(o.getD EB).enc]])
theorem Wh (g:Gh) (s:Ses) (v:Nat) (y:Seg) (hr:Bo s.rep) :
  Ev fun n=>∀again e1 hp,NY n (fI C n) ((.rptr 7 v 0 0::e1),hp) again ([],H28 E0 E0 E0 g s [.row false v 8 [y.enc]])=again (A5 g (Bf s).1 (v+1) (Bf s).2):=by
 cases hf:s.rep.frames with
 |nil=>
  have hn:Au s.rep=none:=by simp [Au,hf]
  rw [show Bf s=(s,none) by simp only [Bf,hf]];refine (DQ s.rep hr).mono fun n h again e1 hp => ?_;rw [hn] at h;simp only [BW.enc,C2] at h;simp only [A5,NY,QF,H28,A7,vv2,vf,reduceCtorEq,reduceAdd,reduceEqDiff,getElem?_cons_zero,Seg.enc,h,isSome_none,getD_none,EB,map_nil,set_cons_zero,drop_succ_cons,drop_nil,append_nil,le_refl]
 |cons f l=>
  have hn:Au s.rep=some f.arr:=by simp [Au,hf]
  by_cases ha:f.arr=s.now
  ·rw [show Bf s=(Bq s,some f.seg) by simp only [Bf,hf,ha,if_true]];refine ((DQ s.rep hr).and (Qh s.rep hr f l hf)).mono fun n h again e1 hp => ?_;obtain ⟨h,h2⟩:=h;rw [hn,ha] at h;simp only [BW.enc,C2] at h h2;have hx:Bq s={s with rep:=⟨s.rep.rng,l,s.rep.sent,s.rep.lost⟩}:=by simp only [Bq,hf,tail_cons]
   simp only [hx,A5,NY,QF,H28,A7,vv2,vf,reduceCtorEq,reduceAdd,reduceEqDiff,getElem?_cons_zero,Seg.enc,h,h2,bne_self_eq_false,isSome_some,Option.getD_some,set_cons_zero,drop_succ_cons,drop_nil,append_nil,le_refl]
  ·have ha':(f.arr != s.now)=true:=by simpa using ha
   rw [show Bf s=(s,none) by simp only [Bf,hf,ha,if_false]];refine (DQ s.rep hr).mono fun n h again e1 hp => ?_;rw [hn] at h;simp only [BW.enc,C2] at h;simp only [ha',A5,NY,QF,H28,A7,vv2,vf,reduceCtorEq,reduceAdd,reduceEqDiff,getElem?_cons_zero,Seg.enc,h,isSome_none,getD_none,EB,map_nil,set_cons_zero,drop_succ_cons,drop_nil,append_nil,le_refl]
theorem hr_28 (g:Gh) (s:Ses) (v:Nat) (x:Seg) (hr:Bo s.rep) (ha:s.snd.acked.length≤100∧s.pend.length≤1000000) (hx:x.AY.length≤100∨1000<x.AY.length)
  (hw:¬s.now<s.snd.busy→(BK s.snd s.now x).2.2=0∧(BK s.snd s.now x).2.1.length≤1000000) :
  Ev fun n=>∀z again,Ez n (fI C n) z (A5 g s v (some x)) again=again (A5 (lsG g s) (Bf (lsX s x)).1 (v+1) (Bf (lsX s x)).2):=by
 by_cases hb:s.now<s.snd.busy
 ·have e1:lsX s x=s:=by simp only [lsX,hb,if_true]
  have e2:lsG g s=g:=by simp only [lsG,hb,if_true]
  rw [e1,e2];refine (Wh g s v x hr).mono fun n h z again => ?_;simp only [H28] at h;have hb':decide (s.now<s.snd.busy)=true:=decide_eq_true hb;simp only [A5,H28,isSome_some,Option.getD_some] at h ⊢;simp only [Ez,H28,A7,vv2,vf,reduceCtorEq,reduceAdd,reduceEqDiff,hb,FW,Ej,h]
 ·obtain ⟨w1,w2⟩:=hw hb;have e2:lsG g s=gP g:=by simp only [lsG,hb,if_false]
  have hx2:lsX s x=lsF {s with snd:=(BK s.snd s.now x).1,pend:=s.pend++(BK s.snd s.now x).2.1}:=by simp only [lsX,hb,if_false]
  rw [e2];have key:=fun s' (hs:s'.rep=s.rep)=>Wh (gP g) s' v x (by rw [hs];exact hr);have q2:¬g.pre.length+s.pend.length<g.pre.length+s.pend.length:=by omega
  have q4:take s.pend.length (List.map Out.enc s.pend)=List.map Out.enc s.pend:=take_of_length_le (by simp);have h148:=s148 s.snd s.now x ha.1 hx;simp only [DT,w1,Snd.enc,Seg.enc,cons_append,nil_append] at h148;rw [hx2];generalize BK s.snd s.now x=w at h148 w1 w2 ⊢;obtain ⟨a,o,e⟩:=w;simp only at h148 w1 w2 ⊢;have q3:s.pend.length+o.length≤1073741824:=by omega
  by_cases hk:s.kno=false∧a.st=2
  ·have e3:lsF {s with snd:=a,pend:=s.pend++o}={s with snd:=a,pend:=s.pend++o,kno:=true,knoAt:=s.now}:=by simp only [lsF,hk,and_self,if_true]
   rw [e3];refine (h148.and (key {s with snd:=a,pend:=s.pend++o,kno:=true,knoAt:=s.now} rfl)).mono fun n h z again => ?_;obtain ⟨h,h2⟩:=h;simp only [H28,gP,map_append,nil_append] at h2;have hk1:(!s.kno)=true:=by simp [hk.1]
   have hk2:(a.st==2)=true:=by simp [hk.2]
   simp only [A5,H28,isSome_some,Option.getD_some,gP,map_append,nil_append];simp only [A5,H28,isSome_some,Option.getD_some,gP,map_append,nil_append,Seg.enc] at h2;simp only [Ez,H28,A7,vv2,vf,reduceCtorEq,reduceAdd,reduceEqDiff,hb,hk1,hk2,Seg.enc,getElem?_cons_zero,h,bne_self_eq_false,beq_self_eq_true,length_append,q2,q3,q4,drop_left,le_refl,Lt,h2]
  ·have e3:lsF {s with snd:=a,pend:=s.pend++o}={s with snd:=a,pend:=s.pend++o}:=by simp only [lsF,hk,if_false]
   rw [e3];refine (h148.and (key {s with snd:=a,pend:=s.pend++o} rfl)).mono fun n h z again => ?_;obtain ⟨h,h2⟩:=h;simp only [H28,gP,map_append,nil_append] at h2;simp only [A5,H28,isSome_some,Option.getD_some,gP,map_append,nil_append];simp only [A5,H28,isSome_some,Option.getD_some,gP,map_append,nil_append,Seg.enc] at h2;rcases eq_false_or_eq_true s.kno with hk0|hk0
   ·have hk1:(!s.kno)=false:=by simp [hk0]
    simp only [Ez,H28,A7,vv2,vf,reduceCtorEq,reduceAdd,reduceEqDiff,hb,hk1,Seg.enc,getElem?_cons_zero,h,bne_self_eq_false,beq_self_eq_true,length_append,q2,q3,q4,drop_left,le_refl,JA,h2]
   ·have hk1:(!s.kno)=true:=by simp [hk0]
    have hk2:(a.st==2)=false:=by simpa using fun h=>hk ⟨hk0,h⟩
    simp only [Ez,H28,A7,vv2,vf,reduceCtorEq,reduceAdd,reduceEqDiff,hb,hk1,hk2,Seg.enc,getElem?_cons_zero,h,bne_self_eq_false,beq_self_eq_true,length_append,q2,q3,q4,drop_left,le_refl,JA,h2]
theorem l16_28:Ez=Ez:=rfl
theorem lp_28 {P:Ses→Prop} (hP:LsP P) (q:LS) (h:q.inv P) :
  Ev fun n=>∀z,AK (fun p again=>Ez n (fI C n) z p again) n (A5 q.g q.s q.v q.o)=z ([],H28 E0 E0 E0 q.res.1 q.res.2 []):=by
 refine By (R:=List Tree) (Z:=List AV×Heap→Option (List Tree)) (Q:=Gh×Ses) (B:=fun n z p again=>Ez n (fI C n) z p again) (r:=q.res)
  (fun z r=>z ([],H28 E0 E0 E0 r.1 r.2 [])) (fun q:LS=>A5 q.g q.s q.v q.o) LS.step (LS.inv P) (fun q=>q.s.rep.frames.length+(if q.o.isSome then 1 else 0)) LS.res q rfl h rfl
  (fun q hI => ?_) (fun q q' hI hs=>LS.sound hP q q' hI hs) (fun q hI=>LS.fin hP q hI)
 obtain ⟨g,s,v,o⟩:=q;cases o with
 |none=>
  refine Ev.of fun n z again => ?_;simp only [A5,isSome_none,Ez,H28,A7,vv2,vf,reduceCtorEq,reduceAdd,reduceEqDiff,LS.step,Rd.BA]
 |some x=>
  obtain ⟨h1,h2,h3,h4,h5⟩:=hI;refine (hr_28 g s v x h1 h2 h3 h4).mono fun n h z again => ?_;simp only [LS.step,Rd.Av];exact h z again
theorem ls_28 {P:Ses→Prop} (hP:LsP P) (g:Gh) (s:Ses) (f1 f2 f3:AF) (h:P s) :
  Ev fun n=>∀again,Yv n (fI C n) again ([.ptr 6 0],H28 f1 f2 f3 g s [])=again ([],H28 E0 E0 E0 (lsT s.rep.frames.length (g,s)).1 (lsS s.rep.frames.length s) []):=by
 have hr:=hP.rep s h;obtain ⟨i1,i2⟩:=LS.take hP h g 0;have key:=lp_28 hP _ i1;rw [i2,PX] at key;simp only at key;cases hf:s.rep.frames with
 |nil=>
  have hn:Au s.rep=none:=by simp [Au,hf]
  have e:Bf s=(s,none):=by simp only [Bf,hf]
  rw [e] at key;rw [hf] at key;refine ((DQ s.rep hr).and key).mono fun n h again => ?_;obtain ⟨h,k⟩:=h;rw [hn] at h;simp only [BW.enc,C2] at h;have k:=k again;simp only [A5,H28,isSome_none,getD_none,EB,Seg.enc,map_nil] at k;simp only [SI,R5,QE,H28,A7,vv2,vf,reduceCtorEq,reduceAdd,reduceEqDiff,h,k]
 |cons f l=>
  have hn:Au s.rep=some f.arr:=by simp [Au,hf]
  by_cases ha:f.arr=s.now
  ·have e:Bf s=(Bq s,some f.seg):=by simp only [Bf,hf,ha,if_true]
   rw [e] at key;rw [hf] at key;refine ((DQ s.rep hr).and ((Qh s.rep hr f l hf).and key)).mono fun n h again => ?_;obtain ⟨h,h2,k⟩:=h;rw [hn,ha] at h;simp only [BW.enc,C2] at h h2;have hx:Bq s={s with rep:=⟨s.rep.rng,l,s.rep.sent,s.rep.lost⟩}:=by simp only [Bq,hf,tail_cons]
   have k:=k again;simp only [A5,H28,isSome_some,Option.getD_some,Seg.enc,hx] at k;simp only [SI,R5,QE,l16_28,H28,A7,vv2,vf,reduceCtorEq,reduceAdd,reduceEqDiff,h,h2,bne_self_eq_false,k]
  ·have ha':(f.arr != s.now)=true:=by simpa using ha
   have e:Bf s=(s,none):=by simp only [Bf,hf,ha,if_false]
   rw [e] at key;rw [hf] at key;refine ((DQ s.rep hr).and key).mono fun n h again => ?_;obtain ⟨h,k⟩:=h;rw [hn] at h;simp only [BW.enc,C2] at h;have k:=k again;simp only [A5,H28,isSome_none,getD_none,EB,Seg.enc,map_nil] at k;simp only [SI,R5,QE,H28,A7,vv2,vf,reduceCtorEq,reduceAdd,reduceEqDiff,h,ha',k]
end Ab
set_option linter.unusedVariables false
set_option linter.unusedSimpArgs false
set_option maxRecDepth 100000
namespace Ab
open Go
theorem tkD_28 (g:Gh) (s:Ses) (v:Nat) (y:Seg) (hr:Bo s.dat) :
  Ev fun n=>∀again e1 hp,NX n (fI C n) ((.rptr 7 v 0 0::e1),hp) again ([],H28 E0 E0 E0 g s [.row false v 8 [y.enc]])=again (A5 g (Bg s).1 (v+1) (Bg s).2):=by
 cases hf:s.dat.frames with
 |nil=>
  have hn:Au s.dat=none:=by simp [Au,hf]
  rw [show Bg s=(s,none) by simp only [Bg,hf]];refine (DQ s.dat hr).mono fun n h again e1 hp => ?_;rw [hn] at h;simp only [BW.enc,C2] at h;simp only [A5,NX,QD,H28,A7,vv2,vf,reduceCtorEq,reduceAdd,reduceEqDiff,getElem?_cons_zero,Seg.enc,h,isSome_none,getD_none,EB,map_nil,set_cons_zero,drop_succ_cons,drop_nil,append_nil,le_refl]
 |cons f l=>
  have hn:Au s.dat=some f.arr:=by simp [Au,hf]
  by_cases ha:f.arr=s.now
  ·rw [show Bg s=(BE s,some f.seg) by simp only [Bg,hf,ha,if_true]];refine ((DQ s.dat hr).and (Qh s.dat hr f l hf)).mono fun n h again e1 hp => ?_;obtain ⟨h,h2⟩:=h;rw [hn,ha] at h;simp only [BW.enc,C2] at h h2;have hx:BE s={s with dat:=⟨s.dat.rng,l,s.dat.sent,s.dat.lost⟩}:=by simp only [BE,hf,tail_cons]
   simp only [hx,A5,NX,QD,H28,A7,vv2,vf,reduceCtorEq,reduceAdd,reduceEqDiff,getElem?_cons_zero,Seg.enc,h,h2,bne_self_eq_false,isSome_some,Option.getD_some,set_cons_zero,drop_succ_cons,drop_nil,append_nil,le_refl]
  ·have ha':(f.arr != s.now)=true:=by simpa using ha
   rw [show Bg s=(s,none) by simp only [Bg,hf,ha,if_false]];refine (DQ s.dat hr).mono fun n h again e1 hp => ?_;rw [hn] at h;simp only [BW.enc,C2] at h;simp only [ha',A5,NX,QD,H28,A7,vv2,vf,reduceCtorEq,reduceAdd,reduceEqDiff,getElem?_cons_zero,Seg.enc,h,isSome_none,getD_none,EB,map_nil,set_cons_zero,drop_succ_cons,drop_nil,append_nil,le_refl]
theorem rp_28 (g:Gh) (s:Ses) (v:Nat) (x:Seg) (r:Rcv) (l:List Seg) (y:List Tree) (hy:gL y 4=l.map Seg.enc) (f1 f2 f3:AF) (e00:List AV) (g00:Gh) (s00:Ses) (hb:Bud l.length s) :
  Ev fun n=>∀z,AK (fun p again=>Iz n (fI C n) y (e00,H28 f1 f2 f3 g00 s00 []) z p again) n ([.t (tI 0)],H28 E0 E0 E0 g s [.row false v 8 [x.enc],IM r])=z ([],H28 E0 E0 E0 {g with v5:=g.v5+l.length} (rxF (l.foldl Ch s)) [.row false v 8 [x.enc]]):=by
 have key:=Ik (R:=List Tree) (Z:=List AV×Heap→Option (List Tree)) (Q:=Gh×Ses) (B:=fun n z p again=>Iz n (fI C n) y (e00,H28 f1 f2 f3 g00 s00 []) z p again)
  (s:=(([.t (tI 0)],H28 E0 E0 E0 g s [.row false v 8 [x.enc],IM r]):List AV×Heap)) (r:=({g with v5:=g.v5+l.length},l.foldl Ch s)) l
  (fun i (q:Gh×Ses)=>(([.t (tI i)],H28 E0 E0 E0 q.1 q.2 [.row false v 8 [x.enc],IM r]):List AV×Heap)) (fun _ q y =>.next ({q.1 with v5:=q.1.v5+1},Ch q.2 y)) (fun q=>q)
  (fun z q=>z ([],H28 E0 E0 E0 q.1 (rxF q.2) [.row false v 8 [x.enc]])) (fun i q=>Bud (l.length-i) q.2) (g,s) rfl hb ?_
  (fun i q w hx hI => ?_) (fun i q w q' hx hI hs => ?_) (fun q hI => ?_)
 ·exact key
 ·rw [FB,S1]
 ·have hi:=Ag hx;obtain ⟨g1,s1⟩:=q;have hI':Bud (l.length-(i+1)+1) s1:=by
   have:l.length-(i+1)+1=l.length-i:=by omega
   rw [this];exact hI
  have k:=entR_28 g1 s1 w (.row true (AF.ver f1) 15 (Am f1)) (.row true (AF.ver f2) 4 (Am f2)) (.row true (AF.ver f3) 4 (Am f3)) hI'.eR v [x.enc] r.ses r.tot (r.known.map Span.enc) r.data w;refine k.mono fun n h z again => ?_;have h:=fun again=>h again;simp only [BB,H28] at h;simp only [Iz,TX,IM,H28,hy,A7,vv2,vf,reduceCtorEq,reduceAdd,reduceEqDiff,hx,Seg.enc,(show (i:Int)<(l.length:Int) by omega),A9 (show i<4611686018427387904 by have:=hb.ent;omega),Rd.Av,FW,Ej];simp only [Seg.enc] at h;simp only [h,TX,A7,vv2,vf,reduceCtorEq,reduceAdd,reduceEqDiff,A9 (show i<4611686018427387904 by have:=hb.ent;omega)]
 ·cases hs;have hi:=Ag hx;have:l.length-i=l.length-(i+1)+1:=by omega
  rw [this] at hI;exact hI.Ch w
 ·obtain ⟨g1,s1⟩:=q;rcases eq_false_or_eq_true s1.rcvd with hr|hr
  ·have hr1:(!s1.rcvd)=false:=by simp [hr]
   have e:rxF s1=s1:=by simp only [rxF,hr,Bool.true_eq_false,false_and,if_false]
   rw [e];refine Ev.of fun n z again => ?_;simp only [Iz,IM,H28,hy,A7,vv2,vf,reduceCtorEq,reduceAdd,reduceEqDiff,lt_irrefl,hr1]
  ·have hr1:(!s1.rcvd)=true:=by simp [hr]
   refine (s147 s1.rcv).mono fun n h z again => ?_;simp only [Rcv.enc] at h;rcases eq_false_or_eq_true (A3 s1.rcv) with hc|hc
   ·have e:rxF s1={s1 with rcvd:=true,arrive:=s1.now}:=by simp only [rxF,hr,hc,and_self,if_true]
    rw [e];simp only [Iz,IM,H28,hy,A7,vv2,vf,reduceCtorEq,reduceAdd,reduceEqDiff,lt_irrefl,hr1,h,hc]
   ·have e:rxF s1=s1:=by simp only [rxF,hc,false_eq_true,and_false,if_false]
    rw [e];simp only [Iz,IM,H28,hy,A7,vv2,vf,reduceCtorEq,reduceAdd,reduceEqDiff,lt_irrefl,hr1,h,hc]
theorem hd_28 (g:Gh) (s:Ses) (v:Nat) (x:Seg) (f1 f2 f3:AF) (e00:List AV) (g00:Gh) (s00:Ses) (hd:Bo s.dat) (hw:(EN s.rcv x).2.2=0) (hb:Bud (EN s.rcv x).2.1.length s) :
  Ev fun n=>∀z again,GU n (fI C n) (e00,H28 f1 f2 f3 g00 s00 []) z (A5 g s v (some x)) again=again (A5 (rxG g s x) (Bg (rxX s x)).1 (v+1) (Bg (rxX s x)).2):=by
 have key:=tkD_28 (rxG g s x) (rxX s x) v x (by rw [E6];exact hd);have k146:=s146 s.rcv x;unfold rxG rxX rxH at key ⊢;generalize EN s.rcv x=w at hw hb k146 key ⊢;obtain ⟨a,l,e⟩:=w;simp only at hw hb key ⊢;subst hw;have kl:=rp_28 g {s with rcv:=a} v x a l [tI a.ses,tI a.tot,.sl 2 (a.known.map Span.enc),.str a.data,.sl 8 (l.map Seg.enc),tI 0] rfl f1 f2 f3 e00 g00 s00 (hb.of rfl rfl rfl rfl rfl rfl rfl rfl);simp only [Xq,Rcv.enc,Seg.enc,cons_append,nil_append] at k146;refine (k146.and (kl.and key)).mono fun n h z again => ?_;obtain ⟨h,h2,h3⟩:=h;have h3:=fun e1 hp=>h3 again e1 hp;simp only [A5,H28,isSome_some,Option.getD_some,IM,Seg.enc] at h2 h3 ⊢;simp only [GU,H28,A7,vv2,vf,reduceCtorEq,reduceAdd,reduceEqDiff,FW,Ej,getElem?_cons_zero,h,bne_self_eq_false,h2,h3]
theorem l32_28:GU=GU:=rfl
theorem dp_28 {P:Ses→Prop} (hP:RxP P) (q:RS) (h:q.inv P) (f1 f2 f3:AF) (e00:List AV) (g00:Gh) (s00:Ses) :
  Ev fun n=>∀z,AK (fun p again=>GU n (fI C n) (e00,H28 f1 f2 f3 g00 s00 []) z p again) n (A5 q.g q.s q.v q.o)=z ([],H28 E0 E0 E0 q.res.1 q.res.2 []):=by
 refine By (R:=List Tree) (Z:=List AV×Heap→Option (List Tree)) (Q:=Gh×Ses) (B:=fun n z p again=>GU n (fI C n) (e00,H28 f1 f2 f3 g00 s00 []) z p again) (r:=q.res)
  (fun z r=>z ([],H28 E0 E0 E0 r.1 r.2 [])) (fun q:RS=>A5 q.g q.s q.v q.o) RS.step (RS.inv P) (fun q=>q.s.dat.frames.length+(if q.o.isSome then 1 else 0)) RS.res q rfl h rfl
  (fun q hI => ?_) (fun q q' hI hs=>RS.sound hP q q' hI hs) (fun q hI=>RS.fin hP q hI)
 obtain ⟨g,s,v,o⟩:=q;cases o with
 |none=>
  refine Ev.of fun n z again => ?_;simp only [A5,isSome_none,GU,H28,A7,vv2,vf,reduceCtorEq,reduceAdd,reduceEqDiff,RS.step,Rd.BA]
 |some x=>
  obtain ⟨h1,h2,h3,h4⟩:=hI;refine (hd_28 g s v x f1 f2 f3 e00 g00 s00 h1 h2 h3).mono fun n h z again => ?_;simp only [RS.step,Rd.Av];exact h z again
theorem rx_28 {P:Ses→Prop} (hP:RxP P) (g:Gh) (s:Ses) (f1 f2 f3:AF) (h:P s) :
  Ev fun n=>∀again,Yt n (fI C n) again ([.ptr 6 0],H28 f1 f2 f3 g s [])=again ([],H28 E0 E0 E0 (rxT s.dat.frames.length (g,s)).1 (rxS s.dat.frames.length s) []):=by
 have hr:=hP.dat s h;obtain ⟨i1,i2⟩:=RS.take hP h g 0;have key:=dp_28 hP _ i1 f1 f2 f3 [.ptr 6 0] g s;rw [i2,PH] at key;simp only at key;cases hf:s.dat.frames with
 |nil=>
  have hn:Au s.dat=none:=by simp [Au,hf]
  have e:Bg s=(s,none):=by simp only [Bg,hf]
  rw [e] at key;rw [hf] at key;refine ((DQ s.dat hr).and key).mono fun n h again => ?_;obtain ⟨h,k⟩:=h;rw [hn] at h;simp only [BW.enc,C2] at h;have k:=k again;simp only [A5,H28,isSome_none,getD_none,EB,Seg.enc,map_nil] at k;simp only [SH,R4,P9,H28,A7,vv2,vf,reduceCtorEq,reduceAdd,reduceEqDiff,h,k]
 |cons f l=>
  have hn:Au s.dat=some f.arr:=by simp [Au,hf]
  by_cases ha:f.arr=s.now
  ·have e:Bg s=(BE s,some f.seg):=by simp only [Bg,hf,ha,if_true]
   rw [e] at key;rw [hf] at key;refine ((DQ s.dat hr).and ((Qh s.dat hr f l hf).and key)).mono fun n h again => ?_;obtain ⟨h,h2,k⟩:=h;rw [hn,ha] at h;simp only [BW.enc,C2] at h h2;have hx:BE s={s with dat:=⟨s.dat.rng,l,s.dat.sent,s.dat.lost⟩}:=by simp only [BE,hf,tail_cons]
   have k:=k again;simp only [A5,H28,isSome_some,Option.getD_some,Seg.enc,hx] at k;simp only [SH,R4,P9,l32_28,H28,A7,vv2,vf,reduceCtorEq,reduceAdd,reduceEqDiff,h,h2,bne_self_eq_false,k]
  ·have ha':(f.arr != s.now)=true:=by simpa using ha
   have e:Bg s=(s,none):=by simp only [Bg,hf,ha,if_false]
   rw [e] at key;rw [hf] at key;refine ((DQ s.dat hr).and key).mono fun n h again => ?_;obtain ⟨h,k⟩:=h;rw [hn] at h;simp only [BW.enc,C2] at h;have k:=k again;simp only [A5,H28,isSome_none,getD_none,EB,Seg.enc,map_nil] at k;simp only [SH,R4,P9,H28,A7,vv2,vf,reduceCtorEq,reduceAdd,reduceEqDiff,h,ha',k]
end Ab
set_option linter.unusedVariables false
set_option linter.unusedSimpArgs false
set_option maxRecDepth 100000
namespace Ab
open Go
theorem stp_28 {W P1 P2:Ses→Prop} {μ:Ses→Nat} (hR:SA W P1 P2 μ) (g:Gh) (s:Ses) (t:Int) (h:W s) (ht:nxS s=some t) (f1 f2 f3:AF) (e00:List AV) (g00:Gh) (s00:Ses) :
  Ev fun n=>∀z again,NQ n (fI C n) (e00,H28 f1 f2 f3 g00 s00 []) z (CG (nxS s),H28 E0 E0 E0 g s []) again=again (CG (nxS (stS s t)),H28 E0 E0 E0 (stT (g,s) t).1 (stS s t) []):=by
 have k0:=tx_28 g {s with now:=t} (.row true (AF.ver f1) 15 (Am f1)) (.row true (AF.ver f2) 4 (Am f2)) (.row true (AF.ver f3) 4 (Am f3)) (hR.tx s t h ht);have k1:=rx_28 hR.rx (g1T g s t) (ph1 s t) (.row true (AF.ver f1) 15 (Am f1)) (.row true (AF.ver f2) 4 (Am f2)) (.row true (AF.ver f3) 4 (Am f3)) (hR.p1 s t h ht);have k2:=ls_28 hR.ls (g2T g s t) (ph2 s t) (.row true (AF.ver f1) 15 (Am f1)) (.row true (AF.ver f2) 4 (Am f2)) (.row true (AF.ver f3) 4 (Am f3)) (hR.p2 s t h ht);have hx:=hR.ex s t h ht;have k3:=ex_28 (g3T g s t) (ph3 s t) (.row true (AF.ver f1) 15 (Am f1)) (.row true (AF.ver f2) 4 (Am f2)) (.row true (AF.ver f3) 4 (Am f3)) hx.ent hx.ack hx.pl hx.w;obtain ⟨n1,n2,n3⟩:=hR.nx _ (hR.st s t h ht).1;have k4:=nx_28 (exG (g3T g s t) (ph3 s t)) (stS s t) (.row true (AF.ver f1) 15 (Am f1)) (.row true (AF.ver f2) 4 (Am f2)) (.row true (AF.ver f3) 4 (Am f3)) n1 n2 n3;refine (k0.and (k1.and (k2.and (k3.and (k4.and (Ev.ge 5)))))).mono fun n hh z again => ?_;obtain ⟨k0,k1,k2,k3,k4,hn⟩:=hh;have q:AK (fun p again'=>Iy n (fI C n) (e00,H28 f1 f2 f3 g00 s00 []) again p again') n ([.t (tI 0)],H28 E0 E0 E0 g {s with now:=t} [])=again (CG (nxS (stS s t)),H28 E0 E0 E0 (exG (g3T g s t) (ph3 s t)) (stS s t) []):=by
  refine MZ _ _ ([.t (tI 1)],H28 E0 E0 E0 (g1T g s t) (ph1 s t) []) ([.t (tI 2)],H28 E0 E0 E0 (g2T g s t) (ph2 s t) []) ([.t (tI 3)],H28 E0 E0 E0 (g3T g s t) (ph3 s t) []) ([.t (tI 4)],H28 E0 E0 E0 (exG (g3T g s t) (ph3 s t)) (stS s t) []) _ n hn (fun ag => ?_) (fun ag => ?_) (fun ag => ?_) (fun ag => ?_) (fun ag => ?_)
  ·have k0:=fun ag=>k0 ag;simp only [H28] at k0;simp only [Iy,Hb,H28,A7,vv2,vf,reduceCtorEq,reduceAdd,reduceEqDiff,(show ¬(0:Int)=((3:Nat):Int) by omega),(show ¬(0:Int)=((2:Nat):Int) by omega),(show ¬(0:Int)=((1:Nat):Int) by omega),(show (0:Int)=((0:Nat):Int) by omega),(show (0:Int)<4 by omega),(show (0:Int)≤0 by omega),k0];rfl
  ·have k1:=fun ag=>k1 ag;simp only [H28] at k1;simp only [Iy,Hb,H28,A7,vv2,vf,reduceCtorEq,reduceAdd,reduceEqDiff,(show ¬(1:Int)=((3:Nat):Int) by omega),(show ¬(1:Int)=((2:Nat):Int) by omega),(show (1:Int)=((1:Nat):Int) by omega),(show (1:Int)<4 by omega),(show (0:Int)≤1 by omega),k1];rfl
  ·have k2:=fun ag=>k2 ag;simp only [H28] at k2;simp only [Iy,Hb,H28,A7,vv2,vf,reduceCtorEq,reduceAdd,reduceEqDiff,(show ¬(2:Int)=((3:Nat):Int) by omega),(show (2:Int)=((2:Nat):Int) by omega),(show (2:Int)<4 by omega),(show (0:Int)≤2 by omega),k2];rfl
  ·have k3:=fun ag=>k3 ag;simp only [H28] at k3;simp only [Iy,Hb,H28,A7,vv2,vf,reduceCtorEq,reduceAdd,reduceEqDiff,(show (3:Int)=((3:Nat):Int) by omega),(show (3:Int)<4 by omega),(show (0:Int)≤3 by omega),k3];rfl
  ·have k4:=fun ag=>k4 ag;simp only [H28] at k4;simp only [Iy,Yc,H28,A7,vv2,vf,reduceCtorEq,reduceAdd,reduceEqDiff,(show ¬(4:Int)<4 by omega),k4,CG]
 rw [ht];simp only [H28] at q;simp only [NQ,CG,Option.getD_some,isSome_some,H28,A7,vv2,vf,reduceCtorEq,reduceAdd,reduceEqDiff];exact q
theorem rn_28 {W P1 P2:Ses→Prop} {μ:Ses→Nat} (hR:SA W P1 P2 μ) (g:Gh) (s:Ses) (f1 f2 f3:AF) (h:W s) :
  Ev fun n=>∀again,VH n (fI C n) again ([.ptr 6 0],H28 f1 f2 f3 g s [])=again ([],H28 E0 E0 E0 (rnT (μ s) (g,s)).1 (Gn (μ s) s) []):=by
 have key:=By (R:=List Tree) (Z:=List AV×Heap→Option (List Tree)) (Q:=Gh×Ses) (B:=fun n z p again=>NQ n (fI C n) ([.ptr 6 0],H28 f1 f2 f3 g s []) z p again)
  (s:=((CG (nxS s),H28 E0 E0 E0 g s []):List AV×Heap)) (r:=rnT (μ s) (g,s))
  (fun z r=>z ([],H28 E0 E0 E0 r.1 r.2 [])) (fun q:Gh×Ses=>((CG (nxS q.2),H28 E0 E0 E0 q.1 q.2 []):List AV×Heap)) (fun q=>match nxS q.2 with
   |none =>.done q
   |some t =>.next (stT q t)) (fun q=>W q.2) (fun q=>μ q.2) (fun q=>rnT (μ q.2) q) (g,s) rfl h rfl
  (fun q hI => ?_) (fun q q' hI hs => ?_) (fun q hI => ?_)
 ·obtain ⟨n1,n2,n3⟩:=hR.nx s h;have k4:=nx_28 g s (.row true (AF.ver f1) 15 (Am f1)) (.row true (AF.ver f2) 4 (Am f2)) (.row true (AF.ver f3) 4 (Am f3)) n1 n2 n3;refine (key.and k4).mono fun n hh again => ?_;obtain ⟨k,k4⟩:=hh;have k:=k again;rw [PI] at k;simp only [H28,CG] at k k4;simp only [tC28_8,YO,Yb,H28,A7,vv2,vf,reduceCtorEq,reduceAdd,reduceEqDiff,k4,k]
 ·obtain ⟨g1,s1⟩:=q;simp only at hI ⊢;cases hn:nxS s1 with
  |none=>
   refine Ev.of fun n z again => ?_;simp only [NQ,CG,getD_none,isSome_none,H28,A7,vv2,vf,reduceCtorEq,reduceAdd,reduceEqDiff,Rd.BA]
  |some t=>
   have:=stp_28 hR g1 s1 t hI hn f1 f2 f3 [.ptr 6 0] g s;rw [hn] at this;refine this.mono fun n h z again => ?_;simp only [Rd.Av];exact h z again
 ·cases hn:nxS q.2 with
  |none=>rw [hn] at hs;cases hs
  |some t=>
   rw [hn] at hs;cases hs;exact hR.st q.2 t hI hn
 ·cases hn:nxS q.2 with
  |none=>
   cases hm:μ q.2 with
   |zero=>rfl
   |succ m=>simp only [rnT,hn,Rd.fin]
  |some t=>
   obtain ⟨h1,h2⟩:=hR.st q.2 t hI hn;simp only [Rd.fin];cases hm:μ q.2 with
   |zero=>omega
   |succ m=>
    simp only [rnT,hn];exact GA hR m (stT q t) h1 (by simp only [stT];omega)
end Ab
set_option linter.unusedVariables false
set_option linter.unusedSimpArgs false
set_option maxRecDepth 100000
namespace Ab
open Go
theorem s28 {W P1 P2:Ses→Prop} {μ:Ses→Nat} (hR:SA W P1 P2 μ) (c:Con) (b e:Int) (d:ByteArray) (ps:List Int) (lim:Int) (dk:List Span) (hW:Kc c b e d ps lim dk=0→W (ini c b e d ps lim dk)) :
  AT C 28 (Ff c b e d ps lim dk) (if Kc c b e d ps lim dk=0 then Sy (Gn (μ (ini c b e d ps lim dk)) (ini c b e d ps lim dk)) else [.sl 9 [],.sl 9 [],tI (Kc c b e d ps lim dk)]):=by
 unfold Ff Kc at *;refine AT.of (fun n=>e28 n _ _ _ _ _ _ _ _ _ _ _ _ _) ?_;by_cases h1:1000<ps.length
 ·refine Ev.of fun n => ?_;simp only [h1,vv2,vf,reduceCtorEq,reduceAdd,reduceEqDiff,(show (1000:Int)<(ps.length:Int) by omega),(show ¬(4:Int)=0 by omega)]
 ·have h1':¬(1000:Int)<(ps.length:Int):=by omega
  by_cases h2:lim < -1
  ·refine Ev.of fun n => ?_;simp only [h1,h1',h2,vv2,vf,reduceCtorEq,reduceAdd,reduceEqDiff,(show ¬(2:Int)=0 by omega)]
  ·by_cases h3:BM dk=0
   ·by_cases h4:(Bp c 0 d b e).2.2=0
    ·have hr:=N7 h4;simp only [h1,h2,h3,h4,if_false,ne_eq,not_true_eq_false,if_true] at hW ⊢;have kr:=rn_28 hR ⟨0,0,0,[]⟩ (ini c b e d ps lim dk) (.row true 0 15 [(ini c b e d ps lim dk).snd.enc]) (.row true 0 4 [[tI c.rng,.sl 10 [],tI 0,tI 0]]) (.row true 0 4 [[tI 0,tI (-1),.sl 2 [],.str (ByteArray.mk #[])]]) (hW trivial);refine ((s67 dk).and ((JK c 0 d b e).and ((s69 c.rng hr).and ((s70 0).and kr)))).mono fun n hh => ?_;obtain ⟨k1,k2,k3,k4,kr⟩:=hh;have k4':Xa 0=(⟨0,-1,[],ByteArray.mk #[]⟩,0):=rfl;rw [k4'] at k4;simp only [DT,h4,Con.enc,Snd.enc,Rcv.enc,cons_append,nil_append,map_nil] at k2 k4;simp only [h1',h2,h3,k1,k2,k3,k4,vv2,vf,reduceCtorEq,reduceAdd,reduceEqDiff,bne_self_eq_false];refine (kr _).trans ?_;generalize Gn (μ (ini c b e d ps lim dk)) (ini c b e d ps lim dk)=fs;generalize (rnT (μ (ini c b e d ps lim dk)) (⟨0,0,0,[]⟩,ini c b e d ps lim dk)).1=g;simp only [TW,Sy,H28,A7,vv2,vf,reduceCtorEq,reduceAdd,reduceEqDiff,drop_zero];rw [take_of_length_le (by simp),take_of_length_le (by simp)]
    ·have h4':((Bp c 0 d b e).2.2 != 0)=true:=by simpa using h4
     refine ((s67 dk).and (JK c 0 d b e)).mono fun n hh => ?_;obtain ⟨k1,k2⟩:=hh;simp only [DT,Con.enc,Snd.enc,cons_append,nil_append] at k2;simp only [h1,h1',h2,h3,h4,k1,k2,h4',vv2,vf,reduceCtorEq,reduceAdd,reduceEqDiff,bne_self_eq_false,ne_eq,not_true_eq_false]
   ·have h3':(BM dk != 0)=true:=by simpa using h3
    refine (s67 dk).mono fun n k1 => ?_;simp only [h1,h1',h2,h3,k1,h3',vv2,vf,reduceCtorEq,reduceAdd,reduceEqDiff,ne_eq,not_false_eq_true,(show ¬(1:Int)=0 by omega)]
end Ab
set_option linter.unusedVariables false
set_option linter.unusedSimpArgs false
set_option maxRecDepth 100000
namespace Ab
open Go
def Sz (p:Par):List Tree:=if Ew p=0 then Sy (Cd p) else [.sl 9 [],.sl 9 [],tI (Ew p)]
theorem s15P (p:Par) (hp:Ew p=0→POk p):AT C 15 (E4 p) (Sz p):=by
 have k:AT C 28 (E4 p) (Sz p):=by
  by_cases h:Ew p=0
  ·have hok:=hp h;exact s28 (runP hok) p.c p.b p.e p.d p.ps p.lim p.dk (fun _=>Ss hok (EP h).2.2.2)
  ·have h0:¬Kc p.c p.b p.e p.d p.ps p.lim p.dk=0:=h;have:=s28 (W:=fun _=>False) (P1:=fun _=>False) (P2:=fun _=>False) (μ:=fun _=>0) ⟨⟨fun _ h=>h.elim,fun _ _ _ h=>h.elim⟩,⟨fun _ h=>h.elim,fun _ h=>h.elim,fun _ _ _ h=>h.elim⟩,fun _ h=>h.elim,fun _ _ h=>h.elim,fun _ _ h=>h.elim,fun _ _ h=>h.elim,fun _ _ h=>h.elim,fun _ _ h=>h.elim⟩ p.c p.b p.e p.d p.ps p.lim p.dk (fun q=>(h0 q).elim);rw [if_neg h0] at this;unfold Sz;rw [if_neg h];exact this
 by_cases h0:Ew p=0
 ·have e:Sz p=Sy (Cd p):=if_pos h0;rw [e] at k ⊢;unfold Sy at k ⊢;unfold E4 Ff at k ⊢;refine AT.of (fun n=>e15 n _ _ _ _ _ _ _ _ _ _ _ _ _) ?_;refine k.mono fun n h => ?_;simp only [Con.enc,cons_append,nil_append] at h;simp only [h,vv,vf,reduceCtorEq,reduceAdd,reduceEqDiff]
 ·have e:Sz p=[.sl 9 [],.sl 9 [],tI (Ew p)]:=if_neg h0;rw [e] at k ⊢;unfold E4 Ff at k ⊢;refine AT.of (fun n=>e15 n _ _ _ _ _ _ _ _ _ _ _ _ _) ?_;refine k.mono fun n h => ?_;simp only [Con.enc,cons_append,nil_append] at h;simp only [h,vv,vf,reduceCtorEq,reduceAdd,reduceEqDiff]
theorem KJ {α σ Q:Type} (f:σ→α→σ) (q:Q):∀(l:List α) (i:Nat) (s:σ),C0 (fun _ s x =>.next (f s x)) (fun _=>q) i l s=q
 |[],_,_=>rfl
 |x::l,i,s=>KJ f q l (i+1) _
theorem loop6_3 {p:Par} {F:Int} {s:Ses} (hp:POk p) (h:IC p F s) (hpn:s.pend=[]) (hI:Inv p s) (hfew:s.sent.length+s.told.length≤10000) (y16 y15:List Tree) (p37:ST) (h0:gL y16 0=s.sent.map Out.enc) (h1:gL y16 1=s.told.map Out.enc) (hnow:s.now≤8796093022208)
  (hb:gI y15 4≥vI p37 0∧gI y15 4≤p.e):Ev fun n=>AK (YX n y16 p.c.rng y15 p37 p.e) n ([.t (tI 0)],[.box []])=some [.bool true]:=by
 have hr:=hp.rng;have hhd:=h.hd;rw [hpn,append_nil] at hhd;obtain ⟨o0,r0,hs0⟩:∃o l,s.sent=o::l:=by
  cases hs:s.sent with
  |nil=>rw [hs] at hhd;simp at hhd
  |cons o l=>exact ⟨o,l,rfl⟩
 have hF:o0.at_=F:=by rw [hs0] at hhd;simpa using hhd
 have hF2:=h.sg o0 (by rw [hs0];simp);have hsn:=hI.sn.num hp;refine Ev.conv (Ev.and s12 Ev.tt) (fun n hA hB=>hB) ?_;refine Bs (R:=List Tree) (fun (q:Bool)=>[Tree.bool q]) s.told (fun i (_:Unit)=>(([.t (tI i)],[.box []]):List AV×Heap)) (fun _ s _ =>.next s) (fun _=>true) (fun _ _=>True) () rfl trivial (KJ (fun s _=>s) true s.told 0 ()) (fun i u x hx hI => ?_) (fun _ _ _ _ _ _ _=>trivial) (fun u hI => ?_)
 ·have hi:=Ag hx;have hxm:=mem_of_getElem? hx;obtain ⟨t1,t2,t3⟩:=h.tl x hxm;refine Ev.of fun n again => ?_;have w1:w64 (o0.at_+p.c.rng)=F+p.c.rng:=by rw [hF];exact Aa (by omega) (by omega)
  cases i with
  |zero=>
   simp only [YX,h0,h1,vv,vf,reduceCtorEq,reduceAdd,reduceEqDiff,natCast_zero,Int.toNat_zero,hx,hs0,map_cons,getElem?_cons_zero,Out.enc,Seg.enc,t1,(show (0:Int)<(s.told.length:Int) by omega),w1,(show ¬x.at_<F+p.c.rng by omega),bne_self_eq_false,lt_irrefl,Rd.Av,Int.zero_add,Int.le_refl,(show w64 1=1 by decide)];rfl
  |succ i=>
   have hy:s.told[i]? = some s.told[i]:=getElem?_eq_getElem (by omega);have hxe:s.told[i+1]'hi=x:=by rw [getElem?_eq_getElem hi] at hx;exact Option.some.inj hx
   have hord:s.told[i].at_≤x.at_:=by have:=List.pairwise_iff_getElem.1 h.ts i (i+1) (by omega) hi (by omega);rw [hxe] at this;exact this
   have w2:w64 (((i+1:Nat):Int)-1)=(i:Int):=by rw [Aa (by omega) (by omega)];omega
   simp only [YX,h0,h1,vv,vf,reduceCtorEq,reduceAdd,reduceEqDiff,hx,hy,hs0,map_cons,getElem?_cons_zero,Out.enc,Seg.enc,t1,(show (((i+1:Nat):Int))<(s.told.length:Int) by omega),w1,(show ¬x.at_<F+p.c.rng by omega),bne_self_eq_false,(show (0:Int)<((i+1:Nat):Int) by omega),w2,(show ¬x.at_<s.told[i].at_ by omega),Rd.Av,A9 (show i+1<4611686018427387904 by omega)]
 ·refine s12.mono fun n e again => ?_;simp only [YX,h1,vv,vf,reduceCtorEq,reduceAdd,reduceEqDiff,lt_irrefl,e,hb.1,hb.2]
theorem loop6_4 {p:Par} {F:Int} {s:Ses} (hp:POk p) (h:IC p F s) (hpn:s.pend=[]) (hI:Inv p s) (hfew:s.sent.length+s.told.length≤10000) (y16 y15:List Tree) (h0:gL y16 0=s.sent.map Out.enc) (h1:gL y16 1=s.told.map Out.enc) (hnow:s.now≤8796093022208)
  (hb:gI y15 4=s.snd.busy):Ev fun n=>AK (L6_4 n y16 p.c.rate p.e p.c.rng y15) n ([.t (tI p.b),.t (tI 0)],[.box []])=some [.bool true]:=by
 have hr:=hp.rng;have hsn:=hI.sn.num hp;have hch:ChT p.c.rate p.b s.sent:=by have:=h.ch;rw [hpn,append_nil] at this;exact this
 refine Bs (R:=List Tree) (fun (q:Bool)=>[Tree.bool q]) s.sent (fun i (a:Int)=>(([.t (tI a),.t (tI i)],[.box []]):List AV×Heap)) (fun _ _ o =>.next o.at_) (fun _=>true) (fun i a=>a=enT p.b (s.sent.take i)) p.b rfl rfl (KJ (fun _ o=>o.at_) true s.sent 0 p.b) (fun i a x hx hA => ?_) (fun i a x a' hx hA hs => ?_) (fun a hA => ?_)
 ·have hi:=Ag hx;have hxm:=mem_of_getElem? hx;obtain ⟨g1,g2,g3⟩:=h.sg x hxm;have hk:=g1.pc.2.1;have hsz:=Kh g1.pc.1 hk;have ht:=(g1.DE (r:=p.c.rate) ⟨hr.2.2.1,hr.2.2.2.1⟩).1;have hge:=(hch.get hx).1;rw [← hA] at hge;have htk:=tk_run (r:=p.c.rate) (n:=x.seg.data.size) ⟨hr.2.2.1,hr.2.2.2.1⟩ (by omega);have htn:=Wg (r:=p.c.rate) (n:=x.seg.data.size) ⟨hr.2.2.1,hr.2.2.2.1⟩ (by omega);have hte:DE p.c.rate x.seg=tk p.c.rate x.seg.data.size:=by rw [ht];rfl
  rw [hte] at hge;refine Ev.of fun n again => ?_;simp only [L6_4,h0,vv,vf,reduceCtorEq,reduceAdd,reduceEqDiff,hx,Out.enc,Seg.enc,hk,htk,(show (i:Int)<(s.sent.length:Int) by omega),(show ¬p.c.rate=0 by omega),bne_self_eq_false,Aa (x:=x.at_-tk p.c.rate x.seg.data.size) (by omega) (by omega),(show ¬x.at_-tk p.c.rate x.seg.data.size<a by omega),(show ¬p.e<x.at_ by omega),Rd.Av,A9 (show i<4611686018427387904 by omega)]
 ·cases hs;exact (hch.get hx).2.symm
 ·have hle:a≤s.snd.busy:=by rw [hA,List.take_length];exact S4 (by omega) fun o ho=>(h.sg o ho).2.1
  refine (loop6_3 hp h hpn hI hfew y16 y15 (([.t (tI a),.t (tI s.sent.length)],[.box []]):List AV×Heap) h0 h1 hnow (by rw [hb];refine ⟨?_,hsn.2.1⟩;show a≤_;exact hle)).mono fun n e again => ?_;simp only [L6_4,h0,vv,vf,reduceCtorEq,reduceAdd,reduceEqDiff,lt_irrefl,e]
theorem Sj (p:Par) (hpk:∀x∈p.ps,-9223372036854775808≤x∧x≤9223372036854775807):AT C 6 (E4 p) [.bool true]:=by
 have k11:=s11 p;cases hg:Pc p with
 |true=>
  rw [hg] at k11;unfold E4 Ff at k11 ⊢;refine AT.of (fun n=>e6 n _ _ _ _ _ _ _ _ _ _ _ _ _) ?_;refine (k11.and s12).mono fun n h => ?_;obtain ⟨h1,h2⟩:=h;simp only [Con.enc,cons_append,nil_append] at h1;simp only [h1,h2,vv,vf,reduceCtorEq,reduceAdd,reduceEqDiff]
 |false=>
  rw [hg] at k11;have hp:=PO hg hpk;have k13:=s13P p hp;have k15:=s15P p hp;by_cases h0:Ew p=0
  ·have hok:=hp h0;have hS:=(EP h0).2.2.2;have e:Np p=Se (Cd p):=if_pos h0;have e':Sz p=Sy (Cd p):=if_pos h0;rw [e] at k13;rw [e'] at k15;unfold Se at k13;unfold Sy at k15;obtain ⟨F,hC,hpn⟩:=ic_fin hok hS;have hI:=(Pd hok hS).2.1.i;have hl:=RU hok h0;have hsm:=hI.small hok;have c1:=hI.c1;have c2:=hI.c2;have c3:=hI.c3;have hnow:=fin_now hok h0;have hr:=hok.rng;have hne:(Cd p).sent.length≠0:=fun q=>by have:=hC.hd;rw [hpn,length_eq_zero_iff.1 q] at this;simp at this
   have hL:=loop6_4 hok hC hpn hI (by omega) [.sl 9 ((Cd p).sent.map Out.enc),.sl 9 ((Cd p).told.map Out.enc),tI 0] [.bool (Cd p).rcvd,tI (Cd p).arrive,.bool (Cd p).kno,tI (Cd p).knoAt,tI (Cd p).snd.busy,tI (Cd p).entered,tI ((Cd p).dat.lost+(Cd p).rep.lost),tI 0] rfl rfl (by omega) rfl;unfold E4 Ff at k11 k13 k15 ⊢;refine AT.of (fun n=>e6 n _ _ _ _ _ _ _ _ _ _ _ _ _) ?_;refine (k11.and (k13.and (k15.and hL))).mono fun n h => ?_;obtain ⟨h1,h2,h3,h4⟩:=h;simp only [Con.enc,cons_append,nil_append] at h1 h2 h3;have hz:(((Cd p).sent.length:Int)==0)=false:=by rw [beq_eq_false_iff_ne];omega
   have hs:((Cd p).entered != w64 (((Cd p).sent.length:Int)+(Cd p).told.length))=false:=by
    rw [Aa (by omega) (by omega)];have:(Cd p).entered=((Cd p).sent.length:Int)+(Cd p).told.length:=by omega
    simp [this]
   simp only [h1,h2,h3,h4,vv,vf,reduceCtorEq,reduceAdd,reduceEqDiff,bne_self_eq_false,hz,hs,(show ¬(Cd p).entered<(Cd p).dat.lost+(Cd p).rep.lost by omega)]
  ·have e:Np p=[.bool false,tI 0,.bool false,tI 0,tI 0,tI 0,tI 0,tI (Ew p)]:=if_neg h0;have e':Sz p=[.sl 9 [],.sl 9 [],tI (Ew p)]:=if_neg h0;rw [e] at k13;rw [e'] at k15;unfold E4 Ff at k11 k13 k15 ⊢;refine AT.of (fun n=>e6 n _ _ _ _ _ _ _ _ _ _ _ _ _) ?_;refine (k11.and (k13.and (k15.and s12))).mono fun n h => ?_;obtain ⟨h1,h2,h3,h4⟩:=h;simp only [Con.enc,cons_append,nil_append] at h1 h2 h3;have hne:(Ew p != 0)=true:=by simpa using h0
   simp only [h1,h2,h3,h4,vv,vf,reduceCtorEq,reduceAdd,reduceEqDiff,hne,beq_self_eq_true,Bool.and_self,natCast_zero,Int.add_zero,(show w64 0=0 by decide)]
end Ab
set_option linter.unusedVariables false
namespace Ab
open Go
variable {P:Program}
theorem VN {d:Nat} {t:TypeId} {k:IntKind} (hu:P.underlying t=some (.int k)) {ts:List Tree} (h:Typed P d t ts):∃n,ts=[.int k n]∧(Lit.int k n).wf=true:=by
 cases d with
 |zero=>cases h
 |succ d=>unfold Typed at h;rw [hu] at h;exact h
theorem VM {d:Nat} {t:TypeId} (hu:P.underlying t=some .string) {ts:List Tree} (h:Typed P d t ts):∃s:ByteArray,ts=[.str s]∧s.size≤maxLen:=by
 cases d with
 |zero=>cases h
 |succ d=>unfold Typed at h;rw [hu] at h;exact h
theorem K6 {d:Nat} {t e:TypeId} (hu:P.underlying t=some (.slice e)) {ts:List Tree} (h:Typed P (d+1) t ts):∃es,ts=[.sl (P.cellsOf e) es]∧es.length≤maxLen∧∀x∈es,Typed P d e x:=by unfold Typed at h;rw [hu] at h;exact h
theorem O7 {d:Nat} {t:TypeId} {fs:Array Field} (hu:P.underlying t=some (.struct fs)) {ts:List Tree} (h:Typed P (d+1) t ts):FV (Typed P d) (fs.toList.map (·.type)) ts:=by unfold Typed at h;rw [hu] at h;exact h
def RV (P:Program) (t:TypeId):Option (List TypeId):=
 match P.underlying t with
 |some (.struct fs)=>some (fs.toList.map (·.type))
 |_=>none
theorem F1 {d:Nat} {t:TypeId} (l:List TypeId) (hu:RV P t=some l) {ts:List Tree} (h:Typed P (d+1) t ts):FV (Typed P d) l ts:=by
 unfold RV at hu;split at hu
 ·rename_i fs hf;cases hu;exact O7 hf h
 ·cases hu
theorem A2 {Ty:TypeId→List Tree→Prop} {t:TypeId} {l:List TypeId} {ts:List Tree} (h:FV Ty (t::l) ts):∃a b,ts=a++b∧Ty t a∧FV Ty l b:=h
theorem F2 {Ty:TypeId→List Tree→Prop} {ts:List Tree} (h:FV Ty [] ts):ts=[]:=h
theorem GO {α:Type} {enc:α→List Tree} {p:α→Prop}:∀{es:List (List Tree)},(∀x∈es,∃a,x=enc a∧p a)→∃l:List α,es=l.map enc∧∀a∈l,p a
 |[],_=>⟨[],rfl,by simp⟩
 |x::es,h=>by
  obtain ⟨a,ha,pa⟩:=h x (by simp);obtain ⟨l,hl,pl⟩:=GO (es:=es) fun y hy=>h y (by simp [hy]);refine ⟨a::l,by simp [ha,hl],fun b hb => ?_⟩;rcases mem_cons.1 hb with rfl|hb
  ·exact pa
  ·exact pl b hb
end Ab
set_option linter.unusedVariables false
set_option maxRecDepth 100000
namespace Ab
open Go Go.Proofs
theorem uInt:C.P.underlying 3=some (.int .i64):=by kernel_rfl
theorem uStr:C.P.underlying 9=some .string:=by kernel_rfl
def WJ (n:Int):Prop := -9223372036854775808≤n∧n≤9223372036854775807
theorem DU {d:Nat} {ts:List Tree} (h:Typed C.P d 3 ts):∃n,ts=[tI n]∧WJ n:=by obtain ⟨n,h1,h2⟩:=VN uInt h;refine ⟨n,h1,?_⟩;simp only [Lit.wf,and_eq_true,decide_eq_true_eq,show IntKind.i64.min = -9223372036854775808 from rfl,show IntKind.i64.max=9223372036854775807 from rfl] at h2;exact h2
theorem dec_str {d:Nat} {ts:List Tree} (h:Typed C.P d 9 ts):∃b:ByteArray,ts=[.str b]∧True:=by obtain ⟨b,h1,_⟩:=VM uStr h;exact ⟨b,h1,trivial⟩
theorem X5 {d:Nat} {ts:List Tree} (h:Typed C.P (d+1) 45 ts):∃e:Span,ts=e.enc∧True:=by have h1:=F1 (t:=45) [3,3] (by kernel_rfl) h;clear h;obtain ⟨_,t1,rfl,x1,g1⟩:=A2 h1;obtain ⟨a1,rfl,k1⟩:=DU x1;obtain ⟨_,t2,rfl,x2,g2⟩:=A2 g1;obtain ⟨a2,rfl,k2⟩:=DU x2;obtain rfl:=F2 g2;exact ⟨⟨a1,a2⟩,rfl,trivial⟩
theorem Vy {d:Nat} {ts:List Tree} (h:Typed C.P (d+2) 25 ts):∃l:List Span,ts=[.sl 2 (l.map Span.enc)]∧True:=by obtain ⟨es,rfl,_,h2⟩:=K6 (t:=25) (e:=45) (by kernel_rfl) h;obtain ⟨l,rfl,hl⟩:=GO fun x hx=>X5 (h2 x hx);exact ⟨l,by rw [show C.P.cellsOf 45=2 by kernel_rfl],trivial⟩
theorem X6 {d:Nat} {ts:List Tree} (h:Typed C.P (d+2) 24 ts):∃l:List Int,ts=[.sl 1 (l.map BY)]∧∀n∈l,WJ n:=by obtain ⟨es,rfl,_,h2⟩:=K6 (t:=24) (e:=3) (by kernel_rfl) h;obtain ⟨l,rfl,hl⟩:=GO (enc:=BY) fun x hx=>DU (h2 x hx);exact ⟨l,by rw [show C.P.cellsOf 3=1 by kernel_rfl],hl⟩
theorem dec_con {d:Nat} {ts:List Tree} (h:Typed C.P (d+1) 23 ts):∃e:Con,ts=e.enc∧True:=by have h1:=F1 (t:=23) [3,3,3,3,3,3,3] (by kernel_rfl) h;clear h;obtain ⟨_,t1,rfl,x1,g1⟩:=A2 h1;obtain ⟨a1,rfl,k1⟩:=DU x1;obtain ⟨_,t2,rfl,x2,g2⟩:=A2 g1;obtain ⟨a2,rfl,k2⟩:=DU x2;obtain ⟨_,t3,rfl,x3,g3⟩:=A2 g2;obtain ⟨a3,rfl,k3⟩:=DU x3;obtain ⟨_,t4,rfl,x4,g4⟩:=A2 g3;obtain ⟨a4,rfl,k4⟩:=DU x4;obtain ⟨_,t5,rfl,x5,g5⟩:=A2 g4;obtain ⟨a5,rfl,k5⟩:=DU x5;obtain ⟨_,t6,rfl,x6,g6⟩:=A2 g5;obtain ⟨a6,rfl,k6⟩:=DU x6;obtain ⟨_,t7,rfl,x7,g7⟩:=A2 g6;obtain ⟨a7,rfl,k7⟩:=DU x7;obtain rfl:=F2 g7;exact ⟨⟨a1,a2,a3,a4,a5,a6,a7⟩,rfl,trivial⟩
structure Wd (p:Par):Prop where
 b:WJ p.b
 e:WJ p.e
 lim:WJ p.lim
 pk:∀n∈p.ps,WJ n
theorem X7 {d:Nat} {ts:List Tree} (h:Typed C.P (d+3) 27 ts):∃p:Par,ts=E4 p∧Wd p:=by have h1:=F1 (t:=27) [23,3,3,9,24,3,25] (by kernel_rfl) h;clear h;obtain ⟨_,t1,rfl,x1,g1⟩:=A2 h1;obtain ⟨a1,rfl,k1⟩:=dec_con x1;obtain ⟨_,t2,rfl,x2,g2⟩:=A2 g1;obtain ⟨a2,rfl,k2⟩:=DU x2;obtain ⟨_,t3,rfl,x3,g3⟩:=A2 g2;obtain ⟨a3,rfl,k3⟩:=DU x3;obtain ⟨_,t4,rfl,x4,g4⟩:=A2 g3;obtain ⟨a4,rfl,k4⟩:=dec_str x4;obtain ⟨_,t5,rfl,x5,g5⟩:=A2 g4;obtain ⟨a5,rfl,k5⟩:=X6 x5;obtain ⟨_,t6,rfl,x6,g6⟩:=A2 g5;obtain ⟨a6,rfl,k6⟩:=DU x6;obtain ⟨_,t7,rfl,x7,g7⟩:=A2 g6;obtain ⟨a7,rfl,k7⟩:=Vy x7;obtain rfl:=F2 g7;exact ⟨⟨a1,a2,a3,a4,a5,a6,a7⟩,rfl,⟨k2,k3,k6,k5⟩⟩
theorem own:ownKnob Tryz.prog.godebug=none:=by kernel_rfl
end Ab
namespace Go.Proofs
open Go.Shelf
open Go.RowKit in
open Go.RowKit in
open Go.RowKit in
open Go.RowKit in
open Go.RowKit in
open Go.RowKit in
open Go.RowKit in
open Go.RowKit in
open Go.RowKit in
open Go.RowKit in
open Go.RowKit Go.Lib in
open Go.RowKit Go.Lib in
open Go.RowKit Go.Lib in
open Go.RowKit Go.Lib in
def Tryz.LD:Go.Shelf.Ren:=⟨fun|105=>25|212=>40|99=>41|165=>42|166=>43|170=>44|169=>45|263=>62|264=>63|206=>64|240=>65|241=>66|276=>89|277=>90|n=>n,fun|9=>9|3=>3|4=>4|20=>20|0=>0|46=>76|109=>77|5=>5|72=>83|76=>87|51=>114|146=>115|53=>117|148=>118|70=>80|37=>81|75=>86|127=>120|164=>139|80=>90|n=>n,fun|n=>n⟩
theorem Tryz.lays105:Go.Proofs.Lays.n105 Tryz.prog Tryz.LD:={
 mixed:=by kernel_rfl
 f99:=Tryz.func41.trans (congrArg some (by kernel_rfl))
 f105:=Tryz.func25.trans (congrArg some (by kernel_rfl))
 f165:=Tryz.func42.trans (congrArg some (by kernel_rfl))
 f166:=Tryz.func43.trans (congrArg some (by kernel_rfl))
 f169:=Tryz.func45.trans (congrArg some (by kernel_rfl))
 f170:=Tryz.func44.trans (congrArg some (by kernel_rfl))
 f206:=Tryz.func64.trans (congrArg some (by kernel_rfl))
 f212:=Tryz.func40.trans (congrArg some (by kernel_rfl))
 f240:=Tryz.func65.trans (congrArg some (by kernel_rfl))
 f241:=Tryz.func66.trans (congrArg some (by kernel_rfl))
 f263:=Tryz.func62.trans (congrArg some (by kernel_rfl))
 f264:=Tryz.func63.trans (congrArg some (by kernel_rfl))
 f276:=Tryz.func89.trans (congrArg some (by kernel_rfl))
 f277:=Tryz.func90.trans (congrArg some (by kernel_rfl))
 t0:=Tryz.underlying0
 a0:=Tryz.isAgg0
 z0:=Tryz.sizeOf0
 v0:=Tryz.zeroValue0
 t3:=Tryz.underlying3
 a3:=Tryz.isAgg3
 z3:=Tryz.sizeOf3
 v3:=Tryz.zeroValue3
 t4:=Tryz.underlying4
 a4:=Tryz.isAgg4
 z4:=Tryz.sizeOf4
 v4:=Tryz.zeroValue4
 t5:=Tryz.underlying5
 a5:=Tryz.isAgg5
 z5:=Tryz.sizeOf5
 v5:=Tryz.zeroValue5
 t9:=Tryz.underlying9
 a9:=Tryz.isAgg9
 z9:=Tryz.sizeOf9
 v9:=Tryz.zeroValue9
 t20:=Tryz.underlying20
 a20:=Tryz.isAgg20
 z20:=Tryz.sizeOf20
 v20:=Tryz.zeroValue20
 t37:=Tryz.underlying81
 a37:=Tryz.isAgg81
 z37:=Tryz.sizeOf81
 v37:=Tryz.zeroValue81
 t46:=Tryz.underlying76
 a46:=Tryz.isAgg76
 z46:=Tryz.sizeOf76
 v46:=Tryz.zeroValue76
 t51:=Tryz.underlying114
 a51:=Tryz.isAgg114
 z51:=Tryz.sizeOf114
 v51:=Tryz.zeroValue114
 t53:=Tryz.underlying117
 a53:=Tryz.isAgg117
 z53:=Tryz.sizeOf117
 v53:=Tryz.zeroValue117
 t70:=Tryz.underlying80
 a70:=Tryz.isAgg80
 z70:=Tryz.sizeOf80
 v70:=Tryz.zeroValue80
 t72:=Tryz.underlying83
 a72:=Tryz.isAgg83
 z72:=Tryz.sizeOf83
 v72:=Tryz.zeroValue83
 t75:=Tryz.underlying86
 a75:=Tryz.isAgg86
 z75:=Tryz.sizeOf86
 v75:=Tryz.zeroValue86
 t76:=Tryz.underlying87
 a76:=Tryz.isAgg87
 z76:=Tryz.sizeOf87
 v76:=Tryz.zeroValue87
 t109:=Tryz.underlying77
 a109:=Tryz.isAgg77
 z109:=Tryz.sizeOf77
 v109:=Tryz.zeroValue77
 t127:=Tryz.underlying120
 a127:=Tryz.isAgg120
 z127:=Tryz.sizeOf120
 v127:=Tryz.zeroValue120
 t146:=Tryz.underlying115
 a146:=Tryz.isAgg115
 z146:=Tryz.sizeOf115
 v146:=Tryz.zeroValue115
 t148:=Tryz.underlying118
 a148:=Tryz.isAgg118
 z148:=Tryz.sizeOf118
 v148:=Tryz.zeroValue118
 t164:=Tryz.underlying139
 a164:=Tryz.isAgg139
 z164:=Tryz.sizeOf139
 v164:=Tryz.zeroValue139}
theorem Tryz.KC:Builder.Extra Tryz.prog Tryz.LD:={
 sizeBuilder:=by kernel_rfl
 liesBuilder:=by kernel_rfl
 t5:=Tryz.underlying5
 a5:=Tryz.isAgg5
 z5:=Tryz.sizeOf5
 v5:=Tryz.zeroValue5
 infoByte:=by kernel_rfl
 cellsByte:=by kernel_rfl
 sizeByte:=by kernel_rfl
 neB5:=by decide}
open Go.RowKit Go.Lib in
open Go.RowKit Go.Lib in
open Go.RowKit Go.Lib in
open Go.RowKit Go.Lib in
open Go.RowKit Go.Lib in
open Go.RowKit Go.Lib in
open Go.RowKit Go.Lib in
theorem Tryz.strings_Repeat (s:ByteArray) (c:Nat) (w:World) (hc:c≤9223372036854775807) (hlen:s.size*c≤140737488355328) :
  Calls Tryz.prog 25 #[.string s,.int .i64 c] w fun e w'=>e = .returned (.string ⟨(Lib.repeatL s.data.toList c).toArray⟩)∧Below w.heap.size w w':=Any.strings_Repeat Tryz.lays105 Tryz.KC s c w hc hlen
end Go.Proofs
namespace Ab
open Go Go.Proofs Go.Shelf Go.RowKit Go.Lib
set_option maxRecDepth 100000
theorem Gy {P:Program} {t key elem:TypeId} {kd:IntKind} (hu:P.underlying t=some (.map key elem)) (hk:P.underlying key=some (.int kd)) {w:World} {b:Nat} {es:Array MapEntry} {clock:Nat} (hb:w.heap[b]? = some (.map es clock)) (n:Int) (v:Value)
  (hnew:Instr.findNow (.int kd) (.int kd n) es.toList 0=some none) :
  (Instr.mapUpdate t (.map (some b)) (.int kd n) v).run P w = .ok () (w.putObj b (.map (es.push {key :=.int kd n,val:=v,born:=clock}) (clock+1))):=by
 have hck:(Instr.checkKey false 10000 key (.int kd n)).run P w = .ok () w:=by
  have:∀m:Nat,(Instr.checkKey false (m+1) key (.int kd n)).run P w = .ok () w:=fun m=>by simp [Instr.checkKey,run_underlying hk]
  exact this 9999
 simp only [Instr.mapUpdate,Sem.run_bind,run_underlying hu,Result.andThen_ok,Ic hb,hck,Instr.findKey,run_underlying hk,hnew,Sem.run_pure];simp [setObj,Sem.run,hb,World.putObj]
theorem Mm (w:World):Calls Tryz.prog 165 #[] w fun e w'=>∃b,e = .returned (.map (some b))∧w.heap.size≤b∧b<w'.heap.size∧Below w.heap.size w w'∧∃es clock,w'.heap[b]? = some (.map es clock)∧es.toList.map (fun e=>(e.key,e.val))=[(.int .i64 2,.func (.func 186) #[] #[]),(.int .i64 3,.func (.func 187) #[] #[])]:=by
 have hmm:=@Go.run_makeMap_plain Tryz.prog;have hw0:(w.alloc (.map #[] 0)).heap[w.heap.size]? = some (.map #[] 0):=by show (w.heap.push (.map #[] 0))[w.heap.size]? = _;exact Array.getElem?_push_size
 have h1:(Instr.mapUpdate 191 (.map (some w.heap.size)) (.int .i64 2) (.func (.func 186) #[] #[])).run Tryz.prog (w.alloc (.map #[] 0))= .ok () ((w.alloc (.map #[] 0)).putObj w.heap.size (.map #[{key :=.int .i64 2,val :=.func (.func 186) #[] #[],born:=0}] 1)):=
  Gy (P:=Tryz.prog) (t:=191) (key:=3) (elem:=189) (kd :=.i64) (by kernel_rfl) (by kernel_rfl) hw0 2 (.func (.func 186) #[] #[]) rfl
 have hlt:=Dn hw0;have hw1:=World.putObj_heap_same (o :=.map #[{key :=.int .i64 2,val :=.func (.func 186) #[] #[],born:=0}] 1) hlt;have hlt2:=Dn hw1;have hw2:=World.putObj_heap_same (o :=.map #[{key :=.int .i64 2,val :=.func (.func 186) #[] #[],born:=0},{key :=.int .i64 3,val :=.func (.func 187) #[] #[],born:=1}] 2) hlt2;have hlt3:=Dn hw2;have h2:(Instr.mapUpdate 191 (.map (some w.heap.size)) (.int .i64 3) (.func (.func 187) #[] #[])).run Tryz.prog ((w.alloc (.map #[] 0)).putObj w.heap.size (.map #[{key :=.int .i64 2,val :=.func (.func 186) #[] #[],born:=0}] 1))= .ok () (((w.alloc (.map #[] 0)).putObj w.heap.size (.map #[{key :=.int .i64 2,val :=.func (.func 186) #[] #[],born:=0}] 1)).putObj w.heap.size (.map #[{key :=.int .i64 2,val :=.func (.func 186) #[] #[],born:=0},{key :=.int .i64 3,val :=.func (.func 187) #[] #[],born:=1}] 2)):=
  Gy (P:=Tryz.prog) (t:=191) (key:=3) (elem:=189) (kd :=.i64) (by kernel_rfl) (by kernel_rfl) hw1 3 (.func (.func 187) #[] #[]) rfl
 go_enter Tryz.func165,Tryz.ntmps165
 go_wp2
 go_ret
 exact ⟨w.heap.size,rfl,le_refl _,hlt3,⟨rfl,rfl,rfl,Nat.le_of_lt hlt3,fun k hk=>by rw [World.putObj_heap_other (ne_of_lt hk),World.putObj_heap_other (ne_of_lt hk)];show (w.heap.push (.map #[] 0))[k]? = _;rw [Array.getElem?_push,if_neg (ne_of_lt hk)]⟩,_,_,hw2,rfl⟩
theorem mapExt:Kr Tryz.prog 165 [] [.mp .i64 [(2,186),(3,187)]]:=by
 intro B w avs vs n hm hB hc;have e:avs=[]:=by
  have:DX Tryz.prog 165 (fun i =>.t ((List.getD [] i default:Tree)))=some []:=by kernel_rfl
  rw [this] at hm;exact (Option.some.inj hm).symm
 subst e;obtain rfl:vs = #[]:=eq_empty_of_size_eq_zero (by simpa using hc.1);refine (callsIn_wide (n:=n)).2 (Mm w) |>.mono ?_
 rintro e w' ⟨b,rfl,h1,h2,h3,es,clock,h4,h5⟩
 refine ⟨_,.t (.mp .i64 [(2,186),(3,187)]),rfl,by kernel_rfl,.t _ _ (.mp .i64 _ b es clock h2 ?_ h4 (by rw [h5];rfl)),⟨h3.os,h3.tape,h3.output,h3.size,h3.block⟩,fun h => ?_⟩
 ·rintro (h|h)
  ·exact Nat.lt_irrefl _ (lt_of_lt_of_le (hB b h) h1)
  ·exact Dg h
 ·have:CQ Tryz.prog 165=false:=by kernel_rfl
  rw [this] at h;cases h
theorem repExt (s:ByteArray) (c:Int) (h0:0≤c∧c≤9223372036854775807∧s.size*c.toNat≤140737488355328):Kr Tryz.prog 25 [.str s,.int .i64 c] [.str ⟨(Go.Lib.repeatL s.data.toList c.toNat).toArray⟩]:=by
 intro B w avs vs n hm hB hc;have e:avs=[.t (.str s),.t (.int .i64 c)]:=by
  have:DX Tryz.prog 25 (fun i =>.t ((List.getD [.str s,.int .i64 c] i default:Tree)))=some [.t (.str s),.t (.int .i64 c)]:=by kernel_rfl
  rw [this] at hm;exact (Option.some.inj hm).symm
 subst e;obtain ⟨h1,h2,h3⟩:=h0;obtain ⟨k,rfl⟩:∃k:Nat,c=(k:Int):=⟨c.toNat,by omega⟩
 simp only [toNat_natCast] at h3 ⊢;obtain rfl:vs = #[.string s,.int .i64 (k:Int)]:=by
  obtain ⟨hl,hv⟩:=hc;obtain ⟨l⟩:=vs
  match l,hl with
  |[u,v],_=>
   have q0:=hv 0 _ rfl;have q1:=hv 1 _ rfl;simp only [Array.getD] at q0 q1;have r0:u = .string s:=by cases q0 with|t _ _ q=>cases q with|str=>rfl
   have r1:v = .int .i64 (k:Int):=by cases q1 with|t _ _ q=>cases q with|int=>rfl
   rw [r0,r1]
 refine (callsIn_wide (n:=n)).2 (Tryz.strings_Repeat s k w (by omega) h3) |>.mono ?_
 rintro e w' ⟨rfl,h3⟩
 exact ⟨_,.t (.str _),rfl,by kernel_rfl,.t _ _ (.str _),⟨h3.os,h3.tape,h3.output,h3.size,h3.block⟩,fun _=>rfl⟩
theorem extOk:SC C:=by
 intro g xs ys _ h;unfold C at h;simp only at h;unfold Xt at h;split at h
 ·rename_i e;subst e;split at h
  ·split at h
   ·rename_i hq;cases h;exact repExt _ _ hq
   ·cases h
  ·cases h
 ·split at h
  ·rename_i e;subst e;split at h
   ·cases h;exact mapExt
   ·cases h
  ·cases h
end Ab
