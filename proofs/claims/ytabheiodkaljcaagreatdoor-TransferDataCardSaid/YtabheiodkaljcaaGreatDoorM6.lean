/- A part of the proof: see the last text. -/
import Derived.Test.YtabheiodkaljcaaGreatDoorM5
import Derived.Shelf.Strings.Builder1
import Derived.Shelf.Strings.Builder2
import Derived.Shelf.Strings.BuilderF
import Derived.Shelf.Strings.Prefix
import Derived.Shelf.Bits.Mul64
import Derived.Shelf.Strings.Repeat
import Derived.Test.YtabheiodkaljcaaGreatDoorProg
import Derived.Deep.LoopGhost
import Derived.Below
import Derived.WideMake
import Derived.WalkKit
open Array (eq_empty_of_size_eq_zero)
open Bool (and_eq_true)
open ByteArray (size_extract)
open Int (lt_irrefl toNat toNat_natCast)
open List (any_eq_true append_nil cons_append drop getD_eq_getElem?_getD getElem?_drop getElem?_eq_getElem getElem?_take length length_cons length_drop length_map length_nil length_take map_append map_cons map_nil mem_cons mem_map mem_map_of_mem mem_of_getElem? nil_append pairwise_cons take take_add_one take_length)
open Nat (add_assoc le_refl lt_of_lt_of_le ne_of_lt reduceAdd reduceEqDiff zero_add zero_le)
set_option linter.unusedVariables false
set_option linter.unusedSimpArgs false
set_option maxRecDepth 100000
namespace Ab
open Go
def Tb (p:Par):List Tree:=if FY p=0 then Ta (DV p) else [.sl 9 [],.sl 9 [],tI (FY p)]
theorem s15P (p:Par) (hp:FY p=0→POk p):AT C 15 (FT p) (Tb p):=by
 have k:AT C 28 (FT p) (Tb p):=by
  by_cases h:FY p=0
  ·have hok:=hp h;exact s28 (runP hok) p.c p.b p.e p.d p.ps p.lim p.dk (fun _=>TV hok (Fs h).2.2.2)
  ·have h0:¬K4 p.c p.b p.e p.d p.ps p.lim p.dk=0:=h;have:=s28 (W:=fun _=>False) (P1:=fun _=>False) (P2:=fun _=>False) (μ:=fun _=>0) ⟨⟨fun _ h=>h.elim,fun _ _ _ h=>h.elim⟩,⟨fun _ h=>h.elim,fun _ h=>h.elim,fun _ _ _ h=>h.elim⟩,fun _ h=>h.elim,fun _ _ h=>h.elim,fun _ _ h=>h.elim,fun _ _ h=>h.elim,fun _ _ h=>h.elim,fun _ _ h=>h.elim⟩ p.c p.b p.e p.d p.ps p.lim p.dk (fun q=>(h0 q).elim);rw [if_neg h0] at this;unfold Tb;rw [if_neg h];exact this
 by_cases h0:FY p=0
 ·have e:Tb p=Ta (DV p):=if_pos h0;rw [e] at k ⊢;unfold Ta at k ⊢;unfold FT F8 at k ⊢;refine AT.of (fun n=>e15 n _ _ _ _ _ _ _ _ _ _ _ _ _) ?_;refine k.mono fun n h => ?_;simp only [Con.enc,cons_append,nil_append] at h;simp only [h,vv,vf,reduceCtorEq,reduceAdd,reduceEqDiff]
 ·have e:Tb p=[.sl 9 [],.sl 9 [],tI (FY p)]:=if_neg h0;rw [e] at k ⊢;unfold FT F8 at k ⊢;refine AT.of (fun n=>e15 n _ _ _ _ _ _ _ _ _ _ _ _ _) ?_;refine k.mono fun n h => ?_;simp only [Con.enc,cons_append,nil_append] at h;simp only [h,vv,vf,reduceCtorEq,reduceAdd,reduceEqDiff]
theorem Ki {α σ Q:Type} (f:σ→α→σ) (q:Q):∀(l:List α) (i:Nat) (s:σ),CR (fun _ s x =>.next (f s x)) (fun _=>q) i l s=q
 |[],_,_=>rfl
 |x::l,i,s=>Ki f q l (i+1) _
end Ab
set_option linter.unusedVariables false
set_option linter.unusedSimpArgs false
set_option maxRecDepth 100000
namespace Ab
open Go
theorem s17 (l:List Span) (x:Span) (hc:BG l=0) (hv:Valid x) (hx:∃y∈l,y.fro≤x.fro∧x.to≤y.to):AT C 17 [.sl 2 (l.map Span.enc),tI x.fro,tI x.to] [.bool true]:=by
 have hlen:=Bo hc;refine AT.of (fun n=>e17 n _ _ _) ?_;refine Ev.rw (T' := ?TT) ((s31 l).and (s29 x)) (fun n h => ?g1) ?g2
 case g1=>
  obtain ⟨h1,h2⟩:=h;simp only [Span.enc] at h2;simp only [h1,h2,vv,vf,reduceCtorEq,reduceAdd,reduceEqDiff,hc,hv,decide_true,bne_self_eq_false,Bool.not_true];rfl
 case g2=>
  have hm:l.any (fun y=>decide (y.fro≤x.fro∧x.to≤y.to))=true:=by rw [any_eq_true];obtain ⟨y,hy,h⟩:=hx;exact ⟨y,hy,decide_eq_true h⟩
  refine BM (R:=List Tree) (B:=fun n p again=>PU n (l.map Span.enc) x.fro x.to p again) (fun (q:Bool)=>[Tree.bool q]) l (fun i (_:Unit)=>(([.t (tI i)],[]):List AV×Heap))
   (fun _ _ y=>if (fun y:Span=>decide (y.fro≤x.fro∧x.to≤y.to)) y=true then .done true else .next ()) (fun _=>false) (fun _ _=>True) () (s:=(([.t (tI 0)],[]):List AV×Heap)) rfl trivial ((Mi (fun y:Span=>decide (y.fro≤x.fro∧x.to≤y.to)) 0 l).trans hm)
   (fun i s y hy hI=>Ev.of fun n again => ?_) (fun _ _ _ _ _ _ _=>trivial) (fun s hI=>Ev.of fun n again => ?_)
  ·have hi:=AZ hy;by_cases h1:y.fro≤x.fro
   ·by_cases h2:x.to≤y.to
    ·simp only [PU,vv,vf,reduceCtorEq,reduceAdd,reduceEqDiff,hy,Span.enc,(show (i:Int)<l.length by omega),h1,h2,Rd.Az,and_self]
    ·simp only [PU,vv,vf,reduceCtorEq,reduceAdd,reduceEqDiff,hy,Span.enc,(show (i:Int)<l.length by omega),h1,h2,Rd.Ai,and_self,Aw (show i<4611686018427387904 by omega)]
   ·simp only [PU,vv,vf,reduceCtorEq,reduceAdd,reduceEqDiff,hy,Span.enc,(show (i:Int)<l.length by omega),h1,Rd.Ai,Aw (show i<4611686018427387904 by omega)]
  ·simp only [PU,vv,vf,reduceCtorEq,reduceAdd,reduceEqDiff,lt_irrefl]
theorem Rm:∀(l a:List Span) (lo:Int),Canon lo a→(∀x∈l,lo<x.fro∧x.fro<x.to)→Canon lo (Bq a l)∧∀t,AM t (Bq a l)↔AM t a∨AM t l
 |[],a,lo,h,_=>⟨h,fun t=>by simp [Bq,AM]⟩
 |x::l,a,lo,h,hl=>by
  obtain ⟨x1,x2⟩:=hl x (by simp);obtain ⟨k1,k2⟩:=NH a x lo h x2 x1;obtain ⟨m1,m2⟩:=Rm l (GB x a) lo k1 fun y hy=>hl y (by simp [hy]);refine ⟨m1,fun t => ?_⟩;show AM t (Bq (GB x a) l)↔_;rw [m2 t,k2 t];simp only [AM];constructor
  ·rintro ((h|h)|h)
   ·exact .inr (.inl h)
   ·exact .inl h
   ·exact .inr (.inr h)
  ·rintro (h|h|h)
   ·exact .inl (.inr h)
   ·exact .inl (.inl h)
   ·exact .inr h
theorem MD:∀(l a:List Span),(Bq a l).length≤a.length+l.length
 |[],a=>by simp [Bq]
 |x::l,a=>by have h1:=MD l (GB x a);have h2:=NI x a;show (Bq (GB x a) l).length≤_;simp only [length_cons];omega
theorem Rk {l:List Span} {i:Nat} {x:Span} (hx:l[i]? = some x):Bq [] (l.take (i+1))=GB x (Bq [] (l.take i)):=by rw [take_add_one,hx];unfold Bq;rw [List.foldl_append];rfl
def PS (l:List Span):Prop:=l.length≤1000∧∀x∈l,0≤x.fro∧x.fro<x.to∧x.to≤120
theorem PS.val {l:List Span} (h:PS l) {x:Span} (hx:x∈l):Valid x:=by have:=h.2 x hx;unfold Valid;omega
theorem PS.nor {l:List Span} (h:PS l):BG (Bq [] l)=0∧Canon (-1) (Bq [] l)∧∀t,AM t (Bq [] l)↔AM t l:=by
 obtain ⟨k1,k2⟩:=Rm l [] (-1) trivial fun x hx=>by have:=h.2 x hx;omega
 have hm:∀t,AM t (Bq [] l)↔AM t l:=fun t=>by rw [k2];simp [AM]
 refine ⟨?_,k1,hm⟩;rw [Aj];have hn:=MD l [];have h1:=h.1;simp only [length_nil,zero_add] at hn;refine ⟨by omega,De k1 (by omega),fun x hx => ?_⟩;have h2:=FA k1 x hx;obtain ⟨y,hy,h3⟩:=(Ez _ _).1 ((hm _).1 ((Ez (x.to-1) _).2 ⟨x,hx,by omega⟩));have:=h.2 y hy;omega
theorem PS.cov {l:List Span} (h:PS l) {x:Span} (hv:x.fro<x.to) (hm:∀t,x.fro≤t→t<x.to→AM t l):∃y∈Bq [] l,y.fro≤x.fro∧x.to≤y.to:=by obtain ⟨_,k1,k2⟩:=h.nor;obtain ⟨y,hy,h1,h2⟩:=(Ez _ _).1 ((k2 _).2 (hm x.fro (by omega) hv));refine ⟨y,hy,h1,Classical.byContradiction fun q => ?_⟩;exact (PG k1 y hy).2 ((k2 _).2 (hm y.to (by omega) (by omega)))
theorem loop7_1 {l:List Span} (hl:PS l) {c:Span} (hc:Valid c) (hm:∀t,c.fro≤t→t<c.to→AM t l) (p22 p31:ST) (h1:CQ p22 1=l.length) (h2:B5 p22 1=l.length) (h3:E8 p22 1=0) {j:Nat} (h4:vI p31 0=j) (hj:j<4611686018427387904) :
  Ev fun n=>∀z,AJ (L7_1 n p22 [tI c.fro,tI c.to] z p31) n ([.sref 4 0 0 0,.t (tI 0)],[.box [],.row false l.length 2 (l.map Span.enc),.box [],.box [],.row false 0 2 []])=z ([.t (tI (j+1:Nat))],[.box [],.row false l.length 2 (l.map Span.enc),.box []]):=by
 have hn:=hl.nor;have hlen:l.length≤1000:=hl.1;refine Eg (Z:=KT) l (fun i (_:Unit)=>(([.sref 4 i 0 (Bq [] (l.take i)).length,.t (tI i)],[.box [],.row false l.length 2 (l.map Span.enc),.box [],.box [],.row false i 2 ((Bq [] (l.take i)).map Span.enc)]):List AV×Heap))
  (fun _ s _ =>.next s) (fun _=>()) (fun z _=>z (([.t (tI (j+1:Nat))],[.box [],.row false l.length 2 (l.map Span.enc),.box []]):List AV×Heap)) (fun _ _=>True) () rfl trivial rfl (fun i s x hx hI => ?_) (fun _ _ _ _ _ _ _=>trivial) (fun s hI => ?_)
 ·have hi:=AZ hx;have hv:=hl.val (mem_of_getElem? hx);have hul:=MD (l.take i) [];simp only [length_nil,zero_add,length_take] at hul;refine ((s29 x).and (RG (Bq [] (l.take i)) x (by omega))).mono fun n h z again => ?_;obtain ⟨g1,g2⟩:=h;simp only [Span.enc] at g1;simp only [L7_1,vv,vf,reduceCtorEq,reduceAdd,reduceEqDiff,h1,h2,h3,hx,Span.enc,g1,g2,hv,(show (i:Int)<(l.length:Int) by omega),Di,decide_true,Bool.not_true,Rd.Ai,Aw (show i<4611686018427387904 by omega),Rk hx,length_map]
 ·refine (s17 (Bq [] l) c hn.1 hc (hl.cov hc.1 hm)).mono fun n h z again => ?_;simp only [L7_1,vv,vf,reduceCtorEq,reduceAdd,reduceEqDiff,h1,h2,h3,lt_irrefl,take_length,Di,h,h4,Aw hj,Bool.not_true]
theorem loop7_2 {l:List Span} (hl:PS l) (r:Out) (hc:∀c∈r.seg.AS,Valid c∧∀t,c.fro≤t→t<c.to→AM t l) (hfew:r.seg.AS.length≤1000000) (p22 p25:ST) (h1:CQ p22 1=l.length) (h2:B5 p22 1=l.length) (h3:E8 p22 1=0) {j:Nat} (h4:vI p25 0=j) (hj:j<4611686018427387904) :
  Ev fun n=>∀z,AJ (L7_2 n r.enc p22 z p25) n ([.t (tI 0)],[.box [],.row false l.length 2 (l.map Span.enc),.box []])=z ([.t (tI (j+1:Nat))],[.box [],.row false l.length 2 (l.map Span.enc),.box []]):=by
 have hlen:l.length≤1000:=hl.1;refine Eg (Z:=KT) r.seg.AS (fun i (_:Unit)=>(([.t (tI i)],[.box [],.row false l.length 2 (l.map Span.enc),.box []]):List AV×Heap))
  (fun _ s _ =>.next s) (fun _=>()) (fun z _=>z (([.t (tI (j+1:Nat))],[.box [],.row false l.length 2 (l.map Span.enc),.box []]):List AV×Heap)) (fun _ _=>True) () rfl trivial rfl (fun i s x hx hI => ?_) (fun _ _ _ _ _ _ _=>trivial) (fun s hI=>Ev.of fun n z again => ?_)
 ·have hi:=AZ hx;obtain ⟨c1,c2⟩:=hc x (mem_of_getElem? hx);refine (loop7_1 hl c1 c2 p22 (([.t (tI i)],[.box [],.row false l.length 2 (l.map Span.enc),.box []]):List AV×Heap) h1 h2 h3 (j:=i) rfl (by omega)).mono fun n h z again => ?_;simp only [L7_2,vv,vf,reduceCtorEq,reduceAdd,reduceEqDiff,h1,h2,h3,hx,Out.enc,Seg.enc,Span.enc,h,(show (i:Int)<(r.seg.AS.length:Int) by omega),(show ¬(1000:Int)<(l.length:Int) by omega),Rd.Ai]
 ·simp only [L7_2,vv,vf,reduceCtorEq,reduceAdd,reduceEqDiff,Out.enc,Seg.enc,lt_irrefl,h4,Aw hj]
def spO (o:Out):Span:=⟨o.seg.off,o.seg.off+o.seg.data.size⟩
def nxK (t:Int) (told:List Out) (k:Nat):Nat:=k+((told.drop k).takeWhile fun r=>decide (r.at_<t)).length
theorem nxK_le {t:Int} {told:List Out} {k:Nat} (h:k≤told.length):nxK t told k≤told.length:=by have:=(List.takeWhile_sublist (l:=told.drop k) fun r=>decide (r.at_<t)).length_le;rw [length_drop] at this;unfold nxK;omega
theorem Mh {α:Type} (P:α→Bool):∀(l:List α) (i s:Nat),CR (fun _ (s:Nat) x=>if P x=true then (.next (s+1):Rd Nat Nat) else .done s) (fun s=>s) i l s=s+(l.takeWhile P).length
 |[],i,s=>by simp [CR]
 |x::l,i,s=>by
  by_cases h:P x=true
  ·have:=Mh P l (i+1) (s+1);simp only [CR,h,if_true,List.takeWhile_cons,length_cons];rw [this];omega
  ·simp [CR,h]
theorem TD {d:ByteArray} {x:Seg} (h:DK d x):x.data=d.extract x.off.toNat (x.off+x.data.size).toNat:=by obtain ⟨b1,b2,b3,b4⟩:=Dn h;refine Tv (by rw [size_extract];omega) fun i hi => ?_;rw [h.2.2.2.2 i hi,ED];simp only [getD_eq_getElem?_getD,getElem?_take,getElem?_drop];rw [if_pos (by omega)]
theorem j7_4 {l:List Span} (hl:PS l) {o:Out} {d:ByteArray} (ho:DK d o.seg) (hd:d.size≤120) (n:Nat) (y16:List Tree) (p22 p25:ST) (h1:CQ p22 1=l.length) (h2:B5 p22 1=l.length) (h3:E8 p22 1=0) (h5:vI p22 2=l.length) {j:Nat} (h4:vI p25 0=j) (k26 z:KT) :
  J7_4 n p25 y16 p22 k26 z o.enc d ([.t (.bool false)],[.box [],.row false l.length 2 (l.map Span.enc),.box []])=z ([.t (tI j),.sref 1 (l.length+1) 0 (l.length+1),.t (tI (l.length+1:Nat))],[.box [],.row false (l.length+1) 2 ((l++[spO o]).map Span.enc)]):=by
 obtain ⟨b1,b2,b3,b4⟩:=Dn ho;have hlen:l.length≤1000:=hl.1;have hdt:(o.seg.data != d.extract o.seg.off.toNat (o.seg.off+o.seg.data.size).toNat)=false:=by rw [← TD ho,bne,LH];simp
 have hw:w64 (o.seg.off+o.seg.data.size)=o.seg.off+o.seg.data.size:=Ad (by omega) (by omega);have ht:=ho.2.2.2.1;simp only [J7_4,J7_3,vv,vf,reduceCtorEq,reduceAdd,reduceEqDiff,Out.enc,Seg.enc,h1,h2,h3,h4,h5,ht,bne_self_eq_false,hw,(show ¬o.seg.off<0 by omega),(show ¬(d.size:Int)<o.seg.off+o.seg.data.size by omega),(show (0:Int)≤o.seg.off+o.seg.data.size by omega),(show o.seg.off+o.seg.data.size≤(d.size:Int) by omega),b1,(show o.seg.off≤((o.seg.off+o.seg.data.size).toNat:Int) by omega),hdt,(show l.length+1≤1073741824 by omega),Di,Aw (show l.length<4611686018427387904 by omega),le_refl,map_append,map_cons,map_nil,spO,Span.enc]
theorem loop7_5 {l:List Span} (hl:PS l) {o:Out} {d:ByteArray} (ho:DK d o.seg) (hd:d.size≤120) (told:List Out) (htl:told.length≤1000000) (y16:List Tree) (h0:gL y16 1=told.map Out.enc)
  (hc:∀r∈told,r.at_<o.at_→r.seg.AS.length≤1000000∧∀c∈r.seg.AS,Valid c∧∀t,c.fro≤t→t<c.to→AM t l) (p22:ST) (h1:CQ p22 1=l.length) (h2:B5 p22 1=l.length) (h3:E8 p22 1=0) (h5:vI p22 2=l.length) {k:Nat} (hk:k≤told.length) :
  Ev fun n=>∀z,AJ (ZD n y16 p22 z o.enc d) n ([.t (tI k)],[.box [],.row false l.length 2 (l.map Span.enc),.box []])=z ([.t (tI (nxK o.at_ told k)),.sref 1 (l.length+1) 0 (l.length+1),.t (tI (l.length+1:Nat))],[.box [],.row false (l.length+1) 2 ((l++[spO o]).map Span.enc)]):=by
 have hlen:l.length≤1000:=hl.1;refine Eg (Z:=KT) (told.drop k) (fun i (j:Nat)=>(([.t (tI j)],[.box [],.row false l.length 2 (l.map Span.enc),.box []]):List AV×Heap))
  (fun _ (j:Nat) r=>if (fun r:Out=>decide (r.at_<o.at_)) r=true then (.next (j+1):Rd Nat Nat) else .done j) (fun j=>j) (fun z (j:Nat)=>z (([.t (tI j),.sref 1 (l.length+1) 0 (l.length+1),.t (tI (l.length+1:Nat))],[.box [],.row false (l.length+1) 2 ((l++[spO o]).map Span.enc)]):List AV×Heap)) (fun i j=>j=k+i) k rfl rfl (Mh _ _ 0 k) (fun i j r hr hI => ?_) (fun i j r j' hr hI hs => ?_) (fun j hI=>Ev.of fun n z again => ?_)
 ·subst hI;rw [getElem?_drop] at hr;have hi:=AZ hr;have j4:=fun n k26 z=>j7_4 hl ho hd n y16 p22 (([.t (tI (k+i:Nat))],[.box [],.row false l.length 2 (l.map Span.enc),.box []]):List AV×Heap) h1 h2 h3 h5 (j:=k+i) rfl k26 z;simp only [Out.enc,Seg.enc] at j4;by_cases hlt:r.at_<o.at_
  ·obtain ⟨c1,c2⟩:=hc r (mem_of_getElem? hr) hlt;refine (loop7_2 hl r c2 c1 p22 (([.t (tI (k+i:Nat))],[.box [],.row false l.length 2 (l.map Span.enc),.box []]):List AV×Heap) h1 h2 h3 (j:=k+i) rfl (by omega)).mono fun n h z again => ?_;simp only [Out.enc,Seg.enc] at h;simp only [ZD,J7_4,vv,vf,reduceCtorEq,reduceAdd,reduceEqDiff,h0,hr,Out.enc,Seg.enc,h,(show ((k+i:Nat):Int)<(told.length:Int) by omega),hlt,decide_true,Rd.Ai,add_assoc]
  ·refine Ev.of fun n z again => ?_;simp only [ZD,vv,vf,reduceCtorEq,reduceAdd,reduceEqDiff,h0,hr,Out.enc,Seg.enc,(show ((k+i:Nat):Int)<(told.length:Int) by omega),hlt,decide_false,Rd.Az,j4]
 ·dsimp only at hs;split at hs
  ·cases hs;omega
  ·cases hs
 ·subst hI;have e:k+(told.drop k).length=told.length:=by rw [length_drop];omega
  rw [e];have j4:=fun n k26 z=>j7_4 hl ho hd n y16 p22 (([.t (tI told.length)],[.box [],.row false l.length 2 (l.map Span.enc),.box []]):List AV×Heap) h1 h2 h3 h5 (j:=told.length) rfl k26 z;simp only [Out.enc,Seg.enc] at j4;simp only [ZD,vv,vf,reduceCtorEq,reduceAdd,reduceEqDiff,h0,Out.enc,Seg.enc,lt_irrefl,j4]
theorem loop7_6 {l:List Span} (hl:PS l) {d:ByteArray} (hd:1≤d.size∧d.size≤120) (y15:List Tree) (hr:gB y15 0=true→∀t:Int,0≤t→t<d.size→AM t l) (p22:ST) (h1:CQ p22 1=l.length) (h2:B5 p22 1=l.length) (h3:E8 p22 1=0) :
  Ev fun n=>AJ (ZC n p22 y15 d) n ([.sref 2 0 0 0,.t (tI 0)],[.box [],.row false l.length 2 (l.map Span.enc),.row false 0 2 []])=some [.bool true]:=by
 have hn:=hl.nor;have hlen:l.length≤1000:=hl.1;refine BM (R:=List Tree) (fun (q:Bool)=>[Tree.bool q]) l (fun i (_:Unit)=>(([.sref 2 i 0 (Bq [] (l.take i)).length,.t (tI i)],[.box [],.row false l.length 2 (l.map Span.enc),.row false i 2 ((Bq [] (l.take i)).map Span.enc)]):List AV×Heap))
  (fun _ s _ =>.next s) (fun _=>true) (fun _ _=>True) () rfl trivial (Ki (fun s _=>s) true l 0 ()) (fun i s x hx hI => ?_) (fun _ _ _ _ _ _ _=>trivial) (fun s hI => ?_)
 ·have hi:=AZ hx;have hv:=hl.val (mem_of_getElem? hx);have hul:=MD (l.take i) [];simp only [length_nil,zero_add,length_take] at hul;refine ((s29 x).and (RG (Bq [] (l.take i)) x (by omega))).mono fun n h again => ?_;obtain ⟨g1,g2⟩:=h;simp only [Span.enc] at g1;simp only [ZC,vv,vf,reduceCtorEq,reduceAdd,reduceEqDiff,h1,h2,h3,hx,Span.enc,g1,g2,hv,(show (i:Int)<(l.length:Int) by omega),Di,decide_true,Bool.not_true,Rd.Ai,Aw (show i<4611686018427387904 by omega),Rk hx,length_map]
 ·cases hb:gB y15 0 with
  |false=>
   refine s12.mono fun n h again => ?_;simp only [ZC,vv,vf,reduceCtorEq,reduceAdd,reduceEqDiff,h1,h2,h3,lt_irrefl,hb,h,Bool.not_false]
  |true=>
   have hv:Valid ⟨0,d.size⟩:=by unfold Valid;simp only;omega
   refine ((s17 (Bq [] l) ⟨0,d.size⟩ hn.1 hv (hl.cov hv.1 fun t t1 t2=>hr hb t t1 t2)).and s12).mono fun n h again => ?_;obtain ⟨g1,g2⟩:=h;simp only [ZC,vv,vf,reduceCtorEq,reduceAdd,reduceEqDiff,h1,h2,h3,lt_irrefl,hb,take_length,Di,g1,g2,Bool.not_true]
theorem lim40 {p:Par} (hg:Kx p=false) (hp:POk p):p.e≤p.b+40*(2*p.c.rng+1):=by
 have hr:=hp.rng;have hg:=of_decide_eq_false hg;have hcl:K8 p.c.rng=p.c.rng:=by have e:(if (1048576:Int)<p.c.rng then (1048576:Int) else p.c.rng)=p.c.rng:=if_neg (by omega);unfold K8;rw [e,if_pos (by omega)]
 rw [hcl,Ad (x:=2*p.c.rng) (by omega) (by omega),Ad (x:=2*p.c.rng+1) (by omega) (by omega),Ad (x:=40*(2*p.c.rng+1)) (by omega) (by omega),Ad (x:=p.b+40*(2*p.c.rng+1)) (by omega) (by omega)] at hg;omega
theorem ChT.pw {r:Int}:∀{l:List Out} {t:Int},ChT r t l→(∀o∈l,0≤Cp r o.seg)→l.Pairwise (fun a b=>a.at_≤b.at_)∧∀o∈l,t≤o.at_
 |[],_,_,_=>⟨List.Pairwise.nil,fun o ho=>by cases ho⟩
 |x::l,t,h,hk=>by
  obtain ⟨i1,i2⟩:=ChT.pw h.2 fun o ho=>hk o (by simp [ho]);have h1:=h.1;have h2:=hk x (by simp);refine ⟨pairwise_cons.2 ⟨i2,i1⟩,fun o ho => ?_⟩;rcases mem_cons.1 ho with rfl|ho
  ·omega
  ·have:=i2 o ho;omega
structure DL (p:Par) (s:Ses):Prop where
 pc:∀o∈s.sent,DK p.d o.seg
 few:s.sent.length≤1000∧s.told.length≤1000000
 cl:∀(i:Nat) (o:Out),s.sent[i]? = some o→∀r∈s.told,r.at_<o.at_→r.seg.AS.length≤1000000∧∀c∈r.seg.AS,Valid c∧∀t,c.fro≤t→t<c.to→AM t ((s.sent.take i).map spO)
 rv:s.rcvd=true→∀t:Int,0≤t→t<p.d.size→AM t (s.sent.map spO)
theorem VG {l:List Out} {o:Out} (h:o∈l) {t:Int} (hc:cov o.seg t):AM t (l.map spO):=
 (Ez _ _).2 ⟨spO o,mem_map_of_mem h,hc⟩
theorem dl_fin {p:Par} (hg:Kx p=false) (hp:POk p) (h:(Bi p.c 0 p.d p.b p.e).2.2=0):DL p (DV p):=by
 have hr:=hp.rng;have hsz:=hp.sz;have hD:=dc_fin hp h;obtain ⟨F,hC,hpn⟩:=ic_fin hp h;have hI:=(QJ hp h).2.1.i;have hsn:=hI.sn.num hp;have ht:=hI.sn.t;have hse:(DV p).snd.ser≤40:=by refine Classical.byContradiction fun q => ?_;have:=lim40 hg hp;have:40*(2*p.c.rng+1)≤((DV p).snd.ser-1)*(2*p.c.rng+1):=Int.mul_le_mul_of_nonneg_right (by omega) (by omega);omega
 have h1:=hD.sn;have hsm:=hI.small hp;have c1:=hI.c1;have c2:=hI.c2;have c3:=hI.c3;have hch:ChT p.c.rate p.b (DV p).sent:=by have:=hC.ch;rw [hpn,append_nil] at this;exact this
 have hpw:=(hch.pw fun o ho=>by have:=((hC.sg o ho).1.Cp (r:=p.c.rate) ⟨hr.2.2.1,hr.2.2.2.1⟩).2;omega).1;refine ⟨fun o ho=>(hC.sg o ho).1.pc,by omega,fun i o ho r hr' hlt => ?_,fun hrv t t0 t1 => ?_⟩
 ·obtain ⟨k1,k2⟩:=hD.tl r hr';have hcl:=k1.cl;have hf:=k1.few hsz.2;refine ⟨by omega,fun c hc => ?_⟩;have hcn:=FA ((Aj _).1 hcl.1).2.1 c hc;have hw:=hcl.2 c hc;refine ⟨by unfold Valid;omega,fun t t0 t1 => ?_⟩;obtain ⟨x,hx,hcv,hat⟩:=k2 t ((Ez _ _).2 ⟨c,hc,t0,t1⟩);refine VG ?_ hcv;obtain ⟨j,hj,rfl⟩:=List.mem_iff_getElem.1 hx;have hi:=AZ ho;have hji:j<i:=by
   refine Classical.byContradiction fun q => ?_;have ho':(DV p).sent[i]=o:=by rw [getElem?_eq_getElem hi] at ho;exact Option.some.inj ho
   by_cases e:i=j
   ·subst e;rw [ho'] at hat;omega
   ·have:=List.pairwise_iff_getElem.1 hpw i j hi hj (by omega);rw [ho'] at this;omega
  exact List.mem_iff_getElem.2 ⟨j,by rw [length_take];omega,by rw [List.getElem_take]⟩
 ·rw [hI.rv] at hrv;obtain ⟨x,hx,hcv,_⟩:=hD.kn t (((hI.full hp).1 hrv t).2 ⟨t0,t1⟩);exact VG hx hcv
theorem DL.ps {p:Par} {s:Ses} (hp:POk p) (h:DL p s) {l:List Out} (hs:∀o∈l,o∈s.sent) (hl:l.length≤1000):PS (l.map spO):=by have hsz:=hp.sz;refine ⟨by rw [length_map];exact hl,fun x hx => ?_⟩;obtain ⟨o,ho,rfl⟩:=mem_map.1 hx;have:=Dn (h.pc o (hs o ho));unfold spO;simp only;omega
theorem loop7_7 {p:Par} {s:Ses} (hp:POk p) (h:DL p s) (y16 y15:List Tree) (h0:gL y16 0=s.sent.map Out.enc) (h1:gL y16 1=s.told.map Out.enc) (hr:gB y15 0=s.rcvd) :
  Ev fun n=>AJ (L7_7 n y16 p.d y15) n ([.t (tI 0),.sref 1 0 0 0,.t (tI 0)],[.box [],.row false 0 2 []])=some [.bool true]:=by
 have hsz:=hp.sz;obtain ⟨f1,f2⟩:=h.few;refine BM (R:=List Tree) (fun (q:Bool)=>[Tree.bool q]) s.sent (fun i (k:Nat)=>(([.t (tI k),.sref 1 i 0 i,.t (tI i)],[.box [],.row false i 2 (((s.sent.take i).map spO).map Span.enc)]):List AV×Heap))
  (fun _ k o =>.next (nxK o.at_ s.told k)) (fun _=>true) (fun i k=>k≤s.told.length) 0 rfl (zero_le _) (Ki (fun k o=>nxK o.at_ s.told k) true s.sent 0 0) (fun i k o ho hk => ?_) (fun i k o k' ho hk hs => ?_) (fun k hk => ?_)
 ·have hi:=AZ ho;have hPS:=h.ps hp (l:=s.sent.take i) (fun o ho=>List.mem_of_mem_take ho) (by rw [length_take];omega);have hli:((s.sent.take i).map spO).length=i:=by rw [length_map,length_take];omega
  have k5:=loop7_5 hPS (h.pc o (mem_of_getElem? ho)) hsz.2 s.told f2 y16 h1 (h.cl i o ho) (([.t (tI k),.sref 1 i 0 i,.t (tI i)],[.box [],.row false i 2 (((s.sent.take i).map spO).map Span.enc)]):List AV×Heap) (by rw [hli];rfl) (by rw [hli];rfl) rfl (by rw [hli];rfl) hk;rw [hli] at k5;have et:(s.sent.take i).map spO++[spO o]=(s.sent.take (i+1)).map spO:=by rw [take_add_one,ho];simp
  rw [et] at k5;refine k5.mono fun n e again => ?_;simp only [Out.enc,Seg.enc] at e;simp only [L7_7,h0,vv,vf,reduceCtorEq,reduceAdd,reduceEqDiff,ho,Out.enc,Seg.enc,(show (i:Int)<(s.sent.length:Int) by omega),e,Rd.Ai]
 ·cases hs;exact nxK_le hk
 ·have hPS:=h.ps hp (l:=s.sent) (fun o ho=>ho) f1;have hli:(s.sent.map spO).length=s.sent.length:=length_map ..;have k6:=loop7_6 hPS hsz y15 (fun q=>h.rv (by rw [← hr];exact q)) (([.t (tI k),.sref 1 s.sent.length 0 s.sent.length,.t (tI s.sent.length)],[.box [],.row false s.sent.length 2 (((s.sent.take s.sent.length).map spO).map Span.enc)]):List AV×Heap) (by rw [hli];rfl) (by rw [hli];rfl) rfl;rw [hli] at k6;refine k6.mono fun n e again => ?_;rw [take_length] at e ⊢;simp only [L7_7,h0,vv,vf,reduceCtorEq,reduceAdd,reduceEqDiff,lt_irrefl,(show ¬(1000:Int)<(s.sent.length:Int) by omega),e]
theorem lwData (p:Par) (hpk:∀x∈p.ps,-9223372036854775808≤x∧x≤9223372036854775807):AT C 7 (FT p) [.bool true]:=by
 have k11:=s11 p;cases hg:Kx p with
 |true=>
  rw [hg] at k11;unfold FT F8 at k11 ⊢;refine AT.of (fun n=>e7 n _ _ _ _ _ _ _ _ _ _ _ _ _) ?_;refine (k11.and s12).mono fun n h => ?_;obtain ⟨h1,h2⟩:=h;simp only [Con.enc,cons_append,nil_append] at h1;simp only [h1,h2,vv,vf,reduceCtorEq,reduceAdd,reduceEqDiff]
 |false=>
  rw [hg] at k11;have hp:=P0 hg hpk;have k13:=s13P p hp;have k15:=s15P p hp;by_cases h0:FY p=0
  ·have hok:=hp h0;have hS:=(Fs h0).2.2.2;have e:OM p=TH (DV p):=if_pos h0;have e':Tb p=Ta (DV p):=if_pos h0;rw [e] at k13;rw [e'] at k15;unfold TH at k13;unfold Ta at k15;have hL:=loop7_7 hok (dl_fin hg hok hS) [.sl 9 ((DV p).sent.map Out.enc),.sl 9 ((DV p).told.map Out.enc),tI 0] [.bool (DV p).rcvd,tI (DV p).arrive,.bool (DV p).kno,tI (DV p).knoAt,tI (DV p).snd.busy,tI (DV p).entered,tI ((DV p).dat.lost+(DV p).rep.lost),tI 0] rfl rfl rfl;unfold FT F8 at k11 k13 k15 ⊢;refine AT.of (fun n=>e7 n _ _ _ _ _ _ _ _ _ _ _ _ _) ?_;refine (k11.and (k13.and (k15.and hL))).mono fun n h => ?_;obtain ⟨h1,h2,h3,h4⟩:=h;simp only [Con.enc,cons_append,nil_append] at h1 h2 h3;simp only [h1,h2,h3,h4,J7_8,vv,vf,reduceCtorEq,reduceAdd,reduceEqDiff,bne_self_eq_false]
  ·have e:OM p=[.bool false,tI 0,.bool false,tI 0,tI 0,tI 0,tI 0,tI (FY p)]:=if_neg h0;have e':Tb p=[.sl 9 [],.sl 9 [],tI (FY p)]:=if_neg h0;rw [e] at k13;rw [e'] at k15;unfold FT F8 at k11 k13 k15 ⊢;refine AT.of (fun n=>e7 n _ _ _ _ _ _ _ _ _ _ _ _ _) ?_;refine (k11.and (k13.and (k15.and s12))).mono fun n h => ?_;obtain ⟨h1,h2,h3,h4⟩:=h;simp only [Con.enc,cons_append,nil_append] at h1 h2 h3;have hne:(FY p != 0)=true:=by simpa using h0
   simp only [h1,h2,h3,h4,J7_8,vv,vf,reduceCtorEq,reduceAdd,reduceEqDiff,hne,beq_self_eq_true]
end Ab
set_option linter.unusedVariables false
namespace Ab
open Go
variable {P:Program}
theorem V0 {d:Nat} {t:TypeId} {k:IntKind} (hu:P.underlying t=some (.int k)) {ts:List Tree} (h:Typed P d t ts):∃n,ts=[.int k n]∧(Lit.int k n).wf=true:=by
 cases d with
 |zero=>cases h
 |succ d=>unfold Typed at h;rw [hu] at h;exact h
theorem Vz {d:Nat} {t:TypeId} (hu:P.underlying t=some .string) {ts:List Tree} (h:Typed P d t ts):∃s:ByteArray,ts=[.str s]∧s.size≤maxLen:=by
 cases d with
 |zero=>cases h
 |succ d=>unfold Typed at h;rw [hu] at h;exact h
theorem Le {d:Nat} {t e:TypeId} (hu:P.underlying t=some (.slice e)) {ts:List Tree} (h:Typed P (d+1) t ts):∃es,ts=[.sl (P.cellsOf e) es]∧es.length≤maxLen∧∀x∈es,Typed P d e x:=by unfold Typed at h;rw [hu] at h;exact h
theorem Pg {d:Nat} {t:TypeId} {fs:Array Field} (hu:P.underlying t=some (.struct fs)) {ts:List Tree} (h:Typed P (d+1) t ts):Fw (Typed P d) (fs.toList.map (·.type)) ts:=by unfold Typed at h;rw [hu] at h;exact h
def R7 (P:Program) (t:TypeId):Option (List TypeId):=
 match P.underlying t with
 |some (.struct fs)=>some (fs.toList.map (·.type))
 |_=>none
theorem GS {d:Nat} {t:TypeId} (l:List TypeId) (hu:R7 P t=some l) {ts:List Tree} (h:Typed P (d+1) t ts):Fw (Typed P d) l ts:=by
 unfold R7 at hu;split at hu
 ·rename_i fs hf;cases hu;exact Pg hf h
 ·cases hu
theorem A5 {Ty:TypeId→List Tree→Prop} {t:TypeId} {l:List TypeId} {ts:List Tree} (h:Fw Ty (t::l) ts):∃a b,ts=a++b∧Ty t a∧Fw Ty l b:=h
theorem GU {Ty:TypeId→List Tree→Prop} {ts:List Tree} (h:Fw Ty [] ts):ts=[]:=h
theorem Gp {α:Type} {enc:α→List Tree} {p:α→Prop}:∀{es:List (List Tree)},(∀x∈es,∃a,x=enc a∧p a)→∃l:List α,es=l.map enc∧∀a∈l,p a
 |[],_=>⟨[],rfl,by simp⟩
 |x::es,h=>by
  obtain ⟨a,ha,pa⟩:=h x (by simp);obtain ⟨l,hl,pl⟩:=Gp (es:=es) fun y hy=>h y (by simp [hy]);refine ⟨a::l,by simp [ha,hl],fun b hb => ?_⟩;rcases mem_cons.1 hb with rfl|hb
  ·exact pa
  ·exact pl b hb
end Ab
set_option linter.unusedVariables false
set_option maxRecDepth 100000
namespace Ab
open Go Go.Proofs
theorem uInt:C.P.underlying 3=some (.int .i64):=by kernel_rfl
theorem uStr:C.P.underlying 9=some .string:=by kernel_rfl
def Wz (n:Int):Prop := -9223372036854775808≤n∧n≤9223372036854775807
theorem Dp {d:Nat} {ts:List Tree} (h:Typed C.P d 3 ts):∃n,ts=[tI n]∧Wz n:=by obtain ⟨n,h1,h2⟩:=V0 uInt h;refine ⟨n,h1,?_⟩;simp only [Lit.wf,and_eq_true,decide_eq_true_eq,show IntKind.i64.min = -9223372036854775808 from rfl,show IntKind.i64.max=9223372036854775807 from rfl] at h2;exact h2
theorem dec_str {d:Nat} {ts:List Tree} (h:Typed C.P d 9 ts):∃b:ByteArray,ts=[.str b]∧True:=by obtain ⟨b,h1,_⟩:=Vz uStr h;exact ⟨b,h1,trivial⟩
theorem Yk {d:Nat} {ts:List Tree} (h:Typed C.P (d+1) 45 ts):∃e:Span,ts=e.enc∧True:=by have h1:=GS (t:=45) [3,3] (by kernel_rfl) h;clear h;obtain ⟨_,t1,rfl,x1,g1⟩:=A5 h1;obtain ⟨a1,rfl,k1⟩:=Dp x1;obtain ⟨_,t2,rfl,x2,g2⟩:=A5 g1;obtain ⟨a2,rfl,k2⟩:=Dp x2;obtain rfl:=GU g2;exact ⟨⟨a1,a2⟩,rfl,trivial⟩
theorem We {d:Nat} {ts:List Tree} (h:Typed C.P (d+2) 25 ts):∃l:List Span,ts=[.sl 2 (l.map Span.enc)]∧True:=by obtain ⟨es,rfl,_,h2⟩:=Le (t:=25) (e:=45) (by kernel_rfl) h;obtain ⟨l,rfl,hl⟩:=Gp fun x hx=>Yk (h2 x hx);exact ⟨l,by rw [show C.P.cellsOf 45=2 by kernel_rfl],trivial⟩
theorem Yl {d:Nat} {ts:List Tree} (h:Typed C.P (d+2) 24 ts):∃l:List Int,ts=[.sl 1 (l.map Bh)]∧∀n∈l,Wz n:=by obtain ⟨es,rfl,_,h2⟩:=Le (t:=24) (e:=3) (by kernel_rfl) h;obtain ⟨l,rfl,hl⟩:=Gp (enc:=Bh) fun x hx=>Dp (h2 x hx);exact ⟨l,by rw [show C.P.cellsOf 3=1 by kernel_rfl],hl⟩
theorem dec_con {d:Nat} {ts:List Tree} (h:Typed C.P (d+1) 23 ts):∃e:Con,ts=e.enc∧True:=by have h1:=GS (t:=23) [3,3,3,3,3,3,3] (by kernel_rfl) h;clear h;obtain ⟨_,t1,rfl,x1,g1⟩:=A5 h1;obtain ⟨a1,rfl,k1⟩:=Dp x1;obtain ⟨_,t2,rfl,x2,g2⟩:=A5 g1;obtain ⟨a2,rfl,k2⟩:=Dp x2;obtain ⟨_,t3,rfl,x3,g3⟩:=A5 g2;obtain ⟨a3,rfl,k3⟩:=Dp x3;obtain ⟨_,t4,rfl,x4,g4⟩:=A5 g3;obtain ⟨a4,rfl,k4⟩:=Dp x4;obtain ⟨_,t5,rfl,x5,g5⟩:=A5 g4;obtain ⟨a5,rfl,k5⟩:=Dp x5;obtain ⟨_,t6,rfl,x6,g6⟩:=A5 g5;obtain ⟨a6,rfl,k6⟩:=Dp x6;obtain ⟨_,t7,rfl,x7,g7⟩:=A5 g6;obtain ⟨a7,rfl,k7⟩:=Dp x7;obtain rfl:=GU g7;exact ⟨⟨a1,a2,a3,a4,a5,a6,a7⟩,rfl,trivial⟩
structure Wd (p:Par):Prop where
 b:Wz p.b
 e:Wz p.e
 lim:Wz p.lim
 pk:∀n∈p.ps,Wz n
theorem Ym {d:Nat} {ts:List Tree} (h:Typed C.P (d+3) 27 ts):∃p:Par,ts=FT p∧Wd p:=by have h1:=GS (t:=27) [23,3,3,9,24,3,25] (by kernel_rfl) h;clear h;obtain ⟨_,t1,rfl,x1,g1⟩:=A5 h1;obtain ⟨a1,rfl,k1⟩:=dec_con x1;obtain ⟨_,t2,rfl,x2,g2⟩:=A5 g1;obtain ⟨a2,rfl,k2⟩:=Dp x2;obtain ⟨_,t3,rfl,x3,g3⟩:=A5 g2;obtain ⟨a3,rfl,k3⟩:=Dp x3;obtain ⟨_,t4,rfl,x4,g4⟩:=A5 g3;obtain ⟨a4,rfl,k4⟩:=dec_str x4;obtain ⟨_,t5,rfl,x5,g5⟩:=A5 g4;obtain ⟨a5,rfl,k5⟩:=Yl x5;obtain ⟨_,t6,rfl,x6,g6⟩:=A5 g5;obtain ⟨a6,rfl,k6⟩:=Dp x6;obtain ⟨_,t7,rfl,x7,g7⟩:=A5 g6;obtain ⟨a7,rfl,k7⟩:=We x7;obtain rfl:=GU g7;exact ⟨⟨a1,a2,a3,a4,a5,a6,a7⟩,rfl,⟨k2,k3,k6,k5⟩⟩
theorem own:ownKnob Tryz.prog.godebug=none:=by kernel_rfl
end Ab
namespace Go.Proofs
open Go.Shelf
open Go.RowKit in
open Go.RowKit in
open Go.RowKit in
open Go.RowKit in
open Go.RowKit in
open Go.RowKit in
open Go.RowKit in
open Go.RowKit in
open Go.RowKit in
open Go.RowKit in
open Go.RowKit Go.Lib in
open Go.RowKit Go.Lib in
open Go.RowKit Go.Lib in
open Go.RowKit Go.Lib in
def Tryz.Ll:Go.Shelf.Ren:=⟨fun|105=>25|212=>40|99=>41|165=>42|166=>43|170=>44|169=>45|263=>62|264=>63|206=>64|240=>65|241=>66|276=>89|277=>90|n=>n,fun|9=>9|3=>3|4=>4|20=>20|0=>0|46=>76|109=>77|5=>5|72=>83|76=>87|51=>114|146=>115|53=>117|148=>118|70=>80|37=>81|75=>86|127=>120|164=>139|80=>90|n=>n,fun|n=>n⟩
theorem Tryz.lays105:Go.Proofs.Lays.n105 Tryz.prog Tryz.Ll:={
 mixed:=by kernel_rfl
 f99:=Tryz.func41.trans (congrArg some (by kernel_rfl))
 f105:=Tryz.func25.trans (congrArg some (by kernel_rfl))
 f165:=Tryz.func42.trans (congrArg some (by kernel_rfl))
 f166:=Tryz.func43.trans (congrArg some (by kernel_rfl))
 f169:=Tryz.func45.trans (congrArg some (by kernel_rfl))
 f170:=Tryz.func44.trans (congrArg some (by kernel_rfl))
 f206:=Tryz.func64.trans (congrArg some (by kernel_rfl))
 f212:=Tryz.func40.trans (congrArg some (by kernel_rfl))
 f240:=Tryz.func65.trans (congrArg some (by kernel_rfl))
 f241:=Tryz.func66.trans (congrArg some (by kernel_rfl))
 f263:=Tryz.func62.trans (congrArg some (by kernel_rfl))
 f264:=Tryz.func63.trans (congrArg some (by kernel_rfl))
 f276:=Tryz.func89.trans (congrArg some (by kernel_rfl))
 f277:=Tryz.func90.trans (congrArg some (by kernel_rfl))
 t0:=Tryz.underlying0
 a0:=Tryz.isAgg0
 z0:=Tryz.sizeOf0
 v0:=Tryz.zeroValue0
 t3:=Tryz.underlying3
 a3:=Tryz.isAgg3
 z3:=Tryz.sizeOf3
 v3:=Tryz.zeroValue3
 t4:=Tryz.underlying4
 a4:=Tryz.isAgg4
 z4:=Tryz.sizeOf4
 v4:=Tryz.zeroValue4
 t5:=Tryz.underlying5
 a5:=Tryz.isAgg5
 z5:=Tryz.sizeOf5
 v5:=Tryz.zeroValue5
 t9:=Tryz.underlying9
 a9:=Tryz.isAgg9
 z9:=Tryz.sizeOf9
 v9:=Tryz.zeroValue9
 t20:=Tryz.underlying20
 a20:=Tryz.isAgg20
 z20:=Tryz.sizeOf20
 v20:=Tryz.zeroValue20
 t37:=Tryz.underlying81
 a37:=Tryz.isAgg81
 z37:=Tryz.sizeOf81
 v37:=Tryz.zeroValue81
 t46:=Tryz.underlying76
 a46:=Tryz.isAgg76
 z46:=Tryz.sizeOf76
 v46:=Tryz.zeroValue76
 t51:=Tryz.underlying114
 a51:=Tryz.isAgg114
 z51:=Tryz.sizeOf114
 v51:=Tryz.zeroValue114
 t53:=Tryz.underlying117
 a53:=Tryz.isAgg117
 z53:=Tryz.sizeOf117
 v53:=Tryz.zeroValue117
 t70:=Tryz.underlying80
 a70:=Tryz.isAgg80
 z70:=Tryz.sizeOf80
 v70:=Tryz.zeroValue80
 t72:=Tryz.underlying83
 a72:=Tryz.isAgg83
 z72:=Tryz.sizeOf83
 v72:=Tryz.zeroValue83
 t75:=Tryz.underlying86
 a75:=Tryz.isAgg86
 z75:=Tryz.sizeOf86
 v75:=Tryz.zeroValue86
 t76:=Tryz.underlying87
 a76:=Tryz.isAgg87
 z76:=Tryz.sizeOf87
 v76:=Tryz.zeroValue87
 t109:=Tryz.underlying77
 a109:=Tryz.isAgg77
 z109:=Tryz.sizeOf77
 v109:=Tryz.zeroValue77
 t127:=Tryz.underlying120
 a127:=Tryz.isAgg120
 z127:=Tryz.sizeOf120
 v127:=Tryz.zeroValue120
 t146:=Tryz.underlying115
 a146:=Tryz.isAgg115
 z146:=Tryz.sizeOf115
 v146:=Tryz.zeroValue115
 t148:=Tryz.underlying118
 a148:=Tryz.isAgg118
 z148:=Tryz.sizeOf118
 v148:=Tryz.zeroValue118
 t164:=Tryz.underlying139
 a164:=Tryz.isAgg139
 z164:=Tryz.sizeOf139
 v164:=Tryz.zeroValue139}
theorem Tryz.Ka:Builder.Extra Tryz.prog Tryz.Ll:={
 sizeBuilder:=by kernel_rfl
 liesBuilder:=by kernel_rfl
 t5:=Tryz.underlying5
 a5:=Tryz.isAgg5
 z5:=Tryz.sizeOf5
 v5:=Tryz.zeroValue5
 infoByte:=by kernel_rfl
 cellsByte:=by kernel_rfl
 sizeByte:=by kernel_rfl
 neB5:=by decide}
open Go.RowKit Go.Lib in
open Go.RowKit Go.Lib in
open Go.RowKit Go.Lib in
open Go.RowKit Go.Lib in
open Go.RowKit Go.Lib in
open Go.RowKit Go.Lib in
open Go.RowKit Go.Lib in
theorem Tryz.strings_Repeat (s:ByteArray) (c:Nat) (w:World) (hc:c≤9223372036854775807) (hlen:s.size*c≤140737488355328) :
  Calls Tryz.prog 25 #[.string s,.int .i64 c] w fun e w'=>e = .returned (.string ⟨(Lib.repeatL s.data.toList c).toArray⟩)∧Below w.heap.size w w':=Any.strings_Repeat Tryz.lays105 Tryz.Ka s c w hc hlen
end Go.Proofs
namespace Ab
open Go Go.Proofs Go.Shelf Go.RowKit Go.Lib
set_option maxRecDepth 100000
theorem HU {P:Program} {t key elem:TypeId} {kd:IntKind} (hu:P.underlying t=some (.map key elem)) (hk:P.underlying key=some (.int kd)) {w:World} {b:Nat} {es:Array MapEntry} {clock:Nat} (hb:w.heap[b]? = some (.map es clock)) (n:Int) (v:Value)
  (hnew:Instr.findNow (.int kd) (.int kd n) es.toList 0=some none) :
  (Instr.mapUpdate t (.map (some b)) (.int kd n) v).run P w = .ok () (w.putObj b (.map (es.push {key :=.int kd n,val:=v,born:=clock}) (clock+1))):=by
 have hck:(Instr.checkKey false 10000 key (.int kd n)).run P w = .ok () w:=by
  have:∀m:Nat,(Instr.checkKey false (m+1) key (.int kd n)).run P w = .ok () w:=fun m=>by simp [Instr.checkKey,run_underlying hk]
  exact this 9999
 simp only [Instr.mapUpdate,Sem.run_bind,run_underlying hu,Result.andThen_ok,I5 hb,hck,Instr.findKey,run_underlying hk,hnew,Sem.run_pure];simp [setObj,Sem.run,hb,World.putObj]
theorem NN (w:World):Calls Tryz.prog 165 #[] w fun e w'=>∃b,e = .returned (.map (some b))∧w.heap.size≤b∧b<w'.heap.size∧Below w.heap.size w w'∧∃es clock,w'.heap[b]? = some (.map es clock)∧es.toList.map (fun e=>(e.key,e.val))=[(.int .i64 2,.func (.func 186) #[] #[]),(.int .i64 3,.func (.func 187) #[] #[])]:=by
 have hmm:=@Go.run_makeMap_plain Tryz.prog;have hw0:(w.alloc (.map #[] 0)).heap[w.heap.size]? = some (.map #[] 0):=by show (w.heap.push (.map #[] 0))[w.heap.size]? = _;exact Array.getElem?_push_size
 have h1:(Instr.mapUpdate 191 (.map (some w.heap.size)) (.int .i64 2) (.func (.func 186) #[] #[])).run Tryz.prog (w.alloc (.map #[] 0))= .ok () ((w.alloc (.map #[] 0)).putObj w.heap.size (.map #[{key :=.int .i64 2,val :=.func (.func 186) #[] #[],born:=0}] 1)):=
  HU (P:=Tryz.prog) (t:=191) (key:=3) (elem:=189) (kd :=.i64) (by kernel_rfl) (by kernel_rfl) hw0 2 (.func (.func 186) #[] #[]) rfl
 have hlt:=D8 hw0;have hw1:=World.putObj_heap_same (o :=.map #[{key :=.int .i64 2,val :=.func (.func 186) #[] #[],born:=0}] 1) hlt;have hlt2:=D8 hw1;have hw2:=World.putObj_heap_same (o :=.map #[{key :=.int .i64 2,val :=.func (.func 186) #[] #[],born:=0},{key :=.int .i64 3,val :=.func (.func 187) #[] #[],born:=1}] 2) hlt2;have hlt3:=D8 hw2;have h2:(Instr.mapUpdate 191 (.map (some w.heap.size)) (.int .i64 3) (.func (.func 187) #[] #[])).run Tryz.prog ((w.alloc (.map #[] 0)).putObj w.heap.size (.map #[{key :=.int .i64 2,val :=.func (.func 186) #[] #[],born:=0}] 1))= .ok () (((w.alloc (.map #[] 0)).putObj w.heap.size (.map #[{key :=.int .i64 2,val :=.func (.func 186) #[] #[],born:=0}] 1)).putObj w.heap.size (.map #[{key :=.int .i64 2,val :=.func (.func 186) #[] #[],born:=0},{key :=.int .i64 3,val :=.func (.func 187) #[] #[],born:=1}] 2)):=
  HU (P:=Tryz.prog) (t:=191) (key:=3) (elem:=189) (kd :=.i64) (by kernel_rfl) (by kernel_rfl) hw1 3 (.func (.func 187) #[] #[]) rfl
 go_enter Tryz.func165,Tryz.ntmps165
 go_wp2
 go_ret
 exact ⟨w.heap.size,rfl,le_refl _,hlt3,⟨rfl,rfl,rfl,Nat.le_of_lt hlt3,fun k hk=>by rw [World.putObj_heap_other (ne_of_lt hk),World.putObj_heap_other (ne_of_lt hk)];show (w.heap.push (.map #[] 0))[k]? = _;rw [Array.getElem?_push,if_neg (ne_of_lt hk)]⟩,_,_,hw2,rfl⟩
theorem mapExt:LO Tryz.prog 165 [] [.mp .i64 [(2,186),(3,187)]]:=by
 intro B w avs vs n hm hB hc;have e:avs=[]:=by
  have:Ds Tryz.prog 165 (fun i =>.t ((List.getD [] i default:Tree)))=some []:=by kernel_rfl
  rw [this] at hm;exact (Option.some.inj hm).symm
 subst e;obtain rfl:vs = #[]:=eq_empty_of_size_eq_zero (by simpa using hc.1);refine (callsIn_wide (n:=n)).2 (NN w) |>.mono ?_
 rintro e w' ⟨b,rfl,h1,h2,h3,es,clock,h4,h5⟩
 refine ⟨_,.t (.mp .i64 [(2,186),(3,187)]),rfl,by kernel_rfl,.t _ _ (.mp .i64 _ b es clock h2 ?_ h4 (by rw [h5];rfl)),⟨h3.os,h3.tape,h3.output,h3.size,h3.block⟩,fun h => ?_⟩
 ·rintro (h|h)
  ·exact Nat.lt_irrefl _ (lt_of_lt_of_le (hB b h) h1)
  ·exact D1 h
 ·have:Cf Tryz.prog 165=false:=by kernel_rfl
  rw [this] at h;cases h
theorem repExt (s:ByteArray) (c:Int) (h0:0≤c∧c≤9223372036854775807∧s.size*c.toNat≤140737488355328):LO Tryz.prog 25 [.str s,.int .i64 c] [.str ⟨(Go.Lib.repeatL s.data.toList c.toNat).toArray⟩]:=by
 intro B w avs vs n hm hB hc;have e:avs=[.t (.str s),.t (.int .i64 c)]:=by
  have:Ds Tryz.prog 25 (fun i =>.t ((List.getD [.str s,.int .i64 c] i default:Tree)))=some [.t (.str s),.t (.int .i64 c)]:=by kernel_rfl
  rw [this] at hm;exact (Option.some.inj hm).symm
 subst e;obtain ⟨h1,h2,h3⟩:=h0;obtain ⟨k,rfl⟩:∃k:Nat,c=(k:Int):=⟨c.toNat,by omega⟩
 simp only [toNat_natCast] at h3 ⊢;obtain rfl:vs = #[.string s,.int .i64 (k:Int)]:=by
  obtain ⟨hl,hv⟩:=hc;obtain ⟨l⟩:=vs
  match l,hl with
  |[u,v],_=>
   have q0:=hv 0 _ rfl;have q1:=hv 1 _ rfl;simp only [Array.getD] at q0 q1;have r0:u = .string s:=by cases q0 with|t _ _ q=>cases q with|str=>rfl
   have r1:v = .int .i64 (k:Int):=by cases q1 with|t _ _ q=>cases q with|int=>rfl
   rw [r0,r1]
 refine (callsIn_wide (n:=n)).2 (Tryz.strings_Repeat s k w (by omega) h3) |>.mono ?_
 rintro e w' ⟨rfl,h3⟩
 exact ⟨_,.t (.str _),rfl,by kernel_rfl,.t _ _ (.str _),⟨h3.os,h3.tape,h3.output,h3.size,h3.block⟩,fun _=>rfl⟩
theorem extOk:Sp C:=by
 intro g xs ys _ h;unfold C at h;simp only at h;unfold YW at h;split at h
 ·rename_i e;subst e;split at h
  ·split at h
   ·rename_i hq;cases h;exact repExt _ _ hq
   ·cases h
  ·cases h
 ·split at h
  ·rename_i e;subst e;split at h
   ·cases h;exact mapExt
   ·cases h
  ·cases h
end Ab
