/- A part of the proof: see the last text. -/
import Derived.Test.YtabheiodkaljcaaGreatDoorM3
open Bool (false_eq_true or_eq_true)
open ByteArray (size_extract)
open Classical (not_forall not_not)
open Int (emod_lt_of_pos emod_nonneg lt_irrefl natCast_zero tdiv tmod toNat toNat_natCast)
open List (all_cons all_eq_true append_nil cons_append countP_cons drop dropWhile_cons drop_succ_cons drop_zero eq_nil_of_length_eq_zero foldl_cons getD_eq_getElem?_getD getElem?_cons_zero getElem?_drop getElem?_eq_getElem getElem?_eq_none getElem?_map getElem?_take getElem_mem getElem_of_mem getLast?_concat head?_cons head?_nil length length_append length_cons length_drop length_eq_zero_iff length_map length_nil length_tail length_take map_cons map_drop map_map map_nil map_take mem_append mem_cons mem_cons_of_mem mem_flatMap mem_map mem_of_getElem? mem_singleton nil_append pairwise_append pairwise_cons replicate singleton_append take take_of_length_le)
open Nat (add_assoc add_mul add_zero le_refl le_trans lt_or_ge min_def reduceAdd reduceEqDiff zero_add)
open Option (bind_none map_none map_some)
set_option linter.unusedVariables false
set_option linter.unusedSimpArgs false
namespace Ab
open Go
theorem Pn:∀(k:Nat) (a b:Int),(b-a).toNat≤k→∀p∈cut a b,a≤p.1∧p.1<p.2∧p.2≤b∧p.2≤p.1+16
 |k,a,b,h,p,hp=>by
  by_cases hq:a<b
  ·rw [Jo hq] at hp;have hc:=Jp hq;rcases mem_cons.1 hp with rfl|hp
   ·have:HM a b≤a+16:=by unfold HM;split<;>omega
    exact ⟨Int.le_refl _,hc.1,hc.2,this⟩
   ·cases k with
    |zero=>omega
    |succ k=>
     have:=Pn k (HM a b) b (by omega) p hp;omega
  ·rw [Pm hq] at hp;cases hp
theorem cut_ne {a b:Int} (h:a<b):cut a b≠[]:=by rw [Jo h];simp
structure Piece (d:ByteArray) (ses:Int) (x:Seg):Prop where
 kind:x.kind=1
 ses_:x.ses=ses
 ser:x.ser=0
 tot:x.tot=d.size
 chk:x.chk=false
 cl:x.AY=[]
 off:0≤x.off∧x.off<d.size
 sz:1≤x.data.size∧x.data.size≤16
 fit:(x.data.size:Int)≤d.size-x.off
theorem VS {d:ByteArray} {ses:Int} {p:Int×Int} (h:0≤p.1∧p.1<p.2∧p.2≤d.size∧p.2≤p.1+16):Piece d ses (raw d ses p):=by
 have hs:(raw d ses p).data.size=p.2.toNat-p.1.toNat:=by simp only [raw,size_extract];omega
 exact ⟨rfl,rfl,rfl,rfl,rfl,rfl,⟨h.1,by simp only [raw];omega⟩,by omega,by rw [hs];simp only [raw];omega⟩
theorem XO {d:ByteArray} {ses:Int} {x:Seg} (h:Piece d ses x) (hs:0≤ses∧ses≤1099511627776) (hd:1≤d.size∧d.size≤65536):Cq x=0:=by
 have k:=h.kind;have n:CE x:=by unfold CE;have:=h.ses_;have:=h.tot;have:=h.off;refine ⟨by omega,by omega,by omega,fun _=>⟨by omega,by omega,fun hc => ?_,fun _=>h.ser⟩⟩;rw [h.chk] at hc;cases hc
 have c:Cs x:=by unfold Cs;have:=h.tot;have:=h.fit;exact ⟨by omega,by omega,fun _=>⟨h.sz,by omega,h.cl⟩⟩
 unfold Cq;rw [if_neg (by omega),if_neg (fun f=>f n),if_neg (fun f=>f c)]
theorem MJ {d:ByteArray} {ses:Int} {l:List Span} (h:NO l d.size):∀x∈GC d ses l,Piece d ses x:=by intro x hx;unfold GC at hx;obtain ⟨y,hy,hx⟩:=mem_flatMap.1 hx;obtain ⟨p,hp,rfl⟩:=mem_map.1 hx;have h1:=h y hy;have h2:=Pn _ y.fro y.to (le_refl _) p hp;exact VS (by omega)
theorem UZ {d:ByteArray} {ses:Int} {l:List Span} (h:NO l d.size) (hl:l≠[]):GC d ses l≠[]:=by
 cases l with
 |nil=>exact absurd rfl hl
 |cons y l=>
  have h1:=h y (by simp);have h2:=cut_ne h1.2.1;unfold GC;rw [List.flatMap_cons];intro e;exact h2 (List.map_eq_nil_iff.1 (List.append_eq_nil_iff.1 e).1)
theorem Qu {d:ByteArray} {ses:Int}:∀{l:List Span} {b n:Int},Canon b l→b<n→(∀x∈l,x.to≤n)→((GC d ses l).length:Int)≤n-b
 |[],b,n,_,h,_=>by simp [GC];omega
 |x::l,b,n,h,hb,ht=>by
  have h1:=h.1;have h2:=h.2.1;have h3:=ht x (by simp);have h4:=Po _ x.fro x.to (le_refl _);rw [if_pos h2] at h4;have e:(GC d ses (x::l)).length=(cut x.fro x.to).length+(GC d ses l).length:=by unfold GC;rw [List.flatMap_cons,length_append,length_map]
  rw [e];by_cases he:x.to<n
  ·have:=Qu (d:=d) (ses:=ses) h.2.2 he (fun y hy=>ht y (by simp [hy]));omega
  ·cases l with
   |nil=>
    simp only [GC,List.flatMap_nil,length_nil];omega
   |cons y l=>
    have:=h.2.2.1;have:=h.2.2.2.1;have:=ht y (by simp);omega
theorem M4 {l:List Span} {b n:Int} (h:Canon b l) (hw:B7 l n):Canon (-1) l:=by
 cases l with
 |nil=>trivial
 |cons x l=>exact ⟨by have:=hw x (by simp);omega,h.2⟩
structure Bat (d:ByteArray) (ses ser:Int) (l:List Seg):Prop where
 ex:∃pre x,l=pre++[{x with ser:=ser,chk:=true}]∧Piece d ses x∧∀y∈pre,Piece d ses y
 len:(l.length:Int)≤d.size+1
theorem OQ {l:List Span} {n:Int} (h:BM l=0) (hw:B7 l n):inside l n=true:=by unfold inside;exact decide_eq_true ⟨h,(B6 h).2 hw⟩
theorem On {ses ser:Int} {d:ByteArray} {l:List Span} (hs:0≤ses∧ses≤1099511627776) (hr:1≤ser∧ser≤1099511627776) (hd:1≤d.size∧d.size≤65536) (hi:inside l d.size=true) (hl:l≠[]):Kl ses ser d l=0:=by unfold Kl;rw [if_neg (fun f=>f ⟨hs,hr⟩),if_neg (by omega),if_neg (by omega),if_neg (by rw [hi];simp),if_neg hl]
theorem M8 {ses ser:Int} {d:ByteArray} {l:List Span} (h:Kl ses ser d l=0):Bat d ses ser (C5 ses ser d l):=by
 have h0:=h;unfold Kl at h0;split at h0
 ·cases h0
 split at h0
 ·cases h0
 split at h0
 ·cases h0
 split at h0
 ·cases h0
 split at h0
 ·cases h0
 rename_i k1 k2 k3 k4 k5;have k4:inside l d.size=true:=by simpa using k4
 obtain ⟨g1,g2⟩:=KV k4;have hn:=UZ (ses:=ses) g1 k5;obtain ⟨pre,x,hx⟩:∃pre x,GC d ses l=pre++[x]:=⟨_,_,(List.dropLast_concat_getLast hn).symm⟩
 have hp:=MJ (ses:=ses) g1;rw [hx] at hp;have e:C5 ses ser d l=pre++[{x with ser:=ser,chk:=true}]:=by unfold C5;rw [if_pos h,hx,HC]
 refine ⟨⟨pre,x,e,hp x (by simp),fun y hy=>hp y (by simp [hy])⟩,?_⟩;unfold inside at k4;have k4:=of_decide_eq_true k4;have hw:=(B6 k4.1).1 k4.2;have:=Qu (d:=d) (ses:=ses) (n:=d.size) (M4 ((An _).1 k4.1).2.1 hw) (by omega) (fun x hx=>(hw x hx).2);rw [hx] at this;rw [e];simp only [length_append,length_cons,length_nil] at this ⊢;omega
structure FOk (s:Snd):Prop where
 f:Gq s=0
 few:s.acked.length≤900
theorem FOk.dat {s:Snd} (h:FOk s):1≤s.data.size∧s.data.size≤65536:=(DA h.f).2.1.2.1
theorem FOk.ack {s:Snd} (h:FOk s):BM s.acked=0:=(DA h.f).2.2.1
theorem FOk.win {s:Snd} (h:FOk s):B7 s.acked s.data.size:=(B6 h.ack).1 (DA h.f).2.2.2
theorem FOk.left {s:Snd} (h:FOk s):Fw s=min_ (AZ s.data) s.acked:=left_eq h.dat h.ack h.few
theorem FOk.Mb {s:Snd} (h:FOk s):Fw s=[]↔complete s=true:=by rw [← Xj h.dat h.ack h.win h.few,length_eq_zero_iff]
theorem FOk.Xk {s:Snd} (h:FOk s):BM (Fw s)=0:=by rw [h.left];obtain ⟨k1,k2,k3⟩:=H2 h.dat h.ack h.win;have:=Ue h.dat h.ack;have:=h.few;have:=h.dat;rw [An];exact ⟨by omega,k1,fun x hx=>by have:=k2 x hx;omega⟩
theorem FOk.Xi {s:Snd} (h:FOk s):B7 (Fw s) s.data.size:=by rw [h.left];exact (H2 h.dat h.ack h.win).2.1
theorem FOk.rng {s:Snd} (h:FOk s):1≤s.c.rng∧s.c.rng≤1048576∧1≤s.c.rate∧s.c.rate≤1000∧0≤s.c.start∧s.c.fin≤1099511627776-2*s.c.rng:=by obtain ⟨c1,c2⟩:=FI (DA h.f).1;unfold Hm at c1;omega
theorem FOk.num {s:Snd} (h:FOk s):(0≤s.ses∧s.ses≤1099511627776)∧(s.c.start≤s.busy∧s.busy≤s.fin)∧s.fin≤s.c.fin∧(1≤s.ser∧s.ser≤1099511627776):=by have:=(DA h.f).2.1;unfold EZ at this;omega
theorem FOk.bat {s:Snd} (h:FOk s) (hc:complete s=false) (hr:s.ser<1099511627776):Kl s.ses (s.ser+1) s.data (Fw s)=0:=by have:=h.num;refine On this.1 (by omega) h.dat (OQ h.Xk h.Xi) fun e => ?_;rw [h.Mb.1 e] at hc;cases hc
theorem V7 {s:Snd} (hr:s.ser=1099511627776):Aw s=[]:=by unfold Aw C5;rw [if_neg];unfold Kl;rw [if_pos (by omega)];omega
end Ab
set_option linter.unusedVariables false
set_option linter.unusedSimpArgs false
namespace Ab
open Go
def FK:Snd:=⟨⟨0,0,0,0,0,0,0⟩,0,ByteArray.mk #[],0,0,0,[],0,0⟩
def DT (p:Snd×List Out×Int):List Tree:=p.1.enc++[.sl 9 (p.2.1.map Out.enc),tI p.2.2]
def C3 (e:Int):Snd×List Out×Int:=(FK,[],e)
def Bl (c:Con) (ses:Int) (d:ByteArray) (e:Int):Snd:=⟨c,ses,d,e,0,0,[],0,0⟩
def Bp (c:Con) (ses:Int) (d:ByteArray) (b e:Int):Snd×List Out×Int:=
 if Jr c≠0 then C3 1 else if ¬(0≤ses∧ses≤1099511627776) then C3 2 else if d.size=0 then C3 20 else if 65536<d.size then C3 4
 else if b<c.start∨e<b∨c.fin<e then C3 2
 else if (CF (Bl c ses d e) b (C5 ses 1 d (AZ d))).1.st=3 then C3 16
 else ((CF (Bl c ses d e) b (C5 ses 1 d (AZ d))).1,(CF (Bl c ses d e) b (C5 ses 1 d (AZ d))).2,0)
theorem Pq:BM []=0:=by simp [BM,C0]
theorem So {d:ByteArray} (hd:1≤d.size∧d.size≤65536) (s:Snd) (h1:s.data=d) (h2:s.acked=[]):Fw s=AZ d:=by
 have e:Fw s=min_ (AZ d) []:=by have:=left_eq (s:=s) (by rw [h1];exact hd) (by rw [h2];exact Pq) (by rw [h2];simp);rw [this,h1,h2]
 rw [e];obtain ⟨k1,k2,k3⟩:=H2 (a:=[]) hd Pq (fun x hx=>by cases hx);exact C4 k1 ((An _).1 (FH hd)).2.1 fun t=>by rw [k3];simp [AX,AZ]
theorem WK {d:ByteArray} (hd:1≤d.size∧d.size≤65536):inside (AZ d) d.size=true:=OQ (FH hd) fun x hx=>by simp only [AZ,mem_singleton] at hx;subst hx;exact ⟨Int.le_refl _,Int.le_refl _⟩
theorem N8 {ses:Int} {d:ByteArray} (hs:0≤ses∧ses≤1099511627776) (hd:1≤d.size∧d.size≤65536):Kl ses 1 d (AZ d)=0:=On hs (by omega) hd (WK hd) (by simp [AZ])
theorem Bat.len2 {d:ByteArray} {ses ser:Int} {l:List Seg} (h:Bat d ses ser l) (hd:d.size≤65536):l.length≤100000000:=by have:=h.len;omega
theorem JK (c:Con) (ses:Int) (d:ByteArray) (b e:Int):AT C 2004367 (c.enc++[tI ses,.str d,tI b,tI e]) (DT (Bp c ses d b e)):=by
 refine AT.of (fun n=>Xw n _ _ _ _ _ _ _ _ _ _ _) ?_;by_cases h1:Jr c=0
 ·by_cases h2:0≤ses∧ses≤1099511627776
  ·by_cases h3:d.size=0
   ·refine ((s55 c).and (s92 ses 0 1099511627776)).mono fun n g => ?_;obtain ⟨g1,g2⟩:=g;simp only [Con.enc] at g1;simp only [g1,g2,AJ,Ck,vv,vf,reduceCtorEq,reduceAdd,reduceEqDiff,wi,h1,h2,bne_self_eq_false,CP,h3,Bp,ne_eq,not_true_eq_false,DT,C3,FK,Snd.enc,map_nil,cons_append,nil_append]
   ·by_cases h4:65536<d.size
    ·refine ((s55 c).and (s92 ses 0 1099511627776)).mono fun n g => ?_;obtain ⟨g1,g2⟩:=g;simp only [Con.enc] at g1;simp only [g1,g2,AJ,Ck,vv,vf,reduceCtorEq,reduceAdd,reduceEqDiff,wi,h1,h2,bne_self_eq_false,CP,h3,h4,(show (65536:Int)<(d.size:Int) by omega),Bp,ne_eq,not_true_eq_false,DT,C3,FK,Snd.enc,map_nil,cons_append,nil_append]
    ·by_cases h5:b<c.start∨e<b∨c.fin<e
     ·refine ((s55 c).and (s92 ses 0 1099511627776)).mono fun n g => ?_;obtain ⟨g1,g2⟩:=g;simp only [Con.enc] at g1;have r:DT (Bp c ses d b e)=DT (C3 2):=by simp only [Bp,h1,h2,h3,h4,h5,ne_eq,not_true_eq_false,if_false,if_true,and_self]
      rw [r];simp only [g1,g2,AJ,Ck,vv,vf,reduceCtorEq,reduceAdd,reduceEqDiff,wi,h1,h2,bne_self_eq_false,CP,h3,h4,(show ¬(65536:Int)<(d.size:Int) by omega)];by_cases q1:b<c.start
      ·simp only [SB,q1,AJ,Ck,vv,vf,reduceCtorEq,reduceAdd,reduceEqDiff,DT,C3,FK,Snd.enc,map_nil,cons_append,nil_append]
      ·by_cases q2:e<b
       ·simp only [SB,q1,q2,AJ,Ck,vv,vf,reduceCtorEq,reduceAdd,reduceEqDiff,DT,C3,FK,Snd.enc,map_nil,cons_append,nil_append]
       ·have q3:c.fin<e:=by omega
        simp only [SB,q1,q2,q3,AJ,Ck,vv,vf,reduceCtorEq,reduceAdd,reduceEqDiff,DT,C3,FK,Snd.enc,map_nil,cons_append,nil_append]
     ·have hd:1≤d.size∧d.size≤65536:=by omega
      obtain ⟨c1,c2⟩:=FI h1;unfold Hm at c1;have hb:=N8 h2 hd;have hl:=(M8 hb).len2 hd.2;have e94:Aw ⟨⟨0,0,0,0,0,0,0⟩,ses,d,0,0,0,[],0,0⟩=C5 ses 1 d (AZ d):=by unfold Aw;rw [So hd _ rfl rfl];rfl
      have t37:=s94 ⟨⟨0,0,0,0,0,0,0⟩,ses,d,0,0,0,[],0,0⟩ (by simp);rw [e94] at t37;refine ((s55 c).and ((s92 ses 0 1099511627776).and (t37.and (MA (Bl c ses d e) b _ hl (by omega) (by simp only [Bl];omega))))).mono fun n g => ?_;obtain ⟨g1,g2,g3,g4⟩:=g;simp only [Con.enc] at g1;have r:Bp c ses d b e=if (CF (Bl c ses d e) b (C5 ses 1 d (AZ d))).1.st=3 then C3 16 else ((CF (Bl c ses d e) b (C5 ses 1 d (AZ d))).1,(CF (Bl c ses d e) b (C5 ses 1 d (AZ d))).2,0):=by simp only [Bp,h1,h2,h3,h4,h5,ne_eq,not_true_eq_false,if_false,if_true,and_self]
      rw [r];generalize CF (Bl c ses d e) b (C5 ses 1 d (AZ d))=p at g4;obtain ⟨p,o⟩:=p;simp only [Snd.enc,Bl,G0,cons_append,nil_append,map_nil] at g3 g4;have q1:¬b<c.start:=by omega
      have q2:¬e<b:=by omega
      have q3:¬c.fin<e:=by omega
      simp only [g1,g2,AJ,Ck,vv,vf,reduceCtorEq,reduceAdd,reduceEqDiff,wi,h1,h2,bne_self_eq_false,CP,h3,h4,(show ¬(65536:Int)<(d.size:Int) by omega),SB,q1,q2,q3,g3,g4,beq_iff_eq];by_cases hp:p.st=3
      ·simp only [hp,AJ,Ck,vv,vf,reduceCtorEq,reduceAdd,reduceEqDiff,DT,C3,FK,Snd.enc,map_nil,cons_append,nil_append]
      ·simp only [hp,AJ,Ck,vv,vf,reduceCtorEq,reduceAdd,reduceEqDiff,DT,Snd.enc,cons_append,nil_append]
  ·refine ((s55 c).and (s92 ses 0 1099511627776)).mono fun n g => ?_;obtain ⟨g1,g2⟩:=g;simp only [Con.enc] at g1;simp only [g1,g2,AJ,Ck,vv,vf,reduceCtorEq,reduceAdd,reduceEqDiff,wi,h1,h2,bne_self_eq_false,Bp,ne_eq,not_true_eq_false,not_false_eq_true,DT,C3,FK,Snd.enc,map_nil,cons_append,nil_append]
 ·refine (s55 c).mono fun n g1 => ?_;simp only [Con.enc] at g1;simp only [g1,AJ,Ck,vv,vf,reduceCtorEq,reduceAdd,reduceEqDiff,h1,bne_iff_ne,ne_eq,not_false_eq_true,Bp,DT,C3,FK,Snd.enc,map_nil,cons_append,nil_append]
theorem Bat.last {d:ByteArray} {ses ser:Int} {l:List Seg} (h:Bat d ses ser l):∃x,l.getLast? = some x∧x.ser=ser∧l≠[]:=by obtain ⟨pre,x,rfl,_⟩:=h.ex;exact ⟨_,getLast?_concat ..,rfl,by simp⟩
end Ab
set_option linter.unusedVariables false
set_option linter.unusedSimpArgs false
namespace Ab
open Go
def BT (s:Snd) (x:Seg):Snd:={s with acked:=uni s.acked x.AY}
def G5 (s:Snd) (t:Int) (x:Seg):Snd×List Out:=
 if x.ser≠s.ser∨x.tot≠s.data.size then (s,[]) else if complete (BT s x)=true then ({BT s x with due:=0,st:=2},[]) else CF (BT s x) t (Aw (BT s x))
def BK (s:Snd) (t:Int) (x:Seg):Snd×List Out×Int:=
 if GP s≠0∨Cq x≠0 then C3 1 else if ¬(s.busy≤t∧t≤2199023255552) then C3 2
 else if s.st≠1∨x.ses≠s.ses∨x.kind=1 then (s,[],0) else if x.kind=3 then (DG s,[],0)
 else ((G5 s t x).1,(G5 s t x).2,0)
def CC (l:List Seg):List Seg:=l.drop (l.length-1)
def Ca (s:Snd) (t:Int):Snd×List Out×Int:=
 if GP s≠0 then C3 1 else if s.st≠1 then C3 19 else if ¬(s.due≤t∧t≤2199023255552) then C3 2
 else ((CF s t (CC (Aw s))).1,(CF s t (CC (Aw s))).2,0)
theorem Kg {s:Snd} (h:GP s=0):Gq s=0∧fits s=true:=by
 unfold GP at h;split at h
 ·rename_i h1;exact absurd h h1
 ·rename_i h1;split at h
  ·rename_i h2;exact ⟨by omega,h2⟩
  ·cases h
theorem FOk.batch {s:Snd} (h:FOk s) (hc:complete s=false):s.ser=1099511627776∧Aw s=[]∨s.ser<1099511627776∧Bat s.data s.ses (s.ser+1) (Aw s):=by
 have:=h.num;by_cases hr:s.ser=1099511627776
 ·exact .inl ⟨hr,V7 hr⟩
 ·have hr:s.ser<1099511627776:=by omega
  exact .inr ⟨hr,M8 (h.bat hc hr)⟩
theorem FOk.Om {s:Snd} (h:FOk s) (hc:complete s=false):(Aw s).length≤65537:=by
 have:=h.dat;rcases h.batch hc with ⟨_,e⟩|⟨_,b⟩
 ·rw [e];simp
 ·have:=b.len;omega
theorem Sp (l:List Seg):(CC l).length≤1:=by unfold CC;rw [length_drop];omega
theorem IT (pre:List Seg) (x:Seg):CC (pre++[x])=[x]:=by unfold CC;simp
structure GOk (x:Seg):Prop where
 g:Cq x=0
 few:x.AY.length≤100
theorem ET {x:Seg} (h:Cq x=0):(1≤x.kind∧x.kind≤3)∧CE x∧Cs x:=by
 unfold Cq at h;split at h
 ·cases h
 ·rename_i h1;split at h
  ·cases h
  ·rename_i h2;split at h
   ·cases h
   ·rename_i h3;exact ⟨not_not.1 h1,not_not.1 h2,not_not.1 h3⟩
theorem GOk.cl {x:Seg} (h:GOk x) (hk:x.kind=2):BM x.AY=0∧B7 x.AY x.tot:=by have:=(ET h.g).2.2.2.1 hk;have k4:=this.2.2;unfold inside at k4;have k4:=of_decide_eq_true k4;exact ⟨k4.1,(B6 k4.1).1 k4.2⟩
theorem WM {a b:List Span} {n:Int} (ha:BM a=0) (hb:BM b=0) (wa:B7 a n) (wb:B7 b n) (hl:a.length+b.length≤1000) (hn:n≤65536):BM (uni a b)=0∧B7 (uni a b) n∧∀t,AX t (uni a b)↔AX t a∨AX t b:=by
 obtain ⟨k1,k2⟩:=I9 ((An _).1 ha).2.1 ((An _).1 hb).2.1;have hw:B7 (uni a b) n:=GH k1 fun t m=>by
  rcases (k2 t).1 m with m|m
  ·exact FL wa m
  ·exact FL wb m
 have:=O6 ha hb;refine ⟨(An _).2 ⟨by omega,k1,fun x hx=>by have:=hw x hx;omega⟩,hw,k2⟩
theorem U3 {s:Snd} {x:Seg} (h:FOk s) (hs:s.acked.length≤100) (g:GOk x) (hk:x.kind=2) (ht:x.tot=s.data.size):FOk (BT s x):=by
 obtain ⟨k1,k2⟩:=g.cl hk;rw [ht] at k2;have hd:=h.dat;have:=g.few;obtain ⟨u1,u2,u3⟩:=WM h.ack k1 h.win k2 (by omega) (by omega);refine ⟨?_,?_⟩
 ·obtain ⟨c1,c2,c3⟩:=DA h.f;unfold Gq;have a1:EZ (BT s x):=c2;have a2:QT (BT s x):=⟨u1,(B6 u1).2 u2⟩
  have a0:Jr (BT s x).c=0:=c1;rw [if_neg (fun f=>f a0),if_neg (fun f=>f a1),if_neg (fun f=>f a2)]
 ·have:=O6 h.ack k1;have e:(BT s x).acked=uni s.acked x.AY:=rfl;rw [e];omega
theorem WL {a b:List Span} (ha:BM a=0) (hb:BM b=0) (hl:a.length+b.length≤1000):DB a b=uni a b∧EG a b=0:=by have:=O6 ha hb;unfold DB EG;simp [ha,hb,(show ¬1000<(uni a b).length by omega)]
theorem s186 (s:Snd) (t:Int) (x:Seg) (h:FOk s) (hs:s.acked.length≤100) (g:GOk x) (hk:x.kind=2) (ht:s.busy≤t∧t≤2199023255552):AT C 186 (s.enc++[tI t]++x.enc) (G0 (G5 s t x)):=by
 refine AT.of (fun n=>e186 n _ _ _ _ _ _ _ _ _ _ _ _ _ _ _ _ _ _ _ _ _ _ _ _) ?_;obtain ⟨k1,k2⟩:=g.cl hk;have hcl:=g.few;obtain ⟨u1,u2⟩:=WL h.ack k1 (by omega);have t67:=s183 s.acked x.AY;rw [N1,u1,u2] at t67;have hrng:=h.rng;have hnum:=h.num;by_cases q1:x.ser=s.ser
 ·by_cases q2:x.tot=s.data.size
  ·have hA:=U3 h hs g hk q2;by_cases q3:complete (BT s x)=true
   ·refine (t67.and (s185 (BT s x) (by have:=hA.few;omega))).mono fun n y => ?_;obtain ⟨y1,y2⟩:=y;simp only [Snd.enc,BT] at y2;have r:G5 s t x=({BT s x with due:=0,st:=2},[]):=by unfold G5;rw [if_neg (by omega),if_pos q3]
    rw [r];unfold BT at q3;simp only [y1,y2,AJ,Ck,vv,vf,reduceCtorEq,reduceAdd,reduceEqDiff,q1,q2,q3,bne_self_eq_false,Nc,G0,BT,Snd.enc,map_nil,cons_append,nil_append]
   ·have q3':complete (BT s x)=false:=by simpa using q3
    have hbl:=hA.Om q3';refine (t67.and ((s185 (BT s x) (by have:=hA.few;omega)).and ((s94 (BT s x) (by have:=hA.num;omega)).and (MA (BT s x) t (Aw (BT s x)) (by omega) (by omega) (by simp only [BT];omega))))).mono fun n y => ?_;obtain ⟨y1,y2,y3,y4⟩:=y;have r:G5 s t x=CF (BT s x) t (Aw (BT s x)):=by unfold G5;rw [if_neg (by omega),if_neg q3]
    rw [r];rw [q3'] at y2;generalize CF (BT s x) t (Aw (BT s x))=p at y4;obtain ⟨p,o⟩:=p;generalize Aw (BT s x)=bb at y3 y4;simp only [Snd.enc,BT,G0,cons_append,nil_append] at y2 y3 y4;simp only [y1,y2,y3,y4,AJ,Ck,vv,vf,reduceCtorEq,reduceAdd,reduceEqDiff,q1,q2,bne_self_eq_false,Nc,G0,Snd.enc,cons_append,nil_append]
  ·refine t67.mono fun n y1 => ?_;have r:G5 s t x=(s,[]):=by unfold G5;rw [if_pos (by omega)]
   rw [r];simp only [y1,AJ,Ck,vv,vf,reduceCtorEq,reduceAdd,reduceEqDiff,q1,q2,bne_self_eq_false,bne_iff_ne,ne_eq,not_false_eq_true,Nc,G0,Snd.enc,map_nil,cons_append,nil_append]
 ·refine t67.mono fun n y1 => ?_;have r:G5 s t x=(s,[]):=by unfold G5;rw [if_pos (by omega)]
  rw [r];simp only [y1,AJ,Ck,vv,vf,reduceCtorEq,reduceAdd,reduceEqDiff,q1,bne_iff_ne,ne_eq,not_false_eq_true,Nc,G0,Snd.enc,map_nil,cons_append,nil_append]
theorem s187 (s:Snd) (t:Int) (x:Seg):AT C 187 (s.enc++[tI t]++x.enc) (G0 (DG s,[])):=by refine AT.of (fun n=>e187 n _ _ _ _ _ _ _ _ _ _ _ _ _ _ _ _ _ _ _ _ _ _ _ _) ?_;refine (s116 s).mono fun n y => ?_;simp only [Snd.enc] at y;simp only [y,AJ,Ck,vv,vf,reduceCtorEq,reduceAdd,reduceEqDiff,G0,DG,Snd.enc,map_nil,cons_append,nil_append]
theorem Xs {s:Snd} (h:GP s=0) (hs:s.acked.length≤100):FOk s:=⟨(Kg h).1,by omega⟩
theorem gok_of {x:Seg} (h:Cq x=0) (hx:x.AY.length≤100∨1000<x.AY.length):GOk x:=by
 refine ⟨h,?_⟩;obtain ⟨k1,k2,k3⟩:=ET h;have hkk:x.kind=1∨x.kind=2∨x.kind=3:=by omega
 rcases hkk with hk|hk|hk
 ·rw [(k3.2.2 hk).2.2];simp
 ·have:=(k3.2.1 hk).2.2;unfold inside at this;have:=Bm (of_decide_eq_true this).1;omega
 ·rw [(k3.1 hk).2.2];simp
theorem s148 (s:Snd) (t:Int) (x:Seg) (hs:s.acked.length≤100) (hx:x.AY.length≤100∨1000<x.AY.length):AT C 148 (s.enc++[tI t]++x.enc) (DT (BK s t x)):=by
 refine AT.of (fun n=>e148 n _ _ _ _ _ _ _ _ _ _ _ _ _ _ _ _ _ _ _ _ _ _ _ _) ?_;by_cases h1:GP s=0
 ·by_cases h2:Cq x=0
  ·have hF:=Xs h1 hs;have hG:=gok_of h2 hx;have hk:=(ET h2).1;have hb:Ev fun n=>AA C n 164 s.enc=some [tI 0]∧AA C n 152 x.enc=some [tI 0]∧AA C n 92 [tI t,tI s.busy,tI 2199023255552]=some [.bool (wi t s.busy 2199023255552)]:=by have a:=SR s;have b:=Wy x;rw [h1] at a;rw [h2] at b;exact a.and (b.and (s92 t s.busy 2199023255552))
   by_cases h3:s.busy≤t∧t≤2199023255552
   ·by_cases h4:s.st=1
    ·by_cases h5:x.ses=s.ses
     ·by_cases k1:x.kind=1
      ·refine hb.mono fun n g => ?_;obtain ⟨g1,g2,g3⟩:=g;simp only [Snd.enc,Seg.enc,wi] at g1 g2 g3;rw [k1] at g2;have r:BK s t x=(s,[],0):=by unfold BK;rw [if_neg (by omega),if_neg (by omega),if_pos (.inr (.inr k1))]
       rw [r];simp only [k1,g1,g2,g3,AJ,Ck,vv,vf,reduceCtorEq,reduceAdd,reduceEqDiff,GY,bne_self_eq_false,h3,Int.reduceEq,DT,Snd.enc,map_nil,cons_append,nil_append]
      ·by_cases k3:x.kind=3
       ·refine (hb.and (s187 s t x)).mono fun n g => ?_;obtain ⟨⟨g1,g2,g3⟩,g4⟩:=g;simp only [Snd.enc,Seg.enc,wi,G0,DG,map_nil,cons_append,nil_append] at g1 g2 g3 g4;rw [k3] at g2 g4;have r:BK s t x=(DG s,[],0):=by unfold BK;rw [if_neg (by omega),if_neg (by omega),if_neg (by omega),if_pos k3]
        rw [r];simp only [k3,h4,h5] at g1 g2 g3 g4 ⊢;simp only [k3,g1,g2,g3,g4,AJ,Ck,vv,vf,reduceCtorEq,reduceAdd,reduceEqDiff,GY,QN,bne_self_eq_false,h3,h4,h5,Int.reduceEq,DT,DG,Snd.enc,map_nil,cons_append,nil_append]
       ·have k2:x.kind=2:=by omega
        refine (hb.and (s186 s t x hF hs hG k2 h3)).mono fun n g => ?_;obtain ⟨⟨g1,g2,g3⟩,g4⟩:=g;have r:BK s t x=((G5 s t x).1,(G5 s t x).2,0):=by unfold BK;rw [if_neg (by omega),if_neg (by omega),if_neg (by omega),if_neg k3]
        rw [r];generalize G5 s t x=p at g4;obtain ⟨p,o⟩:=p;simp only [Snd.enc,Seg.enc,wi,G0,cons_append,nil_append] at g1 g2 g3 g4;simp only [k2,h4,h5] at g1 g2 g3 g4 ⊢;simp only [k2,g1,g2,g3,g4,AJ,Ck,vv,vf,reduceCtorEq,reduceAdd,reduceEqDiff,GY,QO,bne_self_eq_false,h3,h4,h5,Int.reduceEq,DT,Snd.enc,cons_append,nil_append]
     ·refine hb.mono fun n g => ?_;obtain ⟨g1,g2,g3⟩:=g;simp only [Snd.enc,Seg.enc,wi,h4] at g1 g2 g3;have r:BK s t x=(s,[],0):=by unfold BK;rw [if_neg (by omega),if_neg (by omega),if_pos (.inr (.inl h5))]
      rw [r];have hkk:x.kind=1∨x.kind=2∨x.kind=3:=by omega
      rcases hkk with k|k|k<;>rw [k] at g2<;>simp only [k,g1,g2,g3,AJ,Ck,vv,vf,reduceCtorEq,reduceAdd,reduceEqDiff,GY,QN,QO,bne_self_eq_false,h3,h4,h5,bne_iff_ne,ne_eq,not_false_eq_true,not_true_eq_false,Int.reduceEq,DT,Snd.enc,map_nil,cons_append,nil_append]
    ·refine hb.mono fun n g => ?_;obtain ⟨g1,g2,g3⟩:=g;simp only [Snd.enc,Seg.enc,wi] at g1 g2 g3;have r:BK s t x=(s,[],0):=by unfold BK;rw [if_neg (by omega),if_neg (by omega),if_pos (.inl h4)]
     rw [r];have hkk:x.kind=1∨x.kind=2∨x.kind=3:=by omega
     rcases hkk with k|k|k<;>rw [k] at g2<;>simp only [k,g1,g2,g3,AJ,Ck,vv,vf,reduceCtorEq,reduceAdd,reduceEqDiff,GY,QN,QO,bne_self_eq_false,h3,h4,bne_iff_ne,ne_eq,not_false_eq_true,not_true_eq_false,Int.reduceEq,DT,Snd.enc,map_nil,cons_append,nil_append]
   ·refine hb.mono fun n g => ?_;obtain ⟨g1,g2,g3⟩:=g;simp only [Snd.enc,Seg.enc,wi] at g1 g2 g3;have r:BK s t x=C3 2:=by unfold BK;rw [if_neg (by omega),if_pos h3]
    rw [r];simp only [g1,g2,g3,AJ,Ck,vv,vf,reduceCtorEq,reduceAdd,reduceEqDiff,GY,bne_self_eq_false,h3,DT,C3,FK,Snd.enc,map_nil,cons_append,nil_append]
  ·have r:BK s t x=C3 1:=by unfold BK;rw [if_pos (.inr h2)]
   refine ((SR s).and (Wy x)).mono fun n g => ?_;obtain ⟨g1,g2⟩:=g;rw [h1] at g1;simp only [Snd.enc,Seg.enc] at g1 g2;rw [r];simp only [g1,g2,AJ,Ck,vv,vf,reduceCtorEq,reduceAdd,reduceEqDiff,GY,bne_self_eq_false,bne_iff_ne,ne_eq,not_false_eq_true,not_true_eq_false,h2,DT,C3,FK,Snd.enc,map_nil,cons_append,nil_append]
 ·have r:BK s t x=C3 1:=by unfold BK;rw [if_pos (.inl h1)]
  refine (SR s).mono fun n g1 => ?_;simp only [Snd.enc] at g1;rw [r];simp only [g1,AJ,Ck,vv,vf,reduceCtorEq,reduceAdd,reduceEqDiff,GY,bne_iff_ne,ne_eq,not_false_eq_true,h1,DT,C3,FK,Snd.enc,map_nil,cons_append,nil_append]
end Ab
set_option linter.unusedVariables false
set_option linter.unusedSimpArgs false
namespace Ab
open Go
theorem Nu (l:List Seg):List.map Seg.enc (CC l)=drop (l.length-1) (List.map Seg.enc l):=by unfold CC;rw [map_drop]
theorem OV {s:Snd} (h:GP s=0) (h4:s.st=1):complete s=false∧s.due=s.busy+2*s.c.rng+1:=by
 have:=(Kg h).2;unfold fits at this;have:=of_decide_eq_true this;have e:Xy s=s.busy+2*s.c.rng+1:=rfl;rcases this with k|k|k
 ·exact ⟨k.2.1,by rw [k.2.2,e]⟩
 ·omega
 ·omega
theorem s149 (s:Snd) (t:Int) (hs:s.acked.length≤100):AT C 149 (s.enc++[tI t]) (DT (Ca s t)):=by
 refine AT.of (fun n=>e149 n _ _ _ _ _ _ _ _ _ _ _ _ _ _ _ _) ?_;by_cases h1:GP s=0
 ·have hF:=Xs h1 hs;have hnum:=hF.num;have hrng:=hF.rng;by_cases h4:s.st=1
  ·obtain ⟨hc,hd⟩:=OV h1 h4;by_cases h3:s.due≤t∧t≤2199023255552
   ·have hl:=hF.Om hc;refine ((SR s).and ((s92 t s.due 2199023255552).and ((s94 s (by omega)).and (MA s t (CC (Aw s)) (by have:=Sp (Aw s);omega) (by omega) (by omega))))).mono fun n g => ?_;obtain ⟨g1,g2,g3,g4⟩:=g;have r:Ca s t=((CF s t (CC (Aw s))).1,(CF s t (CC (Aw s))).2,0):=by unfold Ca;rw [if_neg (by omega),if_neg (by omega),if_neg (by omega)]
    rw [r];rw [Nu] at g4;generalize CF s t (CC (Aw s))=p at g4;obtain ⟨p,o⟩:=p;rw [h1] at g1;generalize Aw s=bb at g3 g4 hl;simp only [Snd.enc,wi,G0,cons_append,nil_append] at g1 g2 g3 g4;simp only [h4] at g1 g3 g4 ⊢;have e1:(if w64 ((bb.length:Int)-1)>0 then w64 ((bb.length:Int)-1) else 0)=((bb.length-1:Nat):Int):=by rw [Aa (by omega) (by omega)];split<;>omega
    have e2:take bb.length (List.map Seg.enc bb)=List.map Seg.enc bb:=take_of_length_le (by simp);simp only [gt_iff_lt] at e1;simp only [g1,g2,g3,AJ,Ck,vv,vf,reduceCtorEq,reduceAdd,reduceEqDiff,bne_self_eq_false,h3,e1,e2,g4,(show ((bb.length-1:Nat):Int)≤(bb.length:Int) by omega),DT,Snd.enc,cons_append,nil_append]
   ·refine ((SR s).and (s92 t s.due 2199023255552)).mono fun n g => ?_;obtain ⟨g1,g2⟩:=g;have r:Ca s t=C3 2:=by unfold Ca;rw [if_neg (by omega),if_neg (by omega),if_pos h3]
    rw [r];rw [h1] at g1;simp only [Snd.enc,wi] at g1 g2;simp only [h4] at g1 ⊢;simp only [g1,g2,AJ,Ck,vv,vf,reduceCtorEq,reduceAdd,reduceEqDiff,bne_self_eq_false,h3,DT,C3,FK,Snd.enc,map_nil,cons_append,nil_append]
  ·refine (SR s).mono fun n g1 => ?_;have r:Ca s t=C3 19:=by unfold Ca;rw [if_neg (by omega),if_pos h4]
   rw [r];rw [h1] at g1;simp only [Snd.enc] at g1;simp only [g1,AJ,Ck,vv,vf,reduceCtorEq,reduceAdd,reduceEqDiff,bne_self_eq_false,bne_iff_ne,ne_eq,not_false_eq_true,not_true_eq_false,h4,DT,C3,FK,Snd.enc,map_nil,cons_append,nil_append]
 ·have r:Ca s t=C3 1:=by unfold Ca;rw [if_pos h1]
  refine (SR s).mono fun n g1 => ?_;simp only [Snd.enc] at g1;rw [r];simp only [g1,AJ,Ck,vv,vf,reduceCtorEq,reduceAdd,reduceEqDiff,bne_iff_ne,ne_eq,not_false_eq_true,h1,DT,C3,FK,Snd.enc,map_nil,cons_append,nil_append]
end Ab
set_option linter.unusedVariables false
set_option linter.unusedSimpArgs false
namespace Ab
open Go
def tb (b:UInt8):List Tree:=[.int .u8 (b.toNat:Int)]
def bl (s:ByteArray):List UInt8:=s.data.toList
def mkB (l:List UInt8):ByteArray:=⟨l.toArray⟩
theorem Xc (s:ByteArray):mkB (bl s)=s:=by obtain ⟨a⟩:=s;simp [mkB,bl]
theorem LN (l:List UInt8):bl (mkB l)=l:=by simp [mkB,bl]
theorem CD (s:ByteArray):(bl s).length=s.size:=by obtain ⟨a⟩:=s;simp [bl,ByteArray.size]
theorem Hy (l:List UInt8):(mkB l).size=l.length:=by rw [← CD,LN]
theorem M7 {a b:ByteArray} (h:bl a=bl b):a=b:=by rw [← Xc a,← Xc b,h]
theorem N5 (s:ByteArray):DC s=(bl s).map tb:=rfl
theorem V5 (s:ByteArray) (i:Nat):FT s i=(((bl s).getD i 0).toNat:Int):=by
 obtain ⟨⟨l⟩⟩:=s;unfold FT bl;by_cases h:i<l.length
 ·have h1:(ByteArray.mk ⟨l⟩)[i]? = some l[i]:=getElem?_pos (ByteArray.mk ⟨l⟩) i h;rw [h1];simp [List.getD,h]
 ·have h1:(ByteArray.mk ⟨l⟩)[i]? = none:=getElem?_neg (ByteArray.mk ⟨l⟩) i h;rw [h1];simp [List.getD,h]
theorem Si (l:List UInt8):Lh (l.map tb)=true:=by unfold Lh;rw [List.all_map,all_eq_true];exact fun x _=>rfl
theorem YC (b:UInt8):Rp (tb b)=b:=by simp [Rp,tb]
theorem VV (l:List UInt8) (s:ByteArray):bl (l.foldl ByteArray.push s)=bl s++l:=by
 induction l generalizing s with
 |nil=>simp
 |cons b l ih=>rw [foldl_cons,ih];simp [bl,ByteArray.push]
theorem TI (l:List UInt8):bytesOf (l.map tb)=mkB l:=by unfold bytesOf;rw [map_map,show Rp ∘ tb=id from funext YC,List.map_id];apply M7;rw [VV,LN];rfl
def L7 (l:List UInt8) (p:Nat) (m:List UInt8):List UInt8:=l.take p++m++l.drop (p+m.length)
theorem KL (l:List UInt8) (p:Nat) (m:List UInt8):BH (l.map tb) p (m.map tb)=(L7 l p m).map tb:=by simp [BH,L7,map_take,map_drop]
theorem rep_tb (k:Nat):replicate k ([Tree.int IntKind.u8 0]:List Tree)=(replicate k (0:UInt8)).map tb:=by rw [List.map_replicate];rfl
theorem EU (s:ByteArray) (i j:Nat):bl (s.extract i j)=((bl s).drop i).take (j-i):=by unfold bl;rw [ByteArray.data_extract];simp [List.extract_eq_take_drop]
theorem Gu (l:List UInt8) (p:Nat) (m:List UInt8) (h:p+m.length≤l.length):(L7 l p m).length=l.length:=by simp only [L7,length_append,length_take,length_drop];omega
theorem Qf (l:List UInt8) (p:Nat) (m:List UInt8) (h:p+m.length≤l.length) (i:Nat) :
  (L7 l p m).getD i 0=if p≤i∧i<p+m.length then m.getD (i-p) 0 else l.getD i 0:=by
 simp only [L7,getD_eq_getElem?_getD,List.getElem?_append,length_take,length_append,getElem?_take,getElem?_drop];have e:min p l.length=p:=by omega
 simp only [e];by_cases h1:i<p
 ·rw [if_pos (by omega),if_pos h1,if_pos h1,if_neg (by omega)]
 ·rw [if_neg (c:=i<p) h1];by_cases h2:i<p+m.length
  ·rw [if_pos h2,if_pos ⟨by omega,h2⟩]
  ·rw [if_neg h2,if_neg (by omega),show p+m.length+(i-(p+m.length))=i by omega]
end Ab
set_option linter.unusedVariables false
set_option linter.unusedSimpArgs false
namespace Ab
open Go
structure Rcv where
 ses:Int
 tot:Int
 known:List Span
 data:ByteArray
 deriving DecidableEq
def Rcv.enc (r:Rcv):List Tree:=[tI r.ses,tI r.tot,.sl 2 (r.known.map Span.enc),.str r.data]
theorem Oi (l:List UInt8) (i:Nat):FT (mkB l) i=((l.getD i 0).toNat:Int):=by rw [V5,LN]
theorem extract_mk (l:List UInt8) (i j:Nat):(mkB l).extract i j=mkB ((l.drop i).take (j-i)):=M7 (by rw [EU,LN,LN])
theorem ID (l:List UInt8):(mkB l==ByteArray.mk #[])=decide (l=[]):=by rw [CP,Hy];cases l<;>simp
theorem s205 (l:List UInt8) (hl:l.length≤1000000):AT C 205 [.str (mkB l),.int .u8 0] [.str (mkB (l.dropWhile (· == 0)))]:=by
 refine AT.of (fun n=>e205 n _ _) ?_;refine K5 (fun (r:List UInt8)=>[Tree.str (mkB r)]) (fun (s:List UInt8)=>(([.t (.str (mkB s))],[]):List AV×Heap)) (fun s=>match s with
  |[]=>.done []
  |b::s=>if b=0 then .next s else .done (b::s)) (fun s=>s.length≤1000000) (fun s=>s.length) (fun s=>s.dropWhile (· == 0)) l rfl hl rfl
  (fun s hs=>Ev.of fun n again => ?_) (fun s s' hI h => ?_) (fun s hI => ?_)
 ·cases s with
  |nil=>simp [TQ,vv,Hy,AE,Rd.BA]
  |cons b s=>
   simp only [TQ,vv,vf,reduceCtorEq,reduceAdd,reduceEqDiff,Hy,Oi,extract_mk];simp only [length_cons,List.getD_cons_zero,drop_succ_cons,drop_zero,Nat.add_sub_cancel,List.take_length,AE];by_cases hb:b=0
   ·subst hb;simp [Rd.Av];intro h;omega
   ·have hbn:¬(b.toNat=0):=fun h=>hb (UInt8.toNat_inj.1 (by simpa using h));simp [hb,hbn,Rd.BA]
 ·cases s with
  |nil=>simp at h
  |cons b s=>
   simp only at h;split at h
   ·simp only [Rd.next.injEq] at h;subst h;simp at hI ⊢;omega
   ·simp at h
 ·cases s with
  |nil=>rfl
  |cons b s=>by_cases hb:b=0<;>simp [hb,Rd.fin,dropWhile_cons]
def FX (l:List UInt8):List UInt8:=(l.reverse.dropWhile (· == 0)).reverse
theorem Lv (l:List UInt8) (b:UInt8):FX (l++[b])=if b=0 then FX l else l++[b]:=by unfold FX;rw [List.reverse_append];simp only [List.reverse_cons,List.reverse_nil,nil_append,singleton_append,dropWhile_cons];by_cases hb:b=0<;>simp [hb]
theorem Ia (l:List UInt8):l=[]∨∃s b,l=s++[b]:=by
 by_cases h:l=[]
 ·exact .inl h
 ·exact .inr ⟨_,_,(List.dropLast_concat_getLast h).symm⟩
theorem s206 (l:List UInt8) (hl:l.length≤1000000):AT C 206 [.str (mkB l),.int .u8 0] [.str (mkB (FX l))]:=by
 refine AT.of (fun n=>e206 n _ _) ?_;refine K5 (fun (r:List UInt8)=>[Tree.str (mkB r)]) (fun (s:List UInt8)=>(([.t (.str (mkB s))],[]):List AV×Heap)) (fun s=>if s.getLast? = some 0 then .next s.dropLast else .done s)
  (fun s=>s.length≤1000000) (fun s=>s.length) FX l rfl hl rfl
  (fun s hs=>Ev.of fun n again => ?_) (fun s s' hI h => ?_) (fun s hI => ?_)
 ·rcases Ia s with rfl|⟨s,b,rfl⟩
  ·simp [TP,Ta,vv,Hy,AE,Rd.BA]
  ·have hs':s.length+1≤1000000:=by simpa using hs
   have e:w64 (((s.length+1:Nat):Int)-1)=(s.length:Int):=by rw [Lq (by omega) (by omega)];simp
   simp only [TP,Ta,vv,vf,reduceCtorEq,reduceAdd,reduceEqDiff,Hy,Oi,extract_mk,length_append,length_cons,length_nil,e];simp only [AE,getLast?_concat,Option.some.injEq,List.dropLast_concat,drop_zero,toNat_natCast,Nat.sub_zero,List.take_left];have e2:(s++[b]).getD s.length 0=b:=by simp [List.getD]
   rw [e2];by_cases hb:b=0
   ·subst hb;simp [Rd.Av]
    first|omega|(rw [if_pos (by omega),if_pos (by omega)])
   ·have hbn:¬(b.toNat=0):=fun h=>hb (UInt8.toNat_inj.1 (by simpa using h));simp [hb,hbn,Rd.BA]
    try omega
 ·split at h
  ·rename_i hg;simp only [Rd.next.injEq] at h;subst h;have:s≠[]:=fun e=>by simp [e] at hg
   have h2:s.length≠0:=fun e=>this (eq_nil_of_length_eq_zero e);simp only [List.length_dropLast];omega
  ·simp at h
 ·rcases Ia s with rfl|⟨s,b,rfl⟩
  ·simp [Rd.fin,FX]
  ·rw [Lv];by_cases hb:b=0<;>simp [hb,Rd.fin]
def HR (l:List UInt8):Bool:=l.all (· == 0)
theorem OZ:∀(l:List UInt8),l.dropWhile (· == 0)=[]↔HR l=true
 |[]=>by simp [HR]
 |b::l=>by
  have:=OZ l;by_cases hb:b=0
  ·simp only [hb,dropWhile_cons,beq_self_eq_true,if_true,this,HR,all_cons,Bool.true_and]
  ·simp [hb,dropWhile_cons,HR]
theorem SG (l:List UInt8):(FX l).dropWhile (· == 0)=[]↔HR l=true:=by
 rw [OZ];have h:∀k:Nat,∀l:List UInt8,l.length≤k→(HR (FX l)=true↔HR l=true):=by
  intro k
  induction k with
  |zero=>intro l hl;have:l=[]:=eq_nil_of_length_eq_zero (by omega);subst this;simp [FX]
  |succ k ih=>
   intro l hl;rcases Ia l with rfl|⟨l,b,rfl⟩
   ·simp [FX]
   ·rw [Lv];by_cases hb:b=0
    ·rw [if_pos hb,ih l (by simp at hl;omega)];simp [HR,hb]
    ·rw [if_neg hb]
 exact h _ l (le_refl _)
theorem RZ (p:UInt8→Bool):∀l:List UInt8,(l.dropWhile p).length≤l.length
 |[]=>le_refl _
 |b::l=>by rw [dropWhile_cons];have:=RZ p l;split<;>simp only [length_cons]<;>omega
theorem J48t (n:Nat) (s:ByteArray):Nd n s ([.t (.bool true)],[])=some [.str s]:=by unfold Nd;exact Cf rfl _ _
theorem J48f (n:Nat) (s t u:ByteArray) (h1:AA C n 206 [.str s,.int .u8 0]=some [.str t]) (h2:AA C n 205 [.str t,.int .u8 0]=some [.str u]):Nd n s ([.t (.bool false)],[])=some [.str u]:=by
 have e1:FT (ByteArray.mk #[0]) 0=0:=by decide
 unfold Nd;rw [Ll (show ¬(vB ([AV.t (Tree.bool false)],[]) 0=true) from Bool.false_ne_true),e1,h1];simp only [vv,vf,reduceCtorEq,reduceAdd,reduceEqDiff,h2]
theorem s178 (l:List UInt8) (hl:l.length≤1000000):∃t:List UInt8,(t=[]↔HR l=true)∧AT C 178 [.str (mkB l),.str (ByteArray.mk #[0])] [.str (mkB t)]:=by
 by_cases h:l=[]
 ·subst h;refine ⟨[],by simp [HR],AT.of (fun n=>e178 n _) (Ev.of fun n => ?_)⟩;have h1:∀X Y:Option (List Tree),cnd ((mkB []==ByteArray.mk #[])=true) X Y=X:=fun X Y=>Cf (by rw [ID];exact decide_eq_true rfl) X Y;rw [join_eq,h1];exact J48t n (mkB [])
 ·refine ⟨(FX l).dropWhile (· == 0),SG l,AT.of (fun n=>e178 n _) ?_⟩;have hlen:(FX l).length≤l.length:=by unfold FX;rw [List.length_reverse];refine le_trans (RZ _ _) (by rw [List.length_reverse];exact le_refl _)
  refine ((s206 l hl).and (s205 (FX l) (by omega))).mono fun n hh => ?_;have h1:∀X Y:Option (List Tree),cnd ((mkB l==ByteArray.mk #[])=true) X Y=Y:=fun X Y=>Ll (by rw [ID,decide_eq_false h];exact Bool.false_ne_true) X Y;have h2:(ByteArray.mk #[0]==ByteArray.mk #[])=false:=by decide
  rw [join_eq,h1,h2];exact J48f n _ _ _ hh.1 hh.2
end Ab
set_option linter.unusedVariables false
set_option linter.unusedSimpArgs false
namespace Ab
open Go
def TM (r:Rcv):Prop:=(0≤r.ses∧r.ses≤1099511627776)∧(r.tot = -1∨1≤r.tot∧r.tot≤65536)
def KnR (r:Rcv):Prop:=BM r.known=0∧(r.known=[]↔r.tot = -1)∧(r.known=[]∨0≤D4 r.known∧EM r.known≤r.tot)
def R3 (r:Rcv):Prop:=∀i,i<r.data.size→(bl r.data).getD i 0≠0→AX i r.known
instance (r:Rcv):Decidable (TM r):=by unfold TM;exact inferInstance
instance (r:Rcv):Decidable (KnR r):=by unfold KnR;exact inferInstance
instance (r:Rcv):Decidable (R3 r):=by unfold R3;exact inferInstance
def JI (t:Int):Int:=if 0>t then 0 else t
def ES (r:Rcv):Int:=if ¬TM r then 2 else if ¬KnR r then 1 else if (r.data.size:Int)≠JI r.tot then 10 else if R3 r then 0 else 24
theorem RG (t:Int):∀(l:List Span),AX t l↔l.any (fun x=>decide (x.fro≤t∧t<x.to))=true
 |[]=>by simp [AX]
 |x::l=>by simp only [AX,RG t l,List.any_cons,or_eq_true,decide_eq_true_eq]
end Ab
set_option linter.unusedVariables false
set_option linter.unusedSimpArgs false
namespace Ab
open Go
def GK (D:List UInt8) (_:Nat) (a:Int) (x:Span):Rd Int Int:=if HR ((D.drop a.toNat).take (x.fro.toNat-a.toNat))=true then .next x.to else .done 24
def Mr (D:List UInt8) (a:Int):Int:=if HR (D.drop a.toNat)=true then 0 else 24
theorem YJ (l:List UInt8):HR l=true↔∀k,k<l.length→l.getD k 0=0:=by
 unfold HR;rw [all_eq_true];constructor
 ·intro h k hk;have:l.getD k 0=l[k]:=by simp [List.getD,hk]
  rw [this];simpa using h _ (getElem_mem hk)
 ·intro h x hx;obtain ⟨k,hk,rfl⟩:=getElem_of_mem hx;have:=h k hk;have e:l.getD k 0=l[k]:=by simp [List.getD,hk]
  rw [e] at this;simp [this]
theorem Ov (D:List UInt8) (a b:Nat) (hb:b≤D.length):HR ((D.drop a).take (b-a))=true↔∀k,a≤k→k<b→D.getD k 0=0:=by
 rw [YJ];have hg:∀k,k<b-a→((D.drop a).take (b-a)).getD k 0=D.getD (a+k) 0:=fun k hk=>by simp [getD_eq_getElem?_getD,getElem?_take,hk,getElem?_drop]
 constructor
 ·intro h k h1 h2;have:=h (k-a) (by simp;omega);rw [hg _ (by omega),show a+(k-a)=k by omega] at this;exact this
 ·intro h k hk;simp at hk;rw [hg k (by omega)];exact h _ (by omega) (by omega)
theorem Uo (D:List UInt8):∀(l:List Span) (i:Nat) (a:Int),Canon (a-1) l→B7 l D.length→0≤a→a≤D.length→
  (C0 (GK D) (Mr D) i l a=0∧(∀k:Nat,a≤k→k<D.length→D.getD k 0≠0→AX k l))∨(C0 (GK D) (Mr D) i l a=24∧∃k:Nat,a≤k∧k<D.length∧D.getD k 0≠0∧¬AX k l)
 |[],i,a,hc,hw,h0,h1=>by
  simp only [C0,Mr];have key:=Ov D a.toNat D.length (le_refl _);rw [take_of_length_le (by simp)] at key;by_cases h:HR (D.drop a.toNat)=true
  ·rw [if_pos h];exact .inl ⟨rfl,fun k h2 h3 h4=>(h4 (key.1 h k (by omega) h3)).elim⟩
  ·rw [if_neg h];refine .inr ⟨rfl,?_⟩;have h5:¬∀k,a.toNat≤k→k<D.length→D.getD k 0=0:=fun hh=>h (key.2 hh);simp only [not_forall] at h5;obtain ⟨k,h6,h7,h8⟩:=h5;exact ⟨k,by omega,h7,h8,fun h=>h⟩
 |x::l,i,a,hc,hw,h0,h1=>by
  obtain ⟨c1,c2,c3⟩:=hc;have hx:=hw x (List.mem_cons_self);have key:=Ov D a.toNat x.fro.toNat (by omega);simp only [C0];by_cases h:HR ((D.drop a.toNat).take (x.fro.toNat-a.toNat))=true
  ·simp only [GK,h,if_true];have ih:=Uo D l (i+1) x.to (Ds c3 (by omega)) (fun y hy=>hw y (mem_cons_of_mem _ hy)) (by omega) (by omega);have hz:=key.1 h;rcases ih with ⟨e,ih⟩|⟨e,k,k1,k2,k3,k4⟩
   ·refine .inl ⟨e,fun k k1 k2 k3 => ?_⟩;by_cases hk:(k:Int)<x.fro
    ·exact (k3 (hz k (by omega) (by omega))).elim
    ·by_cases hk2:(k:Int)<x.to
     ·exact .inl ⟨by omega,hk2⟩
     ·exact .inr (ih k (by omega) k2 k3)
   ·refine .inr ⟨e,k,by omega,k2,k3,fun hm => ?_⟩;rcases hm with hm|hm
    ·omega
    ·exact k4 hm
  ·simp only [GK,h,if_false,false_eq_true];refine .inr ⟨trivial,?_⟩;have h5:¬∀k,a.toNat≤k→k<x.fro.toNat→D.getD k 0=0:=fun hh=>h (key.2 hh);simp only [not_forall] at h5;obtain ⟨k,h6,h7,h8⟩:=h5;refine ⟨k,by omega,by omega,h8,fun hm => ?_⟩;rcases hm with hm|hm
   ·omega
   ·have:=B5 c3 hm;omega
theorem s159 (r:Rcv):AT C 159 r.enc [tI (ES r)]:=by
 refine AT.of (fun n=>e159 n _ _ _ _) ?_;unfold ES;by_cases hr:TM r
 ·have hr':=hr;obtain ⟨⟨h1,h2⟩,h3⟩:=hr;have hj:∀(J:List AV×Heap→Option (List Tree)),(cnd (decide (r.ses<0)=true) (J ([AV.t (Tree.bool true)],[])) (cnd (decide (r.ses>1099511627776)=true) (J ([AV.t (Tree.bool true)],[])) (cnd ((r.tot != -1)=true) (cnd (decide (r.tot<1)=true) (J ([AV.t (Tree.bool true)],[])) (J ([AV.t (Tree.bool (decide (r.tot>65536)))],[]))) (J ([AV.t (Tree.bool false)],[])))))=J ([AV.t (Tree.bool false)],[]):=fun J=>by
   simp only [AE,decide_eq_true_eq,bne_iff_ne];rw [if_neg (by omega),if_neg (by omega)];split
   ·rw [if_neg (by omega),decide_eq_false (by omega)]
   ·rfl
  simp only [join_eq];refine Ev.conv' (fun n h=>(hj _).trans h) ?_;simp only [Tc,vv,vf,reduceCtorEq,reduceAdd,reduceEqDiff];refine Ev.rw (s67 r.known) (fun n h=>by simp only [h,vv,vf,reduceCtorEq,reduceAdd,reduceEqDiff];rfl) ?_;rw [if_neg (not_not_intro hr')];have el:(r.known.length:Int)=0↔r.known=[]:=by rw [← length_eq_zero_iff];omega
  have eb:((r.known.length:Int)==0)=decide (r.known=[]):=by rw [Bool.eq_iff_iff,beq_iff_eq,decide_eq_true_eq,el]
  have eb2:(r.tot == -1)=decide (r.tot = -1):=by rw [Bool.eq_iff_iff,beq_iff_eq,decide_eq_true_eq]
  simp only [eb,eb2];by_cases hc:BM r.known=0
  ·simp only [hc,bne_self_eq_false,vv,vf,reduceCtorEq,reduceAdd,reduceEqDiff,Td];by_cases he:(r.known=[]↔r.tot = -1)
   ·have e1:(! (decide (r.known=[])==decide (r.tot = -1)))=false:=by
     by_cases hx:r.known=[]
     ·simp [hx,he.1 hx]
     ·have hy:¬r.tot = -1:=fun h=>hx (he.2 h);simp [hx,hy]
    simp only [e1,vv,vf,reduceCtorEq,reduceAdd,reduceEqDiff];have hkn:KnR r↔(r.known=[]∨0≤D4 r.known∧EM r.known≤r.tot):=⟨fun h=>h.2.2,fun h=>⟨hc,he,h⟩⟩
    have hstep:∀(J:List AV×Heap→Option (List Tree)),(cnd (0<(r.known.length:Int)) (Option.bind (Option.map Span.enc r.known[0]?) fun y11=>cnd (okI y11 0) (cnd (gI y11 0<0) (J ([AV.t (Tree.bool true)],[])) (cnd (0≤w64 ((r.known.length:Int)-1)) (Option.bind (Option.map Span.enc r.known[(w64 ((r.known.length:Int)-1)).toNat]?) fun y12=>cnd (okI y12 1) (J ([AV.t (Tree.bool (decide (r.tot<gI y12 1)))],[])) none) none)) none) (J ([AV.t (Tree.bool false)],[])))=J ([AV.t (Tree.bool (decide (¬KnR r)))],[]):=fun J=>by
     by_cases hl:r.known=[]
     ·have:KnR r:=hkn.2 (.inl hl);simp [hl,AE,this]
     ·obtain ⟨e1,e2⟩:=Lk hl;obtain ⟨e3,e4⟩:=Lj hl;have hk:=Bm hc;have hlen:r.known.length≠0:=fun e=>hl (eq_nil_of_length_eq_zero e);simp only [(show (0:Int)<r.known.length by omega),vv,vf,reduceCtorEq,reduceAdd,reduceEqDiff,e1,Lq (show r.known.length<4611686018427387904 by omega) (by omega),e3,Span.enc];rw [← e2,← e4];by_cases h3:D4 r.known<0
      ·have:¬KnR r:=fun h=>by rcases hkn.1 h with h|h;exact hl h;omega
       simp [h3,this,AE]
      ·by_cases h4:r.tot<EM r.known
       ·have:¬KnR r:=fun h=>by rcases hkn.1 h with h|h;exact hl h;omega
        simp [h3,h4,this,AE]
       ·have:KnR r:=hkn.2 (.inr ⟨by omega,by omega⟩);simp [h3,h4,this,AE]
    refine Ev.conv' (fun n h=>(hstep _).trans h) ?_;simp only [Ym,vv,vf,reduceCtorEq,reduceAdd,reduceEqDiff];by_cases hk:KnR r
    ·simp only [hk,not_true_eq_false,vv,vf,reduceCtorEq,reduceAdd,reduceEqDiff];by_cases hs:(r.data.size:Int)=JI r.tot
     ·have hb:((r.data.size:Int) != if 0>r.tot then 0 else r.tot)=false:=by simpa [JI] using hs
      have hsz:r.data.size≤65536:=by unfold JI at hs;split at hs<;>omega
      rw [if_neg (not_not_intro hs)];simp only [gt_iff_lt] at hb;simp only [hb,vv,vf,reduceCtorEq,reduceAdd,reduceEqDiff];have hW:B7 r.known (bl r.data).length:=by
       have hw:=(B6 hc).1 hk.2.2;rw [CD,hs];intro x hx;have:=hw x hx;unfold JI;split
       ·have ht:r.tot = -1:=by omega
        have:=he.2 ht;rw [this] at hx;cases hx
       ·exact this
      have hC:Canon (0-1) r.known:=by
       have h:=((An r.known).1 hc).2.1;cases hkk:r.known with
       |nil=>trivial
       |cons x l=>
        rw [hkk] at h;refine ⟨?_,h.2.1,h.2.2⟩;have:=hW x (by rw [hkk];exact List.mem_cons_self);omega
      have hlen:=Bm hc;have hd:r.data=mkB (bl r.data):=(Xc _).symm;refine Bs (fun (r:Int)=>[tI r]) r.known (fun i (a:Int)=>(([.t (tI i)],[.box [.t (tI a)]]):List AV×Heap)) (GK (bl r.data)) (Mr (bl r.data)) (fun i a=>Canon (a-1) (r.known.drop i)∧0≤a∧a≤r.data.size) 0 rfl ⟨by simpa using hC,by omega,by omega⟩
       ?_ (fun i a x hx hI => ?_) (fun i a x a' hx hI h => ?_) (fun a hI => ?_)
      ·rcases Uo (bl r.data) r.known 0 0 hC hW (by omega) (by omega) with ⟨e,h⟩|⟨e,k,k1,k2,k3,k4⟩
       ·rw [e,if_pos];intro i hi hi2;exact h i (by omega) (by rw [CD];exact hi) hi2
       ·rw [e,if_neg];intro h;exact k4 (h k (by rw [CD] at k2;exact k2) k3)
      ·have hi:=Ag hx;have hdr:r.known.drop i=x::r.known.drop (i+1):=by rw [List.drop_eq_getElem_cons hi];congr 1;rw [getElem?_eq_getElem hi] at hx;exact Option.some.inj hx
       obtain ⟨c1,c2,c3⟩:=hI;rw [hdr] at c1;have hx2:=hW x (mem_of_getElem? hx);rw [CD] at hx2;obtain ⟨t,ht,h48⟩:=s178 (((bl r.data).drop a.toNat).take (x.fro.toNat-a.toNat)) (by simp;rw [CD];omega);refine h48.mono fun n h again => ?_;have hxc:=c1.1;have he:r.data.extract a.toNat x.fro.toNat=mkB (((bl r.data).drop a.toNat).take (x.fro.toNat-a.toNat)):=by apply M7;rw [EU,LN]
       simp only [TU,vv,vf,reduceCtorEq,reduceAdd,reduceEqDiff,hx,Span.enc,(show (i:Int)<r.known.length by omega),A9 (show i<4611686018427387904 by omega)];rw [Cf (by have:=c1.2.1;omega),Cf (by omega),he,h];simp only [vv,vf,reduceCtorEq,reduceAdd,reduceEqDiff,ID,GK,← ht];by_cases htt:t=[]<;>simp [htt,AE,Rd.Av,Rd.BA]
      ·have hi:=Ag hx;have hdr:r.known.drop i=x::r.known.drop (i+1):=by rw [List.drop_eq_getElem_cons hi];congr 1;rw [getElem?_eq_getElem hi] at hx;exact Option.some.inj hx
       obtain ⟨c1,c2,c3⟩:=hI;rw [hdr] at c1;have hx2:=hW x (mem_of_getElem? hx);rw [CD] at hx2;unfold GK at h;split at h
       ·simp only [Rd.next.injEq] at h;subst h;have:=c1.2.1;have:=c1.1;exact ⟨Ds c1.2.2 (by omega),by omega,by omega⟩
       ·cases h
      ·obtain ⟨c1,c2,c3⟩:=hI;obtain ⟨t,ht,h48⟩:=s178 ((bl r.data).drop a.toNat) (by simp;rw [CD];omega);refine h48.mono fun n h again => ?_;have he:r.data.extract a.toNat r.data.size=mkB ((bl r.data).drop a.toNat):=by apply M7;rw [EU,LN,take_of_length_le (by simp;rw [CD];omega)]
       simp only [TU,vv,vf,reduceCtorEq,reduceAdd,reduceEqDiff,lt_irrefl];rw [Cf (by omega),Cf (by omega),he,h];simp only [vv,vf,reduceCtorEq,reduceAdd,reduceEqDiff,ID,Mr,← ht];by_cases htt:t=[]<;>simp [htt,AE]
     ·have hb:((r.data.size:Int) != if 0>r.tot then 0 else r.tot)=true:=by simpa [JI] using hs
      rw [if_pos hs];simp only [gt_iff_lt] at hb;simp only [hb,vv,vf,reduceCtorEq,reduceAdd,reduceEqDiff];exact Ev.of fun n=>by first|rfl|trivial
    ·simp only [hk,not_false_eq_true,vv,vf,reduceCtorEq,reduceAdd,reduceEqDiff];exact Ev.of fun n=>by first|rfl|trivial
   ·have e1:(! (decide (r.known=[])==decide (r.tot = -1)))=true:=by by_cases hx:r.known=[]<;>by_cases hy:r.tot = -1<;>simp_all
    have:¬KnR r:=fun h=>he h.2.1;simp only [e1,this,not_false_eq_true,vv,vf,reduceCtorEq,reduceAdd,reduceEqDiff];exact Ev.of fun n=>by first|rfl|trivial
  ·have:(BM r.known != 0)=true:=by simpa using hc
   have h2:¬KnR r:=fun h=>hc h.1;simp only [this,h2,Td,not_false_eq_true,vv,vf,reduceCtorEq,reduceAdd,reduceEqDiff];exact Ev.of fun n=>by first|rfl|trivial
 ·rw [if_pos hr];refine Ev.of fun n => ?_;unfold TM at hr;simp only [join_eq,Tc,vv,vf,reduceCtorEq,reduceAdd,reduceEqDiff,AE,bne_iff_ne];by_cases h1:r.ses<0
  ·simp [h1]
  ·by_cases h2:1099511627776<r.ses
   ·simp [h1,h2]
   ·have h3:r.tot ≠ -1:=by omega
    simp only [h1,h2,if_false,h3,ne_eq,not_false_eq_true,if_true];by_cases h4:r.tot<1
    ·simp [h4]
    ·simp [h4,show 65536<r.tot by omega]
end Ab
set_option linter.unusedVariables false
set_option linter.unusedSimpArgs false
namespace Ab
open Go
def sp (x:Seg):Span:=⟨x.off,x.off+x.data.size⟩
theorem SO {x:Seg} (h:Cq x=0):0≤x.off∧x.off≤65536∧x.data.size≤16∧0≤x.tot∧x.tot≤65536:=by
 obtain ⟨hk,hn,hc⟩:=ET h;unfold CE at hn;unfold Cs at hc;by_cases h1:x.kind=1
 ·grind
 ·by_cases h2:x.kind=2
  ·grind
  ·have:x.kind=3:=by omega
   grind
theorem D1 {x:Seg} (h:Cq x=0) (h1:x.kind=1):1≤x.tot∧x.tot≤65536∧0≤x.off∧1≤x.data.size∧x.data.size≤16∧x.off+x.data.size≤x.tot∧x.AY=[]∧(x.chk=true→1≤x.ser∧x.ser≤1099511627776)∧0≤x.ses∧x.ses≤1099511627776:=by obtain ⟨hk,hn,hc⟩:=ET h;unfold CE at hn;unfold Cs at hc;grind
theorem s161 (r:Rcv) (x:Seg) (hx:Cq x=0):AT C 161 (r.enc++x.enc) [.sl 2 ((DB r.known [sp x]).map Span.enc),tI (EG r.known [sp x])]:=by obtain ⟨h1,h2,h3,_⟩:=SO hx;refine AT.of (fun n=>e161 n _ _ _ _ _ _ _ _ _ _ _ _) ?_;refine (s183 r.known [sp x]).mono fun n h => ?_;rw [N1] at h;simp only [map_cons,map_nil,sp,Span.enc] at h;rw [Aa (x:=x.off+(x.data.size:Int)) (by omega) (by omega)];simp only [h,vv,vf,reduceCtorEq,reduceAdd,reduceEqDiff];rfl
theorem PY {a b:List UInt8} (h:a.length=b.length):a=b↔∀k,k<a.length→a.getD k 0=b.getD k 0:=by
 constructor
 ·intro e k _;rw [e]
 ·intro hk;apply List.ext_getElem h;intro i h1 h2;have:=hk i h1;simpa [List.getD,h1,h2] using this
theorem JU (D:List UInt8) (a b k:Nat) (hb:b≤D.length) (hk:k<b-a):((D.drop a).take (b-a)).getD k 0=D.getD (a+k) 0:=by simp [getD_eq_getElem?_getD,getElem?_take,hk,getElem?_drop]
theorem part_eq (D E:List UInt8) (f t o:Nat) (h1:f<t) (h2:t≤D.length) (h3:o≤f) (h4:t-o≤E.length) :
  ((D.drop f).take (t-f)=(E.drop (f-o)).take ((t-o)-(f-o))↔∀k,f≤k→k<t→D.getD k 0=E.getD (k-o) 0):=by
 rw [PY (by simp;omega)];constructor
 ·intro h k k1 k2;have:=h (k-f) (by simp;omega);rw [JU D f t _ h2 (by omega),JU E (f-o) (t-o) _ h4 (by omega),show f+(k-f)=k by omega,show f-o+(k-f)=k-o by omega] at this;exact this
 ·intro h k hk;simp at hk;rw [JU D f t _ h2 (by omega),JU E (f-o) (t-o) _ h4 (by omega),show f-o+k=f+k-o by omega];exact h _ (by omega) (by omega)
def agree (r:Rcv) (x:Seg):Prop:=∀i,i<x.data.size→AX (x.off+i) r.known→(bl r.data).getD (x.off.toNat+i) 0=(bl x.data).getD i 0
def F7 (r:Rcv) (x:Seg) (k:Span):Prop:=∀i,i<x.data.size→k.fro≤x.off+i→x.off+i<k.to→(bl r.data).getD (x.off.toNat+i) 0=(bl x.data).getD i 0
instance (r:Rcv) (x:Seg):Decidable (agree r x):=by unfold agree;exact inferInstance
instance (r:Rcv) (x:Seg) (k:Span):Decidable (F7 r x k):=by unfold F7;exact inferInstance
def EC (r:Rcv) (x:Seg):Bool:=decide (x.kind=1∧x.ses=r.ses∧(r.tot = -1∨x.tot=r.tot)∧agree r x∧EG r.known [sp x]=0)
theorem WC (r:Rcv) (x:Seg):agree r x↔r.known.all (fun k=>decide (F7 r x k))=true:=by
 have hm:∀(t:Int) (l:List Span),AX t l↔∃k∈l,k.fro≤t∧t<k.to:=by
  intro t l
  induction l with
  |nil=>simp [AX]
  |cons y l ih=>simp only [AX,ih,mem_cons,exists_eq_or_imp]
 rw [all_eq_true];simp only [decide_eq_true_eq];unfold agree F7;constructor
 ·intro h k hk i hi h1 h2;exact h i hi ((hm _ _).2 ⟨k,hk,h1,h2⟩)
 ·intro h i hi hmem;obtain ⟨k,hk,h1,h2⟩:=(hm _ _).1 hmem;exact h k hk i hi h1 h2
theorem C9 {r:Rcv} (h:ES r=0):TM r∧KnR r∧(r.data.size:Int)=JI r.tot∧R3 r:=by
 unfold ES at h;split at h
 ·omega
 ·rename_i h1;split at h
  ·omega
  ·rename_i h2;split at h
   ·omega
   ·rename_i h3;split at h
    ·rename_i h4;exact ⟨not_not.1 h1,not_not.1 h2,not_not.1 h3,h4⟩
    ·omega
theorem MI {r:Rcv} (h:ES r=0):B7 r.known r.data.size:=by
 obtain ⟨h1,h2,h3,h4⟩:=C9 h;have hw:=(B6 h2.1).1 h2.2.2;rw [h3];intro x hx;have:=hw x hx;unfold JI;split
 ·have ht:r.tot = -1:=by rcases h1.2 with h|h<;>omega
  have:=h2.2.1.2 ht;rw [this] at hx;cases hx
 ·exact this
theorem V2 {l:List Span} {b:Int} (h:Canon b l):∀y∈l,y.fro<y.to:=fun y hy=>(Js h y hy).2
theorem Xo (r:Rcv) (x:Seg) (hr:ES r=0) (hx:Cq x=0) (hk:x.kind=1):Ev fun n=>∀z:List AV×Heap→Option (List Tree),AK (fun p again=>P3 n (r.known.map Span.enc) x.kind x.ses x.ser x.off x.tot x.chk x.data (x.AY.map Span.enc) r.ses r.tot r.data z p again) n ([.t (tI 0)],[.box []])=z ([.t (.bool (decide (agree r x)))],[.box []]):=by
 obtain ⟨c1,c2,c3,c4⟩:=C9 hr;have hW:=MI hr;have hlen:=Bm c2.1;obtain ⟨g1,g2,g3,g4,g5,g6,g7⟩:=D1 hx hk;have hcan:=V2 ((An r.known).1 c2.1).2.1;have hsz:r.data.size≤65536:=by have:=c1.2;unfold JI at c3;split at c3<;>omega
 refine Ik r.known (fun i (_:Unit)=>(([.t (tI i)],[.box []]):List AV×Heap)) (fun _ (_:Unit) k=>if (fun k=>decide (F7 r x k)) k=true then .next () else .done false) (fun _=>true) (fun (z:List AV×Heap→Option (List Tree)) (q:Bool)=>z ([AV.t (Tree.bool q)],[AF.box []])) (fun _ _=>True) () rfl trivial ?_
  (fun i s k hk' hI=>Ev.of fun n z again => ?_) (fun _ _ _ _ _ _ _=>trivial) (fun s hI=>Ev.of fun n z again => ?_)
 ·rw [Qm];rw [Bool.eq_iff_iff,decide_eq_true_eq,WC];by_cases h:r.known.all (fun k=>decide (F7 r x k))=true<;>simp [h]
 ·have hi:=Ag hk';have hkw:=hW k (mem_of_getElem? hk');have hkc:=hcan k (mem_of_getElem? hk');simp only [P3,vv,vf,reduceCtorEq,reduceAdd,reduceEqDiff,hk',Span.enc,(show (i:Int)<r.known.length by omega),A9 (show i<4611686018427387904 by omega),Aa (show -9223372036854775808≤x.off+(x.data.size:Int) by omega) (by omega),Yl,AN];have ef:(if x.off>k.fro then x.off else k.fro)=((if x.off>k.fro then x.off else k.fro).toNat:Int):=by split<;>omega
  generalize hf:(if x.off>k.fro then x.off else k.fro)=f at *;generalize ht:(if x.off+(x.data.size:Int)<k.to then x.off+(x.data.size:Int) else k.to)=t at *;have hf2:f=max x.off k.fro:=by rw [← hf];simp only [Int.max_def];split<;>split<;>omega
  have ht2:t=min (x.off+(x.data.size:Int)) k.to:=by rw [← ht];simp only [Int.min_def];split<;>split<;>omega
  by_cases hft:f<t
  ·have hok:F7 r x k↔(r.data.extract f.toNat t.toNat=x.data.extract (f-x.off).toNat (t-x.off).toNat):=by
    have key:=part_eq (bl r.data) (bl x.data) f.toNat t.toNat x.off.toNat (by omega) (by rw [CD];omega) (by omega) (by rw [CD];omega);have e1:(r.data.extract f.toNat t.toNat=x.data.extract (f-x.off).toNat (t-x.off).toNat)↔((bl r.data).drop f.toNat).take (t.toNat-f.toNat)=((bl x.data).drop (f.toNat-x.off.toNat)).take ((t.toNat-x.off.toNat)-(f.toNat-x.off.toNat)):=by rw [show (f-x.off).toNat=f.toNat-x.off.toNat by omega,show (t-x.off).toNat=t.toNat-x.off.toNat by omega,← EU,← EU];exact ⟨fun h=>by rw [h],fun h=>M7 h⟩
    rw [e1,key];unfold F7;constructor
    ·intro h q h1 h2;have:=h (q-x.off.toNat) (by omega) (by omega) (by omega);rw [show x.off.toNat+(q-x.off.toNat)=q by omega] at this;exact this
    ·intro h i h1 h2 h3;have:=h (x.off.toNat+i) (by omega) (by omega);rw [show x.off.toNat+i-x.off.toNat=i by omega] at this;exact this
   rw [Aa (x:=t-x.off) (by omega) (by omega),Aa (x:=f-x.off) (by omega) (by omega)];rw [Cf (show f<t from hft),Cf (by omega),Cf (by omega),Cf (by omega),Cf (by omega)];simp only [hok,bne,Ol];by_cases he:r.data.extract f.toNat t.toNat=x.data.extract (f-x.off).toNat (t-x.off).toNat<;>simp [he,AE,Rd.Av,Rd.BA]
  ·have hok:F7 r x k:=by intro i h1 h2 h3;omega
   rw [Ll (show ¬f<t from hft)];simp [hok,AE,Rd.Av]
 ·simp only [P3,vv,vf,reduceCtorEq,reduceAdd,reduceEqDiff,lt_irrefl,AN]
theorem s160 (r:Rcv) (x:Seg) (hr:ES r=0) (hx:Cq x=0):AT C 160 (r.enc++x.enc) [.bool (EC r x)]:=by
 refine AT.of (fun n=>e160 n _ _ _ _ _ _ _ _ _ _ _ _) ?_;simp only [AN];refine Bs (fun (b:Bool)=>[Tree.bool b]) [0,1,2,3] (fun i (_:Unit)=>(([.t (tI i)],[.box []]):List AV×Heap)) (fun i (_:Unit) (_:Nat)=>if (match i with
  |0=>decide (x.kind=1∧x.ses=r.ses)
  |1=>decide (r.tot = -1∨x.tot=r.tot)
  |2=>decide (agree r x)
  |_=>decide (EG r.known [sp x]=0))=true then .next () else .done false) (fun _=>true) (fun i _=>0<i→x.kind=1) () rfl (fun h=>by omega) ?_
  (fun i s k hk hI => ?_) (fun i s k s' hk hI h h0 => ?_) (fun s hI=>Ev.of fun n again => ?_)
 ·unfold EC;simp only [C0];by_cases h1:x.kind=1<;>by_cases h2:x.ses=r.ses<;>by_cases h3:(r.tot = -1∨x.tot=r.tot)<;>by_cases h4:agree r x<;>by_cases h5:EG r.known [sp x]=0<;>simp [h1,h2,h3,h4,h5]
 ·have hi:i<4:=Ag hk;have h40:=s161 r x hx;rcases (show i=0∨i=1∨i=2∨i=3 by omega) with rfl|rfl|rfl|rfl
  ·refine Ev.of fun n again => ?_;simp only [Kt,QL,Kv,vv,vf,reduceCtorEq,reduceAdd,reduceEqDiff,AN];by_cases h1:x.kind=1<;>by_cases h2:x.ses=r.ses<;>simp [h1,h2,AE,Rd.Av,Rd.BA,vv,w64,wrap64]
  ·refine Ev.of fun n again => ?_;simp only [Kt,QL,Kv,vv,vf,reduceCtorEq,reduceAdd,reduceEqDiff,AN];by_cases h1:r.tot = -1<;>by_cases h2:x.tot=r.tot<;>simp [h1,h2,AE,Rd.Av,Rd.BA,vv,w64,wrap64]
  ·refine (Xo r x hr hx (hI (by omega))).mono fun n h again => ?_;simp only [Kt,Kv,vv,vf,reduceCtorEq,reduceAdd,reduceEqDiff,AN,h];by_cases h1:agree r x<;>simp [h1,AE,Rd.Av,Rd.BA,vv,w64,wrap64]
  ·refine h40.mono fun n h again => ?_;simp only [Rcv.enc,Seg.enc,cons_append,nil_append] at h;simp only [Kt,vv,vf,reduceCtorEq,reduceAdd,reduceEqDiff,AN,h];by_cases h1:EG r.known [sp x]=0<;>simp [h1,AE,Rd.Av,Rd.BA,vv,w64,wrap64]
 ·rcases (show i=0∨0<i by omega) with rfl|h1
  ·simp only at h;split at h
   ·rename_i h2;simp only [decide_eq_true_eq] at h2;exact h2.1
   ·cases h
  ·exact hI h1
 ·simp only [Kt,vv,vf,reduceCtorEq,reduceAdd,reduceEqDiff];simp [AE,vv]
end Ab
set_option linter.unusedVariables false
set_option linter.unusedSimpArgs false
namespace Ab
open Go
end Ab
set_option linter.unusedVariables false
set_option linter.unusedSimpArgs false
namespace Ab
open Go
theorem s163 (es:List (List Tree)) (hl:es.length≤1073741824):AT C 163 [.sl 2 es] [.sl 2 es]:=by
 refine AT.of (fun n=>e163 n _) (Ev.of fun n => ?_);by_cases h:es.length=0
 ·have:es=[]:=eq_nil_of_length_eq_zero h;subst this;simp [AE,AJ]
 ·rw [Cf h,Cf hl,take_of_length_le (le_refl _)]
def Dx (k:Nat):List UInt8:=replicate k 0
def Dl (r:Rcv) (x:Seg):List UInt8:=L7 (L7 (Dx x.tot.toNat) 0 (bl r.data)) x.off.toNat (bl x.data)
def CK (r:Rcv) (x:Seg):Seg:=⟨2,r.ses,x.ser,0,x.tot,false,ByteArray.mk #[],DB r.known [sp x]⟩
def Cn (r:Rcv) (x:Seg):Rcv:=⟨r.ses,x.tot,DB r.known [sp x],mkB (Dl r x)⟩
def zeroR:Rcv:=⟨0,0,[],ByteArray.mk #[]⟩
def EN (r:Rcv) (x:Seg):Rcv×List Seg×Int:=
 if ¬(ES r=0∧Cq x=0) then (zeroR,[],1) else if EC r x=false then (r,[],0) else (Cn r x,if x.chk=true then [CK r x] else [],0)
def Xq (q:Rcv×List Seg×Int):List Tree:=[tI q.1.ses,tI q.1.tot,.sl 2 (q.1.known.map Span.enc),.str q.1.data,.sl 8 (q.2.1.map Seg.enc),tI q.2.2]
theorem Gr {a b:List Span} (h:EG a b=0):BM a=0∧BM b=0∧DB a b=uni a b∧BM (DB a b)=0∧∀t,AX t (DB a b)↔AX t a∨AX t b:=by
 unfold EG at h;split at h
 ·rename_i hc;split at h
  ·omega
  ·rename_i hl;obtain ⟨h1,h2⟩:=I9 ((An _).1 hc.1).2.1 ((An _).1 hc.2).2.1;have e:DB a b=uni a b:=by unfold DB;rw [if_pos hc,if_neg hl]
   refine ⟨hc.1,hc.2,e,?_,by rw [e];exact h2⟩;rw [e,An];refine ⟨by omega,h1,mem_top h1 fun t m => ?_⟩;rcases (h2 t).1 m with m|m
   ·exact O9 ((An _).1 hc.1).2.2 ((An _).1 hc.1).2.1 m
   ·exact O9 ((An _).1 hc.2).2.2 ((An _).1 hc.2).2.1 m
 ·omega
theorem DP {r:Rcv} {x:Seg}:EC r x=true↔x.kind=1∧x.ses=r.ses∧(r.tot = -1∨x.tot=r.tot)∧agree r x∧EG r.known [sp x]=0:=by unfold EC;rw [decide_eq_true_eq]
theorem LB {r:Rcv} {x:Seg} (hr:ES r=0) (hx:Cq x=0) (hs:EC r x=true):B7 (DB r.known [sp x]) x.tot∧DB r.known [sp x]≠[]:=by
 obtain ⟨h1,h2,h3,h4,h5⟩:=DP.1 hs;obtain ⟨g1,g2,g3,g4,g5,g6,g7⟩:=D1 hx h1;obtain ⟨c1,c2,c3,c4⟩:=C9 hr;obtain ⟨u1,u2,u3,u4,u5⟩:=Gr h5;have hW:=MI hr;have hm:AX x.off (DB r.known [sp x]):=(u5 _).2 (.inr (.inl ⟨Int.le_refl _,by show x.off<x.off+x.data.size;omega⟩));refine ⟨GH ((An _).1 u4).2.1 fun t m => ?_,fun e=>by rw [e] at hm;exact hm⟩;rcases (u5 t).1 m with m|m
 ·have:=FL hW m;have h0:r.tot ≠ -1:=fun h0=>by have:=c2.2.1.2 h0;rw [this] at m;exact m
  have:x.tot=r.tot:=by rcases h3 with h|h;exact (h0 h).elim;exact h
  have:(r.data.size:Int)=r.tot:=by rw [c3];unfold JI;rw [if_neg];rcases c1.2 with h|h<;>omega
  omega
 ·rcases m with m|m
  ·have m1:x.off≤t:=m.1;have m2:t<x.off+x.data.size:=m.2;omega
  ·exact m.elim
theorem Rm {r:Rcv} {x:Seg} (hr:ES r=0) (hx:Cq x=0) (hs:EC r x=true) (hc:x.chk=true):Cq (CK r x)=0:=by
 obtain ⟨h1,h2,h3,h4,h5⟩:=DP.1 hs;obtain ⟨g1,g2,g3,g4,g5,g6,g7,g8,g9⟩:=D1 hx h1;obtain ⟨c1,c2,c3,c4⟩:=C9 hr;obtain ⟨u1,u2,u3,u4,u5⟩:=Gr h5;have hn:CE (CK r x):=by unfold CE CK;simp only;have:=c1.1;have:=g8 hc;grind
 have hk:Cs (CK r x):=by
  have:inside (DB r.known [sp x]) x.tot=true:=by unfold inside;rw [decide_eq_true_eq];exact ⟨u4,(B6 u4).2 (LB hr hx hs).1⟩
  unfold Cs CK;simp only [this];simp;rfl
 unfold Cq;rw [if_neg (not_not_intro (by simp [CK])),if_neg (not_not_intro hn),if_neg (not_not_intro hk)]
theorem size_le {r:Rcv} {x:Seg} (hr:ES r=0) (hx:Cq x=0) (hs:EC r x=true):r.data.size≤x.tot.toNat∧(r.data.size=0∨r.data.size=x.tot.toNat):=by
 obtain ⟨h1,h2,h3,h4,h5⟩:=DP.1 hs;obtain ⟨g1,g2,g3,g4,g5,g6,g7,g8⟩:=D1 hx h1;obtain ⟨c1,c2,c3,c4⟩:=C9 hr;unfold JI at c3;rcases c1.2 with h|h
 ·rw [if_pos (by omega)] at c3;omega
 ·rw [if_neg (by omega)] at c3;have:x.tot=r.tot:=by rcases h3 with h|h<;>omega
  omega
theorem s146 (r:Rcv) (x:Seg):AT C 146 (r.enc++x.enc) (Xq (EN r x)):=by
 refine AT.of (fun n=>e146 n _ _ _ _ _ _ _ _ _ _ _ _) ?_;simp only [join_eq];refine Ev.rw (s159 r) (fun n h=>by simp only [Rcv.enc] at h;simp only [h,vv,vf,reduceCtorEq,reduceAdd,reduceEqDiff];rfl) ?_;unfold EN;by_cases hr:ES r=0
 ·simp only [hr,bne_self_eq_false,vv,vf,reduceCtorEq,reduceAdd,reduceEqDiff];refine Ev.rw (Wy x) (fun n h=>by simp only [Seg.enc] at h;simp only [h,vv,vf,reduceCtorEq,reduceAdd,reduceEqDiff];rfl) ?_;by_cases hx:Cq x=0
  ·simp only [hx,bne_self_eq_false,QP,vv,vf,reduceCtorEq,reduceAdd,reduceEqDiff,not_true_eq_false];refine Ev.rw (s160 r x hr hx) (fun n h=>by simp only [Rcv.enc,Seg.enc,cons_append,nil_append] at h;simp only [h,vv,vf,reduceCtorEq,reduceAdd,reduceEqDiff];rfl) ?_;by_cases hs:EC r x=true
   ·simp only [hs,vv,vf,reduceCtorEq,reduceAdd,reduceEqDiff];obtain ⟨h1,h2,h3,h4,h5⟩:=DP.1 hs;obtain ⟨g1,g2,g3,g4,g5,g6,g7,g8⟩:=D1 hx h1;have hsz:=(size_le hr hx hs).1;refine Ev.rw (s161 r x hx) (fun n h=>by simp only [Rcv.enc,Seg.enc,cons_append,nil_append] at h;simp only [h,vv,vf,reduceCtorEq,reduceAdd,reduceEqDiff];rfl) ?_;have hz:(Dx x.tot.toNat).length=x.tot.toNat:=by simp [Dx]
    have l1:(L7 (Dx x.tot.toNat) 0 (bl r.data)).length=x.tot.toNat:=by rw [Gu _ _ _ (by rw [CD,hz];omega),hz]
    have l2:(Dl r x).length=x.tot.toNat:=by unfold Dl;rw [Gu _ _ _ (by rw [CD,l1];omega),l1]
    have r1:take x.tot.toNat (DC r.data)=(bl r.data).map tb:=by rw [N5,take_of_length_le (by rw [length_map,CD];exact hsz)]
    have r2:take (x.tot.toNat-x.off.toNat) (DC x.data)=(bl x.data).map tb:=by rw [N5,take_of_length_le (by rw [length_map,CD];omega)]
    have r0:replicate x.tot.toNat ([Tree.int IntKind.u8 0]:List Tree)=(Dx x.tot.toNat).map tb:=rep_tb _;have r3:BH (BH ((Dx x.tot.toNat).map tb) 0 ((bl r.data).map tb)) (0+x.off.toNat) ((bl x.data).map tb)=(Dl r x).map tb:=by rw [KL,zero_add,KL];rfl
    have r4:take x.tot.toNat ((Dl r x).map tb)=(Dl r x).map tb:=by rw [take_of_length_le (by rw [length_map,l2];exact le_refl _)]
    have r5:(BH ((Dx x.tot.toNat).map tb) 0 ((bl r.data).map tb)).length=x.tot.toNat:=by rw [KL,length_map,l1]
    simp only [zero_add] at r3;simp only [r0,r1,r2,r3,r4,r5,zero_add,Si,TI,vv,vf,reduceCtorEq,reduceAdd,reduceEqDiff];have k1:(0:Int)≤x.tot:=by omega
    have k2:x.tot≤1073741824:=by omega
    have k3:x.off≤(x.tot.toNat:Int):=by omega
    have k4:x.off.toNat<x.tot.toNat∨x.off.toNat=0 :=.inl (by omega);simp only [k1,k2,k3,k4,g3,vv,vf,reduceCtorEq,reduceAdd,reduceEqDiff];by_cases hc:x.chk=true
    ·simp only [hc,vv,vf,reduceCtorEq,reduceAdd,reduceEqDiff];refine Ev.rw (s163 ((DB r.known [sp x]).map Span.enc) (by have:=Bm (Gr h5).2.2.2.1;rw [length_map];omega)) (fun n h=>by simp only [h,vv,vf,reduceCtorEq,reduceAdd,reduceEqDiff];rfl) ?_;have hcl:=Rm hr hx hs hc;refine (s162 r.ses x.ser x.tot (DB r.known [sp x])).mono fun n h => ?_;unfold CK at hcl;rw [if_pos hcl] at h;simp only [Seg.enc,cons_append,nil_append] at h;simp only [h,bne_self_eq_false,vv,vf,reduceCtorEq,reduceAdd,reduceEqDiff];rfl
    ·have hc':x.chk=false:=by simpa using hc
     simp only [hc',vv,vf,reduceCtorEq,reduceAdd,reduceEqDiff];exact Ev.of fun n=>rfl
   ·have hs':EC r x=false:=by simpa using hs
    simp only [hs',vv,vf,reduceCtorEq,reduceAdd,reduceEqDiff];exact Ev.of fun n=>rfl
  ·have hb:(Cq x != 0)=true:=by simpa using hx
   simp only [hb,hx,QP,vv,vf,reduceCtorEq,reduceAdd,reduceEqDiff,not_false_eq_true];exact Ev.of fun n=>rfl
 ·have hb:(ES r != 0)=true:=by simpa using hr
  simp only [hb,hr,QP,vv,vf,reduceCtorEq,reduceAdd,reduceEqDiff,not_false_eq_true];exact Ev.of fun n=>rfl
end Ab
set_option linter.unusedVariables false
set_option linter.unusedSimpArgs false
namespace Ab
open Go
def A3 (r:Rcv):Bool:=decide (ES r=0∧r.known=[⟨0,r.tot⟩])
theorem XW {l:List Span}:l.length=1↔∃x,l=[x]:=by
 constructor
 ·intro h
  match l,h with
  |[x],_=>exact ⟨x,rfl⟩
 ·rintro ⟨x,rfl⟩;rfl
theorem s147 (r:Rcv):AT C 147 r.enc [.bool (A3 r)]:=by
 refine AT.of (fun n=>e147 n _ _ _ _) ?_;refine (s159 r).mono fun n h => ?_;simp only [Rcv.enc] at h;simp only [h,vv,vf,reduceCtorEq,reduceAdd,reduceEqDiff];unfold A3;by_cases hr:ES r=0
 ·simp only [hr,beq_self_eq_true,vv,vf,reduceCtorEq,reduceAdd,reduceEqDiff];by_cases hl:r.known.length=1
  ·obtain ⟨x,hx⟩:=XW.1 hl;simp only [hx,vv,vf,reduceCtorEq,reduceAdd,reduceEqDiff,getElem?_cons_zero,Span.enc];obtain ⟨a,b⟩:=x;simp only [AE,List.cons.injEq,and_true,Span.mk.injEq];by_cases h1:a=0<;>by_cases h2:b=r.tot<;>simp [h1,h2]
  ·have h1:((r.known.length:Int)==1)=false:=by simpa using fun h=>hl (by omega)
   have h2:¬r.known=[⟨0,r.tot⟩]:=fun h=>hl (by rw [h];rfl);simp only [h1,h2,vv,vf,reduceCtorEq,reduceAdd,reduceEqDiff]
 ·have h1:(ES r==0)=false:=by simpa using hr
  simp only [h1,hr,vv,vf,reduceCtorEq,reduceAdd,reduceEqDiff]
def Xa (n:Int):Rcv×Int:=if 0≤n∧n≤1099511627776 then (⟨n,-1,[],ByteArray.mk #[]⟩,0) else (zeroR,2)
theorem s70 (n:Int):AT C 70 [tI n] ((Xa n).1.enc++[tI (Xa n).2]):=by
 refine AT.of (fun m=>e70 m _) (Ev.of fun m => ?_);unfold Xa;simp only [AE,decide_eq_true_eq];by_cases h1:n<0
 ·rw [if_pos h1,if_neg (by omega)];rfl
 ·by_cases h2:n>1099511627776
  ·rw [if_neg h1,if_pos h2,if_neg (by omega)];rfl
  ·rw [if_neg h1,if_neg h2,if_pos (by omega)];rfl
end Ab
set_option linter.unusedVariables false
set_option linter.unusedSimpArgs false
namespace Ab
open Go
def BY (n:Int):List Tree:=[tI n]
theorem s200 (l:List Int) (e:Int) (hl:l.length≤1000000):AT C 200 [.sl 1 (l.map BY),tI e] [tI (idx (fun x=>decide (x=e)) l)]:=by
 refine AT.of (fun n=>e200 n _ _) ?_;refine Bs (fun r=>[tI r]) l (fun i _=>(([.t (tI i)],[]):List AV×Heap)) (fun i _ x=>if decide (x=e)=true then .done (i:Int) else .next ()) (fun _ => -1) (fun _ _=>True) () rfl trivial (Vp _ l)
  (fun i s x hx hI=>Ev.of fun n again => ?_) (fun _ _ _ _ _ _ _=>trivial) (fun s hI=>Ev.of fun n again => ?_)
 ·have hi:=Ag hx;simp only [TR,vv,vf,reduceCtorEq,reduceAdd,reduceEqDiff,hx,BY,A9 (show i<4611686018427387904 by omega),(show (i:Int)<l.length by omega)];simp only [AE];grind [Rd.Av,Rd.BA]
 ·simp only [TR,vv,vf,reduceCtorEq,reduceAdd,reduceEqDiff,lt_irrefl]
theorem s174 (l:List Int) (e:Int) (hl:l.length≤1000000):AT C 174 [.sl 1 (l.map BY),tI e] [.bool (decide (e∈l))]:=by refine AT.of (fun n=>e174 n _ _) ?_;refine (s200 l e hl).mono fun n h => ?_;simp only [h,vv,vf,reduceCtorEq,reduceAdd,reduceEqDiff];congr 3;rw [Bool.eq_iff_iff];simp only [decide_eq_true_eq,Su];simp
theorem s95 (a:Int):AT C 95 [tI a] [.bool (decide (1≤a∧a≤1048576))]:=by refine AT.of (fun n=>e95 n _) (Ev.of fun n => ?_);simp only [IZ,vv,vf,reduceCtorEq,reduceAdd,reduceEqDiff];congr 3;rw [Bool.eq_iff_iff];split<;>simp<;>omega
theorem s203 (a b:Int) (ha : -9223372036854775808≤a∧a≤9223372036854775807) (hb:1≤b∧b≤1048576):AT C 203 [tI a,tI b] [tI (a / b),tI (a % b)]:=by
 refine AT.of (fun n=>e203 n _ _) (Ev.of fun n => ?_);have hb0:¬b=0:=by omega
 have hb1:(0:Int)<b:=by omega
 have hq : -9223372036854775808≤a / b∧a / b≤9223372036854775807:=by
  constructor
  ·rw [Int.le_ediv_iff_mul_le hb1];have : -9223372036854775808*b≤ -9223372036854775808*1:=Int.mul_le_mul_of_nonpos_left (by omega) (by omega);omega
  ·have:a / b≤if 0≤a then a else 0:=by
    split
    ·exact Int.ediv_le_self b (by omega)
    ·have:=Int.ediv_lt_of_lt_mul hb1 (show a<0*b by omega);omega
   split at this<;>omega
 have hm:=emod_nonneg a hb0;have hml:=emod_lt_of_pos a hb1;have hdm:=Int.mul_ediv_add_emod a b;have ht:tmod a b=if 0≤a∨a % b=0 then a % b else a % b-b:=by
  rw [Int.tmod_eq_emod];have:(↑b.natAbs:Int)=b:=by omega
  have hdv:b∣a↔a % b=0:=Int.dvd_iff_emod_eq_zero;simp only [hdv,this];split<;>omega
 have htd:tdiv a b=if 0≤a∨a % b=0 then a / b else a / b+1:=by rw [Int.tdiv_eq_ediv];have hdv:b∣a↔a % b=0:=Int.dvd_iff_emod_eq_zero;have hs:b.sign=1:=Int.sign_eq_one_of_pos hb1;simp only [hdv,hs];split<;>omega
 by_cases h:0≤a∨a % b=0
 ·simp only [ht,htd,h,if_true,vv,vf,reduceCtorEq,reduceAdd,reduceEqDiff,hb0,(show ¬a % b<0 by omega),Aa (show -9223372036854775808≤a / b by omega) (by omega)]
 ·have hneg:a / b<0:=Int.ediv_lt_of_lt_mul hb1 (by omega);simp only [ht,htd,h,if_false,vv,vf,reduceCtorEq,reduceAdd,reduceEqDiff,hb0,(show a % b-b<0 by omega)];rw [Aa (x:=a / b+1) (by omega) (by omega),Aa (x:=a / b+1-1) (by omega) (by omega),Aa (by omega) (by omega)];simp
def BJ (n r:Int):List Int:=if n % 8<4 then [r] else if n % 8<6 then [r,r+1+n / 8 % r] else if n % 8=6 then [r+1+n / 8 % r] else []
theorem s176 (n r:Int) (hn : -9223372036854775808≤n∧n≤9223372036854775807) (hr:1≤r∧r≤1048576):AT C 176 [tI n,tI r] [.sl 1 ((BJ n r).map BY),tI 0]:=by
 refine AT.of (fun n=>e176 n _ _) ?_;have hm:=emod_nonneg (n / 8) (show r≠0 by omega);have hml:=emod_lt_of_pos (n / 8) (show 0<r by omega);have h19:AT C 216 [tI r,tI (n / 8 % r)] [.sl 1 [[tI r]]]:=AT.of (fun n=>e216 n _ _) (Ev.of fun n=>rfl);have hw:w64 (w64 (r+1)+n / 8 % r)=r+1+n / 8 % r:=by rw [Aa (x:=r+1) (by omega) (by omega),Aa (by omega) (by omega)]
 have h20:AT C 217 [tI r,tI (n / 8 % r)] [.sl 1 [[tI r],[tI (r+1+n / 8 % r)]]]:=AT.of (fun n=>e217 n _ _) (Ev.of fun n=>by rw [hw]);have h21:AT C 218 [tI r,tI (n / 8 % r)] [.sl 1 [[tI (r+1+n / 8 % r)]]]:=AT.of (fun n=>e218 n _ _) (Ev.of fun n=>by rw [hw]);have h22:AT C 219 [tI r,tI (n / 8 % r)] [.sl 1 []]:=AT.of (fun n=>e219 n _ _) (Ev.of fun n=>rfl);refine ((s95 r).and ((s203 n 8 hn (by omega)).and ((s203 (n / 8) r (by omega) hr).and (h19.and (h20.and (h21.and h22)))))).mono fun m h => ?_;obtain ⟨k1,k2,k3,k4,k5,k6,k7⟩:=h;have h8:0≤n % 8∧n % 8<8:=by omega
 simp only [k1,k2,k3,k4,k5,k6,k7,vv,vf,reduceCtorEq,reduceAdd,reduceEqDiff,hr,h8,and_self];unfold BJ;rcases (show n % 8=0∨n % 8=1∨n % 8=2∨n % 8=3∨n % 8=4∨n % 8=5∨n % 8=6∨n % 8=7 by omega) with e|e|e|e|e|e|e|e<;>simp [e,AE,BY]
end Ab
set_option linter.unusedVariables false
set_option linter.unusedSimpArgs false
namespace Ab
open Go
structure Frame where
 arr:Int
 num:Int
 seg:Seg
 deriving DecidableEq
def Frame.enc (f:Frame):List Tree:=[tI f.arr,tI f.num,tI f.seg.kind,tI f.seg.ses,tI f.seg.ser,tI f.seg.off,tI f.seg.tot,.bool f.seg.chk,.str f.seg.data,.sl 2 (f.seg.AY.map Span.enc)]
structure BW where
 rng:Int
 frames:List Frame
 sent:Int
 lost:Int
def BW.enc (c:BW):List Tree:=[tI c.rng,.sl 10 (c.frames.map Frame.enc),tI c.sent,tI c.lost]
structure Bo (c:BW):Prop where
 rng:1≤c.rng∧c.rng≤1048576
 lost:0≤c.lost∧c.lost≤c.sent
 sent:c.sent≤1152921504606846976
 len:c.frames.length≤10000
 frm:∀f∈c.frames,0≤f.arr∧f.arr≤2199023255552∧0≤f.num∧f.num<c.sent
 srt:c.frames.Pairwise fun a b=>a.arr≤b.arr
theorem Qi (es:List (List Tree)) (hl:es.length≤1073741824):AT C 1000170 [.sl 10 es] [.sl 10 es]:=by
 refine AT.of (fun n=>Xx n _) (Ev.of fun n => ?_);by_cases h:es.length=0
 ·have:es=[]:=eq_nil_of_length_eq_zero h;subst this;simp [AE,AJ]
 ·rw [Cf h,Cf hl,take_of_length_le (le_refl _)]
theorem s143 (c:BW) (hc:Bo c):AT C 143 c.enc [tI 0]:=by
 refine AT.of (fun n=>e143 n _ _ _ _) ?_;have h1:=hc.rng;have h2:=hc.lost;have h3:=hc.len;refine Ev.rw (T' := ?TT) (s95 c.rng) (fun n h => ?g1) ?g2
 case g1=>
  simp only [h,vv,vf,reduceCtorEq,reduceAdd,reduceEqDiff,h1,and_self,(show ¬c.sent<0 by omega),(show ¬c.lost<0 by omega),(show ¬c.sent<c.lost by omega),(show ¬(10000:Int)<(c.frames.length:Int) by omega)];rfl
 case g2=>
  refine Bs (fun (r:Int)=>[tI r]) c.frames (fun i (_:Unit)=>(([.t (tI i)],[]):List AV×Heap)) (fun _ _ _ =>.next ()) (fun _=>0) (fun _ _=>True) () rfl trivial (FB (fun _ _=>()) (fun _=>0) 0 _ ())
   (fun i s f hx hI=>Ev.of fun n again => ?_) (fun _ _ _ _ _ _ _=>trivial) (fun s hI=>Ev.of fun n again => ?_)
  ·have hi:=Ag hx;have hf:=hc.frm f (mem_of_getElem? hx);by_cases hi0:i=0
   ·subst hi0;simp only [P7,Tf,vv,vf,reduceCtorEq,reduceAdd,reduceEqDiff,hx,Frame.enc,(show ((0:Nat):Int)<c.frames.length by omega),(show ¬f.arr<0 by omega),(show ¬(2199023255552:Int)<f.arr by omega),(show ¬f.num<0 by omega),(show ¬c.sent≤f.num by omega),(show ¬(0:Int)<((0:Nat):Int) by omega),A9 (show 0<4611686018427387904 by omega),Rd.Av]
   ·have hp:c.frames[i-1]? = some c.frames[i-1]:=getElem?_eq_getElem (by omega);have hs:=List.pairwise_iff_getElem.1 hc.srt (i-1) i (by omega) hi (by omega);rw [getElem?_eq_getElem hi] at hx;have hx2:=Option.some.inj hx;rw [hx2] at hs;rw [← getElem?_eq_getElem hi] at hx;simp only [P7,Tf,vv,vf,reduceCtorEq,reduceAdd,reduceEqDiff,hx,hp,Frame.enc,(show (i:Int)<c.frames.length by omega),(show ¬f.arr<0 by omega),(show ¬(2199023255552:Int)<f.arr by omega),(show ¬f.num<0 by omega),(show ¬c.sent≤f.num by omega),(show (0:Int)<(i:Int) by omega),A9 (show i<4611686018427387904 by omega),Lq (show i<4611686018427387904 by omega) (by omega),(show ¬f.arr<(c.frames[i-1]).arr by omega),Rd.Av]
  ·simp only [P7,vv,vf,reduceCtorEq,reduceAdd,reduceEqDiff,lt_irrefl]
theorem s69 (r:Int) (hr:1≤r∧r≤1048576):AT C 69 [tI r] [tI r,.sl 10 [],tI 0,tI 0,tI 0]:=by refine AT.of (fun n=>e69 n _) ?_;refine (s95 r).mono fun n h => ?_;simp only [h,vv,vf,reduceCtorEq,reduceAdd,reduceEqDiff,hr,and_self]
theorem Qh (c:BW) (hc:Bo c) (f:Frame) (rest:List Frame) (hf:c.frames=f::rest) :
  AT C 158 c.enc [tI c.rng,.sl 10 (rest.map Frame.enc),tI c.sent,tI c.lost,tI f.arr,tI f.num,tI f.seg.kind,tI f.seg.ses,tI f.seg.ser,tI f.seg.off,tI f.seg.tot,.bool f.seg.chk,.str f.seg.data,.sl 2 (f.seg.AY.map Span.enc),tI 0]:=by
 refine AT.of (fun n=>e158 n _ _ _ _) ?_;have hlen:=hc.len;rw [hf] at hlen;simp only [length_cons] at hlen;refine ((s143 c hc).and (Qi (rest.map Frame.enc) (by simp;omega))).mono fun n h => ?_;obtain ⟨h1,h2⟩:=h;have e1:take rest.length (List.map Frame.enc rest)=List.map Frame.enc rest:=take_of_length_le (by simp);simp only [BW.enc,hf,map_cons,Frame.enc] at h1;simp only [hf,map_cons,Frame.enc,h1,vv,vf,reduceCtorEq,reduceAdd,reduceEqDiff,bne_self_eq_false,(show (((rest.length+1:Nat):Int)==0)=false by simp;omega),getElem?_cons_zero,(show (0:Int)≤1 by omega),(show (1:Int)≤((rest.length+1:Nat):Int) by omega),List.take_succ_cons,drop_succ_cons,e1,h2]
def KW (at_ num:Int) (ser:Seg) (fs:List Frame) (d:Int):List Frame:=Il (fun x=>decide (x.arr>at_+d)) ⟨at_+d,num,ser⟩ fs
def KO (at_ num:Int) (ser:Seg) (ds:List Int) (fs:List Frame):List Frame:=ds.foldl (KW at_ num ser) fs
def Ij (c:BW) (ds:List Int):Int:=if c.rng∈ds then 0 else 1
def B8 (c:BW) (at_:Int) (ser:Seg) (ds:List Int):BW:=⟨c.rng,KO at_ c.sent ser ds c.frames,c.sent+1,c.lost+Ij c ds⟩
theorem Mi (at_ num:Int) (ser:Seg) (fs:List Frame) (d:Int):(KW at_ num ser fs d).length=fs.length+1:=RO _ _ _
theorem RN {at_ num:Int} {ser:Seg} {fs:List Frame} {d:Int} (h:fs.Pairwise fun a b=>a.arr≤b.arr):(KW at_ num ser fs d).Pairwise fun a b=>a.arr≤b.arr:=by
 unfold KW;refine IU h (fun x _ hg => ?_) (fun x _ hg => ?_) (fun x _ y _ hr hg => ?_)
 ·simp only [decide_eq_true_eq] at hg;simp only;omega
 ·simp only [decide_eq_false_iff_not] at hg;simp only;omega
 ·simp only [decide_eq_true_eq] at *;omega
theorem Ra {fs:List Frame} (t:Int) (h:fs.Pairwise fun a b=>a.arr≤b.arr):Down (fun x:Frame=>decide (x.arr≤t)) fs:=by
 intro i j x y hij hx hy hlt;rcases lt_or_ge i j with hl|hl
 ·have h1:=Ag hx;have h2:=Ag hy;have:=List.pairwise_iff_getElem.1 h i j h1 h2 hl;rw [getElem?_eq_getElem h1] at hx;rw [getElem?_eq_getElem h2] at hy;cases hx;cases hy;simp only [decide_eq_true_eq] at *;omega
 ·obtain rfl:i=j:=by omega
  rw [hx] at hy;cases hy;exact hlt
theorem s156 (c:BW) (hc:Bo c) (at_:Int) (ser:Seg) (ha:0≤at_∧at_≤1099511627776) (ds:List Int) (hd:∀d∈ds,c.rng≤d∧d≤2*c.rng) (hl:c.frames.length+ds.length≤10000) :
  AT C 156 (c.enc++[tI at_,tI ser.kind,tI ser.ses,tI ser.ser,tI ser.off,tI ser.tot,.bool ser.chk,.str ser.data,.sl 2 (ser.AY.map Span.enc),.sl 1 (ds.map BY)]) ((B8 c at_ ser ds).enc++[tI 0]):=by
 refine AT.of (fun n=>e156 n _ _ _ _ _ _ _ _ _ _ _ _ _ _) ?_;have h1:=hc.rng;have hsent:=hc.sent;have hlost:=hc.lost;have hw2:w64 (2*c.rng)=2*c.rng:=Aa (by omega) (by omega);refine Ev.rw (T' := ?TT) (s143 c hc) (fun n h => ?g1) ?g2
 case g1=>
  simp only [BW.enc] at h;simp only [h,vv,vf,reduceCtorEq,reduceAdd,reduceEqDiff,bne_self_eq_false,(show ¬at_<0 by omega),(show ¬(1099511627776:Int)<at_ by omega)];rfl
 case g2=>
  refine Bs (fun (r:List Tree)=>r) ds (fun i (_:Unit)=>(([.t (tI i)],[.box [.t (tI c.rng),.t (.sl 10 (c.frames.map Frame.enc)),.t (tI c.sent),.t (tI c.lost)],.row false 0 10 [],.box [.t (tI 0),.sref 1 0 0 0,.t (tI 0),.t (tI 0)]]):List AV×Heap)) (fun _ _ _ =>.next ()) (fun _=>(B8 c at_ ser ds).enc++[tI 0]) (fun _ _=>True) () rfl trivial (FB (fun _ _=>()) (fun _=>(B8 c at_ ser ds).enc++[tI 0]) 0 ds ())
   (fun i s d hx hI=>Ev.of fun n again => ?_) (fun _ _ _ _ _ _ _=>trivial) (fun s hI => ?_)
  ·have hi:=Ag hx;have hdd:=hd d (mem_of_getElem? hx);simp only [TV,Yp,QM,vv,vf,reduceCtorEq,reduceAdd,reduceEqDiff,hx,BY,(show (i:Int)<ds.length by omega),(show ¬d<c.rng by omega),hw2,(show ¬2*c.rng<d by omega),A9 (show i<4611686018427387904 by omega),Rd.Av]
  ·have hwl:w64 ((c.frames.length:Int)+(ds.length:Int))=((c.frames.length+ds.length:Nat):Int):=by rw [Aa (by omega) (by omega)];omega
   simp only [TV,Yo,QM,VF,vv,vf,reduceCtorEq,reduceAdd,reduceEqDiff,lt_irrefl,(show ¬(0:Int)≤ -1 by omega),hwl,(show ¬(10000:Int)<((c.frames.length+ds.length:Nat):Int) by omega)];refine Vr (Ev.rw (T' := ?TT2) (Qi (c.frames.map Frame.enc) (by simp;omega)) (fun n h => ?g3) ?g4)
   case g3=>
    simp only [h,vv,vf,reduceCtorEq,reduceAdd,reduceEqDiff];rfl
   case g4=>
    refine Bs (fun (fs:List Frame)=>(⟨c.rng,fs,c.sent+1,c.lost+Ij c ds⟩:BW).enc++[tI 0]) ds (fun i (s:Nat×List Frame)=>(([.t (tI i)],[.box [.t (tI c.rng),.t (.sl 10 (c.frames.map Frame.enc)),.t (tI c.sent),.t (tI c.lost)],.row false 0 10 [],.box [.t (tI 0),.sref 1 0 0 0,.t (tI 0),.t (tI 0)],.row false s.1 10 (s.2.map Frame.enc),.row false 0 10 [],.box [.sref 3 s.1 0 s.2.length]]):List AV×Heap))
     (fun _ s d =>.next (s.1+1,KW at_ c.sent ser s.2 d)) (fun s=>s.2) (fun i s=>s.2.Pairwise (fun a b=>a.arr≤b.arr)∧s.2.length=c.frames.length+i) (0,c.frames) (by simp) ⟨hc.srt,by simp⟩ ?_
     (fun i s d hx hI => ?_) (fun i s d s' hx hI hs' => ?_) (fun s hI => ?_)
    ·rw [FB];have:∀(ds:List Int) (s:Nat×List Frame),(ds.foldl (fun (s:Nat×List Frame) d=>(s.1+1,KW at_ c.sent ser s.2 d)) s).2=KO at_ c.sent ser ds s.2:=by
      intro ds
      induction ds with
      |nil=>intro s;rfl
      |cons d ds ih=>intro s;exact ih _
     exact this ds (0,c.frames)
    ·have hi:=Ag hx;have hdd:=hd d (mem_of_getElem? hx);obtain ⟨v,fs⟩:=s;obtain ⟨hsr,hfl⟩:=hI;simp only at hsr hfl;have hwd:w64 (at_+d)=at_+d:=Aa (by omega) (by omega);have hins:KW at_ c.sent ser fs d=fs.take (fs.countP fun x=>decide (x.arr≤at_+d))++⟨at_+d,c.sent,ser⟩::fs.drop (fs.countP fun x=>decide (x.arr≤at_+d)):=by
      unfold KW;rw [Uj];obtain ⟨h1,h2⟩:=LK (Ra (at_+d) hsr);rw [h1,h2];have hf:(fun x:Frame => !decide (x.arr>at_+d))=fun x=>decide (x.arr≤at_+d):=by funext x;rw [Bool.eq_iff_iff];simp
      rw [hf]
     have key:=YD (R:=List Tree) (Z:=List AV×Heap→Option (List Tree))
      (B:=fun n z p again=>P5 n at_ [tI d] (fun p32=>Te n z (([.t (tI i)],[.box [.t (tI c.rng),.t (.sl 10 (c.frames.map Frame.enc)),.t (tI c.sent),.t (tI c.lost)],.row false 0 10 [],.box [.t (tI 0),.sref 1 0 0 0,.t (tI 0),.t (tI 0)],.row false v 10 (fs.map Frame.enc),.row false 0 10 [],.box [.sref 3 v 0 fs.length]]):List AV×Heap) at_ [tI d] ser.kind ser.ses ser.ser ser.off ser.tot ser.chk ser.data (ser.AY.map Span.enc) p32) p again)
      (fun z (k:Nat)=>z ([.t (tI ((i+1:Nat):Int))],[.box [.t (tI c.rng),.t (.sl 10 (c.frames.map Frame.enc)),.t (tI c.sent),.t (tI c.lost)],.row false 0 10 [],.box [.t (tI 0),.sref 1 0 0 0,.t (tI 0),.t (tI 0)],.row false (v+1) 10 (((fs.map Frame.enc).take k++[(⟨at_+d,c.sent,ser⟩:Frame).enc])++(fs.map Frame.enc).drop k),.row false 0 10 [],.box [.sref 3 (v+1) 0 (fs.length+1)]]))
      (fun x:Frame=>decide (x.arr≤at_+d)) fs id (fun s=>(([.t (tI s.1),.t (tI s.2)],[.box [.t (tI c.rng),.t (.sl 10 (c.frames.map Frame.enc)),.t (tI c.sent),.t (tI c.lost)],.row false 0 10 [],.box [.t (tI 0),.sref 1 0 0 0,.t (tI 0),.t (tI 0)],.row false v 10 (fs.map Frame.enc),.row false 0 10 [],.box [.sref 3 v 0 fs.length],.box []]):List AV×Heap)) (Ra _ hsr) rfl
      (fun s a1 a2 a3=>Ev.of fun n z again=>by
       obtain ⟨a,b⟩:=s;simp only at a1 a2 a3;by_cases hab:a<b
       ·have hm:fs[(a+b) / 2]? = some fs[(a+b) / 2]:=getElem?_eq_getElem (by omega);simp only [P5,Yn,vv,vf,reduceCtorEq,reduceAdd,reduceEqDiff,halfU a b (by omega),hm,Frame.enc,(show (a:Int)<(b:Int) by omega),Kj,if_pos hab,(show (((a+b) / 2:Nat):Int)<(fs.length:Int) by omega),A9 (show (a+b) / 2<4611686018427387904 by omega),hwd];by_cases hx:(fs[(a+b) / 2]).arr≤at_+d
        ·simp only [hx,(show ¬at_+d<(fs[(a+b) / 2]).arr by omega),vv,vf,reduceCtorEq,reduceAdd,reduceEqDiff,Rd.Av]
        ·simp only [hx,(show at_+d<(fs[(a+b) / 2]).arr by omega),vv,vf,reduceCtorEq,reduceAdd,reduceEqDiff,Rd.Av]
       ·obtain rfl:a=b:=by omega
        simp only [P5,Te,vv,vf,reduceCtorEq,reduceAdd,reduceEqDiff,lt_irrefl,Kj,Nat.lt_irrefl,Rd.BA,id,hwd,Frame.enc,A9 (show i<4611686018427387904 by omega),(show fs.length+1≤1073741824 by omega),(show (a:Int)≤(fs.length:Int) by omega)])
     have hkl:fs.countP (fun x:Frame=>decide (x.arr≤at_+d))≤fs.length:=List.countP_le_length;refine key.mono fun n h again => ?_;have h:=h again;simp only [P4,vv,vf,reduceCtorEq,reduceAdd,reduceEqDiff,hx,BY,(show (i:Int)<ds.length by omega),Rd.Av];refine h.trans ?_;simp only [vv,vf,reduceCtorEq,reduceAdd,reduceEqDiff,id];have hil:=Mi at_ c.sent ser fs d;rw [hil,hins];simp [Frame.enc,map_take,map_drop]
    ·have hi:=Ag hx;simp only [Rd.next.injEq] at hs';subst hs';exact ⟨RN hI.1,by rw [Mi,hI.2];omega⟩
    ·obtain ⟨v,fs⟩:=s;simp only at hI;refine (s174 ds c.rng (by omega)).mono fun n h again => ?_;have e1:take fs.length (List.map Frame.enc fs)=List.map Frame.enc fs:=take_of_length_le (by simp);have w1:w64 (c.sent+1)=c.sent+1:=Aa (by omega) (by omega);have w2:w64 (c.lost+1)=c.lost+1:=Aa (by omega) (by omega);by_cases hm:c.rng∈ds
     ·simp only [P4,vv,vf,reduceCtorEq,reduceAdd,reduceEqDiff,lt_irrefl,h,hm,e1,w1,w2,Ij,BW.enc];simp
     ·simp only [P4,vv,vf,reduceCtorEq,reduceAdd,reduceEqDiff,lt_irrefl,h,hm,e1,w1,w2,Ij,BW.enc];simp
end Ab
set_option linter.unusedVariables false
set_option linter.unusedSimpArgs false
namespace Ab
open Go
def Au (c:BW):Option Int:=c.frames.head?.map (·.arr)
def C2:Option Int→List Tree
 |none=>[tI 0,.bool false]
 |some t=>[tI t,.bool true]
theorem DQ (c:BW) (hc:Bo c):AT C 122 c.enc (C2 (Au c)):=by
 refine AT.of (fun n=>e122 n _ _ _ _) ?_;refine (s143 c hc).mono fun n h => ?_;cases hf:c.frames with
 |nil=>
  simp only [BW.enc,hf,map_nil] at h;simp only [hf,map_nil,h,vv,vf,reduceCtorEq,reduceAdd,reduceEqDiff,bne_self_eq_false,(show (((0:Nat):Int)==0)=true from rfl),Au,head?_nil,C2]
 |cons f rest=>
  simp only [BW.enc,hf,map_cons,Frame.enc] at h;simp only [hf,map_cons,Frame.enc,h,vv,vf,reduceCtorEq,reduceAdd,reduceEqDiff,bne_self_eq_false,(show (((rest.length+1:Nat):Int)==0)=false by simp;omega),getElem?_cons_zero,Frame.enc,Au,head?_cons,C2]
end Ab
set_option linter.unusedVariables false
set_option linter.unusedSimpArgs false
namespace Ab
open Go
end Ab
namespace Ab
open Go
inductive Sh where
 |i
 |k (k:IntKind)
 |b
 |s
 |l (n:Nat)
 |r (o:Nat)
 |c (v:AV)
def rcell (p:List AV×Heap) (k j:Nat):Sh→AV
 | .i =>.t (tI (cI p k j))
 | .k q =>.t (.int q (cI p k j))
 | .b =>.t (.bool (cB p k j))
 | .s =>.t (.str (cS p k j))
 | .l n =>.t (.sl n (cL p k j))
 | .r o =>.sref o (AI p k j) (AL p k j) (AH p k j)
 | .c v=>v
def rb (p:List AV×Heap) (k:Nat):Nat→List Sh→List AV
 |_,[]=>[]
 |j,x::l=>rcell p k j x::rb p k (j+1) l
inductive OSh where
 |row (z:Nat)
 |frz (z:Nat)
 |box (l:List Sh)
def robj (p:List AV×Heap) (k:Nat):OSh→AF
 | .row z =>.row false (AD p k) z (oEs p k)
 | .frz z =>.row true (AD p k) z (oEs p k)
 | .box l =>.box (rb p k 0 l)
def rh (p:List AV×Heap):Nat→List OSh→Heap
 |_,[]=>[]
 |k,s::l=>robj p k s::rh p (k+1) l
def upd {α:Type}:List α→List (Nat×α)→List α
 |l,[]=>l
 |l,(j,x)::c=>upd (l.set j x) c
noncomputable def Es (C:Cfg) (pc:BG) (n:Nat) (ff:Nat→Rec) (S:List FuncId):Nat→Rec
 |0=>fun _ _ _ _=>none
 |d+1=>fun R r h K=>match r with
  | .fn g avs=>match S.contains g with
   |true=>ff (d+1) R (.fn g avs) h K
   |false=>Cy C (Es C pc n ff S d) pc n g avs h K
  | .yield i args=>MC C (Es C pc n ff S d) pc n i args h K
noncomputable def fI (C:Cfg) (n:Nat):Nat→Rec:=inl C (pcx C (AA C n)) n
theorem H4 (C:Cfg) (n:Nat) (S:List FuncId):∀d,Es C (pcx C (AA C n)) n (fI C n) S d=inl C (pcx C (AA C n)) n d
 |0=>rfl
 |d+1=>by
  funext R r h K;cases r with
  |fn g avs=>
   show (match S.contains g with
    |true=>fI C n (d+1) R (.fn g avs) h K
    |false=>Cy C (Es C (pcx C (AA C n)) n (fI C n) S d) (pcx C (AA C n)) n g avs h K)=_
   cases S.contains g with
   |true=>rfl
   |false=>rw [H4 C n S d];rfl
  |yield i args=>
   show MC C (Es C (pcx C (AA C n)) n (fI C n) S d) (pcx C (AA C n)) n i args h K=_;rw [H4 C n S d];rfl
theorem E3 (C:Cfg) (n:Nat) (S:List FuncId) (d:Nat) (R:Type) (g:FuncId) (avs:List AV) (h:Heap) (K:List AV→Heap→Option R) :
  fI C n (d+1) R (.fn g avs) h K=Cy C (Es C (pcx C (AA C n)) n (fI C n) S d) (pcx C (AA C n)) n g avs h K:=by
 rw [H4];rfl
theorem pureO (C:Cfg) (n:Nat) (S:List FuncId) (g:FuncId) (xs:List Tree):JQ C (Es C (pcx C (AA C n)) n (fI C n) S C.depth) (pcx C (AA C n)) n g xs=JQ C (inl C (pcx C (AA C n)) n C.depth) (pcx C (AA C n)) n g xs:=by rw [H4]
theorem NB (C:Cfg) (n:Nat) (g:FuncId) (xs:List Tree) (hg:g<OWN) (he:C.ext g xs=none):AA C (n+1) g xs=JQ C (inl C (pcx C (AA C n)) n C.depth) (pcx C (AA C n)) n g xs:=by
 show (if g<OWN then _ else _)=_;rw [if_pos hg];show (match C.ext g xs with
  |some ys=>some ys
  |none=>JQ C (inl C (pcx C (AA C n)) n C.depth) (pcx C (AA C n)) n g xs)=_
 rw [he]
end Ab
set_option linter.unusedVariables false
set_option linter.unusedSimpArgs false
namespace Ab
open Go
def LQ (l:List Span) (t:Int):Bool:=decide (BM l=0∧AX t l)
theorem Fq (l:List Span) (t:Int):AT C 175 [.sl 2 (l.map Span.enc),tI t] [.bool (LQ l t)]:=by
 refine AT.of (fun n=>e175 n _ _) ?_;unfold LQ;by_cases hc:BM l=0
 ·refine Ev.rw (T' := ?TT) (s67 l) (fun n h => ?g1) ?g2
  case g1=>
   simp only [h,vv,vf,reduceCtorEq,reduceAdd,reduceEqDiff,hc,beq_self_eq_true];rfl
  case g2=>
   have hlen:=Bm hc;have hm:decide (BM l=0∧AX t l)=l.any (fun x=>decide (x.fro≤t∧t<x.to)):=by rw [Bool.eq_iff_iff,decide_eq_true_eq];simp only [hc,true_and];exact RG t l
   have key:=Bs (R:=List Tree) (B:=fun n p again=>Ks n (l.map Span.enc) (fun p7=>Ku n (fun p5=>Hi n (fun p2=>I2 n p2) p5) p7) t p again) (fun (q:Bool)=>[Tree.bool q]) l (fun i (_:Unit)=>(([.t (tI i)],[]):List AV×Heap))
    (fun _ _ x=>if (fun x:Span=>decide (x.fro≤t∧t<x.to)) x=true then .done true else .next ()) (fun _=>false) (fun _ _=>True) () (s:=(([.t (tI 0)],[]):List AV×Heap)) rfl trivial (Ql (fun x:Span=>decide (x.fro≤t∧t<x.to)) 0 l)
    (fun i s x hx hI=>Ev.of fun n again => ?_) (fun _ _ _ _ _ _ _=>trivial) (fun s hI=>Ev.of fun n again => ?_)
   ·refine key.mono fun n h => ?_;rw [hm];simpa only [hc,true_and] using h
   ·have hi:=Ag hx;by_cases h1:x.fro≤t
    ·by_cases h2:t<x.to
     ·simp only [Ks,Nf,Ku,Hi,I2,vv,vf,reduceCtorEq,reduceAdd,reduceEqDiff,hx,Span.enc,(show (i:Int)<l.length by omega),h1,h2,Rd.BA,and_self]
     ·simp only [Ks,Nf,Ku,Hi,I2,vv,vf,reduceCtorEq,reduceAdd,reduceEqDiff,hx,Span.enc,(show (i:Int)<l.length by omega),h1,h2,Rd.Av,and_self,A9 (show i<4611686018427387904 by omega)]
    ·simp only [Ks,Nf,Ku,Hi,I2,vv,vf,reduceCtorEq,reduceAdd,reduceEqDiff,hx,Span.enc,(show (i:Int)<l.length by omega),h1,Rd.Av,A9 (show i<4611686018427387904 by omega)]
   ·simp only [Ks,Nf,Ku,Hi,I2,vv,vf,reduceCtorEq,reduceAdd,reduceEqDiff,lt_irrefl,(show ¬(0:Int)≤ -1 by omega)]
 ·refine (s67 l).mono fun n h => ?_;have hc':(BM l==0)=false:=by simpa using hc
  simp only [h,I2,vv,vf,reduceCtorEq,reduceAdd,reduceEqDiff,hc,hc']
structure Gh where
 v0:Nat
 v4:Nat
 v5:Nat
 pre:List (List Tree)
abbrev E0:AF :=.box []
structure Ses where
 dat:BW
 rep:BW
 picks:List Int
 limit:Int
 dark:List Span
 entered:Int
 dist:Int
 sent:List Out
 told:List Out
 now:Int
 snd:Snd
 rcv:Rcv
 pend:List Out
 rcvd:Bool
 arrive:Int
 kno:Bool
 knoAt:Int
def Ce (s:Ses) (R:Int):List Int×Int:=
 if LQ s.dark s.now=true then ([],s.dist)
 else if s.picks=[] then ([R],s.dist)
 else if (BJ (s.picks.getD (s.entered % s.picks.length).toNat 0) R).head? = some R then (BJ (s.picks.getD (s.entered % s.picks.length).toNat 0) R,s.dist)
 else if 0≤s.limit∧s.limit≤s.dist then ([R],s.dist)
 else (BJ (s.picks.getD (s.entered % s.picks.length).toNat 0) R,s.dist+1)
def DJ (s:Ses) (x:Seg):Ses:={s with dat:=B8 s.dat s.now x (Ce s s.dat.rng).1,dist:=(Ce s s.dat.rng).2,entered:=s.entered+1,sent:=s.sent++[⟨s.now,x⟩]}
def Ch (s:Ses) (x:Seg):Ses:={s with rep:=B8 s.rep s.now x (Ce s s.rep.rng).1,dist:=(Ce s s.rep.rng).2,entered:=s.entered+1,told:=s.told++[⟨s.now,x⟩]}
def txS:Nat→Ses→Ses
 |0,s=>s
 |k+1,s=>match s.pend with
  |[]=>s
  |o::l=>if o.at_=s.now then txS k {DJ s o.seg with pend:=l} else s
def BE (s:Ses):Ses:={s with dat:={s.dat with frames:=s.dat.frames.tail}}
def Bq (s:Ses):Ses:={s with rep:={s.rep with frames:=s.rep.frames.tail}}
def rxH (s:Ses) (x:Seg):Ses:=(EN s.rcv x).2.1.foldl Ch {s with rcv:=(EN s.rcv x).1}
def rxF (s:Ses):Ses:=if s.rcvd=false∧A3 s.rcv=true then {s with rcvd:=true,arrive:=s.now} else s
def rxX (s:Ses) (x:Seg):Ses:=rxF (rxH s x)
def rxS:Nat→Ses→Ses
 |0,s=>s
 |k+1,s=>match s.dat.frames with
  |[]=>s
  |f::_=>if f.arr=s.now then rxS k (rxX (BE s) f.seg) else s
def lsF (s:Ses):Ses:=if s.kno=false∧s.snd.st=2 then {s with kno:=true,knoAt:=s.now} else s
def lsX (s:Ses) (x:Seg):Ses:=if s.now<s.snd.busy then s else lsF {s with snd:=(BK s.snd s.now x).1,pend:=s.pend++(BK s.snd s.now x).2.1}
def lsS:Nat→Ses→Ses
 |0,s=>s
 |k+1,s=>match s.rep.frames with
  |[]=>s
  |f::_=>if f.arr=s.now then lsS k (lsX (Bq s) f.seg) else s
def exS (s:Ses):Ses:=if s.snd.st=1∧s.snd.due=s.now then {s with snd:=(Ca s.snd s.now).1,pend:=s.pend++(Ca s.snd s.now).2.1} else s
def B3:Option Int→Option Int→Option Int
 |none,o=>o
 |some a,none=>some a
 |some a,some b=>some (if b<a then b else a)
def nxS (s:Ses):Option Int:=B3 (B3 (B3 (s.pend.head?.map (·.at_)) (Au s.dat)) (Au s.rep)) (if s.snd.st=1 then some s.snd.due else none)
def ph1 (s:Ses) (t:Int):Ses:=txS s.pend.length {s with now:=t}
def ph2 (s:Ses) (t:Int):Ses:=rxS (ph1 s t).dat.frames.length (ph1 s t)
def ph3 (s:Ses) (t:Int):Ses:=lsS (ph2 s t).rep.frames.length (ph2 s t)
def stS (s:Ses) (t:Int):Ses:=exS (ph3 s t)
def Gn:Nat→Ses→Ses
 |0,s=>s
 |k+1,s=>match nxS s with
  |none=>s
  |some t=>Gn k (stS s t)
end Ab
set_option linter.unusedVariables false
set_option linter.unusedSimpArgs false
namespace Ab
open Go
theorem vv2 :
  (∀(e:List AV) (h:Heap) (k:Nat),vI (e,h) k=intOf (AB (List.getD e k AV.undef)))∧
  (∀(e:List AV) (h:Heap) (k:Nat),vB (e,h) k=Ar (AB (List.getD e k AV.undef)))∧
  (∀(e:List AV) (h:Heap) (k:Nat),vS (e,h) k=strOf (AB (List.getD e k AV.undef)))∧
  (∀(e:List AV) (h:Heap) (k:Nat),vL (e,h) k=Bb (AB (List.getD e k AV.undef)))∧
  (∀(e:List AV) (h:Heap) (k:Nat),L9 (e,h) k=Ei (List.getD e k AV.undef))∧
  (∀(e:List AV) (h:Heap) (k:Nat),sOff (e,h) k=Gf (List.getD e k AV.undef))∧
  (∀(e:List AV) (h:Heap) (k:Nat),Gm (e,h) k=Gg (List.getD e k AV.undef))∧
  (∀(x:Tree) (l:List Tree),gI (x::l) (0:Nat)=intOf x)∧
  (∀(x:Tree) (l:List Tree) (k:Nat),gI (x::l) (k+(1:Nat))=gI l k)∧
  (∀(x:Tree) (l:List Tree),gB (x::l) (0:Nat)=Ar x)∧
  (∀(x:Tree) (l:List Tree) (k:Nat),gB (x::l) (k+(1:Nat))=gB l k)∧
  (∀(x:Tree) (l:List Tree),gS (x::l) (0:Nat)=strOf x)∧
  (∀(x:Tree) (l:List Tree) (k:Nat),gS (x::l) (k+(1:Nat))=gS l k)∧
  (∀(x:Tree) (l:List Tree),gL (x::l) (0:Nat)=Bb x)∧
  (∀(x:Tree) (l:List Tree) (k:Nat),gL (x::l) (k+(1:Nat))=gL l k)∧
  (∀(x:Tree) (l:List Tree),okI (x::l) (0:Nat)=(Er IntKind.i64 x=true))∧
  (∀(x:Tree) (l:List Tree) (k:Nat),okI (x::l) (k+(1:Nat))=okI l k)∧
  (∀(x:Tree) (l:List Tree),okB (x::l) (0:Nat)=(Dm x=true))∧
  (∀(x:Tree) (l:List Tree) (k:Nat),okB (x::l) (k+(1:Nat))=okB l k)∧
  (∀(x:Tree) (l:List Tree),okS (x::l) (0:Nat)=(Ep x=true))∧
  (∀(x:Tree) (l:List Tree) (k:Nat),okS (x::l) (k+(1:Nat))=okS l k)∧
  (∀(z:Nat) (x:Tree) (l:List Tree),okL z (x::l) (0:Nat)=(E2 z x=true))∧
  (∀(z:Nat) (x:Tree) (l:List Tree) (k:Nat),okL z (x::l) (k+(1:Nat))=okL z l k)∧
  (∀(k:IntKind) (n:Int),Er k (Tree.int k n)=true)∧
  (∀(b:Bool),Dm (Tree.bool b)=true)∧
  (∀(b:ByteArray),Ep (Tree.str b)=true)∧
  (∀(z:Nat) (es:List (List Tree)),E2 z (Tree.sl z es)=true)∧
  (∀(k:IntKind) (n:Int),intOf (Tree.int k n)=n)∧
  (∀(b:Bool),Ar (Tree.bool b)=b)∧
  (∀(b:ByteArray),strOf (Tree.str b)=b)∧
  (∀(z:Nat) (es:List (List Tree)),Bb (Tree.sl z es)=es)∧
  (∀(x:Tree),AB (AV.t x)=x)∧
  (∀(i v o l:Nat),Ei (AV.sref i v o l)=v)∧
  (∀(i v k o:Nat),Ei (AV.rptr i v k o)=v)∧
  (∀(i v o l:Nat),Gf (AV.sref i v o l)=o)∧
  (∀(i v o l:Nat),Gg (AV.sref i v o l)=l)∧
  (∀(f:Bool) (v z:Nat) (es:List (List Tree)),AF.ver (AF.row f v z es)=v)∧
  (∀(f:Bool) (v z:Nat) (es:List (List Tree)),Am (AF.row f v z es)=es)∧
  (∀(cs:List AV) (j:Nat),cellOf (AF.box cs) j=List.getD cs j AV.undef)∧
  (∀(e:List AV) (h:Heap) (k j:Nat),aI (e,h) k j=intOf (AB (List.getD (DV (List.getD e k AV.undef)) j AV.undef)))∧
  (∀(e:List AV) (h:Heap) (k j:Nat),aB (e,h) k j=Ar (AB (List.getD (DV (List.getD e k AV.undef)) j AV.undef)))∧
  (∀(e:List AV) (h:Heap) (k j:Nat),aS (e,h) k j=strOf (AB (List.getD (DV (List.getD e k AV.undef)) j AV.undef)))∧
  (∀(e:List AV) (h:Heap) (k j:Nat),aL (e,h) k j=Bb (AB (List.getD (DV (List.getD e k AV.undef)) j AV.undef)))∧
  (∀(cs:List AV),DV (AV.agg cs)=cs)∧
  (∀{R S:Type} (J:S→Option R) (f:(S→Option R)→Option R),join J f=f J)∧
  (∀{α:Type} {x:α} {xs:List α} {d:α},List.getD (x::xs) (0:Nat) d=x)∧
  (∀{α:Type} {x:α} {xs:List α} {n:Nat} {d:α},List.getD (x::xs) (n+(1:Nat)) d=List.getD xs n d)∧
  (∀(h:Decidable True),@decide True h=true)∧
  (∀(h:Decidable False),@decide False h=false)∧
  (∀{R:Type} {i:Decidable True} (a b:Option R),@cnd R True i a b=a)∧
  (∀{R:Type} {i:Decidable False} (a b:Option R),@cnd R False i a b=b)∧
  (∀(p:Prop),(True∧p)=p)∧
  (∀(p:Prop),(p∧True)=p)∧
  (∀(p:Prop),(False∧p)=False)∧
  (∀(p:Prop),(p∧False)=False)∧
  (∀{α β:Type} (a:α) (f:α→Option β),Option.bind (some a) f=f a)∧
  (∀{α β:Type} (f:α→Option β),Option.bind (none:Option α) f=none)∧
  (∀{α:Type} {a:α} {l:List α},length (a::l)=length l+(1:Nat))∧
  (∀{α:Type},length ([]:List α)=(0:Nat))∧
  (∀{α β:Type} {l:List α} (f:α→β),length (List.map f l)=length l)∧
  (∀{α β:Type} {f:α→β} {l:List α} {i:Nat},(List.map f l)[i]? = Option.map f l[i]?)∧
  (∀{α β:Type} (a:α) (f:α→β),Option.map f (some a)=some (f a))∧
  (∀{α β:Type} (f:α→β),Option.map f (none:Option α)=none)∧
  (∀(n:Nat),toNat (n:Int)=n)∧
  (∀{α:Type} (a:α),(a=a)=True)∧
  (∀{α:Type} {x:Decidable True} (t e:α),@ite α True x t e=t)∧
  (∀{α:Type} {x:Decidable False} (t e:α),@ite α False x t e=e)∧
  (∀(n:Nat),(0:Nat)+n=n)∧
  (∀(n:Nat),(0:Int)≤(n:Int))∧
  (∀{α:Type} {l:List α},drop (0:Nat) l=l)∧
  (∀(p:Prop),(p∨True)=True)∧
  (∀(p:Prop),(True∨p)=True)∧
  (∀(p:Prop),(p∨False)=p)∧
  (∀(p:Prop),(False∨p)=p)∧
  ((!true)=false)∧
  ((!false)=true)∧
  ((false=true)=False)∧
  (∀{p:Prop} [inst:Decidable p],(decide p=true)=p)∧
  (∀{α:Type} [inst:LE α] {x y:α},x≥y↔y≤x)∧
  (∀{α:Type} [inst:LT α] {x y:α},x>y↔y<x):=
 ⟨@vI_mk,@N0,@vS_mk,@vL_mk,@T6,@T7,@T8,@Ut,@Uu,@Uv,@Uw,@Up,@Uq,@Ur,@Us,@Q5,@Q6,@Q7,@Q8,@Q1,@Q2,@Q3,@Q4,@Mg,@Jh,@Mf,@RJ,@intOf_int,@LM,@N6,@T2,@QZ,@L0,@L1,@L2,@L3,@FW,@Ej,@M3,@aI_mk,@aB_mk,@aS_mk,@aL_mk,@Ow,@join_eq,@List.getD_cons_zero,@List.getD_cons_succ,@decide_true,@decide_false,@Ri,@Of,@true_and,@and_true,@false_and,@and_false,@Option.bind_some,@bind_none,@length_cons,@length_nil,@length_map,@getElem?_map,@map_some,@map_none,@toNat_natCast,@eq_self,@if_true,@if_false,@zero_add,@Int.natCast_nonneg,@drop_zero,@or_true,@true_or,@or_false,@false_or,@Bool.not_true,@Bool.not_false,@false_eq_true,@decide_eq_true_eq,@ge_iff_le,@gt_iff_lt⟩
theorem Fy (n r:Int):(BJ n r).length≤2:=by
 unfold BJ
 repeat' split
 all_goals simp
theorem Fx {n r d:Int} (hr:1≤r) (h:d∈BJ n r):r≤d∧d≤2*r:=by
 have hm:=emod_nonneg (n / 8) (show r≠0 by omega);have hml:=emod_lt_of_pos (n / 8) (show 0<r by omega);unfold BJ at h
 repeat' split at h
 all_goals simp at h
 all_goals omega
def BB (x:Seg):List AV:=[.t (tI x.kind),.t (tI x.ses),.t (tI x.ser),.t (tI x.off),.t (tI x.tot),.t (.bool x.chk),.t (.str x.data),.t (.sl 2 (x.AY.map Span.enc))]
structure EOk (s:Ses) (c:BW):Prop where
 gc:Bo c
 now:0≤s.now∧s.now≤1099511627776
 pk:∀p∈s.picks,-9223372036854775808≤p∧p≤9223372036854775807
 ent:0≤s.entered∧s.entered<10000
 len:c.frames.length+2≤10000
 dst:0≤s.dist∧s.dist≤10000
 sl:s.sent.length<1000000∧s.told.length<1000000
 pl:s.picks.length≤1000
theorem Ee (s:Ses) (x:Seg) (ds:List Int) (u:Int) (h:Ce s s.dat.rng=(ds,u)):DJ s x={s with dat:=B8 s.dat s.now x ds,dist:=u,entered:=s.entered+1,sent:=s.sent++[⟨s.now,x⟩]}:=by unfold DJ;rw [h]
theorem Ed (s:Ses) (x:Seg) (ds:List Int) (u:Int) (h:Ce s s.rep.rng=(ds,u)):Ch s x={s with rep:=B8 s.rep s.now x ds,dist:=u,entered:=s.entered+1,told:=s.told++[⟨s.now,x⟩]}:=by unfold Ch;rw [h]
def boO (o:Option Int):Heap:=[.box [.t (tI (o.getD 0))],.box [.t (.bool o.isSome)]]
def CG (o:Option Int):List AV:=[.t (tI (o.getD 0)),.t (.bool o.isSome)]
def exG (g:Gh) (s:Ses):Gh:=if s.snd.st=1∧s.snd.due=s.now then {g with v0:=g.v0+1,pre:=[]} else g
def EB:Seg:=⟨0,0,0,0,0,false,ByteArray.mk #[],[]⟩
def Bf (s:Ses):Ses×Option Seg:=
 match s.rep.frames with
 |[]=>(s,none)
 |f::_=>if f.arr=s.now then (Bq s,some f.seg) else (s,none)
def Bg (s:Ses):Ses×Option Seg:=
 match s.dat.frames with
 |[]=>(s,none)
 |f::_=>if f.arr=s.now then (BE s,some f.seg) else (s,none)
theorem EO {c:BW} (hc:Bo c):Bo {c with frames:=c.frames.tail}:=by
 refine ⟨hc.rng,hc.lost,hc.sent,?_,fun f hf=>hc.frm f (List.mem_of_mem_tail hf),?_⟩
 ·have:=hc.len;simp;omega
 ·have:=hc.srt;cases h:c.frames with
  |nil=>simp
  |cons f l=>rw [h] at this;exact (pairwise_cons.1 this).2
def gP (g:Gh):Gh:={g with v0:=g.v0+1,pre:=[]}
def lsG (g:Gh) (s:Ses):Gh:=if s.now<s.snd.busy then g else gP g
structure LsP (P:Ses→Prop):Prop where
 rep:∀s,P s→Bo s.rep
 ack:∀s,P s→s.snd.acked.length≤100∧s.pend.length≤1000000
 EN:∀s f l,P s→s.rep.frames=f::l→f.arr=s.now→(f.seg.AY.length≤100∨1000<f.seg.AY.length)∧(¬s.now<s.snd.busy→(BK s.snd s.now f.seg).2.2=0∧(BK s.snd s.now f.seg).2.1.length≤1000000)∧P (lsX (Bq s) f.seg)
def lsT:Nat→Gh×Ses→Gh×Ses
 |0,q=>q
 |k+1,q=>match q.2.rep.frames with
  |[]=>q
  |f::_=>if f.arr=q.2.now then lsT k (lsG q.1 (Bq q.2),lsX (Bq q.2) f.seg) else q
theorem PX:∀(k:Nat) (q:Gh×Ses),(lsT k q).2=lsS k q.2
 |0,q=>rfl
 |k+1,q=>by
  unfold lsT lsS;cases q.2.rep.frames with
  |nil=>rfl
  |cons f l=>
   simp only;split
   ·exact PX k _
   ·rfl
theorem Jd (s:Ses) (x:Seg):(lsX s x).rep=s.rep:=by
 unfold lsX lsF;split
 ·rfl
 ·split<;>rfl
structure LS where
 g:Gh
 s:Ses
 v:Nat
 o:Option Seg
def LS.step (q:LS):Rd LS (Gh×Ses):=match q.o with
 |none =>.done (q.g,q.s)
 |some x =>.next ⟨lsG q.g q.s,(Bf (lsX q.s x)).1,q.v+1,(Bf (lsX q.s x)).2⟩
def LS.res (q:LS):Gh×Ses:=match q.o with
 |none=>(q.g,q.s)
 |some x=>lsT q.s.rep.frames.length (lsG q.g q.s,lsX q.s x)
def LS.inv (P:Ses→Prop) (q:LS):Prop:=Bo q.s.rep∧match q.o with
 |none=>True
 |some x=>(q.s.snd.acked.length≤100∧q.s.pend.length≤1000000)∧(x.AY.length≤100∨1000<x.AY.length)∧(¬q.s.now<q.s.snd.busy→(BK q.s.snd q.s.now x).2.2=0∧(BK q.s.snd q.s.now x).2.1.length≤1000000)∧P (lsX q.s x)
theorem LS.take {P:Ses→Prop} (hP:LsP P) {s:Ses} (h:P s) (g:Gh) (v:Nat):LS.inv P ⟨g,(Bf s).1,v,(Bf s).2⟩∧LS.res ⟨g,(Bf s).1,v,(Bf s).2⟩=lsT s.rep.frames.length (g,s):=by
 have hg:=hP.rep s h;unfold Bf;cases hf:s.rep.frames with
 |nil=>exact ⟨⟨hg,trivial⟩,by simp [LS.res,lsT]⟩
 |cons f l=>
  simp only;split
  ·rename_i ha;obtain ⟨h1,h2,h3⟩:=hP.EN s f l h hf ha;refine ⟨⟨EO hg,hP.ack s h,h1,h2,h3⟩,?_⟩;simp only [LS.res,length_cons,lsT,hf,ha,if_true];have:(Bq s).rep.frames.length=l.length:=by simp [Bq,hf]
   rw [this]
  ·rename_i ha;refine ⟨⟨hg,trivial⟩,?_⟩;simp only [LS.res,length_cons,lsT,hf,ha,if_false]
theorem LS.sound {P:Ses→Prop} (hP:LsP P) (q q':LS) (h:q.inv P) (hs:q.step = .next q'):q'.inv P∧(q'.s.rep.frames.length+(if q'.o.isSome then 1 else 0)<q.s.rep.frames.length+(if q.o.isSome then 1 else 0)):=by
 obtain ⟨g,s,v,o⟩:=q;unfold LS.step at hs;cases o with
 |none=>cases hs
 |some x=>
  cases hs;refine ⟨(LS.take hP h.2.2.2.2 _ _).1,?_⟩;simp only [Bf,Jd];cases hf:s.rep.frames with
  |nil=>simp [Jd,hf]
  |cons f l=>
   simp only;split
   ·simp [Bq,Jd,hf]
   ·simp [Jd,hf]
theorem LS.fin {P:Ses→Prop} (hP:LsP P) (q:LS) (h:q.inv P):q.res=q.step.fin LS.res:=by
 obtain ⟨g,s,v,o⟩:=q;cases o with
 |none=>rfl
 |some x=>
  simp only [LS.step,Rd.fin];rw [(LS.take hP h.2.2.2.2 _ _).2,Jd];rfl
end Ab
set_option linter.unusedVariables false
set_option linter.unusedSimpArgs false
namespace Ab
open Go
structure Bud (k:Nat) (s:Ses):Prop where
 gd:Bo s.dat
 gr:Bo s.rep
 now:0≤s.now∧(0<k→s.now≤1099511627776)
 pk:∀p∈s.picks,-9223372036854775808≤p∧p≤9223372036854775807
 ent:0≤s.entered∧s.entered+k≤5000
 ld:(s.dat.frames.length:Int)≤2*s.entered
 lr:(s.rep.frames.length:Int)≤2*s.entered
 sd:s.dat.sent≤s.entered
 sr:s.rep.sent≤s.entered
 dst:0≤s.dist∧s.dist≤s.entered
 sl:(s.sent.length:Int)≤s.entered
 tl:(s.told.length:Int)≤s.entered
 pl:s.picks.length≤1000
theorem Bud.mono {k k':Nat} {s:Ses} (h:Bud k s) (hk:k'≤k):Bud k' s:={h with ent:=by have:=h.ent;omega,now:=⟨h.now.1,fun q=>h.now.2 (by omega)⟩}
theorem Bud.eD {k:Nat} {s:Ses} (h:Bud (k+1) s):EOk s s.dat:=by have:=h.ent;have:=h.ld;have:=h.dst;have:=h.sl;have:=h.tl;exact ⟨h.gd,⟨h.now.1,h.now.2 (by omega)⟩,h.pk,by omega,by omega,by omega,by omega,h.pl⟩
theorem Bud.eR {k:Nat} {s:Ses} (h:Bud (k+1) s):EOk s s.rep:=by have:=h.ent;have:=h.lr;have:=h.dst;have:=h.sl;have:=h.tl;exact ⟨h.gr,⟨h.now.1,h.now.2 (by omega)⟩,h.pk,by omega,by omega,by omega,by omega,h.pl⟩
theorem Ft (t num:Int) (x:Seg):∀(ds:List Int) (fs:List Frame),(KO t num x ds fs).length=fs.length+ds.length
 |[],fs=>by simp [KO]
 |d::ds,fs=>by show (KO t num x ds (KW t num x fs d)).length=_;rw [Ft t num x ds,Mi];simp;omega
theorem Dc {t num:Int} {x:Seg} {f:Frame}:∀{ds:List Int} {fs:List Frame},f∈KO t num x ds fs↔f∈fs∨∃d∈ds,f=⟨t+d,num,x⟩
 |[],fs=>by simp [KO]
 |d::ds,fs=>by
  show f∈KO t num x ds (KW t num x fs d)↔_;rw [Dc];unfold KW;rw [Mj];simp only [mem_cons,exists_eq_or_imp];constructor
  ·rintro ((h|h)|h)
   ·exact .inr (.inl h)
   ·exact .inl h
   ·exact .inr (.inr h)
  ·rintro (h|h|h)
   ·exact .inl (.inr h)
   ·exact .inl (.inl h)
   ·exact .inr h
theorem Qy {t num:Int} {x:Seg}:∀{ds:List Int} {fs:List Frame},fs.Pairwise (fun a b=>a.arr≤b.arr)→(KO t num x ds fs).Pairwise fun a b=>a.arr≤b.arr
 |[],fs,h=>h
 |d::ds,fs,h=>Qy (ds:=ds) (RN h)
theorem Pk {s:Ses} {R:Int} (hR:1≤R):(∀d∈(Ce s R).1,R≤d∧d≤2*R)∧(Ce s R).1.length≤2∧s.dist≤(Ce s R).2∧(Ce s R).2≤s.dist+1:=by
 unfold Ce;split
 ·simp;omega
 ·split
  ·simp;omega
  ·split
   ·exact ⟨fun d hd=>Fx hR hd,Fy _ _,by simp,by simp only;omega⟩
   ·split
    ·simp;omega
    ·exact ⟨fun d hd=>Fx hR hd,Fy _ _,by simp only;omega,by simp⟩
theorem Mo {c:BW} {t:Int} {x:Seg} {ds:List Int} (hc:Bo c) (ht:0≤t∧t≤1099511627776) (hd:∀d∈ds,c.rng≤d∧d≤2*c.rng) (hl:c.frames.length+ds.length≤10000) (hs:c.sent<1152921504606846976):Bo (B8 c t x ds):=by
 have h1:=hc.rng;have h2:=hc.lost;refine ⟨h1,?_,?_,?_,fun f hf => ?_,Qy hc.srt⟩
 ·simp only [B8,Ij];split<;>omega
 ·simp only [B8];omega
 ·simp only [B8,Ft];exact hl
 ·simp only [B8] at hf;rcases Dc.1 hf with hf|⟨d,hdd,rfl⟩
  ·have:=hc.frm f hf;simp only [B8];omega
  ·have:=hd d hdd;simp only [B8];omega
theorem Bud.DJ {k:Nat} {s:Ses} (h:Bud (k+1) s) (x:Seg):Bud k (DJ s x):=by
 have he:=h.eD;have hr:=h.gd.rng;obtain ⟨d1,d2,d3,d4⟩:=Pk (s:=s) hr.1;have:=h.ent;have:=h.ld;have:=h.lr;have:=h.dst;have:=h.sl;have:=h.tl;have:=h.sd;have:=h.sr;refine ⟨Mo h.gd he.now d1 (by omega) (by omega),h.gr,⟨h.now.1,fun _=>h.now.2 (by omega)⟩,h.pk,?_,?_,?_,?_,?_,?_,?_,?_,h.pl⟩
 all_goals simp only [Ab.DJ,B8,Ft,length_append,length_cons,length_nil]
 all_goals omega
theorem Bud.Ch {k:Nat} {s:Ses} (h:Bud (k+1) s) (x:Seg):Bud k (Ch s x):=by
 have he:=h.eR;have hr:=h.gr.rng;obtain ⟨d1,d2,d3,d4⟩:=Pk (s:=s) hr.1;have:=h.ent;have:=h.ld;have:=h.lr;have:=h.dst;have:=h.sl;have:=h.tl;have:=h.sd;have:=h.sr;refine ⟨h.gd,Mo h.gr he.now d1 (by omega) (by omega),⟨h.now.1,fun _=>h.now.2 (by omega)⟩,h.pk,?_,?_,?_,?_,?_,?_,?_,?_,h.pl⟩
 all_goals simp only [Ab.Ch,B8,Ft,length_append,length_cons,length_nil]
 all_goals omega
theorem Bud.BE {k:Nat} {s:Ses} (h:Bud k s):Bud k (BE s):={h with gd:=EO h.gd,ld:=by have:=h.ld;simp only [Ab.BE,length_tail];omega}
theorem Bud.Bq {k:Nat} {s:Ses} (h:Bud k s):Bud k (Bq s):={h with gr:=EO h.gr,lr:=by have:=h.lr;simp only [Ab.Bq,length_tail];omega}
theorem Bud.of {k:Nat} {s s':Ses} (h:Bud k s) (h1:s'.dat=s.dat) (h2:s'.rep=s.rep) (h3:s'.now=s.now) (h4:s'.picks=s.picks) (h5:s'.entered=s.entered) (h6:s'.dist=s.dist) (h7:s'.sent=s.sent) (h8:s'.told=s.told):Bud k s':=
 ⟨h1 ▸ h.gd,h2 ▸ h.gr,h3 ▸ h.now,h4 ▸ h.pk,h5 ▸ h.ent,by rw [h1,h5];exact h.ld,by rw [h2,h5];exact h.lr,by rw [h1,h5];exact h.sd,by rw [h2,h5];exact h.sr,by rw [h6,h5];exact h.dst,by rw [h7,h5];exact h.sl,by rw [h8,h5];exact h.tl,h4 ▸ h.pl⟩
theorem KZ:∀(l:List Seg) (s:Ses),(l.foldl Ch s).dat=s.dat
 |[],s=>rfl
 |x::l,s=>by rw [foldl_cons,KZ l];rfl
theorem KY:∀(l:List Seg) (s:Ses),(l.foldl Ch s).now=s.now
 |[],s=>rfl
 |x::l,s=>by rw [foldl_cons,KY l];rfl
def rxG (g:Gh) (s:Ses) (x:Seg):Gh:={g with v5:=g.v5+(EN s.rcv x).2.1.length}
structure RxP (P:Ses→Prop):Prop where
 dat:∀s,P s→Bo s.dat
 EN:∀s f l,P s→s.dat.frames=f::l→f.arr=s.now→(EN s.rcv f.seg).2.2=0∧Bud (EN s.rcv f.seg).2.1.length (BE s)∧P (rxX (BE s) f.seg)
def rxT:Nat→Gh×Ses→Gh×Ses
 |0,q=>q
 |k+1,q=>match q.2.dat.frames with
  |[]=>q
  |f::_=>if f.arr=q.2.now then rxT k (rxG q.1 (BE q.2) f.seg,rxX (BE q.2) f.seg) else q
theorem PH:∀(k:Nat) (q:Gh×Ses),(rxT k q).2=rxS k q.2
 |0,q=>rfl
 |k+1,q=>by
  unfold rxT rxS;cases q.2.dat.frames with
  |nil=>rfl
  |cons f l=>
   simp only;split
   ·exact PH k _
   ·rfl
theorem E6 (s:Ses) (x:Seg):(rxX s x).dat=s.dat:=by
 unfold rxX rxF rxH;split
 ·show (List.foldl Ch _ _).dat=_;rw [KZ]
 ·rw [KZ]
theorem PG (s:Ses) (x:Seg):(rxX s x).now=s.now:=by
 unfold rxX rxF rxH;split
 ·show (List.foldl Ch _ _).now=_;rw [KY]
 ·rw [KY]
structure RS where
 g:Gh
 s:Ses
 v:Nat
 o:Option Seg
def RS.step (q:RS):Rd RS (Gh×Ses):=match q.o with
 |none =>.done (q.g,q.s)
 |some x =>.next ⟨rxG q.g q.s x,(Bg (rxX q.s x)).1,q.v+1,(Bg (rxX q.s x)).2⟩
def RS.res (q:RS):Gh×Ses:=match q.o with
 |none=>(q.g,q.s)
 |some x=>rxT q.s.dat.frames.length (rxG q.g q.s x,rxX q.s x)
def RS.inv (P:Ses→Prop) (q:RS):Prop:=Bo q.s.dat∧match q.o with
 |none=>True
 |some x=>(Ab.EN q.s.rcv x).2.2=0∧Bud (Ab.EN q.s.rcv x).2.1.length q.s∧P (rxX q.s x)
theorem RS.take {P:Ses→Prop} (hP:RxP P) {s:Ses} (h:P s) (g:Gh) (v:Nat):RS.inv P ⟨g,(Bg s).1,v,(Bg s).2⟩∧RS.res ⟨g,(Bg s).1,v,(Bg s).2⟩=rxT s.dat.frames.length (g,s):=by
 have hg:=hP.dat s h;unfold Bg;cases hf:s.dat.frames with
 |nil=>exact ⟨⟨hg,trivial⟩,by simp [RS.res,rxT]⟩
 |cons f l=>
  simp only;split
  ·rename_i ha;obtain ⟨h1,h2,h3⟩:=hP.EN s f l h hf ha;refine ⟨⟨EO hg,h1,h2,h3⟩,?_⟩;simp only [RS.res,length_cons,rxT,hf,ha,if_true];have:(BE s).dat.frames.length=l.length:=by simp [BE,hf]
   rw [this]
  ·rename_i ha;refine ⟨⟨hg,trivial⟩,?_⟩;simp only [RS.res,length_cons,rxT,hf,ha,if_false]
theorem RS.sound {P:Ses→Prop} (hP:RxP P) (q q':RS) (h:q.inv P) (hs:q.step = .next q'):q'.inv P∧(q'.s.dat.frames.length+(if q'.o.isSome then 1 else 0)<q.s.dat.frames.length+(if q.o.isSome then 1 else 0)):=by
 obtain ⟨g,s,v,o⟩:=q;unfold RS.step at hs;cases o with
 |none=>cases hs
 |some x=>
  cases hs;refine ⟨(RS.take hP h.2.2.2 _ _).1,?_⟩;simp only [Bg,E6];cases hf:s.dat.frames with
  |nil=>simp [E6,hf]
  |cons f l=>
   simp only;split
   ·simp [BE,E6,hf]
   ·simp [E6,hf]
theorem RS.fin {P:Ses→Prop} (hP:RxP P) (q:RS) (h:q.inv P):q.res=q.step.fin RS.res:=by
 obtain ⟨g,s,v,o⟩:=q;cases o with
 |none=>rfl
 |some x=>
  simp only [RS.step,Rd.fin];rw [(RS.take hP h.2.2.2 _ _).2,E6];rfl
def IM (r:Rcv):AF :=.box [.t (tI r.ses),.t (tI r.tot),.t (.sl 2 (r.known.map Span.enc)),.t (.str r.data)]
theorem S1:∀(l:List Seg) (g:Gh) (s:Ses),l.foldl (fun (q:Gh×Ses) y=>({q.1 with v5:=q.1.v5+1},Ch q.2 y)) (g,s)=({g with v5:=g.v5+l.length},l.foldl Ch s)
 |[],g,s=>rfl
 |x::l,g,s=>by rw [foldl_cons,S1 l];simp only [length_cons,foldl_cons,add_assoc,Nat.add_comm 1]
def txT:Nat→Gh×Ses→Gh×Ses
 |0,q=>q
 |k+1,q=>match q.2.pend with
  |[]=>q
  |o::l=>if o.at_=q.2.now then txT k ({q.1 with v4:=q.1.v4+1,pre:=q.1.pre++[o.enc]},{DJ q.2 o.seg with pend:=l}) else q
theorem O8:∀(k:Nat) (q:Gh×Ses),(txT k q).2=txS k q.2
 |0,q=>rfl
 |k+1,q=>by
  unfold txT txS;cases q.2.pend with
  |nil=>rfl
  |cons o l=>
   simp only;split
   ·exact O8 k _
   ·rfl
structure ExOk (s:Ses):Prop where
 ent:s.entered<10000
 ack:s.snd.acked.length≤100
 pl:s.pend.length≤1000000
 w:s.snd.st=1→s.snd.due=s.now→(Ca s.snd s.now).2.2=0∧(Ca s.snd s.now).2.1.length≤1000000
structure SA (W P1 P2:Ses→Prop) (μ:Ses→Nat):Prop where
 rx:RxP P1
 ls:LsP P2
 nx:∀s,W s→s.entered<10000∧Bo s.dat∧Bo s.rep
 tx:∀s t,W s→nxS s=some t→Bud s.pend.length {s with now:=t}
 p1:∀s t,W s→nxS s=some t→P1 (ph1 s t)
 p2:∀s t,W s→nxS s=some t→P2 (ph2 s t)
 ex:∀s t,W s→nxS s=some t→ExOk (ph3 s t)
 st:∀s t,W s→nxS s=some t→W (stS s t)∧μ (stS s t)<μ s
def g1T (g:Gh) (s:Ses) (t:Int):Gh:=(txT s.pend.length (g,{s with now:=t})).1
def g2T (g:Gh) (s:Ses) (t:Int):Gh:=(rxT (ph1 s t).dat.frames.length (g1T g s t,ph1 s t)).1
def g3T (g:Gh) (s:Ses) (t:Int):Gh:=(lsT (ph2 s t).rep.frames.length (g2T g s t,ph2 s t)).1
def stT (q:Gh×Ses) (t:Int):Gh×Ses:=(exG (g3T q.1 q.2 t) (ph3 q.2 t),stS q.2 t)
def rnT:Nat→Gh×Ses→Gh×Ses
 |0,q=>q
 |k+1,q=>match nxS q.2 with
  |none=>q
  |some t=>rnT k (stT q t)
theorem PI:∀(k:Nat) (q:Gh×Ses),(rnT k q).2=Gn k q.2
 |0,q=>rfl
 |k+1,q=>by
  unfold rnT Gn;cases nxS q.2 with
  |none=>rfl
  |some t=>exact PI k _
theorem GA {W P1 P2:Ses→Prop} {μ:Ses→Nat} (hR:SA W P1 P2 μ):∀(k:Nat) (q:Gh×Ses),W q.2→μ q.2≤k→rnT k q=rnT (μ q.2) q
 |0,q,h,hk=>by rw [show μ q.2=0 by omega]
 |k+1,q,h,hk=>by
  cases hn:nxS q.2 with
  |none=>
   cases hm:μ q.2 with
   |zero=>simp only [rnT,hn]
   |succ m=>simp only [rnT,hn]
  |some t=>
   obtain ⟨h1,h2⟩:=hR.st q.2 t h hn;cases hm:μ q.2 with
   |zero=>omega
   |succ m=>
    simp only [rnT,hn];rw [GA hR k (stT q t) h1 (by simp only [stT];omega),← GA hR m (stT q t) h1 (by simp only [stT];omega)]
theorem MZ {S R:Type} (B:S→(S→Option R)→Option R) (s0 s1 s2 s3 s4:S) (r:Option R) (n:Nat) (hn:5≤n) (h0:∀ag,B s0 ag=ag s1) (h1:∀ag,B s1 ag=ag s2) (h2:∀ag,B s2 ag=ag s3) (h3:∀ag,B s3 ag=ag s4) (h4:∀ag,B s4 ag=r):AK B n s0=r:=by
 obtain ⟨m,rfl⟩:∃m,n=m+5:=⟨n-5,by omega⟩
 show B s0 (AK B (m+4))=r;rw [h0];show B s1 (AK B (m+3))=r;rw [h1];show B s2 (AK B (m+2))=r;rw [h2];show B s3 (AK B (m+1))=r;rw [h3];show B s4 (AK B m)=r;rw [h4]
def ini (c:Con) (b e:Int) (d:ByteArray) (ps:List Int) (lim:Int) (dk:List Span):Ses:=
 ⟨⟨c.rng,[],0,0⟩,⟨c.rng,[],0,0⟩,ps,lim,dk,0,0,[],[],0,(Bp c 0 d b e).1,⟨0,-1,[],ByteArray.mk #[]⟩,(Bp c 0 d b e).2.1,false,0,false,0⟩
def Kc (c:Con) (b e:Int) (d:ByteArray) (ps:List Int) (lim:Int) (dk:List Span):Int:=
 if 1000<ps.length then 4 else if lim < -1 then 2 else if BM dk≠0 then 1 else (Bp c 0 d b e).2.2
def Ff (c:Con) (b e:Int) (d:ByteArray) (ps:List Int) (lim:Int) (dk:List Span):List Tree:=c.enc++[tI b,tI e,.str d,.sl 1 (ps.map BY),tI lim,.sl 2 (dk.map Span.enc)]
theorem N7 {c:Con} {b e:Int} {d:ByteArray} (h:(Bp c 0 d b e).2.2=0):1≤c.rng∧c.rng≤1048576:=by
 unfold Bp at h;split at h
 ·simp [C3] at h
 ·rename_i h1;have h1:Jr c=0:=by simpa using h1
  obtain ⟨c1,c2⟩:=FI h1;unfold Hm at c1;omega
def Sy (s:Ses):List Tree:=[.sl 9 (s.sent.map Out.enc),.sl 9 (s.told.map Out.enc),tI 0]
def Se (s:Ses):List Tree:=[.bool s.rcvd,tI s.arrive,.bool s.kno,tI s.knoAt,tI s.snd.busy,tI s.entered,tI (s.dat.lost+s.rep.lost),tI 0]
end Ab
set_option linter.unusedVariables false
set_option linter.unusedSimpArgs false
namespace Ab
open Go
theorem Bat.CC {d:ByteArray} {ses ser:Int} {l:List Seg} (h:Bat d ses ser l):Bat d ses ser (CC l):=by obtain ⟨pre,x,rfl,h1,h2⟩:=h.ex;rw [IT];exact ⟨⟨[],x,rfl,h1,fun y hy=>by cases hy⟩,by simp;omega⟩
theorem Bat.AY {d:ByteArray} {ses ser:Int} {l:List Seg} (h:Bat d ses ser l):∀x∈l,x.AY=[]:=by
 obtain ⟨pre,x,rfl,h1,h2⟩:=h.ex;intro y hy;rcases mem_append.1 hy with hy|hy
 ·exact (h2 y hy).cl
 ·rw [mem_singleton] at hy;subst hy;exact h1.cl
theorem OG (r:Int):∀(l:List Seg) (t:Int),(Bh r t l).map Out.seg=l
 |[],t=>rfl
 |x::l,t=>by simp only [Bh,map_cons,OG r l]
def FewO (o:List Out):Prop:=o.length≤1000000∧∀x∈o,x.seg.AY.length≤1000000
theorem Pr {s:Snd} (h:Gq s=0) (hf:fits s=true):GP s=0:=by unfold GP;rw [if_neg (fun f=>f h),if_pos hf]
theorem Uy {s:Snd} (h:Gq s=0):GP (DG s)=0:=by refine Pr h ?_;unfold fits DG;simp
theorem T3 {s:Snd} {t ser:Int} (h:Gq s=0) (hc:complete s=false) (ht:s.c.start≤t∧t≤s.fin) (hr:1≤ser∧ser≤1099511627776):GP (BN s t ser)=0:=by
 refine Pr ?_ ?_
 ·obtain ⟨c1,c2,c3⟩:=DA h;unfold EZ at c2;have a1:EZ (BN s t ser):=by unfold EZ BN;simp only;omega
  have a2:QT (BN s t ser):=c3;have a0:Jr (BN s t ser).c=0:=c1;unfold Gq;rw [if_neg (fun f=>f a0),if_neg (fun f=>f a1),if_neg (fun f=>f a2)]
 ·unfold fits;refine decide_eq_true (.inl ⟨rfl,hc,rfl⟩)
theorem done_ok {s:Snd} (h:Gq s=0) (hc:complete s=true):GP {s with due:=0,st:=2}=0:=by refine Pr h ?_;unfold fits;exact decide_eq_true (.inr (.inl ⟨rfl,hc,rfl⟩))
structure Step (s p:Snd) (o:List Out):Prop where
 ok:GP p=0
 few:p.acked.length≤s.acked.length+100
 data:p.data=s.data
 acc:∀t,AX t s.acked→AX t p.acked
 ser:s.ser≤p.ser
 busy:s.busy≤p.busy
 still:s.st=1∨o=[]∧p=s
 next:o=[]∨p.ser=s.ser+1
 fewO:FewO o
end Ab
set_option linter.unusedVariables false
set_option linter.unusedSimpArgs false
namespace Ab
open Go
theorem FJ (k:Nat):(Dx k).length=k:=by simp [Dx]
theorem Mp {l:List UInt8} {i:Nat} (h:l.length≤i):l.getD i 0=0:=by simp [List.getD,getElem?_eq_none h]
theorem SF (k i:Nat):(Dx k).getD i 0=0:=by
 by_cases h:i<k
 ·simp [Dx,List.getD,List.getElem?_replicate,h]
 ·exact Mp (by simp [Dx];omega)
theorem RD {r:Rcv} {x:Seg} (h1:r.data.size≤x.tot.toNat) (h2:x.off.toNat+x.data.size≤x.tot.toNat):(Dl r x).length=x.tot.toNat:=by
 have l1:(L7 (Dx x.tot.toNat) 0 (bl r.data)).length=x.tot.toNat:=by rw [Gu _ _ _ (by rw [CD,FJ];omega),FJ]
 unfold Dl;rw [Gu _ _ _ (by rw [CD,l1];omega),l1]
theorem RE {r:Rcv} {x:Seg} (h1:r.data.size≤x.tot.toNat) (h2:x.off.toNat+x.data.size≤x.tot.toNat) (i:Nat) :
  (Dl r x).getD i 0=if x.off.toNat≤i∧i<x.off.toNat+x.data.size then (bl x.data).getD (i-x.off.toNat) 0 else (bl r.data).getD i 0:=by
 have l1:(L7 (Dx x.tot.toNat) 0 (bl r.data)).length=x.tot.toNat:=by rw [Gu _ _ _ (by rw [CD,FJ];omega),FJ]
 unfold Dl;rw [Qf _ _ _ (by rw [CD,l1];omega),Qf _ _ _ (by rw [CD,FJ];omega),CD,CD];split
 ·rfl
 ·split
  ·rw [Nat.sub_zero]
  ·rw [SF,Mp (by rw [CD];omega)]
theorem Ux {r:Rcv} {x:Seg} (hr:ES r=0) (hx:Cq x=0) (hs:EC r x=true):r.data.size≤x.tot.toNat∧x.off.toNat+x.data.size≤x.tot.toNat:=by obtain ⟨g1,g2,g3,g4,g5,g6,g7⟩:=D1 hx (DP.1 hs).1;exact ⟨(size_le hr hx hs).1,by omega⟩
theorem Xg {x:Seg} {t:Int}:AX t [sp x]↔x.off≤t∧t<x.off+x.data.size:=by simp only [AX,or_false];rfl
theorem JZ {r:Rcv} {x:Seg} (hs:EC r x=true) (t:Int):AX t (Cn r x).known↔AX t r.known∨(x.off≤t∧t<x.off+x.data.size):=by rw [← Xg];exact (Gr (DP.1 hs).2.2.2.2).2.2.2.2 t
theorem RC {r:Rcv} {x:Seg} (hr:ES r=0) (hx:Cq x=0) (hs:EC r x=true) (i:Nat) :
  (bl (Cn r x).data).getD i 0=if x.off.toNat≤i∧i<x.off.toNat+x.data.size then (bl x.data).getD (i-x.off.toNat) 0 else (bl r.data).getD i 0:=by
 show (bl (mkB (Dl r x))).getD i 0=_;rw [LN];exact RE (Ux hr hx hs).1 (Ux hr hx hs).2 i
theorem Vd {r:Rcv} {x:Seg} (hr:ES r=0) (hx:Cq x=0) (hs:EC r x=true):(Cn r x).data.size=x.tot.toNat:=by show (mkB (Dl r x)).size=_;rw [Hy];exact RD (Ux hr hx hs).1 (Ux hr hx hs).2
theorem MT {r:Rcv} {x:Seg} (hr:ES r=0) (hx:Cq x=0) (hs:EC r x=true):ES (Cn r x)=0:=by
 obtain ⟨h1,h2,h3,h4,h5⟩:=DP.1 hs;obtain ⟨g1,g2,g3,g4,g5,g6,g7⟩:=D1 hx h1;obtain ⟨c1,c2,c3,c4⟩:=C9 hr;obtain ⟨w1,w2⟩:=LB hr hx hs;obtain ⟨u1,u2,u3,u4,u5⟩:=Gr h5;have a1:TM (Cn r x):=⟨c1.1,.inr ⟨g1,g2⟩⟩
 have a2:KnR (Cn r x):=by refine ⟨u4,⟨fun h=>(w2 h).elim,fun h => ?_⟩,(B6 u4).2 w1⟩;have:x.tot = -1:=h;omega
 have a3:((Cn r x).data.size:Int)=JI (Cn r x).tot:=by rw [Vd hr hx hs];show ((x.tot.toNat:Nat):Int)=JI x.tot;unfold JI;rw [if_neg (by omega)];omega
 have a4:R3 (Cn r x):=by
  intro i hi hi0;rw [RC hr hx hs] at hi0;rw [JZ hs];split at hi0
  ·right;omega
  ·left;refine c4 i ?_ hi0;rw [← CD];rcases lt_or_ge i (bl r.data).length with h|h
   ·exact h
   ·exact (hi0 (Mp h)).elim
 unfold ES;rw [if_neg (not_not_intro a1),if_neg (not_not_intro a2),if_neg (not_not_intro a3),if_pos a4]
theorem Pb {r:Rcv} {x:Seg} (hr:ES r=0) (hx:Cq x=0):EN r x=if EC r x=true then (Cn r x,if x.chk=true then [CK r x] else [],0) else (r,[],0):=by
 unfold EN;rw [if_neg (not_not_intro ⟨hr,hx⟩)];by_cases hs:EC r x=true
 ·rw [if_neg (by rw [hs];decide),if_pos hs]
 ·rw [if_pos (by simpa using hs),if_neg hs]
theorem Sw {r:Rcv} {x:Seg} (hr:ES r=0) (hx:Cq x=0):ES (EN r x).1=0:=by
 rw [Pb hr hx];split
 ·rename_i hs;exact MT hr hx hs
 ·exact hr
theorem Me {r:Rcv} {x:Seg} (hr:ES r=0) (hx:Cq x=0) (hc:A3 r=true):A3 (EN r x).1=true:=by
 have hv:=Sw hr hx;unfold A3 at hc ⊢;rw [decide_eq_true_eq] at hc ⊢;refine ⟨hv,?_⟩;rw [Pb hr hx] at hv ⊢;split
 ·rename_i hs;rw [if_pos hs] at hv;obtain ⟨h1,h2,h3,h4,h5⟩:=DP.1 hs;obtain ⟨g1,g2,g3,g4,g5,g6,g7⟩:=D1 hx h1;obtain ⟨c1,c2,c3,c4⟩:=C9 hr;obtain ⟨d1,d2,d3,d4⟩:=C9 hv;have ht:r.tot ≠ -1:=fun h=>by have:=c2.2.1.2 h;rw [this] at hc;cases hc.2
  have htt:x.tot=r.tot:=by rcases h3 with h|h;exact (ht h).elim;exact h
  show (Cn r x).known=[⟨0,x.tot⟩];refine C4 ((An _).1 d2.1).2.1 (b' := -1) ⟨by show (-1:Int)<0;decide,by show (0:Int)<x.tot;omega,trivial⟩ fun t => ?_;rw [JZ hs,hc.2];simp only [AX,or_false];omega
 ·exact hc.2
end Ab
set_option linter.unusedVariables false
set_option linter.unusedSimpArgs false
namespace Ab
open Go
def EA (D:ByteArray) (x:Seg):Prop:=Cq x=0∧x.kind=1∧x.ses=0∧x.tot=D.size∧∀i,i<x.data.size→(bl x.data).getD i 0=(bl D).getD (x.off.toNat+i) 0
def Cov (l:List Seg) (t:Int):Prop:=∃x∈l,x.off≤t∧t<x.off+x.data.size
def R0:Rcv:=⟨0,-1,[],ByteArray.mk #[]⟩
structure Hd (D:ByteArray) (r:Rcv) (l:List Seg):Prop where
 ok:ES r=0
 ses:r.ses=0
 tot:r.tot=if l=[] then -1 else (D.size:Int)
 mem:∀t,AX t r.known↔Cov l t
 get:∀i:Nat,Cov l (i:Int)→(bl r.data).getD i 0=(bl D).getD i 0
theorem Wo (D:ByteArray):Hd D R0 []:=⟨by decide,rfl,rfl,fun t=>⟨fun h=>h.elim,fun ⟨x,h,_⟩=>by cases h⟩,fun i ⟨x,h,_⟩=>by cases h⟩
theorem Rh {l:List Seg} {x:Seg} {t:Int}:Cov (l++[x]) t↔Cov l t∨(x.off≤t∧t<x.off+x.data.size):=by
 unfold Cov;constructor
 ·rintro ⟨y,hy,h⟩
  rcases mem_append.1 hy with hy|hy
  ·exact .inl ⟨y,hy,h⟩
  ·simp only [mem_singleton] at hy;subst hy;exact .inr h
 ·rintro (⟨y,hy,h⟩|h)
  ·exact ⟨y,List.mem_append_left _ hy,h⟩
  ·exact ⟨x,by simp,h⟩
theorem GF {D:ByteArray} {x:Seg} (hx:EA D x):0≤x.off∧1≤x.data.size∧x.off+x.data.size≤D.size∧x.data.size≤16:=by obtain ⟨g1,g2,g3,g4,g5,g6,g7⟩:=D1 hx.1 hx.2.1;have:=hx.2.2.2.1;omega
theorem X8 {D:ByteArray} {l:List Seg} (hl:∀x∈l,EA D x) {t:Int} (h:Cov l t):0≤t∧t<D.size:=by obtain ⟨x,hx,h1,h2⟩:=h;have:=GF (hl x hx);omega
theorem Lx {D:ByteArray} {r:Rcv} {l:List Seg} {x:Seg} (h:Hd D r l) (hl:∀x∈l,EA D x) (hx:EA D x) (hD:D.size≤900):EC r x=true:=by
 obtain ⟨c1,c2,c3,c4⟩:=C9 h.ok;obtain ⟨b1,b2,b3,b4⟩:=GF hx;refine DP.2 ⟨hx.2.1,by rw [hx.2.2.1,h.ses],?_,fun i hi hm => ?_,?_⟩
 ·rw [h.tot,hx.2.2.2.1];by_cases hn:l=[]
  ·left;rw [if_pos hn]
  ·right;rw [if_neg hn]
 ·have:=h.get (x.off.toNat+i) (by rw [show ((x.off.toNat+i:Nat):Int)=x.off+(i:Int) by omega];exact (h.mem _).1 hm);rw [this,hx.2.2.2.2 i hi]
 ·have hs:BM [sp x]=0:=by
   rw [An];refine ⟨by simp,⟨?_,?_,trivial⟩,fun y hy => ?_⟩
   ·show -1152921504606846977<x.off;omega
   ·show x.off<x.off+x.data.size;omega
   ·simp only [mem_singleton] at hy;subst hy;show x.off+x.data.size≤_;omega
  obtain ⟨u1,u2⟩:=I9 ((An _).1 c2.1).2.1 ((An _).1 hs).2.1;have hin:∀t,AX t (uni r.known [sp x])→0≤t∧t<D.size:=fun t m=>by
   rcases (u2 t).1 m with m|m
   ·exact X8 hl ((h.mem t).1 m)
   ·rw [Xg] at m;omega
  have hw:=GH u1 hin;have hlen:((uni r.known [sp x]).length:Int)≤D.size-(-1):=by
   refine V3 (b := -1) ?_ (by omega) (fun y hy=>(hw y hy).2);cases hu:uni r.known [sp x] with
   |nil=>trivial
   |cons y l'=>
    rw [hu] at u1 hw;exact ⟨by have:=(hw y List.mem_cons_self).1;omega,u1.2.1,u1.2.2⟩
  unfold EG;rw [if_pos ⟨c2.1,hs⟩,if_neg (by omega)]
theorem st_next {D:ByteArray} {r:Rcv} {l:List Seg} {x:Seg} (h:Hd D r l) (hl:∀x∈l,EA D x) (hx:EA D x) (hD:D.size≤900):Hd D (Cn r x) (l++[x]):=by
 have hs:=Lx h hl hx hD;obtain ⟨b1,b2,b3,b4⟩:=GF hx;refine ⟨MT h.ok hx.1 hs,h.ses,?_,fun t => ?_,fun i hi => ?_⟩
 ·rw [if_neg (by simp)];exact hx.2.2.2.1
 ·rw [JZ hs,h.mem,Rh]
 ·rw [RC h.ok hx.1 hs];split
  ·rename_i hr;rw [hx.2.2.2.2 _ (by omega),show x.off.toNat+(i-x.off.toNat)=i by omega]
  ·rename_i hr;rcases Rh.1 hi with hc|hc
   ·exact h.get i hc
   ·omega
theorem st_hear {D:ByteArray} {r:Rcv} {l:List Seg} {x:Seg} (h:Hd D r l) (hl:∀x∈l,EA D x) (hx:EA D x) (hD:D.size≤900):EN r x=(Cn r x,if x.chk=true then [CK r x] else [],0):=by rw [Pb h.ok hx.1,if_pos (Lx h hl hx hD)]
end Ab
set_option linter.unusedVariables false
set_option linter.unusedSimpArgs false
namespace Ab
open Go
theorem VT {d:ByteArray} {p:Int×Int} (h:0≤p.1∧p.1<p.2∧p.2≤d.size) (i:Nat) (hi:i<(raw d 0 p).data.size):(bl (raw d 0 p).data).getD i 0=(bl d).getD ((raw d 0 p).off.toNat+i) 0:=by
 have hs:(raw d 0 p).data.size=p.2.toNat-p.1.toNat:=by simp only [raw,size_extract];omega
 rw [hs] at hi;show (bl (d.extract p.1.toNat p.2.toNat)).getD i 0=(bl d).getD (p.1.toNat+i) 0;rw [EU];simp [getD_eq_getElem?_getD,getElem?_take,hi,getElem?_drop]
structure LX (d:ByteArray) (x:Seg):Prop where
 pc:EA d x
 sr:x.chk=false→x.ser=0
 cl:x.AY=[]
theorem VR {d:ByteArray} {l:List Span} (h:NO l d.size) (hd:1≤d.size∧d.size≤65536):∀x∈GC d 0 l,LX d x∧x.chk=false:=by intro x hx;have hp:=MJ (ses:=0) h x hx;unfold GC at hx;obtain ⟨y,hy,hx⟩:=mem_flatMap.1 hx;obtain ⟨p,hpm,rfl⟩:=mem_map.1 hx;have h1:=h y hy;have h2:=Pn _ y.fro y.to (le_refl _) p hpm;exact ⟨⟨⟨XO hp (by omega) hd,hp.kind,hp.ses_,hp.tot,fun i hi=>VT (by omega) i hi⟩,fun _=>rfl,rfl⟩,rfl⟩
theorem Vi {d:ByteArray} {x:Seg} {ser:Int} (h:LX d x) (hc:x.chk=false) (hr:1≤ser∧ser≤1099511627776):LX d {x with ser:=ser,chk:=true}:=by
 obtain ⟨⟨h1,h2,h3,h4,h5⟩,h6,h7⟩:=h;obtain ⟨k1,k2,k3⟩:=ET h1;refine ⟨⟨?_,h2,h3,h4,h5⟩,fun f=>(by cases f),h7⟩;have n:CE {x with ser:=ser,chk:=true}:=by unfold CE at k2 ⊢;have q:=k2.2.2.2 h2;exact ⟨k2.1,fun f=>absurd (h2.symm.trans f) (by decide),fun f=>absurd (h2.symm.trans f) (by decide),fun _=>⟨q.1,q.2.1,fun _=>hr,fun f=>by cases f⟩⟩
 have c:Cs {x with ser:=ser,chk:=true}:=by unfold Cs at k3 ⊢;exact ⟨fun f=>absurd (h2.symm.trans f) (by decide),fun f=>absurd (h2.symm.trans f) (by decide),fun _=>k3.2.2 h2⟩
 unfold Cq;rw [if_neg (fun f=>f k1),if_neg (fun f=>f n),if_neg (fun f=>f c)]
structure Hn (d:ByteArray) (ser:Int) (l:List Seg):Prop where
 ex:∃pre x,l=pre++[x]∧x.chk=true∧x.ser=ser∧∀y∈pre,y.chk=false
 pc:∀x∈l,LX d x
 len:(l.length:Int)≤d.size+1
theorem batP {ser:Int} {d:ByteArray} {l:List Span} (h:Kl 0 ser d l=0):Hn d ser (C5 0 ser d l):=by
 have hb:=M8 h;have h0:=h;unfold Kl at h0;split at h0
 ·cases h0
 split at h0
 ·cases h0
 split at h0
 ·cases h0
 split at h0
 ·cases h0
 split at h0
 ·cases h0
 rename_i k1 k2 k3 k4 k5;have k4:inside l d.size=true:=by simpa using k4
 obtain ⟨g1,g2⟩:=KV k4;have hn:=UZ (ses:=0) g1 k5;obtain ⟨pre,x,hx⟩:∃pre x,GC d 0 l=pre++[x]:=⟨_,_,(List.dropLast_concat_getLast hn).symm⟩
 have hp:=VR g1 (by omega);rw [hx] at hp;have e:C5 0 ser d l=pre++[{x with ser:=ser,chk:=true}]:=by unfold C5;rw [if_pos h,hx,HC]
 have hx2:=hp x (by simp);refine ⟨⟨pre,_,e,rfl,rfl,fun y hy=>(hp y (by simp [hy])).2⟩,?_,hb.len⟩;rw [e];intro y hy;rcases mem_append.1 hy with hy|hy
 ·exact (hp y (by simp [hy])).1
 ·rw [mem_singleton] at hy;subst hy;exact Vi hx2.1 hx2.2 (by omega)
theorem Hn.last {d:ByteArray} {ser:Int} {l:List Seg} (h:Hn d ser l):Hn d ser (CC l):=by obtain ⟨⟨pre,x,rfl,h1,h2,h3⟩,h4,h5⟩:=h;rw [IT];exact ⟨⟨[],x,rfl,h1,h2,fun y hy=>by cases hy⟩,fun y hy=>h4 y (by simp at hy;simp [hy]),by simp;omega⟩
theorem LX.DE {d:ByteArray} {x:Seg} (h:LX d x) {r:Int} (hr:1≤r∧r≤1000):DE r x=((x.data.size:Int)+7+r) / r∧1≤DE r x:=by
 have h1:=h.pc.1;have h2:=h.pc.2.1;have e:Ab.DE r x=((x.data.size:Int)+7+r) / r:=by unfold Ab.DE;rw [if_pos ⟨h1,hr.1,hr.2,h2⟩]
 refine ⟨e,?_⟩;rw [e,Int.le_ediv_iff_mul_le (by omega)];omega
theorem OF {r:Int}:∀(l:List Seg) (t:Int),(∀x∈l,1≤DE r x)→
  (Bh r t l).Pairwise (fun a b=>a.at_<b.at_)∧(∀o∈Bh r t l,t<o.at_∧o.at_≤Ax r t l∧o.seg∈l)∧t+(l.length:Int)≤Ax r t l
 |[],t,h=>⟨List.Pairwise.nil,(fun o ho=>by cases ho),by simp [Ax]⟩
 |x::l,t,h=>by
  have hx:=h x (by simp);obtain ⟨h1,h2,h3⟩:=OF l (t+DE r x) (fun y hy=>h y (by simp [hy]));refine ⟨?_,?_,?_⟩
  ·simp only [Bh,pairwise_cons];exact ⟨fun o ho=>(h2 o ho).1,h1⟩
  ·intro o ho;simp only [Bh,mem_cons] at ho;have hE:=HK r l (t+DE r x);rcases ho with rfl|ho
   ·exact ⟨by simp only;omega,by simp only [Ax];omega,by simp⟩
   ·have:=h2 o ho;exact ⟨by omega,by simp only [Ax];omega,by simp [this.2.2]⟩
  ·simp only [Ax,length_cons];omega
end Ab
set_option linter.unusedVariables false
set_option linter.unusedSimpArgs false
namespace Ab
open Go
theorem TG {l:List Span}:∀{b n:Int},Canon b l→b<n→(∀x∈l,x.to≤n)→2*(l.length:Int)≤n-b:=by
 induction l with
 |nil=>intro b n _ h _;simp;omega
 |cons x l ih=>
  intro b n h hb ht;have h1:=h.1;have h2:=h.2.1;have h3:=ht x (by simp);simp only [length_cons];by_cases he:x.to<n
  ·have:=ih h.2.2 he (fun y hy=>ht y (by simp [hy]));omega
  ·cases l with
   |nil=>simp;omega
   |cons y l=>
    have:=h.2.2.1;have:=h.2.2.2.1;have:=ht y (by simp);omega
theorem Mw {l:List Span} {n:Int} (h:BM l=0) (hw:B7 l n) (hn:0≤n∧n≤120):l.length≤60:=by have hc:=((An _).1 h).2.1;have:=TG (n:=n) (M4 hc hw) (by omega) (fun x hx=>(hw x hx).2);omega
structure Par where
 c:Con
 b:Int
 e:Int
 d:ByteArray
 ps:List Int
 lim:Int
 dk:List Span
structure POk (p:Par):Prop where
 con:Jr p.c=0
 t:p.c.start≤p.b∧p.b≤p.e∧p.e≤p.c.fin
 sz:1≤p.d.size∧p.d.size≤120
 pk:∀x∈p.ps,-9223372036854775808≤x∧x≤9223372036854775807
 pl:p.ps.length≤1000
 bud:∀k:Int,1≤k→p.b+1+(k-1)*(2*p.c.rng+1)≤p.e→(((p.d.size:Int)+1)*k+2*k≤4990∨(p.e-p.b)+2*k≤4990)
theorem POk.rng {p:Par} (h:POk p):1≤p.c.rng∧p.c.rng≤1048576∧1≤p.c.rate∧p.c.rate≤1000∧0≤p.b∧p.b≤p.e∧p.e≤1099511627776-2*p.c.rng∧0≤p.c.loss∧p.c.loss≤16:=by obtain ⟨c1,c2⟩:=FI h.con;unfold Hm at c1;have:=h.t;omega
structure J1 (d:ByteArray) (x:Seg):Prop where
 g:Cq x=0
 kind:x.kind=2
 ses:x.ses=0
 tot:x.tot=d.size
theorem J1.cl {d:ByteArray} {x:Seg} (h:J1 d x):BM x.AY=0∧B7 x.AY d.size:=by obtain ⟨k1,k2,k3⟩:=ET h.g;unfold Cs at k3;have hi:=(k3.2.1 h.kind).2.2;unfold inside at hi;have hi:=of_decide_eq_true hi;exact ⟨hi.1,h.tot ▸ (B6 hi.1).1 hi.2⟩
theorem J1.few {d:ByteArray} {x:Seg} (h:J1 d x) (hd:d.size≤120):x.AY.length≤60:=Mw h.cl.1 h.cl.2 (by omega)
structure Kq (p:Par) (s:Snd):Prop where
 c:s.c=p.c
 ses:s.ses=0
 data:s.data=p.d
 fin:s.fin=p.e
 ok:GP s=0
 t:p.b+1+(s.ser-1)*(2*p.c.rng+1)≤s.busy
theorem Kq.fo {p:Par} {s:Snd} (hp:POk p) (h:Kq p s):FOk s∧s.acked.length≤60:=by have hf:=(Kg h.ok).1;obtain ⟨c1,c2,c3⟩:=DA hf;have hw:=(B6 c3.1).1 c3.2;have hsz:=hp.sz;have:=Mw c3.1 hw (by rw [h.data];omega);exact ⟨⟨hf,by omega⟩,this⟩
theorem Kq.num {p:Par} {s:Snd} (hp:POk p) (h:Kq p s):p.c.start≤s.busy∧s.busy≤p.e∧1≤s.ser∧s.ser<1099511627776∧p.b+1≤s.busy∧(s.ser-1)≤s.busy-p.b-1:=by have hn:=(h.fo hp).1.num;have hr:=hp.rng;have ht:=h.t;have hc:=h.c;have hfin:=h.fin;rw [hc] at hn;have h0:(s.ser-1)*1≤(s.ser-1)*(2*p.c.rng+1):=Int.mul_le_mul_of_nonneg_left (by omega) (by omega);omega
structure Inv (p:Par) (s:Ses):Prop where
 rd:s.dat.rng=p.c.rng
 rr:s.rep.rng=p.c.rng
 ps:s.picks=p.ps
 lim:s.limit=p.lim
 dk:s.dark=p.dk
 gd:Bo s.dat
 gr:Bo s.rep
 now:0≤s.now
 sn:Kq p s.snd
 rc:∃hl,Hd p.d s.rcv hl∧∀x∈hl,EA p.d x
 fd:∀f∈s.dat.frames,LX p.d f.seg∧f.seg.ser≤s.snd.ser∧s.now≤f.arr∧f.arr≤p.e+2*p.c.rng∧(f.seg.chk=true→f.seg.ser=s.snd.ser→s.snd.busy+p.c.rng≤f.arr)
 fr:∀f∈s.rep.frames,J1 p.d f.seg∧f.seg.ser≤s.snd.ser∧s.now≤f.arr∧f.arr≤p.e+4*p.c.rng∧(f.seg.ser=s.snd.ser→s.snd.busy+2*p.c.rng≤f.arr)
 pd:∀o∈s.pend,LX p.d o.seg∧s.now≤o.at_∧o.at_≤s.snd.busy∧o.seg.ser≤s.snd.ser∧(o.seg.chk=true→o.at_=s.snd.busy)
 po:s.pend.Pairwise (fun a b=>a.at_<b.at_)
 du:s.snd.st=1→s.now≤s.snd.due
 c1:s.entered=s.dat.sent+s.rep.sent
 c2:s.dat.sent=s.sent.length
 c3:s.rep.sent=s.told.length
 c4:(s.sent.length:Int)+s.pend.length≤s.snd.busy-p.b
 c5:(s.sent.length:Int)+s.pend.length≤((p.d.size:Int)+1)*s.snd.ser
 c6:(s.told.length:Int)+s.dat.frames.countP (fun f=>f.seg.chk)+2*s.pend.countP (fun o=>o.seg.chk)≤2*s.snd.ser
 l1:(s.dat.frames.length:Int)≤2*s.dat.sent
 l2:(s.rep.frames.length:Int)≤2*s.rep.sent
 ds:0≤s.dist∧s.dist≤s.entered
 kn:s.kno=true↔s.snd.st=2
 rv:s.rcvd=A3 s.rcv
def PGt (s:Ses):Prop:=∀o∈s.pend,s.now<o.at_
def DGt (s:Ses):Prop:=∀f∈s.dat.frames,s.now<f.arr
def RGt (s:Ses):Prop:=∀f∈s.rep.frames,s.now<f.arr
def UGt (s:Ses):Prop:=s.snd.st=1→s.now<s.snd.due
theorem Inv.bud {p:Par} {s:Ses} (hp:POk p) (h:Inv p s) {k:Nat} (hk:(k:Int)≤s.pend.length+s.dat.frames.countP (fun f=>f.seg.chk)) (hn:0<k→s.now≤1099511627776):Bud k s:=by
 have hs:=h.sn.num hp;have hb:=hp.bud s.snd.ser (by omega) (by have:=h.sn.t;omega);have:=h.c1;have:=h.c2;have:=h.c3;have:=h.c4;have:=h.c5;have:=h.c6;have:=h.l1;have:=h.l2;have:=h.gd.lost;have:=h.gr.lost;refine ⟨h.gd,h.gr,⟨h.now,hn⟩,by rw [h.ps];exact hp.pk,?_,?_,?_,?_,?_,?_,?_,?_,by rw [h.ps];exact hp.pl⟩
 ·refine ⟨by omega,?_⟩;rcases hb with hb|hb<;>omega
 all_goals have:=h.ds;omega
end Ab
set_option linter.unusedVariables false
set_option linter.unusedSimpArgs false
namespace Ab
open Go
theorem LG {α:Type} (g:α→Bool) (b:α) (q:α→Bool):∀l:List α,(Il g b l).countP q=l.countP q+(if q b=true then 1 else 0)
 |[]=>by simp [Il,countP_cons]
 |x::l=>by
  unfold Il;split
  ·simp only [countP_cons]
  ·simp only [countP_cons,LG g b q l];omega
theorem G7 (t num:Int) (x:Seg):∀(ds:List Int) (fs:List Frame),(KO t num x ds fs).countP (fun f=>f.seg.chk)=fs.countP (fun f=>f.seg.chk)+(if x.chk=true then ds.length else 0)
 |[],fs=>by simp [KO]
 |d::ds,fs=>by show (KO t num x ds (KW t num x fs d)).countP _=_;rw [G7 t num x ds];unfold KW;rw [LG];simp only [length_cons];split<;>omega
theorem Inv.del {p:Par} {s:Ses} (hp:POk p) (h:Inv p s):(∀d∈(Ce s p.c.rng).1,p.c.rng≤d∧d≤2*p.c.rng)∧(Ce s p.c.rng).1.length≤2∧s.dist≤(Ce s p.c.rng).2∧(Ce s p.c.rng).2≤s.dist+1:=Pk hp.rng.1
theorem Inv.tx {p:Par} {s:Ses} (hp:POk p) (h:Inv p s) {o:Out} {l:List Out} (hpd:s.pend=o::l) (ho:o.at_=s.now):Inv p {DJ s o.seg with pend:=l}:=by
 have hr:=hp.rng;have hn:=h.sn.num hp;obtain ⟨o1,o2,o3,o4,o5⟩:=h.pd o (by rw [hpd];simp);obtain ⟨d1,d2,d3,d4⟩:=h.del hp;have hb:=h.bud hp (k:=0+1) (by rw [hpd];simp;omega) (fun _=>by omega);have hB:=hb.DJ o.seg;have c1:=h.c1;have c2:=h.c2;have c3:=h.c3;have c4:=h.c4;have c5:=h.c5;have c6:=h.c6;have l1:=h.l1;have l2:=h.l2;have hds:=h.ds;rw [hpd] at c4 c5 c6;simp only [length_cons,countP_cons] at c4 c5 c6;have hrd:=h.rd;refine ⟨h.rd,h.rr,h.ps,h.lim,h.dk,hB.gd,hB.gr,h.now,h.sn,h.rc,fun f hf => ?_,h.fr,fun x hx=>h.pd x (by rw [hpd];simp [hx]),?_,h.du,?_,?_,h.c3,?_,?_,?_,?_,h.l2,?_,h.kn,h.rv⟩
 ·simp only [DJ,B8] at hf;rcases Dc.1 hf with hf|⟨d,hd,rfl⟩
  ·exact h.fd f hf
  ·rw [hrd] at hd;have:=d1 d hd;refine ⟨o1,o4,?_,?_,fun hc hs => ?_⟩
   ·simp only [DJ];omega
   ·simp only;omega
   ·have:=o5 hc;simp only [DJ];omega
 ·have:=h.po;rw [hpd] at this;exact (pairwise_cons.1 this).2
 ·simp only [DJ,B8];omega
 ·simp only [DJ,B8,length_append,length_cons,length_nil];omega
 ·simp only [DJ,length_append,length_cons,length_nil];omega
 ·simp only [DJ,length_append,length_cons,length_nil];omega
 ·simp only [DJ,B8,G7,hrd];split
  ·rename_i hc;rw [if_pos hc] at c6;omega
  ·rename_i hc;rw [if_neg hc] at c6;omega
 ·simp only [DJ,B8,Ft,hrd];omega
 ·simp only [DJ,hrd];omega
theorem Inv.Uk {p:Par} {s:Ses} (hp:POk p) (h:Inv p s) {x:Seg} (hx:LX p.d x):EN s.rcv x=(Cn s.rcv x,if x.chk=true then [CK s.rcv x] else [],0)∧(∃hl,Hd p.d (Cn s.rcv x) hl∧∀y∈hl,EA p.d y)∧(x.chk=true→J1 p.d (CK s.rcv x))∧(∀t,AX t (Cn s.rcv x).known↔AX t s.rcv.known∨(x.off≤t∧t<x.off+x.data.size))∧(A3 s.rcv=true→A3 (Cn s.rcv x)=true)∧(CK s.rcv x).AY=(Cn s.rcv x).known:=by
 obtain ⟨hl,h1,h2⟩:=h.rc;have hsz:=hp.sz;have hs:=Lx h1 h2 hx.pc (by omega);have he:=st_hear h1 h2 hx.pc (by omega);refine ⟨he,⟨hl++[x],st_next h1 h2 hx.pc (by omega),fun y hy => ?_⟩,fun hc=>⟨Rm h1.ok hx.pc.1 hs hc,rfl,h1.ses,hx.pc.2.2.2.1⟩,JZ hs,fun hc => ?_,rfl⟩
 ·rcases mem_append.1 hy with hy|hy
  ·exact h2 y hy
  ·rw [mem_singleton] at hy;subst hy;exact hx.pc
 ·have:=Me h1.ok hx.pc.1 hc;rw [he] at this;exact this
theorem T9 {p:Par} {s:Ses} (h:Inv p {s with rcvd:=A3 s.rcv}) (hr:s.rcvd=true→A3 s.rcv=true):Inv p (rxF s):=by
 unfold rxF;split
 ·rename_i hc;rw [hc.2] at h;exact {h with}
 ·rename_i hc;have e:s.rcvd=A3 s.rcv:=by
   cases h1:s.rcvd with
   |true=>exact (hr h1).symm
   |false=>
    cases h2:A3 s.rcv with
    |false=>rfl
    |true=>exact (hc ⟨h1,h2⟩).elim
  rw [← e] at h;exact h
theorem Inv.rx {p:Par} {s:Ses} (hp:POk p) (h:Inv p s) {f:Frame} {l:List Frame} (hf:s.dat.frames=f::l) (ha:f.arr=s.now):Inv p (rxX (BE s) f.seg):=by
 have hr:=hp.rng;have hn:=h.sn.num hp;obtain ⟨f1,f2,f3,f4,f5⟩:=h.fd f (by rw [hf];simp);obtain ⟨e1,e2,e3,e4,e5,e6⟩:=h.Uk hp f1;have c1:=h.c1;have c2:=h.c2;have c3:=h.c3;have c4:=h.c4;have c5:=h.c5;have c6:=h.c6;have l1:=h.l1;have l2:=h.l2;have hds:=h.ds;have hrr:=h.rr;have hpop:(BE s).rcv=s.rcv:=rfl;unfold rxX rxH;rw [hpop,e1];simp only;have hfr:s.dat.frames.tail=l:=by rw [hf];rfl
 rw [hf] at c6 l1;simp only [length_cons,countP_cons] at c6 l1;by_cases hc:f.seg.chk=true
 ·rw [if_pos hc];simp only [foldl_cons,List.foldl_nil];rw [if_pos hc] at c6;have hrep:=e3 hc;have hb:=h.bud hp (k:=0+1) (by rw [hf];simp only [countP_cons,hc,if_true];omega) (fun _=>by omega);have hb2:Bud (0+1) {BE s with rcv:=Cn s.rcv f.seg}:=hb.BE.of rfl rfl rfl rfl rfl rfl rfl rfl;have hB:=hb2.Ch (CK s.rcv f.seg);obtain ⟨d1,d2,d3,d4⟩:=Pk (s:={BE s with rcv:=Cn s.rcv f.seg}) (R:=p.c.rng) hr.1;refine T9 ⟨h.rd,h.rr,h.ps,h.lim,h.dk,hB.gd,hB.gr,h.now,h.sn,e2,fun x hx=>h.fd x (by rw [hf];simp only [Ch,BE,hfr] at hx;simp [hx]),fun x hx => ?_,h.pd,h.po,h.du,?_,h.c2,?_,h.c4,h.c5,?_,?_,?_,?_,h.kn,rfl⟩ (fun hq=>e5 (by rw [← h.rv];exact hq))
  ·simp only [Ch,B8,BE] at hx;rcases Dc.1 hx with hx|⟨d,hd,rfl⟩
   ·exact h.fr x hx
   ·have:=d1 d (by simpa only [BE,hrr] using hd);have hser:(CK s.rcv f.seg).ser=f.seg.ser:=rfl;refine ⟨hrep,by rw [hser];exact f2,?_,?_,fun hs => ?_⟩
    ·simp only [Ch,BE];omega
    ·simp only;omega
    ·have:=f5 hc (by rw [← hser];exact hs);simp only [Ch,BE];omega
  ·simp only [Ch,B8,BE];omega
  ·simp only [Ch,B8,BE,length_append,length_cons,length_nil];omega
  ·simp only [Ch,B8,BE,hfr,length_append,length_cons,length_nil];omega
  ·simp only [Ch,BE,hfr];omega
  ·simp only [Ch,B8,BE,Ft,hrr];simp only [BE] at d2;omega
  ·simp only [Ch,BE,hrr];simp only [BE] at d3 d4;omega
 ·rw [if_neg hc];simp only [List.foldl_nil];rw [if_neg hc] at c6;refine T9 ⟨h.rd,h.rr,h.ps,h.lim,h.dk,EO h.gd,h.gr,h.now,h.sn,e2,fun x hx=>h.fd x (by rw [hf];simp only [BE,hfr] at hx;simp [hx]),h.fr,h.pd,h.po,h.du,h.c1,h.c2,h.c3,h.c4,h.c5,?_,?_,h.l2,h.ds,h.kn,rfl⟩ (fun hq=>e5 (by rw [← h.rv];exact hq))
  ·simp only [BE,hfr];omega
  ·simp only [BE,hfr];omega
end Ab
set_option linter.unusedVariables false
set_option linter.unusedSimpArgs false
namespace Ab
open Go
structure Pz (p:Par) (s q:Snd):Prop where
 fo:FOk q
 c:q.c=p.c
 ses:q.ses=0
 data:q.data=p.d
 fin:q.fin=p.e
 ser:q.ser=s.ser
 busy:q.busy=s.busy
theorem Kq.ack {p:Par} {s:Snd} {x:Seg} (hp:POk p) (h:Kq p s) (hx:J1 p.d x):Pz p s (BT s x)∧(∀t,AX t (BT s x).acked↔AX t s.acked∨AX t x.AY):=by obtain ⟨h1,h2⟩:=h.fo hp;have hd:=hp.sz;have hf:=hx.few hd.2;have hk:=U3 h1 (by omega) ⟨hx.g,by omega⟩ hx.kind (by rw [hx.tot,h.data]);have hw:=h1.win;rw [h.data] at hw;obtain ⟨u1,u2,u3⟩:=WM h1.ack hx.cl.1 hw hx.cl.2 (by omega) (by omega);exact ⟨⟨hk,h.c,h.ses,h.data,h.fin,rfl,rfl⟩,u3⟩
theorem Pz.bat {p:Par} {s q:Snd} (hp:POk p) (h:Kq p s) (hq:Pz p s q) (hc:complete q=false):Hn p.d (s.ser+1) (Aw q):=by have hn:=h.num hp;have hb:=hq.fo.bat hc (by rw [hq.ser];omega);unfold Aw;rw [hq.ses,hq.data,hq.ser] at *;exact batP hb
theorem Pz.send {p:Par} {s q:Snd} {l:List Seg} {t:Int} (hp:POk p) (h:Kq p s) (hq:Pz p s q) (hc:complete q=false) (hl:Hn p.d (s.ser+1) l) :
  (p.e<Ax p.c.rate t l∧CF q t l=(DG q,[]))∨(Ax p.c.rate t l≤p.e∧CF q t l=(BN q (Ax p.c.rate t l) (s.ser+1),Bh p.c.rate t l)):=by
 have hn:=h.num hp;obtain ⟨pre,x,e,h1,h2,h3⟩:=hl.ex;have hlast:l.getLast? = some x:=by rw [e];exact getLast?_concat ..
 unfold CF;rw [hlast];simp only;rw [hq.fin,hq.c,h2];by_cases hb:p.e<Ax p.c.rate t l
 ·exact .inl ⟨hb,by rw [if_pos (.inl hb)]⟩
 ·exact .inr ⟨by omega,by rw [if_neg (by omega)]⟩
inductive LsR (p:Par) (s:Ses) (x:Seg):Ses→Prop
 |busy:s.now<s.snd.busy→LsR p s x s
 |same:¬s.now<s.snd.busy→s.snd.st≠1∨x.ser≠s.snd.ser→LsR p s x s
 |done:¬s.now<s.snd.busy→s.snd.st=1→x.ser=s.snd.ser→complete (BT s.snd x)=true→LsR p s x {s with snd:={BT s.snd x with due:=0,st:=2},kno:=true,knoAt:=s.now}
 |fail:¬s.now<s.snd.busy→s.snd.st=1→x.ser=s.snd.ser→complete (BT s.snd x)=false→p.e<Ax p.c.rate s.now (Aw (BT s.snd x))→LsR p s x {s with snd:=DG (BT s.snd x)}
 |send:¬s.now<s.snd.busy→s.snd.st=1→x.ser=s.snd.ser→complete (BT s.snd x)=false→Ax p.c.rate s.now (Aw (BT s.snd x))≤p.e→
   LsR p s x {s with snd:=BN (BT s.snd x) (Ax p.c.rate s.now (Aw (BT s.snd x))) (s.snd.ser+1),pend:=Bh p.c.rate s.now (Aw (BT s.snd x))}
theorem Kq.BK {p:Par} {s:Snd} {x:Seg} {t:Int} (hp:POk p) (h:Kq p s) (hx:J1 p.d x) (ht:s.busy≤t∧t≤2199023255552) :
  ((s.st≠1∨x.ser≠s.ser)→BK s t x=(s,[],0))∧(s.st=1→x.ser=s.ser→complete (BT s x)=true→BK s t x=({BT s x with due:=0,st:=2},[],0))∧
  (s.st=1→x.ser=s.ser→complete (BT s x)=false→BK s t x=((CF (BT s x) t (Aw (BT s x))).1,(CF (BT s x) t (Aw (BT s x))).2,0)):=by
 have hk:=hx.kind;have hses:x.ses=s.ses:=by rw [hx.ses,h.ses]
 have htot:x.tot=s.data.size:=by rw [hx.tot,h.data]
 have hg:=hx.g;have hok:=h.ok;refine ⟨fun hq => ?_,fun h1 h2 h3 => ?_,fun h1 h2 h3 => ?_⟩
 ·unfold Ab.BK;rw [if_neg (by omega),if_neg (by omega)];rcases hq with hq|hq
  ·rw [if_pos (.inl hq)]
  ·by_cases hst:s.st=1
   ·rw [if_neg (by omega),if_neg (by omega)];unfold G5;rw [if_pos (.inl hq)]
   ·rw [if_pos (.inl hst)]
 ·unfold Ab.BK;rw [if_neg (by omega),if_neg (by omega),if_neg (by omega),if_neg (by omega)];unfold G5;rw [if_neg (by omega),if_pos h3]
 ·unfold Ab.BK;rw [if_neg (by omega),if_neg (by omega),if_neg (by omega),if_neg (by omega)];unfold G5;rw [if_neg (by omega),if_neg (by rw [h3];simp)]
theorem Fu {p:Par} {s:Ses} (h:Inv p s) (hg:PGt s) (hb:¬s.now<s.snd.busy):s.pend=[]:=by
 cases hp:s.pend with
 |nil=>rfl
 |cons o l=>
  have h1:=h.pd o (by rw [hp];simp);have h2:=hg o (by rw [hp];simp);omega
theorem Inv.lsR {p:Par} {s:Ses} (hp:POk p) (h:Inv p s) (hg:PGt s) {f:Frame} {l:List Frame} (hf:s.rep.frames=f::l) (ha:f.arr=s.now) :
  LsR p (Bq s) f.seg (lsX (Bq s) f.seg)∧(¬s.now<s.snd.busy→(BK s.snd s.now f.seg).2.2=0∧(BK s.snd s.now f.seg).2.1.length≤1000000):=by
 have hr:=hp.rng;obtain ⟨f1,f2,f3,f4,f5⟩:=h.fr f (by rw [hf];simp);by_cases hb:s.now<s.snd.busy
 ·refine ⟨?_,fun q=>(q hb).elim⟩;have e:lsX (Bq s) f.seg=Bq s:=if_pos hb;rw [e];exact .busy hb
 ·have hpn:=Fu h hg hb;obtain ⟨k1,k2,k3⟩:=h.sn.BK hp f1 (t:=s.now) (by omega);have e:lsX (Bq s) f.seg=lsF {Bq s with snd:=(BK s.snd s.now f.seg).1,pend:=s.pend++(BK s.snd s.now f.seg).2.1}:=if_neg hb;rw [e,hpn];by_cases hq:s.snd.st≠1∨f.seg.ser≠s.snd.ser
  ·rw [k1 hq];refine ⟨?_,fun _=>⟨rfl,by simp⟩⟩;have e2:lsF {Bq s with snd:=s.snd,pend:=[]++[]}=Bq s:=by
    unfold lsF;rw [if_neg]
    ·simp only [Bq,hpn,append_nil]
    ·rintro ⟨q1,q2⟩
     have:=h.kn.2 q2;rw [show (Bq s).kno=s.kno from rfl] at q1;rw [q1] at this;cases this
   simp only;rw [e2];exact .same hb hq
  ·have hst:s.snd.st=1:=by omega
   have hser:f.seg.ser=s.snd.ser:=by omega
   have hk:s.kno=false:=by
    cases hkk:s.kno with
    |false=>rfl
    |true=>have:=h.kn.1 hkk;omega
   cases hc:complete (BT s.snd f.seg) with
   |true=>
    rw [k2 hst hser hc];refine ⟨?_,fun _=>⟨rfl,by simp⟩⟩;have e2:lsF {Bq s with snd:={BT s.snd f.seg with due:=0,st:=2},pend:=[]++[]}={Bq s with snd:={BT s.snd f.seg with due:=0,st:=2},kno:=true,knoAt:=s.now}:=by unfold lsF;rw [if_pos ⟨hk,rfl⟩];simp only [Bq,hpn,append_nil]
    simp only;rw [e2];exact .done hb hst hser hc
   |false=>
    rw [k3 hst hser hc];obtain ⟨hQ,_⟩:=h.sn.ack hp f1;have hB:=hQ.bat hp h.sn hc;have hlen:=hB.len;have hsz:=hp.sz;rcases hQ.send (t:=s.now) hp h.sn hc hB with ⟨g1,g2⟩|⟨g1,g2⟩
    ·rw [g2];refine ⟨?_,fun _=>⟨rfl,by simp⟩⟩;have e2:lsF {Bq s with snd:=DG (BT s.snd f.seg),pend:=[]++[]}={Bq s with snd:=DG (BT s.snd f.seg)}:=by unfold lsF;rw [if_neg (by simp [DG])];simp only [Bq,hpn,append_nil]
     simp only;rw [e2];exact .fail hb hst hser hc g1
    ·rw [g2];refine ⟨?_,fun _=>⟨rfl,by simp only [C8];omega⟩⟩;have e2:lsF {Bq s with snd:=BN (BT s.snd f.seg) (Ax p.c.rate s.now (Aw (BT s.snd f.seg))) (s.snd.ser+1),pend:=[]++Bh p.c.rate s.now (Aw (BT s.snd f.seg))}={Bq s with snd:=BN (BT s.snd f.seg) (Ax p.c.rate s.now (Aw (BT s.snd f.seg))) (s.snd.ser+1),pend:=Bh p.c.rate s.now (Aw (BT s.snd f.seg))}:=by unfold lsF;rw [if_neg (by simp [BN]),nil_append]
     simp only;rw [e2];exact .send hb hst hser hc g1
end Ab
set_option linter.unusedVariables false
set_option linter.unusedSimpArgs false
namespace Ab
open Go
theorem Hn.outs {d:ByteArray} {ser r t:Int} {l:List Seg} (h:Hn d ser l) (hr:1≤r∧r≤1000) (hs:0≤ser) :
  (Bh r t l).Pairwise (fun a b=>a.at_<b.at_)∧(∀o∈Bh r t l,LX d o.seg∧t<o.at_∧o.at_≤Ax r t l∧o.seg.ser≤ser∧(o.seg.chk=true→o.at_=Ax r t l∧o.seg.ser=ser))∧t+(l.length:Int)≤Ax r t l∧(Bh r t l).countP (fun o=>o.seg.chk)=1∧1≤l.length:=by
 obtain ⟨h1,h2,h3⟩:=OF (r:=r) l t (fun x hx=>((h.pc x hx).DE hr).2);obtain ⟨pre,x,e,e1,e2,e3⟩:=h.ex;have hc:∀o∈Bh r t pre,o.seg.chk=false:=fun o ho=>by have:o.seg∈(Bh r t pre).map Out.seg:=List.mem_map_of_mem ho;rw [OG] at this;exact e3 _ this
 refine ⟨h1,fun o ho => ?_,h3,?_,by rw [e];simp⟩
 ·obtain ⟨k1,k2,k3⟩:=h2 o ho;have hsp:=h.pc _ k3;rw [e,EK] at ho;rcases mem_append.1 ho with ho|ho
  ·have:=hc o ho;refine ⟨hsp,k1,k2,?_,fun q=>by rw [this] at q;cases q⟩;rw [hsp.sr this];exact hs
  ·rw [mem_singleton] at ho;subst ho;refine ⟨hsp,k1,k2,by simp only;omega,fun _=>⟨by rw [e],e2⟩⟩
 ·rw [e,EK,List.countP_append,List.countP_eq_zero.2 (fun o ho=>by rw [hc o ho];simp)];simp [e1]
theorem Inv.Bq {p:Par} {s:Ses} (h:Inv p s):Inv p (Bq s):=
 {h with
  gr:=EO h.gr
  fr:=fun f hf=>h.fr f (List.mem_of_mem_tail hf)
  l2:=by have:=h.l2;simp only [Ab.Bq,length_tail];omega}
theorem Inv.send {p:Par} {s:Ses} (hp:POk p) (h:Inv p s) {q:Snd} {l:List Seg} (hpn:s.pend=[]) (hq:Pz p s.snd q) (hc:complete q=false) (hl:Hn p.d (s.snd.ser+1) l) (hst:s.snd.st=1) (hnow:s.snd.busy+2*p.c.rng≤s.now) (he:Ax p.c.rate s.now l≤p.e) :
  Inv p {s with snd:=BN q (Ax p.c.rate s.now l) (s.snd.ser+1),pend:=Bh p.c.rate s.now l}:=by
 have hr:=hp.rng;have hn:=h.sn.num hp;obtain ⟨o1,o2,o3,o4,o5⟩:=hl.outs (t:=s.now) ⟨hr.2.2.1,hr.2.2.2.1⟩ (by omega);have hsz:=hp.sz;have hlen:=hl.len;have c4:=h.c4;have c5:=h.c5;have c6:=h.c6;rw [hpn] at c4 c5 c6;simp only [length_nil,List.countP_nil,natCast_zero,Int.add_zero,Int.mul_zero] at c4 c5 c6;have ht:=h.sn.t;have hcs:=hp.t;have hm1:(s.snd.ser+1-1)*(2*p.c.rng+1)=(s.snd.ser-1)*(2*p.c.rng+1)+(2*p.c.rng+1):=by rw [show s.snd.ser+1-1=(s.snd.ser-1)+1 by omega,Int.add_mul,Int.one_mul]
 have hm2:((p.d.size:Int)+1)*(s.snd.ser+1)=((p.d.size:Int)+1)*s.snd.ser+((p.d.size:Int)+1):=by rw [Int.mul_add,Int.mul_one]
 have hk:s.kno=false:=by
  cases hkk:s.kno with
  |false=>rfl
  |true=>have:=h.kn.1 hkk;omega
 have hqf:=hq.fo.f;have hok:GP (BN q (Ax p.c.rate s.now l) (s.snd.ser+1))=0:=T3 hqf hc (by rw [hq.c,hq.fin];omega) (by omega);refine ⟨h.rd,h.rr,h.ps,h.lim,h.dk,h.gd,h.gr,h.now,⟨hq.c,hq.ses,hq.data,hq.fin,hok,?_⟩,h.rc,fun f hf => ?_,fun f hf => ?_,fun o ho => ?_,o1,fun _ => ?_,h.c1,h.c2,h.c3,?_,?_,?_,h.l1,h.l2,h.ds,?_,h.rv⟩
 ·simp only [BN];omega
 ·obtain ⟨f1,f2,f3,f4,f5⟩:=h.fd f hf;exact ⟨f1,by simp only [BN];omega,f3,f4,fun _ hs=>by simp only [BN] at hs;omega⟩
 ·obtain ⟨f1,f2,f3,f4,f5⟩:=h.fr f hf;exact ⟨f1,by simp only [BN];omega,f3,f4,fun hs=>by simp only [BN] at hs;omega⟩
 ·obtain ⟨k1,k2,k3,k4,k5⟩:=o2 o ho;exact ⟨k1,by simp only;omega,by simp only [BN];omega,by simp only [BN];omega,fun hcc=>(k5 hcc).1⟩
 ·simp only [BN,hq.c];omega
 ·simp only [BN,C8];omega
 ·simp only [BN,C8];omega
 ·simp only [BN,o4];omega
 ·simp only [BN,hk];simp
theorem Inv.turn {p:Par} {s:Ses} (h:Inv p s) {q:Snd} (hq:Pz p s.snd q) (st due:Int) (hst:st≠1) (hok:GP {q with due:=due,st:=st}=0) (kno:Bool) (t:Int) (hk:kno=true↔st=2) :
  Inv p {s with snd:={q with due:=due,st:=st},kno:=kno,knoAt:=t}:=by
 refine ⟨h.rd,h.rr,h.ps,h.lim,h.dk,h.gd,h.gr,h.now,⟨hq.c,hq.ses,hq.data,hq.fin,hok,?_⟩,h.rc,fun f hf => ?_,fun f hf => ?_,fun o ho => ?_,h.po,fun q=>(hst q).elim,h.c1,h.c2,h.c3,?_,?_,?_,h.l1,h.l2,h.ds,hk,h.rv⟩
 ·simp only [hq.ser,hq.busy];exact h.sn.t
 ·simp only [hq.ser,hq.busy];exact h.fd f hf
 ·simp only [hq.ser,hq.busy];exact h.fr f hf
 ·simp only [hq.ser,hq.busy];exact h.pd o ho
 ·simp only [hq.busy];exact h.c4
 ·simp only [hq.ser];exact h.c5
 ·simp only [hq.ser];exact h.c6
theorem Inv.ls {p:Par} {s s':Ses} (hp:POk p) (h:Inv p s) (hg:PGt s) {f:Frame} {l:List Frame} (hf:s.rep.frames=f::l) (ha:f.arr=s.now) (hs:LsR p (Ab.Bq s) f.seg s'):Inv p s':=by
 have hI:=h.Bq;obtain ⟨f1,f2,f3,f4,f5⟩:=h.fr f (by rw [hf];simp);obtain ⟨hQ,_⟩:=h.sn.ack hp f1;have hkf:s.snd.st=1→s.kno=false:=fun q=>by
  cases hkk:s.kno with
  |false=>rfl
  |true=>have:=h.kn.1 hkk;omega
 cases hs with
 |busy _=>exact hI
 |same _ _=>exact hI
 |done h1 h2 h3 h4=>exact hI.turn hQ 2 0 (by decide) (done_ok hQ.fo.f h4) true s.now (by simp)
 |fail h1 h2 h3 h4 h5=>
  have:=hI.turn hQ 3 0 (by decide) (Uy hQ.fo.f) s.kno s.knoAt (by rw [hkf h2];simp);exact this
 |send h1 h2 h3 h4 h5=>
  have hb:=f5 h3;have hpn0:=Fu (s:=s) h hg h1;have hpn:(Ab.Bq s).pend=[]:=hpn0;exact hI.send hp hpn hQ h4 (hQ.bat hp h.sn h4) h2 (by show s.snd.busy+2*p.c.rng≤s.now;omega) h5
inductive ExR (p:Par) (s:Ses):Ses→Prop
 |same:¬(s.snd.st=1∧s.snd.due=s.now)→ExR p s s
 |fail:s.snd.st=1→s.snd.due=s.now→p.e<Ax p.c.rate s.now (CC (Aw s.snd))→ExR p s {s with snd:=DG s.snd}
 |send:s.snd.st=1→s.snd.due=s.now→complete s.snd=false→Ax p.c.rate s.now (CC (Aw s.snd))≤p.e→
   ExR p s {s with snd:=BN s.snd (Ax p.c.rate s.now (CC (Aw s.snd))) (s.snd.ser+1),pend:=Bh p.c.rate s.now (CC (Aw s.snd))}
theorem Kq.q {p:Par} {s:Snd} (hp:POk p) (h:Kq p s):Pz p s s:=⟨(h.fo hp).1,h.c,h.ses,h.data,h.fin,rfl,rfl⟩
theorem Inv.due {p:Par} {s:Ses} (h:Inv p s) (h1:s.snd.st=1):complete s.snd=false∧s.snd.due=s.snd.busy+2*p.c.rng+1:=by have:=OV h.sn.ok h1;rw [h.sn.c] at this;exact this
theorem Inv.exR {p:Par} {s:Ses} (hp:POk p) (h:Inv p s) (hg:PGt s):ExR p s (exS s)∧(s.snd.st=1→s.snd.due=s.now→(Ca s.snd s.now).2.2=0∧(Ca s.snd s.now).2.1.length≤1000000):=by
 by_cases hq:s.snd.st=1∧s.snd.due=s.now
 ·obtain ⟨h1,h2⟩:=hq;obtain ⟨d1,d2⟩:=h.due h1;have hr:=hp.rng;have hn:=h.sn.num hp;have hsz:=hp.sz;have hpn:=Fu h hg (by omega);have hQ:=h.sn.q hp;have hB:=(hQ.bat hp h.sn d1).last;have hw:Ca s.snd s.now=((CF s.snd s.now (CC (Aw s.snd))).1,(CF s.snd s.now (CC (Aw s.snd))).2,0):=by unfold Ca;rw [if_neg (by have:=h.sn.ok;omega),if_neg (by omega),if_neg (by omega)]
  have e:exS s={s with snd:=(Ca s.snd s.now).1,pend:=s.pend++(Ca s.snd s.now).2.1}:=if_pos ⟨h1,h2⟩;have hlen:=hB.len;rw [e,hw,hpn];rcases hQ.send (t:=s.now) hp h.sn d1 hB with ⟨g1,g2⟩|⟨g1,g2⟩
  ·rw [g2];refine ⟨?_,fun _ _=>⟨rfl,by simp⟩⟩;have e2:{s with snd:=DG s.snd,pend:=[]++[]}={s with snd:=DG s.snd}:=by simp only [hpn,append_nil]
   simp only;rw [e2];exact .fail h1 h2 g1
  ·rw [g2];refine ⟨?_,fun _ _=>⟨rfl,by simp only [C8];omega⟩⟩;simp only [nil_append];exact .send h1 h2 d1 g1
 ·have e:exS s=s:=if_neg hq;rw [e];exact ⟨.same hq,fun a b=>(hq ⟨a,b⟩).elim⟩
theorem Inv.ex {p:Par} {s s':Ses} (hp:POk p) (h:Inv p s) (hg:PGt s) (hs:ExR p s s'):Inv p s':=by
 have hQ:=h.sn.q hp;have hkf:s.snd.st=1→s.kno=false:=fun q=>by
  cases hkk:s.kno with
  |false=>rfl
  |true=>have:=h.kn.1 hkk;omega
 cases hs with
 |same _=>exact h
 |fail h1 h2 h3=>
  have:=h.turn hQ 3 0 (by decide) (Uy hQ.fo.f) s.kno s.knoAt (by rw [hkf h1];simp);exact this
 |send h1 h2 h3 h4=>
  obtain ⟨d1,d2⟩:=h.due h1;have hr:=hp.rng;exact h.send hp (Fu h hg (by omega)) hQ h3 (hQ.bat hp h.sn h3).last h1 (by omega) h4
end Ab
set_option linter.unusedVariables false
set_option linter.unusedSimpArgs false
namespace Ab
open Go
inductive Mic (p:Par):Ses→Ses→Prop
 |time (s:Ses) (t:Int):Inv p s→PGt s→DGt s→RGt s→UGt s→nxS s=some t→Mic p s {s with now:=t}
 |tx (s:Ses) (o:Out) (l:List Out):Inv p s→s.pend=o::l→o.at_=s.now→Mic p s {DJ s o.seg with pend:=l}
 |rx (s:Ses) (f:Frame) (l:List Frame):Inv p s→PGt s→s.dat.frames=f::l→f.arr=s.now→Mic p s (rxX (BE s) f.seg)
 |ls (s s':Ses) (f:Frame) (l:List Frame):Inv p s→PGt s→DGt s→s.rep.frames=f::l→f.arr=s.now→LsR p (Bq s) f.seg s'→Mic p s s'
 |ex (s s':Ses):Inv p s→PGt s→DGt s→RGt s→ExR p s s'→Mic p s s'
inductive Reach (p:Par) (s:Ses):Ses→Prop
 |refl:Reach p s s
 |step {t u:Ses}:Reach p s t→Mic p t u→Reach p s u
theorem Reach.trans {p:Par} {a b c:Ses} (h:Reach p a b) (k:Reach p b c):Reach p a c:=by
 induction k with
 |refl=>exact h
 |step _ m ih=>exact ih.step m
theorem Reach.one {p:Par} {a b:Ses} (m:Mic p a b):Reach p a b:=Reach.refl.step m
theorem Jb {a b:Option Int} {t:Int} (h:B3 a b=some t):(∀x,a=some x→t≤x)∧(∀x,b=some x→t≤x)∧(a=some t∨b=some t):=by
 cases a with
 |none=>
  simp only [B3] at h;subst h;exact ⟨fun x hx=>(by cases hx),fun x hx=>(by cases hx;omega),.inr rfl⟩
 |some a=>
  cases b with
  |none=>
   simp only [B3] at h;cases h;exact ⟨fun x hx=>(by cases hx;omega),fun x hx=>(by cases hx),.inl rfl⟩
  |some b=>
   simp only [B3,Option.some.injEq] at h;split at h
   ·subst h;exact ⟨fun x hx=>(by cases hx;omega),fun x hx=>(by cases hx;omega),.inr rfl⟩
   ·subst h;exact ⟨fun x hx=>(by cases hx;omega),fun x hx=>(by cases hx;omega),.inl rfl⟩
theorem FC {a b:Option Int} (h:B3 a b=none):a=none∧b=none:=by
 cases a with
 |none=>cases b with
  |none=>exact ⟨rfl,rfl⟩
  |some b=>simp [B3] at h
 |some a=>cases b<;>simp [B3] at h
theorem XY {p:Par} {s:Ses} {t:Int} (h:Inv p s) (ht:nxS s=some t) :
  (∀o∈s.pend,t≤o.at_)∧(∀f∈s.dat.frames,t≤f.arr)∧(∀f∈s.rep.frames,t≤f.arr)∧(s.snd.st=1→t≤s.snd.due)∧
  ((∃o∈s.pend,o.at_=t)∨(∃f∈s.dat.frames,f.arr=t)∨(∃f∈s.rep.frames,f.arr=t)∨(s.snd.st=1∧s.snd.due=t)):=by
 unfold nxS at ht;obtain ⟨a1,a2,a3⟩:=Jb ht;have hp:∀x,s.pend.head?.map (·.at_)=some x→(∀o∈s.pend,x≤o.at_)∧∃o∈s.pend,o.at_=x:=by
  intro x hx;have hs:=h.po;cases hpd:s.pend with
  |nil=>rw [hpd] at hx;cases hx
  |cons o l=>
   rw [hpd] at hx hs;simp only [head?_cons,map_some,Option.some.injEq] at hx;subst hx;rw [pairwise_cons] at hs;refine ⟨fun y hy => ?_,o,by simp,rfl⟩;rcases mem_cons.1 hy with rfl|hy
   ·omega
   ·have:=hs.1 y hy;omega
 have hc:∀(c:BW) x,c.frames.Pairwise (fun a b=>a.arr≤b.arr)→Au c=some x→(∀f∈c.frames,x≤f.arr)∧∃f∈c.frames,f.arr=x:=by
  intro c x hs hx;unfold Au at hx;cases hpd:c.frames with
  |nil=>rw [hpd] at hx;cases hx
  |cons o l=>
   rw [hpd] at hx hs;simp only [head?_cons,map_some,Option.some.injEq] at hx;subst hx;rw [pairwise_cons] at hs;refine ⟨fun y hy => ?_,o,by simp,rfl⟩;rcases mem_cons.1 hy with rfl|hy
   ·omega
   ·exact hs.1 y hy
 have key:∀{a b:Option Int} {t:Int},B3 a b=some t→(∀x,a=some x→t≤x)∧(∀x,b=some x→t≤x):=fun h=>⟨(Jb h).1,(Jb h).2.1⟩
 have h3:∀x,B3 (B3 (s.pend.head?.map (·.at_)) (Au s.dat)) (Au s.rep)=some x→(∀o∈s.pend,x≤o.at_)∧(∀f∈s.dat.frames,x≤f.arr)∧(∀f∈s.rep.frames,x≤f.arr)∧((∃o∈s.pend,o.at_=x)∨(∃f∈s.dat.frames,f.arr=x)∨∃f∈s.rep.frames,f.arr=x):=by
  intro x hx;obtain ⟨b1,b2,b3⟩:=Jb hx;have hr:∀f∈s.rep.frames,x≤f.arr:=by
   intro f hf;cases hn:Au s.rep with
   |none=>
    unfold Au at hn;cases hff:s.rep.frames with
    |nil=>rw [hff] at hf;cases hf
    |cons a l=>rw [hff] at hn;cases hn
   |some y=>have:=(hc s.rep y h.gr.srt hn).1 f hf;have:=b2 y hn;omega
  have h2:∀y,B3 (s.pend.head?.map (·.at_)) (Au s.dat)=some y→(∀o∈s.pend,y≤o.at_)∧(∀f∈s.dat.frames,y≤f.arr)∧((∃o∈s.pend,o.at_=y)∨∃f∈s.dat.frames,f.arr=y):=by
   intro y hy;obtain ⟨d1,d2,d3⟩:=Jb hy;refine ⟨fun o ho => ?_,fun f hf => ?_,?_⟩
   ·cases hn:s.pend.head?.map (·.at_) with
    |none=>
     cases hff:s.pend with
     |nil=>rw [hff] at ho;cases ho
     |cons a l=>rw [hff] at hn;cases hn
    |some z=>have:=(hp z hn).1 o ho;have:=d1 z hn;omega
   ·cases hn:Au s.dat with
    |none=>
     unfold Au at hn;cases hff:s.dat.frames with
     |nil=>rw [hff] at hf;cases hf
     |cons a l=>rw [hff] at hn;cases hn
    |some z=>have:=(hc s.dat z h.gd.srt hn).1 f hf;have:=d2 z hn;omega
   ·rcases d3 with d3|d3
    ·exact .inl (hp y d3).2
    ·exact .inr (hc s.dat y h.gd.srt d3).2
  cases hm:B3 (s.pend.head?.map (·.at_)) (Au s.dat) with
  |none=>
   obtain ⟨e1,e2⟩:=FC hm;have hpe:s.pend=[]:=by cases hff:s.pend with|nil=>rfl|cons a l=>rw [hff] at e1;cases e1
   have hde:s.dat.frames=[]:=by unfold Au at e2;cases hff:s.dat.frames with|nil=>rfl|cons a l=>rw [hff] at e2;cases e2
   rw [hm] at b3;rcases b3 with b3|b3
   ·cases b3
   ·exact ⟨by rw [hpe];simp,by rw [hde];simp,hr,.inr (.inr (hc s.rep x h.gr.srt b3).2)⟩
  |some y=>
   obtain ⟨q1,q2,q3⟩:=h2 y hm;have hxy:=b1 y hm;refine ⟨fun o ho=>by have:=q1 o ho;omega,fun f hf=>by have:=q2 f hf;omega,hr,?_⟩;rcases b3 with b3|b3
   ·rw [hm] at b3;cases b3;rcases q3 with q3|q3
    ·exact .inl q3
    ·exact .inr (.inl q3)
   ·exact .inr (.inr (hc s.rep x h.gr.srt b3).2)
 have hdue:s.snd.st=1→t≤s.snd.due:=fun q=>a2 _ (by rw [if_pos q]);cases hm:B3 (B3 (s.pend.head?.map (·.at_)) (Au s.dat)) (Au s.rep) with
 |none=>
  obtain ⟨e0,e3⟩:=FC hm;obtain ⟨e1,e2⟩:=FC e0;have hpe:s.pend=[]:=by cases hff:s.pend with|nil=>rfl|cons a l=>rw [hff] at e1;cases e1
  have hde:s.dat.frames=[]:=by unfold Au at e2;cases hff:s.dat.frames with|nil=>rfl|cons a l=>rw [hff] at e2;cases e2
  have hre:s.rep.frames=[]:=by unfold Au at e3;cases hff:s.rep.frames with|nil=>rfl|cons a l=>rw [hff] at e3;cases e3
  refine ⟨by rw [hpe];simp,by rw [hde];simp,by rw [hre];simp,hdue,?_⟩;rw [hm] at a3;rcases a3 with a3|a3
  ·cases a3
  ·by_cases q:s.snd.st=1
   ·rw [if_pos q] at a3;cases a3;exact .inr (.inr (.inr ⟨q,rfl⟩))
   ·rw [if_neg q] at a3;cases a3
 |some y=>
  obtain ⟨q1,q2,q3,q4⟩:=h3 y hm;have hty:=a1 y hm;refine ⟨fun o ho=>by have:=q1 o ho;omega,fun f hf=>by have:=q2 f hf;omega,fun f hf=>by have:=q3 f hf;omega,hdue,?_⟩;rcases a3 with a3|a3
  ·rw [hm] at a3;cases a3;rcases q4 with q|q|q
   ·exact .inl q
   ·exact .inr (.inl q)
   ·exact .inr (.inr (.inl q))
  ·by_cases q:s.snd.st=1
   ·rw [if_pos q] at a3;cases a3;exact .inr (.inr (.inr ⟨q,rfl⟩))
   ·rw [if_neg q] at a3;cases a3
theorem XZ {s:Ses} (h:nxS s=none):s.pend=[]∧s.dat.frames=[]∧s.rep.frames=[]∧s.snd.st≠1:=by unfold nxS at h;obtain ⟨e0,e4⟩:=FC h;obtain ⟨e0,e3⟩:=FC e0;obtain ⟨e1,e2⟩:=FC e0;refine ⟨(by cases hff:s.pend with|nil=>rfl|cons a l=>rw [hff] at e1;cases e1),(by unfold Au at e2;cases hff:s.dat.frames with|nil=>rfl|cons a l=>rw [hff] at e2;cases e2),(by unfold Au at e3;cases hff:s.rep.frames with|nil=>rfl|cons a l=>rw [hff] at e3;cases e3),fun q => ?_⟩;rw [if_pos q] at e4;cases e4
theorem Inv.at {p:Par} {s:Ses} {t:Int} (h:Inv p s) (ht0:0≤t) (ht:nxS s=some t):Inv p {s with now:=t}:=by
 obtain ⟨n1,n2,n3,n4,n5⟩:=XY h ht;exact {h with
  now:=ht0
  fd:=fun f hf=>by obtain ⟨f1,f2,f3,f4,f5⟩:=h.fd f hf;exact ⟨f1,f2,n2 f hf,f4,f5⟩
  fr:=fun f hf=>by obtain ⟨f1,f2,f3,f4,f5⟩:=h.fr f hf;exact ⟨f1,f2,n3 f hf,f4,f5⟩
  pd:=fun o ho=>by obtain ⟨f1,f2,f3,f4,f5⟩:=h.pd o ho;exact ⟨f1,n1 o ho,f3,f4,f5⟩
  du:=n4}
structure Wt (p:Par) (s:Ses):Prop where
 i:Inv p s
 pg:PGt s
 dg:DGt s
 rg:RGt s
 ug:UGt s
theorem Wt.nx {p:Par} {s:Ses} {t:Int} (hp:POk p) (h:Wt p s) (ht:nxS s=some t):s.now<t∧t≤p.e+4*p.c.rng+2:=by
 have hr:=hp.rng;have hn:=h.i.sn.num hp;rcases (XY h.i ht).2.2.2.2 with ⟨o,ho,rfl⟩|⟨f,hf,rfl⟩|⟨f,hf,rfl⟩|⟨h1,rfl⟩
 ·have:=h.pg o ho;have:=h.i.pd o ho;omega
 ·have:=h.dg f hf;have:=h.i.fd f hf;omega
 ·have:=h.rg f hf;have:=h.i.fr f hf;omega
 ·have:=h.ug h1;have:=(h.i.due h1).2;omega
theorem Mic.inv {p:Par} {s s':Ses} (hp:POk p) (m:Mic p s s'):Inv p s':=by
 cases m with
 |time t h1 h2 h3 h4 h5 h6=>exact h1.at (by have:=(Wt.nx hp ⟨h1,h2,h3,h4,h5⟩ h6).1;have:=h1.now;omega) h6
 |tx o l h1 h2 h3=>exact h1.tx hp h2 h3
 |rx f l h1 h2 h3 h4=>exact h1.rx hp h3 h4
 |ls _ f l h1 h2 h3 h4 h5 h6=>exact h1.ls hp h2 h4 h5 h6
 |ex _ h1 h2 h3 h4 h5=>exact h1.ex hp h2 h5
end Ab
set_option linter.unusedVariables false
set_option linter.unusedSimpArgs false
namespace Ab
open Go
theorem tx_gt {p:Par} {s:Ses} {o:Out} {l:List Out} (h:Inv p s) (hp:s.pend=o::l) (ho:o.at_≠s.now):PGt s:=by
 have h0:=(h.pd o (by rw [hp];simp)).2.1;have hs:=h.po;rw [hp,pairwise_cons] at hs;intro x hx;rw [hp] at hx;rcases mem_cons.1 hx with rfl|hx
 ·omega
 ·have:=hs.1 x hx;omega
theorem Wf {p:Par} (hp:POk p):∀(k:Nat) (s:Ses),Inv p s→s.pend.length≤k→Reach p s (txS k s)∧Inv p (txS k s)∧PGt (txS k s)∧(txS k s).now=s.now
 |0,s,h,hk=>⟨.refl,h,(fun o ho=>by have e:s.pend=[]:=length_eq_zero_iff.1 (by omega);change o∈s.pend at ho;rw [e] at ho;cases ho),rfl⟩
 |k+1,s,h,hk=>by
  unfold txS;cases hpd:s.pend with
  |nil=>exact ⟨.refl,h,fun o ho=>(by simp only [hpd] at ho;cases ho),rfl⟩
  |cons o l=>
   simp only;split
   ·rename_i ha;have hI:=h.tx hp hpd ha;obtain ⟨i1,i2,i3,i4⟩:=Wf hp k _ hI (by rw [hpd] at hk;simpa using hk);exact ⟨(Reach.one (.tx s o l h hpd ha)).trans i1,i2,i3,i4⟩
   ·rename_i ha;exact ⟨.refl,h,tx_gt h hpd ha,rfl⟩
theorem Mt:∀(l:List Seg) (s:Ses),(l.foldl Ch s).pend=s.pend∧(l.foldl Ch s).snd=s.snd∧(l.foldl Ch s).sent=s.sent∧(l.foldl Ch s).rcv=s.rcv∧(l.foldl Ch s).kno=s.kno∧(l.foldl Ch s).knoAt=s.knoAt∧(l.foldl Ch s).rcvd=s.rcvd∧(l.foldl Ch s).arrive=s.arrive
 |[],s=>⟨rfl,rfl,rfl,rfl,rfl,rfl,rfl,rfl⟩
 |x::l,s=>by rw [foldl_cons];exact Mt l _
theorem Qj (s:Ses) (x:Seg):(rxX s x).pend=s.pend∧(rxX s x).snd=s.snd∧(rxX s x).sent=s.sent∧(rxX s x).kno=s.kno∧(rxX s x).knoAt=s.knoAt:=by
 obtain ⟨a1,a2,a3,a4,a5,a6,a7⟩:=Mt (EN s.rcv x).2.1 {s with rcv:=(EN s.rcv x).1};unfold rxX rxF rxH;split
 ·exact ⟨a1,a2,a3,a5,a6⟩
 ·exact ⟨a1,a2,a3,a5,a6⟩
theorem Inv.rxG {p:Par} {s:Ses} (h:PGt s) {x:Seg}:PGt (rxX (BE s) x):=by intro o ho;rw [(Qj _ _).1] at ho;rw [PG];exact h o ho
theorem Wz {p:Par} (hp:POk p):∀(k:Nat) (s:Ses),Inv p s→PGt s→s.dat.frames.length≤k→Reach p s (rxS k s)∧Inv p (rxS k s)∧PGt (rxS k s)∧DGt (rxS k s)∧(rxS k s).now=s.now
 |0,s,h,hg,hk=>⟨.refl,h,hg,(fun o ho=>by have e:s.dat.frames=[]:=length_eq_zero_iff.1 (by omega);change o∈s.dat.frames at ho;rw [e] at ho;cases ho),rfl⟩
 |k+1,s,h,hg,hk=>by
  unfold rxS;cases hpd:s.dat.frames with
  |nil=>exact ⟨.refl,h,hg,fun o ho=>(by rw [hpd] at ho;cases ho),rfl⟩
  |cons f l=>
   simp only;split
   ·rename_i ha;have hI:=h.rx hp hpd ha;obtain ⟨i1,i2,i3,i4,i5⟩:=Wz hp k _ hI (Inv.rxG (p:=p) hg) (by rw [E6];simp only [BE,length_tail];omega);exact ⟨(Reach.one (.rx s f l h hg hpd ha)).trans i1,i2,i3,i4,by rw [i5,PG];rfl⟩
   ·rename_i ha;refine ⟨.refl,h,hg,?_,rfl⟩;have h0:=(h.fd f (by rw [hpd];simp)).2.2.1;have hs:=h.gd.srt;rw [hpd,pairwise_cons] at hs;intro x hx;rw [hpd] at hx;rcases mem_cons.1 hx with rfl|hx
    ·omega
    ·have:=hs.1 x hx;omega
theorem Hn.gt {p:Par} {s:Ses} {q:Snd} {l:List Seg} (hp:POk p) (hl:Hn p.d (s.snd.ser+1) l) (hs:0≤s.snd.ser+1) {o:Out} (ho:o∈Bh p.c.rate s.now l):s.now<o.at_:=by have hr:=hp.rng;exact ((hl.outs (t:=s.now) ⟨hr.2.2.1,hr.2.2.2.1⟩ hs).2.1 o ho).2.1
theorem Mic.lsG {p:Par} {s s':Ses} (hp:POk p) (h:Inv p s) (hg:PGt s) (hd:DGt s) {f:Frame} {l:List Frame} (hf:s.rep.frames=f::l) (ha:f.arr=s.now) (hs:LsR p (Bq s) f.seg s'):PGt s'∧DGt s'∧s'.now=s.now∧s'.rep.frames=l:=by
 obtain ⟨f1,f2,f3,f4,f5⟩:=h.fr f (by rw [hf];simp);have hl:(Bq s).rep.frames=l:=by simp [Bq,hf]
 cases hs with
 |busy _=>exact ⟨hg,hd,rfl,hl⟩
 |same _ _=>exact ⟨hg,hd,rfl,hl⟩
 |done h1 h2 h3 h4=>exact ⟨hg,hd,rfl,hl⟩
 |fail h1 h2 h3 h4 h5=>exact ⟨hg,hd,rfl,hl⟩
 |send h1 h2 h3 h4 h5=>
  obtain ⟨hQ,_⟩:=h.sn.ack hp f1;have hn:=h.sn.num hp;have hB:=hQ.bat hp h.sn h4;exact ⟨fun o ho=>Hn.gt (s:=s) (q:=s.snd) hp hB (by omega) ho,hd,rfl,hl⟩
theorem Xh {p:Par} (hp:POk p):∀(k:Nat) (s:Ses),Inv p s→PGt s→DGt s→s.rep.frames.length≤k→Reach p s (lsS k s)∧Inv p (lsS k s)∧PGt (lsS k s)∧DGt (lsS k s)∧RGt (lsS k s)∧(lsS k s).now=s.now
 |0,s,h,hg,hd,hk=>⟨.refl,h,hg,hd,(fun o ho=>by have e:s.rep.frames=[]:=length_eq_zero_iff.1 (by omega);change o∈s.rep.frames at ho;rw [e] at ho;cases ho),rfl⟩
 |k+1,s,h,hg,hd,hk=>by
  unfold lsS;cases hpd:s.rep.frames with
  |nil=>exact ⟨.refl,h,hg,hd,fun o ho=>(by rw [hpd] at ho;cases ho),rfl⟩
  |cons f l=>
   simp only;split
   ·rename_i ha;have hR:=(h.lsR hp hg hpd ha).1;have hI:=h.ls hp hg hpd ha hR;obtain ⟨g1,g2,g3,g4⟩:=Mic.lsG hp h hg hd hpd ha hR;obtain ⟨i1,i2,i3,i4,i5,i6⟩:=Xh hp k _ hI g1 g2 (by rw [g4];rw [hpd] at hk;simpa using hk);exact ⟨(Reach.one (.ls s _ f l h hg hd hpd ha hR)).trans i1,i2,i3,i4,i5,by rw [i6,g3]⟩
   ·rename_i ha;refine ⟨.refl,h,hg,hd,?_,rfl⟩;have h0:=(h.fr f (by rw [hpd];simp)).2.2.1;have hs:=h.gr.srt;rw [hpd,pairwise_cons] at hs;intro x hx;rw [hpd] at hx;rcases mem_cons.1 hx with rfl|hx
    ·omega
    ·have:=hs.1 x hx;omega
theorem exR_ok {p:Par} {s s':Ses} (hp:POk p) (h:Inv p s) (hg:PGt s) (hd:DGt s) (hr:RGt s) (hR:ExR p s s'):Wt p s'∧s'.now=s.now:=by
 have hI:=h.ex hp hg hR;cases hR with
 |same hn=>exact ⟨⟨h,hg,hd,hr,fun h1=>by have:=h.du h1;have:=fun q=>hn ⟨h1,q⟩;omega⟩,rfl⟩
 |fail h1 h2 h3=>exact ⟨⟨hI,hg,hd,hr,fun q=>by simp [DG] at q⟩,rfl⟩
 |send h1 h2 h3 h4=>
  have hQ:=h.sn.q hp;have hB:=(hQ.bat hp h.sn h3).last;have hn:=h.sn.num hp;have hrr:=hp.rng;have ho:=hB.outs (t:=s.now) ⟨hrr.2.2.1,hrr.2.2.2.1⟩ (by omega);refine ⟨⟨hI,fun o ho=>Hn.gt (s:=s) (q:=s.snd) hp hB (by omega) ho,hd,hr,fun q => ?_⟩,rfl⟩;have:=(hI.due q).2;have e:({s with snd:=BN s.snd (Ax p.c.rate s.now (CC (Aw s.snd))) (s.snd.ser+1),pend:=Bh p.c.rate s.now (CC (Aw s.snd))}:Ses).snd.busy=Ax p.c.rate s.now (CC (Aw s.snd)):=rfl;rw [e] at this;show s.now<_;omega
theorem XR {p:Par} {s:Ses} {t:Int} (hp:POk p) (h:Wt p s) (ht:nxS s=some t):Reach p s (ph1 s t)∧Inv p (ph1 s t)∧PGt (ph1 s t)∧(ph1 s t).now=t:=by have hI:=h.i.at (t:=t) (by have:=(h.nx hp ht).1;have:=h.i.now;omega) ht;obtain ⟨a1,a2,a3,a4⟩:=Wf hp s.pend.length _ hI (le_refl _);exact ⟨(Reach.one (.time s t h.i h.pg h.dg h.rg h.ug ht)).trans a1,a2,a3,a4⟩
theorem XQ {p:Par} {s:Ses} {t:Int} (hp:POk p) (h:Wt p s) (ht:nxS s=some t):Reach p s (ph2 s t)∧Inv p (ph2 s t)∧PGt (ph2 s t)∧DGt (ph2 s t)∧(ph2 s t).now=t:=by obtain ⟨a1,a2,a3,a4⟩:=XR hp h ht;obtain ⟨b1,b2,b3,b4,b5⟩:=Wz hp _ _ a2 a3 (le_refl _);exact ⟨a1.trans b1,b2,b3,b4,by unfold ph2;rw [b5,a4]⟩
theorem XP {p:Par} {s:Ses} {t:Int} (hp:POk p) (h:Wt p s) (ht:nxS s=some t):Reach p s (ph3 s t)∧Inv p (ph3 s t)∧PGt (ph3 s t)∧DGt (ph3 s t)∧RGt (ph3 s t)∧(ph3 s t).now=t:=by obtain ⟨a1,a2,a3,a4,a5⟩:=XQ hp h ht;obtain ⟨b1,b2,b3,b4,b5,b6⟩:=Xh hp _ _ a2 a3 a4 (le_refl _);exact ⟨a1.trans b1,b2,b3,b4,b5,by unfold ph3;rw [b6,a5]⟩
theorem Wp {p:Par} {s:Ses} {t:Int} (hp:POk p) (h:Wt p s) (ht:nxS s=some t):Reach p s (stS s t)∧Wt p (stS s t)∧(stS s t).now=t:=by obtain ⟨a1,a2,a3,a4,a5,a6⟩:=XP hp h ht;have hR:=(a2.exR hp a3).1;obtain ⟨b1,b2⟩:=exR_ok hp a2 a3 a4 a5 hR;exact ⟨a1.trans (Reach.one (.ex _ _ a2 a3 a4 a5 hR)),b1,by unfold stS;rw [b2,a6]⟩
def muS (p:Par) (s:Ses):Nat:=(p.e+4*p.c.rng+3-s.now).toNat
theorem Inv.small {p:Par} {s:Ses} (hp:POk p) (h:Inv p s):s.entered≤5000∧s.pend.length≤5000:=by have hB:=h.bud hp (k:=0) (by omega) (fun q=>by omega);have:=hB.ent;have hs:=h.sn.num hp;have hb:=hp.bud s.snd.ser (by omega) (by have:=h.sn.t;omega);have:=h.c4;have:=h.c5;have:=h.sn.t;have hz:(s.snd.ser-1)*1≤(s.snd.ser-1)*(2*p.c.rng+1):=Int.mul_le_mul_of_nonneg_left (by have:=hp.rng;omega) (by omega);refine ⟨by omega,?_⟩;rcases hb with hb|hb<;>omega
theorem runP {p:Par} (hp:POk p):SA (Wt p) (fun s=>Inv p s∧PGt s) (fun s=>Inv p s∧PGt s∧DGt s) (muS p):=by
 refine ⟨⟨fun s h=>h.1.gd,fun s f l h hf ha => ?_⟩,⟨fun s h=>h.1.gr,fun s h => ?_,fun s f l h hf ha => ?_⟩,fun s h => ?_,fun s t h ht => ?_,fun s t h ht => ?_,fun s t h ht => ?_,fun s t h ht => ?_,fun s t h ht => ?_⟩
 ·obtain ⟨hI,hg⟩:=h;obtain ⟨f1,f2,f3,f4,f5⟩:=hI.fd f (by rw [hf];simp);have hn:=hI.sn.num hp;have hr:=hp.rng;refine ⟨by rw [(hI.Uk hp f1).1],?_,hI.rx hp hf ha,Inv.rxG (p:=p) hg⟩;rw [(hI.Uk hp f1).1];refine (hI.bud hp ?_ (fun _=>by omega)).BE;rw [hf];simp only [countP_cons];split
  ·simp only [length_cons,length_nil];omega
  ·simp only [length_nil];omega
 ·have:=(h.1.sn.fo hp).2;have:=(h.1.small hp).2;omega
 ·obtain ⟨hI,hg,hd⟩:=h;obtain ⟨f1,f2,f3,f4,f5⟩:=hI.fr f (by rw [hf];simp);obtain ⟨r1,r2⟩:=hI.lsR hp hg hf ha;obtain ⟨g1,g2,g3,g4⟩:=Mic.lsG hp hI hg hd hf ha r1;have:=f1.few hp.sz.2;exact ⟨.inl (by omega),r2,hI.ls hp hg hf ha r1,g1,g2⟩
 ·have:=(h.i.small hp).1;exact ⟨by omega,h.i.gd,h.i.gr⟩
 ·have hI:=h.i.at (t:=t) (by have:=(h.nx hp ht).1;have:=h.i.now;omega) ht;refine hI.bud hp (show (s.pend.length:Int)≤s.pend.length+(s.dat.frames.countP (fun f=>f.seg.chk):Nat) by omega) (fun hk => ?_);obtain ⟨n1,n2⟩:=XY h.i ht;cases hpd:s.pend with
  |nil=>rw [hpd] at hk;simp at hk
  |cons o l=>
   have h1:=n1 o (by rw [hpd];simp);have h2:=h.i.pd o (by rw [hpd];simp);have hn:=h.i.sn.num hp;have hr:=hp.rng;show t≤_;omega
 ·have:=XR hp h ht;exact ⟨this.2.1,this.2.2.1⟩
 ·have:=XQ hp h ht;exact ⟨this.2.1,this.2.2.1,this.2.2.2.1⟩
 ·obtain ⟨a1,a2,a3,a4,a5,a6⟩:=XP hp h ht;have:=(a2.small hp)
  have:=(a2.sn.fo hp).2;exact ⟨by omega,by omega,by omega,(a2.exR hp a3).2⟩
 ·obtain ⟨a1,a2,a3⟩:=Wp hp h ht;have:=h.nx hp ht;refine ⟨a2,?_⟩;unfold muS;rw [a3];omega
theorem UA {p:Par} (hp:POk p):∀(k:Nat) (s:Ses),Wt p s→muS p s≤k→Reach p s (Gn k s)∧Wt p (Gn k s)∧nxS (Gn k s)=none
 |0,s,h,hk=>by
  refine ⟨.refl,h,?_⟩;cases hn:nxS s with
  |none=>exact hn
  |some t=>
   have:=h.nx hp hn;unfold muS at hk;omega
 |k+1,s,h,hk=>by
  unfold Gn;cases hn:nxS s with
  |none=>exact ⟨.refl,h,hn⟩
  |some t=>
   simp only;obtain ⟨a1,a2,a3⟩:=Wp hp h hn;have:=h.nx hp hn;obtain ⟨b1,b2,b3⟩:=UA hp k _ a2 (by unfold muS at hk ⊢;rw [a3];omega);exact ⟨a1.trans b1,b2,b3⟩
theorem Qc {p:Par} (hp:POk p) (h:(Bp p.c 0 p.d p.b p.e).2.2=0) :
  Hn p.d 1 (C5 0 1 p.d (AZ p.d))∧Ax p.c.rate p.b (C5 0 1 p.d (AZ p.d))≤p.e∧
  (Bp p.c 0 p.d p.b p.e).1=BN (Bl p.c 0 p.d p.e) (Ax p.c.rate p.b (C5 0 1 p.d (AZ p.d))) 1∧(Bp p.c 0 p.d p.b p.e).2.1=Bh p.c.rate p.b (C5 0 1 p.d (AZ p.d)):=by
 have hd:=hp.sz;have hB:=batP (N8 (ses:=0) (d:=p.d) ⟨by omega,by omega⟩ ⟨by omega,by omega⟩);obtain ⟨pre,x,e,h1,h2,h3⟩:=hB.ex;have hlast:(C5 0 1 p.d (AZ p.d)).getLast? = some x:=by rw [e];exact getLast?_concat ..
 have ht:=hp.t;have e0:Bp p.c 0 p.d p.b p.e=if (CF (Bl p.c 0 p.d p.e) p.b (C5 0 1 p.d (AZ p.d))).1.st=3 then C3 16 else ((CF (Bl p.c 0 p.d p.e) p.b (C5 0 1 p.d (AZ p.d))).1,(CF (Bl p.c 0 p.d p.e) p.b (C5 0 1 p.d (AZ p.d))).2,0):=by unfold Bp;rw [if_neg (by have:=hp.con;omega),if_neg (by omega),if_neg (by omega),if_neg (by omega),if_neg (by omega)]
 have e1:CF (Bl p.c 0 p.d p.e) p.b (C5 0 1 p.d (AZ p.d))=if p.e<Ax p.c.rate p.b (C5 0 1 p.d (AZ p.d))∨1099511627776<x.ser then (DG (Bl p.c 0 p.d p.e),[]) else (BN (Bl p.c 0 p.d p.e) (Ax p.c.rate p.b (C5 0 1 p.d (AZ p.d))) x.ser,Bh p.c.rate p.b (C5 0 1 p.d (AZ p.d))):=by unfold CF;rw [hlast];rfl
 by_cases hb:p.e<Ax p.c.rate p.b (C5 0 1 p.d (AZ p.d))
 ·exfalso;rw [e0,e1,if_pos (Or.inl hb)] at h;simp [C3,DG] at h
 ·rw [if_neg (by omega),h2] at e1;rw [e0,e1,if_neg (by simp [BN])];exact ⟨hB,by omega,rfl,rfl⟩
def Nr (p:Par):Ses:=ini p.c p.b p.e p.d p.ps p.lim p.dk
theorem Ss {p:Par} (hp:POk p) (h:(Bp p.c 0 p.d p.b p.e).2.2=0):Wt p (Nr p):=by
 obtain ⟨hB,he,e1,e2⟩:=Qc hp h;have hr:=hp.rng;have hd:=hp.sz;have ht:=hp.t;obtain ⟨o1,o2,o3,o4,o5⟩:=hB.outs (t:=p.b) ⟨hr.2.2.1,hr.2.2.2.1⟩ (by omega);have hlen:=hB.len;let q:Snd:={Bl p.c 0 p.d p.e with busy:=Ax p.c.rate p.b (C5 0 1 p.d (AZ p.d)),ser:=1}
 have hq:Gq q=0:=by
  unfold Gq;have a1:EZ q:=by unfold EZ;simp only [q,Bl];omega
  have a2:QT q:=⟨Pq,.inl rfl⟩
  rw [if_neg (fun f=>f hp.con),if_neg (fun f=>f a1),if_neg (fun f=>f a2)]
 have hc0:complete q=false:=by simp [complete,q,Bl,AZ]
 have hok:=T3 (t:=Ax p.c.rate p.b (C5 0 1 p.d (AZ p.d))) (ser:=1) hq hc0 (by simp only [q,Bl];omega) (by omega);have e3:BN q (Ax p.c.rate p.b (C5 0 1 p.d (AZ p.d))) 1=BN (Bl p.c 0 p.d p.e) (Ax p.c.rate p.b (C5 0 1 p.d (AZ p.d))) 1:=rfl;rw [e3] at hok;have ei:Nr p=⟨⟨p.c.rng,[],0,0⟩,⟨p.c.rng,[],0,0⟩,p.ps,p.lim,p.dk,0,0,[],[],0,BN (Bl p.c 0 p.d p.e) (Ax p.c.rate p.b (C5 0 1 p.d (AZ p.d))) 1,R0,Bh p.c.rate p.b (C5 0 1 p.d (AZ p.d)),false,0,false,0⟩:=by unfold Nr ini;rw [e1,e2];rfl
 rw [ei];have hgc:Bo ⟨p.c.rng,[],0,0⟩:=⟨by simp only;omega,by simp,by simp,by simp,(fun f hf=>by cases hf),List.Pairwise.nil⟩
 refine ⟨⟨rfl,rfl,rfl,rfl,rfl,hgc,hgc,Int.le_refl _,⟨rfl,rfl,rfl,rfl,hok,?_⟩,⟨[],Wo _,fun x hx=>by cases hx⟩,(fun f hf=>by cases hf),(fun f hf=>by cases hf),fun o ho => ?_,o1,fun _ => ?_,rfl,rfl,rfl,?_,?_,?_,?_,?_,?_,?_,(show false=A3 R0 by decide)⟩,fun o ho => ?_,(fun f hf=>by cases hf),(fun f hf=>by cases hf),fun _ => ?_⟩
 ·simp only [BN,Bl];omega
 ·obtain ⟨k1,k2,k3,k4,k5⟩:=o2 o ho;exact ⟨k1,by simp only;omega,by simp only [BN];omega,by simp only [BN];omega,fun hcc=>(k5 hcc).1⟩
 ·simp only [BN,Bl];omega
 ·simp only [BN,Bl,C8,length_nil];omega
 ·simp only [BN,Bl,C8,length_nil];omega
 ·simp only [BN,Bl,o4,length_nil,List.countP_nil];omega
 ·simp
 ·simp
 ·simp
 ·simp [BN]
 ·have:=o2 o ho;simp only;omega
 ·simp only [BN,Bl];omega
end Ab
set_option linter.unusedVariables false
set_option linter.unusedSimpArgs false
namespace Ab
open Go
theorem QW {l:List Span} {n:Int} (h:BM l=0) (hn:0<n) (hm:∀t,AX t l↔0≤t∧t<n):l=[⟨0,n⟩]:=
 C4 (b' := -1) ((An _).1 h).2.1 ⟨by simp only;omega,by simp only;omega,trivial⟩ fun t=>by rw [hm];simp [AX]
theorem Inv.full {p:Par} {s:Ses} (hp:POk p) (h:Inv p s):A3 s.rcv=true↔∀t,AX t s.rcv.known↔0≤t∧t<p.d.size:=by
 obtain ⟨hl,h1,h2⟩:=h.rc;have hd:=hp.sz;have hc:=(C9 h1.ok).2.1.1;unfold A3;rw [decide_eq_true_eq];constructor
 ·rintro ⟨_,e⟩ t
  by_cases hn:hl=[]
  ·exfalso;have hcc:=((An _).1 hc).2.1;rw [e,h1.tot,if_pos hn] at hcc;have:=hcc.2.1;simp only at this;omega
  ·rw [e,h1.tot,if_neg hn];simp [AX]
 ·intro hm;refine ⟨h1.ok,?_⟩;have hn:hl≠[]:=by
   rintro rfl
   obtain ⟨x,hx,_⟩:=(h1.mem 0).1 ((hm 0).2 (by omega));cases hx
  rw [h1.tot,if_neg hn];exact QW hc (by omega) hm
theorem Inv.kin {p:Par} {s:Ses} (h:Inv p s) {t:Int} (ht:AX t s.rcv.known):0≤t∧t<p.d.size:=by obtain ⟨hl,h1,h2⟩:=h.rc;exact X8 h2 ((h1.mem t).1 ht)
structure RxF (p:Par) (s s':Ses) (f:Frame) (l:List Frame):Prop where
 sp:LX p.d f.seg
 rcv:s'.rcv=Cn s.rcv f.seg
 mem:∀t,AX t s'.rcv.known↔AX t s.rcv.known∨(f.seg.off≤t∧t<f.seg.off+f.seg.data.size)
 dat:s'.dat={s.dat with frames:=l}
 snd:s'.snd=s.snd
 pend:s'.pend=s.pend
 sent:s'.sent=s.sent
 now:s'.now=s.now
 kno:s'.kno=s.kno
 knoAt:s'.knoAt=s.knoAt
 rcvd:s'.rcvd=A3 s'.rcv
 arr:s'.arrive=if s.rcvd=false∧s'.rcvd=true then s.now else s.arrive
 cl:(CK s.rcv f.seg).AY=s'.rcv.known
 no:f.seg.chk=false→s'.rep=s.rep∧s'.told=s.told∧s'.entered=s.entered∧s'.dist=s.dist
 yes:f.seg.chk=true→J1 p.d (CK s.rcv f.seg)∧s'.rep=B8 s.rep s.now (CK s.rcv f.seg) (Ce s p.c.rng).1∧s'.told=s.told++[⟨s.now,CK s.rcv f.seg⟩]∧s'.entered=s.entered+1∧s'.dist=(Ce s p.c.rng).2
 mono:s.rcvd=true→s'.rcvd=true
theorem rxF_f (s:Ses):(rxF s).rcv=s.rcv∧(rxF s).rep=s.rep∧(rxF s).told=s.told∧(rxF s).entered=s.entered∧(rxF s).dist=s.dist∧(rxF s).arrive=if s.rcvd=false∧A3 s.rcv=true then s.now else s.arrive:=by
 unfold rxF;by_cases h:s.rcvd=false∧A3 s.rcv=true
 ·rw [if_pos h,if_pos h];exact ⟨rfl,rfl,rfl,rfl,rfl,rfl⟩
 ·rw [if_neg h,if_neg h];exact ⟨rfl,rfl,rfl,rfl,rfl,rfl⟩
theorem Inv.Qk {p:Par} {s:Ses} (hp:POk p) (h:Inv p s) {f:Frame} {l:List Frame} (hf:s.dat.frames=f::l) (ha:f.arr=s.now):RxF p s (rxX (BE s) f.seg) f l:=by
 obtain ⟨f1,f2,f3,f4,f5⟩:=h.fd f (by rw [hf];simp);obtain ⟨e1,e2,e3,e4,e5,e6⟩:=h.Uk hp f1;have hI:=h.rx hp hf ha;have hfr:s.dat.frames.tail=l:=by rw [hf];rfl
 have hrr:(BE s).rep.rng=p.c.rng:=h.rr;have hpop:(BE s).rcv=s.rcv:=rfl;have hH:rxH (BE s) f.seg=if f.seg.chk=true then Ch {BE s with rcv:=Cn s.rcv f.seg} (CK s.rcv f.seg) else {BE s with rcv:=Cn s.rcv f.seg}:=by unfold rxH;rw [hpop,e1];split<;>rfl
 obtain ⟨q1,q2,q3,q4,q5,q6⟩:=rxF_f (rxH (BE s) f.seg);have e0:rxX (BE s) f.seg=rxF (rxH (BE s) f.seg):=rfl;rw [← e0] at q1 q2 q3 q4 q5 q6;have hrv:(rxX (BE s) f.seg).rcv=Cn s.rcv f.seg:=by rw [q1,hH];split<;>rfl
 obtain ⟨p1,p2,p3,p4,p5⟩:=Qj (BE s) f.seg;have hrc:(rxX (BE s) f.seg).rcvd=A3 (Cn s.rcv f.seg):=by rw [hI.rv,hrv]
 refine ⟨f1,hrv,by rw [hrv];exact e4,by rw [E6];simp [BE,hfr],p2,p1,p3,by rw [PG];rfl,p4,p5,hI.rv,?_,by rw [hrv];exact e6,fun hc => ?_,fun hc=>⟨e3 hc,?_⟩,fun q=>by rw [hrc];exact e5 (by rw [← h.rv];exact q)⟩
 ·rw [hrc,q6,hH];split<;>rfl
 ·rw [q2,q3,q4,q5,hH,if_neg (by simp [hc])];exact ⟨rfl,rfl,rfl,rfl⟩
 ·rw [q2,q3,q4,q5,hH,if_pos hc];have e:(Ce {BE s with rcv:=Cn s.rcv f.seg} p.c.rng)=Ce s p.c.rng:=rfl;simp only [Ch];rw [hrr,e];exact ⟨rfl,rfl,rfl,rfl⟩
theorem FD {c:BW} {t:Int} {x:Seg} {ds:List Int} {f:Frame} (h:f∈(B8 c t x ds).frames):f∈c.frames∨∃d∈ds,f=⟨t+d,c.sent,x⟩:=Dc.1 h
structure Knw (p:Par) (kt:Int→Int) (s:Ses):Prop where
 pd:∀o∈s.pend,p.b<o.at_
 fd:∀f∈s.dat.frames,p.b+p.c.rng<f.arr
 k1:∀t,AX t s.rcv.known→p.b+p.c.rng<kt t∧kt t≤s.now
 k2:∀t,AX t s.snd.acked→AX t s.rcv.known∧kt t+p.c.rng≤s.now
 k3:∀f∈s.rep.frames,∀t,AX t f.seg.AY→AX t s.rcv.known∧kt t+p.c.rng≤f.arr
 k4:s.rcvd=true→(∀t,AX t s.rcv.known→kt t≤s.arrive)∧∃t,AX t s.rcv.known∧kt t=s.arrive
 k5:s.rcvd=false→s.arrive=0
 k6:s.kno=false→s.knoAt=0
 k7:s.kno=true→s.rcvd=true∧s.arrive+p.c.rng≤s.knoAt
theorem Knw.mic {p:Par} {s s':Ses} {kt:Int→Int} (hp:POk p) (h:Knw p kt s) (m:Mic p s s'):∃kt',Knw p kt' s':=by
 have hr:=hp.rng;have hI':=m.inv hp;cases m with
 |time t h1 h2 h3 h4 h5 h6=>
  have hlt:=(Wt.nx hp ⟨h1,h2,h3,h4,h5⟩ h6).1;exact ⟨kt,h.pd,h.fd,fun t ht=>by have:=h.k1 t ht;simp only;omega,fun t ht=>by have:=h.k2 t ht;refine ⟨this.1,?_⟩;simp only;omega,h.k3,h.k4,h.k5,h.k6,h.k7⟩
 |tx o l h1 h2 h3=>
  refine ⟨kt,fun x hx=>h.pd x (by rw [h2];simp [hx]),fun f hf => ?_,h.k1,h.k2,h.k3,h.k4,h.k5,h.k6,h.k7⟩;rcases FD hf with hf|⟨d,hd,rfl⟩
  ·exact h.fd f hf
  ·have hd:=(h1.del hp).1 d (by rw [← h1.rd];exact hd);have:=h.pd o (by rw [h2];simp);simp only;omega
 |rx f l h1 h2 h3 h4=>
  have hF:=h1.Qk hp h3 h4;refine ⟨fun t=>open Classical in if AX t s.rcv.known then kt t else s.now,?_,?_,?_,?_,?_,?_,?_,?_,?_⟩
  ·rw [hF.pend];exact h.pd
  ·rw [hF.dat];exact fun x hx=>h.fd x (by rw [h3];exact mem_cons_of_mem _ hx)
  ·intro t ht;rw [hF.now];split
   ·rename_i hk;exact h.k1 t hk
   ·have:=h.fd f (by rw [h3];simp);omega
  ·intro t ht;rw [hF.snd] at ht;obtain ⟨k1,k2⟩:=h.k2 t ht;rw [hF.now];rw [if_pos k1];exact ⟨(hF.mem t).2 (.inl k1),k2⟩
  ·have old:∀x∈s.rep.frames,∀t,AX t x.seg.AY→AX t (rxX (BE s) f.seg).rcv.known∧(open Classical in if AX t s.rcv.known then kt t else s.now)+p.c.rng≤x.arr:=by intro x hx t ht;obtain ⟨k1,k2⟩:=h.k3 x hx t ht;rw [if_pos k1];exact ⟨(hF.mem t).2 (.inl k1),k2⟩
   cases hc:f.seg.chk with
   |false=>rw [(hF.no hc).1];exact old
   |true=>
    rw [(hF.yes hc).2.1];intro x hx t ht;rcases FD hx with hx|⟨d,hd,rfl⟩
    ·exact old x hx t ht
    ·have hd:=(h1.del hp).1 d hd;rw [hF.cl] at ht;refine ⟨ht,?_⟩;split
     ·rename_i hk;have:=(h.k1 t hk).2;show _≤s.now+d;omega
     ·show _≤s.now+d;omega
  ·intro hq;have hI:=hI';have hful:=(hI.full hp).1 (by rw [← hF.rcvd];exact hq);rw [hF.arr];cases ho:s.rcvd with
   |true=>
    rw [if_neg (by simp)];obtain ⟨k1,t,k2,k3⟩:=h.k4 ho;have hfo:=(h1.full hp).1 (by rw [← h1.rv];exact ho);refine ⟨fun t ht => ?_,t,(hF.mem t).2 (.inl k2),?_⟩
    ·have hk:=(hfo t).2 ((hful t).1 ht);rw [if_pos hk];exact k1 t hk
    ·rw [if_pos k2];exact k3
   |false=>
    rw [if_pos ⟨rfl,hq⟩];refine ⟨fun t ht => ?_,?_⟩
    ·split
     ·rename_i hk;exact (h.k1 t hk).2
     ·exact Int.le_refl _
    ·have hno:¬∀t,AX t s.rcv.known↔0≤t∧t<p.d.size:=fun q=>by have:=(h1.full hp).2 q;rw [← h1.rv,ho] at this;cases this
     obtain ⟨t,ht⟩:=not_forall.1 hno;have hn:¬AX t s.rcv.known:=fun q=>ht ⟨fun _=>h1.kin q,fun _=>q⟩;have hin:0≤t∧t<p.d.size:=Classical.byContradiction fun q=>ht ⟨fun m=>(hn m).elim,fun m=>(q m).elim⟩;exact ⟨t,(hful t).2 hin,by rw [if_neg hn]⟩
  ·intro hq;rw [hF.arr];have ho:s.rcvd=false:=by
    cases hs:s.rcvd with
    |false=>rfl
    |true=>rw [hF.mono hs] at hq;cases hq
   rw [if_neg (by rw [hq];simp)];exact h.k5 ho
  ·rw [hF.kno,hF.knoAt];exact h.k6
  ·intro hq;rw [hF.kno] at hq;obtain ⟨k1,k2⟩:=h.k7 hq;rw [hF.knoAt,hF.arr,k1,if_neg (by simp)];exact ⟨hF.mono k1,k2⟩
 |ls _ f l h1 h2 h3 h4 h5 h6=>
  obtain ⟨f1,f2,f3,f4,f5⟩:=h1.fr f (by rw [h4];simp);obtain ⟨hQ,hack⟩:=h1.sn.ack hp f1;have hk3:∀x∈l,∀t,AX t x.seg.AY→AX t s.rcv.known∧kt t+p.c.rng≤x.arr:=fun x hx=>h.k3 x (by rw [h4];simp [hx]);have hl:(Bq s).rep.frames=l:=by simp [Bq,h4]
  have hk3':∀x∈(Bq s).rep.frames,∀t,AX t x.seg.AY→AX t s.rcv.known∧kt t+p.c.rng≤x.arr:=by rw [hl];exact hk3
  have ha:∀t,AX t (BT s.snd f.seg).acked→AX t s.rcv.known∧kt t+p.c.rng≤s.now:=fun t ht=>by
   rcases (hack t).1 ht with ht|ht
   ·exact h.k2 t ht
   ·have:=h.k3 f (by rw [h4];simp) t ht;exact ⟨this.1,by omega⟩
  refine ⟨kt,?_⟩;cases h6 with
  |busy q1=>exact ⟨h.pd,h.fd,h.k1,h.k2,hk3',h.k4,h.k5,h.k6,h.k7⟩
  |same q1 q2=>exact ⟨h.pd,h.fd,h.k1,h.k2,hk3',h.k4,h.k5,h.k6,h.k7⟩
  |done q1 q2 q3 q4=>
   refine ⟨h.pd,h.fd,h.k1,ha,hk3',h.k4,h.k5,fun q=>(by cases q),fun _ => ?_⟩;have hw:(BT s.snd f.seg).acked=AZ p.d:=by have:=of_decide_eq_true (show decide ((BT s.snd f.seg).acked=AZ (BT s.snd f.seg).data)=true from q4);rw [this,hQ.data]
   have hall:∀t,AX t s.rcv.known↔0≤t∧t<p.d.size:=fun t=>⟨fun m=>h1.kin m,fun m=>(ha t (by rw [hw];simpa [AX,AZ] using m)).1⟩
   have hrc:s.rcvd=true:=by rw [h1.rv];exact (h1.full hp).2 hall
   obtain ⟨k1,t,k2,k3⟩:=h.k4 hrc;have:=(ha t (by rw [hw];have:=(hall t).1 k2;simpa [AX,AZ] using this)).2;exact ⟨hrc,by show s.arrive+p.c.rng≤s.now;omega⟩
  |fail q1 q2 q3 q4 q5=>exact ⟨h.pd,h.fd,h.k1,ha,hk3',h.k4,h.k5,h.k6,h.k7⟩
  |send q1 q2 q3 q4 q5=>
   have hn:=h1.sn.num hp;refine ⟨fun o ho => ?_,h.fd,h.k1,ha,hk3',h.k4,h.k5,h.k6,h.k7⟩;have:=Hn.gt (s:=s) (q:=s.snd) hp (hQ.bat hp h1.sn q4) (by omega) ho;have:¬s.now<s.snd.busy:=q1;omega
 |ex _ h1 h2 h3 h4 h5=>
  refine ⟨kt,?_⟩;cases h5 with
  |same q=>exact h
  |fail q1 q2 q3=>exact ⟨h.pd,h.fd,h.k1,h.k2,h.k3,h.k4,h.k5,h.k6,h.k7⟩
  |send q1 q2 q3 q4=>
   have hn:=h1.sn.num hp;have hdu:=(h1.due q1).2;refine ⟨fun o ho => ?_,h.fd,h.k1,h.k2,h.k3,h.k4,h.k5,h.k6,h.k7⟩;have:=Hn.gt (s:=s) (q:=s.snd) hp (((h1.sn.q hp).bat hp h1.sn q3).last) (by omega) ho;omega
theorem Reach.ind {p:Par} {a b:Ses} (P:Ses→Prop) (h:Reach p a b) (h0:P a) (hs:∀s s',P s→Mic p s s'→P s'):P b:=by
 induction h with
 |refl=>exact h0
 |step _ m ih=>exact hs _ _ ih m
def Cd (p:Par):Ses:=Gn (muS p (Nr p)) (Nr p)
theorem Pd {p:Par} (hp:POk p) (h:(Bp p.c 0 p.d p.b p.e).2.2=0):Reach p (Nr p) (Cd p)∧Wt p (Cd p)∧nxS (Cd p)=none:=UA hp _ _ (Ss hp h) (le_refl _)
end Ab
set_option linter.unusedVariables false
set_option linter.unusedSimpArgs false
namespace Ab
open Go
def ChT (r:Int):Int→List Out→Prop
 |_,[]=>True
 |t,o::l=>t≤o.at_-DE r o.seg∧ChT r o.at_ l
def enT:Int→List Out→Int
 |t,[]=>t
 |_,o::l=>enT o.at_ l
theorem ChT.weak {r:Int}:∀{l:List Out} {t t':Int},ChT r t l→t'≤t→ChT r t' l
 |[],_,_,h,_=>h
 |o::l,t,t',h,ht=>⟨by have:=h.1;omega,h.2⟩
theorem ChT.app {r:Int}:∀{l:List Out} {t:Int} {l':List Out},ChT r t l→ChT r (enT t l) l'→ChT r t (l++l')
 |[],_,_,_,h=>h
 |o::l,t,l',h,h'=>⟨h.1,ChT.app h.2 h'⟩
theorem ChT.left {r:Int}:∀{l:List Out} {t:Int} {l':List Out},ChT r t (l++l')→ChT r t l
 |[],_,_,_=>trivial
 |o::l,t,l',h=>⟨h.1,ChT.left h.2⟩
theorem ChT.outs (r:Int):∀(l:List Seg) (t:Int),ChT r t (Bh r t l)
 |[],_=>trivial
 |x::l,t=>⟨by simp only;omega,ChT.outs r l _⟩
theorem S4 {b:Int}:∀{l:List Out} {t:Int},t≤b→(∀o∈l,o.at_≤b)→enT t l≤b
 |[],_,h,_=>h
 |o::l,t,h,k=>show enT o.at_ l≤b from S4 (k o (by simp)) fun x hx=>k x (by simp [hx])
theorem ChT.get {r:Int}:∀{l:List Out} {t:Int} {i:Nat} {x:Out},ChT r t l→l[i]? = some x→enT t (l.take i)≤x.at_-DE r x.seg∧enT t (l.take (i+1))=x.at_
 |[],t,i,x,h,hx=>by simp at hx
 |o::l,t,0,x,h,hx=>by simp only [getElem?_cons_zero,Option.some.injEq] at hx;subst hx;exact ⟨h.1,rfl⟩
 |o::l,t,i+1,x,h,hx=>ChT.get (t:=o.at_) h.2 (by simpa using hx)
structure IC (p:Par) (F:Int) (s:Ses):Prop where
 ch:ChT p.c.rate p.b (s.sent++s.pend)
 hd:((s.sent++s.pend).head?).map (fun o=>o.at_)=some F
 sg:∀o∈s.sent,LX p.d o.seg∧o.at_≤s.snd.busy∧0≤o.at_
 pf:∀o∈s.pend,F≤o.at_
 ff:∀f∈s.dat.frames,F+p.c.rng≤f.arr
 tl:∀o∈s.told,o.seg.kind=2∧F+p.c.rng≤o.at_∧o.at_≤s.now
 ts:s.told.Pairwise fun a b=>a.at_≤b.at_
theorem IC.go {p:Par} {s:Ses} {F:Int} {q:Snd} {l:List Seg} (hp:POk p) (h:IC p F s) (hpn:s.pend=[]) (hI:Inv p s) (hn:s.snd.busy≤s.now) (hl:Hn p.d (s.snd.ser+1) l) :
  IC p F {s with snd:=BN q (Ax p.c.rate s.now l) (s.snd.ser+1),pend:=Bh p.c.rate s.now l}:=by
 have hr:=hp.rng;have hsn:=hI.sn.num hp;have hch:=h.ch;have hhd:=h.hd;rw [hpn,append_nil] at hch hhd;have ho:=hl.outs (t:=s.now) ⟨hr.2.2.1,hr.2.2.2.1⟩ (by omega);have hend:=HK p.c.rate l s.now;have hF:F≤s.snd.busy:=by
  cases hs:s.sent with
  |nil=>rw [hs] at hhd;simp at hhd
  |cons o k=>
   rw [hs] at hhd;simp only [head?_cons,map_some,Option.some.injEq] at hhd;have:=(h.sg o (by rw [hs];simp)).2.1;omega
 refine ⟨?_,?_,fun o hx => ?_,fun o hx => ?_,h.ff,h.tl,h.ts⟩
 ·refine ChT.app hch ((ChT.outs p.c.rate l s.now).weak (S4 (by omega) fun o hx => ?_));have:=(h.sg o hx).2.1;omega
 ·show (((s.sent++Bh p.c.rate s.now l):List Out).head?).map _=_;cases hs:s.sent with
  |nil=>rw [hs] at hhd;simp at hhd
  |cons o k=>rw [hs] at hhd;simpa using hhd
 ·have:=h.sg o hx;refine ⟨this.1,?_,this.2.2⟩;show o.at_≤Ax p.c.rate s.now l;omega
 ·have:=(ho.2.1 o hx).2.1;omega
theorem IC.mic {p:Par} {s s':Ses} {F:Int} (hp:POk p) (h:IC p F s) (m:Mic p s s'):IC p F s':=by
 have hr:=hp.rng;cases m with
 |time t q1 q2 q3 q4 q5 q6=>
  have hlt:=(Wt.nx hp ⟨q1,q2,q3,q4,q5⟩ q6).1;exact ⟨h.ch,h.hd,h.sg,h.pf,h.ff,fun o ho=>by have:=h.tl o ho;exact ⟨this.1,this.2.1,by show _≤t;omega⟩,h.ts⟩
 |tx o l q1 q2 q3=>
  obtain ⟨o1,o2,o3,o4,o5⟩:=q1.pd o (by rw [q2];simp);have hnow:=q1.now;have e:(⟨s.now,o.seg⟩:Out)=o:=by rw [← q3]
  have el:(s.sent++[⟨s.now,o.seg⟩])++l=s.sent++s.pend:=by rw [e,q2];simp
  refine ⟨by show ChT _ _ ((s.sent++[(⟨s.now,o.seg⟩:Out)])++l);rw [el];exact h.ch,by show (((s.sent++[(⟨s.now,o.seg⟩:Out)])++l).head?).map _=_;rw [el];exact h.hd,fun x hx => ?_,fun x hx=>h.pf x (by rw [q2];simp [hx]),fun f hf => ?_,h.tl,h.ts⟩
  ·rcases mem_append.1 hx with hx|hx
   ·exact h.sg x hx
   ·rw [mem_singleton] at hx;subst hx;exact ⟨o1,by show s.now≤s.snd.busy;omega,hnow⟩
  ·rcases FD hf with hf|⟨d,hd,rfl⟩
   ·exact h.ff f hf
   ·have hd:=(q1.del hp).1 d (by rw [← q1.rd];exact hd);have:=h.pf o (by rw [q2];simp);show _≤s.now+d;omega
 |rx f l q1 q2 q3 q4=>
  have hF:=q1.Qk hp q3 q4;have hff:=h.ff f (by rw [q3];simp);refine ⟨by rw [hF.sent,hF.pend];exact h.ch,by rw [hF.sent,hF.pend];exact h.hd,by rw [hF.sent,hF.snd];exact h.sg,by rw [hF.pend];exact h.pf,(by rw [hF.dat];exact fun x hx=>h.ff x (by rw [q3];exact mem_cons_of_mem _ hx)),?_,?_⟩
  ·rw [hF.now];cases hc:f.seg.chk with
   |false=>rw [(hF.no hc).2.1];exact h.tl
   |true=>
    rw [(hF.yes hc).2.2.1];intro o ho;rcases mem_append.1 ho with ho|ho
    ·exact h.tl o ho
    ·rw [mem_singleton] at ho;subst ho;exact ⟨(hF.yes hc).1.kind,(show F+p.c.rng≤s.now by omega),Int.le_refl _⟩
  ·cases hc:f.seg.chk with
   |false=>rw [(hF.no hc).2.1];exact h.ts
   |true=>
    rw [(hF.yes hc).2.2.1,pairwise_append];refine ⟨h.ts,List.pairwise_singleton ..,fun a ha b hb => ?_⟩;rw [mem_singleton] at hb;subst hb;exact (h.tl a ha).2.2
 |ls _ f l q1 q2 q3 q4 q5 q6=>
  obtain ⟨f1,f2,f3,f4,f5⟩:=q1.fr f (by rw [q4];simp);obtain ⟨hQ,_⟩:=q1.sn.ack hp f1;cases q6 with
  |busy a1=>exact ⟨h.ch,h.hd,h.sg,h.pf,h.ff,h.tl,h.ts⟩
  |same a1 a2=>exact ⟨h.ch,h.hd,h.sg,h.pf,h.ff,h.tl,h.ts⟩
  |done a1 a2 a3 a4=>exact ⟨h.ch,h.hd,h.sg,h.pf,h.ff,h.tl,h.ts⟩
  |fail a1 a2 a3 a4 a5=>exact ⟨h.ch,h.hd,h.sg,h.pf,h.ff,h.tl,h.ts⟩
  |send a1 a2 a3 a4 a5=>
   have a1:¬s.now<s.snd.busy:=a1;have k:=IC.go (q:=BT s.snd f.seg) hp h (Fu q1 q2 a1) q1 (by omega) (hQ.bat hp q1.sn a4);exact ⟨k.ch,k.hd,k.sg,k.pf,k.ff,k.tl,k.ts⟩
 |ex _ q1 q2 q3 q4 q5=>
  cases q5 with
  |same a1=>exact h
  |fail a1 a2 a3=>exact ⟨h.ch,h.hd,h.sg,h.pf,h.ff,h.tl,h.ts⟩
  |send a1 a2 a3 a4=>
   have hdu:=(q1.due a1).2;exact IC.go (q:=s.snd) hp h (Fu q1 q2 (by omega)) q1 (by omega) ((q1.sn.q hp).bat hp q1.sn a3).last
theorem ic_fin {p:Par} (hp:POk p) (h:(Bp p.c 0 p.d p.b p.e).2.2=0):∃F,IC p F (Cd p)∧(Cd p).pend=[]:=by
 obtain ⟨f1,f2,f3⟩:=Pd hp h;obtain ⟨hB,he,g1,g2⟩:=Qc hp h;have hr:=hp.rng;have ee1:(Nr p).pend=Bh p.c.rate p.b (C5 0 1 p.d (AZ p.d)):=g2;obtain ⟨pre,x,ex,_⟩:=hB.ex;have ho:=hB.outs (r:=p.c.rate) (t:=p.b) ⟨hr.2.2.1,hr.2.2.2.1⟩ (by omega);cases hl:(Nr p).pend with
 |nil=>
  have:=congrArg length hl;rw [ee1,C8,ex] at this;simp at this
 |cons o l=>
  refine ⟨o.at_,f1.ind (IC p o.at_) ⟨?_,?_,(fun x hx=>by cases hx),fun y hy => ?_,(fun x hx=>by cases hx),(fun x hx=>by cases hx),List.Pairwise.nil⟩ fun s s' k m=>k.mic hp m,(XZ f3).1⟩
  ·show ChT _ _ ([]++(Nr p).pend);rw [nil_append,ee1];exact ChT.outs _ _ _
  ·show (([]++(Nr p).pend).head?).map _=_;rw [hl];rfl
  ·have hs:=ho.1;rw [← ee1,hl,pairwise_cons] at hs;rw [hl] at hy;rcases mem_cons.1 hy with rfl|hy
   ·exact Int.le_refl _
   ·have:=hs.1 y hy;omega
end Ab
set_option linter.unusedVariables false
set_option linter.unusedSimpArgs false
namespace Ab
open Go
def cov (x:Seg) (t:Int):Prop:=x.off≤t∧t<x.off+x.data.size
structure QA (p:Par) (B:Int) (ck:Seg) (s:Ses):Prop where
 st:s.snd.st=1
 ser:s.snd.ser=1
 bu:s.snd.busy=B
 hck:ck.chk=true∧ck.ser=1∧1≤ck.data.size∧0≤ck.off∧ck.off+(ck.data.size:Int)≤(p.d.size:Int)
 all:∀t:Int,0≤t→t<p.d.size→AX t s.rcv.known∨cov ck t∨(∃o∈s.pend,o.seg.chk=false∧cov o.seg t)∨∃f∈s.dat.frames,cov f.seg t∧f.arr<B+p.c.rng
 dj:∀t,cov ck t→¬AX t s.rcv.known∧(∀o∈s.pend,o.seg.chk=false→¬cov o.seg t)∧∀f∈s.dat.frames,f.seg.chk=false→¬cov f.seg t
 pn:∀o∈s.pend,(o.seg.chk=false→o.at_<B)∧(o.seg.chk=true→o.seg=ck∧o.at_=B)
 fn:∀f∈s.dat.frames,f.seg.chk=true→f.seg=ck∧B+p.c.rng≤f.arr
 ex:(∃o∈s.pend,o.seg=ck)∨((∃f∈s.dat.frames,f.seg=ck∧f.arr=B+p.c.rng)∧∀o∈s.pend,o.seg.chk=false)
 rp:s.rep.frames=[]
 kn:s.kno=false
 rc:s.rcvd=false
structure QB (p:Par) (B:Int) (s:Ses):Prop where
 st:s.snd.st=1
 ser:s.snd.ser=1
 bu:s.snd.busy=B
 rc:s.rcvd=true
 ar:s.arrive=B+p.c.rng
 nw:B+p.c.rng≤s.now
 pn:s.pend=[]
 kn:s.kno=false
 wh:∀f∈s.rep.frames,∀t:Int,0≤t→t<p.d.size→AX t f.seg.AY
 ex:∃f∈s.rep.frames,f.seg.ser=1∧f.arr=B+2*p.c.rng
structure QC (p:Par) (B:Int) (s:Ses):Prop where
 st:s.snd.st=2
 bu:s.snd.busy=B
 rc:s.rcvd=true
 ar:s.arrive=B+p.c.rng
 kn:s.kno=true
 ka:s.knoAt=B+2*p.c.rng
def Q (p:Par) (B:Int) (s:Ses):Prop:=(∃ck,QA p B ck s)∨QB p B s∨QC p B s
theorem Hz {c:BW} {t:Int} {x:Seg} {ds:List Int} (h0:0≤c.lost) (h:(B8 c t x ds).lost=0):c.lost=0∧c.rng∈ds:=by
 simp only [B8,Ij] at h;by_cases hm:c.rng∈ds
 ·rw [if_pos hm] at h;exact ⟨by omega,hm⟩
 ·rw [if_neg hm] at h;omega
theorem YA {p:Par} {s q:Snd} (hp:POk p) (hq:Pz p s q) (h:∀t:Int,0≤t→t<p.d.size→AX t q.acked):complete q=true:=by have hd:=hp.sz;unfold complete;refine decide_eq_true ?_;have hw:=hq.fo.win;rw [hq.data] at hw ⊢;exact QW hq.fo.ack (by omega) fun t=>⟨fun m=>FL hw m,fun m=>h t m.1 m.2⟩
theorem Mic.lost {p:Par} {s s':Ses} (hp:POk p) (m:Mic p s s') (h1:s'.dat.lost=0) (h2:s'.rep.lost=0):s.dat.lost=0∧s.rep.lost=0:=by
 cases m with
 |time t q1 q2 q3 q4 q5 q6=>exact ⟨h1,h2⟩
 |tx o l q1 q2 q3=>exact ⟨(Hz q1.gd.lost.1 h1).1,h2⟩
 |rx f l q1 q2 q3 q4=>
  have hF:=q1.Qk hp q3 q4;refine ⟨by rw [hF.dat] at h1;exact h1,?_⟩;cases hc:f.seg.chk with
  |false=>rw [(hF.no hc).1] at h2;exact h2
  |true=>rw [(hF.yes hc).2.1] at h2;exact (Hz q1.gr.lost.1 h2).1
 |ls _ f l q1 q2 q3 q4 q5 q6=>cases q6<;>exact ⟨h1,h2⟩
 |ex _ q1 q2 q3 q4 q5=>cases q5<;>exact ⟨h1,h2⟩
theorem QA.mic {p:Par} {s s':Ses} {B:Int} {ck:Seg} (hp:POk p) (h:QA p B ck s) (m:Mic p s s') (z1:s'.dat.lost=0) (z2:s'.rep.lost=0):Q p B s':=by
 have hr:=hp.rng;have hI':=m.inv hp;have hbu:=h.bu;cases m with
 |time t q1 q2 q3 q4 q5 q6=>exact .inl ⟨ck,{h with}⟩
 |tx o l q1 q2 q3=>
  have hd:=(Hz q1.gd.lost.1 z1).2;have hrd:=q1.rd;have hg:(⟨s.now+p.c.rng,s.dat.sent,o.seg⟩:Frame)∈(DJ s o.seg).dat.frames:=Dc.2 (.inr ⟨p.c.rng,by rw [← hrd];exact hd,rfl⟩);have hold:∀f∈s.dat.frames,f∈(DJ s o.seg).dat.frames:=fun f hf=>Dc.2 (.inl hf);have hpo:=q1.po;have hpn:=h.pn;have hdj:=h.dj;rw [q2] at hpo hpn hdj;rw [pairwise_cons] at hpo;refine .inl ⟨ck,⟨h.st,h.ser,h.bu,h.hck,fun t h0 h1 => ?_,fun t ht => ?_,fun x hx=>hpn x (by simp [hx]),fun f hf hc => ?_,?_,h.rp,h.kn,h.rc⟩⟩
  ·rcases h.all t h0 h1 with a|a|⟨x,hx,a⟩|⟨f,hf,a⟩
   ·exact .inl a
   ·exact .inr (.inl a)
   ·rw [q2] at hx;rcases mem_cons.1 hx with rfl|hx
    ·have:=(hpn x (by simp)).1 a.1;exact .inr (.inr (.inr ⟨_,hg,a.2,by show s.now+p.c.rng<_;omega⟩))
    ·exact .inr (.inr (.inl ⟨x,hx,a⟩))
   ·exact .inr (.inr (.inr ⟨f,hold f hf,a⟩))
  ·obtain ⟨k1,k2,k3⟩:=hdj t ht;refine ⟨k1,fun x hx=>k2 x (by simp [hx]),fun f hf hc => ?_⟩;rcases FD hf with hf|⟨d,hdd,rfl⟩
   ·exact k3 f hf hc
   ·exact k2 o (by simp) hc
  ·rcases FD hf with hf|⟨d,hdd,rfl⟩
   ·exact h.fn f hf hc
   ·have h1:=(hpn o (by simp)).2 hc;have h2:=(q1.del hp).1 d (by rw [← hrd];exact hdd);exact ⟨h1.1,by show _≤s.now+d;omega⟩
  ·rcases h.ex with ⟨x,hx,a⟩|⟨⟨f,hf,a⟩,b⟩
   ·rw [q2] at hx;rcases mem_cons.1 hx with rfl|hx
    ·have h1:=(hpn x (by simp)).2 (by rw [a];exact h.hck.1);refine .inr ⟨⟨_,hg,a,by show s.now+p.c.rng=_;omega⟩,fun y hy => ?_⟩;have h2:=hpo.1 y hy;cases hc:y.seg.chk with
     |false=>rfl
     |true=>have:=((hpn y (by simp [hy])).2 hc).2;omega
    ·exact .inl ⟨x,hx,a⟩
   ·exact .inr ⟨⟨f,hold f hf,a⟩,fun y hy=>b y (by rw [q2];simp [hy])⟩
 |rx f l q1 q2 q3 q4=>
  have hF:=q1.Qk hp q3 q4;have hall:=h.all;have hdj:=h.dj;have hfn:=h.fn;have hex:=h.ex;rw [q3] at hall hdj hfn hex;cases hc:f.seg.chk with
  |false=>
   obtain ⟨r1,r2,r3,r4⟩:=hF.no hc;have hnk:∀t,cov ck t→¬AX t (rxX (BE s) f.seg).rcv.known:=fun t ht hm=>by
    obtain ⟨k1,k2,k3⟩:=hdj t ht;rcases (hF.mem t).1 hm with hm|hm
    ·exact k1 hm
    ·exact k3 f (by simp) hc hm
   refine .inl ⟨ck,⟨by rw [hF.snd];exact h.st,by rw [hF.snd];exact h.ser,by rw [hF.snd];exact h.bu,h.hck,fun t h0 h1 => ?_,fun t ht => ?_,by rw [hF.pend];exact h.pn,?_,?_,by rw [r1];exact h.rp,by rw [hF.kno];exact h.kn,?_⟩⟩
   ·rw [hF.mem,hF.pend,hF.dat];rcases hall t h0 h1 with a|a|a|⟨g,hg,a⟩
    ·exact .inl (.inl a)
    ·exact .inr (.inl a)
    ·exact .inr (.inr (.inl a))
    ·rcases mem_cons.1 hg with rfl|hg
     ·exact .inl (.inr a.1)
     ·exact .inr (.inr (.inr ⟨g,hg,a⟩))
   ·rw [hF.pend,hF.dat];obtain ⟨k1,k2,k3⟩:=hdj t ht;exact ⟨hnk t ht,k2,fun g hg=>k3 g (by simp only at hg;simp [hg])⟩
   ·rw [hF.dat];exact fun g hg=>hfn g (by simp only at hg;simp [hg])
   ·rw [hF.pend,hF.dat];rcases hex with a|⟨⟨g,hg,a⟩,b⟩
    ·exact .inl a
    ·refine .inr ⟨⟨g,?_,a⟩,b⟩;rcases mem_cons.1 hg with rfl|hg
     ·rw [a.1,h.hck.1] at hc;cases hc
     ·exact hg
   ·cases hq:(rxX (BE s) f.seg).rcvd with
    |false=>rfl
    |true=>
     exfalso;have hful:=(hI'.full hp).1 (by rw [← hF.rcvd];exact hq);have hk:=h.hck;exact hnk ck.off ⟨Int.le_refl _,by omega⟩ ((hful ck.off).2 (by omega))
  |true=>
   obtain ⟨y1,y2,y3,y4,y5⟩:=hF.yes hc;obtain ⟨f1,f2⟩:=hfn f (by simp) hc;have hfd:=q1.fd;rw [q3] at hfd;have hnow:s.now=B+p.c.rng:=by
    rcases hex with ⟨o,ho,a⟩|⟨⟨g,hg,a⟩,b⟩
    ·have h1:=(h.pn o ho).2 (by rw [a];exact h.hck.1);have h2:=(q1.pd o ho).2.1;omega
    ·have:=(hfd g hg).2.2.1;omega
   have hpe:s.pend=[]:=by
    cases hpd:s.pend with
    |nil=>rfl
    |cons o l'=>
     have h1:=h.pn o (by rw [hpd];simp);have h2:=(q1.pd o (by rw [hpd];simp)).2.1;cases hcc:o.seg.chk with
     |false=>have:=h1.1 hcc;omega
     |true=>have:=(h1.2 hcc).2;omega
   have hful:∀t,AX t (rxX (BE s) f.seg).rcv.known↔0≤t∧t<p.d.size:=fun t=>⟨fun m=>hI'.kin m,fun ⟨h0,h1⟩=>by
    rw [hF.mem];rcases hall t h0 h1 with a|a|⟨o,ho,_⟩|⟨g,hg,a⟩
    ·exact .inl a
    ·rw [f1];exact .inr a
    ·rw [hpe] at ho;cases ho
    ·have:=(hfd g hg).2.2.1;omega⟩
   have hrc:(rxX (BE s) f.seg).rcvd=true:=by rw [hF.rcvd];exact (hI'.full hp).2 hful
   have z3:=z2;rw [y2] at z3;have hd:=(Hz q1.gr.lost.1 z3).2;rw [q1.rr] at hd;have hrf:(rxX (BE s) f.seg).rep.frames=KO s.now s.rep.sent (CK s.rcv f.seg) (Ce s p.c.rng).1 s.rep.frames:=by rw [y2];rfl
   refine .inr (.inl ⟨by rw [hF.snd];exact h.st,by rw [hF.snd];exact h.ser,by rw [hF.snd];exact h.bu,hrc,?_,by rw [hF.now];omega,by rw [hF.pend];exact hpe,by rw [hF.kno];exact h.kn,fun g hg t h0 h1 => ?_,⟨⟨s.now+p.c.rng,s.rep.sent,CK s.rcv f.seg⟩,?_,?_,by show s.now+_=_;omega⟩⟩)
   ·rw [hF.arr,if_pos ⟨h.rc,hrc⟩,hnow]
   ·rw [hrf,h.rp] at hg;rcases Dc.1 hg with hg|⟨d,hdd,rfl⟩
    ·cases hg
    ·rw [hF.cl];exact (hful t).2 ⟨h0,h1⟩
   ·rw [hrf];exact Dc.2 (.inr ⟨_,hd,rfl⟩)
   ·show f.seg.ser=1;rw [f1];exact h.hck.2.1
 |ls _ f l q1 q2 q3 q4 q5 q6=>rw [h.rp] at q4;cases q4
 |ex _ q1 q2 q3 q4 q5=>
  have hdu:=(q1.due h.st).2;have hlt:s.now≤B+p.c.rng:=by
   rcases h.ex with ⟨o,ho,a⟩|⟨⟨g,hg,a⟩,b⟩
   ·have h1:=(h.pn o ho).2 (by rw [a];exact h.hck.1);have h2:=(q1.pd o ho).2.1;omega
   ·have:=(q1.fd g hg).2.2.1;omega
  cases q5 with
  |same _=>exact .inl ⟨ck,h⟩
  |fail a1 a2 a3=>omega
  |send a1 a2 a3 a4=>omega
theorem QB.mic {p:Par} {s s':Ses} {B:Int} (hp:POk p) (h:QB p B s) (m:Mic p s s'):Q p B s':=by
 have hr:=hp.rng;have hI':=m.inv hp;have hbu:=h.bu;obtain ⟨g,hg,g1,g2⟩:=h.ex;cases m with
 |time t q1 q2 q3 q4 q5 q6=>
  have hlt:=(Wt.nx hp ⟨q1,q2,q3,q4,q5⟩ q6).1;exact .inr (.inl {h with nw:=by have:=h.nw;simp only;omega})
 |tx o l q1 q2 q3=>rw [h.pn] at q2;cases q2
 |rx f l q1 q2 q3 q4=>
  have hF:=q1.Qk hp q3 q4;have hrc:=hF.mono h.rc;have hful:=(hI'.full hp).1 (by rw [← hF.rcvd];exact hrc);refine .inr (.inl ⟨by rw [hF.snd];exact h.st,by rw [hF.snd];exact h.ser,by rw [hF.snd];exact h.bu,hrc,?_,by rw [hF.now];exact h.nw,by rw [hF.pend];exact h.pn,by rw [hF.kno];exact h.kn,?_,?_⟩)
  ·rw [hF.arr,if_neg (by rw [h.rc];simp)];exact h.ar
  ·cases hc:f.seg.chk with
   |false=>rw [(hF.no hc).1];exact h.wh
   |true=>
    rw [(hF.yes hc).2.1];intro x hx t h0 h1;rcases FD hx with hx|⟨d,hd,rfl⟩
    ·exact h.wh x hx t h0 h1
    ·rw [hF.cl];exact (hful t).2 ⟨h0,h1⟩
  ·cases hc:f.seg.chk with
   |false=>rw [(hF.no hc).1];exact ⟨g,hg,g1,g2⟩
   |true=>rw [(hF.yes hc).2.1];exact ⟨g,Dc.2 (.inl hg),g1,g2⟩
 |ls _ f l q1 q2 q3 q4 q5 q6=>
  obtain ⟨f1,f2,f3,f4,f5⟩:=q1.fr f (by rw [q4];simp);have hfw:=h.wh f (by rw [q4];simp);obtain ⟨hQ,hack⟩:=q1.sn.ack hp f1;have hcm:complete (BT s.snd f.seg)=true:=YA hp hQ fun t h0 h1=>(hack t).2 (.inr (hfw t h0 h1));have hnow:=(q1.fr g hg).2.2.1;have hl:(Bq s).rep.frames=l:=by simp [Bq,q4]
  have hnw:=h.nw;cases q6 with
  |busy a1=>have:s.now<s.snd.busy:=a1;omega
  |same a1 a2=>
   have a2:s.snd.st≠1∨f.seg.ser≠s.snd.ser:=a2;have h1:=h.st;have h2:=h.ser;have hfg:g≠f:=by rintro rfl;omega
   rw [q4] at hg;refine .inr (.inl ⟨h.st,h.ser,h.bu,h.rc,h.ar,h.nw,h.pn,h.kn,by rw [hl];exact fun x hx=>h.wh x (by rw [q4];simp [hx]),⟨g,?_,g1,g2⟩⟩);rw [hl];rcases mem_cons.1 hg with e|hg
   ·exact (hfg e).elim
   ·exact hg
  |done a1 a2 a3 a4=>
   have:=f5 a3;exact .inr (.inr ⟨rfl,h.bu,h.rc,h.ar,rfl,by show s.now=_;omega⟩)
  |fail a1 a2 a3 a4 a5=>
   have a4:complete (BT s.snd f.seg)=false:=a4;rw [hcm] at a4;cases a4
  |send a1 a2 a3 a4 a5=>
   have a4:complete (BT s.snd f.seg)=false:=a4;rw [hcm] at a4;cases a4
 |ex _ q1 q2 q3 q4 q5=>
  have hdu:=(q1.due h.st).2;have hnow:=(q1.fr g hg).2.2.1;cases q5 with
  |same _=>exact .inr (.inl h)
  |fail a1 a2 a3=>omega
  |send a1 a2 a3 a4=>omega
theorem QC.mic {p:Par} {s s':Ses} {B:Int} (hp:POk p) (h:QC p B s) (m:Mic p s s'):Q p B s':=by
 cases m with
 |time t q1 q2 q3 q4 q5 q6=>exact .inr (.inr {h with})
 |tx o l q1 q2 q3=>exact .inr (.inr {h with})
 |rx f l q1 q2 q3 q4=>
  have hF:=q1.Qk hp q3 q4;exact .inr (.inr ⟨by rw [hF.snd];exact h.st,by rw [hF.snd];exact h.bu,hF.mono h.rc,by rw [hF.arr,if_neg (by rw [h.rc];simp)];exact h.ar,by rw [hF.kno];exact h.kn,by rw [hF.knoAt];exact h.ka⟩)
 |ls _ f l q1 q2 q3 q4 q5 q6=>
  have hst:=h.st;cases q6 with
  |busy a1=>exact .inr (.inr ⟨h.st,h.bu,h.rc,h.ar,h.kn,h.ka⟩)
  |same a1 a2=>exact .inr (.inr ⟨h.st,h.bu,h.rc,h.ar,h.kn,h.ka⟩)
  |done a1 a2 a3 a4=>have:s.snd.st=1:=a2;omega
  |fail a1 a2 a3 a4 a5=>have:s.snd.st=1:=a2;omega
  |send a1 a2 a3 a4 a5=>have:s.snd.st=1:=a2;omega
 |ex _ q1 q2 q3 q4 q5=>
  have hst:=h.st;cases q5 with
  |same _=>exact .inr (.inr h)
  |fail a1 a2 a3=>omega
  |send a1 a2 a3 a4=>omega
theorem Q.mic {p:Par} {s s':Ses} {B:Int} (hp:POk p) (h:Q p B s) (m:Mic p s s') (z1:s'.dat.lost=0) (z2:s'.rep.lost=0):Q p B s':=by
 rcases h with ⟨ck,h⟩|h|h
 ·exact h.mic hp m z1 z2
 ·exact h.mic hp m
 ·exact h.mic hp m
end Ab
set_option linter.unusedVariables false
set_option linter.unusedSimpArgs false
namespace Ab
open Go
def tk (r n:Int):Int:=(n+7+r) / r
theorem M1 {s:Ses} {R:Int} (h1:s.picks=[]) (h2:s.dark=[]):Ce s R=([R],s.dist):=by unfold Ce;rw [h1,h2];simp [LQ,AX]
structure Qt (m:Nat) (s:Ses):Prop where
 a:s.sent.length+s.pend.length=m
 b:s.told.length+s.dat.frames.countP (fun f=>f.seg.chk)+s.pend.countP (fun o=>o.seg.chk)=1
 z1:s.dat.lost=0
 z2:s.rep.lost=0
theorem MX {c:BW} {t:Int} {x:Seg}:(B8 c t x [c.rng]).lost=c.lost:=by simp [B8,Ij]
theorem Q.once {p:Par} {B:Int} {s:Ses} (h:Q p B s) (h1:s.snd.st=1):s.snd.ser=1:=by
 rcases h with ⟨ck,h⟩|h|h
 ·exact h.ser
 ·exact h.ser
 ·have:=h.st;omega
theorem Qt.mic {p:Par} {s s':Ses} {B:Int} {m:Nat} (hp:POk p) (e1:p.ps=[]) (e2:p.dk=[]) (h:Qt m s∧Q p B s) (mi:Mic p s s'):Qt m s'∧Q p B s':=by
 obtain ⟨⟨a,b,z1,z2⟩,hq⟩:=h;have hI:=mi.inv hp;cases mi with
 |time t q1 q2 q3 q4 q5 q6=>exact ⟨⟨a,b,z1,z2⟩,hq.mic hp (.time s t q1 q2 q3 q4 q5 q6) z1 z2⟩
 |tx o l q1 q2 q3=>
  have hd:Ce s s.dat.rng=([s.dat.rng],s.dist):=M1 (by rw [q1.ps,e1]) (by rw [q1.dk,e2]);have y1:({DJ s o.seg with pend:=l}:Ses).dat.lost=0:=by simp only [DJ,hd,MX,z1]
  refine ⟨⟨?_,?_,y1,z2⟩,hq.mic hp (.tx s o l q1 q2 q3) y1 z2⟩
  ·rw [q2] at a;simp only [DJ,length_append,length_cons,length_nil] at a ⊢;omega
  ·rw [q2] at b;simp only [DJ,hd,B8,G7,countP_cons,length_cons,length_nil] at b ⊢;split at b<;>split<;>simp_all<;>omega
 |rx f l q1 q2 q3 q4=>
  have hF:=q1.Qk hp q3 q4;have hd:Ce s p.c.rng=([p.c.rng],s.dist):=M1 (by rw [q1.ps,e1]) (by rw [q1.dk,e2]);have y1:(rxX (BE s) f.seg).dat.lost=0:=by rw [hF.dat];exact z1
  have y2:(rxX (BE s) f.seg).rep.lost=0:=by
   cases hc:f.seg.chk with
   |false=>rw [(hF.no hc).1];exact z2
   |true=>rw [(hF.yes hc).2.1,hd,← q1.rr];simp only [MX];exact z2
  refine ⟨⟨by rw [hF.sent,hF.pend];exact a,?_,y1,y2⟩,hq.mic hp (.rx s f l q1 q2 q3 q4) y1 y2⟩;rw [hF.pend,hF.dat];rw [q3] at b;simp only [countP_cons] at b;cases hc:f.seg.chk with
  |false=>rw [(hF.no hc).2.1];simp only [hc] at b ⊢;simpa using b
  |true=>
   rw [(hF.yes hc).2.2.1];simp only [hc,if_true,length_append,length_cons,length_nil] at b ⊢;omega
 |ls _ f l q1 q2 q3 q4 q5 q6=>
  have hQ:∀y1 y2,Q p B s':=fun y1 y2=>hq.mic hp (.ls s s' f l q1 q2 q3 q4 q5 q6) y1 y2;cases q6 with
  |busy a1=>exact ⟨⟨a,b,z1,z2⟩,hQ z1 z2⟩
  |same a1 a2=>exact ⟨⟨a,b,z1,z2⟩,hQ z1 z2⟩
  |done a1 a2 a3 a4=>exact ⟨⟨a,b,z1,z2⟩,hQ z1 z2⟩
  |fail a1 a2 a3 a4 a5=>exact ⟨⟨a,b,z1,z2⟩,hQ z1 z2⟩
  |send a1 a2 a3 a4 a5=>
   have h1:s.snd.ser=1:=hq.once a2;have h2:s.snd.ser+1=1:=(hQ z1 z2).once rfl;omega
 |ex _ q1 q2 q3 q4 q5=>
  have hQ:∀y1 y2,Q p B s':=fun y1 y2=>hq.mic hp (.ex s s' q1 q2 q3 q4 q5) y1 y2;cases q5 with
  |same a1=>exact ⟨⟨a,b,z1,z2⟩,hQ z1 z2⟩
  |fail a1 a2 a3=>exact ⟨⟨a,b,z1,z2⟩,hQ z1 z2⟩
  |send a1 a2 a3 a4=>
   have h1:s.snd.ser=1:=hq.once a1;have h2:s.snd.ser+1=1:=(hQ z1 z2).once rfl;omega
end Ab
set_option linter.unusedVariables false
set_option linter.unusedSimpArgs false
namespace Ab
open Go
theorem Wg {r n:Int} (hr:1≤r∧r≤1000) (hn:1≤n∧n≤16):1≤tk r n∧tk r n≤24:=by unfold tk;refine ⟨(Int.le_ediv_iff_mul_le (by omega)).2 (by omega),?_⟩;have h:(n+7+r) / r<25:=(Int.ediv_lt_iff_lt_mul (by omega)).2 (by omega);omega
theorem tk_run {r n:Int} (hr:1≤r∧r≤1000) (hn:1≤n∧n≤16):w64 (tdiv (w64 (w64 (w64 (n+8)+r)-1)) r)=tk r n:=by have ht:=Wg hr hn;rw [Aa (x:=n+8) (by omega) (by omega),Aa (x:=n+8+r) (by omega) (by omega),Aa (x:=n+8+r-1) (by omega) (by omega),Int.tdiv_eq_ediv_of_nonneg (by omega),show n+8+r-1=n+7+r by omega];exact Aa (by unfold tk at ht;omega) (by unfold tk at ht;omega)
end Ab
set_option maxRecDepth 100000
set_option linter.unusedVariables false
namespace Ab
open Go Go.Proofs
def Ho:List Sh:=[Sh.b,Sh.i,Sh.b,Sh.i,Sh.i,Sh.i,Sh.i]
def BC:List Sh:=[Sh.i,Sh.l 10,Sh.i,Sh.i,Sh.i,Sh.l 10,Sh.i,Sh.i,Sh.l 1,Sh.i,Sh.l 2,Sh.i,Sh.i,Sh.r 5,Sh.r 6,Sh.i,Sh.i,Sh.i,Sh.i,Sh.i,Sh.i,Sh.i,Sh.i,Sh.i,Sh.s,Sh.i,Sh.i,Sh.i,Sh.l 2,Sh.i,Sh.i,Sh.i,Sh.i,Sh.l 2,Sh.s,Sh.r 1,Sh.b,Sh.i,Sh.b,Sh.i]
def Bt:List OSh:=[OSh.box Ho,OSh.row 9,OSh.frz 15,OSh.frz 4,OSh.frz 4,OSh.row 9,OSh.row 9,OSh.box BC]
def Cu:List Sh:=[]
def BSB_4:List Sh:=[Sh.i]
def BSB_5:List Sh:=[Sh.b]
def DN:List OSh:=[OSh.box Ho,OSh.row 9,OSh.box Cu,OSh.box Cu,OSh.box Cu,OSh.row 9,OSh.row 9,OSh.box BC,OSh.box BSB_4,OSh.box BSB_5]
def BU:List OSh:=[OSh.box Ho,OSh.row 9,OSh.box Cu,OSh.box Cu,OSh.box Cu,OSh.row 9,OSh.row 9,OSh.box BC]
def SD:List Sh:=[Sh.i,Sh.i,Sh.i,Sh.i,Sh.i,Sh.b,Sh.s,Sh.l 2]
def O1:List OSh:=[OSh.box Ho,OSh.row 9,OSh.box Cu,OSh.box Cu,OSh.box Cu,OSh.row 9,OSh.row 9,OSh.box BC,OSh.box SD]
def CN:List OSh:=[OSh.box Ho,OSh.row 9,OSh.box Cu,OSh.box Cu,OSh.box Cu,OSh.row 9,OSh.row 9,OSh.box BC,OSh.row 8]
def Ky:List OSh:=[OSh.box Ho,OSh.row 9,OSh.box Cu,OSh.box Cu,OSh.box Cu,OSh.row 9,OSh.row 9,OSh.box BC,OSh.row 8,OSh.box SD]
def QR:List Sh:=[Sh.i,Sh.i,Sh.l 2,Sh.s]
def I7:List OSh:=[OSh.box Ho,OSh.row 9,OSh.frz 15,OSh.frz 4,OSh.frz 4,OSh.row 9,OSh.row 9,OSh.box BC,OSh.row 8,OSh.box QR,OSh.box SD]
def CM:List OSh:=[OSh.box Ho,OSh.row 9,OSh.box Cu,OSh.box Cu,OSh.box Cu,OSh.row 9,OSh.row 9,OSh.box BC,OSh.row 8,OSh.box QR,OSh.box SD]
def Y3:List Sh:=[Sh.i,Sh.l 10,Sh.i,Sh.i]
def Kx:List OSh:=[OSh.box Ho,OSh.row 9,OSh.box Cu,OSh.box Cu,OSh.box Cu,OSh.row 9,OSh.row 9,OSh.box BC,OSh.row 8,OSh.box QR,OSh.box SD,OSh.box Y3]
def Nh:List OSh:=[OSh.box Ho,OSh.row 9,OSh.box Cu,OSh.box Cu,OSh.box Cu,OSh.row 9,OSh.row 9,OSh.box BC,OSh.row 8,OSh.box QR]
def Kw:List OSh:=[OSh.box Ho,OSh.row 9,OSh.box Cu,OSh.box Cu,OSh.box Cu,OSh.row 9,OSh.row 9,OSh.box BC,OSh.box Y3]
def EF:List FuncId:=[50,51,52,53,54,71,96,124,125,126,127,144]
noncomputable def J26_1 (n:Nat) (ff:Nat→Rec) (k26:KT) (p28:ST):RT:=k26 ([],rh p28 0 DN)
noncomputable def Yj (n:Nat) (ff:Nat→Rec) (k20:KT) (p70:ST):RT:=k20 (tv [tI (cI p70 8 0),.bool (cB p70 9 0)],rh p70 0 BU)
noncomputable def NZ (n:Nat) (ff:Nat→Rec) (p52:ST) (k20:KT) (p64:ST):RT:=AP (.box [AV.yld 40,.t (tI (cI p52 7 29))]) (.box [AV.yld 40,.t (tI (cI p64 7 29))]) (join (Yj n ff k20) fun k71=>cnd (vB p64 0=true) (cnd ((!(cB p64 9 0))=true) (k71 ([],upd (rh p64 0 DN) [(8,.box [.t (tI (cI p52 7 29))]),(9,.box [.t (.bool true)])])) (cnd (decide (cI p52 7 29<cI p64 8 0)=true) (k71 ([],upd (rh p64 0 DN) [(8,.box [.t (tI (cI p52 7 29))]),(9,.box [.t (.bool true)])])) (k71 ([],rh p64 0 DN)))) (k71 ([],rh p64 0 DN)))
noncomputable def VE (n:Nat) (ff:Nat→Rec) (k20:KT) (p52:ST):RT:=join (NZ n ff p52 k20) fun k65=>cnd ((cI p52 7 30==1)=true) (k65 ([.t (.bool (!(decide (cI p52 7 11≥(10000:Int)))))],rh p52 0 DN)) (k65 ([.t (.bool false)],rh p52 0 DN))
noncomputable def O0 (n:Nat) (ff:Nat→Rec) (k20:KT) (p39:ST):RT:=bd [0,1] (AA C n 122 (ct [0,13,0,0] p39 7 4 [])) fun y51=>join (VE n ff k20) fun k53=>cnd (gB y51 1=true) (cnd ((!(cB p39 9 0))=true) (k53 ([],upd (rh p39 0 DN) [(8,.box [.t (tI (gI y51 0))]),(9,.box [.t (.bool true)])])) (cnd (decide (gI y51 0<cI p39 8 0)=true) (k53 ([],upd (rh p39 0 DN) [(8,.box [.t (tI (gI y51 0))]),(9,.box [.t (.bool true)])])) (k53 ([],rh p39 0 DN)))) (k53 ([],rh p39 0 DN))
noncomputable def Oz (n:Nat) (ff:Nat→Rec) (k20:KT) (p25:ST):RT:=bd [0,1] (AA C n 122 (ct [0,13,0,0] p25 7 0 [])) fun y38=>join (O0 n ff k20) fun k40=>cnd (gB y38 1=true) (cnd ((!(cB p25 9 0))=true) (k40 ([],upd (rh p25 0 DN) [(8,.box [.t (tI (gI y38 0))]),(9,.box [.t (.bool true)])])) (cnd (decide (gI y38 0<cI p25 8 0)=true) (k40 ([],upd (rh p25 0 DN) [(8,.box [.t (tI (gI y38 0))]),(9,.box [.t (.bool true)])])) (k40 ([],rh p25 0 DN)))) (k40 ([],rh p25 0 DN))
noncomputable def Yf (n:Nat) (ff:Nat→Rec) (k20:KT) (p23:ST):RT:=cnd (AD p23 1=AI p23 7 35) (join (Oz n ff k20) fun k26=>cnd (decide ((AH p23 7 35:Int)>0)=true) (cnd (AD p23 1=AI p23 7 35∧9=9∧(0:Int)≤0∧0<(AH p23 7 35:Int)) (cnd (AD p23 1=AI p23 7 35) (cnd (AD p23 1=AI p23 7 35) (Option.bind (oEs p23 1)[AL p23 7 35]? fun y27=>cnd (okI y27 0) (join (J26_1 n ff k26) fun k29=>cnd ((!(cB p23 9 0))=true) (k29 ([],upd (rh p23 0 DN) [(8,.box [.t (tI (gI y27 0))]),(9,.box [.t (.bool true)])])) (cnd (decide (gI y27 0<cI p23 8 0)=true) (k29 ([],upd (rh p23 0 DN) [(8,.box [.t (tI (gI y27 0))]),(9,.box [.t (.bool true)])])) (k29 ([],rh p23 0 DN)))) none) none) none) none) (k26 ([],rh p23 0 DN))) none
noncomputable def VK (n:Nat) (ff:Nat→Rec) (k20:KT) (p19:ST):RT:=ff 10 (List Tree) (.fn 96 [AV.ptr 7 0]) (rh p19 0 Bt) fun rs h1=>cnd (Ay C.P (As C.P 96) rs=true) (DK (rh p19 0 Bt) h1 fun hs=>k20 (rs,hs)) none
noncomputable def U6 (n:Nat) (ff:Nat→Rec) (k20:KT) (p19:ST):RT:=join (Yf n ff k20) fun k24=>cnd (decide (cI p19 7 11≥(10000:Int))=true) (cnd (AD p19 1=AI p19 7 35) (k24 ([],upd (rh p19 0 DN) [(7,.box (upd (rb p19 7 0 BC) [(35,.sref 1 (AI p19 7 35) (length (oEs p19 1)) 0)])),(8,.box [.t (tI 0)]),(9,.box [.t (.bool false)])])) none) (k24 ([],upd (rh p19 0 DN) [(8,.box [.t (tI 0)]),(9,.box [.t (.bool false)])]))
theorem vC26_1 (n:Nat) (ff:Nat→Rec) (k20:KT) (p19:ST):Cy C (Es C (pcx C (AA C n)) n ff EF 9) (pcx C (AA C n)) n 96 [AV.ptr 7 0] (rh p19 0 Bt) (fun rs h1=>cnd (Ay C.P (As C.P 96) rs=true) (DK (rh p19 0 Bt) h1 fun hs=>k20 (rs,hs)) none)=U6 n ff k20 p19:=by kernel_rfl
theorem Wm (n:Nat) (k20:KT) (p19:ST):VK n (fI C n) k20 p19=U6 n (fI C n) k20 p19:=(E3 C n EF 9 _ 96 _ _ _).trans (vC26_1 n (fI C n) k20 p19)
noncomputable def VD (n:Nat) (ff:Nat→Rec) (k91:KT) (p92:ST):RT:=cnd ((!(vB p92 0))=true) (k91 ([.t (.bool true)],rh p92 0 BU)) (k91 ([.t (.bool ((cI p92 7 29) != cI p92 7 15))],rh p92 0 BU))
noncomputable def VC (n:Nat) (ff:Nat→Rec) (k89:KT) (p90:ST):RT:=cnd (vB p90 0=true) (k89 ([],rh p90 0 BU)) (bd [0,0,0,0,0,0,0,0,2,0,0,0,5,0,0,12,0] (AA C n 149 (ct kS p90 7 16 [tI (cI p90 7 15)])) fun y98=>cnd (((gI y98 16) != 0)=true) (k89 ([],upd (rh p90 0 BU) [(7,.box (upd (rb p90 7 0 BC) [(29,.t (tI 0)),(30,.t (tI 3))]))])) (cnd (length (gL y98 15)=0∧AL p90 7 35+AH p90 7 35<length (oEs p90 1)) (cnd (AD p90 1=AI p90 7 35) (k89 ([],upd (rh p90 0 BU) [(7,.box (upd (rb p90 7 0 BC) [(16,.t (tI (gI y98 0))),(17,.t (tI (gI y98 1))),(18,.t (tI (gI y98 2))),(19,.t (tI (gI y98 3))),(20,.t (tI (gI y98 4))),(21,.t (tI (gI y98 5))),(22,.t (tI (gI y98 6))),(23,.t (tI (gI y98 7))),(24,.t (.str (gS y98 8))),(25,.t (tI (gI y98 9))),(26,.t (tI (gI y98 10))),(27,.t (tI (gI y98 11))),(28,.t (.sl 2 (gL y98 12))),(29,.t (tI (gI y98 13))),(30,.t (tI (gI y98 14)))]))])) none) (cnd (AD p90 1=AI p90 7 35∧(9=9∨9=0)∧AL p90 7 35+AH p90 7 35≤length (oEs p90 1)∧AH p90 7 35+length (gL y98 15)≤1073741824) (k89 ([],upd (rh p90 0 BU) [(1,.row false (AI p90 7 35+1) 9 (take (AH p90 7 35) (drop (AL p90 7 35) (oEs p90 1))++gL y98 15)),(7,.box (upd (rb p90 7 0 BC) [(16,.t (tI (gI y98 0))),(17,.t (tI (gI y98 1))),(18,.t (tI (gI y98 2))),(19,.t (tI (gI y98 3))),(20,.t (tI (gI y98 4))),(21,.t (tI (gI y98 5))),(22,.t (tI (gI y98 6))),(23,.t (tI (gI y98 7))),(24,.t (.str (gS y98 8))),(25,.t (tI (gI y98 9))),(26,.t (tI (gI y98 10))),(27,.t (tI (gI y98 11))),(28,.t (.sl 2 (gL y98 12))),(29,AV.t (tI (gI y98 13))),(30,.t (tI (gI y98 14))),(35,.sref 1 (AI p90 7 35+1) 0 (AH p90 7 35+length (gL y98 15)))]))])) none)))
noncomputable def Y2 (n:Nat) (ff:Nat→Rec) (k89:KT) (p88:ST):RT:=ff 10 (List Tree) (.fn 127 [AV.ptr 7 0]) (rh p88 0 Bt) fun rs h1=>cnd (Ay C.P (As C.P 127) rs=true) (DK (rh p88 0 Bt) h1 fun hs=>k89 (rs,hs)) none
noncomputable def R9 (n:Nat) (ff:Nat→Rec) (k89:KT) (p88:ST):RT:=join (VC n ff k89) fun k91=>join (VD n ff k91) fun k93=>cnd ((cI p88 7 30==1)=true) (k93 ([.t (.bool (!(decide (cI p88 7 11≥(10000:Int)))))],rh p88 0 BU)) (k93 ([.t (.bool false)],rh p88 0 BU))
theorem vC26_2 (n:Nat) (ff:Nat→Rec) (k89:KT) (p88:ST):Cy C (Es C (pcx C (AA C n)) n ff EF 9) (pcx C (AA C n)) n 127 [AV.ptr 7 0] (rh p88 0 Bt) (fun rs h1=>cnd (Ay C.P (As C.P 127) rs=true) (DK (rh p88 0 Bt) h1 fun hs=>k89 (rs,hs)) none)=R9 n ff k89 p88:=by kernel_rfl
theorem SM (n:Nat) (k89:KT) (p88:ST):Y2 n (fI C n) k89 p88=R9 n (fI C n) k89 p88:=(E3 C n EF 9 _ 127 _ _ _).trans (vC26_2 n (fI C n) k89 p88)
noncomputable def Hh (n:Nat) (ff:Nat→Rec) (k87:KT) (p86 p99:ST):RT:=k87 ([.t (tI (w64 (vI p86 0+1)))],rh p99 0 BU)
noncomputable def QK (n:Nat) (ff:Nat→Rec) (p108:ST) (k107:KT) (p130:ST):RT:=cnd (vB p130 0=true) (cnd (AD p130 8=AD p108 8+1∧8≤8) (Option.bind (oEs p130 8)[0]? fun y132=>k107 ([.rptr 8 (AD p108 8+1) 0 0,.t (.bool false)],upd (rh p130 0 CN) [(8,.row false (AD p108 8+1) 8 (List.set (oEs p130 8) 0 (zt kG []++drop 8 y132)))])) none) (bd [0,13,0,0,0,0,0,0,0,0,0,1,2,5,0] (AA C n 158 (ct [0,13,0,0] p130 7 4 [])) fun y133=>cnd (AD p130 8=AD p108 8+1∧8≤8) (Option.bind (oEs p130 8)[0]? fun y134=>k107 ([.rptr 8 (AD p108 8+1) 0 0,.t (.bool true)],upd (rh p130 0 CN) [(7,.box (upd (rb p130 7 0 BC) [(4,.t (tI (gI y133 0))),(5,.t (.sl 10 (gL y133 1))),(6,.t (tI (gI y133 2))),(7,.t (tI (gI y133 3)))])),(8,.row false (AD p108 8+1) 8 (List.set (oEs p130 8) 0 (gt kG y133 6 []++drop 8 y134)))])) none)
noncomputable def Nb (n:Nat) (ff:Nat→Rec) (p106:ST) (k107:KT) (p108:ST):RT:=cnd (AD p108 8=L9 p106 0) (Option.bind (oEs p108 8)[0]? fun y128=>bk kG 0 y128 (cnd (AD p108 8+1=AD p108 8+1∧8≤8) (bd [0,1] (AA C n 122 (ct [0,13,0,0] p108 7 4 [])) fun y129=>join (QK n ff p108 k107) fun k131=>cnd ((!(gB y129 1))=true) (k131 ([.t (.bool true)],upd (rh p108 0 Ky) [(8,.row false (AD p108 8+1) 8 [[tI (gI y128 0),tI (gI y128 1),tI (gI y128 2),tI (gI y128 3),tI (gI y128 4),.bool (gB y128 5),.str (gS y128 6),.sl 2 (gL y128 7)]]),(9,.box (tv (zt kG [])))])) (k131 ([.t (.bool ((gI y129 0) != cI p108 7 15))],upd (rh p108 0 Ky) [(8,.row false (AD p108 8+1) 8 [[tI (gI y128 0),tI (gI y128 1),tI (gI y128 2),tI (gI y128 3),tI (gI y128 4),.bool (gB y128 5),.str (gS y128 6),.sl 2 (gL y128 7)]]),(9,.box (tv (zt kG [])))]))) none)) none
noncomputable def E1 (n:Nat) (ff:Nat→Rec) (k102:KT) (p106:ST) (k107:KT):RT:=cnd (vB p106 1=true) (join (Nb n ff p106 k107) fun k109=>cnd (decide (cI p106 7 15<cI p106 7 26)=true) (k109 ([],rh p106 0 CN)) (cnd (AD p106 8=L9 p106 0) (Option.bind (oEs p106 8)[0]? fun y110=>bk kG 0 y110 (bd [0,0,0,0,0,0,0,0,2,0,0,0,5,0,0,12,0] (AA C n 148 (ct kS p106 7 16 (tI (cI p106 7 15)::gt kG y110 0 []))) fun y111=>cnd (((gI y111 16) != 0)=true) (k109 ([],rh p106 0 CN)) (cnd (length (gL y111 15)=0∧AL p106 7 35+AH p106 7 35<length (oEs p106 1)) (cnd (AD p106 1=AI p106 7 35) (cnd ((!(cB p106 7 38))=true) (cnd ((gI y111 14==2)=true) (k109 ([],upd (rh p106 0 CN) [(7,.box (upd (rb p106 7 0 BC) [(16,.t (tI (gI y111 0))),(17,.t (tI (gI y111 1))),(18,.t (tI (gI y111 2))),(19,.t (tI (gI y111 3))),(20,.t (tI (gI y111 4))),(21,.t (tI (gI y111 5))),(22,.t (tI (gI y111 6))),(23,.t (tI (gI y111 7))),(24,.t (.str (gS y111 8))),(25,.t (tI (gI y111 9))),(26,AV.t (tI (gI y111 10))),(27,.t (tI (gI y111 11))),(28,.t (.sl 2 (gL y111 12))),(29,.t (tI (gI y111 13))),(30,.t (tI (gI y111 14))),(38,.t (.bool true)),(39,.t (tI (cI p106 7 15)))]))])) (k109 ([],upd (rh p106 0 CN) [(7,.box (upd (rb p106 7 0 BC) [(16,.t (tI (gI y111 0))),(17,.t (tI (gI y111 1))),(18,.t (tI (gI y111 2))),(19,.t (tI (gI y111 3))),(20,.t (tI (gI y111 4))),(21,.t (tI (gI y111 5))),(22,.t (tI (gI y111 6))),(23,.t (tI (gI y111 7))),(24,.t (.str (gS y111 8))),(25,.t (tI (gI y111 9))),(26,.t (tI (gI y111 10))),(27,.t (tI (gI y111 11))),(28,.t (.sl 2 (gL y111 12))),(29,.t (tI (gI y111 13))),(30,.t (tI (gI y111 14)))]))]))) (k109 ([],upd (rh p106 0 CN) [(7,.box (upd (rb p106 7 0 BC) [(16,.t (tI (gI y111 0))),(17,.t (tI (gI y111 1))),(18,.t (tI (gI y111 2))),(19,.t (tI (gI y111 3))),(20,.t (tI (gI y111 4))),(21,.t (tI (gI y111 5))),(22,.t (tI (gI y111 6))),(23,.t (tI (gI y111 7))),(24,.t (.str (gS y111 8))),(25,.t (tI (gI y111 9))),(26,.t (tI (gI y111 10))),(27,.t (tI (gI y111 11))),(28,.t (.sl 2 (gL y111 12))),(29,.t (tI (gI y111 13))),(30,.t (tI (gI y111 14)))]))]))) none) (cnd (AD p106 1=AI p106 7 35∧(9=9∨9=0)∧AL p106 7 35+AH p106 7 35≤length (oEs p106 1)∧AH p106 7 35+length (gL y111 15)≤1073741824) (cnd ((!(cB p106 7 38))=true) (cnd ((gI y111 14==2)=true) (k109 ([],upd (rh p106 0 CN) [(1,.row false (AI p106 7 35+1) 9 (take (AH p106 7 35) (drop (AL p106 7 35) (oEs p106 1))++gL y111 15)),(7,.box (upd (rb p106 7 0 BC) [(16,.t (tI (gI y111 0))),(17,.t (tI (gI y111 1))),(18,.t (tI (gI y111 2))),(19,.t (tI (gI y111 3))),(20,.t (tI (gI y111 4))),(21,.t (tI (gI y111 5))),(22,.t (tI (gI y111 6))),(23,.t (tI (gI y111 7))),(24,.t (.str (gS y111 8))),(25,.t (tI (gI y111 9))),(26,.t (tI (gI y111 10))),(27,.t (tI (gI y111 11))),(28,.t (.sl 2 (gL y111 12))),(29,.t (tI (gI y111 13))),(30,.t (tI (gI y111 14))),(35,.sref 1 (AI p106 7 35+1) 0 (AH p106 7 35+length (gL y111 15))),(38,.t (.bool true)),(39,.t (tI (cI p106 7 15)))]))])) (k109 ([],upd (rh p106 0 CN) [(1,.row false (AI p106 7 35+1) 9 (take (AH p106 7 35) (drop (AL p106 7 35) (oEs p106 1))++gL y111 15)),(7,.box (upd (rb p106 7 0 BC) [(16,.t (tI (gI y111 0))),(17,.t (tI (gI y111 1))),(18,.t (tI (gI y111 2))),(19,AV.t (tI (gI y111 3))),(20,.t (tI (gI y111 4))),(21,.t (tI (gI y111 5))),(22,.t (tI (gI y111 6))),(23,.t (tI (gI y111 7))),(24,.t (.str (gS y111 8))),(25,.t (tI (gI y111 9))),(26,.t (tI (gI y111 10))),(27,.t (tI (gI y111 11))),(28,.t (.sl 2 (gL y111 12))),(29,.t (tI (gI y111 13))),(30,.t (tI (gI y111 14))),(35,.sref 1 (AI p106 7 35+1) 0 (AH p106 7 35+length (gL y111 15)))]))]))) (k109 ([],upd (rh p106 0 CN) [(1,.row false (AI p106 7 35+1) 9 (take (AH p106 7 35) (drop (AL p106 7 35) (oEs p106 1))++gL y111 15)),(7,.box (upd (rb p106 7 0 BC) [(16,.t (tI (gI y111 0))),(17,.t (tI (gI y111 1))),(18,.t (tI (gI y111 2))),(19,.t (tI (gI y111 3))),(20,.t (tI (gI y111 4))),(21,.t (tI (gI y111 5))),(22,.t (tI (gI y111 6))),(23,.t (tI (gI y111 7))),(24,.t (.str (gS y111 8))),(25,.t (tI (gI y111 9))),(26,.t (tI (gI y111 10))),(27,.t (tI (gI y111 11))),(28,.t (.sl 2 (gL y111 12))),(29,.t (tI (gI y111 13))),(30,.t (tI (gI y111 14))),(35,.sref 1 (AI p106 7 35+1) 0 (AH p106 7 35+length (gL y111 15)))]))]))) none)))) none)) (k102 ([],rh p106 0 BU))
noncomputable def QJ (n:Nat) (ff:Nat→Rec) (k102:KT) (p104:ST):RT:=cnd (vB p104 0=true) (AK (E1 n ff k102) n ([.rptr 8 0 0 0,.t (.bool false)],upd (rh p104 0 CN) [(8,.row false 0 8 [[tI 0,tI 0,tI 0,tI 0,tI 0,.bool false,.str B0,.sl 2 []]])])) (bd [0,13,0,0,0,0,0,0,0,0,0,1,2,5,0] (AA C n 158 (ct [0,13,0,0] p104 7 4 [])) fun y135=>AK (E1 n ff k102) n ([.rptr 8 0 0 0,.t (.bool true)],upd (rh p104 0 CN) [(7,.box (upd (rb p104 7 0 BC) [(4,.t (tI (gI y135 0))),(5,.t (.sl 10 (gL y135 1))),(6,.t (tI (gI y135 2))),(7,.t (tI (gI y135 3)))])),(8,.row false 0 8 [[tI (gI y135 6),tI (gI y135 7),tI (gI y135 8),tI (gI y135 9),tI (gI y135 10),.bool (gB y135 11),.str (gS y135 12),.sl 2 (gL y135 13)]])]))
noncomputable def Y1 (n:Nat) (ff:Nat→Rec) (k102:KT) (p101:ST):RT:=ff 10 (List Tree) (.fn 126 [AV.ptr 7 0]) (rh p101 0 Bt) fun rs h1=>cnd (Ay C.P (As C.P 126) rs=true) (DK (rh p101 0 Bt) h1 fun hs=>k102 (rs,hs)) none
noncomputable def R8 (n:Nat) (ff:Nat→Rec) (k102:KT) (p101:ST):RT:=bd [0,1] (AA C n 122 (ct [0,13,0,0] p101 7 4 [])) fun y103=>join (QJ n ff k102) fun k105=>cnd ((!(gB y103 1))=true) (k105 ([.t (.bool true)],upd (rh p101 0 O1) [(8,.box (tv (zt kG [])))])) (k105 ([.t (.bool ((gI y103 0) != cI p101 7 15))],upd (rh p101 0 O1) [(8,.box (tv (zt kG [])))]))
theorem vC26_3 (n:Nat) (ff:Nat→Rec) (k102:KT) (p101:ST):Cy C (Es C (pcx C (AA C n)) n ff EF 9) (pcx C (AA C n)) n 126 [AV.ptr 7 0] (rh p101 0 Bt) (fun rs h1=>cnd (Ay C.P (As C.P 126) rs=true) (DK (rh p101 0 Bt) h1 fun hs=>k102 (rs,hs)) none)=R8 n ff k102 p101:=by kernel_rfl
theorem SL (n:Nat) (k102:KT) (p101:ST):Y1 n (fI C n) k102 p101=R8 n (fI C n) k102 p101:=(E3 C n EF 9 _ 126 _ _ _).trans (vC26_3 n (fI C n) k102 p101)
noncomputable def Db (n:Nat) (ff:Nat→Rec) (p181:ST) (k182:KT) (y189:List Tree) (p194:ST):RT:=cnd (vB p194 0=true) (AP (.box [AV.yld 40,.t (tI (cI p181 7 4)),.t (.sl 10 (cL p181 7 5)),.t (tI (cI p181 7 6)),.t (tI (cI p181 7 7))]) (.box [AV.yld 40,.t (tI (cI p194 7 4)),.t (.sl 10 (cL p194 7 5)),.t (tI (cI p194 7 6)),.t (tI (cI p194 7 7))]) (AP (.box [AV.yld 40,.t (tI (cI p181 7 4))]) (.box [AV.yld 40,.t (tI (cI p194 7 4))]) (AP (.row false (AD p181 5) 9 (oEs p181 5)) (.row false (AD p194 5) 9 (oEs p194 5)) (AP (.row false (AD p181 6) 9 (oEs p181 6)) (.row false (AD p194 6) 9 (oEs p194 6)) (AP (.row false (AD p181 1) 9 (oEs p181 1)) (.row false (AD p194 1) 9 (oEs p194 1)) (bd [0,13,0,0,0] (AA C n 156 (ct [0,13,0,0] p181 7 4 [tI (vI p181 3),tI (aI p181 4 0),tI (aI p181 4 1),tI (aI p181 4 2),tI (aI p181 4 3),tI (aI p181 4 4),.bool (aB p181 4 5),.str (aS p181 4 6),.sl 2 (aL p181 4 7),.sl 1 [[tI (cI p181 7 4)]]])) fun y196=>cnd (((gI y196 4) != 0)=true) (k182 ([],rh p194 0 CM)) (cnd (AD p194 6=AI p194 7 14∧(9=9∨9=0)∧AL p194 7 14+AH p194 7 14≤length (oEs p194 6)∧AH p194 7 14+1≤1073741824) (k182 ([],upd (rh p194 0 CM) [(6,.row false (AI p194 7 14+1) 9 (take (AH p194 7 14) (drop (AL p194 7 14) (oEs p194 6))++[[tI (vI p181 3),tI (aI p181 4 0),tI (aI p181 4 1),tI (aI p181 4 2),tI (aI p181 4 3),tI (aI p181 4 4),Tree.bool (aB p181 4 5),.str (aS p181 4 6),.sl 2 (aL p181 4 7)]])),(7,.box (upd (rb p194 7 0 BC) [(4,.t (tI (gI y196 0))),(5,.t (.sl 10 (gL y196 1))),(6,.t (tI (gI y196 2))),(7,.t (tI (gI y196 3))),(11,.t (tI (w64 (cI p194 7 11+1)))),(14,.sref 6 (AI p194 7 14+1) 0 (AH p194 7 14+1))]))])) none))))))) (AP (.box [AV.yld 40,.t (tI (cI p181 7 4)),.t (.sl 10 (cL p181 7 5)),.t (tI (cI p181 7 6)),.t (tI (cI p181 7 7))]) (.box [AV.yld 40,.t (tI (cI p194 7 4)),.t (.sl 10 (cL p194 7 5)),.t (tI (cI p194 7 6)),.t (tI (cI p194 7 7))]) (AP (.box [AV.yld 40,.t (tI (cI p181 7 4))]) (.box [AV.yld 40,.t (tI (cI p194 7 4))]) (AP (.row false (AD p181 5) 9 (oEs p181 5)) (.row false (AD p194 5) 9 (oEs p194 5)) (AP (.row false (AD p181 6) 9 (oEs p181 6)) (.row false (AD p194 6) 9 (oEs p194 6)) (AP (.row false (AD p181 1) 9 (oEs p181 1)) (.row false (AD p194 1) 9 (oEs p194 1)) (bd [0,13,0,0,0] (AA C n 156 (ct [0,13,0,0] p181 7 4 [tI (vI p181 3),tI (aI p181 4 0),tI (aI p181 4 1),tI (aI p181 4 2),tI (aI p181 4 3),tI (aI p181 4 4),.bool (aB p181 4 5),.str (aS p181 4 6),.sl 2 (aL p181 4 7),.sl 1 (gL y189 0)])) fun y197=>cnd (((gI y197 4) != 0)=true) (k182 ([],upd (rh p194 0 CM) [(7,.box (upd (rb p194 7 0 BC) [(12,.t (tI (w64 (cI p194 7 12+1))))]))])) (cnd (AD p194 6=AI p194 7 14∧(9=9∨9=0)∧AL p194 7 14+AH p194 7 14≤length (oEs p194 6)∧AH p194 7 14+1≤1073741824) (k182 ([],upd (rh p194 0 CM) [(6,.row false (AI p194 7 14+1) 9 (take (AH p194 7 14) (drop (AL p194 7 14) (oEs p194 6))++[[tI (vI p181 3),tI (aI p181 4 0),tI (aI p181 4 1),tI (aI p181 4 2),tI (aI p181 4 3),tI (aI p181 4 4),.bool (aB p181 4 5),.str (aS p181 4 6),.sl 2 (aL p181 4 7)]])),(7,.box (upd (rb p194 7 0 BC) [(4,.t (tI (gI y197 0))),(5,.t (.sl 10 (gL y197 1))),(6,.t (tI (gI y197 2))),(7,.t (tI (gI y197 3))),(11,.t (tI (w64 (cI p194 7 11+1)))),(12,.t (tI (w64 (cI p194 7 12+1)))),(14,.sref 6 (AI p194 7 14+1) 0 (AH p194 7 14+1))]))])) none)))))))
noncomputable def Hg (n:Nat) (ff:Nat→Rec) (p181:ST) (y189:List Tree) (k182:KT) (p190:ST):RT:=cnd (vB p190 0=true) (AP (.box [AV.yld 40,.t (tI (cI p181 7 4)),.t (.sl 10 (cL p181 7 5)),.t (tI (cI p181 7 6)),.t (tI (cI p181 7 7))]) (.box [AV.yld 40,.t (tI (cI p190 7 4)),.t (.sl 10 (cL p190 7 5)),.t (tI (cI p190 7 6)),.t (tI (cI p190 7 7))]) (AP (.box [AV.yld 40,.t (tI (cI p181 7 4))]) (.box [AV.yld 40,.t (tI (cI p190 7 4))]) (AP (.row false (AD p181 5) 9 (oEs p181 5)) (.row false (AD p190 5) 9 (oEs p190 5)) (AP (.row false (AD p181 6) 9 (oEs p181 6)) (.row false (AD p190 6) 9 (oEs p190 6)) (AP (.row false (AD p181 1) 9 (oEs p181 1)) (.row false (AD p190 1) 9 (oEs p190 1)) (bd [0,13,0,0,0] (AA C n 156 (ct [0,13,0,0] p181 7 4 [tI (vI p181 3),tI (aI p181 4 0),tI (aI p181 4 1),tI (aI p181 4 2),tI (aI p181 4 3),tI (aI p181 4 4),.bool (aB p181 4 5),.str (aS p181 4 6),.sl 2 (aL p181 4 7),.sl 1 (gL y189 0)])) fun y193=>cnd (((gI y193 4) != 0)=true) (k182 ([],rh p190 0 CM)) (cnd (AD p190 6=AI p190 7 14∧(9=9∨9=0)∧AL p190 7 14+AH p190 7 14≤length (oEs p190 6)∧AH p190 7 14+1≤1073741824) (k182 ([],upd (rh p190 0 CM) [(6,.row false (AI p190 7 14+1) 9 (take (AH p190 7 14) (drop (AL p190 7 14) (oEs p190 6))++[[tI (vI p181 3),tI (aI p181 4 0),tI (aI p181 4 1),tI (aI p181 4 2),tI (aI p181 4 3),tI (aI p181 4 4),.bool (aB p181 4 5),.str (aS p181 4 6),.sl 2 (aL p181 4 7)]])),(7,.box (upd (rb p190 7 0 BC) [(4,.t (tI (gI y193 0))),(5,.t (.sl 10 (gL y193 1))),(6,.t (tI (gI y193 2))),(7,.t (tI (gI y193 3))),(11,.t (tI (w64 (cI p190 7 11+1)))),(14,.sref 6 (AI p190 7 14+1) 0 (AH p190 7 14+1))]))])) none))))))) (join (Db n ff p181 k182 y189) fun k195=>cnd (decide (cI p190 7 9≥(0:Int))=true) (k195 ([.t (.bool (decide (cI p190 7 12≥cI p190 7 9)))],rh p190 0 Kx)) (k195 ([.t (.bool false)],rh p190 0 Kx)))
noncomputable def Hf (n:Nat) (ff:Nat→Rec) (p181:ST) (y202:List Tree) (k182:KT) (p203:ST):RT:=cnd (vB p203 0=true) (AP (.box [AV.yld 40,.t (tI (cI p181 7 4)),.t (.sl 10 (cL p181 7 5)),.t (tI (cI p181 7 6)),.t (tI (cI p181 7 7))]) (.box [AV.yld 40,.t (tI (cI p203 7 4)),.t (.sl 10 (cL p203 7 5)),.t (tI (cI p203 7 6)),.t (tI (cI p203 7 7))]) (AP (.box [AV.yld 40,.t (tI (cI p181 7 4))]) (.box [AV.yld 40,.t (tI (cI p203 7 4))]) (AP (.row false (AD p181 5) 9 (oEs p181 5)) (.row false (AD p203 5) 9 (oEs p203 5)) (AP (.row false (AD p181 6) 9 (oEs p181 6)) (.row false (AD p203 6) 9 (oEs p203 6)) (AP (.row false (AD p181 1) 9 (oEs p181 1)) (.row false (AD p203 1) 9 (oEs p203 1)) (bd [0,13,0,0,0] (AA C n 156 (ct [0,13,0,0] p181 7 4 [tI (vI p181 3),tI (aI p181 4 0),tI (aI p181 4 1),tI (aI p181 4 2),tI (aI p181 4 3),tI (aI p181 4 4),.bool (aB p181 4 5),.str (aS p181 4 6),.sl 2 (aL p181 4 7),.sl 1 (gL y202 0)])) fun y206=>cnd (((gI y206 4) != 0)=true) (k182 ([],rh p203 0 CM)) (cnd (AD p203 6=AI p203 7 14∧(9=9∨9=0)∧AL p203 7 14+AH p203 7 14≤length (oEs p203 6)∧AH p203 7 14+1≤1073741824) (k182 ([],upd (rh p203 0 CM) [(6,.row false (AI p203 7 14+1) 9 (take (AH p203 7 14) (drop (AL p203 7 14) (oEs p203 6))++[[tI (vI p181 3),tI (aI p181 4 0),tI (aI p181 4 1),tI (aI p181 4 2),tI (aI p181 4 3),tI (aI p181 4 4),.bool (aB p181 4 5),.str (aS p181 4 6),.sl 2 (aL p181 4 7)]])),(7,.box (upd (rb p203 7 0 BC) [(4,.t (tI (gI y206 0))),(5,.t (.sl 10 (gL y206 1))),(6,.t (tI (gI y206 2))),(7,.t (tI (gI y206 3))),(11,.t (tI (w64 (cI p203 7 11+1)))),(14,.sref 6 (AI p203 7 14+1) 0 (AH p203 7 14+1))]))])) none))))))) (join (Db n ff p181 k182 y202) fun k208=>cnd (decide (cI p203 7 9≥(0:Int))=true) (k208 ([.t (.bool (decide (cI p203 7 12≥cI p203 7 9)))],rh p203 0 CM)) (k208 ([.t (.bool false)],rh p203 0 CM)))
noncomputable def Y0 (n:Nat) (ff:Nat→Rec) (k182:KT) (p181:ST):RT:=ff 9 (List Tree) (.fn 144 [AV.ptr 7 0,AV.ptr 7 4,.t (tI 1),.t (tI (vI p181 3)),AV.agg (tv [tI (aI p181 4 0),tI (aI p181 4 1),tI (aI p181 4 2),tI (aI p181 4 3),tI (aI p181 4 4),.bool (aB p181 4 5),.str (aS p181 4 6),.sl 2 (aL p181 4 7)])]) (rh p181 0 I7) fun rs h1=>cnd (Ay C.P (As C.P 144) rs=true) (DK (rh p181 0 I7) h1 fun hs=>k182 (rs,hs)) none
noncomputable def HW (n:Nat) (ff:Nat→Rec) (k182:KT) (p181:ST):RT:=cnd (decide (cI p181 7 11≥(10000:Int))=true) (k182 ([],rh p181 0 CM)) (both (bd [1] (AA C n 175 [.sl 2 (cL p181 7 10),tI (vI p181 3)]) fun y185=>cnd (gB y185 0=true) (AP (.box [AV.yld 40,.t (tI (cI p181 7 4)),.t (.sl 10 (cL p181 7 5)),.t (tI (cI p181 7 6)),.t (tI (cI p181 7 7))]) (.box [AV.yld 40,.t (tI (cI p181 7 4)),.t (.sl 10 (cL p181 7 5)),.t (tI (cI p181 7 6)),.t (tI (cI p181 7 7))]) (AP (.box [AV.yld 40,.t (tI (cI p181 7 4))]) (.box [AV.yld 40,.t (tI (cI p181 7 4))]) (AP (.row false (AD p181 5) 9 (oEs p181 5)) (.row false (AD p181 5) 9 (oEs p181 5)) (AP (.row false (AD p181 6) 9 (oEs p181 6)) (.row false (AD p181 6) 9 (oEs p181 6)) (AP (.row false (AD p181 1) 9 (oEs p181 1)) (.row false (AD p181 1) 9 (oEs p181 1)) (bd [0,13,0,0,0] (AA C n 156 (ct [0,13,0,0] p181 7 4 [tI (vI p181 3),tI (aI p181 4 0),tI (aI p181 4 1),tI (aI p181 4 2),tI (aI p181 4 3),tI (aI p181 4 4),.bool (aB p181 4 5),.str (aS p181 4 6),.sl 2 (aL p181 4 7),.sl 1 []])) fun y186=>cnd (((gI y186 4) != 0)=true) (k182 ([],rh p181 0 CM)) (cnd (AD p181 6=AI p181 7 14∧(9=9∨9=0)∧AL p181 7 14+AH p181 7 14≤length (oEs p181 6)∧AH p181 7 14+1≤1073741824) (k182 ([],upd (rh p181 0 CM) [(6,.row false (AI p181 7 14+1) 9 (take (AH p181 7 14) (drop (AL p181 7 14) (oEs p181 6))++[[tI (vI p181 3),tI (aI p181 4 0),tI (aI p181 4 1),tI (aI p181 4 2),tI (aI p181 4 3),tI (aI p181 4 4),.bool (aB p181 4 5),.str (aS p181 4 6),.sl 2 (aL p181 4 7)]])),(7,.box (upd (rb p181 7 0 BC) [(4,.t (tI (gI y186 0))),(5,.t (.sl 10 (gL y186 1))),(6,.t (tI (gI y186 2))),(7,.t (tI (gI y186 3))),(11,.t (tI (w64 (cI p181 7 11+1)))),(14,.sref 6 (AI p181 7 14+1) 0 (AH p181 7 14+1))]))])) none))))))) (cnd (((length (cL p181 7 8):Int)==0)=true) (AP (.box [AV.yld 40,.t (tI (cI p181 7 4)),.t (.sl 10 (cL p181 7 5)),.t (tI (cI p181 7 6)),.t (tI (cI p181 7 7))]) (.box [AV.yld 40,.t (tI (cI p181 7 4)),.t (.sl 10 (cL p181 7 5)),.t (tI (cI p181 7 6)),.t (tI (cI p181 7 7))]) (AP (.box [AV.yld 40,.t (tI (cI p181 7 4))]) (.box [AV.yld 40,.t (tI (cI p181 7 4))]) (AP (.row false (AD p181 5) 9 (oEs p181 5)) (.row false (AD p181 5) 9 (oEs p181 5)) (AP (.row false (AD p181 6) 9 (oEs p181 6)) (.row false (AD p181 6) 9 (oEs p181 6)) (AP (.row false (AD p181 1) 9 (oEs p181 1)) (.row false (AD p181 1) 9 (oEs p181 1)) (bd [0,13,0,0,0] (AA C n 156 (ct [0,13,0,0] p181 7 4 [tI (vI p181 3),tI (aI p181 4 0),tI (aI p181 4 1),tI (aI p181 4 2),tI (aI p181 4 3),tI (aI p181 4 4),.bool (aB p181 4 5),.str (aS p181 4 6),.sl 2 (aL p181 4 7),.sl 1 [[tI (cI p181 7 4)]]])) fun y187=>cnd (((gI y187 4) != 0)=true) (k182 ([],rh p181 0 CM)) (cnd (AD p181 6=AI p181 7 14∧(9=9∨9=0)∧AL p181 7 14+AH p181 7 14≤length (oEs p181 6)∧AH p181 7 14+1≤1073741824) (k182 ([],upd (rh p181 0 CM) [(6,.row false (AI p181 7 14+1) 9 (take (AH p181 7 14) (drop (AL p181 7 14) (oEs p181 6))++[[tI (vI p181 3),tI (aI p181 4 0),tI (aI p181 4 1),tI (aI p181 4 2),tI (aI p181 4 3),tI (aI p181 4 4),.bool (aB p181 4 5),.str (aS p181 4 6),.sl 2 (aL p181 4 7)]])),(7,.box (upd (rb p181 7 0 BC) [(4,.t (tI (gI y187 0))),(5,.t (.sl 10 (gL y187 1))),(6,.t (tI (gI y187 2))),(7,.t (tI (gI y187 3))),(11,.t (tI (w64 (cI p181 7 11+1)))),(14,.sref 6 (AI p181 7 14+1) 0 (AH p181 7 14+1))]))])) none))))))) (cnd ((length (cL p181 7 8):Int)=0) none (cnd (1=1∧0≤tmod (cI p181 7 11) (length (cL p181 7 8):Int)) (Option.bind (cL p181 7 8)[toNat (tmod (cI p181 7 11) (length (cL p181 7 8):Int))]? fun y188=>cnd (okI y188 0) (bd [4,0] (AA C n 176 [tI (gI y188 0),tI (cI p181 7 4)]) fun y189=>join (Hg n ff p181 y189 k182) fun k191=>cnd (decide ((length (gL y189 0):Int)>0)=true) (Option.bind (gL y189 0)[0]? fun y192=>cnd (okI y192 0) (k191 ([.t (.bool (gI y192 0==cI p181 7 4))],upd (rh p181 0 Kx) [(11,.box (tv (zt [0,13,0,0] [])))])) none) (k191 ([.t (.bool false)],upd (rh p181 0 Kx) [(11,.box (tv (zt [0,13,0,0] [])))]))) none) none)))) (bd [1] (AA C n 175 [.sl 2 (cL p181 7 10),tI (vI p181 3)]) fun y198=>cnd (gB y198 0=true) (AP (.box [AV.yld 40,.t (tI (cI p181 7 4)),.t (.sl 10 (cL p181 7 5)),.t (tI (cI p181 7 6)),.t (tI (cI p181 7 7))]) (.box [AV.yld 40,.t (tI (cI p181 7 4)),.t (.sl 10 (cL p181 7 5)),.t (tI (cI p181 7 6)),.t (tI (cI p181 7 7))]) (AP (.box [AV.yld 40,.t (tI (cI p181 7 4))]) (.box [AV.yld 40,.t (tI (cI p181 7 4))]) (AP (.row false (AD p181 5) 9 (oEs p181 5)) (.row false (AD p181 5) 9 (oEs p181 5)) (AP (.row false (AD p181 6) 9 (oEs p181 6)) (.row false (AD p181 6) 9 (oEs p181 6)) (AP (.row false (AD p181 1) 9 (oEs p181 1)) (.row false (AD p181 1) 9 (oEs p181 1)) (bd [0,13,0,0,0] (AA C n 156 (ct [0,13,0,0] p181 7 4 [tI (vI p181 3),tI (aI p181 4 0),tI (aI p181 4 1),tI (aI p181 4 2),tI (aI p181 4 3),tI (aI p181 4 4),.bool (aB p181 4 5),.str (aS p181 4 6),.sl 2 (aL p181 4 7),.sl 1 []])) fun y199=>cnd (((gI y199 4) != 0)=true) (k182 ([],rh p181 0 CM)) (cnd (AD p181 6=AI p181 7 14∧(9=9∨9=0)∧AL p181 7 14+AH p181 7 14≤length (oEs p181 6)∧AH p181 7 14+1≤1073741824) (k182 ([],upd (rh p181 0 CM) [(6,.row false (AI p181 7 14+1) 9 (take (AH p181 7 14) (drop (AL p181 7 14) (oEs p181 6))++[[tI (vI p181 3),tI (aI p181 4 0),tI (aI p181 4 1),tI (aI p181 4 2),tI (aI p181 4 3),tI (aI p181 4 4),.bool (aB p181 4 5),.str (aS p181 4 6),.sl 2 (aL p181 4 7)]])),(7,.box (upd (rb p181 7 0 BC) [(4,.t (tI (gI y199 0))),(5,.t (.sl 10 (gL y199 1))),(6,.t (tI (gI y199 2))),(7,.t (tI (gI y199 3))),(11,.t (tI (w64 (cI p181 7 11+1)))),(14,.sref 6 (AI p181 7 14+1) 0 (AH p181 7 14+1))]))])) none))))))) (cnd (((length (cL p181 7 8):Int)==0)=true) (AP (.box [AV.yld 40,.t (tI (cI p181 7 4)),.t (.sl 10 (cL p181 7 5)),.t (tI (cI p181 7 6)),.t (tI (cI p181 7 7))]) (.box [AV.yld 40,.t (tI (cI p181 7 4)),.t (.sl 10 (cL p181 7 5)),.t (tI (cI p181 7 6)),.t (tI (cI p181 7 7))]) (AP (.box [AV.yld 40,.t (tI (cI p181 7 4))]) (.box [AV.yld 40,.t (tI (cI p181 7 4))]) (AP (.row false (AD p181 5) 9 (oEs p181 5)) (.row false (AD p181 5) 9 (oEs p181 5)) (AP (.row false (AD p181 6) 9 (oEs p181 6)) (.row false (AD p181 6) 9 (oEs p181 6)) (AP (.row false (AD p181 1) 9 (oEs p181 1)) (.row false (AD p181 1) 9 (oEs p181 1)) (bd [0,13,0,0,0] (AA C n 156 (ct [0,13,0,0] p181 7 4 [tI (vI p181 3),tI (aI p181 4 0),tI (aI p181 4 1),tI (aI p181 4 2),tI (aI p181 4 3),tI (aI p181 4 4),.bool (aB p181 4 5),.str (aS p181 4 6),.sl 2 (aL p181 4 7),.sl 1 [[tI (cI p181 7 4)]]])) fun y200=>cnd (((gI y200 4) != 0)=true) (k182 ([],rh p181 0 CM)) (cnd (AD p181 6=AI p181 7 14∧(9=9∨9=0)∧AL p181 7 14+AH p181 7 14≤length (oEs p181 6)∧AH p181 7 14+1≤1073741824) (k182 ([],upd (rh p181 0 CM) [(6,.row false (AI p181 7 14+1) 9 (take (AH p181 7 14) (drop (AL p181 7 14) (oEs p181 6))++[[tI (vI p181 3),tI (aI p181 4 0),tI (aI p181 4 1),tI (aI p181 4 2),tI (aI p181 4 3),tI (aI p181 4 4),.bool (aB p181 4 5),.str (aS p181 4 6),.sl 2 (aL p181 4 7)]])),(7,.box (upd (rb p181 7 0 BC) [(4,AV.t (tI (gI y200 0))),(5,.t (.sl 10 (gL y200 1))),(6,.t (tI (gI y200 2))),(7,.t (tI (gI y200 3))),(11,.t (tI (w64 (cI p181 7 11+1)))),(14,.sref 6 (AI p181 7 14+1) 0 (AH p181 7 14+1))]))])) none))))))) (cnd ((length (cL p181 7 8):Int)=0) none (cnd (1=1∧0≤tmod (cI p181 7 11) (length (cL p181 7 8):Int)) (Option.bind (cL p181 7 8)[toNat (tmod (cI p181 7 11) (length (cL p181 7 8):Int))]? fun y201=>cnd (okI y201 0) (bd [4,0] (AA C n 176 [tI (gI y201 0),tI (cI p181 7 4)]) fun y202=>join (Hf n ff p181 y202 k182) fun k204=>cnd (decide ((length (gL y202 0):Int)>0)=true) (Option.bind (gL y202 0)[0]? fun y205=>cnd (okI y205 0) (k204 ([.t (.bool (gI y205 0==cI p181 7 4))],rh p181 0 CM)) none) (k204 ([.t (.bool false)],rh p181 0 CM))) none) none)))))
theorem vC26_4 (n:Nat) (ff:Nat→Rec) (k182:KT) (p181:ST):Cy C (Es C (pcx C (AA C n)) n ff EF 8) (pcx C (AA C n)) n 144 [AV.ptr 7 0,AV.ptr 7 4,.t (tI 1),.t (tI (vI p181 3)),AV.agg (tv [tI (aI p181 4 0),tI (aI p181 4 1),tI (aI p181 4 2),tI (aI p181 4 3),tI (aI p181 4 4),.bool (aB p181 4 5),.str (aS p181 4 6),.sl 2 (aL p181 4 7)])] (rh p181 0 I7) (fun rs h1=>cnd (Ay C.P (As C.P 144) rs=true) (DK (rh p181 0 I7) h1 fun hs=>k182 (rs,hs)) none)=HW n ff k182 p181:=by kernel_rfl
theorem F6 (n:Nat) (k182:KT) (p181:ST):Y0 n (fI C n) k182 p181=HW n (fI C n) k182 p181:=(E3 C n EF 8 _ 144 _ _ _).trans (vC26_4 n (fI C n) k182 p181)
noncomputable def TZ (n:Nat) (ff:Nat→Rec) (k179:KT) (p178 p211:ST):RT:=k179 ([.t (tI (w64 (vI p178 0+1)))],rh p211 0 Nh)
noncomputable def I1 (n:Nat) (ff:Nat→Rec) (y177:List Tree) (p167:ST) (k175:KT) (p178:ST) (k179:KT):RT:=cnd (decide (vI p178 0<(length (gL y177 4):Int))=true) (cnd (8=8∧0≤vI p178 0) (Option.bind (gL y177 4)[toNat (vI p178 0)]? fun y180=>bk kG 0 y180 (join (TZ n ff k179 p178) fun k212=>Y0 n ff k212 ([AV.ptr 7 0,AV.ptr 7 4,.t (tI 1),.t (tI (cI p178 7 15)),AV.agg (tv (gt kG y180 0 []))],upd (rh p178 0 I7) [(2,.row true (AD p167 2) 15 (oEs p167 2)),(3,.row true (AD p167 3) 4 (oEs p167 3)),(4,.row true (AD p167 4) 4 (oEs p167 4)),(10,.box (tv (gt kG y180 0 [])))]))) none) (cnd ((!(cB p178 7 36))=true) (bd [1] (AA C n 147 (ct [0,0,5,2] p178 7 31 [])) fun y215=>cnd (gB y215 0=true) (k175 ([],upd (rh p178 0 CN) [(7,.box (upd (rb p178 7 0 BC) [(36,AV.t (Tree.bool true)),(37,.t (tI (cI p178 7 15)))]))])) (k175 ([],rh p178 0 CN))) (k175 ([],rh p178 0 CN)))
noncomputable def QI (n:Nat) (ff:Nat→Rec) (p174:ST) (k173:KT) (p224:ST):RT:=cnd (vB p224 0=true) (cnd (AD p224 8=AD p174 8+1∧8≤8) (Option.bind (oEs p224 8)[0]? fun y226=>k173 ([.rptr 8 (AD p174 8+1) 0 0,.t (.bool false)],upd (rh p224 0 CN) [(8,.row false (AD p174 8+1) 8 (List.set (oEs p224 8) 0 (zt kG []++drop 8 y226)))])) none) (bd [0,13,0,0,0,0,0,0,0,0,0,1,2,5,0] (AA C n 158 (ct [0,13,0,0] p224 7 0 [])) fun y227=>cnd (AD p224 8=AD p174 8+1∧8≤8) (Option.bind (oEs p224 8)[0]? fun y228=>k173 ([.rptr 8 (AD p174 8+1) 0 0,.t (.bool true)],upd (rh p224 0 CN) [(7,.box (upd (rb p224 7 0 BC) [(0,.t (tI (gI y227 0))),(1,.t (.sl 10 (gL y227 1))),(2,.t (tI (gI y227 2))),(3,.t (tI (gI y227 3)))])),(8,.row false (AD p174 8+1) 8 (List.set (oEs p224 8) 0 (gt kG y227 6 []++drop 8 y228)))])) none)
noncomputable def Na (n:Nat) (ff:Nat→Rec) (p172:ST) (k173:KT) (p174:ST):RT:=cnd (AD p174 8=L9 p172 0) (Option.bind (oEs p174 8)[0]? fun y222=>bk kG 0 y222 (cnd (AD p174 8+1=AD p174 8+1∧8≤8) (bd [0,1] (AA C n 122 (ct [0,13,0,0] p174 7 0 [])) fun y223=>join (QI n ff p174 k173) fun k225=>cnd ((!(gB y223 1))=true) (k225 ([.t (.bool true)],upd (rh p174 0 Ky) [(8,.row false (AD p174 8+1) 8 [[tI (gI y222 0),tI (gI y222 1),tI (gI y222 2),tI (gI y222 3),tI (gI y222 4),.bool (gB y222 5),.str (gS y222 6),.sl 2 (gL y222 7)]]),(9,.box (tv (zt kG [])))])) (k225 ([.t (.bool ((gI y223 0) != cI p174 7 15))],upd (rh p174 0 Ky) [(8,.row false (AD p174 8+1) 8 [[tI (gI y222 0),tI (gI y222 1),tI (gI y222 2),tI (gI y222 3),tI (gI y222 4),.bool (gB y222 5),.str (gS y222 6),.sl 2 (gL y222 7)]]),(9,.box (tv (zt kG [])))]))) none)) none
noncomputable def GV (n:Nat) (ff:Nat→Rec) (p167:ST) (k168:KT) (p172:ST) (k173:KT):RT:=cnd (vB p172 1=true) (join (Na n ff p172 k173) fun k175=>cnd (AD p172 8=L9 p172 0) (Option.bind (oEs p172 8)[0]? fun y176=>bk kG 0 y176 (bd [0,0,5,2,11,0] (AA C n 146 (ct [0,0,5,2] p172 7 31 (gt kG y176 0 []))) fun y177=>cnd (((gI y177 5) != 0)=true) (k175 ([],rh p172 0 CN)) (AK (I1 n ff y177 p167 k175) n ([.t (tI 0)],upd (rh p172 0 Nh) [(7,.box (upd (rb p172 7 0 BC) [(31,.t (tI (gI y177 0))),(32,.t (tI (gI y177 1))),(33,.t (.sl 2 (gL y177 2))),(34,.t (.str (gS y177 3)))])),(9,.box (tv (gt [0,0,5,2] y177 0 [])))])))) none) (k168 ([],rh p172 0 BU))
noncomputable def QH (n:Nat) (ff:Nat→Rec) (p167:ST) (k168:KT) (p170:ST):RT:=cnd (vB p170 0=true) (AK (GV n ff p167 k168) n ([.rptr 8 0 0 0,.t (.bool false)],upd (rh p170 0 CN) [(8,.row false 0 8 [[tI 0,tI 0,tI 0,tI 0,tI 0,.bool false,.str B0,.sl 2 []]])])) (bd [0,13,0,0,0,0,0,0,0,0,0,1,2,5,0] (AA C n 158 (ct [0,13,0,0] p170 7 0 [])) fun y229=>AK (GV n ff p167 k168) n ([.rptr 8 0 0 0,.t (.bool true)],upd (rh p170 0 CN) [(7,.box (upd (rb p170 7 0 BC) [(0,.t (tI (gI y229 0))),(1,.t (.sl 10 (gL y229 1))),(2,AV.t (tI (gI y229 2))),(3,.t (tI (gI y229 3)))])),(8,.row false 0 8 [[tI (gI y229 6),tI (gI y229 7),tI (gI y229 8),tI (gI y229 9),tI (gI y229 10),.bool (gB y229 11),.str (gS y229 12),.sl 2 (gL y229 13)]])]))
noncomputable def Yz (n:Nat) (ff:Nat→Rec) (k168:KT) (p167:ST):RT:=ff 10 (List Tree) (.fn 125 [AV.ptr 7 0]) (rh p167 0 Bt) fun rs h1=>cnd (Ay C.P (As C.P 125) rs=true) (DK (rh p167 0 Bt) h1 fun hs=>k168 (rs,hs)) none
noncomputable def R7 (n:Nat) (ff:Nat→Rec) (k168:KT) (p167:ST):RT:=bd [0,1] (AA C n 122 (ct [0,13,0,0] p167 7 0 [])) fun y169=>join (QH n ff p167 k168) fun k171=>cnd ((!(gB y169 1))=true) (k171 ([.t (.bool true)],upd (rh p167 0 O1) [(8,.box (tv (zt kG [])))])) (k171 ([.t (.bool ((gI y169 0) != cI p167 7 15))],upd (rh p167 0 O1) [(8,.box (tv (zt kG [])))]))
theorem vC26_5 (n:Nat) (ff:Nat→Rec) (k168:KT) (p167:ST):Cy C (Es C (pcx C (AA C n)) n ff EF 9) (pcx C (AA C n)) n 125 [AV.ptr 7 0] (rh p167 0 Bt) (fun rs h1=>cnd (Ay C.P (As C.P 125) rs=true) (DK (rh p167 0 Bt) h1 fun hs=>k168 (rs,hs)) none)=R7 n ff k168 p167:=by kernel_rfl
theorem SK (n:Nat) (k168:KT) (p167:ST):Yz n (fI C n) k168 p167=R7 n (fI C n) k168 p167:=(E3 C n EF 9 _ 125 _ _ _).trans (vC26_5 n (fI C n) k168 p167)
noncomputable def Da (n:Nat) (ff:Nat→Rec) (p267:ST) (k268:KT) (y275:List Tree) (p280:ST):RT:=cnd (vB p280 0=true) (AP (.box [AV.yld 40,.t (tI (cI p267 7 0)),.t (.sl 10 (cL p267 7 1)),.t (tI (cI p267 7 2)),.t (tI (cI p267 7 3))]) (.box [AV.yld 40,.t (tI (cI p280 7 0)),.t (.sl 10 (cL p280 7 1)),.t (tI (cI p280 7 2)),.t (tI (cI p280 7 3))]) (AP (.box [AV.yld 40,.t (tI (cI p267 7 0))]) (.box [AV.yld 40,.t (tI (cI p280 7 0))]) (AP (.row false (AD p267 5) 9 (oEs p267 5)) (.row false (AD p280 5) 9 (oEs p280 5)) (AP (.row false (AD p267 6) 9 (oEs p267 6)) (.row false (AD p280 6) 9 (oEs p280 6)) (AP (.row false (AD p267 1) 9 (oEs p267 1)) (.row false (AD p280 1) 9 (oEs p280 1)) (bd [0,13,0,0,0] (AA C n 156 (ct [0,13,0,0] p267 7 0 [tI (vI p267 3),tI (aI p267 4 0),tI (aI p267 4 1),tI (aI p267 4 2),tI (aI p267 4 3),tI (aI p267 4 4),.bool (aB p267 4 5),.str (aS p267 4 6),.sl 2 (aL p267 4 7),.sl 1 [[tI (cI p267 7 0)]]])) fun y282=>cnd (((gI y282 4) != 0)=true) (k268 ([],rh p280 0 BU)) (cnd (AD p280 5=AI p280 7 13∧(9=9∨9=0)∧AL p280 7 13+AH p280 7 13≤length (oEs p280 5)∧AH p280 7 13+1≤1073741824) (k268 ([],upd (rh p280 0 BU) [(5,.row false (AI p280 7 13+1) 9 (take (AH p280 7 13) (drop (AL p280 7 13) (oEs p280 5))++[[tI (vI p267 3),tI (aI p267 4 0),tI (aI p267 4 1),tI (aI p267 4 2),tI (aI p267 4 3),tI (aI p267 4 4),Tree.bool (aB p267 4 5),.str (aS p267 4 6),.sl 2 (aL p267 4 7)]])),(7,.box (upd (rb p280 7 0 BC) [(0,.t (tI (gI y282 0))),(1,.t (.sl 10 (gL y282 1))),(2,.t (tI (gI y282 2))),(3,.t (tI (gI y282 3))),(11,.t (tI (w64 (cI p280 7 11+1)))),(13,.sref 5 (AI p280 7 13+1) 0 (AH p280 7 13+1))]))])) none))))))) (AP (.box [AV.yld 40,.t (tI (cI p267 7 0)),.t (.sl 10 (cL p267 7 1)),.t (tI (cI p267 7 2)),.t (tI (cI p267 7 3))]) (.box [AV.yld 40,.t (tI (cI p280 7 0)),.t (.sl 10 (cL p280 7 1)),.t (tI (cI p280 7 2)),.t (tI (cI p280 7 3))]) (AP (.box [AV.yld 40,.t (tI (cI p267 7 0))]) (.box [AV.yld 40,.t (tI (cI p280 7 0))]) (AP (.row false (AD p267 5) 9 (oEs p267 5)) (.row false (AD p280 5) 9 (oEs p280 5)) (AP (.row false (AD p267 6) 9 (oEs p267 6)) (.row false (AD p280 6) 9 (oEs p280 6)) (AP (.row false (AD p267 1) 9 (oEs p267 1)) (.row false (AD p280 1) 9 (oEs p280 1)) (bd [0,13,0,0,0] (AA C n 156 (ct [0,13,0,0] p267 7 0 [tI (vI p267 3),tI (aI p267 4 0),tI (aI p267 4 1),tI (aI p267 4 2),tI (aI p267 4 3),tI (aI p267 4 4),.bool (aB p267 4 5),.str (aS p267 4 6),.sl 2 (aL p267 4 7),.sl 1 (gL y275 0)])) fun y283=>cnd (((gI y283 4) != 0)=true) (k268 ([],upd (rh p280 0 BU) [(7,.box (upd (rb p280 7 0 BC) [(12,.t (tI (w64 (cI p280 7 12+1))))]))])) (cnd (AD p280 5=AI p280 7 13∧(9=9∨9=0)∧AL p280 7 13+AH p280 7 13≤length (oEs p280 5)∧AH p280 7 13+1≤1073741824) (k268 ([],upd (rh p280 0 BU) [(5,.row false (AI p280 7 13+1) 9 (take (AH p280 7 13) (drop (AL p280 7 13) (oEs p280 5))++[[tI (vI p267 3),tI (aI p267 4 0),tI (aI p267 4 1),tI (aI p267 4 2),tI (aI p267 4 3),tI (aI p267 4 4),.bool (aB p267 4 5),.str (aS p267 4 6),.sl 2 (aL p267 4 7)]])),(7,.box (upd (rb p280 7 0 BC) [(0,.t (tI (gI y283 0))),(1,.t (.sl 10 (gL y283 1))),(2,.t (tI (gI y283 2))),(3,.t (tI (gI y283 3))),(11,.t (tI (w64 (cI p280 7 11+1)))),(12,.t (tI (w64 (cI p280 7 12+1)))),(13,.sref 5 (AI p280 7 13+1) 0 (AH p280 7 13+1))]))])) none)))))))
noncomputable def He (n:Nat) (ff:Nat→Rec) (p267:ST) (y275:List Tree) (k268:KT) (p276:ST):RT:=cnd (vB p276 0=true) (AP (.box [AV.yld 40,.t (tI (cI p267 7 0)),.t (.sl 10 (cL p267 7 1)),.t (tI (cI p267 7 2)),.t (tI (cI p267 7 3))]) (.box [AV.yld 40,.t (tI (cI p276 7 0)),.t (.sl 10 (cL p276 7 1)),.t (tI (cI p276 7 2)),.t (tI (cI p276 7 3))]) (AP (.box [AV.yld 40,.t (tI (cI p267 7 0))]) (.box [AV.yld 40,.t (tI (cI p276 7 0))]) (AP (.row false (AD p267 5) 9 (oEs p267 5)) (.row false (AD p276 5) 9 (oEs p276 5)) (AP (.row false (AD p267 6) 9 (oEs p267 6)) (.row false (AD p276 6) 9 (oEs p276 6)) (AP (.row false (AD p267 1) 9 (oEs p267 1)) (.row false (AD p276 1) 9 (oEs p276 1)) (bd [0,13,0,0,0] (AA C n 156 (ct [0,13,0,0] p267 7 0 [tI (vI p267 3),tI (aI p267 4 0),tI (aI p267 4 1),tI (aI p267 4 2),tI (aI p267 4 3),tI (aI p267 4 4),.bool (aB p267 4 5),.str (aS p267 4 6),.sl 2 (aL p267 4 7),.sl 1 (gL y275 0)])) fun y279=>cnd (((gI y279 4) != 0)=true) (k268 ([],rh p276 0 BU)) (cnd (AD p276 5=AI p276 7 13∧(9=9∨9=0)∧AL p276 7 13+AH p276 7 13≤length (oEs p276 5)∧AH p276 7 13+1≤1073741824) (k268 ([],upd (rh p276 0 BU) [(5,.row false (AI p276 7 13+1) 9 (take (AH p276 7 13) (drop (AL p276 7 13) (oEs p276 5))++[[tI (vI p267 3),tI (aI p267 4 0),tI (aI p267 4 1),tI (aI p267 4 2),tI (aI p267 4 3),tI (aI p267 4 4),.bool (aB p267 4 5),.str (aS p267 4 6),.sl 2 (aL p267 4 7)]])),(7,.box (upd (rb p276 7 0 BC) [(0,.t (tI (gI y279 0))),(1,.t (.sl 10 (gL y279 1))),(2,.t (tI (gI y279 2))),(3,.t (tI (gI y279 3))),(11,.t (tI (w64 (cI p276 7 11+1)))),(13,.sref 5 (AI p276 7 13+1) 0 (AH p276 7 13+1))]))])) none))))))) (join (Da n ff p267 k268 y275) fun k281=>cnd (decide (cI p276 7 9≥(0:Int))=true) (k281 ([.t (.bool (decide (cI p276 7 12≥cI p276 7 9)))],rh p276 0 Kw)) (k281 ([.t (.bool false)],rh p276 0 Kw)))
noncomputable def Hc (n:Nat) (ff:Nat→Rec) (p267:ST) (y288:List Tree) (k268:KT) (p289:ST):RT:=cnd (vB p289 0=true) (AP (.box [AV.yld 40,.t (tI (cI p267 7 0)),.t (.sl 10 (cL p267 7 1)),.t (tI (cI p267 7 2)),.t (tI (cI p267 7 3))]) (.box [AV.yld 40,.t (tI (cI p289 7 0)),.t (.sl 10 (cL p289 7 1)),.t (tI (cI p289 7 2)),.t (tI (cI p289 7 3))]) (AP (.box [AV.yld 40,.t (tI (cI p267 7 0))]) (.box [AV.yld 40,.t (tI (cI p289 7 0))]) (AP (.row false (AD p267 5) 9 (oEs p267 5)) (.row false (AD p289 5) 9 (oEs p289 5)) (AP (.row false (AD p267 6) 9 (oEs p267 6)) (.row false (AD p289 6) 9 (oEs p289 6)) (AP (.row false (AD p267 1) 9 (oEs p267 1)) (.row false (AD p289 1) 9 (oEs p289 1)) (bd [0,13,0,0,0] (AA C n 156 (ct [0,13,0,0] p267 7 0 [tI (vI p267 3),tI (aI p267 4 0),tI (aI p267 4 1),tI (aI p267 4 2),tI (aI p267 4 3),tI (aI p267 4 4),.bool (aB p267 4 5),.str (aS p267 4 6),.sl 2 (aL p267 4 7),.sl 1 (gL y288 0)])) fun y292=>cnd (((gI y292 4) != 0)=true) (k268 ([],rh p289 0 BU)) (cnd (AD p289 5=AI p289 7 13∧(9=9∨9=0)∧AL p289 7 13+AH p289 7 13≤length (oEs p289 5)∧AH p289 7 13+1≤1073741824) (k268 ([],upd (rh p289 0 BU) [(5,.row false (AI p289 7 13+1) 9 (take (AH p289 7 13) (drop (AL p289 7 13) (oEs p289 5))++[[tI (vI p267 3),tI (aI p267 4 0),tI (aI p267 4 1),tI (aI p267 4 2),tI (aI p267 4 3),tI (aI p267 4 4),.bool (aB p267 4 5),.str (aS p267 4 6),.sl 2 (aL p267 4 7)]])),(7,.box (upd (rb p289 7 0 BC) [(0,.t (tI (gI y292 0))),(1,.t (.sl 10 (gL y292 1))),(2,.t (tI (gI y292 2))),(3,.t (tI (gI y292 3))),(11,.t (tI (w64 (cI p289 7 11+1)))),(13,.sref 5 (AI p289 7 13+1) 0 (AH p289 7 13+1))]))])) none))))))) (join (Da n ff p267 k268 y288) fun k294=>cnd (decide (cI p289 7 9≥(0:Int))=true) (k294 ([.t (.bool (decide (cI p289 7 12≥cI p289 7 9)))],rh p289 0 BU)) (k294 ([.t (.bool false)],rh p289 0 BU)))
noncomputable def Yy (n:Nat) (ff:Nat→Rec) (k268:KT) (p267:ST):RT:=ff 9 (List Tree) (.fn 144 [AV.ptr 7 0,AV.ptr 7 0,.t (tI 0),.t (tI (vI p267 3)),AV.agg (tv [tI (aI p267 4 0),tI (aI p267 4 1),tI (aI p267 4 2),tI (aI p267 4 3),tI (aI p267 4 4),.bool (aB p267 4 5),.str (aS p267 4 6),.sl 2 (aL p267 4 7)])]) (rh p267 0 Bt) fun rs h1=>cnd (Ay C.P (As C.P 144) rs=true) (DK (rh p267 0 Bt) h1 fun hs=>k268 (rs,hs)) none
noncomputable def HV (n:Nat) (ff:Nat→Rec) (k268:KT) (p267:ST):RT:=cnd (decide (cI p267 7 11≥(10000:Int))=true) (k268 ([],rh p267 0 BU)) (both (bd [1] (AA C n 175 [.sl 2 (cL p267 7 10),tI (vI p267 3)]) fun y271=>cnd (gB y271 0=true) (AP (.box [AV.yld 40,.t (tI (cI p267 7 0)),.t (.sl 10 (cL p267 7 1)),.t (tI (cI p267 7 2)),.t (tI (cI p267 7 3))]) (.box [AV.yld 40,.t (tI (cI p267 7 0)),.t (.sl 10 (cL p267 7 1)),.t (tI (cI p267 7 2)),.t (tI (cI p267 7 3))]) (AP (.box [AV.yld 40,.t (tI (cI p267 7 0))]) (.box [AV.yld 40,.t (tI (cI p267 7 0))]) (AP (.row false (AD p267 5) 9 (oEs p267 5)) (.row false (AD p267 5) 9 (oEs p267 5)) (AP (.row false (AD p267 6) 9 (oEs p267 6)) (.row false (AD p267 6) 9 (oEs p267 6)) (AP (.row false (AD p267 1) 9 (oEs p267 1)) (.row false (AD p267 1) 9 (oEs p267 1)) (bd [0,13,0,0,0] (AA C n 156 (ct [0,13,0,0] p267 7 0 [tI (vI p267 3),tI (aI p267 4 0),tI (aI p267 4 1),tI (aI p267 4 2),tI (aI p267 4 3),tI (aI p267 4 4),.bool (aB p267 4 5),.str (aS p267 4 6),.sl 2 (aL p267 4 7),.sl 1 []])) fun y272=>cnd (((gI y272 4) != 0)=true) (k268 ([],rh p267 0 BU)) (cnd (AD p267 5=AI p267 7 13∧(9=9∨9=0)∧AL p267 7 13+AH p267 7 13≤length (oEs p267 5)∧AH p267 7 13+1≤1073741824) (k268 ([],upd (rh p267 0 BU) [(5,.row false (AI p267 7 13+1) 9 (take (AH p267 7 13) (drop (AL p267 7 13) (oEs p267 5))++[[tI (vI p267 3),tI (aI p267 4 0),tI (aI p267 4 1),tI (aI p267 4 2),tI (aI p267 4 3),tI (aI p267 4 4),.bool (aB p267 4 5),.str (aS p267 4 6),.sl 2 (aL p267 4 7)]])),(7,.box (upd (rb p267 7 0 BC) [(0,.t (tI (gI y272 0))),(1,.t (.sl 10 (gL y272 1))),(2,.t (tI (gI y272 2))),(3,.t (tI (gI y272 3))),(11,.t (tI (w64 (cI p267 7 11+1)))),(13,.sref 5 (AI p267 7 13+1) 0 (AH p267 7 13+1))]))])) none))))))) (cnd (((length (cL p267 7 8):Int)==0)=true) (AP (.box [AV.yld 40,.t (tI (cI p267 7 0)),.t (.sl 10 (cL p267 7 1)),.t (tI (cI p267 7 2)),.t (tI (cI p267 7 3))]) (.box [AV.yld 40,.t (tI (cI p267 7 0)),.t (.sl 10 (cL p267 7 1)),.t (tI (cI p267 7 2)),.t (tI (cI p267 7 3))]) (AP (.box [AV.yld 40,.t (tI (cI p267 7 0))]) (.box [AV.yld 40,.t (tI (cI p267 7 0))]) (AP (.row false (AD p267 5) 9 (oEs p267 5)) (.row false (AD p267 5) 9 (oEs p267 5)) (AP (.row false (AD p267 6) 9 (oEs p267 6)) (.row false (AD p267 6) 9 (oEs p267 6)) (AP (.row false (AD p267 1) 9 (oEs p267 1)) (.row false (AD p267 1) 9 (oEs p267 1)) (bd [0,13,0,0,0] (AA C n 156 (ct [0,13,0,0] p267 7 0 [tI (vI p267 3),tI (aI p267 4 0),tI (aI p267 4 1),tI (aI p267 4 2),tI (aI p267 4 3),tI (aI p267 4 4),.bool (aB p267 4 5),.str (aS p267 4 6),.sl 2 (aL p267 4 7),.sl 1 [[tI (cI p267 7 0)]]])) fun y273=>cnd (((gI y273 4) != 0)=true) (k268 ([],rh p267 0 BU)) (cnd (AD p267 5=AI p267 7 13∧(9=9∨9=0)∧AL p267 7 13+AH p267 7 13≤length (oEs p267 5)∧AH p267 7 13+1≤1073741824) (k268 ([],upd (rh p267 0 BU) [(5,.row false (AI p267 7 13+1) 9 (take (AH p267 7 13) (drop (AL p267 7 13) (oEs p267 5))++[[tI (vI p267 3),tI (aI p267 4 0),tI (aI p267 4 1),tI (aI p267 4 2),tI (aI p267 4 3),tI (aI p267 4 4),.bool (aB p267 4 5),.str (aS p267 4 6),.sl 2 (aL p267 4 7)]])),(7,.box (upd (rb p267 7 0 BC) [(0,.t (tI (gI y273 0))),(1,.t (.sl 10 (gL y273 1))),(2,.t (tI (gI y273 2))),(3,.t (tI (gI y273 3))),(11,.t (tI (w64 (cI p267 7 11+1)))),(13,.sref 5 (AI p267 7 13+1) 0 (AH p267 7 13+1))]))])) none))))))) (cnd ((length (cL p267 7 8):Int)=0) none (cnd (1=1∧0≤tmod (cI p267 7 11) (length (cL p267 7 8):Int)) (Option.bind (cL p267 7 8)[toNat (tmod (cI p267 7 11) (length (cL p267 7 8):Int))]? fun y274=>cnd (okI y274 0) (bd [4,0] (AA C n 176 [tI (gI y274 0),tI (cI p267 7 0)]) fun y275=>join (He n ff p267 y275 k268) fun k277=>cnd (decide ((length (gL y275 0):Int)>0)=true) (Option.bind (gL y275 0)[0]? fun y278=>cnd (okI y278 0) (k277 ([.t (.bool (gI y278 0==cI p267 7 0))],upd (rh p267 0 Kw) [(8,.box (tv (zt [0,13,0,0] [])))])) none) (k277 ([.t (.bool false)],upd (rh p267 0 Kw) [(8,.box (tv (zt [0,13,0,0] [])))]))) none) none)))) (bd [1] (AA C n 175 [.sl 2 (cL p267 7 10),tI (vI p267 3)]) fun y284=>cnd (gB y284 0=true) (AP (.box [AV.yld 40,.t (tI (cI p267 7 0)),.t (.sl 10 (cL p267 7 1)),.t (tI (cI p267 7 2)),.t (tI (cI p267 7 3))]) (.box [AV.yld 40,.t (tI (cI p267 7 0)),.t (.sl 10 (cL p267 7 1)),.t (tI (cI p267 7 2)),.t (tI (cI p267 7 3))]) (AP (.box [AV.yld 40,.t (tI (cI p267 7 0))]) (.box [AV.yld 40,.t (tI (cI p267 7 0))]) (AP (.row false (AD p267 5) 9 (oEs p267 5)) (.row false (AD p267 5) 9 (oEs p267 5)) (AP (.row false (AD p267 6) 9 (oEs p267 6)) (.row false (AD p267 6) 9 (oEs p267 6)) (AP (.row false (AD p267 1) 9 (oEs p267 1)) (.row false (AD p267 1) 9 (oEs p267 1)) (bd [0,13,0,0,0] (AA C n 156 (ct [0,13,0,0] p267 7 0 [tI (vI p267 3),tI (aI p267 4 0),tI (aI p267 4 1),tI (aI p267 4 2),tI (aI p267 4 3),tI (aI p267 4 4),.bool (aB p267 4 5),.str (aS p267 4 6),.sl 2 (aL p267 4 7),.sl 1 []])) fun y285=>cnd (((gI y285 4) != 0)=true) (k268 ([],rh p267 0 BU)) (cnd (AD p267 5=AI p267 7 13∧(9=9∨9=0)∧AL p267 7 13+AH p267 7 13≤length (oEs p267 5)∧AH p267 7 13+1≤1073741824) (k268 ([],upd (rh p267 0 BU) [(5,.row false (AI p267 7 13+1) 9 (take (AH p267 7 13) (drop (AL p267 7 13) (oEs p267 5))++[[tI (vI p267 3),tI (aI p267 4 0),tI (aI p267 4 1),tI (aI p267 4 2),tI (aI p267 4 3),tI (aI p267 4 4),.bool (aB p267 4 5),.str (aS p267 4 6),.sl 2 (aL p267 4 7)]])),(7,.box (upd (rb p267 7 0 BC) [(0,.t (tI (gI y285 0))),(1,.t (.sl 10 (gL y285 1))),(2,.t (tI (gI y285 2))),(3,.t (tI (gI y285 3))),(11,.t (tI (w64 (cI p267 7 11+1)))),(13,.sref 5 (AI p267 7 13+1) 0 (AH p267 7 13+1))]))])) none))))))) (cnd (((length (cL p267 7 8):Int)==0)=true) (AP (.box [AV.yld 40,.t (tI (cI p267 7 0)),.t (.sl 10 (cL p267 7 1)),.t (tI (cI p267 7 2)),.t (tI (cI p267 7 3))]) (.box [AV.yld 40,.t (tI (cI p267 7 0)),.t (.sl 10 (cL p267 7 1)),.t (tI (cI p267 7 2)),.t (tI (cI p267 7 3))]) (AP (.box [AV.yld 40,.t (tI (cI p267 7 0))]) (.box [AV.yld 40,.t (tI (cI p267 7 0))]) (AP (.row false (AD p267 5) 9 (oEs p267 5)) (.row false (AD p267 5) 9 (oEs p267 5)) (AP (.row false (AD p267 6) 9 (oEs p267 6)) (.row false (AD p267 6) 9 (oEs p267 6)) (AP (.row false (AD p267 1) 9 (oEs p267 1)) (.row false (AD p267 1) 9 (oEs p267 1)) (bd [0,13,0,0,0] (AA C n 156 (ct [0,13,0,0] p267 7 0 [tI (vI p267 3),tI (aI p267 4 0),tI (aI p267 4 1),tI (aI p267 4 2),tI (aI p267 4 3),tI (aI p267 4 4),.bool (aB p267 4 5),.str (aS p267 4 6),.sl 2 (aL p267 4 7),.sl 1 [[tI (cI p267 7 0)]]])) fun y286=>cnd (((gI y286 4) != 0)=true) (k268 ([],rh p267 0 BU)) (cnd (AD p267 5=AI p267 7 13∧(9=9∨9=0)∧AL p267 7 13+AH p267 7 13≤length (oEs p267 5)∧AH p267 7 13+1≤1073741824) (k268 ([],upd (rh p267 0 BU) [(5,.row false (AI p267 7 13+1) 9 (take (AH p267 7 13) (drop (AL p267 7 13) (oEs p267 5))++[[tI (vI p267 3),tI (aI p267 4 0),tI (aI p267 4 1),tI (aI p267 4 2),tI (aI p267 4 3),tI (aI p267 4 4),.bool (aB p267 4 5),.str (aS p267 4 6),.sl 2 (aL p267 4 7)]])),(7,.box (upd (rb p267 7 0 BC) [(0,.t (tI (gI y286 0))),(1,.t (.sl 10 (gL y286 1))),(2,.t (tI (gI y286 2))),(3,.t (tI (gI y286 3))),(11,.t (tI (w64 (cI p267 7 11+1)))),(13,.sref 5 (AI p267 7 13+1) 0 (AH p267 7 13+1))]))])) none))))))) (cnd ((length (cL p267 7 8):Int)=0) none (cnd (1=1∧0≤tmod (cI p267 7 11) (length (cL p267 7 8):Int)) (Option.bind (cL p267 7 8)[toNat (tmod (cI p267 7 11) (length (cL p267 7 8):Int))]? fun y287=>cnd (okI y287 0) (bd [4,0] (AA C n 176 [tI (gI y287 0),tI (cI p267 7 0)]) fun y288=>join (Hc n ff p267 y288 k268) fun k290=>cnd (decide ((length (gL y288 0):Int)>0)=true) (Option.bind (gL y288 0)[0]? fun y291=>cnd (okI y291 0) (k290 ([.t (.bool (gI y291 0==cI p267 7 0))],rh p267 0 BU)) none) (k290 ([.t (.bool false)],rh p267 0 BU))) none) none)))))
theorem vC26_6 (n:Nat) (ff:Nat→Rec) (k268:KT) (p267:ST):Cy C (Es C (pcx C (AA C n)) n ff EF 8) (pcx C (AA C n)) n 144 [AV.ptr 7 0,AV.ptr 7 0,.t (tI 0),.t (tI (vI p267 3)),AV.agg (tv [tI (aI p267 4 0),tI (aI p267 4 1),tI (aI p267 4 2),tI (aI p267 4 3),tI (aI p267 4 4),.bool (aB p267 4 5),.str (aS p267 4 6),.sl 2 (aL p267 4 7)])] (rh p267 0 Bt) (fun rs h1=>cnd (Ay C.P (As C.P 144) rs=true) (DK (rh p267 0 Bt) h1 fun hs=>k268 (rs,hs)) none)=HV n ff k268 p267:=by kernel_rfl
theorem F5 (n:Nat) (k268:KT) (p267:ST):Yy n (fI C n) k268 p267=HV n (fI C n) k268 p267:=(E3 C n EF 8 _ 144 _ _ _).trans (vC26_6 n (fI C n) k268 p267)
noncomputable def Yi (n:Nat) (ff:Nat→Rec) (k262:KT) (p297:ST):RT:=cnd (AD p297 1=AI p297 7 35∧(9=9∨9=0)) (cnd ((0:Int)≤1∧1≤(AH p297 7 35:Int)) (k262 ([],upd (rh p297 0 BU) [(7,.box (upd (rb p297 7 0 BC) [(35,.sref 1 (AI p297 7 35) (AL p297 7 35+1) (AH p297 7 35-1))]))])) none) none
noncomputable def QG (n:Nat) (ff:Nat→Rec) (k262:KT) (p259:ST) (k260:KT) (p263:ST):RT:=cnd (vB p263 0=true) (cnd (AD p263 1=AI p263 7 35∧9=9∧(0:Int)≤0∧0<(AH p263 7 35:Int)) (cnd (AD p263 1=AI p263 7 35) (cnd (AD p263 1=AI p263 7 35) (Option.bind (oEs p263 1)[AL p263 7 35]? fun y266=>bk kG 1 y266 (join (Yi n ff k262) fun k298=>Yy n ff k298 ([AV.ptr 7 0,AV.ptr 7 0,.t (tI 0),.t (tI (cI p263 7 15)),AV.agg (tv (gt kG y266 1 []))],upd (rh p263 0 Bt) [(2,.row true (AD p259 2) 15 (oEs p259 2)),(3,.row true (AD p259 3) 4 (oEs p259 3)),(4,.row true (AD p259 4) 4 (oEs p259 4))]))) none) none) none) (k260 ([],rh p263 0 BU))
noncomputable def NU (n:Nat) (ff:Nat→Rec) (p259:ST) (k260:KT) (p261:ST) (k262:KT):RT:=join (QG n ff k262 p259 k260) fun k264=>cnd (AD p261 1=AI p261 7 35) (cnd (decide ((AH p261 7 35:Int)>0)=true) (cnd (AD p261 1=AI p261 7 35∧9=9∧(0:Int)≤0∧0<(AH p261 7 35:Int)) (cnd (AD p261 1=AI p261 7 35) (cnd (AD p261 1=AI p261 7 35) (Option.bind (oEs p261 1)[AL p261 7 35]? fun y265=>cnd (okI y265 0) (k264 ([.t (.bool (gI y265 0==cI p261 7 15))],rh p261 0 BU)) none) none) none) none) (k264 ([.t (.bool false)],rh p261 0 BU))) none
noncomputable def Yx (n:Nat) (ff:Nat→Rec) (k260:KT) (p259:ST):RT:=ff 10 (List Tree) (.fn 124 [AV.ptr 7 0]) (rh p259 0 Bt) fun rs h1=>cnd (Ay C.P (As C.P 124) rs=true) (DK (rh p259 0 Bt) h1 fun hs=>k260 (rs,hs)) none
noncomputable def YR (n:Nat) (ff:Nat→Rec) (k260:KT) (p259:ST):RT:=AK (NU n ff p259 k260) n ([],rh p259 0 BU)
theorem vC26_7 (n:Nat) (ff:Nat→Rec) (k260:KT) (p259:ST):Cy C (Es C (pcx C (AA C n)) n ff EF 9) (pcx C (AA C n)) n 124 [AV.ptr 7 0] (rh p259 0 Bt) (fun rs h1=>cnd (Ay C.P (As C.P 124) rs=true) (DK (rh p259 0 Bt) h1 fun hs=>k260 (rs,hs)) none)=YR n ff k260 p259:=by kernel_rfl
theorem tC26_7 (n:Nat) (k260:KT) (p259:ST):Yx n (fI C n) k260 p259=YR n (fI C n) k260 p259:=(E3 C n EF 9 _ 124 _ _ _).trans (vC26_7 n (fI C n) k260 p259)
noncomputable def Yh (n:Nat) (ff:Nat→Rec) (k85:KT) (p301:ST):RT:=k85 (tv [tI (vI p301 0),.bool (vB p301 1)],rh p301 0 BU)
noncomputable def I0 (n:Nat) (ff:Nat→Rec) (p17:ST) (k85:KT) (p86:ST) (k87:KT):RT:=cnd (decide (vI p86 0<4)=true) (cnd (0≤vI p86 0∧vI p86 0<4) (cnd (vI p86 0=(3:Int)) (join (Hh n ff k87 p86) fun k100=>Y2 n ff k100 ([AV.ptr 7 0],upd (rh p86 0 Bt) [(2,.row true (AD p17 2) 15 (oEs p17 2)),(3,.row true (AD p17 3) 4 (oEs p17 3)),(4,.row true (AD p17 4) 4 (oEs p17 4))])) (cnd (vI p86 0=(2:Int)) (join (Hh n ff k87 p86) fun k166=>Y1 n ff k166 ([AV.ptr 7 0],upd (rh p86 0 Bt) [(2,.row true (AD p17 2) 15 (oEs p17 2)),(3,.row true (AD p17 3) 4 (oEs p17 3)),(4,.row true (AD p17 4) 4 (oEs p17 4))])) (cnd (vI p86 0=(1:Int)) (join (Hh n ff k87 p86) fun k258=>Yz n ff k258 ([AV.ptr 7 0],upd (rh p86 0 Bt) [(2,.row true (AD p17 2) 15 (oEs p17 2)),(3,.row true (AD p17 3) 4 (oEs p17 3)),(4,.row true (AD p17 4) 4 (oEs p17 4))])) (cnd (vI p86 0=(0:Int)) (join (Hh n ff k87 p86) fun k300=>Yx n ff k300 ([AV.ptr 7 0],upd (rh p86 0 Bt) [(2,.row true (AD p17 2) 15 (oEs p17 2)),(3,.row true (AD p17 3) 4 (oEs p17 3)),(4,.row true (AD p17 4) 4 (oEs p17 4))])) none)))) none) (join (Yh n ff k85) fun k302=>VK n ff k302 ([AV.ptr 7 0],upd (rh p86 0 Bt) [(2,.row true (AD p17 2) 15 (oEs p17 2)),(3,.row true (AD p17 3) 4 (oEs p17 3)),(4,.row true (AD p17 4) 4 (oEs p17 4))]))
noncomputable def NT (n:Nat) (ff:Nat→Rec) (p17:ST) (k18:KT) (p84:ST) (k85:KT):RT:=cnd (vB p84 1=true) (AK (I0 n ff p17 k85) n ([.t (tI 0)],upd (rh p84 0 BU) [(7,.box (upd (rb p84 7 0 BC) [(15,.t (tI (vI p84 0)))]))])) (k18 ([],rh p84 0 BU))
noncomputable def Yg (n:Nat) (ff:Nat→Rec) (p17:ST) (k18:KT) (p82:ST):RT:=AK (NT n ff p17 k18) n (tv [tI (vI p82 0),.bool (vB p82 1)],rh p82 0 BU)
noncomputable def VJ (n:Nat) (ff:Nat→Rec) (k18:KT) (p17:ST):RT:=ff 11 (List Tree) (.fn 71 [AV.ptr 7 0]) (rh p17 0 Bt) fun rs h1=>cnd (Ay C.P (As C.P 71) rs=true) (DK (rh p17 0 Bt) h1 fun hs=>k18 (rs,hs)) none
noncomputable def YQ (n:Nat) (ff:Nat→Rec) (k18:KT) (p17:ST):RT:=join (Yg n ff p17 k18) fun k83=>VK n ff k83 ([AV.ptr 7 0],rh p17 0 Bt)
theorem vC26_8 (n:Nat) (ff:Nat→Rec) (k18:KT) (p17:ST):Cy C (Es C (pcx C (AA C n)) n ff EF 10) (pcx C (AA C n)) n 71 [AV.ptr 7 0] (rh p17 0 Bt) (fun rs h1=>cnd (Ay C.P (As C.P 71) rs=true) (DK (rh p17 0 Bt) h1 fun hs=>k18 (rs,hs)) none)=YQ n ff k18 p17:=by kernel_rfl
theorem tC26_8 (n:Nat) (k18:KT) (p17:ST):VJ n (fI C n) k18 p17=YQ n (fI C n) k18 p17:=(E3 C n EF 10 _ 71 _ _ _).trans (vC26_8 n (fI C n) k18 p17)
noncomputable def TY (n:Nat) (ff:Nat→Rec) (p303:ST):RT:=some (ct [1,0,1,0] p303 7 36 [tI (cI p303 7 26),tI (cI p303 7 11),tI (w64 (cI p303 7 3+cI p303 7 7)),tI 0])
theorem v26 (n:Nat) (ff:Nat→Rec) (a0 a1 a2 a3 a4 a5 a6 a7 a8:Int) (a9:ByteArray) (a10:TT) (a11:Int) (a12:TT):JQ C (Es C (pcx C (AA C n)) n ff EF C.depth) (pcx C (AA C n)) n 26 [tI a0,tI a1,tI a2,tI a3,tI a4,tI a5,tI a6,tI a7,tI a8,.str a9,.sl 1 a10,tI a11,.sl 2 a12]=cnd (decide ((length a10:Int)>1000)=true) (some (zt [1,0,1,0,0,0,0] [tI 4])) (cnd (decide (a11<(-1))=true) (some (zt [1,0,1,0,0,0,0] [tI 2])) (bd [0] (AA C n 67 [.sl 2 a12]) fun y13=>cnd (((gI y13 0) != 0)=true) (some (zt [1,0,1,0,0,0,0] [tI 1])) (bd [0,0,0,0,0,0,0,0,2,0,0,0,5,0,0,12,0] (AA C n 2004367 [tI a0,tI a1,tI a2,tI a3,tI a4,tI a5,tI a6,tI 0,.str a9,tI a7,tI a8]) fun y14=>cnd (((gI y14 16) != 0)=true) (cnd (((gI y14 16) != 0)=true) (some (zt [1,0,1,0,0,0,0] [tI (gI y14 16)])) none) (bd [0,13,0,0,0] (AA C n 69 [tI a5]) fun y15=>bd [0,0,5,2,0] (AA C n 70 [tI 0]) fun y16=>join (TY n ff) fun k304=>VJ n ff k304 ([AV.ptr 7 0],[.box (tv (zt [1,0,1,0,0,0,0] [])),.row false 0 9 (gL y14 15),.row true 0 15 [[tI (gI y14 0),tI (gI y14 1),tI (gI y14 2),tI (gI y14 3),tI (gI y14 4),tI (gI y14 5),tI (gI y14 6),tI (gI y14 7),.str (gS y14 8),tI (gI y14 9),tI (gI y14 10),tI (gI y14 11),.sl 2 (gL y14 12),tI (gI y14 13),tI (gI y14 14)]],.row true 0 4 [[tI (gI y15 0),.sl 10 (gL y15 1),tI (gI y15 2),tI (gI y15 3)]],.row true 0 4 [[tI (gI y16 0),tI (gI y16 1),.sl 2 (gL y16 2),.str (gS y16 3)]],.row false 0 9 [],.row false 0 9 [],.box [.t (tI (gI y15 0)),.t (.sl 10 (gL y15 1)),.t (tI (gI y15 2)),.t (tI (gI y15 3)),.t (tI (gI y15 0)),.t (.sl 10 (gL y15 1)),.t (tI (gI y15 2)),.t (tI (gI y15 3)),.t (.sl 1 a10),.t (tI a11),.t (.sl 2 a12),.t (tI 0),.t (tI 0),.sref 5 0 0 0,.sref 6 0 0 0,.t (tI 0),.t (tI (gI y14 0)),.t (tI (gI y14 1)),.t (tI (gI y14 2)),.t (tI (gI y14 3)),.t (tI (gI y14 4)),.t (tI (gI y14 5)),.t (tI (gI y14 6)),.t (tI (gI y14 7)),.t (.str (gS y14 8)),.t (tI (gI y14 9)),.t (tI (gI y14 10)),.t (tI (gI y14 11)),.t (.sl 2 (gL y14 12)),.t (tI (gI y14 13)),.t (tI (gI y14 14)),.t (tI (gI y16 0)),.t (tI (gI y16 1)),.t (.sl 2 (gL y16 2)),.t (.str (gS y16 3)),.sref 1 0 0 (length (gL y14 15)),.t (.bool false),.t (tI 0),.t (.bool false),.t (tI 0)]]))))):=by kernel_rfl
theorem u26 (a0:Int) (a1:Int) (a2:Int) (a3:Int) (a4:Int) (a5:Int) (a6:Int) (a7:Int) (a8:Int) (a9:ByteArray) (a10:List (List Tree)) (a11:Int) (a12:List (List Tree)):C.ext 26 [tI a0,tI a1,tI a2,tI a3,tI a4,tI a5,tI a6,tI a7,tI a8,.str a9,.sl 1 a10,tI a11,.sl 2 a12]=none:=by kernel_rfl
theorem e26 (n:Nat) (a0 a1 a2 a3 a4 a5 a6 a7 a8:Int) (a9:ByteArray) (a10:TT) (a11:Int) (a12:TT):AA C (n+1) 26 [tI a0,tI a1,tI a2,tI a3,tI a4,tI a5,tI a6,tI a7,tI a8,.str a9,.sl 1 a10,tI a11,.sl 2 a12]=cnd (decide ((length a10:Int)>1000)=true) (some (zt [1,0,1,0,0,0,0] [tI 4])) (cnd (decide (a11<(-1))=true) (some (zt [1,0,1,0,0,0,0] [tI 2])) (bd [0] (AA C n 67 [.sl 2 a12]) fun y13=>cnd (((gI y13 0) != 0)=true) (some (zt [1,0,1,0,0,0,0] [tI 1])) (bd [0,0,0,0,0,0,0,0,2,0,0,0,5,0,0,12,0] (AA C n 2004367 [tI a0,tI a1,tI a2,tI a3,tI a4,tI a5,tI a6,tI 0,.str a9,tI a7,tI a8]) fun y14=>cnd (((gI y14 16) != 0)=true) (cnd (((gI y14 16) != 0)=true) (some (zt [1,0,1,0,0,0,0] [tI (gI y14 16)])) none) (bd [0,13,0,0,0] (AA C n 69 [tI a5]) fun y15=>bd [0,0,5,2,0] (AA C n 70 [tI 0]) fun y16=>join (fun (p303:ST)=>TY n (fI C n) p303) fun k304=>VJ n (fI C n) k304 ([AV.ptr 7 0],[.box (tv (zt [1,0,1,0,0,0,0] [])),.row false 0 9 (gL y14 15),.row true 0 15 [[tI (gI y14 0),tI (gI y14 1),tI (gI y14 2),tI (gI y14 3),tI (gI y14 4),tI (gI y14 5),tI (gI y14 6),tI (gI y14 7),.str (gS y14 8),tI (gI y14 9),tI (gI y14 10),tI (gI y14 11),.sl 2 (gL y14 12),tI (gI y14 13),tI (gI y14 14)]],.row true 0 4 [[tI (gI y15 0),.sl 10 (gL y15 1),tI (gI y15 2),tI (gI y15 3)]],.row true 0 4 [[tI (gI y16 0),tI (gI y16 1),.sl 2 (gL y16 2),.str (gS y16 3)]],.row false 0 9 [],.row false 0 9 [],.box [.t (tI (gI y15 0)),.t (.sl 10 (gL y15 1)),.t (tI (gI y15 2)),.t (tI (gI y15 3)),.t (tI (gI y15 0)),.t (.sl 10 (gL y15 1)),.t (tI (gI y15 2)),.t (tI (gI y15 3)),.t (.sl 1 a10),.t (tI a11),.t (.sl 2 a12),.t (tI 0),.t (tI 0),.sref 5 0 0 0,.sref 6 0 0 0,.t (tI 0),.t (tI (gI y14 0)),.t (tI (gI y14 1)),.t (tI (gI y14 2)),.t (tI (gI y14 3)),.t (tI (gI y14 4)),.t (tI (gI y14 5)),.t (tI (gI y14 6)),.t (tI (gI y14 7)),.t (.str (gS y14 8)),.t (tI (gI y14 9)),.t (tI (gI y14 10)),.t (tI (gI y14 11)),.t (.sl 2 (gL y14 12)),.t (tI (gI y14 13)),.t (tI (gI y14 14)),.t (tI (gI y16 0)),.t (tI (gI y16 1)),.t (.sl 2 (gL y16 2)),.t (.str (gS y16 3)),.sref 1 0 0 (length (gL y14 15)),.t (.bool false),.t (tI 0),.t (.bool false),.t (tI 0)]]))))):=(NB C n 26 _ (by decide) (u26 a0 a1 a2 a3 a4 a5 a6 a7 a8 a9 a10 a11 a12)).trans ((pureO C n EF 26 _).symm.trans (v26 n (fI C n) a0 a1 a2 a3 a4 a5 a6 a7 a8 a9 a10 a11 a12))
end Ab
