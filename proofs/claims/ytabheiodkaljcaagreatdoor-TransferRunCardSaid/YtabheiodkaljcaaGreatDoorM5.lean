/- A part of the proof: see the last text. -/
import Derived.Test.YtabheiodkaljcaaGreatDoorM4
open Bool (false_eq_true true_eq_false)
open Int (emod_lt_of_pos emod_nonneg lt_irrefl natCast_zero tmod toNat)
open List (append_assoc append_nil cons_append countP_cons drop drop_left drop_nil drop_succ_cons drop_zero foldl_cons getD_eq_getElem?_getD getElem?_append_right getElem?_cons_zero getElem?_eq_getElem getElem?_map getLast?_concat head?_cons head?_nil length length_append length_cons length_eq_zero_iff length_map length_nil length_pos_iff length_tail map_append map_cons map_nil mem_append mem_cons mem_of_getElem? mem_singleton nil_append pairwise_cons set_cons_zero tail_cons take take_of_length_le)
open Nat (add_mul add_sub_cancel add_zero le_refl reduceAdd reduceEqDiff zero_add)
open Option (getD_none isSome_none isSome_some map_none map_some)
set_option linter.unusedVariables false
set_option linter.unusedSimpArgs false
namespace Ab
open Go
structure TA (p:Par) (s q:Snd):Prop where
 fo:FOk q
 c:q.c=p.c
 ses:q.ses=0
 data:q.data=p.d
 fin:q.fin=p.e
 ser:q.ser=s.ser
 busy:q.busy=s.busy
theorem Lt.ack {p:Par} {s:Snd} {x:Seg} (hp:POk p) (h:Lt p s) (hx:Kv p.d x):TA p s (A7 s x)∧(∀t,Ac t (A7 s x).acked↔Ac t s.acked∨Ac t x.AZ):=by obtain ⟨h1,h2⟩:=h.fo hp;have hd:=hp.sz;have hf:=hx.few hd.2;have hk:=Q2 h1 (by omega) ⟨hx.g,by omega⟩ hx.kind (by rw [hx.tot,h.data]);have hw:=h1.win;rw [h.data] at hw;obtain ⟨u1,u2,u3⟩:=XN h1.ack hx.cl.1 hw hx.cl.2 (by omega) (by omega);exact ⟨⟨hk,h.c,h.ses,h.data,h.fin,rfl,rfl⟩,u3⟩
theorem TA.bat {p:Par} {s q:Snd} (hp:POk p) (h:Lt p s) (hq:TA p s q) (hc:complete q=false):K9 p.d (s.ser+1) (Ae q):=by have hn:=h.num hp;have hb:=hq.fo.bat hc (by rw [hq.ser];omega);unfold Ae;rw [hq.ses,hq.data,hq.ser] at *;exact batP hb
theorem TA.send {p:Par} {s q:Snd} {l:List Seg} {t:Int} (hp:POk p) (h:Lt p s) (hq:TA p s q) (hc:complete q=false) (hl:K9 p.d (s.ser+1) l) :
  (p.e<A4 p.c.rate t l∧BX q t l=(CJ q,[]))∨(A4 p.c.rate t l≤p.e∧BX q t l=(BU q (A4 p.c.rate t l) (s.ser+1),Bq p.c.rate t l)):=by
 have hn:=h.num hp;obtain ⟨pre,x,e,h1,h2,h3⟩:=hl.ex;have hlast:l.getLast? = some x:=by rw [e];exact getLast?_concat ..
 unfold BX;rw [hlast];simp only;rw [hq.fin,hq.c,h2];by_cases hb:p.e<A4 p.c.rate t l
 ·exact .inl ⟨hb,by rw [if_pos (.inl hb)]⟩
 ·exact .inr ⟨by omega,by rw [if_neg (by omega)]⟩
inductive LsR (p:Par) (s:Ses) (x:Seg):Ses→Prop
 |busy:s.now<s.snd.busy→LsR p s x s
 |same:¬s.now<s.snd.busy→s.snd.st≠1∨x.ser≠s.snd.ser→LsR p s x s
 |done:¬s.now<s.snd.busy→s.snd.st=1→x.ser=s.snd.ser→complete (A7 s.snd x)=true→LsR p s x {s with snd:={A7 s.snd x with due:=0,st:=2},kno:=true,knoAt:=s.now}
 |fail:¬s.now<s.snd.busy→s.snd.st=1→x.ser=s.snd.ser→complete (A7 s.snd x)=false→p.e<A4 p.c.rate s.now (Ae (A7 s.snd x))→LsR p s x {s with snd:=CJ (A7 s.snd x)}
 |send:¬s.now<s.snd.busy→s.snd.st=1→x.ser=s.snd.ser→complete (A7 s.snd x)=false→A4 p.c.rate s.now (Ae (A7 s.snd x))≤p.e→
   LsR p s x {s with snd:=BU (A7 s.snd x) (A4 p.c.rate s.now (Ae (A7 s.snd x))) (s.snd.ser+1),pend:=Bq p.c.rate s.now (Ae (A7 s.snd x))}
theorem Lt.Ay {p:Par} {s:Snd} {x:Seg} {t:Int} (hp:POk p) (h:Lt p s) (hx:Kv p.d x) (ht:s.busy≤t∧t≤2199023255552) :
  ((s.st≠1∨x.ser≠s.ser)→Ay s t x=(s,[],0))∧(s.st=1→x.ser=s.ser→complete (A7 s x)=true→Ay s t x=({A7 s x with due:=0,st:=2},[],0))∧
  (s.st=1→x.ser=s.ser→complete (A7 s x)=false→Ay s t x=((BX (A7 s x) t (Ae (A7 s x))).1,(BX (A7 s x) t (Ae (A7 s x))).2,0)):=by
 have hk:=hx.kind;have hses:x.ses=s.ses:=by rw [hx.ses,h.ses]
 have htot:x.tot=s.data.size:=by rw [hx.tot,h.data]
 have hg:=hx.g;have hok:=h.ok;refine ⟨fun hq => ?_,fun h1 h2 h3 => ?_,fun h1 h2 h3 => ?_⟩
 ·unfold Ab.Ay;rw [if_neg (by omega),if_neg (by omega)];rcases hq with hq|hq
  ·rw [if_pos (.inl hq)]
  ·by_cases hst:s.st=1
   ·rw [if_neg (by omega),if_neg (by omega)];unfold Ee;rw [if_pos (.inl hq)]
   ·rw [if_pos (.inl hst)]
 ·unfold Ab.Ay;rw [if_neg (by omega),if_neg (by omega),if_neg (by omega),if_neg (by omega)];unfold Ee;rw [if_neg (by omega),if_pos h3]
 ·unfold Ab.Ay;rw [if_neg (by omega),if_neg (by omega),if_neg (by omega),if_neg (by omega)];unfold Ee;rw [if_neg (by omega),if_neg (by rw [h3];simp)]
theorem KK {p:Par} {s:Ses} (h:Inv p s) (hg:PGt s) (hb:¬s.now<s.snd.busy):s.pend=[]:=by
 cases hp:s.pend with
 |nil=>rfl
 |cons o l=>
  have h1:=h.pd o (by rw [hp];simp);have h2:=hg o (by rw [hp];simp);omega
theorem Inv.lsR {p:Par} {s:Ses} (hp:POk p) (h:Inv p s) (hg:PGt s) {f:Frame} {l:List Frame} (hf:s.rep.frames=f::l) (ha:f.arr=s.now) :
  LsR p (B8 s) f.seg (lsX (B8 s) f.seg)∧(¬s.now<s.snd.busy→(Ay s.snd s.now f.seg).2.2=0∧(Ay s.snd s.now f.seg).2.1.length≤1000000):=by
 have hr:=hp.rng;obtain ⟨f1,f2,f3,f4,f5⟩:=h.fr f (by rw [hf];simp);by_cases hb:s.now<s.snd.busy
 ·refine ⟨?_,fun q=>(q hb).elim⟩;have e:lsX (B8 s) f.seg=B8 s:=if_pos hb;rw [e];exact .busy hb
 ·have hpn:=KK h hg hb;obtain ⟨k1,k2,k3⟩:=h.sn.Ay hp f1 (t:=s.now) (by omega);have e:lsX (B8 s) f.seg=lsF {B8 s with snd:=(Ay s.snd s.now f.seg).1,pend:=s.pend++(Ay s.snd s.now f.seg).2.1}:=if_neg hb;rw [e,hpn];by_cases hq:s.snd.st≠1∨f.seg.ser≠s.snd.ser
  ·rw [k1 hq];refine ⟨?_,fun _=>⟨rfl,by simp⟩⟩;have e2:lsF {B8 s with snd:=s.snd,pend:=[]++[]}=B8 s:=by
    unfold lsF;rw [if_neg]
    ·simp only [B8,hpn,append_nil]
    ·rintro ⟨q1,q2⟩
     have:=h.kn.2 q2;rw [show (B8 s).kno=s.kno from rfl] at q1;rw [q1] at this;cases this
   simp only;rw [e2];exact .same hb hq
  ·have hst:s.snd.st=1:=by omega
   have hser:f.seg.ser=s.snd.ser:=by omega
   have hk:s.kno=false:=by
    cases hkk:s.kno with
    |false=>rfl
    |true=>have:=h.kn.1 hkk;omega
   cases hc:complete (A7 s.snd f.seg) with
   |true=>
    rw [k2 hst hser hc];refine ⟨?_,fun _=>⟨rfl,by simp⟩⟩;have e2:lsF {B8 s with snd:={A7 s.snd f.seg with due:=0,st:=2},pend:=[]++[]}={B8 s with snd:={A7 s.snd f.seg with due:=0,st:=2},kno:=true,knoAt:=s.now}:=by unfold lsF;rw [if_pos ⟨hk,rfl⟩];simp only [B8,hpn,append_nil]
    simp only;rw [e2];exact .done hb hst hser hc
   |false=>
    rw [k3 hst hser hc];obtain ⟨hQ,_⟩:=h.sn.ack hp f1;have hB:=hQ.bat hp h.sn hc;have hlen:=hB.len;have hsz:=hp.sz;rcases hQ.send (t:=s.now) hp h.sn hc hB with ⟨g1,g2⟩|⟨g1,g2⟩
    ·rw [g2];refine ⟨?_,fun _=>⟨rfl,by simp⟩⟩;have e2:lsF {B8 s with snd:=CJ (A7 s.snd f.seg),pend:=[]++[]}={B8 s with snd:=CJ (A7 s.snd f.seg)}:=by unfold lsF;rw [if_neg (by simp [CJ])];simp only [B8,hpn,append_nil]
     simp only;rw [e2];exact .fail hb hst hser hc g1
    ·rw [g2];refine ⟨?_,fun _=>⟨rfl,by simp only [Di];omega⟩⟩;have e2:lsF {B8 s with snd:=BU (A7 s.snd f.seg) (A4 p.c.rate s.now (Ae (A7 s.snd f.seg))) (s.snd.ser+1),pend:=[]++Bq p.c.rate s.now (Ae (A7 s.snd f.seg))}={B8 s with snd:=BU (A7 s.snd f.seg) (A4 p.c.rate s.now (Ae (A7 s.snd f.seg))) (s.snd.ser+1),pend:=Bq p.c.rate s.now (Ae (A7 s.snd f.seg))}:=by unfold lsF;rw [if_neg (by simp [BU]),nil_append]
     simp only;rw [e2];exact .send hb hst hser hc g1
end Ab
set_option linter.unusedVariables false
set_option linter.unusedSimpArgs false
namespace Ab
open Go
theorem K9.outs {d:ByteArray} {ser r t:Int} {l:List Seg} (h:K9 d ser l) (hr:1≤r∧r≤1000) (hs:0≤ser) :
  (Bq r t l).Pairwise (fun a b=>a.at_<b.at_)∧(∀o∈Bq r t l,OO d o.seg∧t<o.at_∧o.at_≤A4 r t l∧o.seg.ser≤ser∧(o.seg.chk=true→o.at_=A4 r t l∧o.seg.ser=ser))∧t+(l.length:Int)≤A4 r t l∧(Bq r t l).countP (fun o=>o.seg.chk)=1∧1≤l.length:=by
 obtain ⟨h1,h2,h3⟩:=PI (r:=r) l t (fun x hx=>((h.pc x hx).Cv hr).2);obtain ⟨pre,x,e,e1,e2,e3⟩:=h.ex;have hc:∀o∈Bq r t pre,o.seg.chk=false:=fun o ho=>by have:o.seg∈(Bq r t pre).map Out.seg:=List.mem_map_of_mem ho;rw [PJ] at this;exact e3 _ this
 refine ⟨h1,fun o ho => ?_,h3,?_,by rw [e];simp⟩
 ·obtain ⟨k1,k2,k3⟩:=h2 o ho;have hsp:=h.pc _ k3;rw [e,Eg] at ho;rcases mem_append.1 ho with ho|ho
  ·have:=hc o ho;refine ⟨hsp,k1,k2,?_,fun q=>by rw [this] at q;cases q⟩;rw [hsp.sr this];exact hs
  ·rw [mem_singleton] at ho;subst ho;refine ⟨hsp,k1,k2,by simp only;omega,fun _=>⟨by rw [e],e2⟩⟩
 ·rw [e,Eg,List.countP_append,List.countP_eq_zero.2 (fun o ho=>by rw [hc o ho];simp)];simp [e1]
theorem Inv.B8 {p:Par} {s:Ses} (h:Inv p s):Inv p (B8 s):=
 {h with
  gr:=Ej h.gr
  fr:=fun f hf=>h.fr f (List.mem_of_mem_tail hf)
  l2:=by have:=h.l2;simp only [Ab.B8,length_tail];omega}
theorem Inv.send {p:Par} {s:Ses} (hp:POk p) (h:Inv p s) {q:Snd} {l:List Seg} (hpn:s.pend=[]) (hq:TA p s.snd q) (hc:complete q=false) (hl:K9 p.d (s.snd.ser+1) l) (hst:s.snd.st=1) (hnow:s.snd.busy+2*p.c.rng≤s.now) (he:A4 p.c.rate s.now l≤p.e) :
  Inv p {s with snd:=BU q (A4 p.c.rate s.now l) (s.snd.ser+1),pend:=Bq p.c.rate s.now l}:=by
 have hr:=hp.rng;have hn:=h.sn.num hp;obtain ⟨o1,o2,o3,o4,o5⟩:=hl.outs (t:=s.now) ⟨hr.2.2.1,hr.2.2.2.1⟩ (by omega);have hsz:=hp.sz;have hlen:=hl.len;have c4:=h.c4;have c5:=h.c5;have c6:=h.c6;rw [hpn] at c4 c5 c6;simp only [length_nil,List.countP_nil,natCast_zero,Int.add_zero,Int.mul_zero] at c4 c5 c6;have ht:=h.sn.t;have hcs:=hp.t;have hm1:(s.snd.ser+1-1)*(2*p.c.rng+1)=(s.snd.ser-1)*(2*p.c.rng+1)+(2*p.c.rng+1):=by rw [show s.snd.ser+1-1=(s.snd.ser-1)+1 by omega,Int.add_mul,Int.one_mul]
 have hm2:((p.d.size:Int)+1)*(s.snd.ser+1)=((p.d.size:Int)+1)*s.snd.ser+((p.d.size:Int)+1):=by rw [Int.mul_add,Int.mul_one]
 have hk:s.kno=false:=by
  cases hkk:s.kno with
  |false=>rfl
  |true=>have:=h.kn.1 hkk;omega
 have hqf:=hq.fo.f;have hok:Fj (BU q (A4 p.c.rate s.now l) (s.snd.ser+1))=0:=U1 hqf hc (by rw [hq.c,hq.fin];omega) (by omega);refine ⟨h.rd,h.rr,h.ps,h.lim,h.dk,h.gd,h.gr,h.now,⟨hq.c,hq.ses,hq.data,hq.fin,hok,?_⟩,h.rc,fun f hf => ?_,fun f hf => ?_,fun o ho => ?_,o1,fun _ => ?_,h.c1,h.c2,h.c3,?_,?_,?_,h.l1,h.l2,h.ds,?_,h.rv⟩
 ·simp only [BU];omega
 ·obtain ⟨f1,f2,f3,f4,f5⟩:=h.fd f hf;exact ⟨f1,by simp only [BU];omega,f3,f4,fun _ hs=>by simp only [BU] at hs;omega⟩
 ·obtain ⟨f1,f2,f3,f4,f5⟩:=h.fr f hf;exact ⟨f1,by simp only [BU];omega,f3,f4,fun hs=>by simp only [BU] at hs;omega⟩
 ·obtain ⟨k1,k2,k3,k4,k5⟩:=o2 o ho;exact ⟨k1,by simp only;omega,by simp only [BU];omega,by simp only [BU];omega,fun hcc=>(k5 hcc).1⟩
 ·simp only [BU,hq.c];omega
 ·simp only [BU,Di];omega
 ·simp only [BU,Di];omega
 ·simp only [BU,o4];omega
 ·simp only [BU,hk];simp
theorem Inv.turn {p:Par} {s:Ses} (h:Inv p s) {q:Snd} (hq:TA p s.snd q) (st due:Int) (hst:st≠1) (hok:Fj {q with due:=due,st:=st}=0) (kno:Bool) (t:Int) (hk:kno=true↔st=2) :
  Inv p {s with snd:={q with due:=due,st:=st},kno:=kno,knoAt:=t}:=by
 refine ⟨h.rd,h.rr,h.ps,h.lim,h.dk,h.gd,h.gr,h.now,⟨hq.c,hq.ses,hq.data,hq.fin,hok,?_⟩,h.rc,fun f hf => ?_,fun f hf => ?_,fun o ho => ?_,h.po,fun q=>(hst q).elim,h.c1,h.c2,h.c3,?_,?_,?_,h.l1,h.l2,h.ds,hk,h.rv⟩
 ·simp only [hq.ser,hq.busy];exact h.sn.t
 ·simp only [hq.ser,hq.busy];exact h.fd f hf
 ·simp only [hq.ser,hq.busy];exact h.fr f hf
 ·simp only [hq.ser,hq.busy];exact h.pd o ho
 ·simp only [hq.busy];exact h.c4
 ·simp only [hq.ser];exact h.c5
 ·simp only [hq.ser];exact h.c6
theorem Inv.ls {p:Par} {s s':Ses} (hp:POk p) (h:Inv p s) (hg:PGt s) {f:Frame} {l:List Frame} (hf:s.rep.frames=f::l) (ha:f.arr=s.now) (hs:LsR p (Ab.B8 s) f.seg s'):Inv p s':=by
 have hI:=h.B8;obtain ⟨f1,f2,f3,f4,f5⟩:=h.fr f (by rw [hf];simp);obtain ⟨hQ,_⟩:=h.sn.ack hp f1;have hkf:s.snd.st=1→s.kno=false:=fun q=>by
  cases hkk:s.kno with
  |false=>rfl
  |true=>have:=h.kn.1 hkk;omega
 cases hs with
 |busy _=>exact hI
 |same _ _=>exact hI
 |done h1 h2 h3 h4=>exact hI.turn hQ 2 0 (by decide) (done_ok hQ.fo.f h4) true s.now (by simp)
 |fail h1 h2 h3 h4 h5=>
  have:=hI.turn hQ 3 0 (by decide) (Vu hQ.fo.f) s.kno s.knoAt (by rw [hkf h2];simp);exact this
 |send h1 h2 h3 h4 h5=>
  have hb:=f5 h3;have hpn0:=KK (s:=s) h hg h1;have hpn:(Ab.B8 s).pend=[]:=hpn0;exact hI.send hp hpn hQ h4 (hQ.bat hp h.sn h4) h2 (by show s.snd.busy+2*p.c.rng≤s.now;omega) h5
inductive ExR (p:Par) (s:Ses):Ses→Prop
 |same:¬(s.snd.st=1∧s.snd.due=s.now)→ExR p s s
 |fail:s.snd.st=1→s.snd.due=s.now→p.e<A4 p.c.rate s.now (Bo (Ae s.snd))→ExR p s {s with snd:=CJ s.snd}
 |send:s.snd.st=1→s.snd.due=s.now→complete s.snd=false→A4 p.c.rate s.now (Bo (Ae s.snd))≤p.e→
   ExR p s {s with snd:=BU s.snd (A4 p.c.rate s.now (Bo (Ae s.snd))) (s.snd.ser+1),pend:=Bq p.c.rate s.now (Bo (Ae s.snd))}
theorem Lt.q {p:Par} {s:Snd} (hp:POk p) (h:Lt p s):TA p s s:=⟨(h.fo hp).1,h.c,h.ses,h.data,h.fin,rfl,rfl⟩
theorem Inv.due {p:Par} {s:Ses} (h:Inv p s) (h1:s.snd.st=1):complete s.snd=false∧s.snd.due=s.snd.busy+2*p.c.rng+1:=by have:=Lf h.sn.ok h1;rw [h.sn.c] at this;exact this
theorem Inv.exR {p:Par} {s:Ses} (hp:POk p) (h:Inv p s) (hg:PGt s):ExR p s (exS s)∧(s.snd.st=1→s.snd.due=s.now→(By s.snd s.now).2.2=0∧(By s.snd s.now).2.1.length≤1000000):=by
 by_cases hq:s.snd.st=1∧s.snd.due=s.now
 ·obtain ⟨h1,h2⟩:=hq;obtain ⟨d1,d2⟩:=h.due h1;have hr:=hp.rng;have hn:=h.sn.num hp;have hsz:=hp.sz;have hpn:=KK h hg (by omega);have hQ:=h.sn.q hp;have hB:=(hQ.bat hp h.sn d1).last;have hw:By s.snd s.now=((BX s.snd s.now (Bo (Ae s.snd))).1,(BX s.snd s.now (Bo (Ae s.snd))).2,0):=by unfold By;rw [if_neg (by have:=h.sn.ok;omega),if_neg (by omega),if_neg (by omega)]
  have e:exS s={s with snd:=(By s.snd s.now).1,pend:=s.pend++(By s.snd s.now).2.1}:=if_pos ⟨h1,h2⟩;have hlen:=hB.len;rw [e,hw,hpn];rcases hQ.send (t:=s.now) hp h.sn d1 hB with ⟨g1,g2⟩|⟨g1,g2⟩
  ·rw [g2];refine ⟨?_,fun _ _=>⟨rfl,by simp⟩⟩;have e2:{s with snd:=CJ s.snd,pend:=[]++[]}={s with snd:=CJ s.snd}:=by simp only [hpn,append_nil]
   simp only;rw [e2];exact .fail h1 h2 g1
  ·rw [g2];refine ⟨?_,fun _ _=>⟨rfl,by simp only [Di];omega⟩⟩;simp only [nil_append];exact .send h1 h2 d1 g1
 ·have e:exS s=s:=if_neg hq;rw [e];exact ⟨.same hq,fun a b=>(hq ⟨a,b⟩).elim⟩
theorem Inv.ex {p:Par} {s s':Ses} (hp:POk p) (h:Inv p s) (hg:PGt s) (hs:ExR p s s'):Inv p s':=by
 have hQ:=h.sn.q hp;have hkf:s.snd.st=1→s.kno=false:=fun q=>by
  cases hkk:s.kno with
  |false=>rfl
  |true=>have:=h.kn.1 hkk;omega
 cases hs with
 |same _=>exact h
 |fail h1 h2 h3=>
  have:=h.turn hQ 3 0 (by decide) (Vu hQ.fo.f) s.kno s.knoAt (by rw [hkf h1];simp);exact this
 |send h1 h2 h3 h4=>
  obtain ⟨d1,d2⟩:=h.due h1;have hr:=hp.rng;exact h.send hp (KK h hg (by omega)) hQ h3 (hQ.bat hp h.sn h3).last h1 (by omega) h4
end Ab
set_option linter.unusedVariables false
set_option linter.unusedSimpArgs false
namespace Ab
open Go
inductive Mic (p:Par):Ses→Ses→Prop
 |time (s:Ses) (t:Int):Inv p s→PGt s→DGt s→RGt s→UGt s→nxS s=some t→Mic p s {s with now:=t}
 |tx (s:Ses) (o:Out) (l:List Out):Inv p s→s.pend=o::l→o.at_=s.now→Mic p s {EX s o.seg with pend:=l}
 |rx (s:Ses) (f:Frame) (l:List Frame):Inv p s→PGt s→s.dat.frames=f::l→f.arr=s.now→Mic p s (rxX (BF s) f.seg)
 |ls (s s':Ses) (f:Frame) (l:List Frame):Inv p s→PGt s→DGt s→s.rep.frames=f::l→f.arr=s.now→LsR p (B8 s) f.seg s'→Mic p s s'
 |ex (s s':Ses):Inv p s→PGt s→DGt s→RGt s→ExR p s s'→Mic p s s'
inductive Reach (p:Par) (s:Ses):Ses→Prop
 |refl:Reach p s s
 |step {t u:Ses}:Reach p s t→Mic p t u→Reach p s u
theorem Reach.trans {p:Par} {a b c:Ses} (h:Reach p a b) (k:Reach p b c):Reach p a c:=by
 induction k with
 |refl=>exact h
 |step _ m ih=>exact ih.step m
theorem Reach.one {p:Par} {a b:Ses} (m:Mic p a b):Reach p a b:=Reach.refl.step m
theorem KV {a b:Option Int} {t:Int} (h:C5 a b=some t):(∀x,a=some x→t≤x)∧(∀x,b=some x→t≤x)∧(a=some t∨b=some t):=by
 cases a with
 |none=>
  simp only [C5] at h;subst h;exact ⟨fun x hx=>(by cases hx),fun x hx=>(by cases hx;omega),.inr rfl⟩
 |some a=>
  cases b with
  |none=>
   simp only [C5] at h;cases h;exact ⟨fun x hx=>(by cases hx;omega),fun x hx=>(by cases hx),.inl rfl⟩
  |some b=>
   simp only [C5,Option.some.injEq] at h;split at h
   ·subst h;exact ⟨fun x hx=>(by cases hx;omega),fun x hx=>(by cases hx;omega),.inr rfl⟩
   ·subst h;exact ⟨fun x hx=>(by cases hx;omega),fun x hx=>(by cases hx;omega),.inl rfl⟩
theorem LW {a b:Option Int} (h:C5 a b=none):a=none∧b=none:=by
 cases a with
 |none=>cases b with
  |none=>exact ⟨rfl,rfl⟩
  |some b=>simp [C5] at h
 |some a=>cases b<;>simp [C5] at h
theorem YZ {p:Par} {s:Ses} {t:Int} (h:Inv p s) (ht:nxS s=some t) :
  (∀o∈s.pend,t≤o.at_)∧(∀f∈s.dat.frames,t≤f.arr)∧(∀f∈s.rep.frames,t≤f.arr)∧(s.snd.st=1→t≤s.snd.due)∧
  ((∃o∈s.pend,o.at_=t)∨(∃f∈s.dat.frames,f.arr=t)∨(∃f∈s.rep.frames,f.arr=t)∨(s.snd.st=1∧s.snd.due=t)):=by
 unfold nxS at ht;obtain ⟨a1,a2,a3⟩:=KV ht;have hp:∀x,s.pend.head?.map (·.at_)=some x→(∀o∈s.pend,x≤o.at_)∧∃o∈s.pend,o.at_=x:=by
  intro x hx;have hs:=h.po;cases hpd:s.pend with
  |nil=>rw [hpd] at hx;cases hx
  |cons o l=>
   rw [hpd] at hx hs;simp only [head?_cons,map_some,Option.some.injEq] at hx;subst hx;rw [pairwise_cons] at hs;refine ⟨fun y hy => ?_,o,by simp,rfl⟩;rcases mem_cons.1 hy with rfl|hy
   ·omega
   ·have:=hs.1 y hy;omega
 have hc:∀(c:BL) x,c.frames.Pairwise (fun a b=>a.arr≤b.arr)→A0 c=some x→(∀f∈c.frames,x≤f.arr)∧∃f∈c.frames,f.arr=x:=by
  intro c x hs hx;unfold A0 at hx;cases hpd:c.frames with
  |nil=>rw [hpd] at hx;cases hx
  |cons o l=>
   rw [hpd] at hx hs;simp only [head?_cons,map_some,Option.some.injEq] at hx;subst hx;rw [pairwise_cons] at hs;refine ⟨fun y hy => ?_,o,by simp,rfl⟩;rcases mem_cons.1 hy with rfl|hy
   ·omega
   ·exact hs.1 y hy
 have key:∀{a b:Option Int} {t:Int},C5 a b=some t→(∀x,a=some x→t≤x)∧(∀x,b=some x→t≤x):=fun h=>⟨(KV h).1,(KV h).2.1⟩
 have h3:∀x,C5 (C5 (s.pend.head?.map (·.at_)) (A0 s.dat)) (A0 s.rep)=some x→(∀o∈s.pend,x≤o.at_)∧(∀f∈s.dat.frames,x≤f.arr)∧(∀f∈s.rep.frames,x≤f.arr)∧((∃o∈s.pend,o.at_=x)∨(∃f∈s.dat.frames,f.arr=x)∨∃f∈s.rep.frames,f.arr=x):=by
  intro x hx;obtain ⟨b1,b2,b3⟩:=KV hx;have hr:∀f∈s.rep.frames,x≤f.arr:=by
   intro f hf;cases hn:A0 s.rep with
   |none=>
    unfold A0 at hn;cases hff:s.rep.frames with
    |nil=>rw [hff] at hf;cases hf
    |cons a l=>rw [hff] at hn;cases hn
   |some y=>have:=(hc s.rep y h.gr.srt hn).1 f hf;have:=b2 y hn;omega
  have h2:∀y,C5 (s.pend.head?.map (·.at_)) (A0 s.dat)=some y→(∀o∈s.pend,y≤o.at_)∧(∀f∈s.dat.frames,y≤f.arr)∧((∃o∈s.pend,o.at_=y)∨∃f∈s.dat.frames,f.arr=y):=by
   intro y hy;obtain ⟨d1,d2,d3⟩:=KV hy;refine ⟨fun o ho => ?_,fun f hf => ?_,?_⟩
   ·cases hn:s.pend.head?.map (·.at_) with
    |none=>
     cases hff:s.pend with
     |nil=>rw [hff] at ho;cases ho
     |cons a l=>rw [hff] at hn;cases hn
    |some z=>have:=(hp z hn).1 o ho;have:=d1 z hn;omega
   ·cases hn:A0 s.dat with
    |none=>
     unfold A0 at hn;cases hff:s.dat.frames with
     |nil=>rw [hff] at hf;cases hf
     |cons a l=>rw [hff] at hn;cases hn
    |some z=>have:=(hc s.dat z h.gd.srt hn).1 f hf;have:=d2 z hn;omega
   ·rcases d3 with d3|d3
    ·exact .inl (hp y d3).2
    ·exact .inr (hc s.dat y h.gd.srt d3).2
  cases hm:C5 (s.pend.head?.map (·.at_)) (A0 s.dat) with
  |none=>
   obtain ⟨e1,e2⟩:=LW hm;have hpe:s.pend=[]:=by cases hff:s.pend with|nil=>rfl|cons a l=>rw [hff] at e1;cases e1
   have hde:s.dat.frames=[]:=by unfold A0 at e2;cases hff:s.dat.frames with|nil=>rfl|cons a l=>rw [hff] at e2;cases e2
   rw [hm] at b3;rcases b3 with b3|b3
   ·cases b3
   ·exact ⟨by rw [hpe];simp,by rw [hde];simp,hr,.inr (.inr (hc s.rep x h.gr.srt b3).2)⟩
  |some y=>
   obtain ⟨q1,q2,q3⟩:=h2 y hm;have hxy:=b1 y hm;refine ⟨fun o ho=>by have:=q1 o ho;omega,fun f hf=>by have:=q2 f hf;omega,hr,?_⟩;rcases b3 with b3|b3
   ·rw [hm] at b3;cases b3;rcases q3 with q3|q3
    ·exact .inl q3
    ·exact .inr (.inl q3)
   ·exact .inr (.inr (hc s.rep x h.gr.srt b3).2)
 have hdue:s.snd.st=1→t≤s.snd.due:=fun q=>a2 _ (by rw [if_pos q]);cases hm:C5 (C5 (s.pend.head?.map (·.at_)) (A0 s.dat)) (A0 s.rep) with
 |none=>
  obtain ⟨e0,e3⟩:=LW hm;obtain ⟨e1,e2⟩:=LW e0;have hpe:s.pend=[]:=by cases hff:s.pend with|nil=>rfl|cons a l=>rw [hff] at e1;cases e1
  have hde:s.dat.frames=[]:=by unfold A0 at e2;cases hff:s.dat.frames with|nil=>rfl|cons a l=>rw [hff] at e2;cases e2
  have hre:s.rep.frames=[]:=by unfold A0 at e3;cases hff:s.rep.frames with|nil=>rfl|cons a l=>rw [hff] at e3;cases e3
  refine ⟨by rw [hpe];simp,by rw [hde];simp,by rw [hre];simp,hdue,?_⟩;rw [hm] at a3;rcases a3 with a3|a3
  ·cases a3
  ·by_cases q:s.snd.st=1
   ·rw [if_pos q] at a3;cases a3;exact .inr (.inr (.inr ⟨q,rfl⟩))
   ·rw [if_neg q] at a3;cases a3
 |some y=>
  obtain ⟨q1,q2,q3,q4⟩:=h3 y hm;have hty:=a1 y hm;refine ⟨fun o ho=>by have:=q1 o ho;omega,fun f hf=>by have:=q2 f hf;omega,fun f hf=>by have:=q3 f hf;omega,hdue,?_⟩;rcases a3 with a3|a3
  ·rw [hm] at a3;cases a3;rcases q4 with q|q|q
   ·exact .inl q
   ·exact .inr (.inl q)
   ·exact .inr (.inr (.inl q))
  ·by_cases q:s.snd.st=1
   ·rw [if_pos q] at a3;cases a3;exact .inr (.inr (.inr ⟨q,rfl⟩))
   ·rw [if_neg q] at a3;cases a3
theorem Inv.at {p:Par} {s:Ses} {t:Int} (h:Inv p s) (ht0:0≤t) (ht:nxS s=some t):Inv p {s with now:=t}:=by
 obtain ⟨n1,n2,n3,n4,n5⟩:=YZ h ht;exact {h with
  now:=ht0
  fd:=fun f hf=>by obtain ⟨f1,f2,f3,f4,f5⟩:=h.fd f hf;exact ⟨f1,f2,n2 f hf,f4,f5⟩
  fr:=fun f hf=>by obtain ⟨f1,f2,f3,f4,f5⟩:=h.fr f hf;exact ⟨f1,f2,n3 f hf,f4,f5⟩
  pd:=fun o ho=>by obtain ⟨f1,f2,f3,f4,f5⟩:=h.pd o ho;exact ⟨f1,n1 o ho,f3,f4,f5⟩
  du:=n4}
structure Wt (p:Par) (s:Ses):Prop where
 i:Inv p s
 pg:PGt s
 dg:DGt s
 rg:RGt s
 ug:UGt s
theorem Wt.nx {p:Par} {s:Ses} {t:Int} (hp:POk p) (h:Wt p s) (ht:nxS s=some t):s.now<t∧t≤p.e+4*p.c.rng+2:=by
 have hr:=hp.rng;have hn:=h.i.sn.num hp;rcases (YZ h.i ht).2.2.2.2 with ⟨o,ho,rfl⟩|⟨f,hf,rfl⟩|⟨f,hf,rfl⟩|⟨h1,rfl⟩
 ·have:=h.pg o ho;have:=h.i.pd o ho;omega
 ·have:=h.dg f hf;have:=h.i.fd f hf;omega
 ·have:=h.rg f hf;have:=h.i.fr f hf;omega
 ·have:=h.ug h1;have:=(h.i.due h1).2;omega
theorem Mic.inv {p:Par} {s s':Ses} (hp:POk p) (m:Mic p s s'):Inv p s':=by
 cases m with
 |time t h1 h2 h3 h4 h5 h6=>exact h1.at (by have:=(Wt.nx hp ⟨h1,h2,h3,h4,h5⟩ h6).1;have:=h1.now;omega) h6
 |tx o l h1 h2 h3=>exact h1.tx hp h2 h3
 |rx f l h1 h2 h3 h4=>exact h1.rx hp h3 h4
 |ls _ f l h1 h2 h3 h4 h5 h6=>exact h1.ls hp h2 h4 h5 h6
 |ex _ h1 h2 h3 h4 h5=>exact h1.ex hp h2 h5
end Ab
set_option linter.unusedVariables false
set_option linter.unusedSimpArgs false
namespace Ab
open Go
theorem tx_gt {p:Par} {s:Ses} {o:Out} {l:List Out} (h:Inv p s) (hp:s.pend=o::l) (ho:o.at_≠s.now):PGt s:=by
 have h0:=(h.pd o (by rw [hp];simp)).2.1;have hs:=h.po;rw [hp,pairwise_cons] at hs;intro x hx;rw [hp] at hx;rcases mem_cons.1 hx with rfl|hx
 ·omega
 ·have:=hs.1 x hx;omega
theorem Xa {p:Par} (hp:POk p):∀(k:Nat) (s:Ses),Inv p s→s.pend.length≤k→Reach p s (txS k s)∧Inv p (txS k s)∧PGt (txS k s)∧(txS k s).now=s.now
 |0,s,h,hk=>⟨.refl,h,(fun o ho=>by have e:s.pend=[]:=length_eq_zero_iff.1 (by omega);change o∈s.pend at ho;rw [e] at ho;cases ho),rfl⟩
 |k+1,s,h,hk=>by
  unfold txS;cases hpd:s.pend with
  |nil=>exact ⟨.refl,h,fun o ho=>(by simp only [hpd] at ho;cases ho),rfl⟩
  |cons o l=>
   simp only;split
   ·rename_i ha;have hI:=h.tx hp hpd ha;obtain ⟨i1,i2,i3,i4⟩:=Xa hp k _ hI (by rw [hpd] at hk;simpa using hk);exact ⟨(Reach.one (.tx s o l h hpd ha)).trans i1,i2,i3,i4⟩
   ·rename_i ha;exact ⟨.refl,h,tx_gt h hpd ha,rfl⟩
theorem Nv:∀(l:List Seg) (s:Ses),(l.foldl CQ s).pend=s.pend∧(l.foldl CQ s).snd=s.snd∧(l.foldl CQ s).sent=s.sent∧(l.foldl CQ s).rcv=s.rcv∧(l.foldl CQ s).kno=s.kno∧(l.foldl CQ s).knoAt=s.knoAt∧(l.foldl CQ s).rcvd=s.rcvd∧(l.foldl CQ s).arrive=s.arrive
 |[],s=>⟨rfl,rfl,rfl,rfl,rfl,rfl,rfl,rfl⟩
 |x::l,s=>by rw [foldl_cons];exact Nv l _
theorem Rn (s:Ses) (x:Seg):(rxX s x).pend=s.pend∧(rxX s x).snd=s.snd∧(rxX s x).sent=s.sent∧(rxX s x).kno=s.kno∧(rxX s x).knoAt=s.knoAt:=by
 obtain ⟨a1,a2,a3,a4,a5,a6,a7⟩:=Nv (DZ s.rcv x).2.1 {s with rcv:=(DZ s.rcv x).1};unfold rxX rxF rxH;split
 ·exact ⟨a1,a2,a3,a5,a6⟩
 ·exact ⟨a1,a2,a3,a5,a6⟩
theorem Inv.rxG {p:Par} {s:Ses} (h:PGt s) {x:Seg}:PGt (rxX (BF s) x):=by intro o ho;rw [(Rn _ _).1] at ho;rw [KA];exact h o ho
theorem Xw {p:Par} (hp:POk p):∀(k:Nat) (s:Ses),Inv p s→PGt s→s.dat.frames.length≤k→Reach p s (rxS k s)∧Inv p (rxS k s)∧PGt (rxS k s)∧DGt (rxS k s)∧(rxS k s).now=s.now
 |0,s,h,hg,hk=>⟨.refl,h,hg,(fun o ho=>by have e:s.dat.frames=[]:=length_eq_zero_iff.1 (by omega);change o∈s.dat.frames at ho;rw [e] at ho;cases ho),rfl⟩
 |k+1,s,h,hg,hk=>by
  unfold rxS;cases hpd:s.dat.frames with
  |nil=>exact ⟨.refl,h,hg,fun o ho=>(by rw [hpd] at ho;cases ho),rfl⟩
  |cons f l=>
   simp only;split
   ·rename_i ha;have hI:=h.rx hp hpd ha;obtain ⟨i1,i2,i3,i4,i5⟩:=Xw hp k _ hI (Inv.rxG (p:=p) hg) (by rw [Ey];simp only [BF,length_tail];omega);exact ⟨(Reach.one (.rx s f l h hg hpd ha)).trans i1,i2,i3,i4,by rw [i5,KA];rfl⟩
   ·rename_i ha;refine ⟨.refl,h,hg,?_,rfl⟩;have h0:=(h.fd f (by rw [hpd];simp)).2.2.1;have hs:=h.gd.srt;rw [hpd,pairwise_cons] at hs;intro x hx;rw [hpd] at hx;rcases mem_cons.1 hx with rfl|hx
    ·omega
    ·have:=hs.1 x hx;omega
theorem K9.gt {p:Par} {s:Ses} {q:Snd} {l:List Seg} (hp:POk p) (hl:K9 p.d (s.snd.ser+1) l) (hs:0≤s.snd.ser+1) {o:Out} (ho:o∈Bq p.c.rate s.now l):s.now<o.at_:=by have hr:=hp.rng;exact ((hl.outs (t:=s.now) ⟨hr.2.2.1,hr.2.2.2.1⟩ hs).2.1 o ho).2.1
theorem Mic.lsG {p:Par} {s s':Ses} (hp:POk p) (h:Inv p s) (hg:PGt s) (hd:DGt s) {f:Frame} {l:List Frame} (hf:s.rep.frames=f::l) (ha:f.arr=s.now) (hs:LsR p (B8 s) f.seg s'):PGt s'∧DGt s'∧s'.now=s.now∧s'.rep.frames=l:=by
 obtain ⟨f1,f2,f3,f4,f5⟩:=h.fr f (by rw [hf];simp);have hl:(B8 s).rep.frames=l:=by simp [B8,hf]
 cases hs with
 |busy _=>exact ⟨hg,hd,rfl,hl⟩
 |same _ _=>exact ⟨hg,hd,rfl,hl⟩
 |done h1 h2 h3 h4=>exact ⟨hg,hd,rfl,hl⟩
 |fail h1 h2 h3 h4 h5=>exact ⟨hg,hd,rfl,hl⟩
 |send h1 h2 h3 h4 h5=>
  obtain ⟨hQ,_⟩:=h.sn.ack hp f1;have hn:=h.sn.num hp;have hB:=hQ.bat hp h.sn h4;exact ⟨fun o ho=>K9.gt (s:=s) (q:=s.snd) hp hB (by omega) ho,hd,rfl,hl⟩
theorem Yf {p:Par} (hp:POk p):∀(k:Nat) (s:Ses),Inv p s→PGt s→DGt s→s.rep.frames.length≤k→Reach p s (lsS k s)∧Inv p (lsS k s)∧PGt (lsS k s)∧DGt (lsS k s)∧RGt (lsS k s)∧(lsS k s).now=s.now
 |0,s,h,hg,hd,hk=>⟨.refl,h,hg,hd,(fun o ho=>by have e:s.rep.frames=[]:=length_eq_zero_iff.1 (by omega);change o∈s.rep.frames at ho;rw [e] at ho;cases ho),rfl⟩
 |k+1,s,h,hg,hd,hk=>by
  unfold lsS;cases hpd:s.rep.frames with
  |nil=>exact ⟨.refl,h,hg,hd,fun o ho=>(by rw [hpd] at ho;cases ho),rfl⟩
  |cons f l=>
   simp only;split
   ·rename_i ha;have hR:=(h.lsR hp hg hpd ha).1;have hI:=h.ls hp hg hpd ha hR;obtain ⟨g1,g2,g3,g4⟩:=Mic.lsG hp h hg hd hpd ha hR;obtain ⟨i1,i2,i3,i4,i5,i6⟩:=Yf hp k _ hI g1 g2 (by rw [g4];rw [hpd] at hk;simpa using hk);exact ⟨(Reach.one (.ls s _ f l h hg hd hpd ha hR)).trans i1,i2,i3,i4,i5,by rw [i6,g3]⟩
   ·rename_i ha;refine ⟨.refl,h,hg,hd,?_,rfl⟩;have h0:=(h.fr f (by rw [hpd];simp)).2.2.1;have hs:=h.gr.srt;rw [hpd,pairwise_cons] at hs;intro x hx;rw [hpd] at hx;rcases mem_cons.1 hx with rfl|hx
    ·omega
    ·have:=hs.1 x hx;omega
theorem exR_ok {p:Par} {s s':Ses} (hp:POk p) (h:Inv p s) (hg:PGt s) (hd:DGt s) (hr:RGt s) (hR:ExR p s s'):Wt p s'∧s'.now=s.now:=by
 have hI:=h.ex hp hg hR;cases hR with
 |same hn=>exact ⟨⟨h,hg,hd,hr,fun h1=>by have:=h.du h1;have:=fun q=>hn ⟨h1,q⟩;omega⟩,rfl⟩
 |fail h1 h2 h3=>exact ⟨⟨hI,hg,hd,hr,fun q=>by simp [CJ] at q⟩,rfl⟩
 |send h1 h2 h3 h4=>
  have hQ:=h.sn.q hp;have hB:=(hQ.bat hp h.sn h3).last;have hn:=h.sn.num hp;have hrr:=hp.rng;have ho:=hB.outs (t:=s.now) ⟨hrr.2.2.1,hrr.2.2.2.1⟩ (by omega);refine ⟨⟨hI,fun o ho=>K9.gt (s:=s) (q:=s.snd) hp hB (by omega) ho,hd,hr,fun q => ?_⟩,rfl⟩;have:=(hI.due q).2;have e:({s with snd:=BU s.snd (A4 p.c.rate s.now (Bo (Ae s.snd))) (s.snd.ser+1),pend:=Bq p.c.rate s.now (Bo (Ae s.snd))}:Ses).snd.busy=A4 p.c.rate s.now (Bo (Ae s.snd)):=rfl;rw [e] at this;show s.now<_;omega
theorem YS {p:Par} {s:Ses} {t:Int} (hp:POk p) (h:Wt p s) (ht:nxS s=some t):Reach p s (ph1 s t)∧Inv p (ph1 s t)∧PGt (ph1 s t)∧(ph1 s t).now=t:=by have hI:=h.i.at (t:=t) (by have:=(h.nx hp ht).1;have:=h.i.now;omega) ht;obtain ⟨a1,a2,a3,a4⟩:=Xa hp s.pend.length _ hI (le_refl _);exact ⟨(Reach.one (.time s t h.i h.pg h.dg h.rg h.ug ht)).trans a1,a2,a3,a4⟩
theorem YR {p:Par} {s:Ses} {t:Int} (hp:POk p) (h:Wt p s) (ht:nxS s=some t):Reach p s (ph2 s t)∧Inv p (ph2 s t)∧PGt (ph2 s t)∧DGt (ph2 s t)∧(ph2 s t).now=t:=by obtain ⟨a1,a2,a3,a4⟩:=YS hp h ht;obtain ⟨b1,b2,b3,b4,b5⟩:=Xw hp _ _ a2 a3 (le_refl _);exact ⟨a1.trans b1,b2,b3,b4,by unfold ph2;rw [b5,a4]⟩
theorem YQ {p:Par} {s:Ses} {t:Int} (hp:POk p) (h:Wt p s) (ht:nxS s=some t):Reach p s (ph3 s t)∧Inv p (ph3 s t)∧PGt (ph3 s t)∧DGt (ph3 s t)∧RGt (ph3 s t)∧(ph3 s t).now=t:=by obtain ⟨a1,a2,a3,a4,a5⟩:=YR hp h ht;obtain ⟨b1,b2,b3,b4,b5,b6⟩:=Yf hp _ _ a2 a3 a4 (le_refl _);exact ⟨a1.trans b1,b2,b3,b4,b5,by unfold ph3;rw [b6,a5]⟩
theorem Xi {p:Par} {s:Ses} {t:Int} (hp:POk p) (h:Wt p s) (ht:nxS s=some t):Reach p s (stS s t)∧Wt p (stS s t)∧(stS s t).now=t:=by obtain ⟨a1,a2,a3,a4,a5,a6⟩:=YQ hp h ht;have hR:=(a2.exR hp a3).1;obtain ⟨b1,b2⟩:=exR_ok hp a2 a3 a4 a5 hR;exact ⟨a1.trans (Reach.one (.ex _ _ a2 a3 a4 a5 hR)),b1,by unfold stS;rw [b2,a6]⟩
def muS (p:Par) (s:Ses):Nat:=(p.e+4*p.c.rng+3-s.now).toNat
theorem Inv.small {p:Par} {s:Ses} (hp:POk p) (h:Inv p s):s.entered≤5000∧s.pend.length≤5000:=by have hB:=h.bud hp (k:=0) (by omega) (fun q=>by omega);have:=hB.ent;have hs:=h.sn.num hp;have hb:=hp.bud s.snd.ser (by omega) (by have:=h.sn.t;omega);have:=h.c4;have:=h.c5;have:=h.sn.t;have hz:(s.snd.ser-1)*1≤(s.snd.ser-1)*(2*p.c.rng+1):=Int.mul_le_mul_of_nonneg_left (by have:=hp.rng;omega) (by omega);refine ⟨by omega,?_⟩;rcases hb with hb|hb<;>omega
theorem runP {p:Par} (hp:POk p):XK (Wt p) (fun s=>Inv p s∧PGt s) (fun s=>Inv p s∧PGt s∧DGt s) (muS p):=by
 refine ⟨⟨fun s h=>h.1.gd,fun s f l h hf ha => ?_⟩,⟨fun s h=>h.1.gr,fun s h => ?_,fun s f l h hf ha => ?_⟩,fun s h => ?_,fun s t h ht => ?_,fun s t h ht => ?_,fun s t h ht => ?_,fun s t h ht => ?_,fun s t h ht => ?_⟩
 ·obtain ⟨hI,hg⟩:=h;obtain ⟨f1,f2,f3,f4,f5⟩:=hI.fd f (by rw [hf];simp);have hn:=hI.sn.num hp;have hr:=hp.rng;refine ⟨by rw [(hI.Vg hp f1).1],?_,hI.rx hp hf ha,Inv.rxG (p:=p) hg⟩;rw [(hI.Vg hp f1).1];refine (hI.bud hp ?_ (fun _=>by omega)).BF;rw [hf];simp only [countP_cons];split
  ·simp only [length_cons,length_nil];omega
  ·simp only [length_nil];omega
 ·have:=(h.1.sn.fo hp).2;have:=(h.1.small hp).2;omega
 ·obtain ⟨hI,hg,hd⟩:=h;obtain ⟨f1,f2,f3,f4,f5⟩:=hI.fr f (by rw [hf];simp);obtain ⟨r1,r2⟩:=hI.lsR hp hg hf ha;obtain ⟨g1,g2,g3,g4⟩:=Mic.lsG hp hI hg hd hf ha r1;have:=f1.few hp.sz.2;exact ⟨.inl (by omega),r2,hI.ls hp hg hf ha r1,g1,g2⟩
 ·have:=(h.i.small hp).1;exact ⟨by omega,h.i.gd,h.i.gr⟩
 ·have hI:=h.i.at (t:=t) (by have:=(h.nx hp ht).1;have:=h.i.now;omega) ht;refine hI.bud hp (show (s.pend.length:Int)≤s.pend.length+(s.dat.frames.countP (fun f=>f.seg.chk):Nat) by omega) (fun hk => ?_);obtain ⟨n1,n2⟩:=YZ h.i ht;cases hpd:s.pend with
  |nil=>rw [hpd] at hk;simp at hk
  |cons o l=>
   have h1:=n1 o (by rw [hpd];simp);have h2:=h.i.pd o (by rw [hpd];simp);have hn:=h.i.sn.num hp;have hr:=hp.rng;show t≤_;omega
 ·have:=YS hp h ht;exact ⟨this.2.1,this.2.2.1⟩
 ·have:=YR hp h ht;exact ⟨this.2.1,this.2.2.1,this.2.2.2.1⟩
 ·obtain ⟨a1,a2,a3,a4,a5,a6⟩:=YQ hp h ht;have:=(a2.small hp)
  have:=(a2.sn.fo hp).2;exact ⟨by omega,by omega,by omega,(a2.exR hp a3).2⟩
 ·obtain ⟨a1,a2,a3⟩:=Xi hp h ht;have:=h.nx hp ht;refine ⟨a2,?_⟩;unfold muS;rw [a3];omega
theorem U9 {p:Par} (hp:POk p):∀(k:Nat) (s:Ses),Wt p s→muS p s≤k→Reach p s (Hr k s)∧Wt p (Hr k s)∧nxS (Hr k s)=none
 |0,s,h,hk=>by
  refine ⟨.refl,h,?_⟩;cases hn:nxS s with
  |none=>exact hn
  |some t=>
   have:=h.nx hp hn;unfold muS at hk;omega
 |k+1,s,h,hk=>by
  unfold Hr;cases hn:nxS s with
  |none=>exact ⟨.refl,h,hn⟩
  |some t=>
   simp only;obtain ⟨a1,a2,a3⟩:=Xi hp h hn;have:=h.nx hp hn;obtain ⟨b1,b2,b3⟩:=U9 hp k _ a2 (by unfold muS at hk ⊢;rw [a3];omega);exact ⟨a1.trans b1,b2,b3⟩
theorem Xg {p:Par} (hp:POk p) (h:(Aq p.c 0 p.d p.b p.e).2.2=0) :
  K9 p.d 1 (CY 0 1 p.d (Aa p.d))∧A4 p.c.rate p.b (CY 0 1 p.d (Aa p.d))≤p.e∧
  (Aq p.c 0 p.d p.b p.e).1=BU (BM p.c 0 p.d p.e) (A4 p.c.rate p.b (CY 0 1 p.d (Aa p.d))) 1∧(Aq p.c 0 p.d p.b p.e).2.1=Bq p.c.rate p.b (CY 0 1 p.d (Aa p.d)):=by
 have hd:=hp.sz;have hB:=batP (LD (ses:=0) (d:=p.d) ⟨by omega,by omega⟩ ⟨by omega,by omega⟩);obtain ⟨pre,x,e,h1,h2,h3⟩:=hB.ex;have hlast:(CY 0 1 p.d (Aa p.d)).getLast? = some x:=by rw [e];exact getLast?_concat ..
 have ht:=hp.t;have e0:Aq p.c 0 p.d p.b p.e=if (BX (BM p.c 0 p.d p.e) p.b (CY 0 1 p.d (Aa p.d))).1.st=3 then Bg 16 else ((BX (BM p.c 0 p.d p.e) p.b (CY 0 1 p.d (Aa p.d))).1,(BX (BM p.c 0 p.d p.e) p.b (CY 0 1 p.d (Aa p.d))).2,0):=by unfold Aq;rw [if_neg (by have:=hp.con;omega),if_neg (by omega),if_neg (by omega),if_neg (by omega),if_neg (by omega)]
 have e1:BX (BM p.c 0 p.d p.e) p.b (CY 0 1 p.d (Aa p.d))=if p.e<A4 p.c.rate p.b (CY 0 1 p.d (Aa p.d))∨1099511627776<x.ser then (CJ (BM p.c 0 p.d p.e),[]) else (BU (BM p.c 0 p.d p.e) (A4 p.c.rate p.b (CY 0 1 p.d (Aa p.d))) x.ser,Bq p.c.rate p.b (CY 0 1 p.d (Aa p.d))):=by unfold BX;rw [hlast];rfl
 by_cases hb:p.e<A4 p.c.rate p.b (CY 0 1 p.d (Aa p.d))
 ·exfalso;rw [e0,e1,if_pos (Or.inl hb)] at h;simp [Bg,CJ] at h
 ·rw [if_neg (by omega),h2] at e1;rw [e0,e1,if_neg (by simp [BU])];exact ⟨hB,by omega,rfl,rfl⟩
def Wp (p:Par):Ses:=ini p.c p.b p.e p.d p.ps p.lim p.dk
theorem Tu {p:Par} (hp:POk p) (h:(Aq p.c 0 p.d p.b p.e).2.2=0):Wt p (Wp p):=by
 obtain ⟨hB,he,e1,e2⟩:=Xg hp h;have hr:=hp.rng;have hd:=hp.sz;have ht:=hp.t;obtain ⟨o1,o2,o3,o4,o5⟩:=hB.outs (t:=p.b) ⟨hr.2.2.1,hr.2.2.2.1⟩ (by omega);have hlen:=hB.len;let q:Snd:={BM p.c 0 p.d p.e with busy:=A4 p.c.rate p.b (CY 0 1 p.d (Aa p.d)),ser:=1}
 have hq:FT q=0:=by
  unfold FT;have a1:Cu q:=by unfold Cu;simp only [q,BM];omega
  have a2:Ma q:=⟨Qv,.inl rfl⟩
  rw [if_neg (fun f=>f hp.con),if_neg (fun f=>f a1),if_neg (fun f=>f a2)]
 have hc0:complete q=false:=by simp [complete,q,BM,Aa]
 have hok:=U1 (t:=A4 p.c.rate p.b (CY 0 1 p.d (Aa p.d))) (ser:=1) hq hc0 (by simp only [q,BM];omega) (by omega);have e3:BU q (A4 p.c.rate p.b (CY 0 1 p.d (Aa p.d))) 1=BU (BM p.c 0 p.d p.e) (A4 p.c.rate p.b (CY 0 1 p.d (Aa p.d))) 1:=rfl;rw [e3] at hok;have ei:Wp p=⟨⟨p.c.rng,[],0,0⟩,⟨p.c.rng,[],0,0⟩,p.ps,p.lim,p.dk,0,0,[],[],0,BU (BM p.c 0 p.d p.e) (A4 p.c.rate p.b (CY 0 1 p.d (Aa p.d))) 1,R0,Bq p.c.rate p.b (CY 0 1 p.d (Aa p.d)),false,0,false,0⟩:=by unfold Wp ini;rw [e1,e2];rfl
 rw [ei];have hgc:Bs ⟨p.c.rng,[],0,0⟩:=⟨by simp only;omega,by simp,by simp,by simp,(fun f hf=>by cases hf),List.Pairwise.nil⟩
 refine ⟨⟨rfl,rfl,rfl,rfl,rfl,hgc,hgc,Int.le_refl _,⟨rfl,rfl,rfl,rfl,hok,?_⟩,⟨[],Xh _,fun x hx=>by cases hx⟩,(fun f hf=>by cases hf),(fun f hf=>by cases hf),fun o ho => ?_,o1,fun _ => ?_,rfl,rfl,rfl,?_,?_,?_,?_,?_,?_,?_,(show false=A1 R0 by decide)⟩,fun o ho => ?_,(fun f hf=>by cases hf),(fun f hf=>by cases hf),fun _ => ?_⟩
 ·simp only [BU,BM];omega
 ·obtain ⟨k1,k2,k3,k4,k5⟩:=o2 o ho;exact ⟨k1,by simp only;omega,by simp only [BU];omega,by simp only [BU];omega,fun hcc=>(k5 hcc).1⟩
 ·simp only [BU,BM];omega
 ·simp only [BU,BM,Di,length_nil];omega
 ·simp only [BU,BM,Di,length_nil];omega
 ·simp only [BU,BM,o4,length_nil,List.countP_nil];omega
 ·simp
 ·simp
 ·simp
 ·simp [BU]
 ·have:=o2 o ho;simp only;omega
 ·simp only [BU,BM];omega
end Ab
set_option linter.unusedVariables false
set_option linter.unusedSimpArgs false
namespace Ab
open Go
theorem runQ {p:Par} (hp:POk p):ZT (Wt p) (fun s=>Inv p s∧PGt s) (fun s=>Inv p s∧PGt s∧DGt s) (muS p):=by
 have hR:=runP hp;refine ⟨hR,⟨hR.rx,fun s h=>⟨h.1.rv,by rw [h.1.sn.c,h.1.rr]⟩⟩,⟨hR.ls,fun s f l h hf ha hb => ?_⟩,fun s h=>by rw [h.i.sn.c,h.i.rd]⟩;obtain ⟨hI,hg,hd⟩:=h;obtain ⟨f1,f2,f3,f4,f5⟩:=hI.fr f (by rw [hf];simp);have hsn:=hI.sn.num hp;have hr:=hp.rng;obtain ⟨q1,q2,q3⟩:=hI.sn.Ay (t:=s.now) hp f1 ⟨by omega,by omega⟩;by_cases h1:s.snd.st=1
 ·have hk:s.kno=false:=by
   cases hk:s.kno with
   |false=>rfl
   |true=>have:=hI.kn.1 hk;omega
  exact ⟨fun q=>⟨h1,q.2⟩,fun q=>⟨hk,q.2⟩⟩
 ·rw [q1 (.inl h1)];refine ⟨fun q => ?_,fun q=>(h1 q.1).elim⟩;have:=hI.kn.2 q.2;rw [q.1] at this;cases this
theorem runQ0:ZT (fun _=>False) (fun _=>False) (fun _=>False) (fun _=>0):=
 ⟨⟨⟨fun _ h=>h.elim,fun _ _ _ h=>h.elim⟩,⟨fun _ h=>h.elim,fun _ h=>h.elim,fun _ _ _ h=>h.elim⟩,fun _ h=>h.elim,fun _ _ h=>h.elim,fun _ _ h=>h.elim,fun _ _ h=>h.elim,fun _ _ h=>h.elim,fun _ _ h=>h.elim⟩,⟨⟨fun _ h=>h.elim,fun _ _ _ h=>h.elim⟩,fun _ h=>h.elim⟩,⟨⟨fun _ h=>h.elim,fun _ h=>h.elim,fun _ _ _ h=>h.elim⟩,fun _ _ _ h=>h.elim⟩,fun _ h=>h.elim⟩
end Ab
set_option maxRecDepth 100000
set_option linter.unusedVariables false
namespace Ab
open Go Go.Proofs
def Oi:List Sh:=[Sh.b,Sh.i,Sh.b,Sh.i,Sh.i,Sh.i,Sh.i]
def A5:List Sh:=[Sh.i,Sh.i,Sh.i,Sh.i,Sh.i,Sh.i,Sh.i,Sh.i,Sh.s,Sh.i,Sh.i,Sh.i,Sh.l 2,Sh.i,Sh.i,Sh.i,Sh.i,Sh.l 2,Sh.s,Sh.i,Sh.l 10,Sh.i,Sh.i,Sh.i,Sh.l 10,Sh.i,Sh.i,Sh.r 1,Sh.l 1,Sh.i,Sh.l 2,Sh.i,Sh.i,Sh.b,Sh.i,Sh.b,Sh.i,Sh.i,Sh.i,Sh.i,Sh.r 5,Sh.r 6]
def C8:List OSh:=[OSh.box Oi,OSh.row 9,OSh.frz 15,OSh.frz 4,OSh.frz 4,OSh.row 9,OSh.row 9,OSh.box A5]
def Dm:List Sh:=[]
def FM:List OSh:=[OSh.box Oi,OSh.row 9,OSh.box Dm,OSh.box Dm,OSh.box Dm,OSh.row 9,OSh.row 9,OSh.box A5,OSh.row 1]
def CK:List OSh:=[OSh.box Oi,OSh.row 9,OSh.box Dm,OSh.box Dm,OSh.box Dm,OSh.row 9,OSh.row 9,OSh.box A5]
def TH:List OSh:=[OSh.box Oi,OSh.row 9,OSh.box Dm,OSh.box Dm,OSh.box Dm,OSh.row 9,OSh.row 9,OSh.box A5,OSh.box Dm]
def WM:List Sh:=[Sh.i,Sh.l 10,Sh.i,Sh.i]
def Cq:List OSh:=[OSh.box Oi,OSh.row 9,OSh.box Dm,OSh.box Dm,OSh.box Dm,OSh.row 9,OSh.row 9,OSh.box A5,OSh.box Dm,OSh.box WM]
def BSD_9:List Sh:=[Sh.i,Sh.i,Sh.l 2,Sh.s]
def Et:List OSh:=[OSh.box Oi,OSh.row 9,OSh.box Dm,OSh.box Dm,OSh.box Dm,OSh.row 9,OSh.row 9,OSh.box A5,OSh.box WM,OSh.box Dm,OSh.box BSD_9]
def CX:List OSh:=[OSh.box Oi,OSh.row 9,OSh.box Dm,OSh.box Dm,OSh.box Dm,OSh.row 9,OSh.row 9,OSh.box A5,OSh.box WM,OSh.box Dm,OSh.box BSD_9,OSh.box WM]
def HR:List FuncId:=[50,51,52,53,54,71,96,124,125,126,127,144]
noncomputable def DE (p q:ST) (y:List Tree) (x:RT):RT:=Am (.box [.yld 42,.t (tI (cI p 7 19)),.t (.sl 10 (cL p 7 20)),.t (tI (cI p 7 21)),.t (tI (cI p 7 22))]) (.box [.yld 42,.t (tI (cI q 7 19)),.t (.sl 10 (cL q 7 20)),.t (tI (cI q 7 21)),.t (tI (cI q 7 22))]) (Am (.row true 0 9 [[tI (gI y 0),tI (gI y 1),tI (gI y 2),tI (gI y 3),tI (gI y 4),tI (gI y 5),.bool (gB y 6),.str (gS y 7),.sl 2 (gL y 8)]]) (.row true 0 9 [[tI (gI y 0),tI (gI y 1),tI (gI y 2),tI (gI y 3),tI (gI y 4),tI (gI y 5),.bool (gB y 6),.str (gS y 7),.sl 2 (gL y 8)]]) (Am (.row false (AD p 1) 9 (oEs p 1)) (.row false (AD q 1) 9 (oEs q 1)) (Am (.row false (AD p 5) 9 (oEs p 5)) (.row false (AD q 5) 9 (oEs q 5)) (Am (.row false (AD p 6) 9 (oEs p 6)) (.row false (AD q 6) 9 (oEs q 6)) x))))
noncomputable def Db (p q:ST) (x:RT):RT:=Am (.box [.yld 42,.t (tI (cI p 7 23)),.t (.sl 10 (cL p 7 24)),.t (tI (cI p 7 25)),.t (tI (cI p 7 26))]) (.box [.yld 42,.t (tI (cI q 7 23)),.t (.sl 10 (cL q 7 24)),.t (tI (cI q 7 25)),.t (tI (cI q 7 26))]) (Am (.row false (AD p 1) 9 (oEs p 1)) (.row false (AD q 1) 9 (oEs q 1)) (Am (.row false (AD p 5) 9 (oEs p 5)) (.row false (AD q 5) 9 (oEs q 5)) (Am (.row false (AD p 6) 9 (oEs p 6)) (.row false (AD q 6) 9 (oEs q 6)) x)))
noncomputable def V7 (n:Nat) (ff:Nat→Rec) (p44:ST) (k20:KT) (p47:ST) (k48:KT):RT:=cnd (AD p47 8=A3 p44 0) (cnd (decide (vI p47 1<(Ak p44 0:Int))=true) (cnd (AD p47 8=A3 p44 0∧1=1∧0≤vI p47 1∧vI p47 1<(Ak p44 0:Int)) (cnd (AD p47 8=A3 p44 0) (Option.bind (oEs p47 8)[Bz p44 0+toNat (vI p47 1)]? fun y49=>cnd (okI y49 0) (k48 (tv [tI (if gI y49 0<vI p47 0 then gI y49 0 else vI p47 0),tI (w64 (vI p47 1+1))],rh p47 0 FM)) none) none) none) (k20 (tv [tI (vI p47 0),.bool true],rh p47 0 CK))) none
noncomputable def TG (n:Nat) (ff:Nat→Rec) (k20:KT) (p44:ST):RT:=cnd (AD p44 8=A3 p44 0) (cnd (((Ak p44 0:Int)==0)=true) (k20 (tv [tI 0,.bool false],rh p44 0 CK)) (cnd (AD p44 8=A3 p44 0∧1=1∧(0:Int)≤0∧0<(Ak p44 0:Int)) (cnd (AD p44 8=A3 p44 0) (Option.bind (oEs p44 8)[Bz p44 0]? fun y46=>cnd (okI y46 0) (AH (V7 n ff p44 k20) n (tv [tI (gI y46 0),tI 1],rh p44 0 FM)) none) none) none)) none
noncomputable def Zr (n:Nat) (ff:Nat→Rec) (k20:KT) (p25 p40:ST):RT:=join (TG n ff k20) fun k45=>cnd (vB p40 0=true) (cnd (AD p40 8=A3 p25 0+1∧(1=1∨1=0)∧0+(Ak p25 0+1)≤length (oEs p40 8)∧(Ak p25 0+1)+1≤1073741824) (k45 ([.sref 8 ((A3 p25 0+1)+1) 0 ((Ak p25 0+1)+1)],upd (rh p40 0 FM) [(8,.row false ((A3 p25 0+1)+1) 1 (take (Ak p25 0+1) (oEs p40 8)++[[tI (cI p40 7 13)]]))])) none) (k45 ([.sref 8 (A3 p25 0+1) 0 (Ak p25 0+1)],rh p40 0 FM))
noncomputable def Zn (n:Nat) (ff:Nat→Rec) (k20:KT) (p25 p50:ST):RT:=join (TG n ff k20) fun k55=>cnd (vB p50 0=true) (cnd (AD p50 8=A3 p25 0∧(1=1∨1=0)∧Bz p25 0+Ak p25 0≤length (oEs p50 8)∧Ak p25 0+1≤1073741824) (k55 ([.sref 8 (A3 p25 0+1) 0 (Ak p25 0+1)],upd (rh p50 0 FM) [(8,.row false (A3 p25 0+1) 1 (take (Ak p25 0) (drop (Bz p25 0) (oEs p50 8))++[[tI (cI p50 7 13)]]))])) none) (k55 ([.sref 8 (A3 p25 0) (Bz p25 0) (Ak p25 0)],rh p50 0 FM))
noncomputable def L1 (n:Nat) (ff:Nat→Rec) (k20:KT) (p25:ST):RT:=bd [0,1] (AA C n 76 (ct [0,13,0,0] p25 7 23 [])) fun y27=>cnd (gB y27 1=true) (cnd (AD p25 8=A3 p25 0∧(1=1∨1=0)∧Bz p25 0+Ak p25 0≤length (oEs p25 8)∧Ak p25 0+1≤1073741824) (join (Zr n ff k20 p25) fun k41=>cnd ((cI p25 7 14==1)=true) (k41 ([.t (.bool (!(decide (cI p25 7 31≥(10000:Int)))))],upd (rh p25 0 FM) [(8,.row false (A3 p25 0+1) 1 (take (Ak p25 0) (drop (Bz p25 0) (oEs p25 8))++[[tI (gI y27 0)]]))])) (k41 ([.t (.bool false)],upd (rh p25 0 FM) [(8,.row false (A3 p25 0+1) 1 (take (Ak p25 0) (drop (Bz p25 0) (oEs p25 8))++[[tI (gI y27 0)]]))]))) none) (join (Zn n ff k20 p25) fun k51=>cnd ((cI p25 7 14==1)=true) (k51 ([.t (.bool (!(decide (cI p25 7 31≥(10000:Int)))))],rh p25 0 FM)) (k51 ([.t (.bool false)],rh p25 0 FM)))
noncomputable def RK (n:Nat) (ff:Nat→Rec) (k20:KT) (p21:ST):RT:=bd [0,1] (AA C n 76 (ct [0,13,0,0] p21 7 19 [])) fun y24=>join (L1 n ff k20) fun k26=>cnd (gB y24 1=true) (cnd (AD p21 8=A3 p21 0∧(1=1∨1=0)∧Bz p21 0+Ak p21 0≤length (oEs p21 8)∧Ak p21 0+1≤1073741824) (k26 ([.sref 8 (A3 p21 0+1) 0 (Ak p21 0+1)],upd (rh p21 0 FM) [(8,.row false (A3 p21 0+1) 1 (take (Ak p21 0) (drop (Bz p21 0) (oEs p21 8))++[[tI (gI y24 0)]]))])) none) (k26 ([.sref 8 (A3 p21 0) (Bz p21 0) (Ak p21 0)],rh p21 0 FM))
noncomputable def Z0 (n:Nat) (ff:Nat→Rec) (k20:KT) (p19:ST):RT:=ff 11 (List Tree) (.fn 50 [AV.ptr 7 0]) (rh p19 0 C8) fun rs h1=>cnd (BN C.P (A9 C.P 50) rs=true) (EH (rh p19 0 C8) h1 fun hs=>k20 (rs,hs)) none
noncomputable def V2 (n:Nat) (ff:Nat→Rec) (k20:KT) (p19:ST):RT:=cnd (AD p19 1=AK p19 7 27) (join (RK n ff k20) fun k22=>cnd (decide ((AJ p19 7 27:Int)>0)=true) (cnd (AD p19 1=AK p19 7 27∧9=9∧(0:Int)≤0∧0<(AJ p19 7 27:Int)) (cnd (AD p19 1=AK p19 7 27) (cnd (AD p19 1=AK p19 7 27) (Option.bind (oEs p19 1)[AO p19 7 27]? fun y23=>cnd (okI y23 0) (k22 ([.sref 8 1 0 1],upd (rh p19 0 FM) [(8,.row false 1 1 [[tI (gI y23 0)]])])) none) none) none) none) (k22 ([.sref 8 0 0 0],upd (rh p19 0 FM) [(8,.row false 0 1 [])]))) none
theorem vC14_1 (n:Nat) (ff:Nat→Rec) (k20:KT) (p19:ST):Dc C (Fo C (pcx C (AA C n)) n ff HR 10) (pcx C (AA C n)) n 50 [AV.ptr 7 0] (rh p19 0 C8) (fun rs h1=>cnd (BN C.P (A9 C.P 50) rs=true) (EH (rh p19 0 C8) h1 fun hs=>k20 (rs,hs)) none)=V2 n ff k20 p19:=by kernel_rfl
theorem Xe (n:Nat) (k20:KT) (p19:ST):Z0 n (fI C n) k20 p19=V2 n (fI C n) k20 p19:=(GU C n HR 10 _ 50 _ _ _).trans (vC14_1 n (fI C n) k20 p19)
noncomputable def DF (n:Nat) (ff:Nat→Rec) (k70:KT) (y71:List Tree) (p76:ST):RT:=cnd (AD p76 5=AK p76 7 40∧(9=9∨9=0)∧AO p76 7 40+AJ p76 7 40≤length (oEs p76 5)∧AJ p76 7 40+1≤1073741824) (k70 ([],upd (rh p76 0 CK) [(5,.row false (AK p76 7 40+1) 9 (take (AJ p76 7 40) (drop (AO p76 7 40) (oEs p76 5))++[[tI (gI y71 0),tI (gI y71 1),tI (gI y71 2),tI (gI y71 3),tI (gI y71 4),tI (gI y71 5),.bool (gB y71 6),.str (gS y71 7),.sl 2 (gL y71 8)]])),(7,.box (upd (rb p76 7 0 A5) [(40,.sref 5 (AK p76 7 40+1) 0 (AJ p76 7 40+1))]))])) none
noncomputable def GI (n:Nat) (ff:Nat→Rec) (p66:ST) (y71:List Tree) (p62:ST) (k70:KT) (y82:List Tree) (p89:ST):RT:=cnd (vB p89 0=true) (DE p66 p89 y71 (bd [0,13,0,0,0] (AA C n 78 (ct [0,13,0,0] p66 7 19 (tI (vI p62 1)::gt kG y71 1 [.sl 1 [[tI (cI p66 7 5)]]]))) fun y91=>join (DF n ff k70 y71) fun k93=>cnd ((gI y91 4==0)=true) (k93 ([],upd (rh p89 0 Cq) [(7,.box (upd (rb p89 7 0 A5) [(19,.t (tI (gI y91 0))),(20,.t (.sl 10 (gL y91 1))),(21,.t (tI (gI y91 2))),(22,.t (tI (gI y91 3)))])),(9,.box (tv (gt [0,13,0,0] y91 0 [])))])) (k93 ([],upd (rh p89 0 Cq) [(9,.box (tv (gt [0,13,0,0] y91 0 [])))])))) (DE p66 p89 y71 (bd [0,13,0,0,0] (AA C n 78 (ct [0,13,0,0] p66 7 19 (tI (vI p62 1)::gt kG y71 1 [.sl 1 (gL y82 0)]))) fun y94=>join (DF n ff k70 y71) fun k96=>cnd ((gI y94 4==0)=true) (k96 ([],upd (rh p89 0 Cq) [(7,.box (upd (rb p89 7 0 A5) [(19,.t (tI (gI y94 0))),(20,.t (.sl 10 (gL y94 1))),(21,.t (tI (gI y94 2))),(22,.t (tI (gI y94 3))),(32,.t (tI (w64 (cI p89 7 32+1))))])),(9,.box (tv (gt [0,13,0,0] y94 0 [])))])) (k96 ([],upd (rh p89 0 Cq) [(7,.box (upd (rb p89 7 0 A5) [(32,.t (tI (w64 (cI p89 7 32+1))))])),(9,.box (tv (gt [0,13,0,0] y94 0 [])))]))))
noncomputable def GH (n:Nat) (ff:Nat→Rec) (p66:ST) (y71:List Tree) (p62:ST) (y82:List Tree) (k70:KT) (p83:ST):RT:=cnd (vB p83 0=true) (DE p66 p83 y71 (bd [0,13,0,0,0] (AA C n 78 (ct [0,13,0,0] p66 7 19 (tI (vI p62 1)::gt kG y71 1 [.sl 1 (gL y82 0)]))) fun y86=>join (DF n ff k70 y71) fun k88=>cnd ((gI y86 4==0)=true) (k88 ([],upd (rh p83 0 Cq) [(7,.box (upd (rb p83 7 0 A5) [(19,.t (tI (gI y86 0))),(20,.t (.sl 10 (gL y86 1))),(21,.t (tI (gI y86 2))),(22,.t (tI (gI y86 3)))])),(9,.box (tv (gt [0,13,0,0] y86 0 [])))])) (k88 ([],upd (rh p83 0 Cq) [(9,.box (tv (gt [0,13,0,0] y86 0 [])))])))) (join (GI n ff p66 y71 p62 k70 y82) fun k90=>cnd (decide (cI p83 7 29≥(0:Int))=true) (k90 ([.t (.bool (decide (cI p83 7 32≥cI p83 7 29)))],rh p83 0 Cq)) (k90 ([.t (.bool false)],rh p83 0 Cq)))
noncomputable def GG (n:Nat) (ff:Nat→Rec) (p66:ST) (y71:List Tree) (p62:ST) (k70:KT) (y105:List Tree) (p112:ST):RT:=cnd (vB p112 0=true) (DE p66 p112 y71 (bd [0,13,0,0,0] (AA C n 78 (ct [0,13,0,0] p66 7 19 (tI (vI p62 1)::gt kG y71 1 [.sl 1 [[tI (cI p66 7 5)]]]))) fun y114=>join (DF n ff k70 y71) fun k116=>cnd ((gI y114 4==0)=true) (k116 ([],upd (rh p112 0 Cq) [(7,.box (upd (rb p112 7 0 A5) [(19,.t (tI (gI y114 0))),(20,.t (.sl 10 (gL y114 1))),(21,.t (tI (gI y114 2))),(22,.t (tI (gI y114 3)))])),(9,.box (tv (gt [0,13,0,0] y114 0 [])))])) (k116 ([],upd (rh p112 0 Cq) [(9,.box (tv (gt [0,13,0,0] y114 0 [])))])))) (DE p66 p112 y71 (bd [0,13,0,0,0] (AA C n 78 (ct [0,13,0,0] p66 7 19 (tI (vI p62 1)::gt kG y71 1 [.sl 1 (gL y105 0)]))) fun y117=>join (DF n ff k70 y71) fun k119=>cnd ((gI y117 4==0)=true) (k119 ([],upd (rh p112 0 Cq) [(7,.box (upd (rb p112 7 0 A5) [(19,.t (tI (gI y117 0))),(20,.t (.sl 10 (gL y117 1))),(21,.t (tI (gI y117 2))),(22,.t (tI (gI y117 3))),(32,.t (tI (w64 (cI p112 7 32+1))))])),(9,.box (tv (gt [0,13,0,0] y117 0 [])))])) (k119 ([],upd (rh p112 0 Cq) [(7,.box (upd (rb p112 7 0 A5) [(32,.t (tI (w64 (cI p112 7 32+1))))])),(9,.box (tv (gt [0,13,0,0] y117 0 [])))]))))
noncomputable def GF (n:Nat) (ff:Nat→Rec) (p66:ST) (y71:List Tree) (p62:ST) (y105:List Tree) (k70:KT) (p106:ST):RT:=cnd (vB p106 0=true) (DE p66 p106 y71 (bd [0,13,0,0,0] (AA C n 78 (ct [0,13,0,0] p66 7 19 (tI (vI p62 1)::gt kG y71 1 [.sl 1 (gL y105 0)]))) fun y109=>join (DF n ff k70 y71) fun k111=>cnd ((gI y109 4==0)=true) (k111 ([],upd (rh p106 0 Cq) [(7,.box (upd (rb p106 7 0 A5) [(19,.t (tI (gI y109 0))),(20,.t (.sl 10 (gL y109 1))),(21,AV.t (tI (gI y109 2))),(22,.t (tI (gI y109 3)))])),(9,.box (tv (gt [0,13,0,0] y109 0 [])))])) (k111 ([],upd (rh p106 0 Cq) [(9,.box (tv (gt [0,13,0,0] y109 0 [])))])))) (join (GG n ff p66 y71 p62 k70 y105) fun k113=>cnd (decide (cI p106 7 29≥(0:Int))=true) (k113 ([.t (.bool (decide (cI p106 7 32≥cI p106 7 29)))],rh p106 0 TH)) (k113 ([.t (.bool false)],rh p106 0 TH)))
noncomputable def Df (n:Nat) (ff:Nat→Rec) (k65:KT) (p69:ST):RT:=k65 ([],rh p69 0 CK)
noncomputable def Es (n:Nat) (ff:Nat→Rec) (k65:KT) (p62:ST) (k63:KT) (p66:ST):RT:=cnd (vB p66 0=true) (join (Df n ff k65) fun k70=>cnd (AD p66 1=AK p66 7 27∧9=9∧(0:Int)≤0∧0<(AJ p66 7 27:Int)) (cnd (AD p66 1=AK p66 7 27) (Option.bind (oEs p66 1)[AO p66 7 27]? fun y71=>bk [0,0,0,0,0,0,1,2,5] 0 y71 (cnd (AD p66 1=AK p66 7 27∧(9=9∨9=0)) (cnd ((0:Int)≤1∧1≤(AJ p66 7 27:Int)) (cnd (decide (cI p66 7 31≥(10000:Int))=true) (k70 ([],upd (rh p66 0 CK) [(7,.box (upd (rb p66 7 0 A5) [(27,.sref 1 (AK p66 7 27) (AO p66 7 27+1) (AJ p66 7 27-1))]))])) (both (bd [1] (AA C n 103 [.sl 2 (cL p66 7 30),tI (vI p62 1)]) fun y74=>cnd (gB y74 0=true) (DE p66 p66 y71 (bd [0,13,0,0,0] (AA C n 78 (ct [0,13,0,0] p66 7 19 (tI (vI p62 1)::gt kG y71 1 [.sl 1 []]))) fun y75=>join (DF n ff k70 y71) fun k77=>cnd ((gI y75 4==0)=true) (k77 ([],upd (rh p66 0 Cq) [(7,.box (upd (rb p66 7 0 A5) [(19,.t (tI (gI y75 0))),(20,.t (.sl 10 (gL y75 1))),(21,.t (tI (gI y75 2))),(22,.t (tI (gI y75 3))),(27,.sref 1 (AK p66 7 27) (AO p66 7 27+1) (AJ p66 7 27-1)),(31,.t (tI (w64 (cI p66 7 31+1))))])),(9,.box (tv (gt [0,13,0,0] y75 0 [])))])) (k77 ([],upd (rh p66 0 Cq) [(7,.box (upd (rb p66 7 0 A5) [(27,.sref 1 (AK p66 7 27) (AO p66 7 27+1) (AJ p66 7 27-1)),(31,.t (tI (w64 (cI p66 7 31+1))))])),(9,.box (tv (gt [0,13,0,0] y75 0 [])))])))) (cnd (((length (cL p66 7 28):Int)==0)=true) (DE p66 p66 y71 (bd [0,13,0,0,0] (AA C n 78 (ct [0,13,0,0] p66 7 19 (tI (vI p62 1)::gt kG y71 1 [.sl 1 [[tI (cI p66 7 5)]]]))) fun y78=>join (DF n ff k70 y71) fun k80=>cnd ((gI y78 4==0)=true) (k80 ([],upd (rh p66 0 Cq) [(7,.box (upd (rb p66 7 0 A5) [(19,.t (tI (gI y78 0))),(20,.t (.sl 10 (gL y78 1))),(21,.t (tI (gI y78 2))),(22,.t (tI (gI y78 3))),(27,.sref 1 (AK p66 7 27) (AO p66 7 27+1) (AJ p66 7 27-1)),(31,.t (tI (w64 (cI p66 7 31+1))))])),(9,.box (tv (gt [0,13,0,0] y78 0 [])))])) (k80 ([],upd (rh p66 0 Cq) [(7,.box (upd (rb p66 7 0 A5) [(27,.sref 1 (AK p66 7 27) (AO p66 7 27+1) (AJ p66 7 27-1)),(31,.t (tI (w64 (cI p66 7 31+1))))])),(9,.box (tv (gt [0,13,0,0] y78 0 [])))])))) (cnd ((length (cL p66 7 28):Int)=0) none (cnd (1=1∧0≤tmod (cI p66 7 31) (length (cL p66 7 28):Int)) (Option.bind (cL p66 7 28)[toNat (tmod (cI p66 7 31) (length (cL p66 7 28):Int))]? fun y81=>cnd (okI y81 0) (bd [4,0] (AA C n 104 [tI (gI y81 0),tI (cI p66 7 5)]) fun y82=>join (GH n ff p66 y71 p62 y82 k70) fun k84=>cnd (decide ((length (gL y82 0):Int)>0)=true) (Option.bind (gL y82 0)[0]? fun y85=>cnd (okI y85 0) (k84 ([.t (.bool (gI y85 0==cI p66 7 5))],upd (rh p66 0 Cq) [(7,.box (upd (rb p66 7 0 A5) [(27,.sref 1 (AK p66 7 27) (AO p66 7 27+1) (AJ p66 7 27-1)),(31,.t (tI (w64 (cI p66 7 31+1))))])),(9,.box (tv (zt [0,13,0,0] [])))])) none) (k84 ([.t (.bool false)],upd (rh p66 0 Cq) [(7,.box (upd (rb p66 7 0 A5) [(27,.sref 1 (AK p66 7 27) (AO p66 7 27+1) (AJ p66 7 27-1)),(31,.t (tI (w64 (cI p66 7 31+1))))])),(9,.box (tv (zt [0,13,0,0] [])))]))) none) none)))) (bd [1] (AA C n 103 [.sl 2 (cL p66 7 30),tI (vI p62 1)]) fun y97=>cnd (gB y97 0=true) (DE p66 p66 y71 (bd [0,13,0,0,0] (AA C n 78 (ct [0,13,0,0] p66 7 19 (tI (vI p62 1)::gt kG y71 1 [.sl 1 []]))) fun y98=>join (DF n ff k70 y71) fun k100=>cnd ((gI y98 4==0)=true) (k100 ([],upd (rh p66 0 Cq) [(7,.box (upd (rb p66 7 0 A5) [(19,.t (tI (gI y98 0))),(20,.t (.sl 10 (gL y98 1))),(21,.t (tI (gI y98 2))),(22,AV.t (tI (gI y98 3))),(27,.sref 1 (AK p66 7 27) (AO p66 7 27+1) (AJ p66 7 27-1)),(31,.t (tI (w64 (cI p66 7 31+1))))])),(9,.box (tv (gt [0,13,0,0] y98 0 [])))])) (k100 ([],upd (rh p66 0 Cq) [(7,.box (upd (rb p66 7 0 A5) [(27,.sref 1 (AK p66 7 27) (AO p66 7 27+1) (AJ p66 7 27-1)),(31,.t (tI (w64 (cI p66 7 31+1))))])),(9,.box (tv (gt [0,13,0,0] y98 0 [])))])))) (cnd (((length (cL p66 7 28):Int)==0)=true) (DE p66 p66 y71 (bd [0,13,0,0,0] (AA C n 78 (ct [0,13,0,0] p66 7 19 (tI (vI p62 1)::gt kG y71 1 [.sl 1 [[tI (cI p66 7 5)]]]))) fun y101=>join (DF n ff k70 y71) fun k103=>cnd ((gI y101 4==0)=true) (k103 ([],upd (rh p66 0 Cq) [(7,.box (upd (rb p66 7 0 A5) [(19,.t (tI (gI y101 0))),(20,.t (.sl 10 (gL y101 1))),(21,.t (tI (gI y101 2))),(22,.t (tI (gI y101 3))),(27,.sref 1 (AK p66 7 27) (AO p66 7 27+1) (AJ p66 7 27-1)),(31,.t (tI (w64 (cI p66 7 31+1))))])),(9,.box (tv (gt [0,13,0,0] y101 0 [])))])) (k103 ([],upd (rh p66 0 Cq) [(7,.box (upd (rb p66 7 0 A5) [(27,.sref 1 (AK p66 7 27) (AO p66 7 27+1) (AJ p66 7 27-1)),(31,.t (tI (w64 (cI p66 7 31+1))))])),(9,.box (tv (gt [0,13,0,0] y101 0 [])))])))) (cnd ((length (cL p66 7 28):Int)=0) none (cnd (1=1∧0≤tmod (cI p66 7 31) (length (cL p66 7 28):Int)) (Option.bind (cL p66 7 28)[toNat (tmod (cI p66 7 31) (length (cL p66 7 28):Int))]? fun y104=>cnd (okI y104 0) (bd [4,0] (AA C n 104 [tI (gI y104 0),tI (cI p66 7 5)]) fun y105=>join (GF n ff p66 y71 p62 y105 k70) fun k107=>cnd (decide ((length (gL y105 0):Int)>0)=true) (Option.bind (gL y105 0)[0]? fun y108=>cnd (okI y108 0) (k107 ([.t (.bool (gI y108 0==cI p66 7 5))],upd (rh p66 0 TH) [(7,.box (upd (rb p66 7 0 A5) [(27,.sref 1 (AK p66 7 27) (AO p66 7 27+1) (AJ p66 7 27-1)),(31,.t (tI (w64 (cI p66 7 31+1))))]))])) none) (k107 ([.t (.bool false)],upd (rh p66 0 TH) [(7,.box (upd (rb p66 7 0 A5) [(27,.sref 1 (AK p66 7 27) (AO p66 7 27+1) (AJ p66 7 27-1)),(31,.t (tI (w64 (cI p66 7 31+1))))]))]))) none) none)))))) none) none)) none) none) (k63 ([],rh p66 0 CK))
noncomputable def OW (n:Nat) (ff:Nat→Rec) (p62:ST) (k63:KT) (p64:ST) (k65:KT):RT:=join (Es n ff k65 p62 k63) fun k67=>cnd (AD p64 1=AK p64 7 27) (cnd (decide ((AJ p64 7 27:Int)>0)=true) (cnd (AD p64 1=AK p64 7 27∧9=9∧(0:Int)≤0∧0<(AJ p64 7 27:Int)) (cnd (AD p64 1=AK p64 7 27) (cnd (AD p64 1=AK p64 7 27) (Option.bind (oEs p64 1)[AO p64 7 27]? fun y68=>cnd (okI y68 0) (k67 ([.t (.bool (gI y68 0==vI p62 1))],rh p64 0 CK)) none) none) none) none) (k67 ([.t (.bool false)],rh p64 0 CK))) none
noncomputable def WL (n:Nat) (ff:Nat→Rec) (k63:KT) (p62:ST):RT:=ff 11 (List Tree) (.fn 51 [AV.ptr 7 0,.t (tI (vI p62 1))]) (rh p62 0 C8) fun rs h1=>cnd (BN C.P (A9 C.P 51) rs=true) (EH (rh p62 0 C8) h1 fun hs=>k63 (rs,hs)) none
noncomputable def ZR (n:Nat) (ff:Nat→Rec) (k63:KT) (p62:ST):RT:=AH (OW n ff p62 k63) n ([],rh p62 0 CK)
theorem vC14_2 (n:Nat) (ff:Nat→Rec) (k63:KT) (p62:ST):Dc C (Fo C (pcx C (AA C n)) n ff HR 10) (pcx C (AA C n)) n 51 [AV.ptr 7 0,.t (tI (vI p62 1))] (rh p62 0 C8) (fun rs h1=>cnd (BN C.P (A9 C.P 51) rs=true) (EH (rh p62 0 C8) h1 fun hs=>k63 (rs,hs)) none)=ZR n ff k63 p62:=by kernel_rfl
theorem tC14_2 (n:Nat) (k63:KT) (p62:ST):WL n (fI C n) k63 p62=ZR n (fI C n) k63 p62:=(GU C n HR 10 _ 51 _ _ _).trans (vC14_2 n (fI C n) k63 p62)
noncomputable def De (n:Nat) (ff:Nat→Rec) (p201:ST) (y131:List Tree) (k204:KT) (p122 p210:ST):RT:=cnd (8=8∧0≤vI p201 0) (Option.bind (gL y131 4)[toNat (vI p201 0)]? fun y212=>bk kG 0 y212 (cnd (AD p210 6=AK p210 7 41∧(9=9∨9=0)∧AO p210 7 41+AJ p210 7 41≤length (oEs p210 6)∧AJ p210 7 41+1≤1073741824) (k204 ([],upd (rh p210 0 Et) [(6,.row false (AK p210 7 41+1) 9 (take (AJ p210 7 41) (drop (AO p210 7 41) (oEs p210 6))++[[tI (vI p122 1),tI (gI y212 0),tI (gI y212 1),tI (gI y212 2),tI (gI y212 3),tI (gI y212 4),.bool (gB y212 5),.str (gS y212 6),.sl 2 (gL y212 7)]])),(7,.box (upd (rb p210 7 0 A5) [(41,.sref 6 (AK p210 7 41+1) 0 (AJ p210 7 41+1))]))])) none)) none
noncomputable def Fm (n:Nat) (ff:Nat→Rec) (p201 p122:ST) (y207 y131:List Tree) (k204:KT) (y218:List Tree) (p226:ST):RT:=cnd (vB p226 0=true) (Db p201 p226 (bd [0,13,0,0,0] (AA C n 78 (ct [0,13,0,0] p201 7 23 (tI (vI p122 1)::gt kG y207 0 [.sl 1 [[tI (cI p201 7 5)]]]))) fun y228=>join (De n ff p201 y131 k204 p122) fun k230=>cnd ((gI y228 4==0)=true) (k230 ([],upd (rh p226 0 CX) [(7,.box (upd (rb p226 7 0 A5) [(23,.t (tI (gI y228 0))),(24,.t (.sl 10 (gL y228 1))),(25,.t (tI (gI y228 2))),(26,.t (tI (gI y228 3)))])),(11,.box (tv (gt [0,13,0,0] y228 0 [])))])) (k230 ([],upd (rh p226 0 CX) [(11,.box (tv (gt [0,13,0,0] y228 0 [])))])))) (Db p201 p226 (bd [0,13,0,0,0] (AA C n 78 (ct [0,13,0,0] p201 7 23 (tI (vI p122 1)::gt kG y207 0 [.sl 1 (gL y218 0)]))) fun y232=>join (De n ff p201 y131 k204 p122) fun k234=>cnd ((gI y232 4==0)=true) (k234 ([],upd (rh p226 0 CX) [(7,.box (upd (rb p226 7 0 A5) [(23,.t (tI (gI y232 0))),(24,.t (.sl 10 (gL y232 1))),(25,.t (tI (gI y232 2))),(26,.t (tI (gI y232 3))),(32,.t (tI (w64 (cI p226 7 32+1))))])),(11,.box (tv (gt [0,13,0,0] y232 0 [])))])) (k234 ([],upd (rh p226 0 CX) [(7,.box (upd (rb p226 7 0 A5) [(32,.t (tI (w64 (cI p226 7 32+1))))])),(11,.box (tv (gt [0,13,0,0] y232 0 [])))]))))
noncomputable def GD (n:Nat) (ff:Nat→Rec) (p201 p122:ST) (y207 y218 y131:List Tree) (k204:KT) (p219:ST):RT:=cnd (vB p219 0=true) (Db p201 p219 (bd [0,13,0,0,0] (AA C n 78 (ct [0,13,0,0] p201 7 23 (tI (vI p122 1)::gt kG y207 0 [.sl 1 (gL y218 0)]))) fun y222=>join (De n ff p201 y131 k204 p122) fun k224=>cnd ((gI y222 4==0)=true) (k224 ([],upd (rh p219 0 CX) [(7,.box (upd (rb p219 7 0 A5) [(23,.t (tI (gI y222 0))),(24,.t (.sl 10 (gL y222 1))),(25,.t (tI (gI y222 2))),(26,.t (tI (gI y222 3)))])),(11,.box (tv (gt [0,13,0,0] y222 0 [])))])) (k224 ([],upd (rh p219 0 CX) [(11,.box (tv (gt [0,13,0,0] y222 0 [])))])))) (join (Fm n ff p201 p122 y207 y131 k204 y218) fun k227=>cnd (decide (cI p219 7 29≥(0:Int))=true) (k227 ([.t (.bool (decide (cI p219 7 32≥cI p219 7 29)))],rh p219 0 CX)) (k227 ([.t (.bool false)],rh p219 0 CX)))
noncomputable def GC (n:Nat) (ff:Nat→Rec) (p201 p122:ST) (y236 y247 y131:List Tree) (k204:KT) (p248:ST):RT:=cnd (vB p248 0=true) (Db p201 p248 (bd [0,13,0,0,0] (AA C n 78 (ct [0,13,0,0] p201 7 23 (tI (vI p122 1)::gt kG y236 0 [.sl 1 (gL y247 0)]))) fun y251=>join (De n ff p201 y131 k204 p122) fun k253=>cnd ((gI y251 4==0)=true) (k253 ([],upd (rh p248 0 CX) [(7,.box (upd (rb p248 7 0 A5) [(23,.t (tI (gI y251 0))),(24,.t (.sl 10 (gL y251 1))),(25,.t (tI (gI y251 2))),(26,.t (tI (gI y251 3)))])),(11,.box (tv (gt [0,13,0,0] y251 0 [])))])) (k253 ([],upd (rh p248 0 CX) [(11,.box (tv (gt [0,13,0,0] y251 0 [])))])))) (join (Fm n ff p201 p122 y236 y131 k204 y247) fun k256=>cnd (decide (cI p248 7 29≥(0:Int))=true) (k256 ([.t (.bool (decide (cI p248 7 32≥cI p248 7 29)))],rh p248 0 Et)) (k256 ([.t (.bool false)],rh p248 0 Et)))
noncomputable def GB (n:Nat) (ff:Nat→Rec) (k202:KT) (p201 p203:ST):RT:=k202 ([.t (tI (w64 (vI p201 0+1)))],rh p203 0 Et)
noncomputable def D9 (n:Nat) (ff:Nat→Rec) (y131:List Tree) (p122:ST) (k125:KT) (p201:ST) (k202:KT):RT:=cnd (decide (vI p201 0<(length (gL y131 4):Int))=true) (join (GB n ff k202 p201) fun k204=>cnd (decide (cI p201 7 31≥(10000:Int))=true) (k204 ([],rh p201 0 Et)) (both (cnd (8=8∧0≤vI p201 0) (Option.bind (gL y131 4)[toNat (vI p201 0)]? fun y207=>bk kG 0 y207 (bd [1] (AA C n 103 [.sl 2 (cL p201 7 30),tI (vI p122 1)]) fun y208=>cnd (gB y208 0=true) (Db p201 p201 (bd [0,13,0,0,0] (AA C n 78 (ct [0,13,0,0] p201 7 23 (tI (vI p122 1)::gt kG y207 0 [.sl 1 []]))) fun y209=>join (De n ff p201 y131 k204 p122) fun k211=>cnd ((gI y209 4==0)=true) (k211 ([],upd (rh p201 0 CX) [(7,.box (upd (rb p201 7 0 A5) [(23,.t (tI (gI y209 0))),(24,.t (.sl 10 (gL y209 1))),(25,.t (tI (gI y209 2))),(26,.t (tI (gI y209 3))),(31,.t (tI (w64 (cI p201 7 31+1))))])),(11,.box (tv (gt [0,13,0,0] y209 0 [])))])) (k211 ([],upd (rh p201 0 CX) [(7,.box (upd (rb p201 7 0 A5) [(31,.t (tI (w64 (cI p201 7 31+1))))])),(11,.box (tv (gt [0,13,0,0] y209 0 [])))])))) (cnd (((length (cL p201 7 28):Int)==0)=true) (Db p201 p201 (bd [0,13,0,0,0] (AA C n 78 (ct [0,13,0,0] p201 7 23 (tI (vI p122 1)::gt kG y207 0 [.sl 1 [[tI (cI p201 7 5)]]]))) fun y213=>join (De n ff p201 y131 k204 p122) fun k215=>cnd ((gI y213 4==0)=true) (k215 ([],upd (rh p201 0 CX) [(7,.box (upd (rb p201 7 0 A5) [(23,.t (tI (gI y213 0))),(24,.t (.sl 10 (gL y213 1))),(25,.t (tI (gI y213 2))),(26,.t (tI (gI y213 3))),(31,.t (tI (w64 (cI p201 7 31+1))))])),(11,.box (tv (gt [0,13,0,0] y213 0 [])))])) (k215 ([],upd (rh p201 0 CX) [(7,.box (upd (rb p201 7 0 A5) [(31,.t (tI (w64 (cI p201 7 31+1))))])),(11,.box (tv (gt [0,13,0,0] y213 0 [])))])))) (cnd ((length (cL p201 7 28):Int)=0) none (cnd (1=1∧0≤tmod (cI p201 7 31) (length (cL p201 7 28):Int)) (Option.bind (cL p201 7 28)[toNat (tmod (cI p201 7 31) (length (cL p201 7 28):Int))]? fun y217=>cnd (okI y217 0) (bd [4,0] (AA C n 104 [tI (gI y217 0),tI (cI p201 7 5)]) fun y218=>join (GD n ff p201 p122 y207 y218 y131 k204) fun k220=>cnd (decide ((length (gL y218 0):Int)>0)=true) (Option.bind (gL y218 0)[0]? fun y221=>cnd (okI y221 0) (k220 ([.t (.bool (gI y221 0==cI p201 7 5))],upd (rh p201 0 CX) [(7,.box (upd (rb p201 7 0 A5) [(31,.t (tI (w64 (cI p201 7 31+1))))])),(11,.box (tv (zt [0,13,0,0] [])))])) none) (k220 ([.t (.bool false)],upd (rh p201 0 CX) [(7,.box (upd (rb p201 7 0 A5) [(31,AV.t (tI (w64 (cI p201 7 31+1))))])),(11,.box (tv (zt [0,13,0,0] [])))]))) none) none))))) none) (cnd (8=8∧0≤vI p201 0) (Option.bind (gL y131 4)[toNat (vI p201 0)]? fun y236=>bk kG 0 y236 (bd [1] (AA C n 103 [.sl 2 (cL p201 7 30),tI (vI p122 1)]) fun y237=>cnd (gB y237 0=true) (Db p201 p201 (bd [0,13,0,0,0] (AA C n 78 (ct [0,13,0,0] p201 7 23 (tI (vI p122 1)::gt kG y236 0 [.sl 1 []]))) fun y238=>join (De n ff p201 y131 k204 p122) fun k240=>cnd ((gI y238 4==0)=true) (k240 ([],upd (rh p201 0 CX) [(7,.box (upd (rb p201 7 0 A5) [(23,.t (tI (gI y238 0))),(24,.t (.sl 10 (gL y238 1))),(25,.t (tI (gI y238 2))),(26,.t (tI (gI y238 3))),(31,.t (tI (w64 (cI p201 7 31+1))))])),(11,.box (tv (gt [0,13,0,0] y238 0 [])))])) (k240 ([],upd (rh p201 0 CX) [(7,.box (upd (rb p201 7 0 A5) [(31,AV.t (tI (w64 (cI p201 7 31+1))))])),(11,.box (tv (gt [0,13,0,0] y238 0 [])))])))) (cnd (((length (cL p201 7 28):Int)==0)=true) (Db p201 p201 (bd [0,13,0,0,0] (AA C n 78 (ct [0,13,0,0] p201 7 23 (tI (vI p122 1)::gt kG y236 0 [.sl 1 [[tI (cI p201 7 5)]]]))) fun y242=>join (De n ff p201 y131 k204 p122) fun k244=>cnd ((gI y242 4==0)=true) (k244 ([],upd (rh p201 0 CX) [(7,.box (upd (rb p201 7 0 A5) [(23,.t (tI (gI y242 0))),(24,.t (.sl 10 (gL y242 1))),(25,.t (tI (gI y242 2))),(26,.t (tI (gI y242 3))),(31,.t (tI (w64 (cI p201 7 31+1))))])),(11,.box (tv (gt [0,13,0,0] y242 0 [])))])) (k244 ([],upd (rh p201 0 CX) [(7,.box (upd (rb p201 7 0 A5) [(31,.t (tI (w64 (cI p201 7 31+1))))])),(11,.box (tv (gt [0,13,0,0] y242 0 [])))])))) (cnd ((length (cL p201 7 28):Int)=0) none (cnd (1=1∧0≤tmod (cI p201 7 31) (length (cL p201 7 28):Int)) (Option.bind (cL p201 7 28)[toNat (tmod (cI p201 7 31) (length (cL p201 7 28):Int))]? fun y246=>cnd (okI y246 0) (bd [4,0] (AA C n 104 [tI (gI y246 0),tI (cI p201 7 5)]) fun y247=>join (GC n ff p201 p122 y236 y247 y131 k204) fun k249=>cnd (decide ((length (gL y247 0):Int)>0)=true) (Option.bind (gL y247 0)[0]? fun y250=>cnd (okI y250 0) (k249 ([.t (.bool (gI y250 0==cI p201 7 5))],upd (rh p201 0 Et) [(7,.box (upd (rb p201 7 0 A5) [(31,.t (tI (w64 (cI p201 7 31+1))))]))])) none) (k249 ([.t (.bool false)],upd (rh p201 0 Et) [(7,.box (upd (rb p201 7 0 A5) [(31,.t (tI (w64 (cI p201 7 31+1))))]))]))) none) none))))) none))) (k125 ([],rh p201 0 CK))
noncomputable def RJ (n:Nat) (ff:Nat→Rec) (y131:List Tree) (p122:ST) (k125:KT) (p132:ST):RT:=cnd (vB p132 0=true) (AH (D9 n ff y131 p122 k125) n ([.t (tI 0)],upd (rh p132 0 Et) [(7,.box (upd (rb p132 7 0 A5) [(33,.t (.bool true)),(34,.t (tI (vI p122 1)))]))])) (AH (D9 n ff y131 p122 k125) n ([.t (tI 0)],rh p132 0 Et))
noncomputable def IZ (n:Nat) (ff:Nat→Rec) (k123:KT) (p122:ST) (k125:KT) (p127:ST):RT:=cnd (vB p127 0=true) (k123 ([],rh p127 0 CK)) (bd [0,13,0,0,0,0,0,0,0,0,0,1,2,5,0] (AA C n 80 (ct [0,13,0,0] p127 7 19 [])) fun y129=>bd [1] (AA C n 81 (ct [0,0,5,2] p127 7 15 [])) fun y130=>bd [0,0,5,2,11,0] (AA C n 82 (ct [0,0,5,2] p127 7 15 (gt kG y129 6 []))) fun y131=>join (RJ n ff y131 p122 k125) fun k133=>cnd ((!(gB y130 0))=true) (bd [1] (AA C n 81 (gt [0,0,5,2] y131 0 [])) fun y134=>k133 ([.t (.bool (gB y134 0))],upd (rh p127 0 Et) [(7,.box (upd (rb p127 7 0 A5) [(15,.t (tI (gI y131 0))),(16,.t (tI (gI y131 1))),(17,.t (.sl 2 (gL y131 2))),(18,.t (.str (gS y131 3))),(19,.t (tI (gI y129 0))),(20,.t (.sl 10 (gL y129 1))),(21,.t (tI (gI y129 2))),(22,.t (tI (gI y129 3)))])),(8,.box (tv (gt [0,13,0,0] y129 0 []))),(10,.box (tv (gt [0,0,5,2] y131 0 [])))])) (k133 ([.t (.bool false)],upd (rh p127 0 Et) [(7,.box (upd (rb p127 7 0 A5) [(15,.t (tI (gI y131 0))),(16,.t (tI (gI y131 1))),(17,.t (.sl 2 (gL y131 2))),(18,.t (.str (gS y131 3))),(19,.t (tI (gI y129 0))),(20,.t (.sl 10 (gL y129 1))),(21,.t (tI (gI y129 2))),(22,.t (tI (gI y129 3)))])),(8,.box (tv (gt [0,13,0,0] y129 0 []))),(10,.box (tv (gt [0,0,5,2] y131 0 [])))])))
noncomputable def OV (n:Nat) (ff:Nat→Rec) (k123:KT) (p122 p124:ST) (k125:KT):RT:=bd [0,1] (AA C n 76 (ct [0,13,0,0] p124 7 19 [])) fun y126=>join (IZ n ff k123 p122 k125) fun k128=>cnd ((!(gB y126 1))=true) (k128 ([.t (.bool true)],rh p124 0 CK)) (k128 ([.t (.bool ((gI y126 0) != vI p122 1))],rh p124 0 CK))
noncomputable def WK (n:Nat) (ff:Nat→Rec) (k123:KT) (p122:ST):RT:=ff 11 (List Tree) (.fn 52 [AV.ptr 7 0,.t (tI (vI p122 1))]) (rh p122 0 C8) fun rs h1=>cnd (BN C.P (A9 C.P 52) rs=true) (EH (rh p122 0 C8) h1 fun hs=>k123 (rs,hs)) none
noncomputable def ZQ (n:Nat) (ff:Nat→Rec) (k123:KT) (p122:ST):RT:=AH (OV n ff k123 p122) n ([],rh p122 0 CK)
theorem vC14_3 (n:Nat) (ff:Nat→Rec) (k123:KT) (p122:ST):Dc C (Fo C (pcx C (AA C n)) n ff HR 10) (pcx C (AA C n)) n 52 [AV.ptr 7 0,.t (tI (vI p122 1))] (rh p122 0 C8) (fun rs h1=>cnd (BN C.P (A9 C.P 52) rs=true) (EH (rh p122 0 C8) h1 fun hs=>k123 (rs,hs)) none)=ZQ n ff k123 p122:=by kernel_rfl
theorem tC14_3 (n:Nat) (k123:KT) (p122:ST):WK n (fI C n) k123 p122=ZQ n (fI C n) k123 p122:=(GU C n HR 10 _ 52 _ _ _).trans (vC14_3 n (fI C n) k123 p122)
noncomputable def IY (n:Nat) (ff:Nat→Rec) (k332:KT) (p331:ST) (k336:KT) (p338:ST):RT:=cnd (vB p338 0=true) (k332 ([],rh p338 0 CK)) (bd [0,13,0,0,0,0,0,0,0,0,0,1,2,5,0] (AA C n 80 (ct [0,13,0,0] p338 7 23 [])) fun y340=>cnd (decide (vI p331 1<cI p338 7 10)=true) (k336 ([],upd (rh p338 0 CK) [(7,.box (upd (rb p338 7 0 A5) [(23,.t (tI (gI y340 0))),(24,.t (.sl 10 (gL y340 1))),(25,.t (tI (gI y340 2))),(26,.t (tI (gI y340 3)))]))])) (bd [0,0,0,0,0,0,0,0,2,0,0,0,5,0,0,12,0] (AA C n 83 (ct kS p338 7 0 (tI (vI p331 1)::gt kG y340 6 []))) fun y341=>cnd (length (gL y341 15)=0∧AO p338 7 27+AJ p338 7 27<length (oEs p338 1)) (cnd (AD p338 1=AK p338 7 27) (cnd ((cI p338 7 14==1)=true) (cnd ((gI y341 14==2)=true) (k336 ([],upd (rh p338 0 CK) [(7,.box (upd (rb p338 7 0 A5) [(0,.t (tI (gI y341 0))),(1,.t (tI (gI y341 1))),(2,.t (tI (gI y341 2))),(3,.t (tI (gI y341 3))),(4,.t (tI (gI y341 4))),(5,.t (tI (gI y341 5))),(6,.t (tI (gI y341 6))),(7,.t (tI (gI y341 7))),(8,.t (.str (gS y341 8))),(9,.t (tI (gI y341 9))),(10,.t (tI (gI y341 10))),(11,.t (tI (gI y341 11))),(12,.t (.sl 2 (gL y341 12))),(13,.t (tI (gI y341 13))),(14,.t (tI (gI y341 14))),(23,.t (tI (gI y340 0))),(24,.t (.sl 10 (gL y340 1))),(25,.t (tI (gI y340 2))),(26,.t (tI (gI y340 3))),(35,.t (.bool true)),(36,.t (tI (vI p331 1)))]))])) (k336 ([],upd (rh p338 0 CK) [(7,.box (upd (rb p338 7 0 A5) [(0,.t (tI (gI y341 0))),(1,.t (tI (gI y341 1))),(2,.t (tI (gI y341 2))),(3,.t (tI (gI y341 3))),(4,AV.t (tI (gI y341 4))),(5,.t (tI (gI y341 5))),(6,.t (tI (gI y341 6))),(7,.t (tI (gI y341 7))),(8,.t (.str (gS y341 8))),(9,.t (tI (gI y341 9))),(10,.t (tI (gI y341 10))),(11,.t (tI (gI y341 11))),(12,.t (.sl 2 (gL y341 12))),(13,.t (tI (gI y341 13))),(14,.t (tI (gI y341 14))),(23,.t (tI (gI y340 0))),(24,.t (.sl 10 (gL y340 1))),(25,.t (tI (gI y340 2))),(26,.t (tI (gI y340 3)))]))]))) (k336 ([],upd (rh p338 0 CK) [(7,.box (upd (rb p338 7 0 A5) [(0,.t (tI (gI y341 0))),(1,.t (tI (gI y341 1))),(2,.t (tI (gI y341 2))),(3,.t (tI (gI y341 3))),(4,.t (tI (gI y341 4))),(5,.t (tI (gI y341 5))),(6,.t (tI (gI y341 6))),(7,.t (tI (gI y341 7))),(8,.t (.str (gS y341 8))),(9,.t (tI (gI y341 9))),(10,.t (tI (gI y341 10))),(11,.t (tI (gI y341 11))),(12,.t (.sl 2 (gL y341 12))),(13,.t (tI (gI y341 13))),(14,.t (tI (gI y341 14))),(23,AV.t (tI (gI y340 0))),(24,.t (.sl 10 (gL y340 1))),(25,.t (tI (gI y340 2))),(26,.t (tI (gI y340 3)))]))]))) none) (cnd (AD p338 1=AK p338 7 27∧(9=9∨9=0)∧AO p338 7 27+AJ p338 7 27≤length (oEs p338 1)∧AJ p338 7 27+length (gL y341 15)≤1073741824) (cnd ((cI p338 7 14==1)=true) (cnd ((gI y341 14==2)=true) (k336 ([],upd (rh p338 0 CK) [(1,.row false (AK p338 7 27+1) 9 (take (AJ p338 7 27) (drop (AO p338 7 27) (oEs p338 1))++gL y341 15)),(7,.box (upd (rb p338 7 0 A5) [(0,.t (tI (gI y341 0))),(1,.t (tI (gI y341 1))),(2,.t (tI (gI y341 2))),(3,.t (tI (gI y341 3))),(4,.t (tI (gI y341 4))),(5,AV.t (tI (gI y341 5))),(6,.t (tI (gI y341 6))),(7,.t (tI (gI y341 7))),(8,.t (.str (gS y341 8))),(9,.t (tI (gI y341 9))),(10,.t (tI (gI y341 10))),(11,.t (tI (gI y341 11))),(12,.t (.sl 2 (gL y341 12))),(13,.t (tI (gI y341 13))),(14,.t (tI (gI y341 14))),(23,.t (tI (gI y340 0))),(24,.t (.sl 10 (gL y340 1))),(25,.t (tI (gI y340 2))),(26,.t (tI (gI y340 3))),(27,.sref 1 (AK p338 7 27+1) 0 (AJ p338 7 27+length (gL y341 15))),(35,.t (.bool true)),(36,.t (tI (vI p331 1)))]))])) (k336 ([],upd (rh p338 0 CK) [(1,.row false (AK p338 7 27+1) 9 (take (AJ p338 7 27) (drop (AO p338 7 27) (oEs p338 1))++gL y341 15)),(7,.box (upd (rb p338 7 0 A5) [(0,.t (tI (gI y341 0))),(1,.t (tI (gI y341 1))),(2,.t (tI (gI y341 2))),(3,.t (tI (gI y341 3))),(4,.t (tI (gI y341 4))),(5,.t (tI (gI y341 5))),(6,.t (tI (gI y341 6))),(7,.t (tI (gI y341 7))),(8,.t (.str (gS y341 8))),(9,.t (tI (gI y341 9))),(10,.t (tI (gI y341 10))),(11,.t (tI (gI y341 11))),(12,AV.t (Tree.sl 2 (gL y341 12))),(13,.t (tI (gI y341 13))),(14,.t (tI (gI y341 14))),(23,.t (tI (gI y340 0))),(24,.t (.sl 10 (gL y340 1))),(25,.t (tI (gI y340 2))),(26,.t (tI (gI y340 3))),(27,.sref 1 (AK p338 7 27+1) 0 (AJ p338 7 27+length (gL y341 15)))]))]))) (k336 ([],upd (rh p338 0 CK) [(1,.row false (AK p338 7 27+1) 9 (take (AJ p338 7 27) (drop (AO p338 7 27) (oEs p338 1))++gL y341 15)),(7,.box (upd (rb p338 7 0 A5) [(0,.t (tI (gI y341 0))),(1,.t (tI (gI y341 1))),(2,.t (tI (gI y341 2))),(3,.t (tI (gI y341 3))),(4,.t (tI (gI y341 4))),(5,.t (tI (gI y341 5))),(6,.t (tI (gI y341 6))),(7,.t (tI (gI y341 7))),(8,AV.t (Tree.str (gS y341 8))),(9,.t (tI (gI y341 9))),(10,.t (tI (gI y341 10))),(11,.t (tI (gI y341 11))),(12,.t (.sl 2 (gL y341 12))),(13,.t (tI (gI y341 13))),(14,.t (tI (gI y341 14))),(23,.t (tI (gI y340 0))),(24,.t (.sl 10 (gL y340 1))),(25,.t (tI (gI y340 2))),(26,.t (tI (gI y340 3))),(27,.sref 1 (AK p338 7 27+1) 0 (AJ p338 7 27+length (gL y341 15)))]))]))) none)))
noncomputable def G5 (n:Nat) (ff:Nat→Rec) (k332:KT) (p331 p333:ST) (k334:KT):RT:=join (Df n ff k334) fun k336=>bd [0,1] (AA C n 76 (ct [0,13,0,0] p333 7 23 [])) fun y337=>join (IY n ff k332 p331 k336) fun k339=>cnd ((!(gB y337 1))=true) (k339 ([.t (.bool true)],rh p333 0 CK)) (k339 ([.t (.bool ((gI y337 0) != vI p331 1))],rh p333 0 CK))
noncomputable def WJ (n:Nat) (ff:Nat→Rec) (k332:KT) (p331:ST):RT:=ff 11 (List Tree) (.fn 53 [AV.ptr 7 0,.t (tI (vI p331 1))]) (rh p331 0 C8) fun rs h1=>cnd (BN C.P (A9 C.P 53) rs=true) (EH (rh p331 0 C8) h1 fun hs=>k332 (rs,hs)) none
noncomputable def ZP (n:Nat) (ff:Nat→Rec) (k332:KT) (p331:ST):RT:=AH (G5 n ff k332 p331) n ([],rh p331 0 CK)
theorem vC14_4 (n:Nat) (ff:Nat→Rec) (k332:KT) (p331:ST):Dc C (Fo C (pcx C (AA C n)) n ff HR 10) (pcx C (AA C n)) n 53 [AV.ptr 7 0,.t (tI (vI p331 1))] (rh p331 0 C8) (fun rs h1=>cnd (BN C.P (A9 C.P 53) rs=true) (EH (rh p331 0 C8) h1 fun hs=>k332 (rs,hs)) none)=ZP n ff k332 p331:=by kernel_rfl
theorem tC14_4 (n:Nat) (k332:KT) (p331:ST):WJ n (fI C n) k332 p331=ZP n (fI C n) k332 p331:=(GU C n HR 10 _ 53 _ _ _).trans (vC14_4 n (fI C n) k332 p331)
noncomputable def RI (n:Nat) (ff:Nat→Rec) (p360:ST) (k361:KT) (p362:ST):RT:=cnd (vB p362 0=true) (bd [0,0,0,0,0,0,0,0,2,0,0,0,5,0,0,12,0] (AA C n 84 (ct kS p362 7 0 [tI (vI p360 1)])) fun y368=>cnd (((gI y368 16) != 0)=true) (k361 ([],upd (rh p362 0 CK) [(7,.box (upd (rb p362 7 0 A5) [(14,.t (tI 3))]))])) (cnd (length (gL y368 15)=0∧AO p362 7 27+AJ p362 7 27<length (oEs p362 1)) (cnd (AD p362 1=AK p362 7 27) (k361 ([],upd (rh p362 0 CK) [(7,.box (upd (rb p362 7 0 A5) [(0,.t (tI (gI y368 0))),(1,.t (tI (gI y368 1))),(2,.t (tI (gI y368 2))),(3,.t (tI (gI y368 3))),(4,.t (tI (gI y368 4))),(5,.t (tI (gI y368 5))),(6,.t (tI (gI y368 6))),(7,.t (tI (gI y368 7))),(8,.t (.str (gS y368 8))),(9,.t (tI (gI y368 9))),(10,AV.t (tI (gI y368 10))),(11,.t (tI (gI y368 11))),(12,.t (.sl 2 (gL y368 12))),(13,.t (tI (gI y368 13))),(14,.t (tI (gI y368 14)))]))])) none) (cnd (AD p362 1=AK p362 7 27∧(9=9∨9=0)∧AO p362 7 27+AJ p362 7 27≤length (oEs p362 1)∧AJ p362 7 27+length (gL y368 15)≤1073741824) (k361 ([],upd (rh p362 0 CK) [(1,.row false (AK p362 7 27+1) 9 (take (AJ p362 7 27) (drop (AO p362 7 27) (oEs p362 1))++gL y368 15)),(7,.box (upd (rb p362 7 0 A5) [(0,.t (tI (gI y368 0))),(1,.t (tI (gI y368 1))),(2,.t (tI (gI y368 2))),(3,.t (tI (gI y368 3))),(4,.t (tI (gI y368 4))),(5,.t (tI (gI y368 5))),(6,.t (tI (gI y368 6))),(7,AV.t (tI (gI y368 7))),(8,.t (.str (gS y368 8))),(9,.t (tI (gI y368 9))),(10,.t (tI (gI y368 10))),(11,.t (tI (gI y368 11))),(12,.t (.sl 2 (gL y368 12))),(13,.t (tI (gI y368 13))),(14,.t (tI (gI y368 14))),(27,.sref 1 (AK p362 7 27+1) 0 (AJ p362 7 27+length (gL y368 15)))]))])) none))) (k361 ([],rh p362 0 CK))
noncomputable def WI (n:Nat) (ff:Nat→Rec) (k361:KT) (p360:ST):RT:=ff 11 (List Tree) (.fn 54 [AV.ptr 7 0,.t (tI (vI p360 1))]) (rh p360 0 C8) fun rs h1=>cnd (BN C.P (A9 C.P 54) rs=true) (EH (rh p360 0 C8) h1 fun hs=>k361 (rs,hs)) none
noncomputable def S9 (n:Nat) (ff:Nat→Rec) (k361:KT) (p360:ST):RT:=join (RI n ff p360 k361) fun k363=>cnd ((cI p360 7 14==1)=true) (cnd ((cI p360 7 13==vI p360 1)=true) (k363 ([.t (.bool (!(decide (cI p360 7 31≥(10000:Int)))))],rh p360 0 CK)) (k363 ([.t (.bool false)],rh p360 0 CK))) (k363 ([.t (.bool false)],rh p360 0 CK))
theorem vC14_5 (n:Nat) (ff:Nat→Rec) (k361:KT) (p360:ST):Dc C (Fo C (pcx C (AA C n)) n ff HR 10) (pcx C (AA C n)) n 54 [AV.ptr 7 0,.t (tI (vI p360 1))] (rh p360 0 C8) (fun rs h1=>cnd (BN C.P (A9 C.P 54) rs=true) (EH (rh p360 0 C8) h1 fun hs=>k361 (rs,hs)) none)=S9 n ff k361 p360:=by kernel_rfl
theorem TP (n:Nat) (k361:KT) (p360:ST):WI n (fI C n) k361 p360=S9 n (fI C n) k361 p360:=(GU C n HR 10 _ 54 _ _ _).trans (vC14_5 n (fI C n) k361 p360)
noncomputable def Zq (n:Nat) (ff:Nat→Rec) (k18:KT) (p60:ST) (y14 y15 y16:List Tree) (p358:ST):RT:=join (Df n ff k18) fun k370=>WI n ff k370 ([AV.ptr 7 0,.t (tI (vI p60 0))],upd (rh p358 0 C8) [(2,.row true 0 15 [[tI (gI y14 0),tI (gI y14 1),tI (gI y14 2),tI (gI y14 3),tI (gI y14 4),tI (gI y14 5),tI (gI y14 6),tI (gI y14 7),.str (gS y14 8),tI (gI y14 9),tI (gI y14 10),tI (gI y14 11),.sl 2 (gL y14 12),tI (gI y14 13),tI (gI y14 14)]]),(3,.row true 0 4 [[tI (gI y15 0),tI (gI y15 1),.sl 2 (gL y15 2),.str (gS y15 3)]]),(4,.row true 0 4 [[tI (gI y16 0),.sl 10 (gL y16 1),tI (gI y16 2),tI (gI y16 3)]])])
noncomputable def Zp (n:Nat) (ff:Nat→Rec) (k18:KT) (p60:ST) (y14 y15 y16:List Tree) (p329:ST):RT:=join (Zq n ff k18 p60 y14 y15 y16) fun k359=>WJ n ff k359 ([AV.ptr 7 0,.t (tI (vI p60 0))],upd (rh p329 0 C8) [(2,.row true 0 15 [[tI (gI y14 0),tI (gI y14 1),tI (gI y14 2),tI (gI y14 3),tI (gI y14 4),tI (gI y14 5),tI (gI y14 6),tI (gI y14 7),.str (gS y14 8),tI (gI y14 9),tI (gI y14 10),tI (gI y14 11),.sl 2 (gL y14 12),tI (gI y14 13),tI (gI y14 14)]]),(3,.row true 0 4 [[tI (gI y15 0),tI (gI y15 1),.sl 2 (gL y15 2),Tree.str (gS y15 3)]]),(4,.row true 0 4 [[tI (gI y16 0),.sl 10 (gL y16 1),tI (gI y16 2),tI (gI y16 3)]])])
noncomputable def Zo (n:Nat) (ff:Nat→Rec) (k18:KT) (p60:ST) (y14 y15 y16:List Tree) (p120:ST):RT:=join (Zp n ff k18 p60 y14 y15 y16) fun k330=>WK n ff k330 ([AV.ptr 7 0,.t (tI (vI p60 0))],upd (rh p120 0 C8) [(2,.row true 0 15 [[tI (gI y14 0),tI (gI y14 1),tI (gI y14 2),tI (gI y14 3),tI (gI y14 4),tI (gI y14 5),tI (gI y14 6),tI (gI y14 7),.str (gS y14 8),tI (gI y14 9),tI (gI y14 10),tI (gI y14 11),.sl 2 (gL y14 12),tI (gI y14 13),tI (gI y14 14)]]),(3,.row true 0 4 [[tI (gI y15 0),tI (gI y15 1),.sl 2 (gL y15 2),Tree.str (gS y15 3)]]),(4,.row true 0 4 [[tI (gI y16 0),.sl 10 (gL y16 1),tI (gI y16 2),tI (gI y16 3)]])])
noncomputable def Ue (n:Nat) (ff:Nat→Rec) (k18:KT) (y14 y15 y16:List Tree) (p60:ST):RT:=cnd ((!(vB p60 1))=true) (some (ct [1,0,1,0] p60 7 33 [tI (cI p60 7 10),tI (cI p60 7 31),tI (w64 (cI p60 7 22+cI p60 7 26)),tI 0])) (join (Zo n ff k18 p60 y14 y15 y16) fun k121=>WL n ff k121 ([AV.ptr 7 0,.t (tI (vI p60 0))],upd (rh p60 0 C8) [(2,.row true 0 15 [[tI (gI y14 0),tI (gI y14 1),tI (gI y14 2),tI (gI y14 3),tI (gI y14 4),tI (gI y14 5),tI (gI y14 6),tI (gI y14 7),.str (gS y14 8),tI (gI y14 9),tI (gI y14 10),tI (gI y14 11),.sl 2 (gL y14 12),tI (gI y14 13),tI (gI y14 14)]]),(3,.row true 0 4 [[tI (gI y15 0),tI (gI y15 1),.sl 2 (gL y15 2),.str (gS y15 3)]]),(4,.row true 0 4 [[tI (gI y16 0),.sl 10 (gL y16 1),tI (gI y16 2),tI (gI y16 3)]])]))
noncomputable def Jq (n:Nat) (ff:Nat→Rec) (y14 y15 y16:List Tree) (p17:ST) (k18:KT):RT:=join (Ue n ff k18 y14 y15 y16) fun k61=>Z0 n ff k61 ([AV.ptr 7 0],upd (rh p17 0 C8) [(2,.row true 0 15 [[tI (gI y14 0),tI (gI y14 1),tI (gI y14 2),tI (gI y14 3),tI (gI y14 4),tI (gI y14 5),tI (gI y14 6),tI (gI y14 7),.str (gS y14 8),tI (gI y14 9),tI (gI y14 10),tI (gI y14 11),.sl 2 (gL y14 12),tI (gI y14 13),tI (gI y14 14)]]),(3,.row true 0 4 [[tI (gI y15 0),tI (gI y15 1),.sl 2 (gL y15 2),.str (gS y15 3)]]),(4,.row true 0 4 [[tI (gI y16 0),.sl 10 (gL y16 1),tI (gI y16 2),tI (gI y16 3)]])])
theorem v14 (n:Nat) (ff:Nat→Rec) (a0 a1 a2 a3 a4 a5 a6 a7 a8:Int) (a9:ByteArray) (a10:TT) (a11:Int) (a12:TT):KH C (Fo C (pcx C (AA C n)) n ff HR C.depth) (pcx C (AA C n)) n 14 [tI a0,tI a1,tI a2,tI a3,tI a4,tI a5,tI a6,tI a7,tI a8,.str a9,.sl 1 a10,tI a11,.sl 2 a12]=cnd (decide ((length a10:Int)>1000)=true) (some (zt [1,0,1,0,0,0,0] [tI 4])) (cnd (decide (a11<(-1))=true) (some (zt [1,0,1,0,0,0,0] [tI 2])) (bd [0] (AA C n 31 [.sl 2 a12]) fun y13=>cnd (((gI y13 0) != 0)=true) (some (zt [1,0,1,0,0,0,0] [tI 1])) (bd [0,0,0,0,0,0,0,0,2,0,0,0,5,0,0,12,0] (AA C n 2003023 [tI a0,tI a1,tI a2,tI a3,tI a4,tI a5,tI a6,tI 0,.str a9,tI a7,tI a8]) fun y14=>cnd (((gI y14 16) != 0)=true) (some (zt [1,0,1,0,0,0,0] [tI (gI y14 16)])) (bd [0,0,5,2,0] (AA C n 48 [tI 0]) fun y15=>bd [0,13,0,0,0] (AA C n 49 [tI a5]) fun y16=>AH (Jq n ff y14 y15 y16) n ([],[.box (tv (zt [1,0,1,0,0,0,0] [])),.row false 0 9 (gL y14 15),.box [],.box [],.box [],.row false 0 9 [],.row false 0 9 [],.box [.t (tI (gI y14 0)),.t (tI (gI y14 1)),.t (tI (gI y14 2)),.t (tI (gI y14 3)),.t (tI (gI y14 4)),.t (tI (gI y14 5)),.t (tI (gI y14 6)),.t (tI (gI y14 7)),.t (.str (gS y14 8)),.t (tI (gI y14 9)),.t (tI (gI y14 10)),.t (tI (gI y14 11)),.t (.sl 2 (gL y14 12)),.t (tI (gI y14 13)),.t (tI (gI y14 14)),.t (tI (gI y15 0)),.t (tI (gI y15 1)),.t (.sl 2 (gL y15 2)),.t (.str (gS y15 3)),.t (tI (gI y16 0)),.t (.sl 10 (gL y16 1)),.t (tI (gI y16 2)),.t (tI (gI y16 3)),.t (tI (gI y16 0)),.t (.sl 10 (gL y16 1)),.t (tI (gI y16 2)),.t (tI (gI y16 3)),.sref 1 0 0 (length (gL y14 15)),.t (.sl 1 a10),.t (tI a11),.t (.sl 2 a12),.t (tI 0),.t (tI 0),.t (.bool false),.t (tI 0),.t (.bool false),.t (tI 0),.t (tI 0),.t (tI 0),.t (tI 0),.sref 5 0 0 0,.sref 6 0 0 0]]))))):=by kernel_rfl
theorem u14 (a0:Int) (a1:Int) (a2:Int) (a3:Int) (a4:Int) (a5:Int) (a6:Int) (a7:Int) (a8:Int) (a9:ByteArray) (a10:List (List Tree)) (a11:Int) (a12:List (List Tree)):C.ext 14 [tI a0,tI a1,tI a2,tI a3,tI a4,tI a5,tI a6,tI a7,tI a8,.str a9,.sl 1 a10,tI a11,.sl 2 a12]=none:=by kernel_rfl
theorem e14 (n:Nat) (a0 a1 a2 a3 a4 a5 a6 a7 a8:Int) (a9:ByteArray) (a10:TT) (a11:Int) (a12:TT):AA C (n+1) 14 [tI a0,tI a1,tI a2,tI a3,tI a4,tI a5,tI a6,tI a7,tI a8,.str a9,.sl 1 a10,tI a11,.sl 2 a12]=cnd (decide ((length a10:Int)>1000)=true) (some (zt [1,0,1,0,0,0,0] [tI 4])) (cnd (decide (a11<(-1))=true) (some (zt [1,0,1,0,0,0,0] [tI 2])) (bd [0] (AA C n 31 [.sl 2 a12]) fun y13=>cnd (((gI y13 0) != 0)=true) (some (zt [1,0,1,0,0,0,0] [tI 1])) (bd [0,0,0,0,0,0,0,0,2,0,0,0,5,0,0,12,0] (AA C n 2003023 [tI a0,tI a1,tI a2,tI a3,tI a4,tI a5,tI a6,tI 0,.str a9,tI a7,tI a8]) fun y14=>cnd (((gI y14 16) != 0)=true) (some (zt [1,0,1,0,0,0,0] [tI (gI y14 16)])) (bd [0,0,5,2,0] (AA C n 48 [tI 0]) fun y15=>bd [0,13,0,0,0] (AA C n 49 [tI a5]) fun y16=>AH (fun (p17:ST) (k18:_→RT)=>Jq n (fI C n) y14 y15 y16 p17 k18) n ([],[.box (tv (zt [1,0,1,0,0,0,0] [])),.row false 0 9 (gL y14 15),.box [],.box [],.box [],.row false 0 9 [],.row false 0 9 [],.box [.t (tI (gI y14 0)),.t (tI (gI y14 1)),.t (tI (gI y14 2)),.t (tI (gI y14 3)),.t (tI (gI y14 4)),.t (tI (gI y14 5)),.t (tI (gI y14 6)),.t (tI (gI y14 7)),.t (.str (gS y14 8)),.t (tI (gI y14 9)),.t (tI (gI y14 10)),.t (tI (gI y14 11)),.t (.sl 2 (gL y14 12)),.t (tI (gI y14 13)),.t (tI (gI y14 14)),.t (tI (gI y15 0)),.t (tI (gI y15 1)),.t (.sl 2 (gL y15 2)),.t (.str (gS y15 3)),.t (tI (gI y16 0)),.t (.sl 10 (gL y16 1)),.t (tI (gI y16 2)),.t (tI (gI y16 3)),.t (tI (gI y16 0)),.t (.sl 10 (gL y16 1)),.t (tI (gI y16 2)),.t (tI (gI y16 3)),.sref 1 0 0 (length (gL y14 15)),.t (.sl 1 a10),.t (tI a11),.t (.sl 2 a12),.t (tI 0),.t (tI 0),.t (.bool false),.t (tI 0),.t (.bool false),.t (tI 0),.t (tI 0),.t (tI 0),.t (tI 0),.sref 5 0 0 0,.sref 6 0 0 0]]))))):=(OB C n 14 _ (by decide) (u14 a0 a1 a2 a3 a4 a5 a6 a7 a8 a9 a10 a11 a12)).trans ((pureO C n HR 14 _).symm.trans (v14 n (fI C n) a0 a1 a2 a3 a4 a5 a6 a7 a8 a9 a10 a11 a12))
end Ab
set_option linter.unusedVariables false
set_option linter.unusedSimpArgs false
set_option maxRecDepth 100000
namespace Ab
open Go
def Ai (a:Rw):List AV:=[.t (tI a.snd.c.frm),.t (tI a.snd.c.dst),.t (tI a.snd.c.start),.t (tI a.snd.c.fin),.t (tI a.snd.c.rate),.t (tI a.snd.c.rng),.t (tI a.snd.c.loss),.t (tI a.snd.ses),.t (.str a.snd.data),.t (tI a.snd.fin),.t (tI a.snd.busy),.t (tI a.snd.ser),.t (.sl 2 (a.snd.acked.map Span.enc)),.t (tI a.snd.due),.t (tI a.snd.st),.t (tI a.rcv.ses),.t (tI a.rcv.tot),.t (.sl 2 (a.rcv.known.map Span.enc)),.t (.str a.rcv.data),.t (tI a.dat.rng),.t (.sl 10 (a.dat.frames.map Frame.enc)),.t (tI a.dat.sent),.t (tI a.dat.lost),.t (tI a.rep.rng),.t (.sl 10 (a.rep.frames.map Frame.enc)),.t (tI a.rep.sent),.t (tI a.rep.lost),.sref 1 a.v0 a.p1 a.p2,.t (.sl 1 (a.picks.map Az)),.t (tI a.limit),.t (.sl 2 (a.dark.map Span.enc)),.t (tI a.entered),.t (tI a.dist),.t (.bool a.rcvd),.t (tI a.arrive),.t (.bool a.kno),.t (tI a.knoAt),.t (tI 0),.t (tI 0),.t (tI 0),.sref 5 a.v4 0 a.n4,.sref 6 a.v5 0 a.n5]
def Al (f1 f2 f3:AI) (v0:Nat) (e0:List (List Tree)) (v4:Nat) (e4:List (List Tree)) (v5:Nat) (e5:List (List Tree)) (c:List AV) (tl:Heap):Heap:=
 .box [.t (.bool false),.t (tI 0),.t (.bool false),.t (tI 0),.t (tI 0),.t (tI 0),.t (tI 0)] :: .row false v0 9 e0::f1::f2::f3 :: .row false v4 9 e4 :: .row false v5 9 e5 :: .box c::tl
def H14 (f1 f2 f3:AI) (g:Gh) (s:Ses) (tl:Heap):Heap:=Al f1 f2 f3 g.v0 (g.pre++s.pend.map Out.enc) g.v4 (s.sent.map Out.enc) g.v5 (s.told.map Out.enc) (Ai (rwO g s)) tl
section
variable (e:List AV) (f1 f2 f3:AI) (v0:Nat) (e0:List (List Tree)) (v4:Nat) (e4:List (List Tree)) (v5:Nat) (e5:List (List Tree)) (a:Rw)
theorem rd14 (tl:Heap) :
 cI (e,Al f1 f2 f3 v0 e0 v4 e4 v5 e5 (Ai a) tl) 7 0=a.snd.c.frm∧
 cI (e,Al f1 f2 f3 v0 e0 v4 e4 v5 e5 (Ai a) tl) 7 1=a.snd.c.dst∧
 cI (e,Al f1 f2 f3 v0 e0 v4 e4 v5 e5 (Ai a) tl) 7 2=a.snd.c.start∧
 cI (e,Al f1 f2 f3 v0 e0 v4 e4 v5 e5 (Ai a) tl) 7 3=a.snd.c.fin∧
 cI (e,Al f1 f2 f3 v0 e0 v4 e4 v5 e5 (Ai a) tl) 7 4=a.snd.c.rate∧
 cI (e,Al f1 f2 f3 v0 e0 v4 e4 v5 e5 (Ai a) tl) 7 5=a.snd.c.rng∧
 cI (e,Al f1 f2 f3 v0 e0 v4 e4 v5 e5 (Ai a) tl) 7 6=a.snd.c.loss∧
 cI (e,Al f1 f2 f3 v0 e0 v4 e4 v5 e5 (Ai a) tl) 7 7=a.snd.ses∧
 cS (e,Al f1 f2 f3 v0 e0 v4 e4 v5 e5 (Ai a) tl) 7 8=a.snd.data∧
 cI (e,Al f1 f2 f3 v0 e0 v4 e4 v5 e5 (Ai a) tl) 7 9=a.snd.fin∧
 cI (e,Al f1 f2 f3 v0 e0 v4 e4 v5 e5 (Ai a) tl) 7 10=a.snd.busy∧
 cI (e,Al f1 f2 f3 v0 e0 v4 e4 v5 e5 (Ai a) tl) 7 11=a.snd.ser∧
 cL (e,Al f1 f2 f3 v0 e0 v4 e4 v5 e5 (Ai a) tl) 7 12=a.snd.acked.map Span.enc∧
 cI (e,Al f1 f2 f3 v0 e0 v4 e4 v5 e5 (Ai a) tl) 7 13=a.snd.due∧
 cI (e,Al f1 f2 f3 v0 e0 v4 e4 v5 e5 (Ai a) tl) 7 14=a.snd.st∧
 cI (e,Al f1 f2 f3 v0 e0 v4 e4 v5 e5 (Ai a) tl) 7 15=a.rcv.ses∧
 cI (e,Al f1 f2 f3 v0 e0 v4 e4 v5 e5 (Ai a) tl) 7 16=a.rcv.tot∧
 cL (e,Al f1 f2 f3 v0 e0 v4 e4 v5 e5 (Ai a) tl) 7 17=a.rcv.known.map Span.enc∧
 cS (e,Al f1 f2 f3 v0 e0 v4 e4 v5 e5 (Ai a) tl) 7 18=a.rcv.data∧
 cI (e,Al f1 f2 f3 v0 e0 v4 e4 v5 e5 (Ai a) tl) 7 19=a.dat.rng∧
 cL (e,Al f1 f2 f3 v0 e0 v4 e4 v5 e5 (Ai a) tl) 7 20=a.dat.frames.map Frame.enc∧
 cI (e,Al f1 f2 f3 v0 e0 v4 e4 v5 e5 (Ai a) tl) 7 21=a.dat.sent∧
 cI (e,Al f1 f2 f3 v0 e0 v4 e4 v5 e5 (Ai a) tl) 7 22=a.dat.lost∧
 cI (e,Al f1 f2 f3 v0 e0 v4 e4 v5 e5 (Ai a) tl) 7 23=a.rep.rng∧
 cL (e,Al f1 f2 f3 v0 e0 v4 e4 v5 e5 (Ai a) tl) 7 24=a.rep.frames.map Frame.enc∧
 cI (e,Al f1 f2 f3 v0 e0 v4 e4 v5 e5 (Ai a) tl) 7 25=a.rep.sent∧
 cI (e,Al f1 f2 f3 v0 e0 v4 e4 v5 e5 (Ai a) tl) 7 26=a.rep.lost∧
 AK (e,Al f1 f2 f3 v0 e0 v4 e4 v5 e5 (Ai a) tl) 7 27=a.v0∧
 AO (e,Al f1 f2 f3 v0 e0 v4 e4 v5 e5 (Ai a) tl) 7 27=a.p1∧
 AJ (e,Al f1 f2 f3 v0 e0 v4 e4 v5 e5 (Ai a) tl) 7 27=a.p2∧
 cL (e,Al f1 f2 f3 v0 e0 v4 e4 v5 e5 (Ai a) tl) 7 28=a.picks.map Az∧
 cI (e,Al f1 f2 f3 v0 e0 v4 e4 v5 e5 (Ai a) tl) 7 29=a.limit∧
 cL (e,Al f1 f2 f3 v0 e0 v4 e4 v5 e5 (Ai a) tl) 7 30=a.dark.map Span.enc∧
 cI (e,Al f1 f2 f3 v0 e0 v4 e4 v5 e5 (Ai a) tl) 7 31=a.entered∧
 cI (e,Al f1 f2 f3 v0 e0 v4 e4 v5 e5 (Ai a) tl) 7 32=a.dist∧
 cB (e,Al f1 f2 f3 v0 e0 v4 e4 v5 e5 (Ai a) tl) 7 33=a.rcvd∧
 cI (e,Al f1 f2 f3 v0 e0 v4 e4 v5 e5 (Ai a) tl) 7 34=a.arrive∧
 cB (e,Al f1 f2 f3 v0 e0 v4 e4 v5 e5 (Ai a) tl) 7 35=a.kno∧
 cI (e,Al f1 f2 f3 v0 e0 v4 e4 v5 e5 (Ai a) tl) 7 36=a.knoAt∧
 cI (e,Al f1 f2 f3 v0 e0 v4 e4 v5 e5 (Ai a) tl) 7 37=0∧
 cI (e,Al f1 f2 f3 v0 e0 v4 e4 v5 e5 (Ai a) tl) 7 38=0∧
 cI (e,Al f1 f2 f3 v0 e0 v4 e4 v5 e5 (Ai a) tl) 7 39=0∧
 AK (e,Al f1 f2 f3 v0 e0 v4 e4 v5 e5 (Ai a) tl) 7 40=a.v4∧
 AO (e,Al f1 f2 f3 v0 e0 v4 e4 v5 e5 (Ai a) tl) 7 40=0∧
 AJ (e,Al f1 f2 f3 v0 e0 v4 e4 v5 e5 (Ai a) tl) 7 40=a.n4∧
 AK (e,Al f1 f2 f3 v0 e0 v4 e4 v5 e5 (Ai a) tl) 7 41=a.v5∧
 AO (e,Al f1 f2 f3 v0 e0 v4 e4 v5 e5 (Ai a) tl) 7 41=0∧
 AJ (e,Al f1 f2 f3 v0 e0 v4 e4 v5 e5 (Ai a) tl) 7 41=a.n5:=
 ⟨rfl,rfl,rfl,rfl,rfl,rfl,rfl,rfl,rfl,rfl,rfl,rfl,rfl,rfl,rfl,rfl,rfl,rfl,rfl,rfl,rfl,rfl,rfl,rfl,rfl,rfl,rfl,rfl,rfl,rfl,rfl,rfl,rfl,rfl,rfl,rfl,rfl,rfl,rfl,rfl,rfl,rfl,rfl,rfl,rfl,rfl,rfl,rfl⟩
theorem rc14 (c:List AV) (tl:Heap) :
 AD (e,Al f1 f2 f3 v0 e0 v4 e4 v5 e5 c tl) 1=v0∧
 oEs (e,Al f1 f2 f3 v0 e0 v4 e4 v5 e5 c tl) 1=e0∧
 AD (e,Al f1 f2 f3 v0 e0 v4 e4 v5 e5 c tl) 5=v4∧
 oEs (e,Al f1 f2 f3 v0 e0 v4 e4 v5 e5 c tl) 5=e4∧
 AD (e,Al f1 f2 f3 v0 e0 v4 e4 v5 e5 c tl) 6=v5∧
 oEs (e,Al f1 f2 f3 v0 e0 v4 e4 v5 e5 c tl) 6=e5∧
 AD (e,Al f1 f2 f3 v0 e0 v4 e4 v5 e5 c tl) 2=f1.ver∧
 oEs (e,Al f1 f2 f3 v0 e0 v4 e4 v5 e5 c tl) 2=Bj f1∧
 AD (e,Al f1 f2 f3 v0 e0 v4 e4 v5 e5 c tl) 3=f2.ver∧
 oEs (e,Al f1 f2 f3 v0 e0 v4 e4 v5 e5 c tl) 3=Bj f2∧
 AD (e,Al f1 f2 f3 v0 e0 v4 e4 v5 e5 c tl) 4=f3.ver∧
 oEs (e,Al f1 f2 f3 v0 e0 v4 e4 v5 e5 c tl) 4=Bj f3:=
 ⟨rfl,rfl,rfl,rfl,rfl,rfl,rfl,rfl,rfl,rfl,rfl,rfl⟩
theorem X4 (c:List AV) (o0:AI) (tl:Heap) :
 AD (e,Al f1 f2 f3 v0 e0 v4 e4 v5 e5 c (o0::tl)) 8=o0.ver∧
 oEs (e,Al f1 f2 f3 v0 e0 v4 e4 v5 e5 c (o0::tl)) 8=Bj o0:=
 ⟨rfl,rfl⟩
theorem YH (tl:Heap):rh (e,Al f1 f2 f3 v0 e0 v4 e4 v5 e5 (Ai a) (tl)) 0 C8=Al (.row true f1.ver 15 (Bj f1)) (.row true f2.ver 4 (Bj f2)) (.row true f3.ver 4 (Bj f3)) v0 e0 v4 e4 v5 e5 (Ai a) []:=by intros;rfl
theorem YE (tl:Heap):rh (e,Al f1 f2 f3 v0 e0 v4 e4 v5 e5 (Ai a) (tl)) 0 CK=Al E0 E0 E0 v0 e0 v4 e4 v5 e5 (Ai a) []:=by intros;rfl
theorem YD (tl:Heap):rh (e,Al f1 f2 f3 v0 e0 v4 e4 v5 e5 (Ai a) (tl)) 0 TH=Al E0 E0 E0 v0 e0 v4 e4 v5 e5 (Ai a) [.box []]:=by intros;rfl
theorem YF (o0:AI) (tl:Heap):rh (e,Al f1 f2 f3 v0 e0 v4 e4 v5 e5 (Ai a) (o0::tl)) 0 FM=Al E0 E0 E0 v0 e0 v4 e4 v5 e5 (Ai a) [.row false o0.ver 1 (Bj o0)]:=by intros;rfl
theorem YA (o0 o1:AI) (tl:Heap):rh (e,Al f1 f2 f3 v0 e0 v4 e4 v5 e5 (Ai a) (o0::o1::tl)) 0 Cq=Al E0 E0 E0 v0 e0 v4 e4 v5 e5 (Ai a) [.box [],.box [.t (tI (intOf (AE (cellOf o1 0)))),.t (.sl 10 (CD (AE (cellOf o1 1)))),.t (tI (intOf (AE (cellOf o1 2)))),.t (tI (intOf (AE (cellOf o1 3))))]]:=by intros;rfl
theorem X8 (o0 o1 o2:AI) (tl:Heap):rh (e,Al f1 f2 f3 v0 e0 v4 e4 v5 e5 (Ai a) (o0::o1::o2::tl)) 0 Et=Al E0 E0 E0 v0 e0 v4 e4 v5 e5 (Ai a) [.box [.t (tI (intOf (AE (cellOf o0 0)))),.t (.sl 10 (CD (AE (cellOf o0 1)))),.t (tI (intOf (AE (cellOf o0 2)))),.t (tI (intOf (AE (cellOf o0 3))))],.box [],.box [.t (tI (intOf (AE (cellOf o2 0)))),.t (tI (intOf (AE (cellOf o2 1)))),.t (.sl 2 (CD (AE (cellOf o2 2)))),.t (.str (strOf (AE (cellOf o2 3))))]]:=by intros;rfl
theorem VQ (o0 o1 o2 o3:AI) (tl:Heap):rh (e,Al f1 f2 f3 v0 e0 v4 e4 v5 e5 (Ai a) (o0::o1::o2::o3::tl)) 0 CX=Al E0 E0 E0 v0 e0 v4 e4 v5 e5 (Ai a) [.box [.t (tI (intOf (AE (cellOf o0 0)))),.t (.sl 10 (CD (AE (cellOf o0 1)))),.t (tI (intOf (AE (cellOf o0 2)))),.t (tI (intOf (AE (cellOf o0 3))))],.box [],.box [.t (tI (intOf (AE (cellOf o2 0)))),.t (tI (intOf (AE (cellOf o2 1)))),.t (.sl 2 (CD (AE (cellOf o2 2)))),.t (.str (strOf (AE (cellOf o2 3))))],.box [.t (tI (intOf (AE (cellOf o3 0)))),.t (.sl 10 (CD (AE (cellOf o3 1)))),.t (tI (intOf (AE (cellOf o3 2)))),.t (tI (intOf (AE (cellOf o3 3))))]]:=by intros;rfl
theorem X3 (x:AI):upd (rh (e,Al f1 f2 f3 v0 e0 v4 e4 v5 e5 (Ai a) []) 0 FM) [(8,x)]=Al E0 E0 E0 v0 e0 v4 e4 v5 e5 (Ai a) [x]:=by intros;rfl
theorem X1 (d:List AV) (y:AI):upd (rh (e,Al f1 f2 f3 v0 e0 v4 e4 v5 e5 (Ai a) []) 0 Cq) [(7,.box d),(9,y)]=Al E0 E0 E0 v0 e0 v4 e4 v5 e5 d [.box [],y]:=by intros;rfl
theorem VC (y:AI):upd (rh (e,Al f1 f2 f3 v0 e0 v4 e4 v5 e5 (Ai a) []) 0 Cq) [(9,y)]=Al E0 E0 E0 v0 e0 v4 e4 v5 e5 (Ai a) [.box [],y]:=by intros;rfl
theorem VB (o0:AI) (d:List AV) (y:AI):upd (rh (e,Al f1 f2 f3 v0 e0 v4 e4 v5 e5 (Ai a) [o0]) 0 Cq) [(7,.box d),(9,y)]=Al E0 E0 E0 v0 e0 v4 e4 v5 e5 d [.box [],y]:=by intros;rfl
theorem VA (o0:AI) (y:AI):upd (rh (e,Al f1 f2 f3 v0 e0 v4 e4 v5 e5 (Ai a) [o0]) 0 Cq) [(9,y)]=Al E0 E0 E0 v0 e0 v4 e4 v5 e5 (Ai a) [.box [],y]:=by intros;rfl
theorem Xz (d:List AV) (x y:AI):upd (rh (e,Al f1 f2 f3 v0 e0 v4 e4 v5 e5 (Ai a) []) 0 Et) [(7,.box d),(8,x),(10,y)]=Al E0 E0 E0 v0 e0 v4 e4 v5 e5 d [x,.box [],y]:=by intros;rfl
theorem VI (o0 o1 o2:AI) (d:List AV) (y:AI):upd (rh (e,Al f1 f2 f3 v0 e0 v4 e4 v5 e5 (Ai a) [o0,o1,o2]) 0 CX) [(7,.box d),(11,y)]=Al E0 E0 E0 v0 e0 v4 e4 v5 e5 d [.box [.t (tI (intOf (AE (cellOf o0 0)))),.t (.sl 10 (CD (AE (cellOf o0 1)))),.t (tI (intOf (AE (cellOf o0 2)))),.t (tI (intOf (AE (cellOf o0 3))))],.box [],.box [.t (tI (intOf (AE (cellOf o2 0)))),.t (tI (intOf (AE (cellOf o2 1)))),.t (.sl 2 (CD (AE (cellOf o2 2)))),.t (.str (strOf (AE (cellOf o2 3))))],y]:=by intros;rfl
theorem Rr (o0 o1 o2:AI) (y:AI):upd (rh (e,Al f1 f2 f3 v0 e0 v4 e4 v5 e5 (Ai a) [o0,o1,o2]) 0 CX) [(11,y)]=Al E0 E0 E0 v0 e0 v4 e4 v5 e5 (Ai a) [.box [.t (tI (intOf (AE (cellOf o0 0)))),.t (.sl 10 (CD (AE (cellOf o0 1)))),.t (tI (intOf (AE (cellOf o0 2)))),.t (tI (intOf (AE (cellOf o0 3))))],.box [],.box [.t (tI (intOf (AE (cellOf o2 0)))),.t (tI (intOf (AE (cellOf o2 1)))),.t (.sl 2 (CD (AE (cellOf o2 2)))),.t (.str (strOf (AE (cellOf o2 3))))],y]:=by intros;rfl
theorem RZ (x y z:AI) (c:List AV) (tl:Heap):upd (Al f1 f2 f3 v0 e0 v4 e4 v5 e5 c (tl)) [(2,x),(3,y),(4,z)]=Al x y z v0 e0 v4 e4 v5 e5 c tl:=by intros;rfl
theorem XT (d:List AV) (c:List AV) (tl:Heap):upd (Al f1 f2 f3 v0 e0 v4 e4 v5 e5 c (tl)) [(7,.box d)]=Al f1 f2 f3 v0 e0 v4 e4 v5 e5 d tl:=by intros;rfl
theorem Ur (d:List AV) (w:Nat) (r:List (List Tree)) (c:List AV) (tl:Heap):upd (Al f1 f2 f3 v0 e0 v4 e4 v5 e5 c (tl)) [(1,.row false w 9 r),(7,.box d)]=Al f1 f2 f3 w r v4 e4 v5 e5 d tl:=by intros;rfl
theorem Uo (d:List AV) (w:Nat) (r:List (List Tree)) (c:List AV) (tl:Heap):upd (Al f1 f2 f3 v0 e0 v4 e4 v5 e5 c (tl)) [(5,.row false w 9 r),(7,.box d)]=Al f1 f2 f3 v0 e0 w r v5 e5 d tl:=by intros;rfl
theorem Um (d:List AV) (w:Nat) (r:List (List Tree)) (c:List AV) (tl:Heap):upd (Al f1 f2 f3 v0 e0 v4 e4 v5 e5 c (tl)) [(6,.row false w 9 r),(7,.box d)]=Al f1 f2 f3 v0 e0 v4 e4 w r d tl:=by intros;rfl
theorem XR (x o0:AI) (c:List AV) (tl:Heap):upd (Al f1 f2 f3 v0 e0 v4 e4 v5 e5 c (o0::tl)) [(8,x)]=Al f1 f2 f3 v0 e0 v4 e4 v5 e5 c (x::tl):=by intros;rfl
theorem XP (x o0 o1:AI) (c:List AV) (tl:Heap):upd (Al f1 f2 f3 v0 e0 v4 e4 v5 e5 c (o0::o1::tl)) [(9,x)]=Al f1 f2 f3 v0 e0 v4 e4 v5 e5 c (o0::x::tl):=by intros;rfl
theorem Uj (d:List AV) (x o0 o1:AI) (c:List AV) (tl:Heap):upd (Al f1 f2 f3 v0 e0 v4 e4 v5 e5 c (o0::o1::tl)) [(7,.box d),(9,x)]=Al f1 f2 f3 v0 e0 v4 e4 v5 e5 d (o0::x::tl):=by intros;rfl
theorem Up (x o0 o1 o2 o3:AI) (c:List AV) (tl:Heap):upd (Al f1 f2 f3 v0 e0 v4 e4 v5 e5 c (o0::o1::o2::o3::tl)) [(11,x)]=Al f1 f2 f3 v0 e0 v4 e4 v5 e5 c (o0::o1::o2::x::tl):=by intros;rfl
theorem RX (d:List AV) (x o0 o1 o2 o3:AI) (c:List AV) (tl:Heap):upd (Al f1 f2 f3 v0 e0 v4 e4 v5 e5 c (o0::o1::o2::o3::tl)) [(7,.box d),(11,x)]=Al f1 f2 f3 v0 e0 v4 e4 v5 e5 d (o0::o1::o2::x::tl):=by intros;rfl
theorem YN (tl:Heap):rb (e,Al f1 f2 f3 v0 e0 v4 e4 v5 e5 (Ai a) tl) 7 0 A5=Ai a:=by intros;rfl
theorem O3 (q:Snd)  : upd (Ai a) [(0,.t (tI q.c.frm)),(1,.t (tI q.c.dst)),(2,.t (tI q.c.start)),(3,.t (tI q.c.fin)),(4,.t (tI q.c.rate)),(5,.t (tI q.c.rng)),(6,.t (tI q.c.loss)),(7,.t (tI q.ses)),(8,.t (.str q.data)),(9,.t (tI q.fin)),(10,.t (tI q.busy)),(11,.t (tI q.ser)),(12,.t (.sl 2 (q.acked.map Span.enc))),(13,.t (tI q.due)),(14,.t (tI q.st))]=Ai {a with snd:=q}:=by kernel_rfl
theorem JG (q:Snd) (ca cb cd:Int) (fs:List Frame)  : upd (Ai a) [(0,.t (tI q.c.frm)),(1,.t (tI q.c.dst)),(2,.t (tI q.c.start)),(3,.t (tI q.c.fin)),(4,.t (tI q.c.rate)),(5,.t (tI q.c.rng)),(6,.t (tI q.c.loss)),(7,.t (tI q.ses)),(8,.t (.str q.data)),(9,.t (tI q.fin)),(10,.t (tI q.busy)),(11,.t (tI q.ser)),(12,.t (.sl 2 (q.acked.map Span.enc))),(13,.t (tI q.due)),(14,.t (tI q.st)),(23,.t (tI ca)),(24,.t (.sl 10 (fs.map Frame.enc))),(25,.t (tI cb)),(26,.t (tI cd))]=Ai {a with snd:=q,rep:=⟨ca,fs,cb,cd⟩}:=by kernel_rfl
theorem FZ (q:Snd) (ca cb cd:Int) (fs:List Frame) (pv po pl:Nat)  : upd (Ai a) [(0,.t (tI q.c.frm)),(1,.t (tI q.c.dst)),(2,.t (tI q.c.start)),(3,.t (tI q.c.fin)),(4,.t (tI q.c.rate)),(5,.t (tI q.c.rng)),(6,.t (tI q.c.loss)),(7,.t (tI q.ses)),(8,.t (.str q.data)),(9,.t (tI q.fin)),(10,.t (tI q.busy)),(11,.t (tI q.ser)),(12,.t (.sl 2 (q.acked.map Span.enc))),(13,.t (tI q.due)),(14,.t (tI q.st)),(23,.t (tI ca)),(24,.t (.sl 10 (fs.map Frame.enc))),(25,.t (tI cb)),(26,.t (tI cd)),(27,.sref 1 pv po pl)]=Ai {a with snd:=q,rep:=⟨ca,fs,cb,cd⟩,v0:=pv,p1:=po,p2:=pl}:=by kernel_rfl
theorem EY (q:Snd) (ca cb cd:Int) (fs:List Frame) (pv po pl:Nat) (k:Bool) (t:Int)  : upd (Ai a) [(0,.t (tI q.c.frm)),(1,.t (tI q.c.dst)),(2,.t (tI q.c.start)),(3,.t (tI q.c.fin)),(4,.t (tI q.c.rate)),(5,.t (tI q.c.rng)),(6,.t (tI q.c.loss)),(7,.t (tI q.ses)),(8,.t (.str q.data)),(9,.t (tI q.fin)),(10,.t (tI q.busy)),(11,.t (tI q.ser)),(12,.t (.sl 2 (q.acked.map Span.enc))),(13,.t (tI q.due)),(14,.t (tI q.st)),(23,.t (tI ca)),(24,.t (.sl 10 (fs.map Frame.enc))),(25,.t (tI cb)),(26,.t (tI cd)),(27,.sref 1 pv po pl),(35,.t (.bool k)),(36,.t (tI t))]=Ai {a with snd:=q,rep:=⟨ca,fs,cb,cd⟩,v0:=pv,p1:=po,p2:=pl,kno:=k,knoAt:=t}:=by kernel_rfl
theorem GK (q:Snd) (ca cb cd:Int) (fs:List Frame) (k:Bool) (t:Int)  : upd (Ai a) [(0,.t (tI q.c.frm)),(1,.t (tI q.c.dst)),(2,.t (tI q.c.start)),(3,.t (tI q.c.fin)),(4,.t (tI q.c.rate)),(5,.t (tI q.c.rng)),(6,.t (tI q.c.loss)),(7,.t (tI q.ses)),(8,.t (.str q.data)),(9,.t (tI q.fin)),(10,.t (tI q.busy)),(11,.t (tI q.ser)),(12,.t (.sl 2 (q.acked.map Span.enc))),(13,.t (tI q.due)),(14,.t (tI q.st)),(23,.t (tI ca)),(24,.t (.sl 10 (fs.map Frame.enc))),(25,.t (tI cb)),(26,.t (tI cd)),(35,.t (.bool k)),(36,.t (tI t))]=Ai {a with snd:=q,rep:=⟨ca,fs,cb,cd⟩,kno:=k,knoAt:=t}:=by kernel_rfl
theorem Hc (q:Snd) (pv po pl:Nat)  : upd (Ai a) [(0,.t (tI q.c.frm)),(1,.t (tI q.c.dst)),(2,.t (tI q.c.start)),(3,.t (tI q.c.fin)),(4,.t (tI q.c.rate)),(5,.t (tI q.c.rng)),(6,.t (tI q.c.loss)),(7,.t (tI q.ses)),(8,.t (.str q.data)),(9,.t (tI q.fin)),(10,.t (tI q.busy)),(11,.t (tI q.ser)),(12,.t (.sl 2 (q.acked.map Span.enc))),(13,.t (tI q.due)),(14,.t (tI q.st)),(27,.sref 1 pv po pl)]=Ai {a with snd:=q,v0:=pv,p1:=po,p2:=pl}:=by kernel_rfl
theorem JI (w:Rcv) (ca cb cd:Int) (fs:List Frame)  : upd (Ai a) [(15,.t (tI w.ses)),(16,.t (tI w.tot)),(17,.t (.sl 2 (w.known.map Span.enc))),(18,.t (.str w.data)),(19,.t (tI ca)),(20,.t (.sl 10 (fs.map Frame.enc))),(21,.t (tI cb)),(22,.t (tI cd))]=Ai {a with rcv:=w,dat:=⟨ca,fs,cb,cd⟩}:=by kernel_rfl
theorem O6 (ca cb cd:Int) (fs:List Frame)  : upd (Ai a) [(19,.t (tI ca)),(20,.t (.sl 10 (fs.map Frame.enc))),(21,.t (tI cb)),(22,.t (tI cd))]=Ai {a with dat:=⟨ca,fs,cb,cd⟩}:=by kernel_rfl
theorem Fa (ca cb cd:Int) (fs:List Frame) (pv po pl:Nat) (u:Int)  : upd (Ai a) [(19,.t (tI ca)),(20,.t (.sl 10 (fs.map Frame.enc))),(21,.t (tI cb)),(22,.t (tI cd)),(27,.sref 1 pv po pl),(31,.t (tI u))]=Ai {a with dat:=⟨ca,fs,cb,cd⟩,v0:=pv,p1:=po,p2:=pl,entered:=u}:=by kernel_rfl
theorem Hg (ca cb cd:Int) (fs:List Frame) (y:Int)  : upd (Ai a) [(19,.t (tI ca)),(20,.t (.sl 10 (fs.map Frame.enc))),(21,.t (tI cb)),(22,.t (tI cd)),(32,.t (tI y))]=Ai {a with dat:=⟨ca,fs,cb,cd⟩,dist:=y}:=by kernel_rfl
theorem O4 (ca cb cd:Int) (fs:List Frame)  : upd (Ai a) [(23,.t (tI ca)),(24,.t (.sl 10 (fs.map Frame.enc))),(25,.t (tI cb)),(26,.t (tI cd))]=Ai {a with rep:=⟨ca,fs,cb,cd⟩}:=by kernel_rfl
theorem JH (ca cb cd:Int) (fs:List Frame) (u:Int)  : upd (Ai a) [(23,.t (tI ca)),(24,.t (.sl 10 (fs.map Frame.enc))),(25,.t (tI cb)),(26,.t (tI cd)),(31,.t (tI u))]=Ai {a with rep:=⟨ca,fs,cb,cd⟩,entered:=u}:=by kernel_rfl
theorem He (ca cb cd:Int) (fs:List Frame) (y:Int)  : upd (Ai a) [(23,.t (tI ca)),(24,.t (.sl 10 (fs.map Frame.enc))),(25,.t (tI cb)),(26,.t (tI cd)),(32,.t (tI y))]=Ai {a with rep:=⟨ca,fs,cb,cd⟩,dist:=y}:=by kernel_rfl
theorem Mq (pv po pl:Nat)  : upd (Ai a) [(27,.sref 1 pv po pl)]=Ai {a with v0:=pv,p1:=po,p2:=pl}:=by kernel_rfl
theorem Hf (pv po pl:Nat) (u:Int)  : upd (Ai a) [(27,.sref 1 pv po pl),(31,.t (tI u))]=Ai {a with v0:=pv,p1:=po,p2:=pl,entered:=u}:=by kernel_rfl
theorem O5 (u:Int)  : upd (Ai a) [(31,.t (tI u))]=Ai {a with entered:=u}:=by kernel_rfl
theorem Mr (y:Int)  : upd (Ai a) [(32,.t (tI y))]=Ai {a with dist:=y}:=by kernel_rfl
theorem Ra (k:Bool) (t:Int)  : upd (Ai a) [(33,.t (.bool k)),(34,.t (tI t))]=Ai {a with rcvd:=k,arrive:=t}:=by kernel_rfl
theorem Mp (m l:Nat)  : upd (Ai a) [(40,.sref 5 m 0 l)]=Ai {a with v4:=m,n4:=l}:=by kernel_rfl
theorem Mo (m l:Nat)  : upd (Ai a) [(41,.sref 6 m 0 l)]=Ai {a with v5:=m,n5:=l}:=by kernel_rfl
theorem Bt:type_of% (And.intro @rd14 (And.intro @rc14 (And.intro @X4 (And.intro @YH (And.intro @YE (And.intro @YD (And.intro @YF (And.intro @YA (And.intro @X8 (And.intro @VQ (And.intro @X3 (And.intro @X1 (And.intro @VC (And.intro @VB (And.intro @VA (And.intro @Xz (And.intro @VI (And.intro @Rr (And.intro @RZ (And.intro @XT (And.intro @Ur (And.intro @Uo (And.intro @Um (And.intro @XR (And.intro @XP (And.intro @Uj (And.intro @Up (And.intro @RX (And.intro @YN (And.intro @O3 (And.intro @JG (And.intro @FZ (And.intro @EY (And.intro @GK (And.intro @Hc (And.intro @JI (And.intro @O6 (And.intro @Fa (And.intro @Hg (And.intro @O4 (And.intro @JH (And.intro @He (And.intro @Mq (And.intro @Hf (And.intro @O5 (And.intro @Mr (And.intro @Ra (And.intro @Mp @Mo)))))))))))))))))))))))))))))))))))))))))))))))):=(And.intro @rd14 (And.intro @rc14 (And.intro @X4 (And.intro @YH (And.intro @YE (And.intro @YD (And.intro @YF (And.intro @YA (And.intro @X8 (And.intro @VQ (And.intro @X3 (And.intro @X1 (And.intro @VC (And.intro @VB (And.intro @VA (And.intro @Xz (And.intro @VI (And.intro @Rr (And.intro @RZ (And.intro @XT (And.intro @Ur (And.intro @Uo (And.intro @Um (And.intro @XR (And.intro @XP (And.intro @Uj (And.intro @Up (And.intro @RX (And.intro @YN (And.intro @O3 (And.intro @JG (And.intro @FZ (And.intro @EY (And.intro @GK (And.intro @Hc (And.intro @JI (And.intro @O6 (And.intro @Fa (And.intro @Hg (And.intro @O4 (And.intro @JH (And.intro @He (And.intro @Mq (And.intro @Hf (And.intro @O5 (And.intro @Mr (And.intro @Ra (And.intro @Mp @Mo))))))))))))))))))))))))))))))))))))))))))))))))
end
end Ab
set_option linter.unusedVariables false
set_option linter.unusedSimpArgs false
set_option maxRecDepth 100000
namespace Ab
open Go
theorem VW (g:Gh) (s:Ses) (l:List Int) (v:Nat) (hl:l.length≤10) :
  Ev fun n=>∀z,TG n (fI C n) z ([.sref 8 v 0 l.length],H14 E0 E0 E0 g s [.row false v 1 (l.map Az)])=z (DT (Tk l),H14 E0 E0 E0 g s []):=by
 cases l with
 |nil=>
  refine Ev.of fun n z => ?_;simp only [TG,H14,Bt,vv2,vf,reduceCtorEq,reduceAdd,reduceEqDiff,map_nil,length_nil,natCast_zero,beq_self_eq_true,Tk,List.foldl_nil,DT,getD_none,isSome_none]
 |cons a r=>
  have key:=Fg (R:=List Tree) (Z:=List AV×Heap→Option (List Tree)) (Q:=Int)
   (B:=fun n z p again=>V7 n (fI C n) ([.sref 8 v 0 (r.length+1)],H14 E0 E0 E0 g s [.row false v 1 ((a::r).map Az)]) z p again)
   (s:=(([.t (tI a),.t (tI 1)],H14 E0 E0 E0 g s [.row false v 1 ((a::r).map Az)]):List AV×Heap)) (r:=r.foldl (fun m x=>if x<m then x else m) a) r
   (fun i (m:Int)=>(([.t (tI m),.t (tI (i+1:Nat))],H14 E0 E0 E0 g s [.row false v 1 ((a::r).map Az)]):List AV×Heap)) (fun _ m x =>.next (if x<m then x else m)) (fun m=>m)
   (fun z m=>z (([.t (tI m),.t (.bool true)],H14 E0 E0 E0 g s []):List AV×Heap)) (fun _ _=>True) a rfl trivial (CP _ _ _ _ _)
   (fun i m x hx hI=>Ev.of fun n z again => ?_) (fun _ _ _ _ _ _ _=>trivial) (fun m hI=>Ev.of fun n z again => ?_)
  ·have e:Tk (a::r)=some (r.foldl (fun m x=>if x<m then x else m) a):=by
    have:∀(r:List Int) (a:Int),r.foldl (fun o x=>C5 o (some x)) (some a)=some (r.foldl (fun m x=>if x<m then x else m) a):=by
     intro r
     induction r with
     |nil=>intro a;rfl
     |cons x r ih=>intro a;exact ih _
    exact this r a
   refine key.mono fun n h z => ?_;have h:=h z;simp only [H14,map_cons,Az] at h;simp only [TG,H14,Bt,vv2,vf,reduceCtorEq,reduceAdd,reduceEqDiff,map_cons,length_cons,getElem?_cons_zero,Az,(show (((r.length+1:Nat):Int)==0)=false by simp;omega),(show (0:Int)<((r.length+1:Nat):Int) by omega),Int.le_refl,h,e,DT,Option.getD_some,isSome_some]
  ·have hi:=AM hx;simp only [length_cons] at hl;simp only [V7,H14,Bt,vv2,vf,reduceCtorEq,reduceAdd,reduceEqDiff,map_cons,Az,List.getElem?_cons_succ,getElem?_map,hx,map_some,(show ((i+1:Nat):Int)<((r.length+1:Nat):Int) by omega),AS (show i+1<4611686018427387904 by omega),Rd.AT]
  ·simp only [V7,H14,Bt,vv2,vf,reduceCtorEq,reduceAdd,reduceEqDiff,map_cons,Az,lt_irrefl]
theorem nt_14 (g:Gh) (s:Ses) (l:List Int) (v:Nat) (hl:l.length≤8) (he:s.entered<10000) (hr:Bs s.rep) :
  Ev fun n=>∀z,L1 n (fI C n) z ([.sref 8 v 0 l.length],H14 E0 E0 E0 g s [.row false v 1 (l.map Az)])=z (DT (Tk ((l++F4 (A0 s.rep))++F4 (if s.snd.st=1 then some s.snd.due else none))),H14 E0 E0 E0 g s []):=by
 have q:¬(10000:Int)≤s.entered:=by omega
 have k76:=s76 s.rep hr;have et:take l.length (List.map Az l)=List.map Az l:=take_of_length_le (by simp);have e1:l.length+1≤1073741824:=by omega
 have e2:l.length+1+1≤1073741824:=by omega
 have et2:∀b:Int,take (l.length+1) (List.map Az l++[[tI b]])=List.map Az l++[[tI b]]:=fun b=>take_of_length_le (by simp);by_cases h1:s.snd.st=1
 ·rw [if_pos h1];cases hn:A0 s.rep with
  |none=>
   refine (k76.and (VW g s (l++[s.snd.due]) (v+1) (by simp;omega))).mono fun n h z => ?_;obtain ⟨h,k⟩:=h;have k:=k z;simp only [BL.enc,hn,DX] at h;simp only [H14,map_append,map_cons,map_nil,Az,length_append,length_cons,length_nil,zero_add] at k;simp only [L1,Zn,H14,rwO,Bt,vv2,vf,reduceCtorEq,reduceAdd,reduceEqDiff,h,h1,q,et,e1,beq_self_eq_true,le_refl,length_map,F4,append_nil,Az,decide_false,Bool.not_false];simp only [rwO] at k;exact k
  |some b=>
   refine (k76.and (VW g s (l++[b]++[s.snd.due]) (v+1+1) (by simp;omega))).mono fun n h z => ?_;obtain ⟨h,k⟩:=h;have k:=k z;simp only [BL.enc,hn,DX] at h;simp only [H14,map_append,map_cons,map_nil,Az,length_append,length_cons,length_nil,zero_add] at k;simp only [L1,Zr,H14,rwO,Bt,vv2,vf,reduceCtorEq,reduceAdd,reduceEqDiff,h,h1,q,et,et2,e1,e2,beq_self_eq_true,le_refl,length_map,length_append,length_cons,length_nil,F4,Az,decide_false,Bool.not_false,zero_add];simp only [rwO] at k;exact k
 ·rw [if_neg h1];have h1':(s.snd.st==1)=false:=by simpa using h1
  cases hn:A0 s.rep with
  |none=>
   refine (k76.and (VW g s l v (by omega))).mono fun n h z => ?_;obtain ⟨h,k⟩:=h;have k:=k z;simp only [BL.enc,hn,DX] at h;simp only [H14,rwO] at k;simp only [L1,Zn,H14,rwO,Bt,vv2,vf,reduceCtorEq,reduceAdd,reduceEqDiff,h,h1',F4,append_nil];exact k
  |some b=>
   refine (k76.and (VW g s (l++[b]) (v+1) (by simp;omega))).mono fun n h z => ?_;obtain ⟨h,k⟩:=h;have k:=k z;simp only [BL.enc,hn,DX] at h;simp only [H14,rwO,map_append,map_cons,map_nil,Az,length_append,length_cons,length_nil,zero_add] at k;simp only [L1,Zr,H14,rwO,Bt,vv2,vf,reduceCtorEq,reduceAdd,reduceEqDiff,h,h1',et,e1,le_refl,length_map,F4,append_nil,Az];exact k
theorem nd_14 (g:Gh) (s:Ses) (l:List Int) (v:Nat) (hl:l.length≤4) (he:s.entered<10000) (hd:Bs s.dat) (hr:Bs s.rep) :
  Ev fun n=>∀z,RK n (fI C n) z ([.sref 8 v 0 l.length],H14 E0 E0 E0 g s [.row false v 1 (l.map Az)])=z (DT (Tk (((l++F4 (A0 s.dat))++F4 (A0 s.rep))++F4 (if s.snd.st=1 then some s.snd.due else none))),H14 E0 E0 E0 g s []):=by
 have k76:=s76 s.dat hd;have et:take l.length (List.map Az l)=List.map Az l:=take_of_length_le (by simp);have e1:l.length+1≤1073741824:=by omega
 cases hn:A0 s.dat with
 |none=>
  refine (k76.and (nt_14 g s l v (by omega) he hr)).mono fun n h z => ?_;obtain ⟨h,k⟩:=h;have k:=k z;simp only [BL.enc,hn,DX] at h;simp only [H14,rwO] at k;simp only [RK,H14,rwO,Bt,vv2,vf,reduceCtorEq,reduceAdd,reduceEqDiff,h,F4,append_nil];exact k
 |some b=>
  refine (k76.and (nt_14 g s (l++[b]) (v+1) (by simp;omega) he hr)).mono fun n h z => ?_;obtain ⟨h,k⟩:=h;have k:=k z;simp only [BL.enc,hn,DX] at h;simp only [H14,rwO,map_append,map_cons,map_nil,Az,length_append,length_cons,length_nil,zero_add] at k;simp only [RK,H14,rwO,Bt,vv2,vf,reduceCtorEq,reduceAdd,reduceEqDiff,h,et,e1,le_refl,length_map,F4,Az];exact k
theorem nx_14 (g:Gh) (s:Ses) (f1 f2 f3:AI) (he:s.entered<10000) (hd:Bs s.dat) (hr:Bs s.rep) :
  Ev fun n=>∀again,Z0 n (fI C n) again ([.ptr 7 0],H14 f1 f2 f3 g s [])=again (DT (nxS s),H14 E0 E0 E0 g s []):=by
 have e1:∀(o:Out) (l:List Out),s.pend=o::l→(g.pre++List.map Out.enc s.pend)[g.pre.length]? = some o.enc:=by intro o l h;rw [getElem?_append_right (le_refl _),h];simp
 have en:nxS s=Tk (((F4 (s.pend.head?.map (·.at_))++F4 (A0 s.dat))++F4 (A0 s.rep))++F4 (if s.snd.st=1 then some s.snd.due else none)):=by rw [minL_nx];rfl
 rw [en];cases hp:s.pend with
 |nil=>
  refine (nd_14 g s [] 0 (by simp) he hd hr).mono fun n k again => ?_;have k:=k again;simp only [H14,rwO,hp,map_nil,length_nil] at k;simp only [Xe,V2,H14,rwO,hp,map_nil,length_nil,Bt,vv2,vf,reduceCtorEq,reduceAdd,reduceEqDiff,lt_irrefl,natCast_zero,head?_nil,map_none,F4];exact k
 |cons o l=>
  have e1:=e1 o l hp;simp only [hp] at e1;refine (nd_14 g s [o.at_] 1 (by simp) he hd hr).mono fun n k again => ?_;have k:=k again;simp only [H14,rwO,hp,map_cons,map_nil,Az,length_cons,length_nil,zero_add] at k;simp only [map_cons,Out.enc] at e1;simp only [Xe,V2,H14,rwO,hp,map_cons,length_cons,Bt,vv2,vf,reduceCtorEq,reduceAdd,reduceEqDiff,(show (0:Int)<((l.length+1:Nat):Int) by omega),e1,Out.enc,head?_cons,map_some,Int.le_refl,(show F4 (some o.at_)=[o.at_] from rfl),Az];simp only [Out.enc] at k;exact k
end Ab
set_option linter.unusedVariables false
set_option linter.unusedSimpArgs false
set_option maxRecDepth 100000
namespace Ab
open Go
theorem txb_14 (g:Gh) (s:Ses) (o:Out) (l:List Out) (hp:s.pend=o::l) (hat:o.at_=s.now) (hc:EOk s s.dat) (hq:s.snd.c.rng=s.dat.rng) (p62:ST) (h62:vI p62 1=s.now) :
  Ev fun n=>∀z again,Es n (fI C n) again p62 z ([.t (.bool true)],H14 E0 E0 E0 g s [])=again ([],H14 E0 E0 E0 {g with v4:=g.v4+1,pre:=g.pre++[o.enc]} {EX s o.seg with pend:=l} []):=by
 have q1:¬(10000:Int)≤s.entered:=by have:=hc.ent;omega
 have q2:w64 (s.entered+1)=s.entered+1:=by have:=hc.ent;exact AP (by omega) (by omega)
 have q3:w64 (s.dist+1)=s.dist+1:=by have:=hc.dst;exact AP (by omega) (by omega)
 have q4:s.sent.length+1≤1073741824:=by have:=hc.sl;omega
 have q5:take s.sent.length (List.map Out.enc s.sent)=List.map Out.enc s.sent:=take_of_length_le (by simp);have q6:(1:Int)≤((l.length+1:Nat):Int)∧(0:Int)<((l.length+1:Nat):Int):=by omega
 have e2:(g.pre++[tI s.now,tI o.seg.kind,tI o.seg.ses,tI o.seg.ser,tI o.seg.off,tI o.seg.tot,.bool o.seg.chk,.str o.seg.data,.sl 2 (o.seg.AZ.map Span.enc)]::List.map Out.enc l)[g.pre.length]? = some [tI s.now,tI o.seg.kind,tI o.seg.ses,tI o.seg.ser,tI o.seg.off,tI o.seg.tot,.bool o.seg.chk,.str o.seg.data,.sl 2 (o.seg.AZ.map Span.enc)]:=by rw [getElem?_append_right (le_refl _)];simp
 have key:=fun (ds:List Int) (hd:∀d∈ds,s.dat.rng≤d∧d≤2*s.dat.rng) (hl:ds.length≤2)=>s78 s.dat hc.gc s.now o.seg hc.now ds hd (by have:=hc.len;omega);have kR:∀d∈[s.dat.rng],s.dat.rng≤d∧d≤2*s.dat.rng:=by have:=hc.gc.rng;simp;omega
 have k103:AL C 103 [.sl 2 (s.dark.map Span.enc),tI s.now] [.bool (LZ s.dark s.now)]:=Xt s.dark s.now;simp only [BL.enc,cons_append,nil_append] at key;by_cases h0:LZ s.dark s.now=true
 ·rw [E3 s o.seg [] s.dist (by simp [DD,h0])];refine (k103.and (key [] (by simp) (by simp))).mono fun n h z again => ?_;obtain ⟨h1,h2⟩:=h;simp only [map_nil] at h2;simp only [Es,GH,GI,GG,GF,DF,Df,H14,rwO,Bt,vv2,vf,reduceCtorEq,reduceAdd,reduceEqDiff,hp,map_cons,Out.enc,e2,hat,h62,hq,q1,q2,q3,q4,q5,q6,Int.le_refl,(show (0:Int)≤1 by omega),add_sub_cancel,beq_self_eq_true,DE,AR,AF,bne_self_eq_false,le_refl,map_append,map_nil,length_append,length_cons,length_nil,zero_add,append_assoc,cons_append,nil_append,h1,h0,h2]
 ·have h0:LZ s.dark s.now=false:=by simpa using h0
  by_cases h5:s.picks=[]
  ·rw [E3 s o.seg [s.dat.rng] s.dist (by simp [DD,h0,h5])];refine (k103.and (key [s.dat.rng] kR (by simp))).mono fun n h z again => ?_;obtain ⟨h1,h2⟩:=h;simp only [map_cons,map_nil,Az] at h2;have h5':(s.picks.length:Int)=0:=by simp [h5]
   simp only [Es,GH,GI,GG,GF,DF,Df,H14,rwO,Bt,vv2,vf,reduceCtorEq,reduceAdd,reduceEqDiff,hp,map_cons,Out.enc,e2,hat,h62,hq,q1,q2,q3,q4,q5,q6,Int.le_refl,(show (0:Int)≤1 by omega),add_sub_cancel,beq_self_eq_true,DE,AR,AF,bne_self_eq_false,le_refl,map_append,map_nil,length_append,length_cons,length_nil,zero_add,append_assoc,cons_append,nil_append,h1,h0,h2,h5']
  ·have hpos:=length_pos_iff.2 h5;have h6:¬(s.picks.length:Int)=0:=by omega
   have h6':((s.picks.length:Int)==0)=false:=by simpa using h6
   have hm1:=emod_nonneg s.entered h6;have hm2:=emod_lt_of_pos s.entered (show (0:Int)<s.picks.length by omega);have hm:tmod s.entered s.picks.length=s.entered % s.picks.length:=Int.tmod_eq_emod_of_nonneg hc.ent.1;obtain ⟨p,hpp⟩:∃p,s.picks[(s.entered % s.picks.length).toNat]? = some p:=⟨_,getElem?_eq_getElem (by omega)⟩
   have hg:s.picks.getD (s.entered % s.picks.length).toNat 0=p:=by rw [getD_eq_getElem?_getD,hpp];rfl
   have hpk:=hc.pk p (mem_of_getElem? hpp);have hrg:=hc.gc.rng;have k104:=s104 p s.dat.rng hpk hrg;have kf:=key (BP p s.dat.rng) (fun d hd=>GR hrg.1 hd) (GS _ _);have kr:=key [s.dat.rng] kR (by simp);by_cases h7:(BP p s.dat.rng).head? = some s.dat.rng
   ·rw [E3 s o.seg (BP p s.dat.rng) s.dist (by simp only [DD,h0,h5,hg,h7,if_true,if_false,false_eq_true])];obtain ⟨r,hl⟩:∃r,BP p s.dat.rng=s.dat.rng::r:=by
     cases hf:BP p s.dat.rng with
     |nil=>rw [hf] at h7;cases h7
     |cons a r=>rw [hf] at h7;cases h7;exact ⟨r,rfl⟩
    rw [hl] at kf k104 ⊢;refine (k103.and (k104.and kf)).mono fun n h z again => ?_;obtain ⟨h1,h2,h3⟩:=h;simp only [map_cons,Az] at h2 h3;simp only [Es,GH,GI,GG,GF,DF,Df,H14,rwO,Bt,vv2,vf,reduceCtorEq,reduceAdd,reduceEqDiff,hp,map_cons,Out.enc,e2,hat,h62,hq,q1,q2,q3,q4,q5,q6,Int.le_refl,(show (0:Int)≤1 by omega),add_sub_cancel,beq_self_eq_true,DE,AR,AF,bne_self_eq_false,le_refl,map_append,map_nil,length_append,length_cons,length_nil,zero_add,append_assoc,cons_append,nil_append,h1,h0,h2,h3,h6,h6',hm,hm1,hpp,Az,getElem?_cons_zero,(show (0:Int)<((r.length+1:Nat):Int) by omega)]
   ·have h8:∀y:Int,((BP p s.dat.rng).map Az)[0]? = some [tI y]→(y==s.dat.rng)=false:=by
     intro y hy;cases hf:BP p s.dat.rng with
     |nil=>rw [hf] at hy;cases hy
     |cons a r=>
      rw [hf] at hy h7;cases hy;simp at h7;simpa using h7
    have k8:(BP p s.dat.rng).length=0∨∃y,0<(BP p s.dat.rng).length∧((BP p s.dat.rng).map Az)[0]? = some [tI y]∧(y==s.dat.rng)=false:=by
     cases hf:BP p s.dat.rng with
     |nil=>exact .inl rfl
     |cons a r=>exact .inr ⟨a,by simp,rfl,h8 a (by rw [hf];rfl)⟩
    by_cases h9:0≤s.limit∧s.limit≤s.dist
    ·rw [E3 s o.seg [s.dat.rng] s.dist (by simp only [DD,h0,h5,hg,h7,h9,if_true,if_false,false_eq_true,and_self])];refine (k103.and (k104.and kr)).mono fun n h z again => ?_;obtain ⟨h1,h2,h3⟩:=h;simp only [map_cons,map_nil,Az] at h3;rcases k8 with k8|⟨y,k8,k9,k10⟩
     ·simp only [Es,GH,GI,GG,GF,DF,Df,H14,rwO,Bt,vv2,vf,reduceCtorEq,reduceAdd,reduceEqDiff,hp,map_cons,Out.enc,e2,hat,h62,hq,q1,q2,q3,q4,q5,q6,Int.le_refl,(show (0:Int)≤1 by omega),add_sub_cancel,beq_self_eq_true,DE,AR,AF,bne_self_eq_false,le_refl,map_append,map_nil,length_append,length_cons,length_nil,zero_add,append_assoc,cons_append,nil_append,h1,h0,h2,h3,h6,h6',hm,hm1,hpp,Az,k8,natCast_zero,lt_irrefl,h9]
     ·simp only [Es,GH,GI,GG,GF,DF,Df,H14,rwO,Bt,vv2,vf,reduceCtorEq,reduceAdd,reduceEqDiff,hp,map_cons,Out.enc,e2,hat,h62,hq,q1,q2,q3,q4,q5,q6,Int.le_refl,(show (0:Int)≤1 by omega),add_sub_cancel,beq_self_eq_true,DE,AR,AF,bne_self_eq_false,le_refl,map_append,map_nil,length_append,length_cons,length_nil,zero_add,append_assoc,cons_append,nil_append,h1,h0,h2,h3,h6,h6',hm,hm1,hpp,Az,(show (0:Int)<((BP p s.dat.rng).length:Int) by omega),k9,k10,h9]
    ·rw [E3 s o.seg (BP p s.dat.rng) (s.dist+1) (by simp only [DD,h0,h5,hg,h7,h9,if_true,if_false,false_eq_true,and_self])];refine (k103.and (k104.and kf)).mono fun n h z again => ?_;obtain ⟨h1,h2,h3⟩:=h;have h9':(0≤s.limit→¬s.limit≤s.dist):=fun a b=>h9 ⟨a,b⟩;by_cases h10:0≤s.limit
     ·have h11:=h9' h10;rcases k8 with k8|⟨y,k8,k9,k10⟩
      ·simp only [Es,GH,GI,GG,GF,DF,Df,H14,rwO,Bt,vv2,vf,reduceCtorEq,reduceAdd,reduceEqDiff,hp,map_cons,Out.enc,e2,hat,h62,hq,q1,q2,q3,q4,q5,q6,Int.le_refl,(show (0:Int)≤1 by omega),add_sub_cancel,beq_self_eq_true,DE,AR,AF,bne_self_eq_false,le_refl,map_append,map_nil,length_append,length_cons,length_nil,zero_add,append_assoc,cons_append,nil_append,h1,h0,h2,h3,h6,h6',hm,hm1,hpp,Az,k8,natCast_zero,lt_irrefl,h10,h11]
      ·simp only [Es,GH,GI,GG,GF,DF,Df,H14,rwO,Bt,vv2,vf,reduceCtorEq,reduceAdd,reduceEqDiff,hp,map_cons,Out.enc,e2,hat,h62,hq,q1,q2,q3,q4,q5,q6,Int.le_refl,(show (0:Int)≤1 by omega),add_sub_cancel,beq_self_eq_true,DE,AR,AF,bne_self_eq_false,le_refl,map_append,map_nil,length_append,length_cons,length_nil,zero_add,append_assoc,cons_append,nil_append,h1,h0,h2,h3,h6,h6',hm,hm1,hpp,Az,(show (0:Int)<((BP p s.dat.rng).length:Int) by omega),k9,k10,h10,h11]
     ·rcases k8 with k8|⟨y,k8,k9,k10⟩
      ·simp only [Es,GH,GI,GG,GF,DF,Df,H14,rwO,Bt,vv2,vf,reduceCtorEq,reduceAdd,reduceEqDiff,hp,map_cons,Out.enc,e2,hat,h62,hq,q1,q2,q3,q4,q5,q6,Int.le_refl,(show (0:Int)≤1 by omega),add_sub_cancel,beq_self_eq_true,DE,AR,AF,bne_self_eq_false,le_refl,map_append,map_nil,length_append,length_cons,length_nil,zero_add,append_assoc,cons_append,nil_append,h1,h0,h2,h3,h6,h6',hm,hm1,hpp,Az,k8,natCast_zero,lt_irrefl,h10]
      ·simp only [Es,GH,GI,GG,GF,DF,Df,H14,rwO,Bt,vv2,vf,reduceCtorEq,reduceAdd,reduceEqDiff,hp,map_cons,Out.enc,e2,hat,h62,hq,q1,q2,q3,q4,q5,q6,Int.le_refl,(show (0:Int)≤1 by omega),add_sub_cancel,beq_self_eq_true,DE,AR,AF,bne_self_eq_false,le_refl,map_append,map_nil,length_append,length_cons,length_nil,zero_add,append_assoc,cons_append,nil_append,h1,h0,h2,h3,h6,h6',hm,hm1,hpp,Az,(show (0:Int)<((BP p s.dat.rng).length:Int) by omega),k9,k10,h10]
def LC (q:Gh×Ses):Rd (Gh×Ses) (Gh×Ses):=
 match q.2.pend with
 |[]=>.done q
 |o::l=>if o.at_=q.2.now then .next ({q.1 with v4:=q.1.v4+1,pre:=q.1.pre++[o.enc]},{EX q.2 o.seg with pend:=l}) else .done q
theorem tx_14 (g:Gh) (s:Ses) (f1 f2 f3:AI) (hb:Bud s.pend.length s) (hq:s.snd.c.rng=s.dat.rng) :
  Ev fun n=>∀again,WL n (fI C n) again ([.ptr 7 0,.t (tI s.now)],H14 f1 f2 f3 g s [])=again ([],H14 E0 E0 E0 (txT s.pend.length (g,s)).1 (txS s.pend.length s) []):=by
 have key:=CB (R:=List Tree) (Z:=List AV×Heap→Option (List Tree)) (Q:=Gh×Ses)
  (B:=fun n z p again=>OW n (fI C n) ([.ptr 7 0,.t (tI s.now)],H14 f1 f2 f3 g s []) z p again)
  (s:=(([],H14 E0 E0 E0 g s []):List AV×Heap)) (r:=txT s.pend.length (g,s))
  (fun z q=>z ([],H14 E0 E0 E0 q.1 q.2 [])) (fun q:Gh×Ses=>(([],H14 E0 E0 E0 q.1 q.2 []):List AV×Heap)) LC (fun q=>Bud q.2.pend.length q.2∧q.2.snd.c.rng=q.2.dat.rng∧q.2.now=s.now) (fun q=>q.2.pend.length) (fun q=>txT q.2.pend.length q) (g,s) rfl ⟨hb,hq,rfl⟩ rfl
  (fun q hI => ?_) (fun q q' hI hs => ?_) (fun q hI => ?_)
 ·refine key.mono fun n h again => ?_;have h:=h again;rw [QJ] at h;simp only [H14] at h;simp only [tC14_2,ZR,H14,Bt,vv2,vf,reduceCtorEq,reduceAdd,reduceEqDiff,h]
 ·obtain ⟨g1,s1⟩:=q;obtain ⟨hI,i2,i3⟩:=hI;simp only at hI i2 i3 ⊢;cases hp:s1.pend with
  |nil=>
   refine Ev.of fun n z again => ?_;simp only [LC,OW,Es,H14,rwO,hp,Bt,vv2,vf,reduceCtorEq,reduceAdd,reduceEqDiff,length_nil,natCast_zero,lt_irrefl,Rd.Ar,map_nil]
  |cons o l=>
   have e1:(g1.pre++List.map Out.enc (o::l))[g1.pre.length]? = some o.enc:=by rw [getElem?_append_right (le_refl _)];simp
   simp only [map_cons] at e1;by_cases ho:o.at_=s1.now
   ·rw [hp] at hI;refine (txb_14 g1 s1 o l hp ho (Bud.eD hI) i2 ([.ptr 7 0,.t (tI s.now)],H14 f1 f2 f3 g s []) (by rw [i3];rfl)).mono fun n h z again => ?_;have h:=h z again;simp only [H14,rwO,hp,map_cons,length_cons] at h;simp only [LC,OW,H14,rwO,hp,map_cons,length_cons,Bt,vv2,vf,reduceCtorEq,reduceAdd,reduceEqDiff,(show (0:Int)<((l.length+1:Nat):Int) by omega),Int.le_refl,e1,Rd.AT];simp only [Out.enc,ho,i3,vv2,vf,reduceCtorEq,reduceAdd,reduceEqDiff,beq_self_eq_true,if_true];simp only [Out.enc,ho,i3] at h;exact h
   ·have ho':(o.at_==s.now)=false:=by rw [← i3];simpa using ho
    refine Ev.of fun n z again => ?_;simp only [Out.enc] at e1;simp only [LC,OW,Es,H14,rwO,hp,ho,ho',map_cons,length_cons,Out.enc,Bt,vv2,vf,reduceCtorEq,reduceAdd,reduceEqDiff,(show (0:Int)<((l.length+1:Nat):Int) by omega),Int.le_refl,e1,Rd.Ar]
 ·obtain ⟨g1,s1⟩:=q;obtain ⟨hI,i2,i3⟩:=hI;unfold LC at hs;simp only at hI hs i2 i3 ⊢;cases hp:s1.pend with
  |nil=>rw [hp] at hs;cases hs
  |cons o l=>
   rw [hp] at hs hI;simp only at hs;split at hs
   ·cases hs;exact ⟨⟨(Bud.EX hI o.seg).of rfl rfl rfl rfl rfl rfl rfl rfl,i2,i3⟩,by simp⟩
   ·cases hs
 ·obtain ⟨g1,s1⟩:=q;unfold LC;simp only;cases hp:s1.pend with
  |nil=>simp [txT,Rd.fin]
  |cons o l=>
   simp only [length_cons,txT,hp];split
   ·rfl
   ·simp [Rd.fin,txT,hp, *]
end Ab
set_option linter.unusedVariables false
set_option linter.unusedSimpArgs false
set_option maxRecDepth 100000
namespace Ab
open Go
theorem rpb_14 (g:Gh) (s:Ses) (x:Seg) (l:List Seg) (i:Nat) (hx:l[i]? = some x) (hln:l.length≤10000) (hc:EOk s s.rep) (hq:s.snd.c.rng=s.rep.rng) (c0:BL) (r0:Rcv) (y:List Tree) (hy:gL y 4=l.map Seg.enc) (p122:ST) (h122:vI p122 1=s.now) :
  Ev fun n=>∀z again,D9 n (fI C n) y p122 z ([.t (tI i)],H14 E0 E0 E0 g s [chB c0,.box [],FB r0]) again=again ([.t (tI (i+1:Nat))],H14 E0 E0 E0 {g with v5:=g.v5+1} (CQ s x) [chB c0,.box [],FB r0]):=by
 have q1:¬(10000:Int)≤s.entered:=by have:=hc.ent;omega
 have q2:w64 (s.entered+1)=s.entered+1:=by have:=hc.ent;exact AP (by omega) (by omega)
 have q3:w64 (s.dist+1)=s.dist+1:=by have:=hc.dst;exact AP (by omega) (by omega)
 have q4:s.told.length+1≤1073741824:=by have:=hc.sl;omega
 have q5:take s.told.length (List.map Out.enc s.told)=List.map Out.enc s.told:=take_of_length_le (by simp);have hi:=AM hx;have q6:(i:Int)<(l.length:Int):=by omega
 have key:=fun (ds:List Int) (hd:∀d∈ds,s.rep.rng≤d∧d≤2*s.rep.rng) (hl:ds.length≤2)=>s78 s.rep hc.gc s.now x hc.now ds hd (by have:=hc.len;omega);have kR:∀d∈[s.rep.rng],s.rep.rng≤d∧d≤2*s.rep.rng:=by have:=hc.gc.rng;simp;omega
 have k103:AL C 103 [.sl 2 (s.dark.map Span.enc),tI s.now] [.bool (LZ s.dark s.now)]:=Xt s.dark s.now;simp only [BL.enc,cons_append,nil_append] at key;by_cases h0:LZ s.dark s.now=true
 ·rw [E2 s x [] s.dist (by simp [DD,h0])];refine (k103.and (key [] (by simp) (by simp))).mono fun n h z again => ?_;obtain ⟨h1,h2⟩:=h;simp only [map_nil] at h2;simp only [D9,Fm,GD,GC,GB,De,chB,FB,H14,rwO,Bt,vv2,vf,reduceCtorEq,reduceAdd,reduceEqDiff,hy,hx,Seg.enc,Out.enc,h122,hq,q1,q2,q3,q4,q5,q6,Int.le_refl,AS (show i<4611686018427387904 by omega),beq_self_eq_true,Db,AR,AF,bne_self_eq_false,le_refl,map_append,map_cons,map_nil,length_append,length_cons,length_nil,zero_add,append_assoc,cons_append,nil_append,h1,h0,h2]
 ·have h0:LZ s.dark s.now=false:=by simpa using h0
  by_cases h5:s.picks=[]
  ·rw [E2 s x [s.rep.rng] s.dist (by simp [DD,h0,h5])];refine (k103.and (key [s.rep.rng] kR (by simp))).mono fun n h z again => ?_;obtain ⟨h1,h2⟩:=h;simp only [map_cons,map_nil,Az] at h2;have h5':(s.picks.length:Int)=0:=by simp [h5]
   simp only [D9,Fm,GD,GC,GB,De,chB,FB,H14,rwO,Bt,vv2,vf,reduceCtorEq,reduceAdd,reduceEqDiff,hy,hx,Seg.enc,Out.enc,h122,hq,q1,q2,q3,q4,q5,q6,Int.le_refl,AS (show i<4611686018427387904 by omega),beq_self_eq_true,Db,AR,AF,bne_self_eq_false,le_refl,map_append,map_cons,map_nil,length_append,length_cons,length_nil,zero_add,append_assoc,cons_append,nil_append,h1,h0,h2,h5']
  ·have hpos:=length_pos_iff.2 h5;have h6:¬(s.picks.length:Int)=0:=by omega
   have h6':((s.picks.length:Int)==0)=false:=by simpa using h6
   have hm1:=emod_nonneg s.entered h6;have hm2:=emod_lt_of_pos s.entered (show (0:Int)<s.picks.length by omega);have hm:tmod s.entered s.picks.length=s.entered % s.picks.length:=Int.tmod_eq_emod_of_nonneg hc.ent.1;obtain ⟨p,hpp⟩:∃p,s.picks[(s.entered % s.picks.length).toNat]? = some p:=⟨_,getElem?_eq_getElem (by omega)⟩
   have hg:s.picks.getD (s.entered % s.picks.length).toNat 0=p:=by rw [getD_eq_getElem?_getD,hpp];rfl
   have hpk:=hc.pk p (mem_of_getElem? hpp);have hrg:=hc.gc.rng;have k104:=s104 p s.rep.rng hpk hrg;have kf:=key (BP p s.rep.rng) (fun d hd=>GR hrg.1 hd) (GS _ _);have kr:=key [s.rep.rng] kR (by simp);by_cases h7:(BP p s.rep.rng).head? = some s.rep.rng
   ·rw [E2 s x (BP p s.rep.rng) s.dist (by simp only [DD,h0,h5,hg,h7,if_true,if_false,false_eq_true])];obtain ⟨r,hl⟩:∃r,BP p s.rep.rng=s.rep.rng::r:=by
     cases hf:BP p s.rep.rng with
     |nil=>rw [hf] at h7;cases h7
     |cons a r=>rw [hf] at h7;cases h7;exact ⟨r,rfl⟩
    rw [hl] at kf k104 ⊢;refine (k103.and (k104.and kf)).mono fun n h z again => ?_;obtain ⟨h1,h2,h3⟩:=h;simp only [map_cons,Az] at h2 h3;simp only [D9,Fm,GD,GC,GB,De,chB,FB,H14,rwO,Bt,vv2,vf,reduceCtorEq,reduceAdd,reduceEqDiff,hy,hx,Seg.enc,Out.enc,h122,hq,q1,q2,q3,q4,q5,q6,Int.le_refl,AS (show i<4611686018427387904 by omega),beq_self_eq_true,Db,AR,AF,bne_self_eq_false,le_refl,map_append,map_cons,map_nil,length_append,length_cons,length_nil,zero_add,append_assoc,cons_append,nil_append,h1,h0,h2,h3,h6,h6',hm,hm1,hpp,Az,getElem?_cons_zero,(show (0:Int)<((r.length+1:Nat):Int) by omega)]
   ·have h8:∀y:Int,((BP p s.rep.rng).map Az)[0]? = some [tI y]→(y==s.rep.rng)=false:=by
     intro y hy;cases hf:BP p s.rep.rng with
     |nil=>rw [hf] at hy;cases hy
     |cons a r=>
      rw [hf] at hy h7;cases hy;simp at h7;simpa using h7
    have k8:(BP p s.rep.rng).length=0∨∃y,0<(BP p s.rep.rng).length∧((BP p s.rep.rng).map Az)[0]? = some [tI y]∧(y==s.rep.rng)=false:=by
     cases hf:BP p s.rep.rng with
     |nil=>exact .inl rfl
     |cons a r=>exact .inr ⟨a,by simp,rfl,h8 a (by rw [hf];rfl)⟩
    by_cases h9:0≤s.limit∧s.limit≤s.dist
    ·rw [E2 s x [s.rep.rng] s.dist (by simp only [DD,h0,h5,hg,h7,h9,if_true,if_false,false_eq_true,and_self])];refine (k103.and (k104.and kr)).mono fun n h z again => ?_;obtain ⟨h1,h2,h3⟩:=h;simp only [map_cons,map_nil,Az] at h3;rcases k8 with k8|⟨y,k8,k9,k10⟩
     ·simp only [D9,Fm,GD,GC,GB,De,chB,FB,H14,rwO,Bt,vv2,vf,reduceCtorEq,reduceAdd,reduceEqDiff,hy,hx,Seg.enc,Out.enc,h122,hq,q1,q2,q3,q4,q5,q6,Int.le_refl,AS (show i<4611686018427387904 by omega),beq_self_eq_true,Db,AR,AF,bne_self_eq_false,le_refl,map_append,map_cons,map_nil,length_append,length_cons,length_nil,zero_add,append_assoc,cons_append,nil_append,h1,h0,h2,h3,h6,h6',hm,hm1,hpp,Az,k8,natCast_zero,lt_irrefl,h9]
     ·simp only [D9,Fm,GD,GC,GB,De,chB,FB,H14,rwO,Bt,vv2,vf,reduceCtorEq,reduceAdd,reduceEqDiff,hy,hx,Seg.enc,Out.enc,h122,hq,q1,q2,q3,q4,q5,q6,Int.le_refl,AS (show i<4611686018427387904 by omega),beq_self_eq_true,Db,AR,AF,bne_self_eq_false,le_refl,map_append,map_cons,map_nil,length_append,length_cons,length_nil,zero_add,append_assoc,cons_append,nil_append,h1,h0,h2,h3,h6,h6',hm,hm1,hpp,Az,(show (0:Int)<((BP p s.rep.rng).length:Int) by omega),k9,k10,h9]
    ·rw [E2 s x (BP p s.rep.rng) (s.dist+1) (by simp only [DD,h0,h5,hg,h7,h9,if_true,if_false,false_eq_true,and_self])];refine (k103.and (k104.and kf)).mono fun n h z again => ?_;obtain ⟨h1,h2,h3⟩:=h;have h9':(0≤s.limit→¬s.limit≤s.dist):=fun a b=>h9 ⟨a,b⟩;by_cases h10:0≤s.limit
     ·have h11:=h9' h10;rcases k8 with k8|⟨y,k8,k9,k10⟩
      ·simp only [D9,Fm,GD,GC,GB,De,chB,FB,H14,rwO,Bt,vv2,vf,reduceCtorEq,reduceAdd,reduceEqDiff,hy,hx,Seg.enc,Out.enc,h122,hq,q1,q2,q3,q4,q5,q6,Int.le_refl,AS (show i<4611686018427387904 by omega),beq_self_eq_true,Db,AR,AF,bne_self_eq_false,le_refl,map_append,map_cons,map_nil,length_append,length_cons,length_nil,zero_add,append_assoc,cons_append,nil_append,h1,h0,h2,h3,h6,h6',hm,hm1,hpp,Az,k8,natCast_zero,lt_irrefl,h10,h11]
      ·simp only [D9,Fm,GD,GC,GB,De,chB,FB,H14,rwO,Bt,vv2,vf,reduceCtorEq,reduceAdd,reduceEqDiff,hy,hx,Seg.enc,Out.enc,h122,hq,q1,q2,q3,q4,q5,q6,Int.le_refl,AS (show i<4611686018427387904 by omega),beq_self_eq_true,Db,AR,AF,bne_self_eq_false,le_refl,map_append,map_cons,map_nil,length_append,length_cons,length_nil,zero_add,append_assoc,cons_append,nil_append,h1,h0,h2,h3,h6,h6',hm,hm1,hpp,Az,(show (0:Int)<((BP p s.rep.rng).length:Int) by omega),k9,k10,h10,h11]
     ·rcases k8 with k8|⟨y,k8,k9,k10⟩
      ·simp only [D9,Fm,GD,GC,GB,De,chB,FB,H14,rwO,Bt,vv2,vf,reduceCtorEq,reduceAdd,reduceEqDiff,hy,hx,Seg.enc,Out.enc,h122,hq,q1,q2,q3,q4,q5,q6,Int.le_refl,AS (show i<4611686018427387904 by omega),beq_self_eq_true,Db,AR,AF,bne_self_eq_false,le_refl,map_append,map_cons,map_nil,length_append,length_cons,length_nil,zero_add,append_assoc,cons_append,nil_append,h1,h0,h2,h3,h6,h6',hm,hm1,hpp,Az,k8,natCast_zero,lt_irrefl,h10]
      ·simp only [D9,Fm,GD,GC,GB,De,chB,FB,H14,rwO,Bt,vv2,vf,reduceCtorEq,reduceAdd,reduceEqDiff,hy,hx,Seg.enc,Out.enc,h122,hq,q1,q2,q3,q4,q5,q6,Int.le_refl,AS (show i<4611686018427387904 by omega),beq_self_eq_true,Db,AR,AF,bne_self_eq_false,le_refl,map_append,map_cons,map_nil,length_append,length_cons,length_nil,zero_add,append_assoc,cons_append,nil_append,h1,h0,h2,h3,h6,h6',hm,hm1,hpp,Az,(show (0:Int)<((BP p s.rep.rng).length:Int) by omega),k9,k10,h10]
theorem X5 (g:Gh) (s:Ses) (l:List Seg) (hb:Bud l.length s) (hq:s.snd.c.rng=s.rep.rng) (c0:BL) (r0:Rcv) (y:List Tree) (hy:gL y 4=l.map Seg.enc) (p122:ST) (h122:vI p122 1=s.now) :
  Ev fun n=>∀z,AH (D9 n (fI C n) y p122 z) n ([.t (tI 0)],H14 E0 E0 E0 g s [chB c0,.box [],FB r0])=z ([],H14 E0 E0 E0 {g with v5:=g.v5+l.length} (l.foldl CQ s) []):=by
 have hln:l.length≤10000:=by have:=hb.ent;omega
 have key:=Fg (R:=List Tree) (Z:=List AV×Heap→Option (List Tree)) (Q:=Gh×Ses) (B:=fun n z p again=>D9 n (fI C n) y p122 z p again)
  (s:=(([.t (tI 0)],H14 E0 E0 E0 g s [chB c0,.box [],FB r0]):List AV×Heap)) (r:=({g with v5:=g.v5+l.length},l.foldl CQ s)) l
  (fun i (q:Gh×Ses)=>(([.t (tI i)],H14 E0 E0 E0 q.1 q.2 [chB c0,.box [],FB r0]):List AV×Heap)) (fun _ q y =>.next ({q.1 with v5:=q.1.v5+1},CQ q.2 y)) (fun q=>q)
  (fun z q=>z ([],H14 E0 E0 E0 q.1 q.2 [])) (fun i q=>Bud (l.length-i) q.2∧q.2.snd.c.rng=q.2.rep.rng∧q.2.now=s.now) (g,s) rfl ⟨hb,hq,rfl⟩ ?_
  (fun i q w hx hI => ?_) (fun i q w q' hx hI hs => ?_) (fun q hI => ?_)
 ·exact key
 ·rw [CP,T0]
 ·have hi:=AM hx;obtain ⟨g1,s1⟩:=q;obtain ⟨hI,i2,i3⟩:=hI;simp only at hI i2 i3;have hI':Bud (l.length-(i+1)+1) s1:=by
   have:l.length-(i+1)+1=l.length-i:=by omega
   rw [this];exact hI
  refine (rpb_14 g1 s1 w l i hx hln hI'.eR i2 c0 r0 y hy p122 (by rw [i3];exact h122)).mono fun n h z again => ?_;simp only [Rd.AT];exact h z again
 ·cases hs;have hi:=AM hx;obtain ⟨hI,i2,i3⟩:=hI;have:l.length-i=l.length-(i+1)+1:=by omega
  rw [this] at hI;exact ⟨hI.CQ w,i2,i3⟩
 ·obtain ⟨g1,s1⟩:=q;refine Ev.of fun n z again => ?_;simp only [D9,H14,hy,Bt,vv2,vf,reduceCtorEq,reduceAdd,reduceEqDiff,lt_irrefl]
theorem hd_14 (g:Gh) (s:Ses) (f:Frame) (l:List Frame) (hf:s.dat.frames=f::l) (hd:Bs s.dat) (hw:(DZ s.rcv f.seg).2.2=0) (hb:Bud (DZ s.rcv f.seg).2.1.length (BF s)) (hrv:s.rcvd=A1 s.rcv) (hq:s.snd.c.rng=s.rep.rng) (p122:ST) (h122:vI p122 1=s.now) :
  Ev fun n=>∀z again,IZ n (fI C n) z p122 again ([.t (.bool false)],H14 E0 E0 E0 g s [])=again ([],H14 E0 E0 E0 (rxG g (BF s) f.seg) (rxX (BF s) f.seg) []):=by
 have k80:=s80 s.dat hd f l hf;have k81:=s81 s.rcv;have k82:=s82 s.rcv f.seg;rw [Xv];unfold rxG;have hpr:(BF s).rcv=s.rcv:=rfl;rw [hpr];generalize DZ s.rcv f.seg=w at hw hb k82 ⊢;obtain ⟨a,r,e⟩:=w;simp only at hw hb k82 ⊢;subst hw;have k81':=s81 a;have hx:BF s={s with dat:=⟨s.dat.rng,l,s.dat.sent,s.dat.lost⟩}:=by simp only [BF,hf,tail_cons]
 simp only [ML,Rcv.enc,BL.enc,Seg.enc,cons_append,nil_append] at k80 k81 k82 k81';cases hc:A1 s.rcv with
 |true=>
  have e:rxF {BF s with rcv:=a}={BF s with rcv:=a}:=by simp only [rxF,BF,hrv,hc,true_eq_false,false_and,if_false]
  rw [e];have kl:=X5 g {BF s with rcv:=a} r (hb.of rfl rfl rfl rfl rfl rfl rfl rfl) hq ⟨s.dat.rng,l,s.dat.sent,s.dat.lost⟩ a [tI a.ses,tI a.tot,.sl 2 (a.known.map Span.enc),.str a.data,.sl 8 (r.map Seg.enc),tI 0] rfl p122 h122;refine (k80.and (k81.and (k82.and kl))).mono fun n h z again => ?_;obtain ⟨h1,h2,h3,h4⟩:=h;have h4:=h4 again;simp only [hx,H14,rwO,chB,FB] at h4 ⊢;simp only [IZ,RJ,Bt,vv2,vf,reduceCtorEq,reduceAdd,reduceEqDiff,h1,h2,hc,h3,Bool.not_true,bne_self_eq_false];exact h4
 |false=>
  cases hc2:A1 a with
  |true=>
   have e:rxF {BF s with rcv:=a}={BF s with rcv:=a,rcvd:=true,arrive:=s.now}:=by simp only [rxF,BF,hrv,hc,hc2,and_self,if_true]
   rw [e];have kl:=X5 g {BF s with rcv:=a,rcvd:=true,arrive:=s.now} r (hb.of rfl rfl rfl rfl rfl rfl rfl rfl) hq ⟨s.dat.rng,l,s.dat.sent,s.dat.lost⟩ a [tI a.ses,tI a.tot,.sl 2 (a.known.map Span.enc),.str a.data,.sl 8 (r.map Seg.enc),tI 0] rfl p122 h122;refine (k80.and (k81.and (k82.and (k81'.and kl)))).mono fun n h z again => ?_;obtain ⟨h1,h2,h3,h5,h4⟩:=h;have h4:=h4 again;simp only [hx,H14,rwO,chB,FB] at h4 ⊢;simp only [IZ,RJ,Bt,vv2,vf,reduceCtorEq,reduceAdd,reduceEqDiff,h1,h2,hc,hc2,h3,h5,h122,Bool.not_false,bne_self_eq_false];exact h4
  |false=>
   have e:rxF {BF s with rcv:=a}={BF s with rcv:=a}:=by simp only [rxF,BF,hc2,false_eq_true,and_false,if_false]
   rw [e];have kl:=X5 g {BF s with rcv:=a} r (hb.of rfl rfl rfl rfl rfl rfl rfl rfl) hq ⟨s.dat.rng,l,s.dat.sent,s.dat.lost⟩ a [tI a.ses,tI a.tot,.sl 2 (a.known.map Span.enc),.str a.data,.sl 8 (r.map Seg.enc),tI 0] rfl p122 h122;refine (k80.and (k81.and (k82.and (k81'.and kl)))).mono fun n h z again => ?_;obtain ⟨h1,h2,h3,h5,h4⟩:=h;have h4:=h4 again;simp only [hx,H14,rwO,chB,FB] at h4 ⊢;simp only [IZ,RJ,Bt,vv2,vf,reduceCtorEq,reduceAdd,reduceEqDiff,h1,h2,hc,hc2,h3,h5,Bool.not_false,bne_self_eq_false];exact h4
theorem rx_14 {P:Ses→Prop} (hP:RxQ P) (g:Gh) (s:Ses) (f1 f2 f3:AI) (h:P s) :
  Ev fun n=>∀again,WK n (fI C n) again ([.ptr 7 0,.t (tI s.now)],H14 f1 f2 f3 g s [])=again ([],H14 E0 E0 E0 (rxT s.dat.frames.length (g,s)).1 (rxS s.dat.frames.length s) []):=by
 have key:=CB (R:=List Tree) (Z:=List AV×Heap→Option (List Tree)) (Q:=Gh×Ses)
  (B:=fun n z p again=>OV n (fI C n) z ([.ptr 7 0,.t (tI s.now)],H14 f1 f2 f3 g s []) p again)
  (s:=(([],H14 E0 E0 E0 g s []):List AV×Heap)) (r:=rxT s.dat.frames.length (g,s))
  (fun z q=>z ([],H14 E0 E0 E0 q.1 q.2 [])) (fun q:Gh×Ses=>(([],H14 E0 E0 E0 q.1 q.2 []):List AV×Heap)) rx1 (fun q=>P q.2∧q.2.now=s.now) (fun q=>q.2.dat.frames.length) (fun q=>rxT q.2.dat.frames.length q) (g,s) rfl ⟨h,rfl⟩ rfl
  (fun q hI => ?_) (fun q q' hI hs=>rx1_ok hP hI hs) (fun q hI=>rx1_fin q)
 ·refine key.mono fun n h again => ?_;have h:=h again;rw [QQ] at h;simp only [H14] at h;simp only [tC14_3,ZQ,H14,Bt,vv2,vf,reduceCtorEq,reduceAdd,reduceEqDiff,h]
 ·obtain ⟨g1,s1⟩:=q;obtain ⟨hI,i3⟩:=hI;simp only at hI i3 ⊢;have hd:=hP.p.dat s1 hI;have k76:=s76 s1.dat hd;cases hf:s1.dat.frames with
  |nil=>
   have hn:A0 s1.dat=none:=by simp [A0,hf]
   refine k76.mono fun n h z again => ?_;rw [hn] at h;simp only [BL.enc,DX] at h;simp only [rx1,hf,OV,IZ,H14,rwO,Bt,vv2,vf,reduceCtorEq,reduceAdd,reduceEqDiff,Rd.Ar];rw [hf] at h;simp only [h,Bt,vv2,vf,reduceCtorEq,reduceAdd,reduceEqDiff,IZ,Bool.not_false]
  |cons f l=>
   have hn:A0 s1.dat=some f.arr:=by simp [A0,hf]
   by_cases ha:f.arr=s1.now
   ·obtain ⟨w1,w2,w3⟩:=hP.p.DZ s1 f l hI hf ha;obtain ⟨r1,r2⟩:=hP.rv s1 hI;refine (k76.and (hd_14 g1 s1 f l hf hd w1 w2 r1 r2 ([.ptr 7 0,.t (tI s.now)],H14 f1 f2 f3 g s []) (by rw [i3];rfl))).mono fun n h z again => ?_;obtain ⟨h,h2⟩:=h;rw [hn] at h;simp only [BL.enc,DX] at h;have h2:=h2 z again;simp only [rx1,hf,ha,if_true,Rd.AT];simp only [H14,rwO] at h2;simp only [OV,H14,rwO,Bt,vv2,vf,reduceCtorEq,reduceAdd,reduceEqDiff,h,ha,i3,bne_self_eq_false,Bool.not_true];exact h2
   ·have ha':(f.arr != s.now)=true:=by rw [← i3];simpa using ha
    refine k76.mono fun n h z again => ?_;rw [hn] at h;simp only [BL.enc,DX] at h;simp only [rx1,hf,ha,if_false,Rd.Ar];simp only [OV,IZ,H14,rwO,Bt,vv2,vf,reduceCtorEq,reduceAdd,reduceEqDiff,h,ha',Bool.not_true]
end Ab
set_option linter.unusedVariables false
set_option linter.unusedSimpArgs false
set_option maxRecDepth 100000
namespace Ab
open Go
theorem hr_14 (g:Gh) (s:Ses) (f:Frame) (l:List Frame) (hf:s.rep.frames=f::l) (hat:f.arr=s.now) (hr:Bs s.rep) (ha:s.snd.acked.length≤100∧s.pend.length≤1000000) (hx:f.seg.AZ.length≤100∨1000<f.seg.AZ.length)
  (hw:¬s.now<s.snd.busy→(Ay s.snd s.now f.seg).2.2=0∧(Ay s.snd s.now f.seg).2.1.length≤1000000)
  (hk:¬s.now<s.snd.busy→((s.kno=false∧(Ay s.snd s.now f.seg).1.st=2)↔(s.snd.st=1∧(Ay s.snd s.now f.seg).1.st=2))) (p331:ST) (h331:vI p331 1=s.now) :
  Ev fun n=>∀z again,G5 n (fI C n) z p331 ([],H14 E0 E0 E0 g s []) again=again ([],H14 E0 E0 E0 (lsG g (B8 s)) (lsX (B8 s) f.seg) []):=by
 have k76:=s76 s.rep hr;have k80:=s80 s.rep hr f l hf;have hn:A0 s.rep=some f.arr:=by simp [A0,hf]
 rw [hn,hat] at k76;have hpx:B8 s={s with rep:=⟨s.rep.rng,l,s.rep.sent,s.rep.lost⟩}:=by simp only [B8,hf,tail_cons]
 rw [hpx];simp only [BL.enc,DX,Seg.enc,cons_append,nil_append] at k76 k80;by_cases hb:s.now<s.snd.busy
 ·refine (k76.and k80).mono fun n h z again => ?_;obtain ⟨h1,h2⟩:=h;simp only [lsX,lsG,hb,if_true];simp only [G5,IY,Df,H14,rwO,Bt,vv2,vf,reduceCtorEq,reduceAdd,reduceEqDiff,h1,h2,h331,hb,bne_self_eq_false,Bool.not_true]
 ·obtain ⟨w1,w2⟩:=hw hb;have hk:=hk hb;have q2:¬g.pre.length+s.pend.length<g.pre.length+s.pend.length:=by omega
  have q4:take s.pend.length (List.map Out.enc s.pend)=List.map Out.enc s.pend:=take_of_length_le (by simp);have h83:=s83 s.snd s.now f.seg ha.1 hx;simp only [BR,w1,Snd.enc,Seg.enc,cons_append,nil_append] at h83;simp only [lsX,lsG,hb,if_false,gP];generalize Ay s.snd s.now f.seg=w at h83 w1 w2 hk ⊢;obtain ⟨a,o,e⟩:=w;simp only at h83 w1 w2 hk ⊢;have q3:s.pend.length+o.length≤1073741824:=by omega
  by_cases hk0:s.kno=false∧a.st=2
  ·obtain ⟨k1,k2⟩:=hk.1 hk0;have k2:(a.st==2)=true:=by simpa using k2
   refine (k76.and (k80.and h83)).mono fun n h z again => ?_;obtain ⟨h1,h2,h3⟩:=h;simp only [k1] at h3;simp only [lsF,hk0,and_self,if_true];simp only [G5,IY,Df,H14,rwO,Bt,vv2,vf,reduceCtorEq,reduceAdd,reduceEqDiff,h1,h2,h331,hb,k1,k2,h3,bne_self_eq_false,beq_self_eq_true,Bool.not_true,length_append,length_map,q2,q3,q4,drop_left,le_refl,map_append,nil_append,length_nil]
  ·have hk1:¬(s.snd.st=1∧a.st=2):=fun q=>hk0 (hk.2 q);refine (k76.and (k80.and h83)).mono fun n h z again => ?_;obtain ⟨h1,h2,h3⟩:=h;simp only [lsF,hk0,if_false];by_cases k1:s.snd.st=1
   ·have k2:(a.st==2)=false:=by simpa using fun q=>hk1 ⟨k1,q⟩
    simp only [k1] at h3;simp only [G5,IY,Df,H14,rwO,Bt,vv2,vf,reduceCtorEq,reduceAdd,reduceEqDiff,h1,h2,h331,hb,k1,k2,h3,bne_self_eq_false,beq_self_eq_true,Bool.not_true,length_append,length_map,q2,q3,q4,drop_left,le_refl,map_append,nil_append,length_nil]
   ·have k1':(s.snd.st==1)=false:=by simpa using k1
    simp only [G5,IY,Df,H14,rwO,Bt,vv2,vf,reduceCtorEq,reduceAdd,reduceEqDiff,h1,h2,h331,hb,k1',h3,bne_self_eq_false,Bool.not_true,length_append,length_map,q2,q3,q4,drop_left,le_refl,map_append,nil_append,length_nil]
theorem ls_14 {P:Ses→Prop} (hP:LsQ P) (g:Gh) (s:Ses) (f1 f2 f3:AI) (h:P s) :
  Ev fun n=>∀again,WJ n (fI C n) again ([.ptr 7 0,.t (tI s.now)],H14 f1 f2 f3 g s [])=again ([],H14 E0 E0 E0 (lsT s.rep.frames.length (g,s)).1 (lsS s.rep.frames.length s) []):=by
 have key:=CB (R:=List Tree) (Z:=List AV×Heap→Option (List Tree)) (Q:=Gh×Ses)
  (B:=fun n z p again=>G5 n (fI C n) z ([.ptr 7 0,.t (tI s.now)],H14 f1 f2 f3 g s []) p again)
  (s:=(([],H14 E0 E0 E0 g s []):List AV×Heap)) (r:=lsT s.rep.frames.length (g,s))
  (fun z q=>z ([],H14 E0 E0 E0 q.1 q.2 [])) (fun q:Gh×Ses=>(([],H14 E0 E0 E0 q.1 q.2 []):List AV×Heap)) ls1 (fun q=>P q.2∧q.2.now=s.now) (fun q=>q.2.rep.frames.length) (fun q=>lsT q.2.rep.frames.length q) (g,s) rfl ⟨h,rfl⟩ rfl
  (fun q hI => ?_) (fun q q' hI hs=>ls1_ok hP hI hs) (fun q hI=>ls1_fin q)
 ·refine key.mono fun n h again => ?_;have h:=h again;rw [Qf] at h;simp only [H14] at h;simp only [tC14_4,ZP,H14,Bt,vv2,vf,reduceCtorEq,reduceAdd,reduceEqDiff,h]
 ·obtain ⟨g1,s1⟩:=q;obtain ⟨hI,i3⟩:=hI;simp only at hI i3 ⊢;have hd:=hP.p.rep s1 hI;have k76:=s76 s1.rep hd;cases hf:s1.rep.frames with
  |nil=>
   have hn:A0 s1.rep=none:=by simp [A0,hf]
   refine k76.mono fun n h z again => ?_;rw [hn] at h;simp only [BL.enc,DX] at h;simp only [ls1,hf,G5,IY,H14,rwO,Bt,vv2,vf,reduceCtorEq,reduceAdd,reduceEqDiff,Rd.Ar];rw [hf] at h;simp only [h,Bt,vv2,vf,reduceCtorEq,reduceAdd,reduceEqDiff,IY,Bool.not_false]
  |cons f l=>
   have hn:A0 s1.rep=some f.arr:=by simp [A0,hf]
   by_cases ha:f.arr=s1.now
   ·obtain ⟨w1,w2,w3⟩:=hP.p.DZ s1 f l hI hf ha;refine (hr_14 g1 s1 f l hf ha hd (hP.p.ack s1 hI) w1 w2 (hP.kn s1 f l hI hf ha) ([.ptr 7 0,.t (tI s.now)],H14 f1 f2 f3 g s []) (by rw [i3];rfl)).mono fun n h2 z again => ?_;have h2:=h2 z again;simp only [ls1,hf,ha,if_true,Rd.AT];exact h2
   ·have ha':(f.arr != s.now)=true:=by rw [← i3];simpa using ha
    refine k76.mono fun n h z again => ?_;rw [hn] at h;simp only [BL.enc,DX] at h;simp only [ls1,hf,ha,if_false,Rd.Ar];simp only [G5,IY,H14,rwO,Bt,vv2,vf,reduceCtorEq,reduceAdd,reduceEqDiff,h,ha',Bool.not_true]
theorem ex_14 (g:Gh) (s:Ses) (f1 f2 f3:AI) (he:s.entered<10000) (ha:s.snd.acked.length≤100) (hl:s.pend.length≤1000000)
  (hw:s.snd.st=1→s.snd.due=s.now→(By s.snd s.now).2.2=0∧(By s.snd s.now).2.1.length≤1000000) :
  Ev fun n=>∀again,WI n (fI C n) again ([.ptr 7 0,.t (tI s.now)],H14 f1 f2 f3 g s [])=again ([],H14 E0 E0 E0 (exG g s) (exS s) []):=by
 have q:¬(10000:Int)≤s.entered:=by omega
 by_cases h1:s.snd.st=1
 ·by_cases h2:s.snd.due=s.now
  ·obtain ⟨w1,w2⟩:=hw h1 h2;have e1:exS s={s with snd:=(By s.snd s.now).1,pend:=s.pend++(By s.snd s.now).2.1}:=by simp only [exS,h1,h2,and_self,if_true]
   have e2:exG g s={g with v0:=g.v0+1,pre:=[]}:=by simp only [exG,h1,h2,and_self,if_true]
   rw [e1,e2];refine (s84 s.snd s.now ha).mono fun n h again => ?_;simp only [BR,w1,Snd.enc,cons_append,nil_append,h1,h2] at h;generalize By s.snd s.now=w at h w1 w2 ⊢;obtain ⟨a,o,e⟩:=w;simp only at h w1 w2 ⊢;have q2:¬g.pre.length+s.pend.length<g.pre.length+s.pend.length:=by omega
   have q3:s.pend.length+o.length≤1073741824:=by omega
   have q4:take s.pend.length (List.map Out.enc s.pend)=List.map Out.enc s.pend:=take_of_length_le (by simp);simp only [TP,S9,RI,H14,rwO,Bt,vv2,vf,reduceCtorEq,reduceAdd,reduceEqDiff,h1,h2,h,q,beq_self_eq_true,bne_self_eq_false,decide_false,Bool.not_false,length_append,length_map,q2,q3,q4,drop_left,map_append,le_refl,nil_append,length_nil]
  ·have h2':(s.snd.due==s.now)=false:=by simpa using h2
   have e1:exS s=s:=by simp only [exS,h2,and_false,if_false]
   have e2:exG g s=g:=by simp only [exG,h2,and_false,if_false]
   rw [e1,e2];refine Ev.of fun n again => ?_;simp only [TP,S9,RI,H14,rwO,Bt,vv2,vf,reduceCtorEq,reduceAdd,reduceEqDiff,h1,h2',q,beq_self_eq_true]
 ·have h1':(s.snd.st==1)=false:=by simpa using h1
  have e1:exS s=s:=by simp only [exS,h1,false_and,if_false]
  have e2:exG g s=g:=by simp only [exG,h1,false_and,if_false]
  rw [e1,e2];refine Ev.of fun n again => ?_;simp only [TP,S9,RI,H14,rwO,Bt,vv2,vf,reduceCtorEq,reduceAdd,reduceEqDiff,h1']
end Ab
set_option linter.unusedVariables false
set_option linter.unusedSimpArgs false
set_option maxRecDepth 100000
namespace Ab
open Go
theorem stp_14 {W P1 P2:Ses→Prop} {μ:Ses→Nat} (hR:ZT W P1 P2 μ) (g:Gh) (s:Ses) (h:W s) (y14 y15 y16:List Tree) :
  Ev fun n=>∀again,Jq n (fI C n) y14 y15 y16 ([],H14 E0 E0 E0 g s []) again=(match nxS s with
   |none=>some (Tg s)
   |some t=>again ([],H14 E0 E0 E0 (stT (g,s) t).1 (stS s t) [])):=by
 obtain ⟨n1,n2,n3⟩:=hR.p.nx s h;have kx:=nx_14 g s (.row true 0 15 [[tI (gI y14 0),tI (gI y14 1),tI (gI y14 2),tI (gI y14 3),tI (gI y14 4),tI (gI y14 5),tI (gI y14 6),tI (gI y14 7),.str (gS y14 8),tI (gI y14 9),tI (gI y14 10),tI (gI y14 11),.sl 2 (gL y14 12),tI (gI y14 13),tI (gI y14 14)]]) (.row true 0 4 [[tI (gI y15 0),tI (gI y15 1),.sl 2 (gL y15 2),.str (gS y15 3)]]) (.row true 0 4 [[tI (gI y16 0),.sl 10 (gL y16 1),tI (gI y16 2),tI (gI y16 3)]]) n1 n2 n3;cases hn:nxS s with
 |none=>
  rw [hn] at kx;refine kx.mono fun n k again => ?_;simp only [H14,rwO,DT,getD_none,isSome_none] at k;simp only [Jq,Ue,H14,rwO,Bt,vv2,vf,reduceCtorEq,reduceAdd,reduceEqDiff,k,Bool.not_false,Tg,drop_zero]
  try rw [take_of_length_le (by simp),take_of_length_le (by simp)]
 |some t=>
  rw [hn] at kx;have t1:(ph1 s t).now=t:=Uu _ _;have t2:(ph2 s t).now=t:=(U7 _ _).trans t1;have t3:(ph3 s t).now=t:=(Vb _ _).trans t2;have k0:Ev fun n=>∀again,WL n (fI C n) again ([.ptr 7 0,.t (tI t)],H14 (.row true 0 15 [[tI (gI y14 0),tI (gI y14 1),tI (gI y14 2),tI (gI y14 3),tI (gI y14 4),tI (gI y14 5),tI (gI y14 6),tI (gI y14 7),.str (gS y14 8),tI (gI y14 9),tI (gI y14 10),tI (gI y14 11),.sl 2 (gL y14 12),tI (gI y14 13),tI (gI y14 14)]]) (.row true 0 4 [[tI (gI y15 0),tI (gI y15 1),.sl 2 (gL y15 2),.str (gS y15 3)]]) (.row true 0 4 [[tI (gI y16 0),.sl 10 (gL y16 1),tI (gI y16 2),tI (gI y16 3)]]) g s [])=again ([],H14 E0 E0 E0 (g1T g s t) (ph1 s t) []):=tx_14 g {s with now:=t} _ _ _ (hR.p.tx s t h hn) (hR.tx s h);have k1:Ev fun n=>∀again,WK n (fI C n) again ([.ptr 7 0,.t (tI (ph1 s t).now)],H14 (.row true 0 15 [[tI (gI y14 0),tI (gI y14 1),tI (gI y14 2),tI (gI y14 3),tI (gI y14 4),tI (gI y14 5),tI (gI y14 6),tI (gI y14 7),.str (gS y14 8),tI (gI y14 9),tI (gI y14 10),tI (gI y14 11),.sl 2 (gL y14 12),tI (gI y14 13),tI (gI y14 14)]]) (.row true 0 4 [[tI (gI y15 0),tI (gI y15 1),.sl 2 (gL y15 2),.str (gS y15 3)]]) (.row true 0 4 [[tI (gI y16 0),.sl 10 (gL y16 1),tI (gI y16 2),tI (gI y16 3)]]) (g1T g s t) (ph1 s t) [])=again ([],H14 E0 E0 E0 (g2T g s t) (ph2 s t) []):=rx_14 hR.rx (g1T g s t) (ph1 s t) _ _ _ (hR.p.p1 s t h hn);have k2:Ev fun n=>∀again,WJ n (fI C n) again ([.ptr 7 0,.t (tI (ph2 s t).now)],H14 (.row true 0 15 [[tI (gI y14 0),tI (gI y14 1),tI (gI y14 2),tI (gI y14 3),tI (gI y14 4),tI (gI y14 5),tI (gI y14 6),tI (gI y14 7),.str (gS y14 8),tI (gI y14 9),tI (gI y14 10),tI (gI y14 11),.sl 2 (gL y14 12),tI (gI y14 13),tI (gI y14 14)]]) (.row true 0 4 [[tI (gI y15 0),tI (gI y15 1),.sl 2 (gL y15 2),.str (gS y15 3)]]) (.row true 0 4 [[tI (gI y16 0),.sl 10 (gL y16 1),tI (gI y16 2),tI (gI y16 3)]]) (g2T g s t) (ph2 s t) [])=again ([],H14 E0 E0 E0 (g3T g s t) (ph3 s t) []):=ls_14 hR.ls (g2T g s t) (ph2 s t) _ _ _ (hR.p.p2 s t h hn);have hx:=hR.p.ex s t h hn;have k3:Ev fun n=>∀again,WI n (fI C n) again ([.ptr 7 0,.t (tI (ph3 s t).now)],H14 (.row true 0 15 [[tI (gI y14 0),tI (gI y14 1),tI (gI y14 2),tI (gI y14 3),tI (gI y14 4),tI (gI y14 5),tI (gI y14 6),tI (gI y14 7),.str (gS y14 8),tI (gI y14 9),tI (gI y14 10),tI (gI y14 11),.sl 2 (gL y14 12),tI (gI y14 13),tI (gI y14 14)]]) (.row true 0 4 [[tI (gI y15 0),tI (gI y15 1),.sl 2 (gL y15 2),.str (gS y15 3)]]) (.row true 0 4 [[tI (gI y16 0),.sl 10 (gL y16 1),tI (gI y16 2),tI (gI y16 3)]]) (g3T g s t) (ph3 s t) [])=again ([],H14 E0 E0 E0 (stT (g,s) t).1 (stS s t) []):=ex_14 (g3T g s t) (ph3 s t) _ _ _ hx.ent hx.ack hx.pl hx.w;rw [t1] at k1;rw [t2] at k2;rw [t3] at k3;refine (kx.and (k0.and (k1.and (k2.and k3)))).mono fun n hh again => ?_;obtain ⟨kx,k0,k1,k2,k3⟩:=hh;simp only [H14,rwO,DT,Option.getD_some,isSome_some] at kx k0 k1 k2 k3;simp only [Jq,Ue,H14,rwO,Bt,vv2,vf,reduceCtorEq,reduceAdd,reduceEqDiff,kx,Bool.not_true];rw [k0];simp only [Zo,Bt,vv2,vf,reduceCtorEq,reduceAdd,reduceEqDiff];rw [k1];simp only [Zp,Bt,vv2,vf,reduceCtorEq,reduceAdd,reduceEqDiff];rw [k2];simp only [Zq,Bt,vv2,vf,reduceCtorEq,reduceAdd,reduceEqDiff];rw [k3];simp only [Df,Bt,vv2,vf,reduceCtorEq,reduceAdd,reduceEqDiff]
theorem rn_14 {W P1 P2:Ses→Prop} {μ:Ses→Nat} (hR:ZT W P1 P2 μ) (g:Gh) (s:Ses) (h:W s) (y14 y15 y16:List Tree) :
  Ev fun n=>AH (fun p again=>Jq n (fI C n) y14 y15 y16 p again) n ([],H14 E0 E0 E0 g s [])=some (Tg (Hr (μ s) s)):=by
 rw [← QR (μ s) (g,s)];refine HZ (R:=List Tree) (Q:=Gh×Ses) (B:=fun n p again=>Jq n (fI C n) y14 y15 y16 p again) (s:=(([],H14 E0 E0 E0 g s []):List AV×Heap)) (r:=rnT (μ s) (g,s))
  (fun r=>Tg r.2) (fun q:Gh×Ses=>(([],H14 E0 E0 E0 q.1 q.2 []):List AV×Heap)) (fun q=>match nxS q.2 with
   |none =>.done q
   |some t =>.next (stT q t)) (fun q=>W q.2) (fun q=>μ q.2) (fun q=>rnT (μ q.2) q) (g,s) rfl h rfl
  (fun q hI => ?_) (fun q q' hI hs => ?_) (fun q hI => ?_)
 ·obtain ⟨g1,s1⟩:=q;simp only at hI ⊢;have k:=stp_14 hR g1 s1 hI y14 y15 y16;cases hn:nxS s1 with
  |none=>
   rw [hn] at k;refine k.mono fun n k again => ?_;simp only [Rd.Ar];exact k again
  |some t=>
   rw [hn] at k;refine k.mono fun n k again => ?_;simp only [Rd.AT];exact k again
 ·cases hn:nxS q.2 with
  |none=>rw [hn] at hs;cases hs
  |some t=>
   rw [hn] at hs;cases hs;exact hR.p.st q.2 t hI hn
 ·cases hn:nxS q.2 with
  |none=>
   cases hm:μ q.2 with
   |zero=>rfl
   |succ m=>simp only [rnT,hn,Rd.fin]
  |some t=>
   obtain ⟨h1,h2⟩:=hR.p.st q.2 t hI hn;simp only [Rd.fin];cases hm:μ q.2 with
   |zero=>omega
   |succ m=>
    simp only [rnT,hn];exact Gf hR.p m (stT q t) h1 (by simp only [stT];omega)
end Ab
set_option linter.unusedVariables false
set_option linter.unusedSimpArgs false
set_option maxRecDepth 100000
namespace Ab
open Go
theorem s14 {W P1 P2:Ses→Prop} {μ:Ses→Nat} (hR:ZT W P1 P2 μ) (c:Con) (b e:Int) (d:ByteArray) (ps:List Int) (lim:Int) (dk:List Span) (hW:Kf c b e d ps lim dk=0→W (ini c b e d ps lim dk)) :
  AL C 14 (IH c b e d ps lim dk) (if Kf c b e d ps lim dk=0 then Tg (Hr (μ (ini c b e d ps lim dk)) (ini c b e d ps lim dk)) else [.bool false,tI 0,.bool false,tI 0,tI 0,tI 0,tI 0,tI (Kf c b e d ps lim dk)]):=by
 unfold IH Kf at *;refine AL.of (fun n=>e14 n _ _ _ _ _ _ _ _ _ _ _ _ _) ?_;by_cases h1:1000<ps.length
 ·refine Ev.of fun n => ?_;simp only [h1,vv2,vf,reduceCtorEq,reduceAdd,reduceEqDiff,(show (1000:Int)<(ps.length:Int) by omega),(show ¬(4:Int)=0 by omega)]
 ·have h1':¬(1000:Int)<(ps.length:Int):=by omega
  by_cases h2:lim < -1
  ·refine Ev.of fun n => ?_;simp only [h1,h1',h2,vv2,vf,reduceCtorEq,reduceAdd,reduceEqDiff,(show ¬(2:Int)=0 by omega)]
  ·by_cases h3:A8 dk=0
   ·by_cases h4:(Aq c 0 d b e).2.2=0
    ·have hr:=PA h4;simp only [h1,h2,h3,h4,if_false,ne_eq,not_true_eq_false,if_true] at hW ⊢;have kr:=rn_14 hR ⟨0,0,0,[]⟩ (ini c b e d ps lim dk) (hW trivial);have k2':=Rj c 0 d b e;have k4':SH 0=(⟨0,-1,[],ByteArray.mk #[]⟩,0):=rfl;have k4:=s48 0;rw [k4'] at k4;simp only [BR,h4,Con.enc,Snd.enc,Rcv.enc,cons_append,nil_append,map_nil] at k2' k4;refine ((s31 dk).and (k2'.and ((s49 c.rng hr).and (k4.and (kr [tI (Aq c 0 d b e).1.c.frm,tI (Aq c 0 d b e).1.c.dst,tI (Aq c 0 d b e).1.c.start,tI (Aq c 0 d b e).1.c.fin,tI (Aq c 0 d b e).1.c.rate,tI (Aq c 0 d b e).1.c.rng,tI (Aq c 0 d b e).1.c.loss,tI (Aq c 0 d b e).1.ses,.str (Aq c 0 d b e).1.data,tI (Aq c 0 d b e).1.fin,tI (Aq c 0 d b e).1.busy,tI (Aq c 0 d b e).1.ser,.sl 2 ((Aq c 0 d b e).1.acked.map Span.enc),tI (Aq c 0 d b e).1.due,tI (Aq c 0 d b e).1.st,.sl 9 ((Aq c 0 d b e).2.1.map Out.enc),tI 0] [tI 0,tI (-1),.sl 2 [],.str (ByteArray.mk #[]),tI 0] [tI c.rng,.sl 10 [],tI 0,tI 0,tI 0]))))).mono fun n hh => ?_;obtain ⟨k1,k2,k3,k4,kr⟩:=hh;simp only [h1',h2,h3,k1,k2,k3,k4,Con.enc,cons_append,nil_append,vv2,vf,reduceCtorEq,reduceAdd,reduceEqDiff,bne_self_eq_false];exact kr
    ·have h4':((Aq c 0 d b e).2.2 != 0)=true:=by simpa using h4
     refine ((s31 dk).and (Rj c 0 d b e)).mono fun n hh => ?_;obtain ⟨k1,k2⟩:=hh;simp only [BR,Con.enc,Snd.enc,cons_append,nil_append] at k2;simp only [h1,h1',h2,h3,h4,k1,k2,h4',Con.enc,cons_append,nil_append,vv2,vf,reduceCtorEq,reduceAdd,reduceEqDiff,bne_self_eq_false,ne_eq,not_true_eq_false]
   ·have h3':(A8 dk != 0)=true:=by simpa using h3
    refine (s31 dk).mono fun n k1 => ?_;simp only [h1,h1',h2,h3,k1,h3',vv2,vf,reduceCtorEq,reduceAdd,reduceEqDiff,ne_eq,not_false_eq_true,(show ¬(1:Int)=0 by omega)]
end Ab
set_option linter.unusedVariables false
set_option linter.unusedSimpArgs false
namespace Ab
open Go
structure RxF (p:Par) (s s':Ses) (f:Frame) (l:List Frame):Prop where
 sp:OO p.d f.seg
 rcv:s'.rcv=CW s.rcv f.seg
 mem:∀t,Ac t s'.rcv.known↔Ac t s.rcv.known∨(f.seg.off≤t∧t<f.seg.off+f.seg.data.size)
 dat:s'.dat={s.dat with frames:=l}
 snd:s'.snd=s.snd
 pend:s'.pend=s.pend
 sent:s'.sent=s.sent
 now:s'.now=s.now
 kno:s'.kno=s.kno
 knoAt:s'.knoAt=s.knoAt
 rcvd:s'.rcvd=A1 s'.rcv
 arr:s'.arrive=if s.rcvd=false∧s'.rcvd=true then s.now else s.arrive
 cl:(CG s.rcv f.seg).AZ=s'.rcv.known
 no:f.seg.chk=false→s'.rep=s.rep∧s'.told=s.told∧s'.entered=s.entered∧s'.dist=s.dist
 yes:f.seg.chk=true→Kv p.d (CG s.rcv f.seg)∧s'.rep=CO s.rep s.now (CG s.rcv f.seg) (DD s p.c.rng).1∧s'.told=s.told++[⟨s.now,CG s.rcv f.seg⟩]∧s'.entered=s.entered+1∧s'.dist=(DD s p.c.rng).2
 mono:s.rcvd=true→s'.rcvd=true
theorem rxF_f (s:Ses):(rxF s).rcv=s.rcv∧(rxF s).rep=s.rep∧(rxF s).told=s.told∧(rxF s).entered=s.entered∧(rxF s).dist=s.dist∧(rxF s).arrive=if s.rcvd=false∧A1 s.rcv=true then s.now else s.arrive:=by
 unfold rxF;by_cases h:s.rcvd=false∧A1 s.rcv=true
 ·rw [if_pos h,if_pos h];exact ⟨rfl,rfl,rfl,rfl,rfl,rfl⟩
 ·rw [if_neg h,if_neg h];exact ⟨rfl,rfl,rfl,rfl,rfl,rfl⟩
theorem Inv.rxFs {p:Par} {s:Ses} (hp:POk p) (h:Inv p s) {f:Frame} {l:List Frame} (hf:s.dat.frames=f::l) (ha:f.arr=s.now):RxF p s (rxX (BF s) f.seg) f l:=by
 obtain ⟨f1,f2,f3,f4,f5⟩:=h.fd f (by rw [hf];simp);obtain ⟨e1,e2,e3,e4,e5,e6⟩:=h.Vg hp f1;have hI:=h.rx hp hf ha;have hfr:s.dat.frames.tail=l:=by rw [hf];rfl
 have hrr:(BF s).rep.rng=p.c.rng:=h.rr;have hpop:(BF s).rcv=s.rcv:=rfl;have hH:rxH (BF s) f.seg=if f.seg.chk=true then CQ {BF s with rcv:=CW s.rcv f.seg} (CG s.rcv f.seg) else {BF s with rcv:=CW s.rcv f.seg}:=by unfold rxH;rw [hpop,e1];split<;>rfl
 obtain ⟨q1,q2,q3,q4,q5,q6⟩:=rxF_f (rxH (BF s) f.seg);have e0:rxX (BF s) f.seg=rxF (rxH (BF s) f.seg):=rfl;rw [← e0] at q1 q2 q3 q4 q5 q6;have hrv:(rxX (BF s) f.seg).rcv=CW s.rcv f.seg:=by rw [q1,hH];split<;>rfl
 obtain ⟨p1,p2,p3,p4,p5⟩:=Rn (BF s) f.seg;have hrc:(rxX (BF s) f.seg).rcvd=A1 (CW s.rcv f.seg):=by rw [hI.rv,hrv]
 refine ⟨f1,hrv,by rw [hrv];exact e4,by rw [Ey];simp [BF,hfr],p2,p1,p3,by rw [KA];rfl,p4,p5,hI.rv,?_,by rw [hrv];exact e6,fun hc => ?_,fun hc=>⟨e3 hc,?_⟩,fun q=>by rw [hrc];exact e5 (by rw [← h.rv];exact q)⟩
 ·rw [hrc,q6,hH];split<;>rfl
 ·rw [q2,q3,q4,q5,hH,if_neg (by simp [hc])];exact ⟨rfl,rfl,rfl,rfl⟩
 ·rw [q2,q3,q4,q5,hH,if_pos hc];have e:(DD {BF s with rcv:=CW s.rcv f.seg} p.c.rng)=DD s p.c.rng:=rfl;simp only [CQ];rw [hrr,e];exact ⟨rfl,rfl,rfl,rfl⟩
structure Knw (p:Par) (kt:Int→Int) (s:Ses):Prop where
 pd:∀o∈s.pend,p.b<o.at_
 fd:∀f∈s.dat.frames,p.b+p.c.rng<f.arr
 k1:∀t,Ac t s.rcv.known→p.b+p.c.rng<kt t∧kt t≤s.now
 k2:∀t,Ac t s.snd.acked→Ac t s.rcv.known∧kt t+p.c.rng≤s.now
 k3:∀f∈s.rep.frames,∀t,Ac t f.seg.AZ→Ac t s.rcv.known∧kt t+p.c.rng≤f.arr
 k4:s.rcvd=true→(∀t,Ac t s.rcv.known→kt t≤s.arrive)∧∃t,Ac t s.rcv.known∧kt t=s.arrive
 k5:s.rcvd=false→s.arrive=0
 k6:s.kno=false→s.knoAt=0
 k7:s.kno=true→s.rcvd=true∧s.arrive+p.c.rng≤s.knoAt
def JD (p:Par):Ses:=Hr (muS p (Wp p)) (Wp p)
theorem fin_ok {p:Par} (hp:POk p) (h:(Aq p.c 0 p.d p.b p.e).2.2=0):Reach p (Wp p) (JD p)∧Wt p (JD p)∧nxS (JD p)=none:=U9 hp _ _ (Tu hp h) (le_refl _)
end Ab
set_option linter.unusedVariables false
set_option linter.unusedSimpArgs false
namespace Ab
open Go
def cov (x:Seg) (t:Int):Prop:=x.off≤t∧t<x.off+x.data.size
structure QA (p:Par) (B:Int) (ck:Seg) (s:Ses):Prop where
 st:s.snd.st=1
 ser:s.snd.ser=1
 bu:s.snd.busy=B
 hck:ck.chk=true∧ck.ser=1∧1≤ck.data.size∧0≤ck.off∧ck.off+(ck.data.size:Int)≤(p.d.size:Int)
 all:∀t:Int,0≤t→t<p.d.size→Ac t s.rcv.known∨cov ck t∨(∃o∈s.pend,o.seg.chk=false∧cov o.seg t)∨∃f∈s.dat.frames,cov f.seg t∧f.arr<B+p.c.rng
 dj:∀t,cov ck t→¬Ac t s.rcv.known∧(∀o∈s.pend,o.seg.chk=false→¬cov o.seg t)∧∀f∈s.dat.frames,f.seg.chk=false→¬cov f.seg t
 pn:∀o∈s.pend,(o.seg.chk=false→o.at_<B)∧(o.seg.chk=true→o.seg=ck∧o.at_=B)
 fn:∀f∈s.dat.frames,f.seg.chk=true→f.seg=ck∧B+p.c.rng≤f.arr
 ex:(∃o∈s.pend,o.seg=ck)∨((∃f∈s.dat.frames,f.seg=ck∧f.arr=B+p.c.rng)∧∀o∈s.pend,o.seg.chk=false)
 rp:s.rep.frames=[]
 kn:s.kno=false
 rc:s.rcvd=false
structure QB (p:Par) (B:Int) (s:Ses):Prop where
 st:s.snd.st=1
 ser:s.snd.ser=1
 bu:s.snd.busy=B
 rc:s.rcvd=true
 ar:s.arrive=B+p.c.rng
 nw:B+p.c.rng≤s.now
 pn:s.pend=[]
 kn:s.kno=false
 wh:∀f∈s.rep.frames,∀t:Int,0≤t→t<p.d.size→Ac t f.seg.AZ
 ex:∃f∈s.rep.frames,f.seg.ser=1∧f.arr=B+2*p.c.rng
structure QC (p:Par) (B:Int) (s:Ses):Prop where
 st:s.snd.st=2
 bu:s.snd.busy=B
 rc:s.rcvd=true
 ar:s.arrive=B+p.c.rng
 kn:s.kno=true
 ka:s.knoAt=B+2*p.c.rng
def Q (p:Par) (B:Int) (s:Ses):Prop:=(∃ck,QA p B ck s)∨QB p B s∨QC p B s
theorem PU {c:BL} {t:Int} {x:Seg} {ds:List Int} (h0:0≤c.lost) (h:(CO c t x ds).lost=0):c.lost=0∧c.rng∈ds:=by
 simp only [CO,H5] at h;by_cases hm:c.rng∈ds
 ·rw [if_pos hm] at h;exact ⟨by omega,hm⟩
 ·rw [if_neg hm] at h;omega
theorem Mic.lost {p:Par} {s s':Ses} (hp:POk p) (m:Mic p s s') (h1:s'.dat.lost=0) (h2:s'.rep.lost=0):s.dat.lost=0∧s.rep.lost=0:=by
 cases m with
 |time t q1 q2 q3 q4 q5 q6=>exact ⟨h1,h2⟩
 |tx o l q1 q2 q3=>exact ⟨(PU q1.gd.lost.1 h1).1,h2⟩
 |rx f l q1 q2 q3 q4=>
  have hF:=q1.rxFs hp q3 q4;refine ⟨by rw [hF.dat] at h1;exact h1,?_⟩;cases hc:f.seg.chk with
  |false=>rw [(hF.no hc).1] at h2;exact h2
  |true=>rw [(hF.yes hc).2.1] at h2;exact (PU q1.gr.lost.1 h2).1
 |ls _ f l q1 q2 q3 q4 q5 q6=>cases q6<;>exact ⟨h1,h2⟩
 |ex _ q1 q2 q3 q4 q5=>cases q5<;>exact ⟨h1,h2⟩
end Ab
set_option maxRecDepth 100000
set_option linter.unusedVariables false
namespace Ab
open Go Go.Proofs
def Ie:List Sh:=[Sh.b,Sh.i,Sh.b,Sh.i,Sh.i,Sh.i,Sh.i]
def BO:List Sh:=[Sh.i,Sh.l 10,Sh.i,Sh.i,Sh.i,Sh.l 10,Sh.i,Sh.i,Sh.l 1,Sh.i,Sh.l 2,Sh.i,Sh.i,Sh.r 5,Sh.r 6,Sh.i,Sh.i,Sh.i,Sh.i,Sh.i,Sh.i,Sh.i,Sh.i,Sh.i,Sh.s,Sh.i,Sh.i,Sh.i,Sh.l 2,Sh.i,Sh.i,Sh.i,Sh.i,Sh.l 2,Sh.s,Sh.r 1,Sh.b,Sh.i,Sh.b,Sh.i]
def B6:List OSh:=[OSh.box Ie,OSh.row 9,OSh.frz 15,OSh.frz 4,OSh.frz 4,OSh.row 9,OSh.row 9,OSh.box BO]
def C4:List Sh:=[]
def BSB_4:List Sh:=[Sh.i]
def BSB_5:List Sh:=[Sh.b]
def Dg:List OSh:=[OSh.box Ie,OSh.row 9,OSh.box C4,OSh.box C4,OSh.box C4,OSh.row 9,OSh.row 9,OSh.box BO,OSh.box BSB_4,OSh.box BSB_5]
def Bh:List OSh:=[OSh.box Ie,OSh.row 9,OSh.box C4,OSh.box C4,OSh.box C4,OSh.row 9,OSh.row 9,OSh.box BO]
def TJ:List Sh:=[Sh.i,Sh.i,Sh.i,Sh.i,Sh.i,Sh.b,Sh.s,Sh.l 2]
def QE:List OSh:=[OSh.box Ie,OSh.row 9,OSh.box C4,OSh.box C4,OSh.box C4,OSh.row 9,OSh.row 9,OSh.box BO,OSh.box TJ]
def Cb:List OSh:=[OSh.box Ie,OSh.row 9,OSh.box C4,OSh.box C4,OSh.box C4,OSh.row 9,OSh.row 9,OSh.box BO,OSh.row 8]
def L5:List OSh:=[OSh.box Ie,OSh.row 9,OSh.box C4,OSh.box C4,OSh.box C4,OSh.row 9,OSh.row 9,OSh.box BO,OSh.row 8,OSh.box TJ]
def RR:List Sh:=[Sh.i,Sh.i,Sh.l 2,Sh.s]
def Jw:List OSh:=[OSh.box Ie,OSh.row 9,OSh.frz 15,OSh.frz 4,OSh.frz 4,OSh.row 9,OSh.row 9,OSh.box BO,OSh.row 8,OSh.box RR,OSh.box TJ]
def Ca:List OSh:=[OSh.box Ie,OSh.row 9,OSh.box C4,OSh.box C4,OSh.box C4,OSh.row 9,OSh.row 9,OSh.box BO,OSh.row 8,OSh.box RR,OSh.box TJ]
def Z1:List Sh:=[Sh.i,Sh.l 10,Sh.i,Sh.i]
def L4:List OSh:=[OSh.box Ie,OSh.row 9,OSh.box C4,OSh.box C4,OSh.box C4,OSh.row 9,OSh.row 9,OSh.box BO,OSh.row 8,OSh.box RR,OSh.box TJ,OSh.box Z1]
def Oh:List OSh:=[OSh.box Ie,OSh.row 9,OSh.box C4,OSh.box C4,OSh.box C4,OSh.row 9,OSh.row 9,OSh.box BO,OSh.row 8,OSh.box RR]
def L3:List OSh:=[OSh.box Ie,OSh.row 9,OSh.box C4,OSh.box C4,OSh.box C4,OSh.row 9,OSh.row 9,OSh.box BO,OSh.box Z1]
def EZ:List FuncId:=[50,51,52,53,54,71,96,124,125,126,127,144]
noncomputable def J26_1 (n:Nat) (ff:Nat→Rec) (k26:KT) (p28:ST):RT:=k26 ([],rh p28 0 Dg)
noncomputable def Zg (n:Nat) (ff:Nat→Rec) (k20:KT) (p70:ST):RT:=k20 (tv [tI (cI p70 8 0),.bool (cB p70 9 0)],rh p70 0 Bh)
noncomputable def OZ (n:Nat) (ff:Nat→Rec) (p52:ST) (k20:KT) (p64:ST):RT:=Am (.box [AV.yld 40,.t (tI (cI p52 7 29))]) (.box [AV.yld 40,.t (tI (cI p64 7 29))]) (join (Zg n ff k20) fun k71=>cnd (vB p64 0=true) (cnd ((!(cB p64 9 0))=true) (k71 ([],upd (rh p64 0 Dg) [(8,.box [.t (tI (cI p52 7 29))]),(9,.box [.t (.bool true)])])) (cnd (decide (cI p52 7 29<cI p64 8 0)=true) (k71 ([],upd (rh p64 0 Dg) [(8,.box [.t (tI (cI p52 7 29))]),(9,.box [.t (.bool true)])])) (k71 ([],rh p64 0 Dg)))) (k71 ([],rh p64 0 Dg)))
noncomputable def WC (n:Nat) (ff:Nat→Rec) (k20:KT) (p52:ST):RT:=join (OZ n ff p52 k20) fun k65=>cnd ((cI p52 7 30==1)=true) (k65 ([.t (.bool (!(decide (cI p52 7 11≥(10000:Int)))))],rh p52 0 Dg)) (k65 ([.t (.bool false)],rh p52 0 Dg))
noncomputable def QD (n:Nat) (ff:Nat→Rec) (k20:KT) (p39:ST):RT:=bd [0,1] (AA C n 122 (ct [0,13,0,0] p39 7 4 [])) fun y51=>join (WC n ff k20) fun k53=>cnd (gB y51 1=true) (cnd ((!(cB p39 9 0))=true) (k53 ([],upd (rh p39 0 Dg) [(8,.box [.t (tI (gI y51 0))]),(9,.box [.t (.bool true)])])) (cnd (decide (gI y51 0<cI p39 8 0)=true) (k53 ([],upd (rh p39 0 Dg) [(8,.box [.t (tI (gI y51 0))]),(9,.box [.t (.bool true)])])) (k53 ([],rh p39 0 Dg)))) (k53 ([],rh p39 0 Dg))
noncomputable def P9 (n:Nat) (ff:Nat→Rec) (k20:KT) (p25:ST):RT:=bd [0,1] (AA C n 122 (ct [0,13,0,0] p25 7 0 [])) fun y38=>join (QD n ff k20) fun k40=>cnd (gB y38 1=true) (cnd ((!(cB p25 9 0))=true) (k40 ([],upd (rh p25 0 Dg) [(8,.box [.t (tI (gI y38 0))]),(9,.box [.t (.bool true)])])) (cnd (decide (gI y38 0<cI p25 8 0)=true) (k40 ([],upd (rh p25 0 Dg) [(8,.box [.t (tI (gI y38 0))]),(9,.box [.t (.bool true)])])) (k40 ([],rh p25 0 Dg)))) (k40 ([],rh p25 0 Dg))
noncomputable def Zc (n:Nat) (ff:Nat→Rec) (k20:KT) (p23:ST):RT:=cnd (AD p23 1=AK p23 7 35) (join (P9 n ff k20) fun k26=>cnd (decide ((AJ p23 7 35:Int)>0)=true) (cnd (AD p23 1=AK p23 7 35∧9=9∧(0:Int)≤0∧0<(AJ p23 7 35:Int)) (cnd (AD p23 1=AK p23 7 35) (cnd (AD p23 1=AK p23 7 35) (Option.bind (oEs p23 1)[AO p23 7 35]? fun y27=>cnd (okI y27 0) (join (J26_1 n ff k26) fun k29=>cnd ((!(cB p23 9 0))=true) (k29 ([],upd (rh p23 0 Dg) [(8,.box [.t (tI (gI y27 0))]),(9,.box [.t (.bool true)])])) (cnd (decide (gI y27 0<cI p23 8 0)=true) (k29 ([],upd (rh p23 0 Dg) [(8,.box [.t (tI (gI y27 0))]),(9,.box [.t (.bool true)])])) (k29 ([],rh p23 0 Dg)))) none) none) none) none) (k26 ([],rh p23 0 Dg))) none
noncomputable def WH (n:Nat) (ff:Nat→Rec) (k20:KT) (p19:ST):RT:=ff 10 (List Tree) (.fn 96 [AV.ptr 7 0]) (rh p19 0 B6) fun rs h1=>cnd (BN C.P (A9 C.P 96) rs=true) (EH (rh p19 0 B6) h1 fun hs=>k20 (rs,hs)) none
noncomputable def V1 (n:Nat) (ff:Nat→Rec) (k20:KT) (p19:ST):RT:=join (Zc n ff k20) fun k24=>cnd (decide (cI p19 7 11≥(10000:Int))=true) (cnd (AD p19 1=AK p19 7 35) (k24 ([],upd (rh p19 0 Dg) [(7,.box (upd (rb p19 7 0 BO) [(35,.sref 1 (AK p19 7 35) (length (oEs p19 1)) 0)])),(8,.box [.t (tI 0)]),(9,.box [.t (.bool false)])])) none) (k24 ([],upd (rh p19 0 Dg) [(8,.box [.t (tI 0)]),(9,.box [.t (.bool false)])]))
theorem vC26_1 (n:Nat) (ff:Nat→Rec) (k20:KT) (p19:ST):Dc C (Fo C (pcx C (AA C n)) n ff EZ 9) (pcx C (AA C n)) n 96 [AV.ptr 7 0] (rh p19 0 B6) (fun rs h1=>cnd (BN C.P (A9 C.P 96) rs=true) (EH (rh p19 0 B6) h1 fun hs=>k20 (rs,hs)) none)=V1 n ff k20 p19:=by kernel_rfl
theorem Xd (n:Nat) (k20:KT) (p19:ST):WH n (fI C n) k20 p19=V1 n (fI C n) k20 p19:=(GU C n EZ 9 _ 96 _ _ _).trans (vC26_1 n (fI C n) k20 p19)
noncomputable def WB (n:Nat) (ff:Nat→Rec) (k91:KT) (p92:ST):RT:=cnd ((!(vB p92 0))=true) (k91 ([.t (.bool true)],rh p92 0 Bh)) (k91 ([.t (.bool ((cI p92 7 29) != cI p92 7 15))],rh p92 0 Bh))
noncomputable def WA (n:Nat) (ff:Nat→Rec) (k89:KT) (p90:ST):RT:=cnd (vB p90 0=true) (k89 ([],rh p90 0 Bh)) (bd [0,0,0,0,0,0,0,0,2,0,0,0,5,0,0,12,0] (AA C n 149 (ct kS p90 7 16 [tI (cI p90 7 15)])) fun y98=>cnd (((gI y98 16) != 0)=true) (k89 ([],upd (rh p90 0 Bh) [(7,.box (upd (rb p90 7 0 BO) [(29,.t (tI 0)),(30,.t (tI 3))]))])) (cnd (length (gL y98 15)=0∧AO p90 7 35+AJ p90 7 35<length (oEs p90 1)) (cnd (AD p90 1=AK p90 7 35) (k89 ([],upd (rh p90 0 Bh) [(7,.box (upd (rb p90 7 0 BO) [(16,.t (tI (gI y98 0))),(17,.t (tI (gI y98 1))),(18,.t (tI (gI y98 2))),(19,.t (tI (gI y98 3))),(20,.t (tI (gI y98 4))),(21,.t (tI (gI y98 5))),(22,.t (tI (gI y98 6))),(23,.t (tI (gI y98 7))),(24,.t (.str (gS y98 8))),(25,.t (tI (gI y98 9))),(26,.t (tI (gI y98 10))),(27,.t (tI (gI y98 11))),(28,.t (.sl 2 (gL y98 12))),(29,.t (tI (gI y98 13))),(30,.t (tI (gI y98 14)))]))])) none) (cnd (AD p90 1=AK p90 7 35∧(9=9∨9=0)∧AO p90 7 35+AJ p90 7 35≤length (oEs p90 1)∧AJ p90 7 35+length (gL y98 15)≤1073741824) (k89 ([],upd (rh p90 0 Bh) [(1,.row false (AK p90 7 35+1) 9 (take (AJ p90 7 35) (drop (AO p90 7 35) (oEs p90 1))++gL y98 15)),(7,.box (upd (rb p90 7 0 BO) [(16,.t (tI (gI y98 0))),(17,.t (tI (gI y98 1))),(18,.t (tI (gI y98 2))),(19,.t (tI (gI y98 3))),(20,.t (tI (gI y98 4))),(21,.t (tI (gI y98 5))),(22,.t (tI (gI y98 6))),(23,.t (tI (gI y98 7))),(24,.t (.str (gS y98 8))),(25,.t (tI (gI y98 9))),(26,.t (tI (gI y98 10))),(27,.t (tI (gI y98 11))),(28,.t (.sl 2 (gL y98 12))),(29,AV.t (tI (gI y98 13))),(30,.t (tI (gI y98 14))),(35,.sref 1 (AK p90 7 35+1) 0 (AJ p90 7 35+length (gL y98 15)))]))])) none)))
noncomputable def Zz (n:Nat) (ff:Nat→Rec) (k89:KT) (p88:ST):RT:=ff 10 (List Tree) (.fn 127 [AV.ptr 7 0]) (rh p88 0 B6) fun rs h1=>cnd (BN C.P (A9 C.P 127) rs=true) (EH (rh p88 0 B6) h1 fun hs=>k89 (rs,hs)) none
noncomputable def S8 (n:Nat) (ff:Nat→Rec) (k89:KT) (p88:ST):RT:=join (WA n ff k89) fun k91=>join (WB n ff k91) fun k93=>cnd ((cI p88 7 30==1)=true) (k93 ([.t (.bool (!(decide (cI p88 7 11≥(10000:Int)))))],rh p88 0 Bh)) (k93 ([.t (.bool false)],rh p88 0 Bh))
theorem vC26_2 (n:Nat) (ff:Nat→Rec) (k89:KT) (p88:ST):Dc C (Fo C (pcx C (AA C n)) n ff EZ 9) (pcx C (AA C n)) n 127 [AV.ptr 7 0] (rh p88 0 B6) (fun rs h1=>cnd (BN C.P (A9 C.P 127) rs=true) (EH (rh p88 0 B6) h1 fun hs=>k89 (rs,hs)) none)=S8 n ff k89 p88:=by kernel_rfl
theorem TO (n:Nat) (k89:KT) (p88:ST):Zz n (fI C n) k89 p88=S8 n (fI C n) k89 p88:=(GU C n EZ 9 _ 127 _ _ _).trans (vC26_2 n (fI C n) k89 p88)
noncomputable def IW (n:Nat) (ff:Nat→Rec) (k87:KT) (p86 p99:ST):RT:=k87 ([.t (tI (w64 (vI p86 0+1)))],rh p99 0 Bh)
noncomputable def RF (n:Nat) (ff:Nat→Rec) (p108:ST) (k107:KT) (p130:ST):RT:=cnd (vB p130 0=true) (cnd (AD p130 8=AD p108 8+1∧8≤8) (Option.bind (oEs p130 8)[0]? fun y132=>k107 ([.rptr 8 (AD p108 8+1) 0 0,.t (.bool false)],upd (rh p130 0 Cb) [(8,.row false (AD p108 8+1) 8 (List.set (oEs p130 8) 0 (zt kG []++drop 8 y132)))])) none) (bd [0,13,0,0,0,0,0,0,0,0,0,1,2,5,0] (AA C n 158 (ct [0,13,0,0] p130 7 4 [])) fun y133=>cnd (AD p130 8=AD p108 8+1∧8≤8) (Option.bind (oEs p130 8)[0]? fun y134=>k107 ([.rptr 8 (AD p108 8+1) 0 0,.t (.bool true)],upd (rh p130 0 Cb) [(7,.box (upd (rb p130 7 0 BO) [(4,.t (tI (gI y133 0))),(5,.t (.sl 10 (gL y133 1))),(6,.t (tI (gI y133 2))),(7,.t (tI (gI y133 3)))])),(8,.row false (AD p108 8+1) 8 (List.set (oEs p130 8) 0 (gt kG y133 6 []++drop 8 y134)))])) none)
noncomputable def Ob (n:Nat) (ff:Nat→Rec) (p106:ST) (k107:KT) (p108:ST):RT:=cnd (AD p108 8=A3 p106 0) (Option.bind (oEs p108 8)[0]? fun y128=>bk kG 0 y128 (cnd (AD p108 8+1=AD p108 8+1∧8≤8) (bd [0,1] (AA C n 122 (ct [0,13,0,0] p108 7 4 [])) fun y129=>join (RF n ff p108 k107) fun k131=>cnd ((!(gB y129 1))=true) (k131 ([.t (.bool true)],upd (rh p108 0 L5) [(8,.row false (AD p108 8+1) 8 [[tI (gI y128 0),tI (gI y128 1),tI (gI y128 2),tI (gI y128 3),tI (gI y128 4),.bool (gB y128 5),.str (gS y128 6),.sl 2 (gL y128 7)]]),(9,.box (tv (zt kG [])))])) (k131 ([.t (.bool ((gI y129 0) != cI p108 7 15))],upd (rh p108 0 L5) [(8,.row false (AD p108 8+1) 8 [[tI (gI y128 0),tI (gI y128 1),tI (gI y128 2),tI (gI y128 3),tI (gI y128 4),.bool (gB y128 5),.str (gS y128 6),.sl 2 (gL y128 7)]]),(9,.box (tv (zt kG [])))]))) none)) none
noncomputable def FK (n:Nat) (ff:Nat→Rec) (k102:KT) (p106:ST) (k107:KT):RT:=cnd (vB p106 1=true) (join (Ob n ff p106 k107) fun k109=>cnd (decide (cI p106 7 15<cI p106 7 26)=true) (k109 ([],rh p106 0 Cb)) (cnd (AD p106 8=A3 p106 0) (Option.bind (oEs p106 8)[0]? fun y110=>bk kG 0 y110 (bd [0,0,0,0,0,0,0,0,2,0,0,0,5,0,0,12,0] (AA C n 148 (ct kS p106 7 16 (tI (cI p106 7 15)::gt kG y110 0 []))) fun y111=>cnd (((gI y111 16) != 0)=true) (k109 ([],rh p106 0 Cb)) (cnd (length (gL y111 15)=0∧AO p106 7 35+AJ p106 7 35<length (oEs p106 1)) (cnd (AD p106 1=AK p106 7 35) (cnd ((!(cB p106 7 38))=true) (cnd ((gI y111 14==2)=true) (k109 ([],upd (rh p106 0 Cb) [(7,.box (upd (rb p106 7 0 BO) [(16,.t (tI (gI y111 0))),(17,.t (tI (gI y111 1))),(18,.t (tI (gI y111 2))),(19,.t (tI (gI y111 3))),(20,.t (tI (gI y111 4))),(21,.t (tI (gI y111 5))),(22,.t (tI (gI y111 6))),(23,.t (tI (gI y111 7))),(24,.t (.str (gS y111 8))),(25,.t (tI (gI y111 9))),(26,AV.t (tI (gI y111 10))),(27,.t (tI (gI y111 11))),(28,.t (.sl 2 (gL y111 12))),(29,.t (tI (gI y111 13))),(30,.t (tI (gI y111 14))),(38,.t (.bool true)),(39,.t (tI (cI p106 7 15)))]))])) (k109 ([],upd (rh p106 0 Cb) [(7,.box (upd (rb p106 7 0 BO) [(16,.t (tI (gI y111 0))),(17,.t (tI (gI y111 1))),(18,.t (tI (gI y111 2))),(19,.t (tI (gI y111 3))),(20,.t (tI (gI y111 4))),(21,.t (tI (gI y111 5))),(22,.t (tI (gI y111 6))),(23,.t (tI (gI y111 7))),(24,.t (.str (gS y111 8))),(25,.t (tI (gI y111 9))),(26,.t (tI (gI y111 10))),(27,.t (tI (gI y111 11))),(28,.t (.sl 2 (gL y111 12))),(29,.t (tI (gI y111 13))),(30,.t (tI (gI y111 14)))]))]))) (k109 ([],upd (rh p106 0 Cb) [(7,.box (upd (rb p106 7 0 BO) [(16,.t (tI (gI y111 0))),(17,.t (tI (gI y111 1))),(18,.t (tI (gI y111 2))),(19,.t (tI (gI y111 3))),(20,.t (tI (gI y111 4))),(21,.t (tI (gI y111 5))),(22,.t (tI (gI y111 6))),(23,.t (tI (gI y111 7))),(24,.t (.str (gS y111 8))),(25,.t (tI (gI y111 9))),(26,.t (tI (gI y111 10))),(27,.t (tI (gI y111 11))),(28,.t (.sl 2 (gL y111 12))),(29,.t (tI (gI y111 13))),(30,.t (tI (gI y111 14)))]))]))) none) (cnd (AD p106 1=AK p106 7 35∧(9=9∨9=0)∧AO p106 7 35+AJ p106 7 35≤length (oEs p106 1)∧AJ p106 7 35+length (gL y111 15)≤1073741824) (cnd ((!(cB p106 7 38))=true) (cnd ((gI y111 14==2)=true) (k109 ([],upd (rh p106 0 Cb) [(1,.row false (AK p106 7 35+1) 9 (take (AJ p106 7 35) (drop (AO p106 7 35) (oEs p106 1))++gL y111 15)),(7,.box (upd (rb p106 7 0 BO) [(16,.t (tI (gI y111 0))),(17,.t (tI (gI y111 1))),(18,.t (tI (gI y111 2))),(19,.t (tI (gI y111 3))),(20,.t (tI (gI y111 4))),(21,.t (tI (gI y111 5))),(22,.t (tI (gI y111 6))),(23,.t (tI (gI y111 7))),(24,.t (.str (gS y111 8))),(25,.t (tI (gI y111 9))),(26,.t (tI (gI y111 10))),(27,.t (tI (gI y111 11))),(28,.t (.sl 2 (gL y111 12))),(29,.t (tI (gI y111 13))),(30,.t (tI (gI y111 14))),(35,.sref 1 (AK p106 7 35+1) 0 (AJ p106 7 35+length (gL y111 15))),(38,.t (.bool true)),(39,.t (tI (cI p106 7 15)))]))])) (k109 ([],upd (rh p106 0 Cb) [(1,.row false (AK p106 7 35+1) 9 (take (AJ p106 7 35) (drop (AO p106 7 35) (oEs p106 1))++gL y111 15)),(7,.box (upd (rb p106 7 0 BO) [(16,.t (tI (gI y111 0))),(17,.t (tI (gI y111 1))),(18,.t (tI (gI y111 2))),(19,AV.t (tI (gI y111 3))),(20,.t (tI (gI y111 4))),(21,.t (tI (gI y111 5))),(22,.t (tI (gI y111 6))),(23,.t (tI (gI y111 7))),(24,.t (.str (gS y111 8))),(25,.t (tI (gI y111 9))),(26,.t (tI (gI y111 10))),(27,.t (tI (gI y111 11))),(28,.t (.sl 2 (gL y111 12))),(29,.t (tI (gI y111 13))),(30,.t (tI (gI y111 14))),(35,.sref 1 (AK p106 7 35+1) 0 (AJ p106 7 35+length (gL y111 15)))]))]))) (k109 ([],upd (rh p106 0 Cb) [(1,.row false (AK p106 7 35+1) 9 (take (AJ p106 7 35) (drop (AO p106 7 35) (oEs p106 1))++gL y111 15)),(7,.box (upd (rb p106 7 0 BO) [(16,.t (tI (gI y111 0))),(17,.t (tI (gI y111 1))),(18,.t (tI (gI y111 2))),(19,.t (tI (gI y111 3))),(20,.t (tI (gI y111 4))),(21,.t (tI (gI y111 5))),(22,.t (tI (gI y111 6))),(23,.t (tI (gI y111 7))),(24,.t (.str (gS y111 8))),(25,.t (tI (gI y111 9))),(26,.t (tI (gI y111 10))),(27,.t (tI (gI y111 11))),(28,.t (.sl 2 (gL y111 12))),(29,.t (tI (gI y111 13))),(30,.t (tI (gI y111 14))),(35,.sref 1 (AK p106 7 35+1) 0 (AJ p106 7 35+length (gL y111 15)))]))]))) none)))) none)) (k102 ([],rh p106 0 Bh))
noncomputable def RE (n:Nat) (ff:Nat→Rec) (k102:KT) (p104:ST):RT:=cnd (vB p104 0=true) (AH (FK n ff k102) n ([.rptr 8 0 0 0,.t (.bool false)],upd (rh p104 0 Cb) [(8,.row false 0 8 [[tI 0,tI 0,tI 0,tI 0,tI 0,.bool false,.str B0,.sl 2 []]])])) (bd [0,13,0,0,0,0,0,0,0,0,0,1,2,5,0] (AA C n 158 (ct [0,13,0,0] p104 7 4 [])) fun y135=>AH (FK n ff k102) n ([.rptr 8 0 0 0,.t (.bool true)],upd (rh p104 0 Cb) [(7,.box (upd (rb p104 7 0 BO) [(4,.t (tI (gI y135 0))),(5,.t (.sl 10 (gL y135 1))),(6,.t (tI (gI y135 2))),(7,.t (tI (gI y135 3)))])),(8,.row false 0 8 [[tI (gI y135 6),tI (gI y135 7),tI (gI y135 8),tI (gI y135 9),tI (gI y135 10),.bool (gB y135 11),.str (gS y135 12),.sl 2 (gL y135 13)]])]))
noncomputable def Zy (n:Nat) (ff:Nat→Rec) (k102:KT) (p101:ST):RT:=ff 10 (List Tree) (.fn 126 [AV.ptr 7 0]) (rh p101 0 B6) fun rs h1=>cnd (BN C.P (A9 C.P 126) rs=true) (EH (rh p101 0 B6) h1 fun hs=>k102 (rs,hs)) none
noncomputable def S7 (n:Nat) (ff:Nat→Rec) (k102:KT) (p101:ST):RT:=bd [0,1] (AA C n 122 (ct [0,13,0,0] p101 7 4 [])) fun y103=>join (RE n ff k102) fun k105=>cnd ((!(gB y103 1))=true) (k105 ([.t (.bool true)],upd (rh p101 0 QE) [(8,.box (tv (zt kG [])))])) (k105 ([.t (.bool ((gI y103 0) != cI p101 7 15))],upd (rh p101 0 QE) [(8,.box (tv (zt kG [])))]))
theorem vC26_3 (n:Nat) (ff:Nat→Rec) (k102:KT) (p101:ST):Dc C (Fo C (pcx C (AA C n)) n ff EZ 9) (pcx C (AA C n)) n 126 [AV.ptr 7 0] (rh p101 0 B6) (fun rs h1=>cnd (BN C.P (A9 C.P 126) rs=true) (EH (rh p101 0 B6) h1 fun hs=>k102 (rs,hs)) none)=S7 n ff k102 p101:=by kernel_rfl
theorem TN (n:Nat) (k102:KT) (p101:ST):Zy n (fI C n) k102 p101=S7 n (fI C n) k102 p101:=(GU C n EZ 9 _ 126 _ _ _).trans (vC26_3 n (fI C n) k102 p101)
noncomputable def Dr (n:Nat) (ff:Nat→Rec) (p181:ST) (k182:KT) (y189:List Tree) (p194:ST):RT:=cnd (vB p194 0=true) (Am (.box [AV.yld 40,.t (tI (cI p181 7 4)),.t (.sl 10 (cL p181 7 5)),.t (tI (cI p181 7 6)),.t (tI (cI p181 7 7))]) (.box [AV.yld 40,.t (tI (cI p194 7 4)),.t (.sl 10 (cL p194 7 5)),.t (tI (cI p194 7 6)),.t (tI (cI p194 7 7))]) (Am (.box [AV.yld 40,.t (tI (cI p181 7 4))]) (.box [AV.yld 40,.t (tI (cI p194 7 4))]) (Am (.row false (AD p181 5) 9 (oEs p181 5)) (.row false (AD p194 5) 9 (oEs p194 5)) (Am (.row false (AD p181 6) 9 (oEs p181 6)) (.row false (AD p194 6) 9 (oEs p194 6)) (Am (.row false (AD p181 1) 9 (oEs p181 1)) (.row false (AD p194 1) 9 (oEs p194 1)) (bd [0,13,0,0,0] (AA C n 156 (ct [0,13,0,0] p181 7 4 [tI (vI p181 3),tI (aI p181 4 0),tI (aI p181 4 1),tI (aI p181 4 2),tI (aI p181 4 3),tI (aI p181 4 4),.bool (aB p181 4 5),.str (aS p181 4 6),.sl 2 (aL p181 4 7),.sl 1 [[tI (cI p181 7 4)]]])) fun y196=>cnd (((gI y196 4) != 0)=true) (k182 ([],rh p194 0 Ca)) (cnd (AD p194 6=AK p194 7 14∧(9=9∨9=0)∧AO p194 7 14+AJ p194 7 14≤length (oEs p194 6)∧AJ p194 7 14+1≤1073741824) (k182 ([],upd (rh p194 0 Ca) [(6,.row false (AK p194 7 14+1) 9 (take (AJ p194 7 14) (drop (AO p194 7 14) (oEs p194 6))++[[tI (vI p181 3),tI (aI p181 4 0),tI (aI p181 4 1),tI (aI p181 4 2),tI (aI p181 4 3),tI (aI p181 4 4),Tree.bool (aB p181 4 5),.str (aS p181 4 6),.sl 2 (aL p181 4 7)]])),(7,.box (upd (rb p194 7 0 BO) [(4,.t (tI (gI y196 0))),(5,.t (.sl 10 (gL y196 1))),(6,.t (tI (gI y196 2))),(7,.t (tI (gI y196 3))),(11,.t (tI (w64 (cI p194 7 11+1)))),(14,.sref 6 (AK p194 7 14+1) 0 (AJ p194 7 14+1))]))])) none))))))) (Am (.box [AV.yld 40,.t (tI (cI p181 7 4)),.t (.sl 10 (cL p181 7 5)),.t (tI (cI p181 7 6)),.t (tI (cI p181 7 7))]) (.box [AV.yld 40,.t (tI (cI p194 7 4)),.t (.sl 10 (cL p194 7 5)),.t (tI (cI p194 7 6)),.t (tI (cI p194 7 7))]) (Am (.box [AV.yld 40,.t (tI (cI p181 7 4))]) (.box [AV.yld 40,.t (tI (cI p194 7 4))]) (Am (.row false (AD p181 5) 9 (oEs p181 5)) (.row false (AD p194 5) 9 (oEs p194 5)) (Am (.row false (AD p181 6) 9 (oEs p181 6)) (.row false (AD p194 6) 9 (oEs p194 6)) (Am (.row false (AD p181 1) 9 (oEs p181 1)) (.row false (AD p194 1) 9 (oEs p194 1)) (bd [0,13,0,0,0] (AA C n 156 (ct [0,13,0,0] p181 7 4 [tI (vI p181 3),tI (aI p181 4 0),tI (aI p181 4 1),tI (aI p181 4 2),tI (aI p181 4 3),tI (aI p181 4 4),.bool (aB p181 4 5),.str (aS p181 4 6),.sl 2 (aL p181 4 7),.sl 1 (gL y189 0)])) fun y197=>cnd (((gI y197 4) != 0)=true) (k182 ([],upd (rh p194 0 Ca) [(7,.box (upd (rb p194 7 0 BO) [(12,.t (tI (w64 (cI p194 7 12+1))))]))])) (cnd (AD p194 6=AK p194 7 14∧(9=9∨9=0)∧AO p194 7 14+AJ p194 7 14≤length (oEs p194 6)∧AJ p194 7 14+1≤1073741824) (k182 ([],upd (rh p194 0 Ca) [(6,.row false (AK p194 7 14+1) 9 (take (AJ p194 7 14) (drop (AO p194 7 14) (oEs p194 6))++[[tI (vI p181 3),tI (aI p181 4 0),tI (aI p181 4 1),tI (aI p181 4 2),tI (aI p181 4 3),tI (aI p181 4 4),.bool (aB p181 4 5),.str (aS p181 4 6),.sl 2 (aL p181 4 7)]])),(7,.box (upd (rb p194 7 0 BO) [(4,.t (tI (gI y197 0))),(5,.t (.sl 10 (gL y197 1))),(6,.t (tI (gI y197 2))),(7,.t (tI (gI y197 3))),(11,.t (tI (w64 (cI p194 7 11+1)))),(12,.t (tI (w64 (cI p194 7 12+1)))),(14,.sref 6 (AK p194 7 14+1) 0 (AJ p194 7 14+1))]))])) none)))))))
noncomputable def IV (n:Nat) (ff:Nat→Rec) (p181:ST) (y189:List Tree) (k182:KT) (p190:ST):RT:=cnd (vB p190 0=true) (Am (.box [AV.yld 40,.t (tI (cI p181 7 4)),.t (.sl 10 (cL p181 7 5)),.t (tI (cI p181 7 6)),.t (tI (cI p181 7 7))]) (.box [AV.yld 40,.t (tI (cI p190 7 4)),.t (.sl 10 (cL p190 7 5)),.t (tI (cI p190 7 6)),.t (tI (cI p190 7 7))]) (Am (.box [AV.yld 40,.t (tI (cI p181 7 4))]) (.box [AV.yld 40,.t (tI (cI p190 7 4))]) (Am (.row false (AD p181 5) 9 (oEs p181 5)) (.row false (AD p190 5) 9 (oEs p190 5)) (Am (.row false (AD p181 6) 9 (oEs p181 6)) (.row false (AD p190 6) 9 (oEs p190 6)) (Am (.row false (AD p181 1) 9 (oEs p181 1)) (.row false (AD p190 1) 9 (oEs p190 1)) (bd [0,13,0,0,0] (AA C n 156 (ct [0,13,0,0] p181 7 4 [tI (vI p181 3),tI (aI p181 4 0),tI (aI p181 4 1),tI (aI p181 4 2),tI (aI p181 4 3),tI (aI p181 4 4),.bool (aB p181 4 5),.str (aS p181 4 6),.sl 2 (aL p181 4 7),.sl 1 (gL y189 0)])) fun y193=>cnd (((gI y193 4) != 0)=true) (k182 ([],rh p190 0 Ca)) (cnd (AD p190 6=AK p190 7 14∧(9=9∨9=0)∧AO p190 7 14+AJ p190 7 14≤length (oEs p190 6)∧AJ p190 7 14+1≤1073741824) (k182 ([],upd (rh p190 0 Ca) [(6,.row false (AK p190 7 14+1) 9 (take (AJ p190 7 14) (drop (AO p190 7 14) (oEs p190 6))++[[tI (vI p181 3),tI (aI p181 4 0),tI (aI p181 4 1),tI (aI p181 4 2),tI (aI p181 4 3),tI (aI p181 4 4),.bool (aB p181 4 5),.str (aS p181 4 6),.sl 2 (aL p181 4 7)]])),(7,.box (upd (rb p190 7 0 BO) [(4,.t (tI (gI y193 0))),(5,.t (.sl 10 (gL y193 1))),(6,.t (tI (gI y193 2))),(7,.t (tI (gI y193 3))),(11,.t (tI (w64 (cI p190 7 11+1)))),(14,.sref 6 (AK p190 7 14+1) 0 (AJ p190 7 14+1))]))])) none))))))) (join (Dr n ff p181 k182 y189) fun k195=>cnd (decide (cI p190 7 9≥(0:Int))=true) (k195 ([.t (.bool (decide (cI p190 7 12≥cI p190 7 9)))],rh p190 0 L4)) (k195 ([.t (.bool false)],rh p190 0 L4)))
noncomputable def IU (n:Nat) (ff:Nat→Rec) (p181:ST) (y202:List Tree) (k182:KT) (p203:ST):RT:=cnd (vB p203 0=true) (Am (.box [AV.yld 40,.t (tI (cI p181 7 4)),.t (.sl 10 (cL p181 7 5)),.t (tI (cI p181 7 6)),.t (tI (cI p181 7 7))]) (.box [AV.yld 40,.t (tI (cI p203 7 4)),.t (.sl 10 (cL p203 7 5)),.t (tI (cI p203 7 6)),.t (tI (cI p203 7 7))]) (Am (.box [AV.yld 40,.t (tI (cI p181 7 4))]) (.box [AV.yld 40,.t (tI (cI p203 7 4))]) (Am (.row false (AD p181 5) 9 (oEs p181 5)) (.row false (AD p203 5) 9 (oEs p203 5)) (Am (.row false (AD p181 6) 9 (oEs p181 6)) (.row false (AD p203 6) 9 (oEs p203 6)) (Am (.row false (AD p181 1) 9 (oEs p181 1)) (.row false (AD p203 1) 9 (oEs p203 1)) (bd [0,13,0,0,0] (AA C n 156 (ct [0,13,0,0] p181 7 4 [tI (vI p181 3),tI (aI p181 4 0),tI (aI p181 4 1),tI (aI p181 4 2),tI (aI p181 4 3),tI (aI p181 4 4),.bool (aB p181 4 5),.str (aS p181 4 6),.sl 2 (aL p181 4 7),.sl 1 (gL y202 0)])) fun y206=>cnd (((gI y206 4) != 0)=true) (k182 ([],rh p203 0 Ca)) (cnd (AD p203 6=AK p203 7 14∧(9=9∨9=0)∧AO p203 7 14+AJ p203 7 14≤length (oEs p203 6)∧AJ p203 7 14+1≤1073741824) (k182 ([],upd (rh p203 0 Ca) [(6,.row false (AK p203 7 14+1) 9 (take (AJ p203 7 14) (drop (AO p203 7 14) (oEs p203 6))++[[tI (vI p181 3),tI (aI p181 4 0),tI (aI p181 4 1),tI (aI p181 4 2),tI (aI p181 4 3),tI (aI p181 4 4),.bool (aB p181 4 5),.str (aS p181 4 6),.sl 2 (aL p181 4 7)]])),(7,.box (upd (rb p203 7 0 BO) [(4,.t (tI (gI y206 0))),(5,.t (.sl 10 (gL y206 1))),(6,.t (tI (gI y206 2))),(7,.t (tI (gI y206 3))),(11,.t (tI (w64 (cI p203 7 11+1)))),(14,.sref 6 (AK p203 7 14+1) 0 (AJ p203 7 14+1))]))])) none))))))) (join (Dr n ff p181 k182 y202) fun k208=>cnd (decide (cI p203 7 9≥(0:Int))=true) (k208 ([.t (.bool (decide (cI p203 7 12≥cI p203 7 9)))],rh p203 0 Ca)) (k208 ([.t (.bool false)],rh p203 0 Ca)))
noncomputable def Zx (n:Nat) (ff:Nat→Rec) (k182:KT) (p181:ST):RT:=ff 9 (List Tree) (.fn 144 [AV.ptr 7 0,AV.ptr 7 4,.t (tI 1),.t (tI (vI p181 3)),AV.agg (tv [tI (aI p181 4 0),tI (aI p181 4 1),tI (aI p181 4 2),tI (aI p181 4 3),tI (aI p181 4 4),.bool (aB p181 4 5),.str (aS p181 4 6),.sl 2 (aL p181 4 7)])]) (rh p181 0 Jw) fun rs h1=>cnd (BN C.P (A9 C.P 144) rs=true) (EH (rh p181 0 Jw) h1 fun hs=>k182 (rs,hs)) none
noncomputable def IN (n:Nat) (ff:Nat→Rec) (k182:KT) (p181:ST):RT:=cnd (decide (cI p181 7 11≥(10000:Int))=true) (k182 ([],rh p181 0 Ca)) (both (bd [1] (AA C n 175 [.sl 2 (cL p181 7 10),tI (vI p181 3)]) fun y185=>cnd (gB y185 0=true) (Am (.box [AV.yld 40,.t (tI (cI p181 7 4)),.t (.sl 10 (cL p181 7 5)),.t (tI (cI p181 7 6)),.t (tI (cI p181 7 7))]) (.box [AV.yld 40,.t (tI (cI p181 7 4)),.t (.sl 10 (cL p181 7 5)),.t (tI (cI p181 7 6)),.t (tI (cI p181 7 7))]) (Am (.box [AV.yld 40,.t (tI (cI p181 7 4))]) (.box [AV.yld 40,.t (tI (cI p181 7 4))]) (Am (.row false (AD p181 5) 9 (oEs p181 5)) (.row false (AD p181 5) 9 (oEs p181 5)) (Am (.row false (AD p181 6) 9 (oEs p181 6)) (.row false (AD p181 6) 9 (oEs p181 6)) (Am (.row false (AD p181 1) 9 (oEs p181 1)) (.row false (AD p181 1) 9 (oEs p181 1)) (bd [0,13,0,0,0] (AA C n 156 (ct [0,13,0,0] p181 7 4 [tI (vI p181 3),tI (aI p181 4 0),tI (aI p181 4 1),tI (aI p181 4 2),tI (aI p181 4 3),tI (aI p181 4 4),.bool (aB p181 4 5),.str (aS p181 4 6),.sl 2 (aL p181 4 7),.sl 1 []])) fun y186=>cnd (((gI y186 4) != 0)=true) (k182 ([],rh p181 0 Ca)) (cnd (AD p181 6=AK p181 7 14∧(9=9∨9=0)∧AO p181 7 14+AJ p181 7 14≤length (oEs p181 6)∧AJ p181 7 14+1≤1073741824) (k182 ([],upd (rh p181 0 Ca) [(6,.row false (AK p181 7 14+1) 9 (take (AJ p181 7 14) (drop (AO p181 7 14) (oEs p181 6))++[[tI (vI p181 3),tI (aI p181 4 0),tI (aI p181 4 1),tI (aI p181 4 2),tI (aI p181 4 3),tI (aI p181 4 4),.bool (aB p181 4 5),.str (aS p181 4 6),.sl 2 (aL p181 4 7)]])),(7,.box (upd (rb p181 7 0 BO) [(4,.t (tI (gI y186 0))),(5,.t (.sl 10 (gL y186 1))),(6,.t (tI (gI y186 2))),(7,.t (tI (gI y186 3))),(11,.t (tI (w64 (cI p181 7 11+1)))),(14,.sref 6 (AK p181 7 14+1) 0 (AJ p181 7 14+1))]))])) none))))))) (cnd (((length (cL p181 7 8):Int)==0)=true) (Am (.box [AV.yld 40,.t (tI (cI p181 7 4)),.t (.sl 10 (cL p181 7 5)),.t (tI (cI p181 7 6)),.t (tI (cI p181 7 7))]) (.box [AV.yld 40,.t (tI (cI p181 7 4)),.t (.sl 10 (cL p181 7 5)),.t (tI (cI p181 7 6)),.t (tI (cI p181 7 7))]) (Am (.box [AV.yld 40,.t (tI (cI p181 7 4))]) (.box [AV.yld 40,.t (tI (cI p181 7 4))]) (Am (.row false (AD p181 5) 9 (oEs p181 5)) (.row false (AD p181 5) 9 (oEs p181 5)) (Am (.row false (AD p181 6) 9 (oEs p181 6)) (.row false (AD p181 6) 9 (oEs p181 6)) (Am (.row false (AD p181 1) 9 (oEs p181 1)) (.row false (AD p181 1) 9 (oEs p181 1)) (bd [0,13,0,0,0] (AA C n 156 (ct [0,13,0,0] p181 7 4 [tI (vI p181 3),tI (aI p181 4 0),tI (aI p181 4 1),tI (aI p181 4 2),tI (aI p181 4 3),tI (aI p181 4 4),.bool (aB p181 4 5),.str (aS p181 4 6),.sl 2 (aL p181 4 7),.sl 1 [[tI (cI p181 7 4)]]])) fun y187=>cnd (((gI y187 4) != 0)=true) (k182 ([],rh p181 0 Ca)) (cnd (AD p181 6=AK p181 7 14∧(9=9∨9=0)∧AO p181 7 14+AJ p181 7 14≤length (oEs p181 6)∧AJ p181 7 14+1≤1073741824) (k182 ([],upd (rh p181 0 Ca) [(6,.row false (AK p181 7 14+1) 9 (take (AJ p181 7 14) (drop (AO p181 7 14) (oEs p181 6))++[[tI (vI p181 3),tI (aI p181 4 0),tI (aI p181 4 1),tI (aI p181 4 2),tI (aI p181 4 3),tI (aI p181 4 4),.bool (aB p181 4 5),.str (aS p181 4 6),.sl 2 (aL p181 4 7)]])),(7,.box (upd (rb p181 7 0 BO) [(4,.t (tI (gI y187 0))),(5,.t (.sl 10 (gL y187 1))),(6,.t (tI (gI y187 2))),(7,.t (tI (gI y187 3))),(11,.t (tI (w64 (cI p181 7 11+1)))),(14,.sref 6 (AK p181 7 14+1) 0 (AJ p181 7 14+1))]))])) none))))))) (cnd ((length (cL p181 7 8):Int)=0) none (cnd (1=1∧0≤tmod (cI p181 7 11) (length (cL p181 7 8):Int)) (Option.bind (cL p181 7 8)[toNat (tmod (cI p181 7 11) (length (cL p181 7 8):Int))]? fun y188=>cnd (okI y188 0) (bd [4,0] (AA C n 176 [tI (gI y188 0),tI (cI p181 7 4)]) fun y189=>join (IV n ff p181 y189 k182) fun k191=>cnd (decide ((length (gL y189 0):Int)>0)=true) (Option.bind (gL y189 0)[0]? fun y192=>cnd (okI y192 0) (k191 ([.t (.bool (gI y192 0==cI p181 7 4))],upd (rh p181 0 L4) [(11,.box (tv (zt [0,13,0,0] [])))])) none) (k191 ([.t (.bool false)],upd (rh p181 0 L4) [(11,.box (tv (zt [0,13,0,0] [])))]))) none) none)))) (bd [1] (AA C n 175 [.sl 2 (cL p181 7 10),tI (vI p181 3)]) fun y198=>cnd (gB y198 0=true) (Am (.box [AV.yld 40,.t (tI (cI p181 7 4)),.t (.sl 10 (cL p181 7 5)),.t (tI (cI p181 7 6)),.t (tI (cI p181 7 7))]) (.box [AV.yld 40,.t (tI (cI p181 7 4)),.t (.sl 10 (cL p181 7 5)),.t (tI (cI p181 7 6)),.t (tI (cI p181 7 7))]) (Am (.box [AV.yld 40,.t (tI (cI p181 7 4))]) (.box [AV.yld 40,.t (tI (cI p181 7 4))]) (Am (.row false (AD p181 5) 9 (oEs p181 5)) (.row false (AD p181 5) 9 (oEs p181 5)) (Am (.row false (AD p181 6) 9 (oEs p181 6)) (.row false (AD p181 6) 9 (oEs p181 6)) (Am (.row false (AD p181 1) 9 (oEs p181 1)) (.row false (AD p181 1) 9 (oEs p181 1)) (bd [0,13,0,0,0] (AA C n 156 (ct [0,13,0,0] p181 7 4 [tI (vI p181 3),tI (aI p181 4 0),tI (aI p181 4 1),tI (aI p181 4 2),tI (aI p181 4 3),tI (aI p181 4 4),.bool (aB p181 4 5),.str (aS p181 4 6),.sl 2 (aL p181 4 7),.sl 1 []])) fun y199=>cnd (((gI y199 4) != 0)=true) (k182 ([],rh p181 0 Ca)) (cnd (AD p181 6=AK p181 7 14∧(9=9∨9=0)∧AO p181 7 14+AJ p181 7 14≤length (oEs p181 6)∧AJ p181 7 14+1≤1073741824) (k182 ([],upd (rh p181 0 Ca) [(6,.row false (AK p181 7 14+1) 9 (take (AJ p181 7 14) (drop (AO p181 7 14) (oEs p181 6))++[[tI (vI p181 3),tI (aI p181 4 0),tI (aI p181 4 1),tI (aI p181 4 2),tI (aI p181 4 3),tI (aI p181 4 4),.bool (aB p181 4 5),.str (aS p181 4 6),.sl 2 (aL p181 4 7)]])),(7,.box (upd (rb p181 7 0 BO) [(4,.t (tI (gI y199 0))),(5,.t (.sl 10 (gL y199 1))),(6,.t (tI (gI y199 2))),(7,.t (tI (gI y199 3))),(11,.t (tI (w64 (cI p181 7 11+1)))),(14,.sref 6 (AK p181 7 14+1) 0 (AJ p181 7 14+1))]))])) none))))))) (cnd (((length (cL p181 7 8):Int)==0)=true) (Am (.box [AV.yld 40,.t (tI (cI p181 7 4)),.t (.sl 10 (cL p181 7 5)),.t (tI (cI p181 7 6)),.t (tI (cI p181 7 7))]) (.box [AV.yld 40,.t (tI (cI p181 7 4)),.t (.sl 10 (cL p181 7 5)),.t (tI (cI p181 7 6)),.t (tI (cI p181 7 7))]) (Am (.box [AV.yld 40,.t (tI (cI p181 7 4))]) (.box [AV.yld 40,.t (tI (cI p181 7 4))]) (Am (.row false (AD p181 5) 9 (oEs p181 5)) (.row false (AD p181 5) 9 (oEs p181 5)) (Am (.row false (AD p181 6) 9 (oEs p181 6)) (.row false (AD p181 6) 9 (oEs p181 6)) (Am (.row false (AD p181 1) 9 (oEs p181 1)) (.row false (AD p181 1) 9 (oEs p181 1)) (bd [0,13,0,0,0] (AA C n 156 (ct [0,13,0,0] p181 7 4 [tI (vI p181 3),tI (aI p181 4 0),tI (aI p181 4 1),tI (aI p181 4 2),tI (aI p181 4 3),tI (aI p181 4 4),.bool (aB p181 4 5),.str (aS p181 4 6),.sl 2 (aL p181 4 7),.sl 1 [[tI (cI p181 7 4)]]])) fun y200=>cnd (((gI y200 4) != 0)=true) (k182 ([],rh p181 0 Ca)) (cnd (AD p181 6=AK p181 7 14∧(9=9∨9=0)∧AO p181 7 14+AJ p181 7 14≤length (oEs p181 6)∧AJ p181 7 14+1≤1073741824) (k182 ([],upd (rh p181 0 Ca) [(6,.row false (AK p181 7 14+1) 9 (take (AJ p181 7 14) (drop (AO p181 7 14) (oEs p181 6))++[[tI (vI p181 3),tI (aI p181 4 0),tI (aI p181 4 1),tI (aI p181 4 2),tI (aI p181 4 3),tI (aI p181 4 4),.bool (aB p181 4 5),.str (aS p181 4 6),.sl 2 (aL p181 4 7)]])),(7,.box (upd (rb p181 7 0 BO) [(4,AV.t (tI (gI y200 0))),(5,.t (.sl 10 (gL y200 1))),(6,.t (tI (gI y200 2))),(7,.t (tI (gI y200 3))),(11,.t (tI (w64 (cI p181 7 11+1)))),(14,.sref 6 (AK p181 7 14+1) 0 (AJ p181 7 14+1))]))])) none))))))) (cnd ((length (cL p181 7 8):Int)=0) none (cnd (1=1∧0≤tmod (cI p181 7 11) (length (cL p181 7 8):Int)) (Option.bind (cL p181 7 8)[toNat (tmod (cI p181 7 11) (length (cL p181 7 8):Int))]? fun y201=>cnd (okI y201 0) (bd [4,0] (AA C n 176 [tI (gI y201 0),tI (cI p181 7 4)]) fun y202=>join (IU n ff p181 y202 k182) fun k204=>cnd (decide ((length (gL y202 0):Int)>0)=true) (Option.bind (gL y202 0)[0]? fun y205=>cnd (okI y205 0) (k204 ([.t (.bool (gI y205 0==cI p181 7 4))],rh p181 0 Ca)) none) (k204 ([.t (.bool false)],rh p181 0 Ca))) none) none)))))
theorem vC26_4 (n:Nat) (ff:Nat→Rec) (k182:KT) (p181:ST):Dc C (Fo C (pcx C (AA C n)) n ff EZ 8) (pcx C (AA C n)) n 144 [AV.ptr 7 0,AV.ptr 7 4,.t (tI 1),.t (tI (vI p181 3)),AV.agg (tv [tI (aI p181 4 0),tI (aI p181 4 1),tI (aI p181 4 2),tI (aI p181 4 3),tI (aI p181 4 4),.bool (aB p181 4 5),.str (aS p181 4 6),.sl 2 (aL p181 4 7)])] (rh p181 0 Jw) (fun rs h1=>cnd (BN C.P (A9 C.P 144) rs=true) (EH (rh p181 0 Jw) h1 fun hs=>k182 (rs,hs)) none)=IN n ff k182 p181:=by kernel_rfl
theorem Gb (n:Nat) (k182:KT) (p181:ST):Zx n (fI C n) k182 p181=IN n (fI C n) k182 p181:=(GU C n EZ 8 _ 144 _ _ _).trans (vC26_4 n (fI C n) k182 p181)
noncomputable def UY (n:Nat) (ff:Nat→Rec) (k179:KT) (p178 p211:ST):RT:=k179 ([.t (tI (w64 (vI p178 0+1)))],rh p211 0 Oh)
noncomputable def Jp (n:Nat) (ff:Nat→Rec) (y177:List Tree) (p167:ST) (k175:KT) (p178:ST) (k179:KT):RT:=cnd (decide (vI p178 0<(length (gL y177 4):Int))=true) (cnd (8=8∧0≤vI p178 0) (Option.bind (gL y177 4)[toNat (vI p178 0)]? fun y180=>bk kG 0 y180 (join (UY n ff k179 p178) fun k212=>Zx n ff k212 ([AV.ptr 7 0,AV.ptr 7 4,.t (tI 1),.t (tI (cI p178 7 15)),AV.agg (tv (gt kG y180 0 []))],upd (rh p178 0 Jw) [(2,.row true (AD p167 2) 15 (oEs p167 2)),(3,.row true (AD p167 3) 4 (oEs p167 3)),(4,.row true (AD p167 4) 4 (oEs p167 4)),(10,.box (tv (gt kG y180 0 [])))]))) none) (cnd ((!(cB p178 7 36))=true) (bd [1] (AA C n 147 (ct [0,0,5,2] p178 7 31 [])) fun y215=>cnd (gB y215 0=true) (k175 ([],upd (rh p178 0 Cb) [(7,.box (upd (rb p178 7 0 BO) [(36,AV.t (Tree.bool true)),(37,.t (tI (cI p178 7 15)))]))])) (k175 ([],rh p178 0 Cb))) (k175 ([],rh p178 0 Cb)))
noncomputable def RD (n:Nat) (ff:Nat→Rec) (p174:ST) (k173:KT) (p224:ST):RT:=cnd (vB p224 0=true) (cnd (AD p224 8=AD p174 8+1∧8≤8) (Option.bind (oEs p224 8)[0]? fun y226=>k173 ([.rptr 8 (AD p174 8+1) 0 0,.t (.bool false)],upd (rh p224 0 Cb) [(8,.row false (AD p174 8+1) 8 (List.set (oEs p224 8) 0 (zt kG []++drop 8 y226)))])) none) (bd [0,13,0,0,0,0,0,0,0,0,0,1,2,5,0] (AA C n 158 (ct [0,13,0,0] p224 7 0 [])) fun y227=>cnd (AD p224 8=AD p174 8+1∧8≤8) (Option.bind (oEs p224 8)[0]? fun y228=>k173 ([.rptr 8 (AD p174 8+1) 0 0,.t (.bool true)],upd (rh p224 0 Cb) [(7,.box (upd (rb p224 7 0 BO) [(0,.t (tI (gI y227 0))),(1,.t (.sl 10 (gL y227 1))),(2,.t (tI (gI y227 2))),(3,.t (tI (gI y227 3)))])),(8,.row false (AD p174 8+1) 8 (List.set (oEs p224 8) 0 (gt kG y227 6 []++drop 8 y228)))])) none)
noncomputable def Oa (n:Nat) (ff:Nat→Rec) (p172:ST) (k173:KT) (p174:ST):RT:=cnd (AD p174 8=A3 p172 0) (Option.bind (oEs p174 8)[0]? fun y222=>bk kG 0 y222 (cnd (AD p174 8+1=AD p174 8+1∧8≤8) (bd [0,1] (AA C n 122 (ct [0,13,0,0] p174 7 0 [])) fun y223=>join (RD n ff p174 k173) fun k225=>cnd ((!(gB y223 1))=true) (k225 ([.t (.bool true)],upd (rh p174 0 L5) [(8,.row false (AD p174 8+1) 8 [[tI (gI y222 0),tI (gI y222 1),tI (gI y222 2),tI (gI y222 3),tI (gI y222 4),.bool (gB y222 5),.str (gS y222 6),.sl 2 (gL y222 7)]]),(9,.box (tv (zt kG [])))])) (k225 ([.t (.bool ((gI y223 0) != cI p174 7 15))],upd (rh p174 0 L5) [(8,.row false (AD p174 8+1) 8 [[tI (gI y222 0),tI (gI y222 1),tI (gI y222 2),tI (gI y222 3),tI (gI y222 4),.bool (gB y222 5),.str (gS y222 6),.sl 2 (gL y222 7)]]),(9,.box (tv (zt kG [])))]))) none)) none
noncomputable def G2 (n:Nat) (ff:Nat→Rec) (p167:ST) (k168:KT) (p172:ST) (k173:KT):RT:=cnd (vB p172 1=true) (join (Oa n ff p172 k173) fun k175=>cnd (AD p172 8=A3 p172 0) (Option.bind (oEs p172 8)[0]? fun y176=>bk kG 0 y176 (bd [0,0,5,2,11,0] (AA C n 146 (ct [0,0,5,2] p172 7 31 (gt kG y176 0 []))) fun y177=>cnd (((gI y177 5) != 0)=true) (k175 ([],rh p172 0 Cb)) (AH (Jp n ff y177 p167 k175) n ([.t (tI 0)],upd (rh p172 0 Oh) [(7,.box (upd (rb p172 7 0 BO) [(31,.t (tI (gI y177 0))),(32,.t (tI (gI y177 1))),(33,.t (.sl 2 (gL y177 2))),(34,.t (.str (gS y177 3)))])),(9,.box (tv (gt [0,0,5,2] y177 0 [])))])))) none) (k168 ([],rh p172 0 Bh))
noncomputable def RC (n:Nat) (ff:Nat→Rec) (p167:ST) (k168:KT) (p170:ST):RT:=cnd (vB p170 0=true) (AH (G2 n ff p167 k168) n ([.rptr 8 0 0 0,.t (.bool false)],upd (rh p170 0 Cb) [(8,.row false 0 8 [[tI 0,tI 0,tI 0,tI 0,tI 0,.bool false,.str B0,.sl 2 []]])])) (bd [0,13,0,0,0,0,0,0,0,0,0,1,2,5,0] (AA C n 158 (ct [0,13,0,0] p170 7 0 [])) fun y229=>AH (G2 n ff p167 k168) n ([.rptr 8 0 0 0,.t (.bool true)],upd (rh p170 0 Cb) [(7,.box (upd (rb p170 7 0 BO) [(0,.t (tI (gI y229 0))),(1,.t (.sl 10 (gL y229 1))),(2,AV.t (tI (gI y229 2))),(3,.t (tI (gI y229 3)))])),(8,.row false 0 8 [[tI (gI y229 6),tI (gI y229 7),tI (gI y229 8),tI (gI y229 9),tI (gI y229 10),.bool (gB y229 11),.str (gS y229 12),.sl 2 (gL y229 13)]])]))
noncomputable def Zw (n:Nat) (ff:Nat→Rec) (k168:KT) (p167:ST):RT:=ff 10 (List Tree) (.fn 125 [AV.ptr 7 0]) (rh p167 0 B6) fun rs h1=>cnd (BN C.P (A9 C.P 125) rs=true) (EH (rh p167 0 B6) h1 fun hs=>k168 (rs,hs)) none
noncomputable def S6 (n:Nat) (ff:Nat→Rec) (k168:KT) (p167:ST):RT:=bd [0,1] (AA C n 122 (ct [0,13,0,0] p167 7 0 [])) fun y169=>join (RC n ff p167 k168) fun k171=>cnd ((!(gB y169 1))=true) (k171 ([.t (.bool true)],upd (rh p167 0 QE) [(8,.box (tv (zt kG [])))])) (k171 ([.t (.bool ((gI y169 0) != cI p167 7 15))],upd (rh p167 0 QE) [(8,.box (tv (zt kG [])))]))
theorem vC26_5 (n:Nat) (ff:Nat→Rec) (k168:KT) (p167:ST):Dc C (Fo C (pcx C (AA C n)) n ff EZ 9) (pcx C (AA C n)) n 125 [AV.ptr 7 0] (rh p167 0 B6) (fun rs h1=>cnd (BN C.P (A9 C.P 125) rs=true) (EH (rh p167 0 B6) h1 fun hs=>k168 (rs,hs)) none)=S6 n ff k168 p167:=by kernel_rfl
theorem TM (n:Nat) (k168:KT) (p167:ST):Zw n (fI C n) k168 p167=S6 n (fI C n) k168 p167:=(GU C n EZ 9 _ 125 _ _ _).trans (vC26_5 n (fI C n) k168 p167)
noncomputable def Dq (n:Nat) (ff:Nat→Rec) (p267:ST) (k268:KT) (y275:List Tree) (p280:ST):RT:=cnd (vB p280 0=true) (Am (.box [AV.yld 40,.t (tI (cI p267 7 0)),.t (.sl 10 (cL p267 7 1)),.t (tI (cI p267 7 2)),.t (tI (cI p267 7 3))]) (.box [AV.yld 40,.t (tI (cI p280 7 0)),.t (.sl 10 (cL p280 7 1)),.t (tI (cI p280 7 2)),.t (tI (cI p280 7 3))]) (Am (.box [AV.yld 40,.t (tI (cI p267 7 0))]) (.box [AV.yld 40,.t (tI (cI p280 7 0))]) (Am (.row false (AD p267 5) 9 (oEs p267 5)) (.row false (AD p280 5) 9 (oEs p280 5)) (Am (.row false (AD p267 6) 9 (oEs p267 6)) (.row false (AD p280 6) 9 (oEs p280 6)) (Am (.row false (AD p267 1) 9 (oEs p267 1)) (.row false (AD p280 1) 9 (oEs p280 1)) (bd [0,13,0,0,0] (AA C n 156 (ct [0,13,0,0] p267 7 0 [tI (vI p267 3),tI (aI p267 4 0),tI (aI p267 4 1),tI (aI p267 4 2),tI (aI p267 4 3),tI (aI p267 4 4),.bool (aB p267 4 5),.str (aS p267 4 6),.sl 2 (aL p267 4 7),.sl 1 [[tI (cI p267 7 0)]]])) fun y282=>cnd (((gI y282 4) != 0)=true) (k268 ([],rh p280 0 Bh)) (cnd (AD p280 5=AK p280 7 13∧(9=9∨9=0)∧AO p280 7 13+AJ p280 7 13≤length (oEs p280 5)∧AJ p280 7 13+1≤1073741824) (k268 ([],upd (rh p280 0 Bh) [(5,.row false (AK p280 7 13+1) 9 (take (AJ p280 7 13) (drop (AO p280 7 13) (oEs p280 5))++[[tI (vI p267 3),tI (aI p267 4 0),tI (aI p267 4 1),tI (aI p267 4 2),tI (aI p267 4 3),tI (aI p267 4 4),Tree.bool (aB p267 4 5),.str (aS p267 4 6),.sl 2 (aL p267 4 7)]])),(7,.box (upd (rb p280 7 0 BO) [(0,.t (tI (gI y282 0))),(1,.t (.sl 10 (gL y282 1))),(2,.t (tI (gI y282 2))),(3,.t (tI (gI y282 3))),(11,.t (tI (w64 (cI p280 7 11+1)))),(13,.sref 5 (AK p280 7 13+1) 0 (AJ p280 7 13+1))]))])) none))))))) (Am (.box [AV.yld 40,.t (tI (cI p267 7 0)),.t (.sl 10 (cL p267 7 1)),.t (tI (cI p267 7 2)),.t (tI (cI p267 7 3))]) (.box [AV.yld 40,.t (tI (cI p280 7 0)),.t (.sl 10 (cL p280 7 1)),.t (tI (cI p280 7 2)),.t (tI (cI p280 7 3))]) (Am (.box [AV.yld 40,.t (tI (cI p267 7 0))]) (.box [AV.yld 40,.t (tI (cI p280 7 0))]) (Am (.row false (AD p267 5) 9 (oEs p267 5)) (.row false (AD p280 5) 9 (oEs p280 5)) (Am (.row false (AD p267 6) 9 (oEs p267 6)) (.row false (AD p280 6) 9 (oEs p280 6)) (Am (.row false (AD p267 1) 9 (oEs p267 1)) (.row false (AD p280 1) 9 (oEs p280 1)) (bd [0,13,0,0,0] (AA C n 156 (ct [0,13,0,0] p267 7 0 [tI (vI p267 3),tI (aI p267 4 0),tI (aI p267 4 1),tI (aI p267 4 2),tI (aI p267 4 3),tI (aI p267 4 4),.bool (aB p267 4 5),.str (aS p267 4 6),.sl 2 (aL p267 4 7),.sl 1 (gL y275 0)])) fun y283=>cnd (((gI y283 4) != 0)=true) (k268 ([],upd (rh p280 0 Bh) [(7,.box (upd (rb p280 7 0 BO) [(12,.t (tI (w64 (cI p280 7 12+1))))]))])) (cnd (AD p280 5=AK p280 7 13∧(9=9∨9=0)∧AO p280 7 13+AJ p280 7 13≤length (oEs p280 5)∧AJ p280 7 13+1≤1073741824) (k268 ([],upd (rh p280 0 Bh) [(5,.row false (AK p280 7 13+1) 9 (take (AJ p280 7 13) (drop (AO p280 7 13) (oEs p280 5))++[[tI (vI p267 3),tI (aI p267 4 0),tI (aI p267 4 1),tI (aI p267 4 2),tI (aI p267 4 3),tI (aI p267 4 4),.bool (aB p267 4 5),.str (aS p267 4 6),.sl 2 (aL p267 4 7)]])),(7,.box (upd (rb p280 7 0 BO) [(0,.t (tI (gI y283 0))),(1,.t (.sl 10 (gL y283 1))),(2,.t (tI (gI y283 2))),(3,.t (tI (gI y283 3))),(11,.t (tI (w64 (cI p280 7 11+1)))),(12,.t (tI (w64 (cI p280 7 12+1)))),(13,.sref 5 (AK p280 7 13+1) 0 (AJ p280 7 13+1))]))])) none)))))))
noncomputable def IT (n:Nat) (ff:Nat→Rec) (p267:ST) (y275:List Tree) (k268:KT) (p276:ST):RT:=cnd (vB p276 0=true) (Am (.box [AV.yld 40,.t (tI (cI p267 7 0)),.t (.sl 10 (cL p267 7 1)),.t (tI (cI p267 7 2)),.t (tI (cI p267 7 3))]) (.box [AV.yld 40,.t (tI (cI p276 7 0)),.t (.sl 10 (cL p276 7 1)),.t (tI (cI p276 7 2)),.t (tI (cI p276 7 3))]) (Am (.box [AV.yld 40,.t (tI (cI p267 7 0))]) (.box [AV.yld 40,.t (tI (cI p276 7 0))]) (Am (.row false (AD p267 5) 9 (oEs p267 5)) (.row false (AD p276 5) 9 (oEs p276 5)) (Am (.row false (AD p267 6) 9 (oEs p267 6)) (.row false (AD p276 6) 9 (oEs p276 6)) (Am (.row false (AD p267 1) 9 (oEs p267 1)) (.row false (AD p276 1) 9 (oEs p276 1)) (bd [0,13,0,0,0] (AA C n 156 (ct [0,13,0,0] p267 7 0 [tI (vI p267 3),tI (aI p267 4 0),tI (aI p267 4 1),tI (aI p267 4 2),tI (aI p267 4 3),tI (aI p267 4 4),.bool (aB p267 4 5),.str (aS p267 4 6),.sl 2 (aL p267 4 7),.sl 1 (gL y275 0)])) fun y279=>cnd (((gI y279 4) != 0)=true) (k268 ([],rh p276 0 Bh)) (cnd (AD p276 5=AK p276 7 13∧(9=9∨9=0)∧AO p276 7 13+AJ p276 7 13≤length (oEs p276 5)∧AJ p276 7 13+1≤1073741824) (k268 ([],upd (rh p276 0 Bh) [(5,.row false (AK p276 7 13+1) 9 (take (AJ p276 7 13) (drop (AO p276 7 13) (oEs p276 5))++[[tI (vI p267 3),tI (aI p267 4 0),tI (aI p267 4 1),tI (aI p267 4 2),tI (aI p267 4 3),tI (aI p267 4 4),.bool (aB p267 4 5),.str (aS p267 4 6),.sl 2 (aL p267 4 7)]])),(7,.box (upd (rb p276 7 0 BO) [(0,.t (tI (gI y279 0))),(1,.t (.sl 10 (gL y279 1))),(2,.t (tI (gI y279 2))),(3,.t (tI (gI y279 3))),(11,.t (tI (w64 (cI p276 7 11+1)))),(13,.sref 5 (AK p276 7 13+1) 0 (AJ p276 7 13+1))]))])) none))))))) (join (Dq n ff p267 k268 y275) fun k281=>cnd (decide (cI p276 7 9≥(0:Int))=true) (k281 ([.t (.bool (decide (cI p276 7 12≥cI p276 7 9)))],rh p276 0 L3)) (k281 ([.t (.bool false)],rh p276 0 L3)))
noncomputable def IS (n:Nat) (ff:Nat→Rec) (p267:ST) (y288:List Tree) (k268:KT) (p289:ST):RT:=cnd (vB p289 0=true) (Am (.box [AV.yld 40,.t (tI (cI p267 7 0)),.t (.sl 10 (cL p267 7 1)),.t (tI (cI p267 7 2)),.t (tI (cI p267 7 3))]) (.box [AV.yld 40,.t (tI (cI p289 7 0)),.t (.sl 10 (cL p289 7 1)),.t (tI (cI p289 7 2)),.t (tI (cI p289 7 3))]) (Am (.box [AV.yld 40,.t (tI (cI p267 7 0))]) (.box [AV.yld 40,.t (tI (cI p289 7 0))]) (Am (.row false (AD p267 5) 9 (oEs p267 5)) (.row false (AD p289 5) 9 (oEs p289 5)) (Am (.row false (AD p267 6) 9 (oEs p267 6)) (.row false (AD p289 6) 9 (oEs p289 6)) (Am (.row false (AD p267 1) 9 (oEs p267 1)) (.row false (AD p289 1) 9 (oEs p289 1)) (bd [0,13,0,0,0] (AA C n 156 (ct [0,13,0,0] p267 7 0 [tI (vI p267 3),tI (aI p267 4 0),tI (aI p267 4 1),tI (aI p267 4 2),tI (aI p267 4 3),tI (aI p267 4 4),.bool (aB p267 4 5),.str (aS p267 4 6),.sl 2 (aL p267 4 7),.sl 1 (gL y288 0)])) fun y292=>cnd (((gI y292 4) != 0)=true) (k268 ([],rh p289 0 Bh)) (cnd (AD p289 5=AK p289 7 13∧(9=9∨9=0)∧AO p289 7 13+AJ p289 7 13≤length (oEs p289 5)∧AJ p289 7 13+1≤1073741824) (k268 ([],upd (rh p289 0 Bh) [(5,.row false (AK p289 7 13+1) 9 (take (AJ p289 7 13) (drop (AO p289 7 13) (oEs p289 5))++[[tI (vI p267 3),tI (aI p267 4 0),tI (aI p267 4 1),tI (aI p267 4 2),tI (aI p267 4 3),tI (aI p267 4 4),.bool (aB p267 4 5),.str (aS p267 4 6),.sl 2 (aL p267 4 7)]])),(7,.box (upd (rb p289 7 0 BO) [(0,.t (tI (gI y292 0))),(1,.t (.sl 10 (gL y292 1))),(2,.t (tI (gI y292 2))),(3,.t (tI (gI y292 3))),(11,.t (tI (w64 (cI p289 7 11+1)))),(13,.sref 5 (AK p289 7 13+1) 0 (AJ p289 7 13+1))]))])) none))))))) (join (Dq n ff p267 k268 y288) fun k294=>cnd (decide (cI p289 7 9≥(0:Int))=true) (k294 ([.t (.bool (decide (cI p289 7 12≥cI p289 7 9)))],rh p289 0 Bh)) (k294 ([.t (.bool false)],rh p289 0 Bh)))
noncomputable def Zv (n:Nat) (ff:Nat→Rec) (k268:KT) (p267:ST):RT:=ff 9 (List Tree) (.fn 144 [AV.ptr 7 0,AV.ptr 7 0,.t (tI 0),.t (tI (vI p267 3)),AV.agg (tv [tI (aI p267 4 0),tI (aI p267 4 1),tI (aI p267 4 2),tI (aI p267 4 3),tI (aI p267 4 4),.bool (aB p267 4 5),.str (aS p267 4 6),.sl 2 (aL p267 4 7)])]) (rh p267 0 B6) fun rs h1=>cnd (BN C.P (A9 C.P 144) rs=true) (EH (rh p267 0 B6) h1 fun hs=>k268 (rs,hs)) none
noncomputable def IM (n:Nat) (ff:Nat→Rec) (k268:KT) (p267:ST):RT:=cnd (decide (cI p267 7 11≥(10000:Int))=true) (k268 ([],rh p267 0 Bh)) (both (bd [1] (AA C n 175 [.sl 2 (cL p267 7 10),tI (vI p267 3)]) fun y271=>cnd (gB y271 0=true) (Am (.box [AV.yld 40,.t (tI (cI p267 7 0)),.t (.sl 10 (cL p267 7 1)),.t (tI (cI p267 7 2)),.t (tI (cI p267 7 3))]) (.box [AV.yld 40,.t (tI (cI p267 7 0)),.t (.sl 10 (cL p267 7 1)),.t (tI (cI p267 7 2)),.t (tI (cI p267 7 3))]) (Am (.box [AV.yld 40,.t (tI (cI p267 7 0))]) (.box [AV.yld 40,.t (tI (cI p267 7 0))]) (Am (.row false (AD p267 5) 9 (oEs p267 5)) (.row false (AD p267 5) 9 (oEs p267 5)) (Am (.row false (AD p267 6) 9 (oEs p267 6)) (.row false (AD p267 6) 9 (oEs p267 6)) (Am (.row false (AD p267 1) 9 (oEs p267 1)) (.row false (AD p267 1) 9 (oEs p267 1)) (bd [0,13,0,0,0] (AA C n 156 (ct [0,13,0,0] p267 7 0 [tI (vI p267 3),tI (aI p267 4 0),tI (aI p267 4 1),tI (aI p267 4 2),tI (aI p267 4 3),tI (aI p267 4 4),.bool (aB p267 4 5),.str (aS p267 4 6),.sl 2 (aL p267 4 7),.sl 1 []])) fun y272=>cnd (((gI y272 4) != 0)=true) (k268 ([],rh p267 0 Bh)) (cnd (AD p267 5=AK p267 7 13∧(9=9∨9=0)∧AO p267 7 13+AJ p267 7 13≤length (oEs p267 5)∧AJ p267 7 13+1≤1073741824) (k268 ([],upd (rh p267 0 Bh) [(5,.row false (AK p267 7 13+1) 9 (take (AJ p267 7 13) (drop (AO p267 7 13) (oEs p267 5))++[[tI (vI p267 3),tI (aI p267 4 0),tI (aI p267 4 1),tI (aI p267 4 2),tI (aI p267 4 3),tI (aI p267 4 4),.bool (aB p267 4 5),.str (aS p267 4 6),.sl 2 (aL p267 4 7)]])),(7,.box (upd (rb p267 7 0 BO) [(0,.t (tI (gI y272 0))),(1,.t (.sl 10 (gL y272 1))),(2,.t (tI (gI y272 2))),(3,.t (tI (gI y272 3))),(11,.t (tI (w64 (cI p267 7 11+1)))),(13,.sref 5 (AK p267 7 13+1) 0 (AJ p267 7 13+1))]))])) none))))))) (cnd (((length (cL p267 7 8):Int)==0)=true) (Am (.box [AV.yld 40,.t (tI (cI p267 7 0)),.t (.sl 10 (cL p267 7 1)),.t (tI (cI p267 7 2)),.t (tI (cI p267 7 3))]) (.box [AV.yld 40,.t (tI (cI p267 7 0)),.t (.sl 10 (cL p267 7 1)),.t (tI (cI p267 7 2)),.t (tI (cI p267 7 3))]) (Am (.box [AV.yld 40,.t (tI (cI p267 7 0))]) (.box [AV.yld 40,.t (tI (cI p267 7 0))]) (Am (.row false (AD p267 5) 9 (oEs p267 5)) (.row false (AD p267 5) 9 (oEs p267 5)) (Am (.row false (AD p267 6) 9 (oEs p267 6)) (.row false (AD p267 6) 9 (oEs p267 6)) (Am (.row false (AD p267 1) 9 (oEs p267 1)) (.row false (AD p267 1) 9 (oEs p267 1)) (bd [0,13,0,0,0] (AA C n 156 (ct [0,13,0,0] p267 7 0 [tI (vI p267 3),tI (aI p267 4 0),tI (aI p267 4 1),tI (aI p267 4 2),tI (aI p267 4 3),tI (aI p267 4 4),.bool (aB p267 4 5),.str (aS p267 4 6),.sl 2 (aL p267 4 7),.sl 1 [[tI (cI p267 7 0)]]])) fun y273=>cnd (((gI y273 4) != 0)=true) (k268 ([],rh p267 0 Bh)) (cnd (AD p267 5=AK p267 7 13∧(9=9∨9=0)∧AO p267 7 13+AJ p267 7 13≤length (oEs p267 5)∧AJ p267 7 13+1≤1073741824) (k268 ([],upd (rh p267 0 Bh) [(5,.row false (AK p267 7 13+1) 9 (take (AJ p267 7 13) (drop (AO p267 7 13) (oEs p267 5))++[[tI (vI p267 3),tI (aI p267 4 0),tI (aI p267 4 1),tI (aI p267 4 2),tI (aI p267 4 3),tI (aI p267 4 4),.bool (aB p267 4 5),.str (aS p267 4 6),.sl 2 (aL p267 4 7)]])),(7,.box (upd (rb p267 7 0 BO) [(0,.t (tI (gI y273 0))),(1,.t (.sl 10 (gL y273 1))),(2,.t (tI (gI y273 2))),(3,.t (tI (gI y273 3))),(11,.t (tI (w64 (cI p267 7 11+1)))),(13,.sref 5 (AK p267 7 13+1) 0 (AJ p267 7 13+1))]))])) none))))))) (cnd ((length (cL p267 7 8):Int)=0) none (cnd (1=1∧0≤tmod (cI p267 7 11) (length (cL p267 7 8):Int)) (Option.bind (cL p267 7 8)[toNat (tmod (cI p267 7 11) (length (cL p267 7 8):Int))]? fun y274=>cnd (okI y274 0) (bd [4,0] (AA C n 176 [tI (gI y274 0),tI (cI p267 7 0)]) fun y275=>join (IT n ff p267 y275 k268) fun k277=>cnd (decide ((length (gL y275 0):Int)>0)=true) (Option.bind (gL y275 0)[0]? fun y278=>cnd (okI y278 0) (k277 ([.t (.bool (gI y278 0==cI p267 7 0))],upd (rh p267 0 L3) [(8,.box (tv (zt [0,13,0,0] [])))])) none) (k277 ([.t (.bool false)],upd (rh p267 0 L3) [(8,.box (tv (zt [0,13,0,0] [])))]))) none) none)))) (bd [1] (AA C n 175 [.sl 2 (cL p267 7 10),tI (vI p267 3)]) fun y284=>cnd (gB y284 0=true) (Am (.box [AV.yld 40,.t (tI (cI p267 7 0)),.t (.sl 10 (cL p267 7 1)),.t (tI (cI p267 7 2)),.t (tI (cI p267 7 3))]) (.box [AV.yld 40,.t (tI (cI p267 7 0)),.t (.sl 10 (cL p267 7 1)),.t (tI (cI p267 7 2)),.t (tI (cI p267 7 3))]) (Am (.box [AV.yld 40,.t (tI (cI p267 7 0))]) (.box [AV.yld 40,.t (tI (cI p267 7 0))]) (Am (.row false (AD p267 5) 9 (oEs p267 5)) (.row false (AD p267 5) 9 (oEs p267 5)) (Am (.row false (AD p267 6) 9 (oEs p267 6)) (.row false (AD p267 6) 9 (oEs p267 6)) (Am (.row false (AD p267 1) 9 (oEs p267 1)) (.row false (AD p267 1) 9 (oEs p267 1)) (bd [0,13,0,0,0] (AA C n 156 (ct [0,13,0,0] p267 7 0 [tI (vI p267 3),tI (aI p267 4 0),tI (aI p267 4 1),tI (aI p267 4 2),tI (aI p267 4 3),tI (aI p267 4 4),.bool (aB p267 4 5),.str (aS p267 4 6),.sl 2 (aL p267 4 7),.sl 1 []])) fun y285=>cnd (((gI y285 4) != 0)=true) (k268 ([],rh p267 0 Bh)) (cnd (AD p267 5=AK p267 7 13∧(9=9∨9=0)∧AO p267 7 13+AJ p267 7 13≤length (oEs p267 5)∧AJ p267 7 13+1≤1073741824) (k268 ([],upd (rh p267 0 Bh) [(5,.row false (AK p267 7 13+1) 9 (take (AJ p267 7 13) (drop (AO p267 7 13) (oEs p267 5))++[[tI (vI p267 3),tI (aI p267 4 0),tI (aI p267 4 1),tI (aI p267 4 2),tI (aI p267 4 3),tI (aI p267 4 4),.bool (aB p267 4 5),.str (aS p267 4 6),.sl 2 (aL p267 4 7)]])),(7,.box (upd (rb p267 7 0 BO) [(0,.t (tI (gI y285 0))),(1,.t (.sl 10 (gL y285 1))),(2,.t (tI (gI y285 2))),(3,.t (tI (gI y285 3))),(11,.t (tI (w64 (cI p267 7 11+1)))),(13,.sref 5 (AK p267 7 13+1) 0 (AJ p267 7 13+1))]))])) none))))))) (cnd (((length (cL p267 7 8):Int)==0)=true) (Am (.box [AV.yld 40,.t (tI (cI p267 7 0)),.t (.sl 10 (cL p267 7 1)),.t (tI (cI p267 7 2)),.t (tI (cI p267 7 3))]) (.box [AV.yld 40,.t (tI (cI p267 7 0)),.t (.sl 10 (cL p267 7 1)),.t (tI (cI p267 7 2)),.t (tI (cI p267 7 3))]) (Am (.box [AV.yld 40,.t (tI (cI p267 7 0))]) (.box [AV.yld 40,.t (tI (cI p267 7 0))]) (Am (.row false (AD p267 5) 9 (oEs p267 5)) (.row false (AD p267 5) 9 (oEs p267 5)) (Am (.row false (AD p267 6) 9 (oEs p267 6)) (.row false (AD p267 6) 9 (oEs p267 6)) (Am (.row false (AD p267 1) 9 (oEs p267 1)) (.row false (AD p267 1) 9 (oEs p267 1)) (bd [0,13,0,0,0] (AA C n 156 (ct [0,13,0,0] p267 7 0 [tI (vI p267 3),tI (aI p267 4 0),tI (aI p267 4 1),tI (aI p267 4 2),tI (aI p267 4 3),tI (aI p267 4 4),.bool (aB p267 4 5),.str (aS p267 4 6),.sl 2 (aL p267 4 7),.sl 1 [[tI (cI p267 7 0)]]])) fun y286=>cnd (((gI y286 4) != 0)=true) (k268 ([],rh p267 0 Bh)) (cnd (AD p267 5=AK p267 7 13∧(9=9∨9=0)∧AO p267 7 13+AJ p267 7 13≤length (oEs p267 5)∧AJ p267 7 13+1≤1073741824) (k268 ([],upd (rh p267 0 Bh) [(5,.row false (AK p267 7 13+1) 9 (take (AJ p267 7 13) (drop (AO p267 7 13) (oEs p267 5))++[[tI (vI p267 3),tI (aI p267 4 0),tI (aI p267 4 1),tI (aI p267 4 2),tI (aI p267 4 3),tI (aI p267 4 4),.bool (aB p267 4 5),.str (aS p267 4 6),.sl 2 (aL p267 4 7)]])),(7,.box (upd (rb p267 7 0 BO) [(0,.t (tI (gI y286 0))),(1,.t (.sl 10 (gL y286 1))),(2,.t (tI (gI y286 2))),(3,.t (tI (gI y286 3))),(11,.t (tI (w64 (cI p267 7 11+1)))),(13,.sref 5 (AK p267 7 13+1) 0 (AJ p267 7 13+1))]))])) none))))))) (cnd ((length (cL p267 7 8):Int)=0) none (cnd (1=1∧0≤tmod (cI p267 7 11) (length (cL p267 7 8):Int)) (Option.bind (cL p267 7 8)[toNat (tmod (cI p267 7 11) (length (cL p267 7 8):Int))]? fun y287=>cnd (okI y287 0) (bd [4,0] (AA C n 176 [tI (gI y287 0),tI (cI p267 7 0)]) fun y288=>join (IS n ff p267 y288 k268) fun k290=>cnd (decide ((length (gL y288 0):Int)>0)=true) (Option.bind (gL y288 0)[0]? fun y291=>cnd (okI y291 0) (k290 ([.t (.bool (gI y291 0==cI p267 7 0))],rh p267 0 Bh)) none) (k290 ([.t (.bool false)],rh p267 0 Bh))) none) none)))))
theorem vC26_6 (n:Nat) (ff:Nat→Rec) (k268:KT) (p267:ST):Dc C (Fo C (pcx C (AA C n)) n ff EZ 8) (pcx C (AA C n)) n 144 [AV.ptr 7 0,AV.ptr 7 0,.t (tI 0),.t (tI (vI p267 3)),AV.agg (tv [tI (aI p267 4 0),tI (aI p267 4 1),tI (aI p267 4 2),tI (aI p267 4 3),tI (aI p267 4 4),.bool (aB p267 4 5),.str (aS p267 4 6),.sl 2 (aL p267 4 7)])] (rh p267 0 B6) (fun rs h1=>cnd (BN C.P (A9 C.P 144) rs=true) (EH (rh p267 0 B6) h1 fun hs=>k268 (rs,hs)) none)=IM n ff k268 p267:=by kernel_rfl
theorem Ga (n:Nat) (k268:KT) (p267:ST):Zv n (fI C n) k268 p267=IM n (fI C n) k268 p267:=(GU C n EZ 8 _ 144 _ _ _).trans (vC26_6 n (fI C n) k268 p267)
noncomputable def Zf (n:Nat) (ff:Nat→Rec) (k262:KT) (p297:ST):RT:=cnd (AD p297 1=AK p297 7 35∧(9=9∨9=0)) (cnd ((0:Int)≤1∧1≤(AJ p297 7 35:Int)) (k262 ([],upd (rh p297 0 Bh) [(7,.box (upd (rb p297 7 0 BO) [(35,.sref 1 (AK p297 7 35) (AO p297 7 35+1) (AJ p297 7 35-1))]))])) none) none
noncomputable def RB (n:Nat) (ff:Nat→Rec) (k262:KT) (p259:ST) (k260:KT) (p263:ST):RT:=cnd (vB p263 0=true) (cnd (AD p263 1=AK p263 7 35∧9=9∧(0:Int)≤0∧0<(AJ p263 7 35:Int)) (cnd (AD p263 1=AK p263 7 35) (cnd (AD p263 1=AK p263 7 35) (Option.bind (oEs p263 1)[AO p263 7 35]? fun y266=>bk kG 1 y266 (join (Zf n ff k262) fun k298=>Zv n ff k298 ([AV.ptr 7 0,AV.ptr 7 0,.t (tI 0),.t (tI (cI p263 7 15)),AV.agg (tv (gt kG y266 1 []))],upd (rh p263 0 B6) [(2,.row true (AD p259 2) 15 (oEs p259 2)),(3,.row true (AD p259 3) 4 (oEs p259 3)),(4,.row true (AD p259 4) 4 (oEs p259 4))]))) none) none) none) (k260 ([],rh p263 0 Bh))
noncomputable def OR (n:Nat) (ff:Nat→Rec) (p259:ST) (k260:KT) (p261:ST) (k262:KT):RT:=join (RB n ff k262 p259 k260) fun k264=>cnd (AD p261 1=AK p261 7 35) (cnd (decide ((AJ p261 7 35:Int)>0)=true) (cnd (AD p261 1=AK p261 7 35∧9=9∧(0:Int)≤0∧0<(AJ p261 7 35:Int)) (cnd (AD p261 1=AK p261 7 35) (cnd (AD p261 1=AK p261 7 35) (Option.bind (oEs p261 1)[AO p261 7 35]? fun y265=>cnd (okI y265 0) (k264 ([.t (.bool (gI y265 0==cI p261 7 15))],rh p261 0 Bh)) none) none) none) none) (k264 ([.t (.bool false)],rh p261 0 Bh))) none
noncomputable def Zu (n:Nat) (ff:Nat→Rec) (k260:KT) (p259:ST):RT:=ff 10 (List Tree) (.fn 124 [AV.ptr 7 0]) (rh p259 0 B6) fun rs h1=>cnd (BN C.P (A9 C.P 124) rs=true) (EH (rh p259 0 B6) h1 fun hs=>k260 (rs,hs)) none
noncomputable def ZO (n:Nat) (ff:Nat→Rec) (k260:KT) (p259:ST):RT:=AH (OR n ff p259 k260) n ([],rh p259 0 Bh)
theorem vC26_7 (n:Nat) (ff:Nat→Rec) (k260:KT) (p259:ST):Dc C (Fo C (pcx C (AA C n)) n ff EZ 9) (pcx C (AA C n)) n 124 [AV.ptr 7 0] (rh p259 0 B6) (fun rs h1=>cnd (BN C.P (A9 C.P 124) rs=true) (EH (rh p259 0 B6) h1 fun hs=>k260 (rs,hs)) none)=ZO n ff k260 p259:=by kernel_rfl
theorem tC26_7 (n:Nat) (k260:KT) (p259:ST):Zu n (fI C n) k260 p259=ZO n (fI C n) k260 p259:=(GU C n EZ 9 _ 124 _ _ _).trans (vC26_7 n (fI C n) k260 p259)
noncomputable def Ze (n:Nat) (ff:Nat→Rec) (k85:KT) (p301:ST):RT:=k85 (tv [tI (vI p301 0),.bool (vB p301 1)],rh p301 0 Bh)
noncomputable def Jo (n:Nat) (ff:Nat→Rec) (p17:ST) (k85:KT) (p86:ST) (k87:KT):RT:=cnd (decide (vI p86 0<4)=true) (cnd (0≤vI p86 0∧vI p86 0<4) (cnd (vI p86 0=(3:Int)) (join (IW n ff k87 p86) fun k100=>Zz n ff k100 ([AV.ptr 7 0],upd (rh p86 0 B6) [(2,.row true (AD p17 2) 15 (oEs p17 2)),(3,.row true (AD p17 3) 4 (oEs p17 3)),(4,.row true (AD p17 4) 4 (oEs p17 4))])) (cnd (vI p86 0=(2:Int)) (join (IW n ff k87 p86) fun k166=>Zy n ff k166 ([AV.ptr 7 0],upd (rh p86 0 B6) [(2,.row true (AD p17 2) 15 (oEs p17 2)),(3,.row true (AD p17 3) 4 (oEs p17 3)),(4,.row true (AD p17 4) 4 (oEs p17 4))])) (cnd (vI p86 0=(1:Int)) (join (IW n ff k87 p86) fun k258=>Zw n ff k258 ([AV.ptr 7 0],upd (rh p86 0 B6) [(2,.row true (AD p17 2) 15 (oEs p17 2)),(3,.row true (AD p17 3) 4 (oEs p17 3)),(4,.row true (AD p17 4) 4 (oEs p17 4))])) (cnd (vI p86 0=(0:Int)) (join (IW n ff k87 p86) fun k300=>Zu n ff k300 ([AV.ptr 7 0],upd (rh p86 0 B6) [(2,.row true (AD p17 2) 15 (oEs p17 2)),(3,.row true (AD p17 3) 4 (oEs p17 3)),(4,.row true (AD p17 4) 4 (oEs p17 4))])) none)))) none) (join (Ze n ff k85) fun k302=>WH n ff k302 ([AV.ptr 7 0],upd (rh p86 0 B6) [(2,.row true (AD p17 2) 15 (oEs p17 2)),(3,.row true (AD p17 3) 4 (oEs p17 3)),(4,.row true (AD p17 4) 4 (oEs p17 4))]))
noncomputable def OQ (n:Nat) (ff:Nat→Rec) (p17:ST) (k18:KT) (p84:ST) (k85:KT):RT:=cnd (vB p84 1=true) (AH (Jo n ff p17 k85) n ([.t (tI 0)],upd (rh p84 0 Bh) [(7,.box (upd (rb p84 7 0 BO) [(15,.t (tI (vI p84 0)))]))])) (k18 ([],rh p84 0 Bh))
noncomputable def Zd (n:Nat) (ff:Nat→Rec) (p17:ST) (k18:KT) (p82:ST):RT:=AH (OQ n ff p17 k18) n (tv [tI (vI p82 0),.bool (vB p82 1)],rh p82 0 Bh)
noncomputable def WG (n:Nat) (ff:Nat→Rec) (k18:KT) (p17:ST):RT:=ff 11 (List Tree) (.fn 71 [AV.ptr 7 0]) (rh p17 0 B6) fun rs h1=>cnd (BN C.P (A9 C.P 71) rs=true) (EH (rh p17 0 B6) h1 fun hs=>k18 (rs,hs)) none
noncomputable def ZN (n:Nat) (ff:Nat→Rec) (k18:KT) (p17:ST):RT:=join (Zd n ff p17 k18) fun k83=>WH n ff k83 ([AV.ptr 7 0],rh p17 0 B6)
theorem vC26_8 (n:Nat) (ff:Nat→Rec) (k18:KT) (p17:ST):Dc C (Fo C (pcx C (AA C n)) n ff EZ 10) (pcx C (AA C n)) n 71 [AV.ptr 7 0] (rh p17 0 B6) (fun rs h1=>cnd (BN C.P (A9 C.P 71) rs=true) (EH (rh p17 0 B6) h1 fun hs=>k18 (rs,hs)) none)=ZN n ff k18 p17:=by kernel_rfl
theorem tC26_8 (n:Nat) (k18:KT) (p17:ST):WG n (fI C n) k18 p17=ZN n (fI C n) k18 p17:=(GU C n EZ 10 _ 71 _ _ _).trans (vC26_8 n (fI C n) k18 p17)
noncomputable def UX (n:Nat) (ff:Nat→Rec) (p303:ST):RT:=some (ct [1,0,1,0] p303 7 36 [tI (cI p303 7 26),tI (cI p303 7 11),tI (w64 (cI p303 7 3+cI p303 7 7)),tI 0])
theorem v26 (n:Nat) (ff:Nat→Rec) (a0 a1 a2 a3 a4 a5 a6 a7 a8:Int) (a9:ByteArray) (a10:TT) (a11:Int) (a12:TT):KH C (Fo C (pcx C (AA C n)) n ff EZ C.depth) (pcx C (AA C n)) n 26 [tI a0,tI a1,tI a2,tI a3,tI a4,tI a5,tI a6,tI a7,tI a8,.str a9,.sl 1 a10,tI a11,.sl 2 a12]=cnd (decide ((length a10:Int)>1000)=true) (some (zt [1,0,1,0,0,0,0] [tI 4])) (cnd (decide (a11<(-1))=true) (some (zt [1,0,1,0,0,0,0] [tI 2])) (bd [0] (AA C n 67 [.sl 2 a12]) fun y13=>cnd (((gI y13 0) != 0)=true) (some (zt [1,0,1,0,0,0,0] [tI 1])) (bd [0,0,0,0,0,0,0,0,2,0,0,0,5,0,0,12,0] (AA C n 2004367 [tI a0,tI a1,tI a2,tI a3,tI a4,tI a5,tI a6,tI 0,.str a9,tI a7,tI a8]) fun y14=>cnd (((gI y14 16) != 0)=true) (cnd (((gI y14 16) != 0)=true) (some (zt [1,0,1,0,0,0,0] [tI (gI y14 16)])) none) (bd [0,13,0,0,0] (AA C n 69 [tI a5]) fun y15=>bd [0,0,5,2,0] (AA C n 70 [tI 0]) fun y16=>join (UX n ff) fun k304=>WG n ff k304 ([AV.ptr 7 0],[.box (tv (zt [1,0,1,0,0,0,0] [])),.row false 0 9 (gL y14 15),.row true 0 15 [[tI (gI y14 0),tI (gI y14 1),tI (gI y14 2),tI (gI y14 3),tI (gI y14 4),tI (gI y14 5),tI (gI y14 6),tI (gI y14 7),.str (gS y14 8),tI (gI y14 9),tI (gI y14 10),tI (gI y14 11),.sl 2 (gL y14 12),tI (gI y14 13),tI (gI y14 14)]],.row true 0 4 [[tI (gI y15 0),.sl 10 (gL y15 1),tI (gI y15 2),tI (gI y15 3)]],.row true 0 4 [[tI (gI y16 0),tI (gI y16 1),.sl 2 (gL y16 2),.str (gS y16 3)]],.row false 0 9 [],.row false 0 9 [],.box [.t (tI (gI y15 0)),.t (.sl 10 (gL y15 1)),.t (tI (gI y15 2)),.t (tI (gI y15 3)),.t (tI (gI y15 0)),.t (.sl 10 (gL y15 1)),.t (tI (gI y15 2)),.t (tI (gI y15 3)),.t (.sl 1 a10),.t (tI a11),.t (.sl 2 a12),.t (tI 0),.t (tI 0),.sref 5 0 0 0,.sref 6 0 0 0,.t (tI 0),.t (tI (gI y14 0)),.t (tI (gI y14 1)),.t (tI (gI y14 2)),.t (tI (gI y14 3)),.t (tI (gI y14 4)),.t (tI (gI y14 5)),.t (tI (gI y14 6)),.t (tI (gI y14 7)),.t (.str (gS y14 8)),.t (tI (gI y14 9)),.t (tI (gI y14 10)),.t (tI (gI y14 11)),.t (.sl 2 (gL y14 12)),.t (tI (gI y14 13)),.t (tI (gI y14 14)),.t (tI (gI y16 0)),.t (tI (gI y16 1)),.t (.sl 2 (gL y16 2)),.t (.str (gS y16 3)),.sref 1 0 0 (length (gL y14 15)),.t (.bool false),.t (tI 0),.t (.bool false),.t (tI 0)]]))))):=by kernel_rfl
theorem u26 (a0:Int) (a1:Int) (a2:Int) (a3:Int) (a4:Int) (a5:Int) (a6:Int) (a7:Int) (a8:Int) (a9:ByteArray) (a10:List (List Tree)) (a11:Int) (a12:List (List Tree)):C.ext 26 [tI a0,tI a1,tI a2,tI a3,tI a4,tI a5,tI a6,tI a7,tI a8,.str a9,.sl 1 a10,tI a11,.sl 2 a12]=none:=by kernel_rfl
theorem e26 (n:Nat) (a0 a1 a2 a3 a4 a5 a6 a7 a8:Int) (a9:ByteArray) (a10:TT) (a11:Int) (a12:TT):AA C (n+1) 26 [tI a0,tI a1,tI a2,tI a3,tI a4,tI a5,tI a6,tI a7,tI a8,.str a9,.sl 1 a10,tI a11,.sl 2 a12]=cnd (decide ((length a10:Int)>1000)=true) (some (zt [1,0,1,0,0,0,0] [tI 4])) (cnd (decide (a11<(-1))=true) (some (zt [1,0,1,0,0,0,0] [tI 2])) (bd [0] (AA C n 67 [.sl 2 a12]) fun y13=>cnd (((gI y13 0) != 0)=true) (some (zt [1,0,1,0,0,0,0] [tI 1])) (bd [0,0,0,0,0,0,0,0,2,0,0,0,5,0,0,12,0] (AA C n 2004367 [tI a0,tI a1,tI a2,tI a3,tI a4,tI a5,tI a6,tI 0,.str a9,tI a7,tI a8]) fun y14=>cnd (((gI y14 16) != 0)=true) (cnd (((gI y14 16) != 0)=true) (some (zt [1,0,1,0,0,0,0] [tI (gI y14 16)])) none) (bd [0,13,0,0,0] (AA C n 69 [tI a5]) fun y15=>bd [0,0,5,2,0] (AA C n 70 [tI 0]) fun y16=>join (fun (p303:ST)=>UX n (fI C n) p303) fun k304=>WG n (fI C n) k304 ([AV.ptr 7 0],[.box (tv (zt [1,0,1,0,0,0,0] [])),.row false 0 9 (gL y14 15),.row true 0 15 [[tI (gI y14 0),tI (gI y14 1),tI (gI y14 2),tI (gI y14 3),tI (gI y14 4),tI (gI y14 5),tI (gI y14 6),tI (gI y14 7),.str (gS y14 8),tI (gI y14 9),tI (gI y14 10),tI (gI y14 11),.sl 2 (gL y14 12),tI (gI y14 13),tI (gI y14 14)]],.row true 0 4 [[tI (gI y15 0),.sl 10 (gL y15 1),tI (gI y15 2),tI (gI y15 3)]],.row true 0 4 [[tI (gI y16 0),tI (gI y16 1),.sl 2 (gL y16 2),.str (gS y16 3)]],.row false 0 9 [],.row false 0 9 [],.box [.t (tI (gI y15 0)),.t (.sl 10 (gL y15 1)),.t (tI (gI y15 2)),.t (tI (gI y15 3)),.t (tI (gI y15 0)),.t (.sl 10 (gL y15 1)),.t (tI (gI y15 2)),.t (tI (gI y15 3)),.t (.sl 1 a10),.t (tI a11),.t (.sl 2 a12),.t (tI 0),.t (tI 0),.sref 5 0 0 0,.sref 6 0 0 0,.t (tI 0),.t (tI (gI y14 0)),.t (tI (gI y14 1)),.t (tI (gI y14 2)),.t (tI (gI y14 3)),.t (tI (gI y14 4)),.t (tI (gI y14 5)),.t (tI (gI y14 6)),.t (tI (gI y14 7)),.t (.str (gS y14 8)),.t (tI (gI y14 9)),.t (tI (gI y14 10)),.t (tI (gI y14 11)),.t (.sl 2 (gL y14 12)),.t (tI (gI y14 13)),.t (tI (gI y14 14)),.t (tI (gI y16 0)),.t (tI (gI y16 1)),.t (.sl 2 (gL y16 2)),.t (.str (gS y16 3)),.sref 1 0 0 (length (gL y14 15)),.t (.bool false),.t (tI 0),.t (.bool false),.t (tI 0)]]))))):=(OB C n 26 _ (by decide) (u26 a0 a1 a2 a3 a4 a5 a6 a7 a8 a9 a10 a11 a12)).trans ((pureO C n EZ 26 _).symm.trans (v26 n (fI C n) a0 a1 a2 a3 a4 a5 a6 a7 a8 a9 a10 a11 a12))
end Ab
set_option linter.unusedVariables false
set_option linter.unusedSimpArgs false
set_option maxRecDepth 100000
namespace Ab
open Go
def Af (g:Gh) (s:Ses):List AV:=[.t (tI s.dat.rng),.t (.sl 10 (s.dat.frames.map Frame.enc)),.t (tI s.dat.sent),.t (tI s.dat.lost),.t (tI s.rep.rng),.t (.sl 10 (s.rep.frames.map Frame.enc)),.t (tI s.rep.sent),.t (tI s.rep.lost),.t (.sl 1 (s.picks.map Az)),.t (tI s.limit),.t (.sl 2 (s.dark.map Span.enc)),.t (tI s.entered),.t (tI s.dist),.sref 5 g.v4 0 s.sent.length,.sref 6 g.v5 0 s.told.length,.t (tI s.now),.t (tI s.snd.c.frm),.t (tI s.snd.c.dst),.t (tI s.snd.c.start),.t (tI s.snd.c.fin),.t (tI s.snd.c.rate),.t (tI s.snd.c.rng),.t (tI s.snd.c.loss),.t (tI s.snd.ses),.t (.str s.snd.data),.t (tI s.snd.fin),.t (tI s.snd.busy),.t (tI s.snd.ser),.t (.sl 2 (s.snd.acked.map Span.enc)),.t (tI s.snd.due),.t (tI s.snd.st),.t (tI s.rcv.ses),.t (tI s.rcv.tot),.t (.sl 2 (s.rcv.known.map Span.enc)),.t (.str s.rcv.data),.sref 1 g.v0 g.pre.length s.pend.length,.t (.bool s.rcvd),.t (tI s.arrive),.t (.bool s.kno),.t (tI s.knoAt)]
def AW (f1 f2 f3:AI) (v0:Nat) (e0:List (List Tree)) (v4:Nat) (e4:List (List Tree)) (v5:Nat) (e5:List (List Tree)) (c:List AV) (tl:Heap):Heap:=
 .box [.t (.bool false),.t (tI 0),.t (.bool false),.t (tI 0),.t (tI 0),.t (tI 0),.t (tI 0)] :: .row false v0 9 e0::f1::f2::f3 :: .row false v4 9 e4 :: .row false v5 9 e5 :: .box c::tl
def H26 (f1 f2 f3:AI) (g:Gh) (s:Ses) (tl:Heap):Heap:=AW f1 f2 f3 g.v0 (g.pre++s.pend.map Out.enc) g.v4 (s.sent.map Out.enc) g.v5 (s.told.map Out.enc) (Af g s) tl
theorem rd26 :
 (∀(e:List AV) (f1 f2 f3:AI) (v0:Nat) (e0:List (List Tree)) (v4:Nat) (e4:List (List Tree)) (v5:Nat) (e5:List (List Tree)) (g:Gh) (s:Ses) (tl:Heap),
  cI (e,AW f1 f2 f3 v0 e0 v4 e4 v5 e5 (Af g s) tl) 7 0=s.dat.rng∧
  cL (e,AW f1 f2 f3 v0 e0 v4 e4 v5 e5 (Af g s) tl) 7 1=s.dat.frames.map Frame.enc∧
  cI (e,AW f1 f2 f3 v0 e0 v4 e4 v5 e5 (Af g s) tl) 7 2=s.dat.sent∧
  cI (e,AW f1 f2 f3 v0 e0 v4 e4 v5 e5 (Af g s) tl) 7 3=s.dat.lost∧
  cI (e,AW f1 f2 f3 v0 e0 v4 e4 v5 e5 (Af g s) tl) 7 4=s.rep.rng∧
  cL (e,AW f1 f2 f3 v0 e0 v4 e4 v5 e5 (Af g s) tl) 7 5=s.rep.frames.map Frame.enc∧
  cI (e,AW f1 f2 f3 v0 e0 v4 e4 v5 e5 (Af g s) tl) 7 6=s.rep.sent∧
  cI (e,AW f1 f2 f3 v0 e0 v4 e4 v5 e5 (Af g s) tl) 7 7=s.rep.lost∧
  cL (e,AW f1 f2 f3 v0 e0 v4 e4 v5 e5 (Af g s) tl) 7 8=s.picks.map Az∧
  cI (e,AW f1 f2 f3 v0 e0 v4 e4 v5 e5 (Af g s) tl) 7 9=s.limit∧
  cL (e,AW f1 f2 f3 v0 e0 v4 e4 v5 e5 (Af g s) tl) 7 10=s.dark.map Span.enc∧
  cI (e,AW f1 f2 f3 v0 e0 v4 e4 v5 e5 (Af g s) tl) 7 11=s.entered∧
  cI (e,AW f1 f2 f3 v0 e0 v4 e4 v5 e5 (Af g s) tl) 7 12=s.dist∧
  AK (e,AW f1 f2 f3 v0 e0 v4 e4 v5 e5 (Af g s) tl) 7 13=g.v4∧
  AO (e,AW f1 f2 f3 v0 e0 v4 e4 v5 e5 (Af g s) tl) 7 13=0∧
  AJ (e,AW f1 f2 f3 v0 e0 v4 e4 v5 e5 (Af g s) tl) 7 13=s.sent.length∧
  AK (e,AW f1 f2 f3 v0 e0 v4 e4 v5 e5 (Af g s) tl) 7 14=g.v5∧
  AO (e,AW f1 f2 f3 v0 e0 v4 e4 v5 e5 (Af g s) tl) 7 14=0∧
  AJ (e,AW f1 f2 f3 v0 e0 v4 e4 v5 e5 (Af g s) tl) 7 14=s.told.length∧
  cI (e,AW f1 f2 f3 v0 e0 v4 e4 v5 e5 (Af g s) tl) 7 15=s.now∧
  cI (e,AW f1 f2 f3 v0 e0 v4 e4 v5 e5 (Af g s) tl) 7 16=s.snd.c.frm∧
  cI (e,AW f1 f2 f3 v0 e0 v4 e4 v5 e5 (Af g s) tl) 7 17=s.snd.c.dst∧
  cI (e,AW f1 f2 f3 v0 e0 v4 e4 v5 e5 (Af g s) tl) 7 18=s.snd.c.start∧
  cI (e,AW f1 f2 f3 v0 e0 v4 e4 v5 e5 (Af g s) tl) 7 19=s.snd.c.fin∧
  cI (e,AW f1 f2 f3 v0 e0 v4 e4 v5 e5 (Af g s) tl) 7 20=s.snd.c.rate∧
  cI (e,AW f1 f2 f3 v0 e0 v4 e4 v5 e5 (Af g s) tl) 7 21=s.snd.c.rng∧
  cI (e,AW f1 f2 f3 v0 e0 v4 e4 v5 e5 (Af g s) tl) 7 22=s.snd.c.loss∧
  cI (e,AW f1 f2 f3 v0 e0 v4 e4 v5 e5 (Af g s) tl) 7 23=s.snd.ses∧
  cS (e,AW f1 f2 f3 v0 e0 v4 e4 v5 e5 (Af g s) tl) 7 24=s.snd.data∧
  cI (e,AW f1 f2 f3 v0 e0 v4 e4 v5 e5 (Af g s) tl) 7 25=s.snd.fin∧
  cI (e,AW f1 f2 f3 v0 e0 v4 e4 v5 e5 (Af g s) tl) 7 26=s.snd.busy∧
  cI (e,AW f1 f2 f3 v0 e0 v4 e4 v5 e5 (Af g s) tl) 7 27=s.snd.ser∧
  cL (e,AW f1 f2 f3 v0 e0 v4 e4 v5 e5 (Af g s) tl) 7 28=s.snd.acked.map Span.enc∧
  cI (e,AW f1 f2 f3 v0 e0 v4 e4 v5 e5 (Af g s) tl) 7 29=s.snd.due∧
  cI (e,AW f1 f2 f3 v0 e0 v4 e4 v5 e5 (Af g s) tl) 7 30=s.snd.st∧
  cI (e,AW f1 f2 f3 v0 e0 v4 e4 v5 e5 (Af g s) tl) 7 31=s.rcv.ses∧
  cI (e,AW f1 f2 f3 v0 e0 v4 e4 v5 e5 (Af g s) tl) 7 32=s.rcv.tot∧
  cL (e,AW f1 f2 f3 v0 e0 v4 e4 v5 e5 (Af g s) tl) 7 33=s.rcv.known.map Span.enc∧
  cS (e,AW f1 f2 f3 v0 e0 v4 e4 v5 e5 (Af g s) tl) 7 34=s.rcv.data∧
  AK (e,AW f1 f2 f3 v0 e0 v4 e4 v5 e5 (Af g s) tl) 7 35=g.v0∧
  AO (e,AW f1 f2 f3 v0 e0 v4 e4 v5 e5 (Af g s) tl) 7 35=g.pre.length∧
  AJ (e,AW f1 f2 f3 v0 e0 v4 e4 v5 e5 (Af g s) tl) 7 35=s.pend.length∧
  cB (e,AW f1 f2 f3 v0 e0 v4 e4 v5 e5 (Af g s) tl) 7 36=s.rcvd∧
  cI (e,AW f1 f2 f3 v0 e0 v4 e4 v5 e5 (Af g s) tl) 7 37=s.arrive∧
  cB (e,AW f1 f2 f3 v0 e0 v4 e4 v5 e5 (Af g s) tl) 7 38=s.kno∧
  cI (e,AW f1 f2 f3 v0 e0 v4 e4 v5 e5 (Af g s) tl) 7 39=s.knoAt)∧
 (∀(e:List AV) (f1 f2 f3:AI) (v0:Nat) (e0:List (List Tree)) (v4:Nat) (e4:List (List Tree)) (v5:Nat) (e5:List (List Tree)) (c:List AV) (tl:Heap),
  AD (e,AW f1 f2 f3 v0 e0 v4 e4 v5 e5 c tl) 1=v0∧
  oEs (e,AW f1 f2 f3 v0 e0 v4 e4 v5 e5 c tl) 1=e0∧
  AD (e,AW f1 f2 f3 v0 e0 v4 e4 v5 e5 c tl) 5=v4∧
  oEs (e,AW f1 f2 f3 v0 e0 v4 e4 v5 e5 c tl) 5=e4∧
  AD (e,AW f1 f2 f3 v0 e0 v4 e4 v5 e5 c tl) 6=v5∧
  oEs (e,AW f1 f2 f3 v0 e0 v4 e4 v5 e5 c tl) 6=e5∧
  AD (e,AW f1 f2 f3 v0 e0 v4 e4 v5 e5 c tl) 2=AI.ver f1∧
  oEs (e,AW f1 f2 f3 v0 e0 v4 e4 v5 e5 c tl) 2=Bj f1∧
  AD (e,AW f1 f2 f3 v0 e0 v4 e4 v5 e5 c tl) 3=AI.ver f2∧
  oEs (e,AW f1 f2 f3 v0 e0 v4 e4 v5 e5 c tl) 3=Bj f2∧
  AD (e,AW f1 f2 f3 v0 e0 v4 e4 v5 e5 c tl) 4=AI.ver f3∧
  oEs (e,AW f1 f2 f3 v0 e0 v4 e4 v5 e5 c tl) 4=Bj f3)∧
 (∀(e:List AV) (f1 f2 f3:AI) (v0:Nat) (e0:List (List Tree)) (v4:Nat) (e4:List (List Tree)) (v5:Nat) (e5:List (List Tree)) (c:List AV) (o0:AI) (tl:Heap),
  AD (e,AW f1 f2 f3 v0 e0 v4 e4 v5 e5 c (o0::tl)) 8=AI.ver o0∧
  oEs (e,AW f1 f2 f3 v0 e0 v4 e4 v5 e5 c (o0::tl)) 8=Bj o0)∧
 (∀(e:List AV) (f1 f2 f3:AI) (v0:Nat) (e0:List (List Tree)) (v4:Nat) (e4:List (List Tree)) (v5:Nat) (e5:List (List Tree)) (c:List AV) (o0:AI) (tl:Heap) (j:Nat),
  cI (e,AW f1 f2 f3 v0 e0 v4 e4 v5 e5 c (o0::tl)) 8 j=intOf (AE (cellOf o0 j))∧
  cB (e,AW f1 f2 f3 v0 e0 v4 e4 v5 e5 c (o0::tl)) 8 j=BH (AE (cellOf o0 j))∧
  cS (e,AW f1 f2 f3 v0 e0 v4 e4 v5 e5 c (o0::tl)) 8 j=strOf (AE (cellOf o0 j))∧
  cL (e,AW f1 f2 f3 v0 e0 v4 e4 v5 e5 c (o0::tl)) 8 j=CD (AE (cellOf o0 j)))∧
 (∀(e:List AV) (f1 f2 f3:AI) (v0:Nat) (e0:List (List Tree)) (v4:Nat) (e4:List (List Tree)) (v5:Nat) (e5:List (List Tree)) (c:List AV) (o0 o1:AI) (tl:Heap),
  AD (e,AW f1 f2 f3 v0 e0 v4 e4 v5 e5 c (o0::o1::tl)) 9=AI.ver o1∧
  oEs (e,AW f1 f2 f3 v0 e0 v4 e4 v5 e5 c (o0::o1::tl)) 9=Bj o1)∧
 (∀(e:List AV) (f1 f2 f3:AI) (v0:Nat) (e0:List (List Tree)) (v4:Nat) (e4:List (List Tree)) (v5:Nat) (e5:List (List Tree)) (c:List AV) (o0 o1:AI) (tl:Heap) (j:Nat),
  cI (e,AW f1 f2 f3 v0 e0 v4 e4 v5 e5 c (o0::o1::tl)) 9 j=intOf (AE (cellOf o1 j))∧
  cB (e,AW f1 f2 f3 v0 e0 v4 e4 v5 e5 c (o0::o1::tl)) 9 j=BH (AE (cellOf o1 j))∧
  cS (e,AW f1 f2 f3 v0 e0 v4 e4 v5 e5 c (o0::o1::tl)) 9 j=strOf (AE (cellOf o1 j))∧
  cL (e,AW f1 f2 f3 v0 e0 v4 e4 v5 e5 c (o0::o1::tl)) 9 j=CD (AE (cellOf o1 j)))∧
 (∀(e:List AV) (f1 f2 f3:AI) (v0:Nat) (e0:List (List Tree)) (v4:Nat) (e4:List (List Tree)) (v5:Nat) (e5:List (List Tree)) (c:List AV) (o0 o1 o2:AI) (tl:Heap),
  AD (e,AW f1 f2 f3 v0 e0 v4 e4 v5 e5 c (o0::o1::o2::tl)) 10=AI.ver o2∧
  oEs (e,AW f1 f2 f3 v0 e0 v4 e4 v5 e5 c (o0::o1::o2::tl)) 10=Bj o2)∧
 (∀(e:List AV) (f1 f2 f3:AI) (v0:Nat) (e0:List (List Tree)) (v4:Nat) (e4:List (List Tree)) (v5:Nat) (e5:List (List Tree)) (c:List AV) (o0 o1 o2:AI) (tl:Heap) (j:Nat),
  cI (e,AW f1 f2 f3 v0 e0 v4 e4 v5 e5 c (o0::o1::o2::tl)) 10 j=intOf (AE (cellOf o2 j))∧
  cB (e,AW f1 f2 f3 v0 e0 v4 e4 v5 e5 c (o0::o1::o2::tl)) 10 j=BH (AE (cellOf o2 j))∧
  cS (e,AW f1 f2 f3 v0 e0 v4 e4 v5 e5 c (o0::o1::o2::tl)) 10 j=strOf (AE (cellOf o2 j))∧
  cL (e,AW f1 f2 f3 v0 e0 v4 e4 v5 e5 c (o0::o1::o2::tl)) 10 j=CD (AE (cellOf o2 j)))∧
 (∀(e:List AV) (f1 f2 f3:AI) (v0:Nat) (e0:List (List Tree)) (v4:Nat) (e4:List (List Tree)) (v5:Nat) (e5:List (List Tree)) (c:List AV) (o0 o1 o2 o3:AI) (tl:Heap),
  AD (e,AW f1 f2 f3 v0 e0 v4 e4 v5 e5 c (o0::o1::o2::o3::tl)) 11=AI.ver o3∧
  oEs (e,AW f1 f2 f3 v0 e0 v4 e4 v5 e5 c (o0::o1::o2::o3::tl)) 11=Bj o3)∧
 (∀(e:List AV) (f1 f2 f3:AI) (v0:Nat) (e0:List (List Tree)) (v4:Nat) (e4:List (List Tree)) (v5:Nat) (e5:List (List Tree)) (c:List AV) (o0 o1 o2 o3:AI) (tl:Heap) (j:Nat),
  cI (e,AW f1 f2 f3 v0 e0 v4 e4 v5 e5 c (o0::o1::o2::o3::tl)) 11 j=intOf (AE (cellOf o3 j))∧
  cB (e,AW f1 f2 f3 v0 e0 v4 e4 v5 e5 c (o0::o1::o2::o3::tl)) 11 j=BH (AE (cellOf o3 j))∧
  cS (e,AW f1 f2 f3 v0 e0 v4 e4 v5 e5 c (o0::o1::o2::o3::tl)) 11 j=strOf (AE (cellOf o3 j))∧
  cL (e,AW f1 f2 f3 v0 e0 v4 e4 v5 e5 c (o0::o1::o2::o3::tl)) 11 j=CD (AE (cellOf o3 j)))∧
 (∀(e:List AV) (f1 f2 f3:AI) (v0:Nat) (e0:List (List Tree)) (v4:Nat) (e4:List (List Tree)) (v5:Nat) (e5:List (List Tree)) (c:List AV) (o0 o1 o2 o3 o4:AI) (tl:Heap),
  AD (e,AW f1 f2 f3 v0 e0 v4 e4 v5 e5 c (o0::o1::o2::o3::o4::tl)) 12=AI.ver o4∧
  oEs (e,AW f1 f2 f3 v0 e0 v4 e4 v5 e5 c (o0::o1::o2::o3::o4::tl)) 12=Bj o4)∧
 (∀(e:List AV) (f1 f2 f3:AI) (v0:Nat) (e0:List (List Tree)) (v4:Nat) (e4:List (List Tree)) (v5:Nat) (e5:List (List Tree)) (c:List AV) (o0 o1 o2 o3 o4:AI) (tl:Heap) (j:Nat),
  cI (e,AW f1 f2 f3 v0 e0 v4 e4 v5 e5 c (o0::o1::o2::o3::o4::tl)) 12 j=intOf (AE (cellOf o4 j))∧
  cB (e,AW f1 f2 f3 v0 e0 v4 e4 v5 e5 c (o0::o1::o2::o3::o4::tl)) 12 j=BH (AE (cellOf o4 j))∧
  cS (e,AW f1 f2 f3 v0 e0 v4 e4 v5 e5 c (o0::o1::o2::o3::o4::tl)) 12 j=strOf (AE (cellOf o4 j))∧
  cL (e,AW f1 f2 f3 v0 e0 v4 e4 v5 e5 c (o0::o1::o2::o3::o4::tl)) 12 j=CD (AE (cellOf o4 j))):=by
 refine ⟨?_,?_,?_,?_,?_,?_,?_,?_,?_,?_,?_,?_⟩
 ·intros;exact ⟨rfl,rfl,rfl,rfl,rfl,rfl,rfl,rfl,rfl,rfl,rfl,rfl,rfl,rfl,rfl,rfl,rfl,rfl,rfl,rfl,rfl,rfl,rfl,rfl,rfl,rfl,rfl,rfl,rfl,rfl,rfl,rfl,rfl,rfl,rfl,rfl,rfl,rfl,rfl,rfl,rfl,rfl,rfl,rfl,rfl,rfl⟩
 ·intros;exact ⟨rfl,rfl,rfl,rfl,rfl,rfl,rfl,rfl,rfl,rfl,rfl,rfl⟩
 ·intros;exact ⟨rfl,rfl⟩
 ·intros;exact ⟨rfl,rfl,rfl,rfl⟩
 ·intros;exact ⟨rfl,rfl⟩
 ·intros;exact ⟨rfl,rfl,rfl,rfl⟩
 ·intros;exact ⟨rfl,rfl⟩
 ·intros;exact ⟨rfl,rfl,rfl,rfl⟩
 ·intros;exact ⟨rfl,rfl⟩
 ·intros;exact ⟨rfl,rfl,rfl,rfl⟩
 ·intros;exact ⟨rfl,rfl⟩
 ·intros;exact ⟨rfl,rfl,rfl,rfl⟩
variable (e:List AV) (g:Gh) (s:Ses) (f1 f2 f3:AI) (v0:Nat) (e0:List (List Tree)) (v4:Nat) (e4:List (List Tree)) (v5:Nat) (e5:List (List Tree))
theorem YB (tl:Heap):rh (e,AW f1 f2 f3 v0 e0 v4 e4 v5 e5 (Af g s) (tl)) 0 Bh=AW E0 E0 E0 v0 e0 v4 e4 v5 e5 (Af g s) []:=by intros;rfl
theorem YG (tl:Heap):rh (e,AW f1 f2 f3 v0 e0 v4 e4 v5 e5 (Af g s) (tl)) 0 B6=AW (.row true f1.ver 15 (Bj f1)) (.row true f2.ver 4 (Bj f2)) (.row true f3.ver 4 (Bj f3)) v0 e0 v4 e4 v5 e5 (Af g s) []:=by intros;rfl
theorem YC (o0 o1:AI) (tl:Heap):rh (e,AW f1 f2 f3 v0 e0 v4 e4 v5 e5 (Af g s) (o0::o1::tl)) 0 Dg=AW E0 E0 E0 v0 e0 v4 e4 v5 e5 (Af g s) [.box [.t (tI (intOf (AE (cellOf o0 0))))],.box [.t (.bool (BH (AE (cellOf o1 0))))]]:=by intros;rfl
theorem X9 (o0:AI) (tl:Heap):rh (e,AW f1 f2 f3 v0 e0 v4 e4 v5 e5 (Af g s) (o0::tl)) 0 QE=AW E0 E0 E0 v0 e0 v4 e4 v5 e5 (Af g s) [.box [.t (tI (intOf (AE (cellOf o0 0)))),.t (tI (intOf (AE (cellOf o0 1)))),.t (tI (intOf (AE (cellOf o0 2)))),.t (tI (intOf (AE (cellOf o0 3)))),.t (tI (intOf (AE (cellOf o0 4)))),.t (.bool (BH (AE (cellOf o0 5)))),.t (.str (strOf (AE (cellOf o0 6)))),.t (.sl 2 (CD (AE (cellOf o0 7))))]]:=by intros;rfl
theorem X7 (o0:AI) (tl:Heap):rh (e,AW f1 f2 f3 v0 e0 v4 e4 v5 e5 (Af g s) (o0::tl)) 0 Cb=AW E0 E0 E0 v0 e0 v4 e4 v5 e5 (Af g s) [.row false o0.ver 8 (Bj o0)]:=by intros;rfl
theorem VP (o0 o1:AI) (tl:Heap):rh (e,AW f1 f2 f3 v0 e0 v4 e4 v5 e5 (Af g s) (o0::o1::tl)) 0 L5=AW E0 E0 E0 v0 e0 v4 e4 v5 e5 (Af g s) [.row false o0.ver 8 (Bj o0),.box [.t (tI (intOf (AE (cellOf o1 0)))),.t (tI (intOf (AE (cellOf o1 1)))),.t (tI (intOf (AE (cellOf o1 2)))),.t (tI (intOf (AE (cellOf o1 3)))),.t (tI (intOf (AE (cellOf o1 4)))),.t (.bool (BH (AE (cellOf o1 5)))),.t (.str (strOf (AE (cellOf o1 6)))),.t (.sl 2 (CD (AE (cellOf o1 7))))]]:=by intros;rfl
theorem VO (o0 o1 o2:AI) (tl:Heap):rh (e,AW f1 f2 f3 v0 e0 v4 e4 v5 e5 (Af g s) (o0::o1::o2::tl)) 0 Jw=AW (.row true f1.ver 15 (Bj f1)) (.row true f2.ver 4 (Bj f2)) (.row true f3.ver 4 (Bj f3)) v0 e0 v4 e4 v5 e5 (Af g s) [.row false o0.ver 8 (Bj o0),.box [.t (tI (intOf (AE (cellOf o1 0)))),.t (tI (intOf (AE (cellOf o1 1)))),.t (.sl 2 (CD (AE (cellOf o1 2)))),.t (.str (strOf (AE (cellOf o1 3))))],.box [.t (tI (intOf (AE (cellOf o2 0)))),.t (tI (intOf (AE (cellOf o2 1)))),.t (tI (intOf (AE (cellOf o2 2)))),.t (tI (intOf (AE (cellOf o2 3)))),.t (tI (intOf (AE (cellOf o2 4)))),.t (.bool (BH (AE (cellOf o2 5)))),.t (.str (strOf (AE (cellOf o2 6)))),.t (.sl 2 (CD (AE (cellOf o2 7))))]]:=by intros;rfl
theorem VN (o0 o1 o2:AI) (tl:Heap):rh (e,AW f1 f2 f3 v0 e0 v4 e4 v5 e5 (Af g s) (o0::o1::o2::tl)) 0 Ca=AW E0 E0 E0 v0 e0 v4 e4 v5 e5 (Af g s) [.row false o0.ver 8 (Bj o0),.box [.t (tI (intOf (AE (cellOf o1 0)))),.t (tI (intOf (AE (cellOf o1 1)))),.t (.sl 2 (CD (AE (cellOf o1 2)))),.t (.str (strOf (AE (cellOf o1 3))))],.box [.t (tI (intOf (AE (cellOf o2 0)))),.t (tI (intOf (AE (cellOf o2 1)))),.t (tI (intOf (AE (cellOf o2 2)))),.t (tI (intOf (AE (cellOf o2 3)))),.t (tI (intOf (AE (cellOf o2 4)))),.t (.bool (BH (AE (cellOf o2 5)))),.t (.str (strOf (AE (cellOf o2 6)))),.t (.sl 2 (CD (AE (cellOf o2 7))))]]:=by intros;rfl
theorem VM (o0 o1 o2 o3:AI) (tl:Heap):rh (e,AW f1 f2 f3 v0 e0 v4 e4 v5 e5 (Af g s) (o0::o1::o2::o3::tl)) 0 L4=AW E0 E0 E0 v0 e0 v4 e4 v5 e5 (Af g s) [.row false o0.ver 8 (Bj o0),.box [.t (tI (intOf (AE (cellOf o1 0)))),.t (tI (intOf (AE (cellOf o1 1)))),.t (.sl 2 (CD (AE (cellOf o1 2)))),.t (.str (strOf (AE (cellOf o1 3))))],.box [.t (tI (intOf (AE (cellOf o2 0)))),.t (tI (intOf (AE (cellOf o2 1)))),.t (tI (intOf (AE (cellOf o2 2)))),.t (tI (intOf (AE (cellOf o2 3)))),.t (tI (intOf (AE (cellOf o2 4)))),.t (.bool (BH (AE (cellOf o2 5)))),.t (.str (strOf (AE (cellOf o2 6)))),.t (.sl 2 (CD (AE (cellOf o2 7))))],.box [.t (tI (intOf (AE (cellOf o3 0)))),.t (.sl 10 (CD (AE (cellOf o3 1)))),.t (tI (intOf (AE (cellOf o3 2)))),.t (tI (intOf (AE (cellOf o3 3))))]]:=by intros;rfl
theorem VL (o0 o1:AI) (tl:Heap):rh (e,AW f1 f2 f3 v0 e0 v4 e4 v5 e5 (Af g s) (o0::o1::tl)) 0 Oh=AW E0 E0 E0 v0 e0 v4 e4 v5 e5 (Af g s) [.row false o0.ver 8 (Bj o0),.box [.t (tI (intOf (AE (cellOf o1 0)))),.t (tI (intOf (AE (cellOf o1 1)))),.t (.sl 2 (CD (AE (cellOf o1 2)))),.t (.str (strOf (AE (cellOf o1 3))))]]:=by intros;rfl
theorem VK (o0:AI) (tl:Heap):rh (e,AW f1 f2 f3 v0 e0 v4 e4 v5 e5 (Af g s) (o0::tl)) 0 L3=AW E0 E0 E0 v0 e0 v4 e4 v5 e5 (Af g s) [.box [.t (tI (intOf (AE (cellOf o0 0)))),.t (.sl 10 (CD (AE (cellOf o0 1)))),.t (tI (intOf (AE (cellOf o0 2)))),.t (tI (intOf (AE (cellOf o0 3))))]]:=by intros;rfl
theorem X2 (x y:AI):upd (rh (e,AW f1 f2 f3 v0 e0 v4 e4 v5 e5 (Af g s) []) 0 Dg) [(8,x),(9,y)]=AW E0 E0 E0 v0 e0 v4 e4 v5 e5 (Af g s) [x,y]:=by intros;rfl
theorem X0 (x:AI):upd (rh (e,AW f1 f2 f3 v0 e0 v4 e4 v5 e5 (Af g s) []) 0 QE) [(8,x)]=AW E0 E0 E0 v0 e0 v4 e4 v5 e5 (Af g s) [x]:=by intros;rfl
theorem Xy (x:AI):upd (rh (e,AW f1 f2 f3 v0 e0 v4 e4 v5 e5 (Af g s) []) 0 Cb) [(8,x)]=AW E0 E0 E0 v0 e0 v4 e4 v5 e5 (Af g s) [x]:=by intros;rfl
theorem VH (o0:AI) (x y:AI):upd (rh (e,AW f1 f2 f3 v0 e0 v4 e4 v5 e5 (Af g s) [o0]) 0 L5) [(8,x),(9,y)]=AW E0 E0 E0 v0 e0 v4 e4 v5 e5 (Af g s) [x,y]:=by intros;rfl
theorem VE (o0:AI) (y:AI):upd (rh (e,AW f1 f2 f3 v0 e0 v4 e4 v5 e5 (Af g s) [o0]) 0 Oh) [(9,y)]=AW E0 E0 E0 v0 e0 v4 e4 v5 e5 (Af g s) [.row false o0.ver 8 (Bj o0),y]:=by intros;rfl
theorem VF (o0 o1 o2:AI) (y:AI):upd (rh (e,AW f1 f2 f3 v0 e0 v4 e4 v5 e5 (Af g s) [o0,o1,o2]) 0 L4) [(11,y)]=AW E0 E0 E0 v0 e0 v4 e4 v5 e5 (Af g s) [.row false o0.ver 8 (Bj o0),.box [.t (tI (intOf (AE (cellOf o1 0)))),.t (tI (intOf (AE (cellOf o1 1)))),.t (.sl 2 (CD (AE (cellOf o1 2)))),.t (.str (strOf (AE (cellOf o1 3))))],.box [.t (tI (intOf (AE (cellOf o2 0)))),.t (tI (intOf (AE (cellOf o2 1)))),.t (tI (intOf (AE (cellOf o2 2)))),.t (tI (intOf (AE (cellOf o2 3)))),.t (tI (intOf (AE (cellOf o2 4)))),.t (.bool (BH (AE (cellOf o2 5)))),.t (.str (strOf (AE (cellOf o2 6)))),.t (.sl 2 (CD (AE (cellOf o2 7))))],y]:=by intros;rfl
theorem VD (y:AI):upd (rh (e,AW f1 f2 f3 v0 e0 v4 e4 v5 e5 (Af g s) []) 0 L3) [(8,y)]=AW E0 E0 E0 v0 e0 v4 e4 v5 e5 (Af g s) [y]:=by intros;rfl
theorem VG (o0 o1 x y z w:AI):upd (rh (e,AW f1 f2 f3 v0 e0 v4 e4 v5 e5 (Af g s) [o0,o1]) 0 Jw) [(2,x),(3,y),(4,z),(10,w)]=AW x y z v0 e0 v4 e4 v5 e5 (Af g s) [.row false o0.ver 8 (Bj o0),.box [.t (tI (intOf (AE (cellOf o1 0)))),.t (tI (intOf (AE (cellOf o1 1)))),.t (.sl 2 (CD (AE (cellOf o1 2)))),.t (.str (strOf (AE (cellOf o1 3))))],w]:=by intros;rfl
theorem Rq (o0 y:AI) (d:List AV):upd (rh (e,AW f1 f2 f3 v0 e0 v4 e4 v5 e5 (Af g s) [o0]) 0 Oh) [(7,.box d),(9,y)]=AW E0 E0 E0 v0 e0 v4 e4 v5 e5 d [.row false o0.ver 8 (Bj o0),y]:=by intros;rfl
theorem RY (x y z:AI) (c:List AV) (tl:Heap):upd (AW f1 f2 f3 v0 e0 v4 e4 v5 e5 c tl) [(2,x),(3,y),(4,z)]=AW x y z v0 e0 v4 e4 v5 e5 c tl:=by intros;rfl
theorem O2 (x y z w o0 o1 o2:AI) (c:List AV) (tl:Heap):upd (AW f1 f2 f3 v0 e0 v4 e4 v5 e5 c (o0::o1::o2::tl)) [(2,x),(3,y),(4,z),(10,w)]=AW x y z v0 e0 v4 e4 v5 e5 c (o0::o1::w::tl):=by intros;rfl
theorem XS (d:List AV) (c:List AV) (tl:Heap):upd (AW f1 f2 f3 v0 e0 v4 e4 v5 e5 c tl) [(7,.box d)]=AW f1 f2 f3 v0 e0 v4 e4 v5 e5 d tl:=by intros;rfl
theorem Uq (d:List AV) (w:Nat) (r:List (List Tree)) (c:List AV) (tl:Heap):upd (AW f1 f2 f3 v0 e0 v4 e4 v5 e5 c tl) [(1,.row false w 9 r),(7,.box d)]=AW f1 f2 f3 w r v4 e4 v5 e5 d tl:=by intros;rfl
theorem Un (d:List AV) (w:Nat) (r:List (List Tree)) (c:List AV) (tl:Heap):upd (AW f1 f2 f3 v0 e0 v4 e4 v5 e5 c tl) [(5,.row false w 9 r),(7,.box d)]=AW f1 f2 f3 v0 e0 w r v5 e5 d tl:=by intros;rfl
theorem Ul (d:List AV) (w:Nat) (r:List (List Tree)) (c:List AV) (tl:Heap):upd (AW f1 f2 f3 v0 e0 v4 e4 v5 e5 c tl) [(6,.row false w 9 r),(7,.box d)]=AW f1 f2 f3 v0 e0 v4 e4 w r d tl:=by intros;rfl
theorem XQ (x o0:AI) (c:List AV) (tl:Heap):upd (AW f1 f2 f3 v0 e0 v4 e4 v5 e5 c (o0::tl)) [(8,x)]=AW f1 f2 f3 v0 e0 v4 e4 v5 e5 c (x::tl):=by intros;rfl
theorem Uh (x y o0 o1:AI) (c:List AV) (tl:Heap):upd (AW f1 f2 f3 v0 e0 v4 e4 v5 e5 c (o0::o1::tl)) [(8,x),(9,y)]=AW f1 f2 f3 v0 e0 v4 e4 v5 e5 c (x::y::tl):=by intros;rfl
theorem Uk (x o0:AI) (d:List AV) (c:List AV) (tl:Heap):upd (AW f1 f2 f3 v0 e0 v4 e4 v5 e5 c (o0::tl)) [(7,.box d),(8,x)]=AW f1 f2 f3 v0 e0 v4 e4 v5 e5 d (x::tl):=by intros;rfl
theorem Ui (x o0 o1:AI) (d:List AV) (c:List AV) (tl:Heap):upd (AW f1 f2 f3 v0 e0 v4 e4 v5 e5 c (o0::o1::tl)) [(7,.box d),(9,x)]=AW f1 f2 f3 v0 e0 v4 e4 v5 e5 d (o0::x::tl):=by intros;rfl
theorem YM (tl:Heap):rb (e,AW f1 f2 f3 v0 e0 v4 e4 v5 e5 (Af g s) tl) 7 0 BO=Af g s:=by intros;rfl
theorem XY (a b d:Int) (fs:List Frame):upd (Af g s) [(0,.t (tI a)),(1,.t (.sl 10 (fs.map Frame.enc))),(2,.t (tI b)),(3,.t (tI d))]=Af g {s with dat:=⟨a,fs,b,d⟩}:=by kernel_rfl
theorem XW (a b d:Int) (fs:List Frame):upd (Af g s) [(4,.t (tI a)),(5,.t (.sl 10 (fs.map Frame.enc))),(6,.t (tI b)),(7,.t (tI d))]=Af g {s with rep:=⟨a,fs,b,d⟩}:=by kernel_rfl
theorem XX (a:Int):upd (Af g s) [(15,.t (tI a))]=Af g {s with now:=a}:=by kernel_rfl
theorem Ut (a:Int):upd (Af g s) [(12,.t (tI a))]=Af g {s with dist:=a}:=by kernel_rfl
theorem XV (a:Snd):upd (Af g s) [(16,.t (tI a.c.frm)),(17,.t (tI a.c.dst)),(18,.t (tI a.c.start)),(19,.t (tI a.c.fin)),(20,.t (tI a.c.rate)),(21,.t (tI a.c.rng)),(22,.t (tI a.c.loss)),(23,.t (tI a.ses)),(24,.t (.str a.data)),(25,.t (tI a.fin)),(26,.t (tI a.busy)),(27,.t (tI a.ser)),(28,.t (.sl 2 (a.acked.map Span.enc))),(29,.t (tI a.due)),(30,.t (tI a.st))]=Af g {s with snd:=a}:=by kernel_rfl
theorem Us (a:Snd) (k:Bool) (t:Int):upd (Af g s) [(16,.t (tI a.c.frm)),(17,.t (tI a.c.dst)),(18,.t (tI a.c.start)),(19,.t (tI a.c.fin)),(20,.t (tI a.c.rate)),(21,.t (tI a.c.rng)),(22,.t (tI a.c.loss)),(23,.t (tI a.ses)),(24,.t (.str a.data)),(25,.t (tI a.fin)),(26,.t (tI a.busy)),(27,.t (tI a.ser)),(28,.t (.sl 2 (a.acked.map Span.enc))),(29,.t (tI a.due)),(30,.t (tI a.st)),(38,.t (.bool k)),(39,.t (tI t))]=Af g {s with snd:=a,kno:=k,knoAt:=t}:=by kernel_rfl
theorem XU (a:Rcv):upd (Af g s) [(31,.t (tI a.ses)),(32,.t (tI a.tot)),(33,.t (.sl 2 (a.known.map Span.enc))),(34,.t (.str a.data))]=Af g {s with rcv:=a}:=by kernel_rfl
theorem XZ (k:Bool) (t:Int):upd (Af g s) [(36,.t (.bool k)),(37,.t (tI t))]=Af g {s with rcvd:=k,arrive:=t}:=by kernel_rfl
theorem J0 (a:Snd) (w:Nat) (o:List Out):upd (Af g s) [(16,.t (tI a.c.frm)),(17,.t (tI a.c.dst)),(18,.t (tI a.c.start)),(19,.t (tI a.c.fin)),(20,.t (tI a.c.rate)),(21,.t (tI a.c.rng)),(22,.t (tI a.c.loss)),(23,.t (tI a.ses)),(24,.t (.str a.data)),(25,.t (tI a.fin)),(26,.t (tI a.busy)),(27,.t (tI a.ser)),(28,.t (.sl 2 (a.acked.map Span.enc))),(29,.t (tI a.due)),(30,.t (tI a.st)),(35,.sref 1 w 0 (s.pend.length+o.length))]=Af {g with v0:=w,pre:=[]} {s with snd:=a,pend:=s.pend++o}:=by rw [← length_append];kernel_rfl
theorem Ms (a:Snd) (w:Nat) (o:List Out) (k:Bool) (t:Int):upd (Af g s) [(16,.t (tI a.c.frm)),(17,.t (tI a.c.dst)),(18,.t (tI a.c.start)),(19,.t (tI a.c.fin)),(20,.t (tI a.c.rate)),(21,.t (tI a.c.rng)),(22,.t (tI a.c.loss)),(23,.t (tI a.ses)),(24,.t (.str a.data)),(25,.t (tI a.fin)),(26,.t (tI a.busy)),(27,.t (tI a.ser)),(28,.t (.sl 2 (a.acked.map Span.enc))),(29,.t (tI a.due)),(30,.t (tI a.st)),(35,.sref 1 w 0 (s.pend.length+o.length)),(38,.t (.bool k)),(39,.t (tI t))]=Af {g with v0:=w,pre:=[]} {s with snd:=a,pend:=s.pend++o,kno:=k,knoAt:=t}:=by rw [← length_append];kernel_rfl
theorem ucP_26 (x:Out) (l:List Out) (hp:s.pend=x::l):upd (Af g s) [(35,.sref 1 g.v0 (g.pre.length+1) (s.pend.length-1))]=Af {g with pre:=g.pre++[x.enc]} {s with pend:=l}:=by rw [show s.pend.length-1=l.length by rw [hp];rfl,show g.pre.length+1=(g.pre++[x.enc]).length by simp];kernel_rfl
theorem J2 (a b d:Int) (fs:List Frame) (e:Int) (w:Nat) (x:Out):upd (Af g s) [(0,.t (tI a)),(1,.t (.sl 10 (fs.map Frame.enc))),(2,.t (tI b)),(3,.t (tI d)),(11,.t (tI e)),(13,.sref 5 w 0 (s.sent.length+1))]=Af {g with v4:=w} {s with dat:=⟨a,fs,b,d⟩,entered:=e,sent:=s.sent++[x]}:=by rw [show s.sent.length+1=(s.sent++[x]).length by simp];kernel_rfl
theorem Mc (a b d:Int) (fs:List Frame) (e u:Int) (w:Nat) (x:Out):upd (Af g s) [(0,.t (tI a)),(1,.t (.sl 10 (fs.map Frame.enc))),(2,.t (tI b)),(3,.t (tI d)),(11,.t (tI e)),(12,.t (tI u)),(13,.sref 5 w 0 (s.sent.length+1))]=Af {g with v4:=w} {s with dat:=⟨a,fs,b,d⟩,entered:=e,dist:=u,sent:=s.sent++[x]}:=by rw [show s.sent.length+1=(s.sent++[x]).length by simp];kernel_rfl
theorem J1 (a b d:Int) (fs:List Frame) (e:Int) (w:Nat) (x:Out):upd (Af g s) [(4,.t (tI a)),(5,.t (.sl 10 (fs.map Frame.enc))),(6,.t (tI b)),(7,.t (tI d)),(11,.t (tI e)),(14,.sref 6 w 0 (s.told.length+1))]=Af {g with v5:=w} {s with rep:=⟨a,fs,b,d⟩,entered:=e,told:=s.told++[x]}:=by rw [show s.told.length+1=(s.told++[x]).length by simp];kernel_rfl
theorem Mb (a b d:Int) (fs:List Frame) (e u:Int) (w:Nat) (x:Out):upd (Af g s) [(4,.t (tI a)),(5,.t (.sl 10 (fs.map Frame.enc))),(6,.t (tI b)),(7,.t (tI d)),(11,.t (tI e)),(12,.t (tI u)),(14,.sref 6 w 0 (s.told.length+1))]=Af {g with v5:=w} {s with rep:=⟨a,fs,b,d⟩,entered:=e,dist:=u,told:=s.told++[x]}:=by rw [show s.told.length+1=(s.told++[x]).length by simp];kernel_rfl
theorem BJ:type_of% (And.intro @rd26 (And.intro @YB (And.intro @YG (And.intro @YC (And.intro @X9 (And.intro @X7 (And.intro @VP (And.intro @VO (And.intro @VN (And.intro @VM (And.intro @VL (And.intro @VK (And.intro @X2 (And.intro @X0 (And.intro @Xy (And.intro @VH (And.intro @VE (And.intro @VF (And.intro @VD (And.intro @VG (And.intro @Rq (And.intro @RY (And.intro @O2 (And.intro @XS (And.intro @Uq (And.intro @Un (And.intro @Ul (And.intro @XQ (And.intro @Uh (And.intro @Uk (And.intro @Ui (And.intro @YM (And.intro @XY (And.intro @XW (And.intro @XX (And.intro @Ut (And.intro @XV (And.intro @Us (And.intro @XU (And.intro @XZ (And.intro @J0 @Ms))))))))))))))))))))))))))))))))))))))))):=(And.intro @rd26 (And.intro @YB (And.intro @YG (And.intro @YC (And.intro @X9 (And.intro @X7 (And.intro @VP (And.intro @VO (And.intro @VN (And.intro @VM (And.intro @VL (And.intro @VK (And.intro @X2 (And.intro @X0 (And.intro @Xy (And.intro @VH (And.intro @VE (And.intro @VF (And.intro @VD (And.intro @VG (And.intro @Rq (And.intro @RY (And.intro @O2 (And.intro @XS (And.intro @Uq (And.intro @Un (And.intro @Ul (And.intro @XQ (And.intro @Uh (And.intro @Uk (And.intro @Ui (And.intro @YM (And.intro @XY (And.intro @XW (And.intro @XX (And.intro @Ut (And.intro @XV (And.intro @Us (And.intro @XU (And.intro @XZ (And.intro @J0 @Ms)))))))))))))))))))))))))))))))))))))))))
end Ab
set_option linter.unusedVariables false
set_option linter.unusedSimpArgs false
set_option maxRecDepth 100000
namespace Ab
open Go
theorem entD_26 (g:Gh) (s:Ses) (x:Seg) (f1 f2 f3:AI) (hc:EOk s s.dat) :
  Ev fun n=>∀again,Zv n (fI C n) again ([.ptr 7 0,.ptr 7 0,.t (tI 0),.t (tI s.now),.agg (DR x)],H26 f1 f2 f3 g s [])=again ([],H26 E0 E0 E0 {g with v4:=g.v4+1} (EX s x) []):=by
 have q1:¬(10000:Int)≤s.entered:=by have:=hc.ent;omega
 have q2:w64 (s.entered+1)=s.entered+1:=by have:=hc.ent;exact AP (by omega) (by omega)
 have q3:w64 (s.dist+1)=s.dist+1:=by have:=hc.dst;exact AP (by omega) (by omega)
 have q4:s.sent.length+1≤1073741824:=by have:=hc.sl;omega
 have q5:take s.sent.length (List.map Out.enc s.sent)=List.map Out.enc s.sent:=take_of_length_le (by simp);have key:=fun (ds:List Int) (hd:∀d∈ds,s.dat.rng≤d∧d≤2*s.dat.rng) (hl:ds.length≤2)=>s156 s.dat hc.gc s.now x hc.now ds hd (by have:=hc.len;omega);have kR:∀d∈[s.dat.rng],s.dat.rng≤d∧d≤2*s.dat.rng:=by have:=hc.gc.rng;simp;omega
 simp only [BL.enc,cons_append,nil_append] at key;by_cases h0:LZ s.dark s.now=true
 ·rw [E3 s x [] s.dist (by simp [DD,h0])];refine ((Ol s.dark s.now).and (key [] (by simp) (by simp))).mono fun n h again => ?_;obtain ⟨h1,h2⟩:=h;simp only [map_nil] at h2;simp only [H26,Ga,IM,DR,BJ,vv2,vf,reduceCtorEq,reduceAdd,reduceEqDiff,h1,h0,h2,AR,AF,q1,q2,q3,q4,q5,bne_self_eq_false,le_refl,J2 (x:=⟨s.now,x⟩),map_append,map_cons,map_nil,Out.enc]
 ·have h0:LZ s.dark s.now=false:=by simpa using h0
  by_cases h5:s.picks=[]
  ·rw [E3 s x [s.dat.rng] s.dist (by simp [DD,h0,h5])];refine ((Ol s.dark s.now).and (key [s.dat.rng] kR (by simp))).mono fun n h again => ?_;obtain ⟨h1,h2⟩:=h;simp only [map_cons,map_nil,Az] at h2;have h5':(s.picks.length:Int)=0:=by simp [h5]
   simp only [H26,Ga,IM,DR,BJ,vv2,vf,reduceCtorEq,reduceAdd,reduceEqDiff,h1,h0,h2,h5',beq_self_eq_true,AR,AF,q1,q2,q3,q4,q5,bne_self_eq_false,le_refl,J2 (x:=⟨s.now,x⟩),map_append,map_cons,map_nil,Out.enc]
  ·have hpos:=length_pos_iff.2 h5;have h6:¬(s.picks.length:Int)=0:=by omega
   have h6':((s.picks.length:Int)==0)=false:=by simpa using h6
   have hm1:=emod_nonneg s.entered h6;have hm2:=emod_lt_of_pos s.entered (show (0:Int)<s.picks.length by omega);have hm:tmod s.entered s.picks.length=s.entered % s.picks.length:=Int.tmod_eq_emod_of_nonneg hc.ent.1;obtain ⟨p,hp⟩:∃p,s.picks[(s.entered % s.picks.length).toNat]? = some p:=⟨_,getElem?_eq_getElem (by omega)⟩
   have hg:s.picks.getD (s.entered % s.picks.length).toNat 0=p:=by rw [getD_eq_getElem?_getD,hp];rfl
   have hpk:=hc.pk p (mem_of_getElem? hp);have hrg:=hc.gc.rng;have k176:=s176 p s.dat.rng hpk hrg;have kf:=key (BP p s.dat.rng) (fun d hd=>GR hrg.1 hd) (GS _ _);have kr:=key [s.dat.rng] kR (by simp);have c1:∀z:Int×List (List Tree),True:=fun _=>trivial;by_cases h7:(BP p s.dat.rng).head? = some s.dat.rng
   ·rw [E3 s x (BP p s.dat.rng) s.dist (by simp only [DD,h0,h5,hg,h7,if_true,if_false,false_eq_true])];obtain ⟨l,hl⟩:∃l,BP p s.dat.rng=s.dat.rng::l:=by
     cases hf:BP p s.dat.rng with
     |nil=>rw [hf] at h7;cases h7
     |cons a l=>rw [hf] at h7;cases h7;exact ⟨l,rfl⟩
    rw [hl] at kf k176 ⊢;refine ((Ol s.dark s.now).and (k176.and kf)).mono fun n h again => ?_;obtain ⟨h1,h2,h3⟩:=h;simp only [map_cons,Az] at h2 h3;simp only [H26,Ga,IM,Dq,IT,Dq,IS,DR,BJ,vv2,vf,reduceCtorEq,reduceAdd,reduceEqDiff,h1,h0,h2,h3,h6,h6',hm,hm1,hp,map_cons,Az,getElem?_cons_zero,(show (0:Int)<((l.length+1:Nat):Int) by omega),beq_self_eq_true,AR,AF,q1,q2,q3,q4,q5,bne_self_eq_false,le_refl,J2 (x:=⟨s.now,x⟩),map_append,map_nil,Out.enc]
   ·have h8:∀y:Int,((BP p s.dat.rng).map Az)[0]? = some [tI y]→(y==s.dat.rng)=false:=by
     intro y hy;cases hf:BP p s.dat.rng with
     |nil=>rw [hf] at hy;cases hy
     |cons a l=>
      rw [hf] at hy h7;cases hy;simp at h7;simpa using h7
    have k8:(BP p s.dat.rng).length=0∨∃y,0<(BP p s.dat.rng).length∧((BP p s.dat.rng).map Az)[0]? = some [tI y]∧(y==s.dat.rng)=false:=by
     cases hf:BP p s.dat.rng with
     |nil=>exact .inl rfl
     |cons a l=>exact .inr ⟨a,by simp,rfl,h8 a (by rw [hf];rfl)⟩
    by_cases h9:0≤s.limit∧s.limit≤s.dist
    ·rw [E3 s x [s.dat.rng] s.dist (by simp only [DD,h0,h5,hg,h7,h9,if_true,if_false,false_eq_true,and_self])];refine ((Ol s.dark s.now).and (k176.and kr)).mono fun n h again => ?_;obtain ⟨h1,h2,h3⟩:=h;simp only [map_cons,map_nil,Az] at h3;rcases k8 with k8|⟨y,k8,k9,k10⟩
     ·simp only [H26,Ga,IM,Dq,IT,Dq,IS,DR,BJ,vv2,vf,reduceCtorEq,reduceAdd,reduceEqDiff,h1,h0,h2,h3,h6,h6',hm,hm1,hp,map_cons,Az,k8,natCast_zero,lt_irrefl,h9,beq_self_eq_true,AR,AF,q1,q2,q3,q4,q5,bne_self_eq_false,le_refl,J2 (x:=⟨s.now,x⟩),map_append,map_nil,Out.enc]
     ·simp only [H26,Ga,IM,Dq,IT,Dq,IS,DR,BJ,vv2,vf,reduceCtorEq,reduceAdd,reduceEqDiff,h1,h0,h2,h3,h6,h6',hm,hm1,hp,map_cons,Az,(show (0:Int)<((BP p s.dat.rng).length:Int) by omega),k9,k10,h9,beq_self_eq_true,AR,AF,q1,q2,q3,q4,q5,bne_self_eq_false,le_refl,J2 (x:=⟨s.now,x⟩),map_append,map_nil,Out.enc]
    ·rw [E3 s x (BP p s.dat.rng) (s.dist+1) (by simp only [DD,h0,h5,hg,h7,h9,if_true,if_false,false_eq_true,and_self])];refine ((Ol s.dark s.now).and (k176.and kf)).mono fun n h again => ?_;obtain ⟨h1,h2,h3⟩:=h;have h9':(0≤s.limit→¬s.limit≤s.dist):=fun a b=>h9 ⟨a,b⟩;by_cases h10:0≤s.limit
     ·have h11:=h9' h10;rcases k8 with k8|⟨y,k8,k9,k10⟩
      ·simp only [H26,Ga,IM,Dq,IT,Dq,IS,DR,BJ,vv2,vf,reduceCtorEq,reduceAdd,reduceEqDiff,h1,h0,h2,h3,h6,h6',hm,hm1,hp,map_cons,Az,k8,natCast_zero,lt_irrefl,h10,h11,beq_self_eq_true,AR,AF,q1,q2,q3,q4,q5,bne_self_eq_false,le_refl,Mc (x:=⟨s.now,x⟩),map_append,map_nil,Out.enc]
      ·simp only [H26,Ga,IM,Dq,IT,Dq,IS,DR,BJ,vv2,vf,reduceCtorEq,reduceAdd,reduceEqDiff,h1,h0,h2,h3,h6,h6',hm,hm1,hp,map_cons,Az,(show (0:Int)<((BP p s.dat.rng).length:Int) by omega),k9,k10,h10,h11,beq_self_eq_true,AR,AF,q1,q2,q3,q4,q5,bne_self_eq_false,le_refl,Mc (x:=⟨s.now,x⟩),map_append,map_nil,Out.enc]
     ·rcases k8 with k8|⟨y,k8,k9,k10⟩
      ·simp only [H26,Ga,IM,Dq,IT,Dq,IS,DR,BJ,vv2,vf,reduceCtorEq,reduceAdd,reduceEqDiff,h1,h0,h2,h3,h6,h6',hm,hm1,hp,map_cons,Az,k8,natCast_zero,lt_irrefl,h10,beq_self_eq_true,AR,AF,q1,q2,q3,q4,q5,bne_self_eq_false,le_refl,Mc (x:=⟨s.now,x⟩),map_append,map_nil,Out.enc]
      ·simp only [H26,Ga,IM,Dq,IT,Dq,IS,DR,BJ,vv2,vf,reduceCtorEq,reduceAdd,reduceEqDiff,h1,h0,h2,h3,h6,h6',hm,hm1,hp,map_cons,Az,(show (0:Int)<((BP p s.dat.rng).length:Int) by omega),k9,k10,h10,beq_self_eq_true,AR,AF,q1,q2,q3,q4,q5,bne_self_eq_false,le_refl,Mc (x:=⟨s.now,x⟩),map_append,map_nil,Out.enc]
theorem entR_26 (g:Gh) (s:Ses) (x:Seg) (f1 f2 f3:AI) (hc:EOk s s.rep) (v8:Nat) (e8:List (List Tree)) (a b:Int) (ks:List (List Tree)) (bd:ByteArray) (y:Seg) :
  Ev fun n=>∀again,Zx n (fI C n) again ([.ptr 7 0,.ptr 7 4,.t (tI 1),.t (tI s.now),.agg (DR x)],H26 f1 f2 f3 g s [.row false v8 8 e8,.box [.t (tI a),.t (tI b),.t (.sl 2 ks),.t (.str bd)],.box (DR y)])=again ([],H26 E0 E0 E0 {g with v5:=g.v5+1} (CQ s x) [.row false v8 8 e8,.box [.t (tI a),.t (tI b),.t (.sl 2 ks),.t (.str bd)],.box (DR y)]):=by
 have q1:¬(10000:Int)≤s.entered:=by have:=hc.ent;omega
 have q2:w64 (s.entered+1)=s.entered+1:=by have:=hc.ent;exact AP (by omega) (by omega)
 have q3:w64 (s.dist+1)=s.dist+1:=by have:=hc.dst;exact AP (by omega) (by omega)
 have q4:s.told.length+1≤1073741824:=by have:=hc.sl;omega
 have q5:take s.told.length (List.map Out.enc s.told)=List.map Out.enc s.told:=take_of_length_le (by simp);have key:=fun (ds:List Int) (hd:∀d∈ds,s.rep.rng≤d∧d≤2*s.rep.rng) (hl:ds.length≤2)=>s156 s.rep hc.gc s.now x hc.now ds hd (by have:=hc.len;omega);have kR:∀d∈[s.rep.rng],s.rep.rng≤d∧d≤2*s.rep.rng:=by have:=hc.gc.rng;simp;omega
 simp only [BL.enc,cons_append,nil_append] at key;by_cases h0:LZ s.dark s.now=true
 ·rw [E2 s x [] s.dist (by simp [DD,h0])];refine ((Ol s.dark s.now).and (key [] (by simp) (by simp))).mono fun n h again => ?_;obtain ⟨h1,h2⟩:=h;simp only [map_nil] at h2;simp only [H26,Gb,IN,DR,BJ,vv2,vf,reduceCtorEq,reduceAdd,reduceEqDiff,h1,h0,h2,AR,AF,q1,q2,q3,q4,q5,bne_self_eq_false,le_refl,J1 (x:=⟨s.now,x⟩),map_append,map_cons,map_nil,Out.enc]
 ·have h0:LZ s.dark s.now=false:=by simpa using h0
  by_cases h5:s.picks=[]
  ·rw [E2 s x [s.rep.rng] s.dist (by simp [DD,h0,h5])];refine ((Ol s.dark s.now).and (key [s.rep.rng] kR (by simp))).mono fun n h again => ?_;obtain ⟨h1,h2⟩:=h;simp only [map_cons,map_nil,Az] at h2;have h5':(s.picks.length:Int)=0:=by simp [h5]
   simp only [H26,Gb,IN,DR,BJ,vv2,vf,reduceCtorEq,reduceAdd,reduceEqDiff,h1,h0,h2,h5',beq_self_eq_true,AR,AF,q1,q2,q3,q4,q5,bne_self_eq_false,le_refl,J1 (x:=⟨s.now,x⟩),map_append,map_cons,map_nil,Out.enc]
  ·have hpos:=length_pos_iff.2 h5;have h6:¬(s.picks.length:Int)=0:=by omega
   have h6':((s.picks.length:Int)==0)=false:=by simpa using h6
   have hm1:=emod_nonneg s.entered h6;have hm2:=emod_lt_of_pos s.entered (show (0:Int)<s.picks.length by omega);have hm:tmod s.entered s.picks.length=s.entered % s.picks.length:=Int.tmod_eq_emod_of_nonneg hc.ent.1;obtain ⟨p,hp⟩:∃p,s.picks[(s.entered % s.picks.length).toNat]? = some p:=⟨_,getElem?_eq_getElem (by omega)⟩
   have hg:s.picks.getD (s.entered % s.picks.length).toNat 0=p:=by rw [getD_eq_getElem?_getD,hp];rfl
   have hpk:=hc.pk p (mem_of_getElem? hp);have hrg:=hc.gc.rng;have k176:=s176 p s.rep.rng hpk hrg;have kf:=key (BP p s.rep.rng) (fun d hd=>GR hrg.1 hd) (GS _ _);have kr:=key [s.rep.rng] kR (by simp);have c1:∀z:Int×List (List Tree),True:=fun _=>trivial;by_cases h7:(BP p s.rep.rng).head? = some s.rep.rng
   ·rw [E2 s x (BP p s.rep.rng) s.dist (by simp only [DD,h0,h5,hg,h7,if_true,if_false,false_eq_true])];obtain ⟨l,hl⟩:∃l,BP p s.rep.rng=s.rep.rng::l:=by
     cases hf:BP p s.rep.rng with
     |nil=>rw [hf] at h7;cases h7
     |cons a l=>rw [hf] at h7;cases h7;exact ⟨l,rfl⟩
    rw [hl] at kf k176 ⊢;refine ((Ol s.dark s.now).and (k176.and kf)).mono fun n h again => ?_;obtain ⟨h1,h2,h3⟩:=h;simp only [map_cons,Az] at h2 h3;simp only [H26,Gb,IN,Dr,IV,Dr,IU,DR,BJ,vv2,vf,reduceCtorEq,reduceAdd,reduceEqDiff,h1,h0,h2,h3,h6,h6',hm,hm1,hp,map_cons,Az,getElem?_cons_zero,(show (0:Int)<((l.length+1:Nat):Int) by omega),beq_self_eq_true,AR,AF,q1,q2,q3,q4,q5,bne_self_eq_false,le_refl,J1 (x:=⟨s.now,x⟩),map_append,map_nil,Out.enc]
   ·have h8:∀y:Int,((BP p s.rep.rng).map Az)[0]? = some [tI y]→(y==s.rep.rng)=false:=by
     intro y hy;cases hf:BP p s.rep.rng with
     |nil=>rw [hf] at hy;cases hy
     |cons a l=>
      rw [hf] at hy h7;cases hy;simp at h7;simpa using h7
    have k8:(BP p s.rep.rng).length=0∨∃y,0<(BP p s.rep.rng).length∧((BP p s.rep.rng).map Az)[0]? = some [tI y]∧(y==s.rep.rng)=false:=by
     cases hf:BP p s.rep.rng with
     |nil=>exact .inl rfl
     |cons a l=>exact .inr ⟨a,by simp,rfl,h8 a (by rw [hf];rfl)⟩
    by_cases h9:0≤s.limit∧s.limit≤s.dist
    ·rw [E2 s x [s.rep.rng] s.dist (by simp only [DD,h0,h5,hg,h7,h9,if_true,if_false,false_eq_true,and_self])];refine ((Ol s.dark s.now).and (k176.and kr)).mono fun n h again => ?_;obtain ⟨h1,h2,h3⟩:=h;simp only [map_cons,map_nil,Az] at h3;rcases k8 with k8|⟨y,k8,k9,k10⟩
     ·simp only [H26,Gb,IN,Dr,IV,Dr,IU,DR,BJ,vv2,vf,reduceCtorEq,reduceAdd,reduceEqDiff,h1,h0,h2,h3,h6,h6',hm,hm1,hp,map_cons,Az,k8,natCast_zero,lt_irrefl,h9,beq_self_eq_true,AR,AF,q1,q2,q3,q4,q5,bne_self_eq_false,le_refl,J1 (x:=⟨s.now,x⟩),map_append,map_nil,Out.enc]
     ·simp only [H26,Gb,IN,Dr,IV,Dr,IU,DR,BJ,vv2,vf,reduceCtorEq,reduceAdd,reduceEqDiff,h1,h0,h2,h3,h6,h6',hm,hm1,hp,map_cons,Az,(show (0:Int)<((BP p s.rep.rng).length:Int) by omega),k9,k10,h9,beq_self_eq_true,AR,AF,q1,q2,q3,q4,q5,bne_self_eq_false,le_refl,J1 (x:=⟨s.now,x⟩),map_append,map_nil,Out.enc]
    ·rw [E2 s x (BP p s.rep.rng) (s.dist+1) (by simp only [DD,h0,h5,hg,h7,h9,if_true,if_false,false_eq_true,and_self])];refine ((Ol s.dark s.now).and (k176.and kf)).mono fun n h again => ?_;obtain ⟨h1,h2,h3⟩:=h;have h9':(0≤s.limit→¬s.limit≤s.dist):=fun a b=>h9 ⟨a,b⟩;by_cases h10:0≤s.limit
     ·have h11:=h9' h10;rcases k8 with k8|⟨y,k8,k9,k10⟩
      ·simp only [H26,Gb,IN,Dr,IV,Dr,IU,DR,BJ,vv2,vf,reduceCtorEq,reduceAdd,reduceEqDiff,h1,h0,h2,h3,h6,h6',hm,hm1,hp,map_cons,Az,k8,natCast_zero,lt_irrefl,h10,h11,beq_self_eq_true,AR,AF,q1,q2,q3,q4,q5,bne_self_eq_false,le_refl,Mb (x:=⟨s.now,x⟩),map_append,map_nil,Out.enc]
      ·simp only [H26,Gb,IN,Dr,IV,Dr,IU,DR,BJ,vv2,vf,reduceCtorEq,reduceAdd,reduceEqDiff,h1,h0,h2,h3,h6,h6',hm,hm1,hp,map_cons,Az,(show (0:Int)<((BP p s.rep.rng).length:Int) by omega),k9,k10,h10,h11,beq_self_eq_true,AR,AF,q1,q2,q3,q4,q5,bne_self_eq_false,le_refl,Mb (x:=⟨s.now,x⟩),map_append,map_nil,Out.enc]
     ·rcases k8 with k8|⟨y,k8,k9,k10⟩
      ·simp only [H26,Gb,IN,Dr,IV,Dr,IU,DR,BJ,vv2,vf,reduceCtorEq,reduceAdd,reduceEqDiff,h1,h0,h2,h3,h6,h6',hm,hm1,hp,map_cons,Az,k8,natCast_zero,lt_irrefl,h10,beq_self_eq_true,AR,AF,q1,q2,q3,q4,q5,bne_self_eq_false,le_refl,Mb (x:=⟨s.now,x⟩),map_append,map_nil,Out.enc]
      ·simp only [H26,Gb,IN,Dr,IV,Dr,IU,DR,BJ,vv2,vf,reduceCtorEq,reduceAdd,reduceEqDiff,h1,h0,h2,h3,h6,h6',hm,hm1,hp,map_cons,Az,(show (0:Int)<((BP p s.rep.rng).length:Int) by omega),k9,k10,h10,beq_self_eq_true,AR,AF,q1,q2,q3,q4,q5,bne_self_eq_false,le_refl,Mb (x:=⟨s.now,x⟩),map_append,map_nil,Out.enc]
end Ab
set_option linter.unusedVariables false
set_option linter.unusedSimpArgs false
set_option maxRecDepth 100000
namespace Ab
open Go
theorem nx2_26 (n:Nat) (again:List AV×Heap→Option (List Tree)) (g:Gh) (s:Ses) (e:List AV) (o:Option Int) :
  Zg n (fI C n) again (e,H26 E0 E0 E0 g s (boO o))=again (DT o,H26 E0 E0 E0 g s []):=by
 cases o<;>simp only [Zg,boO,DT,H26,BJ,vv2,vf,reduceCtorEq,reduceAdd,reduceEqDiff,getD_none,Option.getD_some,isSome_none,isSome_some]
theorem nx3_26 (n:Nat) (again:List AV×Heap→Option (List Tree)) (g:Gh) (s:Ses) (e:List AV) (o:Option Int) (tl:Heap) (w:Bool) :
  OZ n (fI C n) (e,H26 E0 E0 E0 g s tl) again ([.t (.bool w)],H26 E0 E0 E0 g s (boO o))=again (DT (C5 o (if w=true then some s.snd.due else none)),H26 E0 E0 E0 g s []):=by
 have k:=nx2_26 n again g s [];cases w
 ·cases o with
  |none=>
   have k:=k none;simp only [boO,getD_none,isSome_none,H26] at k;simp only [OZ,boO,H26,BJ,vv2,vf,reduceCtorEq,reduceAdd,reduceEqDiff,getD_none,Option.getD_some,isSome_none,isSome_some,AR,k,C5]
  |some a=>
   have k:=k (some a);simp only [boO,Option.getD_some,isSome_some,H26] at k;simp only [OZ,boO,H26,BJ,vv2,vf,reduceCtorEq,reduceAdd,reduceEqDiff,getD_none,Option.getD_some,isSome_none,isSome_some,AR,k,C5]
 ·cases o with
  |none=>
   have k:=k (some s.snd.due);simp only [boO,Option.getD_some,isSome_some,H26] at k;simp only [OZ,boO,H26,BJ,vv2,vf,reduceCtorEq,reduceAdd,reduceEqDiff,getD_none,Option.getD_some,isSome_none,isSome_some,AR,k,C5]
  |some a=>
   by_cases hq:s.snd.due<a
   ·have k:=k (some s.snd.due);simp only [boO,Option.getD_some,isSome_some,H26] at k;simp only [OZ,boO,H26,BJ,vv2,vf,reduceCtorEq,reduceAdd,reduceEqDiff,getD_none,Option.getD_some,isSome_none,isSome_some,AR,k,C5,hq]
   ·have k:=k (some a);simp only [boO,Option.getD_some,isSome_some,H26] at k;simp only [OZ,boO,H26,BJ,vv2,vf,reduceCtorEq,reduceAdd,reduceEqDiff,getD_none,Option.getD_some,isSome_none,isSome_some,AR,k,C5,hq]
theorem nx4_26 (n:Nat) (again:List AV×Heap→Option (List Tree)) (g:Gh) (s:Ses) (e:List AV) (o:Option Int) (he:s.entered<10000) :
  WC n (fI C n) again (e,H26 E0 E0 E0 g s (boO o))=again (DT (C5 o (if s.snd.st=1 then some s.snd.due else none)),H26 E0 E0 E0 g s []):=by
 have q:¬(10000:Int)≤s.entered:=by omega
 have k:=nx3_26 n again g s e o (boO o);by_cases h:s.snd.st=1
 ·have k:=k true;simp only [boO,H26] at k;simp only [WC,boO,H26,BJ,vv2,vf,reduceCtorEq,reduceAdd,reduceEqDiff,h,beq_self_eq_true,q,k]
 ·have k:=k false;have h':(s.snd.st==1)=false:=by simpa using h
  simp only [boO,H26] at k;simp only [WC,boO,H26,BJ,vv2,vf,reduceCtorEq,reduceAdd,reduceEqDiff,h,h',k]
theorem nx5_26 (g:Gh) (s:Ses) (e:List AV) (o:Option Int) (he:s.entered<10000) (hr:Bs s.rep) :
  Ev fun n=>∀again,QD n (fI C n) again (e,H26 E0 E0 E0 g s (boO o))=again (DT (C5 (C5 o (A0 s.rep)) (if s.snd.st=1 then some s.snd.due else none)),H26 E0 E0 E0 g s []):=by
 refine (Hn s.rep hr).mono fun n h again => ?_;have k:=fun o=>nx4_26 n again g s [] o he;simp only [BL.enc] at h;cases hn:A0 s.rep with
 |none=>
  have k:=k o;rw [hn] at h;simp only [DX] at h;simp only [boO,H26] at k;simp only [QD,boO,H26,BJ,vv2,vf,reduceCtorEq,reduceAdd,reduceEqDiff,h,k];cases o<;>rfl
 |some a=>
  rw [hn] at h;simp only [DX] at h;cases o with
  |none=>
   have k:=k (some a);simp only [boO,H26,Option.getD_some,isSome_some] at k;simp only [QD,boO,H26,BJ,vv2,vf,reduceCtorEq,reduceAdd,reduceEqDiff,getD_none,isSome_none,h,k,C5]
  |some b=>
   by_cases hq:a<b
   ·have k:=k (some a);simp only [boO,H26,Option.getD_some,isSome_some] at k;simp only [QD,boO,H26,BJ,vv2,vf,reduceCtorEq,reduceAdd,reduceEqDiff,Option.getD_some,isSome_some,h,k,C5,hq]
   ·have k:=k (some b);simp only [boO,H26,Option.getD_some,isSome_some] at k;simp only [QD,boO,H26,BJ,vv2,vf,reduceCtorEq,reduceAdd,reduceEqDiff,Option.getD_some,isSome_some,h,k,C5,hq]
theorem nx6_26 (g:Gh) (s:Ses) (e:List AV) (o:Option Int) (he:s.entered<10000) (hd:Bs s.dat) (hr:Bs s.rep) :
  Ev fun n=>∀again,P9 n (fI C n) again (e,H26 E0 E0 E0 g s (boO o))=again (DT (C5 (C5 (C5 o (A0 s.dat)) (A0 s.rep)) (if s.snd.st=1 then some s.snd.due else none)),H26 E0 E0 E0 g s []):=by
 have key:=fun o=>nx5_26 g s [] o he hr;cases hn:A0 s.dat with
 |none=>
  refine ((Hn s.dat hd).and (key o)).mono fun n h again => ?_;obtain ⟨h,k⟩:=h;have k:=k again;simp only [BL.enc,hn,DX] at h;simp only [boO,H26] at k;simp only [P9,boO,H26,BJ,vv2,vf,reduceCtorEq,reduceAdd,reduceEqDiff,h,k];cases o<;>rfl
 |some a=>
  cases o with
  |none=>
   refine ((Hn s.dat hd).and (key (some a))).mono fun n h again => ?_;obtain ⟨h,k⟩:=h;have k:=k again;simp only [BL.enc,hn,DX] at h;simp only [boO,H26,Option.getD_some,isSome_some] at k;simp only [P9,boO,H26,BJ,vv2,vf,reduceCtorEq,reduceAdd,reduceEqDiff,getD_none,isSome_none,h,k,C5]
  |some b=>
   by_cases hq:a<b
   ·refine ((Hn s.dat hd).and (key (some a))).mono fun n h again => ?_;obtain ⟨h,k⟩:=h;have k:=k again;simp only [BL.enc,hn,DX] at h;simp only [boO,H26,Option.getD_some,isSome_some] at k;simp only [P9,boO,H26,BJ,vv2,vf,reduceCtorEq,reduceAdd,reduceEqDiff,Option.getD_some,isSome_some,h,k,C5,hq]
   ·refine ((Hn s.dat hd).and (key (some b))).mono fun n h again => ?_;obtain ⟨h,k⟩:=h;have k:=k again;simp only [BL.enc,hn,DX] at h;simp only [boO,H26,Option.getD_some,isSome_some] at k;simp only [P9,boO,H26,BJ,vv2,vf,reduceCtorEq,reduceAdd,reduceEqDiff,Option.getD_some,isSome_some,h,k,C5,hq]
theorem nx_26 (g:Gh) (s:Ses) (f1 f2 f3:AI) (he:s.entered<10000) (hd:Bs s.dat) (hr:Bs s.rep) :
  Ev fun n=>∀again,WH n (fI C n) again ([.ptr 7 0],H26 f1 f2 f3 g s [])=again (DT (nxS s),H26 E0 E0 E0 g s []):=by
 have q:¬(10000:Int)≤s.entered:=by omega
 have key:=nx6_26 g s [] (s.pend.head?.map (·.at_)) he hd hr;refine key.mono fun n k again => ?_;have k:=k again;have e1:∀(o:Out) (l:List Out),s.pend=o::l→(g.pre++List.map Out.enc s.pend)[g.pre.length]? = some o.enc:=by intro o l h;rw [getElem?_append_right (le_refl _),h];simp
 unfold nxS;cases hp:s.pend with
 |nil=>
  simp only [hp,head?_nil,map_none,boO,H26,getD_none,isSome_none,map_nil] at k;simp only [Xd,V1,Zc,H26,hp,map_nil,BJ,vv2,vf,reduceCtorEq,reduceAdd,reduceEqDiff,q,lt_irrefl,natCast_zero,k,head?_nil,map_none]
 |cons o l=>
  have e1:=e1 o l hp;simp only [hp] at e1;simp only [hp,head?_cons,map_some,boO,H26,Option.getD_some,isSome_some] at k;simp only [Xd,V1,Zc,J26_1,H26,hp,BJ,vv2,vf,reduceCtorEq,reduceAdd,reduceEqDiff,q,(show (0:Int)<((l.length+1:Nat):Int) by omega),e1,Out.enc,k,head?_cons,map_some,Int.le_refl]
end Ab
set_option linter.unusedVariables false
set_option linter.unusedSimpArgs false
set_option maxRecDepth 100000
namespace Ab
open Go
theorem ex_26 (g:Gh) (s:Ses) (f1 f2 f3:AI) (he:s.entered<10000) (ha:s.snd.acked.length≤100) (hl:s.pend.length≤1000000)
  (hw:s.snd.st=1→s.snd.due=s.now→(By s.snd s.now).2.2=0∧(By s.snd s.now).2.1.length≤1000000) :
  Ev fun n=>∀again,Zz n (fI C n) again ([.ptr 7 0],H26 f1 f2 f3 g s [])=again ([],H26 E0 E0 E0 (exG g s) (exS s) []):=by
 have q:¬(10000:Int)≤s.entered:=by omega
 by_cases h1:s.snd.st=1
 ·by_cases h2:s.snd.due=s.now
  ·obtain ⟨w1,w2⟩:=hw h1 h2;have e1:exS s={s with snd:=(By s.snd s.now).1,pend:=s.pend++(By s.snd s.now).2.1}:=by simp only [exS,h1,h2,and_self,if_true]
   have e2:exG g s={g with v0:=g.v0+1,pre:=[]}:=by simp only [exG,h1,h2,and_self,if_true]
   rw [e1,e2];refine (s149 s.snd s.now ha).mono fun n h again => ?_;simp only [BR,w1,Snd.enc,cons_append,nil_append,h1,h2] at h;generalize By s.snd s.now=w at h w1 w2 ⊢;obtain ⟨a,o,e⟩:=w;simp only at h w1 w2 ⊢;have q2:¬g.pre.length+s.pend.length<g.pre.length+s.pend.length:=by omega
   have q3:s.pend.length+o.length≤1073741824:=by omega
   have q4:take s.pend.length (List.map Out.enc s.pend)=List.map Out.enc s.pend:=take_of_length_le (by simp);simp only [TO,S8,WB,WA,H26,BJ,vv2,vf,reduceCtorEq,reduceAdd,reduceEqDiff,h1,h2,h,q,beq_self_eq_true,bne_self_eq_false,length_append,q2,q3,q4,J0,drop_left,map_append,le_refl,nil_append]
  ·have h2':(s.snd.due != s.now)=true:=by simpa using h2
   have e1:exS s=s:=by simp only [exS,h2,and_false,if_false]
   have e2:exG g s=g:=by simp only [exG,h2,and_false,if_false]
   rw [e1,e2];refine Ev.of fun n again => ?_;simp only [TO,S8,WB,WA,H26,BJ,vv2,vf,reduceCtorEq,reduceAdd,reduceEqDiff,h1,h2',q,beq_self_eq_true]
 ·have h1':(s.snd.st==1)=false:=by simpa using h1
  have e1:exS s=s:=by simp only [exS,h1,false_and,if_false]
  have e2:exG g s=g:=by simp only [exG,h1,false_and,if_false]
  rw [e1,e2];refine Ev.of fun n again => ?_;simp only [TO,S8,WB,WA,H26,BJ,vv2,vf,reduceCtorEq,reduceAdd,reduceEqDiff,h1']
def LB (q:Gh×Ses):Rd (Gh×Ses) (Gh×Ses):=
 match q.2.pend with
 |[]=>.done q
 |o::l=>if o.at_=q.2.now then .next ({q.1 with v4:=q.1.v4+1,pre:=q.1.pre++[o.enc]},{EX q.2 o.seg with pend:=l}) else .done q
theorem tx_26 (g:Gh) (s:Ses) (f1 f2 f3:AI) (hb:Bud s.pend.length s) :
  Ev fun n=>∀again,Zu n (fI C n) again ([.ptr 7 0],H26 f1 f2 f3 g s [])=again ([],H26 E0 E0 E0 (txT s.pend.length (g,s)).1 (txS s.pend.length s) []):=by
 have key:=CB (R:=List Tree) (Z:=List AV×Heap→Option (List Tree)) (Q:=Gh×Ses)
  (B:=fun n z p again=>OR n (fI C n) ([.ptr 7 0],H26 f1 f2 f3 g s []) z p again)
  (s:=(([],H26 E0 E0 E0 g s []):List AV×Heap)) (r:=txT s.pend.length (g,s))
  (fun z q=>z ([],H26 E0 E0 E0 q.1 q.2 [])) (fun q:Gh×Ses=>(([],H26 E0 E0 E0 q.1 q.2 []):List AV×Heap)) LB (fun q=>Bud q.2.pend.length q.2) (fun q=>q.2.pend.length) (fun q=>txT q.2.pend.length q) (g,s) rfl hb rfl
  (fun q hI => ?_) (fun q q' hI hs => ?_) (fun q hI => ?_)
 ·refine key.mono fun n h again => ?_;have h:=h again;rw [QJ] at h;simp only [H26] at h;simp only [tC26_7,ZO,H26,BJ,h]
 ·obtain ⟨g1,s1⟩:=q;simp only at hI ⊢;have e1:∀(o:Out) (l:List Out),s1.pend=o::l→(g1.pre++List.map Out.enc s1.pend)[g1.pre.length]? = some o.enc:=by intro o l h;rw [getElem?_append_right (le_refl _),h];simp
  cases hp:s1.pend with
  |nil=>
   refine Ev.of fun n z again => ?_;simp only [LB,OR,RB,H26,hp,BJ,vv2,vf,reduceCtorEq,reduceAdd,reduceEqDiff,natCast_zero,lt_irrefl,Rd.Ar,map_nil]
  |cons o l=>
   have e1:=e1 o l hp;by_cases ho:o.at_=s1.now
   ·rw [hp] at hI;have k:=entD_26 g1 s1 o.seg (.row true (AI.ver f1) 15 (Bj f1)) (.row true (AI.ver f2) 4 (Bj f2)) (.row true (AI.ver f3) 4 (Bj f3)) (Bud.eD hI);refine k.mono fun n h z again => ?_;simp only [DR,H26] at h;have h2:=fun again=>h again;have ep:(EX s1 o.seg).pend=o::l:=hp;have q1:(1:Int)≤((l.length+1:Nat):Int):=by omega
    have q2:=ucP_26 {g1 with v4:=g1.v4+1} (EX s1 o.seg) o l ep;rw [ep] at q2;simp only [length_cons,add_sub_cancel] at q2;have e2:(g1.pre++List.map Out.enc (o::l))[g1.pre.length]? = some [tI s1.now,tI o.seg.kind,tI o.seg.ses,tI o.seg.ser,tI o.seg.off,tI o.seg.tot,.bool o.seg.chk,.str o.seg.data,.sl 2 (o.seg.AZ.map Span.enc)]:=by rw [hp] at e1;rw [e1,← ho];rfl
    simp only [ep,hp] at h2;simp only [LB,OR,RB,Zf,H26,hp,ep,ho,BJ,vv2,vf,reduceCtorEq,reduceAdd,reduceEqDiff,(show (0:Int)<((l.length+1:Nat):Int) by omega),Int.le_refl,e2,beq_self_eq_true,Rd.AT,h2,q1,add_sub_cancel,q2,(show (0:Int)≤1 by omega)];simp only [map_cons,append_assoc,cons_append,nil_append]
   ·have ho':(o.at_==s1.now)=false:=by simpa using ho
    refine Ev.of fun n z again => ?_;have e2:(g1.pre++List.map Out.enc (o::l))[g1.pre.length]? = some [tI o.at_,tI o.seg.kind,tI o.seg.ses,tI o.seg.ser,tI o.seg.off,tI o.seg.tot,.bool o.seg.chk,.str o.seg.data,.sl 2 (o.seg.AZ.map Span.enc)]:=by rw [hp] at e1;rw [e1];rfl
    simp only [LB,OR,RB,H26,hp,ho,ho',BJ,vv2,vf,reduceCtorEq,reduceAdd,reduceEqDiff,(show (0:Int)<((l.length+1:Nat):Int) by omega),Int.le_refl,e2,Rd.Ar]
 ·obtain ⟨g1,s1⟩:=q;unfold LB at hs;simp only at hI hs ⊢;cases hp:s1.pend with
  |nil=>rw [hp] at hs;cases hs
  |cons o l=>
   rw [hp] at hs hI;simp only at hs;split at hs
   ·cases hs;refine ⟨?_,by simp⟩;exact (Bud.EX hI o.seg).of rfl rfl rfl rfl rfl rfl rfl rfl
   ·cases hs
 ·obtain ⟨g1,s1⟩:=q;unfold LB;simp only;cases hp:s1.pend with
  |nil=>simp [txT,Rd.fin]
  |cons o l=>
   simp only [length_cons,txT,hp];split
   ·rfl
   ·simp [Rd.fin,txT,hp, *]
end Ab
set_option linter.unusedVariables false
set_option linter.unusedSimpArgs false
set_option maxRecDepth 100000
namespace Ab
open Go
def BI (g:Gh) (s:Ses) (v:Nat) (o:Option Seg):List AV×Heap:=([.rptr 8 v 0 0,.t (.bool o.isSome)],H26 E0 E0 E0 g s [.row false v 8 [(o.getD Jx).enc]])
theorem Xb (g:Gh) (s:Ses) (v:Nat) (y:Seg) (hr:Bs s.rep) :
  Ev fun n=>∀again e1 hp,Ob n (fI C n) ((.rptr 8 v 0 0::e1),hp) again ([],H26 E0 E0 E0 g s [.row false v 8 [y.enc]])=again (BI g (DN s).1 (v+1) (DN s).2):=by
 cases hf:s.rep.frames with
 |nil=>
  have hn:A0 s.rep=none:=by simp [A0,hf]
  rw [show DN s=(s,none) by simp only [DN,hf]];refine (Hn s.rep hr).mono fun n h again e1 hp => ?_;rw [hn] at h;simp only [BL.enc,DX] at h;simp only [BI,Ob,RF,H26,BJ,vv2,vf,reduceCtorEq,reduceAdd,reduceEqDiff,getElem?_cons_zero,Seg.enc,h,isSome_none,getD_none,Jx,map_nil,set_cons_zero,drop_succ_cons,drop_nil,append_nil,le_refl]
 |cons f l=>
  have hn:A0 s.rep=some f.arr:=by simp [A0,hf]
  by_cases ha:f.arr=s.now
  ·rw [show DN s=(B8 s,some f.seg) by simp only [DN,hf,ha,if_true]];refine ((Hn s.rep hr).and (s158 s.rep hr f l hf)).mono fun n h again e1 hp => ?_;obtain ⟨h,h2⟩:=h;rw [hn,ha] at h;simp only [BL.enc,DX] at h h2;have hx:B8 s={s with rep:=⟨s.rep.rng,l,s.rep.sent,s.rep.lost⟩}:=by simp only [B8,hf,tail_cons]
   simp only [hx,BI,Ob,RF,H26,BJ,vv2,vf,reduceCtorEq,reduceAdd,reduceEqDiff,getElem?_cons_zero,Seg.enc,h,h2,bne_self_eq_false,isSome_some,Option.getD_some,set_cons_zero,drop_succ_cons,drop_nil,append_nil,le_refl]
  ·have ha':(f.arr != s.now)=true:=by simpa using ha
   rw [show DN s=(s,none) by simp only [DN,hf,ha,if_false]];refine (Hn s.rep hr).mono fun n h again e1 hp => ?_;rw [hn] at h;simp only [BL.enc,DX] at h;simp only [ha',BI,Ob,RF,H26,BJ,vv2,vf,reduceCtorEq,reduceAdd,reduceEqDiff,getElem?_cons_zero,Seg.enc,h,isSome_none,getD_none,Jx,map_nil,set_cons_zero,drop_succ_cons,drop_nil,append_nil,le_refl]
theorem hr_26 (g:Gh) (s:Ses) (v:Nat) (x:Seg) (hr:Bs s.rep) (ha:s.snd.acked.length≤100∧s.pend.length≤1000000) (hx:x.AZ.length≤100∨1000<x.AZ.length)
  (hw:¬s.now<s.snd.busy→(Ay s.snd s.now x).2.2=0∧(Ay s.snd s.now x).2.1.length≤1000000) :
  Ev fun n=>∀z again,FK n (fI C n) z (BI g s v (some x)) again=again (BI (lsG g s) (DN (lsX s x)).1 (v+1) (DN (lsX s x)).2):=by
 by_cases hb:s.now<s.snd.busy
 ·have e1:lsX s x=s:=by simp only [lsX,hb,if_true]
  have e2:lsG g s=g:=by simp only [lsG,hb,if_true]
  rw [e1,e2];refine (Xb g s v x hr).mono fun n h z again => ?_;simp only [H26] at h;have hb':decide (s.now<s.snd.busy)=true:=decide_eq_true hb;simp only [BI,H26,isSome_some,Option.getD_some] at h ⊢;simp only [FK,H26,BJ,vv2,vf,reduceCtorEq,reduceAdd,reduceEqDiff,hb,Jy,IC,h]
 ·obtain ⟨w1,w2⟩:=hw hb;have e2:lsG g s=gP g:=by simp only [lsG,hb,if_false]
  have hx2:lsX s x=lsF {s with snd:=(Ay s.snd s.now x).1,pend:=s.pend++(Ay s.snd s.now x).2.1}:=by simp only [lsX,hb,if_false]
  rw [e2];have key:=fun s' (hs:s'.rep=s.rep)=>Xb (gP g) s' v x (by rw [hs];exact hr);have q2:¬g.pre.length+s.pend.length<g.pre.length+s.pend.length:=by omega
  have q4:take s.pend.length (List.map Out.enc s.pend)=List.map Out.enc s.pend:=take_of_length_le (by simp);have h148:=s148 s.snd s.now x ha.1 hx;simp only [BR,w1,Snd.enc,Seg.enc,cons_append,nil_append] at h148;rw [hx2];generalize Ay s.snd s.now x=w at h148 w1 w2 ⊢;obtain ⟨a,o,e⟩:=w;simp only at h148 w1 w2 ⊢;have q3:s.pend.length+o.length≤1073741824:=by omega
  by_cases hk:s.kno=false∧a.st=2
  ·have e3:lsF {s with snd:=a,pend:=s.pend++o}={s with snd:=a,pend:=s.pend++o,kno:=true,knoAt:=s.now}:=by simp only [lsF,hk,and_self,if_true]
   rw [e3];refine (h148.and (key {s with snd:=a,pend:=s.pend++o,kno:=true,knoAt:=s.now} rfl)).mono fun n h z again => ?_;obtain ⟨h,h2⟩:=h;simp only [H26,gP,map_append,nil_append] at h2;have hk1:(!s.kno)=true:=by simp [hk.1]
   have hk2:(a.st==2)=true:=by simp [hk.2]
   simp only [BI,H26,isSome_some,Option.getD_some,gP,map_append,nil_append];simp only [BI,H26,isSome_some,Option.getD_some,gP,map_append,nil_append,Seg.enc] at h2;simp only [FK,H26,BJ,vv2,vf,reduceCtorEq,reduceAdd,reduceEqDiff,hb,hk1,hk2,Seg.enc,getElem?_cons_zero,h,bne_self_eq_false,beq_self_eq_true,length_append,q2,q3,q4,drop_left,le_refl,Ms,h2]
  ·have e3:lsF {s with snd:=a,pend:=s.pend++o}={s with snd:=a,pend:=s.pend++o}:=by simp only [lsF,hk,if_false]
   rw [e3];refine (h148.and (key {s with snd:=a,pend:=s.pend++o} rfl)).mono fun n h z again => ?_;obtain ⟨h,h2⟩:=h;simp only [H26,gP,map_append,nil_append] at h2;simp only [BI,H26,isSome_some,Option.getD_some,gP,map_append,nil_append];simp only [BI,H26,isSome_some,Option.getD_some,gP,map_append,nil_append,Seg.enc] at h2;rcases Bool.eq_false_or_eq_true s.kno with hk0|hk0
   ·have hk1:(!s.kno)=false:=by simp [hk0]
    simp only [FK,H26,BJ,vv2,vf,reduceCtorEq,reduceAdd,reduceEqDiff,hb,hk1,Seg.enc,getElem?_cons_zero,h,bne_self_eq_false,beq_self_eq_true,length_append,q2,q3,q4,drop_left,le_refl,J0,h2]
   ·have hk1:(!s.kno)=true:=by simp [hk0]
    have hk2:(a.st==2)=false:=by simpa using fun h=>hk ⟨hk0,h⟩
    simp only [FK,H26,BJ,vv2,vf,reduceCtorEq,reduceAdd,reduceEqDiff,hb,hk1,hk2,Seg.enc,getElem?_cons_zero,h,bne_self_eq_false,beq_self_eq_true,length_append,q2,q3,q4,drop_left,le_refl,J0,h2]
theorem l16_26:FK=FK:=rfl
theorem lp_26 {P:Ses→Prop} (hP:LsP P) (q:LS) (h:q.inv P) :
  Ev fun n=>∀z,AH (fun p again=>FK n (fI C n) z p again) n (BI q.g q.s q.v q.o)=z ([],H26 E0 E0 E0 q.res.1 q.res.2 []):=by
 refine CB (R:=List Tree) (Z:=List AV×Heap→Option (List Tree)) (Q:=Gh×Ses) (B:=fun n z p again=>FK n (fI C n) z p again) (r:=q.res)
  (fun z r=>z ([],H26 E0 E0 E0 r.1 r.2 [])) (fun q:LS=>BI q.g q.s q.v q.o) LS.step (LS.inv P) (fun q=>q.s.rep.frames.length+(if q.o.isSome then 1 else 0)) LS.res q rfl h rfl
  (fun q hI => ?_) (fun q q' hI hs=>LS.sound hP q q' hI hs) (fun q hI=>LS.fin hP q hI)
 obtain ⟨g,s,v,o⟩:=q;cases o with
 |none=>
  refine Ev.of fun n z again => ?_;simp only [BI,isSome_none,FK,H26,BJ,vv2,vf,reduceCtorEq,reduceAdd,reduceEqDiff,LS.step,Rd.Ar]
 |some x=>
  obtain ⟨h1,h2,h3,h4,h5⟩:=hI;refine (hr_26 g s v x h1 h2 h3 h4).mono fun n h z again => ?_;simp only [LS.step,Rd.AT];exact h z again
theorem ls_26 {P:Ses→Prop} (hP:LsP P) (g:Gh) (s:Ses) (f1 f2 f3:AI) (h:P s) :
  Ev fun n=>∀again,Zy n (fI C n) again ([.ptr 7 0],H26 f1 f2 f3 g s [])=again ([],H26 E0 E0 E0 (lsT s.rep.frames.length (g,s)).1 (lsS s.rep.frames.length s) []):=by
 have hr:=hP.rep s h;obtain ⟨i1,i2⟩:=LS.take hP h g 0;have key:=lp_26 hP _ i1;rw [i2,Qf] at key;simp only at key;cases hf:s.rep.frames with
 |nil=>
  have hn:A0 s.rep=none:=by simp [A0,hf]
  have e:DN s=(s,none):=by simp only [DN,hf]
  rw [e] at key;rw [hf] at key;refine ((Hn s.rep hr).and key).mono fun n h again => ?_;obtain ⟨h,k⟩:=h;rw [hn] at h;simp only [BL.enc,DX] at h;have k:=k again;simp only [BI,H26,isSome_none,getD_none,Jx,Seg.enc,map_nil] at k;simp only [TN,S7,RE,H26,BJ,vv2,vf,reduceCtorEq,reduceAdd,reduceEqDiff,h,k]
 |cons f l=>
  have hn:A0 s.rep=some f.arr:=by simp [A0,hf]
  by_cases ha:f.arr=s.now
  ·have e:DN s=(B8 s,some f.seg):=by simp only [DN,hf,ha,if_true]
   rw [e] at key;rw [hf] at key;refine ((Hn s.rep hr).and ((s158 s.rep hr f l hf).and key)).mono fun n h again => ?_;obtain ⟨h,h2,k⟩:=h;rw [hn,ha] at h;simp only [BL.enc,DX] at h h2;have hx:B8 s={s with rep:=⟨s.rep.rng,l,s.rep.sent,s.rep.lost⟩}:=by simp only [B8,hf,tail_cons]
   have k:=k again;simp only [BI,H26,isSome_some,Option.getD_some,Seg.enc,hx] at k;simp only [TN,S7,RE,l16_26,H26,BJ,vv2,vf,reduceCtorEq,reduceAdd,reduceEqDiff,h,h2,bne_self_eq_false,k]
  ·have ha':(f.arr != s.now)=true:=by simpa using ha
   have e:DN s=(s,none):=by simp only [DN,hf,ha,if_false]
   rw [e] at key;rw [hf] at key;refine ((Hn s.rep hr).and key).mono fun n h again => ?_;obtain ⟨h,k⟩:=h;rw [hn] at h;simp only [BL.enc,DX] at h;have k:=k again;simp only [BI,H26,isSome_none,getD_none,Jx,Seg.enc,map_nil] at k;simp only [TN,S7,RE,H26,BJ,vv2,vf,reduceCtorEq,reduceAdd,reduceEqDiff,h,ha',k]
end Ab
