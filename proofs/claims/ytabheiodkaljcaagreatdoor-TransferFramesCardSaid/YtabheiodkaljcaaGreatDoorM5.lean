/- A part of the proof: see the last text. -/
import Derived.Test.YtabheiodkaljcaaGreatDoorM4
open Bool (true_eq_false)
open Bool renaming false_eq_true → zD
open Int (emod_nonneg tdiv)
open Int renaming emod_lt_of_pos → wP, lt_irrefl → wE, natCast_zero → vH, tmod → wG, toNat → wH
open List (append_assoc drop drop_zero head?_nil length length_map mem_append take)
open List renaming append_nil → yZ, cons_append → xB, countP_cons → vJ, drop_left → vK, drop_nil → vM, drop_succ_cons → wS, foldl_cons → wU, getD_eq_getElem?_getD → xJ, getElem?_append_right → zL, getElem?_cons_zero → zM, getElem?_eq_getElem → zO, getLast?_concat → wV, head?_cons → vN, length_append → zV, length_cons → zW, length_eq_zero_iff → wW, length_nil → zX, length_pos_iff → zY, map_append → wY, map_cons → xN, map_nil → vA, mem_cons → xP, mem_of_getElem? → yA, mem_singleton → xW, nil_append → xX, pairwise_cons → wC, set_cons_zero → vO, tail_cons → vP, take_of_length_le → vD
open Nat (add_mul add_zero reduceEqDiff zero_add)
open Nat renaming add_sub_cancel → vQ, le_refl → yI, reduceAdd → wK
open Option (map_none)
open Option renaming getD_none → vE, isSome_none → vF, isSome_some → vG, map_some → yT
set_option linter.unusedVariables false
namespace Ab
open Go
theorem MK {α:Type} (g:α→Bool) (b:α) (q:α→Bool):∀l:List α,(GX g b l).countP q=l.countP q+(if q b=true then 1 else 0)
 |[]=>by simp [GX,vJ]
 |x::l=>by
  unfold GX;split
  ·simp only [vJ]
  ·simp only [vJ,MK g b q l];omega
theorem MC (t num:Int) (x:Seg):∀(ds:List Int) (fs:List Frame),(Mb t num x ds fs).countP (fun f=>f.seg.chk)=fs.countP (fun f=>f.seg.chk)+(if x.chk=true then ds.length else 0)
 |[],fs=>by simp [Mb]
 |d::ds,fs=>by show (Mb t num x ds (Ja t num x fs d)).countP _=_;rw [MC t num x ds];unfold Ja;rw [MK];simp only [zW];split<;>omega
theorem Inv.del {p:Par} {s:Ses} (hp:POk p) (h:Inv p s):(∀d∈(C9 s p.c.rng).1,p.c.rng≤d∧d≤2*p.c.rng)∧(C9 s p.c.rng).1.length≤2∧s.dist≤(C9 s p.c.rng).2∧(C9 s p.c.rng).2≤s.dist+1:=Qw hp.rng.1
theorem Inv.tx {p:Par} {s:Ses} (hp:POk p) (h:Inv p s) {o:Out} {l:List Out} (hpd:s.pend=o::l) (ho:o.at_=s.now):Inv p {EU s o.seg with pend:=l}:=by
 have hr:=hp.rng;have hn:=h.sn.num hp;obtain ⟨o1,o2,o3,o4,o5⟩:=h.pd o (by rw [hpd];simp);obtain ⟨d1,d2,d3,d4⟩:=h.del hp;have hb:=h.bud hp (k:=0+1) (by rw [hpd];simp;omega) (fun _=>by omega);have hB:=hb.EU o.seg;have c1:=h.c1;have c2:=h.c2;have c3:=h.c3;have c4:=h.c4;have c5:=h.c5;have c6:=h.c6;have l1:=h.l1;have l2:=h.l2;have hds:=h.ds;rw [hpd] at c4 c5 c6;simp only [zW,vJ] at c4 c5 c6;have hrd:=h.rd;refine ⟨h.rd,h.rr,h.ps,h.lim,h.dk,hB.gd,hB.gr,h.now,h.sn,h.rc,fun f hf => ?_,h.fr,fun x hx=>h.pd x (by rw [hpd];simp [hx]),?_,h.du,?_,?_,h.c3,?_,?_,?_,?_,h.l2,?_,h.kn,h.rv⟩
 ·simp only [EU,CT] at hf;rcases KC.1 hf with hf|⟨d,hd,rfl⟩
  ·exact h.fd f hf
  ·rw [hrd] at hd;have:=d1 d hd;refine ⟨o1,o4,?_,?_,fun hc hs => ?_⟩
   ·simp only [EU];omega
   ·simp only;omega
   ·have:=o5 hc;simp only [EU];omega
 ·have:=h.po;rw [hpd] at this;exact (wC.1 this).2
 ·simp only [EU,CT];omega
 ·simp only [EU,CT,zV,zW,zX];omega
 ·simp only [EU,zV,zW,zX];omega
 ·simp only [EU,zV,zW,zX];omega
 ·simp only [EU,CT,MC,hrd];split
  ·rename_i hc;rw [if_pos hc] at c6;omega
  ·rename_i hc;rw [if_neg hc] at c6;omega
 ·simp only [EU,CT,GV,hrd];omega
 ·simp only [EU,hrd];omega
theorem Inv.VL {p:Par} {s:Ses} (hp:POk p) (h:Inv p s) {x:Seg} (hx:OV p.d x):DX s.rcv x=(CQ s.rcv x,if x.chk=true then [B9 s.rcv x] else [],0)∧(∃hl,Hd p.d (CQ s.rcv x) hl∧∀y∈hl,ES p.d y)∧(x.chk=true→Kr p.d (B9 s.rcv x))∧(∀t,Ac t (CQ s.rcv x).known↔Ac t s.rcv.known∨(x.off≤t∧t<x.off+x.data.size))∧(Ay s.rcv=true→Ay (CQ s.rcv x)=true)∧(B9 s.rcv x).claims=(CQ s.rcv x).known:=by
 obtain ⟨hl,h1,h2⟩:=h.rc;have hsz:=hp.sz;have hs:=M0 h1 h2 hx.pc (by omega);have he:=st_hear h1 h2 hx.pc (by omega);refine ⟨he,⟨hl++[x],st_next h1 h2 hx.pc (by omega),fun y hy => ?_⟩,fun hc=>⟨N8 h1.ok hx.pc.1 hs hc,rfl,h1.ses,hx.pc.2.2.2.1⟩,KO hs,fun hc => ?_,rfl⟩
 ·rcases mem_append.1 hy with hy|hy
  ·exact h2 y hy
  ·rw [xW] at hy;subst hy;exact hx.pc
 ·have:=Nj h1.ok hx.pc.1 hc;rw [he] at this;exact this
theorem Ux {p:Par} {s:Ses} (h:Inv p {s with rcvd:=Ay s.rcv}) (hr:s.rcvd=true→Ay s.rcv=true):Inv p (rxF s):=by
 unfold rxF;split
 ·rename_i hc;rw [hc.2] at h;exact {h with}
 ·rename_i hc;have e:s.rcvd=Ay s.rcv:=by
   cases h1:s.rcvd with
   |true=>exact (hr h1).symm
   |false=>
    cases h2:Ay s.rcv with
    |false=>rfl
    |true=>exact (hc ⟨h1,h2⟩).elim
  rw [← e] at h;exact h
theorem Inv.rx {p:Par} {s:Ses} (hp:POk p) (h:Inv p s) {f:Frame} {l:List Frame} (hf:s.dat.frames=f::l) (ha:f.arr=s.now):Inv p (rxX (BC s) f.seg):=by
 have hr:=hp.rng;have hn:=h.sn.num hp;obtain ⟨f1,f2,f3,f4,f5⟩:=h.fd f (by rw [hf];simp);obtain ⟨e1,e2,e3,e4,e5,e6⟩:=h.VL hp f1;have c1:=h.c1;have c2:=h.c2;have c3:=h.c3;have c4:=h.c4;have c5:=h.c5;have c6:=h.c6;have l1:=h.l1;have l2:=h.l2;have hds:=h.ds;have hrr:=h.rr;have hpop:(BC s).rcv=s.rcv:=rfl;unfold rxX rxH;rw [hpop,e1];simp only;have hfr:s.dat.frames.tail=l:=by rw [hf];rfl
 rw [hf] at c6 l1;simp only [zW,vJ] at c6 l1;by_cases hc:f.seg.chk=true
 ·rw [if_pos hc];simp only [wU,List.foldl_nil];rw [if_pos hc] at c6;have hrep:=e3 hc;have hb:=h.bud hp (k:=0+1) (by rw [hf];simp only [vJ,hc,if_true];omega) (fun _=>by omega);have hb2:Bud (0+1) {BC s with rcv:=CQ s.rcv f.seg}:=hb.BC.of rfl rfl rfl rfl rfl rfl rfl rfl;have hB:=hb2.CM (B9 s.rcv f.seg);obtain ⟨d1,d2,d3,d4⟩:=Qw (s:={BC s with rcv:=CQ s.rcv f.seg}) (R:=p.c.rng) hr.1;refine Ux ⟨h.rd,h.rr,h.ps,h.lim,h.dk,hB.gd,hB.gr,h.now,h.sn,e2,fun x hx=>h.fd x (by rw [hf];simp only [CM,BC,hfr] at hx;simp [hx]),fun x hx => ?_,h.pd,h.po,h.du,?_,h.c2,?_,h.c4,h.c5,?_,?_,?_,?_,h.kn,rfl⟩ (fun hq=>e5 (by rw [← h.rv];exact hq))
  ·simp only [CM,CT,BC] at hx;rcases KC.1 hx with hx|⟨d,hd,rfl⟩
   ·exact h.fr x hx
   ·have:=d1 d (by simpa only [BC,hrr] using hd);have hser:(B9 s.rcv f.seg).ser=f.seg.ser:=rfl;refine ⟨hrep,by rw [hser];exact f2,?_,?_,fun hs => ?_⟩
    ·simp only [CM,BC];omega
    ·simp only;omega
    ·have:=f5 hc (by rw [← hser];exact hs);simp only [CM,BC];omega
  ·simp only [CM,CT,BC];omega
  ·simp only [CM,CT,BC,zV,zW,zX];omega
  ·simp only [CM,CT,BC,hfr,zV,zW,zX];omega
  ·simp only [CM,BC,hfr];omega
  ·simp only [CM,CT,BC,GV,hrr];simp only [BC] at d2;omega
  ·simp only [CM,BC,hrr];simp only [BC] at d3 d4;omega
 ·rw [if_neg hc];simp only [List.foldl_nil];rw [if_neg hc] at c6;refine Ux ⟨h.rd,h.rr,h.ps,h.lim,h.dk,Fl h.gd,h.gr,h.now,h.sn,e2,fun x hx=>h.fd x (by rw [hf];simp only [BC,hfr] at hx;simp [hx]),h.fr,h.pd,h.po,h.du,h.c1,h.c2,h.c3,h.c4,h.c5,?_,?_,h.l2,h.ds,h.kn,rfl⟩ (fun hq=>e5 (by rw [← h.rv];exact hq))
  ·simp only [BC,hfr];omega
  ·simp only [BC,hfr];omega
end Ab
namespace Ab
open Go
structure S6 (p:Par) (s q:Snd):Prop where
 fo:FOk q
 c:q.c=p.c
 ses:q.ses=0
 data:q.data=p.d
 fin:q.fin=p.e
 ser:q.ser=s.ser
 busy:q.busy=s.busy
theorem Ls.ack {p:Par} {s:Snd} {x:Seg} (hp:POk p) (h:Ls p s) (hx:Kr p.d x):S6 p s (A5 s x)∧(∀t,Ac t (A5 s x).acked↔Ac t s.acked∨Ac t x.claims):=by obtain ⟨h1,h2⟩:=h.fo hp;have hd:=hp.sz;have hf:=hx.few hd.2;have hk:=Q8 h1 (by omega) ⟨hx.g,by omega⟩ hx.kind (by rw [hx.tot,h.data]);have hw:=h1.win;rw [h.data] at hw;obtain ⟨u1,u2,u3⟩:=W4 h1.ack hx.cl.1 hw hx.cl.2 (by omega) (by omega);exact ⟨⟨hk,h.c,h.ses,h.data,h.fin,rfl,rfl⟩,u3⟩
theorem S6.bat {p:Par} {s q:Snd} (hp:POk p) (h:Ls p s) (hq:S6 p s q) (hc:complete q=false):K6 p.d (s.ser+1) (Aa q):=by have hn:=h.num hp;have hb:=hq.fo.bat hc (by rw [hq.ser];omega);unfold Aa;rw [hq.ses,hq.data,hq.ser] at *;exact batP hb
theorem S6.send {p:Par} {s q:Snd} {l:List Seg} {t:Int} (hp:POk p) (h:Ls p s) (hq:S6 p s q) (hc:complete q=false) (hl:K6 p.d (s.ser+1) l) :
  (p.e<A1 p.c.rate t l∧BR q t l=(CF q,[]))∨(A1 p.c.rate t l≤p.e∧BR q t l=(BO q (A1 p.c.rate t l) (s.ser+1),Bl p.c.rate t l)):=by
 have hn:=h.num hp;obtain ⟨pre,x,e,h1,h2,h3⟩:=hl.ex;have hlast:l.getLast? = some x:=by rw [e];exact wV ..
 unfold BR;rw [hlast];simp only;rw [hq.fin,hq.c,h2];by_cases hb:p.e<A1 p.c.rate t l
 ·exact .inl ⟨hb,by rw [if_pos (.inl hb)]⟩
 ·exact .inr ⟨by omega,by rw [if_neg (by omega)]⟩
inductive LsR (p:Par) (s:Ses) (x:Seg):Ses→Prop
 |busy:s.now<s.snd.busy→LsR p s x s
 |same:¬s.now<s.snd.busy→s.snd.st≠1∨x.ser≠s.snd.ser→LsR p s x s
 |done:¬s.now<s.snd.busy→s.snd.st=1→x.ser=s.snd.ser→complete (A5 s.snd x)=true→LsR p s x {s with snd:={A5 s.snd x with due:=0,st:=2},kno:=true,knoAt:=s.now}
 |fail:¬s.now<s.snd.busy→s.snd.st=1→x.ser=s.snd.ser→complete (A5 s.snd x)=false→p.e<A1 p.c.rate s.now (Aa (A5 s.snd x))→LsR p s x {s with snd:=CF (A5 s.snd x)}
 |send:¬s.now<s.snd.busy→s.snd.st=1→x.ser=s.snd.ser→complete (A5 s.snd x)=false→A1 p.c.rate s.now (Aa (A5 s.snd x))≤p.e→
   LsR p s x {s with snd:=BO (A5 s.snd x) (A1 p.c.rate s.now (Aa (A5 s.snd x))) (s.snd.ser+1),pend:=Bl p.c.rate s.now (Aa (A5 s.snd x))}
theorem Ls.Av {p:Par} {s:Snd} {x:Seg} {t:Int} (hp:POk p) (h:Ls p s) (hx:Kr p.d x) (ht:s.busy≤t∧t≤2199023255552) :
  ((s.st≠1∨x.ser≠s.ser)→Av s t x=(s,[],0))∧(s.st=1→x.ser=s.ser→complete (A5 s x)=true→Av s t x=({A5 s x with due:=0,st:=2},[],0))∧
  (s.st=1→x.ser=s.ser→complete (A5 s x)=false→Av s t x=((BR (A5 s x) t (Aa (A5 s x))).1,(BR (A5 s x) t (Aa (A5 s x))).2,0)):=by
 have hk:=hx.kind;have hses:x.ses=s.ses:=by rw [hx.ses,h.ses]
 have htot:x.tot=s.data.size:=by rw [hx.tot,h.data]
 have hg:=hx.g;have hok:=h.ok;refine ⟨fun hq => ?_,fun h1 h2 h3 => ?_,fun h1 h2 h3 => ?_⟩
 ·unfold Ab.Av;rw [if_neg (by omega),if_neg (by omega)];rcases hq with hq|hq
  ·rw [if_pos (.inl hq)]
  ·by_cases hst:s.st=1
   ·rw [if_neg (by omega),if_neg (by omega)];unfold Ea;rw [if_pos (.inl hq)]
   ·rw [if_pos (.inl hst)]
 ·unfold Ab.Av;rw [if_neg (by omega),if_neg (by omega),if_neg (by omega),if_neg (by omega)];unfold Ea;rw [if_neg (by omega),if_pos h3]
 ·unfold Ab.Av;rw [if_neg (by omega),if_neg (by omega),if_neg (by omega),if_neg (by omega)];unfold Ea;rw [if_neg (by omega),if_neg (by rw [h3];simp)]
theorem KF {p:Par} {s:Ses} (h:Inv p s) (hg:PGt s) (hb:¬s.now<s.snd.busy):s.pend=[]:=by
 cases hp:s.pend with
 |nil=>rfl
 |cons o l=>
  have h1:=h.pd o (by rw [hp];simp);have h2:=hg o (by rw [hp];simp);omega
theorem Inv.lsR {p:Par} {s:Ses} (hp:POk p) (h:Inv p s) (hg:PGt s) {f:Frame} {l:List Frame} (hf:s.rep.frames=f::l) (ha:f.arr=s.now) :
  LsR p (CC s) f.seg (lsX (CC s) f.seg)∧(¬s.now<s.snd.busy→(Av s.snd s.now f.seg).2.2=0∧(Av s.snd s.now f.seg).2.1.length≤1000000):=by
 have hr:=hp.rng;obtain ⟨f1,f2,f3,f4,f5⟩:=h.fr f (by rw [hf];simp);by_cases hb:s.now<s.snd.busy
 ·refine ⟨?_,fun q=>(q hb).elim⟩;have e:lsX (CC s) f.seg=CC s:=if_pos hb;rw [e];exact .busy hb
 ·have hpn:=KF h hg hb;obtain ⟨k1,k2,k3⟩:=h.sn.Av hp f1 (t:=s.now) (by omega);have e:lsX (CC s) f.seg=lsF {CC s with snd:=(Av s.snd s.now f.seg).1,pend:=s.pend++(Av s.snd s.now f.seg).2.1}:=if_neg hb;rw [e,hpn];by_cases hq:s.snd.st≠1∨f.seg.ser≠s.snd.ser
  ·rw [k1 hq];refine ⟨?_,fun _=>⟨rfl,by simp⟩⟩;have e2:lsF {CC s with snd:=s.snd,pend:=[]++[]}=CC s:=by
    unfold lsF;rw [if_neg]
    ·simp only [CC,hpn,yZ]
    ·rintro ⟨q1,q2⟩
     have:=h.kn.2 q2;rw [show (CC s).kno=s.kno from rfl] at q1;rw [q1] at this;cases this
   simp only;rw [e2];exact .same hb hq
  ·have hst:s.snd.st=1:=by omega
   have hser:f.seg.ser=s.snd.ser:=by omega
   have hk:s.kno=false:=by
    cases hkk:s.kno with
    |false=>rfl
    |true=>have:=h.kn.1 hkk;omega
   cases hc:complete (A5 s.snd f.seg) with
   |true=>
    rw [k2 hst hser hc];refine ⟨?_,fun _=>⟨rfl,by simp⟩⟩;have e2:lsF {CC s with snd:={A5 s.snd f.seg with due:=0,st:=2},pend:=[]++[]}={CC s with snd:={A5 s.snd f.seg with due:=0,st:=2},kno:=true,knoAt:=s.now}:=by unfold lsF;rw [if_pos ⟨hk,rfl⟩];simp only [CC,hpn,yZ]
    simp only;rw [e2];exact .done hb hst hser hc
   |false=>
    rw [k3 hst hser hc];obtain ⟨hQ,_⟩:=h.sn.ack hp f1;have hB:=hQ.bat hp h.sn hc;have hlen:=hB.len;have hsz:=hp.sz;rcases hQ.send (t:=s.now) hp h.sn hc hB with ⟨g1,g2⟩|⟨g1,g2⟩
    ·rw [g2];refine ⟨?_,fun _=>⟨rfl,by simp⟩⟩;have e2:lsF {CC s with snd:=CF (A5 s.snd f.seg),pend:=[]++[]}={CC s with snd:=CF (A5 s.snd f.seg)}:=by unfold lsF;rw [if_neg (by simp [CF])];simp only [CC,hpn,yZ]
     simp only;rw [e2];exact .fail hb hst hser hc g1
    ·rw [g2];refine ⟨?_,fun _=>⟨rfl,by simp only [Dg];omega⟩⟩;have e2:lsF {CC s with snd:=BO (A5 s.snd f.seg) (A1 p.c.rate s.now (Aa (A5 s.snd f.seg))) (s.snd.ser+1),pend:=[]++Bl p.c.rate s.now (Aa (A5 s.snd f.seg))}={CC s with snd:=BO (A5 s.snd f.seg) (A1 p.c.rate s.now (Aa (A5 s.snd f.seg))) (s.snd.ser+1),pend:=Bl p.c.rate s.now (Aa (A5 s.snd f.seg))}:=by unfold lsF;rw [if_neg (by simp [BO]),xX]
     simp only;rw [e2];exact .send hb hst hser hc g1
end Ab
namespace Ab
open Go
theorem K6.outs {d:ByteArray} {ser r t:Int} {l:List Seg} (h:K6 d ser l) (hr:1≤r∧r≤1000) (hs:0≤ser) :
  (Bl r t l).Pairwise (fun a b=>a.at_<b.at_)∧(∀o∈Bl r t l,OV d o.seg∧t<o.at_∧o.at_≤A1 r t l∧o.seg.ser≤ser∧(o.seg.chk=true→o.at_=A1 r t l∧o.seg.ser=ser))∧t+(l.length:Int)≤A1 r t l∧(Bl r t l).countP (fun o=>o.seg.chk)=1∧1≤l.length:=by
 obtain ⟨h1,h2,h3⟩:=PL (r:=r) l t (fun x hx=>((h.pc x hx).Cr hr).2);obtain ⟨pre,x,e,e1,e2,e3⟩:=h.ex;have hc:∀o∈Bl r t pre,o.seg.chk=false:=fun o ho=>by have:o.seg∈(Bl r t pre).map Out.seg:=List.mem_map_of_mem ho;rw [PM] at this;exact e3 _ this
 refine ⟨h1,fun o ho => ?_,h3,?_,by rw [e];simp⟩
 ·obtain ⟨k1,k2,k3⟩:=h2 o ho;have hsp:=h.pc _ k3;rw [e,Ec] at ho;rcases mem_append.1 ho with ho|ho
  ·have:=hc o ho;refine ⟨hsp,k1,k2,?_,fun q=>by rw [this] at q;cases q⟩;rw [hsp.sr this];exact hs
  ·rw [xW] at ho;subst ho;refine ⟨hsp,k1,k2,by simp only;omega,fun _=>⟨by rw [e],e2⟩⟩
 ·rw [e,Ec,List.countP_append,List.countP_eq_zero.2 (fun o ho=>by rw [hc o ho];simp)];simp [e1]
theorem Inv.CC {p:Par} {s:Ses} (h:Inv p s):Inv p (CC s):=
 {h with
  gr:=Fl h.gr
  fr:=fun f hf=>h.fr f (List.mem_of_mem_tail hf)
  l2:=by have:=h.l2;simp only [Ab.CC,List.length_tail];omega}
theorem Inv.send {p:Par} {s:Ses} (hp:POk p) (h:Inv p s) {q:Snd} {l:List Seg} (hpn:s.pend=[]) (hq:S6 p s.snd q) (hc:complete q=false) (hl:K6 p.d (s.snd.ser+1) l) (hst:s.snd.st=1) (hnow:s.snd.busy+2*p.c.rng≤s.now) (he:A1 p.c.rate s.now l≤p.e) :
  Inv p {s with snd:=BO q (A1 p.c.rate s.now l) (s.snd.ser+1),pend:=Bl p.c.rate s.now l}:=by
 have hr:=hp.rng;have hn:=h.sn.num hp;obtain ⟨o1,o2,o3,o4,o5⟩:=hl.outs (t:=s.now) ⟨hr.2.2.1,hr.2.2.2.1⟩ (by omega);have hsz:=hp.sz;have hlen:=hl.len;have c4:=h.c4;have c5:=h.c5;have c6:=h.c6;rw [hpn] at c4 c5 c6;simp only [zX,List.countP_nil,vH,Int.add_zero,Int.mul_zero] at c4 c5 c6;have ht:=h.sn.t;have hcs:=hp.t;have hm1:(s.snd.ser+1-1)*(2*p.c.rng+1)=(s.snd.ser-1)*(2*p.c.rng+1)+(2*p.c.rng+1):=by rw [show s.snd.ser+1-1=(s.snd.ser-1)+1 by omega,Int.add_mul,Int.one_mul]
 have hm2:((p.d.size:Int)+1)*(s.snd.ser+1)=((p.d.size:Int)+1)*s.snd.ser+((p.d.size:Int)+1):=by rw [Int.mul_add,Int.mul_one]
 have hk:s.kno=false:=by
  cases hkk:s.kno with
  |false=>rfl
  |true=>have:=h.kn.1 hkk;omega
 have hqf:=hq.fo.f;have hok:Fv (BO q (A1 p.c.rate s.now l) (s.snd.ser+1))=0:=Up hqf hc (by rw [hq.c,hq.fin];omega) (by omega);refine ⟨h.rd,h.rr,h.ps,h.lim,h.dk,h.gd,h.gr,h.now,⟨hq.c,hq.ses,hq.data,hq.fin,hok,?_⟩,h.rc,fun f hf => ?_,fun f hf => ?_,fun o ho => ?_,o1,fun _ => ?_,h.c1,h.c2,h.c3,?_,?_,?_,h.l1,h.l2,h.ds,?_,h.rv⟩
 ·simp only [BO];omega
 ·obtain ⟨f1,f2,f3,f4,f5⟩:=h.fd f hf;exact ⟨f1,by simp only [BO];omega,f3,f4,fun _ hs=>by simp only [BO] at hs;omega⟩
 ·obtain ⟨f1,f2,f3,f4,f5⟩:=h.fr f hf;exact ⟨f1,by simp only [BO];omega,f3,f4,fun hs=>by simp only [BO] at hs;omega⟩
 ·obtain ⟨k1,k2,k3,k4,k5⟩:=o2 o ho;exact ⟨k1,by simp only;omega,by simp only [BO];omega,by simp only [BO];omega,fun hcc=>(k5 hcc).1⟩
 ·simp only [BO,hq.c];omega
 ·simp only [BO,Dg];omega
 ·simp only [BO,Dg];omega
 ·simp only [BO,o4];omega
 ·simp only [BO,hk];simp
theorem Inv.turn {p:Par} {s:Ses} (h:Inv p s) {q:Snd} (hq:S6 p s.snd q) (st due:Int) (hst:st≠1) (hok:Fv {q with due:=due,st:=st}=0) (kno:Bool) (t:Int) (hk:kno=true↔st=2) :
  Inv p {s with snd:={q with due:=due,st:=st},kno:=kno,knoAt:=t}:=by
 refine ⟨h.rd,h.rr,h.ps,h.lim,h.dk,h.gd,h.gr,h.now,⟨hq.c,hq.ses,hq.data,hq.fin,hok,?_⟩,h.rc,fun f hf => ?_,fun f hf => ?_,fun o ho => ?_,h.po,fun q=>(hst q).elim,h.c1,h.c2,h.c3,?_,?_,?_,h.l1,h.l2,h.ds,hk,h.rv⟩
 ·simp only [hq.ser,hq.busy];exact h.sn.t
 ·simp only [hq.ser,hq.busy];exact h.fd f hf
 ·simp only [hq.ser,hq.busy];exact h.fr f hf
 ·simp only [hq.ser,hq.busy];exact h.pd o ho
 ·simp only [hq.busy];exact h.c4
 ·simp only [hq.ser];exact h.c5
 ·simp only [hq.ser];exact h.c6
theorem Inv.ls {p:Par} {s s':Ses} (hp:POk p) (h:Inv p s) (hg:PGt s) {f:Frame} {l:List Frame} (hf:s.rep.frames=f::l) (ha:f.arr=s.now) (hs:LsR p (Ab.CC s) f.seg s'):Inv p s':=by
 have hI:=h.CC;obtain ⟨f1,f2,f3,f4,f5⟩:=h.fr f (by rw [hf];simp);obtain ⟨hQ,_⟩:=h.sn.ack hp f1;have hkf:s.snd.st=1→s.kno=false:=fun q=>by
  cases hkk:s.kno with
  |false=>rfl
  |true=>have:=h.kn.1 hkk;omega
 cases hs with
 |busy _=>exact hI
 |same _ _=>exact hI
 |done h1 h2 h3 h4=>exact hI.turn hQ 2 0 (by decide) (done_ok hQ.fo.f h4) true s.now (by simp)
 |fail h1 h2 h3 h4 h5=>
  have:=hI.turn hQ 3 0 (by decide) (VZ hQ.fo.f) s.kno s.knoAt (by rw [hkf h2];simp);exact this
 |send h1 h2 h3 h4 h5=>
  have hb:=f5 h3;have hpn0:=KF (s:=s) h hg h1;have hpn:(Ab.CC s).pend=[]:=hpn0;exact hI.send hp hpn hQ h4 (hQ.bat hp h.sn h4) h2 (by show s.snd.busy+2*p.c.rng≤s.now;omega) h5
inductive ExR (p:Par) (s:Ses):Ses→Prop
 |same:¬(s.snd.st=1∧s.snd.due=s.now)→ExR p s s
 |fail:s.snd.st=1→s.snd.due=s.now→p.e<A1 p.c.rate s.now (Bv (Aa s.snd))→ExR p s {s with snd:=CF s.snd}
 |send:s.snd.st=1→s.snd.due=s.now→complete s.snd=false→A1 p.c.rate s.now (Bv (Aa s.snd))≤p.e→
   ExR p s {s with snd:=BO s.snd (A1 p.c.rate s.now (Bv (Aa s.snd))) (s.snd.ser+1),pend:=Bl p.c.rate s.now (Bv (Aa s.snd))}
theorem Ls.q {p:Par} {s:Snd} (hp:POk p) (h:Ls p s):S6 p s s:=⟨(h.fo hp).1,h.c,h.ses,h.data,h.fin,rfl,rfl⟩
theorem Inv.due {p:Par} {s:Ses} (h:Inv p s) (h1:s.snd.st=1):complete s.snd=false∧s.snd.due=s.snd.busy+2*p.c.rng+1:=by have:=Ld h.sn.ok h1;rw [h.sn.c] at this;exact this
theorem Inv.exR {p:Par} {s:Ses} (hp:POk p) (h:Inv p s) (hg:PGt s):ExR p s (exS s)∧(s.snd.st=1→s.snd.due=s.now→(Bt s.snd s.now).2.2=0∧(Bt s.snd s.now).2.1.length≤1000000):=by
 by_cases hq:s.snd.st=1∧s.snd.due=s.now
 ·obtain ⟨h1,h2⟩:=hq;obtain ⟨d1,d2⟩:=h.due h1;have hr:=hp.rng;have hn:=h.sn.num hp;have hsz:=hp.sz;have hpn:=KF h hg (by omega);have hQ:=h.sn.q hp;have hB:=(hQ.bat hp h.sn d1).last;have hw:Bt s.snd s.now=((BR s.snd s.now (Bv (Aa s.snd))).1,(BR s.snd s.now (Bv (Aa s.snd))).2,0):=by unfold Bt;rw [if_neg (by have:=h.sn.ok;omega),if_neg (by omega),if_neg (by omega)]
  have e:exS s={s with snd:=(Bt s.snd s.now).1,pend:=s.pend++(Bt s.snd s.now).2.1}:=if_pos ⟨h1,h2⟩;have hlen:=hB.len;rw [e,hw,hpn];rcases hQ.send (t:=s.now) hp h.sn d1 hB with ⟨g1,g2⟩|⟨g1,g2⟩
  ·rw [g2];refine ⟨?_,fun _ _=>⟨rfl,by simp⟩⟩;have e2:{s with snd:=CF s.snd,pend:=[]++[]}={s with snd:=CF s.snd}:=by simp only [hpn,yZ]
   simp only;rw [e2];exact .fail h1 h2 g1
  ·rw [g2];refine ⟨?_,fun _ _=>⟨rfl,by simp only [Dg];omega⟩⟩;simp only [xX];exact .send h1 h2 d1 g1
 ·have e:exS s=s:=if_neg hq;rw [e];exact ⟨.same hq,fun a b=>(hq ⟨a,b⟩).elim⟩
theorem Inv.ex {p:Par} {s s':Ses} (hp:POk p) (h:Inv p s) (hg:PGt s) (hs:ExR p s s'):Inv p s':=by
 have hQ:=h.sn.q hp;have hkf:s.snd.st=1→s.kno=false:=fun q=>by
  cases hkk:s.kno with
  |false=>rfl
  |true=>have:=h.kn.1 hkk;omega
 cases hs with
 |same _=>exact h
 |fail h1 h2 h3=>
  have:=h.turn hQ 3 0 (by decide) (VZ hQ.fo.f) s.kno s.knoAt (by rw [hkf h1];simp);exact this
 |send h1 h2 h3 h4=>
  obtain ⟨d1,d2⟩:=h.due h1;have hr:=hp.rng;exact h.send hp (KF h hg (by omega)) hQ h3 (hQ.bat hp h.sn h3).last h1 (by omega) h4
end Ab
namespace Ab
open Go
inductive Mic (p:Par):Ses→Ses→Prop
 |time (s:Ses) (t:Int):Inv p s→PGt s→DGt s→RGt s→UGt s→nxS s=some t→Mic p s {s with now:=t}
 |tx (s:Ses) (o:Out) (l:List Out):Inv p s→s.pend=o::l→o.at_=s.now→Mic p s {EU s o.seg with pend:=l}
 |rx (s:Ses) (f:Frame) (l:List Frame):Inv p s→PGt s→s.dat.frames=f::l→f.arr=s.now→Mic p s (rxX (BC s) f.seg)
 |ls (s s':Ses) (f:Frame) (l:List Frame):Inv p s→PGt s→DGt s→s.rep.frames=f::l→f.arr=s.now→LsR p (CC s) f.seg s'→Mic p s s'
 |ex (s s':Ses):Inv p s→PGt s→DGt s→RGt s→ExR p s s'→Mic p s s'
inductive Reach (p:Par) (s:Ses):Ses→Prop
 |refl:Reach p s s
 |step {t u:Ses}:Reach p s t→Mic p t u→Reach p s u
theorem Reach.trans {p:Par} {a b c:Ses} (h:Reach p a b) (k:Reach p b c):Reach p a c:=by
 induction k with
 |refl=>exact h
 |step _ m ih=>exact ih.step m
theorem Reach.one {p:Par} {a b:Ses} (m:Mic p a b):Reach p a b:=Reach.refl.step m
theorem KP {a b:Option Int} {t:Int} (h:C1 a b=some t):(∀x,a=some x→t≤x)∧(∀x,b=some x→t≤x)∧(a=some t∨b=some t):=by
 cases a with
 |none=>
  simp only [C1] at h;subst h;exact ⟨fun x hx=>(by cases hx),fun x hx=>(by cases hx;omega),.inr rfl⟩
 |some a=>
  cases b with
  |none=>
   simp only [C1] at h;cases h;exact ⟨fun x hx=>(by cases hx;omega),fun x hx=>(by cases hx),.inl rfl⟩
  |some b=>
   simp only [C1,Option.some.injEq] at h;split at h
   ·subst h;exact ⟨fun x hx=>(by cases hx;omega),fun x hx=>(by cases hx;omega),.inr rfl⟩
   ·subst h;exact ⟨fun x hx=>(by cases hx;omega),fun x hx=>(by cases hx;omega),.inl rfl⟩
theorem LU {a b:Option Int} (h:C1 a b=none):a=none∧b=none:=by
 cases a with
 |none=>cases b with
  |none=>exact ⟨rfl,rfl⟩
  |some b=>simp [C1] at h
 |some a=>cases b<;>simp [C1] at h
theorem YL {p:Par} {s:Ses} {t:Int} (h:Inv p s) (ht:nxS s=some t) :
  (∀o∈s.pend,t≤o.at_)∧(∀f∈s.dat.frames,t≤f.arr)∧(∀f∈s.rep.frames,t≤f.arr)∧(s.snd.st=1→t≤s.snd.due)∧
  ((∃o∈s.pend,o.at_=t)∨(∃f∈s.dat.frames,f.arr=t)∨(∃f∈s.rep.frames,f.arr=t)∨(s.snd.st=1∧s.snd.due=t)):=by
 unfold nxS at ht;obtain ⟨a1,a2,a3⟩:=KP ht;have hp:∀x,s.pend.head?.map (·.at_)=some x→(∀o∈s.pend,x≤o.at_)∧∃o∈s.pend,o.at_=x:=by
  intro x hx;have hs:=h.po;cases hpd:s.pend with
  |nil=>rw [hpd] at hx;cases hx
  |cons o l=>
   rw [hpd] at hx hs;simp only [vN,yT,Option.some.injEq] at hx;subst hx;rw [wC] at hs;refine ⟨fun y hy => ?_,o,by simp,rfl⟩;rcases xP.1 hy with rfl|hy
   ·omega
   ·have:=hs.1 y hy;omega
 have hc:∀(c:BI) x,c.frames.Pairwise (fun a b=>a.arr≤b.arr)→Ax c=some x→(∀f∈c.frames,x≤f.arr)∧∃f∈c.frames,f.arr=x:=by
  intro c x hs hx;unfold Ax at hx;cases hpd:c.frames with
  |nil=>rw [hpd] at hx;cases hx
  |cons o l=>
   rw [hpd] at hx hs;simp only [vN,yT,Option.some.injEq] at hx;subst hx;rw [wC] at hs;refine ⟨fun y hy => ?_,o,by simp,rfl⟩;rcases xP.1 hy with rfl|hy
   ·omega
   ·exact hs.1 y hy
 have key:∀{a b:Option Int} {t:Int},C1 a b=some t→(∀x,a=some x→t≤x)∧(∀x,b=some x→t≤x):=fun h=>⟨(KP h).1,(KP h).2.1⟩
 have h3:∀x,C1 (C1 (s.pend.head?.map (·.at_)) (Ax s.dat)) (Ax s.rep)=some x→(∀o∈s.pend,x≤o.at_)∧(∀f∈s.dat.frames,x≤f.arr)∧(∀f∈s.rep.frames,x≤f.arr)∧((∃o∈s.pend,o.at_=x)∨(∃f∈s.dat.frames,f.arr=x)∨∃f∈s.rep.frames,f.arr=x):=by
  intro x hx;obtain ⟨b1,b2,b3⟩:=KP hx;have hr:∀f∈s.rep.frames,x≤f.arr:=by
   intro f hf;cases hn:Ax s.rep with
   |none=>
    unfold Ax at hn;cases hff:s.rep.frames with
    |nil=>rw [hff] at hf;cases hf
    |cons a l=>rw [hff] at hn;cases hn
   |some y=>have:=(hc s.rep y h.gr.srt hn).1 f hf;have:=b2 y hn;omega
  have h2:∀y,C1 (s.pend.head?.map (·.at_)) (Ax s.dat)=some y→(∀o∈s.pend,y≤o.at_)∧(∀f∈s.dat.frames,y≤f.arr)∧((∃o∈s.pend,o.at_=y)∨∃f∈s.dat.frames,f.arr=y):=by
   intro y hy;obtain ⟨d1,d2,d3⟩:=KP hy;refine ⟨fun o ho => ?_,fun f hf => ?_,?_⟩
   ·cases hn:s.pend.head?.map (·.at_) with
    |none=>
     cases hff:s.pend with
     |nil=>rw [hff] at ho;cases ho
     |cons a l=>rw [hff] at hn;cases hn
    |some z=>have:=(hp z hn).1 o ho;have:=d1 z hn;omega
   ·cases hn:Ax s.dat with
    |none=>
     unfold Ax at hn;cases hff:s.dat.frames with
     |nil=>rw [hff] at hf;cases hf
     |cons a l=>rw [hff] at hn;cases hn
    |some z=>have:=(hc s.dat z h.gd.srt hn).1 f hf;have:=d2 z hn;omega
   ·rcases d3 with d3|d3
    ·exact .inl (hp y d3).2
    ·exact .inr (hc s.dat y h.gd.srt d3).2
  cases hm:C1 (s.pend.head?.map (·.at_)) (Ax s.dat) with
  |none=>
   obtain ⟨e1,e2⟩:=LU hm;have hpe:s.pend=[]:=by cases hff:s.pend with|nil=>rfl|cons a l=>rw [hff] at e1;cases e1
   have hde:s.dat.frames=[]:=by unfold Ax at e2;cases hff:s.dat.frames with|nil=>rfl|cons a l=>rw [hff] at e2;cases e2
   rw [hm] at b3;rcases b3 with b3|b3
   ·cases b3
   ·exact ⟨by rw [hpe];simp,by rw [hde];simp,hr,.inr (.inr (hc s.rep x h.gr.srt b3).2)⟩
  |some y=>
   obtain ⟨q1,q2,q3⟩:=h2 y hm;have hxy:=b1 y hm;refine ⟨fun o ho=>by have:=q1 o ho;omega,fun f hf=>by have:=q2 f hf;omega,hr,?_⟩;rcases b3 with b3|b3
   ·rw [hm] at b3;cases b3;rcases q3 with q3|q3
    ·exact .inl q3
    ·exact .inr (.inl q3)
   ·exact .inr (.inr (hc s.rep x h.gr.srt b3).2)
 have hdue:s.snd.st=1→t≤s.snd.due:=fun q=>a2 _ (by rw [if_pos q]);cases hm:C1 (C1 (s.pend.head?.map (·.at_)) (Ax s.dat)) (Ax s.rep) with
 |none=>
  obtain ⟨e0,e3⟩:=LU hm;obtain ⟨e1,e2⟩:=LU e0;have hpe:s.pend=[]:=by cases hff:s.pend with|nil=>rfl|cons a l=>rw [hff] at e1;cases e1
  have hde:s.dat.frames=[]:=by unfold Ax at e2;cases hff:s.dat.frames with|nil=>rfl|cons a l=>rw [hff] at e2;cases e2
  have hre:s.rep.frames=[]:=by unfold Ax at e3;cases hff:s.rep.frames with|nil=>rfl|cons a l=>rw [hff] at e3;cases e3
  refine ⟨by rw [hpe];simp,by rw [hde];simp,by rw [hre];simp,hdue,?_⟩;rw [hm] at a3;rcases a3 with a3|a3
  ·cases a3
  ·by_cases q:s.snd.st=1
   ·rw [if_pos q] at a3;cases a3;exact .inr (.inr (.inr ⟨q,rfl⟩))
   ·rw [if_neg q] at a3;cases a3
 |some y=>
  obtain ⟨q1,q2,q3,q4⟩:=h3 y hm;have hty:=a1 y hm;refine ⟨fun o ho=>by have:=q1 o ho;omega,fun f hf=>by have:=q2 f hf;omega,fun f hf=>by have:=q3 f hf;omega,hdue,?_⟩;rcases a3 with a3|a3
  ·rw [hm] at a3;cases a3;rcases q4 with q|q|q
   ·exact .inl q
   ·exact .inr (.inl q)
   ·exact .inr (.inr (.inl q))
  ·by_cases q:s.snd.st=1
   ·rw [if_pos q] at a3;cases a3;exact .inr (.inr (.inr ⟨q,rfl⟩))
   ·rw [if_neg q] at a3;cases a3
theorem Inv.at {p:Par} {s:Ses} {t:Int} (h:Inv p s) (ht0:0≤t) (ht:nxS s=some t):Inv p {s with now:=t}:=by
 obtain ⟨n1,n2,n3,n4,n5⟩:=YL h ht;exact {h with
  now:=ht0
  fd:=fun f hf=>by obtain ⟨f1,f2,f3,f4,f5⟩:=h.fd f hf;exact ⟨f1,f2,n2 f hf,f4,f5⟩
  fr:=fun f hf=>by obtain ⟨f1,f2,f3,f4,f5⟩:=h.fr f hf;exact ⟨f1,f2,n3 f hf,f4,f5⟩
  pd:=fun o ho=>by obtain ⟨f1,f2,f3,f4,f5⟩:=h.pd o ho;exact ⟨f1,n1 o ho,f3,f4,f5⟩
  du:=n4}
structure Wt (p:Par) (s:Ses):Prop where
 i:Inv p s
 pg:PGt s
 dg:DGt s
 rg:RGt s
 ug:UGt s
theorem Wt.nx {p:Par} {s:Ses} {t:Int} (hp:POk p) (h:Wt p s) (ht:nxS s=some t):s.now<t∧t≤p.e+4*p.c.rng+2:=by
 have hr:=hp.rng;have hn:=h.i.sn.num hp;rcases (YL h.i ht).2.2.2.2 with ⟨o,ho,rfl⟩|⟨f,hf,rfl⟩|⟨f,hf,rfl⟩|⟨h1,rfl⟩
 ·have:=h.pg o ho;have:=h.i.pd o ho;omega
 ·have:=h.dg f hf;have:=h.i.fd f hf;omega
 ·have:=h.rg f hf;have:=h.i.fr f hf;omega
 ·have:=h.ug h1;have:=(h.i.due h1).2;omega
end Ab
namespace Ab
open Go
theorem tx_gt {p:Par} {s:Ses} {o:Out} {l:List Out} (h:Inv p s) (hp:s.pend=o::l) (ho:o.at_≠s.now):PGt s:=by
 have h0:=(h.pd o (by rw [hp];simp)).2.1;have hs:=h.po;rw [hp,wC] at hs;intro x hx;rw [hp] at hx;rcases xP.1 hx with rfl|hx
 ·omega
 ·have:=hs.1 x hx;omega
theorem XH {p:Par} (hp:POk p):∀(k:Nat) (s:Ses),Inv p s→s.pend.length≤k→Reach p s (txS k s)∧Inv p (txS k s)∧PGt (txS k s)∧(txS k s).now=s.now
 |0,s,h,hk=>⟨.refl,h,(fun o ho=>by have e:s.pend=[]:=wW.1 (by omega);change o∈s.pend at ho;rw [e] at ho;cases ho),rfl⟩
 |k+1,s,h,hk=>by
  unfold txS;cases hpd:s.pend with
  |nil=>exact ⟨.refl,h,fun o ho=>(by simp only [hpd] at ho;cases ho),rfl⟩
  |cons o l=>
   simp only;split
   ·rename_i ha;have hI:=h.tx hp hpd ha;obtain ⟨i1,i2,i3,i4⟩:=XH hp k _ hI (by rw [hpd] at hk;simpa using hk);exact ⟨(Reach.one (.tx s o l h hpd ha)).trans i1,i2,i3,i4⟩
   ·rename_i ha;exact ⟨.refl,h,tx_gt h hpd ha,rfl⟩
theorem N0:∀(l:List Seg) (s:Ses),(l.foldl CM s).pend=s.pend∧(l.foldl CM s).snd=s.snd∧(l.foldl CM s).sent=s.sent∧(l.foldl CM s).rcv=s.rcv∧(l.foldl CM s).kno=s.kno∧(l.foldl CM s).knoAt=s.knoAt∧(l.foldl CM s).rcvd=s.rcvd∧(l.foldl CM s).arrive=s.arrive
 |[],s=>⟨rfl,rfl,rfl,rfl,rfl,rfl,rfl,rfl⟩
 |x::l,s=>by rw [wU];exact N0 l _
theorem Rn (s:Ses) (x:Seg):(rxX s x).pend=s.pend∧(rxX s x).snd=s.snd∧(rxX s x).sent=s.sent∧(rxX s x).kno=s.kno∧(rxX s x).knoAt=s.knoAt:=by
 obtain ⟨a1,a2,a3,a4,a5,a6,a7⟩:=N0 (DX s.rcv x).2.1 {s with rcv:=(DX s.rcv x).1};unfold rxX rxF rxH;split
 ·exact ⟨a1,a2,a3,a5,a6⟩
 ·exact ⟨a1,a2,a3,a5,a6⟩
theorem Inv.rxG {p:Par} {s:Ses} (h:PGt s) {x:Seg}:PGt (rxX (BC s) x):=by intro o ho;rw [(Rn _ _).1] at ho;rw [J6];exact h o ho
theorem Xf {p:Par} (hp:POk p):∀(k:Nat) (s:Ses),Inv p s→PGt s→s.dat.frames.length≤k→Reach p s (rxS k s)∧Inv p (rxS k s)∧PGt (rxS k s)∧DGt (rxS k s)∧(rxS k s).now=s.now
 |0,s,h,hg,hk=>⟨.refl,h,hg,(fun o ho=>by have e:s.dat.frames=[]:=wW.1 (by omega);change o∈s.dat.frames at ho;rw [e] at ho;cases ho),rfl⟩
 |k+1,s,h,hg,hk=>by
  unfold rxS;cases hpd:s.dat.frames with
  |nil=>exact ⟨.refl,h,hg,fun o ho=>(by rw [hpd] at ho;cases ho),rfl⟩
  |cons f l=>
   simp only;split
   ·rename_i ha;have hI:=h.rx hp hpd ha;obtain ⟨i1,i2,i3,i4,i5⟩:=Xf hp k _ hI (Inv.rxG (p:=p) hg) (by rw [Es];simp only [BC,List.length_tail];omega);exact ⟨(Reach.one (.rx s f l h hg hpd ha)).trans i1,i2,i3,i4,by rw [i5,J6];rfl⟩
   ·rename_i ha;refine ⟨.refl,h,hg,?_,rfl⟩;have h0:=(h.fd f (by rw [hpd];simp)).2.2.1;have hs:=h.gd.srt;rw [hpd,wC] at hs;intro x hx;rw [hpd] at hx;rcases xP.1 hx with rfl|hx
    ·omega
    ·have:=hs.1 x hx;omega
theorem K6.gt {p:Par} {s:Ses} {q:Snd} {l:List Seg} (hp:POk p) (hl:K6 p.d (s.snd.ser+1) l) (hs:0≤s.snd.ser+1) {o:Out} (ho:o∈Bl p.c.rate s.now l):s.now<o.at_:=by have hr:=hp.rng;exact ((hl.outs (t:=s.now) ⟨hr.2.2.1,hr.2.2.2.1⟩ hs).2.1 o ho).2.1
theorem Mic.lsG {p:Par} {s s':Ses} (hp:POk p) (h:Inv p s) (hg:PGt s) (hd:DGt s) {f:Frame} {l:List Frame} (hf:s.rep.frames=f::l) (ha:f.arr=s.now) (hs:LsR p (CC s) f.seg s'):PGt s'∧DGt s'∧s'.now=s.now∧s'.rep.frames=l:=by
 obtain ⟨f1,f2,f3,f4,f5⟩:=h.fr f (by rw [hf];simp);have hl:(CC s).rep.frames=l:=by simp [CC,hf]
 cases hs with
 |busy _=>exact ⟨hg,hd,rfl,hl⟩
 |same _ _=>exact ⟨hg,hd,rfl,hl⟩
 |done h1 h2 h3 h4=>exact ⟨hg,hd,rfl,hl⟩
 |fail h1 h2 h3 h4 h5=>exact ⟨hg,hd,rfl,hl⟩
 |send h1 h2 h3 h4 h5=>
  obtain ⟨hQ,_⟩:=h.sn.ack hp f1;have hn:=h.sn.num hp;have hB:=hQ.bat hp h.sn h4;exact ⟨fun o ho=>K6.gt (s:=s) (q:=s.snd) hp hB (by omega) ho,hd,rfl,hl⟩
theorem YS {p:Par} (hp:POk p):∀(k:Nat) (s:Ses),Inv p s→PGt s→DGt s→s.rep.frames.length≤k→Reach p s (lsS k s)∧Inv p (lsS k s)∧PGt (lsS k s)∧DGt (lsS k s)∧RGt (lsS k s)∧(lsS k s).now=s.now
 |0,s,h,hg,hd,hk=>⟨.refl,h,hg,hd,(fun o ho=>by have e:s.rep.frames=[]:=wW.1 (by omega);change o∈s.rep.frames at ho;rw [e] at ho;cases ho),rfl⟩
 |k+1,s,h,hg,hd,hk=>by
  unfold lsS;cases hpd:s.rep.frames with
  |nil=>exact ⟨.refl,h,hg,hd,fun o ho=>(by rw [hpd] at ho;cases ho),rfl⟩
  |cons f l=>
   simp only;split
   ·rename_i ha;have hR:=(h.lsR hp hg hpd ha).1;have hI:=h.ls hp hg hpd ha hR;obtain ⟨g1,g2,g3,g4⟩:=Mic.lsG hp h hg hd hpd ha hR;obtain ⟨i1,i2,i3,i4,i5,i6⟩:=YS hp k _ hI g1 g2 (by rw [g4];rw [hpd] at hk;simpa using hk);exact ⟨(Reach.one (.ls s _ f l h hg hd hpd ha hR)).trans i1,i2,i3,i4,i5,by rw [i6,g3]⟩
   ·rename_i ha;refine ⟨.refl,h,hg,hd,?_,rfl⟩;have h0:=(h.fr f (by rw [hpd];simp)).2.2.1;have hs:=h.gr.srt;rw [hpd,wC] at hs;intro x hx;rw [hpd] at hx;rcases xP.1 hx with rfl|hx
    ·omega
    ·have:=hs.1 x hx;omega
theorem exR_ok {p:Par} {s s':Ses} (hp:POk p) (h:Inv p s) (hg:PGt s) (hd:DGt s) (hr:RGt s) (hR:ExR p s s'):Wt p s'∧s'.now=s.now:=by
 have hI:=h.ex hp hg hR;cases hR with
 |same hn=>exact ⟨⟨h,hg,hd,hr,fun h1=>by have:=h.du h1;have:=fun q=>hn ⟨h1,q⟩;omega⟩,rfl⟩
 |fail h1 h2 h3=>exact ⟨⟨hI,hg,hd,hr,fun q=>by simp [CF] at q⟩,rfl⟩
 |send h1 h2 h3 h4=>
  have hQ:=h.sn.q hp;have hB:=(hQ.bat hp h.sn h3).last;have hn:=h.sn.num hp;have hrr:=hp.rng;have ho:=hB.outs (t:=s.now) ⟨hrr.2.2.1,hrr.2.2.2.1⟩ (by omega);refine ⟨⟨hI,fun o ho=>K6.gt (s:=s) (q:=s.snd) hp hB (by omega) ho,hd,hr,fun q => ?_⟩,rfl⟩;have:=(hI.due q).2;have e:({s with snd:=BO s.snd (A1 p.c.rate s.now (Bv (Aa s.snd))) (s.snd.ser+1),pend:=Bl p.c.rate s.now (Bv (Aa s.snd))}:Ses).snd.busy=A1 p.c.rate s.now (Bv (Aa s.snd)):=rfl;rw [e] at this;show s.now<_;omega
theorem YD {p:Par} {s:Ses} {t:Int} (hp:POk p) (h:Wt p s) (ht:nxS s=some t):Reach p s (ph1 s t)∧Inv p (ph1 s t)∧PGt (ph1 s t)∧(ph1 s t).now=t:=by have hI:=h.i.at (t:=t) (by have:=(h.nx hp ht).1;have:=h.i.now;omega) ht;obtain ⟨a1,a2,a3,a4⟩:=XH hp s.pend.length _ hI (yI _);exact ⟨(Reach.one (.time s t h.i h.pg h.dg h.rg h.ug ht)).trans a1,a2,a3,a4⟩
theorem YC {p:Par} {s:Ses} {t:Int} (hp:POk p) (h:Wt p s) (ht:nxS s=some t):Reach p s (ph2 s t)∧Inv p (ph2 s t)∧PGt (ph2 s t)∧DGt (ph2 s t)∧(ph2 s t).now=t:=by obtain ⟨a1,a2,a3,a4⟩:=YD hp h ht;obtain ⟨b1,b2,b3,b4,b5⟩:=Xf hp _ _ a2 a3 (yI _);exact ⟨a1.trans b1,b2,b3,b4,by unfold ph2;rw [b5,a4]⟩
theorem YB {p:Par} {s:Ses} {t:Int} (hp:POk p) (h:Wt p s) (ht:nxS s=some t):Reach p s (ph3 s t)∧Inv p (ph3 s t)∧PGt (ph3 s t)∧DGt (ph3 s t)∧RGt (ph3 s t)∧(ph3 s t).now=t:=by obtain ⟨a1,a2,a3,a4,a5⟩:=YC hp h ht;obtain ⟨b1,b2,b3,b4,b5,b6⟩:=YS hp _ _ a2 a3 a4 (yI _);exact ⟨a1.trans b1,b2,b3,b4,b5,by unfold ph3;rw [b6,a5]⟩
theorem XR {p:Par} {s:Ses} {t:Int} (hp:POk p) (h:Wt p s) (ht:nxS s=some t):Reach p s (stS s t)∧Wt p (stS s t)∧(stS s t).now=t:=by obtain ⟨a1,a2,a3,a4,a5,a6⟩:=YB hp h ht;have hR:=(a2.exR hp a3).1;obtain ⟨b1,b2⟩:=exR_ok hp a2 a3 a4 a5 hR;exact ⟨a1.trans (Reach.one (.ex _ _ a2 a3 a4 a5 hR)),b1,by unfold stS;rw [b2,a6]⟩
def muS (p:Par) (s:Ses):Nat:=(p.e+4*p.c.rng+3-s.now).toNat
theorem Inv.small {p:Par} {s:Ses} (hp:POk p) (h:Inv p s):s.entered≤5000∧s.pend.length≤5000:=by have hB:=h.bud hp (k:=0) (by omega) (fun q=>by omega);have:=hB.ent;have hs:=h.sn.num hp;have hb:=hp.bud s.snd.ser (by omega) (by have:=h.sn.t;omega);have:=h.c4;have:=h.c5;have:=h.sn.t;have hz:(s.snd.ser-1)*1≤(s.snd.ser-1)*(2*p.c.rng+1):=Int.mul_le_mul_of_nonneg_left (by have:=hp.rng;omega) (by omega);refine ⟨by omega,?_⟩;rcases hb with hb|hb<;>omega
theorem runP {p:Par} (hp:POk p):UF (Wt p) (fun s=>Inv p s∧PGt s) (fun s=>Inv p s∧PGt s∧DGt s) (muS p):=by
 refine ⟨⟨fun s h=>h.1.gd,fun s f l h hf ha => ?_⟩,⟨fun s h=>h.1.gr,fun s h => ?_,fun s f l h hf ha => ?_⟩,fun s h => ?_,fun s t h ht => ?_,fun s t h ht => ?_,fun s t h ht => ?_,fun s t h ht => ?_,fun s t h ht => ?_⟩
 ·obtain ⟨hI,hg⟩:=h;obtain ⟨f1,f2,f3,f4,f5⟩:=hI.fd f (by rw [hf];simp);have hn:=hI.sn.num hp;have hr:=hp.rng;refine ⟨by rw [(hI.VL hp f1).1],?_,hI.rx hp hf ha,Inv.rxG (p:=p) hg⟩;rw [(hI.VL hp f1).1];refine (hI.bud hp ?_ (fun _=>by omega)).BC;rw [hf];simp only [vJ];split
  ·simp only [zW,zX];omega
  ·simp only [zX];omega
 ·have:=(h.1.sn.fo hp).2;have:=(h.1.small hp).2;omega
 ·obtain ⟨hI,hg,hd⟩:=h;obtain ⟨f1,f2,f3,f4,f5⟩:=hI.fr f (by rw [hf];simp);obtain ⟨r1,r2⟩:=hI.lsR hp hg hf ha;obtain ⟨g1,g2,g3,g4⟩:=Mic.lsG hp hI hg hd hf ha r1;have:=f1.few hp.sz.2;exact ⟨.inl (by omega),r2,hI.ls hp hg hf ha r1,g1,g2⟩
 ·have:=(h.i.small hp).1;exact ⟨by omega,h.i.gd,h.i.gr⟩
 ·have hI:=h.i.at (t:=t) (by have:=(h.nx hp ht).1;have:=h.i.now;omega) ht;refine hI.bud hp (show (s.pend.length:Int)≤s.pend.length+(s.dat.frames.countP (fun f=>f.seg.chk):Nat) by omega) (fun hk => ?_);obtain ⟨n1,n2⟩:=YL h.i ht;cases hpd:s.pend with
  |nil=>rw [hpd] at hk;simp at hk
  |cons o l=>
   have h1:=n1 o (by rw [hpd];simp);have h2:=h.i.pd o (by rw [hpd];simp);have hn:=h.i.sn.num hp;have hr:=hp.rng;show t≤_;omega
 ·have:=YD hp h ht;exact ⟨this.2.1,this.2.2.1⟩
 ·have:=YC hp h ht;exact ⟨this.2.1,this.2.2.1,this.2.2.2.1⟩
 ·obtain ⟨a1,a2,a3,a4,a5,a6⟩:=YB hp h ht;have:=(a2.small hp)
  have:=(a2.sn.fo hp).2;exact ⟨by omega,by omega,by omega,(a2.exR hp a3).2⟩
 ·obtain ⟨a1,a2,a3⟩:=XR hp h ht;have:=h.nx hp ht;refine ⟨a2,?_⟩;unfold muS;rw [a3];omega
theorem Uy {p:Par} (hp:POk p):∀(k:Nat) (s:Ses),Wt p s→muS p s≤k→Reach p s (Gp k s)∧Wt p (Gp k s)∧nxS (Gp k s)=none
 |0,s,h,hk=>by
  refine ⟨.refl,h,?_⟩;cases hn:nxS s with
  |none=>exact hn
  |some t=>
   have:=h.nx hp hn;unfold muS at hk;omega
 |k+1,s,h,hk=>by
  unfold Gp;cases hn:nxS s with
  |none=>exact ⟨.refl,h,hn⟩
  |some t=>
   simp only;obtain ⟨a1,a2,a3⟩:=XR hp h hn;have:=h.nx hp hn;obtain ⟨b1,b2,b3⟩:=Uy hp k _ a2 (by unfold muS at hk ⊢;rw [a3];omega);exact ⟨a1.trans b1,b2,b3⟩
theorem XP {p:Par} (hp:POk p) (h:(Ak p.c 0 p.d p.b p.e).2.2=0) :
  K6 p.d 1 (CU 0 1 p.d (AY p.d))∧A1 p.c.rate p.b (CU 0 1 p.d (AY p.d))≤p.e∧
  (Ak p.c 0 p.d p.b p.e).1=BO (BG p.c 0 p.d p.e) (A1 p.c.rate p.b (CU 0 1 p.d (AY p.d))) 1∧(Ak p.c 0 p.d p.b p.e).2.1=Bl p.c.rate p.b (CU 0 1 p.d (AY p.d)):=by
 have hd:=hp.sz;have hB:=batP (LA (ses:=0) (d:=p.d) ⟨by omega,by omega⟩ ⟨by omega,by omega⟩);obtain ⟨pre,x,e,h1,h2,h3⟩:=hB.ex;have hlast:(CU 0 1 p.d (AY p.d)).getLast? = some x:=by rw [e];exact wV ..
 have ht:=hp.t;have e0:Ak p.c 0 p.d p.b p.e=if (BR (BG p.c 0 p.d p.e) p.b (CU 0 1 p.d (AY p.d))).1.st=3 then Ba 16 else ((BR (BG p.c 0 p.d p.e) p.b (CU 0 1 p.d (AY p.d))).1,(BR (BG p.c 0 p.d p.e) p.b (CU 0 1 p.d (AY p.d))).2,0):=by unfold Ak;rw [if_neg (by have:=hp.con;omega),if_neg (by omega),if_neg (by omega),if_neg (by omega),if_neg (by omega)]
 have e1:BR (BG p.c 0 p.d p.e) p.b (CU 0 1 p.d (AY p.d))=if p.e<A1 p.c.rate p.b (CU 0 1 p.d (AY p.d))∨1099511627776<x.ser then (CF (BG p.c 0 p.d p.e),[]) else (BO (BG p.c 0 p.d p.e) (A1 p.c.rate p.b (CU 0 1 p.d (AY p.d))) x.ser,Bl p.c.rate p.b (CU 0 1 p.d (AY p.d))):=by unfold BR;rw [hlast];rfl
 by_cases hb:p.e<A1 p.c.rate p.b (CU 0 1 p.d (AY p.d))
 ·exfalso;rw [e0,e1,if_pos (Or.inl hb)] at h;simp [Ba,CF] at h
 ·rw [if_neg (by omega),h2] at e1;rw [e0,e1,if_neg (by simp [BO])];exact ⟨hB,by omega,rfl,rfl⟩
def WT (p:Par):Ses:=ini p.c p.b p.e p.d p.ps p.lim p.dk
theorem Qm {p:Par} (hp:POk p) (h:(Ak p.c 0 p.d p.b p.e).2.2=0):Wt p (WT p):=by
 obtain ⟨hB,he,e1,e2⟩:=XP hp h;have hr:=hp.rng;have hd:=hp.sz;have ht:=hp.t;obtain ⟨o1,o2,o3,o4,o5⟩:=hB.outs (t:=p.b) ⟨hr.2.2.1,hr.2.2.2.1⟩ (by omega);have hlen:=hB.len;let q:Snd:={BG p.c 0 p.d p.e with busy:=A1 p.c.rate p.b (CU 0 1 p.d (AY p.d)),ser:=1}
 have hq:FU q=0:=by
  unfold FU;have a1:Cq q:=by unfold Cq;simp only [q,BG];omega
  have a2:Mf q:=⟨Q1,.inl rfl⟩
  rw [if_neg (fun f=>f hp.con),if_neg (fun f=>f a1),if_neg (fun f=>f a2)]
 have hc0:complete q=false:=by simp [complete,q,BG,AY]
 have hok:=Up (t:=A1 p.c.rate p.b (CU 0 1 p.d (AY p.d))) (ser:=1) hq hc0 (by simp only [q,BG];omega) (by omega);have e3:BO q (A1 p.c.rate p.b (CU 0 1 p.d (AY p.d))) 1=BO (BG p.c 0 p.d p.e) (A1 p.c.rate p.b (CU 0 1 p.d (AY p.d))) 1:=rfl;rw [e3] at hok;have ei:WT p=⟨⟨p.c.rng,[],0,0⟩,⟨p.c.rng,[],0,0⟩,p.ps,p.lim,p.dk,0,0,[],[],0,BO (BG p.c 0 p.d p.e) (A1 p.c.rate p.b (CU 0 1 p.d (AY p.d))) 1,R0,Bl p.c.rate p.b (CU 0 1 p.d (AY p.d)),false,0,false,0⟩:=by unfold WT ini;rw [e1,e2];rfl
 rw [ei];have hgc:Bn ⟨p.c.rng,[],0,0⟩:=⟨by simp only;omega,by simp,by simp,by simp,(fun f hf=>by cases hf),List.Pairwise.nil⟩
 refine ⟨⟨rfl,rfl,rfl,rfl,rfl,hgc,hgc,Int.le_refl _,⟨rfl,rfl,rfl,rfl,hok,?_⟩,⟨[],XQ _,fun x hx=>by cases hx⟩,(fun f hf=>by cases hf),(fun f hf=>by cases hf),fun o ho => ?_,o1,fun _ => ?_,rfl,rfl,rfl,?_,?_,?_,?_,?_,?_,?_,(show false=Ay R0 by decide)⟩,fun o ho => ?_,(fun f hf=>by cases hf),(fun f hf=>by cases hf),fun _ => ?_⟩
 ·simp only [BO,BG];omega
 ·obtain ⟨k1,k2,k3,k4,k5⟩:=o2 o ho;exact ⟨k1,by simp only;omega,by simp only [BO];omega,by simp only [BO];omega,fun hcc=>(k5 hcc).1⟩
 ·simp only [BO,BG];omega
 ·simp only [BO,BG,Dg,zX];omega
 ·simp only [BO,BG,Dg,zX];omega
 ·simp only [BO,BG,o4,zX,List.countP_nil];omega
 ·simp
 ·simp
 ·simp
 ·simp [BO]
 ·have:=o2 o ho;simp only;omega
 ·simp only [BO,BG];omega
end Ab
namespace Ab
open Go
structure RxF (p:Par) (s s':Ses) (f:Frame) (l:List Frame):Prop where
 sp:OV p.d f.seg
 rcv:s'.rcv=CQ s.rcv f.seg
 mem:∀t,Ac t s'.rcv.known↔Ac t s.rcv.known∨(f.seg.off≤t∧t<f.seg.off+f.seg.data.size)
 dat:s'.dat={s.dat with frames:=l}
 snd:s'.snd=s.snd
 pend:s'.pend=s.pend
 sent:s'.sent=s.sent
 now:s'.now=s.now
 kno:s'.kno=s.kno
 knoAt:s'.knoAt=s.knoAt
 rcvd:s'.rcvd=Ay s'.rcv
 arr:s'.arrive=if s.rcvd=false∧s'.rcvd=true then s.now else s.arrive
 cl:(B9 s.rcv f.seg).claims=s'.rcv.known
 no:f.seg.chk=false→s'.rep=s.rep∧s'.told=s.told∧s'.entered=s.entered∧s'.dist=s.dist
 yes:f.seg.chk=true→Kr p.d (B9 s.rcv f.seg)∧s'.rep=CT s.rep s.now (B9 s.rcv f.seg) (C9 s p.c.rng).1∧s'.told=s.told++[⟨s.now,B9 s.rcv f.seg⟩]∧s'.entered=s.entered+1∧s'.dist=(C9 s p.c.rng).2
 mono:s.rcvd=true→s'.rcvd=true
theorem rxF_f (s:Ses):(rxF s).rcv=s.rcv∧(rxF s).rep=s.rep∧(rxF s).told=s.told∧(rxF s).entered=s.entered∧(rxF s).dist=s.dist∧(rxF s).arrive=if s.rcvd=false∧Ay s.rcv=true then s.now else s.arrive:=by
 unfold rxF;by_cases h:s.rcvd=false∧Ay s.rcv=true
 ·rw [if_pos h,if_pos h];exact ⟨rfl,rfl,rfl,rfl,rfl,rfl⟩
 ·rw [if_neg h,if_neg h];exact ⟨rfl,rfl,rfl,rfl,rfl,rfl⟩
theorem Inv.rxFs {p:Par} {s:Ses} (hp:POk p) (h:Inv p s) {f:Frame} {l:List Frame} (hf:s.dat.frames=f::l) (ha:f.arr=s.now):RxF p s (rxX (BC s) f.seg) f l:=by
 obtain ⟨f1,f2,f3,f4,f5⟩:=h.fd f (by rw [hf];simp);obtain ⟨e1,e2,e3,e4,e5,e6⟩:=h.VL hp f1;have hI:=h.rx hp hf ha;have hfr:s.dat.frames.tail=l:=by rw [hf];rfl
 have hrr:(BC s).rep.rng=p.c.rng:=h.rr;have hpop:(BC s).rcv=s.rcv:=rfl;have hH:rxH (BC s) f.seg=if f.seg.chk=true then CM {BC s with rcv:=CQ s.rcv f.seg} (B9 s.rcv f.seg) else {BC s with rcv:=CQ s.rcv f.seg}:=by unfold rxH;rw [hpop,e1];split<;>rfl
 obtain ⟨q1,q2,q3,q4,q5,q6⟩:=rxF_f (rxH (BC s) f.seg);have e0:rxX (BC s) f.seg=rxF (rxH (BC s) f.seg):=rfl;rw [← e0] at q1 q2 q3 q4 q5 q6;have hrv:(rxX (BC s) f.seg).rcv=CQ s.rcv f.seg:=by rw [q1,hH];split<;>rfl
 obtain ⟨p1,p2,p3,p4,p5⟩:=Rn (BC s) f.seg;have hrc:(rxX (BC s) f.seg).rcvd=Ay (CQ s.rcv f.seg):=by rw [hI.rv,hrv]
 refine ⟨f1,hrv,by rw [hrv];exact e4,by rw [Es];simp [BC,hfr],p2,p1,p3,by rw [J6];rfl,p4,p5,hI.rv,?_,by rw [hrv];exact e6,fun hc => ?_,fun hc=>⟨e3 hc,?_⟩,fun q=>by rw [hrc];exact e5 (by rw [← h.rv];exact q)⟩
 ·rw [hrc,q6,hH];split<;>rfl
 ·rw [q2,q3,q4,q5,hH,if_neg (by simp [hc])];exact ⟨rfl,rfl,rfl,rfl⟩
 ·rw [q2,q3,q4,q5,hH,if_pos hc];have e:(C9 {BC s with rcv:=CQ s.rcv f.seg} p.c.rng)=C9 s p.c.rng:=rfl;simp only [CM];rw [hrr,e];exact ⟨rfl,rfl,rfl,rfl⟩
theorem Reach.ind {p:Par} {a b:Ses} (P:Ses→Prop) (h:Reach p a b) (h0:P a) (hs:∀s s',P s→Mic p s s'→P s'):P b:=by
 induction h with
 |refl=>exact h0
 |step _ m ih=>exact hs _ _ ih m
def G3 (p:Par):Ses:=Gp (muS p (WT p)) (WT p)
theorem Tu {p:Par} (hp:POk p) (h:(Ak p.c 0 p.d p.b p.e).2.2=0):Reach p (WT p) (G3 p)∧Wt p (G3 p)∧nxS (G3 p)=none:=Uy hp _ _ (Qm hp h) (yI _)
end Ab
namespace Ab
open Go
end Ab
namespace Ab
open Go
def cov (x:Seg) (t:Int):Prop:=x.off≤t∧t<x.off+x.data.size
structure QA (p:Par) (B:Int) (ck:Seg) (s:Ses):Prop where
 st:s.snd.st=1
 ser:s.snd.ser=1
 bu:s.snd.busy=B
 hck:ck.chk=true∧ck.ser=1∧1≤ck.data.size∧0≤ck.off∧ck.off+(ck.data.size:Int)≤(p.d.size:Int)
 all:∀t:Int,0≤t→t<p.d.size→Ac t s.rcv.known∨cov ck t∨(∃o∈s.pend,o.seg.chk=false∧cov o.seg t)∨∃f∈s.dat.frames,cov f.seg t∧f.arr<B+p.c.rng
 dj:∀t,cov ck t→¬Ac t s.rcv.known∧(∀o∈s.pend,o.seg.chk=false→¬cov o.seg t)∧∀f∈s.dat.frames,f.seg.chk=false→¬cov f.seg t
 pn:∀o∈s.pend,(o.seg.chk=false→o.at_<B)∧(o.seg.chk=true→o.seg=ck∧o.at_=B)
 fn:∀f∈s.dat.frames,f.seg.chk=true→f.seg=ck∧B+p.c.rng≤f.arr
 ex:(∃o∈s.pend,o.seg=ck)∨((∃f∈s.dat.frames,f.seg=ck∧f.arr=B+p.c.rng)∧∀o∈s.pend,o.seg.chk=false)
 rp:s.rep.frames=[]
 kn:s.kno=false
 rc:s.rcvd=false
structure QB (p:Par) (B:Int) (s:Ses):Prop where
 st:s.snd.st=1
 ser:s.snd.ser=1
 bu:s.snd.busy=B
 rc:s.rcvd=true
 ar:s.arrive=B+p.c.rng
 nw:B+p.c.rng≤s.now
 pn:s.pend=[]
 kn:s.kno=false
 wh:∀f∈s.rep.frames,∀t:Int,0≤t→t<p.d.size→Ac t f.seg.claims
 ex:∃f∈s.rep.frames,f.seg.ser=1∧f.arr=B+2*p.c.rng
structure QC (p:Par) (B:Int) (s:Ses):Prop where
 st:s.snd.st=2
 bu:s.snd.busy=B
 rc:s.rcvd=true
 ar:s.arrive=B+p.c.rng
 kn:s.kno=true
 ka:s.knoAt=B+2*p.c.rng
def Q (p:Par) (B:Int) (s:Ses):Prop:=(∃ck,QA p B ck s)∨QB p B s∨QC p B s
end Ab
namespace Ab
open Go
def tk (r n:Int):Int:=(n+7+r) / r
def E4 (r n:Int):Int:=(n / 16)*tk r 16+if 0<n % 16 then tk r (n % 16) else 0
end Ab
namespace Ab
open Go
theorem F9 {r n:Int} (hr:1≤r∧r≤1000) (hn:1≤n∧n≤16):1≤tk r n∧tk r n≤24:=by unfold tk;refine ⟨(Int.le_ediv_iff_mul_le (by omega)).2 (by omega),?_⟩;have h:(n+7+r) / r<25:=(Int.ediv_lt_iff_lt_mul (by omega)).2 (by omega);omega
theorem CG {c:Con} (h:Dn c=0):(1≤c.rng∧c.rng≤1048576)∧(1≤c.rate∧c.rate≤1000)∧(0≤c.loss∧c.loss≤16)∧0≤c.start∧c.start<c.fin∧c.fin≤1099511627776-2*c.rng:=by obtain ⟨c1,c2⟩:=Dh h;unfold Ft at c1;omega
theorem XI {r n:Int} (hr:1≤r∧r≤1000) (hn:1≤n∧n≤16):w64 (tdiv (w64 (w64 (w64 (n+8)+r)-1)) r)=tk r n:=by have ht:=F9 hr hn;rw [AM (x:=n+8) (by omega) (by omega),AM (x:=n+8+r) (by omega) (by omega),AM (x:=n+8+r-1) (by omega) (by omega),Int.tdiv_eq_ediv_of_nonneg (by omega),show n+8+r-1=n+7+r by omega];exact AM (by unfold tk at ht;omega) (by unfold tk at ht;omega)
theorem s58 (c:Con) (n:Int) (hc:Dn c=0) (hn:1≤n∧n≤16):AK C 58 (c.enc++[tI n]) [tI (tk c.rate n)]:=by have h:=CG hc;refine AK.of (fun m=>e58 m _ _ _ _ _ _ _ _) (Ev.of fun m => ?_);rw [DR (by omega),XI h.2.1 hn]
theorem s113 (c:Con) (n:Int) (hc:Dn c=0) (hn:1≤n∧n≤16):AK C 113 (c.enc++[tI n]) [tI (tk c.rate n)]:=by have h:=CG hc;refine AK.of (fun m=>e113 m _ _ _ _ _ _ _ _) (Ev.of fun m => ?_);rw [DR (by omega),XI h.2.1 hn]
theorem KG {r n:Int} (hr:1≤r∧r≤1000) (hn:0≤n∧n≤65536):0≤E4 r n∧E4 r n≤100000∧0≤(n / 16)*tk r 16∧(n / 16)*tk r 16≤98304:=by
 have h16:=F9 hr (n:=16) (by omega);have h1:(n / 16)*tk r 16≤4096*24:=Int.mul_le_mul (by omega) (by omega) (by omega) (by omega);have h2:0≤(n / 16)*tk r 16:=Int.mul_nonneg (by omega) (by omega);unfold E4;split
 ·have:=F9 hr (n:=n % 16) (by omega);omega
 ·omega
theorem WE {r m:Int} (hm:0<m):E4 r m=tk r (if 16<m then 16 else m)+E4 r (if 0≤m-16 then m-16 else 0):=by
 unfold E4;by_cases h:16≤m
 ·rw [show m / 16=(m-16) / 16+1 by omega,if_pos (show 0≤m-16 by omega),show m % 16=(m-16) % 16 by omega,Int.add_mul,Int.one_mul];by_cases h2:16<m
  ·rw [if_pos h2];omega
  ·rw [if_neg h2,show m=16 by omega];omega
 ·rw [show m / 16=0 by omega,if_neg (show ¬0≤m-16 by omega),show m % 16=m by omega,if_pos hm,if_neg (by omega)];simp
theorem s33 (c:Con) (n:Int) (hc:Dn c=0) (hn:1≤n∧n≤65536):AK C 33 (c.enc++[tI n]) [tI (E4 c.rate n)]:=by
 have h:=CG hc;refine AK.of (fun m=>e33 m _ _ _ _ _ _ _ _) ?_;refine Fy (σ:=Int×Int) (fun (q:Int)=>[tI q]) (fun s=>(([.t (tI s.1)],[.box [.t (tI s.2)],.box []]):List AV×Heap)) (fun s=>if 0<s.1 then .next (s.1-16,s.2+tk c.rate (if 16<s.1 then 16 else s.1)) else .done s.2) (fun s => -16≤s.1∧s.1≤65536∧0≤s.2∧s.2≤24*(65536-s.1)) (fun s=>(s.1+16).toNat) (fun s=>s.2+E4 c.rate (if 0≤s.1 then s.1 else 0)) (n,0) rfl ⟨by simp only;omega,by simp only;omega,by simp,by simp only;omega⟩ ?_ (fun s hI => ?_) (fun s s' hI hs => ?_) (fun s hI => ?_)
 ·simp only [Int.zero_add];rw [if_pos (by omega)]
 ·obtain ⟨m,a⟩:=s;simp only at hI;by_cases hm:0<m
  ·have hq:1≤(if 16<m then (16:Int) else m)∧(if 16<m then (16:Int) else m)≤16:=by split<;>omega
   have ht:=F9 h.2.1 hq;refine (s58 c _ hc hq).mono fun n e again => ?_;simp only [Con.enc,xB,xX] at e;simp only [ZN,vv,vf,hm,e,Rd.AR,AM (x:=m-16) (by omega) (by omega),AM (x:=a+tk c.rate (if 16<m then 16 else m)) (by omega) (by omega)]
  ·refine Ev.of fun n again => ?_;simp only [ZN,vv,vf,hm,Rd.Aj]
 ·obtain ⟨m,a⟩:=s;simp only at hI hs;split at hs
  ·rename_i hm;have hq:1≤(if 16<m then (16:Int) else m)∧(if 16<m then (16:Int) else m)≤16:=by split<;>omega
   have ht:=F9 h.2.1 hq;cases hs;simp only;omega
  ·cases hs
 ·obtain ⟨m,a⟩:=s;simp only at hI ⊢;by_cases hm:0<m
  ·rw [if_pos hm,if_pos (by omega)];simp only [Rd.fin];rw [WE hm];omega
  ·rw [if_neg hm];simp only [Rd.fin];have e:(if 0≤m then m else (0:Int))=0:=by split<;>omega
   rw [e];simp [E4]
def Hi (c:Con) (n:Int):Int:=if Dn c≠0 then 1 else if 1≤n∧n≤65536 then 0 else 2
theorem s32 (c:Con) (n:Int):AK C 32 (c.enc++[tI n]) [tI (Hi c n)]:=by
 refine AK.of (fun m=>e32 m _ _ _ _ _ _ _ _) ?_;refine ((s55 c).and (s56 n 1 65536)).mono fun m h => ?_;obtain ⟨h1,h2⟩:=h;simp only [Con.enc] at h1;simp only [h1,h2,vv,vf,Hi,wi];by_cases a:Dn c=0
 ·by_cases b:1≤n∧n≤65536<;>simp [a,b,AB]
 ·simp [a,AB]
theorem FZ {c:Con} {n:Int} (h:Hi c n=0):Dn c=0∧1≤n∧n≤65536:=by
 unfold Hi at h;split at h
 ·omega
 ·split at h
  ·omega
  ·omega
end Ab
set_option maxRecDepth 100000
namespace Ab
open Go Go.Proofs
def ix:Bool→Nat→Nat
 |false,m=>m
 |true,m=>m+1
def pz:Bool→Heap→Heap
 |false,l=>l
 |true,l =>.box [.t (.bool false),.t (tI 0),.t (.bool false),.t (tI 0),.t (tI 0),.t (tI 0),.t (tI 0)]::l
def px:Bool→List OSh→List OSh
 |false,l=>l
 |true,l=>OSh.box [Sh.b,Sh.i,Sh.b,Sh.i,Sh.i,Sh.i,Sh.i]::l
def BJ (zq:Bool):List Sh:=[Sh.i,Sh.l 10,Sh.i,Sh.i,Sh.i,Sh.l 10,Sh.i,Sh.i,Sh.l 1,Sh.i,Sh.l 2,Sh.i,Sh.i,Sh.r (ix zq 4),Sh.r (ix zq 5),Sh.i,Sh.i,Sh.i,Sh.i,Sh.i,Sh.i,Sh.i,Sh.i,Sh.i,Sh.s,Sh.i,Sh.i,Sh.i,Sh.l 2,Sh.i,Sh.i,Sh.i,Sh.i,Sh.l 2,Sh.s,Sh.r (ix zq 0),Sh.b,Sh.i,Sh.b,Sh.i]
def Bz (zq:Bool):List OSh:=px zq [OSh.row 9,OSh.frz 15,OSh.frz 4,OSh.frz 4,OSh.row 9,OSh.row 9,OSh.box (BJ zq)]
def C0:List Sh:=[]
def BSM_3:List Sh:=[Sh.i]
def BSM_4:List Sh:=[Sh.b]
def De (zq:Bool):List OSh:=px zq [OSh.row 9,OSh.box C0,OSh.box C0,OSh.box C0,OSh.row 9,OSh.row 9,OSh.box (BJ zq),OSh.box BSM_3,OSh.box BSM_4]
def Bb (zq:Bool):List OSh:=px zq [OSh.row 9,OSh.box C0,OSh.box C0,OSh.box C0,OSh.row 9,OSh.row 9,OSh.box (BJ zq)]
def TJ:List Sh:=[Sh.i,Sh.i,Sh.i,Sh.i,Sh.i,Sh.b,Sh.s,Sh.l 2]
def QE (zq:Bool):List OSh:=px zq [OSh.row 9,OSh.box C0,OSh.box C0,OSh.box C0,OSh.row 9,OSh.row 9,OSh.box (BJ zq),OSh.box TJ]
def Dk (zq:Bool):List OSh:=px zq [OSh.row 9,OSh.box C0,OSh.box C0,OSh.box C0,OSh.row 9,OSh.row 9,OSh.box (BJ zq),OSh.row 8]
def L5 (zq:Bool):List OSh:=px zq [OSh.row 9,OSh.box C0,OSh.box C0,OSh.box C0,OSh.row 9,OSh.row 9,OSh.box (BJ zq),OSh.row 8,OSh.box TJ]
def RU:List Sh:=[Sh.i,Sh.i,Sh.l 2,Sh.s]
def Js (zq:Bool):List OSh:=px zq [OSh.row 9,OSh.frz 15,OSh.frz 4,OSh.frz 4,OSh.row 9,OSh.row 9,OSh.box (BJ zq),OSh.row 8,OSh.box RU,OSh.box TJ]
def CX (zq:Bool):List OSh:=px zq [OSh.row 9,OSh.box C0,OSh.box C0,OSh.box C0,OSh.row 9,OSh.row 9,OSh.box (BJ zq),OSh.row 8,OSh.box RU,OSh.box TJ]
def Zh:List Sh:=[Sh.i,Sh.l 10,Sh.i,Sh.i]
def L4 (zq:Bool):List OSh:=px zq [OSh.row 9,OSh.box C0,OSh.box C0,OSh.box C0,OSh.row 9,OSh.row 9,OSh.box (BJ zq),OSh.row 8,OSh.box RU,OSh.box TJ,OSh.box Zh]
def Ok (zq:Bool):List OSh:=px zq [OSh.row 9,OSh.box C0,OSh.box C0,OSh.box C0,OSh.row 9,OSh.row 9,OSh.box (BJ zq),OSh.row 8,OSh.box RU]
def L3 (zq:Bool):List OSh:=px zq [OSh.row 9,OSh.box C0,OSh.box C0,OSh.box C0,OSh.row 9,OSh.row 9,OSh.box (BJ zq),OSh.box Zh]
def Fw:List FuncId:=[50,51,52,53,54,71,96,124,125,126,127,144]
noncomputable def JM_1 (zq:Bool) (n:Nat) (ff:Nat→Rec) (k26:KT) (p28:ST):RT:=k26 ([],rh p28 0 (De zq))
noncomputable def JM_2 (zq:Bool) (n:Nat) (ff:Nat→Rec) (k20:KT) (p70:ST):RT:=k20 (tv [tI (cI p70 (ix zq 7) 0),.bool (cB p70 (ix zq 8) 0)],rh p70 0 (Bb zq))
noncomputable def US (zq:Bool) (n:Nat) (ff:Nat→Rec) (p52:ST) (k20:KT) (p64:ST):RT:=Al (.box [AV.yld 40,.t (tI (cI p52 (ix zq 6) 29))]) (.box [AV.yld 40,.t (tI (cI p64 (ix zq 6) 29))]) (join (JM_2 zq n ff k20) fun k71=>cnd (vB p64 0=true) (cnd ((!(cB p64 (ix zq 8) 0))=true) (k71 ([],upd (rh p64 0 (De zq)) [((ix zq 7),.box [.t (tI (cI p52 (ix zq 6) 29))]),((ix zq 8),.box [.t (.bool true)])])) (cnd (decide (cI p52 (ix zq 6) 29<cI p64 (ix zq 7) 0)=true) (k71 ([],upd (rh p64 0 (De zq)) [((ix zq 7),.box [.t (tI (cI p52 (ix zq 6) 29))]),((ix zq 8),.box [.t (.bool true)])])) (k71 ([],rh p64 0 (De zq))))) (k71 ([],rh p64 0 (De zq))))
noncomputable def JM_4 (zq:Bool) (n:Nat) (ff:Nat→Rec) (k20:KT) (p52:ST):RT:=join (US zq n ff p52 k20) fun k65=>cnd ((cI p52 (ix zq 6) 30==1)=true) (k65 ([.t (.bool (!(decide (cI p52 (ix zq 6) 11≥(10000:Int)))))],rh p52 0 (De zq))) (k65 ([.t (.bool false)],rh p52 0 (De zq)))
noncomputable def W0 (zq:Bool) (n:Nat) (ff:Nat→Rec) (k20:KT) (p39:ST):RT:=bd [0,1] (AA C n 122 (ct [0,13,0,0] p39 (ix zq 6) 4 [])) fun y51=>join (JM_4 zq n ff k20) fun k53=>cnd (gB y51 1=true) (cnd ((!(cB p39 (ix zq 8) 0))=true) (k53 ([],upd (rh p39 0 (De zq)) [((ix zq 7),.box [.t (tI (gI y51 0))]),((ix zq 8),.box [.t (.bool true)])])) (cnd (decide (gI y51 0<cI p39 (ix zq 7) 0)=true) (k53 ([],upd (rh p39 0 (De zq)) [((ix zq 7),.box [.t (tI (gI y51 0))]),((ix zq 8),.box [.t (.bool true)])])) (k53 ([],rh p39 0 (De zq))))) (k53 ([],rh p39 0 (De zq)))
noncomputable def Wz (zq:Bool) (n:Nat) (ff:Nat→Rec) (k20:KT) (p25:ST):RT:=bd [0,1] (AA C n 122 (ct [0,13,0,0] p25 (ix zq 6) 0 [])) fun y38=>join (W0 zq n ff k20) fun k40=>cnd (gB y38 1=true) (cnd ((!(cB p25 (ix zq 8) 0))=true) (k40 ([],upd (rh p25 0 (De zq)) [((ix zq 7),.box [.t (tI (gI y38 0))]),((ix zq 8),.box [.t (.bool true)])])) (cnd (decide (gI y38 0<cI p25 (ix zq 7) 0)=true) (k40 ([],upd (rh p25 0 (De zq)) [((ix zq 7),.box [.t (tI (gI y38 0))]),((ix zq 8),.box [.t (.bool true)])])) (k40 ([],rh p25 0 (De zq))))) (k40 ([],rh p25 0 (De zq)))
noncomputable def JM_7 (zq:Bool) (n:Nat) (ff:Nat→Rec) (k20:KT) (p23:ST):RT:=cnd (AD p23 (ix zq 0)=AL p23 (ix zq 6) 35) (join (Wz zq n ff k20) fun k26=>cnd (decide ((AJ p23 (ix zq 6) 35:Int)>0)=true) (cnd (AD p23 (ix zq 0)=AL p23 (ix zq 6) 35∧9=9∧(0:Int)≤0∧0<(AJ p23 (ix zq 6) 35:Int)) (cnd (AD p23 (ix zq 0)=AL p23 (ix zq 6) 35) (cnd (AD p23 (ix zq 0)=AL p23 (ix zq 6) 35) (Option.bind (oEs p23 (ix zq 0))[AP p23 (ix zq 6) 35]? fun y27=>cnd (okI y27 0) (join (JM_1 zq n ff k26) fun k29=>cnd ((!(cB p23 (ix zq 8) 0))=true) (k29 ([],upd (rh p23 0 (De zq)) [((ix zq 7),.box [.t (tI (gI y27 0))]),((ix zq 8),.box [.t (.bool true)])])) (cnd (decide (gI y27 0<cI p23 (ix zq 7) 0)=true) (k29 ([],upd (rh p23 0 (De zq)) [((ix zq 7),.box [.t (tI (gI y27 0))]),((ix zq 8),.box [.t (.bool true)])])) (k29 ([],rh p23 0 (De zq))))) none) none) none) none) (k26 ([],rh p23 0 (De zq)))) none
noncomputable def CM_1 (zq:Bool) (n:Nat) (ff:Nat→Rec) (k20:KT) (p19:ST):RT:=ff 10 (List Tree) (.fn 96 [AV.ptr (ix zq 6) 0]) (rh p19 0 (Bz zq)) fun rs h1=>cnd (BH C.P (A6 C.P 96) rs=true) (EC (rh p19 0 (Bz zq)) h1 fun hs=>k20 (rs,hs)) none
noncomputable def XM_1 (zq:Bool) (n:Nat) (ff:Nat→Rec) (k20:KT) (p19:ST):RT:=join (JM_7 zq n ff k20) fun k24=>cnd (decide (cI p19 (ix zq 6) 11≥(10000:Int))=true) (cnd (AD p19 (ix zq 0)=AL p19 (ix zq 6) 35) (k24 ([],upd (rh p19 0 (De zq)) [((ix zq 6),.box (upd (rb p19 (ix zq 6) 0 (BJ zq)) [(35,.sref (ix zq 0) (AL p19 (ix zq 6) 35) (length (oEs p19 (ix zq 0))) 0)])),((ix zq 7),.box [.t (tI 0)]),((ix zq 8),.box [.t (.bool false)])])) none) (k24 ([],upd (rh p19 0 (De zq)) [((ix zq 7),.box [.t (tI 0)]),((ix zq 8),.box [.t (.bool false)])]))
theorem vCM_1 (zq:Bool) (n:Nat) (ff:Nat→Rec) (k20:KT) (p19:ST):Da C (Fk C (pcx C (AA C n)) n ff Fw 9) (pcx C (AA C n)) n 96 [AV.ptr (ix zq 6) 0] (rh p19 0 (Bz zq)) (fun rs h1=>cnd (BH C.P (A6 C.P 96) rs=true) (EC (rh p19 0 (Bz zq)) h1 fun hs=>k20 (rs,hs)) none)=XM_1 zq n ff k20 p19:=by cases zq<;>kernel_rfl
theorem tCM_1 (zq:Bool) (n:Nat) (k20:KT) (p19:ST):CM_1 zq n (fI C n) k20 p19=XM_1 zq n (fI C n) k20 p19:=(Ga C n Fw 9 _ 96 _ _ _).trans (vCM_1 zq n (fI C n) k20 p19)
noncomputable def JM_8 (zq:Bool) (n:Nat) (ff:Nat→Rec) (k91:KT) (p92:ST):RT:=cnd ((!(vB p92 0))=true) (k91 ([.t (.bool true)],rh p92 0 (Bb zq))) (k91 ([.t (.bool ((cI p92 (ix zq 6) 29) != cI p92 (ix zq 6) 15))],rh p92 0 (Bb zq)))
noncomputable def JM_9 (zq:Bool) (n:Nat) (ff:Nat→Rec) (k89:KT) (p90:ST):RT:=cnd (vB p90 0=true) (k89 ([],rh p90 0 (Bb zq))) (bd [0,0,0,0,0,0,0,0,2,0,0,0,5,0,0,12,0] (AA C n 149 (ct kS p90 (ix zq 6) 16 [tI (cI p90 (ix zq 6) 15)])) fun y98=>cnd (((gI y98 16) != 0)=true) (k89 ([],upd (rh p90 0 (Bb zq)) [((ix zq 6),.box (upd (rb p90 (ix zq 6) 0 (BJ zq)) [(29,.t (tI 0)),(30,.t (tI 3))]))])) (cnd (length (gL y98 15)=0∧AP p90 (ix zq 6) 35+AJ p90 (ix zq 6) 35<length (oEs p90 (ix zq 0))) (cnd (AD p90 (ix zq 0)=AL p90 (ix zq 6) 35) (k89 ([],upd (rh p90 0 (Bb zq)) [((ix zq 6),.box (upd (rb p90 (ix zq 6) 0 (BJ zq)) [(16,.t (tI (gI y98 0))),(17,.t (tI (gI y98 1))),(18,.t (tI (gI y98 2))),(19,.t (tI (gI y98 3))),(20,.t (tI (gI y98 4))),(21,.t (tI (gI y98 5))),(22,.t (tI (gI y98 6))),(23,.t (tI (gI y98 7))),(24,.t (.str (gS y98 8))),(25,.t (tI (gI y98 9))),(26,.t (tI (gI y98 10))),(27,.t (tI (gI y98 11))),(28,.t (.sl 2 (gL y98 12))),(29,.t (tI (gI y98 13))),(30,.t (tI (gI y98 14)))]))])) none) (cnd (AD p90 (ix zq 0)=AL p90 (ix zq 6) 35∧(9=9∨9=0)∧AP p90 (ix zq 6) 35+AJ p90 (ix zq 6) 35≤length (oEs p90 (ix zq 0))∧AJ p90 (ix zq 6) 35+length (gL y98 15)≤1073741824) (k89 ([],upd (rh p90 0 (Bb zq)) [((ix zq 0),.row false (AL p90 (ix zq 6) 35+1) 9 (take (AJ p90 (ix zq 6) 35) (drop (AP p90 (ix zq 6) 35) (oEs p90 (ix zq 0)))++gL y98 15)),((ix zq 6),.box (upd (rb p90 (ix zq 6) 0 (BJ zq)) [(16,.t (tI (gI y98 0))),(17,.t (tI (gI y98 1))),(18,.t (tI (gI y98 2))),(19,.t (tI (gI y98 3))),(20,.t (tI (gI y98 4))),(21,.t (tI (gI y98 5))),(22,.t (tI (gI y98 6))),(23,.t (tI (gI y98 7))),(24,.t (.str (gS y98 8))),(25,.t (tI (gI y98 9))),(26,.t (tI (gI y98 10))),(27,.t (tI (gI y98 11))),(28,.t (.sl 2 (gL y98 12))),(29,.t (tI (gI y98 13))),(30,.t (tI (gI y98 14))),(35,.sref (ix zq 0) (AL p90 (ix zq 6) 35+1) 0 (AJ p90 (ix zq 6) 35+length (gL y98 15)))]))])) none)))
noncomputable def CM_2 (zq:Bool) (n:Nat) (ff:Nat→Rec) (k89:KT) (p88:ST):RT:=ff 10 (List Tree) (.fn 127 [AV.ptr (ix zq 6) 0]) (rh p88 0 (Bz zq)) fun rs h1=>cnd (BH C.P (A6 C.P 127) rs=true) (EC (rh p88 0 (Bz zq)) h1 fun hs=>k89 (rs,hs)) none
noncomputable def ZB (zq:Bool) (n:Nat) (ff:Nat→Rec) (k89:KT) (p88:ST):RT:=join (JM_9 zq n ff k89) fun k91=>join (JM_8 zq n ff k91) fun k93=>cnd ((cI p88 (ix zq 6) 30==1)=true) (k93 ([.t (.bool (!(decide (cI p88 (ix zq 6) 11≥(10000:Int)))))],rh p88 0 (Bb zq))) (k93 ([.t (.bool false)],rh p88 0 (Bb zq)))
theorem vCM_2 (zq:Bool) (n:Nat) (ff:Nat→Rec) (k89:KT) (p88:ST):Da C (Fk C (pcx C (AA C n)) n ff Fw 9) (pcx C (AA C n)) n 127 [AV.ptr (ix zq 6) 0] (rh p88 0 (Bz zq)) (fun rs h1=>cnd (BH C.P (A6 C.P 127) rs=true) (EC (rh p88 0 (Bz zq)) h1 fun hs=>k89 (rs,hs)) none)=ZB zq n ff k89 p88:=by cases zq<;>kernel_rfl
theorem XM (zq:Bool) (n:Nat) (k89:KT) (p88:ST):CM_2 zq n (fI C n) k89 p88=ZB zq n (fI C n) k89 p88:=(Ga C n Fw 9 _ 127 _ _ _).trans (vCM_2 zq n (fI C n) k89 p88)
noncomputable def MZ (zq:Bool) (n:Nat) (ff:Nat→Rec) (k87:KT) (p86 p99:ST):RT:=k87 ([.t (tI (w64 (vI p86 0+1)))],rh p99 0 (Bb zq))
noncomputable def Vq (zq:Bool) (n:Nat) (ff:Nat→Rec) (p108:ST) (k107:KT) (p130:ST):RT:=cnd (vB p130 0=true) (cnd (AD p130 (ix zq 7)=AD p108 (ix zq 7)+1∧8≤8) (Option.bind (oEs p130 (ix zq 7))[0]? fun y132=>k107 ([.rptr (ix zq 7) (AD p108 (ix zq 7)+1) 0 0,.t (.bool false)],upd (rh p130 0 (Dk zq)) [((ix zq 7),.row false (AD p108 (ix zq 7)+1) 8 (List.set (oEs p130 (ix zq 7)) 0 (zt kG []++drop 8 y132)))])) none) (bd [0,13,0,0,0,0,0,0,0,0,0,1,2,5,0] (AA C n 158 (ct [0,13,0,0] p130 (ix zq 6) 4 [])) fun y133=>cnd (AD p130 (ix zq 7)=AD p108 (ix zq 7)+1∧8≤8) (Option.bind (oEs p130 (ix zq 7))[0]? fun y134=>k107 ([.rptr (ix zq 7) (AD p108 (ix zq 7)+1) 0 0,.t (.bool true)],upd (rh p130 0 (Dk zq)) [((ix zq 6),.box (upd (rb p130 (ix zq 6) 0 (BJ zq)) [(4,.t (tI (gI y133 0))),(5,.t (.sl 10 (gL y133 1))),(6,.t (tI (gI y133 2))),(7,.t (tI (gI y133 3)))])),((ix zq 7),.row false (AD p108 (ix zq 7)+1) 8 (List.set (oEs p130 (ix zq 7)) 0 (gt kG y133 6 []++drop 8 y134)))])) none)
noncomputable def TC (zq:Bool) (n:Nat) (ff:Nat→Rec) (p106:ST) (k107:KT) (p108:ST):RT:=cnd (AD p108 (ix zq 7)=A0 p106 0) (Option.bind (oEs p108 (ix zq 7))[0]? fun y128=>bk kG 0 y128 (cnd (AD p108 (ix zq 7)+1=AD p108 (ix zq 7)+1∧8≤8) (bd [0,1] (AA C n 122 (ct [0,13,0,0] p108 (ix zq 6) 4 [])) fun y129=>join (Vq zq n ff p108 k107) fun k131=>cnd ((!(gB y129 1))=true) (k131 ([.t (.bool true)],upd (rh p108 0 (L5 zq)) [((ix zq 7),.row false (AD p108 (ix zq 7)+1) 8 [[tI (gI y128 0),tI (gI y128 1),tI (gI y128 2),tI (gI y128 3),tI (gI y128 4),.bool (gB y128 5),.str (gS y128 6),.sl 2 (gL y128 7)]]),((ix zq 8),.box (tv (zt kG [])))])) (k131 ([.t (.bool ((gI y129 0) != cI p108 (ix zq 6) 15))],upd (rh p108 0 (L5 zq)) [((ix zq 7),.row false (AD p108 (ix zq 7)+1) 8 [[tI (gI y128 0),tI (gI y128 1),tI (gI y128 2),tI (gI y128 3),tI (gI y128 4),.bool (gB y128 5),.str (gS y128 6),.sl 2 (gL y128 7)]]),((ix zq 8),.box (tv (zt kG [])))]))) none)) none
noncomputable def HZ (zq:Bool) (n:Nat) (ff:Nat→Rec) (k102:KT) (p106:ST) (k107:KT):RT:=cnd (vB p106 1=true) (join (TC zq n ff p106 k107) fun k109=>cnd (decide (cI p106 (ix zq 6) 15<cI p106 (ix zq 6) 26)=true) (k109 ([],rh p106 0 (Dk zq))) (cnd (AD p106 (ix zq 7)=A0 p106 0) (Option.bind (oEs p106 (ix zq 7))[0]? fun y110=>bk kG 0 y110 (bd [0,0,0,0,0,0,0,0,2,0,0,0,5,0,0,12,0] (AA C n 148 (ct kS p106 (ix zq 6) 16 (tI (cI p106 (ix zq 6) 15)::gt kG y110 0 []))) fun y111=>cnd (((gI y111 16) != 0)=true) (k109 ([],rh p106 0 (Dk zq))) (cnd (length (gL y111 15)=0∧AP p106 (ix zq 6) 35+AJ p106 (ix zq 6) 35<length (oEs p106 (ix zq 0))) (cnd (AD p106 (ix zq 0)=AL p106 (ix zq 6) 35) (cnd ((!(cB p106 (ix zq 6) 38))=true) (cnd ((gI y111 14==2)=true) (k109 ([],upd (rh p106 0 (Dk zq)) [((ix zq 6),.box (upd (rb p106 (ix zq 6) 0 (BJ zq)) [(16,.t (tI (gI y111 0))),(17,.t (tI (gI y111 1))),(18,.t (tI (gI y111 2))),(19,.t (tI (gI y111 3))),(20,.t (tI (gI y111 4))),(21,.t (tI (gI y111 5))),(22,.t (tI (gI y111 6))),(23,.t (tI (gI y111 7))),(24,.t (.str (gS y111 8))),(25,.t (tI (gI y111 9))),(26,.t (tI (gI y111 10))),(27,.t (tI (gI y111 11))),(28,.t (.sl 2 (gL y111 12))),(29,.t (tI (gI y111 13))),(30,.t (tI (gI y111 14))),(38,.t (.bool true)),(39,.t (tI (cI p106 (ix zq 6) 15)))]))])) (k109 ([],upd (rh p106 0 (Dk zq)) [((ix zq 6),.box (upd (rb p106 (ix zq 6) 0 (BJ zq)) [(16,.t (tI (gI y111 0))),(17,.t (tI (gI y111 1))),(18,.t (tI (gI y111 2))),(19,.t (tI (gI y111 3))),(20,.t (tI (gI y111 4))),(21,.t (tI (gI y111 5))),(22,.t (tI (gI y111 6))),(23,.t (tI (gI y111 7))),(24,.t (.str (gS y111 8))),(25,.t (tI (gI y111 9))),(26,.t (tI (gI y111 10))),(27,.t (tI (gI y111 11))),(28,.t (.sl 2 (gL y111 12))),(29,.t (tI (gI y111 13))),(30,.t (tI (gI y111 14)))]))]))) (k109 ([],upd (rh p106 0 (Dk zq)) [((ix zq 6),.box (upd (rb p106 (ix zq 6) 0 (BJ zq)) [(16,.t (tI (gI y111 0))),(17,.t (tI (gI y111 1))),(18,.t (tI (gI y111 2))),(19,.t (tI (gI y111 3))),(20,.t (tI (gI y111 4))),(21,.t (tI (gI y111 5))),(22,.t (tI (gI y111 6))),(23,.t (tI (gI y111 7))),(24,.t (.str (gS y111 8))),(25,.t (tI (gI y111 9))),(26,.t (tI (gI y111 10))),(27,.t (tI (gI y111 11))),(28,.t (.sl 2 (gL y111 12))),(29,.t (tI (gI y111 13))),(30,.t (tI (gI y111 14)))]))]))) none) (cnd (AD p106 (ix zq 0)=AL p106 (ix zq 6) 35∧(9=9∨9=0)∧AP p106 (ix zq 6) 35+AJ p106 (ix zq 6) 35≤length (oEs p106 (ix zq 0))∧AJ p106 (ix zq 6) 35+length (gL y111 15)≤1073741824) (cnd ((!(cB p106 (ix zq 6) 38))=true) (cnd ((gI y111 14==2)=true) (k109 ([],upd (rh p106 0 (Dk zq)) [((ix zq 0),.row false (AL p106 (ix zq 6) 35+1) 9 (take (AJ p106 (ix zq 6) 35) (drop (AP p106 (ix zq 6) 35) (oEs p106 (ix zq 0)))++gL y111 15)),((ix zq 6),.box (upd (rb p106 (ix zq 6) 0 (BJ zq)) [(16,.t (tI (gI y111 0))),(17,.t (tI (gI y111 1))),(18,.t (tI (gI y111 2))),(19,.t (tI (gI y111 3))),(20,.t (tI (gI y111 4))),(21,.t (tI (gI y111 5))),(22,.t (tI (gI y111 6))),(23,.t (tI (gI y111 7))),(24,.t (.str (gS y111 8))),(25,.t (tI (gI y111 9))),(26,.t (tI (gI y111 10))),(27,.t (tI (gI y111 11))),(28,.t (.sl 2 (gL y111 12))),(29,.t (tI (gI y111 13))),(30,.t (tI (gI y111 14))),(35,.sref (ix zq 0) (AL p106 (ix zq 6) 35+1) 0 (AJ p106 (ix zq 6) 35+length (gL y111 15))),(38,.t (.bool true)),(39,.t (tI (cI p106 (ix zq 6) 15)))]))])) (k109 ([],upd (rh p106 0 (Dk zq)) [((ix zq 0),.row false (AL p106 (ix zq 6) 35+1) 9 (take (AJ p106 (ix zq 6) 35) (drop (AP p106 (ix zq 6) 35) (oEs p106 (ix zq 0)))++gL y111 15)),((ix zq 6),.box (upd (rb p106 (ix zq 6) 0 (BJ zq)) [(16,.t (tI (gI y111 0))),(17,.t (tI (gI y111 1))),(18,.t (tI (gI y111 2))),(19,.t (tI (gI y111 3))),(20,.t (tI (gI y111 4))),(21,.t (tI (gI y111 5))),(22,.t (tI (gI y111 6))),(23,.t (tI (gI y111 7))),(24,.t (.str (gS y111 8))),(25,.t (tI (gI y111 9))),(26,.t (tI (gI y111 10))),(27,.t (tI (gI y111 11))),(28,.t (.sl 2 (gL y111 12))),(29,.t (tI (gI y111 13))),(30,.t (tI (gI y111 14))),(35,.sref (ix zq 0) (AL p106 (ix zq 6) 35+1) 0 (AJ p106 (ix zq 6) 35+length (gL y111 15)))]))]))) (k109 ([],upd (rh p106 0 (Dk zq)) [((ix zq 0),.row false (AL p106 (ix zq 6) 35+1) 9 (take (AJ p106 (ix zq 6) 35) (drop (AP p106 (ix zq 6) 35) (oEs p106 (ix zq 0)))++gL y111 15)),((ix zq 6),.box (upd (rb p106 (ix zq 6) 0 (BJ zq)) [(16,.t (tI (gI y111 0))),(17,.t (tI (gI y111 1))),(18,.t (tI (gI y111 2))),(19,.t (tI (gI y111 3))),(20,.t (tI (gI y111 4))),(21,.t (tI (gI y111 5))),(22,.t (tI (gI y111 6))),(23,.t (tI (gI y111 7))),(24,.t (.str (gS y111 8))),(25,.t (tI (gI y111 9))),(26,.t (tI (gI y111 10))),(27,.t (tI (gI y111 11))),(28,.t (.sl 2 (gL y111 12))),(29,.t (tI (gI y111 13))),(30,.t (tI (gI y111 14))),(35,.sref (ix zq 0) (AL p106 (ix zq 6) 35+1) 0 (AJ p106 (ix zq 6) 35+length (gL y111 15)))]))]))) none)))) none)) (k102 ([],rh p106 0 (Bb zq)))
noncomputable def Vp (zq:Bool) (n:Nat) (ff:Nat→Rec) (k102:KT) (p104:ST):RT:=cnd (vB p104 0=true) (AH (HZ zq n ff k102) n ([.rptr (ix zq 7) 0 0 0,.t (.bool false)],upd (rh p104 0 (Dk zq)) [((ix zq 7),.row false 0 8 [[tI 0,tI 0,tI 0,tI 0,tI 0,.bool false,.str B0,.sl 2 []]])])) (bd [0,13,0,0,0,0,0,0,0,0,0,1,2,5,0] (AA C n 158 (ct [0,13,0,0] p104 (ix zq 6) 4 [])) fun y135=>AH (HZ zq n ff k102) n ([.rptr (ix zq 7) 0 0 0,.t (.bool true)],upd (rh p104 0 (Dk zq)) [((ix zq 6),.box (upd (rb p104 (ix zq 6) 0 (BJ zq)) [(4,.t (tI (gI y135 0))),(5,.t (.sl 10 (gL y135 1))),(6,.t (tI (gI y135 2))),(7,.t (tI (gI y135 3)))])),((ix zq 7),.row false 0 8 [[tI (gI y135 6),tI (gI y135 7),tI (gI y135 8),tI (gI y135 9),tI (gI y135 10),.bool (gB y135 11),.str (gS y135 12),.sl 2 (gL y135 13)]])]))
noncomputable def CM_3 (zq:Bool) (n:Nat) (ff:Nat→Rec) (k102:KT) (p101:ST):RT:=ff 10 (List Tree) (.fn 126 [AV.ptr (ix zq 6) 0]) (rh p101 0 (Bz zq)) fun rs h1=>cnd (BH C.P (A6 C.P 126) rs=true) (EC (rh p101 0 (Bz zq)) h1 fun hs=>k102 (rs,hs)) none
noncomputable def ZA (zq:Bool) (n:Nat) (ff:Nat→Rec) (k102:KT) (p101:ST):RT:=bd [0,1] (AA C n 122 (ct [0,13,0,0] p101 (ix zq 6) 4 [])) fun y103=>join (Vp zq n ff k102) fun k105=>cnd ((!(gB y103 1))=true) (k105 ([.t (.bool true)],upd (rh p101 0 (QE zq)) [((ix zq 7),.box (tv (zt kG [])))])) (k105 ([.t (.bool ((gI y103 0) != cI p101 (ix zq 6) 15))],upd (rh p101 0 (QE zq)) [((ix zq 7),.box (tv (zt kG [])))]))
theorem vCM_3 (zq:Bool) (n:Nat) (ff:Nat→Rec) (k102:KT) (p101:ST):Da C (Fk C (pcx C (AA C n)) n ff Fw 9) (pcx C (AA C n)) n 126 [AV.ptr (ix zq 6) 0] (rh p101 0 (Bz zq)) (fun rs h1=>cnd (BH C.P (A6 C.P 126) rs=true) (EC (rh p101 0 (Bz zq)) h1 fun hs=>k102 (rs,hs)) none)=ZA zq n ff k102 p101:=by cases zq<;>kernel_rfl
theorem XL (zq:Bool) (n:Nat) (k102:KT) (p101:ST):CM_3 zq n (fI C n) k102 p101=ZA zq n (fI C n) k102 p101:=(Ga C n Fw 9 _ 126 _ _ _).trans (vCM_3 zq n (fI C n) k102 p101)
noncomputable def FK (zq:Bool) (n:Nat) (ff:Nat→Rec) (p181:ST) (k182:KT) (y189:List Tree) (p194:ST):RT:=cnd (vB p194 0=true) (Al (.box [AV.yld 40,.t (tI (cI p181 (ix zq 6) 4)),.t (.sl 10 (cL p181 (ix zq 6) 5)),.t (tI (cI p181 (ix zq 6) 6)),.t (tI (cI p181 (ix zq 6) 7))]) (.box [AV.yld 40,.t (tI (cI p194 (ix zq 6) 4)),.t (.sl 10 (cL p194 (ix zq 6) 5)),.t (tI (cI p194 (ix zq 6) 6)),.t (tI (cI p194 (ix zq 6) 7))]) (Al (.box [AV.yld 40,.t (tI (cI p181 (ix zq 6) 4))]) (.box [AV.yld 40,.t (tI (cI p194 (ix zq 6) 4))]) (Al (.row false (AD p181 (ix zq 4)) 9 (oEs p181 (ix zq 4))) (.row false (AD p194 (ix zq 4)) 9 (oEs p194 (ix zq 4))) (Al (.row false (AD p181 (ix zq 5)) 9 (oEs p181 (ix zq 5))) (.row false (AD p194 (ix zq 5)) 9 (oEs p194 (ix zq 5))) (Al (.row false (AD p181 (ix zq 0)) 9 (oEs p181 (ix zq 0))) (.row false (AD p194 (ix zq 0)) 9 (oEs p194 (ix zq 0))) (bd [0,13,0,0,0] (AA C n 156 (ct [0,13,0,0] p181 (ix zq 6) 4 [tI (vI p181 3),tI (aI p181 4 0),tI (aI p181 4 1),tI (aI p181 4 2),tI (aI p181 4 3),tI (aI p181 4 4),.bool (aB p181 4 5),.str (aS p181 4 6),.sl 2 (aL p181 4 7),.sl 1 [[tI (cI p181 (ix zq 6) 4)]]])) fun y196=>cnd (((gI y196 4) != 0)=true) (k182 ([],rh p194 0 (CX zq))) (cnd (AD p194 (ix zq 5)=AL p194 (ix zq 6) 14∧(9=9∨9=0)∧AP p194 (ix zq 6) 14+AJ p194 (ix zq 6) 14≤length (oEs p194 (ix zq 5))∧AJ p194 (ix zq 6) 14+1≤1073741824) (k182 ([],upd (rh p194 0 (CX zq)) [((ix zq 5),.row false (AL p194 (ix zq 6) 14+1) 9 (take (AJ p194 (ix zq 6) 14) (drop (AP p194 (ix zq 6) 14) (oEs p194 (ix zq 5)))++[[tI (vI p181 3),tI (aI p181 4 0),tI (aI p181 4 1),tI (aI p181 4 2),tI (aI p181 4 3),tI (aI p181 4 4),Tree.bool (aB p181 4 5),.str (aS p181 4 6),.sl 2 (aL p181 4 7)]])),((ix zq 6),.box (upd (rb p194 (ix zq 6) 0 (BJ zq)) [(4,.t (tI (gI y196 0))),(5,.t (.sl 10 (gL y196 1))),(6,.t (tI (gI y196 2))),(7,.t (tI (gI y196 3))),(11,.t (tI (w64 (cI p194 (ix zq 6) 11+1)))),(14,.sref (ix zq 5) (AL p194 (ix zq 6) 14+1) 0 (AJ p194 (ix zq 6) 14+1))]))])) none))))))) (Al (.box [AV.yld 40,.t (tI (cI p181 (ix zq 6) 4)),.t (.sl 10 (cL p181 (ix zq 6) 5)),.t (tI (cI p181 (ix zq 6) 6)),.t (tI (cI p181 (ix zq 6) 7))]) (.box [AV.yld 40,.t (tI (cI p194 (ix zq 6) 4)),.t (.sl 10 (cL p194 (ix zq 6) 5)),.t (tI (cI p194 (ix zq 6) 6)),.t (tI (cI p194 (ix zq 6) 7))]) (Al (.box [AV.yld 40,.t (tI (cI p181 (ix zq 6) 4))]) (.box [AV.yld 40,.t (tI (cI p194 (ix zq 6) 4))]) (Al (.row false (AD p181 (ix zq 4)) 9 (oEs p181 (ix zq 4))) (.row false (AD p194 (ix zq 4)) 9 (oEs p194 (ix zq 4))) (Al (.row false (AD p181 (ix zq 5)) 9 (oEs p181 (ix zq 5))) (.row false (AD p194 (ix zq 5)) 9 (oEs p194 (ix zq 5))) (Al (.row false (AD p181 (ix zq 0)) 9 (oEs p181 (ix zq 0))) (.row false (AD p194 (ix zq 0)) 9 (oEs p194 (ix zq 0))) (bd [0,13,0,0,0] (AA C n 156 (ct [0,13,0,0] p181 (ix zq 6) 4 [tI (vI p181 3),tI (aI p181 4 0),tI (aI p181 4 1),tI (aI p181 4 2),tI (aI p181 4 3),tI (aI p181 4 4),.bool (aB p181 4 5),.str (aS p181 4 6),.sl 2 (aL p181 4 7),.sl 1 (gL y189 0)])) fun y197=>cnd (((gI y197 4) != 0)=true) (k182 ([],upd (rh p194 0 (CX zq)) [((ix zq 6),.box (upd (rb p194 (ix zq 6) 0 (BJ zq)) [(12,.t (tI (w64 (cI p194 (ix zq 6) 12+1))))]))])) (cnd (AD p194 (ix zq 5)=AL p194 (ix zq 6) 14∧(9=9∨9=0)∧AP p194 (ix zq 6) 14+AJ p194 (ix zq 6) 14≤length (oEs p194 (ix zq 5))∧AJ p194 (ix zq 6) 14+1≤1073741824) (k182 ([],upd (rh p194 0 (CX zq)) [((ix zq 5),.row false (AL p194 (ix zq 6) 14+1) 9 (take (AJ p194 (ix zq 6) 14) (drop (AP p194 (ix zq 6) 14) (oEs p194 (ix zq 5)))++[[tI (vI p181 3),tI (aI p181 4 0),tI (aI p181 4 1),tI (aI p181 4 2),tI (aI p181 4 3),tI (aI p181 4 4),.bool (aB p181 4 5),.str (aS p181 4 6),.sl 2 (aL p181 4 7)]])),((ix zq 6),.box (upd (rb p194 (ix zq 6) 0 (BJ zq)) [(4,.t (tI (gI y197 0))),(5,.t (.sl 10 (gL y197 1))),(6,.t (tI (gI y197 2))),(7,.t (tI (gI y197 3))),(11,.t (tI (w64 (cI p194 (ix zq 6) 11+1)))),(12,.t (tI (w64 (cI p194 (ix zq 6) 12+1)))),(14,.sref (ix zq 5) (AL p194 (ix zq 6) 14+1) 0 (AJ p194 (ix zq 6) 14+1))]))])) none)))))))
noncomputable def MY (zq:Bool) (n:Nat) (ff:Nat→Rec) (p181:ST) (y189:List Tree) (k182:KT) (p190:ST):RT:=cnd (vB p190 0=true) (Al (.box [AV.yld 40,.t (tI (cI p181 (ix zq 6) 4)),.t (.sl 10 (cL p181 (ix zq 6) 5)),.t (tI (cI p181 (ix zq 6) 6)),.t (tI (cI p181 (ix zq 6) 7))]) (.box [AV.yld 40,.t (tI (cI p190 (ix zq 6) 4)),.t (.sl 10 (cL p190 (ix zq 6) 5)),.t (tI (cI p190 (ix zq 6) 6)),.t (tI (cI p190 (ix zq 6) 7))]) (Al (.box [AV.yld 40,.t (tI (cI p181 (ix zq 6) 4))]) (.box [AV.yld 40,.t (tI (cI p190 (ix zq 6) 4))]) (Al (.row false (AD p181 (ix zq 4)) 9 (oEs p181 (ix zq 4))) (.row false (AD p190 (ix zq 4)) 9 (oEs p190 (ix zq 4))) (Al (.row false (AD p181 (ix zq 5)) 9 (oEs p181 (ix zq 5))) (.row false (AD p190 (ix zq 5)) 9 (oEs p190 (ix zq 5))) (Al (.row false (AD p181 (ix zq 0)) 9 (oEs p181 (ix zq 0))) (.row false (AD p190 (ix zq 0)) 9 (oEs p190 (ix zq 0))) (bd [0,13,0,0,0] (AA C n 156 (ct [0,13,0,0] p181 (ix zq 6) 4 [tI (vI p181 3),tI (aI p181 4 0),tI (aI p181 4 1),tI (aI p181 4 2),tI (aI p181 4 3),tI (aI p181 4 4),.bool (aB p181 4 5),.str (aS p181 4 6),.sl 2 (aL p181 4 7),.sl 1 (gL y189 0)])) fun y193=>cnd (((gI y193 4) != 0)=true) (k182 ([],rh p190 0 (CX zq))) (cnd (AD p190 (ix zq 5)=AL p190 (ix zq 6) 14∧(9=9∨9=0)∧AP p190 (ix zq 6) 14+AJ p190 (ix zq 6) 14≤length (oEs p190 (ix zq 5))∧AJ p190 (ix zq 6) 14+1≤1073741824) (k182 ([],upd (rh p190 0 (CX zq)) [((ix zq 5),.row false (AL p190 (ix zq 6) 14+1) 9 (take (AJ p190 (ix zq 6) 14) (drop (AP p190 (ix zq 6) 14) (oEs p190 (ix zq 5)))++[[tI (vI p181 3),tI (aI p181 4 0),tI (aI p181 4 1),tI (aI p181 4 2),tI (aI p181 4 3),tI (aI p181 4 4),.bool (aB p181 4 5),.str (aS p181 4 6),.sl 2 (aL p181 4 7)]])),((ix zq 6),.box (upd (rb p190 (ix zq 6) 0 (BJ zq)) [(4,.t (tI (gI y193 0))),(5,.t (.sl 10 (gL y193 1))),(6,.t (tI (gI y193 2))),(7,.t (tI (gI y193 3))),(11,.t (tI (w64 (cI p190 (ix zq 6) 11+1)))),(14,.sref (ix zq 5) (AL p190 (ix zq 6) 14+1) 0 (AJ p190 (ix zq 6) 14+1))]))])) none))))))) (join (FK zq n ff p181 k182 y189) fun k195=>cnd (decide (cI p190 (ix zq 6) 9≥(0:Int))=true) (k195 ([.t (.bool (decide (cI p190 (ix zq 6) 12≥cI p190 (ix zq 6) 9)))],rh p190 0 (L4 zq))) (k195 ([.t (.bool false)],rh p190 0 (L4 zq))))
noncomputable def MX (zq:Bool) (n:Nat) (ff:Nat→Rec) (p181:ST) (y202:List Tree) (k182:KT) (p203:ST):RT:=cnd (vB p203 0=true) (Al (.box [AV.yld 40,.t (tI (cI p181 (ix zq 6) 4)),.t (.sl 10 (cL p181 (ix zq 6) 5)),.t (tI (cI p181 (ix zq 6) 6)),.t (tI (cI p181 (ix zq 6) 7))]) (.box [AV.yld 40,.t (tI (cI p203 (ix zq 6) 4)),.t (.sl 10 (cL p203 (ix zq 6) 5)),.t (tI (cI p203 (ix zq 6) 6)),.t (tI (cI p203 (ix zq 6) 7))]) (Al (.box [AV.yld 40,.t (tI (cI p181 (ix zq 6) 4))]) (.box [AV.yld 40,.t (tI (cI p203 (ix zq 6) 4))]) (Al (.row false (AD p181 (ix zq 4)) 9 (oEs p181 (ix zq 4))) (.row false (AD p203 (ix zq 4)) 9 (oEs p203 (ix zq 4))) (Al (.row false (AD p181 (ix zq 5)) 9 (oEs p181 (ix zq 5))) (.row false (AD p203 (ix zq 5)) 9 (oEs p203 (ix zq 5))) (Al (.row false (AD p181 (ix zq 0)) 9 (oEs p181 (ix zq 0))) (.row false (AD p203 (ix zq 0)) 9 (oEs p203 (ix zq 0))) (bd [0,13,0,0,0] (AA C n 156 (ct [0,13,0,0] p181 (ix zq 6) 4 [tI (vI p181 3),tI (aI p181 4 0),tI (aI p181 4 1),tI (aI p181 4 2),tI (aI p181 4 3),tI (aI p181 4 4),.bool (aB p181 4 5),.str (aS p181 4 6),.sl 2 (aL p181 4 7),.sl 1 (gL y202 0)])) fun y206=>cnd (((gI y206 4) != 0)=true) (k182 ([],rh p203 0 (CX zq))) (cnd (AD p203 (ix zq 5)=AL p203 (ix zq 6) 14∧(9=9∨9=0)∧AP p203 (ix zq 6) 14+AJ p203 (ix zq 6) 14≤length (oEs p203 (ix zq 5))∧AJ p203 (ix zq 6) 14+1≤1073741824) (k182 ([],upd (rh p203 0 (CX zq)) [((ix zq 5),.row false (AL p203 (ix zq 6) 14+1) 9 (take (AJ p203 (ix zq 6) 14) (drop (AP p203 (ix zq 6) 14) (oEs p203 (ix zq 5)))++[[tI (vI p181 3),tI (aI p181 4 0),tI (aI p181 4 1),tI (aI p181 4 2),tI (aI p181 4 3),tI (aI p181 4 4),.bool (aB p181 4 5),.str (aS p181 4 6),.sl 2 (aL p181 4 7)]])),((ix zq 6),.box (upd (rb p203 (ix zq 6) 0 (BJ zq)) [(4,.t (tI (gI y206 0))),(5,.t (.sl 10 (gL y206 1))),(6,.t (tI (gI y206 2))),(7,.t (tI (gI y206 3))),(11,.t (tI (w64 (cI p203 (ix zq 6) 11+1)))),(14,.sref (ix zq 5) (AL p203 (ix zq 6) 14+1) 0 (AJ p203 (ix zq 6) 14+1))]))])) none))))))) (join (FK zq n ff p181 k182 y202) fun k208=>cnd (decide (cI p203 (ix zq 6) 9≥(0:Int))=true) (k208 ([.t (.bool (decide (cI p203 (ix zq 6) 12≥cI p203 (ix zq 6) 9)))],rh p203 0 (CX zq))) (k208 ([.t (.bool false)],rh p203 0 (CX zq))))
noncomputable def CM_4 (zq:Bool) (n:Nat) (ff:Nat→Rec) (k182:KT) (p181:ST):RT:=ff 9 (List Tree) (.fn 144 [AV.ptr (ix zq 6) 0,AV.ptr (ix zq 6) 4,.t (tI 1),.t (tI (vI p181 3)),AV.agg (tv [tI (aI p181 4 0),tI (aI p181 4 1),tI (aI p181 4 2),tI (aI p181 4 3),tI (aI p181 4 4),.bool (aB p181 4 5),.str (aS p181 4 6),.sl 2 (aL p181 4 7)])]) (rh p181 0 (Js zq)) fun rs h1=>cnd (BH C.P (A6 C.P 144) rs=true) (EC (rh p181 0 (Js zq)) h1 fun hs=>k182 (rs,hs)) none
noncomputable def OU (zq:Bool) (n:Nat) (ff:Nat→Rec) (k182:KT) (p181:ST):RT:=cnd (decide (cI p181 (ix zq 6) 11≥(10000:Int))=true) (k182 ([],rh p181 0 (CX zq))) (both (bd [1] (AA C n 175 [.sl 2 (cL p181 (ix zq 6) 10),tI (vI p181 3)]) fun y185=>cnd (gB y185 0=true) (Al (.box [AV.yld 40,.t (tI (cI p181 (ix zq 6) 4)),.t (.sl 10 (cL p181 (ix zq 6) 5)),.t (tI (cI p181 (ix zq 6) 6)),.t (tI (cI p181 (ix zq 6) 7))]) (.box [AV.yld 40,.t (tI (cI p181 (ix zq 6) 4)),.t (.sl 10 (cL p181 (ix zq 6) 5)),.t (tI (cI p181 (ix zq 6) 6)),.t (tI (cI p181 (ix zq 6) 7))]) (Al (.box [AV.yld 40,.t (tI (cI p181 (ix zq 6) 4))]) (.box [AV.yld 40,.t (tI (cI p181 (ix zq 6) 4))]) (Al (.row false (AD p181 (ix zq 4)) 9 (oEs p181 (ix zq 4))) (.row false (AD p181 (ix zq 4)) 9 (oEs p181 (ix zq 4))) (Al (.row false (AD p181 (ix zq 5)) 9 (oEs p181 (ix zq 5))) (.row false (AD p181 (ix zq 5)) 9 (oEs p181 (ix zq 5))) (Al (.row false (AD p181 (ix zq 0)) 9 (oEs p181 (ix zq 0))) (.row false (AD p181 (ix zq 0)) 9 (oEs p181 (ix zq 0))) (bd [0,13,0,0,0] (AA C n 156 (ct [0,13,0,0] p181 (ix zq 6) 4 [tI (vI p181 3),tI (aI p181 4 0),tI (aI p181 4 1),tI (aI p181 4 2),tI (aI p181 4 3),tI (aI p181 4 4),.bool (aB p181 4 5),.str (aS p181 4 6),.sl 2 (aL p181 4 7),.sl 1 []])) fun y186=>cnd (((gI y186 4) != 0)=true) (k182 ([],rh p181 0 (CX zq))) (cnd (AD p181 (ix zq 5)=AL p181 (ix zq 6) 14∧(9=9∨9=0)∧AP p181 (ix zq 6) 14+AJ p181 (ix zq 6) 14≤length (oEs p181 (ix zq 5))∧AJ p181 (ix zq 6) 14+1≤1073741824) (k182 ([],upd (rh p181 0 (CX zq)) [((ix zq 5),.row false (AL p181 (ix zq 6) 14+1) 9 (take (AJ p181 (ix zq 6) 14) (drop (AP p181 (ix zq 6) 14) (oEs p181 (ix zq 5)))++[[tI (vI p181 3),tI (aI p181 4 0),tI (aI p181 4 1),tI (aI p181 4 2),tI (aI p181 4 3),tI (aI p181 4 4),.bool (aB p181 4 5),.str (aS p181 4 6),.sl 2 (aL p181 4 7)]])),((ix zq 6),.box (upd (rb p181 (ix zq 6) 0 (BJ zq)) [(4,.t (tI (gI y186 0))),(5,.t (.sl 10 (gL y186 1))),(6,.t (tI (gI y186 2))),(7,.t (tI (gI y186 3))),(11,.t (tI (w64 (cI p181 (ix zq 6) 11+1)))),(14,.sref (ix zq 5) (AL p181 (ix zq 6) 14+1) 0 (AJ p181 (ix zq 6) 14+1))]))])) none))))))) (cnd (((length (cL p181 (ix zq 6) 8):Int)==0)=true) (Al (.box [AV.yld 40,.t (tI (cI p181 (ix zq 6) 4)),.t (.sl 10 (cL p181 (ix zq 6) 5)),.t (tI (cI p181 (ix zq 6) 6)),.t (tI (cI p181 (ix zq 6) 7))]) (.box [AV.yld 40,.t (tI (cI p181 (ix zq 6) 4)),.t (.sl 10 (cL p181 (ix zq 6) 5)),.t (tI (cI p181 (ix zq 6) 6)),.t (tI (cI p181 (ix zq 6) 7))]) (Al (.box [AV.yld 40,.t (tI (cI p181 (ix zq 6) 4))]) (.box [AV.yld 40,.t (tI (cI p181 (ix zq 6) 4))]) (Al (.row false (AD p181 (ix zq 4)) 9 (oEs p181 (ix zq 4))) (.row false (AD p181 (ix zq 4)) 9 (oEs p181 (ix zq 4))) (Al (.row false (AD p181 (ix zq 5)) 9 (oEs p181 (ix zq 5))) (.row false (AD p181 (ix zq 5)) 9 (oEs p181 (ix zq 5))) (Al (.row false (AD p181 (ix zq 0)) 9 (oEs p181 (ix zq 0))) (.row false (AD p181 (ix zq 0)) 9 (oEs p181 (ix zq 0))) (bd [0,13,0,0,0] (AA C n 156 (ct [0,13,0,0] p181 (ix zq 6) 4 [tI (vI p181 3),tI (aI p181 4 0),tI (aI p181 4 1),tI (aI p181 4 2),tI (aI p181 4 3),tI (aI p181 4 4),.bool (aB p181 4 5),.str (aS p181 4 6),.sl 2 (aL p181 4 7),.sl 1 [[tI (cI p181 (ix zq 6) 4)]]])) fun y187=>cnd (((gI y187 4) != 0)=true) (k182 ([],rh p181 0 (CX zq))) (cnd (AD p181 (ix zq 5)=AL p181 (ix zq 6) 14∧(9=9∨9=0)∧AP p181 (ix zq 6) 14+AJ p181 (ix zq 6) 14≤length (oEs p181 (ix zq 5))∧AJ p181 (ix zq 6) 14+1≤1073741824) (k182 ([],upd (rh p181 0 (CX zq)) [((ix zq 5),.row false (AL p181 (ix zq 6) 14+1) 9 (take (AJ p181 (ix zq 6) 14) (drop (AP p181 (ix zq 6) 14) (oEs p181 (ix zq 5)))++[[tI (vI p181 3),tI (aI p181 4 0),tI (aI p181 4 1),tI (aI p181 4 2),tI (aI p181 4 3),tI (aI p181 4 4),.bool (aB p181 4 5),.str (aS p181 4 6),.sl 2 (aL p181 4 7)]])),((ix zq 6),.box (upd (rb p181 (ix zq 6) 0 (BJ zq)) [(4,.t (tI (gI y187 0))),(5,.t (.sl 10 (gL y187 1))),(6,.t (tI (gI y187 2))),(7,.t (tI (gI y187 3))),(11,.t (tI (w64 (cI p181 (ix zq 6) 11+1)))),(14,.sref (ix zq 5) (AL p181 (ix zq 6) 14+1) 0 (AJ p181 (ix zq 6) 14+1))]))])) none))))))) (cnd ((length (cL p181 (ix zq 6) 8):Int)=0) none (cnd (1=1∧0≤wG (cI p181 (ix zq 6) 11) (length (cL p181 (ix zq 6) 8):Int)) (Option.bind (cL p181 (ix zq 6) 8)[wH (wG (cI p181 (ix zq 6) 11) (length (cL p181 (ix zq 6) 8):Int))]? fun y188=>cnd (okI y188 0) (bd [4,0] (AA C n 176 [tI (gI y188 0),tI (cI p181 (ix zq 6) 4)]) fun y189=>join (MY zq n ff p181 y189 k182) fun k191=>cnd (decide ((length (gL y189 0):Int)>0)=true) (Option.bind (gL y189 0)[0]? fun y192=>cnd (okI y192 0) (k191 ([.t (.bool (gI y192 0==cI p181 (ix zq 6) 4))],upd (rh p181 0 (L4 zq)) [((ix zq 10),.box (tv (zt [0,13,0,0] [])))])) none) (k191 ([.t (.bool false)],upd (rh p181 0 (L4 zq)) [((ix zq 10),.box (tv (zt [0,13,0,0] [])))]))) none) none)))) (bd [1] (AA C n 175 [.sl 2 (cL p181 (ix zq 6) 10),tI (vI p181 3)]) fun y198=>cnd (gB y198 0=true) (Al (.box [AV.yld 40,.t (tI (cI p181 (ix zq 6) 4)),.t (.sl 10 (cL p181 (ix zq 6) 5)),.t (tI (cI p181 (ix zq 6) 6)),.t (tI (cI p181 (ix zq 6) 7))]) (.box [AV.yld 40,.t (tI (cI p181 (ix zq 6) 4)),.t (.sl 10 (cL p181 (ix zq 6) 5)),.t (tI (cI p181 (ix zq 6) 6)),.t (tI (cI p181 (ix zq 6) 7))]) (Al (.box [AV.yld 40,.t (tI (cI p181 (ix zq 6) 4))]) (.box [AV.yld 40,.t (tI (cI p181 (ix zq 6) 4))]) (Al (.row false (AD p181 (ix zq 4)) 9 (oEs p181 (ix zq 4))) (.row false (AD p181 (ix zq 4)) 9 (oEs p181 (ix zq 4))) (Al (.row false (AD p181 (ix zq 5)) 9 (oEs p181 (ix zq 5))) (.row false (AD p181 (ix zq 5)) 9 (oEs p181 (ix zq 5))) (Al (.row false (AD p181 (ix zq 0)) 9 (oEs p181 (ix zq 0))) (.row false (AD p181 (ix zq 0)) 9 (oEs p181 (ix zq 0))) (bd [0,13,0,0,0] (AA C n 156 (ct [0,13,0,0] p181 (ix zq 6) 4 [tI (vI p181 3),tI (aI p181 4 0),tI (aI p181 4 1),tI (aI p181 4 2),tI (aI p181 4 3),tI (aI p181 4 4),.bool (aB p181 4 5),.str (aS p181 4 6),.sl 2 (aL p181 4 7),.sl 1 []])) fun y199=>cnd (((gI y199 4) != 0)=true) (k182 ([],rh p181 0 (CX zq))) (cnd (AD p181 (ix zq 5)=AL p181 (ix zq 6) 14∧(9=9∨9=0)∧AP p181 (ix zq 6) 14+AJ p181 (ix zq 6) 14≤length (oEs p181 (ix zq 5))∧AJ p181 (ix zq 6) 14+1≤1073741824) (k182 ([],upd (rh p181 0 (CX zq)) [((ix zq 5),.row false (AL p181 (ix zq 6) 14+1) 9 (take (AJ p181 (ix zq 6) 14) (drop (AP p181 (ix zq 6) 14) (oEs p181 (ix zq 5)))++[[tI (vI p181 3),tI (aI p181 4 0),tI (aI p181 4 1),tI (aI p181 4 2),tI (aI p181 4 3),tI (aI p181 4 4),.bool (aB p181 4 5),.str (aS p181 4 6),.sl 2 (aL p181 4 7)]])),((ix zq 6),.box (upd (rb p181 (ix zq 6) 0 (BJ zq)) [(4,.t (tI (gI y199 0))),(5,.t (.sl 10 (gL y199 1))),(6,.t (tI (gI y199 2))),(7,.t (tI (gI y199 3))),(11,.t (tI (w64 (cI p181 (ix zq 6) 11+1)))),(14,.sref (ix zq 5) (AL p181 (ix zq 6) 14+1) 0 (AJ p181 (ix zq 6) 14+1))]))])) none))))))) (cnd (((length (cL p181 (ix zq 6) 8):Int)==0)=true) (Al (.box [AV.yld 40,.t (tI (cI p181 (ix zq 6) 4)),.t (.sl 10 (cL p181 (ix zq 6) 5)),.t (tI (cI p181 (ix zq 6) 6)),.t (tI (cI p181 (ix zq 6) 7))]) (.box [AV.yld 40,.t (tI (cI p181 (ix zq 6) 4)),.t (.sl 10 (cL p181 (ix zq 6) 5)),.t (tI (cI p181 (ix zq 6) 6)),.t (tI (cI p181 (ix zq 6) 7))]) (Al (.box [AV.yld 40,.t (tI (cI p181 (ix zq 6) 4))]) (.box [AV.yld 40,.t (tI (cI p181 (ix zq 6) 4))]) (Al (.row false (AD p181 (ix zq 4)) 9 (oEs p181 (ix zq 4))) (.row false (AD p181 (ix zq 4)) 9 (oEs p181 (ix zq 4))) (Al (.row false (AD p181 (ix zq 5)) 9 (oEs p181 (ix zq 5))) (.row false (AD p181 (ix zq 5)) 9 (oEs p181 (ix zq 5))) (Al (.row false (AD p181 (ix zq 0)) 9 (oEs p181 (ix zq 0))) (.row false (AD p181 (ix zq 0)) 9 (oEs p181 (ix zq 0))) (bd [0,13,0,0,0] (AA C n 156 (ct [0,13,0,0] p181 (ix zq 6) 4 [tI (vI p181 3),tI (aI p181 4 0),tI (aI p181 4 1),tI (aI p181 4 2),tI (aI p181 4 3),tI (aI p181 4 4),.bool (aB p181 4 5),.str (aS p181 4 6),.sl 2 (aL p181 4 7),.sl 1 [[tI (cI p181 (ix zq 6) 4)]]])) fun y200=>cnd (((gI y200 4) != 0)=true) (k182 ([],rh p181 0 (CX zq))) (cnd (AD p181 (ix zq 5)=AL p181 (ix zq 6) 14∧(9=9∨9=0)∧AP p181 (ix zq 6) 14+AJ p181 (ix zq 6) 14≤length (oEs p181 (ix zq 5))∧AJ p181 (ix zq 6) 14+1≤1073741824) (k182 ([],upd (rh p181 0 (CX zq)) [((ix zq 5),.row false (AL p181 (ix zq 6) 14+1) 9 (take (AJ p181 (ix zq 6) 14) (drop (AP p181 (ix zq 6) 14) (oEs p181 (ix zq 5)))++[[tI (vI p181 3),tI (aI p181 4 0),tI (aI p181 4 1),tI (aI p181 4 2),tI (aI p181 4 3),tI (aI p181 4 4),.bool (aB p181 4 5),.str (aS p181 4 6),.sl 2 (aL p181 4 7)]])),((ix zq 6),.box (upd (rb p181 (ix zq 6) 0 (BJ zq)) [(4,.t (tI (gI y200 0))),(5,.t (.sl 10 (gL y200 1))),(6,.t (tI (gI y200 2))),(7,.t (tI (gI y200 3))),(11,.t (tI (w64 (cI p181 (ix zq 6) 11+1)))),(14,.sref (ix zq 5) (AL p181 (ix zq 6) 14+1) 0 (AJ p181 (ix zq 6) 14+1))]))])) none))))))) (cnd ((length (cL p181 (ix zq 6) 8):Int)=0) none (cnd (1=1∧0≤wG (cI p181 (ix zq 6) 11) (length (cL p181 (ix zq 6) 8):Int)) (Option.bind (cL p181 (ix zq 6) 8)[wH (wG (cI p181 (ix zq 6) 11) (length (cL p181 (ix zq 6) 8):Int))]? fun y201=>cnd (okI y201 0) (bd [4,0] (AA C n 176 [tI (gI y201 0),tI (cI p181 (ix zq 6) 4)]) fun y202=>join (MX zq n ff p181 y202 k182) fun k204=>cnd (decide ((length (gL y202 0):Int)>0)=true) (Option.bind (gL y202 0)[0]? fun y205=>cnd (okI y205 0) (k204 ([.t (.bool (gI y205 0==cI p181 (ix zq 6) 4))],rh p181 0 (CX zq))) none) (k204 ([.t (.bool false)],rh p181 0 (CX zq)))) none) none)))))
theorem vCM_4 (zq:Bool) (n:Nat) (ff:Nat→Rec) (k182:KT) (p181:ST):Da C (Fk C (pcx C (AA C n)) n ff Fw 8) (pcx C (AA C n)) n 144 [AV.ptr (ix zq 6) 0,AV.ptr (ix zq 6) 4,.t (tI 1),.t (tI (vI p181 3)),AV.agg (tv [tI (aI p181 4 0),tI (aI p181 4 1),tI (aI p181 4 2),tI (aI p181 4 3),tI (aI p181 4 4),.bool (aB p181 4 5),.str (aS p181 4 6),.sl 2 (aL p181 4 7)])] (rh p181 0 (Js zq)) (fun rs h1=>cnd (BH C.P (A6 C.P 144) rs=true) (EC (rh p181 0 (Js zq)) h1 fun hs=>k182 (rs,hs)) none)=OU zq n ff k182 p181:=by cases zq<;>kernel_rfl
theorem J0 (zq:Bool) (n:Nat) (k182:KT) (p181:ST):CM_4 zq n (fI C n) k182 p181=OU zq n (fI C n) k182 p181:=(Ga C n Fw 8 _ 144 _ _ _).trans (vCM_4 zq n (fI C n) k182 p181)
noncomputable def ZQ (zq:Bool) (n:Nat) (ff:Nat→Rec) (k179:KT) (p178 p211:ST):RT:=k179 ([.t (tI (w64 (vI p178 0+1)))],rh p211 0 (Ok zq))
noncomputable def OY (zq:Bool) (n:Nat) (ff:Nat→Rec) (y177:List Tree) (p167:ST) (k175:KT) (p178:ST) (k179:KT):RT:=cnd (decide (vI p178 0<(length (gL y177 4):Int))=true) (cnd (8=8∧0≤vI p178 0) (Option.bind (gL y177 4)[wH (vI p178 0)]? fun y180=>bk kG 0 y180 (join (ZQ zq n ff k179 p178) fun k212=>CM_4 zq n ff k212 ([AV.ptr (ix zq 6) 0,AV.ptr (ix zq 6) 4,.t (tI 1),.t (tI (cI p178 (ix zq 6) 15)),AV.agg (tv (gt kG y180 0 []))],upd (rh p178 0 (Js zq)) [((ix zq 1),.row true (AD p167 (ix zq 1)) 15 (oEs p167 (ix zq 1))),((ix zq 2),.row true (AD p167 (ix zq 2)) 4 (oEs p167 (ix zq 2))),((ix zq 3),.row true (AD p167 (ix zq 3)) 4 (oEs p167 (ix zq 3))),((ix zq 9),.box (tv (gt kG y180 0 [])))]))) none) (cnd ((!(cB p178 (ix zq 6) 36))=true) (bd [1] (AA C n 147 (ct [0,0,5,2] p178 (ix zq 6) 31 [])) fun y215=>cnd (gB y215 0=true) (k175 ([],upd (rh p178 0 (Dk zq)) [((ix zq 6),.box (upd (rb p178 (ix zq 6) 0 (BJ zq)) [(36,.t (Tree.bool true)),(37,.t (tI (cI p178 (ix zq 6) 15)))]))])) (k175 ([],rh p178 0 (Dk zq)))) (k175 ([],rh p178 0 (Dk zq))))
noncomputable def Vo (zq:Bool) (n:Nat) (ff:Nat→Rec) (p174:ST) (k173:KT) (p224:ST):RT:=cnd (vB p224 0=true) (cnd (AD p224 (ix zq 7)=AD p174 (ix zq 7)+1∧8≤8) (Option.bind (oEs p224 (ix zq 7))[0]? fun y226=>k173 ([.rptr (ix zq 7) (AD p174 (ix zq 7)+1) 0 0,.t (.bool false)],upd (rh p224 0 (Dk zq)) [((ix zq 7),.row false (AD p174 (ix zq 7)+1) 8 (List.set (oEs p224 (ix zq 7)) 0 (zt kG []++drop 8 y226)))])) none) (bd [0,13,0,0,0,0,0,0,0,0,0,1,2,5,0] (AA C n 158 (ct [0,13,0,0] p224 (ix zq 6) 0 [])) fun y227=>cnd (AD p224 (ix zq 7)=AD p174 (ix zq 7)+1∧8≤8) (Option.bind (oEs p224 (ix zq 7))[0]? fun y228=>k173 ([.rptr (ix zq 7) (AD p174 (ix zq 7)+1) 0 0,.t (.bool true)],upd (rh p224 0 (Dk zq)) [((ix zq 6),.box (upd (rb p224 (ix zq 6) 0 (BJ zq)) [(0,.t (tI (gI y227 0))),(1,.t (.sl 10 (gL y227 1))),(2,.t (tI (gI y227 2))),(3,.t (tI (gI y227 3)))])),((ix zq 7),.row false (AD p174 (ix zq 7)+1) 8 (List.set (oEs p224 (ix zq 7)) 0 (gt kG y227 6 []++drop 8 y228)))])) none)
noncomputable def TB (zq:Bool) (n:Nat) (ff:Nat→Rec) (p172:ST) (k173:KT) (p174:ST):RT:=cnd (AD p174 (ix zq 7)=A0 p172 0) (Option.bind (oEs p174 (ix zq 7))[0]? fun y222=>bk kG 0 y222 (cnd (AD p174 (ix zq 7)+1=AD p174 (ix zq 7)+1∧8≤8) (bd [0,1] (AA C n 122 (ct [0,13,0,0] p174 (ix zq 6) 0 [])) fun y223=>join (Vo zq n ff p174 k173) fun k225=>cnd ((!(gB y223 1))=true) (k225 ([.t (.bool true)],upd (rh p174 0 (L5 zq)) [((ix zq 7),.row false (AD p174 (ix zq 7)+1) 8 [[tI (gI y222 0),tI (gI y222 1),tI (gI y222 2),tI (gI y222 3),tI (gI y222 4),.bool (gB y222 5),.str (gS y222 6),.sl 2 (gL y222 7)]]),((ix zq 8),.box (tv (zt kG [])))])) (k225 ([.t (.bool ((gI y223 0) != cI p174 (ix zq 6) 15))],upd (rh p174 0 (L5 zq)) [((ix zq 7),.row false (AD p174 (ix zq 7)+1) 8 [[tI (gI y222 0),tI (gI y222 1),tI (gI y222 2),tI (gI y222 3),tI (gI y222 4),.bool (gB y222 5),.str (gS y222 6),.sl 2 (gL y222 7)]]),((ix zq 8),.box (tv (zt kG [])))]))) none)) none
noncomputable def Ku (zq:Bool) (n:Nat) (ff:Nat→Rec) (p167:ST) (k168:KT) (p172:ST) (k173:KT):RT:=cnd (vB p172 1=true) (join (TB zq n ff p172 k173) fun k175=>cnd (AD p172 (ix zq 7)=A0 p172 0) (Option.bind (oEs p172 (ix zq 7))[0]? fun y176=>bk kG 0 y176 (bd [0,0,5,2,11,0] (AA C n 146 (ct [0,0,5,2] p172 (ix zq 6) 31 (gt kG y176 0 []))) fun y177=>cnd (((gI y177 5) != 0)=true) (k175 ([],rh p172 0 (Dk zq))) (AH (OY zq n ff y177 p167 k175) n ([.t (tI 0)],upd (rh p172 0 (Ok zq)) [((ix zq 6),.box (upd (rb p172 (ix zq 6) 0 (BJ zq)) [(31,.t (tI (gI y177 0))),(32,.t (tI (gI y177 1))),(33,.t (.sl 2 (gL y177 2))),(34,.t (.str (gS y177 3)))])),((ix zq 8),.box (tv (gt [0,0,5,2] y177 0 [])))])))) none) (k168 ([],rh p172 0 (Bb zq)))
noncomputable def Vn (zq:Bool) (n:Nat) (ff:Nat→Rec) (p167:ST) (k168:KT) (p170:ST):RT:=cnd (vB p170 0=true) (AH (Ku zq n ff p167 k168) n ([.rptr (ix zq 7) 0 0 0,.t (.bool false)],upd (rh p170 0 (Dk zq)) [((ix zq 7),.row false 0 8 [[tI 0,tI 0,tI 0,tI 0,tI 0,.bool false,.str B0,.sl 2 []]])])) (bd [0,13,0,0,0,0,0,0,0,0,0,1,2,5,0] (AA C n 158 (ct [0,13,0,0] p170 (ix zq 6) 0 [])) fun y229=>AH (Ku zq n ff p167 k168) n ([.rptr (ix zq 7) 0 0 0,.t (.bool true)],upd (rh p170 0 (Dk zq)) [((ix zq 6),.box (upd (rb p170 (ix zq 6) 0 (BJ zq)) [(0,.t (tI (gI y229 0))),(1,.t (.sl 10 (gL y229 1))),(2,.t (tI (gI y229 2))),(3,.t (tI (gI y229 3)))])),((ix zq 7),.row false 0 8 [[tI (gI y229 6),tI (gI y229 7),tI (gI y229 8),tI (gI y229 9),tI (gI y229 10),.bool (gB y229 11),.str (gS y229 12),.sl 2 (gL y229 13)]])]))
noncomputable def CM_5 (zq:Bool) (n:Nat) (ff:Nat→Rec) (k168:KT) (p167:ST):RT:=ff 10 (List Tree) (.fn 125 [AV.ptr (ix zq 6) 0]) (rh p167 0 (Bz zq)) fun rs h1=>cnd (BH C.P (A6 C.P 125) rs=true) (EC (rh p167 0 (Bz zq)) h1 fun hs=>k168 (rs,hs)) none
noncomputable def Y9 (zq:Bool) (n:Nat) (ff:Nat→Rec) (k168:KT) (p167:ST):RT:=bd [0,1] (AA C n 122 (ct [0,13,0,0] p167 (ix zq 6) 0 [])) fun y169=>join (Vn zq n ff p167 k168) fun k171=>cnd ((!(gB y169 1))=true) (k171 ([.t (.bool true)],upd (rh p167 0 (QE zq)) [((ix zq 7),.box (tv (zt kG [])))])) (k171 ([.t (.bool ((gI y169 0) != cI p167 (ix zq 6) 15))],upd (rh p167 0 (QE zq)) [((ix zq 7),.box (tv (zt kG [])))]))
theorem vCM_5 (zq:Bool) (n:Nat) (ff:Nat→Rec) (k168:KT) (p167:ST):Da C (Fk C (pcx C (AA C n)) n ff Fw 9) (pcx C (AA C n)) n 125 [AV.ptr (ix zq 6) 0] (rh p167 0 (Bz zq)) (fun rs h1=>cnd (BH C.P (A6 C.P 125) rs=true) (EC (rh p167 0 (Bz zq)) h1 fun hs=>k168 (rs,hs)) none)=Y9 zq n ff k168 p167:=by cases zq<;>kernel_rfl
theorem XK (zq:Bool) (n:Nat) (k168:KT) (p167:ST):CM_5 zq n (fI C n) k168 p167=Y9 zq n (fI C n) k168 p167:=(Ga C n Fw 9 _ 125 _ _ _).trans (vCM_5 zq n (fI C n) k168 p167)
noncomputable def FJ (zq:Bool) (n:Nat) (ff:Nat→Rec) (p267:ST) (k268:KT) (y275:List Tree) (p280:ST):RT:=cnd (vB p280 0=true) (Al (.box [AV.yld 40,.t (tI (cI p267 (ix zq 6) 0)),.t (.sl 10 (cL p267 (ix zq 6) 1)),.t (tI (cI p267 (ix zq 6) 2)),.t (tI (cI p267 (ix zq 6) 3))]) (.box [AV.yld 40,.t (tI (cI p280 (ix zq 6) 0)),.t (.sl 10 (cL p280 (ix zq 6) 1)),.t (tI (cI p280 (ix zq 6) 2)),.t (tI (cI p280 (ix zq 6) 3))]) (Al (.box [AV.yld 40,.t (tI (cI p267 (ix zq 6) 0))]) (.box [AV.yld 40,.t (tI (cI p280 (ix zq 6) 0))]) (Al (.row false (AD p267 (ix zq 4)) 9 (oEs p267 (ix zq 4))) (.row false (AD p280 (ix zq 4)) 9 (oEs p280 (ix zq 4))) (Al (.row false (AD p267 (ix zq 5)) 9 (oEs p267 (ix zq 5))) (.row false (AD p280 (ix zq 5)) 9 (oEs p280 (ix zq 5))) (Al (.row false (AD p267 (ix zq 0)) 9 (oEs p267 (ix zq 0))) (.row false (AD p280 (ix zq 0)) 9 (oEs p280 (ix zq 0))) (bd [0,13,0,0,0] (AA C n 156 (ct [0,13,0,0] p267 (ix zq 6) 0 [tI (vI p267 3),tI (aI p267 4 0),tI (aI p267 4 1),tI (aI p267 4 2),tI (aI p267 4 3),tI (aI p267 4 4),.bool (aB p267 4 5),.str (aS p267 4 6),.sl 2 (aL p267 4 7),.sl 1 [[tI (cI p267 (ix zq 6) 0)]]])) fun y282=>cnd (((gI y282 4) != 0)=true) (k268 ([],rh p280 0 (Bb zq))) (cnd (AD p280 (ix zq 4)=AL p280 (ix zq 6) 13∧(9=9∨9=0)∧AP p280 (ix zq 6) 13+AJ p280 (ix zq 6) 13≤length (oEs p280 (ix zq 4))∧AJ p280 (ix zq 6) 13+1≤1073741824) (k268 ([],upd (rh p280 0 (Bb zq)) [((ix zq 4),.row false (AL p280 (ix zq 6) 13+1) 9 (take (AJ p280 (ix zq 6) 13) (drop (AP p280 (ix zq 6) 13) (oEs p280 (ix zq 4)))++[[tI (vI p267 3),tI (aI p267 4 0),tI (aI p267 4 1),tI (aI p267 4 2),tI (aI p267 4 3),tI (aI p267 4 4),Tree.bool (aB p267 4 5),.str (aS p267 4 6),.sl 2 (aL p267 4 7)]])),((ix zq 6),.box (upd (rb p280 (ix zq 6) 0 (BJ zq)) [(0,.t (tI (gI y282 0))),(1,.t (.sl 10 (gL y282 1))),(2,.t (tI (gI y282 2))),(3,.t (tI (gI y282 3))),(11,.t (tI (w64 (cI p280 (ix zq 6) 11+1)))),(13,.sref (ix zq 4) (AL p280 (ix zq 6) 13+1) 0 (AJ p280 (ix zq 6) 13+1))]))])) none))))))) (Al (.box [AV.yld 40,.t (tI (cI p267 (ix zq 6) 0)),.t (.sl 10 (cL p267 (ix zq 6) 1)),.t (tI (cI p267 (ix zq 6) 2)),.t (tI (cI p267 (ix zq 6) 3))]) (.box [AV.yld 40,.t (tI (cI p280 (ix zq 6) 0)),.t (.sl 10 (cL p280 (ix zq 6) 1)),.t (tI (cI p280 (ix zq 6) 2)),.t (tI (cI p280 (ix zq 6) 3))]) (Al (.box [AV.yld 40,.t (tI (cI p267 (ix zq 6) 0))]) (.box [AV.yld 40,.t (tI (cI p280 (ix zq 6) 0))]) (Al (.row false (AD p267 (ix zq 4)) 9 (oEs p267 (ix zq 4))) (.row false (AD p280 (ix zq 4)) 9 (oEs p280 (ix zq 4))) (Al (.row false (AD p267 (ix zq 5)) 9 (oEs p267 (ix zq 5))) (.row false (AD p280 (ix zq 5)) 9 (oEs p280 (ix zq 5))) (Al (.row false (AD p267 (ix zq 0)) 9 (oEs p267 (ix zq 0))) (.row false (AD p280 (ix zq 0)) 9 (oEs p280 (ix zq 0))) (bd [0,13,0,0,0] (AA C n 156 (ct [0,13,0,0] p267 (ix zq 6) 0 [tI (vI p267 3),tI (aI p267 4 0),tI (aI p267 4 1),tI (aI p267 4 2),tI (aI p267 4 3),tI (aI p267 4 4),.bool (aB p267 4 5),.str (aS p267 4 6),.sl 2 (aL p267 4 7),.sl 1 (gL y275 0)])) fun y283=>cnd (((gI y283 4) != 0)=true) (k268 ([],upd (rh p280 0 (Bb zq)) [((ix zq 6),.box (upd (rb p280 (ix zq 6) 0 (BJ zq)) [(12,.t (tI (w64 (cI p280 (ix zq 6) 12+1))))]))])) (cnd (AD p280 (ix zq 4)=AL p280 (ix zq 6) 13∧(9=9∨9=0)∧AP p280 (ix zq 6) 13+AJ p280 (ix zq 6) 13≤length (oEs p280 (ix zq 4))∧AJ p280 (ix zq 6) 13+1≤1073741824) (k268 ([],upd (rh p280 0 (Bb zq)) [((ix zq 4),.row false (AL p280 (ix zq 6) 13+1) 9 (take (AJ p280 (ix zq 6) 13) (drop (AP p280 (ix zq 6) 13) (oEs p280 (ix zq 4)))++[[tI (vI p267 3),tI (aI p267 4 0),tI (aI p267 4 1),tI (aI p267 4 2),tI (aI p267 4 3),tI (aI p267 4 4),.bool (aB p267 4 5),.str (aS p267 4 6),.sl 2 (aL p267 4 7)]])),((ix zq 6),.box (upd (rb p280 (ix zq 6) 0 (BJ zq)) [(0,.t (tI (gI y283 0))),(1,.t (.sl 10 (gL y283 1))),(2,.t (tI (gI y283 2))),(3,.t (tI (gI y283 3))),(11,.t (tI (w64 (cI p280 (ix zq 6) 11+1)))),(12,.t (tI (w64 (cI p280 (ix zq 6) 12+1)))),(13,.sref (ix zq 4) (AL p280 (ix zq 6) 13+1) 0 (AJ p280 (ix zq 6) 13+1))]))])) none)))))))
noncomputable def MW (zq:Bool) (n:Nat) (ff:Nat→Rec) (p267:ST) (y275:List Tree) (k268:KT) (p276:ST):RT:=cnd (vB p276 0=true) (Al (.box [AV.yld 40,.t (tI (cI p267 (ix zq 6) 0)),.t (.sl 10 (cL p267 (ix zq 6) 1)),.t (tI (cI p267 (ix zq 6) 2)),.t (tI (cI p267 (ix zq 6) 3))]) (.box [AV.yld 40,.t (tI (cI p276 (ix zq 6) 0)),.t (.sl 10 (cL p276 (ix zq 6) 1)),.t (tI (cI p276 (ix zq 6) 2)),.t (tI (cI p276 (ix zq 6) 3))]) (Al (.box [AV.yld 40,.t (tI (cI p267 (ix zq 6) 0))]) (.box [AV.yld 40,.t (tI (cI p276 (ix zq 6) 0))]) (Al (.row false (AD p267 (ix zq 4)) 9 (oEs p267 (ix zq 4))) (.row false (AD p276 (ix zq 4)) 9 (oEs p276 (ix zq 4))) (Al (.row false (AD p267 (ix zq 5)) 9 (oEs p267 (ix zq 5))) (.row false (AD p276 (ix zq 5)) 9 (oEs p276 (ix zq 5))) (Al (.row false (AD p267 (ix zq 0)) 9 (oEs p267 (ix zq 0))) (.row false (AD p276 (ix zq 0)) 9 (oEs p276 (ix zq 0))) (bd [0,13,0,0,0] (AA C n 156 (ct [0,13,0,0] p267 (ix zq 6) 0 [tI (vI p267 3),tI (aI p267 4 0),tI (aI p267 4 1),tI (aI p267 4 2),tI (aI p267 4 3),tI (aI p267 4 4),.bool (aB p267 4 5),.str (aS p267 4 6),.sl 2 (aL p267 4 7),.sl 1 (gL y275 0)])) fun y279=>cnd (((gI y279 4) != 0)=true) (k268 ([],rh p276 0 (Bb zq))) (cnd (AD p276 (ix zq 4)=AL p276 (ix zq 6) 13∧(9=9∨9=0)∧AP p276 (ix zq 6) 13+AJ p276 (ix zq 6) 13≤length (oEs p276 (ix zq 4))∧AJ p276 (ix zq 6) 13+1≤1073741824) (k268 ([],upd (rh p276 0 (Bb zq)) [((ix zq 4),.row false (AL p276 (ix zq 6) 13+1) 9 (take (AJ p276 (ix zq 6) 13) (drop (AP p276 (ix zq 6) 13) (oEs p276 (ix zq 4)))++[[tI (vI p267 3),tI (aI p267 4 0),tI (aI p267 4 1),tI (aI p267 4 2),tI (aI p267 4 3),tI (aI p267 4 4),.bool (aB p267 4 5),.str (aS p267 4 6),.sl 2 (aL p267 4 7)]])),((ix zq 6),.box (upd (rb p276 (ix zq 6) 0 (BJ zq)) [(0,.t (tI (gI y279 0))),(1,.t (.sl 10 (gL y279 1))),(2,.t (tI (gI y279 2))),(3,.t (tI (gI y279 3))),(11,.t (tI (w64 (cI p276 (ix zq 6) 11+1)))),(13,.sref (ix zq 4) (AL p276 (ix zq 6) 13+1) 0 (AJ p276 (ix zq 6) 13+1))]))])) none))))))) (join (FJ zq n ff p267 k268 y275) fun k281=>cnd (decide (cI p276 (ix zq 6) 9≥(0:Int))=true) (k281 ([.t (.bool (decide (cI p276 (ix zq 6) 12≥cI p276 (ix zq 6) 9)))],rh p276 0 (L3 zq))) (k281 ([.t (.bool false)],rh p276 0 (L3 zq))))
noncomputable def MV (zq:Bool) (n:Nat) (ff:Nat→Rec) (p267:ST) (y288:List Tree) (k268:KT) (p289:ST):RT:=cnd (vB p289 0=true) (Al (.box [AV.yld 40,.t (tI (cI p267 (ix zq 6) 0)),.t (.sl 10 (cL p267 (ix zq 6) 1)),.t (tI (cI p267 (ix zq 6) 2)),.t (tI (cI p267 (ix zq 6) 3))]) (.box [AV.yld 40,.t (tI (cI p289 (ix zq 6) 0)),.t (.sl 10 (cL p289 (ix zq 6) 1)),.t (tI (cI p289 (ix zq 6) 2)),.t (tI (cI p289 (ix zq 6) 3))]) (Al (.box [AV.yld 40,.t (tI (cI p267 (ix zq 6) 0))]) (.box [AV.yld 40,.t (tI (cI p289 (ix zq 6) 0))]) (Al (.row false (AD p267 (ix zq 4)) 9 (oEs p267 (ix zq 4))) (.row false (AD p289 (ix zq 4)) 9 (oEs p289 (ix zq 4))) (Al (.row false (AD p267 (ix zq 5)) 9 (oEs p267 (ix zq 5))) (.row false (AD p289 (ix zq 5)) 9 (oEs p289 (ix zq 5))) (Al (.row false (AD p267 (ix zq 0)) 9 (oEs p267 (ix zq 0))) (.row false (AD p289 (ix zq 0)) 9 (oEs p289 (ix zq 0))) (bd [0,13,0,0,0] (AA C n 156 (ct [0,13,0,0] p267 (ix zq 6) 0 [tI (vI p267 3),tI (aI p267 4 0),tI (aI p267 4 1),tI (aI p267 4 2),tI (aI p267 4 3),tI (aI p267 4 4),.bool (aB p267 4 5),.str (aS p267 4 6),.sl 2 (aL p267 4 7),.sl 1 (gL y288 0)])) fun y292=>cnd (((gI y292 4) != 0)=true) (k268 ([],rh p289 0 (Bb zq))) (cnd (AD p289 (ix zq 4)=AL p289 (ix zq 6) 13∧(9=9∨9=0)∧AP p289 (ix zq 6) 13+AJ p289 (ix zq 6) 13≤length (oEs p289 (ix zq 4))∧AJ p289 (ix zq 6) 13+1≤1073741824) (k268 ([],upd (rh p289 0 (Bb zq)) [((ix zq 4),.row false (AL p289 (ix zq 6) 13+1) 9 (take (AJ p289 (ix zq 6) 13) (drop (AP p289 (ix zq 6) 13) (oEs p289 (ix zq 4)))++[[tI (vI p267 3),tI (aI p267 4 0),tI (aI p267 4 1),tI (aI p267 4 2),tI (aI p267 4 3),tI (aI p267 4 4),.bool (aB p267 4 5),.str (aS p267 4 6),.sl 2 (aL p267 4 7)]])),((ix zq 6),.box (upd (rb p289 (ix zq 6) 0 (BJ zq)) [(0,.t (tI (gI y292 0))),(1,.t (.sl 10 (gL y292 1))),(2,.t (tI (gI y292 2))),(3,.t (tI (gI y292 3))),(11,.t (tI (w64 (cI p289 (ix zq 6) 11+1)))),(13,.sref (ix zq 4) (AL p289 (ix zq 6) 13+1) 0 (AJ p289 (ix zq 6) 13+1))]))])) none))))))) (join (FJ zq n ff p267 k268 y288) fun k294=>cnd (decide (cI p289 (ix zq 6) 9≥(0:Int))=true) (k294 ([.t (.bool (decide (cI p289 (ix zq 6) 12≥cI p289 (ix zq 6) 9)))],rh p289 0 (Bb zq))) (k294 ([.t (.bool false)],rh p289 0 (Bb zq))))
noncomputable def CM_6 (zq:Bool) (n:Nat) (ff:Nat→Rec) (k268:KT) (p267:ST):RT:=ff 9 (List Tree) (.fn 144 [AV.ptr (ix zq 6) 0,AV.ptr (ix zq 6) 0,.t (tI 0),.t (tI (vI p267 3)),AV.agg (tv [tI (aI p267 4 0),tI (aI p267 4 1),tI (aI p267 4 2),tI (aI p267 4 3),tI (aI p267 4 4),.bool (aB p267 4 5),.str (aS p267 4 6),.sl 2 (aL p267 4 7)])]) (rh p267 0 (Bz zq)) fun rs h1=>cnd (BH C.P (A6 C.P 144) rs=true) (EC (rh p267 0 (Bz zq)) h1 fun hs=>k268 (rs,hs)) none
noncomputable def OT (zq:Bool) (n:Nat) (ff:Nat→Rec) (k268:KT) (p267:ST):RT:=cnd (decide (cI p267 (ix zq 6) 11≥(10000:Int))=true) (k268 ([],rh p267 0 (Bb zq))) (both (bd [1] (AA C n 175 [.sl 2 (cL p267 (ix zq 6) 10),tI (vI p267 3)]) fun y271=>cnd (gB y271 0=true) (Al (.box [AV.yld 40,.t (tI (cI p267 (ix zq 6) 0)),.t (.sl 10 (cL p267 (ix zq 6) 1)),.t (tI (cI p267 (ix zq 6) 2)),.t (tI (cI p267 (ix zq 6) 3))]) (.box [AV.yld 40,.t (tI (cI p267 (ix zq 6) 0)),.t (.sl 10 (cL p267 (ix zq 6) 1)),.t (tI (cI p267 (ix zq 6) 2)),.t (tI (cI p267 (ix zq 6) 3))]) (Al (.box [AV.yld 40,.t (tI (cI p267 (ix zq 6) 0))]) (.box [AV.yld 40,.t (tI (cI p267 (ix zq 6) 0))]) (Al (.row false (AD p267 (ix zq 4)) 9 (oEs p267 (ix zq 4))) (.row false (AD p267 (ix zq 4)) 9 (oEs p267 (ix zq 4))) (Al (.row false (AD p267 (ix zq 5)) 9 (oEs p267 (ix zq 5))) (.row false (AD p267 (ix zq 5)) 9 (oEs p267 (ix zq 5))) (Al (.row false (AD p267 (ix zq 0)) 9 (oEs p267 (ix zq 0))) (.row false (AD p267 (ix zq 0)) 9 (oEs p267 (ix zq 0))) (bd [0,13,0,0,0] (AA C n 156 (ct [0,13,0,0] p267 (ix zq 6) 0 [tI (vI p267 3),tI (aI p267 4 0),tI (aI p267 4 1),tI (aI p267 4 2),tI (aI p267 4 3),tI (aI p267 4 4),.bool (aB p267 4 5),.str (aS p267 4 6),.sl 2 (aL p267 4 7),.sl 1 []])) fun y272=>cnd (((gI y272 4) != 0)=true) (k268 ([],rh p267 0 (Bb zq))) (cnd (AD p267 (ix zq 4)=AL p267 (ix zq 6) 13∧(9=9∨9=0)∧AP p267 (ix zq 6) 13+AJ p267 (ix zq 6) 13≤length (oEs p267 (ix zq 4))∧AJ p267 (ix zq 6) 13+1≤1073741824) (k268 ([],upd (rh p267 0 (Bb zq)) [((ix zq 4),.row false (AL p267 (ix zq 6) 13+1) 9 (take (AJ p267 (ix zq 6) 13) (drop (AP p267 (ix zq 6) 13) (oEs p267 (ix zq 4)))++[[tI (vI p267 3),tI (aI p267 4 0),tI (aI p267 4 1),tI (aI p267 4 2),tI (aI p267 4 3),tI (aI p267 4 4),.bool (aB p267 4 5),.str (aS p267 4 6),.sl 2 (aL p267 4 7)]])),((ix zq 6),.box (upd (rb p267 (ix zq 6) 0 (BJ zq)) [(0,.t (tI (gI y272 0))),(1,.t (.sl 10 (gL y272 1))),(2,.t (tI (gI y272 2))),(3,.t (tI (gI y272 3))),(11,.t (tI (w64 (cI p267 (ix zq 6) 11+1)))),(13,.sref (ix zq 4) (AL p267 (ix zq 6) 13+1) 0 (AJ p267 (ix zq 6) 13+1))]))])) none))))))) (cnd (((length (cL p267 (ix zq 6) 8):Int)==0)=true) (Al (.box [AV.yld 40,.t (tI (cI p267 (ix zq 6) 0)),.t (.sl 10 (cL p267 (ix zq 6) 1)),.t (tI (cI p267 (ix zq 6) 2)),.t (tI (cI p267 (ix zq 6) 3))]) (.box [AV.yld 40,.t (tI (cI p267 (ix zq 6) 0)),.t (.sl 10 (cL p267 (ix zq 6) 1)),.t (tI (cI p267 (ix zq 6) 2)),.t (tI (cI p267 (ix zq 6) 3))]) (Al (.box [AV.yld 40,.t (tI (cI p267 (ix zq 6) 0))]) (.box [AV.yld 40,.t (tI (cI p267 (ix zq 6) 0))]) (Al (.row false (AD p267 (ix zq 4)) 9 (oEs p267 (ix zq 4))) (.row false (AD p267 (ix zq 4)) 9 (oEs p267 (ix zq 4))) (Al (.row false (AD p267 (ix zq 5)) 9 (oEs p267 (ix zq 5))) (.row false (AD p267 (ix zq 5)) 9 (oEs p267 (ix zq 5))) (Al (.row false (AD p267 (ix zq 0)) 9 (oEs p267 (ix zq 0))) (.row false (AD p267 (ix zq 0)) 9 (oEs p267 (ix zq 0))) (bd [0,13,0,0,0] (AA C n 156 (ct [0,13,0,0] p267 (ix zq 6) 0 [tI (vI p267 3),tI (aI p267 4 0),tI (aI p267 4 1),tI (aI p267 4 2),tI (aI p267 4 3),tI (aI p267 4 4),.bool (aB p267 4 5),.str (aS p267 4 6),.sl 2 (aL p267 4 7),.sl 1 [[tI (cI p267 (ix zq 6) 0)]]])) fun y273=>cnd (((gI y273 4) != 0)=true) (k268 ([],rh p267 0 (Bb zq))) (cnd (AD p267 (ix zq 4)=AL p267 (ix zq 6) 13∧(9=9∨9=0)∧AP p267 (ix zq 6) 13+AJ p267 (ix zq 6) 13≤length (oEs p267 (ix zq 4))∧AJ p267 (ix zq 6) 13+1≤1073741824) (k268 ([],upd (rh p267 0 (Bb zq)) [((ix zq 4),.row false (AL p267 (ix zq 6) 13+1) 9 (take (AJ p267 (ix zq 6) 13) (drop (AP p267 (ix zq 6) 13) (oEs p267 (ix zq 4)))++[[tI (vI p267 3),tI (aI p267 4 0),tI (aI p267 4 1),tI (aI p267 4 2),tI (aI p267 4 3),tI (aI p267 4 4),.bool (aB p267 4 5),.str (aS p267 4 6),.sl 2 (aL p267 4 7)]])),((ix zq 6),.box (upd (rb p267 (ix zq 6) 0 (BJ zq)) [(0,.t (tI (gI y273 0))),(1,.t (.sl 10 (gL y273 1))),(2,.t (tI (gI y273 2))),(3,.t (tI (gI y273 3))),(11,.t (tI (w64 (cI p267 (ix zq 6) 11+1)))),(13,.sref (ix zq 4) (AL p267 (ix zq 6) 13+1) 0 (AJ p267 (ix zq 6) 13+1))]))])) none))))))) (cnd ((length (cL p267 (ix zq 6) 8):Int)=0) none (cnd (1=1∧0≤wG (cI p267 (ix zq 6) 11) (length (cL p267 (ix zq 6) 8):Int)) (Option.bind (cL p267 (ix zq 6) 8)[wH (wG (cI p267 (ix zq 6) 11) (length (cL p267 (ix zq 6) 8):Int))]? fun y274=>cnd (okI y274 0) (bd [4,0] (AA C n 176 [tI (gI y274 0),tI (cI p267 (ix zq 6) 0)]) fun y275=>join (MW zq n ff p267 y275 k268) fun k277=>cnd (decide ((length (gL y275 0):Int)>0)=true) (Option.bind (gL y275 0)[0]? fun y278=>cnd (okI y278 0) (k277 ([.t (.bool (gI y278 0==cI p267 (ix zq 6) 0))],upd (rh p267 0 (L3 zq)) [((ix zq 7),.box (tv (zt [0,13,0,0] [])))])) none) (k277 ([.t (.bool false)],upd (rh p267 0 (L3 zq)) [((ix zq 7),.box (tv (zt [0,13,0,0] [])))]))) none) none)))) (bd [1] (AA C n 175 [.sl 2 (cL p267 (ix zq 6) 10),tI (vI p267 3)]) fun y284=>cnd (gB y284 0=true) (Al (.box [AV.yld 40,.t (tI (cI p267 (ix zq 6) 0)),.t (.sl 10 (cL p267 (ix zq 6) 1)),.t (tI (cI p267 (ix zq 6) 2)),.t (tI (cI p267 (ix zq 6) 3))]) (.box [AV.yld 40,.t (tI (cI p267 (ix zq 6) 0)),.t (.sl 10 (cL p267 (ix zq 6) 1)),.t (tI (cI p267 (ix zq 6) 2)),.t (tI (cI p267 (ix zq 6) 3))]) (Al (.box [AV.yld 40,.t (tI (cI p267 (ix zq 6) 0))]) (.box [AV.yld 40,.t (tI (cI p267 (ix zq 6) 0))]) (Al (.row false (AD p267 (ix zq 4)) 9 (oEs p267 (ix zq 4))) (.row false (AD p267 (ix zq 4)) 9 (oEs p267 (ix zq 4))) (Al (.row false (AD p267 (ix zq 5)) 9 (oEs p267 (ix zq 5))) (.row false (AD p267 (ix zq 5)) 9 (oEs p267 (ix zq 5))) (Al (.row false (AD p267 (ix zq 0)) 9 (oEs p267 (ix zq 0))) (.row false (AD p267 (ix zq 0)) 9 (oEs p267 (ix zq 0))) (bd [0,13,0,0,0] (AA C n 156 (ct [0,13,0,0] p267 (ix zq 6) 0 [tI (vI p267 3),tI (aI p267 4 0),tI (aI p267 4 1),tI (aI p267 4 2),tI (aI p267 4 3),tI (aI p267 4 4),.bool (aB p267 4 5),.str (aS p267 4 6),.sl 2 (aL p267 4 7),.sl 1 []])) fun y285=>cnd (((gI y285 4) != 0)=true) (k268 ([],rh p267 0 (Bb zq))) (cnd (AD p267 (ix zq 4)=AL p267 (ix zq 6) 13∧(9=9∨9=0)∧AP p267 (ix zq 6) 13+AJ p267 (ix zq 6) 13≤length (oEs p267 (ix zq 4))∧AJ p267 (ix zq 6) 13+1≤1073741824) (k268 ([],upd (rh p267 0 (Bb zq)) [((ix zq 4),.row false (AL p267 (ix zq 6) 13+1) 9 (take (AJ p267 (ix zq 6) 13) (drop (AP p267 (ix zq 6) 13) (oEs p267 (ix zq 4)))++[[tI (vI p267 3),tI (aI p267 4 0),tI (aI p267 4 1),tI (aI p267 4 2),tI (aI p267 4 3),tI (aI p267 4 4),.bool (aB p267 4 5),.str (aS p267 4 6),.sl 2 (aL p267 4 7)]])),((ix zq 6),.box (upd (rb p267 (ix zq 6) 0 (BJ zq)) [(0,.t (tI (gI y285 0))),(1,.t (.sl 10 (gL y285 1))),(2,.t (tI (gI y285 2))),(3,.t (tI (gI y285 3))),(11,.t (tI (w64 (cI p267 (ix zq 6) 11+1)))),(13,.sref (ix zq 4) (AL p267 (ix zq 6) 13+1) 0 (AJ p267 (ix zq 6) 13+1))]))])) none))))))) (cnd (((length (cL p267 (ix zq 6) 8):Int)==0)=true) (Al (.box [AV.yld 40,.t (tI (cI p267 (ix zq 6) 0)),.t (.sl 10 (cL p267 (ix zq 6) 1)),.t (tI (cI p267 (ix zq 6) 2)),.t (tI (cI p267 (ix zq 6) 3))]) (.box [AV.yld 40,.t (tI (cI p267 (ix zq 6) 0)),.t (.sl 10 (cL p267 (ix zq 6) 1)),.t (tI (cI p267 (ix zq 6) 2)),.t (tI (cI p267 (ix zq 6) 3))]) (Al (.box [AV.yld 40,.t (tI (cI p267 (ix zq 6) 0))]) (.box [AV.yld 40,.t (tI (cI p267 (ix zq 6) 0))]) (Al (.row false (AD p267 (ix zq 4)) 9 (oEs p267 (ix zq 4))) (.row false (AD p267 (ix zq 4)) 9 (oEs p267 (ix zq 4))) (Al (.row false (AD p267 (ix zq 5)) 9 (oEs p267 (ix zq 5))) (.row false (AD p267 (ix zq 5)) 9 (oEs p267 (ix zq 5))) (Al (.row false (AD p267 (ix zq 0)) 9 (oEs p267 (ix zq 0))) (.row false (AD p267 (ix zq 0)) 9 (oEs p267 (ix zq 0))) (bd [0,13,0,0,0] (AA C n 156 (ct [0,13,0,0] p267 (ix zq 6) 0 [tI (vI p267 3),tI (aI p267 4 0),tI (aI p267 4 1),tI (aI p267 4 2),tI (aI p267 4 3),tI (aI p267 4 4),.bool (aB p267 4 5),.str (aS p267 4 6),.sl 2 (aL p267 4 7),.sl 1 [[tI (cI p267 (ix zq 6) 0)]]])) fun y286=>cnd (((gI y286 4) != 0)=true) (k268 ([],rh p267 0 (Bb zq))) (cnd (AD p267 (ix zq 4)=AL p267 (ix zq 6) 13∧(9=9∨9=0)∧AP p267 (ix zq 6) 13+AJ p267 (ix zq 6) 13≤length (oEs p267 (ix zq 4))∧AJ p267 (ix zq 6) 13+1≤1073741824) (k268 ([],upd (rh p267 0 (Bb zq)) [((ix zq 4),.row false (AL p267 (ix zq 6) 13+1) 9 (take (AJ p267 (ix zq 6) 13) (drop (AP p267 (ix zq 6) 13) (oEs p267 (ix zq 4)))++[[tI (vI p267 3),tI (aI p267 4 0),tI (aI p267 4 1),tI (aI p267 4 2),tI (aI p267 4 3),tI (aI p267 4 4),.bool (aB p267 4 5),.str (aS p267 4 6),.sl 2 (aL p267 4 7)]])),((ix zq 6),.box (upd (rb p267 (ix zq 6) 0 (BJ zq)) [(0,.t (tI (gI y286 0))),(1,.t (.sl 10 (gL y286 1))),(2,.t (tI (gI y286 2))),(3,.t (tI (gI y286 3))),(11,.t (tI (w64 (cI p267 (ix zq 6) 11+1)))),(13,.sref (ix zq 4) (AL p267 (ix zq 6) 13+1) 0 (AJ p267 (ix zq 6) 13+1))]))])) none))))))) (cnd ((length (cL p267 (ix zq 6) 8):Int)=0) none (cnd (1=1∧0≤wG (cI p267 (ix zq 6) 11) (length (cL p267 (ix zq 6) 8):Int)) (Option.bind (cL p267 (ix zq 6) 8)[wH (wG (cI p267 (ix zq 6) 11) (length (cL p267 (ix zq 6) 8):Int))]? fun y287=>cnd (okI y287 0) (bd [4,0] (AA C n 176 [tI (gI y287 0),tI (cI p267 (ix zq 6) 0)]) fun y288=>join (MV zq n ff p267 y288 k268) fun k290=>cnd (decide ((length (gL y288 0):Int)>0)=true) (Option.bind (gL y288 0)[0]? fun y291=>cnd (okI y291 0) (k290 ([.t (.bool (gI y291 0==cI p267 (ix zq 6) 0))],rh p267 0 (Bb zq))) none) (k290 ([.t (.bool false)],rh p267 0 (Bb zq)))) none) none)))))
theorem vCM_6 (zq:Bool) (n:Nat) (ff:Nat→Rec) (k268:KT) (p267:ST):Da C (Fk C (pcx C (AA C n)) n ff Fw 8) (pcx C (AA C n)) n 144 [AV.ptr (ix zq 6) 0,AV.ptr (ix zq 6) 0,.t (tI 0),.t (tI (vI p267 3)),AV.agg (tv [tI (aI p267 4 0),tI (aI p267 4 1),tI (aI p267 4 2),tI (aI p267 4 3),tI (aI p267 4 4),.bool (aB p267 4 5),.str (aS p267 4 6),.sl 2 (aL p267 4 7)])] (rh p267 0 (Bz zq)) (fun rs h1=>cnd (BH C.P (A6 C.P 144) rs=true) (EC (rh p267 0 (Bz zq)) h1 fun hs=>k268 (rs,hs)) none)=OT zq n ff k268 p267:=by cases zq<;>kernel_rfl
theorem Jz (zq:Bool) (n:Nat) (k268:KT) (p267:ST):CM_6 zq n (fI C n) k268 p267=OT zq n (fI C n) k268 p267:=(Ga C n Fw 8 _ 144 _ _ _).trans (vCM_6 zq n (fI C n) k268 p267)
noncomputable def JM_39 (zq:Bool) (n:Nat) (ff:Nat→Rec) (k262:KT) (p297:ST):RT:=cnd (AD p297 (ix zq 0)=AL p297 (ix zq 6) 35∧(9=9∨9=0)) (cnd ((0:Int)≤1∧1≤(AJ p297 (ix zq 6) 35:Int)) (k262 ([],upd (rh p297 0 (Bb zq)) [((ix zq 6),.box (upd (rb p297 (ix zq 6) 0 (BJ zq)) [(35,.sref (ix zq 0) (AL p297 (ix zq 6) 35) (AP p297 (ix zq 6) 35+1) (AJ p297 (ix zq 6) 35-1))]))])) none) none
noncomputable def Vm (zq:Bool) (n:Nat) (ff:Nat→Rec) (k262:KT) (p259:ST) (k260:KT) (p263:ST):RT:=cnd (vB p263 0=true) (cnd (AD p263 (ix zq 0)=AL p263 (ix zq 6) 35∧9=9∧(0:Int)≤0∧0<(AJ p263 (ix zq 6) 35:Int)) (cnd (AD p263 (ix zq 0)=AL p263 (ix zq 6) 35) (cnd (AD p263 (ix zq 0)=AL p263 (ix zq 6) 35) (Option.bind (oEs p263 (ix zq 0))[AP p263 (ix zq 6) 35]? fun y266=>bk kG 1 y266 (join (JM_39 zq n ff k262) fun k298=>CM_6 zq n ff k298 ([AV.ptr (ix zq 6) 0,AV.ptr (ix zq 6) 0,.t (tI 0),.t (tI (cI p263 (ix zq 6) 15)),AV.agg (tv (gt kG y266 1 []))],upd (rh p263 0 (Bz zq)) [((ix zq 1),.row true (AD p259 (ix zq 1)) 15 (oEs p259 (ix zq 1))),((ix zq 2),.row true (AD p259 (ix zq 2)) 4 (oEs p259 (ix zq 2))),((ix zq 3),.row true (AD p259 (ix zq 3)) 4 (oEs p259 (ix zq 3)))]))) none) none) none) (k260 ([],rh p263 0 (Bb zq)))
noncomputable def S8 (zq:Bool) (n:Nat) (ff:Nat→Rec) (p259:ST) (k260:KT) (p261:ST) (k262:KT):RT:=join (Vm zq n ff k262 p259 k260) fun k264=>cnd (AD p261 (ix zq 0)=AL p261 (ix zq 6) 35) (cnd (decide ((AJ p261 (ix zq 6) 35:Int)>0)=true) (cnd (AD p261 (ix zq 0)=AL p261 (ix zq 6) 35∧9=9∧(0:Int)≤0∧0<(AJ p261 (ix zq 6) 35:Int)) (cnd (AD p261 (ix zq 0)=AL p261 (ix zq 6) 35) (cnd (AD p261 (ix zq 0)=AL p261 (ix zq 6) 35) (Option.bind (oEs p261 (ix zq 0))[AP p261 (ix zq 6) 35]? fun y265=>cnd (okI y265 0) (k264 ([.t (.bool (gI y265 0==cI p261 (ix zq 6) 15))],rh p261 0 (Bb zq))) none) none) none) none) (k264 ([.t (.bool false)],rh p261 0 (Bb zq)))) none
noncomputable def CM_7 (zq:Bool) (n:Nat) (ff:Nat→Rec) (k260:KT) (p259:ST):RT:=ff 10 (List Tree) (.fn 124 [AV.ptr (ix zq 6) 0]) (rh p259 0 (Bz zq)) fun rs h1=>cnd (BH C.P (A6 C.P 124) rs=true) (EC (rh p259 0 (Bz zq)) h1 fun hs=>k260 (rs,hs)) none
noncomputable def XM_7 (zq:Bool) (n:Nat) (ff:Nat→Rec) (k260:KT) (p259:ST):RT:=AH (S8 zq n ff p259 k260) n ([],rh p259 0 (Bb zq))
theorem vCM_7 (zq:Bool) (n:Nat) (ff:Nat→Rec) (k260:KT) (p259:ST):Da C (Fk C (pcx C (AA C n)) n ff Fw 9) (pcx C (AA C n)) n 124 [AV.ptr (ix zq 6) 0] (rh p259 0 (Bz zq)) (fun rs h1=>cnd (BH C.P (A6 C.P 124) rs=true) (EC (rh p259 0 (Bz zq)) h1 fun hs=>k260 (rs,hs)) none)=XM_7 zq n ff k260 p259:=by cases zq<;>kernel_rfl
theorem tCM_7 (zq:Bool) (n:Nat) (k260:KT) (p259:ST):CM_7 zq n (fI C n) k260 p259=XM_7 zq n (fI C n) k260 p259:=(Ga C n Fw 9 _ 124 _ _ _).trans (vCM_7 zq n (fI C n) k260 p259)
noncomputable def JM_43 (zq:Bool) (n:Nat) (ff:Nat→Rec) (k85:KT) (p301:ST):RT:=k85 (tv [tI (vI p301 0),.bool (vB p301 1)],rh p301 0 (Bb zq))
noncomputable def OX (zq:Bool) (n:Nat) (ff:Nat→Rec) (p17:ST) (k85:KT) (p86:ST) (k87:KT):RT:=cnd (decide (vI p86 0<4)=true) (cnd (0≤vI p86 0∧vI p86 0<4) (cnd (vI p86 0=(3:Int)) (join (MZ zq n ff k87 p86) fun k100=>CM_2 zq n ff k100 ([AV.ptr (ix zq 6) 0],upd (rh p86 0 (Bz zq)) [((ix zq 1),.row true (AD p17 (ix zq 1)) 15 (oEs p17 (ix zq 1))),((ix zq 2),.row true (AD p17 (ix zq 2)) 4 (oEs p17 (ix zq 2))),((ix zq 3),.row true (AD p17 (ix zq 3)) 4 (oEs p17 (ix zq 3)))])) (cnd (vI p86 0=(2:Int)) (join (MZ zq n ff k87 p86) fun k166=>CM_3 zq n ff k166 ([AV.ptr (ix zq 6) 0],upd (rh p86 0 (Bz zq)) [((ix zq 1),.row true (AD p17 (ix zq 1)) 15 (oEs p17 (ix zq 1))),((ix zq 2),.row true (AD p17 (ix zq 2)) 4 (oEs p17 (ix zq 2))),((ix zq 3),.row true (AD p17 (ix zq 3)) 4 (oEs p17 (ix zq 3)))])) (cnd (vI p86 0=(1:Int)) (join (MZ zq n ff k87 p86) fun k258=>CM_5 zq n ff k258 ([AV.ptr (ix zq 6) 0],upd (rh p86 0 (Bz zq)) [((ix zq 1),.row true (AD p17 (ix zq 1)) 15 (oEs p17 (ix zq 1))),((ix zq 2),.row true (AD p17 (ix zq 2)) 4 (oEs p17 (ix zq 2))),((ix zq 3),.row true (AD p17 (ix zq 3)) 4 (oEs p17 (ix zq 3)))])) (cnd (vI p86 0=(0:Int)) (join (MZ zq n ff k87 p86) fun k300=>CM_7 zq n ff k300 ([AV.ptr (ix zq 6) 0],upd (rh p86 0 (Bz zq)) [((ix zq 1),.row true (AD p17 (ix zq 1)) 15 (oEs p17 (ix zq 1))),((ix zq 2),.row true (AD p17 (ix zq 2)) 4 (oEs p17 (ix zq 2))),((ix zq 3),.row true (AD p17 (ix zq 3)) 4 (oEs p17 (ix zq 3)))])) none)))) none) (join (JM_43 zq n ff k85) fun k302=>CM_1 zq n ff k302 ([AV.ptr (ix zq 6) 0],upd (rh p86 0 (Bz zq)) [((ix zq 1),.row true (AD p17 (ix zq 1)) 15 (oEs p17 (ix zq 1))),((ix zq 2),.row true (AD p17 (ix zq 2)) 4 (oEs p17 (ix zq 2))),((ix zq 3),.row true (AD p17 (ix zq 3)) 4 (oEs p17 (ix zq 3)))]))
noncomputable def S7 (zq:Bool) (n:Nat) (ff:Nat→Rec) (p17:ST) (k18:KT) (p84:ST) (k85:KT):RT:=cnd (vB p84 1=true) (AH (OX zq n ff p17 k85) n ([.t (tI 0)],upd (rh p84 0 (Bb zq)) [((ix zq 6),.box (upd (rb p84 (ix zq 6) 0 (BJ zq)) [(15,.t (tI (vI p84 0)))]))])) (k18 ([],rh p84 0 (Bb zq)))
noncomputable def JM_46 (zq:Bool) (n:Nat) (ff:Nat→Rec) (p17:ST) (k18:KT) (p82:ST):RT:=AH (S7 zq n ff p17 k18) n (tv [tI (vI p82 0),.bool (vB p82 1)],rh p82 0 (Bb zq))
noncomputable def CM_8 (zq:Bool) (n:Nat) (ff:Nat→Rec) (k18:KT) (p17:ST):RT:=ff 11 (List Tree) (.fn 71 [AV.ptr (ix zq 6) 0]) (rh p17 0 (Bz zq)) fun rs h1=>cnd (BH C.P (A6 C.P 71) rs=true) (EC (rh p17 0 (Bz zq)) h1 fun hs=>k18 (rs,hs)) none
noncomputable def XM_8 (zq:Bool) (n:Nat) (ff:Nat→Rec) (k18:KT) (p17:ST):RT:=join (JM_46 zq n ff p17 k18) fun k83=>CM_1 zq n ff k83 ([AV.ptr (ix zq 6) 0],rh p17 0 (Bz zq))
theorem vCM_8 (zq:Bool) (n:Nat) (ff:Nat→Rec) (k18:KT) (p17:ST):Da C (Fk C (pcx C (AA C n)) n ff Fw 10) (pcx C (AA C n)) n 71 [AV.ptr (ix zq 6) 0] (rh p17 0 (Bz zq)) (fun rs h1=>cnd (BH C.P (A6 C.P 71) rs=true) (EC (rh p17 0 (Bz zq)) h1 fun hs=>k18 (rs,hs)) none)=XM_8 zq n ff k18 p17:=by cases zq<;>kernel_rfl
theorem tCM_8 (zq:Bool) (n:Nat) (k18:KT) (p17:ST):CM_8 zq n (fI C n) k18 p17=XM_8 zq n (fI C n) k18 p17:=(Ga C n Fw 10 _ 71 _ _ _).trans (vCM_8 zq n (fI C n) k18 p17)
noncomputable def ZR (n:Nat) (ff:Nat→Rec) (p303:ST):RT:=cnd ((false=true∨false=false)∧AD p303 (ix false 4)=AL p303 (ix false 6) 13∧(9=9∨9=0)) (cnd ((false=true∨false=false)∧AD p303 (ix false 5)=AL p303 (ix false 6) 14∧(9=9∨9=0)) (some [.sl 9 (take (AJ p303 (ix false 6) 13) (drop (AP p303 (ix false 6) 13) (oEs p303 (ix false 4)))),.sl 9 (take (AJ p303 (ix false 6) 14) (drop (AP p303 (ix false 6) 14) (oEs p303 (ix false 5)))),tI 0]) none) none
theorem v28 (n:Nat) (ff:Nat→Rec) (a0 a1 a2 a3 a4 a5 a6 a7 a8:Int) (a9:ByteArray) (a10:TT) (a11:Int) (a12:TT):JG C (Fk C (pcx C (AA C n)) n ff Fw C.depth) (pcx C (AA C n)) n 28 [tI a0,tI a1,tI a2,tI a3,tI a4,tI a5,tI a6,tI a7,tI a8,.str a9,.sl 1 a10,tI a11,.sl 2 a12]=cnd (decide ((length a10:Int)>1000)=true) (some [.sl 9 [],.sl 9 [],tI 4]) (cnd (decide (a11<(-1))=true) (some [.sl 9 [],.sl 9 [],tI 2]) (bd [0] (AA C n 67 [.sl 2 a12]) fun y13=>cnd (((gI y13 0) != 0)=true) (some [.sl 9 [],.sl 9 [],tI 1]) (bd [0,0,0,0,0,0,0,0,2,0,0,0,5,0,0,12,0] (AA C n 2004367 [tI a0,tI a1,tI a2,tI a3,tI a4,tI a5,tI a6,tI 0,.str a9,tI a7,tI a8]) fun y14=>cnd (((gI y14 16) != 0)=true) (cnd (((gI y14 16) != 0)=true) (some [.sl 9 [],.sl 9 [],tI (gI y14 16)]) none) (bd [0,13,0,0,0] (AA C n 69 [tI a5]) fun y15=>bd [0,0,5,2,0] (AA C n 70 [tI 0]) fun y16=>join (ZR n ff) fun k304=>CM_8 false n ff k304 ([AV.ptr (ix false 6) 0],[.row false 0 9 (gL y14 15),.row true 0 15 [[tI (gI y14 0),tI (gI y14 1),tI (gI y14 2),tI (gI y14 3),tI (gI y14 4),tI (gI y14 5),tI (gI y14 6),tI (gI y14 7),.str (gS y14 8),tI (gI y14 9),tI (gI y14 10),tI (gI y14 11),.sl 2 (gL y14 12),tI (gI y14 13),tI (gI y14 14)]],.row true 0 4 [[tI (gI y15 0),.sl 10 (gL y15 1),tI (gI y15 2),tI (gI y15 3)]],.row true 0 4 [[tI (gI y16 0),tI (gI y16 1),.sl 2 (gL y16 2),.str (gS y16 3)]],.row false 0 9 [],.row false 0 9 [],.box [.t (tI (gI y15 0)),.t (.sl 10 (gL y15 1)),.t (tI (gI y15 2)),.t (tI (gI y15 3)),.t (tI (gI y15 0)),.t (.sl 10 (gL y15 1)),.t (tI (gI y15 2)),.t (tI (gI y15 3)),.t (.sl 1 a10),.t (tI a11),.t (.sl 2 a12),.t (tI 0),.t (tI 0),.sref (ix false 4) 0 0 0,.sref (ix false 5) 0 0 0,.t (tI 0),.t (tI (gI y14 0)),.t (tI (gI y14 1)),.t (tI (gI y14 2)),.t (tI (gI y14 3)),.t (tI (gI y14 4)),.t (tI (gI y14 5)),.t (tI (gI y14 6)),.t (tI (gI y14 7)),.t (.str (gS y14 8)),.t (tI (gI y14 9)),.t (tI (gI y14 10)),.t (tI (gI y14 11)),.t (.sl 2 (gL y14 12)),.t (tI (gI y14 13)),.t (tI (gI y14 14)),.t (tI (gI y16 0)),.t (tI (gI y16 1)),.t (.sl 2 (gL y16 2)),.t (.str (gS y16 3)),.sref (ix false 0) 0 0 (length (gL y14 15)),.t (.bool false),.t (tI 0),.t (.bool false),.t (tI 0)]]))))):=by kernel_rfl
theorem u28 (a0:Int) (a1:Int) (a2:Int) (a3:Int) (a4:Int) (a5:Int) (a6:Int) (a7:Int) (a8:Int) (a9:ByteArray) (a10:List (List Tree)) (a11:Int) (a12:List (List Tree)):C.ext 28 [tI a0,tI a1,tI a2,tI a3,tI a4,tI a5,tI a6,tI a7,tI a8,.str a9,.sl 1 a10,tI a11,.sl 2 a12]=none:=by kernel_rfl
theorem e28 (n:Nat) (a0 a1 a2 a3 a4 a5 a6 a7 a8:Int) (a9:ByteArray) (a10:TT) (a11:Int) (a12:TT):type_of% ((Ej C n 28 _ (by decide) (u28 a0 a1 a2 a3 a4 a5 a6 a7 a8 a9 a10 a11 a12)).trans ((PJ C n Fw 28 _).symm.trans (v28 n (fI C n) a0 a1 a2 a3 a4 a5 a6 a7 a8 a9 a10 a11 a12))):=
 (Ej C n 28 _ (by decide) (u28 a0 a1 a2 a3 a4 a5 a6 a7 a8 a9 a10 a11 a12)).trans ((PJ C n Fw 28 _).symm.trans (v28 n (fI C n) a0 a1 a2 a3 a4 a5 a6 a7 a8 a9 a10 a11 a12))
noncomputable def ZS (n:Nat) (ff:Nat→Rec) (p303:ST):RT:=some (ct [1,0,1,0] p303 (ix true 6) 36 [tI (cI p303 (ix true 6) 26),tI (cI p303 (ix true 6) 11),tI (w64 (cI p303 (ix true 6) 3+cI p303 (ix true 6) 7)),tI 0])
theorem v26 (n:Nat) (ff:Nat→Rec) (a0 a1 a2 a3 a4 a5 a6 a7 a8:Int) (a9:ByteArray) (a10:TT) (a11:Int) (a12:TT):JG C (Fk C (pcx C (AA C n)) n ff Fw C.depth) (pcx C (AA C n)) n 26 [tI a0,tI a1,tI a2,tI a3,tI a4,tI a5,tI a6,tI a7,tI a8,.str a9,.sl 1 a10,tI a11,.sl 2 a12]=cnd (decide ((length a10:Int)>1000)=true) (some (zt [1,0,1,0,0,0,0] [tI 4])) (cnd (decide (a11<(-1))=true) (some (zt [1,0,1,0,0,0,0] [tI 2])) (bd [0] (AA C n 67 [.sl 2 a12]) fun y13=>cnd (((gI y13 0) != 0)=true) (some (zt [1,0,1,0,0,0,0] [tI 1])) (bd [0,0,0,0,0,0,0,0,2,0,0,0,5,0,0,12,0] (AA C n 2004367 [tI a0,tI a1,tI a2,tI a3,tI a4,tI a5,tI a6,tI 0,.str a9,tI a7,tI a8]) fun y14=>cnd (((gI y14 16) != 0)=true) (cnd (((gI y14 16) != 0)=true) (some (zt [1,0,1,0,0,0,0] [tI (gI y14 16)])) none) (bd [0,13,0,0,0] (AA C n 69 [tI a5]) fun y15=>bd [0,0,5,2,0] (AA C n 70 [tI 0]) fun y16=>join (ZS n ff) fun k304=>CM_8 true n ff k304 ([AV.ptr (ix true 6) 0],[.box (tv (zt [1,0,1,0,0,0,0] [])),.row false 0 9 (gL y14 15),.row true 0 15 [[tI (gI y14 0),tI (gI y14 1),tI (gI y14 2),tI (gI y14 3),tI (gI y14 4),tI (gI y14 5),tI (gI y14 6),tI (gI y14 7),.str (gS y14 8),tI (gI y14 9),tI (gI y14 10),tI (gI y14 11),.sl 2 (gL y14 12),tI (gI y14 13),tI (gI y14 14)]],.row true 0 4 [[tI (gI y15 0),.sl 10 (gL y15 1),tI (gI y15 2),tI (gI y15 3)]],.row true 0 4 [[tI (gI y16 0),tI (gI y16 1),.sl 2 (gL y16 2),.str (gS y16 3)]],.row false 0 9 [],.row false 0 9 [],.box [.t (tI (gI y15 0)),.t (.sl 10 (gL y15 1)),.t (tI (gI y15 2)),.t (tI (gI y15 3)),.t (tI (gI y15 0)),.t (.sl 10 (gL y15 1)),.t (tI (gI y15 2)),.t (tI (gI y15 3)),.t (.sl 1 a10),.t (tI a11),.t (.sl 2 a12),.t (tI 0),.t (tI 0),.sref (ix true 4) 0 0 0,.sref (ix true 5) 0 0 0,.t (tI 0),.t (tI (gI y14 0)),.t (tI (gI y14 1)),.t (tI (gI y14 2)),.t (tI (gI y14 3)),.t (tI (gI y14 4)),.t (tI (gI y14 5)),.t (tI (gI y14 6)),.t (tI (gI y14 7)),.t (.str (gS y14 8)),.t (tI (gI y14 9)),.t (tI (gI y14 10)),.t (tI (gI y14 11)),.t (.sl 2 (gL y14 12)),.t (tI (gI y14 13)),.t (tI (gI y14 14)),.t (tI (gI y16 0)),.t (tI (gI y16 1)),.t (.sl 2 (gL y16 2)),.t (.str (gS y16 3)),.sref (ix true 0) 0 0 (length (gL y14 15)),.t (.bool false),.t (tI 0),.t (.bool false),.t (tI 0)]]))))):=by kernel_rfl
theorem u26 (a0:Int) (a1:Int) (a2:Int) (a3:Int) (a4:Int) (a5:Int) (a6:Int) (a7:Int) (a8:Int) (a9:ByteArray) (a10:List (List Tree)) (a11:Int) (a12:List (List Tree)):C.ext 26 [tI a0,tI a1,tI a2,tI a3,tI a4,tI a5,tI a6,tI a7,tI a8,.str a9,.sl 1 a10,tI a11,.sl 2 a12]=none:=by kernel_rfl
theorem e26 (n:Nat) (a0 a1 a2 a3 a4 a5 a6 a7 a8:Int) (a9:ByteArray) (a10:TT) (a11:Int) (a12:TT):type_of% ((Ej C n 26 _ (by decide) (u26 a0 a1 a2 a3 a4 a5 a6 a7 a8 a9 a10 a11 a12)).trans ((PJ C n Fw 26 _).symm.trans (v26 n (fI C n) a0 a1 a2 a3 a4 a5 a6 a7 a8 a9 a10 a11 a12))):=
 (Ej C n 26 _ (by decide) (u26 a0 a1 a2 a3 a4 a5 a6 a7 a8 a9 a10 a11 a12)).trans ((PJ C n Fw 26 _).symm.trans (v26 n (fI C n) a0 a1 a2 a3 a4 a5 a6 a7 a8 a9 a10 a11 a12))
end Ab
namespace Ab
open Go
variable (zq:Bool)
def clM (zq:Bool) (g:Gh) (s:Ses):List AV:=[.t (tI s.dat.rng),.t (.sl 10 (s.dat.frames.map Frame.enc)),.t (tI s.dat.sent),.t (tI s.dat.lost),.t (tI s.rep.rng),.t (.sl 10 (s.rep.frames.map Frame.enc)),.t (tI s.rep.sent),.t (tI s.rep.lost),.t (.sl 1 (s.picks.map Aw)),.t (tI s.limit),.t (.sl 2 (s.dark.map Span.enc)),.t (tI s.entered),.t (tI s.dist),.sref (ix zq 4) g.v4 0 s.sent.length,.sref (ix zq 5) g.v5 0 s.told.length,.t (tI s.now),.t (tI s.snd.c.frm),.t (tI s.snd.c.dst),.t (tI s.snd.c.start),.t (tI s.snd.c.fin),.t (tI s.snd.c.rate),.t (tI s.snd.c.rng),.t (tI s.snd.c.loss),.t (tI s.snd.ses),.t (.str s.snd.data),.t (tI s.snd.fin),.t (tI s.snd.busy),.t (tI s.snd.ser),.t (.sl 2 (s.snd.acked.map Span.enc)),.t (tI s.snd.due),.t (tI s.snd.st),.t (tI s.rcv.ses),.t (tI s.rcv.tot),.t (.sl 2 (s.rcv.known.map Span.enc)),.t (.str s.rcv.data),.sref (ix zq 0) g.v0 g.pre.length s.pend.length,.t (.bool s.rcvd),.t (tI s.arrive),.t (.bool s.kno),.t (tI s.knoAt)]
def hsM (zq:Bool) (f1 f2 f3:AI) (v0:Nat) (e0:List (List Tree)) (v4:Nat) (e4:List (List Tree)) (v5:Nat) (e5:List (List Tree)) (c:List AV) (tl:Heap):Heap:=
 pz zq (.row false v0 9 e0::f1::f2::f3 :: .row false v4 9 e4 :: .row false v5 9 e5 :: .box c::tl)
def HM (zq:Bool) (f1 f2 f3:AI) (g:Gh) (s:Ses) (tl:Heap):Heap:=hsM zq f1 f2 f3 g.v0 (g.pre++s.pend.map Out.enc) g.v4 (s.sent.map Out.enc) g.v5 (s.told.map Out.enc) (clM zq g s) tl
variable (e:List AV) (g:Gh) (s:Ses) (f1 f2 f3:AI) (v0:Nat) (e0:List (List Tree)) (v4:Nat) (e4:List (List Tree)) (v5:Nat) (e5:List (List Tree))
theorem ra0M (tl:Heap) (Z:List AV×Heap) (h:Z=(e,hsM zq f1 f2 f3 v0 e0 v4 e4 v5 e5 (clM zq g s) tl)) :
 cI Z (ix zq 6) 0=s.dat.rng∧cL Z (ix zq 6) 1=s.dat.frames.map Frame.enc∧cI Z (ix zq 6) 2=s.dat.sent∧cI Z (ix zq 6) 3=s.dat.lost∧cI Z (ix zq 6) 4=s.rep.rng∧cL Z (ix zq 6) 5=s.rep.frames.map Frame.enc∧cI Z (ix zq 6) 6=s.rep.sent∧cI Z (ix zq 6) 7=s.rep.lost∧cL Z (ix zq 6) 8=s.picks.map Aw∧cI Z (ix zq 6) 9=s.limit∧cL Z (ix zq 6) 10=s.dark.map Span.enc∧cI Z (ix zq 6) 11=s.entered∧cI Z (ix zq 6) 12=s.dist∧AL Z (ix zq 6) 13=g.v4∧AP Z (ix zq 6) 13=0∧AJ Z (ix zq 6) 13=s.sent.length∧AL Z (ix zq 6) 14=g.v5∧AP Z (ix zq 6) 14=0∧AJ Z (ix zq 6) 14=s.told.length∧cI Z (ix zq 6) 15=s.now∧cI Z (ix zq 6) 16=s.snd.c.frm∧cI Z (ix zq 6) 17=s.snd.c.dst∧cI Z (ix zq 6) 18=s.snd.c.start∧cI Z (ix zq 6) 19=s.snd.c.fin∧cI Z (ix zq 6) 20=s.snd.c.rate∧cI Z (ix zq 6) 21=s.snd.c.rng∧cI Z (ix zq 6) 22=s.snd.c.loss∧cI Z (ix zq 6) 23=s.snd.ses∧cS Z (ix zq 6) 24=s.snd.data∧cI Z (ix zq 6) 25=s.snd.fin∧cI Z (ix zq 6) 26=s.snd.busy∧cI Z (ix zq 6) 27=s.snd.ser∧cL Z (ix zq 6) 28=s.snd.acked.map Span.enc∧cI Z (ix zq 6) 29=s.snd.due∧cI Z (ix zq 6) 30=s.snd.st∧cI Z (ix zq 6) 31=s.rcv.ses∧cI Z (ix zq 6) 32=s.rcv.tot∧cL Z (ix zq 6) 33=s.rcv.known.map Span.enc∧cS Z (ix zq 6) 34=s.rcv.data∧AL Z (ix zq 6) 35=g.v0∧AP Z (ix zq 6) 35=g.pre.length∧AJ Z (ix zq 6) 35=s.pend.length∧cB Z (ix zq 6) 36=s.rcvd∧cI Z (ix zq 6) 37=s.arrive∧cB Z (ix zq 6) 38=s.kno∧cI Z (ix zq 6) 39=s.knoAt:=by
 subst h;cases zq<;>and_intros<;>intros<;>rfl
theorem rd0M (tl:Heap):type_of% (ra0M zq e g s f1 f2 f3 v0 e0 v4 e4 v5 e5 tl _ rfl):=ra0M zq e g s f1 f2 f3 v0 e0 v4 e4 v5 e5 tl _ rfl
theorem ra1M (c:List AV) (tl:Heap) (Z:List AV×Heap) (h:Z=(e,hsM zq f1 f2 f3 v0 e0 v4 e4 v5 e5 c tl)) :
 AD Z (ix zq 0)=v0∧oEs Z (ix zq 0)=e0∧AD Z (ix zq 4)=v4∧oEs Z (ix zq 4)=e4∧AD Z (ix zq 5)=v5∧oEs Z (ix zq 5)=e5∧AD Z (ix zq 1)=AI.ver f1∧oEs Z (ix zq 1)=Be f1∧AD Z (ix zq 2)=AI.ver f2∧oEs Z (ix zq 2)=Be f2∧AD Z (ix zq 3)=AI.ver f3∧oEs Z (ix zq 3)=Be f3:=by
 subst h;cases zq<;>and_intros<;>intros<;>rfl
theorem rd1M (c:List AV) (tl:Heap):type_of% (ra1M zq e f1 f2 f3 v0 e0 v4 e4 v5 e5 c tl _ rfl):=ra1M zq e f1 f2 f3 v0 e0 v4 e4 v5 e5 c tl _ rfl
theorem ra2M (c:List AV) (o0:AI) (tl:Heap) (Z:List AV×Heap) (h:Z=(e,hsM zq f1 f2 f3 v0 e0 v4 e4 v5 e5 c (o0::tl))) :
 AD Z (ix zq 7)=AI.ver o0∧oEs Z (ix zq 7)=Be o0∧(∀j,cI Z (ix zq 7) j=intOf (AE (cellOf o0 j)))∧(∀j,cB Z (ix zq 7) j=BF (AE (cellOf o0 j)))∧(∀j,cS Z (ix zq 7) j=strOf (AE (cellOf o0 j)))∧(∀j,cL Z (ix zq 7) j=B8 (AE (cellOf o0 j))):=by
 subst h;cases zq<;>and_intros<;>intros<;>rfl
theorem rd2M (c:List AV) (o0:AI) (tl:Heap):type_of% (ra2M zq e f1 f2 f3 v0 e0 v4 e4 v5 e5 c o0 tl _ rfl):=ra2M zq e f1 f2 f3 v0 e0 v4 e4 v5 e5 c o0 tl _ rfl
theorem ra3M (c:List AV) (o0 o1:AI) (tl:Heap) (Z:List AV×Heap) (h:Z=(e,hsM zq f1 f2 f3 v0 e0 v4 e4 v5 e5 c (o0::o1::tl))) :
 AD Z (ix zq 8)=AI.ver o1∧oEs Z (ix zq 8)=Be o1∧(∀j,cI Z (ix zq 8) j=intOf (AE (cellOf o1 j)))∧(∀j,cB Z (ix zq 8) j=BF (AE (cellOf o1 j)))∧(∀j,cS Z (ix zq 8) j=strOf (AE (cellOf o1 j)))∧(∀j,cL Z (ix zq 8) j=B8 (AE (cellOf o1 j))):=by
 subst h;cases zq<;>and_intros<;>intros<;>rfl
theorem rd3M (c:List AV) (o0 o1:AI) (tl:Heap):type_of% (ra3M zq e f1 f2 f3 v0 e0 v4 e4 v5 e5 c o0 o1 tl _ rfl):=ra3M zq e f1 f2 f3 v0 e0 v4 e4 v5 e5 c o0 o1 tl _ rfl
theorem ra4M (c:List AV) (o0 o1 o2:AI) (tl:Heap) (Z:List AV×Heap) (h:Z=(e,hsM zq f1 f2 f3 v0 e0 v4 e4 v5 e5 c (o0::o1::o2::tl))) :
 AD Z (ix zq 9)=AI.ver o2∧oEs Z (ix zq 9)=Be o2∧(∀j,cI Z (ix zq 9) j=intOf (AE (cellOf o2 j)))∧(∀j,cB Z (ix zq 9) j=BF (AE (cellOf o2 j)))∧(∀j,cS Z (ix zq 9) j=strOf (AE (cellOf o2 j)))∧(∀j,cL Z (ix zq 9) j=B8 (AE (cellOf o2 j))):=by
 subst h;cases zq<;>and_intros<;>intros<;>rfl
theorem rd4M (c:List AV) (o0 o1 o2:AI) (tl:Heap):type_of% (ra4M zq e f1 f2 f3 v0 e0 v4 e4 v5 e5 c o0 o1 o2 tl _ rfl):=ra4M zq e f1 f2 f3 v0 e0 v4 e4 v5 e5 c o0 o1 o2 tl _ rfl
theorem ra5M (c:List AV) (o0 o1 o2 o3:AI) (tl:Heap) (Z:List AV×Heap) (h:Z=(e,hsM zq f1 f2 f3 v0 e0 v4 e4 v5 e5 c (o0::o1::o2::o3::tl))) :
 AD Z (ix zq 10)=AI.ver o3∧oEs Z (ix zq 10)=Be o3∧(∀j,cI Z (ix zq 10) j=intOf (AE (cellOf o3 j)))∧(∀j,cB Z (ix zq 10) j=BF (AE (cellOf o3 j)))∧(∀j,cS Z (ix zq 10) j=strOf (AE (cellOf o3 j)))∧(∀j,cL Z (ix zq 10) j=B8 (AE (cellOf o3 j))):=by
 subst h;cases zq<;>and_intros<;>intros<;>rfl
theorem rd5M (c:List AV) (o0 o1 o2 o3:AI) (tl:Heap):type_of% (ra5M zq e f1 f2 f3 v0 e0 v4 e4 v5 e5 c o0 o1 o2 o3 tl _ rfl):=ra5M zq e f1 f2 f3 v0 e0 v4 e4 v5 e5 c o0 o1 o2 o3 tl _ rfl
theorem ra6M (c:List AV) (o0 o1 o2 o3 o4:AI) (tl:Heap) (Z:List AV×Heap) (h:Z=(e,hsM zq f1 f2 f3 v0 e0 v4 e4 v5 e5 c (o0::o1::o2::o3::o4::tl))) :
 AD Z (ix zq 11)=AI.ver o4∧oEs Z (ix zq 11)=Be o4∧(∀j,cI Z (ix zq 11) j=intOf (AE (cellOf o4 j)))∧(∀j,cB Z (ix zq 11) j=BF (AE (cellOf o4 j)))∧(∀j,cS Z (ix zq 11) j=strOf (AE (cellOf o4 j)))∧(∀j,cL Z (ix zq 11) j=B8 (AE (cellOf o4 j))):=by
 subst h;cases zq<;>and_intros<;>intros<;>rfl
theorem rd6M (c:List AV) (o0 o1 o2 o3 o4:AI) (tl:Heap):type_of% (ra6M zq e f1 f2 f3 v0 e0 v4 e4 v5 e5 c o0 o1 o2 o3 o4 tl _ rfl):=ra6M zq e f1 f2 f3 v0 e0 v4 e4 v5 e5 c o0 o1 o2 o3 o4 tl _ rfl
theorem rh6_M (tl:Heap):rh (e,hsM zq f1 f2 f3 v0 e0 v4 e4 v5 e5 (clM zq g s) (tl)) 0 (Bb zq)=hsM zq E0 E0 E0 v0 e0 v4 e4 v5 e5 (clM zq g s) []:=by intros;cases zq<;>rfl
theorem rh1_M (tl:Heap):rh (e,hsM zq f1 f2 f3 v0 e0 v4 e4 v5 e5 (clM zq g s) (tl)) 0 (Bz zq)=hsM zq (.row true f1.ver 15 (Be f1)) (.row true f2.ver 4 (Be f2)) (.row true f3.ver 4 (Be f3)) v0 e0 v4 e4 v5 e5 (clM zq g s) []:=by intros;cases zq<;>rfl
theorem rh5_M (o0 o1:AI) (tl:Heap):rh (e,hsM zq f1 f2 f3 v0 e0 v4 e4 v5 e5 (clM zq g s) (o0::o1::tl)) 0 (De zq)=hsM zq E0 E0 E0 v0 e0 v4 e4 v5 e5 (clM zq g s) [.box [.t (tI (intOf (AE (cellOf o0 0))))],.box [.t (.bool (BF (AE (cellOf o1 0))))]]:=by intros;cases zq<;>rfl
theorem rh8_M (o0:AI) (tl:Heap):rh (e,hsM zq f1 f2 f3 v0 e0 v4 e4 v5 e5 (clM zq g s) (o0::tl)) 0 (QE zq)=hsM zq E0 E0 E0 v0 e0 v4 e4 v5 e5 (clM zq g s) [.box [.t (tI (intOf (AE (cellOf o0 0)))),.t (tI (intOf (AE (cellOf o0 1)))),.t (tI (intOf (AE (cellOf o0 2)))),.t (tI (intOf (AE (cellOf o0 3)))),.t (tI (intOf (AE (cellOf o0 4)))),.t (.bool (BF (AE (cellOf o0 5)))),.t (.str (strOf (AE (cellOf o0 6)))),.t (.sl 2 (B8 (AE (cellOf o0 7))))]]:=by intros;cases zq<;>rfl
theorem rh9_M (o0:AI) (tl:Heap):rh (e,hsM zq f1 f2 f3 v0 e0 v4 e4 v5 e5 (clM zq g s) (o0::tl)) 0 (Dk zq)=hsM zq E0 E0 E0 v0 e0 v4 e4 v5 e5 (clM zq g s) [.row false o0.ver 8 (Be o0)]:=by intros;cases zq<;>rfl
theorem X3 (o0 o1:AI) (tl:Heap):rh (e,hsM zq f1 f2 f3 v0 e0 v4 e4 v5 e5 (clM zq g s) (o0::o1::tl)) 0 (L5 zq)=hsM zq E0 E0 E0 v0 e0 v4 e4 v5 e5 (clM zq g s) [.row false o0.ver 8 (Be o0),.box [.t (tI (intOf (AE (cellOf o1 0)))),.t (tI (intOf (AE (cellOf o1 1)))),.t (tI (intOf (AE (cellOf o1 2)))),.t (tI (intOf (AE (cellOf o1 3)))),.t (tI (intOf (AE (cellOf o1 4)))),.t (.bool (BF (AE (cellOf o1 5)))),.t (.str (strOf (AE (cellOf o1 6)))),.t (.sl 2 (B8 (AE (cellOf o1 7))))]]:=by intros;cases zq<;>rfl
theorem X2 (o0 o1 o2:AI) (tl:Heap):rh (e,hsM zq f1 f2 f3 v0 e0 v4 e4 v5 e5 (clM zq g s) (o0::o1::o2::tl)) 0 (Js zq)=hsM zq (.row true f1.ver 15 (Be f1)) (.row true f2.ver 4 (Be f2)) (.row true f3.ver 4 (Be f3)) v0 e0 v4 e4 v5 e5 (clM zq g s) [.row false o0.ver 8 (Be o0),.box [.t (tI (intOf (AE (cellOf o1 0)))),.t (tI (intOf (AE (cellOf o1 1)))),.t (.sl 2 (B8 (AE (cellOf o1 2)))),.t (.str (strOf (AE (cellOf o1 3))))],.box [.t (tI (intOf (AE (cellOf o2 0)))),.t (tI (intOf (AE (cellOf o2 1)))),.t (tI (intOf (AE (cellOf o2 2)))),.t (tI (intOf (AE (cellOf o2 3)))),.t (tI (intOf (AE (cellOf o2 4)))),.t (.bool (BF (AE (cellOf o2 5)))),.t (.str (strOf (AE (cellOf o2 6)))),.t (.sl 2 (B8 (AE (cellOf o2 7))))]]:=by intros;cases zq<;>rfl
theorem X1 (o0 o1 o2:AI) (tl:Heap):rh (e,hsM zq f1 f2 f3 v0 e0 v4 e4 v5 e5 (clM zq g s) (o0::o1::o2::tl)) 0 (CX zq)=hsM zq E0 E0 E0 v0 e0 v4 e4 v5 e5 (clM zq g s) [.row false o0.ver 8 (Be o0),.box [.t (tI (intOf (AE (cellOf o1 0)))),.t (tI (intOf (AE (cellOf o1 1)))),.t (.sl 2 (B8 (AE (cellOf o1 2)))),.t (.str (strOf (AE (cellOf o1 3))))],.box [.t (tI (intOf (AE (cellOf o2 0)))),.t (tI (intOf (AE (cellOf o2 1)))),.t (tI (intOf (AE (cellOf o2 2)))),.t (tI (intOf (AE (cellOf o2 3)))),.t (tI (intOf (AE (cellOf o2 4)))),.t (.bool (BF (AE (cellOf o2 5)))),.t (.str (strOf (AE (cellOf o2 6)))),.t (.sl 2 (B8 (AE (cellOf o2 7))))]]:=by intros;cases zq<;>rfl
theorem X0 (o0 o1 o2 o3:AI) (tl:Heap):rh (e,hsM zq f1 f2 f3 v0 e0 v4 e4 v5 e5 (clM zq g s) (o0::o1::o2::o3::tl)) 0 (L4 zq)=hsM zq E0 E0 E0 v0 e0 v4 e4 v5 e5 (clM zq g s) [.row false o0.ver 8 (Be o0),.box [.t (tI (intOf (AE (cellOf o1 0)))),.t (tI (intOf (AE (cellOf o1 1)))),.t (.sl 2 (B8 (AE (cellOf o1 2)))),.t (.str (strOf (AE (cellOf o1 3))))],.box [.t (tI (intOf (AE (cellOf o2 0)))),.t (tI (intOf (AE (cellOf o2 1)))),.t (tI (intOf (AE (cellOf o2 2)))),.t (tI (intOf (AE (cellOf o2 3)))),.t (tI (intOf (AE (cellOf o2 4)))),.t (.bool (BF (AE (cellOf o2 5)))),.t (.str (strOf (AE (cellOf o2 6)))),.t (.sl 2 (B8 (AE (cellOf o2 7))))],.box [.t (tI (intOf (AE (cellOf o3 0)))),.t (.sl 10 (B8 (AE (cellOf o3 1)))),.t (tI (intOf (AE (cellOf o3 2)))),.t (tI (intOf (AE (cellOf o3 3))))]]:=by intros;cases zq<;>rfl
theorem Xz (o0 o1:AI) (tl:Heap):rh (e,hsM zq f1 f2 f3 v0 e0 v4 e4 v5 e5 (clM zq g s) (o0::o1::tl)) 0 (Ok zq)=hsM zq E0 E0 E0 v0 e0 v4 e4 v5 e5 (clM zq g s) [.row false o0.ver 8 (Be o0),.box [.t (tI (intOf (AE (cellOf o1 0)))),.t (tI (intOf (AE (cellOf o1 1)))),.t (.sl 2 (B8 (AE (cellOf o1 2)))),.t (.str (strOf (AE (cellOf o1 3))))]]:=by intros;cases zq<;>rfl
theorem Xy (o0:AI) (tl:Heap):rh (e,hsM zq f1 f2 f3 v0 e0 v4 e4 v5 e5 (clM zq g s) (o0::tl)) 0 (L3 zq)=hsM zq E0 E0 E0 v0 e0 v4 e4 v5 e5 (clM zq g s) [.box [.t (tI (intOf (AE (cellOf o0 0)))),.t (.sl 10 (B8 (AE (cellOf o0 1)))),.t (tI (intOf (AE (cellOf o0 2)))),.t (tI (intOf (AE (cellOf o0 3))))]]:=by intros;cases zq<;>rfl
theorem ru5_M (x y:AI):upd (rh (e,hsM zq f1 f2 f3 v0 e0 v4 e4 v5 e5 (clM zq g s) []) 0 (De zq)) [((ix zq 7),x),((ix zq 8),y)]=hsM zq E0 E0 E0 v0 e0 v4 e4 v5 e5 (clM zq g s) [x,y]:=by intros;cases zq<;>rfl
theorem ru8_M (x:AI):upd (rh (e,hsM zq f1 f2 f3 v0 e0 v4 e4 v5 e5 (clM zq g s) []) 0 (QE zq)) [((ix zq 7),x)]=hsM zq E0 E0 E0 v0 e0 v4 e4 v5 e5 (clM zq g s) [x]:=by intros;cases zq<;>rfl
theorem ru9_M (x:AI):upd (rh (e,hsM zq f1 f2 f3 v0 e0 v4 e4 v5 e5 (clM zq g s) []) 0 (Dk zq)) [((ix zq 7),x)]=hsM zq E0 E0 E0 v0 e0 v4 e4 v5 e5 (clM zq g s) [x]:=by intros;cases zq<;>rfl
theorem Xo (o0:AI) (x y:AI):upd (rh (e,hsM zq f1 f2 f3 v0 e0 v4 e4 v5 e5 (clM zq g s) [o0]) 0 (L5 zq)) [((ix zq 7),x),((ix zq 8),y)]=hsM zq E0 E0 E0 v0 e0 v4 e4 v5 e5 (clM zq g s) [x,y]:=by intros;cases zq<;>rfl
theorem Xl (o0:AI) (y:AI):upd (rh (e,hsM zq f1 f2 f3 v0 e0 v4 e4 v5 e5 (clM zq g s) [o0]) 0 (Ok zq)) [((ix zq 8),y)]=hsM zq E0 E0 E0 v0 e0 v4 e4 v5 e5 (clM zq g s) [.row false o0.ver 8 (Be o0),y]:=by intros;cases zq<;>rfl
theorem Xm (o0 o1 o2:AI) (y:AI):upd (rh (e,hsM zq f1 f2 f3 v0 e0 v4 e4 v5 e5 (clM zq g s) [o0,o1,o2]) 0 (L4 zq)) [((ix zq 10),y)]=hsM zq E0 E0 E0 v0 e0 v4 e4 v5 e5 (clM zq g s) [.row false o0.ver 8 (Be o0),.box [.t (tI (intOf (AE (cellOf o1 0)))),.t (tI (intOf (AE (cellOf o1 1)))),.t (.sl 2 (B8 (AE (cellOf o1 2)))),.t (.str (strOf (AE (cellOf o1 3))))],.box [.t (tI (intOf (AE (cellOf o2 0)))),.t (tI (intOf (AE (cellOf o2 1)))),.t (tI (intOf (AE (cellOf o2 2)))),.t (tI (intOf (AE (cellOf o2 3)))),.t (tI (intOf (AE (cellOf o2 4)))),.t (.bool (BF (AE (cellOf o2 5)))),.t (.str (strOf (AE (cellOf o2 6)))),.t (.sl 2 (B8 (AE (cellOf o2 7))))],y]:=by intros;cases zq<;>rfl
theorem Xk (y:AI):upd (rh (e,hsM zq f1 f2 f3 v0 e0 v4 e4 v5 e5 (clM zq g s) []) 0 (L3 zq)) [((ix zq 7),y)]=hsM zq E0 E0 E0 v0 e0 v4 e4 v5 e5 (clM zq g s) [y]:=by intros;cases zq<;>rfl
theorem Xn (o0 o1 x y z w:AI):upd (rh (e,hsM zq f1 f2 f3 v0 e0 v4 e4 v5 e5 (clM zq g s) [o0,o1]) 0 (Js zq)) [((ix zq 1),x),((ix zq 2),y),((ix zq 3),z),((ix zq 9),w)]=hsM zq x y z v0 e0 v4 e4 v5 e5 (clM zq g s) [.row false o0.ver 8 (Be o0),.box [.t (tI (intOf (AE (cellOf o1 0)))),.t (tI (intOf (AE (cellOf o1 1)))),.t (.sl 2 (B8 (AE (cellOf o1 2)))),.t (.str (strOf (AE (cellOf o1 3))))],w]:=by intros;cases zq<;>rfl
theorem U2 (o0 y:AI) (d:List AV):upd (rh (e,hsM zq f1 f2 f3 v0 e0 v4 e4 v5 e5 (clM zq g s) [o0]) 0 (Ok zq)) [((ix zq 6),.box d),((ix zq 8),y)]=hsM zq E0 E0 E0 v0 e0 v4 e4 v5 e5 d [.row false o0.ver 8 (Be o0),y]:=by intros;cases zq<;>rfl
theorem Uf (x y z:AI) (c:List AV) (tl:Heap):upd (hsM zq f1 f2 f3 v0 e0 v4 e4 v5 e5 c tl) [((ix zq 1),x),((ix zq 2),y),((ix zq 3),z)]=hsM zq x y z v0 e0 v4 e4 v5 e5 c tl:=by intros;cases zq<;>rfl
theorem Ra (x y z w o0 o1 o2:AI) (c:List AV) (tl:Heap):upd (hsM zq f1 f2 f3 v0 e0 v4 e4 v5 e5 c (o0::o1::o2::tl)) [((ix zq 1),x),((ix zq 2),y),((ix zq 3),z),((ix zq 9),w)]=hsM zq x y z v0 e0 v4 e4 v5 e5 c (o0::o1::w::tl):=by intros;cases zq<;>rfl
theorem ud6_M (d:List AV) (c:List AV) (tl:Heap):upd (hsM zq f1 f2 f3 v0 e0 v4 e4 v5 e5 c tl) [((ix zq 6),.box d)]=hsM zq f1 f2 f3 v0 e0 v4 e4 v5 e5 d tl:=by intros;cases zq<;>rfl
theorem XE (d:List AV) (w:Nat) (r:List (List Tree)) (c:List AV) (tl:Heap):upd (hsM zq f1 f2 f3 v0 e0 v4 e4 v5 e5 c tl) [((ix zq 0),.row false w 9 r),((ix zq 6),.box d)]=hsM zq f1 f2 f3 w r v4 e4 v5 e5 d tl:=by intros;cases zq<;>rfl
theorem XD (d:List AV) (w:Nat) (r:List (List Tree)) (c:List AV) (tl:Heap):upd (hsM zq f1 f2 f3 v0 e0 v4 e4 v5 e5 c tl) [((ix zq 4),.row false w 9 r),((ix zq 6),.box d)]=hsM zq f1 f2 f3 v0 e0 w r v5 e5 d tl:=by intros;cases zq<;>rfl
theorem XC (d:List AV) (w:Nat) (r:List (List Tree)) (c:List AV) (tl:Heap):upd (hsM zq f1 f2 f3 v0 e0 v4 e4 v5 e5 c tl) [((ix zq 5),.row false w 9 r),((ix zq 6),.box d)]=hsM zq f1 f2 f3 v0 e0 v4 e4 w r d tl:=by intros;cases zq<;>rfl
theorem ud7_M (x o0:AI) (c:List AV) (tl:Heap):upd (hsM zq f1 f2 f3 v0 e0 v4 e4 v5 e5 c (o0::tl)) [((ix zq 7),x)]=hsM zq f1 f2 f3 v0 e0 v4 e4 v5 e5 c (x::tl):=by intros;cases zq<;>rfl
theorem W8 (x y o0 o1:AI) (c:List AV) (tl:Heap):upd (hsM zq f1 f2 f3 v0 e0 v4 e4 v5 e5 c (o0::o1::tl)) [((ix zq 7),x),((ix zq 8),y)]=hsM zq f1 f2 f3 v0 e0 v4 e4 v5 e5 c (x::y::tl):=by intros;cases zq<;>rfl
theorem XB (x o0:AI) (d:List AV) (c:List AV) (tl:Heap):upd (hsM zq f1 f2 f3 v0 e0 v4 e4 v5 e5 c (o0::tl)) [((ix zq 6),.box d),((ix zq 7),x)]=hsM zq f1 f2 f3 v0 e0 v4 e4 v5 e5 d (x::tl):=by intros;cases zq<;>rfl
theorem XA (x o0 o1:AI) (d:List AV) (c:List AV) (tl:Heap):upd (hsM zq f1 f2 f3 v0 e0 v4 e4 v5 e5 c (o0::o1::tl)) [((ix zq 6),.box d),((ix zq 8),x)]=hsM zq f1 f2 f3 v0 e0 v4 e4 v5 e5 d (o0::x::tl):=by intros;cases zq<;>rfl
theorem rb6_M (tl:Heap):rb (e,hsM zq f1 f2 f3 v0 e0 v4 e4 v5 e5 (clM zq g s) tl) (ix zq 6) 0 (BJ zq)=clM zq g s:=by intros;cases zq<;>rfl
theorem ucD_M (a b d:Int) (fs:List Frame):upd (clM zq g s) [(0,.t (tI a)),(1,.t (.sl 10 (fs.map Frame.enc))),(2,.t (tI b)),(3,.t (tI d))]=clM zq g {s with dat:=⟨a,fs,b,d⟩}:=by cases zq<;>kernel_rfl
theorem ucR_M (a b d:Int) (fs:List Frame):upd (clM zq g s) [(4,.t (tI a)),(5,.t (.sl 10 (fs.map Frame.enc))),(6,.t (tI b)),(7,.t (tI d))]=clM zq g {s with rep:=⟨a,fs,b,d⟩}:=by cases zq<;>kernel_rfl
theorem ucN_M (a:Int):upd (clM zq g s) [(15,.t (tI a))]=clM zq g {s with now:=a}:=by cases zq<;>kernel_rfl
theorem XG (a:Int):upd (clM zq g s) [(12,.t (tI a))]=clM zq g {s with dist:=a}:=by cases zq<;>kernel_rfl
theorem ucS_M (a:Snd):upd (clM zq g s) [(16,.t (tI a.c.frm)),(17,.t (tI a.c.dst)),(18,.t (tI a.c.start)),(19,.t (tI a.c.fin)),(20,.t (tI a.c.rate)),(21,.t (tI a.c.rng)),(22,.t (tI a.c.loss)),(23,.t (tI a.ses)),(24,.t (.str a.data)),(25,.t (tI a.fin)),(26,.t (tI a.busy)),(27,.t (tI a.ser)),(28,.t (.sl 2 (a.acked.map Span.enc))),(29,.t (tI a.due)),(30,.t (tI a.st))]=clM zq g {s with snd:=a}:=by cases zq<;>kernel_rfl
theorem XF (a:Snd) (k:Bool) (t:Int):upd (clM zq g s) [(16,.t (tI a.c.frm)),(17,.t (tI a.c.dst)),(18,.t (tI a.c.start)),(19,.t (tI a.c.fin)),(20,.t (tI a.c.rate)),(21,.t (tI a.c.rng)),(22,.t (tI a.c.loss)),(23,.t (tI a.ses)),(24,.t (.str a.data)),(25,.t (tI a.fin)),(26,.t (tI a.busy)),(27,.t (tI a.ser)),(28,.t (.sl 2 (a.acked.map Span.enc))),(29,.t (tI a.due)),(30,.t (tI a.st)),(38,.t (.bool k)),(39,.t (tI t))]=clM zq g {s with snd:=a,kno:=k,knoAt:=t}:=by cases zq<;>kernel_rfl
theorem ucV_M (a:Rcv):upd (clM zq g s) [(31,.t (tI a.ses)),(32,.t (tI a.tot)),(33,.t (.sl 2 (a.known.map Span.enc))),(34,.t (.str a.data))]=clM zq g {s with rcv:=a}:=by cases zq<;>kernel_rfl
theorem ucA_M (k:Bool) (t:Int):upd (clM zq g s) [(36,.t (.bool k)),(37,.t (tI t))]=clM zq g {s with rcvd:=k,arrive:=t}:=by cases zq<;>kernel_rfl
theorem Mv (a:Snd) (w:Nat) (o:List Out):upd (clM zq g s) [(16,.t (tI a.c.frm)),(17,.t (tI a.c.dst)),(18,.t (tI a.c.start)),(19,.t (tI a.c.fin)),(20,.t (tI a.c.rate)),(21,.t (tI a.c.rng)),(22,.t (tI a.c.loss)),(23,.t (tI a.ses)),(24,.t (.str a.data)),(25,.t (tI a.fin)),(26,.t (tI a.busy)),(27,.t (tI a.ser)),(28,.t (.sl 2 (a.acked.map Span.enc))),(29,.t (tI a.due)),(30,.t (tI a.st)),(35,.sref (ix zq 0) w 0 (s.pend.length+o.length))]=clM zq {g with v0:=w,pre:=[]} {s with snd:=a,pend:=s.pend++o}:=by rw [← zV];cases zq<;>kernel_rfl
theorem QI (a:Snd) (w:Nat) (o:List Out) (k:Bool) (t:Int):upd (clM zq g s) [(16,.t (tI a.c.frm)),(17,.t (tI a.c.dst)),(18,.t (tI a.c.start)),(19,.t (tI a.c.fin)),(20,.t (tI a.c.rate)),(21,.t (tI a.c.rng)),(22,.t (tI a.c.loss)),(23,.t (tI a.ses)),(24,.t (.str a.data)),(25,.t (tI a.fin)),(26,.t (tI a.busy)),(27,.t (tI a.ser)),(28,.t (.sl 2 (a.acked.map Span.enc))),(29,.t (tI a.due)),(30,.t (tI a.st)),(35,.sref (ix zq 0) w 0 (s.pend.length+o.length)),(38,.t (.bool k)),(39,.t (tI t))]=clM zq {g with v0:=w,pre:=[]} {s with snd:=a,pend:=s.pend++o,kno:=k,knoAt:=t}:=by rw [← zV];cases zq<;>kernel_rfl
theorem ucP_M (x:Out) (l:List Out) (hp:s.pend=x::l):upd (clM zq g s) [(35,.sref (ix zq 0) g.v0 (g.pre.length+1) (s.pend.length-1))]=clM zq {g with pre:=g.pre++[x.enc]} {s with pend:=l}:=by rw [show s.pend.length-1=l.length by rw [hp];rfl,show g.pre.length+1=(g.pre++[x.enc]).length by simp];cases zq<;>kernel_rfl
theorem Mx (a b d:Int) (fs:List Frame) (e:Int) (w:Nat) (x:Out):upd (clM zq g s) [(0,.t (tI a)),(1,.t (.sl 10 (fs.map Frame.enc))),(2,.t (tI b)),(3,.t (tI d)),(11,.t (tI e)),(13,.sref (ix zq 4) w 0 (s.sent.length+1))]=clM zq {g with v4:=w} {s with dat:=⟨a,fs,b,d⟩,entered:=e,sent:=s.sent++[x]}:=by rw [show s.sent.length+1=(s.sent++[x]).length by simp];cases zq<;>kernel_rfl
theorem QK (a b d:Int) (fs:List Frame) (e u:Int) (w:Nat) (x:Out):upd (clM zq g s) [(0,.t (tI a)),(1,.t (.sl 10 (fs.map Frame.enc))),(2,.t (tI b)),(3,.t (tI d)),(11,.t (tI e)),(12,.t (tI u)),(13,.sref (ix zq 4) w 0 (s.sent.length+1))]=clM zq {g with v4:=w} {s with dat:=⟨a,fs,b,d⟩,entered:=e,dist:=u,sent:=s.sent++[x]}:=by rw [show s.sent.length+1=(s.sent++[x]).length by simp];cases zq<;>kernel_rfl
theorem Mw (a b d:Int) (fs:List Frame) (e:Int) (w:Nat) (x:Out):upd (clM zq g s) [(4,.t (tI a)),(5,.t (.sl 10 (fs.map Frame.enc))),(6,.t (tI b)),(7,.t (tI d)),(11,.t (tI e)),(14,.sref (ix zq 5) w 0 (s.told.length+1))]=clM zq {g with v5:=w} {s with rep:=⟨a,fs,b,d⟩,entered:=e,told:=s.told++[x]}:=by rw [show s.told.length+1=(s.told++[x]).length by simp];cases zq<;>kernel_rfl
theorem QJ (a b d:Int) (fs:List Frame) (e u:Int) (w:Nat) (x:Out):upd (clM zq g s) [(4,.t (tI a)),(5,.t (.sl 10 (fs.map Frame.enc))),(6,.t (tI b)),(7,.t (tI d)),(11,.t (tI e)),(12,.t (tI u)),(14,.sref (ix zq 5) w 0 (s.told.length+1))]=clM zq {g with v5:=w} {s with rep:=⟨a,fs,b,d⟩,entered:=e,dist:=u,told:=s.told++[x]}:=by rw [show s.told.length+1=(s.told++[x]).length by simp];cases zq<;>kernel_rfl
theorem sSM:type_of% (And.intro (And.intro @rd0M (And.intro @rd1M (And.intro @rd2M (And.intro @rd3M (And.intro @rd4M (And.intro @rd5M @rd6M)))))) (And.intro @rh6_M (And.intro @rh1_M (And.intro @rh5_M (And.intro @rh8_M (And.intro @rh9_M (And.intro @X3 (And.intro @X2 (And.intro @X1 (And.intro @X0 (And.intro @Xz (And.intro @Xy (And.intro @ru5_M (And.intro @ru8_M (And.intro @ru9_M (And.intro @Xo (And.intro @Xl (And.intro @Xm (And.intro @Xk (And.intro @Xn (And.intro @U2 (And.intro @Uf (And.intro @Ra (And.intro @ud6_M (And.intro @XE (And.intro @XD (And.intro @XC (And.intro @ud7_M (And.intro @W8 (And.intro @XB (And.intro @XA (And.intro @rb6_M (And.intro @ucD_M (And.intro @ucR_M (And.intro @ucN_M (And.intro @XG (And.intro @ucS_M (And.intro @XF (And.intro @ucV_M (And.intro @ucA_M (And.intro @Mv @QI))))))))))))))))))))))))))))))))))))))))):=(And.intro (And.intro @rd0M (And.intro @rd1M (And.intro @rd2M (And.intro @rd3M (And.intro @rd4M (And.intro @rd5M @rd6M)))))) (And.intro @rh6_M (And.intro @rh1_M (And.intro @rh5_M (And.intro @rh8_M (And.intro @rh9_M (And.intro @X3 (And.intro @X2 (And.intro @X1 (And.intro @X0 (And.intro @Xz (And.intro @Xy (And.intro @ru5_M (And.intro @ru8_M (And.intro @ru9_M (And.intro @Xo (And.intro @Xl (And.intro @Xm (And.intro @Xk (And.intro @Xn (And.intro @U2 (And.intro @Uf (And.intro @Ra (And.intro @ud6_M (And.intro @XE (And.intro @XD (And.intro @XC (And.intro @ud7_M (And.intro @W8 (And.intro @XB (And.intro @XA (And.intro @rb6_M (And.intro @ucD_M (And.intro @ucR_M (And.intro @ucN_M (And.intro @XG (And.intro @ucS_M (And.intro @XF (And.intro @ucV_M (And.intro @ucA_M (And.intro @Mv @QI)))))))))))))))))))))))))))))))))))))))))
end Ab
namespace Ab
open Go
variable (zq:Bool)
theorem entD_M (g:Gh) (s:Ses) (x:Seg) (f1 f2 f3:AI) (hc:EOk s s.dat) :
  Ev fun n=>∀again,CM_6 zq n (fI C n) again ([.ptr (ix zq 6) 0,.ptr (ix zq 6) 0,.t (tI 0),.t (tI s.now),.agg (DN x)],HM zq f1 f2 f3 g s [])=again ([],HM zq E0 E0 E0 {g with v4:=g.v4+1} (EU s x) []):=by
 have q1:¬(10000:Int)≤s.entered:=by have:=hc.ent;omega
 have q2:w64 (s.entered+1)=s.entered+1:=by have:=hc.ent;exact AM (by omega) (by omega)
 have q3:w64 (s.dist+1)=s.dist+1:=by have:=hc.dst;exact AM (by omega) (by omega)
 have q4:s.sent.length+1≤1073741824:=by have:=hc.sl;omega
 have q5:take s.sent.length (List.map Out.enc s.sent)=List.map Out.enc s.sent:=vD (by simp);have key:=fun (ds:List Int) (hd:∀d∈ds,s.dat.rng≤d∧d≤2*s.dat.rng) (hl:ds.length≤2)=>s156 s.dat hc.gc s.now x hc.now ds hd (by have:=hc.len;omega);have kR:∀d∈[s.dat.rng],s.dat.rng≤d∧d≤2*s.dat.rng:=by have:=hc.gc.rng;simp;omega
 simp only [BI.enc,xB,xX] at key;by_cases h0:LX s.dark s.now=true
 ·rw [Ey s x [] s.dist (by simp [C9,h0])];refine ((On s.dark s.now).and (key [] (by simp) (by simp))).mono fun n h again => ?_;obtain ⟨h1,h2⟩:=h;simp only [vA] at h2;simp only [HM,Jz,OT,DN,sSM,vv2,vf,reduceCtorEq,wK,h1,h0,h2,AS,AF,q1,q2,q4,q5,bne_self_eq_false,yI,Mx (x:=⟨s.now,x⟩),wY,xN,vA,Out.enc]
 ·have h0:LX s.dark s.now=false:=by simpa using h0
  by_cases h5:s.picks=[]
  ·rw [Ey s x [s.dat.rng] s.dist (by simp [C9,h0,h5])];refine ((On s.dark s.now).and (key [s.dat.rng] kR (by simp))).mono fun n h again => ?_;obtain ⟨h1,h2⟩:=h;simp only [xN,vA,Aw] at h2;have h5':(s.picks.length:Int)=0:=by simp [h5]
   simp only [HM,Jz,OT,DN,sSM,vv2,vf,reduceCtorEq,wK,h1,h0,h2,h5',beq_self_eq_true,AS,AF,q1,q2,q4,q5,bne_self_eq_false,yI,Mx (x:=⟨s.now,x⟩),wY,xN,vA,Out.enc]
  ·have hpos:=zY.2 h5;have h6:¬(s.picks.length:Int)=0:=by omega
   have h6':((s.picks.length:Int)==0)=false:=by simpa using h6
   have hm1:=emod_nonneg s.entered h6;have hm2:=wP s.entered (show (0:Int)<s.picks.length by omega);have hm:wG s.entered s.picks.length=s.entered % s.picks.length:=Int.tmod_eq_emod_of_nonneg hc.ent.1;obtain ⟨p,hp⟩:∃p,s.picks[(s.entered % s.picks.length).toNat]? = some p:=⟨_,zO (by omega)⟩
   have hg:s.picks.getD (s.entered % s.picks.length).toNat 0=p:=by rw [xJ,hp];rfl
   have hpk:=hc.pk p (yA hp);have hrg:=hc.gc.rng;have k176:=s176 p s.dat.rng hpk hrg;have kf:=key (BL p s.dat.rng) (fun d hd=>GY hrg.1 hd) (GZ _ _);have kr:=key [s.dat.rng] kR (by simp);have c1:∀z:Int×List (List Tree),True:=fun _=>trivial;by_cases h7:(BL p s.dat.rng).head? = some s.dat.rng
   ·rw [Ey s x (BL p s.dat.rng) s.dist (by simp only [C9,h0,h5,hg,h7,if_true,if_false,zD])];obtain ⟨l,hl⟩:∃l,BL p s.dat.rng=s.dat.rng::l:=by
     cases hf:BL p s.dat.rng with
     |nil=>rw [hf] at h7;cases h7
     |cons a l=>rw [hf] at h7;cases h7;exact ⟨l,rfl⟩
    rw [hl] at kf k176 ⊢;refine ((On s.dark s.now).and (k176.and kf)).mono fun n h again => ?_;obtain ⟨h1,h2,h3⟩:=h;simp only [xN,Aw] at h2 h3;simp only [HM,Jz,OT,FJ,MW,FJ,MV,DN,sSM,vv2,vf,reduceCtorEq,wK,h1,h0,h2,h3,h6,h6',hm,hm1,hp,xN,Aw,zM,(show (0:Int)<((l.length+1:Nat):Int) by omega),beq_self_eq_true,AS,AF,q1,q2,q3,q4,q5,bne_self_eq_false,yI,Mx (x:=⟨s.now,x⟩),wY,vA,Out.enc]
   ·have h8:∀y:Int,((BL p s.dat.rng).map Aw)[0]? = some [tI y]→(y==s.dat.rng)=false:=by
     intro y hy;cases hf:BL p s.dat.rng with
     |nil=>rw [hf] at hy;cases hy
     |cons a l=>
      rw [hf] at hy h7;cases hy;simp at h7;simpa using h7
    have k8:(BL p s.dat.rng).length=0∨∃y,0<(BL p s.dat.rng).length∧((BL p s.dat.rng).map Aw)[0]? = some [tI y]∧(y==s.dat.rng)=false:=by
     cases hf:BL p s.dat.rng with
     |nil=>exact .inl rfl
     |cons a l=>exact .inr ⟨a,by simp,rfl,h8 a (by rw [hf];rfl)⟩
    by_cases h9:0≤s.limit∧s.limit≤s.dist
    ·rw [Ey s x [s.dat.rng] s.dist (by simp only [C9,h0,h5,hg,h7,h9,if_true,if_false,zD,and_self])];refine ((On s.dark s.now).and (k176.and kr)).mono fun n h again => ?_;obtain ⟨h1,h2,h3⟩:=h;simp only [xN,vA,Aw] at h3;rcases k8 with k8|⟨y,k8,k9,k10⟩
     ·simp only [HM,Jz,OT,FJ,MW,FJ,MV,DN,sSM,vv2,vf,reduceCtorEq,wK,h1,h0,h2,h3,h6,h6',hm,hm1,hp,xN,Aw,k8,vH,wE,h9,AS,AF,q1,q2,q3,q4,q5,bne_self_eq_false,yI,Mx (x:=⟨s.now,x⟩),wY,vA,Out.enc]
     ·simp only [HM,Jz,OT,FJ,MW,FJ,MV,DN,sSM,vv2,vf,reduceCtorEq,wK,h1,h0,h2,h3,h6,h6',hm,hm1,hp,xN,Aw,(show (0:Int)<((BL p s.dat.rng).length:Int) by omega),k9,k10,h9,AS,AF,q1,q2,q3,q4,q5,bne_self_eq_false,yI,Mx (x:=⟨s.now,x⟩),wY,vA,Out.enc]
    ·rw [Ey s x (BL p s.dat.rng) (s.dist+1) (by simp only [C9,h0,h5,hg,h7,h9,if_false,zD])];refine ((On s.dark s.now).and (k176.and kf)).mono fun n h again => ?_;obtain ⟨h1,h2,h3⟩:=h;have h9':(0≤s.limit→¬s.limit≤s.dist):=fun a b=>h9 ⟨a,b⟩;by_cases h10:0≤s.limit
     ·have h11:=h9' h10;rcases k8 with k8|⟨y,k8,k9,k10⟩
      ·simp only [HM,Jz,OT,FJ,MW,FJ,MV,DN,sSM,vv2,vf,reduceCtorEq,wK,h1,h0,h2,h3,h6,h6',hm,hm1,hp,xN,Aw,k8,vH,wE,h10,h11,AS,AF,q1,q2,q3,q4,q5,bne_self_eq_false,yI,QK (x:=⟨s.now,x⟩),wY,vA,Out.enc]
      ·simp only [HM,Jz,OT,FJ,MW,FJ,MV,DN,sSM,vv2,vf,reduceCtorEq,wK,h1,h0,h2,h3,h6,h6',hm,hm1,hp,xN,Aw,(show (0:Int)<((BL p s.dat.rng).length:Int) by omega),k9,k10,h10,h11,AS,AF,q1,q2,q3,q4,q5,bne_self_eq_false,yI,QK (x:=⟨s.now,x⟩),wY,vA,Out.enc]
     ·rcases k8 with k8|⟨y,k8,k9,k10⟩
      ·simp only [HM,Jz,OT,FJ,MW,FJ,MV,DN,sSM,vv2,vf,reduceCtorEq,wK,h1,h0,h2,h3,h6,h6',hm,hm1,hp,xN,Aw,k8,vH,wE,h10,AS,AF,q1,q2,q3,q4,q5,bne_self_eq_false,yI,QK (x:=⟨s.now,x⟩),wY,vA,Out.enc]
      ·simp only [HM,Jz,OT,FJ,MW,FJ,MV,DN,sSM,vv2,vf,reduceCtorEq,wK,h1,h0,h2,h3,h6,h6',hm,hm1,hp,xN,Aw,(show (0:Int)<((BL p s.dat.rng).length:Int) by omega),k9,k10,h10,AS,AF,q1,q2,q3,q4,q5,bne_self_eq_false,yI,QK (x:=⟨s.now,x⟩),wY,vA,Out.enc]
theorem entR_M (g:Gh) (s:Ses) (x:Seg) (f1 f2 f3:AI) (hc:EOk s s.rep) (v8:Nat) (e8:List (List Tree)) (a b:Int) (ks:List (List Tree)) (bd:ByteArray) (y:Seg) :
  Ev fun n=>∀again,CM_4 zq n (fI C n) again ([.ptr (ix zq 6) 0,.ptr (ix zq 6) 4,.t (tI 1),.t (tI s.now),.agg (DN x)],HM zq f1 f2 f3 g s [.row false v8 8 e8,.box [.t (tI a),.t (tI b),.t (.sl 2 ks),.t (.str bd)],.box (DN y)])=again ([],HM zq E0 E0 E0 {g with v5:=g.v5+1} (CM s x) [.row false v8 8 e8,.box [.t (tI a),.t (tI b),.t (.sl 2 ks),.t (.str bd)],.box (DN y)]):=by
 have q1:¬(10000:Int)≤s.entered:=by have:=hc.ent;omega
 have q2:w64 (s.entered+1)=s.entered+1:=by have:=hc.ent;exact AM (by omega) (by omega)
 have q3:w64 (s.dist+1)=s.dist+1:=by have:=hc.dst;exact AM (by omega) (by omega)
 have q4:s.told.length+1≤1073741824:=by have:=hc.sl;omega
 have q5:take s.told.length (List.map Out.enc s.told)=List.map Out.enc s.told:=vD (by simp);have key:=fun (ds:List Int) (hd:∀d∈ds,s.rep.rng≤d∧d≤2*s.rep.rng) (hl:ds.length≤2)=>s156 s.rep hc.gc s.now x hc.now ds hd (by have:=hc.len;omega);have kR:∀d∈[s.rep.rng],s.rep.rng≤d∧d≤2*s.rep.rng:=by have:=hc.gc.rng;simp;omega
 simp only [BI.enc,xB,xX] at key;by_cases h0:LX s.dark s.now=true
 ·rw [Ew s x [] s.dist (by simp [C9,h0])];refine ((On s.dark s.now).and (key [] (by simp) (by simp))).mono fun n h again => ?_;obtain ⟨h1,h2⟩:=h;simp only [vA] at h2;simp only [HM,J0,OU,DN,sSM,vv2,vf,reduceCtorEq,wK,h1,h0,h2,AS,AF,q1,q2,q4,q5,bne_self_eq_false,yI,Mw (x:=⟨s.now,x⟩),wY,xN,vA,Out.enc]
 ·have h0:LX s.dark s.now=false:=by simpa using h0
  by_cases h5:s.picks=[]
  ·rw [Ew s x [s.rep.rng] s.dist (by simp [C9,h0,h5])];refine ((On s.dark s.now).and (key [s.rep.rng] kR (by simp))).mono fun n h again => ?_;obtain ⟨h1,h2⟩:=h;simp only [xN,vA,Aw] at h2;have h5':(s.picks.length:Int)=0:=by simp [h5]
   simp only [HM,J0,OU,DN,sSM,vv2,vf,reduceCtorEq,wK,h1,h0,h2,h5',beq_self_eq_true,AS,AF,q1,q2,q4,q5,bne_self_eq_false,yI,Mw (x:=⟨s.now,x⟩),wY,xN,vA,Out.enc]
  ·have hpos:=zY.2 h5;have h6:¬(s.picks.length:Int)=0:=by omega
   have h6':((s.picks.length:Int)==0)=false:=by simpa using h6
   have hm1:=emod_nonneg s.entered h6;have hm2:=wP s.entered (show (0:Int)<s.picks.length by omega);have hm:wG s.entered s.picks.length=s.entered % s.picks.length:=Int.tmod_eq_emod_of_nonneg hc.ent.1;obtain ⟨p,hp⟩:∃p,s.picks[(s.entered % s.picks.length).toNat]? = some p:=⟨_,zO (by omega)⟩
   have hg:s.picks.getD (s.entered % s.picks.length).toNat 0=p:=by rw [xJ,hp];rfl
   have hpk:=hc.pk p (yA hp);have hrg:=hc.gc.rng;have k176:=s176 p s.rep.rng hpk hrg;have kf:=key (BL p s.rep.rng) (fun d hd=>GY hrg.1 hd) (GZ _ _);have kr:=key [s.rep.rng] kR (by simp);have c1:∀z:Int×List (List Tree),True:=fun _=>trivial;by_cases h7:(BL p s.rep.rng).head? = some s.rep.rng
   ·rw [Ew s x (BL p s.rep.rng) s.dist (by simp only [C9,h0,h5,hg,h7,if_true,if_false,zD])];obtain ⟨l,hl⟩:∃l,BL p s.rep.rng=s.rep.rng::l:=by
     cases hf:BL p s.rep.rng with
     |nil=>rw [hf] at h7;cases h7
     |cons a l=>rw [hf] at h7;cases h7;exact ⟨l,rfl⟩
    rw [hl] at kf k176 ⊢;refine ((On s.dark s.now).and (k176.and kf)).mono fun n h again => ?_;obtain ⟨h1,h2,h3⟩:=h;simp only [xN,Aw] at h2 h3;simp only [HM,J0,OU,FK,MY,FK,MX,DN,sSM,vv2,vf,reduceCtorEq,wK,h1,h0,h2,h3,h6,h6',hm,hm1,hp,xN,Aw,zM,(show (0:Int)<((l.length+1:Nat):Int) by omega),beq_self_eq_true,AS,AF,q1,q2,q3,q4,q5,bne_self_eq_false,yI,Mw (x:=⟨s.now,x⟩),wY,vA,Out.enc]
   ·have h8:∀y:Int,((BL p s.rep.rng).map Aw)[0]? = some [tI y]→(y==s.rep.rng)=false:=by
     intro y hy;cases hf:BL p s.rep.rng with
     |nil=>rw [hf] at hy;cases hy
     |cons a l=>
      rw [hf] at hy h7;cases hy;simp at h7;simpa using h7
    have k8:(BL p s.rep.rng).length=0∨∃y,0<(BL p s.rep.rng).length∧((BL p s.rep.rng).map Aw)[0]? = some [tI y]∧(y==s.rep.rng)=false:=by
     cases hf:BL p s.rep.rng with
     |nil=>exact .inl rfl
     |cons a l=>exact .inr ⟨a,by simp,rfl,h8 a (by rw [hf];rfl)⟩
    by_cases h9:0≤s.limit∧s.limit≤s.dist
    ·rw [Ew s x [s.rep.rng] s.dist (by simp only [C9,h0,h5,hg,h7,h9,if_true,if_false,zD,and_self])];refine ((On s.dark s.now).and (k176.and kr)).mono fun n h again => ?_;obtain ⟨h1,h2,h3⟩:=h;simp only [xN,vA,Aw] at h3;rcases k8 with k8|⟨y,k8,k9,k10⟩
     ·simp only [HM,J0,OU,FK,MY,FK,MX,DN,sSM,vv2,vf,reduceCtorEq,wK,h1,h0,h2,h3,h6,h6',hm,hm1,hp,xN,Aw,k8,vH,wE,h9,AS,AF,q1,q2,q3,q4,q5,bne_self_eq_false,yI,Mw (x:=⟨s.now,x⟩),wY,vA,Out.enc]
     ·simp only [HM,J0,OU,FK,MY,FK,MX,DN,sSM,vv2,vf,reduceCtorEq,wK,h1,h0,h2,h3,h6,h6',hm,hm1,hp,xN,Aw,(show (0:Int)<((BL p s.rep.rng).length:Int) by omega),k9,k10,h9,AS,AF,q1,q2,q3,q4,q5,bne_self_eq_false,yI,Mw (x:=⟨s.now,x⟩),wY,vA,Out.enc]
    ·rw [Ew s x (BL p s.rep.rng) (s.dist+1) (by simp only [C9,h0,h5,hg,h7,h9,if_false,zD])];refine ((On s.dark s.now).and (k176.and kf)).mono fun n h again => ?_;obtain ⟨h1,h2,h3⟩:=h;have h9':(0≤s.limit→¬s.limit≤s.dist):=fun a b=>h9 ⟨a,b⟩;by_cases h10:0≤s.limit
     ·have h11:=h9' h10;rcases k8 with k8|⟨y,k8,k9,k10⟩
      ·simp only [HM,J0,OU,FK,MY,FK,MX,DN,sSM,vv2,vf,reduceCtorEq,wK,h1,h0,h2,h3,h6,h6',hm,hm1,hp,xN,Aw,k8,vH,wE,h10,h11,AS,AF,q1,q2,q3,q4,q5,bne_self_eq_false,yI,QJ (x:=⟨s.now,x⟩),wY,vA,Out.enc]
      ·simp only [HM,J0,OU,FK,MY,FK,MX,DN,sSM,vv2,vf,reduceCtorEq,wK,h1,h0,h2,h3,h6,h6',hm,hm1,hp,xN,Aw,(show (0:Int)<((BL p s.rep.rng).length:Int) by omega),k9,k10,h10,h11,AS,AF,q1,q2,q3,q4,q5,bne_self_eq_false,yI,QJ (x:=⟨s.now,x⟩),wY,vA,Out.enc]
     ·rcases k8 with k8|⟨y,k8,k9,k10⟩
      ·simp only [HM,J0,OU,FK,MY,FK,MX,DN,sSM,vv2,vf,reduceCtorEq,wK,h1,h0,h2,h3,h6,h6',hm,hm1,hp,xN,Aw,k8,vH,wE,h10,AS,AF,q1,q2,q3,q4,q5,bne_self_eq_false,yI,QJ (x:=⟨s.now,x⟩),wY,vA,Out.enc]
      ·simp only [HM,J0,OU,FK,MY,FK,MX,DN,sSM,vv2,vf,reduceCtorEq,wK,h1,h0,h2,h3,h6,h6',hm,hm1,hp,xN,Aw,(show (0:Int)<((BL p s.rep.rng).length:Int) by omega),k9,k10,h10,AS,AF,q1,q2,q3,q4,q5,bne_self_eq_false,yI,QJ (x:=⟨s.now,x⟩),wY,vA,Out.enc]
end Ab
namespace Ab
open Go
variable (zq:Bool)
theorem nx2_M (n:Nat) (again:List AV×Heap→Option (List Tree)) (g:Gh) (s:Ses) (e:List AV) (o:Option Int) :
  JM_2 zq n (fI C n) again (e,HM zq E0 E0 E0 g s (boO o))=again (DO o,HM zq E0 E0 E0 g s []):=by
 cases o<;>simp only [JM_2,boO,DO,HM,sSM,vv2,vf,vE,Option.getD_some,vF,vG]
theorem nx3_M (n:Nat) (again:List AV×Heap→Option (List Tree)) (g:Gh) (s:Ses) (e:List AV) (o:Option Int) (tl:Heap) (w:Bool) :
  US zq n (fI C n) (e,HM zq E0 E0 E0 g s tl) again ([.t (.bool w)],HM zq E0 E0 E0 g s (boO o))=again (DO (C1 o (if w=true then some s.snd.due else none)),HM zq E0 E0 E0 g s []):=by
 have k:=nx2_M zq n again g s [];cases w
 ·cases o with
  |none=>
   have k:=k none;simp only [boO,vE,vF,HM] at k;simp only [US,boO,HM,sSM,vv2,vE,vF,AS,k,C1]
  |some a=>
   have k:=k (some a);simp only [boO,Option.getD_some,vG,HM] at k;simp only [US,boO,HM,sSM,vv2,Option.getD_some,vG,AS,k,C1]
 ·cases o with
  |none=>
   have k:=k (some s.snd.due);simp only [boO,Option.getD_some,vG,HM] at k;simp only [US,boO,HM,sSM,vv2,vE,vF,AS,k,C1]
  |some a=>
   by_cases hq:s.snd.due<a
   ·have k:=k (some s.snd.due);simp only [boO,Option.getD_some,vG,HM] at k;simp only [US,boO,HM,sSM,vv2,Option.getD_some,vG,AS,k,C1,hq]
   ·have k:=k (some a);simp only [boO,Option.getD_some,vG,HM] at k;simp only [US,boO,HM,sSM,vv2,Option.getD_some,vG,AS,k,C1,hq]
theorem nx4_M (n:Nat) (again:List AV×Heap→Option (List Tree)) (g:Gh) (s:Ses) (e:List AV) (o:Option Int) (he:s.entered<10000) :
  JM_4 zq n (fI C n) again (e,HM zq E0 E0 E0 g s (boO o))=again (DO (C1 o (if s.snd.st=1 then some s.snd.due else none)),HM zq E0 E0 E0 g s []):=by
 have q:¬(10000:Int)≤s.entered:=by omega
 have k:=nx3_M zq n again g s e o (boO o);by_cases h:s.snd.st=1
 ·have k:=k true;simp only [boO,HM] at k;simp only [JM_4,boO,HM,sSM,vv2,h,beq_self_eq_true,q,k]
 ·have k:=k false;have h':(s.snd.st==1)=false:=by simpa using h
  simp only [boO,HM] at k;simp only [JM_4,boO,HM,sSM,vv2,h,h',k]
theorem nx5_M (g:Gh) (s:Ses) (e:List AV) (o:Option Int) (he:s.entered<10000) (hr:Bn s.rep) :
  Ev fun n=>∀again,W0 zq n (fI C n) again (e,HM zq E0 E0 E0 g s (boO o))=again (DO (C1 (C1 o (Ax s.rep)) (if s.snd.st=1 then some s.snd.due else none)),HM zq E0 E0 E0 g s []):=by
 refine (Hy s.rep hr).mono fun n h again => ?_;have k:=fun o=>nx4_M zq n again g s [] o he;simp only [BI.enc] at h;cases hn:Ax s.rep with
 |none=>
  have k:=k o;rw [hn] at h;simp only [DU] at h;simp only [boO,HM] at k;simp only [W0,boO,HM,sSM,vv2,vf,wK,h,k];cases o<;>rfl
 |some a=>
  rw [hn] at h;simp only [DU] at h;cases o with
  |none=>
   have k:=k (some a);simp only [boO,HM,Option.getD_some,vG] at k;simp only [W0,boO,HM,sSM,vv2,vf,wK,vE,vF,h,k,C1]
  |some b=>
   by_cases hq:a<b
   ·have k:=k (some a);simp only [boO,HM,Option.getD_some,vG] at k;simp only [W0,boO,HM,sSM,vv2,vf,wK,Option.getD_some,vG,h,k,C1,hq]
   ·have k:=k (some b);simp only [boO,HM,Option.getD_some,vG] at k;simp only [W0,boO,HM,sSM,vv2,vf,wK,Option.getD_some,vG,h,k,C1,hq]
theorem nx6_M (g:Gh) (s:Ses) (e:List AV) (o:Option Int) (he:s.entered<10000) (hd:Bn s.dat) (hr:Bn s.rep) :
  Ev fun n=>∀again,Wz zq n (fI C n) again (e,HM zq E0 E0 E0 g s (boO o))=again (DO (C1 (C1 (C1 o (Ax s.dat)) (Ax s.rep)) (if s.snd.st=1 then some s.snd.due else none)),HM zq E0 E0 E0 g s []):=by
 have key:=fun o=>nx5_M zq g s [] o he hr;cases hn:Ax s.dat with
 |none=>
  refine ((Hy s.dat hd).and (key o)).mono fun n h again => ?_;obtain ⟨h,k⟩:=h;have k:=k again;simp only [BI.enc,hn,DU] at h;simp only [boO,HM] at k;simp only [Wz,boO,HM,sSM,vv2,vf,wK,h,k];cases o<;>rfl
 |some a=>
  cases o with
  |none=>
   refine ((Hy s.dat hd).and (key (some a))).mono fun n h again => ?_;obtain ⟨h,k⟩:=h;have k:=k again;simp only [BI.enc,hn,DU] at h;simp only [boO,HM,Option.getD_some,vG] at k;simp only [Wz,boO,HM,sSM,vv2,vf,wK,vE,vF,h,k,C1]
  |some b=>
   by_cases hq:a<b
   ·refine ((Hy s.dat hd).and (key (some a))).mono fun n h again => ?_;obtain ⟨h,k⟩:=h;have k:=k again;simp only [BI.enc,hn,DU] at h;simp only [boO,HM,Option.getD_some,vG] at k;simp only [Wz,boO,HM,sSM,vv2,vf,wK,Option.getD_some,vG,h,k,C1,hq]
   ·refine ((Hy s.dat hd).and (key (some b))).mono fun n h again => ?_;obtain ⟨h,k⟩:=h;have k:=k again;simp only [BI.enc,hn,DU] at h;simp only [boO,HM,Option.getD_some,vG] at k;simp only [Wz,boO,HM,sSM,vv2,vf,wK,Option.getD_some,vG,h,k,C1,hq]
theorem nx_M (g:Gh) (s:Ses) (f1 f2 f3:AI) (he:s.entered<10000) (hd:Bn s.dat) (hr:Bn s.rep) :
  Ev fun n=>∀again,CM_1 zq n (fI C n) again ([.ptr (ix zq 6) 0],HM zq f1 f2 f3 g s [])=again (DO (nxS s),HM zq E0 E0 E0 g s []):=by
 have q:¬(10000:Int)≤s.entered:=by omega
 have key:=nx6_M zq g s [] (s.pend.head?.map (·.at_)) he hd hr;refine key.mono fun n k again => ?_;have k:=k again;have e1:∀(o:Out) (l:List Out),s.pend=o::l→(g.pre++List.map Out.enc s.pend)[g.pre.length]? = some o.enc:=by intro o l h;rw [zL (yI _),h];simp
 unfold nxS;cases hp:s.pend with
 |nil=>
  simp only [hp,head?_nil,map_none,boO,HM,vE,vF,vA] at k;simp only [tCM_1,XM_1,JM_7,HM,hp,vA,sSM,vv2,q,wE,vH,k,head?_nil]
 |cons o l=>
  have e1:=e1 o l hp;simp only [hp] at e1;simp only [hp,vN,yT,boO,HM,Option.getD_some,vG] at k;simp only [tCM_1,XM_1,JM_7,JM_1,HM,hp,sSM,vv2,q,(show (0:Int)<((l.length+1:Nat):Int) by omega),e1,Out.enc,k,vN,Int.le_refl]
end Ab
namespace Ab
open Go
variable (zq:Bool)
theorem ex_M (g:Gh) (s:Ses) (f1 f2 f3:AI) (he:s.entered<10000) (ha:s.snd.acked.length≤100) (hl:s.pend.length≤1000000)
  (hw:s.snd.st=1→s.snd.due=s.now→(Bt s.snd s.now).2.2=0∧(Bt s.snd s.now).2.1.length≤1000000) :
  Ev fun n=>∀again,CM_2 zq n (fI C n) again ([.ptr (ix zq 6) 0],HM zq f1 f2 f3 g s [])=again ([],HM zq E0 E0 E0 (exG g s) (exS s) []):=by
 have q:¬(10000:Int)≤s.entered:=by omega
 by_cases h1:s.snd.st=1
 ·by_cases h2:s.snd.due=s.now
  ·obtain ⟨w1,w2⟩:=hw h1 h2;have e1:exS s={s with snd:=(Bt s.snd s.now).1,pend:=s.pend++(Bt s.snd s.now).2.1}:=by simp only [exS,h1,h2,and_self,if_true]
   have e2:exG g s={g with v0:=g.v0+1,pre:=[]}:=by simp only [exG,h1,h2,and_self,if_true]
   rw [e1,e2];refine (s149 s.snd s.now ha).mono fun n h again => ?_;simp only [BK,w1,Snd.enc,xB,xX,h1,h2] at h;generalize Bt s.snd s.now=w at h w1 w2 ⊢;obtain ⟨a,o,e⟩:=w;simp only at h w1 w2 ⊢;have q2:¬g.pre.length+s.pend.length<g.pre.length+s.pend.length:=by omega
   have q3:s.pend.length+o.length≤1073741824:=by omega
   have q4:take s.pend.length (List.map Out.enc s.pend)=List.map Out.enc s.pend:=vD (by simp);simp only [XM,ZB,JM_8,JM_9,HM,sSM,vv2,vf,reduceCtorEq,wK,h1,h2,h,q,beq_self_eq_true,bne_self_eq_false,zV,q2,q3,q4,vK,wY,yI,xX]
  ·have h2':(s.snd.due != s.now)=true:=by simpa using h2
   have e1:exS s=s:=by simp only [exS,h2,and_false,if_false]
   have e2:exG g s=g:=by simp only [exG,h2,and_false,if_false]
   rw [e1,e2];refine Ev.of fun n again => ?_;simp only [XM,ZB,JM_8,JM_9,HM,sSM,vv2,vf,reduceCtorEq,wK,h1,h2',q,beq_self_eq_true]
 ·have h1':(s.snd.st==1)=false:=by simpa using h1
  have e1:exS s=s:=by simp only [exS,h1,false_and,if_false]
  have e2:exG g s=g:=by simp only [exG,h1,false_and,if_false]
  rw [e1,e2];refine Ev.of fun n again => ?_;simp only [XM,ZB,JM_8,JM_9,HM,sSM,vv2,vf,reduceCtorEq,wK,h1']
def O9 (q:Gh×Ses):Rd (Gh×Ses) (Gh×Ses):=
 match q.2.pend with
 |[]=>.done q
 |o::l=>if o.at_=q.2.now then .next ({q.1 with v4:=q.1.v4+1,pre:=q.1.pre++[o.enc]},{EU q.2 o.seg with pend:=l}) else .done q
theorem tx_M (g:Gh) (s:Ses) (f1 f2 f3:AI) (hb:Bud s.pend.length s) :
  Ev fun n=>∀again,CM_7 zq n (fI C n) again ([.ptr (ix zq 6) 0],HM zq f1 f2 f3 g s [])=again ([],HM zq E0 E0 E0 (txT s.pend.length (g,s)).1 (txS s.pend.length s) []):=by
 have key:=B6 (R:=List Tree) (Z:=List AV×Heap→Option (List Tree)) (Q:=Gh×Ses)
  (B:=fun n z p again=>S8 zq n (fI C n) ([.ptr (ix zq 6) 0],HM zq f1 f2 f3 g s []) z p again)
  (s:=(([],HM zq E0 E0 E0 g s []):List AV×Heap)) (r:=txT s.pend.length (g,s))
  (fun z q=>z ([],HM zq E0 E0 E0 q.1 q.2 [])) (fun q:Gh×Ses=>(([],HM zq E0 E0 E0 q.1 q.2 []):List AV×Heap)) O9 (fun q=>Bud q.2.pend.length q.2) (fun q=>q.2.pend.length) (fun q=>txT q.2.pend.length q) (g,s) rfl hb rfl
  (fun q hI => ?_) (fun q q' hI hs => ?_) (fun q hI => ?_)
 ·refine key.mono fun n h again => ?_;have h:=h again;rw [QM] at h;simp only [HM] at h;simp only [tCM_7,XM_7,HM,sSM,h]
 ·obtain ⟨g1,s1⟩:=q;simp only at hI ⊢;have e1:∀(o:Out) (l:List Out),s1.pend=o::l→(g1.pre++List.map Out.enc s1.pend)[g1.pre.length]? = some o.enc:=by intro o l h;rw [zL (yI _),h];simp
  cases hp:s1.pend with
  |nil=>
   refine Ev.of fun n z again => ?_;simp only [O9,S8,Vm,HM,hp,sSM,vv2,vf,wK,vH,wE,Rd.Aj,vA]
  |cons o l=>
   have e1:=e1 o l hp;by_cases ho:o.at_=s1.now
   ·rw [hp] at hI;have k:=entD_M zq g1 s1 o.seg (.row true (AI.ver f1) 15 (Be f1)) (.row true (AI.ver f2) 4 (Be f2)) (.row true (AI.ver f3) 4 (Be f3)) (Bud.eD hI);refine k.mono fun n h z again => ?_;simp only [DN,HM] at h;have h2:=fun again=>h again;have ep:(EU s1 o.seg).pend=o::l:=hp;have q1:(1:Int)≤((l.length+1:Nat):Int):=by omega
    have q2:=ucP_M zq {g1 with v4:=g1.v4+1} (EU s1 o.seg) o l ep;rw [ep] at q2;simp only [zW,vQ] at q2;have e2:(g1.pre++List.map Out.enc (o::l))[g1.pre.length]? = some [tI s1.now,tI o.seg.kind,tI o.seg.ses,tI o.seg.ser,tI o.seg.off,tI o.seg.tot,.bool o.seg.chk,.str o.seg.data,.sl 2 (o.seg.claims.map Span.enc)]:=by rw [hp] at e1;rw [e1,← ho];rfl
    simp only [ep,hp] at h2;simp only [O9,S8,Vm,JM_39,HM,hp,ep,ho,sSM,vv2,vf,reduceCtorEq,wK,(show (0:Int)<((l.length+1:Nat):Int) by omega),Int.le_refl,e2,beq_self_eq_true,Rd.AR,h2,q1,vQ,q2,(show (0:Int)≤1 by omega)];simp only [xN,append_assoc,xB,xX]
   ·have ho':(o.at_==s1.now)=false:=by simpa using ho
    refine Ev.of fun n z again => ?_;have e2:(g1.pre++List.map Out.enc (o::l))[g1.pre.length]? = some [tI o.at_,tI o.seg.kind,tI o.seg.ses,tI o.seg.ser,tI o.seg.off,tI o.seg.tot,.bool o.seg.chk,.str o.seg.data,.sl 2 (o.seg.claims.map Span.enc)]:=by rw [hp] at e1;rw [e1];rfl
    simp only [O9,S8,Vm,HM,hp,ho,ho',sSM,vv2,vf,wK,(show (0:Int)<((l.length+1:Nat):Int) by omega),Int.le_refl,e2,Rd.Aj]
 ·obtain ⟨g1,s1⟩:=q;unfold O9 at hs;simp only at hI hs ⊢;cases hp:s1.pend with
  |nil=>rw [hp] at hs;cases hs
  |cons o l=>
   rw [hp] at hs hI;simp only at hs;split at hs
   ·cases hs;refine ⟨?_,by simp⟩;exact (Bud.EU hI o.seg).of rfl rfl rfl rfl rfl rfl rfl rfl
   ·cases hs
 ·obtain ⟨g1,s1⟩:=q;unfold O9;simp only;cases hp:s1.pend with
  |nil=>simp [txT,Rd.fin]
  |cons o l=>
   simp only [zW,txT,hp];split
   ·rfl
   ·simp [Rd.fin, *]
end Ab
namespace Ab
open Go
variable (zq:Bool)
def Bj (g:Gh) (s:Ses) (v:Nat) (o:Option Seg):List AV×Heap:=([.rptr (ix zq 7) v 0 0,.t (.bool o.isSome)],HM zq E0 E0 E0 g s [.row false v 8 [(o.getD Jt).enc]])
theorem tkR_M (g:Gh) (s:Ses) (v:Nat) (y:Seg) (hr:Bn s.rep) :
  Ev fun n=>∀again e1 hp,TC zq n (fI C n) ((.rptr (ix zq 7) v 0 0::e1),hp) again ([],HM zq E0 E0 E0 g s [.row false v 8 [y.enc]])=again (Bj zq g (DJ s).1 (v+1) (DJ s).2):=by
 cases hf:s.rep.frames with
 |nil=>
  have hn:Ax s.rep=none:=by simp [Ax,hf]
  rw [show DJ s=(s,none) by simp only [DJ,hf]];refine (Hy s.rep hr).mono fun n h again e1 hp => ?_;rw [hn] at h;simp only [BI.enc,DU] at h;simp only [Bj,TC,Vq,HM,sSM,vv2,vf,wK,zM,Seg.enc,h,vF,vE,Jt,vA,vO,wS,vM,yZ,yI]
 |cons f l=>
  have hn:Ax s.rep=some f.arr:=by simp [Ax,hf]
  by_cases ha:f.arr=s.now
  ·rw [show DJ s=(CC s,some f.seg) by simp only [DJ,hf,ha,if_true]];refine ((Hy s.rep hr).and (s158 s.rep hr f l hf)).mono fun n h again e1 hp => ?_;obtain ⟨h,h2⟩:=h;rw [hn,ha] at h;simp only [BI.enc,DU] at h h2;have hx:CC s={s with rep:=⟨s.rep.rng,l,s.rep.sent,s.rep.lost⟩}:=by simp only [CC,hf,vP]
   simp only [hx,Bj,TC,Vq,HM,sSM,vv2,vf,wK,zM,Seg.enc,h,h2,bne_self_eq_false,vG,Option.getD_some,vO,wS,vM,yZ,yI]
  ·have ha':(f.arr != s.now)=true:=by simpa using ha
   rw [show DJ s=(s,none) by simp only [DJ,hf,ha,if_false]];refine (Hy s.rep hr).mono fun n h again e1 hp => ?_;rw [hn] at h;simp only [BI.enc,DU] at h;simp only [ha',Bj,TC,Vq,HM,sSM,vv2,vf,wK,zM,Seg.enc,h,vF,vE,Jt,vA,vO,wS,vM,yZ,yI]
theorem hr_M (g:Gh) (s:Ses) (v:Nat) (x:Seg) (hr:Bn s.rep) (ha:s.snd.acked.length≤100∧s.pend.length≤1000000) (hx:x.claims.length≤100∨1000<x.claims.length)
  (hw:¬s.now<s.snd.busy→(Av s.snd s.now x).2.2=0∧(Av s.snd s.now x).2.1.length≤1000000) :
  Ev fun n=>∀z again,HZ zq n (fI C n) z (Bj zq g s v (some x)) again=again (Bj zq (lsG g s) (DJ (lsX s x)).1 (v+1) (DJ (lsX s x)).2):=by
 by_cases hb:s.now<s.snd.busy
 ·have e1:lsX s x=s:=by simp only [lsX,hb,if_true]
  have e2:lsG g s=g:=by simp only [lsG,hb,if_true]
  rw [e1,e2];refine (tkR_M zq g s v x hr).mono fun n h z again => ?_;simp only [HM] at h;have hb':decide (s.now<s.snd.busy)=true:=decide_eq_true hb;simp only [Bj,HM,vG,Option.getD_some] at h ⊢;simp only [HZ,sSM,vv2,vf,reduceCtorEq,wK,hb,h]
 ·obtain ⟨w1,w2⟩:=hw hb;have e2:lsG g s=gP g:=by simp only [lsG,hb,if_false]
  have hx2:lsX s x=lsF {s with snd:=(Av s.snd s.now x).1,pend:=s.pend++(Av s.snd s.now x).2.1}:=by simp only [lsX,hb,if_false]
  rw [e2];have key:=fun s' (hs:s'.rep=s.rep)=>tkR_M zq (gP g) s' v x (by rw [hs];exact hr);have q2:¬g.pre.length+s.pend.length<g.pre.length+s.pend.length:=by omega
  have q4:take s.pend.length (List.map Out.enc s.pend)=List.map Out.enc s.pend:=vD (by simp);have h148:=s148 s.snd s.now x ha.1 hx;simp only [BK,w1,Snd.enc,Seg.enc,xB,xX] at h148;rw [hx2];generalize Av s.snd s.now x=w at h148 w1 w2 ⊢;obtain ⟨a,o,e⟩:=w;simp only at h148 w1 w2 ⊢;have q3:s.pend.length+o.length≤1073741824:=by omega
  by_cases hk:s.kno=false∧a.st=2
  ·have e3:lsF {s with snd:=a,pend:=s.pend++o}={s with snd:=a,pend:=s.pend++o,kno:=true,knoAt:=s.now}:=by simp only [lsF,hk,and_self,if_true]
   rw [e3];refine (h148.and (key {s with snd:=a,pend:=s.pend++o,kno:=true,knoAt:=s.now} rfl)).mono fun n h z again => ?_;obtain ⟨h,h2⟩:=h;simp only [HM,gP,wY,xX] at h2;have hk1:(!s.kno)=true:=by simp [hk.1]
   have hk2:(a.st==2)=true:=by simp [hk.2]
   simp only [Bj,HM,vG,Option.getD_some,gP,xX];simp only [Bj,HM,xX,Seg.enc] at h2;simp only [HZ,sSM,vv2,vf,reduceCtorEq,wK,hb,hk1,hk2,Seg.enc,zM,h,bne_self_eq_false,zV,q2,q3,q4,vK,yI,h2]
  ·have e3:lsF {s with snd:=a,pend:=s.pend++o}={s with snd:=a,pend:=s.pend++o}:=by simp only [lsF,hk,if_false]
   rw [e3];refine (h148.and (key {s with snd:=a,pend:=s.pend++o} rfl)).mono fun n h z again => ?_;obtain ⟨h,h2⟩:=h;simp only [HM,gP,wY,xX] at h2;simp only [Bj,HM,vG,Option.getD_some,gP,xX];simp only [Bj,HM,xX,Seg.enc] at h2;rcases Bool.eq_false_or_eq_true s.kno with hk0|hk0
   ·have hk1:(!s.kno)=false:=by simp [hk0]
    simp only [HZ,sSM,vv2,vf,reduceCtorEq,wK,hb,hk1,Seg.enc,zM,h,bne_self_eq_false,zV,q2,q3,q4,vK,yI,h2]
   ·have hk1:(!s.kno)=true:=by simp [hk0]
    have hk2:(a.st==2)=false:=by simpa using fun h=>hk ⟨hk0,h⟩
    simp only [HZ,sSM,vv2,vf,reduceCtorEq,wK,hb,hk1,hk2,Seg.enc,zM,h,bne_self_eq_false,zV,q2,q3,q4,vK,yI,h2]
theorem l16_M:HZ=HZ:=rfl
theorem lp_M {P:Ses→Prop} (hP:LsP P) (q:LS) (h:q.inv P) :
  Ev fun n=>∀z,AH (fun p again=>HZ zq n (fI C n) z p again) n (Bj zq q.g q.s q.v q.o)=z ([],HM zq E0 E0 E0 q.res.1 q.res.2 []):=by
 refine B6 (R:=List Tree) (Z:=List AV×Heap→Option (List Tree)) (Q:=Gh×Ses) (B:=fun n z p again=>HZ zq n (fI C n) z p again) (r:=q.res)
  (fun z r=>z ([],HM zq E0 E0 E0 r.1 r.2 [])) (fun q:LS=>Bj zq q.g q.s q.v q.o) LS.step (LS.inv P) (fun q=>q.s.rep.frames.length+(if q.o.isSome then 1 else 0)) LS.res q rfl h rfl
  (fun q hI => ?_) (fun q q' hI hs=>LS.sound hP q q' hI hs) (fun q hI=>LS.fin hP q hI)
 obtain ⟨g,s,v,o⟩:=q;cases o with
 |none=>
  refine Ev.of fun n z again => ?_;simp only [Bj,vF,HZ,HM,sSM,vv2,vf,reduceCtorEq,wK,LS.step,Rd.Aj]
 |some x=>
  obtain ⟨h1,h2,h3,h4,h5⟩:=hI;refine (hr_M zq g s v x h1 h2 h3 h4).mono fun n h z again => ?_;simp only [LS.step,Rd.AR];exact h z again
theorem ls_M {P:Ses→Prop} (hP:LsP P) (g:Gh) (s:Ses) (f1 f2 f3:AI) (h:P s) :
  Ev fun n=>∀again,CM_3 zq n (fI C n) again ([.ptr (ix zq 6) 0],HM zq f1 f2 f3 g s [])=again ([],HM zq E0 E0 E0 (lsT s.rep.frames.length (g,s)).1 (lsS s.rep.frames.length s) []):=by
 have hr:=hP.rep s h;obtain ⟨i1,i2⟩:=LS.take hP h g 0;have key:=lp_M zq hP _ i1;rw [i2,Qj] at key;simp only at key;cases hf:s.rep.frames with
 |nil=>
  have hn:Ax s.rep=none:=by simp [Ax,hf]
  have e:DJ s=(s,none):=by simp only [DJ,hf]
  rw [e] at key;rw [hf] at key;refine ((Hy s.rep hr).and key).mono fun n h again => ?_;obtain ⟨h,k⟩:=h;rw [hn] at h;simp only [BI.enc,DU] at h;have k:=k again;simp only [Bj,HM,vF,vE,Jt,Seg.enc,vA] at k;simp only [XL,ZA,Vp,HM,sSM,vv2,vf,wK,h,k]
 |cons f l=>
  have hn:Ax s.rep=some f.arr:=by simp [Ax,hf]
  by_cases ha:f.arr=s.now
  ·have e:DJ s=(CC s,some f.seg):=by simp only [DJ,hf,ha,if_true]
   rw [e] at key;rw [hf] at key;refine ((Hy s.rep hr).and ((s158 s.rep hr f l hf).and key)).mono fun n h again => ?_;obtain ⟨h,h2,k⟩:=h;rw [hn,ha] at h;simp only [BI.enc,DU] at h h2;have hx:CC s={s with rep:=⟨s.rep.rng,l,s.rep.sent,s.rep.lost⟩}:=by simp only [CC,hf,vP]
   have k:=k again;simp only [Bj,HM,vG,Option.getD_some,Seg.enc,hx] at k;simp only [XL,ZA,Vp,HM,sSM,vv2,vf,wK,h,h2,bne_self_eq_false,k]
  ·have ha':(f.arr != s.now)=true:=by simpa using ha
   have e:DJ s=(s,none):=by simp only [DJ,hf,ha,if_false]
   rw [e] at key;rw [hf] at key;refine ((Hy s.rep hr).and key).mono fun n h again => ?_;obtain ⟨h,k⟩:=h;rw [hn] at h;simp only [BI.enc,DU] at h;have k:=k again;simp only [Bj,HM,vF,vE,Jt,Seg.enc,vA] at k;simp only [XL,ZA,Vp,HM,sSM,vv2,vf,wK,h,ha',k]
end Ab
namespace Ab
open Go
variable (zq:Bool)
theorem tkD_M (g:Gh) (s:Ses) (v:Nat) (y:Seg) (hr:Bn s.dat) :
  Ev fun n=>∀again e1 hp,TB zq n (fI C n) ((.rptr (ix zq 7) v 0 0::e1),hp) again ([],HM zq E0 E0 E0 g s [.row false v 8 [y.enc]])=again (Bj zq g (DK s).1 (v+1) (DK s).2):=by
 cases hf:s.dat.frames with
 |nil=>
  have hn:Ax s.dat=none:=by simp [Ax,hf]
  rw [show DK s=(s,none) by simp only [DK,hf]];refine (Hy s.dat hr).mono fun n h again e1 hp => ?_;rw [hn] at h;simp only [BI.enc,DU] at h;simp only [Bj,TB,Vo,HM,sSM,vv2,vf,wK,zM,Seg.enc,h,vF,vE,Jt,vA,vO,wS,vM,yZ,yI]
 |cons f l=>
  have hn:Ax s.dat=some f.arr:=by simp [Ax,hf]
  by_cases ha:f.arr=s.now
  ·rw [show DK s=(BC s,some f.seg) by simp only [DK,hf,ha,if_true]];refine ((Hy s.dat hr).and (s158 s.dat hr f l hf)).mono fun n h again e1 hp => ?_;obtain ⟨h,h2⟩:=h;rw [hn,ha] at h;simp only [BI.enc,DU] at h h2;have hx:BC s={s with dat:=⟨s.dat.rng,l,s.dat.sent,s.dat.lost⟩}:=by simp only [BC,hf,vP]
   simp only [hx,Bj,TB,Vo,HM,sSM,vv2,vf,wK,zM,Seg.enc,h,h2,bne_self_eq_false,vG,Option.getD_some,vO,wS,vM,yZ,yI]
  ·have ha':(f.arr != s.now)=true:=by simpa using ha
   rw [show DK s=(s,none) by simp only [DK,hf,ha,if_false]];refine (Hy s.dat hr).mono fun n h again e1 hp => ?_;rw [hn] at h;simp only [BI.enc,DU] at h;simp only [ha',Bj,TB,Vo,HM,sSM,vv2,vf,wK,zM,Seg.enc,h,vF,vE,Jt,vA,vO,wS,vM,yZ,yI]
theorem rp_M (g:Gh) (s:Ses) (v:Nat) (x:Seg) (r:Rcv) (l:List Seg) (y:List Tree) (hy:gL y 4=l.map Seg.enc) (f1 f2 f3:AI) (e00:List AV) (g00:Gh) (s00:Ses) (hb:Bud l.length s) :
  Ev fun n=>∀z,AH (fun p again=>OY zq n (fI C n) y (e00,HM zq f1 f2 f3 g00 s00 []) z p again) n ([.t (tI 0)],HM zq E0 E0 E0 g s [.row false v 8 [x.enc],E8 r])=z ([],HM zq E0 E0 E0 {g with v5:=g.v5+l.length} (rxF (l.foldl CM s)) [.row false v 8 [x.enc]]):=by
 have key:=Fj (R:=List Tree) (Z:=List AV×Heap→Option (List Tree)) (Q:=Gh×Ses) (B:=fun n z p again=>OY zq n (fI C n) y (e00,HM zq f1 f2 f3 g00 s00 []) z p again)
  (s:=(([.t (tI 0)],HM zq E0 E0 E0 g s [.row false v 8 [x.enc],E8 r]):List AV×Heap)) (r:=({g with v5:=g.v5+l.length},l.foldl CM s)) l
  (fun i (q:Gh×Ses)=>(([.t (tI i)],HM zq E0 E0 E0 q.1 q.2 [.row false v 8 [x.enc],E8 r]):List AV×Heap)) (fun _ q y =>.next ({q.1 with v5:=q.1.v5+1},CM q.2 y)) (fun q=>q)
  (fun z q=>z ([],HM zq E0 E0 E0 q.1 (rxF q.2) [.row false v 8 [x.enc]])) (fun i q=>Bud (l.length-i) q.2) (g,s) rfl hb ?_
  (fun i q w hx hI => ?_) (fun i q w q' hx hI hs => ?_) (fun q hI => ?_)
 ·exact key
 ·rw [CL,Tt]
 ·have hi:=AN hx;obtain ⟨g1,s1⟩:=q;have hI':Bud (l.length-(i+1)+1) s1:=by
   have:l.length-(i+1)+1=l.length-i:=by omega
   rw [this];exact hI
  have k:=entR_M zq g1 s1 w (.row true (AI.ver f1) 15 (Be f1)) (.row true (AI.ver f2) 4 (Be f2)) (.row true (AI.ver f3) 4 (Be f3)) hI'.eR v [x.enc] r.ses r.tot (r.known.map Span.enc) r.data w;refine k.mono fun n h z again => ?_;have h:=fun again=>h again;simp only [DN,HM] at h;simp only [OY,E8,HM,hy,sSM,vv2,vf,wK,hx,Seg.enc,(show (i:Int)<(l.length:Int) by omega),Rd.AR];simp only [Seg.enc] at h;simp only [h,ZQ,sSM,vv2,AT (show i<4611686018427387904 by have:=hb.ent;omega)]
 ·cases hs;have hi:=AN hx;have:l.length-i=l.length-(i+1)+1:=by omega
  rw [this] at hI;exact hI.CM w
 ·obtain ⟨g1,s1⟩:=q;rcases Bool.eq_false_or_eq_true s1.rcvd with hr|hr
  ·have hr1:(!s1.rcvd)=false:=by simp [hr]
   have e:rxF s1=s1:=by simp only [rxF,hr,true_eq_false,false_and,if_false]
   rw [e];refine Ev.of fun n z again => ?_;simp only [OY,E8,HM,hy,sSM,vv2,vf,wK,wE,hr1]
  ·have hr1:(!s1.rcvd)=true:=by simp [hr]
   refine (s147 s1.rcv).mono fun n h z again => ?_;simp only [Rcv.enc] at h;rcases Bool.eq_false_or_eq_true (Ay s1.rcv) with hc|hc
   ·have e:rxF s1={s1 with rcvd:=true,arrive:=s1.now}:=by simp only [rxF,hr,hc,and_self,if_true]
    rw [e];simp only [OY,E8,HM,hy,sSM,vv2,vf,wK,wE,hr1,h,hc]
   ·have e:rxF s1=s1:=by simp only [rxF,hc,zD,and_false,if_false]
    rw [e];simp only [OY,E8,HM,hy,sSM,vv2,vf,wK,wE,hr1,h,hc]
theorem hd_M (g:Gh) (s:Ses) (v:Nat) (x:Seg) (f1 f2 f3:AI) (e00:List AV) (g00:Gh) (s00:Ses) (hd:Bn s.dat) (hw:(DX s.rcv x).2.2=0) (hb:Bud (DX s.rcv x).2.1.length s) :
  Ev fun n=>∀z again,Ku zq n (fI C n) (e00,HM zq f1 f2 f3 g00 s00 []) z (Bj zq g s v (some x)) again=again (Bj zq (rxG g s x) (DK (rxX s x)).1 (v+1) (DK (rxX s x)).2):=by
 have key:=tkD_M zq (rxG g s x) (rxX s x) v x (by rw [Es];exact hd);have k146:=s146 s.rcv x;unfold rxG rxX rxH at key ⊢;generalize DX s.rcv x=w at hw hb k146 key ⊢;obtain ⟨a,l,e⟩:=w;simp only at hw hb key ⊢;subst hw;have kl:=rp_M zq g {s with rcv:=a} v x a l [tI a.ses,tI a.tot,.sl 2 (a.known.map Span.enc),.str a.data,.sl 8 (l.map Seg.enc),tI 0] rfl f1 f2 f3 e00 g00 s00 (hb.of rfl rfl rfl rfl rfl rfl rfl rfl);simp only [ML,Rcv.enc,Seg.enc,xB,xX] at k146;refine (k146.and (kl.and key)).mono fun n h z again => ?_;obtain ⟨h,h2,h3⟩:=h;have h3:=fun e1 hp=>h3 again e1 hp;simp only [Bj,HM,vG,Option.getD_some,E8,Seg.enc] at h2 h3 ⊢;simp only [Ku,sSM,vv2,vf,wK,zM,h,bne_self_eq_false,h2,h3]
theorem l32_M:Ku=Ku:=rfl
theorem dp_M {P:Ses→Prop} (hP:RxP P) (q:RS) (h:q.inv P) (f1 f2 f3:AI) (e00:List AV) (g00:Gh) (s00:Ses) :
  Ev fun n=>∀z,AH (fun p again=>Ku zq n (fI C n) (e00,HM zq f1 f2 f3 g00 s00 []) z p again) n (Bj zq q.g q.s q.v q.o)=z ([],HM zq E0 E0 E0 q.res.1 q.res.2 []):=by
 refine B6 (R:=List Tree) (Z:=List AV×Heap→Option (List Tree)) (Q:=Gh×Ses) (B:=fun n z p again=>Ku zq n (fI C n) (e00,HM zq f1 f2 f3 g00 s00 []) z p again) (r:=q.res)
  (fun z r=>z ([],HM zq E0 E0 E0 r.1 r.2 [])) (fun q:RS=>Bj zq q.g q.s q.v q.o) RS.step (RS.inv P) (fun q=>q.s.dat.frames.length+(if q.o.isSome then 1 else 0)) RS.res q rfl h rfl
  (fun q hI => ?_) (fun q q' hI hs=>RS.sound hP q q' hI hs) (fun q hI=>RS.fin hP q hI)
 obtain ⟨g,s,v,o⟩:=q;cases o with
 |none=>
  refine Ev.of fun n z again => ?_;simp only [Bj,vF,Ku,HM,sSM,vv2,vf,wK,RS.step,Rd.Aj]
 |some x=>
  obtain ⟨h1,h2,h3,h4⟩:=hI;refine (hd_M zq g s v x f1 f2 f3 e00 g00 s00 h1 h2 h3).mono fun n h z again => ?_;simp only [RS.step,Rd.AR];exact h z again
theorem rx_M {P:Ses→Prop} (hP:RxP P) (g:Gh) (s:Ses) (f1 f2 f3:AI) (h:P s) :
  Ev fun n=>∀again,CM_5 zq n (fI C n) again ([.ptr (ix zq 6) 0],HM zq f1 f2 f3 g s [])=again ([],HM zq E0 E0 E0 (rxT s.dat.frames.length (g,s)).1 (rxS s.dat.frames.length s) []):=by
 have hr:=hP.dat s h;obtain ⟨i1,i2⟩:=RS.take hP h g 0;have key:=dp_M zq hP _ i1 f1 f2 f3 [.ptr (ix zq 6) 0] g s;rw [i2,QT] at key;simp only at key;cases hf:s.dat.frames with
 |nil=>
  have hn:Ax s.dat=none:=by simp [Ax,hf]
  have e:DK s=(s,none):=by simp only [DK,hf]
  rw [e] at key;rw [hf] at key;refine ((Hy s.dat hr).and key).mono fun n h again => ?_;obtain ⟨h,k⟩:=h;rw [hn] at h;simp only [BI.enc,DU] at h;have k:=k again;simp only [Bj,HM,vF,vE,Jt,Seg.enc,vA] at k;simp only [XK,Y9,Vn,HM,sSM,vv2,vf,wK,h,k]
 |cons f l=>
  have hn:Ax s.dat=some f.arr:=by simp [Ax,hf]
  by_cases ha:f.arr=s.now
  ·have e:DK s=(BC s,some f.seg):=by simp only [DK,hf,ha,if_true]
   rw [e] at key;rw [hf] at key;refine ((Hy s.dat hr).and ((s158 s.dat hr f l hf).and key)).mono fun n h again => ?_;obtain ⟨h,h2,k⟩:=h;rw [hn,ha] at h;simp only [BI.enc,DU] at h h2;have hx:BC s={s with dat:=⟨s.dat.rng,l,s.dat.sent,s.dat.lost⟩}:=by simp only [BC,hf,vP]
   have k:=k again;simp only [Bj,HM,vG,Option.getD_some,Seg.enc,hx] at k;simp only [XK,Y9,Vn,HM,sSM,vv2,vf,wK,h,h2,bne_self_eq_false,k]
  ·have ha':(f.arr != s.now)=true:=by simpa using ha
   have e:DK s=(s,none):=by simp only [DK,hf,ha,if_false]
   rw [e] at key;rw [hf] at key;refine ((Hy s.dat hr).and key).mono fun n h again => ?_;obtain ⟨h,k⟩:=h;rw [hn] at h;simp only [BI.enc,DU] at h;have k:=k again;simp only [Bj,HM,vF,vE,Jt,Seg.enc,vA] at k;simp only [XK,Y9,Vn,HM,sSM,vv2,vf,wK,h,ha',k]
end Ab
namespace Ab
open Go
variable (zq:Bool)
theorem stp_M {W P1 P2:Ses→Prop} {μ:Ses→Nat} (hR:UF W P1 P2 μ) (g:Gh) (s:Ses) (t:Int) (h:W s) (ht:nxS s=some t) (f1 f2 f3:AI) (e00:List AV) (g00:Gh) (s00:Ses) :
  Ev fun n=>∀z again,S7 zq n (fI C n) (e00,HM zq f1 f2 f3 g00 s00 []) z (DO (nxS s),HM zq E0 E0 E0 g s []) again=again (DO (nxS (stS s t)),HM zq E0 E0 E0 (stT (g,s) t).1 (stS s t) []):=by
 have k0:=tx_M zq g {s with now:=t} (.row true (AI.ver f1) 15 (Be f1)) (.row true (AI.ver f2) 4 (Be f2)) (.row true (AI.ver f3) 4 (Be f3)) (hR.tx s t h ht);have k1:=rx_M zq hR.rx (g1T g s t) (ph1 s t) (.row true (AI.ver f1) 15 (Be f1)) (.row true (AI.ver f2) 4 (Be f2)) (.row true (AI.ver f3) 4 (Be f3)) (hR.p1 s t h ht);have k2:=ls_M zq hR.ls (g2T g s t) (ph2 s t) (.row true (AI.ver f1) 15 (Be f1)) (.row true (AI.ver f2) 4 (Be f2)) (.row true (AI.ver f3) 4 (Be f3)) (hR.p2 s t h ht);have hx:=hR.ex s t h ht;have k3:=ex_M zq (g3T g s t) (ph3 s t) (.row true (AI.ver f1) 15 (Be f1)) (.row true (AI.ver f2) 4 (Be f2)) (.row true (AI.ver f3) 4 (Be f3)) hx.ent hx.ack hx.pl hx.w;obtain ⟨n1,n2,n3⟩:=hR.nx _ (hR.st s t h ht).1;have k4:=nx_M zq (exG (g3T g s t) (ph3 s t)) (stS s t) (.row true (AI.ver f1) 15 (Be f1)) (.row true (AI.ver f2) 4 (Be f2)) (.row true (AI.ver f3) 4 (Be f3)) n1 n2 n3;refine (k0.and (k1.and (k2.and (k3.and (k4.and (Ev.ge 5)))))).mono fun n hh z again => ?_;obtain ⟨k0,k1,k2,k3,k4,hn⟩:=hh;have q:AH (fun p again'=>OX zq n (fI C n) (e00,HM zq f1 f2 f3 g00 s00 []) again p again') n ([.t (tI 0)],HM zq E0 E0 E0 g {s with now:=t} [])=again (DO (nxS (stS s t)),HM zq E0 E0 E0 (exG (g3T g s t) (ph3 s t)) (stS s t) []):=by
  refine Ti _ _ ([.t (tI 1)],HM zq E0 E0 E0 (g1T g s t) (ph1 s t) []) ([.t (tI 2)],HM zq E0 E0 E0 (g2T g s t) (ph2 s t) []) ([.t (tI 3)],HM zq E0 E0 E0 (g3T g s t) (ph3 s t) []) ([.t (tI 4)],HM zq E0 E0 E0 (exG (g3T g s t) (ph3 s t)) (stS s t) []) _ n hn (fun ag => ?_) (fun ag => ?_) (fun ag => ?_) (fun ag => ?_) (fun ag => ?_)
  ·have k0:=fun ag=>k0 ag;simp only [HM] at k0;simp only [OX,MZ,HM,sSM,vv2,(show (0:Int)=((0:Nat):Int) by omega),k0];rfl
  ·have k1:=fun ag=>k1 ag;simp only [HM] at k1;simp only [OX,MZ,HM,sSM,vv2,(show (1:Int)=((1:Nat):Int) by omega),k1];rfl
  ·have k2:=fun ag=>k2 ag;simp only [HM] at k2;simp only [OX,MZ,HM,sSM,vv2,(show (2:Int)=((2:Nat):Int) by omega),k2];rfl
  ·have k3:=fun ag=>k3 ag;simp only [HM] at k3;simp only [OX,MZ,HM,sSM,vv2,(show (3:Int)=((3:Nat):Int) by omega),k3];rfl
  ·have k4:=fun ag=>k4 ag;simp only [HM] at k4;simp only [OX,JM_43,HM,sSM,vv2,vf,(show ¬(4:Int)<4 by omega),k4,DO]
 rw [ht];simp only [HM] at q;simp only [S7,DO,Option.getD_some,vG,HM,sSM,vv2];exact q
theorem rn_M {W P1 P2:Ses→Prop} {μ:Ses→Nat} (hR:UF W P1 P2 μ) (g:Gh) (s:Ses) (f1 f2 f3:AI) (h:W s) :
  Ev fun n=>∀again,CM_8 zq n (fI C n) again ([.ptr (ix zq 6) 0],HM zq f1 f2 f3 g s [])=again ([],HM zq E0 E0 E0 (rnT (μ s) (g,s)).1 (Gp (μ s) s) []):=by
 have key:=B6 (R:=List Tree) (Z:=List AV×Heap→Option (List Tree)) (Q:=Gh×Ses) (B:=fun n z p again=>S7 zq n (fI C n) ([.ptr (ix zq 6) 0],HM zq f1 f2 f3 g s []) z p again)
  (s:=((DO (nxS s),HM zq E0 E0 E0 g s []):List AV×Heap)) (r:=rnT (μ s) (g,s))
  (fun z r=>z ([],HM zq E0 E0 E0 r.1 r.2 [])) (fun q:Gh×Ses=>((DO (nxS q.2),HM zq E0 E0 E0 q.1 q.2 []):List AV×Heap)) (fun q=>match nxS q.2 with
   |none =>.done q
   |some t =>.next (stT q t)) (fun q=>W q.2) (fun q=>μ q.2) (fun q=>rnT (μ q.2) q) (g,s) rfl h rfl
  (fun q hI => ?_) (fun q q' hI hs => ?_) (fun q hI => ?_)
 ·obtain ⟨n1,n2,n3⟩:=hR.nx s h;have k4:=nx_M zq g s (.row true (AI.ver f1) 15 (Be f1)) (.row true (AI.ver f2) 4 (Be f2)) (.row true (AI.ver f3) 4 (Be f3)) n1 n2 n3;refine (key.and k4).mono fun n hh again => ?_;obtain ⟨k,k4⟩:=hh;have k:=k again;rw [QU] at k;simp only [HM,DO] at k k4;simp only [tCM_8,XM_8,JM_46,HM,sSM,vv2,vf,k4,k]
 ·obtain ⟨g1,s1⟩:=q;simp only at hI ⊢;cases hn:nxS s1 with
  |none=>
   refine Ev.of fun n z again => ?_;simp only [S7,DO,vE,vF,HM,sSM,vv2,Rd.Aj]
  |some t=>
   have:=stp_M zq hR g1 s1 t hI hn f1 f2 f3 [.ptr (ix zq 6) 0] g s;rw [hn] at this;refine this.mono fun n h z again => ?_;simp only [Rd.AR];exact h z again
 ·cases hn:nxS q.2 with
  |none=>rw [hn] at hs;cases hs
  |some t=>
   rw [hn] at hs;cases hs;exact hR.st q.2 t hI hn
 ·cases hn:nxS q.2 with
  |none=>
   cases hm:μ q.2 with
   |zero=>rfl
   |succ m=>simp only [rnT,hn,Rd.fin]
  |some t=>
   obtain ⟨h1,h2⟩:=hR.st q.2 t hI hn;simp only [Rd.fin];cases hm:μ q.2 with
   |zero=>omega
   |succ m=>
    simp only [rnT,hn];exact Gq hR m (stT q t) h1 (by simp only [stT];omega)
end Ab
namespace Ab
open Go
theorem s26 {W P1 P2:Ses→Prop} {μ:Ses→Nat} (hR:UF W P1 P2 μ) (c:Con) (b e:Int) (d:ByteArray) (ps:List Int) (lim:Int) (dk:List Span) (hW:Hg c b e d ps lim dk=0→W (ini c b e d ps lim dk)) (hL:Hg c b e d ps lim dk=0→ -9223372036854775808≤(Gp (μ (ini c b e d ps lim dk)) (ini c b e d ps lim dk)).dat.lost+(Gp (μ (ini c b e d ps lim dk)) (ini c b e d ps lim dk)).rep.lost∧(Gp (μ (ini c b e d ps lim dk)) (ini c b e d ps lim dk)).dat.lost+(Gp (μ (ini c b e d ps lim dk)) (ini c b e d ps lim dk)).rep.lost<9223372036854775808) :
  AK C 26 (Gc c b e d ps lim dk) (if Hg c b e d ps lim dk=0 then outT (Gp (μ (ini c b e d ps lim dk)) (ini c b e d ps lim dk)) else [.bool false,tI 0,.bool false,tI 0,tI 0,tI 0,tI 0,tI (Hg c b e d ps lim dk)]):=by
 unfold Gc Hg at *;refine AK.of (fun n=>e26 n _ _ _ _ _ _ _ _ _ _ _ _ _) ?_;by_cases h1:1000<ps.length
 ·refine Ev.of fun n => ?_;simp only [h1,vv2,vf,wK,(show (1000:Int)<(ps.length:Int) by omega),(show ¬(4:Int)=0 by omega)]
 ·have h1':¬(1000:Int)<(ps.length:Int):=by omega
  by_cases h2:lim < -1
  ·refine Ev.of fun n => ?_;simp only [h1,h1',h2,vv2,vf,wK,(show ¬(2:Int)=0 by omega)]
  ·by_cases h3:A4 dk=0
   ·by_cases h4:(Ak c 0 d b e).2.2=0
    ·have hr:=K9 h4;simp only [h1,h2,h3,h4,if_false,ne_eq,not_true_eq_false,if_true] at hW hL ⊢;have hL:=hL trivial;have kr:=rn_M true hR ⟨0,0,0,[]⟩ (ini c b e d ps lim dk) (.row true 0 15 [(ini c b e d ps lim dk).snd.enc]) (.row true 0 4 [[tI c.rng,.sl 10 [],tI 0,tI 0]]) (.row true 0 4 [[tI 0,tI (-1),.sl 2 [],.str (ByteArray.mk #[])]]) (hW trivial);refine ((s67 dk).and ((J5 c 0 d b e).and ((s69 c.rng hr).and ((s70 0).and kr)))).mono fun n hh => ?_;obtain ⟨k1,k2,k3,k4,kr⟩:=hh;have k4':Qg 0=(⟨0,-1,[],ByteArray.mk #[]⟩,0):=rfl;rw [k4'] at k4;simp only [BK,h4,Con.enc,Snd.enc,Rcv.enc,xB,xX,vA] at k2 k4;simp only [h1',h3,k1,k2,k3,k4,vv2,vf,wK,bne_self_eq_false];refine (kr _).trans ?_;generalize Gp (μ (ini c b e d ps lim dk)) (ini c b e d ps lim dk)=fs at hL ⊢;generalize (rnT (μ (ini c b e d ps lim dk)) (⟨0,0,0,[]⟩,ini c b e d ps lim dk)).1=g;simp only [ZS,outT,HM,sSM,vf,wK,AM hL.1 hL.2]
    ·have h4':((Ak c 0 d b e).2.2 != 0)=true:=by simpa using h4
     refine ((s67 dk).and (J5 c 0 d b e)).mono fun n hh => ?_;obtain ⟨k1,k2⟩:=hh;simp only [BK,Con.enc,Snd.enc,xB,xX] at k2;simp only [h1,h1',h2,h3,h4,k1,k2,h4',vv2,vf,wK,bne_self_eq_false,ne_eq,not_true_eq_false]
   ·have h3':(A4 dk != 0)=true:=by simpa using h3
    refine (s67 dk).mono fun n k1 => ?_;simp only [h1,h1',h2,h3,k1,h3',vv2,vf,wK,ne_eq,not_false_eq_true,(show ¬(1:Int)=0 by omega)]
end Ab
namespace Ab
open Go Go.Proofs
theorem e15 (n:Nat) (a0:Int) (a1:Int) (a2:Int) (a3:Int) (a4:Int) (a5:Int) (a6:Int) (a7:Int) (a8:Int) (a9:ByteArray) (a10:List (List Tree)) (a11:Int) (a12:List (List Tree)):AA C (n+1) 15 [tI a0,tI a1,tI a2,tI a3,tI a4,tI a5,tI a6,tI a7,tI a8,Tree.str a9,Tree.sl 1 a10,tI a11,Tree.sl 2 a12]=
 Option.bind (AA C n 28 [tI a0,tI a1,tI a2,tI a3,tI a4,tI a5,tI a6,tI a7,tI a8,Tree.str a9,Tree.sl 1 a10,tI a11,Tree.sl 2 a12]) fun y13=>cnd (length y13 =
 (3:Nat)) (cnd (okL 9 y13 0) (cnd (okL 9 y13 1) (cnd (okI y13 2) (some [Tree.sl 9 (gL y13 0),Tree.sl 9 (gL y13 1),tI (gI y13 2)]) none) none) none) none:=by kernel_rfl
end Ab
namespace Ab
open Go
def Q0 (r:Int):Int:=if (if 1048576<r then 1048576 else r)>0 then (if 1048576<r then 1048576 else r) else 0
def Qo (p:Par):Bool:=decide (120<p.d.size∨(60<p.ps.length∧p.ps.length≤1000)∨20<p.dk.length∨p.e>w64 (p.b+w64 (40*w64 (w64 (2*Q0 p.c.rng)+1))))
def Gb (p:Par):List Tree:=Gc p.c p.b p.e p.d p.ps p.lim p.dk
def Fu (p:Par):Int:=Hg p.c p.b p.e p.d p.ps p.lim p.dk
theorem s11 (p:Par):AK C 11 (Gb p) [.bool (Qo p)]:=by
 unfold Gb Gc;refine AK.of (fun n=>e11 n _ _ _ _ _ _ _ _ _ _ _ _ _) (Ev.of fun n => ?_);unfold Qo;simp only [length_map];have e:(if (if (1048576:Int)<p.c.rng then (1048576:Int) else p.c.rng)>(0:Int) then (if (1048576:Int)<p.c.rng then (1048576:Int) else p.c.rng) else (0:Int))=Q0 p.c.rng:=rfl;rw [e];by_cases h1:120<p.d.size
 ·simp only [vv,h1,(show (p.d.size:Int)>120 by omega)]
 ·by_cases h2:60<p.ps.length
  ·by_cases h3:p.ps.length≤1000
   ·simp only [vv,h1,h2,h3,(show ¬(120:Int)<(p.d.size:Int) by omega),(show (60:Int)<(p.ps.length:Int) by omega),(show (p.ps.length:Int)≤1000 by omega)]
   ·by_cases h4:20<p.dk.length
    ·simp only [vv,h1,h2,h3,h4,(show ¬(120:Int)<(p.d.size:Int) by omega),(show (60:Int)<(p.ps.length:Int) by omega),(show ¬(p.ps.length:Int)≤1000 by omega),(show (20:Int)<(p.dk.length:Int) by omega)]
    ·simp only [vv,h1,h2,h3,h4,(show ¬(120:Int)<(p.d.size:Int) by omega),(show (60:Int)<(p.ps.length:Int) by omega),(show ¬(p.ps.length:Int)≤1000 by omega),(show ¬(20:Int)<(p.dk.length:Int) by omega)]
  ·by_cases h4:20<p.dk.length
   ·simp only [vv,h1,h2,h4,(show ¬(120:Int)<(p.d.size:Int) by omega),(show ¬(60:Int)<(p.ps.length:Int) by omega),(show (20:Int)<(p.dk.length:Int) by omega)]
   ·simp only [vv,h1,h2,h4,(show ¬(120:Int)<(p.d.size:Int) by omega),(show ¬(60:Int)<(p.ps.length:Int) by omega),(show ¬(20:Int)<(p.dk.length:Int) by omega)]
def YG (p:Par):List Tree:=if Fu p=0 then outT (G3 p) else [.bool false,tI 0,.bool false,tI 0,tI 0,tI 0,tI 0,tI (Fu p)]
theorem Ef {p:Par} (h:Fu p=0):p.ps.length≤1000∧ -1≤p.lim∧A4 p.dk=0∧(Ak p.c 0 p.d p.b p.e).2.2=0:=by
 unfold Fu Hg at h;split at h
 ·omega
 ·split at h
  ·omega
  ·split at h
   ·omega
   ·rename_i h1 h2 h3;exact ⟨by omega,by omega,by omega,h⟩
theorem SX {p:Par} (hp:POk p) (h:Fu p=0):0≤(G3 p).dat.lost∧0≤(G3 p).rep.lost∧(G3 p).dat.lost+(G3 p).rep.lost≤(G3 p).entered∧(G3 p).entered≤5000:=by have hw:=(Tu hp (Ef h).2.2.2).2.1.i;have:=hw.gd.lost;have:=hw.gr.lost;have:=hw.c1;have:=hw.small hp;omega
theorem s26P (p:Par) (hp:Fu p=0→POk p):AK C 26 (Gb p) (YG p):=by
 by_cases h:Fu p=0
 ·have hok:=hp h;have hl:=SX hok h;have:=s26 (runP hok) p.c p.b p.e p.d p.ps p.lim p.dk (fun _=>Qm hok (Ef h).2.2.2) (fun _=>by show _≤(G3 p).dat.lost+(G3 p).rep.lost∧(G3 p).dat.lost+(G3 p).rep.lost<_;omega);exact this
 ·have h0:¬Hg p.c p.b p.e p.d p.ps p.lim p.dk=0:=h;have:=s26 (W:=fun _=>False) (P1:=fun _=>False) (P2:=fun _=>False) (μ:=fun _=>0) ⟨⟨fun _ h=>h.elim,fun _ _ _ h=>h.elim⟩,⟨fun _ h=>h.elim,fun _ h=>h.elim,fun _ _ _ h=>h.elim⟩,fun _ h=>h.elim,fun _ _ h=>h.elim,fun _ _ h=>h.elim,fun _ _ h=>h.elim,fun _ _ h=>h.elim,fun _ _ h=>h.elim⟩ p.c p.b p.e p.d p.ps p.lim p.dk (fun q=>(h0 q).elim) (fun q=>(h0 q).elim);rw [if_neg h0] at this;unfold YG;rw [if_neg h];exact this
theorem Qa {p:Par} (hg:Qo p=false) (hpk:∀x∈p.ps,-9223372036854775808≤x∧x≤9223372036854775807) (h:Fu p=0):POk p:=by
 obtain ⟨h1,h2,h3,h4⟩:=Ef h;have hg:=of_decide_eq_false hg;have hS:=h4;unfold Ak at hS;split at hS
 ·simp [Ba] at hS
 rename_i g1;have g1:Dn p.c=0:=by simpa using g1
 rw [if_neg (by omega)] at hS;split at hS
 ·simp [Ba] at hS
 rw [if_neg (by omega)] at hS;split at hS
 ·simp [Ba] at hS
 rename_i g2 g3;obtain ⟨c1,c2⟩:=Dh g1;unfold Ft at c1;have hcl:Q0 p.c.rng=p.c.rng:=by have e:(if (1048576:Int)<p.c.rng then (1048576:Int) else p.c.rng)=p.c.rng:=if_neg (by omega);unfold Q0;rw [e,if_pos (by omega)]
 rw [hcl,AM (x:=2*p.c.rng) (by omega) (by omega),AM (x:=2*p.c.rng+1) (by omega) (by omega),AM (x:=40*(2*p.c.rng+1)) (by omega) (by omega),AM (x:=p.b+40*(2*p.c.rng+1)) (by omega) (by omega)] at hg;refine ⟨g1,by omega,by omega,hpk,h1,fun k k1 k2 =>.inl ?_⟩;have hk:k≤40:=by refine Classical.byContradiction fun q => ?_;have:40*(2*p.c.rng+1)≤(k-1)*(2*p.c.rng+1):=Int.mul_le_mul_of_nonneg_right (by omega) (by omega);omega
 have:((p.d.size:Int)+1)*k≤121*k:=Int.mul_le_mul_of_nonneg_right (by omega) (by omega);omega
end Ab
namespace Ab
open Go
def exC:Con:=⟨0,1,10,60,4,5,1⟩
def exD:ByteArray:=⟨(Go.Lib.repeatL [120] 20).toArray⟩
def ex1:Par:=⟨exC,10,36,exD,[],-1,[]⟩
def ex2:Par:=⟨exC,10,36,exD,[7,0,0,0,0,0],1,[]⟩
def ex3:Par:=⟨exC,10,36,exD,[0,0,7,0,0,0],1,[]⟩
theorem ex1_out:YG ex1=[.bool true,tI 24,.bool true,tI 29,tI 19,tI 3,tI 0,tI 0]:=by kernel_rfl
theorem ex2_out:YG ex2=[.bool true,tI 40,.bool true,tI 45,tI 35,tI 5,tI 1,tI 0]:=by kernel_rfl
theorem ex3_out:YG ex3=[.bool true,tI 24,.bool true,tI 43,tI 33,tI 5,tI 1,tI 0]:=by kernel_rfl
theorem Tw:(∀h:Fu ex1=0,POk ex1)∧(∀h:Fu ex2=0,POk ex2)∧(∀h:Fu ex3=0,POk ex3):=
 ⟨Qa (by decide +kernel) (by decide),Qa (by decide +kernel) (by decide),Qa (by decide +kernel) (by decide)⟩
theorem s25x:AK C 25 [.str (ByteArray.mk #[120]),tI 20] [.str exD]:=AK.of (g:=fun _=>some [.str exD]) (fun n=>by kernel_rfl) (Ev.of fun _=>rfl)
theorem s12:AK C 12 [] [.bool true]:=by refine AK.of (fun n=>e12 n) ?_;have a:=s26P ex1 Tw.1;have b:=s26P ex2 Tw.2.1;have c:=s26P ex3 Tw.2.2;rw [ex1_out] at a;rw [ex2_out] at b;rw [ex3_out] at c;refine (s25x.and (a.and (b.and c))).mono fun n h => ?_;obtain ⟨h1,h2,h3,h4⟩:=h;simp only [Gb,Gc,ex1,ex2,ex3,exC,Con.enc,Aw,vA,xN,xB,xX] at h2 h3 h4;simp only [h1,h2,h3,h4,vv,vf,wK,J12_1,J12_2,beq_self_eq_true,Bool.and_self]
end Ab
namespace Ab
open Go
theorem s28 {W P1 P2:Ses→Prop} {μ:Ses→Nat} (hR:UF W P1 P2 μ) (c:Con) (b e:Int) (d:ByteArray) (ps:List Int) (lim:Int) (dk:List Span) (hW:Hg c b e d ps lim dk=0→W (ini c b e d ps lim dk)) :
  AK C 28 (Gc c b e d ps lim dk) (if Hg c b e d ps lim dk=0 then Ow (Gp (μ (ini c b e d ps lim dk)) (ini c b e d ps lim dk)) else [.sl 9 [],.sl 9 [],tI (Hg c b e d ps lim dk)]):=by
 unfold Gc Hg at *;refine AK.of (fun n=>e28 n _ _ _ _ _ _ _ _ _ _ _ _ _) ?_;by_cases h1:1000<ps.length
 ·refine Ev.of fun n => ?_;simp only [h1,vv2,vf,wK,(show (1000:Int)<(ps.length:Int) by omega),(show ¬(4:Int)=0 by omega)]
 ·have h1':¬(1000:Int)<(ps.length:Int):=by omega
  by_cases h2:lim < -1
  ·refine Ev.of fun n => ?_;simp only [h1,h1',h2,vv2,vf,wK,(show ¬(2:Int)=0 by omega)]
  ·by_cases h3:A4 dk=0
   ·by_cases h4:(Ak c 0 d b e).2.2=0
    ·have hr:=K9 h4;simp only [h1,h2,h3,h4,if_false,ne_eq,not_true_eq_false,if_true] at hW ⊢;have kr:=rn_M false hR ⟨0,0,0,[]⟩ (ini c b e d ps lim dk) (.row true 0 15 [(ini c b e d ps lim dk).snd.enc]) (.row true 0 4 [[tI c.rng,.sl 10 [],tI 0,tI 0]]) (.row true 0 4 [[tI 0,tI (-1),.sl 2 [],.str (ByteArray.mk #[])]]) (hW trivial);refine ((s67 dk).and ((J5 c 0 d b e).and ((s69 c.rng hr).and ((s70 0).and kr)))).mono fun n hh => ?_;obtain ⟨k1,k2,k3,k4,kr⟩:=hh;have k4':Qg 0=(⟨0,-1,[],ByteArray.mk #[]⟩,0):=rfl;rw [k4'] at k4;simp only [BK,h4,Con.enc,Snd.enc,Rcv.enc,xB,xX,vA] at k2 k4;simp only [h1',h3,k1,k2,k3,k4,vv2,vf,wK,bne_self_eq_false];refine (kr _).trans ?_;generalize Gp (μ (ini c b e d ps lim dk)) (ini c b e d ps lim dk)=fs;generalize (rnT (μ (ini c b e d ps lim dk)) (⟨0,0,0,[]⟩,ini c b e d ps lim dk)).1=g;simp only [ZR,Ow,HM,sSM,vv2,reduceCtorEq];rw [vD (by simp),vD (by simp)]
    ·have h4':((Ak c 0 d b e).2.2 != 0)=true:=by simpa using h4
     refine ((s67 dk).and (J5 c 0 d b e)).mono fun n hh => ?_;obtain ⟨k1,k2⟩:=hh;simp only [BK,Con.enc,Snd.enc,xB,xX] at k2;simp only [h1,h1',h2,h3,h4,k1,k2,h4',vv2,vf,wK,bne_self_eq_false,ne_eq,not_true_eq_false]
   ·have h3':(A4 dk != 0)=true:=by simpa using h3
    refine (s67 dk).mono fun n k1 => ?_;simp only [h1,h1',h2,h3,k1,h3',vv2,vf,wK,ne_eq,not_false_eq_true,(show ¬(1:Int)=0 by omega)]
end Ab
namespace Ab
open Go
def Qp (p:Par):List Tree:=if Fu p=0 then Ow (G3 p) else [.sl 9 [],.sl 9 [],tI (Fu p)]
theorem s15P (p:Par) (hp:Fu p=0→POk p):AK C 15 (Gb p) (Qp p):=by
 have k:AK C 28 (Gb p) (Qp p):=by
  by_cases h:Fu p=0
  ·have hok:=hp h;exact s28 (runP hok) p.c p.b p.e p.d p.ps p.lim p.dk (fun _=>Qm hok (Ef h).2.2.2)
  ·have h0:¬Hg p.c p.b p.e p.d p.ps p.lim p.dk=0:=h;have:=s28 (W:=fun _=>False) (P1:=fun _=>False) (P2:=fun _=>False) (μ:=fun _=>0) ⟨⟨fun _ h=>h.elim,fun _ _ _ h=>h.elim⟩,⟨fun _ h=>h.elim,fun _ h=>h.elim,fun _ _ _ h=>h.elim⟩,fun _ h=>h.elim,fun _ _ h=>h.elim,fun _ _ h=>h.elim,fun _ _ h=>h.elim,fun _ _ h=>h.elim,fun _ _ h=>h.elim⟩ p.c p.b p.e p.d p.ps p.lim p.dk (fun q=>(h0 q).elim);rw [if_neg h0] at this;unfold Qp;rw [if_neg h];exact this
 by_cases h0:Fu p=0
 ·have e:Qp p=Ow (G3 p):=if_pos h0;rw [e] at k ⊢;unfold Ow at k ⊢;unfold Gb Gc at k ⊢;refine AK.of (fun n=>e15 n _ _ _ _ _ _ _ _ _ _ _ _ _) ?_;refine k.mono fun n h => ?_;simp only [Con.enc,xB,xX] at h;simp only [h,vv,wK]
 ·have e:Qp p=[.sl 9 [],.sl 9 [],tI (Fu p)]:=if_neg h0;rw [e] at k ⊢;unfold Gb Gc at k ⊢;refine AK.of (fun n=>e15 n _ _ _ _ _ _ _ _ _ _ _ _ _) ?_;refine k.mono fun n h => ?_;simp only [Con.enc,xB,xX] at h;simp only [h,vv,wK]
end Ab
namespace Ab
open Go
def DV (c:Con) (n:Int):Int:=E4 c.rate n+c.loss*(2*c.rng+1+tk c.rate 16)
theorem FQ {c:Con} {n:Int} (hc:Dn c=0) (hn:1≤n∧n≤65536):0≤DV c n∧DV c n≤40000000∧0≤c.loss*(2*c.rng+1+tk c.rate 16)∧c.loss*(2*c.rng+1+tk c.rate 16)≤16*2097200:=by have h:=CG hc;have ht:=F9 (r:=c.rate) (n:=16) h.2.1 (by omega);have hp:=KG (r:=c.rate) (n:=n) h.2.1 (by omega);have h1:c.loss*(2*c.rng+1+tk c.rate 16)≤16*2097200:=Int.mul_le_mul (by omega) (by omega) (by omega) (by omega);have h2:0≤c.loss*(2*c.rng+1+tk c.rate 16):=Int.mul_nonneg (by omega) (by omega);unfold DV;omega
theorem s38 (c:Con) (n:Int) (hc:Dn c=0) (hn:1≤n∧n≤65536):AK C 38 (c.enc++[tI n]) [tI (DV c n)]:=by have h:=CG hc;have ht:=F9 (r:=c.rate) (n:=16) h.2.1 (by omega);have hp:=KG (r:=c.rate) (n:=n) h.2.1 (by omega);have hd:=FQ hc hn;refine AK.of (fun m=>e38 m _ _ _ _ _ _ _ _) ?_;refine ((s33 c n hc hn).and (s58 c 16 hc (by omega))).mono fun m h => ?_;obtain ⟨h1,h2⟩:=h;simp only [Con.enc,xB,xX] at h1 h2;simp only [h1,h2,vv,vf,AM (x:=2*c.rng) (by omega) (by omega),AM (x:=2*c.rng+1) (by omega) (by omega),AM (x:=2*c.rng+1+tk c.rate 16) (by omega) (by omega),AM (x:=c.loss*(2*c.rng+1+tk c.rate 16)) (by omega) (by omega),AM (x:=E4 c.rate n+c.loss*(2*c.rng+1+tk c.rate 16)) (by omega) (by omega),DV]
def KZ (c:Con) (t n:Int):Bool:=decide (c.start≤t∧t≤c.fin-DV c n)
theorem s39 (c:Con) (t n:Int) (hc:Dn c=0) (hn:1≤n∧n≤65536):AK C 39 (c.enc++[tI t,tI n]) [.bool (KZ c t n)]:=by have h:=CG hc;have hd:=FQ hc hn;refine AK.of (fun m=>e39 m _ _ _ _ _ _ _ _ _) ?_;refine (s38 c n hc hn).mono fun m h1 => ?_;simp only [Con.enc,xB,xX] at h1;simp only [h1,vv,vf,AM (x:=c.fin-DV c n) (by omega) (by omega),KZ];by_cases a:c.start≤t<;>simp [a,AB]
def ET (c:Con) (t n:Int):Int:=if Hi c n≠0 then Hi c n else if KZ c t n=true then 0 else 16
def FP (c:Con) (t n k:Int):Int:=if ET c t n=0 then t+DV c n+k*c.rng else 0
theorem LL {c:Con} {t n:Int} (h:ET c t n=0):Hi c n=0∧KZ c t n=true:=by
 unfold ET at h;split at h
 ·omega
 ·split at h
  ·exact ⟨by omega,by assumption⟩
  ·omega
theorem KY {c:Con} {t n:Int} (hc:Dn c=0) (h:KZ c t n=true) (hn:1≤n∧n≤65536):c.start≤t∧t+DV c n≤c.fin∧0≤t:=by have hh:=CG hc;have:=of_decide_eq_true h;omega
theorem s59 (c:Con) (t n k:Int) (hk:0≤k∧k≤2):AK C 59 (c.enc++[tI t,tI n,tI k]) [tI (FP c t n k),tI (ET c t n)]:=by
 refine AK.of (fun m=>e59 m _ _ _ _ _ _ _ _ _ _) ?_;by_cases h0:Hi c n=0
 ·obtain ⟨a1,a2⟩:=FZ h0;have hc:=CG a1;have hd:=FQ a1 a2;refine ((s32 c n).and ((s39 c t n a1 a2).and (s38 c n a1 a2))).mono fun m h => ?_;obtain ⟨h1,h2,h3⟩:=h;simp only [Con.enc,xB,xX] at h1 h2 h3;cases hf:KZ c t n with
  |true=>
   have hn:=KY a1 hf a2;have hkr:0≤k*c.rng∧k*c.rng≤2*1048576:=⟨Int.mul_nonneg (by omega) (by omega),Int.mul_le_mul (by omega) (by omega) (by omega) (by omega)⟩
   have e0:ET c t n=0:=by unfold ET;rw [if_neg (by omega),if_pos hf]
   rw [hf] at h2;simp only [h1,h2,h3,vv,vf,h0,bne_self_eq_false,AM (x:=t+DV c n) (by omega) (by omega),AM (x:=k*c.rng) (by omega) (by omega),AM (x:=t+DV c n+k*c.rng) (by omega) (by omega),e0,FP]
  |false=>
   rw [hf] at h2;have e0:ET c t n=16:=by unfold ET;rw [if_neg (by omega),if_neg (by rw [hf];simp)]
   simp only [h1,h2,vv,vf,h0,bne_self_eq_false,e0,FP,(show ¬(16:Int)=0 by omega)]
 ·refine (s32 c n).mono fun m h1 => ?_;simp only [Con.enc,xB,xX] at h1;have hne:(Hi c n != 0)=true:=by simpa using h0
  have e0:ET c t n=Hi c n:=by unfold ET;rw [if_pos h0]
  simp only [h1,vv,vf,hne,e0,FP,h0]
theorem s34 (c:Con) (t n:Int):AK C 34 (c.enc++[tI t,tI n]) [tI (FP c t n 2),tI (ET c t n)]:=by refine AK.of (fun m=>e34 m _ _ _ _ _ _ _ _ _) ?_;refine (s59 c t n 2 (by omega)).mono fun m h => ?_;simp only [Con.enc,xB,xX] at h;simp only [h,vv,vf,wK]
theorem s35 (c:Con) (t n:Int):AK C 35 (c.enc++[tI t,tI n]) [tI (FP c t n 1),tI (ET c t n)]:=by refine AK.of (fun m=>e35 m _ _ _ _ _ _ _ _ _) ?_;refine (s59 c t n 1 (by omega)).mono fun m h => ?_;simp only [Con.enc,xB,xX] at h;simp only [h,vv,vf,wK]
def R3 (c:Con) (t n:Int):List Tree:=if ET c t n=0 then [.bool true,tI (t+DV c n+c.rng),.bool true,tI (t+DV c n+2*c.rng),tI (t+DV c n),tI ((n+15) / 16+3*c.loss+2),tI c.loss,tI 0] else [.bool false,tI 0,.bool false,tI 0,tI 0,tI 0,tI 0,tI (ET c t n)]
theorem Ur {c:Con} {n:Int} (hc:Dn c=0) (hn:1≤n∧n≤65536):w64 (w64 (w64 (tdiv (w64 (w64 (n+16)-1)) 16)+w64 (3*c.loss))+2)=(n+15) / 16+3*c.loss+2:=by
 have h:=CG hc;rw [AM (x:=n+16) (by omega) (by omega),AM (x:=n+16-1) (by omega) (by omega),Int.tdiv_eq_ediv_of_nonneg (by omega),show n+16-1=n+15 by omega,AM (x:=3*c.loss) (by omega) (by omega)];have h1:(n+15) / 16≤4097:=by omega
 have h2:0≤(n+15) / 16:=by omega
 rw [AM (x:=(n+15) / 16) (by omega) (by omega),AM (x:=(n+15) / 16+3*c.loss) (by omega) (by omega),AM (x:=(n+15) / 16+3*c.loss+2) (by omega) (by omega)]
theorem s19 (c:Con) (t n:Int):AK C 19 (c.enc++[tI t,tI n]) (R3 c t n):=by
 refine AK.of (fun m=>e19 m _ _ _ _ _ _ _ _ _) ?_;refine ((s34 c t n).and (s35 c t n)).mono fun m h => ?_;obtain ⟨h1,h2⟩:=h;simp only [Con.enc,xB,xX] at h1 h2;by_cases h0:ET c t n=0
 ·obtain ⟨a0,hf⟩:=LL h0;obtain ⟨a1,a2⟩:=FZ a0;have hc:=CG a1;have hd:=FQ a1 a2;have hn:=KY a1 hf a2;have e1:FP c t n 1=t+DV c n+c.rng:=by unfold FP;rw [if_pos h0];omega
  have e2:FP c t n 2=t+DV c n+2*c.rng:=by unfold FP;rw [if_pos h0]
  simp only [h1,h2,vv,vf,wK,h0,e1,e2,bne_self_eq_false,Ur a1 a2,(show t+DV c n+c.rng-c.rng=t+DV c n by omega),AM (x:=t+DV c n) (by omega) (by omega),R3]
 ·have hne:(ET c t n != 0)=true:=by simpa using h0
  simp only [h1,h2,vv,vf,wK,hne,R3,h0]
end Ab
namespace Ab
open Go
theorem s86 (c:Con) (n:Int):AK C 86 (c.enc++[tI n]) [tI (Hi c n)]:=by
 refine AK.of (fun m=>e86 m _ _ _ _ _ _ _ _) ?_;refine (s72 c).mono fun m h1 => ?_;simp only [Con.enc] at h1;simp only [h1,vv,vf,Hi];by_cases a:Dn c=0
 ·by_cases b:1≤n
  ·by_cases d:n≤65536
   ·simp [a,b,d,AB,(show ¬n<1 by omega),(show ¬65536<n by omega)]
   ·simp [a,b,d,AB,(show ¬n<1 by omega),(show 65536<n by omega)]
  ·simp [a,b,AB,(show n<1 by omega)]
 ·simp [a,AB]
theorem s112 (c:Con) (n:Int) (hc:Dn c=0) (hn:1≤n∧n≤65536):AK C 112 (c.enc++[tI n]) [tI (E4 c.rate n)]:=by
 have h:=CG hc;have ht:=F9 (r:=c.rate) (n:=16) h.2.1 (by omega);have hp:=KG (r:=c.rate) (n:=n) h.2.1 (by omega);have e1:wG n 16=n % 16:=Int.tmod_eq_emod_of_nonneg (by omega);have e2:tdiv n 16=n / 16:=Int.tdiv_eq_ediv_of_nonneg (by omega);refine AK.of (fun m=>e112 m _ _ _ _ _ _ _ _) ?_;by_cases h0:0<n % 16
 ·have ht2:=F9 (r:=c.rate) (n:=n % 16) h.2.1 (by omega);have ep:E4 c.rate n=n / 16*tk c.rate 16+tk c.rate (n % 16):=by unfold E4;rw [if_pos h0]
  refine ((s113 c 16 hc (by omega)).and (s113 c (n % 16) hc (by omega))).mono fun m h => ?_;obtain ⟨h1,h2⟩:=h;simp only [Con.enc,xB,xX] at h1 h2;simp only [h1,h2,e1,e2,vv,vf,h0,AM (x:=n / 16) (by omega) (by omega),AM (x:=n / 16*tk c.rate 16) (by omega) (by omega),AM (x:=n / 16*tk c.rate 16+tk c.rate (n % 16)) (by omega) (by omega),ep]
 ·have ep:E4 c.rate n=n / 16*tk c.rate 16:=by unfold E4;rw [if_neg h0];omega
  refine (s113 c 16 hc (by omega)).mono fun m h1 => ?_;simp only [Con.enc,xB,xX] at h1;simp only [h1,e1,e2,vv,vf,h0,AM (x:=n / 16) (by omega) (by omega),AM (x:=n / 16*tk c.rate 16) (by omega) (by omega),ep]
theorem s88 (c:Con) (n:Int) (hc:Dn c=0) (hn:1≤n∧n≤65536):AK C 88 (c.enc++[tI n]) [tI (DV c n)]:=by have h:=CG hc;have ht:=F9 (r:=c.rate) (n:=16) h.2.1 (by omega);have hp:=KG (r:=c.rate) (n:=n) h.2.1 (by omega);have hd:=FQ hc hn;refine AK.of (fun m=>e88 m _ _ _ _ _ _ _ _) ?_;refine ((s112 c n hc hn).and (s113 c 16 hc (by omega))).mono fun m h => ?_;obtain ⟨h1,h2⟩:=h;simp only [Con.enc,xB,xX] at h1 h2;simp only [h1,h2,vv,vf,AM (x:=2*c.rng) (by omega) (by omega),AM (x:=2*c.rng+1) (by omega) (by omega),AM (x:=2*c.rng+1+tk c.rate 16) (by omega) (by omega),AM (x:=c.loss*(2*c.rng+1+tk c.rate 16)) (by omega) (by omega),AM (x:=E4 c.rate n+c.loss*(2*c.rng+1+tk c.rate 16)) (by omega) (by omega),DV]
theorem s87 (c:Con) (t n:Int):AK C 87 (c.enc++[tI t,tI n]) [.bool (decide (Hi c n=0)&&KZ c t n)]:=by
 refine AK.of (fun m=>e87 m _ _ _ _ _ _ _ _ _) ?_;by_cases h0:Hi c n=0
 ·obtain ⟨a1,a2⟩:=FZ h0;have hh:=CG a1;have hd:=FQ a1 a2;refine ((s86 c n).and (s88 c n a1 a2)).mono fun m h => ?_;obtain ⟨h1,h2⟩:=h;simp only [Con.enc,xB,xX] at h1 h2;by_cases b1:c.start≤t
  ·by_cases b2:t≤c.fin
   ·have ef:KZ c t n=decide (t+DV c n≤c.fin):=by unfold KZ;rw [Bool.eq_iff_iff,decide_eq_true_eq,decide_eq_true_eq];omega
    simp only [h1,h2,vv,vf,h0,ef,b1,b2,beq_self_eq_true,Bool.true_and,AM (x:=t+DV c n) (by omega) (by omega)]
   ·have ef:KZ c t n=false:=by unfold KZ;rw [decide_eq_false_iff_not];omega
    simp only [h1,vv,vf,h0,ef,b1,b2,beq_self_eq_true,Bool.and_false]
  ·have ef:KZ c t n=false:=by unfold KZ;rw [decide_eq_false_iff_not];omega
   simp only [h1,vv,vf,h0,ef,b1,beq_self_eq_true,Bool.and_false]
 ·refine (s86 c n).mono fun m h1 => ?_;simp only [Con.enc,xB,xX] at h1;have hne:(Hi c n==0)=false:=by simpa using h0
  simp only [h1,vv,vf,hne,h0,Bool.false_and]
theorem s60 (c:Con) (t n:Int):AK C 60 (c.enc++[tI t,tI n]) [tI (FP c t n 1),tI (ET c t n)]:=by
 refine AK.of (fun m=>e60 m _ _ _ _ _ _ _ _ _) ?_;by_cases h0:Hi c n=0
 ·obtain ⟨a1,a2⟩:=FZ h0;have hc:=CG a1;have hd:=FQ a1 a2;refine ((s86 c n).and ((s87 c t n).and (s88 c n a1 a2))).mono fun m h => ?_;obtain ⟨h1,h2,h3⟩:=h;simp only [Con.enc,xB,xX] at h1 h2 h3;cases hf:KZ c t n with
  |true=>
   have hn:=KY a1 hf a2;have e0:ET c t n=0:=by unfold ET;rw [if_neg (by omega),if_pos hf]
   have e1:FP c t n 1=t+DV c n+c.rng:=by unfold FP;rw [if_pos e0];omega
   simp only [hf,h0,decide_true,Bool.true_and] at h2;simp only [h1,h2,h3,vv,vf,h0,bne_self_eq_false,AM (x:=t+DV c n) (by omega) (by omega),AM (x:=t+DV c n+c.rng) (by omega) (by omega),e0,e1]
  |false=>
   simp only [hf,Bool.and_false] at h2;have e0:ET c t n=16:=by unfold ET;rw [if_neg (by omega),if_neg (by rw [hf];simp)]
   simp only [h1,h2,vv,vf,h0,bne_self_eq_false,e0,FP,(show ¬(16:Int)=0 by omega)]
 ·refine (s86 c n).mono fun m h1 => ?_;simp only [Con.enc,xB,xX] at h1;have hne:(Hi c n != 0)=true:=by simpa using h0
  have e0:ET c t n=Hi c n:=by unfold ET;rw [if_pos h0]
  simp only [h1,vv,vf,hne,e0,FP,h0]
theorem s36 (c:Con) (t n:Int):AK C 36 (c.enc++[tI t,tI n]) [tI (FP c t n 2),tI (ET c t n)]:=by
 refine AK.of (fun m=>e36 m _ _ _ _ _ _ _ _ _) ?_;refine (s60 c t n).mono fun m h1 => ?_;simp only [Con.enc,xB,xX] at h1;by_cases h0:ET c t n=0
 ·obtain ⟨a0,hf⟩:=LL h0;obtain ⟨a1,a2⟩:=FZ a0;have hc:=CG a1;have hd:=FQ a1 a2;have hn:=KY a1 hf a2;have e1:FP c t n 1=t+DV c n+c.rng:=by unfold FP;rw [if_pos h0];omega
  have e2:FP c t n 2=t+DV c n+c.rng+c.rng:=by unfold FP;rw [if_pos h0];omega
  simp only [h1,vv,vf,wK,h0,e1,e2,bne_self_eq_false,AM (x:=t+DV c n+c.rng+c.rng) (by omega) (by omega)]
 ·have hne:(ET c t n != 0)=true:=by simpa using h0
  have e2:FP c t n 2=0:=by unfold FP;rw [if_neg h0]
  simp only [h1,vv,vf,wK,hne,e2]
theorem s20 (c:Con) (t n:Int):AK C 20 (c.enc++[tI t,tI n]) (R3 c t n):=by
 refine AK.of (fun m=>e20 m _ _ _ _ _ _ _ _ _) ?_;refine (s36 c t n).mono fun m h1 => ?_;simp only [Con.enc,xB,xX] at h1;by_cases h0:ET c t n=0
 ·obtain ⟨a0,hf⟩:=LL h0;obtain ⟨a1,a2⟩:=FZ a0;have hc:=CG a1;have hd:=FQ a1 a2;have hn:=KY a1 hf a2;have e2:FP c t n 2=t+DV c n+2*c.rng:=by unfold FP;rw [if_pos h0]
  simp only [h1,vv,vf,wK,h0,e2,bne_self_eq_false,Ur a1 a2,AM (x:=2*c.rng) (by omega) (by omega),(show t+DV c n+2*c.rng-c.rng=t+DV c n+c.rng by omega),(show t+DV c n+2*c.rng-2*c.rng=t+DV c n by omega),AM (x:=t+DV c n+c.rng) (by omega) (by omega),AM (x:=t+DV c n) (by omega) (by omega),R3]
 ·have hne:(ET c t n != 0)=true:=by simpa using h0
  simp only [h1,vv,vf,wK,hne,R3,h0]
end Ab
namespace Ab
open Go
structure Rw where
 snd:Snd
 rcv:Rcv
 dat:BI
 rep:BI
 v0:Nat
 p1:Nat
 p2:Nat
 picks:List Int
 limit:Int
 dark:List Span
 entered:Int
 dist:Int
 rcvd:Bool
 arrive:Int
 kno:Bool
 knoAt:Int
 v4:Nat
 n4:Nat
 v5:Nat
 n5:Nat
def rwO (g:Gh) (s:Ses):Rw:=⟨s.snd,s.rcv,s.dat,s.rep,g.v0,g.pre.length,s.pend.length,s.picks,s.limit,s.dark,s.entered,s.dist,s.rcvd,s.arrive,s.kno,s.knoAt,g.v4,s.sent.length,g.v5,s.told.length⟩
def Tf (l:List Int):Option Int:=l.foldl (fun o x=>C1 o (some x)) none
def GB:Option Int→List Int
 |none=>[]
 |some a=>[a]
theorem minL_nx (a b c d:Option Int):Tf (((GB a++GB b)++GB c)++GB d)=C1 (C1 (C1 a b) c) d:=by cases a<;>cases b<;>cases c<;>cases d<;>rfl
def chB (c:BI):AI :=.box [.t (tI c.rng),.t (.sl 10 (c.frames.map Frame.enc)),.t (tI c.sent),.t (tI c.lost)]
theorem Xg (s:Ses) (x:Seg):rxF (CM s x)=CM (rxF s) x:=by
 unfold rxF;by_cases h:s.rcvd=false∧Ay s.rcv=true
 ·rw [if_pos h,if_pos (by exact h)];rfl
 ·rw [if_neg h,if_neg (by exact h)]
theorem Ro:∀(l:List Seg) (s:Ses),rxF (l.foldl CM s)=l.foldl CM (rxF s)
 |[],s=>rfl
 |x::l,s=>by rw [wU,Ro l,wU,Xg]
theorem Xe (s:Ses) (x:Seg):rxX s x=(DX s.rcv x).2.1.foldl CM (rxF {s with rcv:=(DX s.rcv x).1}):=by unfold rxX rxH;rw [Ro]
structure RxQ (P:Ses→Prop):Prop where
 p:RxP P
 rv:∀s,P s→s.rcvd=Ay s.rcv∧s.snd.c.rng=s.rep.rng
def rx1 (q:Gh×Ses):Rd (Gh×Ses) (Gh×Ses):=
 match q.2.dat.frames with
 |[]=>.done q
 |f::_=>if f.arr=q.2.now then .next (rxG q.1 (BC q.2) f.seg,rxX (BC q.2) f.seg) else .done q
theorem rx1_ok {P:Ses→Prop} (hP:RxQ P) {t:Int} {q q':Gh×Ses} (h:P q.2∧q.2.now=t) (hs:rx1 q = .next q'):(P q'.2∧q'.2.now=t)∧q'.2.dat.frames.length<q.2.dat.frames.length:=by
 unfold rx1 at hs;cases hf:q.2.dat.frames with
 |nil=>rw [hf] at hs;cases hs
 |cons f l=>
  rw [hf] at hs;simp only at hs;split at hs
  ·rename_i ha;cases hs;refine ⟨⟨(hP.p.DX q.2 f l h.1 hf ha).2.2,(J6 _ _).trans h.2⟩,?_⟩;simp only [Es];simp [BC,hf]
  ·cases hs
theorem rx1_fin (q:Gh×Ses):rxT q.2.dat.frames.length q=(rx1 q).fin fun q=>rxT q.2.dat.frames.length q:=by
 unfold rx1;cases hf:q.2.dat.frames with
 |nil=>simp [rxT,Rd.fin]
 |cons f l=>
  simp only [zW,rxT,hf];split
  ·simp only [Rd.fin,Es];have:(BC q.2).dat.frames.length=l.length:=by simp [BC,hf]
   rw [this]
  ·simp [Rd.fin, *]
structure LsQ (P:Ses→Prop):Prop where
 p:LsP P
 kn:∀s f l,P s→s.rep.frames=f::l→f.arr=s.now→¬s.now<s.snd.busy→((s.kno=false∧(Av s.snd s.now f.seg).1.st=2)↔(s.snd.st=1∧(Av s.snd s.now f.seg).1.st=2))
def ls1 (q:Gh×Ses):Rd (Gh×Ses) (Gh×Ses):=
 match q.2.rep.frames with
 |[]=>.done q
 |f::_=>if f.arr=q.2.now then .next (lsG q.1 (CC q.2),lsX (CC q.2) f.seg) else .done q
theorem ls1_ok {P:Ses→Prop} (hP:LsQ P) {t:Int} {q q':Gh×Ses} (h:P q.2∧q.2.now=t) (hs:ls1 q = .next q'):(P q'.2∧q'.2.now=t)∧q'.2.rep.frames.length<q.2.rep.frames.length:=by
 unfold ls1 at hs;cases hf:q.2.rep.frames with
 |nil=>rw [hf] at hs;cases hs
 |cons f l=>
  rw [hf] at hs;simp only at hs;split at hs
  ·rename_i ha;cases hs;refine ⟨⟨(hP.p.DX q.2 f l h.1 hf ha).2.2,(VF _ _).trans h.2⟩,?_⟩;simp only [Gz];simp [CC,hf]
  ·cases hs
theorem ls1_fin (q:Gh×Ses):lsT q.2.rep.frames.length q=(ls1 q).fin fun q=>lsT q.2.rep.frames.length q:=by
 unfold ls1;cases hf:q.2.rep.frames with
 |nil=>simp [lsT,Rd.fin]
 |cons f l=>
  simp only [zW,lsT,hf];split
  ·simp only [Rd.fin,Gz];have:(CC q.2).rep.frames.length=l.length:=by simp [CC,hf]
   rw [this]
  ·simp [Rd.fin, *]
theorem Ui:∀(k:Nat) (s:Ses),(txS k s).now=s.now
 |0,s=>rfl
 |k+1,s=>by
  unfold txS;cases s.pend with
  |nil=>rfl
  |cons o l=>
   simp only;split
   ·rw [Ui k];rfl
   ·rfl
theorem Uw:∀(k:Nat) (s:Ses),(rxS k s).now=s.now
 |0,s=>rfl
 |k+1,s=>by
  unfold rxS;cases s.dat.frames with
  |nil=>rfl
  |cons f l=>
   simp only;split
   ·rw [Uw k,J6];rfl
   ·rfl
theorem VG:∀(k:Nat) (s:Ses),(lsS k s).now=s.now
 |0,s=>rfl
 |k+1,s=>by
  unfold lsS;cases s.rep.frames with
  |nil=>rfl
  |cons f l=>
   simp only;split
   ·rw [VG k,VF];rfl
   ·rfl
structure ZG (W P1 P2:Ses→Prop) (μ:Ses→Nat):Prop where
 p:UF W P1 P2 μ
 rx:RxQ P1
 ls:LsQ P2
 tx:∀s,W s→s.snd.c.rng=s.dat.rng
end Ab
namespace Ab
open Go
theorem runQ {p:Par} (hp:POk p):ZG (Wt p) (fun s=>Inv p s∧PGt s) (fun s=>Inv p s∧PGt s∧DGt s) (muS p):=by
 have hR:=runP hp;refine ⟨hR,⟨hR.rx,fun s h=>⟨h.1.rv,by rw [h.1.sn.c,h.1.rr]⟩⟩,⟨hR.ls,fun s f l h hf ha hb => ?_⟩,fun s h=>by rw [h.i.sn.c,h.i.rd]⟩;obtain ⟨hI,hg,hd⟩:=h;obtain ⟨f1,f2,f3,f4,f5⟩:=hI.fr f (by rw [hf];simp);have hsn:=hI.sn.num hp;have hr:=hp.rng;obtain ⟨q1,q2,q3⟩:=hI.sn.Av (t:=s.now) hp f1 ⟨by omega,by omega⟩;by_cases h1:s.snd.st=1
 ·have hk:s.kno=false:=by
   cases hk:s.kno with
   |false=>rfl
   |true=>have:=hI.kn.1 hk;omega
  exact ⟨fun q=>⟨h1,q.2⟩,fun q=>⟨hk,q.2⟩⟩
 ·rw [q1 (.inl h1)];refine ⟨fun q => ?_,fun q=>(h1 q.1).elim⟩;have:=hI.kn.2 q.2;rw [q.1] at this;cases this
theorem runQ0:ZG (fun _=>False) (fun _=>False) (fun _=>False) (fun _=>0):=
 ⟨⟨⟨fun _ h=>h.elim,fun _ _ _ h=>h.elim⟩,⟨fun _ h=>h.elim,fun _ h=>h.elim,fun _ _ _ h=>h.elim⟩,fun _ h=>h.elim,fun _ _ h=>h.elim,fun _ _ h=>h.elim,fun _ _ h=>h.elim,fun _ _ h=>h.elim,fun _ _ h=>h.elim⟩,⟨⟨fun _ h=>h.elim,fun _ _ _ h=>h.elim⟩,fun _ h=>h.elim⟩,⟨⟨fun _ h=>h.elim,fun _ h=>h.elim,fun _ _ _ h=>h.elim⟩,fun _ _ _ h=>h.elim⟩,fun _ h=>h.elim⟩
end Ab
namespace Ab
open Go Go.Proofs
def A2:List Sh:=[Sh.i,Sh.i,Sh.i,Sh.i,Sh.i,Sh.i,Sh.i,Sh.i,Sh.s,Sh.i,Sh.i,Sh.i,Sh.l 2,Sh.i,Sh.i,Sh.i,Sh.i,Sh.l 2,Sh.s,Sh.i,Sh.l 10,Sh.i,Sh.i,Sh.i,Sh.l 10,Sh.i,Sh.i,Sh.r 0,Sh.l 1,Sh.i,Sh.l 2,Sh.i,Sh.i,Sh.b,Sh.i,Sh.b,Sh.i,Sh.i,Sh.i,Sh.i,Sh.r 4,Sh.r 5]
def C4:List OSh:=[OSh.row 9,OSh.frz 15,OSh.frz 4,OSh.frz 4,OSh.row 9,OSh.row 9,OSh.box A2]
def Dl:List Sh:=[]
def FL:List OSh:=[OSh.row 9,OSh.box Dl,OSh.box Dl,OSh.box Dl,OSh.row 9,OSh.row 9,OSh.box A2,OSh.row 1]
def CH:List OSh:=[OSh.row 9,OSh.box Dl,OSh.box Dl,OSh.box Dl,OSh.row 9,OSh.row 9,OSh.box A2]
def TH:List OSh:=[OSh.row 9,OSh.box Dl,OSh.box Dl,OSh.box Dl,OSh.row 9,OSh.row 9,OSh.box A2,OSh.box Dl]
def Vz:List Sh:=[Sh.i,Sh.l 10,Sh.i,Sh.i]
def Cm:List OSh:=[OSh.row 9,OSh.box Dl,OSh.box Dl,OSh.box Dl,OSh.row 9,OSh.row 9,OSh.box A2,OSh.box Dl,OSh.box Vz]
def BSC_8:List Sh:=[Sh.i,Sh.i,Sh.l 2,Sh.s]
def Gf:List OSh:=[OSh.row 9,OSh.box Dl,OSh.box Dl,OSh.box Dl,OSh.row 9,OSh.row 9,OSh.box A2,OSh.box Vz,OSh.box Dl,OSh.box BSC_8]
def CR:List OSh:=[OSh.row 9,OSh.box Dl,OSh.box Dl,OSh.box Dl,OSh.row 9,OSh.row 9,OSh.box A2,OSh.box Vz,OSh.box Dl,OSh.box BSC_8,OSh.box Vz]
def Ge:List FuncId:=[50,51,52,53,54,71,96,124,125,126,127,144]
noncomputable def DA (p q:ST) (y:List Tree) (x:RT):RT:=Al (.box [.yld 42,.t (tI (cI p 6 19)),.t (.sl 10 (cL p 6 20)),.t (tI (cI p 6 21)),.t (tI (cI p 6 22))]) (.box [.yld 42,.t (tI (cI q 6 19)),.t (.sl 10 (cL q 6 20)),.t (tI (cI q 6 21)),.t (tI (cI q 6 22))]) (Al (.row true 0 9 [[tI (gI y 0),tI (gI y 1),tI (gI y 2),tI (gI y 3),tI (gI y 4),tI (gI y 5),.bool (gB y 6),.str (gS y 7),.sl 2 (gL y 8)]]) (.row true 0 9 [[tI (gI y 0),tI (gI y 1),tI (gI y 2),tI (gI y 3),tI (gI y 4),tI (gI y 5),.bool (gB y 6),.str (gS y 7),.sl 2 (gL y 8)]]) (Al (.row false (AD p 0) 9 (oEs p 0)) (.row false (AD q 0) 9 (oEs q 0)) (Al (.row false (AD p 4) 9 (oEs p 4)) (.row false (AD q 4) 9 (oEs q 4)) (Al (.row false (AD p 5) 9 (oEs p 5)) (.row false (AD q 5) 9 (oEs q 5)) x))))
noncomputable def DZ (p q:ST) (x:RT):RT:=Al (.box [.yld 42,.t (tI (cI p 6 23)),.t (.sl 10 (cL p 6 24)),.t (tI (cI p 6 25)),.t (tI (cI p 6 26))]) (.box [.yld 42,.t (tI (cI q 6 23)),.t (.sl 10 (cL q 6 24)),.t (tI (cI q 6 25)),.t (tI (cI q 6 26))]) (Al (.row false (AD p 0) 9 (oEs p 0)) (.row false (AD q 0) 9 (oEs q 0)) (Al (.row false (AD p 4) 9 (oEs p 4)) (.row false (AD q 4) 9 (oEs q 4)) (Al (.row false (AD p 5) 9 (oEs p 5)) (.row false (AD q 5) 9 (oEs q 5)) x)))
noncomputable def Vl (n:Nat) (ff:Nat→Rec) (p44:ST) (k20:KT) (p47:ST) (k48:KT):RT:=cnd (AD p47 7=A0 p44 0) (cnd (decide (vI p47 1<(Ah p44 0:Int))=true) (cnd (AD p47 7=A0 p44 0∧1=1∧0≤vI p47 1∧vI p47 1<(Ah p44 0:Int)) (cnd (AD p47 7=A0 p44 0) (Option.bind (oEs p47 7)[Bu p44 0+wH (vI p47 1)]? fun y49=>cnd (okI y49 0) (k48 (tv [tI (if gI y49 0<vI p47 0 then gI y49 0 else vI p47 0),tI (w64 (vI p47 1+1))],rh p47 0 FL)) none) none) none) (k20 (tv [tI (vI p47 0),.bool true],rh p47 0 CH))) none
noncomputable def TG (n:Nat) (ff:Nat→Rec) (k20:KT) (p44:ST):RT:=cnd (AD p44 7=A0 p44 0) (cnd (((Ah p44 0:Int)==0)=true) (k20 (tv [tI 0,.bool false],rh p44 0 CH)) (cnd (AD p44 7=A0 p44 0∧1=1∧(0:Int)≤0∧0<(Ah p44 0:Int)) (cnd (AD p44 7=A0 p44 0) (Option.bind (oEs p44 7)[Bu p44 0]? fun y46=>cnd (okI y46 0) (AH (Vl n ff p44 k20) n (tv [tI (gI y46 0),tI 1],rh p44 0 FL)) none) none) none)) none
noncomputable def ZX (n:Nat) (ff:Nat→Rec) (k20:KT) (p25 p40:ST):RT:=join (TG n ff k20) fun k45=>cnd (vB p40 0=true) (cnd (AD p40 7=A0 p25 0+1∧(1=1∨1=0)∧0+(Ah p25 0+1)≤length (oEs p40 7)∧(Ah p25 0+1)+1≤1073741824) (k45 ([.sref 7 ((A0 p25 0+1)+1) 0 ((Ah p25 0+1)+1)],upd (rh p40 0 FL) [(7,.row false ((A0 p25 0+1)+1) 1 (take (Ah p25 0+1) (oEs p40 7)++[[tI (cI p40 6 13)]]))])) none) (k45 ([.sref 7 (A0 p25 0+1) 0 (Ah p25 0+1)],rh p40 0 FL))
noncomputable def ZT (n:Nat) (ff:Nat→Rec) (k20:KT) (p25 p50:ST):RT:=join (TG n ff k20) fun k55=>cnd (vB p50 0=true) (cnd (AD p50 7=A0 p25 0∧(1=1∨1=0)∧Bu p25 0+Ah p25 0≤length (oEs p50 7)∧Ah p25 0+1≤1073741824) (k55 ([.sref 7 (A0 p25 0+1) 0 (Ah p25 0+1)],upd (rh p50 0 FL) [(7,.row false (A0 p25 0+1) 1 (take (Ah p25 0) (drop (Bu p25 0) (oEs p50 7))++[[tI (cI p50 6 13)]]))])) none) (k55 ([.sref 7 (A0 p25 0) (Bu p25 0) (Ah p25 0)],rh p50 0 FL))
noncomputable def Ly (n:Nat) (ff:Nat→Rec) (k20:KT) (p25:ST):RT:=bd [0,1] (AA C n 76 (ct [0,13,0,0] p25 6 23 [])) fun y27=>cnd (gB y27 1=true) (cnd (AD p25 7=A0 p25 0∧(1=1∨1=0)∧Bu p25 0+Ah p25 0≤length (oEs p25 7)∧Ah p25 0+1≤1073741824) (join (ZX n ff k20 p25) fun k41=>cnd ((cI p25 6 14==1)=true) (k41 ([.t (.bool (!(decide (cI p25 6 31≥(10000:Int)))))],upd (rh p25 0 FL) [(7,.row false (A0 p25 0+1) 1 (take (Ah p25 0) (drop (Bu p25 0) (oEs p25 7))++[[tI (gI y27 0)]]))])) (k41 ([.t (.bool false)],upd (rh p25 0 FL) [(7,.row false (A0 p25 0+1) 1 (take (Ah p25 0) (drop (Bu p25 0) (oEs p25 7))++[[tI (gI y27 0)]]))]))) none) (join (ZT n ff k20 p25) fun k51=>cnd ((cI p25 6 14==1)=true) (k51 ([.t (.bool (!(decide (cI p25 6 31≥(10000:Int)))))],rh p25 0 FL)) (k51 ([.t (.bool false)],rh p25 0 FL)))
noncomputable def RJ (n:Nat) (ff:Nat→Rec) (k20:KT) (p21:ST):RT:=bd [0,1] (AA C n 76 (ct [0,13,0,0] p21 6 19 [])) fun y24=>join (Ly n ff k20) fun k26=>cnd (gB y24 1=true) (cnd (AD p21 7=A0 p21 0∧(1=1∨1=0)∧Bu p21 0+Ah p21 0≤length (oEs p21 7)∧Ah p21 0+1≤1073741824) (k26 ([.sref 7 (A0 p21 0+1) 0 (Ah p21 0+1)],upd (rh p21 0 FL) [(7,.row false (A0 p21 0+1) 1 (take (Ah p21 0) (drop (Bu p21 0) (oEs p21 7))++[[tI (gI y24 0)]]))])) none) (k26 ([.sref 7 (A0 p21 0) (Bu p21 0) (Ah p21 0)],rh p21 0 FL))
noncomputable def Zg (n:Nat) (ff:Nat→Rec) (k20:KT) (p19:ST):RT:=ff 11 (List Tree) (.fn 50 [AV.ptr 6 0]) (rh p19 0 C4) fun rs h1=>cnd (BH C.P (A6 C.P 50) rs=true) (EC (rh p19 0 C4) h1 fun hs=>k20 (rs,hs)) none
noncomputable def Vg (n:Nat) (ff:Nat→Rec) (k20:KT) (p19:ST):RT:=cnd (AD p19 0=AL p19 6 27) (join (RJ n ff k20) fun k22=>cnd (decide ((AJ p19 6 27:Int)>0)=true) (cnd (AD p19 0=AL p19 6 27∧9=9∧(0:Int)≤0∧0<(AJ p19 6 27:Int)) (cnd (AD p19 0=AL p19 6 27) (cnd (AD p19 0=AL p19 6 27) (Option.bind (oEs p19 0)[AP p19 6 27]? fun y23=>cnd (okI y23 0) (k22 ([.sref 7 1 0 1],upd (rh p19 0 FL) [(7,.row false 1 1 [[tI (gI y23 0)]])])) none) none) none) none) (k22 ([.sref 7 0 0 0],upd (rh p19 0 FL) [(7,.row false 0 1 [])]))) none
theorem vC21_1 (n:Nat) (ff:Nat→Rec) (k20:KT) (p19:ST):Da C (Fk C (pcx C (AA C n)) n ff Ge 10) (pcx C (AA C n)) n 50 [AV.ptr 6 0] (rh p19 0 C4) (fun rs h1=>cnd (BH C.P (A6 C.P 50) rs=true) (EC (rh p19 0 C4) h1 fun hs=>k20 (rs,hs)) none)=Vg n ff k20 p19:=by kernel_rfl
theorem XN (n:Nat) (k20:KT) (p19:ST):Zg n (fI C n) k20 p19=Vg n (fI C n) k20 p19:=(Ga C n Ge 10 _ 50 _ _ _).trans (vC21_1 n (fI C n) k20 p19)
noncomputable def DB (n:Nat) (ff:Nat→Rec) (k70:KT) (y71:List Tree) (p76:ST):RT:=cnd (AD p76 4=AL p76 6 40∧(9=9∨9=0)∧AP p76 6 40+AJ p76 6 40≤length (oEs p76 4)∧AJ p76 6 40+1≤1073741824) (k70 ([],upd (rh p76 0 CH) [(4,.row false (AL p76 6 40+1) 9 (take (AJ p76 6 40) (drop (AP p76 6 40) (oEs p76 4))++[[tI (gI y71 0),tI (gI y71 1),tI (gI y71 2),tI (gI y71 3),tI (gI y71 4),tI (gI y71 5),.bool (gB y71 6),.str (gS y71 7),.sl 2 (gL y71 8)]])),(6,.box (upd (rb p76 6 0 A2) [(40,.sref 4 (AL p76 6 40+1) 0 (AJ p76 6 40+1))]))])) none
noncomputable def GM (n:Nat) (ff:Nat→Rec) (p66:ST) (y71:List Tree) (p62:ST) (k70:KT) (y82:List Tree) (p89:ST):RT:=cnd (vB p89 0=true) (DA p66 p89 y71 (bd [0,13,0,0,0] (AA C n 78 (ct [0,13,0,0] p66 6 19 (tI (vI p62 1)::gt kG y71 1 [.sl 1 [[tI (cI p66 6 5)]]]))) fun y91=>join (DB n ff k70 y71) fun k93=>cnd ((gI y91 4==0)=true) (k93 ([],upd (rh p89 0 Cm) [(6,.box (upd (rb p89 6 0 A2) [(19,.t (tI (gI y91 0))),(20,.t (.sl 10 (gL y91 1))),(21,.t (tI (gI y91 2))),(22,.t (tI (gI y91 3)))])),(8,.box (tv (gt [0,13,0,0] y91 0 [])))])) (k93 ([],upd (rh p89 0 Cm) [(8,.box (tv (gt [0,13,0,0] y91 0 [])))])))) (DA p66 p89 y71 (bd [0,13,0,0,0] (AA C n 78 (ct [0,13,0,0] p66 6 19 (tI (vI p62 1)::gt kG y71 1 [.sl 1 (gL y82 0)]))) fun y94=>join (DB n ff k70 y71) fun k96=>cnd ((gI y94 4==0)=true) (k96 ([],upd (rh p89 0 Cm) [(6,.box (upd (rb p89 6 0 A2) [(19,.t (tI (gI y94 0))),(20,.t (.sl 10 (gL y94 1))),(21,.t (tI (gI y94 2))),(22,.t (tI (gI y94 3))),(32,.t (tI (w64 (cI p89 6 32+1))))])),(8,.box (tv (gt [0,13,0,0] y94 0 [])))])) (k96 ([],upd (rh p89 0 Cm) [(6,.box (upd (rb p89 6 0 A2) [(32,.t (tI (w64 (cI p89 6 32+1))))])),(8,.box (tv (gt [0,13,0,0] y94 0 [])))]))))
noncomputable def GL (n:Nat) (ff:Nat→Rec) (p66:ST) (y71:List Tree) (p62:ST) (y82:List Tree) (k70:KT) (p83:ST):RT:=cnd (vB p83 0=true) (DA p66 p83 y71 (bd [0,13,0,0,0] (AA C n 78 (ct [0,13,0,0] p66 6 19 (tI (vI p62 1)::gt kG y71 1 [.sl 1 (gL y82 0)]))) fun y86=>join (DB n ff k70 y71) fun k88=>cnd ((gI y86 4==0)=true) (k88 ([],upd (rh p83 0 Cm) [(6,.box (upd (rb p83 6 0 A2) [(19,.t (tI (gI y86 0))),(20,.t (.sl 10 (gL y86 1))),(21,.t (tI (gI y86 2))),(22,.t (tI (gI y86 3)))])),(8,.box (tv (gt [0,13,0,0] y86 0 [])))])) (k88 ([],upd (rh p83 0 Cm) [(8,.box (tv (gt [0,13,0,0] y86 0 [])))])))) (join (GM n ff p66 y71 p62 k70 y82) fun k90=>cnd (decide (cI p83 6 29≥(0:Int))=true) (k90 ([.t (.bool (decide (cI p83 6 32≥cI p83 6 29)))],rh p83 0 Cm)) (k90 ([.t (.bool false)],rh p83 0 Cm)))
noncomputable def GK (n:Nat) (ff:Nat→Rec) (p66:ST) (y71:List Tree) (p62:ST) (k70:KT) (y105:List Tree) (p112:ST):RT:=cnd (vB p112 0=true) (DA p66 p112 y71 (bd [0,13,0,0,0] (AA C n 78 (ct [0,13,0,0] p66 6 19 (tI (vI p62 1)::gt kG y71 1 [.sl 1 [[tI (cI p66 6 5)]]]))) fun y114=>join (DB n ff k70 y71) fun k116=>cnd ((gI y114 4==0)=true) (k116 ([],upd (rh p112 0 Cm) [(6,.box (upd (rb p112 6 0 A2) [(19,.t (tI (gI y114 0))),(20,.t (.sl 10 (gL y114 1))),(21,.t (tI (gI y114 2))),(22,.t (tI (gI y114 3)))])),(8,.box (tv (gt [0,13,0,0] y114 0 [])))])) (k116 ([],upd (rh p112 0 Cm) [(8,.box (tv (gt [0,13,0,0] y114 0 [])))])))) (DA p66 p112 y71 (bd [0,13,0,0,0] (AA C n 78 (ct [0,13,0,0] p66 6 19 (tI (vI p62 1)::gt kG y71 1 [.sl 1 (gL y105 0)]))) fun y117=>join (DB n ff k70 y71) fun k119=>cnd ((gI y117 4==0)=true) (k119 ([],upd (rh p112 0 Cm) [(6,.box (upd (rb p112 6 0 A2) [(19,.t (tI (gI y117 0))),(20,.t (.sl 10 (gL y117 1))),(21,.t (tI (gI y117 2))),(22,.t (tI (gI y117 3))),(32,.t (tI (w64 (cI p112 6 32+1))))])),(8,.box (tv (gt [0,13,0,0] y117 0 [])))])) (k119 ([],upd (rh p112 0 Cm) [(6,.box (upd (rb p112 6 0 A2) [(32,.t (tI (w64 (cI p112 6 32+1))))])),(8,.box (tv (gt [0,13,0,0] y117 0 [])))]))))
noncomputable def GJ (n:Nat) (ff:Nat→Rec) (p66:ST) (y71:List Tree) (p62:ST) (y105:List Tree) (k70:KT) (p106:ST):RT:=cnd (vB p106 0=true) (DA p66 p106 y71 (bd [0,13,0,0,0] (AA C n 78 (ct [0,13,0,0] p66 6 19 (tI (vI p62 1)::gt kG y71 1 [.sl 1 (gL y105 0)]))) fun y109=>join (DB n ff k70 y71) fun k111=>cnd ((gI y109 4==0)=true) (k111 ([],upd (rh p106 0 Cm) [(6,.box (upd (rb p106 6 0 A2) [(19,.t (tI (gI y109 0))),(20,.t (.sl 10 (gL y109 1))),(21,AV.t (tI (gI y109 2))),(22,.t (tI (gI y109 3)))])),(8,.box (tv (gt [0,13,0,0] y109 0 [])))])) (k111 ([],upd (rh p106 0 Cm) [(8,.box (tv (gt [0,13,0,0] y109 0 [])))])))) (join (GK n ff p66 y71 p62 k70 y105) fun k113=>cnd (decide (cI p106 6 29≥(0:Int))=true) (k113 ([.t (.bool (decide (cI p106 6 32≥cI p106 6 29)))],rh p106 0 TH)) (k113 ([.t (.bool false)],rh p106 0 TH)))
noncomputable def Dd (n:Nat) (ff:Nat→Rec) (k65:KT) (p69:ST):RT:=k65 ([],rh p69 0 CH)
noncomputable def Eo (n:Nat) (ff:Nat→Rec) (k65:KT) (p62:ST) (k63:KT) (p66:ST):RT:=cnd (vB p66 0=true) (join (Dd n ff k65) fun k70=>cnd (AD p66 0=AL p66 6 27∧9=9∧(0:Int)≤0∧0<(AJ p66 6 27:Int)) (cnd (AD p66 0=AL p66 6 27) (Option.bind (oEs p66 0)[AP p66 6 27]? fun y71=>bk [0,0,0,0,0,0,1,2,5] 0 y71 (cnd (AD p66 0=AL p66 6 27∧(9=9∨9=0)) (cnd ((0:Int)≤1∧1≤(AJ p66 6 27:Int)) (cnd (decide (cI p66 6 31≥(10000:Int))=true) (k70 ([],upd (rh p66 0 CH) [(6,.box (upd (rb p66 6 0 A2) [(27,.sref 0 (AL p66 6 27) (AP p66 6 27+1) (AJ p66 6 27-1))]))])) (both (bd [1] (AA C n 103 [.sl 2 (cL p66 6 30),tI (vI p62 1)]) fun y74=>cnd (gB y74 0=true) (DA p66 p66 y71 (bd [0,13,0,0,0] (AA C n 78 (ct [0,13,0,0] p66 6 19 (tI (vI p62 1)::gt kG y71 1 [.sl 1 []]))) fun y75=>join (DB n ff k70 y71) fun k77=>cnd ((gI y75 4==0)=true) (k77 ([],upd (rh p66 0 Cm) [(6,.box (upd (rb p66 6 0 A2) [(19,.t (tI (gI y75 0))),(20,.t (.sl 10 (gL y75 1))),(21,.t (tI (gI y75 2))),(22,.t (tI (gI y75 3))),(27,.sref 0 (AL p66 6 27) (AP p66 6 27+1) (AJ p66 6 27-1)),(31,.t (tI (w64 (cI p66 6 31+1))))])),(8,.box (tv (gt [0,13,0,0] y75 0 [])))])) (k77 ([],upd (rh p66 0 Cm) [(6,.box (upd (rb p66 6 0 A2) [(27,.sref 0 (AL p66 6 27) (AP p66 6 27+1) (AJ p66 6 27-1)),(31,.t (tI (w64 (cI p66 6 31+1))))])),(8,.box (tv (gt [0,13,0,0] y75 0 [])))])))) (cnd (((length (cL p66 6 28):Int)==0)=true) (DA p66 p66 y71 (bd [0,13,0,0,0] (AA C n 78 (ct [0,13,0,0] p66 6 19 (tI (vI p62 1)::gt kG y71 1 [.sl 1 [[tI (cI p66 6 5)]]]))) fun y78=>join (DB n ff k70 y71) fun k80=>cnd ((gI y78 4==0)=true) (k80 ([],upd (rh p66 0 Cm) [(6,.box (upd (rb p66 6 0 A2) [(19,.t (tI (gI y78 0))),(20,.t (.sl 10 (gL y78 1))),(21,.t (tI (gI y78 2))),(22,.t (tI (gI y78 3))),(27,.sref 0 (AL p66 6 27) (AP p66 6 27+1) (AJ p66 6 27-1)),(31,.t (tI (w64 (cI p66 6 31+1))))])),(8,.box (tv (gt [0,13,0,0] y78 0 [])))])) (k80 ([],upd (rh p66 0 Cm) [(6,.box (upd (rb p66 6 0 A2) [(27,.sref 0 (AL p66 6 27) (AP p66 6 27+1) (AJ p66 6 27-1)),(31,.t (tI (w64 (cI p66 6 31+1))))])),(8,.box (tv (gt [0,13,0,0] y78 0 [])))])))) (cnd ((length (cL p66 6 28):Int)=0) none (cnd (1=1∧0≤wG (cI p66 6 31) (length (cL p66 6 28):Int)) (Option.bind (cL p66 6 28)[wH (wG (cI p66 6 31) (length (cL p66 6 28):Int))]? fun y81=>cnd (okI y81 0) (bd [4,0] (AA C n 104 [tI (gI y81 0),tI (cI p66 6 5)]) fun y82=>join (GL n ff p66 y71 p62 y82 k70) fun k84=>cnd (decide ((length (gL y82 0):Int)>0)=true) (Option.bind (gL y82 0)[0]? fun y85=>cnd (okI y85 0) (k84 ([.t (.bool (gI y85 0==cI p66 6 5))],upd (rh p66 0 Cm) [(6,.box (upd (rb p66 6 0 A2) [(27,.sref 0 (AL p66 6 27) (AP p66 6 27+1) (AJ p66 6 27-1)),(31,.t (tI (w64 (cI p66 6 31+1))))])),(8,.box (tv (zt [0,13,0,0] [])))])) none) (k84 ([.t (.bool false)],upd (rh p66 0 Cm) [(6,.box (upd (rb p66 6 0 A2) [(27,.sref 0 (AL p66 6 27) (AP p66 6 27+1) (AJ p66 6 27-1)),(31,.t (tI (w64 (cI p66 6 31+1))))])),(8,.box (tv (zt [0,13,0,0] [])))]))) none) none)))) (bd [1] (AA C n 103 [.sl 2 (cL p66 6 30),tI (vI p62 1)]) fun y97=>cnd (gB y97 0=true) (DA p66 p66 y71 (bd [0,13,0,0,0] (AA C n 78 (ct [0,13,0,0] p66 6 19 (tI (vI p62 1)::gt kG y71 1 [.sl 1 []]))) fun y98=>join (DB n ff k70 y71) fun k100=>cnd ((gI y98 4==0)=true) (k100 ([],upd (rh p66 0 Cm) [(6,.box (upd (rb p66 6 0 A2) [(19,.t (tI (gI y98 0))),(20,.t (.sl 10 (gL y98 1))),(21,.t (tI (gI y98 2))),(22,AV.t (tI (gI y98 3))),(27,.sref 0 (AL p66 6 27) (AP p66 6 27+1) (AJ p66 6 27-1)),(31,.t (tI (w64 (cI p66 6 31+1))))])),(8,.box (tv (gt [0,13,0,0] y98 0 [])))])) (k100 ([],upd (rh p66 0 Cm) [(6,.box (upd (rb p66 6 0 A2) [(27,.sref 0 (AL p66 6 27) (AP p66 6 27+1) (AJ p66 6 27-1)),(31,.t (tI (w64 (cI p66 6 31+1))))])),(8,.box (tv (gt [0,13,0,0] y98 0 [])))])))) (cnd (((length (cL p66 6 28):Int)==0)=true) (DA p66 p66 y71 (bd [0,13,0,0,0] (AA C n 78 (ct [0,13,0,0] p66 6 19 (tI (vI p62 1)::gt kG y71 1 [.sl 1 [[tI (cI p66 6 5)]]]))) fun y101=>join (DB n ff k70 y71) fun k103=>cnd ((gI y101 4==0)=true) (k103 ([],upd (rh p66 0 Cm) [(6,.box (upd (rb p66 6 0 A2) [(19,.t (tI (gI y101 0))),(20,.t (.sl 10 (gL y101 1))),(21,.t (tI (gI y101 2))),(22,.t (tI (gI y101 3))),(27,.sref 0 (AL p66 6 27) (AP p66 6 27+1) (AJ p66 6 27-1)),(31,.t (tI (w64 (cI p66 6 31+1))))])),(8,.box (tv (gt [0,13,0,0] y101 0 [])))])) (k103 ([],upd (rh p66 0 Cm) [(6,.box (upd (rb p66 6 0 A2) [(27,.sref 0 (AL p66 6 27) (AP p66 6 27+1) (AJ p66 6 27-1)),(31,.t (tI (w64 (cI p66 6 31+1))))])),(8,.box (tv (gt [0,13,0,0] y101 0 [])))])))) (cnd ((length (cL p66 6 28):Int)=0) none (cnd (1=1∧0≤wG (cI p66 6 31) (length (cL p66 6 28):Int)) (Option.bind (cL p66 6 28)[wH (wG (cI p66 6 31) (length (cL p66 6 28):Int))]? fun y104=>cnd (okI y104 0) (bd [4,0] (AA C n 104 [tI (gI y104 0),tI (cI p66 6 5)]) fun y105=>join (GJ n ff p66 y71 p62 y105 k70) fun k107=>cnd (decide ((length (gL y105 0):Int)>0)=true) (Option.bind (gL y105 0)[0]? fun y108=>cnd (okI y108 0) (k107 ([.t (.bool (gI y108 0==cI p66 6 5))],upd (rh p66 0 TH) [(6,.box (upd (rb p66 6 0 A2) [(27,.sref 0 (AL p66 6 27) (AP p66 6 27+1) (AJ p66 6 27-1)),(31,.t (tI (w64 (cI p66 6 31+1))))]))])) none) (k107 ([.t (.bool false)],upd (rh p66 0 TH) [(6,.box (upd (rb p66 6 0 A2) [(27,.sref 0 (AL p66 6 27) (AP p66 6 27+1) (AJ p66 6 27-1)),(31,.t (tI (w64 (cI p66 6 31+1))))]))]))) none) none)))))) none) none)) none) none) (k63 ([],rh p66 0 CH))
noncomputable def Oa (n:Nat) (ff:Nat→Rec) (p62:ST) (k63:KT) (p64:ST) (k65:KT):RT:=join (Eo n ff k65 p62 k63) fun k67=>cnd (AD p64 0=AL p64 6 27) (cnd (decide ((AJ p64 6 27:Int)>0)=true) (cnd (AD p64 0=AL p64 6 27∧9=9∧(0:Int)≤0∧0<(AJ p64 6 27:Int)) (cnd (AD p64 0=AL p64 6 27) (cnd (AD p64 0=AL p64 6 27) (Option.bind (oEs p64 0)[AP p64 6 27]? fun y68=>cnd (okI y68 0) (k67 ([.t (.bool (gI y68 0==vI p62 1))],rh p64 0 CH)) none) none) none) none) (k67 ([.t (.bool false)],rh p64 0 CH))) none
noncomputable def Vy (n:Nat) (ff:Nat→Rec) (k63:KT) (p62:ST):RT:=ff 11 (List Tree) (.fn 51 [AV.ptr 6 0,.t (tI (vI p62 1))]) (rh p62 0 C4) fun rs h1=>cnd (BH C.P (A6 C.P 51) rs=true) (EC (rh p62 0 C4) h1 fun hs=>k63 (rs,hs)) none
noncomputable def ZE (n:Nat) (ff:Nat→Rec) (k63:KT) (p62:ST):RT:=AH (Oa n ff p62 k63) n ([],rh p62 0 CH)
theorem vC21_2 (n:Nat) (ff:Nat→Rec) (k63:KT) (p62:ST):Da C (Fk C (pcx C (AA C n)) n ff Ge 10) (pcx C (AA C n)) n 51 [AV.ptr 6 0,.t (tI (vI p62 1))] (rh p62 0 C4) (fun rs h1=>cnd (BH C.P (A6 C.P 51) rs=true) (EC (rh p62 0 C4) h1 fun hs=>k63 (rs,hs)) none)=ZE n ff k63 p62:=by kernel_rfl
theorem tC21_2 (n:Nat) (k63:KT) (p62:ST):Vy n (fI C n) k63 p62=ZE n (fI C n) k63 p62:=(Ga C n Ge 10 _ 51 _ _ _).trans (vC21_2 n (fI C n) k63 p62)
noncomputable def Dc (n:Nat) (ff:Nat→Rec) (p201:ST) (y131:List Tree) (k204:KT) (p122 p210:ST):RT:=cnd (8=8∧0≤vI p201 0) (Option.bind (gL y131 4)[wH (vI p201 0)]? fun y212=>bk kG 0 y212 (cnd (AD p210 5=AL p210 6 41∧(9=9∨9=0)∧AP p210 6 41+AJ p210 6 41≤length (oEs p210 5)∧AJ p210 6 41+1≤1073741824) (k204 ([],upd (rh p210 0 Gf) [(5,.row false (AL p210 6 41+1) 9 (take (AJ p210 6 41) (drop (AP p210 6 41) (oEs p210 5))++[[tI (vI p122 1),tI (gI y212 0),tI (gI y212 1),tI (gI y212 2),tI (gI y212 3),tI (gI y212 4),.bool (gB y212 5),.str (gS y212 6),.sl 2 (gL y212 7)]])),(6,.box (upd (rb p210 6 0 A2) [(41,.sref 5 (AL p210 6 41+1) 0 (AJ p210 6 41+1))]))])) none)) none
noncomputable def Fs (n:Nat) (ff:Nat→Rec) (p201 p122:ST) (y207 y131:List Tree) (k204:KT) (y218:List Tree) (p226:ST):RT:=cnd (vB p226 0=true) (DZ p201 p226 (bd [0,13,0,0,0] (AA C n 78 (ct [0,13,0,0] p201 6 23 (tI (vI p122 1)::gt kG y207 0 [.sl 1 [[tI (cI p201 6 5)]]]))) fun y228=>join (Dc n ff p201 y131 k204 p122) fun k230=>cnd ((gI y228 4==0)=true) (k230 ([],upd (rh p226 0 CR) [(6,.box (upd (rb p226 6 0 A2) [(23,.t (tI (gI y228 0))),(24,.t (.sl 10 (gL y228 1))),(25,.t (tI (gI y228 2))),(26,.t (tI (gI y228 3)))])),(10,.box (tv (gt [0,13,0,0] y228 0 [])))])) (k230 ([],upd (rh p226 0 CR) [(10,.box (tv (gt [0,13,0,0] y228 0 [])))])))) (DZ p201 p226 (bd [0,13,0,0,0] (AA C n 78 (ct [0,13,0,0] p201 6 23 (tI (vI p122 1)::gt kG y207 0 [.sl 1 (gL y218 0)]))) fun y232=>join (Dc n ff p201 y131 k204 p122) fun k234=>cnd ((gI y232 4==0)=true) (k234 ([],upd (rh p226 0 CR) [(6,.box (upd (rb p226 6 0 A2) [(23,.t (tI (gI y232 0))),(24,.t (.sl 10 (gL y232 1))),(25,.t (tI (gI y232 2))),(26,.t (tI (gI y232 3))),(32,.t (tI (w64 (cI p226 6 32+1))))])),(10,.box (tv (gt [0,13,0,0] y232 0 [])))])) (k234 ([],upd (rh p226 0 CR) [(6,.box (upd (rb p226 6 0 A2) [(32,.t (tI (w64 (cI p226 6 32+1))))])),(10,.box (tv (gt [0,13,0,0] y232 0 [])))]))))
noncomputable def GI (n:Nat) (ff:Nat→Rec) (p201 p122:ST) (y207 y218 y131:List Tree) (k204:KT) (p219:ST):RT:=cnd (vB p219 0=true) (DZ p201 p219 (bd [0,13,0,0,0] (AA C n 78 (ct [0,13,0,0] p201 6 23 (tI (vI p122 1)::gt kG y207 0 [.sl 1 (gL y218 0)]))) fun y222=>join (Dc n ff p201 y131 k204 p122) fun k224=>cnd ((gI y222 4==0)=true) (k224 ([],upd (rh p219 0 CR) [(6,.box (upd (rb p219 6 0 A2) [(23,.t (tI (gI y222 0))),(24,.t (.sl 10 (gL y222 1))),(25,.t (tI (gI y222 2))),(26,.t (tI (gI y222 3)))])),(10,.box (tv (gt [0,13,0,0] y222 0 [])))])) (k224 ([],upd (rh p219 0 CR) [(10,.box (tv (gt [0,13,0,0] y222 0 [])))])))) (join (Fs n ff p201 p122 y207 y131 k204 y218) fun k227=>cnd (decide (cI p219 6 29≥(0:Int))=true) (k227 ([.t (.bool (decide (cI p219 6 32≥cI p219 6 29)))],rh p219 0 CR)) (k227 ([.t (.bool false)],rh p219 0 CR)))
noncomputable def GH (n:Nat) (ff:Nat→Rec) (p201 p122:ST) (y236 y247 y131:List Tree) (k204:KT) (p248:ST):RT:=cnd (vB p248 0=true) (DZ p201 p248 (bd [0,13,0,0,0] (AA C n 78 (ct [0,13,0,0] p201 6 23 (tI (vI p122 1)::gt kG y236 0 [.sl 1 (gL y247 0)]))) fun y251=>join (Dc n ff p201 y131 k204 p122) fun k253=>cnd ((gI y251 4==0)=true) (k253 ([],upd (rh p248 0 CR) [(6,.box (upd (rb p248 6 0 A2) [(23,.t (tI (gI y251 0))),(24,.t (.sl 10 (gL y251 1))),(25,.t (tI (gI y251 2))),(26,.t (tI (gI y251 3)))])),(10,.box (tv (gt [0,13,0,0] y251 0 [])))])) (k253 ([],upd (rh p248 0 CR) [(10,.box (tv (gt [0,13,0,0] y251 0 [])))])))) (join (Fs n ff p201 p122 y236 y131 k204 y247) fun k256=>cnd (decide (cI p248 6 29≥(0:Int))=true) (k256 ([.t (.bool (decide (cI p248 6 32≥cI p248 6 29)))],rh p248 0 Gf)) (k256 ([.t (.bool false)],rh p248 0 Gf)))
noncomputable def GG (n:Nat) (ff:Nat→Rec) (k202:KT) (p201 p203:ST):RT:=k202 ([.t (tI (w64 (vI p201 0+1)))],rh p203 0 Gf)
noncomputable def D6 (n:Nat) (ff:Nat→Rec) (y131:List Tree) (p122:ST) (k125:KT) (p201:ST) (k202:KT):RT:=cnd (decide (vI p201 0<(length (gL y131 4):Int))=true) (join (GG n ff k202 p201) fun k204=>cnd (decide (cI p201 6 31≥(10000:Int))=true) (k204 ([],rh p201 0 Gf)) (both (cnd (8=8∧0≤vI p201 0) (Option.bind (gL y131 4)[wH (vI p201 0)]? fun y207=>bk kG 0 y207 (bd [1] (AA C n 103 [.sl 2 (cL p201 6 30),tI (vI p122 1)]) fun y208=>cnd (gB y208 0=true) (DZ p201 p201 (bd [0,13,0,0,0] (AA C n 78 (ct [0,13,0,0] p201 6 23 (tI (vI p122 1)::gt kG y207 0 [.sl 1 []]))) fun y209=>join (Dc n ff p201 y131 k204 p122) fun k211=>cnd ((gI y209 4==0)=true) (k211 ([],upd (rh p201 0 CR) [(6,.box (upd (rb p201 6 0 A2) [(23,.t (tI (gI y209 0))),(24,.t (.sl 10 (gL y209 1))),(25,.t (tI (gI y209 2))),(26,.t (tI (gI y209 3))),(31,.t (tI (w64 (cI p201 6 31+1))))])),(10,.box (tv (gt [0,13,0,0] y209 0 [])))])) (k211 ([],upd (rh p201 0 CR) [(6,.box (upd (rb p201 6 0 A2) [(31,.t (tI (w64 (cI p201 6 31+1))))])),(10,.box (tv (gt [0,13,0,0] y209 0 [])))])))) (cnd (((length (cL p201 6 28):Int)==0)=true) (DZ p201 p201 (bd [0,13,0,0,0] (AA C n 78 (ct [0,13,0,0] p201 6 23 (tI (vI p122 1)::gt kG y207 0 [.sl 1 [[tI (cI p201 6 5)]]]))) fun y213=>join (Dc n ff p201 y131 k204 p122) fun k215=>cnd ((gI y213 4==0)=true) (k215 ([],upd (rh p201 0 CR) [(6,.box (upd (rb p201 6 0 A2) [(23,.t (tI (gI y213 0))),(24,.t (.sl 10 (gL y213 1))),(25,.t (tI (gI y213 2))),(26,.t (tI (gI y213 3))),(31,.t (tI (w64 (cI p201 6 31+1))))])),(10,.box (tv (gt [0,13,0,0] y213 0 [])))])) (k215 ([],upd (rh p201 0 CR) [(6,.box (upd (rb p201 6 0 A2) [(31,.t (tI (w64 (cI p201 6 31+1))))])),(10,.box (tv (gt [0,13,0,0] y213 0 [])))])))) (cnd ((length (cL p201 6 28):Int)=0) none (cnd (1=1∧0≤wG (cI p201 6 31) (length (cL p201 6 28):Int)) (Option.bind (cL p201 6 28)[wH (wG (cI p201 6 31) (length (cL p201 6 28):Int))]? fun y217=>cnd (okI y217 0) (bd [4,0] (AA C n 104 [tI (gI y217 0),tI (cI p201 6 5)]) fun y218=>join (GI n ff p201 p122 y207 y218 y131 k204) fun k220=>cnd (decide ((length (gL y218 0):Int)>0)=true) (Option.bind (gL y218 0)[0]? fun y221=>cnd (okI y221 0) (k220 ([.t (.bool (gI y221 0==cI p201 6 5))],upd (rh p201 0 CR) [(6,.box (upd (rb p201 6 0 A2) [(31,.t (tI (w64 (cI p201 6 31+1))))])),(10,.box (tv (zt [0,13,0,0] [])))])) none) (k220 ([.t (.bool false)],upd (rh p201 0 CR) [(6,.box (upd (rb p201 6 0 A2) [(31,AV.t (tI (w64 (cI p201 6 31+1))))])),(10,.box (tv (zt [0,13,0,0] [])))]))) none) none))))) none) (cnd (8=8∧0≤vI p201 0) (Option.bind (gL y131 4)[wH (vI p201 0)]? fun y236=>bk kG 0 y236 (bd [1] (AA C n 103 [.sl 2 (cL p201 6 30),tI (vI p122 1)]) fun y237=>cnd (gB y237 0=true) (DZ p201 p201 (bd [0,13,0,0,0] (AA C n 78 (ct [0,13,0,0] p201 6 23 (tI (vI p122 1)::gt kG y236 0 [.sl 1 []]))) fun y238=>join (Dc n ff p201 y131 k204 p122) fun k240=>cnd ((gI y238 4==0)=true) (k240 ([],upd (rh p201 0 CR) [(6,.box (upd (rb p201 6 0 A2) [(23,.t (tI (gI y238 0))),(24,.t (.sl 10 (gL y238 1))),(25,.t (tI (gI y238 2))),(26,.t (tI (gI y238 3))),(31,.t (tI (w64 (cI p201 6 31+1))))])),(10,.box (tv (gt [0,13,0,0] y238 0 [])))])) (k240 ([],upd (rh p201 0 CR) [(6,.box (upd (rb p201 6 0 A2) [(31,AV.t (tI (w64 (cI p201 6 31+1))))])),(10,.box (tv (gt [0,13,0,0] y238 0 [])))])))) (cnd (((length (cL p201 6 28):Int)==0)=true) (DZ p201 p201 (bd [0,13,0,0,0] (AA C n 78 (ct [0,13,0,0] p201 6 23 (tI (vI p122 1)::gt kG y236 0 [.sl 1 [[tI (cI p201 6 5)]]]))) fun y242=>join (Dc n ff p201 y131 k204 p122) fun k244=>cnd ((gI y242 4==0)=true) (k244 ([],upd (rh p201 0 CR) [(6,.box (upd (rb p201 6 0 A2) [(23,.t (tI (gI y242 0))),(24,.t (.sl 10 (gL y242 1))),(25,.t (tI (gI y242 2))),(26,.t (tI (gI y242 3))),(31,.t (tI (w64 (cI p201 6 31+1))))])),(10,.box (tv (gt [0,13,0,0] y242 0 [])))])) (k244 ([],upd (rh p201 0 CR) [(6,.box (upd (rb p201 6 0 A2) [(31,.t (tI (w64 (cI p201 6 31+1))))])),(10,.box (tv (gt [0,13,0,0] y242 0 [])))])))) (cnd ((length (cL p201 6 28):Int)=0) none (cnd (1=1∧0≤wG (cI p201 6 31) (length (cL p201 6 28):Int)) (Option.bind (cL p201 6 28)[wH (wG (cI p201 6 31) (length (cL p201 6 28):Int))]? fun y246=>cnd (okI y246 0) (bd [4,0] (AA C n 104 [tI (gI y246 0),tI (cI p201 6 5)]) fun y247=>join (GH n ff p201 p122 y236 y247 y131 k204) fun k249=>cnd (decide ((length (gL y247 0):Int)>0)=true) (Option.bind (gL y247 0)[0]? fun y250=>cnd (okI y250 0) (k249 ([.t (.bool (gI y250 0==cI p201 6 5))],upd (rh p201 0 Gf) [(6,.box (upd (rb p201 6 0 A2) [(31,.t (tI (w64 (cI p201 6 31+1))))]))])) none) (k249 ([.t (.bool false)],upd (rh p201 0 Gf) [(6,.box (upd (rb p201 6 0 A2) [(31,.t (tI (w64 (cI p201 6 31+1))))]))]))) none) none))))) none))) (k125 ([],rh p201 0 CH))
noncomputable def RI (n:Nat) (ff:Nat→Rec) (y131:List Tree) (p122:ST) (k125:KT) (p132:ST):RT:=cnd (vB p132 0=true) (AH (D6 n ff y131 p122 k125) n ([.t (tI 0)],upd (rh p132 0 Gf) [(6,.box (upd (rb p132 6 0 A2) [(33,.t (.bool true)),(34,.t (tI (vI p122 1)))]))])) (AH (D6 n ff y131 p122 k125) n ([.t (tI 0)],rh p132 0 Gf))
noncomputable def IX (n:Nat) (ff:Nat→Rec) (k123:KT) (p122:ST) (k125:KT) (p127:ST):RT:=cnd (vB p127 0=true) (k123 ([],rh p127 0 CH)) (bd [0,13,0,0,0,0,0,0,0,0,0,1,2,5,0] (AA C n 80 (ct [0,13,0,0] p127 6 19 [])) fun y129=>bd [1] (AA C n 81 (ct [0,0,5,2] p127 6 15 [])) fun y130=>bd [0,0,5,2,11,0] (AA C n 82 (ct [0,0,5,2] p127 6 15 (gt kG y129 6 []))) fun y131=>join (RI n ff y131 p122 k125) fun k133=>cnd ((!(gB y130 0))=true) (bd [1] (AA C n 81 (gt [0,0,5,2] y131 0 [])) fun y134=>k133 ([.t (.bool (gB y134 0))],upd (rh p127 0 Gf) [(6,.box (upd (rb p127 6 0 A2) [(15,AV.t (tI (gI y131 0))),(16,.t (tI (gI y131 1))),(17,.t (.sl 2 (gL y131 2))),(18,.t (.str (gS y131 3))),(19,.t (tI (gI y129 0))),(20,.t (.sl 10 (gL y129 1))),(21,.t (tI (gI y129 2))),(22,.t (tI (gI y129 3)))])),(7,.box (tv (gt [0,13,0,0] y129 0 []))),(9,.box (tv (gt [0,0,5,2] y131 0 [])))])) (k133 ([.t (.bool false)],upd (rh p127 0 Gf) [(6,.box (upd (rb p127 6 0 A2) [(15,.t (tI (gI y131 0))),(16,.t (tI (gI y131 1))),(17,.t (.sl 2 (gL y131 2))),(18,.t (.str (gS y131 3))),(19,.t (tI (gI y129 0))),(20,AV.t (Tree.sl 10 (gL y129 1))),(21,.t (tI (gI y129 2))),(22,.t (tI (gI y129 3)))])),(7,.box (tv (gt [0,13,0,0] y129 0 []))),(9,.box (tv (gt [0,0,5,2] y131 0 [])))])))
noncomputable def OZ (n:Nat) (ff:Nat→Rec) (k123:KT) (p122 p124:ST) (k125:KT):RT:=bd [0,1] (AA C n 76 (ct [0,13,0,0] p124 6 19 [])) fun y126=>join (IX n ff k123 p122 k125) fun k128=>cnd ((!(gB y126 1))=true) (k128 ([.t (.bool true)],rh p124 0 CH)) (k128 ([.t (.bool ((gI y126 0) != vI p122 1))],rh p124 0 CH))
noncomputable def Vx (n:Nat) (ff:Nat→Rec) (k123:KT) (p122:ST):RT:=ff 11 (List Tree) (.fn 52 [AV.ptr 6 0,.t (tI (vI p122 1))]) (rh p122 0 C4) fun rs h1=>cnd (BH C.P (A6 C.P 52) rs=true) (EC (rh p122 0 C4) h1 fun hs=>k123 (rs,hs)) none
noncomputable def ZD (n:Nat) (ff:Nat→Rec) (k123:KT) (p122:ST):RT:=AH (OZ n ff k123 p122) n ([],rh p122 0 CH)
theorem vC21_3 (n:Nat) (ff:Nat→Rec) (k123:KT) (p122:ST):Da C (Fk C (pcx C (AA C n)) n ff Ge 10) (pcx C (AA C n)) n 52 [AV.ptr 6 0,.t (tI (vI p122 1))] (rh p122 0 C4) (fun rs h1=>cnd (BH C.P (A6 C.P 52) rs=true) (EC (rh p122 0 C4) h1 fun hs=>k123 (rs,hs)) none)=ZD n ff k123 p122:=by kernel_rfl
theorem tC21_3 (n:Nat) (k123:KT) (p122:ST):Vx n (fI C n) k123 p122=ZD n (fI C n) k123 p122:=(Ga C n Ge 10 _ 52 _ _ _).trans (vC21_3 n (fI C n) k123 p122)
noncomputable def IW (n:Nat) (ff:Nat→Rec) (k332:KT) (p331:ST) (k336:KT) (p338:ST):RT:=cnd (vB p338 0=true) (k332 ([],rh p338 0 CH)) (bd [0,13,0,0,0,0,0,0,0,0,0,1,2,5,0] (AA C n 80 (ct [0,13,0,0] p338 6 23 [])) fun y340=>cnd (decide (vI p331 1<cI p338 6 10)=true) (k336 ([],upd (rh p338 0 CH) [(6,.box (upd (rb p338 6 0 A2) [(23,.t (tI (gI y340 0))),(24,.t (.sl 10 (gL y340 1))),(25,.t (tI (gI y340 2))),(26,.t (tI (gI y340 3)))]))])) (bd [0,0,0,0,0,0,0,0,2,0,0,0,5,0,0,12,0] (AA C n 83 (ct kS p338 6 0 (tI (vI p331 1)::gt kG y340 6 []))) fun y341=>cnd (length (gL y341 15)=0∧AP p338 6 27+AJ p338 6 27<length (oEs p338 0)) (cnd (AD p338 0=AL p338 6 27) (cnd ((cI p338 6 14==1)=true) (cnd ((gI y341 14==2)=true) (k336 ([],upd (rh p338 0 CH) [(6,.box (upd (rb p338 6 0 A2) [(0,.t (tI (gI y341 0))),(1,.t (tI (gI y341 1))),(2,.t (tI (gI y341 2))),(3,.t (tI (gI y341 3))),(4,.t (tI (gI y341 4))),(5,.t (tI (gI y341 5))),(6,.t (tI (gI y341 6))),(7,.t (tI (gI y341 7))),(8,.t (.str (gS y341 8))),(9,.t (tI (gI y341 9))),(10,.t (tI (gI y341 10))),(11,.t (tI (gI y341 11))),(12,.t (.sl 2 (gL y341 12))),(13,.t (tI (gI y341 13))),(14,.t (tI (gI y341 14))),(23,.t (tI (gI y340 0))),(24,.t (.sl 10 (gL y340 1))),(25,.t (tI (gI y340 2))),(26,.t (tI (gI y340 3))),(35,.t (.bool true)),(36,.t (tI (vI p331 1)))]))])) (k336 ([],upd (rh p338 0 CH) [(6,.box (upd (rb p338 6 0 A2) [(0,.t (tI (gI y341 0))),(1,.t (tI (gI y341 1))),(2,.t (tI (gI y341 2))),(3,.t (tI (gI y341 3))),(4,AV.t (tI (gI y341 4))),(5,.t (tI (gI y341 5))),(6,.t (tI (gI y341 6))),(7,.t (tI (gI y341 7))),(8,.t (.str (gS y341 8))),(9,.t (tI (gI y341 9))),(10,.t (tI (gI y341 10))),(11,.t (tI (gI y341 11))),(12,.t (.sl 2 (gL y341 12))),(13,.t (tI (gI y341 13))),(14,.t (tI (gI y341 14))),(23,.t (tI (gI y340 0))),(24,.t (.sl 10 (gL y340 1))),(25,.t (tI (gI y340 2))),(26,.t (tI (gI y340 3)))]))]))) (k336 ([],upd (rh p338 0 CH) [(6,.box (upd (rb p338 6 0 A2) [(0,.t (tI (gI y341 0))),(1,.t (tI (gI y341 1))),(2,.t (tI (gI y341 2))),(3,.t (tI (gI y341 3))),(4,.t (tI (gI y341 4))),(5,.t (tI (gI y341 5))),(6,.t (tI (gI y341 6))),(7,.t (tI (gI y341 7))),(8,.t (.str (gS y341 8))),(9,.t (tI (gI y341 9))),(10,.t (tI (gI y341 10))),(11,.t (tI (gI y341 11))),(12,.t (.sl 2 (gL y341 12))),(13,.t (tI (gI y341 13))),(14,.t (tI (gI y341 14))),(23,AV.t (tI (gI y340 0))),(24,.t (.sl 10 (gL y340 1))),(25,.t (tI (gI y340 2))),(26,.t (tI (gI y340 3)))]))]))) none) (cnd (AD p338 0=AL p338 6 27∧(9=9∨9=0)∧AP p338 6 27+AJ p338 6 27≤length (oEs p338 0)∧AJ p338 6 27+length (gL y341 15)≤1073741824) (cnd ((cI p338 6 14==1)=true) (cnd ((gI y341 14==2)=true) (k336 ([],upd (rh p338 0 CH) [(0,.row false (AL p338 6 27+1) 9 (take (AJ p338 6 27) (drop (AP p338 6 27) (oEs p338 0))++gL y341 15)),(6,.box (upd (rb p338 6 0 A2) [(0,.t (tI (gI y341 0))),(1,.t (tI (gI y341 1))),(2,.t (tI (gI y341 2))),(3,.t (tI (gI y341 3))),(4,.t (tI (gI y341 4))),(5,AV.t (tI (gI y341 5))),(6,.t (tI (gI y341 6))),(7,.t (tI (gI y341 7))),(8,.t (.str (gS y341 8))),(9,.t (tI (gI y341 9))),(10,.t (tI (gI y341 10))),(11,.t (tI (gI y341 11))),(12,.t (.sl 2 (gL y341 12))),(13,.t (tI (gI y341 13))),(14,.t (tI (gI y341 14))),(23,.t (tI (gI y340 0))),(24,.t (.sl 10 (gL y340 1))),(25,.t (tI (gI y340 2))),(26,.t (tI (gI y340 3))),(27,.sref 0 (AL p338 6 27+1) 0 (AJ p338 6 27+length (gL y341 15))),(35,.t (.bool true)),(36,.t (tI (vI p331 1)))]))])) (k336 ([],upd (rh p338 0 CH) [(0,.row false (AL p338 6 27+1) 9 (take (AJ p338 6 27) (drop (AP p338 6 27) (oEs p338 0))++gL y341 15)),(6,.box (upd (rb p338 6 0 A2) [(0,.t (tI (gI y341 0))),(1,.t (tI (gI y341 1))),(2,.t (tI (gI y341 2))),(3,.t (tI (gI y341 3))),(4,.t (tI (gI y341 4))),(5,.t (tI (gI y341 5))),(6,.t (tI (gI y341 6))),(7,.t (tI (gI y341 7))),(8,.t (.str (gS y341 8))),(9,.t (tI (gI y341 9))),(10,.t (tI (gI y341 10))),(11,.t (tI (gI y341 11))),(12,AV.t (Tree.sl 2 (gL y341 12))),(13,.t (tI (gI y341 13))),(14,.t (tI (gI y341 14))),(23,.t (tI (gI y340 0))),(24,.t (.sl 10 (gL y340 1))),(25,.t (tI (gI y340 2))),(26,.t (tI (gI y340 3))),(27,.sref 0 (AL p338 6 27+1) 0 (AJ p338 6 27+length (gL y341 15)))]))]))) (k336 ([],upd (rh p338 0 CH) [(0,.row false (AL p338 6 27+1) 9 (take (AJ p338 6 27) (drop (AP p338 6 27) (oEs p338 0))++gL y341 15)),(6,.box (upd (rb p338 6 0 A2) [(0,.t (tI (gI y341 0))),(1,.t (tI (gI y341 1))),(2,.t (tI (gI y341 2))),(3,.t (tI (gI y341 3))),(4,.t (tI (gI y341 4))),(5,.t (tI (gI y341 5))),(6,.t (tI (gI y341 6))),(7,.t (tI (gI y341 7))),(8,AV.t (Tree.str (gS y341 8))),(9,.t (tI (gI y341 9))),(10,.t (tI (gI y341 10))),(11,.t (tI (gI y341 11))),(12,.t (.sl 2 (gL y341 12))),(13,.t (tI (gI y341 13))),(14,.t (tI (gI y341 14))),(23,.t (tI (gI y340 0))),(24,.t (.sl 10 (gL y340 1))),(25,.t (tI (gI y340 2))),(26,.t (tI (gI y340 3))),(27,.sref 0 (AL p338 6 27+1) 0 (AJ p338 6 27+length (gL y341 15)))]))]))) none)))
noncomputable def HB (n:Nat) (ff:Nat→Rec) (k332:KT) (p331 p333:ST) (k334:KT):RT:=join (Dd n ff k334) fun k336=>bd [0,1] (AA C n 76 (ct [0,13,0,0] p333 6 23 [])) fun y337=>join (IW n ff k332 p331 k336) fun k339=>cnd ((!(gB y337 1))=true) (k339 ([.t (.bool true)],rh p333 0 CH)) (k339 ([.t (.bool ((gI y337 0) != vI p331 1))],rh p333 0 CH))
noncomputable def Vw (n:Nat) (ff:Nat→Rec) (k332:KT) (p331:ST):RT:=ff 11 (List Tree) (.fn 53 [AV.ptr 6 0,.t (tI (vI p331 1))]) (rh p331 0 C4) fun rs h1=>cnd (BH C.P (A6 C.P 53) rs=true) (EC (rh p331 0 C4) h1 fun hs=>k332 (rs,hs)) none
noncomputable def ZC (n:Nat) (ff:Nat→Rec) (k332:KT) (p331:ST):RT:=AH (HB n ff k332 p331) n ([],rh p331 0 CH)
theorem vC21_4 (n:Nat) (ff:Nat→Rec) (k332:KT) (p331:ST):Da C (Fk C (pcx C (AA C n)) n ff Ge 10) (pcx C (AA C n)) n 53 [AV.ptr 6 0,.t (tI (vI p331 1))] (rh p331 0 C4) (fun rs h1=>cnd (BH C.P (A6 C.P 53) rs=true) (EC (rh p331 0 C4) h1 fun hs=>k332 (rs,hs)) none)=ZC n ff k332 p331:=by kernel_rfl
theorem tC21_4 (n:Nat) (k332:KT) (p331:ST):Vw n (fI C n) k332 p331=ZC n (fI C n) k332 p331:=(Ga C n Ge 10 _ 53 _ _ _).trans (vC21_4 n (fI C n) k332 p331)
noncomputable def RH (n:Nat) (ff:Nat→Rec) (p360:ST) (k361:KT) (p362:ST):RT:=cnd (vB p362 0=true) (bd [0,0,0,0,0,0,0,0,2,0,0,0,5,0,0,12,0] (AA C n 84 (ct kS p362 6 0 [tI (vI p360 1)])) fun y368=>cnd (((gI y368 16) != 0)=true) (k361 ([],upd (rh p362 0 CH) [(6,.box (upd (rb p362 6 0 A2) [(14,.t (tI 3))]))])) (cnd (length (gL y368 15)=0∧AP p362 6 27+AJ p362 6 27<length (oEs p362 0)) (cnd (AD p362 0=AL p362 6 27) (k361 ([],upd (rh p362 0 CH) [(6,.box (upd (rb p362 6 0 A2) [(0,.t (tI (gI y368 0))),(1,.t (tI (gI y368 1))),(2,.t (tI (gI y368 2))),(3,.t (tI (gI y368 3))),(4,.t (tI (gI y368 4))),(5,.t (tI (gI y368 5))),(6,.t (tI (gI y368 6))),(7,.t (tI (gI y368 7))),(8,.t (.str (gS y368 8))),(9,.t (tI (gI y368 9))),(10,AV.t (tI (gI y368 10))),(11,.t (tI (gI y368 11))),(12,.t (.sl 2 (gL y368 12))),(13,.t (tI (gI y368 13))),(14,.t (tI (gI y368 14)))]))])) none) (cnd (AD p362 0=AL p362 6 27∧(9=9∨9=0)∧AP p362 6 27+AJ p362 6 27≤length (oEs p362 0)∧AJ p362 6 27+length (gL y368 15)≤1073741824) (k361 ([],upd (rh p362 0 CH) [(0,.row false (AL p362 6 27+1) 9 (take (AJ p362 6 27) (drop (AP p362 6 27) (oEs p362 0))++gL y368 15)),(6,.box (upd (rb p362 6 0 A2) [(0,.t (tI (gI y368 0))),(1,.t (tI (gI y368 1))),(2,.t (tI (gI y368 2))),(3,.t (tI (gI y368 3))),(4,.t (tI (gI y368 4))),(5,.t (tI (gI y368 5))),(6,.t (tI (gI y368 6))),(7,AV.t (tI (gI y368 7))),(8,.t (.str (gS y368 8))),(9,.t (tI (gI y368 9))),(10,.t (tI (gI y368 10))),(11,.t (tI (gI y368 11))),(12,.t (.sl 2 (gL y368 12))),(13,.t (tI (gI y368 13))),(14,.t (tI (gI y368 14))),(27,.sref 0 (AL p362 6 27+1) 0 (AJ p362 6 27+length (gL y368 15)))]))])) none))) (k361 ([],rh p362 0 CH))
noncomputable def Vv (n:Nat) (ff:Nat→Rec) (k361:KT) (p360:ST):RT:=ff 11 (List Tree) (.fn 54 [AV.ptr 6 0,.t (tI (vI p360 1))]) (rh p360 0 C4) fun rs h1=>cnd (BH C.P (A6 C.P 54) rs=true) (EC (rh p360 0 C4) h1 fun hs=>k361 (rs,hs)) none
noncomputable def S5 (n:Nat) (ff:Nat→Rec) (k361:KT) (p360:ST):RT:=join (RH n ff p360 k361) fun k363=>cnd ((cI p360 6 14==1)=true) (cnd ((cI p360 6 13==vI p360 1)=true) (k363 ([.t (.bool (!(decide (cI p360 6 31≥(10000:Int)))))],rh p360 0 CH)) (k363 ([.t (.bool false)],rh p360 0 CH))) (k363 ([.t (.bool false)],rh p360 0 CH))
theorem vC21_5 (n:Nat) (ff:Nat→Rec) (k361:KT) (p360:ST):Da C (Fk C (pcx C (AA C n)) n ff Ge 10) (pcx C (AA C n)) n 54 [AV.ptr 6 0,.t (tI (vI p360 1))] (rh p360 0 C4) (fun rs h1=>cnd (BH C.P (A6 C.P 54) rs=true) (EC (rh p360 0 C4) h1 fun hs=>k361 (rs,hs)) none)=S5 n ff k361 p360:=by kernel_rfl
theorem TM (n:Nat) (k361:KT) (p360:ST):Vv n (fI C n) k361 p360=S5 n (fI C n) k361 p360:=(Ga C n Ge 10 _ 54 _ _ _).trans (vC21_5 n (fI C n) k361 p360)
noncomputable def ZW (n:Nat) (ff:Nat→Rec) (k18:KT) (p60:ST) (y14 y15 y16:List Tree) (p358:ST):RT:=join (Dd n ff k18) fun k370=>Vv n ff k370 ([AV.ptr 6 0,.t (tI (vI p60 0))],upd (rh p358 0 C4) [(1,.row true 0 15 [[tI (gI y14 0),tI (gI y14 1),tI (gI y14 2),tI (gI y14 3),tI (gI y14 4),tI (gI y14 5),tI (gI y14 6),tI (gI y14 7),.str (gS y14 8),tI (gI y14 9),tI (gI y14 10),tI (gI y14 11),.sl 2 (gL y14 12),tI (gI y14 13),tI (gI y14 14)]]),(2,.row true 0 4 [[tI (gI y15 0),tI (gI y15 1),.sl 2 (gL y15 2),.str (gS y15 3)]]),(3,.row true 0 4 [[tI (gI y16 0),.sl 10 (gL y16 1),tI (gI y16 2),tI (gI y16 3)]])])
noncomputable def ZV (n:Nat) (ff:Nat→Rec) (k18:KT) (p60:ST) (y14 y15 y16:List Tree) (p329:ST):RT:=join (ZW n ff k18 p60 y14 y15 y16) fun k359=>Vw n ff k359 ([AV.ptr 6 0,.t (tI (vI p60 0))],upd (rh p329 0 C4) [(1,.row true 0 15 [[tI (gI y14 0),tI (gI y14 1),tI (gI y14 2),tI (gI y14 3),tI (gI y14 4),tI (gI y14 5),tI (gI y14 6),tI (gI y14 7),.str (gS y14 8),tI (gI y14 9),tI (gI y14 10),tI (gI y14 11),.sl 2 (gL y14 12),tI (gI y14 13),tI (gI y14 14)]]),(2,.row true 0 4 [[tI (gI y15 0),tI (gI y15 1),.sl 2 (gL y15 2),Tree.str (gS y15 3)]]),(3,.row true 0 4 [[tI (gI y16 0),.sl 10 (gL y16 1),tI (gI y16 2),tI (gI y16 3)]])])
noncomputable def ZU (n:Nat) (ff:Nat→Rec) (k18:KT) (p60:ST) (y14 y15 y16:List Tree) (p120:ST):RT:=join (ZV n ff k18 p60 y14 y15 y16) fun k330=>Vx n ff k330 ([AV.ptr 6 0,.t (tI (vI p60 0))],upd (rh p120 0 C4) [(1,.row true 0 15 [[tI (gI y14 0),tI (gI y14 1),tI (gI y14 2),tI (gI y14 3),tI (gI y14 4),tI (gI y14 5),tI (gI y14 6),tI (gI y14 7),.str (gS y14 8),tI (gI y14 9),tI (gI y14 10),tI (gI y14 11),.sl 2 (gL y14 12),tI (gI y14 13),tI (gI y14 14)]]),(2,.row true 0 4 [[tI (gI y15 0),tI (gI y15 1),.sl 2 (gL y15 2),Tree.str (gS y15 3)]]),(3,.row true 0 4 [[tI (gI y16 0),.sl 10 (gL y16 1),tI (gI y16 2),tI (gI y16 3)]])])
noncomputable def UT (n:Nat) (ff:Nat→Rec) (k18:KT) (y14 y15 y16:List Tree) (p60:ST):RT:=cnd ((!(vB p60 1))=true) (cnd ((false=true∨false=false)∧AD p60 4=AL p60 6 40∧(9=9∨9=0)) (cnd ((false=true∨false=false)∧AD p60 5=AL p60 6 41∧(9=9∨9=0)) (some [.sl 9 (take (AJ p60 6 40) (drop (AP p60 6 40) (oEs p60 4))),.sl 9 (take (AJ p60 6 41) (drop (AP p60 6 41) (oEs p60 5))),tI 0]) none) none) (join (ZU n ff k18 p60 y14 y15 y16) fun k121=>Vy n ff k121 ([AV.ptr 6 0,.t (tI (vI p60 0))],upd (rh p60 0 C4) [(1,.row true 0 15 [[tI (gI y14 0),tI (gI y14 1),tI (gI y14 2),tI (gI y14 3),tI (gI y14 4),tI (gI y14 5),tI (gI y14 6),tI (gI y14 7),.str (gS y14 8),tI (gI y14 9),tI (gI y14 10),tI (gI y14 11),.sl 2 (gL y14 12),tI (gI y14 13),tI (gI y14 14)]]),(2,.row true 0 4 [[tI (gI y15 0),tI (gI y15 1),.sl 2 (gL y15 2),.str (gS y15 3)]]),(3,.row true 0 4 [[tI (gI y16 0),.sl 10 (gL y16 1),tI (gI y16 2),tI (gI y16 3)]])]))
noncomputable def Lu (n:Nat) (ff:Nat→Rec) (y14 y15 y16:List Tree) (p17:ST) (k18:KT):RT:=join (UT n ff k18 y14 y15 y16) fun k61=>Zg n ff k61 ([AV.ptr 6 0],upd (rh p17 0 C4) [(1,.row true 0 15 [[tI (gI y14 0),tI (gI y14 1),tI (gI y14 2),tI (gI y14 3),tI (gI y14 4),tI (gI y14 5),tI (gI y14 6),tI (gI y14 7),.str (gS y14 8),tI (gI y14 9),tI (gI y14 10),tI (gI y14 11),.sl 2 (gL y14 12),tI (gI y14 13),tI (gI y14 14)]]),(2,.row true 0 4 [[tI (gI y15 0),tI (gI y15 1),.sl 2 (gL y15 2),.str (gS y15 3)]]),(3,.row true 0 4 [[tI (gI y16 0),.sl 10 (gL y16 1),tI (gI y16 2),tI (gI y16 3)]])])
theorem v21 (n:Nat) (ff:Nat→Rec) (a0 a1 a2 a3 a4 a5 a6 a7 a8:Int) (a9:ByteArray) (a10:TT) (a11:Int) (a12:TT):JG C (Fk C (pcx C (AA C n)) n ff Ge C.depth) (pcx C (AA C n)) n 21 [tI a0,tI a1,tI a2,tI a3,tI a4,tI a5,tI a6,tI a7,tI a8,.str a9,.sl 1 a10,tI a11,.sl 2 a12]=cnd (decide ((length a10:Int)>1000)=true) (some [.sl 9 [],.sl 9 [],tI 4]) (cnd (decide (a11<(-1))=true) (some [.sl 9 [],.sl 9 [],tI 2]) (bd [0] (AA C n 31 [.sl 2 a12]) fun y13=>cnd (((gI y13 0) != 0)=true) (some [.sl 9 [],.sl 9 [],tI 1]) (bd [0,0,0,0,0,0,0,0,2,0,0,0,5,0,0,12,0] (AA C n 2003023 [tI a0,tI a1,tI a2,tI a3,tI a4,tI a5,tI a6,tI 0,.str a9,tI a7,tI a8]) fun y14=>cnd (((gI y14 16) != 0)=true) (some [.sl 9 [],.sl 9 [],tI (gI y14 16)]) (bd [0,0,5,2,0] (AA C n 48 [tI 0]) fun y15=>bd [0,13,0,0,0] (AA C n 49 [tI a5]) fun y16=>AH (Lu n ff y14 y15 y16) n ([],[.row false 0 9 (gL y14 15),.box [],.box [],.box [],.row false 0 9 [],.row false 0 9 [],.box [.t (tI (gI y14 0)),.t (tI (gI y14 1)),.t (tI (gI y14 2)),.t (tI (gI y14 3)),.t (tI (gI y14 4)),.t (tI (gI y14 5)),.t (tI (gI y14 6)),.t (tI (gI y14 7)),.t (.str (gS y14 8)),.t (tI (gI y14 9)),.t (tI (gI y14 10)),.t (tI (gI y14 11)),.t (.sl 2 (gL y14 12)),.t (tI (gI y14 13)),.t (tI (gI y14 14)),.t (tI (gI y15 0)),.t (tI (gI y15 1)),.t (.sl 2 (gL y15 2)),.t (.str (gS y15 3)),.t (tI (gI y16 0)),.t (.sl 10 (gL y16 1)),.t (tI (gI y16 2)),.t (tI (gI y16 3)),.t (tI (gI y16 0)),.t (.sl 10 (gL y16 1)),.t (tI (gI y16 2)),.t (tI (gI y16 3)),.sref 0 0 0 (length (gL y14 15)),.t (.sl 1 a10),.t (tI a11),.t (.sl 2 a12),.t (tI 0),.t (tI 0),.t (.bool false),.t (tI 0),.t (.bool false),.t (tI 0),.t (tI 0),.t (tI 0),.t (tI 0),.sref 4 0 0 0,.sref 5 0 0 0]]))))):=by kernel_rfl
theorem u21 (a0:Int) (a1:Int) (a2:Int) (a3:Int) (a4:Int) (a5:Int) (a6:Int) (a7:Int) (a8:Int) (a9:ByteArray) (a10:List (List Tree)) (a11:Int) (a12:List (List Tree)):C.ext 21 [tI a0,tI a1,tI a2,tI a3,tI a4,tI a5,tI a6,tI a7,tI a8,.str a9,.sl 1 a10,tI a11,.sl 2 a12]=none:=by kernel_rfl
theorem e21 (n:Nat) (a0 a1 a2 a3 a4 a5 a6 a7 a8:Int) (a9:ByteArray) (a10:TT) (a11:Int) (a12:TT):type_of% ((Ej C n 21 _ (by decide) (u21 a0 a1 a2 a3 a4 a5 a6 a7 a8 a9 a10 a11 a12)).trans ((PJ C n Ge 21 _).symm.trans (v21 n (fI C n) a0 a1 a2 a3 a4 a5 a6 a7 a8 a9 a10 a11 a12))):=
 (Ej C n 21 _ (by decide) (u21 a0 a1 a2 a3 a4 a5 a6 a7 a8 a9 a10 a11 a12)).trans ((PJ C n Ge 21 _).symm.trans (v21 n (fI C n) a0 a1 a2 a3 a4 a5 a6 a7 a8 a9 a10 a11 a12))
end Ab
