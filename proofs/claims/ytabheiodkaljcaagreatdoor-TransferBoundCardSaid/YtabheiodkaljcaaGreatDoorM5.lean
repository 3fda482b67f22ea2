/- A part of the proof: see the last text. -/
import Derived.Test.YtabheiodkaljcaaGreatDoorM4
import Derived.Shelf.Strings.Builder1
import Derived.Shelf.Strings.Builder2
import Derived.Shelf.Strings.BuilderF
import Derived.Shelf.Strings.Prefix
import Derived.Shelf.Bits.Mul64
import Derived.Shelf.Strings.Repeat
import Derived.Test.YtabheiodkaljcaaGreatDoorProg
import Derived.Deep.LoopGhost
import Derived.Below
import Derived.WideMake
import Derived.WalkKit
set_option linter.unusedVariables false
set_option linter.unusedSimpArgs false
namespace Ab
open Go
def Blk (d:ByteArray) (x:Seg):Prop:=0≤x.off∧x.off<d.size∧x.off % 16=0∧(x.data.size:Int)=if x.off+16<d.size then 16 else d.size-x.off
theorem Blk.cov {d:ByteArray} {x:Seg} (h:Blk d x) (t:Int):cov x t↔(0≤t∧t<d.size)∧t / 16=x.off / 16:=by
 obtain ⟨h1,h2,h3,h4⟩:=h
 unfold Ab.cov
 rw [h4]
 split<;>omega
def Clo (d:ByteArray) (l:List Span):Prop:=∀t t':Int,AO t l→0≤t'→t'<d.size→t / 16=t' / 16→AO t' l
theorem JL (t:Int):∀(l:List Span),AO t l↔∃x∈l,x.fro≤t∧t<x.to
 |[]=>by simp [AO]
 |x::l=>by simp only [AO,JL t l,List.mem_cons,exists_eq_or_imp]
theorem VB {l:List Span}:∀{b:Int},Canon b l→∀x∈l,¬AO (x.fro-1) l∧¬AO x.to l:=by
 induction l with
 |nil=>intro b _ x hx;cases hx
 |cons y l ih=>
  intro b h x hx
  have h1:=h.2.1
  have hm:∀t,AO t (y::l)↔(y.fro≤t∧t<y.to)∨AO t l:=fun t=>by simp [AO]
  rcases List.mem_cons.1 hx with rfl|hx
  ·rw [hm,hm]
   refine ⟨?_,?_⟩
   ·rintro (a|a)
    ·omega
    ·have:=Bh h.2.2 a;omega
   ·rintro (a|a)
    ·omega
    ·have:=Bh h.2.2 a;omega
  ·obtain ⟨i1,i2⟩:=ih h.2.2 x hx
   have h2:=Fx h.2.2 x hx
   rw [hm,hm]
   refine ⟨?_,?_⟩
   ·rintro (a|a)
    ·omega
    ·exact i1 a
   ·rintro (a|a)
    ·omega
    ·exact i2 a
theorem T8 {n:Int}:∀(k:Nat) (a b:Int),(b-a).toNat≤k→0≤a→a % 16=0→(b % 16=0∨b=n)→b≤n→∀q∈cut a b,q.1 % 16=0∧q.2=if q.1+16<n then q.1+16 else n
 |k,a,b,hk,h0,h1,h2,h3,q,hq=>by
  by_cases hab:a<b
  ·rw [E2 hab] at hq
   have hc:=FY hab
   have e:D2 a b=if a+16<n then a+16 else n:=by
    unfold D2
    rw [show (a / 16+1)*16=a+16 by omega]
    split<;>split<;>omega
   rcases List.mem_cons.1 hq with rfl|hq
   ·exact ⟨h1,e⟩
   ·cases k with
    |zero=>omega
    |succ k=>
     by_cases hb:D2 a b<b
     ·refine T8 k (D2 a b) b (by omega) (by omega) ?_ h2 h3 q hq
      rw [e] at hb ⊢
      split at hb
      ·rw [if_pos (by assumption)];omega
      ·omega
     ·rw [E3 hb] at hq;cases hq
  ·rw [E3 hab] at hq;cases hq
theorem QK {d:ByteArray}:∀{l:List Span} {b:Int},Canon b l→(CD d 0 l).Pairwise (fun x y=>x.off<y.off)∧∀x∈CD d 0 l,b<x.off
 |[],b,h=>⟨by simp [CD],fun x hx=>by simp [CD] at hx⟩
 |s::l,b,h=>by
  obtain ⟨i1,i2⟩:=QK (d:=d) h.2.2
  have e:CD d 0 (s::l)=(cut s.fro s.to).map (raw d 0)++CD d 0 l:=by simp [CD]
  have hm:=E4 _ s.fro s.to (Nat.le_refl _)
  rw [e,List.pairwise_append]
  refine ⟨⟨?_,i1,fun x hx y hy => ?_⟩,fun x hx => ?_⟩
  ·rw [List.pairwise_map]
   refine List.Pairwise.imp_of_mem ?_ (Mn _ s.fro s.to (Nat.le_refl _))
   intro q r hq hr hqr
   have:=hm q hq
   show q.1<r.1
   omega
  ·obtain ⟨q,hq,rfl⟩:=List.mem_map.1 hx
   have:=hm q hq
   have:=i2 y hy
   show q.1<_
   omega
  ·have h1:=h.1;have h2:=h.2.1
   rcases List.mem_append.1 hx with hx|hx
   ·obtain ⟨q,hq,rfl⟩:=List.mem_map.1 hx
    have:=hm q hq
    show _<q.1
    omega
   ·have:=i2 x hx;omega
theorem Tr:∀(l l':List Int),l.Pairwise (· < ·)→(∀x∈l,x∈l')→l.length≤l'.length
 |[],l',h,hs=>by simp
 |x::l,l',h,hs=>by
  rw [List.pairwise_cons] at h
  have hx:=hs x (by simp)
  have:=Tr l (l'.erase x) h.2 fun y hy=>(List.mem_erase_of_ne (by have:=h.1 y hy;omega)).2 (hs y (by simp [hy]))
  rw [List.length_erase_of_mem hx] at this
  have:=List.length_pos_of_mem hx
  simp only [List.length_cons]
  omega
theorem tk_mono {r n:Int} (hr:1≤r) (hn:n≤16):tk r n≤tk r 16:=Int.ediv_le_ediv (by omega) (by omega)
theorem end_len {d:ByteArray} {r:Int} (hr:1≤r∧r≤1000) (l:List Seg) (t:Int) (h:∀x∈l,Ke d x):AZ r t l≤t+l.length*tk r 16:=by
 induction l generalizing t with
 |nil=>simp [AZ]
 |cons x l ih=>
  have h1:=((h x (by simp)).B6 hr).1
  have h2:=(KV (h x (by simp)).pc.1 (h x (by simp)).pc.2.1).1
  have h3:=ih (t+B6 r x) fun y hy=>h y (by simp [hy])
  have h4:=tk_mono (r:=r) (n:=(x.data.size:Int)) (by omega) (by omega)
  simp only [AZ,List.length_cons]
  rw [show ((l.length+1:Nat):Int)*tk r 16=l.length*tk r 16+tk r 16 by rw [Int.natCast_add,Int.add_mul];simp]
  unfold tk at h4
  rw [h1] at h3 ⊢
  unfold tk at h3 ⊢
  omega
structure LBk (d:ByteArray) (a:List Span) (l:List Seg):Prop where
 bk:∀x∈l,Blk d x∧¬AO x.off a
 al:∀t:Int,0≤t→t<d.size→¬AO t a→∃x∈l,cov x t
 od:(l.map fun x=>x.off / 16).Pairwise (· < ·)
theorem QM {d:ByteArray} {a l:List Span} (hl:∀t,AO t l↔(0≤t∧t<d.size)∧¬AO t a) (hc:BB l=0) (hw:Bo l d.size) (ha:Clo d a):LBk d a (CD d 0 l):=by
 have hcn:=Ih ((Ai _).1 hc).2.1 hw
 have hmem:∀x∈CD d 0 l,∃s∈l,∃q∈cut s.fro s.to,x=raw d 0 q:=fun x hx=>by
  unfold CD at hx
  obtain ⟨s,hs,hx⟩:=List.mem_flatMap.1 hx
  obtain ⟨q,hq,rfl⟩:=List.mem_map.1 hx
  exact ⟨s,hs,q,hq,rfl⟩
 have hsp:∀s∈l,0≤s.fro∧s.fro<s.to∧s.to≤d.size∧s.fro % 16=0∧(s.to % 16=0∨s.to=d.size):=fun s hs=>by
  have h1:=Fx hcn s hs
  have h2:=hw s hs
  obtain ⟨o1,o2⟩:=VB hcn s hs
  have m1:AO s.fro l:=(JL _ _).2 ⟨s,hs,by omega⟩
  have m2:AO (s.to-1) l:=(JL _ _).2 ⟨s,hs,by omega⟩
  refine ⟨by omega,h1.2,h2.2,?_,?_⟩
  ·refine Classical.byContradiction fun q=>o1 ((hl _).2 ⟨by omega,fun m => ?_⟩)
   exact ((hl _).1 m1).2 (ha _ _ m (by omega) (by omega) (by omega))
  ·refine Classical.byContradiction fun q=>o2 ((hl _).2 ⟨by omega,fun m => ?_⟩)
   exact ((hl _).1 m2).2 (ha _ _ m (by omega) (by omega) (by omega))
 have hblk:∀x∈CD d 0 l,Blk d x∧¬AO x.off a:=fun x hx=>by
  obtain ⟨s,hs,q,hq,rfl⟩:=hmem x hx
  obtain ⟨k1,k2,k3,k4,k5⟩:=hsp s hs
  have c1:=E4 _ s.fro s.to (Nat.le_refl _) q hq
  obtain ⟨c2,c3⟩:=T8 (n:=d.size) _ s.fro s.to (Nat.le_refl _) k1 k4 k5 k3 q hq
  refine ⟨⟨by show 0≤q.1;omega,by show q.1<_;omega,c2,?_⟩,fun m => ?_⟩
  ·show ((raw d 0 q).data.size:Int)=if q.1+16<d.size then 16 else d.size-q.1
   simp only [raw,ByteArray.size_extract]
   split at c3
   ·rw [if_pos (by assumption)];omega
   ·rw [if_neg (by assumption)];omega
  ·exact ((hl q.1).1 ((JL _ _).2 ⟨s,hs,by omega⟩)).2 m
 refine ⟨hblk,fun t h0 h1 hn => ?_,?_⟩
 ·obtain ⟨s,hs,hst⟩:=(JL _ _).1 ((hl t).2 ⟨⟨h0,h1⟩,hn⟩)
  obtain ⟨q,hq,hq2⟩:=KR _ s.fro s.to (Nat.le_refl _) t hst.1 hst.2
  refine ⟨raw d 0 q,List.mem_flatMap.2 ⟨s,hs,List.mem_map_of_mem hq⟩,?_⟩
  have c1:=E4 _ s.fro s.to (Nat.le_refl _) q hq
  have k3:=hsp s hs
  unfold cov
  show q.1≤t∧t<q.1+((raw d 0 q).data.size:Int)
  simp only [raw,ByteArray.size_extract]
  omega
 ·rw [List.pairwise_map]
  refine List.Pairwise.imp_of_mem ?_ (QK (d:=d) hcn).1
  intro x y hx hy hxy
  have h1:=(hblk x hx).1
  have h2:=(hblk y hy).1
  unfold Blk at h1 h2
  omega
theorem Ny (ser:Int) (l:List Seg):(DH ser l).map (fun x=>(x.off,(x.data.size:Int)))=l.map fun x=>(x.off,(x.data.size:Int)):=by
 cases h:l.getLast? with
 |none=>rw [List.getLast?_eq_none_iff.1 h];rfl
 |some x=>
  obtain ⟨pre,rfl⟩:∃pre,l=pre++[x]:=by
   cases l with
   |nil=>cases h
   |cons y l=>
    have:=List.dropLast_concat_getLast (List.cons_ne_nil y l)
    rw [List.getLast?_eq_some_getLast (List.cons_ne_nil y l),Option.some.injEq] at h
    rw [h] at this
    exact ⟨_,this.symm⟩
  rw [Dm]
  simp
theorem LBk.of {d:ByteArray} {a:List Span} {l l':List Seg} (h:LBk d a l) (e:l'.map (fun x=>(x.off,(x.data.size:Int)))=l.map fun x=>(x.off,(x.data.size:Int))):LBk d a l':=by
 have hm:∀x∈l',∃y∈l,y.off=x.off∧(y.data.size:Int)=x.data.size:=fun x hx=>by
  have:(x.off,(x.data.size:Int))∈l.map fun x=>(x.off,(x.data.size:Int)):=by rw [← e];exact List.mem_map_of_mem hx
  obtain ⟨y,hy,e⟩:=List.mem_map.1 this
  injection e with e1 e2
  exact ⟨y,hy,e1,e2⟩
 have hm':∀y∈l,∃x∈l',y.off=x.off∧(y.data.size:Int)=x.data.size:=fun y hy=>by
  have:(y.off,(y.data.size:Int))∈l'.map fun x=>(x.off,(x.data.size:Int)):=by rw [e];exact List.mem_map_of_mem hy
  obtain ⟨x,hx,e⟩:=List.mem_map.1 this
  injection e with e1 e2
  exact ⟨x,hx,e1.symm,e2.symm⟩
 refine ⟨fun x hx => ?_,fun t h0 h1 hn => ?_,?_⟩
 ·obtain ⟨y,hy,e1,e2⟩:=hm x hx
  obtain ⟨b1,b2⟩:=h.bk y hy
  refine ⟨?_,by rw [← e1];exact b2⟩
  unfold Blk at b1 ⊢
  rw [← e1,← e2]
  exact b1
 ·obtain ⟨y,hy,hc⟩:=h.al t h0 h1 hn
  obtain ⟨x,hx,e1,e2⟩:=hm' y hy
  refine ⟨x,hx,?_⟩
  unfold cov at hc ⊢
  rw [← e1,← e2]
  exact hc
 ·have:=h.od
  have e3:=congrArg (List.map fun q:Int×Int=>q.1 / 16) e
  rw [List.map_map,List.map_map] at e3
  have e4:(l'.map fun x=>x.off / 16)=l.map fun x=>x.off / 16:=e3
  rw [e4]
  exact this
theorem LG.blk {p:Par} {s q:Snd} (hp:POk p) (h:Jn p s) (hq:LG p s q) (hc:complete q=false) (ha:Clo p.d q.acked) :
  LBk p.d q.acked (AY q)∧∃y z,(AY q).getLast? = some y∧(CD p.d 0 (DB q)).getLast? = some z∧y.off=z.off:=by
 have hB:=hq.bat hp h hc
 have hn:=h.num hp
 have hb:=hq.fo.bat hc (by rw [hq.ser];omega)
 have hm:∀t,AO t (DB q)↔(0≤t∧t<p.d.size)∧¬AO t q.acked:=fun t=>by rw [hq.fo.WT,hq.data]
 have hwn:=hq.fo.Qm
 rw [hq.data] at hwn
 have hR:=QM hm hq.fo.Qn hwn ha
 have e0:AY q=DH (s.ser+1) (CD p.d 0 (DB q)):=by
  have e1:AY q=BC q.ses (q.ser+1) q.data (DB q):=rfl
  rw [e1]
  unfold BC
  rw [if_pos hb,hq.ses,hq.data,hq.ser]
 have e:(AY q).map (fun x=>(x.off,(x.data.size:Int)))=(CD p.d 0 (DB q)).map fun x=>(x.off,(x.data.size:Int)):=by rw [e0];exact Ny _ _
 refine ⟨hR.of e,?_⟩
 obtain ⟨pre,x,ex,_⟩:=hB.ex
 have e2:=congrArg List.getLast? e
 rw [List.getLast?_map,List.getLast?_map] at e2
 cases hz:(CD p.d 0 (DB q)).getLast? with
 |none=>
  rw [hz,ex] at e2
  simp at e2
 |some z=>
  rw [hz,ex,List.getLast?_concat] at e2
  simp only [Option.map_some,Option.some.injEq] at e2
  injection e2 with e3 e4
  exact ⟨x,z,by rw [ex];exact List.getLast?_concat ..,rfl,e3⟩
end Ab
set_option linter.unusedVariables false
set_option linter.unusedSimpArgs false
namespace Ab
open Go
theorem fate_or (n r:Int) (hr:1≤r):(Cc n r).head? = some r∨r∉Cc n r:=by
 have hm:=Int.emod_nonneg (n / 8) (show r≠0 by omega)
 unfold Cc
 split
 ·exact .inl rfl
 ·split
  ·exact .inl rfl
  ·split
   ·refine .inr fun h => ?_
    rw [List.mem_singleton] at h
    omega
   ·exact .inr (by simp)
theorem PG {s:Ses} {R:Int} (hR:1≤R) (hk:s.dark=[]):(R∈(CE s R).1∧(CE s R).2=s.dist)∨(R∉(CE s R).1∧(CE s R).2=s.dist+1∧(0≤s.limit→s.dist<s.limit)):=by
 have e:NU s.dark s.now=false:=by rw [hk];simp [NU,AO]
 unfold CE
 rw [if_neg (by rw [e];simp)]
 split
 ·exact .inl ⟨by simp,rfl⟩
 ·split
  ·rename_i h
   exact .inl ⟨List.mem_of_mem_head? h,rfl⟩
  ·rename_i h
   split
   ·exact .inl ⟨by simp,rfl⟩
   ·rcases fate_or (s.picks.getD (s.entered % s.picks.length).toNat 0) R hR with k|k
    ·exact (h k).elim
    ·exact .inr ⟨k,rfl,fun q=>by omega⟩
def TTp (p:Par):Int:=2*p.c.rng+1+tk p.c.rate 16
structure BP (p:Par):Prop where
 dk:p.dk=[]
 l:0≤p.lim∧p.lim≤p.c.loss
 e:p.e=p.b+DP p.c.rate p.d.size+p.c.loss*TTp p
structure BA (p:Par) (X:Int) (Bl:List Int) (v:Int) (s:Ses):Prop where
 x0:0≤X
 v01:0≤v∧v≤1
 bu:s.snd.busy≤p.b+DP p.c.rate p.d.size+X*TTp p
 se:s.snd.ser≤1+X
 sn:(s.sent.length:Int)+s.pend.length≤((p.d.size:Int)+15) / 16+X
 di:X+Bl.length+v≤s.dist
 dl:s.dist≤p.lim
 lo:s.dat.lost+s.rep.lost=s.dist
 pb:∀o∈s.pend,Blk p.d o.seg
 fb:∀f∈s.dat.frames,Blk p.d f.seg
 rc:Clo p.d s.rcv.known
 ra:Clo p.d s.snd.acked
 rf:∀f∈s.rep.frames,Clo p.d f.seg.AX
structure BW (p:Par) (Bl:List Int) (v:Int) (ck:Seg) (s:Ses):Prop where
 cb:Blk p.d ck
 pn:∀o∈s.pend,(o.seg.chk=false→o.at_<s.snd.busy)∧(o.seg.chk=true→o.seg=ck)
 cv:∀t:Int,0≤t→t<p.d.size→AO t s.rcv.known∨t / 16∈Bl∨cov ck t∨(∃o∈s.pend,o.seg.chk=false∧cov o.seg t)∨∃f∈s.dat.frames,cov f.seg t∧f.arr<s.snd.busy+p.c.rng
 lz:∃z,(CD p.d 0 (DB s.snd)).getLast? = some z∧ck.off=z.off
 cs:ck.chk=true∧ck.ser=s.snd.ser
 fc:∀f∈s.dat.frames,f.seg.chk=true→f.seg.ser=s.snd.ser→f.seg=ck
 rq:∀f∈s.rep.frames,f.seg.ser=s.snd.ser→∀t:Int,0≤t→t<p.d.size→AO t f.seg.AX∨t / 16∈Bl
 al:v=0→(∃o∈s.pend,o.seg.chk=true)∨(∃f∈s.dat.frames,f.seg.chk=true∧f.seg.ser=s.snd.ser∧f.arr=s.snd.busy+p.c.rng)∨∃f∈s.rep.frames,f.seg.ser=s.snd.ser∧f.arr=s.snd.busy+2*p.c.rng
def BI (p:Par) (s:Ses):Prop:=∃X Bl v,BA p X Bl v s∧((s.snd.st=1∧∃ck,BW p Bl v ck s)∨(s.snd.st=2∧s.pend=[]∧s.knoAt≤p.e+2*p.c.rng))
theorem Ql {c:CC} {t:Int} {x:Seg} {ds:List Int}:(c.rng∈ds→(Bi c t x ds).lost=c.lost)∧(c.rng∉ds→(Bi c t x ds).lost=c.lost+1):=by
 simp only [Bi,HB]
 exact ⟨fun h=>by rw [if_pos h];omega,fun h=>by rw [if_neg h]⟩
theorem BI.tx {p:Par} {s:Ses} {o:Out} {l:List Out} (hp:POk p) (hb:BP p) (h:BI p s) (q1:Inv p s) (q2:s.pend=o::l) (q3:o.at_=s.now):BI p {Cv s o.seg with pend:=l}:=by
 obtain ⟨X,Bl,v,a,w⟩:=h
 have hr:=hp.rng
 rcases w with ⟨hst,ck,w⟩|⟨_,e,_⟩
 rotate_left
 ·rw [e] at q2;cases q2
 have hrd:=q1.rd
 have hv:=a.v01;have hdi:=a.di;have hdl:=a.dl;have hlo:=a.lo
 have hsn:=a.sn
 rw [q2] at hsn
 simp only [List.length_cons] at hsn
 obtain ⟨o1,o2,o3,o4,o5⟩:=q1.pd o (by rw [q2];simp)
 have hob:=a.pb o (by rw [q2];simp)
 obtain ⟨n1,n2⟩:=w.pn o (by rw [q2];simp)
 have hD:=PG (s:=s) (R:=s.dat.rng) (by omega) (by rw [q1.dk];exact hb.dk)
 obtain ⟨L1,L2⟩:=Ql (c:=s.dat) (t:=s.now) (x:=o.seg) (ds:=(CE s s.dat.rng).1)
 have hlim:=q1.lim
 have hl:=hb.l
 have hsn':(((s.sent++[⟨s.now,o.seg⟩]:List Out).length:Nat):Int)+l.length≤((p.d.size:Int)+15) / 16+X:=by
  simp only [List.length_append,List.length_cons,List.length_nil];omega
 have hfb:∀f∈(Cv s o.seg).dat.frames,Blk p.d f.seg:=fun f hf=>by
  rcases DN hf with hf|⟨d,hd,rfl⟩
  ·exact a.fb f hf
  ·exact hob
 have hA:∀Bl' v',0≤v'∧v'≤1→X+(Bl':List Int).length+v'≤(CE s s.dat.rng).2→BA p X Bl' v' {Cv s o.seg with pend:=l}:=fun Bl' v' k1 k2=>
  ⟨a.x0,k1,a.bu,a.se,hsn',k2,by
   show (CE s s.dat.rng).2≤_
   rcases hD with ⟨d1,d2⟩|⟨d1,d2,d3⟩
   ·omega
   ·have:=d3 (by omega);omega,by
   show (Bi s.dat s.now o.seg (CE s s.dat.rng).1).lost+s.rep.lost=(CE s s.dat.rng).2
   rcases hD with ⟨d1,d2⟩|⟨d1,d2,d3⟩
   ·rw [L1 d1,d2];omega
   ·rw [L2 d1,d2];omega,fun x hx=>a.pb x (by rw [q2];simp [hx]),hfb,a.rc,a.ra,a.rf⟩
 have hold:∀f∈s.dat.frames,f∈(Cv s o.seg).dat.frames:=fun f hf=>CA.2 (.inl hf)
 have hpn:∀x∈l,(x.seg.chk=false→x.at_<s.snd.busy)∧(x.seg.chk=true→x.seg=ck):=fun x hx=>w.pn x (by rw [q2];simp [hx])
 have hfc:∀f∈(Cv s o.seg).dat.frames,f.seg.chk=true→f.seg.ser=s.snd.ser→f.seg=ck:=fun f hf hc hs=>by
  rcases DN hf with hf|⟨d,hd,rfl⟩
  ·exact w.fc f hf hc hs
  ·exact n2 hc
 cases hc:o.seg.chk with
 |false=>
  have hlt:=n1 hc
  rcases hD with ⟨d1,d2⟩|⟨d1,d2,d3⟩
  ·have hg:(⟨s.now+s.dat.rng,s.dat.sent,o.seg⟩:Frame)∈(Cv s o.seg).dat.frames:=CA.2 (.inr ⟨_,d1,rfl⟩)
   refine ⟨X,Bl,v,hA Bl v hv (by omega),.inl ⟨hst,ck,w.cb,hpn,fun t h0 h1 => ?_,w.lz,w.cs,hfc,w.rq,fun hz => ?_⟩⟩
   ·rcases w.cv t h0 h1 with k|k|k|⟨x,hx,k⟩|⟨f,hf,k⟩
    ·exact .inl k
    ·exact .inr (.inl k)
    ·exact .inr (.inr (.inl k))
    ·rw [q2] at hx
     rcases List.mem_cons.1 hx with rfl|hx
     ·exact .inr (.inr (.inr (.inr ⟨_,hg,k.2,by show s.now+s.dat.rng<s.snd.busy+_;omega⟩)))
     ·exact .inr (.inr (.inr (.inl ⟨x,hx,k⟩)))
    ·exact .inr (.inr (.inr (.inr ⟨f,hold f hf,k⟩)))
   ·rcases w.al hz with ⟨x,hx,k⟩|⟨f,hf,k⟩|k
    ·rw [q2] at hx
     rcases List.mem_cons.1 hx with rfl|hx
     ·rw [hc] at k;cases k
     ·exact .inl ⟨x,hx,k⟩
    ·exact .inr (.inl ⟨f,hold f hf,k⟩)
    ·exact .inr (.inr k)
  ·refine ⟨X,o.seg.off / 16::Bl,v,hA _ v hv (by simp only [List.length_cons];omega),.inl ⟨hst,ck,w.cb,hpn,fun t h0 h1 => ?_,w.lz,w.cs,hfc,fun f hf hs t h0 h1 => ?_,fun hz => ?_⟩⟩
   ·rcases w.cv t h0 h1 with k|k|k|⟨x,hx,k⟩|⟨f,hf,k⟩
    ·exact .inl k
    ·exact .inr (.inl (List.mem_cons_of_mem _ k))
    ·exact .inr (.inr (.inl k))
    ·rw [q2] at hx
     rcases List.mem_cons.1 hx with rfl|hx
     ·have:=((hob.cov t).1 k.2).2
      exact .inr (.inl (by rw [this];exact List.mem_cons_self ..))
     ·exact .inr (.inr (.inr (.inl ⟨x,hx,k⟩)))
    ·exact .inr (.inr (.inr (.inr ⟨f,hold f hf,k⟩)))
   ·rcases w.rq f hf hs t h0 h1 with k|k
    ·exact .inl k
    ·exact .inr (List.mem_cons_of_mem _ k)
   ·rcases w.al hz with ⟨x,hx,k⟩|⟨f,hf,k⟩|k
    ·rw [q2] at hx
     rcases List.mem_cons.1 hx with rfl|hx
     ·rw [hc] at k;cases k
     ·exact .inl ⟨x,hx,k⟩
    ·exact .inr (.inl ⟨f,hold f hf,k⟩)
    ·exact .inr (.inr k)
 |true=>
  have hcv:∀t:Int,0≤t→t<p.d.size→AO t s.rcv.known∨t / 16∈Bl∨cov ck t∨(∃o∈l,o.seg.chk=false∧cov o.seg t)∨∃f∈(Cv s o.seg).dat.frames,cov f.seg t∧f.arr<s.snd.busy+p.c.rng:=fun t h0 h1=>by
   rcases w.cv t h0 h1 with k|k|k|⟨x,hx,k⟩|⟨f,hf,k⟩
   ·exact .inl k
   ·exact .inr (.inl k)
   ·exact .inr (.inr (.inl k))
   ·rw [q2] at hx
    rcases List.mem_cons.1 hx with rfl|hx
    ·rw [hc] at k;cases k.1
    ·exact .inr (.inr (.inr (.inl ⟨x,hx,k⟩)))
   ·exact .inr (.inr (.inr (.inr ⟨f,hold f hf,k⟩)))
  have hat:=o5 hc
  rcases hD with ⟨d1,d2⟩|⟨d1,d2,d3⟩
  ·have hg:(⟨s.now+s.dat.rng,s.dat.sent,o.seg⟩:Frame)∈(Cv s o.seg).dat.frames:=CA.2 (.inr ⟨_,d1,rfl⟩)
   refine ⟨X,Bl,v,hA Bl v hv (by omega),.inl ⟨hst,ck,w.cb,hpn,hcv,w.lz,w.cs,hfc,w.rq,fun hz =>.inr (.inl ⟨_,hg,hc,?_,?_⟩)⟩⟩
   ·show o.seg.ser=_;rw [n2 hc];exact w.cs.2
   ·show s.now+s.dat.rng=s.snd.busy+p.c.rng;omega
  ·exact ⟨X,Bl,1,hA Bl 1 (by omega) (by omega),.inl ⟨hst,ck,w.cb,hpn,hcv,w.lz,w.cs,hfc,w.rq,fun hz=>by omega⟩⟩
theorem BA.rx {p:Par} {s s':Ses} {f:Frame} {l:List Frame} {X:Int} {Bl:List Int} {v:Int} (hp:POk p) (hb:BP p) (a:BA p X Bl v s) (q1:Inv p s) (q3:s.dat.frames=f::l) (hF:RxF p s s' f l) {v':Int} (hv:0≤v'∧v'≤1) (hd:X+Bl.length+v'≤s'.dist):BA p X Bl v' s':=by
 have hr:=hp.rng
 have hlim:=q1.lim
 have hl:=hb.l
 have hdl:=a.dl;have hlo:=a.lo
 have hfb:=a.fb f (by rw [q3];simp)
 have hrc:Clo p.d s'.rcv.known:=by
  intro t t' h h0 h1 he
  rw [hF.mem] at h ⊢
  rcases h with h|h
  ·exact .inl (a.rc t t' h h0 h1 he)
  ·have:=(hfb.cov t).1 h
   exact .inr ((hfb.cov t').2 ⟨⟨h0,h1⟩,by omega⟩)
 have hD:=PG (s:=s) (R:=p.c.rng) (by omega) (by rw [q1.dk];exact hb.dk)
 obtain ⟨L1,L2⟩:=Ql (c:=s.rep) (t:=s.now) (x:=Bn s.rcv f.seg) (ds:=(CE s p.c.rng).1)
 rw [q1.rr] at L1 L2
 refine ⟨a.x0,hv,by rw [hF.snd];exact a.bu,by rw [hF.snd];exact a.se,by rw [hF.sent,hF.pend];exact a.sn,hd,?_,?_,by rw [hF.pend];exact a.pb,by rw [hF.dat];exact fun x hx=>a.fb x (by rw [q3];exact List.mem_cons_of_mem _ hx),hrc,by rw [hF.snd];exact a.ra,?_⟩
 ·cases hc:f.seg.chk with
  |false=>rw [(hF.no hc).2.2.2];exact hdl
  |true=>
   rw [(hF.yes hc).2.2.2.2]
   rcases hD with ⟨d1,d2⟩|⟨d1,d2,d3⟩
   ·omega
   ·have:=d3 (by omega);omega
 ·rw [hF.dat]
  cases hc:f.seg.chk with
  |false=>rw [(hF.no hc).2.2.2,(hF.no hc).1];exact hlo
  |true=>
   rw [(hF.yes hc).2.2.2.2,(hF.yes hc).2.1]
   rcases hD with ⟨d1,d2⟩|⟨d1,d2,d3⟩
   ·rw [L1 d1,d2];exact hlo
   ·rw [L2 d1,d2];show s.dat.lost+(s.rep.lost+1)=_;omega
 ·cases hc:f.seg.chk with
  |false=>rw [(hF.no hc).1];exact a.rf
  |true=>
   rw [(hF.yes hc).2.1]
   intro x hx
   rcases DN hx with hx|⟨d,hd,rfl⟩
   ·exact a.rf x hx
   ·show Clo p.d (Bn s.rcv f.seg).AX
    rw [hF.cl];exact hrc
theorem BI.rx {p:Par} {s s':Ses} {f:Frame} {l:List Frame} (hp:POk p) (hb:BP p) (h:BI p s) (q1:Inv p s) (q3:s.dat.frames=f::l) (q4:f.arr=s.now) (hF:RxF p s s' f l):BI p s':=by
 obtain ⟨X,Bl,v,a,w⟩:=h
 have hr:=hp.rng
 have hdi:=a.di;have hv:=a.v01
 have hD:=PG (s:=s) (R:=p.c.rng) (by omega) (by rw [q1.dk];exact hb.dk)
 have hdist:s.dist≤s'.dist:=by
  cases hc:f.seg.chk with
  |false=>rw [(hF.no hc).2.2.2];exact Int.le_refl _
  |true=>rw [(hF.yes hc).2.2.2.2];omega
 rcases w with ⟨hst,ck,w⟩|⟨w1,w2,w3⟩
 rotate_left
 ·exact ⟨X,Bl,v,a.rx hp hb q1 q3 hF hv (by omega),.inr ⟨by rw [hF.snd];exact w1,by rw [hF.pend];exact w2,by rw [hF.knoAt];exact w3⟩⟩
 have hst':s'.snd.st=1:=by rw [hF.snd];exact hst
 have hfd:=q1.fd
 have hcv:∀t:Int,0≤t→t<p.d.size→AO t s'.rcv.known∨t / 16∈Bl∨cov ck t∨(∃o∈s'.pend,o.seg.chk=false∧cov o.seg t)∨∃f∈s'.dat.frames,cov f.seg t∧f.arr<s'.snd.busy+p.c.rng:=fun t h0 h1=>by
  rw [hF.pend,hF.dat,hF.snd,hF.mem]
  rcases w.cv t h0 h1 with k|k|k|k|⟨g,hg,k⟩
  ·exact .inl (.inl k)
  ·exact .inr (.inl k)
  ·exact .inr (.inr (.inl k))
  ·exact .inr (.inr (.inr (.inl k)))
  ·rw [q3] at hg
   rcases List.mem_cons.1 hg with rfl|hg
   ·exact .inl (.inr k.1)
   ·exact .inr (.inr (.inr (.inr ⟨g,hg,k⟩)))
 have hpn:∀o∈s'.pend,(o.seg.chk=false→o.at_<s'.snd.busy)∧(o.seg.chk=true→o.seg=ck):=by rw [hF.pend,hF.snd];exact w.pn
 have hlz:∃z,(CD p.d 0 (DB s'.snd)).getLast? = some z∧ck.off=z.off:=by rw [hF.snd];exact w.lz
 have hcs:ck.chk=true∧ck.ser=s'.snd.ser:=by rw [hF.snd];exact w.cs
 have hfc:∀f∈s'.dat.frames,f.seg.chk=true→f.seg.ser=s'.snd.ser→f.seg=ck:=by
  rw [hF.dat,hF.snd];exact fun g hg=>w.fc g (by rw [q3];exact List.mem_cons_of_mem _ hg)
 cases hc:f.seg.chk with
 |false=>
  obtain ⟨r1,r2,r3,r4⟩:=hF.no hc
  refine ⟨X,Bl,v,a.rx hp hb q1 q3 hF hv (by omega),.inl ⟨hst',ck,w.cb,hpn,hcv,hlz,hcs,hfc,by rw [r1,hF.snd];exact w.rq,fun hz => ?_⟩⟩
  rw [hF.pend,hF.dat,hF.snd,r1]
  rcases w.al hz with k|⟨g,hg,k⟩|k
  ·exact .inl k
  ·rw [q3] at hg
   rcases List.mem_cons.1 hg with rfl|hg
   ·rw [hc] at k;cases k.1
   ·exact .inr (.inl ⟨g,hg,k⟩)
  ·exact .inr (.inr k)
 |true=>
  obtain ⟨y1,y2,y3,y4,y5⟩:=hF.yes hc
  have hser:(Bn s.rcv f.seg).ser=f.seg.ser:=rfl
  have hrq:∀x∈s'.rep.frames,x.seg.ser=s'.snd.ser→∀t:Int,0≤t→t<p.d.size→AO t x.seg.AX∨t / 16∈Bl:=by
   rw [y2,hF.snd]
   intro x hx hs t h0 h1
   rcases DN hx with hx|⟨d,hd,rfl⟩
   ·exact w.rq x hx hs t h0 h1
   ·have hs:f.seg.ser=s.snd.ser:=hs
    have hck:=w.fc f (by rw [q3];simp) hc hs
    have hbu:=(hfd f (by rw [q3];simp)).2.2.2.2 hc hs
    show AO t (Bn s.rcv f.seg).AX∨_
    rw [hF.cl]
    rw [hF.mem]
    rcases w.cv t h0 h1 with k|k|k|⟨o,ho,k⟩|⟨g,hg,k⟩
    ·exact .inl (.inl k)
    ·exact .inr k
    ·exact .inl (.inr (by rw [hck];exact k))
    ·have:=(q1.pd o ho).2;omega
    ·have:=(hfd g hg).2.2.1;omega
  rcases hD with ⟨d1,d2⟩|⟨d1,d2,d3⟩
  ·refine ⟨X,Bl,v,a.rx hp hb q1 q3 hF hv (by omega),.inl ⟨hst',ck,w.cb,hpn,hcv,hlz,hcs,hfc,hrq,fun hz => ?_⟩⟩
   rw [hF.pend,hF.dat,hF.snd,y2]
   rcases w.al hz with k|⟨g,hg,k⟩|⟨g,hg,k⟩
   ·exact .inl k
   ·rw [q3] at hg
    rcases List.mem_cons.1 hg with rfl|hg
    ·exact .inr (.inr ⟨⟨s.now+p.c.rng,s.rep.sent,Bn s.rcv g.seg⟩,CA.2 (.inr ⟨_,d1,rfl⟩),k.2.1,by show s.now+p.c.rng=_;omega⟩)
    ·exact .inr (.inl ⟨g,hg,k⟩)
   ·exact .inr (.inr ⟨g,CA.2 (.inl hg),k⟩)
  ·exact ⟨X,Bl,1,a.rx hp hb q1 q3 hF (by omega) (by omega),.inl ⟨hst',ck,w.cb,hpn,hcv,hlz,hcs,hfc,hrq,fun hz=>by omega⟩⟩
theorem BA.go {p:Par} {s:Ses} {X:Int} {Bl:List Int} {v:Int} (hp:POk p) (a:BA p X Bl v s) (hI:Inv p s) {q:Snd} {l:List Seg} {y:Seg} {Bl':List Int} (hpn:s.pend=[]) (hq:LG p s.snd q)
  (hl:Hc p.d (s.snd.ser+1) l) (hy:l.getLast? = some y) (hbl:∀x∈l,Blk p.d x) (hqa:Clo p.d q.acked) (hz:∃z,(CD p.d 0 (DB q)).getLast? = some z∧y.off=z.off)
  (hnow:s.now≤s.snd.busy+2*p.c.rng+1) (hX:X+l.length+Bl'.length≤s.dist) (hcv:∀t:Int,0≤t→t<p.d.size→AO t s.rcv.known∨t / 16∈Bl'∨∃x∈l,cov x t) :
  BA p (X+l.length) Bl' 0 {s with snd:=Aw q (AZ p.c.rate s.now l) (s.snd.ser+1),pend:=Ar p.c.rate s.now l}∧BW p Bl' 0 y {s with snd:=Aw q (AZ p.c.rate s.now l) (s.snd.ser+1),pend:=Ar p.c.rate s.now l}:=by
 have hr:=hp.rng
 have hn:=hI.sn.num hp
 obtain ⟨pre,y',e,e1,e2,e3⟩:=hl.ex
 have hyy:y'=y:=by
  rw [e,List.getLast?_concat] at hy
  exact Option.some.inj hy
 subst hyy
 have hlen:1≤l.length:=by rw [e];simp
 have hend:=end_len (r:=p.c.rate) ⟨hr.2.2.1,hr.2.2.2.1⟩ l s.now hl.pc
 have hbu:=a.bu
 have hsn:=a.sn
 rw [hpn] at hsn
 simp only [List.length_nil,Int.natCast_zero,Int.add_zero] at hsn
 have hmul:(X+l.length)*TTp p=X*TTp p+(l.length*(2*p.c.rng+1)+l.length*tk p.c.rate 16):=by
  unfold TTp;rw [Int.add_mul,Int.mul_add (l.length:Int)]
 have hge:1*(2*p.c.rng+1)≤(l.length:Int)*(2*p.c.rng+1):=Int.mul_le_mul_of_nonneg_right (by omega) (by omega)
 have hx0:=a.x0
 have hse:=a.se
 have hmem:∀x∈l,∃o∈Ar p.c.rate s.now l,o.seg=x:=fun x hx=>by
  have:x∈(Ar p.c.rate s.now l).map Out.seg:=by rw [EH];exact hx
  obtain ⟨o,ho,h⟩:=List.mem_map.1 this
  exact ⟨o,ho,h⟩
 have hmem':∀o∈Ar p.c.rate s.now l,o.seg∈l:=fun o ho=>by
  have:o.seg∈(Ar p.c.rate s.now l).map Out.seg:=List.mem_map_of_mem ho
  rw [EH] at this
  exact this
 refine ⟨⟨by omega,by omega,?_,?_,?_,(show X+(l.length:Int)+Bl'.length+0≤s.dist by omega),a.dl,a.lo,fun o ho=>hbl _ (hmem' o ho),a.fb,a.rc,hqa,a.rf⟩,⟨hbl y' (by rw [e];simp),fun o ho => ?_,fun t h0 h1 => ?_,hz,⟨e1,e2⟩,fun f hf hc hs => ?_,fun f hf hs => ?_,fun _ => ?_⟩⟩
 ·show AZ p.c.rate s.now l≤_
  omega
 ·show s.snd.ser+1≤_
  omega
 ·show (s.sent.length:Int)+(Ar p.c.rate s.now l).length≤_
  rw [Cf];omega
 ·have ht:=(hl.pc y' (by rw [e];simp)).B6 (r:=p.c.rate) ⟨hr.2.2.1,hr.2.2.2.1⟩
  have hee:AZ p.c.rate s.now l=AZ p.c.rate s.now pre+B6 p.c.rate y':=by rw [e,Fv]
  show (_→_<AZ p.c.rate s.now l)∧_
  have ho':=ho
  simp only [e,Ct] at ho'
  rcases List.mem_append.1 ho' with ho'|ho'
  ·have:=(Fs (r:=p.c.rate) pre s.now fun x hx=>((hl.pc x (by rw [e];simp [hx])).B6 ⟨hr.2.2.1,hr.2.2.2.1⟩).2).2.1 o ho'
   have hf:=e3 _ this.2.2
   exact ⟨fun _=>by omega,fun q=>by rw [hf] at q;cases q⟩
  ·rw [List.mem_singleton] at ho'
   subst ho'
   exact ⟨fun q=>(by rw [e1] at q;cases q),fun _=>rfl⟩
 ·rcases hcv t h0 h1 with k|k|⟨x,hx,k⟩
  ·exact .inl k
  ·exact .inr (.inl k)
  ·have hx':=hx
   rw [e] at hx'
   rcases List.mem_append.1 hx' with hx'|hx'
   ·obtain ⟨o,ho,rfl⟩:=hmem x hx
    exact .inr (.inr (.inr (.inl ⟨o,ho,e3 _ hx',k⟩)))
   ·rw [List.mem_singleton] at hx'
    subst hx'
    exact .inr (.inr (.inl k))
 ·have:=(hI.fd f hf).2.1
  have hs:f.seg.ser=s.snd.ser+1:=hs
  omega
 ·have:=(hI.fr f hf).2.1
  have hs:f.seg.ser=s.snd.ser+1:=hs
  omega
 ·obtain ⟨o,ho,k⟩:=hmem y' (by rw [e];simp)
  exact .inl ⟨o,ho,by rw [k];exact e1⟩
end Ab
set_option linter.unusedVariables false
set_option linter.unusedSimpArgs false
namespace Ab
open Go
theorem Fa {r n:Int} (hr:1≤r∧r≤1000) (hn:1≤n∧n≤16):1≤tk r n∧tk r n≤24:=by
 unfold tk
 refine ⟨(Int.le_ediv_iff_mul_le (by omega)).2 (by omega),?_⟩
 have h:(n+7+r) / r<25:=(Int.ediv_lt_iff_lt_mul (by omega)).2 (by omega)
 omega
theorem Db {c:Con} (h:Ee c=0):(1≤c.rng∧c.rng≤1048576)∧(1≤c.rate∧c.rate≤1000)∧(0≤c.loss∧c.loss≤16)∧0≤c.start∧c.start<c.fin∧c.fin≤1099511627776-2*c.rng:=by
 obtain ⟨c1,c2⟩:=Dp h
 unfold F0 at c1
 omega
theorem tk_run {r n:Int} (hr:1≤r∧r≤1000) (hn:1≤n∧n≤16):w64 (Int.tdiv (w64 (w64 (w64 (n+8)+r)-1)) r)=tk r n:=by
 have ht:=Fa hr hn
 rw [AS (x:=n+8) (by omega) (by omega),AS (x:=n+8+r) (by omega) (by omega),AS (x:=n+8+r-1) (by omega) (by omega),Int.tdiv_eq_ediv_of_nonneg (by omega),show n+8+r-1=n+7+r by omega]
 exact AS (by unfold tk at ht;omega) (by unfold tk at ht;omega)
theorem s58 (c:Con) (n:Int) (hc:Ee c=0) (hn:1≤n∧n≤16):AP C 58 (c.enc++[tI n]) [tI (tk c.rate n)]:=by
 have h:=Db hc
 refine AP.of (fun m=>e58 m _ _ _ _ _ _ _ _) (Ev.of fun m => ?_)
 rw [Je (by omega),tk_run h.2.1 hn]
theorem QR {r n:Int} (hr:1≤r∧r≤1000) (hn:0≤n∧n≤65536):0≤DP r n∧DP r n≤100000∧0≤(n / 16)*tk r 16∧(n / 16)*tk r 16≤98304:=by
 have h16:=Fa hr (n:=16) (by omega)
 have h1:(n / 16)*tk r 16≤4096*24:=Int.mul_le_mul (by omega) (by omega) (by omega) (by omega)
 have h2:0≤(n / 16)*tk r 16:=Int.mul_nonneg (by omega) (by omega)
 unfold DP
 split
 ·have:=Fa hr (n:=n % 16) (by omega)
  omega
 ·omega
theorem Ue {r m:Int} (hm:0<m):DP r m=tk r (if 16<m then 16 else m)+DP r (if 0≤m-16 then m-16 else 0):=by
 unfold DP
 by_cases h:16≤m
 ·rw [show m / 16=(m-16) / 16+1 by omega,if_pos (show 0≤m-16 by omega),show m % 16=(m-16) % 16 by omega,Int.add_mul,Int.one_mul]
  by_cases h2:16<m
  ·rw [if_pos h2];omega
  ·rw [if_neg h2,show m=16 by omega];omega
 ·rw [show m / 16=0 by omega,if_neg (show ¬0≤m-16 by omega),show m % 16=m by omega,if_pos hm,if_neg (by omega)]
  simp
theorem s33 (c:Con) (n:Int) (hc:Ee c=0) (hn:1≤n∧n≤65536):AP C 33 (c.enc++[tI n]) [tI (DP c.rate n)]:=by
 have h:=Db hc
 refine AP.of (fun m=>e33 m _ _ _ _ _ _ _ _) ?_
 refine Gn (σ:=Int×Int) (fun (q:Int)=>[tI q]) (fun s=>(([.t (tI s.1)],[.box [.t (tI s.2)],.box []]):List AV×Heap)) (fun s=>if 0<s.1 then .next (s.1-16,s.2+tk c.rate (if 16<s.1 then 16 else s.1)) else .done s.2) (fun s => -16≤s.1∧s.1≤65536∧0≤s.2∧s.2≤24*(65536-s.1)) (fun s=>(s.1+16).toNat) (fun s=>s.2+DP c.rate (if 0≤s.1 then s.1 else 0)) (n,0) rfl ⟨by simp only;omega,by simp only;omega,by simp,by simp only;omega⟩ ?_ (fun s hI => ?_) (fun s s' hI hs => ?_) (fun s hI => ?_)
 ·simp only [Int.zero_add];rw [if_pos (by omega)]
 ·obtain ⟨m,a⟩:=s
  simp only at hI
  by_cases hm:0<m
  ·have hq:1≤(if 16<m then (16:Int) else m)∧(if 16<m then (16:Int) else m)≤16:=by split<;>omega
   have ht:=Fa h.2.1 hq
   refine (s58 c _ hc hq).mono fun n e again => ?_
   simp only [Con.enc,List.cons_append,List.nil_append] at e
   simp only [XN,vv,vf,reduceCtorEq,Nat.reduceAdd,Nat.reduceEqDiff,hm,e,Rd.Ax,AS (x:=m-16) (by omega) (by omega),AS (x:=a+tk c.rate (if 16<m then 16 else m)) (by omega) (by omega)]
  ·refine Ev.of fun n again => ?_
   simp only [XN,vv,vf,reduceCtorEq,Nat.reduceAdd,Nat.reduceEqDiff,hm,Rd.BR]
 ·obtain ⟨m,a⟩:=s
  simp only at hI hs
  split at hs
  ·rename_i hm
   have hq:1≤(if 16<m then (16:Int) else m)∧(if 16<m then (16:Int) else m)≤16:=by split<;>omega
   have ht:=Fa h.2.1 hq
   cases hs
   simp only
   omega
  ·cases hs
 ·obtain ⟨m,a⟩:=s
  simp only at hI ⊢
  by_cases hm:0<m
  ·rw [if_pos hm,if_pos (by omega)]
   simp only [Rd.fin]
   rw [Ue hm]
   omega
  ·rw [if_neg hm]
   simp only [Rd.fin]
   have e:(if 0≤m then m else (0:Int))=0:=by split<;>omega
   rw [e]
   simp [DP]
def GO (c:Con) (n:Int):Int:=if Ee c≠0 then 1 else if 1≤n∧n≤65536 then 0 else 2
theorem s32 (c:Con) (n:Int):AP C 32 (c.enc++[tI n]) [tI (GO c n)]:=by
 refine AP.of (fun m=>e32 m _ _ _ _ _ _ _ _) ?_
 refine ((s55 c).and (s56 n 1 65536)).mono fun m h => ?_
 obtain ⟨h1,h2⟩:=h
 simp only [Con.enc] at h1
 simp only [h1,h2,vv,vf,reduceCtorEq,Nat.reduceAdd,Nat.reduceEqDiff,GO,wi]
 by_cases a:Ee c=0
 ·by_cases b:1≤n∧n≤65536<;>simp [a,b,AB]
 ·simp [a,AB]
theorem Fy {c:Con} {n:Int} (h:GO c n=0):Ee c=0∧1≤n∧n≤65536:=by
 unfold GO at h
 split at h
 ·omega
 ·split at h
  ·omega
  ·omega
end Ab
set_option linter.unusedVariables false
set_option linter.unusedSimpArgs false
namespace Ab
open Go
theorem UG {p:Par} (hp:POk p):2*p.c.rng+2≤TTp p:=by
 have hr:=hp.rng
 have:=Fa (r:=p.c.rate) (n:=16) (by omega) (by omega)
 unfold TTp
 omega
theorem O6 {p:Par} (hp:POk p) (hb:BP p) {k:Int} (hk:k≤p.c.loss):p.b+DP p.c.rate p.d.size+k*TTp p≤p.e:=by
 have:=UG hp
 have hr:=hp.rng
 have h:=Int.mul_le_mul_of_nonneg_right hk (show 0≤TTp p by omega)
 have:=hb.e
 omega
theorem BA.BZ {p:Par} {X:Int} {Bl:List Int} {v:Int} {s:Ses} (a:BA p X Bl v s):BA p X Bl v (Ab.BZ s):=
 {a with rf:=fun f hf=>a.rf f (List.mem_of_mem_tail hf)}
theorem BI.ls {p:Par} {s s':Ses} {f:Frame} {l:List Frame} {kt:Int→Int} (hp:POk p) (hb:BP p) (hk:Knw p kt s) (h:BI p s) (q1:Inv p s) (q2:PGt s) (q3:DGt s) (q4:s.rep.frames=f::l) (q5:f.arr=s.now) (q6:LsR p (BZ s) f.seg s'):BI p s':=by
 obtain ⟨X,Bl,v,a,w⟩:=h
 have hr:=hp.rng
 have hn:=q1.sn.num hp
 have hdi:=a.di;have hdl:=a.dl;have hv:=a.v01;have hbu:=a.bu
 have hlim:=hb.l
 obtain ⟨f1,f2,f3,f4,f5⟩:=q1.fr f (by rw [q4];simp)
 obtain ⟨hQ,hack⟩:=q1.sn.ack hp f1
 have hl:(Ab.BZ s).rep.frames=l:=by simp [Ab.BZ,q4]
 have a':=a.BZ
 have hcf:=a.rf f (by rw [q4];simp)
 have hra:Clo p.d (Az s.snd f.seg).acked:=by
  intro t t' h h0 h1 he
  rw [hack] at h ⊢
  rcases h with h|h
  ·exact .inl (a.ra t t' h h0 h1 he)
  ·exact .inr (hcf t t' h h0 h1 he)
 rcases w with ⟨hst,ck,w⟩|⟨w1,w2,w3⟩
 rotate_left
 ·cases q6 with
  |busy a1=>exact ⟨X,Bl,v,a',.inr ⟨w1,w2,w3⟩⟩
  |same a1 a2=>exact ⟨X,Bl,v,a',.inr ⟨w1,w2,w3⟩⟩
  |done a1 a2 a3 a4=>have:s.snd.st=1:=a2;omega
  |fail a1 a2 a3 a4 a5=>have:s.snd.st=1:=a2;omega
  |send a1 a2 a3 a4 a5=>have:s.snd.st=1:=a2;omega
 have hrq:∀x∈l,x.seg.ser=s.snd.ser→∀t:Int,0≤t→t<p.d.size→AO t x.seg.AX∨t / 16∈Bl:=fun x hx=>w.rq x (by rw [q4];simp [hx])
 have keep:(∀g:Frame,g=f→g.seg.ser=s.snd.ser→g.arr=s.snd.busy+2*p.c.rng→False)→BI p (Ab.BZ s):=fun hno=>by
  refine ⟨X,Bl,v,a',.inl ⟨hst,ck,w.cb,w.pn,w.cv,w.lz,w.cs,w.fc,by rw [hl];exact hrq,fun hz => ?_⟩⟩
  rcases w.al hz with k|k|⟨g,hg,k1,k2⟩
  ·exact .inl k
  ·exact .inr (.inl k)
  ·rw [q4] at hg
   rcases List.mem_cons.1 hg with e|hg
   ·exact (hno g e k1 k2).elim
   ·exact .inr (.inr ⟨g,by rw [hl];exact hg,k1,k2⟩)
 have hdue:=(q1.due hst).2
 have hdu:=q1.du hst
 have hv1:s.now=s.snd.busy+2*p.c.rng+1→¬s.now<s.snd.busy→v=1:=fun e nb=>by
  refine Classical.byContradiction fun hv' => ?_
  rcases w.al (by omega) with ⟨o,ho,k⟩|⟨g,hg,k1,k2,k3⟩|⟨g,hg,k1,k2⟩
  ·rw [Ec q1 q2 nb] at ho;cases ho
  ·have:=q3 g hg;omega
  ·have:=(q1.fr g hg).2.2.1;omega
 have hbat:¬s.now<s.snd.busy→s.snd.st=1→f.seg.ser=s.snd.ser→complete (Az s.snd f.seg)=false→∃y,X+(AY (Az s.snd f.seg)).length≤p.c.loss∧
   BA p (X+(AY (Az s.snd f.seg)).length) [] 0 {BZ s with snd:=Aw (Az s.snd f.seg) (AZ p.c.rate s.now (AY (Az s.snd f.seg))) (s.snd.ser+1),pend:=Ar p.c.rate s.now (AY (Az s.snd f.seg))}∧
   BW p [] 0 y {BZ s with snd:=Aw (Az s.snd f.seg) (AZ p.c.rate s.now (AY (Az s.snd f.seg))) (s.snd.ser+1),pend:=Ar p.c.rate s.now (AY (Az s.snd f.seg))}:=fun a1 a2 a3 a4=>by
  obtain ⟨hL,y,z,y1,y2,y3⟩:=hQ.blk hp q1.sn a4 hra
  have hlen:(AY (Az s.snd f.seg)).length≤Bl.length:=by
   have:=Tr _ Bl hL.od fun k hk=>by
    obtain ⟨x,hx,rfl⟩:=List.mem_map.1 hk
    obtain ⟨b1,b2⟩:=hL.bk x hx
    rcases w.rq f (by rw [q4];simp) a3 x.off b1.1 b1.2.1 with m|m
    ·exact (b2 ((hack _).2 (.inr m))).elim
    ·exact m
   rwa [List.length_map] at this
  refine ⟨y,by omega,?_⟩
  refine BA.go (s:=Ab.BZ s) (Bl':=[]) hp a' q1.BZ (Ec (s:=s) q1 q2 a1) hQ (hQ.bat hp q1.sn a4) y1 (fun x hx=>(hL.bk x hx).1) hra ⟨z,y2,y3⟩ (by show s.now≤s.snd.busy+_+1;omega) (by show X+_+0≤s.dist;omega) fun t h0 h1 => ?_
  by_cases hm:AO t (Az s.snd f.seg).acked
  ·refine .inl ?_
   rcases (hack t).1 hm with m|m
   ·exact (hk.k2 t m).1
   ·exact (hk.k3 f (by rw [q4];simp) t m).1
  ·exact .inr (.inr (hL.al t h0 h1 hm))
 cases q6 with
 |busy a1=>
  have a1:s.now<s.snd.busy:=a1
  exact keep fun g e k1 k2=>by rw [e] at k2;omega
 |same a1 a2=>
  have a2:s.snd.st≠1∨f.seg.ser≠s.snd.ser:=a2
  exact keep fun g e k1 k2=>by rw [e] at k1;omega
 |done a1 a2 a3 a4=>
  have a1:¬s.now<s.snd.busy:=a1
  have h5:=f5 a3
  refine ⟨X,Bl,v,⟨a.x0,a.v01,a.bu,a.se,a.sn,a.di,a.dl,a.lo,a.pb,a.fb,a.rc,hra,a'.rf⟩,.inr ⟨rfl,Ec (s:=s) q1 q2 a1,?_⟩⟩
  show s.now≤_
  by_cases e:s.now=s.snd.busy+2*p.c.rng+1
  ·have:=hv1 e a1
   have h1:=O6 hp hb (k:=X+1) (by omega)
   rw [Int.add_mul,Int.one_mul] at h1
   have:=UG hp
   omega
  ·omega
 |fail a1 a2 a3 a4 a5=>
  obtain ⟨y,k1,k2,k3⟩:=hbat a1 a2 a3 a4
  have h1:=O6 hp hb k1
  have h2:AZ p.c.rate s.now (AY (Az s.snd f.seg))≤_:=k2.bu
  have a5:p.e<AZ p.c.rate s.now (AY (Az s.snd f.seg)):=a5
  omega
 |send a1 a2 a3 a4 a5=>
  obtain ⟨y,k1,k2,k3⟩:=hbat a1 a2 a3 a4
  exact ⟨_,[],0,k2,.inl ⟨rfl,y,k3⟩⟩
theorem BI.ex {p:Par} {s s':Ses} (hp:POk p) (hb:BP p) (h:BI p s) (q1:Inv p s) (q2:PGt s) (q3:DGt s) (q4:RGt s) (q5:ExR p s s'):BI p s':=by
 have h0:=h
 obtain ⟨X,Bl,v,a,w⟩:=h
 have hr:=hp.rng
 have hdi:=a.di;have hdl:=a.dl;have hv:=a.v01;have hbu:=a.bu
 have hlim:=hb.l
 have hQ:=q1.sn.q hp
 have hbat:s.snd.st=1→s.snd.due=s.now→complete s.snd=false→∃y,X+1≤p.c.loss∧(BL (AY s.snd)).length=1∧
   BA p (X+(BL (AY s.snd)).length) Bl 0 {s with snd:=Aw s.snd (AZ p.c.rate s.now (BL (AY s.snd))) (s.snd.ser+1),pend:=Ar p.c.rate s.now (BL (AY s.snd))}∧
   BW p Bl 0 y {s with snd:=Aw s.snd (AZ p.c.rate s.now (BL (AY s.snd))) (s.snd.ser+1),pend:=Ar p.c.rate s.now (BL (AY s.snd))}:=fun a1 a2 a3=>by
  have hdue:=(q1.due a1).2
  rcases w with ⟨hst,ck,w⟩|⟨w1,_⟩
  rotate_left
  ·omega
  have hpn:=Ec q1 q2 (by omega)
  have hv1:v=1:=by
   refine Classical.byContradiction fun hv' => ?_
   rcases w.al (by omega) with ⟨o,ho,k⟩|⟨g,hg,k1,k2,k3⟩|⟨g,hg,k1,k2⟩
   ·rw [hpn] at ho;cases ho
   ·have:=q3 g hg;omega
   ·have:=q4 g hg;omega
  obtain ⟨hL,y,z,y1,y2,y3⟩:=hQ.blk hp q1.sn a3 a.ra
  have hB:=hQ.bat hp q1.sn a3
  obtain ⟨pre,x,ex,e1,e2,e3⟩:=hB.ex
  have hxy:x=y:=by
   rw [ex,List.getLast?_concat] at y1
   exact Option.some.inj y1
  subst hxy
  have el:BL (AY s.snd)=[x]:=by rw [ex,Ff]
  have hxm:x∈AY s.snd:=by rw [ex];simp
  obtain ⟨z',z1,z2⟩:=w.lz
  have hzz:z'=z:=by rw [z1] at y2;exact Option.some.inj y2
  rw [hzz] at z2
  refine ⟨x,by omega,by rw [el];rfl,BA.go hp a q1 hpn hQ hB.last (by rw [el];rfl) (fun u hu => ?_) a.ra ⟨z,y2,y3⟩ (by omega) (by rw [el];simp only [List.length_cons,List.length_nil];omega) fun t h0 h1 => ?_⟩
  ·rw [el,List.mem_singleton] at hu
   subst hu
   exact (hL.bk u hxm).1
  ·rcases w.cv t h0 h1 with k|k|k|⟨o,ho,k⟩|⟨f,hf,k1,k2⟩
   ·exact .inl k
   ·exact .inr (.inl k)
   ·refine .inr (.inr ⟨x,by rw [el];simp,?_⟩)
    have b1:=(hL.bk x hxm).1
    have b2:=(w.cb.cov t).1 k
    exact (b1.cov t).2 ⟨b2.1,by rw [b2.2,y3,z2]⟩
   ·rw [hpn] at ho;cases ho
   ·have:=q3 f hf;omega
 cases q5 with
 |same a1=>exact h0
 |fail a1 a2 a3=>
  obtain ⟨y,k1,k0,k2,k3⟩:=hbat a1 a2 (q1.due a1).1
  have h1:=O6 hp hb k1
  have h2:AZ p.c.rate s.now (BL (AY s.snd))≤_:=k2.bu
  rw [k0] at h2
  have h3:(X+((1:Nat):Int))*TTp p=(X+1)*TTp p:=rfl
  omega
 |send a1 a2 a3 a4=>
  obtain ⟨y,k1,k0,k2,k3⟩:=hbat a1 a2 a3
  exact ⟨_,Bl,0,k2,.inl ⟨rfl,y,k3⟩⟩
theorem BI.mic {p:Par} {s s':Ses} (hp:POk p) (hb:BP p) (h:(∃kt,Knw p kt s)∧BI p s) (m:Mic p s s'):(∃kt,Knw p kt s')∧BI p s':=by
 obtain ⟨⟨kt,hk⟩,h⟩:=h
 refine ⟨hk.mic hp m,?_⟩
 cases m with
 |time t q1 q2 q3 q4 q5 q6=>
  obtain ⟨X,Bl,v,a,w⟩:=h
  refine ⟨X,Bl,v,{a with},?_⟩
  rcases w with ⟨hst,ck,w⟩|w
  ·exact .inl ⟨hst,ck,{w with}⟩
  ·exact .inr w
 |tx o l q1 q2 q3=>exact h.tx hp hb q1 q2 q3
 |rx f l q1 q2 q3 q4=>exact h.rx hp hb q1 q3 q4 (q1.P8 hp q3 q4)
 |ls _ f l q1 q2 q3 q4 q5 q6=>exact BI.ls hp hb hk h q1 q2 q3 q4 q5 q6
 |ex _ q1 q2 q3 q4 q5=>exact h.ex hp hb q1 q2 q3 q4 q5
theorem PJ (d:ByteArray):Clo d []:=fun t t' h=>by simp [AO] at h
theorem bi_ini {p:Par} (hp:POk p) (hb:BP p) (h:(A7 p.c 0 p.d p.b p.e).2.2=0):BI p (D8 p):=by
 obtain ⟨hB,he,g1,g2⟩:=I2 hp h
 have hr:=hp.rng
 have hd:=hp.sz
 obtain ⟨t1,t2⟩:=RN (d:=p.d) (r:=p.c.rate) (t:=p.b) ⟨by omega,by omega⟩ ⟨by omega,by omega⟩
 have hbe:=E6 (ses:=0) (d:=p.d) ⟨by omega,by omega⟩ ⟨by omega,by omega⟩
 have ee1:(D8 p).pend=Ar p.c.rate p.b (BC 0 1 p.d (AK p.d)):=g2
 have ee2:(D8 p).snd=Aw (BE p.c 0 p.d p.e) (AZ p.c.rate p.b (BC 0 1 p.d (AK p.d))) 1:=g1
 have eb:(D8 p).snd.busy=AZ p.c.rate p.b (BC 0 1 p.d (AK p.d)):=by rw [ee2];rfl
 have es:(D8 p).snd.ser=1:=by rw [ee2];rfl
 have ea:(D8 p).snd.acked=[]:=by rw [ee2];rfl
 have est:(D8 p).snd.st=1:=by rw [ee2];rfl
 have edt:(D8 p).snd.data=p.d:=by rw [ee2];rfl
 have ef:DB (D8 p).snd=AK p.d:=MK ⟨by omega,by omega⟩ _ edt ea
 have hwc:BB (AK p.d)=0:=by
  rw [Ai]
  refine ⟨by simp [AK],⟨by simp only;omega,by simp only;omega,trivial⟩,fun x hx => ?_⟩
  simp only [AK,List.mem_singleton] at hx
  subst hx
  simp only
  omega
 have hww:Bo (AK p.d) p.d.size:=fun x hx=>by
  simp only [AK,List.mem_singleton] at hx
  subst hx
  simp only
  omega
 have hR:=QM (d:=p.d) (a:=[]) (l:=AK p.d) (fun t=>by simp [AK,AO]) hwc hww (PJ _)
 have e0:BC 0 1 p.d (AK p.d)=DH 1 (CD p.d 0 (AK p.d)):=by unfold BC;rw [if_pos hbe]
 have eo:(BC 0 1 p.d (AK p.d)).map (fun x=>(x.off,(x.data.size:Int)))=(CD p.d 0 (AK p.d)).map fun x=>(x.off,(x.data.size:Int)):=by rw [e0];exact Ny _ _
 have hL:=hR.of eo
 obtain ⟨pre,ck,ex,x1,x2,x3⟩:=hB.ex
 have hz:∃z,(CD p.d 0 (AK p.d)).getLast? = some z∧ck.off=z.off:=by
  have e2:=congrArg List.getLast? eo
  rw [List.getLast?_map,List.getLast?_map] at e2
  cases hz:(CD p.d 0 (AK p.d)).getLast? with
  |none=>rw [hz,ex] at e2;simp at e2
  |some z=>
   rw [hz,ex,List.getLast?_concat] at e2
   simp only [Option.map_some,Option.some.injEq] at e2
   injection e2 with e3 e4
   exact ⟨z,rfl,e3⟩
 have hmem:∀x∈BC 0 1 p.d (AK p.d),∃o∈(D8 p).pend,o.seg=x:=fun x hx=>by
  rw [ee1]
  have:x∈(Ar p.c.rate p.b (BC 0 1 p.d (AK p.d))).map Out.seg:=by rw [EH];exact hx
  obtain ⟨o,ho,h⟩:=List.mem_map.1 this
  exact ⟨o,ho,h⟩
 have hmem':∀o∈(D8 p).pend,o.seg∈BC 0 1 p.d (AK p.d):=fun o ho=>by
  rw [ee1] at ho
  have:o.seg∈(Ar p.c.rate p.b (BC 0 1 p.d (AK p.d))).map Out.seg:=List.mem_map_of_mem ho
  rw [EH] at this
  exact this
 refine ⟨0,[],0,⟨Int.le_refl _,by omega,by rw [eb,t1];simp,by rw [es];omega,?_,by show (0:Int)+0+0≤0;omega,hb.l.1,rfl,fun o ho=>(hL.bk _ (hmem' o ho)).1,(fun f hf=>by cases hf),PJ _,by rw [ea];exact PJ _,(fun f hf=>by cases hf)⟩,
  .inl ⟨est,ck,(hL.bk ck (by rw [ex];simp)).1,fun o ho => ?_,fun t h0 h1 => ?_,by rw [ef];exact hz,⟨x1,by rw [es];exact x2⟩,(fun f hf=>by cases hf),(fun f hf=>by cases hf),fun _ => ?_⟩⟩
 ·rw [ee1,Cf]
  show (0:Int)+_≤_
  omega
 ·rw [eb]
  have ho':=ho
  rw [ee1,ex,Ct] at ho'
  have ht:=(hB.pc ck (by rw [ex];simp)).B6 (r:=p.c.rate) ⟨hr.2.2.1,hr.2.2.2.1⟩
  have hee:AZ p.c.rate p.b (BC 0 1 p.d (AK p.d))=AZ p.c.rate p.b pre+B6 p.c.rate ck:=by rw [ex,Fv]
  rcases List.mem_append.1 ho' with ho'|ho'
  ·have:=(Fs (r:=p.c.rate) pre p.b fun x hx=>((hB.pc x (by rw [ex];simp [hx])).B6 ⟨hr.2.2.1,hr.2.2.2.1⟩).2).2.1 o ho'
   have hf:=x3 _ this.2.2
   exact ⟨fun _=>by omega,fun q=>by rw [hf] at q;cases q⟩
  ·rw [List.mem_singleton] at ho'
   subst ho'
   exact ⟨fun q=>(by rw [x1] at q;cases q),fun _=>rfl⟩
 ·obtain ⟨x,hx,k⟩:=hL.al t h0 h1 (by simp [AO])
  have hx':=hx
  rw [ex] at hx'
  rcases List.mem_append.1 hx' with hx'|hx'
  ·obtain ⟨o,ho,rfl⟩:=hmem x hx
   exact .inr (.inr (.inr (.inl ⟨o,ho,x3 _ hx',k⟩)))
  ·rw [List.mem_singleton] at hx'
   subst hx'
   exact .inr (.inr (.inl k))
 ·obtain ⟨o,ho,k⟩:=hmem ck (by rw [ex];simp)
  exact .inl ⟨o,ho,by rw [k];exact x1⟩
theorem bi_fin {p:Par} (hp:POk p) (hb:BP p) (h:(A7 p.c 0 p.d p.b p.e).2.2=0) :
  (Bj p).rcvd=true∧(Bj p).kno=true∧(Bj p).arrive+p.c.rng≤p.e+2*p.c.rng∧(Bj p).knoAt≤p.e+2*p.c.rng∧(Bj p).snd.busy≤p.e∧(Bj p).entered≤((p.d.size:Int)+15) / 16+3*p.c.loss+2∧(Bj p).dat.lost+(Bj p).rep.lost≤p.lim:=by
 obtain ⟨f1,f2,f3⟩:=KO hp h
 obtain ⟨⟨kt,hk⟩,X,Bl,v,a,w⟩:=f1.ind (fun s=>(∃kt,Knw p kt s)∧BI p s) ⟨Tm hp h,bi_ini hp hb h⟩ fun s s' k m=>BI.mic hp hb k m
 obtain ⟨n1,n2,n3,n4⟩:=Qd f3
 have hn:=f2.i.sn.num hp
 rcases w with ⟨hst,_⟩|⟨w1,w2,w3⟩
 ·exact (n4 hst).elim
 have hkn:=f2.i.kn.2 w1
 obtain ⟨r1,r2⟩:=hk.k7 hkn
 have hsn:=a.sn;have hse:=a.se;have hdi:=a.di;have hdl:=a.dl;have hlo:=a.lo;have hv:=a.v01
 have c1:=f2.i.c1;have c2:=f2.i.c2;have c3:=f2.i.c3;have c6:=f2.i.c6
 have hl:=hb.l
 rw [n1] at hsn c6
 rw [n2] at c6
 simp only [List.length_nil,List.countP_nil,Int.natCast_zero,Int.add_zero,Int.mul_zero] at hsn c6
 exact ⟨r1,hkn,by omega,w3,hn.2.1,by omega,by omega⟩
theorem bnd_ok {p:Par} (hb:BP p) (hc:Ee p.c=0) (hs:p.c.start≤p.b) (he:p.e≤p.c.fin) (hd:1≤p.d.size∧p.d.size≤120) (hpl:p.ps.length≤60) (hpk:∀x∈p.ps,-9223372036854775808≤x∧x≤9223372036854775807) :
  POk p∧p.ps.length≤1000∧ -1≤p.lim∧BB p.dk=0∧(A7 p.c 0 p.d p.b p.e).2.2=0:=by
 obtain ⟨c1,c2⟩:=Dp hc
 unfold F0 at c1
 have hl:=hb.l
 have hE:=hb.e
 have h16:=Fa (r:=p.c.rate) (n:=16) (by omega) (by omega)
 have hps:0≤DP p.c.rate p.d.size∧DP p.c.rate p.d.size≤192:=by
  have h1:((p.d.size:Int) / 16)*tk p.c.rate 16≤7*24:=Int.mul_le_mul (by omega) (by omega) (by omega) (by omega)
  have h2:0≤((p.d.size:Int) / 16)*tk p.c.rate 16:=Int.mul_nonneg (by omega) (by omega)
  unfold DP
  split
  ·have:=Fa (r:=p.c.rate) (n:=(p.d.size:Int) % 16) (by omega) (by omega)
   omega
  ·omega
 have hTT:p.c.loss*TTp p=p.c.loss*(2*p.c.rng+1)+p.c.loss*tk p.c.rate 16:=by unfold TTp;rw [Int.mul_add]
 have hm1:p.c.loss*(2*p.c.rng+1)≤16*(2*p.c.rng+1):=Int.mul_le_mul_of_nonneg_right (by omega) (by omega)
 have hm2:p.c.loss*tk p.c.rate 16≤16*24:=Int.mul_le_mul (by omega) (by omega) (by omega) (by omega)
 have hm3:0≤p.c.loss*(2*p.c.rng+1):=Int.mul_nonneg (by omega) (by omega)
 have hm4:0≤p.c.loss*tk p.c.rate 16:=Int.mul_nonneg (by omega) (by omega)
 have hp:POk p:=by
  refine ⟨hc,⟨hs,by omega,he⟩,hd,hpk,by omega,fun k k1 k2 => ?_⟩
  by_cases hR:12≤p.c.rng
  ·refine .inl ?_
   have hk:k≤40:=by
    refine Classical.byContradiction fun q => ?_
    have:40*(2*p.c.rng+1)≤(k-1)*(2*p.c.rng+1):=Int.mul_le_mul_of_nonneg_right (by omega) (by omega)
    omega
   have:((p.d.size:Int)+1)*k≤121*k:=Int.mul_le_mul_of_nonneg_right (by omega) (by omega)
   omega
  ·refine .inr ?_
   have hk:k≤209:=by
    refine Classical.byContradiction fun q => ?_
    have:209*(2*p.c.rng+1)≤(k-1)*(2*p.c.rng+1):=Int.mul_le_mul_of_nonneg_right (by omega) (by omega)
    omega
   omega
 refine ⟨hp,by omega,by omega,by rw [hb.dk];simp [BB,Cr],?_⟩
 have hB:=batP (E6 (ses:=0) (d:=p.d) ⟨by omega,by omega⟩ ⟨by omega,by omega⟩)
 obtain ⟨pre,x,e,h1,h2,h3⟩:=hB.ex
 have hlast:(BC 0 1 p.d (AK p.d)).getLast? = some x:=by rw [e];exact List.getLast?_concat ..
 have ht:=(RN (d:=p.d) (r:=p.c.rate) (t:=p.b) ⟨by omega,by omega⟩ ⟨by omega,by omega⟩).1
 have e1:Bv (BE p.c 0 p.d p.e) p.b (BC 0 1 p.d (AK p.d))=(Aw (BE p.c 0 p.d p.e) (AZ p.c.rate p.b (BC 0 1 p.d (AK p.d))) x.ser,Ar p.c.rate p.b (BC 0 1 p.d (AK p.d))):=by
  unfold Bv
  rw [hlast]
  show (if p.e<AZ p.c.rate p.b _∨1099511627776<x.ser then _ else _)=_
  rw [if_neg (by omega)]
  rfl
 unfold A7
 rw [if_neg (by omega),if_neg (by omega),if_neg (by omega),if_neg (by omega),if_neg (by omega),e1,if_neg (by simp [Aw])]
end Ab
set_option maxRecDepth 100000
set_option linter.unusedVariables false
namespace Ab
open Go Go.Proofs
def He:List Sh:=[Sh.b,Sh.i,Sh.b,Sh.i,Sh.i,Sh.i,Sh.i]
def A4:List Sh:=[Sh.i,Sh.l 10,Sh.i,Sh.i,Sh.i,Sh.l 10,Sh.i,Sh.i,Sh.l 1,Sh.i,Sh.l 2,Sh.i,Sh.i,Sh.r 5,Sh.r 6,Sh.i,Sh.i,Sh.i,Sh.i,Sh.i,Sh.i,Sh.i,Sh.i,Sh.i,Sh.s,Sh.i,Sh.i,Sh.i,Sh.l 2,Sh.i,Sh.i,Sh.i,Sh.i,Sh.l 2,Sh.s,Sh.r 1,Sh.b,Sh.i,Sh.b,Sh.i]
def Bp:List OSh:=[OSh.box He,OSh.row 9,OSh.frz 15,OSh.frz 4,OSh.frz 4,OSh.row 9,OSh.row 9,OSh.box A4]
def Cn:List Sh:=[]
def BSB_4:List Sh:=[Sh.i]
def BSB_5:List Sh:=[Sh.b]
def DK:List OSh:=[OSh.box He,OSh.row 9,OSh.box Cn,OSh.box Cn,OSh.box Cn,OSh.row 9,OSh.row 9,OSh.box A4,OSh.box BSB_4,OSh.box BSB_5]
def BO:List OSh:=[OSh.box He,OSh.row 9,OSh.box Cn,OSh.box Cn,OSh.box Cn,OSh.row 9,OSh.row 9,OSh.box A4]
def Ri:List Sh:=[Sh.i,Sh.i,Sh.i,Sh.i,Sh.i,Sh.b,Sh.s,Sh.l 2]
def OZ:List OSh:=[OSh.box He,OSh.row 9,OSh.box Cn,OSh.box Cn,OSh.box Cn,OSh.row 9,OSh.row 9,OSh.box A4,OSh.box Ri]
def CH:List OSh:=[OSh.box He,OSh.row 9,OSh.box Cn,OSh.box Cn,OSh.box Cn,OSh.row 9,OSh.row 9,OSh.box A4,OSh.row 8]
def Km:List OSh:=[OSh.box He,OSh.row 9,OSh.box Cn,OSh.box Cn,OSh.box Cn,OSh.row 9,OSh.row 9,OSh.box A4,OSh.row 8,OSh.box Ri]
def Pp:List Sh:=[Sh.i,Sh.i,Sh.l 2,Sh.s]
def It:List OSh:=[OSh.box He,OSh.row 9,OSh.frz 15,OSh.frz 4,OSh.frz 4,OSh.row 9,OSh.row 9,OSh.box A4,OSh.row 8,OSh.box Pp,OSh.box Ri]
def CG:List OSh:=[OSh.box He,OSh.row 9,OSh.box Cn,OSh.box Cn,OSh.box Cn,OSh.row 9,OSh.row 9,OSh.box A4,OSh.row 8,OSh.box Pp,OSh.box Ri]
def Xg:List Sh:=[Sh.i,Sh.l 10,Sh.i,Sh.i]
def Kl:List OSh:=[OSh.box He,OSh.row 9,OSh.box Cn,OSh.box Cn,OSh.box Cn,OSh.row 9,OSh.row 9,OSh.box A4,OSh.row 8,OSh.box Pp,OSh.box Ri,OSh.box Xg]
def NK:List OSh:=[OSh.box He,OSh.row 9,OSh.box Cn,OSh.box Cn,OSh.box Cn,OSh.row 9,OSh.row 9,OSh.box A4,OSh.row 8,OSh.box Pp]
def Kk:List OSh:=[OSh.box He,OSh.row 9,OSh.box Cn,OSh.box Cn,OSh.box Cn,OSh.row 9,OSh.row 9,OSh.box A4,OSh.box Xg]
def EB:List FuncId:=[50,51,52,53,54,71,96,124,125,126,127,144]
noncomputable def J26_1 (n:Nat) (ff:Nat→Rec) (k26:KT) (p28:ST):RT:=k26 ([],rh p28 0 DK)
noncomputable def XS (n:Nat) (ff:Nat→Rec) (k20:KT) (p70:ST):RT:=k20 (tv [tI (cI p70 8 0),.bool (cB p70 9 0)],rh p70 0 BO)
noncomputable def NC (n:Nat) (ff:Nat→Rec) (p52:ST) (k20:KT) (p64:ST):RT:=Am (.box [AV.yld 40,.t (tI (cI p52 7 29))]) (.box [AV.yld 40,.t (tI (cI p64 7 29))]) (join (XS n ff k20) fun k71=>cnd (vB p64 0=true) (cnd ((!(cB p64 9 0))=true) (k71 ([],upd (rh p64 0 DK) [(8,.box [.t (tI (cI p52 7 29))]),(9,.box [.t (.bool true)])])) (cnd (decide (cI p52 7 29<cI p64 8 0)=true) (k71 ([],upd (rh p64 0 DK) [(8,.box [.t (tI (cI p52 7 29))]),(9,.box [.t (.bool true)])])) (k71 ([],rh p64 0 DK)))) (k71 ([],rh p64 0 DK)))
noncomputable def UL (n:Nat) (ff:Nat→Rec) (k20:KT) (p52:ST):RT:=join (NC n ff p52 k20) fun k65=>cnd ((cI p52 7 30==1)=true) (k65 ([.t (.bool (!(decide (cI p52 7 11≥(10000:Int)))))],rh p52 0 DK)) (k65 ([.t (.bool false)],rh p52 0 DK))
noncomputable def OX (n:Nat) (ff:Nat→Rec) (k20:KT) (p39:ST):RT:=bd [0,1] (AA C n 122 (ct [0,13,0,0] p39 7 4 [])) fun y51=>join (UL n ff k20) fun k53=>cnd (gB y51 1=true) (cnd ((!(cB p39 9 0))=true) (k53 ([],upd (rh p39 0 DK) [(8,.box [.t (tI (gI y51 0))]),(9,.box [.t (.bool true)])])) (cnd (decide (gI y51 0<cI p39 8 0)=true) (k53 ([],upd (rh p39 0 DK) [(8,.box [.t (tI (gI y51 0))]),(9,.box [.t (.bool true)])])) (k53 ([],rh p39 0 DK)))) (k53 ([],rh p39 0 DK))
noncomputable def OW (n:Nat) (ff:Nat→Rec) (k20:KT) (p25:ST):RT:=bd [0,1] (AA C n 122 (ct [0,13,0,0] p25 7 0 [])) fun y38=>join (OX n ff k20) fun k40=>cnd (gB y38 1=true) (cnd ((!(cB p25 9 0))=true) (k40 ([],upd (rh p25 0 DK) [(8,.box [.t (tI (gI y38 0))]),(9,.box [.t (.bool true)])])) (cnd (decide (gI y38 0<cI p25 8 0)=true) (k40 ([],upd (rh p25 0 DK) [(8,.box [.t (tI (gI y38 0))]),(9,.box [.t (.bool true)])])) (k40 ([],rh p25 0 DK)))) (k40 ([],rh p25 0 DK))
noncomputable def XO (n:Nat) (ff:Nat→Rec) (k20:KT) (p23:ST):RT:=cnd (AE p23 1=AI p23 7 35) (join (OW n ff k20) fun k26=>cnd (decide ((AH p23 7 35:Int)>0)=true) (cnd (AE p23 1=AI p23 7 35∧9=9∧(0:Int)≤0∧0<(AH p23 7 35:Int)) (cnd (AE p23 1=AI p23 7 35) (cnd (AE p23 1=AI p23 7 35) (Option.bind (oEs p23 1)[AR p23 7 35]? fun y27=>cnd (okI y27 0) (join (J26_1 n ff k26) fun k29=>cnd ((!(cB p23 9 0))=true) (k29 ([],upd (rh p23 0 DK) [(8,.box [.t (tI (gI y27 0))]),(9,.box [.t (.bool true)])])) (cnd (decide (gI y27 0<cI p23 8 0)=true) (k29 ([],upd (rh p23 0 DK) [(8,.box [.t (tI (gI y27 0))]),(9,.box [.t (.bool true)])])) (k29 ([],rh p23 0 DK)))) none) none) none) none) (k26 ([],rh p23 0 DK))) none
noncomputable def UP (n:Nat) (ff:Nat→Rec) (k20:KT) (p19:ST):RT:=ff 10 (List Tree) (.fn 96 [AV.ptr 7 0]) (rh p19 0 Bp) fun rs h1=>cnd (Bu C.P (BH C.P 96) rs=true) (Fw (rh p19 0 Bp) h1 fun hs=>k20 (rs,hs)) none
noncomputable def UF (n:Nat) (ff:Nat→Rec) (k20:KT) (p19:ST):RT:=join (XO n ff k20) fun k24=>cnd (decide (cI p19 7 11≥(10000:Int))=true) (cnd (AE p19 1=AI p19 7 35) (k24 ([],upd (rh p19 0 DK) [(7,.box (upd (rb p19 7 0 A4) [(35,.sref 1 (AI p19 7 35) (List.length (oEs p19 1)) 0)])),(8,.box [.t (tI 0)]),(9,.box [.t (.bool false)])])) none) (k24 ([],upd (rh p19 0 DK) [(8,.box [.t (tI 0)]),(9,.box [.t (.bool false)])]))
theorem vC26_1 (n:Nat) (ff:Nat→Rec) (k20:KT) (p19:ST):EA C (IA C (pcx C (AA C n)) n ff EB 9) (pcx C (AA C n)) n 96 [AV.ptr 7 0] (rh p19 0 Bp) (fun rs h1=>cnd (Bu C.P (BH C.P 96) rs=true) (Fw (rh p19 0 Bp) h1 fun hs=>k20 (rs,hs)) none)=UF n ff k20 p19:=by kernel_rfl
theorem Vi (n:Nat) (k20:KT) (p19:ST):UP n (fI C n) k20 p19=UF n (fI C n) k20 p19:=(K2 C n EB 9 _ 96 _ _ _).trans (vC26_1 n (fI C n) k20 p19)
noncomputable def UK (n:Nat) (ff:Nat→Rec) (k91:KT) (p92:ST):RT:=cnd ((!(vB p92 0))=true) (k91 ([.t (.bool true)],rh p92 0 BO)) (k91 ([.t (.bool ((cI p92 7 29) != cI p92 7 15))],rh p92 0 BO))
noncomputable def UJ (n:Nat) (ff:Nat→Rec) (k89:KT) (p90:ST):RT:=cnd (vB p90 0=true) (k89 ([],rh p90 0 BO)) (bd [0,0,0,0,0,0,0,0,2,0,0,0,5,0,0,12,0] (AA C n 149 (ct kS p90 7 16 [tI (cI p90 7 15)])) fun y98=>cnd (((gI y98 16) != 0)=true) (k89 ([],upd (rh p90 0 BO) [(7,.box (upd (rb p90 7 0 A4) [(29,.t (tI 0)),(30,.t (tI 3))]))])) (cnd (List.length (gL y98 15)=0∧AR p90 7 35+AH p90 7 35<List.length (oEs p90 1)) (cnd (AE p90 1=AI p90 7 35) (k89 ([],upd (rh p90 0 BO) [(7,.box (upd (rb p90 7 0 A4) [(16,.t (tI (gI y98 0))),(17,.t (tI (gI y98 1))),(18,.t (tI (gI y98 2))),(19,.t (tI (gI y98 3))),(20,.t (tI (gI y98 4))),(21,.t (tI (gI y98 5))),(22,.t (tI (gI y98 6))),(23,.t (tI (gI y98 7))),(24,.t (.str (gS y98 8))),(25,.t (tI (gI y98 9))),(26,.t (tI (gI y98 10))),(27,.t (tI (gI y98 11))),(28,.t (.sl 2 (gL y98 12))),(29,.t (tI (gI y98 13))),(30,.t (tI (gI y98 14)))]))])) none) (cnd (AE p90 1=AI p90 7 35∧(9=9∨9=0)∧AR p90 7 35+AH p90 7 35≤List.length (oEs p90 1)∧AH p90 7 35+List.length (gL y98 15)≤1073741824) (k89 ([],upd (rh p90 0 BO) [(1,.row false (AI p90 7 35+1) 9 (List.take (AH p90 7 35) (List.drop (AR p90 7 35) (oEs p90 1))++gL y98 15)),(7,.box (upd (rb p90 7 0 A4) [(16,.t (tI (gI y98 0))),(17,.t (tI (gI y98 1))),(18,.t (tI (gI y98 2))),(19,.t (tI (gI y98 3))),(20,.t (tI (gI y98 4))),(21,.t (tI (gI y98 5))),(22,.t (tI (gI y98 6))),(23,.t (tI (gI y98 7))),(24,.t (.str (gS y98 8))),(25,.t (tI (gI y98 9))),(26,.t (tI (gI y98 10))),(27,.t (tI (gI y98 11))),(28,.t (.sl 2 (gL y98 12))),(29,AV.t (tI (gI y98 13))),(30,.t (tI (gI y98 14))),(35,.sref 1 (AI p90 7 35+1) 0 (AH p90 7 35+List.length (gL y98 15)))]))])) none)))
noncomputable def Xf (n:Nat) (ff:Nat→Rec) (k89:KT) (p88:ST):RT:=ff 10 (List Tree) (.fn 127 [AV.ptr 7 0]) (rh p88 0 Bp) fun rs h1=>cnd (Bu C.P (BH C.P 127) rs=true) (Fw (rh p88 0 Bp) h1 fun hs=>k89 (rs,hs)) none
noncomputable def Rf (n:Nat) (ff:Nat→Rec) (k89:KT) (p88:ST):RT:=join (UJ n ff k89) fun k91=>join (UK n ff k91) fun k93=>cnd ((cI p88 7 30==1)=true) (k93 ([.t (.bool (!(decide (cI p88 7 11≥(10000:Int)))))],rh p88 0 BO)) (k93 ([.t (.bool false)],rh p88 0 BO))
theorem vC26_2 (n:Nat) (ff:Nat→Rec) (k89:KT) (p88:ST):EA C (IA C (pcx C (AA C n)) n ff EB 9) (pcx C (AA C n)) n 127 [AV.ptr 7 0] (rh p88 0 Bp) (fun rs h1=>cnd (Bu C.P (BH C.P 127) rs=true) (Fw (rh p88 0 Bp) h1 fun hs=>k89 (rs,hs)) none)=Rf n ff k89 p88:=by kernel_rfl
theorem Ro (n:Nat) (k89:KT) (p88:ST):Xf n (fI C n) k89 p88=Rf n (fI C n) k89 p88:=(K2 C n EB 9 _ 127 _ _ _).trans (vC26_2 n (fI C n) k89 p88)
noncomputable def HX (n:Nat) (ff:Nat→Rec) (k87:KT) (p86 p99:ST):RT:=k87 ([.t (tI (w64 (vI p86 0+1)))],rh p99 0 BO)
noncomputable def Pg (n:Nat) (ff:Nat→Rec) (p108:ST) (k107:KT) (p130:ST):RT:=cnd (vB p130 0=true) (cnd (AE p130 8=AE p108 8+1∧8≤8) (Option.bind (oEs p130 8)[0]? fun y132=>k107 ([.rptr 8 (AE p108 8+1) 0 0,.t (.bool false)],upd (rh p130 0 CH) [(8,.row false (AE p108 8+1) 8 (List.set (oEs p130 8) 0 (zt kG []++List.drop 8 y132)))])) none) (bd [0,13,0,0,0,0,0,0,0,0,0,1,2,5,0] (AA C n 158 (ct [0,13,0,0] p130 7 4 [])) fun y133=>cnd (AE p130 8=AE p108 8+1∧8≤8) (Option.bind (oEs p130 8)[0]? fun y134=>k107 ([.rptr 8 (AE p108 8+1) 0 0,.t (.bool true)],upd (rh p130 0 CH) [(7,.box (upd (rb p130 7 0 A4) [(4,.t (tI (gI y133 0))),(5,.t (.sl 10 (gL y133 1))),(6,.t (tI (gI y133 2))),(7,.t (tI (gI y133 3)))])),(8,.row false (AE p108 8+1) 8 (List.set (oEs p130 8) 0 (gt kG y133 6 []++List.drop 8 y134)))])) none)
noncomputable def NF (n:Nat) (ff:Nat→Rec) (p106:ST) (k107:KT) (p108:ST):RT:=cnd (AE p108 8=LA p106 0) (Option.bind (oEs p108 8)[0]? fun y128=>bk kG 0 y128 (cnd (AE p108 8+1=AE p108 8+1∧8≤8) (bd [0,1] (AA C n 122 (ct [0,13,0,0] p108 7 4 [])) fun y129=>join (Pg n ff p108 k107) fun k131=>cnd ((!(gB y129 1))=true) (k131 ([.t (.bool true)],upd (rh p108 0 Km) [(8,.row false (AE p108 8+1) 8 [[tI (gI y128 0),tI (gI y128 1),tI (gI y128 2),tI (gI y128 3),tI (gI y128 4),.bool (gB y128 5),.str (gS y128 6),.sl 2 (gL y128 7)]]),(9,.box (tv (zt kG [])))])) (k131 ([.t (.bool ((gI y129 0) != cI p108 7 15))],upd (rh p108 0 Km) [(8,.row false (AE p108 8+1) 8 [[tI (gI y128 0),tI (gI y128 1),tI (gI y128 2),tI (gI y128 3),tI (gI y128 4),.bool (gB y128 5),.str (gS y128 6),.sl 2 (gL y128 7)]]),(9,.box (tv (zt kG [])))]))) none)) none
noncomputable def Ep (n:Nat) (ff:Nat→Rec) (k102:KT) (p106:ST) (k107:KT):RT:=cnd (vB p106 1=true) (join (NF n ff p106 k107) fun k109=>cnd (decide (cI p106 7 15<cI p106 7 26)=true) (k109 ([],rh p106 0 CH)) (cnd (AE p106 8=LA p106 0) (Option.bind (oEs p106 8)[0]? fun y110=>bk kG 0 y110 (bd [0,0,0,0,0,0,0,0,2,0,0,0,5,0,0,12,0] (AA C n 148 (ct kS p106 7 16 (tI (cI p106 7 15)::gt kG y110 0 []))) fun y111=>cnd (((gI y111 16) != 0)=true) (k109 ([],rh p106 0 CH)) (cnd (List.length (gL y111 15)=0∧AR p106 7 35+AH p106 7 35<List.length (oEs p106 1)) (cnd (AE p106 1=AI p106 7 35) (cnd ((!(cB p106 7 38))=true) (cnd ((gI y111 14==2)=true) (k109 ([],upd (rh p106 0 CH) [(7,.box (upd (rb p106 7 0 A4) [(16,.t (tI (gI y111 0))),(17,.t (tI (gI y111 1))),(18,.t (tI (gI y111 2))),(19,.t (tI (gI y111 3))),(20,.t (tI (gI y111 4))),(21,.t (tI (gI y111 5))),(22,.t (tI (gI y111 6))),(23,.t (tI (gI y111 7))),(24,.t (.str (gS y111 8))),(25,.t (tI (gI y111 9))),(26,AV.t (tI (gI y111 10))),(27,.t (tI (gI y111 11))),(28,.t (.sl 2 (gL y111 12))),(29,.t (tI (gI y111 13))),(30,.t (tI (gI y111 14))),(38,.t (.bool true)),(39,.t (tI (cI p106 7 15)))]))])) (k109 ([],upd (rh p106 0 CH) [(7,.box (upd (rb p106 7 0 A4) [(16,.t (tI (gI y111 0))),(17,.t (tI (gI y111 1))),(18,.t (tI (gI y111 2))),(19,.t (tI (gI y111 3))),(20,.t (tI (gI y111 4))),(21,.t (tI (gI y111 5))),(22,.t (tI (gI y111 6))),(23,.t (tI (gI y111 7))),(24,.t (.str (gS y111 8))),(25,.t (tI (gI y111 9))),(26,.t (tI (gI y111 10))),(27,.t (tI (gI y111 11))),(28,.t (.sl 2 (gL y111 12))),(29,.t (tI (gI y111 13))),(30,.t (tI (gI y111 14)))]))]))) (k109 ([],upd (rh p106 0 CH) [(7,.box (upd (rb p106 7 0 A4) [(16,.t (tI (gI y111 0))),(17,.t (tI (gI y111 1))),(18,.t (tI (gI y111 2))),(19,.t (tI (gI y111 3))),(20,.t (tI (gI y111 4))),(21,.t (tI (gI y111 5))),(22,.t (tI (gI y111 6))),(23,.t (tI (gI y111 7))),(24,.t (.str (gS y111 8))),(25,.t (tI (gI y111 9))),(26,.t (tI (gI y111 10))),(27,.t (tI (gI y111 11))),(28,.t (.sl 2 (gL y111 12))),(29,.t (tI (gI y111 13))),(30,.t (tI (gI y111 14)))]))]))) none) (cnd (AE p106 1=AI p106 7 35∧(9=9∨9=0)∧AR p106 7 35+AH p106 7 35≤List.length (oEs p106 1)∧AH p106 7 35+List.length (gL y111 15)≤1073741824) (cnd ((!(cB p106 7 38))=true) (cnd ((gI y111 14==2)=true) (k109 ([],upd (rh p106 0 CH) [(1,.row false (AI p106 7 35+1) 9 (List.take (AH p106 7 35) (List.drop (AR p106 7 35) (oEs p106 1))++gL y111 15)),(7,.box (upd (rb p106 7 0 A4) [(16,.t (tI (gI y111 0))),(17,.t (tI (gI y111 1))),(18,.t (tI (gI y111 2))),(19,.t (tI (gI y111 3))),(20,.t (tI (gI y111 4))),(21,.t (tI (gI y111 5))),(22,.t (tI (gI y111 6))),(23,.t (tI (gI y111 7))),(24,.t (.str (gS y111 8))),(25,.t (tI (gI y111 9))),(26,.t (tI (gI y111 10))),(27,.t (tI (gI y111 11))),(28,.t (.sl 2 (gL y111 12))),(29,.t (tI (gI y111 13))),(30,.t (tI (gI y111 14))),(35,.sref 1 (AI p106 7 35+1) 0 (AH p106 7 35+List.length (gL y111 15))),(38,.t (.bool true)),(39,.t (tI (cI p106 7 15)))]))])) (k109 ([],upd (rh p106 0 CH) [(1,.row false (AI p106 7 35+1) 9 (List.take (AH p106 7 35) (List.drop (AR p106 7 35) (oEs p106 1))++gL y111 15)),(7,.box (upd (rb p106 7 0 A4) [(16,.t (tI (gI y111 0))),(17,.t (tI (gI y111 1))),(18,.t (tI (gI y111 2))),(19,AV.t (tI (gI y111 3))),(20,.t (tI (gI y111 4))),(21,.t (tI (gI y111 5))),(22,.t (tI (gI y111 6))),(23,.t (tI (gI y111 7))),(24,.t (.str (gS y111 8))),(25,.t (tI (gI y111 9))),(26,.t (tI (gI y111 10))),(27,.t (tI (gI y111 11))),(28,.t (.sl 2 (gL y111 12))),(29,.t (tI (gI y111 13))),(30,.t (tI (gI y111 14))),(35,.sref 1 (AI p106 7 35+1) 0 (AH p106 7 35+List.length (gL y111 15)))]))]))) (k109 ([],upd (rh p106 0 CH) [(1,.row false (AI p106 7 35+1) 9 (List.take (AH p106 7 35) (List.drop (AR p106 7 35) (oEs p106 1))++gL y111 15)),(7,.box (upd (rb p106 7 0 A4) [(16,.t (tI (gI y111 0))),(17,.t (tI (gI y111 1))),(18,.t (tI (gI y111 2))),(19,.t (tI (gI y111 3))),(20,.t (tI (gI y111 4))),(21,.t (tI (gI y111 5))),(22,.t (tI (gI y111 6))),(23,.t (tI (gI y111 7))),(24,.t (.str (gS y111 8))),(25,.t (tI (gI y111 9))),(26,.t (tI (gI y111 10))),(27,.t (tI (gI y111 11))),(28,.t (.sl 2 (gL y111 12))),(29,.t (tI (gI y111 13))),(30,.t (tI (gI y111 14))),(35,.sref 1 (AI p106 7 35+1) 0 (AH p106 7 35+List.length (gL y111 15)))]))]))) none)))) none)) (k102 ([],rh p106 0 BO))
noncomputable def Pf (n:Nat) (ff:Nat→Rec) (k102:KT) (p104:ST):RT:=cnd (vB p104 0=true) (AJ (Ep n ff k102) n ([.rptr 8 0 0 0,.t (.bool false)],upd (rh p104 0 CH) [(8,.row false 0 8 [[tI 0,tI 0,tI 0,tI 0,tI 0,.bool false,.str B0,.sl 2 []]])])) (bd [0,13,0,0,0,0,0,0,0,0,0,1,2,5,0] (AA C n 158 (ct [0,13,0,0] p104 7 4 [])) fun y135=>AJ (Ep n ff k102) n ([.rptr 8 0 0 0,.t (.bool true)],upd (rh p104 0 CH) [(7,.box (upd (rb p104 7 0 A4) [(4,.t (tI (gI y135 0))),(5,.t (.sl 10 (gL y135 1))),(6,.t (tI (gI y135 2))),(7,.t (tI (gI y135 3)))])),(8,.row false 0 8 [[tI (gI y135 6),tI (gI y135 7),tI (gI y135 8),tI (gI y135 9),tI (gI y135 10),.bool (gB y135 11),.str (gS y135 12),.sl 2 (gL y135 13)]])]))
noncomputable def Xe (n:Nat) (ff:Nat→Rec) (k102:KT) (p101:ST):RT:=ff 10 (List Tree) (.fn 126 [AV.ptr 7 0]) (rh p101 0 Bp) fun rs h1=>cnd (Bu C.P (BH C.P 126) rs=true) (Fw (rh p101 0 Bp) h1 fun hs=>k102 (rs,hs)) none
noncomputable def Re (n:Nat) (ff:Nat→Rec) (k102:KT) (p101:ST):RT:=bd [0,1] (AA C n 122 (ct [0,13,0,0] p101 7 4 [])) fun y103=>join (Pf n ff k102) fun k105=>cnd ((!(gB y103 1))=true) (k105 ([.t (.bool true)],upd (rh p101 0 OZ) [(8,.box (tv (zt kG [])))])) (k105 ([.t (.bool ((gI y103 0) != cI p101 7 15))],upd (rh p101 0 OZ) [(8,.box (tv (zt kG [])))]))
theorem vC26_3 (n:Nat) (ff:Nat→Rec) (k102:KT) (p101:ST):EA C (IA C (pcx C (AA C n)) n ff EB 9) (pcx C (AA C n)) n 126 [AV.ptr 7 0] (rh p101 0 Bp) (fun rs h1=>cnd (Bu C.P (BH C.P 126) rs=true) (Fw (rh p101 0 Bp) h1 fun hs=>k102 (rs,hs)) none)=Re n ff k102 p101:=by kernel_rfl
theorem Rn (n:Nat) (k102:KT) (p101:ST):Xe n (fI C n) k102 p101=Re n (fI C n) k102 p101:=(K2 C n EB 9 _ 126 _ _ _).trans (vC26_3 n (fI C n) k102 p101)
noncomputable def DU (n:Nat) (ff:Nat→Rec) (p181:ST) (k182:KT) (y189:List Tree) (p194:ST):RT:=cnd (vB p194 0=true) (Am (.box [AV.yld 40,.t (tI (cI p181 7 4)),.t (.sl 10 (cL p181 7 5)),.t (tI (cI p181 7 6)),.t (tI (cI p181 7 7))]) (.box [AV.yld 40,.t (tI (cI p194 7 4)),.t (.sl 10 (cL p194 7 5)),.t (tI (cI p194 7 6)),.t (tI (cI p194 7 7))]) (Am (.box [AV.yld 40,.t (tI (cI p181 7 4))]) (.box [AV.yld 40,.t (tI (cI p194 7 4))]) (Am (.row false (AE p181 5) 9 (oEs p181 5)) (.row false (AE p194 5) 9 (oEs p194 5)) (Am (.row false (AE p181 6) 9 (oEs p181 6)) (.row false (AE p194 6) 9 (oEs p194 6)) (Am (.row false (AE p181 1) 9 (oEs p181 1)) (.row false (AE p194 1) 9 (oEs p194 1)) (bd [0,13,0,0,0] (AA C n 156 (ct [0,13,0,0] p181 7 4 [tI (vI p181 3),tI (aI p181 4 0),tI (aI p181 4 1),tI (aI p181 4 2),tI (aI p181 4 3),tI (aI p181 4 4),.bool (aB p181 4 5),.str (aS p181 4 6),.sl 2 (aL p181 4 7),.sl 1 [[tI (cI p181 7 4)]]])) fun y196=>cnd (((gI y196 4) != 0)=true) (k182 ([],rh p194 0 CG)) (cnd (AE p194 6=AI p194 7 14∧(9=9∨9=0)∧AR p194 7 14+AH p194 7 14≤List.length (oEs p194 6)∧AH p194 7 14+1≤1073741824) (k182 ([],upd (rh p194 0 CG) [(6,.row false (AI p194 7 14+1) 9 (List.take (AH p194 7 14) (List.drop (AR p194 7 14) (oEs p194 6))++[[tI (vI p181 3),tI (aI p181 4 0),tI (aI p181 4 1),tI (aI p181 4 2),tI (aI p181 4 3),tI (aI p181 4 4),Tree.bool (aB p181 4 5),.str (aS p181 4 6),.sl 2 (aL p181 4 7)]])),(7,.box (upd (rb p194 7 0 A4) [(4,.t (tI (gI y196 0))),(5,.t (.sl 10 (gL y196 1))),(6,.t (tI (gI y196 2))),(7,.t (tI (gI y196 3))),(11,.t (tI (w64 (cI p194 7 11+1)))),(14,.sref 6 (AI p194 7 14+1) 0 (AH p194 7 14+1))]))])) none))))))) (Am (.box [AV.yld 40,.t (tI (cI p181 7 4)),.t (.sl 10 (cL p181 7 5)),.t (tI (cI p181 7 6)),.t (tI (cI p181 7 7))]) (.box [AV.yld 40,.t (tI (cI p194 7 4)),.t (.sl 10 (cL p194 7 5)),.t (tI (cI p194 7 6)),.t (tI (cI p194 7 7))]) (Am (.box [AV.yld 40,.t (tI (cI p181 7 4))]) (.box [AV.yld 40,.t (tI (cI p194 7 4))]) (Am (.row false (AE p181 5) 9 (oEs p181 5)) (.row false (AE p194 5) 9 (oEs p194 5)) (Am (.row false (AE p181 6) 9 (oEs p181 6)) (.row false (AE p194 6) 9 (oEs p194 6)) (Am (.row false (AE p181 1) 9 (oEs p181 1)) (.row false (AE p194 1) 9 (oEs p194 1)) (bd [0,13,0,0,0] (AA C n 156 (ct [0,13,0,0] p181 7 4 [tI (vI p181 3),tI (aI p181 4 0),tI (aI p181 4 1),tI (aI p181 4 2),tI (aI p181 4 3),tI (aI p181 4 4),.bool (aB p181 4 5),.str (aS p181 4 6),.sl 2 (aL p181 4 7),.sl 1 (gL y189 0)])) fun y197=>cnd (((gI y197 4) != 0)=true) (k182 ([],upd (rh p194 0 CG) [(7,.box (upd (rb p194 7 0 A4) [(12,.t (tI (w64 (cI p194 7 12+1))))]))])) (cnd (AE p194 6=AI p194 7 14∧(9=9∨9=0)∧AR p194 7 14+AH p194 7 14≤List.length (oEs p194 6)∧AH p194 7 14+1≤1073741824) (k182 ([],upd (rh p194 0 CG) [(6,.row false (AI p194 7 14+1) 9 (List.take (AH p194 7 14) (List.drop (AR p194 7 14) (oEs p194 6))++[[tI (vI p181 3),tI (aI p181 4 0),tI (aI p181 4 1),tI (aI p181 4 2),tI (aI p181 4 3),tI (aI p181 4 4),.bool (aB p181 4 5),.str (aS p181 4 6),.sl 2 (aL p181 4 7)]])),(7,.box (upd (rb p194 7 0 A4) [(4,.t (tI (gI y197 0))),(5,.t (.sl 10 (gL y197 1))),(6,.t (tI (gI y197 2))),(7,.t (tI (gI y197 3))),(11,.t (tI (w64 (cI p194 7 11+1)))),(12,.t (tI (w64 (cI p194 7 12+1)))),(14,.sref 6 (AI p194 7 14+1) 0 (AH p194 7 14+1))]))])) none)))))))
noncomputable def HW (n:Nat) (ff:Nat→Rec) (p181:ST) (y189:List Tree) (k182:KT) (p190:ST):RT:=cnd (vB p190 0=true) (Am (.box [AV.yld 40,.t (tI (cI p181 7 4)),.t (.sl 10 (cL p181 7 5)),.t (tI (cI p181 7 6)),.t (tI (cI p181 7 7))]) (.box [AV.yld 40,.t (tI (cI p190 7 4)),.t (.sl 10 (cL p190 7 5)),.t (tI (cI p190 7 6)),.t (tI (cI p190 7 7))]) (Am (.box [AV.yld 40,.t (tI (cI p181 7 4))]) (.box [AV.yld 40,.t (tI (cI p190 7 4))]) (Am (.row false (AE p181 5) 9 (oEs p181 5)) (.row false (AE p190 5) 9 (oEs p190 5)) (Am (.row false (AE p181 6) 9 (oEs p181 6)) (.row false (AE p190 6) 9 (oEs p190 6)) (Am (.row false (AE p181 1) 9 (oEs p181 1)) (.row false (AE p190 1) 9 (oEs p190 1)) (bd [0,13,0,0,0] (AA C n 156 (ct [0,13,0,0] p181 7 4 [tI (vI p181 3),tI (aI p181 4 0),tI (aI p181 4 1),tI (aI p181 4 2),tI (aI p181 4 3),tI (aI p181 4 4),.bool (aB p181 4 5),.str (aS p181 4 6),.sl 2 (aL p181 4 7),.sl 1 (gL y189 0)])) fun y193=>cnd (((gI y193 4) != 0)=true) (k182 ([],rh p190 0 CG)) (cnd (AE p190 6=AI p190 7 14∧(9=9∨9=0)∧AR p190 7 14+AH p190 7 14≤List.length (oEs p190 6)∧AH p190 7 14+1≤1073741824) (k182 ([],upd (rh p190 0 CG) [(6,.row false (AI p190 7 14+1) 9 (List.take (AH p190 7 14) (List.drop (AR p190 7 14) (oEs p190 6))++[[tI (vI p181 3),tI (aI p181 4 0),tI (aI p181 4 1),tI (aI p181 4 2),tI (aI p181 4 3),tI (aI p181 4 4),.bool (aB p181 4 5),.str (aS p181 4 6),.sl 2 (aL p181 4 7)]])),(7,.box (upd (rb p190 7 0 A4) [(4,.t (tI (gI y193 0))),(5,.t (.sl 10 (gL y193 1))),(6,.t (tI (gI y193 2))),(7,.t (tI (gI y193 3))),(11,.t (tI (w64 (cI p190 7 11+1)))),(14,.sref 6 (AI p190 7 14+1) 0 (AH p190 7 14+1))]))])) none))))))) (join (DU n ff p181 k182 y189) fun k195=>cnd (decide (cI p190 7 9≥(0:Int))=true) (k195 ([.t (.bool (decide (cI p190 7 12≥cI p190 7 9)))],rh p190 0 Kl)) (k195 ([.t (.bool false)],rh p190 0 Kl)))
noncomputable def HV (n:Nat) (ff:Nat→Rec) (p181:ST) (y202:List Tree) (k182:KT) (p203:ST):RT:=cnd (vB p203 0=true) (Am (.box [AV.yld 40,.t (tI (cI p181 7 4)),.t (.sl 10 (cL p181 7 5)),.t (tI (cI p181 7 6)),.t (tI (cI p181 7 7))]) (.box [AV.yld 40,.t (tI (cI p203 7 4)),.t (.sl 10 (cL p203 7 5)),.t (tI (cI p203 7 6)),.t (tI (cI p203 7 7))]) (Am (.box [AV.yld 40,.t (tI (cI p181 7 4))]) (.box [AV.yld 40,.t (tI (cI p203 7 4))]) (Am (.row false (AE p181 5) 9 (oEs p181 5)) (.row false (AE p203 5) 9 (oEs p203 5)) (Am (.row false (AE p181 6) 9 (oEs p181 6)) (.row false (AE p203 6) 9 (oEs p203 6)) (Am (.row false (AE p181 1) 9 (oEs p181 1)) (.row false (AE p203 1) 9 (oEs p203 1)) (bd [0,13,0,0,0] (AA C n 156 (ct [0,13,0,0] p181 7 4 [tI (vI p181 3),tI (aI p181 4 0),tI (aI p181 4 1),tI (aI p181 4 2),tI (aI p181 4 3),tI (aI p181 4 4),.bool (aB p181 4 5),.str (aS p181 4 6),.sl 2 (aL p181 4 7),.sl 1 (gL y202 0)])) fun y206=>cnd (((gI y206 4) != 0)=true) (k182 ([],rh p203 0 CG)) (cnd (AE p203 6=AI p203 7 14∧(9=9∨9=0)∧AR p203 7 14+AH p203 7 14≤List.length (oEs p203 6)∧AH p203 7 14+1≤1073741824) (k182 ([],upd (rh p203 0 CG) [(6,.row false (AI p203 7 14+1) 9 (List.take (AH p203 7 14) (List.drop (AR p203 7 14) (oEs p203 6))++[[tI (vI p181 3),tI (aI p181 4 0),tI (aI p181 4 1),tI (aI p181 4 2),tI (aI p181 4 3),tI (aI p181 4 4),.bool (aB p181 4 5),.str (aS p181 4 6),.sl 2 (aL p181 4 7)]])),(7,.box (upd (rb p203 7 0 A4) [(4,.t (tI (gI y206 0))),(5,.t (.sl 10 (gL y206 1))),(6,.t (tI (gI y206 2))),(7,.t (tI (gI y206 3))),(11,.t (tI (w64 (cI p203 7 11+1)))),(14,.sref 6 (AI p203 7 14+1) 0 (AH p203 7 14+1))]))])) none))))))) (join (DU n ff p181 k182 y202) fun k208=>cnd (decide (cI p203 7 9≥(0:Int))=true) (k208 ([.t (.bool (decide (cI p203 7 12≥cI p203 7 9)))],rh p203 0 CG)) (k208 ([.t (.bool false)],rh p203 0 CG)))
noncomputable def Xd (n:Nat) (ff:Nat→Rec) (k182:KT) (p181:ST):RT:=ff 9 (List Tree) (.fn 144 [AV.ptr 7 0,AV.ptr 7 4,.t (tI 1),.t (tI (vI p181 3)),AV.agg (tv [tI (aI p181 4 0),tI (aI p181 4 1),tI (aI p181 4 2),tI (aI p181 4 3),tI (aI p181 4 4),.bool (aB p181 4 5),.str (aS p181 4 6),.sl 2 (aL p181 4 7)])]) (rh p181 0 It) fun rs h1=>cnd (Bu C.P (BH C.P 144) rs=true) (Fw (rh p181 0 It) h1 fun hs=>k182 (rs,hs)) none
noncomputable def HS (n:Nat) (ff:Nat→Rec) (k182:KT) (p181:ST):RT:=cnd (decide (cI p181 7 11≥(10000:Int))=true) (k182 ([],rh p181 0 CG)) (both (bd [1] (AA C n 175 [.sl 2 (cL p181 7 10),tI (vI p181 3)]) fun y185=>cnd (gB y185 0=true) (Am (.box [AV.yld 40,.t (tI (cI p181 7 4)),.t (.sl 10 (cL p181 7 5)),.t (tI (cI p181 7 6)),.t (tI (cI p181 7 7))]) (.box [AV.yld 40,.t (tI (cI p181 7 4)),.t (.sl 10 (cL p181 7 5)),.t (tI (cI p181 7 6)),.t (tI (cI p181 7 7))]) (Am (.box [AV.yld 40,.t (tI (cI p181 7 4))]) (.box [AV.yld 40,.t (tI (cI p181 7 4))]) (Am (.row false (AE p181 5) 9 (oEs p181 5)) (.row false (AE p181 5) 9 (oEs p181 5)) (Am (.row false (AE p181 6) 9 (oEs p181 6)) (.row false (AE p181 6) 9 (oEs p181 6)) (Am (.row false (AE p181 1) 9 (oEs p181 1)) (.row false (AE p181 1) 9 (oEs p181 1)) (bd [0,13,0,0,0] (AA C n 156 (ct [0,13,0,0] p181 7 4 [tI (vI p181 3),tI (aI p181 4 0),tI (aI p181 4 1),tI (aI p181 4 2),tI (aI p181 4 3),tI (aI p181 4 4),.bool (aB p181 4 5),.str (aS p181 4 6),.sl 2 (aL p181 4 7),.sl 1 []])) fun y186=>cnd (((gI y186 4) != 0)=true) (k182 ([],rh p181 0 CG)) (cnd (AE p181 6=AI p181 7 14∧(9=9∨9=0)∧AR p181 7 14+AH p181 7 14≤List.length (oEs p181 6)∧AH p181 7 14+1≤1073741824) (k182 ([],upd (rh p181 0 CG) [(6,.row false (AI p181 7 14+1) 9 (List.take (AH p181 7 14) (List.drop (AR p181 7 14) (oEs p181 6))++[[tI (vI p181 3),tI (aI p181 4 0),tI (aI p181 4 1),tI (aI p181 4 2),tI (aI p181 4 3),tI (aI p181 4 4),.bool (aB p181 4 5),.str (aS p181 4 6),.sl 2 (aL p181 4 7)]])),(7,.box (upd (rb p181 7 0 A4) [(4,.t (tI (gI y186 0))),(5,.t (.sl 10 (gL y186 1))),(6,.t (tI (gI y186 2))),(7,.t (tI (gI y186 3))),(11,.t (tI (w64 (cI p181 7 11+1)))),(14,.sref 6 (AI p181 7 14+1) 0 (AH p181 7 14+1))]))])) none))))))) (cnd (((List.length (cL p181 7 8):Int)==0)=true) (Am (.box [AV.yld 40,.t (tI (cI p181 7 4)),.t (.sl 10 (cL p181 7 5)),.t (tI (cI p181 7 6)),.t (tI (cI p181 7 7))]) (.box [AV.yld 40,.t (tI (cI p181 7 4)),.t (.sl 10 (cL p181 7 5)),.t (tI (cI p181 7 6)),.t (tI (cI p181 7 7))]) (Am (.box [AV.yld 40,.t (tI (cI p181 7 4))]) (.box [AV.yld 40,.t (tI (cI p181 7 4))]) (Am (.row false (AE p181 5) 9 (oEs p181 5)) (.row false (AE p181 5) 9 (oEs p181 5)) (Am (.row false (AE p181 6) 9 (oEs p181 6)) (.row false (AE p181 6) 9 (oEs p181 6)) (Am (.row false (AE p181 1) 9 (oEs p181 1)) (.row false (AE p181 1) 9 (oEs p181 1)) (bd [0,13,0,0,0] (AA C n 156 (ct [0,13,0,0] p181 7 4 [tI (vI p181 3),tI (aI p181 4 0),tI (aI p181 4 1),tI (aI p181 4 2),tI (aI p181 4 3),tI (aI p181 4 4),.bool (aB p181 4 5),.str (aS p181 4 6),.sl 2 (aL p181 4 7),.sl 1 [[tI (cI p181 7 4)]]])) fun y187=>cnd (((gI y187 4) != 0)=true) (k182 ([],rh p181 0 CG)) (cnd (AE p181 6=AI p181 7 14∧(9=9∨9=0)∧AR p181 7 14+AH p181 7 14≤List.length (oEs p181 6)∧AH p181 7 14+1≤1073741824) (k182 ([],upd (rh p181 0 CG) [(6,.row false (AI p181 7 14+1) 9 (List.take (AH p181 7 14) (List.drop (AR p181 7 14) (oEs p181 6))++[[tI (vI p181 3),tI (aI p181 4 0),tI (aI p181 4 1),tI (aI p181 4 2),tI (aI p181 4 3),tI (aI p181 4 4),.bool (aB p181 4 5),.str (aS p181 4 6),.sl 2 (aL p181 4 7)]])),(7,.box (upd (rb p181 7 0 A4) [(4,.t (tI (gI y187 0))),(5,.t (.sl 10 (gL y187 1))),(6,.t (tI (gI y187 2))),(7,.t (tI (gI y187 3))),(11,.t (tI (w64 (cI p181 7 11+1)))),(14,.sref 6 (AI p181 7 14+1) 0 (AH p181 7 14+1))]))])) none))))))) (cnd ((List.length (cL p181 7 8):Int)=0) none (cnd (1=1∧0≤Int.tmod (cI p181 7 11) (List.length (cL p181 7 8):Int)) (Option.bind (cL p181 7 8)[Int.toNat (Int.tmod (cI p181 7 11) (List.length (cL p181 7 8):Int))]? fun y188=>cnd (okI y188 0) (bd [4,0] (AA C n 176 [tI (gI y188 0),tI (cI p181 7 4)]) fun y189=>join (HW n ff p181 y189 k182) fun k191=>cnd (decide ((List.length (gL y189 0):Int)>0)=true) (Option.bind (gL y189 0)[0]? fun y192=>cnd (okI y192 0) (k191 ([.t (.bool (gI y192 0==cI p181 7 4))],upd (rh p181 0 Kl) [(11,.box (tv (zt [0,13,0,0] [])))])) none) (k191 ([.t (.bool false)],upd (rh p181 0 Kl) [(11,.box (tv (zt [0,13,0,0] [])))]))) none) none)))) (bd [1] (AA C n 175 [.sl 2 (cL p181 7 10),tI (vI p181 3)]) fun y198=>cnd (gB y198 0=true) (Am (.box [AV.yld 40,.t (tI (cI p181 7 4)),.t (.sl 10 (cL p181 7 5)),.t (tI (cI p181 7 6)),.t (tI (cI p181 7 7))]) (.box [AV.yld 40,.t (tI (cI p181 7 4)),.t (.sl 10 (cL p181 7 5)),.t (tI (cI p181 7 6)),.t (tI (cI p181 7 7))]) (Am (.box [AV.yld 40,.t (tI (cI p181 7 4))]) (.box [AV.yld 40,.t (tI (cI p181 7 4))]) (Am (.row false (AE p181 5) 9 (oEs p181 5)) (.row false (AE p181 5) 9 (oEs p181 5)) (Am (.row false (AE p181 6) 9 (oEs p181 6)) (.row false (AE p181 6) 9 (oEs p181 6)) (Am (.row false (AE p181 1) 9 (oEs p181 1)) (.row false (AE p181 1) 9 (oEs p181 1)) (bd [0,13,0,0,0] (AA C n 156 (ct [0,13,0,0] p181 7 4 [tI (vI p181 3),tI (aI p181 4 0),tI (aI p181 4 1),tI (aI p181 4 2),tI (aI p181 4 3),tI (aI p181 4 4),.bool (aB p181 4 5),.str (aS p181 4 6),.sl 2 (aL p181 4 7),.sl 1 []])) fun y199=>cnd (((gI y199 4) != 0)=true) (k182 ([],rh p181 0 CG)) (cnd (AE p181 6=AI p181 7 14∧(9=9∨9=0)∧AR p181 7 14+AH p181 7 14≤List.length (oEs p181 6)∧AH p181 7 14+1≤1073741824) (k182 ([],upd (rh p181 0 CG) [(6,.row false (AI p181 7 14+1) 9 (List.take (AH p181 7 14) (List.drop (AR p181 7 14) (oEs p181 6))++[[tI (vI p181 3),tI (aI p181 4 0),tI (aI p181 4 1),tI (aI p181 4 2),tI (aI p181 4 3),tI (aI p181 4 4),.bool (aB p181 4 5),.str (aS p181 4 6),.sl 2 (aL p181 4 7)]])),(7,.box (upd (rb p181 7 0 A4) [(4,.t (tI (gI y199 0))),(5,.t (.sl 10 (gL y199 1))),(6,.t (tI (gI y199 2))),(7,.t (tI (gI y199 3))),(11,.t (tI (w64 (cI p181 7 11+1)))),(14,.sref 6 (AI p181 7 14+1) 0 (AH p181 7 14+1))]))])) none))))))) (cnd (((List.length (cL p181 7 8):Int)==0)=true) (Am (.box [AV.yld 40,.t (tI (cI p181 7 4)),.t (.sl 10 (cL p181 7 5)),.t (tI (cI p181 7 6)),.t (tI (cI p181 7 7))]) (.box [AV.yld 40,.t (tI (cI p181 7 4)),.t (.sl 10 (cL p181 7 5)),.t (tI (cI p181 7 6)),.t (tI (cI p181 7 7))]) (Am (.box [AV.yld 40,.t (tI (cI p181 7 4))]) (.box [AV.yld 40,.t (tI (cI p181 7 4))]) (Am (.row false (AE p181 5) 9 (oEs p181 5)) (.row false (AE p181 5) 9 (oEs p181 5)) (Am (.row false (AE p181 6) 9 (oEs p181 6)) (.row false (AE p181 6) 9 (oEs p181 6)) (Am (.row false (AE p181 1) 9 (oEs p181 1)) (.row false (AE p181 1) 9 (oEs p181 1)) (bd [0,13,0,0,0] (AA C n 156 (ct [0,13,0,0] p181 7 4 [tI (vI p181 3),tI (aI p181 4 0),tI (aI p181 4 1),tI (aI p181 4 2),tI (aI p181 4 3),tI (aI p181 4 4),.bool (aB p181 4 5),.str (aS p181 4 6),.sl 2 (aL p181 4 7),.sl 1 [[tI (cI p181 7 4)]]])) fun y200=>cnd (((gI y200 4) != 0)=true) (k182 ([],rh p181 0 CG)) (cnd (AE p181 6=AI p181 7 14∧(9=9∨9=0)∧AR p181 7 14+AH p181 7 14≤List.length (oEs p181 6)∧AH p181 7 14+1≤1073741824) (k182 ([],upd (rh p181 0 CG) [(6,.row false (AI p181 7 14+1) 9 (List.take (AH p181 7 14) (List.drop (AR p181 7 14) (oEs p181 6))++[[tI (vI p181 3),tI (aI p181 4 0),tI (aI p181 4 1),tI (aI p181 4 2),tI (aI p181 4 3),tI (aI p181 4 4),.bool (aB p181 4 5),.str (aS p181 4 6),.sl 2 (aL p181 4 7)]])),(7,.box (upd (rb p181 7 0 A4) [(4,AV.t (tI (gI y200 0))),(5,.t (.sl 10 (gL y200 1))),(6,.t (tI (gI y200 2))),(7,.t (tI (gI y200 3))),(11,.t (tI (w64 (cI p181 7 11+1)))),(14,.sref 6 (AI p181 7 14+1) 0 (AH p181 7 14+1))]))])) none))))))) (cnd ((List.length (cL p181 7 8):Int)=0) none (cnd (1=1∧0≤Int.tmod (cI p181 7 11) (List.length (cL p181 7 8):Int)) (Option.bind (cL p181 7 8)[Int.toNat (Int.tmod (cI p181 7 11) (List.length (cL p181 7 8):Int))]? fun y201=>cnd (okI y201 0) (bd [4,0] (AA C n 176 [tI (gI y201 0),tI (cI p181 7 4)]) fun y202=>join (HV n ff p181 y202 k182) fun k204=>cnd (decide ((List.length (gL y202 0):Int)>0)=true) (Option.bind (gL y202 0)[0]? fun y205=>cnd (okI y205 0) (k204 ([.t (.bool (gI y205 0==cI p181 7 4))],rh p181 0 CG)) none) (k204 ([.t (.bool false)],rh p181 0 CG))) none) none)))))
theorem vC26_4 (n:Nat) (ff:Nat→Rec) (k182:KT) (p181:ST):EA C (IA C (pcx C (AA C n)) n ff EB 8) (pcx C (AA C n)) n 144 [AV.ptr 7 0,AV.ptr 7 4,.t (tI 1),.t (tI (vI p181 3)),AV.agg (tv [tI (aI p181 4 0),tI (aI p181 4 1),tI (aI p181 4 2),tI (aI p181 4 3),tI (aI p181 4 4),.bool (aB p181 4 5),.str (aS p181 4 6),.sl 2 (aL p181 4 7)])] (rh p181 0 It) (fun rs h1=>cnd (Bu C.P (BH C.P 144) rs=true) (Fw (rh p181 0 It) h1 fun hs=>k182 (rs,hs)) none)=HS n ff k182 p181:=by kernel_rfl
theorem F5 (n:Nat) (k182:KT) (p181:ST):Xd n (fI C n) k182 p181=HS n (fI C n) k182 p181:=(K2 C n EB 8 _ 144 _ _ _).trans (vC26_4 n (fI C n) k182 p181)
noncomputable def Su (n:Nat) (ff:Nat→Rec) (k179:KT) (p178 p211:ST):RT:=k179 ([.t (tI (w64 (vI p178 0+1)))],rh p211 0 NK)
noncomputable def Im (n:Nat) (ff:Nat→Rec) (y177:List Tree) (p167:ST) (k175:KT) (p178:ST) (k179:KT):RT:=cnd (decide (vI p178 0<(List.length (gL y177 4):Int))=true) (cnd (8=8∧0≤vI p178 0) (Option.bind (gL y177 4)[Int.toNat (vI p178 0)]? fun y180=>bk kG 0 y180 (join (Su n ff k179 p178) fun k212=>Xd n ff k212 ([AV.ptr 7 0,AV.ptr 7 4,.t (tI 1),.t (tI (cI p178 7 15)),AV.agg (tv (gt kG y180 0 []))],upd (rh p178 0 It) [(2,.row true (AE p167 2) 15 (oEs p167 2)),(3,.row true (AE p167 3) 4 (oEs p167 3)),(4,.row true (AE p167 4) 4 (oEs p167 4)),(10,.box (tv (gt kG y180 0 [])))]))) none) (cnd ((!(cB p178 7 36))=true) (bd [1] (AA C n 147 (ct [0,0,5,2] p178 7 31 [])) fun y215=>cnd (gB y215 0=true) (k175 ([],upd (rh p178 0 CH) [(7,.box (upd (rb p178 7 0 A4) [(36,AV.t (Tree.bool true)),(37,.t (tI (cI p178 7 15)))]))])) (k175 ([],rh p178 0 CH))) (k175 ([],rh p178 0 CH)))
noncomputable def Pe (n:Nat) (ff:Nat→Rec) (p174:ST) (k173:KT) (p224:ST):RT:=cnd (vB p224 0=true) (cnd (AE p224 8=AE p174 8+1∧8≤8) (Option.bind (oEs p224 8)[0]? fun y226=>k173 ([.rptr 8 (AE p174 8+1) 0 0,.t (.bool false)],upd (rh p224 0 CH) [(8,.row false (AE p174 8+1) 8 (List.set (oEs p224 8) 0 (zt kG []++List.drop 8 y226)))])) none) (bd [0,13,0,0,0,0,0,0,0,0,0,1,2,5,0] (AA C n 158 (ct [0,13,0,0] p224 7 0 [])) fun y227=>cnd (AE p224 8=AE p174 8+1∧8≤8) (Option.bind (oEs p224 8)[0]? fun y228=>k173 ([.rptr 8 (AE p174 8+1) 0 0,.t (.bool true)],upd (rh p224 0 CH) [(7,.box (upd (rb p224 7 0 A4) [(0,.t (tI (gI y227 0))),(1,.t (.sl 10 (gL y227 1))),(2,.t (tI (gI y227 2))),(3,.t (tI (gI y227 3)))])),(8,.row false (AE p174 8+1) 8 (List.set (oEs p224 8) 0 (gt kG y227 6 []++List.drop 8 y228)))])) none)
noncomputable def ND (n:Nat) (ff:Nat→Rec) (p172:ST) (k173:KT) (p174:ST):RT:=cnd (AE p174 8=LA p172 0) (Option.bind (oEs p174 8)[0]? fun y222=>bk kG 0 y222 (cnd (AE p174 8+1=AE p174 8+1∧8≤8) (bd [0,1] (AA C n 122 (ct [0,13,0,0] p174 7 0 [])) fun y223=>join (Pe n ff p174 k173) fun k225=>cnd ((!(gB y223 1))=true) (k225 ([.t (.bool true)],upd (rh p174 0 Km) [(8,.row false (AE p174 8+1) 8 [[tI (gI y222 0),tI (gI y222 1),tI (gI y222 2),tI (gI y222 3),tI (gI y222 4),.bool (gB y222 5),.str (gS y222 6),.sl 2 (gL y222 7)]]),(9,.box (tv (zt kG [])))])) (k225 ([.t (.bool ((gI y223 0) != cI p174 7 15))],upd (rh p174 0 Km) [(8,.row false (AE p174 8+1) 8 [[tI (gI y222 0),tI (gI y222 1),tI (gI y222 2),tI (gI y222 3),tI (gI y222 4),.bool (gB y222 5),.str (gS y222 6),.sl 2 (gL y222 7)]]),(9,.box (tv (zt kG [])))]))) none)) none
noncomputable def GR (n:Nat) (ff:Nat→Rec) (p167:ST) (k168:KT) (p172:ST) (k173:KT):RT:=cnd (vB p172 1=true) (join (ND n ff p172 k173) fun k175=>cnd (AE p172 8=LA p172 0) (Option.bind (oEs p172 8)[0]? fun y176=>bk kG 0 y176 (bd [0,0,5,2,11,0] (AA C n 146 (ct [0,0,5,2] p172 7 31 (gt kG y176 0 []))) fun y177=>cnd (((gI y177 5) != 0)=true) (k175 ([],rh p172 0 CH)) (AJ (Im n ff y177 p167 k175) n ([.t (tI 0)],upd (rh p172 0 NK) [(7,.box (upd (rb p172 7 0 A4) [(31,.t (tI (gI y177 0))),(32,.t (tI (gI y177 1))),(33,.t (.sl 2 (gL y177 2))),(34,.t (.str (gS y177 3)))])),(9,.box (tv (gt [0,0,5,2] y177 0 [])))])))) none) (k168 ([],rh p172 0 BO))
noncomputable def Pd (n:Nat) (ff:Nat→Rec) (p167:ST) (k168:KT) (p170:ST):RT:=cnd (vB p170 0=true) (AJ (GR n ff p167 k168) n ([.rptr 8 0 0 0,.t (.bool false)],upd (rh p170 0 CH) [(8,.row false 0 8 [[tI 0,tI 0,tI 0,tI 0,tI 0,.bool false,.str B0,.sl 2 []]])])) (bd [0,13,0,0,0,0,0,0,0,0,0,1,2,5,0] (AA C n 158 (ct [0,13,0,0] p170 7 0 [])) fun y229=>AJ (GR n ff p167 k168) n ([.rptr 8 0 0 0,.t (.bool true)],upd (rh p170 0 CH) [(7,.box (upd (rb p170 7 0 A4) [(0,.t (tI (gI y229 0))),(1,.t (.sl 10 (gL y229 1))),(2,AV.t (tI (gI y229 2))),(3,.t (tI (gI y229 3)))])),(8,.row false 0 8 [[tI (gI y229 6),tI (gI y229 7),tI (gI y229 8),tI (gI y229 9),tI (gI y229 10),.bool (gB y229 11),.str (gS y229 12),.sl 2 (gL y229 13)]])]))
noncomputable def Xc (n:Nat) (ff:Nat→Rec) (k168:KT) (p167:ST):RT:=ff 10 (List Tree) (.fn 125 [AV.ptr 7 0]) (rh p167 0 Bp) fun rs h1=>cnd (Bu C.P (BH C.P 125) rs=true) (Fw (rh p167 0 Bp) h1 fun hs=>k168 (rs,hs)) none
noncomputable def Rc (n:Nat) (ff:Nat→Rec) (k168:KT) (p167:ST):RT:=bd [0,1] (AA C n 122 (ct [0,13,0,0] p167 7 0 [])) fun y169=>join (Pd n ff p167 k168) fun k171=>cnd ((!(gB y169 1))=true) (k171 ([.t (.bool true)],upd (rh p167 0 OZ) [(8,.box (tv (zt kG [])))])) (k171 ([.t (.bool ((gI y169 0) != cI p167 7 15))],upd (rh p167 0 OZ) [(8,.box (tv (zt kG [])))]))
theorem vC26_5 (n:Nat) (ff:Nat→Rec) (k168:KT) (p167:ST):EA C (IA C (pcx C (AA C n)) n ff EB 9) (pcx C (AA C n)) n 125 [AV.ptr 7 0] (rh p167 0 Bp) (fun rs h1=>cnd (Bu C.P (BH C.P 125) rs=true) (Fw (rh p167 0 Bp) h1 fun hs=>k168 (rs,hs)) none)=Rc n ff k168 p167:=by kernel_rfl
theorem Rm (n:Nat) (k168:KT) (p167:ST):Xc n (fI C n) k168 p167=Rc n (fI C n) k168 p167:=(K2 C n EB 9 _ 125 _ _ _).trans (vC26_5 n (fI C n) k168 p167)
noncomputable def DT (n:Nat) (ff:Nat→Rec) (p267:ST) (k268:KT) (y275:List Tree) (p280:ST):RT:=cnd (vB p280 0=true) (Am (.box [AV.yld 40,.t (tI (cI p267 7 0)),.t (.sl 10 (cL p267 7 1)),.t (tI (cI p267 7 2)),.t (tI (cI p267 7 3))]) (.box [AV.yld 40,.t (tI (cI p280 7 0)),.t (.sl 10 (cL p280 7 1)),.t (tI (cI p280 7 2)),.t (tI (cI p280 7 3))]) (Am (.box [AV.yld 40,.t (tI (cI p267 7 0))]) (.box [AV.yld 40,.t (tI (cI p280 7 0))]) (Am (.row false (AE p267 5) 9 (oEs p267 5)) (.row false (AE p280 5) 9 (oEs p280 5)) (Am (.row false (AE p267 6) 9 (oEs p267 6)) (.row false (AE p280 6) 9 (oEs p280 6)) (Am (.row false (AE p267 1) 9 (oEs p267 1)) (.row false (AE p280 1) 9 (oEs p280 1)) (bd [0,13,0,0,0] (AA C n 156 (ct [0,13,0,0] p267 7 0 [tI (vI p267 3),tI (aI p267 4 0),tI (aI p267 4 1),tI (aI p267 4 2),tI (aI p267 4 3),tI (aI p267 4 4),.bool (aB p267 4 5),.str (aS p267 4 6),.sl 2 (aL p267 4 7),.sl 1 [[tI (cI p267 7 0)]]])) fun y282=>cnd (((gI y282 4) != 0)=true) (k268 ([],rh p280 0 BO)) (cnd (AE p280 5=AI p280 7 13∧(9=9∨9=0)∧AR p280 7 13+AH p280 7 13≤List.length (oEs p280 5)∧AH p280 7 13+1≤1073741824) (k268 ([],upd (rh p280 0 BO) [(5,.row false (AI p280 7 13+1) 9 (List.take (AH p280 7 13) (List.drop (AR p280 7 13) (oEs p280 5))++[[tI (vI p267 3),tI (aI p267 4 0),tI (aI p267 4 1),tI (aI p267 4 2),tI (aI p267 4 3),tI (aI p267 4 4),Tree.bool (aB p267 4 5),.str (aS p267 4 6),.sl 2 (aL p267 4 7)]])),(7,.box (upd (rb p280 7 0 A4) [(0,.t (tI (gI y282 0))),(1,.t (.sl 10 (gL y282 1))),(2,.t (tI (gI y282 2))),(3,.t (tI (gI y282 3))),(11,.t (tI (w64 (cI p280 7 11+1)))),(13,.sref 5 (AI p280 7 13+1) 0 (AH p280 7 13+1))]))])) none))))))) (Am (.box [AV.yld 40,.t (tI (cI p267 7 0)),.t (.sl 10 (cL p267 7 1)),.t (tI (cI p267 7 2)),.t (tI (cI p267 7 3))]) (.box [AV.yld 40,.t (tI (cI p280 7 0)),.t (.sl 10 (cL p280 7 1)),.t (tI (cI p280 7 2)),.t (tI (cI p280 7 3))]) (Am (.box [AV.yld 40,.t (tI (cI p267 7 0))]) (.box [AV.yld 40,.t (tI (cI p280 7 0))]) (Am (.row false (AE p267 5) 9 (oEs p267 5)) (.row false (AE p280 5) 9 (oEs p280 5)) (Am (.row false (AE p267 6) 9 (oEs p267 6)) (.row false (AE p280 6) 9 (oEs p280 6)) (Am (.row false (AE p267 1) 9 (oEs p267 1)) (.row false (AE p280 1) 9 (oEs p280 1)) (bd [0,13,0,0,0] (AA C n 156 (ct [0,13,0,0] p267 7 0 [tI (vI p267 3),tI (aI p267 4 0),tI (aI p267 4 1),tI (aI p267 4 2),tI (aI p267 4 3),tI (aI p267 4 4),.bool (aB p267 4 5),.str (aS p267 4 6),.sl 2 (aL p267 4 7),.sl 1 (gL y275 0)])) fun y283=>cnd (((gI y283 4) != 0)=true) (k268 ([],upd (rh p280 0 BO) [(7,.box (upd (rb p280 7 0 A4) [(12,.t (tI (w64 (cI p280 7 12+1))))]))])) (cnd (AE p280 5=AI p280 7 13∧(9=9∨9=0)∧AR p280 7 13+AH p280 7 13≤List.length (oEs p280 5)∧AH p280 7 13+1≤1073741824) (k268 ([],upd (rh p280 0 BO) [(5,.row false (AI p280 7 13+1) 9 (List.take (AH p280 7 13) (List.drop (AR p280 7 13) (oEs p280 5))++[[tI (vI p267 3),tI (aI p267 4 0),tI (aI p267 4 1),tI (aI p267 4 2),tI (aI p267 4 3),tI (aI p267 4 4),.bool (aB p267 4 5),.str (aS p267 4 6),.sl 2 (aL p267 4 7)]])),(7,.box (upd (rb p280 7 0 A4) [(0,.t (tI (gI y283 0))),(1,.t (.sl 10 (gL y283 1))),(2,.t (tI (gI y283 2))),(3,.t (tI (gI y283 3))),(11,.t (tI (w64 (cI p280 7 11+1)))),(12,.t (tI (w64 (cI p280 7 12+1)))),(13,.sref 5 (AI p280 7 13+1) 0 (AH p280 7 13+1))]))])) none)))))))
noncomputable def HU (n:Nat) (ff:Nat→Rec) (p267:ST) (y275:List Tree) (k268:KT) (p276:ST):RT:=cnd (vB p276 0=true) (Am (.box [AV.yld 40,.t (tI (cI p267 7 0)),.t (.sl 10 (cL p267 7 1)),.t (tI (cI p267 7 2)),.t (tI (cI p267 7 3))]) (.box [AV.yld 40,.t (tI (cI p276 7 0)),.t (.sl 10 (cL p276 7 1)),.t (tI (cI p276 7 2)),.t (tI (cI p276 7 3))]) (Am (.box [AV.yld 40,.t (tI (cI p267 7 0))]) (.box [AV.yld 40,.t (tI (cI p276 7 0))]) (Am (.row false (AE p267 5) 9 (oEs p267 5)) (.row false (AE p276 5) 9 (oEs p276 5)) (Am (.row false (AE p267 6) 9 (oEs p267 6)) (.row false (AE p276 6) 9 (oEs p276 6)) (Am (.row false (AE p267 1) 9 (oEs p267 1)) (.row false (AE p276 1) 9 (oEs p276 1)) (bd [0,13,0,0,0] (AA C n 156 (ct [0,13,0,0] p267 7 0 [tI (vI p267 3),tI (aI p267 4 0),tI (aI p267 4 1),tI (aI p267 4 2),tI (aI p267 4 3),tI (aI p267 4 4),.bool (aB p267 4 5),.str (aS p267 4 6),.sl 2 (aL p267 4 7),.sl 1 (gL y275 0)])) fun y279=>cnd (((gI y279 4) != 0)=true) (k268 ([],rh p276 0 BO)) (cnd (AE p276 5=AI p276 7 13∧(9=9∨9=0)∧AR p276 7 13+AH p276 7 13≤List.length (oEs p276 5)∧AH p276 7 13+1≤1073741824) (k268 ([],upd (rh p276 0 BO) [(5,.row false (AI p276 7 13+1) 9 (List.take (AH p276 7 13) (List.drop (AR p276 7 13) (oEs p276 5))++[[tI (vI p267 3),tI (aI p267 4 0),tI (aI p267 4 1),tI (aI p267 4 2),tI (aI p267 4 3),tI (aI p267 4 4),.bool (aB p267 4 5),.str (aS p267 4 6),.sl 2 (aL p267 4 7)]])),(7,.box (upd (rb p276 7 0 A4) [(0,.t (tI (gI y279 0))),(1,.t (.sl 10 (gL y279 1))),(2,.t (tI (gI y279 2))),(3,.t (tI (gI y279 3))),(11,.t (tI (w64 (cI p276 7 11+1)))),(13,.sref 5 (AI p276 7 13+1) 0 (AH p276 7 13+1))]))])) none))))))) (join (DT n ff p267 k268 y275) fun k281=>cnd (decide (cI p276 7 9≥(0:Int))=true) (k281 ([.t (.bool (decide (cI p276 7 12≥cI p276 7 9)))],rh p276 0 Kk)) (k281 ([.t (.bool false)],rh p276 0 Kk)))
noncomputable def HT (n:Nat) (ff:Nat→Rec) (p267:ST) (y288:List Tree) (k268:KT) (p289:ST):RT:=cnd (vB p289 0=true) (Am (.box [AV.yld 40,.t (tI (cI p267 7 0)),.t (.sl 10 (cL p267 7 1)),.t (tI (cI p267 7 2)),.t (tI (cI p267 7 3))]) (.box [AV.yld 40,.t (tI (cI p289 7 0)),.t (.sl 10 (cL p289 7 1)),.t (tI (cI p289 7 2)),.t (tI (cI p289 7 3))]) (Am (.box [AV.yld 40,.t (tI (cI p267 7 0))]) (.box [AV.yld 40,.t (tI (cI p289 7 0))]) (Am (.row false (AE p267 5) 9 (oEs p267 5)) (.row false (AE p289 5) 9 (oEs p289 5)) (Am (.row false (AE p267 6) 9 (oEs p267 6)) (.row false (AE p289 6) 9 (oEs p289 6)) (Am (.row false (AE p267 1) 9 (oEs p267 1)) (.row false (AE p289 1) 9 (oEs p289 1)) (bd [0,13,0,0,0] (AA C n 156 (ct [0,13,0,0] p267 7 0 [tI (vI p267 3),tI (aI p267 4 0),tI (aI p267 4 1),tI (aI p267 4 2),tI (aI p267 4 3),tI (aI p267 4 4),.bool (aB p267 4 5),.str (aS p267 4 6),.sl 2 (aL p267 4 7),.sl 1 (gL y288 0)])) fun y292=>cnd (((gI y292 4) != 0)=true) (k268 ([],rh p289 0 BO)) (cnd (AE p289 5=AI p289 7 13∧(9=9∨9=0)∧AR p289 7 13+AH p289 7 13≤List.length (oEs p289 5)∧AH p289 7 13+1≤1073741824) (k268 ([],upd (rh p289 0 BO) [(5,.row false (AI p289 7 13+1) 9 (List.take (AH p289 7 13) (List.drop (AR p289 7 13) (oEs p289 5))++[[tI (vI p267 3),tI (aI p267 4 0),tI (aI p267 4 1),tI (aI p267 4 2),tI (aI p267 4 3),tI (aI p267 4 4),.bool (aB p267 4 5),.str (aS p267 4 6),.sl 2 (aL p267 4 7)]])),(7,.box (upd (rb p289 7 0 A4) [(0,.t (tI (gI y292 0))),(1,.t (.sl 10 (gL y292 1))),(2,.t (tI (gI y292 2))),(3,.t (tI (gI y292 3))),(11,.t (tI (w64 (cI p289 7 11+1)))),(13,.sref 5 (AI p289 7 13+1) 0 (AH p289 7 13+1))]))])) none))))))) (join (DT n ff p267 k268 y288) fun k294=>cnd (decide (cI p289 7 9≥(0:Int))=true) (k294 ([.t (.bool (decide (cI p289 7 12≥cI p289 7 9)))],rh p289 0 BO)) (k294 ([.t (.bool false)],rh p289 0 BO)))
noncomputable def Xb (n:Nat) (ff:Nat→Rec) (k268:KT) (p267:ST):RT:=ff 9 (List Tree) (.fn 144 [AV.ptr 7 0,AV.ptr 7 0,.t (tI 0),.t (tI (vI p267 3)),AV.agg (tv [tI (aI p267 4 0),tI (aI p267 4 1),tI (aI p267 4 2),tI (aI p267 4 3),tI (aI p267 4 4),.bool (aB p267 4 5),.str (aS p267 4 6),.sl 2 (aL p267 4 7)])]) (rh p267 0 Bp) fun rs h1=>cnd (Bu C.P (BH C.P 144) rs=true) (Fw (rh p267 0 Bp) h1 fun hs=>k268 (rs,hs)) none
noncomputable def HR (n:Nat) (ff:Nat→Rec) (k268:KT) (p267:ST):RT:=cnd (decide (cI p267 7 11≥(10000:Int))=true) (k268 ([],rh p267 0 BO)) (both (bd [1] (AA C n 175 [.sl 2 (cL p267 7 10),tI (vI p267 3)]) fun y271=>cnd (gB y271 0=true) (Am (.box [AV.yld 40,.t (tI (cI p267 7 0)),.t (.sl 10 (cL p267 7 1)),.t (tI (cI p267 7 2)),.t (tI (cI p267 7 3))]) (.box [AV.yld 40,.t (tI (cI p267 7 0)),.t (.sl 10 (cL p267 7 1)),.t (tI (cI p267 7 2)),.t (tI (cI p267 7 3))]) (Am (.box [AV.yld 40,.t (tI (cI p267 7 0))]) (.box [AV.yld 40,.t (tI (cI p267 7 0))]) (Am (.row false (AE p267 5) 9 (oEs p267 5)) (.row false (AE p267 5) 9 (oEs p267 5)) (Am (.row false (AE p267 6) 9 (oEs p267 6)) (.row false (AE p267 6) 9 (oEs p267 6)) (Am (.row false (AE p267 1) 9 (oEs p267 1)) (.row false (AE p267 1) 9 (oEs p267 1)) (bd [0,13,0,0,0] (AA C n 156 (ct [0,13,0,0] p267 7 0 [tI (vI p267 3),tI (aI p267 4 0),tI (aI p267 4 1),tI (aI p267 4 2),tI (aI p267 4 3),tI (aI p267 4 4),.bool (aB p267 4 5),.str (aS p267 4 6),.sl 2 (aL p267 4 7),.sl 1 []])) fun y272=>cnd (((gI y272 4) != 0)=true) (k268 ([],rh p267 0 BO)) (cnd (AE p267 5=AI p267 7 13∧(9=9∨9=0)∧AR p267 7 13+AH p267 7 13≤List.length (oEs p267 5)∧AH p267 7 13+1≤1073741824) (k268 ([],upd (rh p267 0 BO) [(5,.row false (AI p267 7 13+1) 9 (List.take (AH p267 7 13) (List.drop (AR p267 7 13) (oEs p267 5))++[[tI (vI p267 3),tI (aI p267 4 0),tI (aI p267 4 1),tI (aI p267 4 2),tI (aI p267 4 3),tI (aI p267 4 4),.bool (aB p267 4 5),.str (aS p267 4 6),.sl 2 (aL p267 4 7)]])),(7,.box (upd (rb p267 7 0 A4) [(0,.t (tI (gI y272 0))),(1,.t (.sl 10 (gL y272 1))),(2,.t (tI (gI y272 2))),(3,.t (tI (gI y272 3))),(11,.t (tI (w64 (cI p267 7 11+1)))),(13,.sref 5 (AI p267 7 13+1) 0 (AH p267 7 13+1))]))])) none))))))) (cnd (((List.length (cL p267 7 8):Int)==0)=true) (Am (.box [AV.yld 40,.t (tI (cI p267 7 0)),.t (.sl 10 (cL p267 7 1)),.t (tI (cI p267 7 2)),.t (tI (cI p267 7 3))]) (.box [AV.yld 40,.t (tI (cI p267 7 0)),.t (.sl 10 (cL p267 7 1)),.t (tI (cI p267 7 2)),.t (tI (cI p267 7 3))]) (Am (.box [AV.yld 40,.t (tI (cI p267 7 0))]) (.box [AV.yld 40,.t (tI (cI p267 7 0))]) (Am (.row false (AE p267 5) 9 (oEs p267 5)) (.row false (AE p267 5) 9 (oEs p267 5)) (Am (.row false (AE p267 6) 9 (oEs p267 6)) (.row false (AE p267 6) 9 (oEs p267 6)) (Am (.row false (AE p267 1) 9 (oEs p267 1)) (.row false (AE p267 1) 9 (oEs p267 1)) (bd [0,13,0,0,0] (AA C n 156 (ct [0,13,0,0] p267 7 0 [tI (vI p267 3),tI (aI p267 4 0),tI (aI p267 4 1),tI (aI p267 4 2),tI (aI p267 4 3),tI (aI p267 4 4),.bool (aB p267 4 5),.str (aS p267 4 6),.sl 2 (aL p267 4 7),.sl 1 [[tI (cI p267 7 0)]]])) fun y273=>cnd (((gI y273 4) != 0)=true) (k268 ([],rh p267 0 BO)) (cnd (AE p267 5=AI p267 7 13∧(9=9∨9=0)∧AR p267 7 13+AH p267 7 13≤List.length (oEs p267 5)∧AH p267 7 13+1≤1073741824) (k268 ([],upd (rh p267 0 BO) [(5,.row false (AI p267 7 13+1) 9 (List.take (AH p267 7 13) (List.drop (AR p267 7 13) (oEs p267 5))++[[tI (vI p267 3),tI (aI p267 4 0),tI (aI p267 4 1),tI (aI p267 4 2),tI (aI p267 4 3),tI (aI p267 4 4),.bool (aB p267 4 5),.str (aS p267 4 6),.sl 2 (aL p267 4 7)]])),(7,.box (upd (rb p267 7 0 A4) [(0,.t (tI (gI y273 0))),(1,.t (.sl 10 (gL y273 1))),(2,.t (tI (gI y273 2))),(3,.t (tI (gI y273 3))),(11,.t (tI (w64 (cI p267 7 11+1)))),(13,.sref 5 (AI p267 7 13+1) 0 (AH p267 7 13+1))]))])) none))))))) (cnd ((List.length (cL p267 7 8):Int)=0) none (cnd (1=1∧0≤Int.tmod (cI p267 7 11) (List.length (cL p267 7 8):Int)) (Option.bind (cL p267 7 8)[Int.toNat (Int.tmod (cI p267 7 11) (List.length (cL p267 7 8):Int))]? fun y274=>cnd (okI y274 0) (bd [4,0] (AA C n 176 [tI (gI y274 0),tI (cI p267 7 0)]) fun y275=>join (HU n ff p267 y275 k268) fun k277=>cnd (decide ((List.length (gL y275 0):Int)>0)=true) (Option.bind (gL y275 0)[0]? fun y278=>cnd (okI y278 0) (k277 ([.t (.bool (gI y278 0==cI p267 7 0))],upd (rh p267 0 Kk) [(8,.box (tv (zt [0,13,0,0] [])))])) none) (k277 ([.t (.bool false)],upd (rh p267 0 Kk) [(8,.box (tv (zt [0,13,0,0] [])))]))) none) none)))) (bd [1] (AA C n 175 [.sl 2 (cL p267 7 10),tI (vI p267 3)]) fun y284=>cnd (gB y284 0=true) (Am (.box [AV.yld 40,.t (tI (cI p267 7 0)),.t (.sl 10 (cL p267 7 1)),.t (tI (cI p267 7 2)),.t (tI (cI p267 7 3))]) (.box [AV.yld 40,.t (tI (cI p267 7 0)),.t (.sl 10 (cL p267 7 1)),.t (tI (cI p267 7 2)),.t (tI (cI p267 7 3))]) (Am (.box [AV.yld 40,.t (tI (cI p267 7 0))]) (.box [AV.yld 40,.t (tI (cI p267 7 0))]) (Am (.row false (AE p267 5) 9 (oEs p267 5)) (.row false (AE p267 5) 9 (oEs p267 5)) (Am (.row false (AE p267 6) 9 (oEs p267 6)) (.row false (AE p267 6) 9 (oEs p267 6)) (Am (.row false (AE p267 1) 9 (oEs p267 1)) (.row false (AE p267 1) 9 (oEs p267 1)) (bd [0,13,0,0,0] (AA C n 156 (ct [0,13,0,0] p267 7 0 [tI (vI p267 3),tI (aI p267 4 0),tI (aI p267 4 1),tI (aI p267 4 2),tI (aI p267 4 3),tI (aI p267 4 4),.bool (aB p267 4 5),.str (aS p267 4 6),.sl 2 (aL p267 4 7),.sl 1 []])) fun y285=>cnd (((gI y285 4) != 0)=true) (k268 ([],rh p267 0 BO)) (cnd (AE p267 5=AI p267 7 13∧(9=9∨9=0)∧AR p267 7 13+AH p267 7 13≤List.length (oEs p267 5)∧AH p267 7 13+1≤1073741824) (k268 ([],upd (rh p267 0 BO) [(5,.row false (AI p267 7 13+1) 9 (List.take (AH p267 7 13) (List.drop (AR p267 7 13) (oEs p267 5))++[[tI (vI p267 3),tI (aI p267 4 0),tI (aI p267 4 1),tI (aI p267 4 2),tI (aI p267 4 3),tI (aI p267 4 4),.bool (aB p267 4 5),.str (aS p267 4 6),.sl 2 (aL p267 4 7)]])),(7,.box (upd (rb p267 7 0 A4) [(0,.t (tI (gI y285 0))),(1,.t (.sl 10 (gL y285 1))),(2,.t (tI (gI y285 2))),(3,.t (tI (gI y285 3))),(11,.t (tI (w64 (cI p267 7 11+1)))),(13,.sref 5 (AI p267 7 13+1) 0 (AH p267 7 13+1))]))])) none))))))) (cnd (((List.length (cL p267 7 8):Int)==0)=true) (Am (.box [AV.yld 40,.t (tI (cI p267 7 0)),.t (.sl 10 (cL p267 7 1)),.t (tI (cI p267 7 2)),.t (tI (cI p267 7 3))]) (.box [AV.yld 40,.t (tI (cI p267 7 0)),.t (.sl 10 (cL p267 7 1)),.t (tI (cI p267 7 2)),.t (tI (cI p267 7 3))]) (Am (.box [AV.yld 40,.t (tI (cI p267 7 0))]) (.box [AV.yld 40,.t (tI (cI p267 7 0))]) (Am (.row false (AE p267 5) 9 (oEs p267 5)) (.row false (AE p267 5) 9 (oEs p267 5)) (Am (.row false (AE p267 6) 9 (oEs p267 6)) (.row false (AE p267 6) 9 (oEs p267 6)) (Am (.row false (AE p267 1) 9 (oEs p267 1)) (.row false (AE p267 1) 9 (oEs p267 1)) (bd [0,13,0,0,0] (AA C n 156 (ct [0,13,0,0] p267 7 0 [tI (vI p267 3),tI (aI p267 4 0),tI (aI p267 4 1),tI (aI p267 4 2),tI (aI p267 4 3),tI (aI p267 4 4),.bool (aB p267 4 5),.str (aS p267 4 6),.sl 2 (aL p267 4 7),.sl 1 [[tI (cI p267 7 0)]]])) fun y286=>cnd (((gI y286 4) != 0)=true) (k268 ([],rh p267 0 BO)) (cnd (AE p267 5=AI p267 7 13∧(9=9∨9=0)∧AR p267 7 13+AH p267 7 13≤List.length (oEs p267 5)∧AH p267 7 13+1≤1073741824) (k268 ([],upd (rh p267 0 BO) [(5,.row false (AI p267 7 13+1) 9 (List.take (AH p267 7 13) (List.drop (AR p267 7 13) (oEs p267 5))++[[tI (vI p267 3),tI (aI p267 4 0),tI (aI p267 4 1),tI (aI p267 4 2),tI (aI p267 4 3),tI (aI p267 4 4),.bool (aB p267 4 5),.str (aS p267 4 6),.sl 2 (aL p267 4 7)]])),(7,.box (upd (rb p267 7 0 A4) [(0,.t (tI (gI y286 0))),(1,.t (.sl 10 (gL y286 1))),(2,.t (tI (gI y286 2))),(3,.t (tI (gI y286 3))),(11,.t (tI (w64 (cI p267 7 11+1)))),(13,.sref 5 (AI p267 7 13+1) 0 (AH p267 7 13+1))]))])) none))))))) (cnd ((List.length (cL p267 7 8):Int)=0) none (cnd (1=1∧0≤Int.tmod (cI p267 7 11) (List.length (cL p267 7 8):Int)) (Option.bind (cL p267 7 8)[Int.toNat (Int.tmod (cI p267 7 11) (List.length (cL p267 7 8):Int))]? fun y287=>cnd (okI y287 0) (bd [4,0] (AA C n 176 [tI (gI y287 0),tI (cI p267 7 0)]) fun y288=>join (HT n ff p267 y288 k268) fun k290=>cnd (decide ((List.length (gL y288 0):Int)>0)=true) (Option.bind (gL y288 0)[0]? fun y291=>cnd (okI y291 0) (k290 ([.t (.bool (gI y291 0==cI p267 7 0))],rh p267 0 BO)) none) (k290 ([.t (.bool false)],rh p267 0 BO))) none) none)))))
theorem vC26_6 (n:Nat) (ff:Nat→Rec) (k268:KT) (p267:ST):EA C (IA C (pcx C (AA C n)) n ff EB 8) (pcx C (AA C n)) n 144 [AV.ptr 7 0,AV.ptr 7 0,.t (tI 0),.t (tI (vI p267 3)),AV.agg (tv [tI (aI p267 4 0),tI (aI p267 4 1),tI (aI p267 4 2),tI (aI p267 4 3),tI (aI p267 4 4),.bool (aB p267 4 5),.str (aS p267 4 6),.sl 2 (aL p267 4 7)])] (rh p267 0 Bp) (fun rs h1=>cnd (Bu C.P (BH C.P 144) rs=true) (Fw (rh p267 0 Bp) h1 fun hs=>k268 (rs,hs)) none)=HR n ff k268 p267:=by kernel_rfl
theorem F4 (n:Nat) (k268:KT) (p267:ST):Xb n (fI C n) k268 p267=HR n (fI C n) k268 p267:=(K2 C n EB 8 _ 144 _ _ _).trans (vC26_6 n (fI C n) k268 p267)
noncomputable def XR (n:Nat) (ff:Nat→Rec) (k262:KT) (p297:ST):RT:=cnd (AE p297 1=AI p297 7 35∧(9=9∨9=0)) (cnd ((0:Int)≤1∧1≤(AH p297 7 35:Int)) (k262 ([],upd (rh p297 0 BO) [(7,.box (upd (rb p297 7 0 A4) [(35,.sref 1 (AI p297 7 35) (AR p297 7 35+1) (AH p297 7 35-1))]))])) none) none
noncomputable def Pc (n:Nat) (ff:Nat→Rec) (k262:KT) (p259:ST) (k260:KT) (p263:ST):RT:=cnd (vB p263 0=true) (cnd (AE p263 1=AI p263 7 35∧9=9∧(0:Int)≤0∧0<(AH p263 7 35:Int)) (cnd (AE p263 1=AI p263 7 35) (cnd (AE p263 1=AI p263 7 35) (Option.bind (oEs p263 1)[AR p263 7 35]? fun y266=>bk kG 1 y266 (join (XR n ff k262) fun k298=>Xb n ff k298 ([AV.ptr 7 0,AV.ptr 7 0,.t (tI 0),.t (tI (cI p263 7 15)),AV.agg (tv (gt kG y266 1 []))],upd (rh p263 0 Bp) [(2,.row true (AE p259 2) 15 (oEs p259 2)),(3,.row true (AE p259 3) 4 (oEs p259 3)),(4,.row true (AE p259 4) 4 (oEs p259 4))]))) none) none) none) (k260 ([],rh p263 0 BO))
noncomputable def NA (n:Nat) (ff:Nat→Rec) (p259:ST) (k260:KT) (p261:ST) (k262:KT):RT:=join (Pc n ff k262 p259 k260) fun k264=>cnd (AE p261 1=AI p261 7 35) (cnd (decide ((AH p261 7 35:Int)>0)=true) (cnd (AE p261 1=AI p261 7 35∧9=9∧(0:Int)≤0∧0<(AH p261 7 35:Int)) (cnd (AE p261 1=AI p261 7 35) (cnd (AE p261 1=AI p261 7 35) (Option.bind (oEs p261 1)[AR p261 7 35]? fun y265=>cnd (okI y265 0) (k264 ([.t (.bool (gI y265 0==cI p261 7 15))],rh p261 0 BO)) none) none) none) none) (k264 ([.t (.bool false)],rh p261 0 BO))) none
noncomputable def Xa (n:Nat) (ff:Nat→Rec) (k260:KT) (p259:ST):RT:=ff 10 (List Tree) (.fn 124 [AV.ptr 7 0]) (rh p259 0 Bp) fun rs h1=>cnd (Bu C.P (BH C.P 124) rs=true) (Fw (rh p259 0 Bp) h1 fun hs=>k260 (rs,hs)) none
noncomputable def XE (n:Nat) (ff:Nat→Rec) (k260:KT) (p259:ST):RT:=AJ (NA n ff p259 k260) n ([],rh p259 0 BO)
theorem vC26_7 (n:Nat) (ff:Nat→Rec) (k260:KT) (p259:ST):EA C (IA C (pcx C (AA C n)) n ff EB 9) (pcx C (AA C n)) n 124 [AV.ptr 7 0] (rh p259 0 Bp) (fun rs h1=>cnd (Bu C.P (BH C.P 124) rs=true) (Fw (rh p259 0 Bp) h1 fun hs=>k260 (rs,hs)) none)=XE n ff k260 p259:=by kernel_rfl
theorem tC26_7 (n:Nat) (k260:KT) (p259:ST):Xa n (fI C n) k260 p259=XE n (fI C n) k260 p259:=(K2 C n EB 9 _ 124 _ _ _).trans (vC26_7 n (fI C n) k260 p259)
noncomputable def XQ (n:Nat) (ff:Nat→Rec) (k85:KT) (p301:ST):RT:=k85 (tv [tI (vI p301 0),.bool (vB p301 1)],rh p301 0 BO)
noncomputable def Il (n:Nat) (ff:Nat→Rec) (p17:ST) (k85:KT) (p86:ST) (k87:KT):RT:=cnd (decide (vI p86 0<4)=true) (cnd (0≤vI p86 0∧vI p86 0<4) (cnd (vI p86 0=(3:Int)) (join (HX n ff k87 p86) fun k100=>Xf n ff k100 ([AV.ptr 7 0],upd (rh p86 0 Bp) [(2,.row true (AE p17 2) 15 (oEs p17 2)),(3,.row true (AE p17 3) 4 (oEs p17 3)),(4,.row true (AE p17 4) 4 (oEs p17 4))])) (cnd (vI p86 0=(2:Int)) (join (HX n ff k87 p86) fun k166=>Xe n ff k166 ([AV.ptr 7 0],upd (rh p86 0 Bp) [(2,.row true (AE p17 2) 15 (oEs p17 2)),(3,.row true (AE p17 3) 4 (oEs p17 3)),(4,.row true (AE p17 4) 4 (oEs p17 4))])) (cnd (vI p86 0=(1:Int)) (join (HX n ff k87 p86) fun k258=>Xc n ff k258 ([AV.ptr 7 0],upd (rh p86 0 Bp) [(2,.row true (AE p17 2) 15 (oEs p17 2)),(3,.row true (AE p17 3) 4 (oEs p17 3)),(4,.row true (AE p17 4) 4 (oEs p17 4))])) (cnd (vI p86 0=(0:Int)) (join (HX n ff k87 p86) fun k300=>Xa n ff k300 ([AV.ptr 7 0],upd (rh p86 0 Bp) [(2,.row true (AE p17 2) 15 (oEs p17 2)),(3,.row true (AE p17 3) 4 (oEs p17 3)),(4,.row true (AE p17 4) 4 (oEs p17 4))])) none)))) none) (join (XQ n ff k85) fun k302=>UP n ff k302 ([AV.ptr 7 0],upd (rh p86 0 Bp) [(2,.row true (AE p17 2) 15 (oEs p17 2)),(3,.row true (AE p17 3) 4 (oEs p17 3)),(4,.row true (AE p17 4) 4 (oEs p17 4))]))
noncomputable def M9 (n:Nat) (ff:Nat→Rec) (p17:ST) (k18:KT) (p84:ST) (k85:KT):RT:=cnd (vB p84 1=true) (AJ (Il n ff p17 k85) n ([.t (tI 0)],upd (rh p84 0 BO) [(7,.box (upd (rb p84 7 0 A4) [(15,.t (tI (vI p84 0)))]))])) (k18 ([],rh p84 0 BO))
noncomputable def XP (n:Nat) (ff:Nat→Rec) (p17:ST) (k18:KT) (p82:ST):RT:=AJ (M9 n ff p17 k18) n (tv [tI (vI p82 0),.bool (vB p82 1)],rh p82 0 BO)
noncomputable def UO (n:Nat) (ff:Nat→Rec) (k18:KT) (p17:ST):RT:=ff 11 (List Tree) (.fn 71 [AV.ptr 7 0]) (rh p17 0 Bp) fun rs h1=>cnd (Bu C.P (BH C.P 71) rs=true) (Fw (rh p17 0 Bp) h1 fun hs=>k18 (rs,hs)) none
noncomputable def XD (n:Nat) (ff:Nat→Rec) (k18:KT) (p17:ST):RT:=join (XP n ff p17 k18) fun k83=>UP n ff k83 ([AV.ptr 7 0],rh p17 0 Bp)
theorem vC26_8 (n:Nat) (ff:Nat→Rec) (k18:KT) (p17:ST):EA C (IA C (pcx C (AA C n)) n ff EB 10) (pcx C (AA C n)) n 71 [AV.ptr 7 0] (rh p17 0 Bp) (fun rs h1=>cnd (Bu C.P (BH C.P 71) rs=true) (Fw (rh p17 0 Bp) h1 fun hs=>k18 (rs,hs)) none)=XD n ff k18 p17:=by kernel_rfl
theorem tC26_8 (n:Nat) (k18:KT) (p17:ST):UO n (fI C n) k18 p17=XD n (fI C n) k18 p17:=(K2 C n EB 10 _ 71 _ _ _).trans (vC26_8 n (fI C n) k18 p17)
noncomputable def Ss (n:Nat) (ff:Nat→Rec) (p303:ST):RT:=some (ct [1,0,1,0] p303 7 36 [tI (cI p303 7 26),tI (cI p303 7 11),tI (w64 (cI p303 7 3+cI p303 7 7)),tI 0])
theorem v26 (n:Nat) (ff:Nat→Rec) (a0 a1 a2 a3 a4 a5 a6 a7 a8:Int) (a9:ByteArray) (a10:TT) (a11:Int) (a12:TT):Kt C (IA C (pcx C (AA C n)) n ff EB C.depth) (pcx C (AA C n)) n 26 [tI a0,tI a1,tI a2,tI a3,tI a4,tI a5,tI a6,tI a7,tI a8,.str a9,.sl 1 a10,tI a11,.sl 2 a12]=cnd (decide ((List.length a10:Int)>1000)=true) (some (zt [1,0,1,0,0,0,0] [tI 4])) (cnd (decide (a11<(-1))=true) (some (zt [1,0,1,0,0,0,0] [tI 2])) (bd [0] (AA C n 67 [.sl 2 a12]) fun y13=>cnd (((gI y13 0) != 0)=true) (some (zt [1,0,1,0,0,0,0] [tI 1])) (bd [0,0,0,0,0,0,0,0,2,0,0,0,5,0,0,12,0] (AA C n 2004367 [tI a0,tI a1,tI a2,tI a3,tI a4,tI a5,tI a6,tI 0,.str a9,tI a7,tI a8]) fun y14=>cnd (((gI y14 16) != 0)=true) (cnd (((gI y14 16) != 0)=true) (some (zt [1,0,1,0,0,0,0] [tI (gI y14 16)])) none) (bd [0,13,0,0,0] (AA C n 69 [tI a5]) fun y15=>bd [0,0,5,2,0] (AA C n 70 [tI 0]) fun y16=>join (Ss n ff) fun k304=>UO n ff k304 ([AV.ptr 7 0],[.box (tv (zt [1,0,1,0,0,0,0] [])),.row false 0 9 (gL y14 15),.row true 0 15 [[tI (gI y14 0),tI (gI y14 1),tI (gI y14 2),tI (gI y14 3),tI (gI y14 4),tI (gI y14 5),tI (gI y14 6),tI (gI y14 7),.str (gS y14 8),tI (gI y14 9),tI (gI y14 10),tI (gI y14 11),.sl 2 (gL y14 12),tI (gI y14 13),tI (gI y14 14)]],.row true 0 4 [[tI (gI y15 0),.sl 10 (gL y15 1),tI (gI y15 2),tI (gI y15 3)]],.row true 0 4 [[tI (gI y16 0),tI (gI y16 1),.sl 2 (gL y16 2),.str (gS y16 3)]],.row false 0 9 [],.row false 0 9 [],.box [.t (tI (gI y15 0)),.t (.sl 10 (gL y15 1)),.t (tI (gI y15 2)),.t (tI (gI y15 3)),.t (tI (gI y15 0)),.t (.sl 10 (gL y15 1)),.t (tI (gI y15 2)),.t (tI (gI y15 3)),.t (.sl 1 a10),.t (tI a11),.t (.sl 2 a12),.t (tI 0),.t (tI 0),.sref 5 0 0 0,.sref 6 0 0 0,.t (tI 0),.t (tI (gI y14 0)),.t (tI (gI y14 1)),.t (tI (gI y14 2)),.t (tI (gI y14 3)),.t (tI (gI y14 4)),.t (tI (gI y14 5)),.t (tI (gI y14 6)),.t (tI (gI y14 7)),.t (.str (gS y14 8)),.t (tI (gI y14 9)),.t (tI (gI y14 10)),.t (tI (gI y14 11)),.t (.sl 2 (gL y14 12)),.t (tI (gI y14 13)),.t (tI (gI y14 14)),.t (tI (gI y16 0)),.t (tI (gI y16 1)),.t (.sl 2 (gL y16 2)),.t (.str (gS y16 3)),.sref 1 0 0 (List.length (gL y14 15)),.t (.bool false),.t (tI 0),.t (.bool false),.t (tI 0)]]))))):=by kernel_rfl
theorem u26 (a0:Int) (a1:Int) (a2:Int) (a3:Int) (a4:Int) (a5:Int) (a6:Int) (a7:Int) (a8:Int) (a9:ByteArray) (a10:List (List Tree)) (a11:Int) (a12:List (List Tree)):C.ext 26 [tI a0,tI a1,tI a2,tI a3,tI a4,tI a5,tI a6,tI a7,tI a8,.str a9,.sl 1 a10,tI a11,.sl 2 a12]=none:=by kernel_rfl
theorem e26 (n:Nat) (a0 a1 a2 a3 a4 a5 a6 a7 a8:Int) (a9:ByteArray) (a10:TT) (a11:Int) (a12:TT):AA C (n+1) 26 [tI a0,tI a1,tI a2,tI a3,tI a4,tI a5,tI a6,tI a7,tI a8,.str a9,.sl 1 a10,tI a11,.sl 2 a12]=cnd (decide ((List.length a10:Int)>1000)=true) (some (zt [1,0,1,0,0,0,0] [tI 4])) (cnd (decide (a11<(-1))=true) (some (zt [1,0,1,0,0,0,0] [tI 2])) (bd [0] (AA C n 67 [.sl 2 a12]) fun y13=>cnd (((gI y13 0) != 0)=true) (some (zt [1,0,1,0,0,0,0] [tI 1])) (bd [0,0,0,0,0,0,0,0,2,0,0,0,5,0,0,12,0] (AA C n 2004367 [tI a0,tI a1,tI a2,tI a3,tI a4,tI a5,tI a6,tI 0,.str a9,tI a7,tI a8]) fun y14=>cnd (((gI y14 16) != 0)=true) (cnd (((gI y14 16) != 0)=true) (some (zt [1,0,1,0,0,0,0] [tI (gI y14 16)])) none) (bd [0,13,0,0,0] (AA C n 69 [tI a5]) fun y15=>bd [0,0,5,2,0] (AA C n 70 [tI 0]) fun y16=>join (fun (p303:ST)=>Ss n (fI C n) p303) fun k304=>UO n (fI C n) k304 ([AV.ptr 7 0],[.box (tv (zt [1,0,1,0,0,0,0] [])),.row false 0 9 (gL y14 15),.row true 0 15 [[tI (gI y14 0),tI (gI y14 1),tI (gI y14 2),tI (gI y14 3),tI (gI y14 4),tI (gI y14 5),tI (gI y14 6),tI (gI y14 7),.str (gS y14 8),tI (gI y14 9),tI (gI y14 10),tI (gI y14 11),.sl 2 (gL y14 12),tI (gI y14 13),tI (gI y14 14)]],.row true 0 4 [[tI (gI y15 0),.sl 10 (gL y15 1),tI (gI y15 2),tI (gI y15 3)]],.row true 0 4 [[tI (gI y16 0),tI (gI y16 1),.sl 2 (gL y16 2),.str (gS y16 3)]],.row false 0 9 [],.row false 0 9 [],.box [.t (tI (gI y15 0)),.t (.sl 10 (gL y15 1)),.t (tI (gI y15 2)),.t (tI (gI y15 3)),.t (tI (gI y15 0)),.t (.sl 10 (gL y15 1)),.t (tI (gI y15 2)),.t (tI (gI y15 3)),.t (.sl 1 a10),.t (tI a11),.t (.sl 2 a12),.t (tI 0),.t (tI 0),.sref 5 0 0 0,.sref 6 0 0 0,.t (tI 0),.t (tI (gI y14 0)),.t (tI (gI y14 1)),.t (tI (gI y14 2)),.t (tI (gI y14 3)),.t (tI (gI y14 4)),.t (tI (gI y14 5)),.t (tI (gI y14 6)),.t (tI (gI y14 7)),.t (.str (gS y14 8)),.t (tI (gI y14 9)),.t (tI (gI y14 10)),.t (tI (gI y14 11)),.t (.sl 2 (gL y14 12)),.t (tI (gI y14 13)),.t (tI (gI y14 14)),.t (tI (gI y16 0)),.t (tI (gI y16 1)),.t (.sl 2 (gL y16 2)),.t (.str (gS y16 3)),.sref 1 0 0 (List.length (gL y14 15)),.t (.bool false),.t (tI 0),.t (.bool false),.t (tI 0)]]))))):=(Sg C n 26 _ (by decide) (u26 a0 a1 a2 a3 a4 a5 a6 a7 a8 a9 a10 a11 a12)).trans ((pureO C n EB 26 _).symm.trans (v26 n (fI C n) a0 a1 a2 a3 a4 a5 a6 a7 a8 a9 a10 a11 a12))
end Ab
set_option linter.unusedVariables false
set_option linter.unusedSimpArgs false
set_option maxRecDepth 100000
namespace Ab
open Go
def Aa (g:Gh) (s:Ses):List AV:=[.t (tI s.dat.rng),.t (.sl 10 (s.dat.frames.map Frame.enc)),.t (tI s.dat.sent),.t (tI s.dat.lost),.t (tI s.rep.rng),.t (.sl 10 (s.rep.frames.map Frame.enc)),.t (tI s.rep.sent),.t (tI s.rep.lost),.t (.sl 1 (s.picks.map Cz)),.t (tI s.limit),.t (.sl 2 (s.dark.map Span.enc)),.t (tI s.entered),.t (tI s.dist),.sref 5 g.v4 0 s.sent.length,.sref 6 g.v5 0 s.told.length,.t (tI s.now),.t (tI s.snd.c.frm),.t (tI s.snd.c.dst),.t (tI s.snd.c.start),.t (tI s.snd.c.fin),.t (tI s.snd.c.rate),.t (tI s.snd.c.rng),.t (tI s.snd.c.loss),.t (tI s.snd.ses),.t (.str s.snd.data),.t (tI s.snd.fin),.t (tI s.snd.busy),.t (tI s.snd.ser),.t (.sl 2 (s.snd.acked.map Span.enc)),.t (tI s.snd.due),.t (tI s.snd.st),.t (tI s.rcv.ses),.t (tI s.rcv.tot),.t (.sl 2 (s.rcv.known.map Span.enc)),.t (.str s.rcv.data),.sref 1 g.v0 g.pre.length s.pend.length,.t (.bool s.rcvd),.t (tI s.arrive),.t (.bool s.kno),.t (tI s.knoAt)]
def AT (f1 f2 f3:AG) (v0:Nat) (e0:List (List Tree)) (v4:Nat) (e4:List (List Tree)) (v5:Nat) (e5:List (List Tree)) (c:List AV) (tl:Heap):Heap:=
 .box [.t (.bool false),.t (tI 0),.t (.bool false),.t (tI 0),.t (tI 0),.t (tI 0),.t (tI 0)] :: .row false v0 9 e0::f1::f2::f3 :: .row false v4 9 e4 :: .row false v5 9 e5 :: .box c::tl
def H26 (f1 f2 f3:AG) (g:Gh) (s:Ses) (tl:Heap):Heap:=AT f1 f2 f3 g.v0 (g.pre++s.pend.map Out.enc) g.v4 (s.sent.map Out.enc) g.v5 (s.told.map Out.enc) (Aa g s) tl
theorem rd26 :
 (∀(e:List AV) (f1 f2 f3:AG) (v0:Nat) (e0:List (List Tree)) (v4:Nat) (e4:List (List Tree)) (v5:Nat) (e5:List (List Tree)) (g:Gh) (s:Ses) (tl:Heap),
  cI (e,AT f1 f2 f3 v0 e0 v4 e4 v5 e5 (Aa g s) tl) 7 0=s.dat.rng∧
  cL (e,AT f1 f2 f3 v0 e0 v4 e4 v5 e5 (Aa g s) tl) 7 1=s.dat.frames.map Frame.enc∧
  cI (e,AT f1 f2 f3 v0 e0 v4 e4 v5 e5 (Aa g s) tl) 7 2=s.dat.sent∧
  cI (e,AT f1 f2 f3 v0 e0 v4 e4 v5 e5 (Aa g s) tl) 7 3=s.dat.lost∧
  cI (e,AT f1 f2 f3 v0 e0 v4 e4 v5 e5 (Aa g s) tl) 7 4=s.rep.rng∧
  cL (e,AT f1 f2 f3 v0 e0 v4 e4 v5 e5 (Aa g s) tl) 7 5=s.rep.frames.map Frame.enc∧
  cI (e,AT f1 f2 f3 v0 e0 v4 e4 v5 e5 (Aa g s) tl) 7 6=s.rep.sent∧
  cI (e,AT f1 f2 f3 v0 e0 v4 e4 v5 e5 (Aa g s) tl) 7 7=s.rep.lost∧
  cL (e,AT f1 f2 f3 v0 e0 v4 e4 v5 e5 (Aa g s) tl) 7 8=s.picks.map Cz∧
  cI (e,AT f1 f2 f3 v0 e0 v4 e4 v5 e5 (Aa g s) tl) 7 9=s.limit∧
  cL (e,AT f1 f2 f3 v0 e0 v4 e4 v5 e5 (Aa g s) tl) 7 10=s.dark.map Span.enc∧
  cI (e,AT f1 f2 f3 v0 e0 v4 e4 v5 e5 (Aa g s) tl) 7 11=s.entered∧
  cI (e,AT f1 f2 f3 v0 e0 v4 e4 v5 e5 (Aa g s) tl) 7 12=s.dist∧
  AI (e,AT f1 f2 f3 v0 e0 v4 e4 v5 e5 (Aa g s) tl) 7 13=g.v4∧
  AR (e,AT f1 f2 f3 v0 e0 v4 e4 v5 e5 (Aa g s) tl) 7 13=0∧
  AH (e,AT f1 f2 f3 v0 e0 v4 e4 v5 e5 (Aa g s) tl) 7 13=s.sent.length∧
  AI (e,AT f1 f2 f3 v0 e0 v4 e4 v5 e5 (Aa g s) tl) 7 14=g.v5∧
  AR (e,AT f1 f2 f3 v0 e0 v4 e4 v5 e5 (Aa g s) tl) 7 14=0∧
  AH (e,AT f1 f2 f3 v0 e0 v4 e4 v5 e5 (Aa g s) tl) 7 14=s.told.length∧
  cI (e,AT f1 f2 f3 v0 e0 v4 e4 v5 e5 (Aa g s) tl) 7 15=s.now∧
  cI (e,AT f1 f2 f3 v0 e0 v4 e4 v5 e5 (Aa g s) tl) 7 16=s.snd.c.frm∧
  cI (e,AT f1 f2 f3 v0 e0 v4 e4 v5 e5 (Aa g s) tl) 7 17=s.snd.c.dst∧
  cI (e,AT f1 f2 f3 v0 e0 v4 e4 v5 e5 (Aa g s) tl) 7 18=s.snd.c.start∧
  cI (e,AT f1 f2 f3 v0 e0 v4 e4 v5 e5 (Aa g s) tl) 7 19=s.snd.c.fin∧
  cI (e,AT f1 f2 f3 v0 e0 v4 e4 v5 e5 (Aa g s) tl) 7 20=s.snd.c.rate∧
  cI (e,AT f1 f2 f3 v0 e0 v4 e4 v5 e5 (Aa g s) tl) 7 21=s.snd.c.rng∧
  cI (e,AT f1 f2 f3 v0 e0 v4 e4 v5 e5 (Aa g s) tl) 7 22=s.snd.c.loss∧
  cI (e,AT f1 f2 f3 v0 e0 v4 e4 v5 e5 (Aa g s) tl) 7 23=s.snd.ses∧
  cS (e,AT f1 f2 f3 v0 e0 v4 e4 v5 e5 (Aa g s) tl) 7 24=s.snd.data∧
  cI (e,AT f1 f2 f3 v0 e0 v4 e4 v5 e5 (Aa g s) tl) 7 25=s.snd.fin∧
  cI (e,AT f1 f2 f3 v0 e0 v4 e4 v5 e5 (Aa g s) tl) 7 26=s.snd.busy∧
  cI (e,AT f1 f2 f3 v0 e0 v4 e4 v5 e5 (Aa g s) tl) 7 27=s.snd.ser∧
  cL (e,AT f1 f2 f3 v0 e0 v4 e4 v5 e5 (Aa g s) tl) 7 28=s.snd.acked.map Span.enc∧
  cI (e,AT f1 f2 f3 v0 e0 v4 e4 v5 e5 (Aa g s) tl) 7 29=s.snd.due∧
  cI (e,AT f1 f2 f3 v0 e0 v4 e4 v5 e5 (Aa g s) tl) 7 30=s.snd.st∧
  cI (e,AT f1 f2 f3 v0 e0 v4 e4 v5 e5 (Aa g s) tl) 7 31=s.rcv.ses∧
  cI (e,AT f1 f2 f3 v0 e0 v4 e4 v5 e5 (Aa g s) tl) 7 32=s.rcv.tot∧
  cL (e,AT f1 f2 f3 v0 e0 v4 e4 v5 e5 (Aa g s) tl) 7 33=s.rcv.known.map Span.enc∧
  cS (e,AT f1 f2 f3 v0 e0 v4 e4 v5 e5 (Aa g s) tl) 7 34=s.rcv.data∧
  AI (e,AT f1 f2 f3 v0 e0 v4 e4 v5 e5 (Aa g s) tl) 7 35=g.v0∧
  AR (e,AT f1 f2 f3 v0 e0 v4 e4 v5 e5 (Aa g s) tl) 7 35=g.pre.length∧
  AH (e,AT f1 f2 f3 v0 e0 v4 e4 v5 e5 (Aa g s) tl) 7 35=s.pend.length∧
  cB (e,AT f1 f2 f3 v0 e0 v4 e4 v5 e5 (Aa g s) tl) 7 36=s.rcvd∧
  cI (e,AT f1 f2 f3 v0 e0 v4 e4 v5 e5 (Aa g s) tl) 7 37=s.arrive∧
  cB (e,AT f1 f2 f3 v0 e0 v4 e4 v5 e5 (Aa g s) tl) 7 38=s.kno∧
  cI (e,AT f1 f2 f3 v0 e0 v4 e4 v5 e5 (Aa g s) tl) 7 39=s.knoAt)∧
 (∀(e:List AV) (f1 f2 f3:AG) (v0:Nat) (e0:List (List Tree)) (v4:Nat) (e4:List (List Tree)) (v5:Nat) (e5:List (List Tree)) (c:List AV) (tl:Heap),
  AE (e,AT f1 f2 f3 v0 e0 v4 e4 v5 e5 c tl) 1=v0∧
  oEs (e,AT f1 f2 f3 v0 e0 v4 e4 v5 e5 c tl) 1=e0∧
  AE (e,AT f1 f2 f3 v0 e0 v4 e4 v5 e5 c tl) 5=v4∧
  oEs (e,AT f1 f2 f3 v0 e0 v4 e4 v5 e5 c tl) 5=e4∧
  AE (e,AT f1 f2 f3 v0 e0 v4 e4 v5 e5 c tl) 6=v5∧
  oEs (e,AT f1 f2 f3 v0 e0 v4 e4 v5 e5 c tl) 6=e5∧
  AE (e,AT f1 f2 f3 v0 e0 v4 e4 v5 e5 c tl) 2=AG.ver f1∧
  oEs (e,AT f1 f2 f3 v0 e0 v4 e4 v5 e5 c tl) 2=Bk f1∧
  AE (e,AT f1 f2 f3 v0 e0 v4 e4 v5 e5 c tl) 3=AG.ver f2∧
  oEs (e,AT f1 f2 f3 v0 e0 v4 e4 v5 e5 c tl) 3=Bk f2∧
  AE (e,AT f1 f2 f3 v0 e0 v4 e4 v5 e5 c tl) 4=AG.ver f3∧
  oEs (e,AT f1 f2 f3 v0 e0 v4 e4 v5 e5 c tl) 4=Bk f3)∧
 (∀(e:List AV) (f1 f2 f3:AG) (v0:Nat) (e0:List (List Tree)) (v4:Nat) (e4:List (List Tree)) (v5:Nat) (e5:List (List Tree)) (c:List AV) (o0:AG) (tl:Heap),
  AE (e,AT f1 f2 f3 v0 e0 v4 e4 v5 e5 c (o0::tl)) 8=AG.ver o0∧
  oEs (e,AT f1 f2 f3 v0 e0 v4 e4 v5 e5 c (o0::tl)) 8=Bk o0)∧
 (∀(e:List AV) (f1 f2 f3:AG) (v0:Nat) (e0:List (List Tree)) (v4:Nat) (e4:List (List Tree)) (v5:Nat) (e5:List (List Tree)) (c:List AV) (o0:AG) (tl:Heap) (j:Nat),
  cI (e,AT f1 f2 f3 v0 e0 v4 e4 v5 e5 c (o0::tl)) 8 j=intOf (AF (cellOf o0 j))∧
  cB (e,AT f1 f2 f3 v0 e0 v4 e4 v5 e5 c (o0::tl)) 8 j=A0 (AF (cellOf o0 j))∧
  cS (e,AT f1 f2 f3 v0 e0 v4 e4 v5 e5 c (o0::tl)) 8 j=strOf (AF (cellOf o0 j))∧
  cL (e,AT f1 f2 f3 v0 e0 v4 e4 v5 e5 c (o0::tl)) 8 j=CX (AF (cellOf o0 j)))∧
 (∀(e:List AV) (f1 f2 f3:AG) (v0:Nat) (e0:List (List Tree)) (v4:Nat) (e4:List (List Tree)) (v5:Nat) (e5:List (List Tree)) (c:List AV) (o0 o1:AG) (tl:Heap),
  AE (e,AT f1 f2 f3 v0 e0 v4 e4 v5 e5 c (o0::o1::tl)) 9=AG.ver o1∧
  oEs (e,AT f1 f2 f3 v0 e0 v4 e4 v5 e5 c (o0::o1::tl)) 9=Bk o1)∧
 (∀(e:List AV) (f1 f2 f3:AG) (v0:Nat) (e0:List (List Tree)) (v4:Nat) (e4:List (List Tree)) (v5:Nat) (e5:List (List Tree)) (c:List AV) (o0 o1:AG) (tl:Heap) (j:Nat),
  cI (e,AT f1 f2 f3 v0 e0 v4 e4 v5 e5 c (o0::o1::tl)) 9 j=intOf (AF (cellOf o1 j))∧
  cB (e,AT f1 f2 f3 v0 e0 v4 e4 v5 e5 c (o0::o1::tl)) 9 j=A0 (AF (cellOf o1 j))∧
  cS (e,AT f1 f2 f3 v0 e0 v4 e4 v5 e5 c (o0::o1::tl)) 9 j=strOf (AF (cellOf o1 j))∧
  cL (e,AT f1 f2 f3 v0 e0 v4 e4 v5 e5 c (o0::o1::tl)) 9 j=CX (AF (cellOf o1 j)))∧
 (∀(e:List AV) (f1 f2 f3:AG) (v0:Nat) (e0:List (List Tree)) (v4:Nat) (e4:List (List Tree)) (v5:Nat) (e5:List (List Tree)) (c:List AV) (o0 o1 o2:AG) (tl:Heap),
  AE (e,AT f1 f2 f3 v0 e0 v4 e4 v5 e5 c (o0::o1::o2::tl)) 10=AG.ver o2∧
  oEs (e,AT f1 f2 f3 v0 e0 v4 e4 v5 e5 c (o0::o1::o2::tl)) 10=Bk o2)∧
 (∀(e:List AV) (f1 f2 f3:AG) (v0:Nat) (e0:List (List Tree)) (v4:Nat) (e4:List (List Tree)) (v5:Nat) (e5:List (List Tree)) (c:List AV) (o0 o1 o2:AG) (tl:Heap) (j:Nat),
  cI (e,AT f1 f2 f3 v0 e0 v4 e4 v5 e5 c (o0::o1::o2::tl)) 10 j=intOf (AF (cellOf o2 j))∧
  cB (e,AT f1 f2 f3 v0 e0 v4 e4 v5 e5 c (o0::o1::o2::tl)) 10 j=A0 (AF (cellOf o2 j))∧
  cS (e,AT f1 f2 f3 v0 e0 v4 e4 v5 e5 c (o0::o1::o2::tl)) 10 j=strOf (AF (cellOf o2 j))∧
  cL (e,AT f1 f2 f3 v0 e0 v4 e4 v5 e5 c (o0::o1::o2::tl)) 10 j=CX (AF (cellOf o2 j)))∧
 (∀(e:List AV) (f1 f2 f3:AG) (v0:Nat) (e0:List (List Tree)) (v4:Nat) (e4:List (List Tree)) (v5:Nat) (e5:List (List Tree)) (c:List AV) (o0 o1 o2 o3:AG) (tl:Heap),
  AE (e,AT f1 f2 f3 v0 e0 v4 e4 v5 e5 c (o0::o1::o2::o3::tl)) 11=AG.ver o3∧
  oEs (e,AT f1 f2 f3 v0 e0 v4 e4 v5 e5 c (o0::o1::o2::o3::tl)) 11=Bk o3)∧
 (∀(e:List AV) (f1 f2 f3:AG) (v0:Nat) (e0:List (List Tree)) (v4:Nat) (e4:List (List Tree)) (v5:Nat) (e5:List (List Tree)) (c:List AV) (o0 o1 o2 o3:AG) (tl:Heap) (j:Nat),
  cI (e,AT f1 f2 f3 v0 e0 v4 e4 v5 e5 c (o0::o1::o2::o3::tl)) 11 j=intOf (AF (cellOf o3 j))∧
  cB (e,AT f1 f2 f3 v0 e0 v4 e4 v5 e5 c (o0::o1::o2::o3::tl)) 11 j=A0 (AF (cellOf o3 j))∧
  cS (e,AT f1 f2 f3 v0 e0 v4 e4 v5 e5 c (o0::o1::o2::o3::tl)) 11 j=strOf (AF (cellOf o3 j))∧
  cL (e,AT f1 f2 f3 v0 e0 v4 e4 v5 e5 c (o0::o1::o2::o3::tl)) 11 j=CX (AF (cellOf o3 j)))∧
 (∀(e:List AV) (f1 f2 f3:AG) (v0:Nat) (e0:List (List Tree)) (v4:Nat) (e4:List (List Tree)) (v5:Nat) (e5:List (List Tree)) (c:List AV) (o0 o1 o2 o3 o4:AG) (tl:Heap),
  AE (e,AT f1 f2 f3 v0 e0 v4 e4 v5 e5 c (o0::o1::o2::o3::o4::tl)) 12=AG.ver o4∧
  oEs (e,AT f1 f2 f3 v0 e0 v4 e4 v5 e5 c (o0::o1::o2::o3::o4::tl)) 12=Bk o4)∧
 (∀(e:List AV) (f1 f2 f3:AG) (v0:Nat) (e0:List (List Tree)) (v4:Nat) (e4:List (List Tree)) (v5:Nat) (e5:List (List Tree)) (c:List AV) (o0 o1 o2 o3 o4:AG) (tl:Heap) (j:Nat),
  cI (e,AT f1 f2 f3 v0 e0 v4 e4 v5 e5 c (o0::o1::o2::o3::o4::tl)) 12 j=intOf (AF (cellOf o4 j))∧
  cB (e,AT f1 f2 f3 v0 e0 v4 e4 v5 e5 c (o0::o1::o2::o3::o4::tl)) 12 j=A0 (AF (cellOf o4 j))∧
  cS (e,AT f1 f2 f3 v0 e0 v4 e4 v5 e5 c (o0::o1::o2::o3::o4::tl)) 12 j=strOf (AF (cellOf o4 j))∧
  cL (e,AT f1 f2 f3 v0 e0 v4 e4 v5 e5 c (o0::o1::o2::o3::o4::tl)) 12 j=CX (AF (cellOf o4 j))):=by
 refine ⟨?_,?_,?_,?_,?_,?_,?_,?_,?_,?_,?_,?_⟩
 ·intros;exact ⟨rfl,rfl,rfl,rfl,rfl,rfl,rfl,rfl,rfl,rfl,rfl,rfl,rfl,rfl,rfl,rfl,rfl,rfl,rfl,rfl,rfl,rfl,rfl,rfl,rfl,rfl,rfl,rfl,rfl,rfl,rfl,rfl,rfl,rfl,rfl,rfl,rfl,rfl,rfl,rfl,rfl,rfl,rfl,rfl,rfl,rfl⟩
 ·intros;exact ⟨rfl,rfl,rfl,rfl,rfl,rfl,rfl,rfl,rfl,rfl,rfl,rfl⟩
 ·intros;exact ⟨rfl,rfl⟩
 ·intros;exact ⟨rfl,rfl,rfl,rfl⟩
 ·intros;exact ⟨rfl,rfl⟩
 ·intros;exact ⟨rfl,rfl,rfl,rfl⟩
 ·intros;exact ⟨rfl,rfl⟩
 ·intros;exact ⟨rfl,rfl,rfl,rfl⟩
 ·intros;exact ⟨rfl,rfl⟩
 ·intros;exact ⟨rfl,rfl,rfl,rfl⟩
 ·intros;exact ⟨rfl,rfl⟩
 ·intros;exact ⟨rfl,rfl,rfl,rfl⟩
variable (e:List AV) (g:Gh) (s:Ses) (f1 f2 f3:AG) (v0:Nat) (e0:List (List Tree)) (v4:Nat) (e4:List (List Tree)) (v5:Nat) (e5:List (List Tree))
theorem V1 (tl:Heap):rh (e,AT f1 f2 f3 v0 e0 v4 e4 v5 e5 (Aa g s) (tl)) 0 BO=AT E0 E0 E0 v0 e0 v4 e4 v5 e5 (Aa g s) []:=by intros;rfl
theorem V3 (tl:Heap):rh (e,AT f1 f2 f3 v0 e0 v4 e4 v5 e5 (Aa g s) (tl)) 0 Bp=AT (.row true f1.ver 15 (Bk f1)) (.row true f2.ver 4 (Bk f2)) (.row true f3.ver 4 (Bk f3)) v0 e0 v4 e4 v5 e5 (Aa g s) []:=by intros;rfl
theorem V2 (o0 o1:AG) (tl:Heap):rh (e,AT f1 f2 f3 v0 e0 v4 e4 v5 e5 (Aa g s) (o0::o1::tl)) 0 DK=AT E0 E0 E0 v0 e0 v4 e4 v5 e5 (Aa g s) [.box [.t (tI (intOf (AF (cellOf o0 0))))],.box [.t (.bool (A0 (AF (cellOf o1 0))))]]:=by intros;rfl
theorem V0 (o0:AG) (tl:Heap):rh (e,AT f1 f2 f3 v0 e0 v4 e4 v5 e5 (Aa g s) (o0::tl)) 0 OZ=AT E0 E0 E0 v0 e0 v4 e4 v5 e5 (Aa g s) [.box [.t (tI (intOf (AF (cellOf o0 0)))),.t (tI (intOf (AF (cellOf o0 1)))),.t (tI (intOf (AF (cellOf o0 2)))),.t (tI (intOf (AF (cellOf o0 3)))),.t (tI (intOf (AF (cellOf o0 4)))),.t (.bool (A0 (AF (cellOf o0 5)))),.t (.str (strOf (AF (cellOf o0 6)))),.t (.sl 2 (CX (AF (cellOf o0 7))))]]:=by intros;rfl
theorem Vz (o0:AG) (tl:Heap):rh (e,AT f1 f2 f3 v0 e0 v4 e4 v5 e5 (Aa g s) (o0::tl)) 0 CH=AT E0 E0 E0 v0 e0 v4 e4 v5 e5 (Aa g s) [.row false o0.ver 8 (Bk o0)]:=by intros;rfl
theorem Tc (o0 o1:AG) (tl:Heap):rh (e,AT f1 f2 f3 v0 e0 v4 e4 v5 e5 (Aa g s) (o0::o1::tl)) 0 Km=AT E0 E0 E0 v0 e0 v4 e4 v5 e5 (Aa g s) [.row false o0.ver 8 (Bk o0),.box [.t (tI (intOf (AF (cellOf o1 0)))),.t (tI (intOf (AF (cellOf o1 1)))),.t (tI (intOf (AF (cellOf o1 2)))),.t (tI (intOf (AF (cellOf o1 3)))),.t (tI (intOf (AF (cellOf o1 4)))),.t (.bool (A0 (AF (cellOf o1 5)))),.t (.str (strOf (AF (cellOf o1 6)))),.t (.sl 2 (CX (AF (cellOf o1 7))))]]:=by intros;rfl
theorem Tb (o0 o1 o2:AG) (tl:Heap):rh (e,AT f1 f2 f3 v0 e0 v4 e4 v5 e5 (Aa g s) (o0::o1::o2::tl)) 0 It=AT (.row true f1.ver 15 (Bk f1)) (.row true f2.ver 4 (Bk f2)) (.row true f3.ver 4 (Bk f3)) v0 e0 v4 e4 v5 e5 (Aa g s) [.row false o0.ver 8 (Bk o0),.box [.t (tI (intOf (AF (cellOf o1 0)))),.t (tI (intOf (AF (cellOf o1 1)))),.t (.sl 2 (CX (AF (cellOf o1 2)))),.t (.str (strOf (AF (cellOf o1 3))))],.box [.t (tI (intOf (AF (cellOf o2 0)))),.t (tI (intOf (AF (cellOf o2 1)))),.t (tI (intOf (AF (cellOf o2 2)))),.t (tI (intOf (AF (cellOf o2 3)))),.t (tI (intOf (AF (cellOf o2 4)))),.t (.bool (A0 (AF (cellOf o2 5)))),.t (.str (strOf (AF (cellOf o2 6)))),.t (.sl 2 (CX (AF (cellOf o2 7))))]]:=by intros;rfl
theorem Ta (o0 o1 o2:AG) (tl:Heap):rh (e,AT f1 f2 f3 v0 e0 v4 e4 v5 e5 (Aa g s) (o0::o1::o2::tl)) 0 CG=AT E0 E0 E0 v0 e0 v4 e4 v5 e5 (Aa g s) [.row false o0.ver 8 (Bk o0),.box [.t (tI (intOf (AF (cellOf o1 0)))),.t (tI (intOf (AF (cellOf o1 1)))),.t (.sl 2 (CX (AF (cellOf o1 2)))),.t (.str (strOf (AF (cellOf o1 3))))],.box [.t (tI (intOf (AF (cellOf o2 0)))),.t (tI (intOf (AF (cellOf o2 1)))),.t (tI (intOf (AF (cellOf o2 2)))),.t (tI (intOf (AF (cellOf o2 3)))),.t (tI (intOf (AF (cellOf o2 4)))),.t (.bool (A0 (AF (cellOf o2 5)))),.t (.str (strOf (AF (cellOf o2 6)))),.t (.sl 2 (CX (AF (cellOf o2 7))))]]:=by intros;rfl
theorem TZ (o0 o1 o2 o3:AG) (tl:Heap):rh (e,AT f1 f2 f3 v0 e0 v4 e4 v5 e5 (Aa g s) (o0::o1::o2::o3::tl)) 0 Kl=AT E0 E0 E0 v0 e0 v4 e4 v5 e5 (Aa g s) [.row false o0.ver 8 (Bk o0),.box [.t (tI (intOf (AF (cellOf o1 0)))),.t (tI (intOf (AF (cellOf o1 1)))),.t (.sl 2 (CX (AF (cellOf o1 2)))),.t (.str (strOf (AF (cellOf o1 3))))],.box [.t (tI (intOf (AF (cellOf o2 0)))),.t (tI (intOf (AF (cellOf o2 1)))),.t (tI (intOf (AF (cellOf o2 2)))),.t (tI (intOf (AF (cellOf o2 3)))),.t (tI (intOf (AF (cellOf o2 4)))),.t (.bool (A0 (AF (cellOf o2 5)))),.t (.str (strOf (AF (cellOf o2 6)))),.t (.sl 2 (CX (AF (cellOf o2 7))))],.box [.t (tI (intOf (AF (cellOf o3 0)))),.t (.sl 10 (CX (AF (cellOf o3 1)))),.t (tI (intOf (AF (cellOf o3 2)))),.t (tI (intOf (AF (cellOf o3 3))))]]:=by intros;rfl
theorem TY (o0 o1:AG) (tl:Heap):rh (e,AT f1 f2 f3 v0 e0 v4 e4 v5 e5 (Aa g s) (o0::o1::tl)) 0 NK=AT E0 E0 E0 v0 e0 v4 e4 v5 e5 (Aa g s) [.row false o0.ver 8 (Bk o0),.box [.t (tI (intOf (AF (cellOf o1 0)))),.t (tI (intOf (AF (cellOf o1 1)))),.t (.sl 2 (CX (AF (cellOf o1 2)))),.t (.str (strOf (AF (cellOf o1 3))))]]:=by intros;rfl
theorem TX (o0:AG) (tl:Heap):rh (e,AT f1 f2 f3 v0 e0 v4 e4 v5 e5 (Aa g s) (o0::tl)) 0 Kk=AT E0 E0 E0 v0 e0 v4 e4 v5 e5 (Aa g s) [.box [.t (tI (intOf (AF (cellOf o0 0)))),.t (.sl 10 (CX (AF (cellOf o0 1)))),.t (tI (intOf (AF (cellOf o0 2)))),.t (tI (intOf (AF (cellOf o0 3))))]]:=by intros;rfl
theorem Vx (x y:AG):upd (rh (e,AT f1 f2 f3 v0 e0 v4 e4 v5 e5 (Aa g s) []) 0 DK) [(8,x),(9,y)]=AT E0 E0 E0 v0 e0 v4 e4 v5 e5 (Aa g s) [x,y]:=by intros;rfl
theorem Vw (x:AG):upd (rh (e,AT f1 f2 f3 v0 e0 v4 e4 v5 e5 (Aa g s) []) 0 OZ) [(8,x)]=AT E0 E0 E0 v0 e0 v4 e4 v5 e5 (Aa g s) [x]:=by intros;rfl
theorem Vv (x:AG):upd (rh (e,AT f1 f2 f3 v0 e0 v4 e4 v5 e5 (Aa g s) []) 0 CH) [(8,x)]=AT E0 E0 E0 v0 e0 v4 e4 v5 e5 (Aa g s) [x]:=by intros;rfl
theorem TV (o0:AG) (x y:AG):upd (rh (e,AT f1 f2 f3 v0 e0 v4 e4 v5 e5 (Aa g s) [o0]) 0 Km) [(8,x),(9,y)]=AT E0 E0 E0 v0 e0 v4 e4 v5 e5 (Aa g s) [x,y]:=by intros;rfl
theorem TQ (o0:AG) (y:AG):upd (rh (e,AT f1 f2 f3 v0 e0 v4 e4 v5 e5 (Aa g s) [o0]) 0 NK) [(9,y)]=AT E0 E0 E0 v0 e0 v4 e4 v5 e5 (Aa g s) [.row false o0.ver 8 (Bk o0),y]:=by intros;rfl
theorem TR (o0 o1 o2:AG) (y:AG):upd (rh (e,AT f1 f2 f3 v0 e0 v4 e4 v5 e5 (Aa g s) [o0,o1,o2]) 0 Kl) [(11,y)]=AT E0 E0 E0 v0 e0 v4 e4 v5 e5 (Aa g s) [.row false o0.ver 8 (Bk o0),.box [.t (tI (intOf (AF (cellOf o1 0)))),.t (tI (intOf (AF (cellOf o1 1)))),.t (.sl 2 (CX (AF (cellOf o1 2)))),.t (.str (strOf (AF (cellOf o1 3))))],.box [.t (tI (intOf (AF (cellOf o2 0)))),.t (tI (intOf (AF (cellOf o2 1)))),.t (tI (intOf (AF (cellOf o2 2)))),.t (tI (intOf (AF (cellOf o2 3)))),.t (tI (intOf (AF (cellOf o2 4)))),.t (.bool (A0 (AF (cellOf o2 5)))),.t (.str (strOf (AF (cellOf o2 6)))),.t (.sl 2 (CX (AF (cellOf o2 7))))],y]:=by intros;rfl
theorem TP (y:AG):upd (rh (e,AT f1 f2 f3 v0 e0 v4 e4 v5 e5 (Aa g s) []) 0 Kk) [(8,y)]=AT E0 E0 E0 v0 e0 v4 e4 v5 e5 (Aa g s) [y]:=by intros;rfl
theorem TU (o0 o1 x y z w:AG):upd (rh (e,AT f1 f2 f3 v0 e0 v4 e4 v5 e5 (Aa g s) [o0,o1]) 0 It) [(2,x),(3,y),(4,z),(10,w)]=AT x y z v0 e0 v4 e4 v5 e5 (Aa g s) [.row false o0.ver 8 (Bk o0),.box [.t (tI (intOf (AF (cellOf o1 0)))),.t (tI (intOf (AF (cellOf o1 1)))),.t (.sl 2 (CX (AF (cellOf o1 2)))),.t (.str (strOf (AF (cellOf o1 3))))],w]:=by intros;rfl
theorem QE (o0 y:AG) (d:List AV):upd (rh (e,AT f1 f2 f3 v0 e0 v4 e4 v5 e5 (Aa g s) [o0]) 0 NK) [(7,.box d),(9,y)]=AT E0 E0 E0 v0 e0 v4 e4 v5 e5 d [.row false o0.ver 8 (Bk o0),y]:=by intros;rfl
theorem Pu (x y z:AG) (c:List AV) (tl:Heap):upd (AT f1 f2 f3 v0 e0 v4 e4 v5 e5 c tl) [(2,x),(3,y),(4,z)]=AT x y z v0 e0 v4 e4 v5 e5 c tl:=by intros;rfl
theorem Ng (x y z w o0 o1 o2:AG) (c:List AV) (tl:Heap):upd (AT f1 f2 f3 v0 e0 v4 e4 v5 e5 c (o0::o1::o2::tl)) [(2,x),(3,y),(4,z),(10,w)]=AT x y z v0 e0 v4 e4 v5 e5 c (o0::o1::w::tl):=by intros;rfl
theorem VX (d:List AV) (c:List AV) (tl:Heap):upd (AT f1 f2 f3 v0 e0 v4 e4 v5 e5 c tl) [(7,.box d)]=AT f1 f2 f3 v0 e0 v4 e4 v5 e5 d tl:=by intros;rfl
theorem S7 (d:List AV) (w:Nat) (r:List (List Tree)) (c:List AV) (tl:Heap):upd (AT f1 f2 f3 v0 e0 v4 e4 v5 e5 c tl) [(1,.row false w 9 r),(7,.box d)]=AT f1 f2 f3 w r v4 e4 v5 e5 d tl:=by intros;rfl
theorem S6 (d:List AV) (w:Nat) (r:List (List Tree)) (c:List AV) (tl:Heap):upd (AT f1 f2 f3 v0 e0 v4 e4 v5 e5 c tl) [(5,.row false w 9 r),(7,.box d)]=AT f1 f2 f3 v0 e0 w r v5 e5 d tl:=by intros;rfl
theorem S5 (d:List AV) (w:Nat) (r:List (List Tree)) (c:List AV) (tl:Heap):upd (AT f1 f2 f3 v0 e0 v4 e4 v5 e5 c tl) [(6,.row false w 9 r),(7,.box d)]=AT f1 f2 f3 v0 e0 v4 e4 w r d tl:=by intros;rfl
theorem VW (x o0:AG) (c:List AV) (tl:Heap):upd (AT f1 f2 f3 v0 e0 v4 e4 v5 e5 c (o0::tl)) [(8,x)]=AT f1 f2 f3 v0 e0 v4 e4 v5 e5 c (x::tl):=by intros;rfl
theorem S2 (x y o0 o1:AG) (c:List AV) (tl:Heap):upd (AT f1 f2 f3 v0 e0 v4 e4 v5 e5 c (o0::o1::tl)) [(8,x),(9,y)]=AT f1 f2 f3 v0 e0 v4 e4 v5 e5 c (x::y::tl):=by intros;rfl
theorem S4 (x o0:AG) (d:List AV) (c:List AV) (tl:Heap):upd (AT f1 f2 f3 v0 e0 v4 e4 v5 e5 c (o0::tl)) [(7,.box d),(8,x)]=AT f1 f2 f3 v0 e0 v4 e4 v5 e5 d (x::tl):=by intros;rfl
theorem S3 (x o0 o1:AG) (d:List AV) (c:List AV) (tl:Heap):upd (AT f1 f2 f3 v0 e0 v4 e4 v5 e5 c (o0::o1::tl)) [(7,.box d),(9,x)]=AT f1 f2 f3 v0 e0 v4 e4 v5 e5 d (o0::x::tl):=by intros;rfl
theorem V7 (tl:Heap):rb (e,AT f1 f2 f3 v0 e0 v4 e4 v5 e5 (Aa g s) tl) 7 0 A4=Aa g s:=by intros;rfl
theorem Vc (a b d:Int) (fs:List Frame):upd (Aa g s) [(0,.t (tI a)),(1,.t (.sl 10 (fs.map Frame.enc))),(2,.t (tI b)),(3,.t (tI d))]=Aa g {s with dat:=⟨a,fs,b,d⟩}:=by kernel_rfl
theorem Va (a b d:Int) (fs:List Frame):upd (Aa g s) [(4,.t (tI a)),(5,.t (.sl 10 (fs.map Frame.enc))),(6,.t (tI b)),(7,.t (tI d))]=Aa g {s with rep:=⟨a,fs,b,d⟩}:=by kernel_rfl
theorem Vb (a:Int):upd (Aa g s) [(15,.t (tI a))]=Aa g {s with now:=a}:=by kernel_rfl
theorem S9 (a:Int):upd (Aa g s) [(12,.t (tI a))]=Aa g {s with dist:=a}:=by kernel_rfl
theorem VZ (a:Snd):upd (Aa g s) [(16,.t (tI a.c.frm)),(17,.t (tI a.c.dst)),(18,.t (tI a.c.start)),(19,.t (tI a.c.fin)),(20,.t (tI a.c.rate)),(21,.t (tI a.c.rng)),(22,.t (tI a.c.loss)),(23,.t (tI a.ses)),(24,.t (.str a.data)),(25,.t (tI a.fin)),(26,.t (tI a.busy)),(27,.t (tI a.ser)),(28,.t (.sl 2 (a.acked.map Span.enc))),(29,.t (tI a.due)),(30,.t (tI a.st))]=Aa g {s with snd:=a}:=by kernel_rfl
theorem S8 (a:Snd) (k:Bool) (t:Int):upd (Aa g s) [(16,.t (tI a.c.frm)),(17,.t (tI a.c.dst)),(18,.t (tI a.c.start)),(19,.t (tI a.c.fin)),(20,.t (tI a.c.rate)),(21,.t (tI a.c.rng)),(22,.t (tI a.c.loss)),(23,.t (tI a.ses)),(24,.t (.str a.data)),(25,.t (tI a.fin)),(26,.t (tI a.busy)),(27,.t (tI a.ser)),(28,.t (.sl 2 (a.acked.map Span.enc))),(29,.t (tI a.due)),(30,.t (tI a.st)),(38,.t (.bool k)),(39,.t (tI t))]=Aa g {s with snd:=a,kno:=k,knoAt:=t}:=by kernel_rfl
theorem VY (a:Rcv):upd (Aa g s) [(31,.t (tI a.ses)),(32,.t (tI a.tot)),(33,.t (.sl 2 (a.known.map Span.enc))),(34,.t (.str a.data))]=Aa g {s with rcv:=a}:=by kernel_rfl
theorem Vd (k:Bool) (t:Int):upd (Aa g s) [(36,.t (.bool k)),(37,.t (tI t))]=Aa g {s with rcvd:=k,arrive:=t}:=by kernel_rfl
theorem Ix (a:Snd) (w:Nat) (o:List Out):upd (Aa g s) [(16,.t (tI a.c.frm)),(17,.t (tI a.c.dst)),(18,.t (tI a.c.start)),(19,.t (tI a.c.fin)),(20,.t (tI a.c.rate)),(21,.t (tI a.c.rng)),(22,.t (tI a.c.loss)),(23,.t (tI a.ses)),(24,.t (.str a.data)),(25,.t (tI a.fin)),(26,.t (tI a.busy)),(27,.t (tI a.ser)),(28,.t (.sl 2 (a.acked.map Span.enc))),(29,.t (tI a.due)),(30,.t (tI a.st)),(35,.sref 1 w 0 (s.pend.length+o.length))]=Aa {g with v0:=w,pre:=[]} {s with snd:=a,pend:=s.pend++o}:=by
 rw [← List.length_append];kernel_rfl
theorem Lc (a:Snd) (w:Nat) (o:List Out) (k:Bool) (t:Int):upd (Aa g s) [(16,.t (tI a.c.frm)),(17,.t (tI a.c.dst)),(18,.t (tI a.c.start)),(19,.t (tI a.c.fin)),(20,.t (tI a.c.rate)),(21,.t (tI a.c.rng)),(22,.t (tI a.c.loss)),(23,.t (tI a.ses)),(24,.t (.str a.data)),(25,.t (tI a.fin)),(26,.t (tI a.busy)),(27,.t (tI a.ser)),(28,.t (.sl 2 (a.acked.map Span.enc))),(29,.t (tI a.due)),(30,.t (tI a.st)),(35,.sref 1 w 0 (s.pend.length+o.length)),(38,.t (.bool k)),(39,.t (tI t))]=Aa {g with v0:=w,pre:=[]} {s with snd:=a,pend:=s.pend++o,kno:=k,knoAt:=t}:=by
 rw [← List.length_append];kernel_rfl
theorem ucP_26 (x:Out) (l:List Out) (hp:s.pend=x::l):upd (Aa g s) [(35,.sref 1 g.v0 (g.pre.length+1) (s.pend.length-1))]=Aa {g with pre:=g.pre++[x.enc]} {s with pend:=l}:=by
 rw [show s.pend.length-1=l.length by rw [hp];rfl,show g.pre.length+1=(g.pre++[x.enc]).length by simp];kernel_rfl
theorem Iz (a b d:Int) (fs:List Frame) (e:Int) (w:Nat) (x:Out):upd (Aa g s) [(0,.t (tI a)),(1,.t (.sl 10 (fs.map Frame.enc))),(2,.t (tI b)),(3,.t (tI d)),(11,.t (tI e)),(13,.sref 5 w 0 (s.sent.length+1))]=Aa {g with v4:=w} {s with dat:=⟨a,fs,b,d⟩,entered:=e,sent:=s.sent++[x]}:=by
 rw [show s.sent.length+1=(s.sent++[x]).length by simp];kernel_rfl
theorem LJ (a b d:Int) (fs:List Frame) (e u:Int) (w:Nat) (x:Out):upd (Aa g s) [(0,.t (tI a)),(1,.t (.sl 10 (fs.map Frame.enc))),(2,.t (tI b)),(3,.t (tI d)),(11,.t (tI e)),(12,.t (tI u)),(13,.sref 5 w 0 (s.sent.length+1))]=Aa {g with v4:=w} {s with dat:=⟨a,fs,b,d⟩,entered:=e,dist:=u,sent:=s.sent++[x]}:=by
 rw [show s.sent.length+1=(s.sent++[x]).length by simp];kernel_rfl
theorem Iy (a b d:Int) (fs:List Frame) (e:Int) (w:Nat) (x:Out):upd (Aa g s) [(4,.t (tI a)),(5,.t (.sl 10 (fs.map Frame.enc))),(6,.t (tI b)),(7,.t (tI d)),(11,.t (tI e)),(14,.sref 6 w 0 (s.told.length+1))]=Aa {g with v5:=w} {s with rep:=⟨a,fs,b,d⟩,entered:=e,told:=s.told++[x]}:=by
 rw [show s.told.length+1=(s.told++[x]).length by simp];kernel_rfl
theorem LI (a b d:Int) (fs:List Frame) (e u:Int) (w:Nat) (x:Out):upd (Aa g s) [(4,.t (tI a)),(5,.t (.sl 10 (fs.map Frame.enc))),(6,.t (tI b)),(7,.t (tI d)),(11,.t (tI e)),(12,.t (tI u)),(14,.sref 6 w 0 (s.told.length+1))]=Aa {g with v5:=w} {s with rep:=⟨a,fs,b,d⟩,entered:=e,dist:=u,told:=s.told++[x]}:=by
 rw [show s.told.length+1=(s.told++[x]).length by simp];kernel_rfl
theorem A2:type_of% (And.intro @rd26 (And.intro @V1 (And.intro @V3 (And.intro @V2 (And.intro @V0 (And.intro @Vz (And.intro @Tc (And.intro @Tb (And.intro @Ta (And.intro @TZ (And.intro @TY (And.intro @TX (And.intro @Vx (And.intro @Vw (And.intro @Vv (And.intro @TV (And.intro @TQ (And.intro @TR (And.intro @TP (And.intro @TU (And.intro @QE (And.intro @Pu (And.intro @Ng (And.intro @VX (And.intro @S7 (And.intro @S6 (And.intro @S5 (And.intro @VW (And.intro @S2 (And.intro @S4 (And.intro @S3 (And.intro @V7 (And.intro @Vc (And.intro @Va (And.intro @Vb (And.intro @S9 (And.intro @VZ (And.intro @S8 (And.intro @VY (And.intro @Vd (And.intro @Ix @Lc))))))))))))))))))))))))))))))))))))))))):=(And.intro @rd26 (And.intro @V1 (And.intro @V3 (And.intro @V2 (And.intro @V0 (And.intro @Vz (And.intro @Tc (And.intro @Tb (And.intro @Ta (And.intro @TZ (And.intro @TY (And.intro @TX (And.intro @Vx (And.intro @Vw (And.intro @Vv (And.intro @TV (And.intro @TQ (And.intro @TR (And.intro @TP (And.intro @TU (And.intro @QE (And.intro @Pu (And.intro @Ng (And.intro @VX (And.intro @S7 (And.intro @S6 (And.intro @S5 (And.intro @VW (And.intro @S2 (And.intro @S4 (And.intro @S3 (And.intro @V7 (And.intro @Vc (And.intro @Va (And.intro @Vb (And.intro @S9 (And.intro @VZ (And.intro @S8 (And.intro @VY (And.intro @Vd (And.intro @Ix @Lc)))))))))))))))))))))))))))))))))))))))))
end Ab
set_option linter.unusedVariables false
set_option linter.unusedSimpArgs false
set_option maxRecDepth 100000
namespace Ab
open Go
theorem entD_26 (g:Gh) (s:Ses) (x:Seg) (f1 f2 f3:AG) (hc:EOk s s.dat) :
  Ev fun n=>∀again,Xb n (fI C n) again ([.ptr 7 0,.ptr 7 0,.t (tI 0),.t (tI s.now),.agg (DA x)],H26 f1 f2 f3 g s [])=again ([],H26 E0 E0 E0 {g with v4:=g.v4+1} (Cv s x) []):=by
 have q1:¬(10000:Int)≤s.entered:=by have:=hc.ent;omega
 have q2:w64 (s.entered+1)=s.entered+1:=by have:=hc.ent;exact AS (by omega) (by omega)
 have q3:w64 (s.dist+1)=s.dist+1:=by have:=hc.dst;exact AS (by omega) (by omega)
 have q4:s.sent.length+1≤1073741824:=by have:=hc.sl;omega
 have q5:List.take s.sent.length (List.map Out.enc s.sent)=List.map Out.enc s.sent:=List.take_of_length_le (by simp)
 have key:=fun (ds:List Int) (hd:∀d∈ds,s.dat.rng≤d∧d≤2*s.dat.rng) (hl:ds.length≤2)=>s156 s.dat hc.gc s.now x hc.now ds hd (by have:=hc.len;omega)
 have kR:∀d∈[s.dat.rng],s.dat.rng≤d∧d≤2*s.dat.rng:=by have:=hc.gc.rng;simp;omega
 simp only [CC.enc,List.cons_append,List.nil_append] at key
 by_cases h0:NU s.dark s.now=true
 ·rw [JY s x [] s.dist (by simp [CE,h0])]
  refine ((NN s.dark s.now).and (key [] (by simp) (by simp))).mono fun n h again => ?_
  obtain ⟨h1,h2⟩:=h
  simp only [List.map_nil] at h2
  simp only [H26,F4,HR,DA,A2,vv2,vf,reduceCtorEq,Nat.reduceAdd,Nat.reduceEqDiff,h1,h0,h2,Ae,AN,q1,q2,q3,q4,q5,bne_self_eq_false,Nat.le_refl,Iz (x:=⟨s.now,x⟩),List.map_append,List.map_cons,List.map_nil,Out.enc]
 ·have h0:NU s.dark s.now=false:=by simpa using h0
  by_cases h5:s.picks=[]
  ·rw [JY s x [s.dat.rng] s.dist (by simp [CE,h0,h5])]
   refine ((NN s.dark s.now).and (key [s.dat.rng] kR (by simp))).mono fun n h again => ?_
   obtain ⟨h1,h2⟩:=h
   simp only [List.map_cons,List.map_nil,Cz] at h2
   have h5':(s.picks.length:Int)=0:=by simp [h5]
   simp only [H26,F4,HR,DA,A2,vv2,vf,reduceCtorEq,Nat.reduceAdd,Nat.reduceEqDiff,h1,h0,h2,h5',beq_self_eq_true,Ae,AN,q1,q2,q3,q4,q5,bne_self_eq_false,Nat.le_refl,Iz (x:=⟨s.now,x⟩),List.map_append,List.map_cons,List.map_nil,Out.enc]
  ·have hpos:=List.length_pos_iff.2 h5
   have h6:¬(s.picks.length:Int)=0:=by omega
   have h6':((s.picks.length:Int)==0)=false:=by simpa using h6
   have hm1:=Int.emod_nonneg s.entered h6
   have hm2:=Int.emod_lt_of_pos s.entered (show (0:Int)<s.picks.length by omega)
   have hm:Int.tmod s.entered s.picks.length=s.entered % s.picks.length:=Int.tmod_eq_emod_of_nonneg hc.ent.1
   obtain ⟨p,hp⟩:∃p,s.picks[(s.entered % s.picks.length).toNat]? = some p:=⟨_,List.getElem?_eq_getElem (by omega)⟩
   have hg:s.picks.getD (s.entered % s.picks.length).toNat 0=p:=by rw [List.getD_eq_getElem?_getD,hp];rfl
   have hpk:=hc.pk p (List.mem_of_getElem? hp)
   have hrg:=hc.gc.rng
   have k176:=s176 p s.dat.rng hpk hrg
   have kf:=key (Cc p s.dat.rng) (fun d hd=>JU hrg.1 hd) (JV _ _)
   have kr:=key [s.dat.rng] kR (by simp)
   have c1:∀z:Int×List (List Tree),True:=fun _=>trivial
   by_cases h7:(Cc p s.dat.rng).head? = some s.dat.rng
   ·rw [JY s x (Cc p s.dat.rng) s.dist (by simp only [CE,h0,h5,hg,h7,if_true,if_false,Bool.false_eq_true])]
    obtain ⟨l,hl⟩:∃l,Cc p s.dat.rng=s.dat.rng::l:=by
     cases hf:Cc p s.dat.rng with
     |nil=>rw [hf] at h7;cases h7
     |cons a l=>rw [hf] at h7;cases h7;exact ⟨l,rfl⟩
    rw [hl] at kf k176 ⊢
    refine ((NN s.dark s.now).and (k176.and kf)).mono fun n h again => ?_
    obtain ⟨h1,h2,h3⟩:=h
    simp only [List.map_cons,Cz] at h2 h3
    simp only [H26,F4,HR,DT,HU,DT,HT,DA,A2,vv2,vf,reduceCtorEq,Nat.reduceAdd,Nat.reduceEqDiff,h1,h0,h2,h3,h6,h6',hm,hm1,hp,List.map_cons,Cz,List.getElem?_cons_zero,(show (0:Int)<((l.length+1:Nat):Int) by omega),beq_self_eq_true,Ae,AN,q1,q2,q3,q4,q5,bne_self_eq_false,Nat.le_refl,Iz (x:=⟨s.now,x⟩),List.map_append,List.map_nil,Out.enc]
   ·have h8:∀y:Int,((Cc p s.dat.rng).map Cz)[0]? = some [tI y]→(y==s.dat.rng)=false:=by
     intro y hy
     cases hf:Cc p s.dat.rng with
     |nil=>rw [hf] at hy;cases hy
     |cons a l=>
      rw [hf] at hy h7
      cases hy
      simp at h7
      simpa using h7
    have k8:(Cc p s.dat.rng).length=0∨∃y,0<(Cc p s.dat.rng).length∧((Cc p s.dat.rng).map Cz)[0]? = some [tI y]∧(y==s.dat.rng)=false:=by
     cases hf:Cc p s.dat.rng with
     |nil=>exact .inl rfl
     |cons a l=>exact .inr ⟨a,by simp,rfl,h8 a (by rw [hf];rfl)⟩
    by_cases h9:0≤s.limit∧s.limit≤s.dist
    ·rw [JY s x [s.dat.rng] s.dist (by simp only [CE,h0,h5,hg,h7,h9,if_true,if_false,Bool.false_eq_true,and_self])]
     refine ((NN s.dark s.now).and (k176.and kr)).mono fun n h again => ?_
     obtain ⟨h1,h2,h3⟩:=h
     simp only [List.map_cons,List.map_nil,Cz] at h3
     rcases k8 with k8|⟨y,k8,k9,k10⟩
     ·simp only [H26,F4,HR,DT,HU,DT,HT,DA,A2,vv2,vf,reduceCtorEq,Nat.reduceAdd,Nat.reduceEqDiff,h1,h0,h2,h3,h6,h6',hm,hm1,hp,List.map_cons,Cz,k8,Int.natCast_zero,Int.lt_irrefl,h9,beq_self_eq_true,Ae,AN,q1,q2,q3,q4,q5,bne_self_eq_false,Nat.le_refl,Iz (x:=⟨s.now,x⟩),List.map_append,List.map_nil,Out.enc]
     ·simp only [H26,F4,HR,DT,HU,DT,HT,DA,A2,vv2,vf,reduceCtorEq,Nat.reduceAdd,Nat.reduceEqDiff,h1,h0,h2,h3,h6,h6',hm,hm1,hp,List.map_cons,Cz,(show (0:Int)<((Cc p s.dat.rng).length:Int) by omega),k9,k10,h9,beq_self_eq_true,Ae,AN,q1,q2,q3,q4,q5,bne_self_eq_false,Nat.le_refl,Iz (x:=⟨s.now,x⟩),List.map_append,List.map_nil,Out.enc]
    ·rw [JY s x (Cc p s.dat.rng) (s.dist+1) (by simp only [CE,h0,h5,hg,h7,h9,if_true,if_false,Bool.false_eq_true,and_self])]
     refine ((NN s.dark s.now).and (k176.and kf)).mono fun n h again => ?_
     obtain ⟨h1,h2,h3⟩:=h
     have h9':(0≤s.limit→¬s.limit≤s.dist):=fun a b=>h9 ⟨a,b⟩
     by_cases h10:0≤s.limit
     ·have h11:=h9' h10
      rcases k8 with k8|⟨y,k8,k9,k10⟩
      ·simp only [H26,F4,HR,DT,HU,DT,HT,DA,A2,vv2,vf,reduceCtorEq,Nat.reduceAdd,Nat.reduceEqDiff,h1,h0,h2,h3,h6,h6',hm,hm1,hp,List.map_cons,Cz,k8,Int.natCast_zero,Int.lt_irrefl,h10,h11,beq_self_eq_true,Ae,AN,q1,q2,q3,q4,q5,bne_self_eq_false,Nat.le_refl,LJ (x:=⟨s.now,x⟩),List.map_append,List.map_nil,Out.enc]
      ·simp only [H26,F4,HR,DT,HU,DT,HT,DA,A2,vv2,vf,reduceCtorEq,Nat.reduceAdd,Nat.reduceEqDiff,h1,h0,h2,h3,h6,h6',hm,hm1,hp,List.map_cons,Cz,(show (0:Int)<((Cc p s.dat.rng).length:Int) by omega),k9,k10,h10,h11,beq_self_eq_true,Ae,AN,q1,q2,q3,q4,q5,bne_self_eq_false,Nat.le_refl,LJ (x:=⟨s.now,x⟩),List.map_append,List.map_nil,Out.enc]
     ·rcases k8 with k8|⟨y,k8,k9,k10⟩
      ·simp only [H26,F4,HR,DT,HU,DT,HT,DA,A2,vv2,vf,reduceCtorEq,Nat.reduceAdd,Nat.reduceEqDiff,h1,h0,h2,h3,h6,h6',hm,hm1,hp,List.map_cons,Cz,k8,Int.natCast_zero,Int.lt_irrefl,h10,beq_self_eq_true,Ae,AN,q1,q2,q3,q4,q5,bne_self_eq_false,Nat.le_refl,LJ (x:=⟨s.now,x⟩),List.map_append,List.map_nil,Out.enc]
      ·simp only [H26,F4,HR,DT,HU,DT,HT,DA,A2,vv2,vf,reduceCtorEq,Nat.reduceAdd,Nat.reduceEqDiff,h1,h0,h2,h3,h6,h6',hm,hm1,hp,List.map_cons,Cz,(show (0:Int)<((Cc p s.dat.rng).length:Int) by omega),k9,k10,h10,beq_self_eq_true,Ae,AN,q1,q2,q3,q4,q5,bne_self_eq_false,Nat.le_refl,LJ (x:=⟨s.now,x⟩),List.map_append,List.map_nil,Out.enc]
theorem entR_26 (g:Gh) (s:Ses) (x:Seg) (f1 f2 f3:AG) (hc:EOk s s.rep) (v8:Nat) (e8:List (List Tree)) (a b:Int) (ks:List (List Tree)) (bd:ByteArray) (y:Seg) :
  Ev fun n=>∀again,Xd n (fI C n) again ([.ptr 7 0,.ptr 7 4,.t (tI 1),.t (tI s.now),.agg (DA x)],H26 f1 f2 f3 g s [.row false v8 8 e8,.box [.t (tI a),.t (tI b),.t (.sl 2 ks),.t (.str bd)],.box (DA y)])=again ([],H26 E0 E0 E0 {g with v5:=g.v5+1} (Cy s x) [.row false v8 8 e8,.box [.t (tI a),.t (tI b),.t (.sl 2 ks),.t (.str bd)],.box (DA y)]):=by
 have q1:¬(10000:Int)≤s.entered:=by have:=hc.ent;omega
 have q2:w64 (s.entered+1)=s.entered+1:=by have:=hc.ent;exact AS (by omega) (by omega)
 have q3:w64 (s.dist+1)=s.dist+1:=by have:=hc.dst;exact AS (by omega) (by omega)
 have q4:s.told.length+1≤1073741824:=by have:=hc.sl;omega
 have q5:List.take s.told.length (List.map Out.enc s.told)=List.map Out.enc s.told:=List.take_of_length_le (by simp)
 have key:=fun (ds:List Int) (hd:∀d∈ds,s.rep.rng≤d∧d≤2*s.rep.rng) (hl:ds.length≤2)=>s156 s.rep hc.gc s.now x hc.now ds hd (by have:=hc.len;omega)
 have kR:∀d∈[s.rep.rng],s.rep.rng≤d∧d≤2*s.rep.rng:=by have:=hc.gc.rng;simp;omega
 simp only [CC.enc,List.cons_append,List.nil_append] at key
 by_cases h0:NU s.dark s.now=true
 ·rw [JX s x [] s.dist (by simp [CE,h0])]
  refine ((NN s.dark s.now).and (key [] (by simp) (by simp))).mono fun n h again => ?_
  obtain ⟨h1,h2⟩:=h
  simp only [List.map_nil] at h2
  simp only [H26,F5,HS,DA,A2,vv2,vf,reduceCtorEq,Nat.reduceAdd,Nat.reduceEqDiff,h1,h0,h2,Ae,AN,q1,q2,q3,q4,q5,bne_self_eq_false,Nat.le_refl,Iy (x:=⟨s.now,x⟩),List.map_append,List.map_cons,List.map_nil,Out.enc]
 ·have h0:NU s.dark s.now=false:=by simpa using h0
  by_cases h5:s.picks=[]
  ·rw [JX s x [s.rep.rng] s.dist (by simp [CE,h0,h5])]
   refine ((NN s.dark s.now).and (key [s.rep.rng] kR (by simp))).mono fun n h again => ?_
   obtain ⟨h1,h2⟩:=h
   simp only [List.map_cons,List.map_nil,Cz] at h2
   have h5':(s.picks.length:Int)=0:=by simp [h5]
   simp only [H26,F5,HS,DA,A2,vv2,vf,reduceCtorEq,Nat.reduceAdd,Nat.reduceEqDiff,h1,h0,h2,h5',beq_self_eq_true,Ae,AN,q1,q2,q3,q4,q5,bne_self_eq_false,Nat.le_refl,Iy (x:=⟨s.now,x⟩),List.map_append,List.map_cons,List.map_nil,Out.enc]
  ·have hpos:=List.length_pos_iff.2 h5
   have h6:¬(s.picks.length:Int)=0:=by omega
   have h6':((s.picks.length:Int)==0)=false:=by simpa using h6
   have hm1:=Int.emod_nonneg s.entered h6
   have hm2:=Int.emod_lt_of_pos s.entered (show (0:Int)<s.picks.length by omega)
   have hm:Int.tmod s.entered s.picks.length=s.entered % s.picks.length:=Int.tmod_eq_emod_of_nonneg hc.ent.1
   obtain ⟨p,hp⟩:∃p,s.picks[(s.entered % s.picks.length).toNat]? = some p:=⟨_,List.getElem?_eq_getElem (by omega)⟩
   have hg:s.picks.getD (s.entered % s.picks.length).toNat 0=p:=by rw [List.getD_eq_getElem?_getD,hp];rfl
   have hpk:=hc.pk p (List.mem_of_getElem? hp)
   have hrg:=hc.gc.rng
   have k176:=s176 p s.rep.rng hpk hrg
   have kf:=key (Cc p s.rep.rng) (fun d hd=>JU hrg.1 hd) (JV _ _)
   have kr:=key [s.rep.rng] kR (by simp)
   have c1:∀z:Int×List (List Tree),True:=fun _=>trivial
   by_cases h7:(Cc p s.rep.rng).head? = some s.rep.rng
   ·rw [JX s x (Cc p s.rep.rng) s.dist (by simp only [CE,h0,h5,hg,h7,if_true,if_false,Bool.false_eq_true])]
    obtain ⟨l,hl⟩:∃l,Cc p s.rep.rng=s.rep.rng::l:=by
     cases hf:Cc p s.rep.rng with
     |nil=>rw [hf] at h7;cases h7
     |cons a l=>rw [hf] at h7;cases h7;exact ⟨l,rfl⟩
    rw [hl] at kf k176 ⊢
    refine ((NN s.dark s.now).and (k176.and kf)).mono fun n h again => ?_
    obtain ⟨h1,h2,h3⟩:=h
    simp only [List.map_cons,Cz] at h2 h3
    simp only [H26,F5,HS,DU,HW,DU,HV,DA,A2,vv2,vf,reduceCtorEq,Nat.reduceAdd,Nat.reduceEqDiff,h1,h0,h2,h3,h6,h6',hm,hm1,hp,List.map_cons,Cz,List.getElem?_cons_zero,(show (0:Int)<((l.length+1:Nat):Int) by omega),beq_self_eq_true,Ae,AN,q1,q2,q3,q4,q5,bne_self_eq_false,Nat.le_refl,Iy (x:=⟨s.now,x⟩),List.map_append,List.map_nil,Out.enc]
   ·have h8:∀y:Int,((Cc p s.rep.rng).map Cz)[0]? = some [tI y]→(y==s.rep.rng)=false:=by
     intro y hy
     cases hf:Cc p s.rep.rng with
     |nil=>rw [hf] at hy;cases hy
     |cons a l=>
      rw [hf] at hy h7
      cases hy
      simp at h7
      simpa using h7
    have k8:(Cc p s.rep.rng).length=0∨∃y,0<(Cc p s.rep.rng).length∧((Cc p s.rep.rng).map Cz)[0]? = some [tI y]∧(y==s.rep.rng)=false:=by
     cases hf:Cc p s.rep.rng with
     |nil=>exact .inl rfl
     |cons a l=>exact .inr ⟨a,by simp,rfl,h8 a (by rw [hf];rfl)⟩
    by_cases h9:0≤s.limit∧s.limit≤s.dist
    ·rw [JX s x [s.rep.rng] s.dist (by simp only [CE,h0,h5,hg,h7,h9,if_true,if_false,Bool.false_eq_true,and_self])]
     refine ((NN s.dark s.now).and (k176.and kr)).mono fun n h again => ?_
     obtain ⟨h1,h2,h3⟩:=h
     simp only [List.map_cons,List.map_nil,Cz] at h3
     rcases k8 with k8|⟨y,k8,k9,k10⟩
     ·simp only [H26,F5,HS,DU,HW,DU,HV,DA,A2,vv2,vf,reduceCtorEq,Nat.reduceAdd,Nat.reduceEqDiff,h1,h0,h2,h3,h6,h6',hm,hm1,hp,List.map_cons,Cz,k8,Int.natCast_zero,Int.lt_irrefl,h9,beq_self_eq_true,Ae,AN,q1,q2,q3,q4,q5,bne_self_eq_false,Nat.le_refl,Iy (x:=⟨s.now,x⟩),List.map_append,List.map_nil,Out.enc]
     ·simp only [H26,F5,HS,DU,HW,DU,HV,DA,A2,vv2,vf,reduceCtorEq,Nat.reduceAdd,Nat.reduceEqDiff,h1,h0,h2,h3,h6,h6',hm,hm1,hp,List.map_cons,Cz,(show (0:Int)<((Cc p s.rep.rng).length:Int) by omega),k9,k10,h9,beq_self_eq_true,Ae,AN,q1,q2,q3,q4,q5,bne_self_eq_false,Nat.le_refl,Iy (x:=⟨s.now,x⟩),List.map_append,List.map_nil,Out.enc]
    ·rw [JX s x (Cc p s.rep.rng) (s.dist+1) (by simp only [CE,h0,h5,hg,h7,h9,if_true,if_false,Bool.false_eq_true,and_self])]
     refine ((NN s.dark s.now).and (k176.and kf)).mono fun n h again => ?_
     obtain ⟨h1,h2,h3⟩:=h
     have h9':(0≤s.limit→¬s.limit≤s.dist):=fun a b=>h9 ⟨a,b⟩
     by_cases h10:0≤s.limit
     ·have h11:=h9' h10
      rcases k8 with k8|⟨y,k8,k9,k10⟩
      ·simp only [H26,F5,HS,DU,HW,DU,HV,DA,A2,vv2,vf,reduceCtorEq,Nat.reduceAdd,Nat.reduceEqDiff,h1,h0,h2,h3,h6,h6',hm,hm1,hp,List.map_cons,Cz,k8,Int.natCast_zero,Int.lt_irrefl,h10,h11,beq_self_eq_true,Ae,AN,q1,q2,q3,q4,q5,bne_self_eq_false,Nat.le_refl,LI (x:=⟨s.now,x⟩),List.map_append,List.map_nil,Out.enc]
      ·simp only [H26,F5,HS,DU,HW,DU,HV,DA,A2,vv2,vf,reduceCtorEq,Nat.reduceAdd,Nat.reduceEqDiff,h1,h0,h2,h3,h6,h6',hm,hm1,hp,List.map_cons,Cz,(show (0:Int)<((Cc p s.rep.rng).length:Int) by omega),k9,k10,h10,h11,beq_self_eq_true,Ae,AN,q1,q2,q3,q4,q5,bne_self_eq_false,Nat.le_refl,LI (x:=⟨s.now,x⟩),List.map_append,List.map_nil,Out.enc]
     ·rcases k8 with k8|⟨y,k8,k9,k10⟩
      ·simp only [H26,F5,HS,DU,HW,DU,HV,DA,A2,vv2,vf,reduceCtorEq,Nat.reduceAdd,Nat.reduceEqDiff,h1,h0,h2,h3,h6,h6',hm,hm1,hp,List.map_cons,Cz,k8,Int.natCast_zero,Int.lt_irrefl,h10,beq_self_eq_true,Ae,AN,q1,q2,q3,q4,q5,bne_self_eq_false,Nat.le_refl,LI (x:=⟨s.now,x⟩),List.map_append,List.map_nil,Out.enc]
      ·simp only [H26,F5,HS,DU,HW,DU,HV,DA,A2,vv2,vf,reduceCtorEq,Nat.reduceAdd,Nat.reduceEqDiff,h1,h0,h2,h3,h6,h6',hm,hm1,hp,List.map_cons,Cz,(show (0:Int)<((Cc p s.rep.rng).length:Int) by omega),k9,k10,h10,beq_self_eq_true,Ae,AN,q1,q2,q3,q4,q5,bne_self_eq_false,Nat.le_refl,LI (x:=⟨s.now,x⟩),List.map_append,List.map_nil,Out.enc]
end Ab
set_option linter.unusedVariables false
set_option linter.unusedSimpArgs false
set_option maxRecDepth 100000
namespace Ab
open Go
theorem nx2_26 (n:Nat) (again:List AV×Heap→Option (List Tree)) (g:Gh) (s:Ses) (e:List AV) (o:Option Int) :
  XS n (fI C n) again (e,H26 E0 E0 E0 g s (boO o))=again (Er o,H26 E0 E0 E0 g s []):=by
 cases o<;>simp only [XS,boO,Er,H26,A2,vv2,vf,reduceCtorEq,Nat.reduceAdd,Nat.reduceEqDiff,Option.getD_none,Option.getD_some,Option.isSome_none,Option.isSome_some]
theorem nx3_26 (n:Nat) (again:List AV×Heap→Option (List Tree)) (g:Gh) (s:Ses) (e:List AV) (o:Option Int) (tl:Heap) (w:Bool) :
  NC n (fI C n) (e,H26 E0 E0 E0 g s tl) again ([.t (.bool w)],H26 E0 E0 E0 g s (boO o))=again (Er (DG o (if w=true then some s.snd.due else none)),H26 E0 E0 E0 g s []):=by
 have k:=nx2_26 n again g s []
 cases w
 ·cases o with
  |none=>
   have k:=k none
   simp only [boO,Option.getD_none,Option.isSome_none,H26] at k
   simp only [NC,boO,H26,A2,vv2,vf,reduceCtorEq,Nat.reduceAdd,Nat.reduceEqDiff,Option.getD_none,Option.getD_some,Option.isSome_none,Option.isSome_some,Ae,k,DG]
  |some a=>
   have k:=k (some a)
   simp only [boO,Option.getD_some,Option.isSome_some,H26] at k
   simp only [NC,boO,H26,A2,vv2,vf,reduceCtorEq,Nat.reduceAdd,Nat.reduceEqDiff,Option.getD_none,Option.getD_some,Option.isSome_none,Option.isSome_some,Ae,k,DG]
 ·cases o with
  |none=>
   have k:=k (some s.snd.due)
   simp only [boO,Option.getD_some,Option.isSome_some,H26] at k
   simp only [NC,boO,H26,A2,vv2,vf,reduceCtorEq,Nat.reduceAdd,Nat.reduceEqDiff,Option.getD_none,Option.getD_some,Option.isSome_none,Option.isSome_some,Ae,k,DG]
  |some a=>
   by_cases hq:s.snd.due<a
   ·have k:=k (some s.snd.due)
    simp only [boO,Option.getD_some,Option.isSome_some,H26] at k
    simp only [NC,boO,H26,A2,vv2,vf,reduceCtorEq,Nat.reduceAdd,Nat.reduceEqDiff,Option.getD_none,Option.getD_some,Option.isSome_none,Option.isSome_some,Ae,k,DG,hq]
   ·have k:=k (some a)
    simp only [boO,Option.getD_some,Option.isSome_some,H26] at k
    simp only [NC,boO,H26,A2,vv2,vf,reduceCtorEq,Nat.reduceAdd,Nat.reduceEqDiff,Option.getD_none,Option.getD_some,Option.isSome_none,Option.isSome_some,Ae,k,DG,hq]
theorem nx4_26 (n:Nat) (again:List AV×Heap→Option (List Tree)) (g:Gh) (s:Ses) (e:List AV) (o:Option Int) (he:s.entered<10000) :
  UL n (fI C n) again (e,H26 E0 E0 E0 g s (boO o))=again (Er (DG o (if s.snd.st=1 then some s.snd.due else none)),H26 E0 E0 E0 g s []):=by
 have q:¬(10000:Int)≤s.entered:=by omega
 have k:=nx3_26 n again g s e o (boO o)
 by_cases h:s.snd.st=1
 ·have k:=k true
  simp only [boO,H26] at k
  simp only [UL,boO,H26,A2,vv2,vf,reduceCtorEq,Nat.reduceAdd,Nat.reduceEqDiff,h,beq_self_eq_true,q,k]
 ·have k:=k false
  have h':(s.snd.st==1)=false:=by simpa using h
  simp only [boO,H26] at k
  simp only [UL,boO,H26,A2,vv2,vf,reduceCtorEq,Nat.reduceAdd,Nat.reduceEqDiff,h,h',k]
theorem nx5_26 (g:Gh) (s:Ses) (e:List AV) (o:Option Int) (he:s.entered<10000) (hr:CW s.rep) :
  Ev fun n=>∀again,OX n (fI C n) again (e,H26 E0 E0 E0 g s (boO o))=again (Er (DG (DG o (BK s.rep)) (if s.snd.st=1 then some s.snd.due else none)),H26 E0 E0 E0 g s []):=by
 refine (Gw s.rep hr).mono fun n h again => ?_
 have k:=fun o=>nx4_26 n again g s [] o he
 simp only [CC.enc] at h
 cases hn:BK s.rep with
 |none=>
  have k:=k o
  rw [hn] at h
  simp only [Fc] at h
  simp only [boO,H26] at k
  simp only [OX,boO,H26,A2,vv2,vf,reduceCtorEq,Nat.reduceAdd,Nat.reduceEqDiff,h,k]
  cases o<;>rfl
 |some a=>
  rw [hn] at h
  simp only [Fc] at h
  cases o with
  |none=>
   have k:=k (some a)
   simp only [boO,H26,Option.getD_some,Option.isSome_some] at k
   simp only [OX,boO,H26,A2,vv2,vf,reduceCtorEq,Nat.reduceAdd,Nat.reduceEqDiff,Option.getD_none,Option.isSome_none,h,k,DG]
  |some b=>
   by_cases hq:a<b
   ·have k:=k (some a)
    simp only [boO,H26,Option.getD_some,Option.isSome_some] at k
    simp only [OX,boO,H26,A2,vv2,vf,reduceCtorEq,Nat.reduceAdd,Nat.reduceEqDiff,Option.getD_some,Option.isSome_some,h,k,DG,hq]
   ·have k:=k (some b)
    simp only [boO,H26,Option.getD_some,Option.isSome_some] at k
    simp only [OX,boO,H26,A2,vv2,vf,reduceCtorEq,Nat.reduceAdd,Nat.reduceEqDiff,Option.getD_some,Option.isSome_some,h,k,DG,hq]
theorem nx6_26 (g:Gh) (s:Ses) (e:List AV) (o:Option Int) (he:s.entered<10000) (hd:CW s.dat) (hr:CW s.rep) :
  Ev fun n=>∀again,OW n (fI C n) again (e,H26 E0 E0 E0 g s (boO o))=again (Er (DG (DG (DG o (BK s.dat)) (BK s.rep)) (if s.snd.st=1 then some s.snd.due else none)),H26 E0 E0 E0 g s []):=by
 have key:=fun o=>nx5_26 g s [] o he hr
 cases hn:BK s.dat with
 |none=>
  refine ((Gw s.dat hd).and (key o)).mono fun n h again => ?_
  obtain ⟨h,k⟩:=h
  have k:=k again
  simp only [CC.enc,hn,Fc] at h
  simp only [boO,H26] at k
  simp only [OW,boO,H26,A2,vv2,vf,reduceCtorEq,Nat.reduceAdd,Nat.reduceEqDiff,h,k]
  cases o<;>rfl
 |some a=>
  cases o with
  |none=>
   refine ((Gw s.dat hd).and (key (some a))).mono fun n h again => ?_
   obtain ⟨h,k⟩:=h
   have k:=k again
   simp only [CC.enc,hn,Fc] at h
   simp only [boO,H26,Option.getD_some,Option.isSome_some] at k
   simp only [OW,boO,H26,A2,vv2,vf,reduceCtorEq,Nat.reduceAdd,Nat.reduceEqDiff,Option.getD_none,Option.isSome_none,h,k,DG]
  |some b=>
   by_cases hq:a<b
   ·refine ((Gw s.dat hd).and (key (some a))).mono fun n h again => ?_
    obtain ⟨h,k⟩:=h
    have k:=k again
    simp only [CC.enc,hn,Fc] at h
    simp only [boO,H26,Option.getD_some,Option.isSome_some] at k
    simp only [OW,boO,H26,A2,vv2,vf,reduceCtorEq,Nat.reduceAdd,Nat.reduceEqDiff,Option.getD_some,Option.isSome_some,h,k,DG,hq]
   ·refine ((Gw s.dat hd).and (key (some b))).mono fun n h again => ?_
    obtain ⟨h,k⟩:=h
    have k:=k again
    simp only [CC.enc,hn,Fc] at h
    simp only [boO,H26,Option.getD_some,Option.isSome_some] at k
    simp only [OW,boO,H26,A2,vv2,vf,reduceCtorEq,Nat.reduceAdd,Nat.reduceEqDiff,Option.getD_some,Option.isSome_some,h,k,DG,hq]
theorem nx_26 (g:Gh) (s:Ses) (f1 f2 f3:AG) (he:s.entered<10000) (hd:CW s.dat) (hr:CW s.rep) :
  Ev fun n=>∀again,UP n (fI C n) again ([.ptr 7 0],H26 f1 f2 f3 g s [])=again (Er (nxS s),H26 E0 E0 E0 g s []):=by
 have q:¬(10000:Int)≤s.entered:=by omega
 have key:=nx6_26 g s [] (s.pend.head?.map (·.at_)) he hd hr
 refine key.mono fun n k again => ?_
 have k:=k again
 have e1:∀(o:Out) (l:List Out),s.pend=o::l→(g.pre++List.map Out.enc s.pend)[g.pre.length]? = some o.enc:=by
  intro o l h
  rw [List.getElem?_append_right (Nat.le_refl _),h]
  simp
 unfold nxS
 cases hp:s.pend with
 |nil=>
  simp only [hp,List.head?_nil,Option.map_none,boO,H26,Option.getD_none,Option.isSome_none,List.map_nil] at k
  simp only [Vi,UF,XO,H26,hp,List.map_nil,A2,vv2,vf,reduceCtorEq,Nat.reduceAdd,Nat.reduceEqDiff,q,Int.lt_irrefl,Int.natCast_zero,k,List.head?_nil,Option.map_none]
 |cons o l=>
  have e1:=e1 o l hp
  simp only [hp] at e1
  simp only [hp,List.head?_cons,Option.map_some,boO,H26,Option.getD_some,Option.isSome_some] at k
  simp only [Vi,UF,XO,J26_1,H26,hp,A2,vv2,vf,reduceCtorEq,Nat.reduceAdd,Nat.reduceEqDiff,q,(show (0:Int)<((l.length+1:Nat):Int) by omega),e1,Out.enc,k,List.head?_cons,Option.map_some,Int.le_refl]
end Ab
set_option linter.unusedVariables false
set_option linter.unusedSimpArgs false
set_option maxRecDepth 100000
namespace Ab
open Go
theorem ex_26 (g:Gh) (s:Ses) (f1 f2 f3:AG) (he:s.entered<10000) (ha:s.snd.acked.length≤100) (hl:s.pend.length≤1000000)
  (hw:s.snd.st=1→s.snd.due=s.now→(C5 s.snd s.now).2.2=0∧(C5 s.snd s.now).2.1.length≤1000000) :
  Ev fun n=>∀again,Xf n (fI C n) again ([.ptr 7 0],H26 f1 f2 f3 g s [])=again ([],H26 E0 E0 E0 (exG g s) (exS s) []):=by
 have q:¬(10000:Int)≤s.entered:=by omega
 by_cases h1:s.snd.st=1
 ·by_cases h2:s.snd.due=s.now
  ·obtain ⟨w1,w2⟩:=hw h1 h2
   have e1:exS s={s with snd:=(C5 s.snd s.now).1,pend:=s.pend++(C5 s.snd s.now).2.1}:=by simp only [exS,h1,h2,and_self,if_true]
   have e2:exG g s={g with v0:=g.v0+1,pre:=[]}:=by simp only [exG,h1,h2,and_self,if_true]
   rw [e1,e2]
   refine (s149 s.snd s.now ha).mono fun n h again => ?_
   simp only [Ds,w1,Snd.enc,List.cons_append,List.nil_append,h1,h2] at h
   generalize C5 s.snd s.now=w at h w1 w2 ⊢
   obtain ⟨a,o,e⟩:=w
   simp only at h w1 w2 ⊢
   have q2:¬g.pre.length+s.pend.length<g.pre.length+s.pend.length:=by omega
   have q3:s.pend.length+o.length≤1073741824:=by omega
   have q4:List.take s.pend.length (List.map Out.enc s.pend)=List.map Out.enc s.pend:=List.take_of_length_le (by simp)
   simp only [Ro,Rf,UK,UJ,H26,A2,vv2,vf,reduceCtorEq,Nat.reduceAdd,Nat.reduceEqDiff,h1,h2,h,q,beq_self_eq_true,bne_self_eq_false,List.length_append,q2,q3,q4,Ix,List.drop_left,List.map_append,Nat.le_refl,List.nil_append]
  ·have h2':(s.snd.due != s.now)=true:=by simpa using h2
   have e1:exS s=s:=by simp only [exS,h2,and_false,if_false]
   have e2:exG g s=g:=by simp only [exG,h2,and_false,if_false]
   rw [e1,e2]
   refine Ev.of fun n again => ?_
   simp only [Ro,Rf,UK,UJ,H26,A2,vv2,vf,reduceCtorEq,Nat.reduceAdd,Nat.reduceEqDiff,h1,h2',q,beq_self_eq_true]
 ·have h1':(s.snd.st==1)=false:=by simpa using h1
  have e1:exS s=s:=by simp only [exS,h1,false_and,if_false]
  have e2:exG g s=g:=by simp only [exG,h1,false_and,if_false]
  rw [e1,e2]
  refine Ev.of fun n again => ?_
  simp only [Ro,Rf,UK,UJ,H26,A2,vv2,vf,reduceCtorEq,Nat.reduceAdd,Nat.reduceEqDiff,h1']
def J3 (q:Gh×Ses):Rd (Gh×Ses) (Gh×Ses):=
 match q.2.pend with
 |[]=>.done q
 |o::l=>if o.at_=q.2.now then .next ({q.1 with v4:=q.1.v4+1,pre:=q.1.pre++[o.enc]},{Cv q.2 o.seg with pend:=l}) else .done q
theorem tx_26 (g:Gh) (s:Ses) (f1 f2 f3:AG) (hb:Bud s.pend.length s) :
  Ev fun n=>∀again,Xa n (fI C n) again ([.ptr 7 0],H26 f1 f2 f3 g s [])=again ([],H26 E0 E0 E0 (txT s.pend.length (g,s)).1 (txS s.pend.length s) []):=by
 have key:=DF (R:=List Tree) (Z:=List AV×Heap→Option (List Tree)) (Q:=Gh×Ses)
  (B:=fun n z p again=>NA n (fI C n) ([.ptr 7 0],H26 f1 f2 f3 g s []) z p again)
  (s:=(([],H26 E0 E0 E0 g s []):List AV×Heap)) (r:=txT s.pend.length (g,s))
  (fun z q=>z ([],H26 E0 E0 E0 q.1 q.2 [])) (fun q:Gh×Ses=>(([],H26 E0 E0 E0 q.1 q.2 []):List AV×Heap)) J3 (fun q=>Bud q.2.pend.length q.2) (fun q=>q.2.pend.length) (fun q=>txT q.2.pend.length q) (g,s) rfl hb rfl
  (fun q hI => ?_) (fun q q' hI hs => ?_) (fun q hI => ?_)
 ·refine key.mono fun n h again => ?_
  have h:=h again
  rw [TA] at h
  simp only [H26] at h
  simp only [tC26_7,XE,H26,A2,h]
 ·obtain ⟨g1,s1⟩:=q
  simp only at hI ⊢
  have e1:∀(o:Out) (l:List Out),s1.pend=o::l→(g1.pre++List.map Out.enc s1.pend)[g1.pre.length]? = some o.enc:=by
   intro o l h
   rw [List.getElem?_append_right (Nat.le_refl _),h]
   simp
  cases hp:s1.pend with
  |nil=>
   refine Ev.of fun n z again => ?_
   simp only [J3,NA,Pc,H26,hp,A2,vv2,vf,reduceCtorEq,Nat.reduceAdd,Nat.reduceEqDiff,Int.natCast_zero,Int.lt_irrefl,Rd.BR,List.map_nil]
  |cons o l=>
   have e1:=e1 o l hp
   by_cases ho:o.at_=s1.now
   ·rw [hp] at hI
    have k:=entD_26 g1 s1 o.seg (.row true (AG.ver f1) 15 (Bk f1)) (.row true (AG.ver f2) 4 (Bk f2)) (.row true (AG.ver f3) 4 (Bk f3)) (Bud.eD hI)
    refine k.mono fun n h z again => ?_
    simp only [DA,H26] at h
    have h2:=fun again=>h again
    have ep:(Cv s1 o.seg).pend=o::l:=hp
    have q1:(1:Int)≤((l.length+1:Nat):Int):=by omega
    have q2:=ucP_26 {g1 with v4:=g1.v4+1} (Cv s1 o.seg) o l ep
    rw [ep] at q2
    simp only [List.length_cons,Nat.add_sub_cancel] at q2
    have e2:(g1.pre++List.map Out.enc (o::l))[g1.pre.length]? = some [tI s1.now,tI o.seg.kind,tI o.seg.ses,tI o.seg.ser,tI o.seg.off,tI o.seg.tot,.bool o.seg.chk,.str o.seg.data,.sl 2 (o.seg.AX.map Span.enc)]:=by
     rw [hp] at e1
     rw [e1,← ho]
     rfl
    simp only [ep,hp] at h2
    simp only [J3,NA,Pc,XR,H26,hp,ep,ho,A2,vv2,vf,reduceCtorEq,Nat.reduceAdd,Nat.reduceEqDiff,(show (0:Int)<((l.length+1:Nat):Int) by omega),Int.le_refl,e2,beq_self_eq_true,Rd.Ax,h2,q1,Nat.add_sub_cancel,q2,(show (0:Int)≤1 by omega)]
    simp only [List.map_cons,List.append_assoc,List.cons_append,List.nil_append]
   ·have ho':(o.at_==s1.now)=false:=by simpa using ho
    refine Ev.of fun n z again => ?_
    have e2:(g1.pre++List.map Out.enc (o::l))[g1.pre.length]? = some [tI o.at_,tI o.seg.kind,tI o.seg.ses,tI o.seg.ser,tI o.seg.off,tI o.seg.tot,.bool o.seg.chk,.str o.seg.data,.sl 2 (o.seg.AX.map Span.enc)]:=by
     rw [hp] at e1
     rw [e1]
     rfl
    simp only [J3,NA,Pc,H26,hp,ho,ho',A2,vv2,vf,reduceCtorEq,Nat.reduceAdd,Nat.reduceEqDiff,(show (0:Int)<((l.length+1:Nat):Int) by omega),Int.le_refl,e2,Rd.BR]
 ·obtain ⟨g1,s1⟩:=q
  unfold J3 at hs
  simp only at hI hs ⊢
  cases hp:s1.pend with
  |nil=>rw [hp] at hs;cases hs
  |cons o l=>
   rw [hp] at hs hI
   simp only at hs
   split at hs
   ·cases hs
    refine ⟨?_,by simp⟩
    exact (Bud.Cv hI o.seg).of rfl rfl rfl rfl rfl rfl rfl rfl
   ·cases hs
 ·obtain ⟨g1,s1⟩:=q
  unfold J3
  simp only
  cases hp:s1.pend with
  |nil=>simp [txT,Rd.fin]
  |cons o l=>
   simp only [List.length_cons,txT,hp]
   split
   ·rfl
   ·simp [Rd.fin,txT,hp, *]
end Ab
set_option linter.unusedVariables false
set_option linter.unusedSimpArgs false
set_option maxRecDepth 100000
namespace Ab
open Go
def A1 (g:Gh) (s:Ses) (v:Nat) (o:Option Seg):List AV×Heap:=([.rptr 8 v 0 0,.t (.bool o.isSome)],H26 E0 E0 E0 g s [.row false v 8 [(o.getD Iu).enc]])
theorem Vf (g:Gh) (s:Ses) (v:Nat) (y:Seg) (hr:CW s.rep) :
  Ev fun n=>∀again e1 hp,NF n (fI C n) ((.rptr 8 v 0 0::e1),hp) again ([],H26 E0 E0 E0 g s [.row false v 8 [y.enc]])=again (A1 g (C7 s).1 (v+1) (C7 s).2):=by
 cases hf:s.rep.frames with
 |nil=>
  have hn:BK s.rep=none:=by simp [BK,hf]
  rw [show C7 s=(s,none) by simp only [C7,hf]]
  refine (Gw s.rep hr).mono fun n h again e1 hp => ?_
  rw [hn] at h
  simp only [CC.enc,Fc] at h
  simp only [A1,NF,Pg,H26,A2,vv2,vf,reduceCtorEq,Nat.reduceAdd,Nat.reduceEqDiff,List.getElem?_cons_zero,Seg.enc,h,Option.isSome_none,Option.getD_none,Iu,List.map_nil,List.set_cons_zero,List.drop_succ_cons,List.drop_nil,List.append_nil,Nat.le_refl]
 |cons f l=>
  have hn:BK s.rep=some f.arr:=by simp [BK,hf]
  by_cases ha:f.arr=s.now
  ·rw [show C7 s=(BZ s,some f.seg) by simp only [C7,hf,ha,if_true]]
   refine ((Gw s.rep hr).and (s158 s.rep hr f l hf)).mono fun n h again e1 hp => ?_
   obtain ⟨h,h2⟩:=h
   rw [hn,ha] at h
   simp only [CC.enc,Fc] at h h2
   have hx:BZ s={s with rep:=⟨s.rep.rng,l,s.rep.sent,s.rep.lost⟩}:=by simp only [BZ,hf,List.tail_cons]
   simp only [hx,A1,NF,Pg,H26,A2,vv2,vf,reduceCtorEq,Nat.reduceAdd,Nat.reduceEqDiff,List.getElem?_cons_zero,Seg.enc,h,h2,bne_self_eq_false,Option.isSome_some,Option.getD_some,List.set_cons_zero,List.drop_succ_cons,List.drop_nil,List.append_nil,Nat.le_refl]
  ·have ha':(f.arr != s.now)=true:=by simpa using ha
   rw [show C7 s=(s,none) by simp only [C7,hf,ha,if_false]]
   refine (Gw s.rep hr).mono fun n h again e1 hp => ?_
   rw [hn] at h
   simp only [CC.enc,Fc] at h
   simp only [ha',A1,NF,Pg,H26,A2,vv2,vf,reduceCtorEq,Nat.reduceAdd,Nat.reduceEqDiff,List.getElem?_cons_zero,Seg.enc,h,Option.isSome_none,Option.getD_none,Iu,List.map_nil,List.set_cons_zero,List.drop_succ_cons,List.drop_nil,List.append_nil,Nat.le_refl]
theorem hr_26 (g:Gh) (s:Ses) (v:Nat) (x:Seg) (hr:CW s.rep) (ha:s.snd.acked.length≤100∧s.pend.length≤1000000) (hx:x.AX.length≤100∨1000<x.AX.length)
  (hw:¬s.now<s.snd.busy→(Bb s.snd s.now x).2.2=0∧(Bb s.snd s.now x).2.1.length≤1000000) :
  Ev fun n=>∀z again,Ep n (fI C n) z (A1 g s v (some x)) again=again (A1 (lsG g s) (C7 (lsX s x)).1 (v+1) (C7 (lsX s x)).2):=by
 by_cases hb:s.now<s.snd.busy
 ·have e1:lsX s x=s:=by simp only [lsX,hb,if_true]
  have e2:lsG g s=g:=by simp only [lsG,hb,if_true]
  rw [e1,e2]
  refine (Vf g s v x hr).mono fun n h z again => ?_
  simp only [H26] at h
  have hb':decide (s.now<s.snd.busy)=true:=decide_eq_true hb
  simp only [A1,H26,Option.isSome_some,Option.getD_some] at h ⊢
  simp only [Ep,H26,A2,vv2,vf,reduceCtorEq,Nat.reduceAdd,Nat.reduceEqDiff,hb,Iv,HJ,h]
 ·obtain ⟨w1,w2⟩:=hw hb
  have e2:lsG g s=gP g:=by simp only [lsG,hb,if_false]
  have hx2:lsX s x=lsF {s with snd:=(Bb s.snd s.now x).1,pend:=s.pend++(Bb s.snd s.now x).2.1}:=by simp only [lsX,hb,if_false]
  rw [e2]
  have key:=fun s' (hs:s'.rep=s.rep)=>Vf (gP g) s' v x (by rw [hs];exact hr)
  have q2:¬g.pre.length+s.pend.length<g.pre.length+s.pend.length:=by omega
  have q4:List.take s.pend.length (List.map Out.enc s.pend)=List.map Out.enc s.pend:=List.take_of_length_le (by simp)
  have h148:=s148 s.snd s.now x ha.1 hx
  simp only [Ds,w1,Snd.enc,Seg.enc,List.cons_append,List.nil_append] at h148
  rw [hx2]
  generalize Bb s.snd s.now x=w at h148 w1 w2 ⊢
  obtain ⟨a,o,e⟩:=w
  simp only at h148 w1 w2 ⊢
  have q3:s.pend.length+o.length≤1073741824:=by omega
  by_cases hk:s.kno=false∧a.st=2
  ·have e3:lsF {s with snd:=a,pend:=s.pend++o}={s with snd:=a,pend:=s.pend++o,kno:=true,knoAt:=s.now}:=by simp only [lsF,hk,and_self,if_true]
   rw [e3]
   refine (h148.and (key {s with snd:=a,pend:=s.pend++o,kno:=true,knoAt:=s.now} rfl)).mono fun n h z again => ?_
   obtain ⟨h,h2⟩:=h
   simp only [H26,gP,List.map_append,List.nil_append] at h2
   have hk1:(!s.kno)=true:=by simp [hk.1]
   have hk2:(a.st==2)=true:=by simp [hk.2]
   simp only [A1,H26,Option.isSome_some,Option.getD_some,gP,List.map_append,List.nil_append]
   simp only [A1,H26,Option.isSome_some,Option.getD_some,gP,List.map_append,List.nil_append,Seg.enc] at h2
   simp only [Ep,H26,A2,vv2,vf,reduceCtorEq,Nat.reduceAdd,Nat.reduceEqDiff,hb,hk1,hk2,Seg.enc,List.getElem?_cons_zero,h,bne_self_eq_false,beq_self_eq_true,List.length_append,q2,q3,q4,List.drop_left,Nat.le_refl,Lc,h2]
  ·have e3:lsF {s with snd:=a,pend:=s.pend++o}={s with snd:=a,pend:=s.pend++o}:=by simp only [lsF,hk,if_false]
   rw [e3]
   refine (h148.and (key {s with snd:=a,pend:=s.pend++o} rfl)).mono fun n h z again => ?_
   obtain ⟨h,h2⟩:=h
   simp only [H26,gP,List.map_append,List.nil_append] at h2
   simp only [A1,H26,Option.isSome_some,Option.getD_some,gP,List.map_append,List.nil_append]
   simp only [A1,H26,Option.isSome_some,Option.getD_some,gP,List.map_append,List.nil_append,Seg.enc] at h2
   rcases Bool.eq_false_or_eq_true s.kno with hk0|hk0
   ·have hk1:(!s.kno)=false:=by simp [hk0]
    simp only [Ep,H26,A2,vv2,vf,reduceCtorEq,Nat.reduceAdd,Nat.reduceEqDiff,hb,hk1,Seg.enc,List.getElem?_cons_zero,h,bne_self_eq_false,beq_self_eq_true,List.length_append,q2,q3,q4,List.drop_left,Nat.le_refl,Ix,h2]
   ·have hk1:(!s.kno)=true:=by simp [hk0]
    have hk2:(a.st==2)=false:=by simpa using fun h=>hk ⟨hk0,h⟩
    simp only [Ep,H26,A2,vv2,vf,reduceCtorEq,Nat.reduceAdd,Nat.reduceEqDiff,hb,hk1,hk2,Seg.enc,List.getElem?_cons_zero,h,bne_self_eq_false,beq_self_eq_true,List.length_append,q2,q3,q4,List.drop_left,Nat.le_refl,Ix,h2]
theorem l16_26:Ep=Ep:=rfl
theorem lp_26 {P:Ses→Prop} (hP:LsP P) (q:LS) (h:q.inv P) :
  Ev fun n=>∀z,AJ (fun p again=>Ep n (fI C n) z p again) n (A1 q.g q.s q.v q.o)=z ([],H26 E0 E0 E0 q.res.1 q.res.2 []):=by
 refine DF (R:=List Tree) (Z:=List AV×Heap→Option (List Tree)) (Q:=Gh×Ses) (B:=fun n z p again=>Ep n (fI C n) z p again) (r:=q.res)
  (fun z r=>z ([],H26 E0 E0 E0 r.1 r.2 [])) (fun q:LS=>A1 q.g q.s q.v q.o) LS.step (LS.inv P) (fun q=>q.s.rep.frames.length+(if q.o.isSome then 1 else 0)) LS.res q rfl h rfl
  (fun q hI => ?_) (fun q q' hI hs=>LS.sound hP q q' hI hs) (fun q hI=>LS.fin hP q hI)
 obtain ⟨g,s,v,o⟩:=q
 cases o with
 |none=>
  refine Ev.of fun n z again => ?_
  simp only [A1,Option.isSome_none,Ep,H26,A2,vv2,vf,reduceCtorEq,Nat.reduceAdd,Nat.reduceEqDiff,LS.step,Rd.BR]
 |some x=>
  obtain ⟨h1,h2,h3,h4,h5⟩:=hI
  refine (hr_26 g s v x h1 h2 h3 h4).mono fun n h z again => ?_
  simp only [LS.step,Rd.Ax]
  exact h z again
theorem ls_26 {P:Ses→Prop} (hP:LsP P) (g:Gh) (s:Ses) (f1 f2 f3:AG) (h:P s) :
  Ev fun n=>∀again,Xe n (fI C n) again ([.ptr 7 0],H26 f1 f2 f3 g s [])=again ([],H26 E0 E0 E0 (lsT s.rep.frames.length (g,s)).1 (lsS s.rep.frames.length s) []):=by
 have hr:=hP.rep s h
 obtain ⟨i1,i2⟩:=LS.take hP h g 0
 have key:=lp_26 hP _ i1
 rw [i2,Tl] at key
 simp only at key
 cases hf:s.rep.frames with
 |nil=>
  have hn:BK s.rep=none:=by simp [BK,hf]
  have e:C7 s=(s,none):=by simp only [C7,hf]
  rw [e] at key
  rw [hf] at key
  refine ((Gw s.rep hr).and key).mono fun n h again => ?_
  obtain ⟨h,k⟩:=h
  rw [hn] at h
  simp only [CC.enc,Fc] at h
  have k:=k again
  simp only [A1,H26,Option.isSome_none,Option.getD_none,Iu,Seg.enc,List.map_nil] at k
  simp only [Rn,Re,Pf,H26,A2,vv2,vf,reduceCtorEq,Nat.reduceAdd,Nat.reduceEqDiff,h,k]
 |cons f l=>
  have hn:BK s.rep=some f.arr:=by simp [BK,hf]
  by_cases ha:f.arr=s.now
  ·have e:C7 s=(BZ s,some f.seg):=by simp only [C7,hf,ha,if_true]
   rw [e] at key
   rw [hf] at key
   refine ((Gw s.rep hr).and ((s158 s.rep hr f l hf).and key)).mono fun n h again => ?_
   obtain ⟨h,h2,k⟩:=h
   rw [hn,ha] at h
   simp only [CC.enc,Fc] at h h2
   have hx:BZ s={s with rep:=⟨s.rep.rng,l,s.rep.sent,s.rep.lost⟩}:=by simp only [BZ,hf,List.tail_cons]
   have k:=k again
   simp only [A1,H26,Option.isSome_some,Option.getD_some,Seg.enc,hx] at k
   simp only [Rn,Re,Pf,l16_26,H26,A2,vv2,vf,reduceCtorEq,Nat.reduceAdd,Nat.reduceEqDiff,h,h2,bne_self_eq_false,k]
  ·have ha':(f.arr != s.now)=true:=by simpa using ha
   have e:C7 s=(s,none):=by simp only [C7,hf,ha,if_false]
   rw [e] at key
   rw [hf] at key
   refine ((Gw s.rep hr).and key).mono fun n h again => ?_
   obtain ⟨h,k⟩:=h
   rw [hn] at h
   simp only [CC.enc,Fc] at h
   have k:=k again
   simp only [A1,H26,Option.isSome_none,Option.getD_none,Iu,Seg.enc,List.map_nil] at k
   simp only [Rn,Re,Pf,H26,A2,vv2,vf,reduceCtorEq,Nat.reduceAdd,Nat.reduceEqDiff,h,ha',k]
end Ab
set_option linter.unusedVariables false
set_option linter.unusedSimpArgs false
set_option maxRecDepth 100000
namespace Ab
open Go
theorem tkD_26 (g:Gh) (s:Ses) (v:Nat) (y:Seg) (hr:CW s.dat) :
  Ev fun n=>∀again e1 hp,ND n (fI C n) ((.rptr 8 v 0 0::e1),hp) again ([],H26 E0 E0 E0 g s [.row false v 8 [y.enc]])=again (A1 g (C8 s).1 (v+1) (C8 s).2):=by
 cases hf:s.dat.frames with
 |nil=>
  have hn:BK s.dat=none:=by simp [BK,hf]
  rw [show C8 s=(s,none) by simp only [C8,hf]]
  refine (Gw s.dat hr).mono fun n h again e1 hp => ?_
  rw [hn] at h
  simp only [CC.enc,Fc] at h
  simp only [A1,ND,Pe,H26,A2,vv2,vf,reduceCtorEq,Nat.reduceAdd,Nat.reduceEqDiff,List.getElem?_cons_zero,Seg.enc,h,Option.isSome_none,Option.getD_none,Iu,List.map_nil,List.set_cons_zero,List.drop_succ_cons,List.drop_nil,List.append_nil,Nat.le_refl]
 |cons f l=>
  have hn:BK s.dat=some f.arr:=by simp [BK,hf]
  by_cases ha:f.arr=s.now
  ·rw [show C8 s=(BJ s,some f.seg) by simp only [C8,hf,ha,if_true]]
   refine ((Gw s.dat hr).and (s158 s.dat hr f l hf)).mono fun n h again e1 hp => ?_
   obtain ⟨h,h2⟩:=h
   rw [hn,ha] at h
   simp only [CC.enc,Fc] at h h2
   have hx:BJ s={s with dat:=⟨s.dat.rng,l,s.dat.sent,s.dat.lost⟩}:=by simp only [BJ,hf,List.tail_cons]
   simp only [hx,A1,ND,Pe,H26,A2,vv2,vf,reduceCtorEq,Nat.reduceAdd,Nat.reduceEqDiff,List.getElem?_cons_zero,Seg.enc,h,h2,bne_self_eq_false,Option.isSome_some,Option.getD_some,List.set_cons_zero,List.drop_succ_cons,List.drop_nil,List.append_nil,Nat.le_refl]
  ·have ha':(f.arr != s.now)=true:=by simpa using ha
   rw [show C8 s=(s,none) by simp only [C8,hf,ha,if_false]]
   refine (Gw s.dat hr).mono fun n h again e1 hp => ?_
   rw [hn] at h
   simp only [CC.enc,Fc] at h
   simp only [ha',A1,ND,Pe,H26,A2,vv2,vf,reduceCtorEq,Nat.reduceAdd,Nat.reduceEqDiff,List.getElem?_cons_zero,Seg.enc,h,Option.isSome_none,Option.getD_none,Iu,List.map_nil,List.set_cons_zero,List.drop_succ_cons,List.drop_nil,List.append_nil,Nat.le_refl]
theorem rp_26 (g:Gh) (s:Ses) (v:Nat) (x:Seg) (r:Rcv) (l:List Seg) (y:List Tree) (hy:gL y 4=l.map Seg.enc) (f1 f2 f3:AG) (e00:List AV) (g00:Gh) (s00:Ses) (hb:Bud l.length s) :
  Ev fun n=>∀z,AJ (fun p again=>Im n (fI C n) y (e00,H26 f1 f2 f3 g00 s00 []) z p again) n ([.t (tI 0)],H26 E0 E0 E0 g s [.row false v 8 [x.enc],QJ r])=z ([],H26 E0 E0 E0 {g with v5:=g.v5+l.length} (rxF (l.foldl Cy s)) [.row false v 8 [x.enc]]):=by
 have key:=MI (R:=List Tree) (Z:=List AV×Heap→Option (List Tree)) (Q:=Gh×Ses) (B:=fun n z p again=>Im n (fI C n) y (e00,H26 f1 f2 f3 g00 s00 []) z p again)
  (s:=(([.t (tI 0)],H26 E0 E0 E0 g s [.row false v 8 [x.enc],QJ r]):List AV×Heap)) (r:=({g with v5:=g.v5+l.length},l.foldl Cy s)) l
  (fun i (q:Gh×Ses)=>(([.t (tI i)],H26 E0 E0 E0 q.1 q.2 [.row false v 8 [x.enc],QJ r]):List AV×Heap)) (fun _ q y =>.next ({q.1 with v5:=q.1.v5+1},Cy q.2 y)) (fun q=>q)
  (fun z q=>z ([],H26 E0 E0 E0 q.1 (rxF q.2) [.row false v 8 [x.enc]])) (fun i q=>Bud (l.length-i) q.2) (g,s) rfl hb ?_
  (fun i q w hx hI => ?_) (fun i q w q' hx hI hs => ?_) (fun q hI => ?_)
 ·exact key
 ·rw [Fm,Wc]
 ·have hi:=Ap hx
  obtain ⟨g1,s1⟩:=q
  have hI':Bud (l.length-(i+1)+1) s1:=by
   have:l.length-(i+1)+1=l.length-i:=by omega
   rw [this];exact hI
  have k:=entR_26 g1 s1 w (.row true (AG.ver f1) 15 (Bk f1)) (.row true (AG.ver f2) 4 (Bk f2)) (.row true (AG.ver f3) 4 (Bk f3)) hI'.eR v [x.enc] r.ses r.tot (r.known.map Span.enc) r.data w
  refine k.mono fun n h z again => ?_
  have h:=fun again=>h again
  simp only [DA,H26] at h
  simp only [Im,Su,QJ,H26,hy,A2,vv2,vf,reduceCtorEq,Nat.reduceAdd,Nat.reduceEqDiff,hx,Seg.enc,(show (i:Int)<(l.length:Int) by omega),BV (show i<4611686018427387904 by have:=hb.ent;omega),Rd.Ax,Iv,HJ]
  simp only [Seg.enc] at h
  simp only [h,Su,A2,vv2,vf,reduceCtorEq,Nat.reduceAdd,Nat.reduceEqDiff,BV (show i<4611686018427387904 by have:=hb.ent;omega)]
 ·cases hs
  have hi:=Ap hx
  have:l.length-i=l.length-(i+1)+1:=by omega
  rw [this] at hI
  exact hI.Cy w
 ·obtain ⟨g1,s1⟩:=q
  rcases Bool.eq_false_or_eq_true s1.rcvd with hr|hr
  ·have hr1:(!s1.rcvd)=false:=by simp [hr]
   have e:rxF s1=s1:=by simp only [rxF,hr,Bool.true_eq_false,false_and,if_false]
   rw [e]
   refine Ev.of fun n z again => ?_
   simp only [Im,QJ,H26,hy,A2,vv2,vf,reduceCtorEq,Nat.reduceAdd,Nat.reduceEqDiff,Int.lt_irrefl,hr1]
  ·have hr1:(!s1.rcvd)=true:=by simp [hr]
   refine (s147 s1.rcv).mono fun n h z again => ?_
   simp only [Rcv.enc] at h
   rcases Bool.eq_false_or_eq_true (A3 s1.rcv) with hc|hc
   ·have e:rxF s1={s1 with rcvd:=true,arrive:=s1.now}:=by simp only [rxF,hr,hc,and_self,if_true]
    rw [e]
    simp only [Im,QJ,H26,hy,A2,vv2,vf,reduceCtorEq,Nat.reduceAdd,Nat.reduceEqDiff,Int.lt_irrefl,hr1,h,hc]
   ·have e:rxF s1=s1:=by simp only [rxF,hc,Bool.false_eq_true,and_false,if_false]
    rw [e]
    simp only [Im,QJ,H26,hy,A2,vv2,vf,reduceCtorEq,Nat.reduceAdd,Nat.reduceEqDiff,Int.lt_irrefl,hr1,h,hc]
theorem hd_26 (g:Gh) (s:Ses) (v:Nat) (x:Seg) (f1 f2 f3:AG) (e00:List AV) (g00:Gh) (s00:Ses) (hd:CW s.dat) (hw:(Ez s.rcv x).2.2=0) (hb:Bud (Ez s.rcv x).2.1.length s) :
  Ev fun n=>∀z again,GR n (fI C n) (e00,H26 f1 f2 f3 g00 s00 []) z (A1 g s v (some x)) again=again (A1 (rxG g s x) (C8 (rxX s x)).1 (v+1) (C8 (rxX s x)).2):=by
 have key:=tkD_26 (rxG g s x) (rxX s x) v x (by rw [FQ];exact hd)
 have k146:=s146 s.rcv x
 unfold rxG rxX rxH at key ⊢
 generalize Ez s.rcv x=w at hw hb k146 key ⊢
 obtain ⟨a,l,e⟩:=w
 simp only at hw hb key ⊢
 subst hw
 have kl:=rp_26 g {s with rcv:=a} v x a l [tI a.ses,tI a.tot,.sl 2 (a.known.map Span.enc),.str a.data,.sl 8 (l.map Seg.enc),tI 0] rfl f1 f2 f3 e00 g00 s00 (hb.of rfl rfl rfl rfl rfl rfl rfl rfl)
 simp only [hearT,Rcv.enc,Seg.enc,List.cons_append,List.nil_append] at k146
 refine (k146.and (kl.and key)).mono fun n h z again => ?_
 obtain ⟨h,h2,h3⟩:=h
 have h3:=fun e1 hp=>h3 again e1 hp
 simp only [A1,H26,Option.isSome_some,Option.getD_some,QJ,Seg.enc] at h2 h3 ⊢
 simp only [GR,H26,A2,vv2,vf,reduceCtorEq,Nat.reduceAdd,Nat.reduceEqDiff,Iv,HJ,List.getElem?_cons_zero,h,bne_self_eq_false,h2,h3]
theorem l32_26:GR=GR:=rfl
theorem dp_26 {P:Ses→Prop} (hP:RxP P) (q:RS) (h:q.inv P) (f1 f2 f3:AG) (e00:List AV) (g00:Gh) (s00:Ses) :
  Ev fun n=>∀z,AJ (fun p again=>GR n (fI C n) (e00,H26 f1 f2 f3 g00 s00 []) z p again) n (A1 q.g q.s q.v q.o)=z ([],H26 E0 E0 E0 q.res.1 q.res.2 []):=by
 refine DF (R:=List Tree) (Z:=List AV×Heap→Option (List Tree)) (Q:=Gh×Ses) (B:=fun n z p again=>GR n (fI C n) (e00,H26 f1 f2 f3 g00 s00 []) z p again) (r:=q.res)
  (fun z r=>z ([],H26 E0 E0 E0 r.1 r.2 [])) (fun q:RS=>A1 q.g q.s q.v q.o) RS.step (RS.inv P) (fun q=>q.s.dat.frames.length+(if q.o.isSome then 1 else 0)) RS.res q rfl h rfl
  (fun q hI => ?_) (fun q q' hI hs=>RS.sound hP q q' hI hs) (fun q hI=>RS.fin hP q hI)
 obtain ⟨g,s,v,o⟩:=q
 cases o with
 |none=>
  refine Ev.of fun n z again => ?_
  simp only [A1,Option.isSome_none,GR,H26,A2,vv2,vf,reduceCtorEq,Nat.reduceAdd,Nat.reduceEqDiff,RS.step,Rd.BR]
 |some x=>
  obtain ⟨h1,h2,h3,h4⟩:=hI
  refine (hd_26 g s v x f1 f2 f3 e00 g00 s00 h1 h2 h3).mono fun n h z again => ?_
  simp only [RS.step,Rd.Ax]
  exact h z again
theorem rx_26 {P:Ses→Prop} (hP:RxP P) (g:Gh) (s:Ses) (f1 f2 f3:AG) (h:P s) :
  Ev fun n=>∀again,Xc n (fI C n) again ([.ptr 7 0],H26 f1 f2 f3 g s [])=again ([],H26 E0 E0 E0 (rxT s.dat.frames.length (g,s)).1 (rxS s.dat.frames.length s) []):=by
 have hr:=hP.dat s h
 obtain ⟨i1,i2⟩:=RS.take hP h g 0
 have key:=dp_26 hP _ i1 f1 f2 f3 [.ptr 7 0] g s
 rw [i2,TM] at key
 simp only at key
 cases hf:s.dat.frames with
 |nil=>
  have hn:BK s.dat=none:=by simp [BK,hf]
  have e:C8 s=(s,none):=by simp only [C8,hf]
  rw [e] at key
  rw [hf] at key
  refine ((Gw s.dat hr).and key).mono fun n h again => ?_
  obtain ⟨h,k⟩:=h
  rw [hn] at h
  simp only [CC.enc,Fc] at h
  have k:=k again
  simp only [A1,H26,Option.isSome_none,Option.getD_none,Iu,Seg.enc,List.map_nil] at k
  simp only [Rm,Rc,Pd,H26,A2,vv2,vf,reduceCtorEq,Nat.reduceAdd,Nat.reduceEqDiff,h,k]
 |cons f l=>
  have hn:BK s.dat=some f.arr:=by simp [BK,hf]
  by_cases ha:f.arr=s.now
  ·have e:C8 s=(BJ s,some f.seg):=by simp only [C8,hf,ha,if_true]
   rw [e] at key
   rw [hf] at key
   refine ((Gw s.dat hr).and ((s158 s.dat hr f l hf).and key)).mono fun n h again => ?_
   obtain ⟨h,h2,k⟩:=h
   rw [hn,ha] at h
   simp only [CC.enc,Fc] at h h2
   have hx:BJ s={s with dat:=⟨s.dat.rng,l,s.dat.sent,s.dat.lost⟩}:=by simp only [BJ,hf,List.tail_cons]
   have k:=k again
   simp only [A1,H26,Option.isSome_some,Option.getD_some,Seg.enc,hx] at k
   simp only [Rm,Rc,Pd,l32_26,H26,A2,vv2,vf,reduceCtorEq,Nat.reduceAdd,Nat.reduceEqDiff,h,h2,bne_self_eq_false,k]
  ·have ha':(f.arr != s.now)=true:=by simpa using ha
   have e:C8 s=(s,none):=by simp only [C8,hf,ha,if_false]
   rw [e] at key
   rw [hf] at key
   refine ((Gw s.dat hr).and key).mono fun n h again => ?_
   obtain ⟨h,k⟩:=h
   rw [hn] at h
   simp only [CC.enc,Fc] at h
   have k:=k again
   simp only [A1,H26,Option.isSome_none,Option.getD_none,Iu,Seg.enc,List.map_nil] at k
   simp only [Rm,Rc,Pd,H26,A2,vv2,vf,reduceCtorEq,Nat.reduceAdd,Nat.reduceEqDiff,h,ha',k]
end Ab
set_option linter.unusedVariables false
set_option linter.unusedSimpArgs false
set_option maxRecDepth 100000
namespace Ab
open Go
theorem stp_26 {W P1 P2:Ses→Prop} {μ:Ses→Nat} (hR:XG W P1 P2 μ) (g:Gh) (s:Ses) (t:Int) (h:W s) (ht:nxS s=some t) (f1 f2 f3:AG) (e00:List AV) (g00:Gh) (s00:Ses) :
  Ev fun n=>∀z again,M9 n (fI C n) (e00,H26 f1 f2 f3 g00 s00 []) z (Er (nxS s),H26 E0 E0 E0 g s []) again=again (Er (nxS (stS s t)),H26 E0 E0 E0 (stT (g,s) t).1 (stS s t) []):=by
 have k0:=tx_26 g {s with now:=t} (.row true (AG.ver f1) 15 (Bk f1)) (.row true (AG.ver f2) 4 (Bk f2)) (.row true (AG.ver f3) 4 (Bk f3)) (hR.tx s t h ht)
 have k1:=rx_26 hR.rx (g1T g s t) (ph1 s t) (.row true (AG.ver f1) 15 (Bk f1)) (.row true (AG.ver f2) 4 (Bk f2)) (.row true (AG.ver f3) 4 (Bk f3)) (hR.p1 s t h ht)
 have k2:=ls_26 hR.ls (g2T g s t) (ph2 s t) (.row true (AG.ver f1) 15 (Bk f1)) (.row true (AG.ver f2) 4 (Bk f2)) (.row true (AG.ver f3) 4 (Bk f3)) (hR.p2 s t h ht)
 have hx:=hR.ex s t h ht
 have k3:=ex_26 (g3T g s t) (ph3 s t) (.row true (AG.ver f1) 15 (Bk f1)) (.row true (AG.ver f2) 4 (Bk f2)) (.row true (AG.ver f3) 4 (Bk f3)) hx.ent hx.ack hx.pl hx.w
 obtain ⟨n1,n2,n3⟩:=hR.nx _ (hR.st s t h ht).1
 have k4:=nx_26 (exG (g3T g s t) (ph3 s t)) (stS s t) (.row true (AG.ver f1) 15 (Bk f1)) (.row true (AG.ver f2) 4 (Bk f2)) (.row true (AG.ver f3) 4 (Bk f3)) n1 n2 n3
 refine (k0.and (k1.and (k2.and (k3.and (k4.and (Ev.ge 5)))))).mono fun n hh z again => ?_
 obtain ⟨k0,k1,k2,k3,k4,hn⟩:=hh
 have q:AJ (fun p again'=>Il n (fI C n) (e00,H26 f1 f2 f3 g00 s00 []) again p again') n ([.t (tI 0)],H26 E0 E0 E0 g {s with now:=t} [])=again (Er (nxS (stS s t)),H26 E0 E0 E0 (exG (g3T g s t) (ph3 s t)) (stS s t) []):=by
  refine SC _ _ ([.t (tI 1)],H26 E0 E0 E0 (g1T g s t) (ph1 s t) []) ([.t (tI 2)],H26 E0 E0 E0 (g2T g s t) (ph2 s t) []) ([.t (tI 3)],H26 E0 E0 E0 (g3T g s t) (ph3 s t) []) ([.t (tI 4)],H26 E0 E0 E0 (exG (g3T g s t) (ph3 s t)) (stS s t) []) _ n hn (fun ag => ?_) (fun ag => ?_) (fun ag => ?_) (fun ag => ?_) (fun ag => ?_)
  ·have k0:=fun ag=>k0 ag
   simp only [H26] at k0
   simp only [Il,HX,H26,A2,vv2,vf,reduceCtorEq,Nat.reduceAdd,Nat.reduceEqDiff,(show ¬(0:Int)=((3:Nat):Int) by omega),(show ¬(0:Int)=((2:Nat):Int) by omega),(show ¬(0:Int)=((1:Nat):Int) by omega),(show (0:Int)=((0:Nat):Int) by omega),(show (0:Int)<4 by omega),(show (0:Int)≤0 by omega),k0]
   rfl
  ·have k1:=fun ag=>k1 ag
   simp only [H26] at k1
   simp only [Il,HX,H26,A2,vv2,vf,reduceCtorEq,Nat.reduceAdd,Nat.reduceEqDiff,(show ¬(1:Int)=((3:Nat):Int) by omega),(show ¬(1:Int)=((2:Nat):Int) by omega),(show (1:Int)=((1:Nat):Int) by omega),(show (1:Int)<4 by omega),(show (0:Int)≤1 by omega),k1]
   rfl
  ·have k2:=fun ag=>k2 ag
   simp only [H26] at k2
   simp only [Il,HX,H26,A2,vv2,vf,reduceCtorEq,Nat.reduceAdd,Nat.reduceEqDiff,(show ¬(2:Int)=((3:Nat):Int) by omega),(show (2:Int)=((2:Nat):Int) by omega),(show (2:Int)<4 by omega),(show (0:Int)≤2 by omega),k2]
   rfl
  ·have k3:=fun ag=>k3 ag
   simp only [H26] at k3
   simp only [Il,HX,H26,A2,vv2,vf,reduceCtorEq,Nat.reduceAdd,Nat.reduceEqDiff,(show (3:Int)=((3:Nat):Int) by omega),(show (3:Int)<4 by omega),(show (0:Int)≤3 by omega),k3]
   rfl
  ·have k4:=fun ag=>k4 ag
   simp only [H26] at k4
   simp only [Il,XQ,H26,A2,vv2,vf,reduceCtorEq,Nat.reduceAdd,Nat.reduceEqDiff,(show ¬(4:Int)<4 by omega),k4,Er]
 rw [ht]
 simp only [H26] at q
 simp only [M9,Er,Option.getD_some,Option.isSome_some,H26,A2,vv2,vf,reduceCtorEq,Nat.reduceAdd,Nat.reduceEqDiff]
 exact q
theorem rn_26 {W P1 P2:Ses→Prop} {μ:Ses→Nat} (hR:XG W P1 P2 μ) (g:Gh) (s:Ses) (f1 f2 f3:AG) (h:W s) :
  Ev fun n=>∀again,UO n (fI C n) again ([.ptr 7 0],H26 f1 f2 f3 g s [])=again ([],H26 E0 E0 E0 (rnT (μ s) (g,s)).1 (IP (μ s) s) []):=by
 have key:=DF (R:=List Tree) (Z:=List AV×Heap→Option (List Tree)) (Q:=Gh×Ses) (B:=fun n z p again=>M9 n (fI C n) ([.ptr 7 0],H26 f1 f2 f3 g s []) z p again)
  (s:=((Er (nxS s),H26 E0 E0 E0 g s []):List AV×Heap)) (r:=rnT (μ s) (g,s))
  (fun z r=>z ([],H26 E0 E0 E0 r.1 r.2 [])) (fun q:Gh×Ses=>((Er (nxS q.2),H26 E0 E0 E0 q.1 q.2 []):List AV×Heap)) (fun q=>match nxS q.2 with
   |none =>.done q
   |some t =>.next (stT q t)) (fun q=>W q.2) (fun q=>μ q.2) (fun q=>rnT (μ q.2) q) (g,s) rfl h rfl
  (fun q hI => ?_) (fun q q' hI hs => ?_) (fun q hI => ?_)
 ·obtain ⟨n1,n2,n3⟩:=hR.nx s h
  have k4:=nx_26 g s (.row true (AG.ver f1) 15 (Bk f1)) (.row true (AG.ver f2) 4 (Bk f2)) (.row true (AG.ver f3) 4 (Bk f3)) n1 n2 n3
  refine (key.and k4).mono fun n hh again => ?_
  obtain ⟨k,k4⟩:=hh
  have k:=k again
  rw [TW] at k
  simp only [H26,Er] at k k4
  simp only [tC26_8,XD,XP,H26,A2,vv2,vf,reduceCtorEq,Nat.reduceAdd,Nat.reduceEqDiff,k4,k]
 ·obtain ⟨g1,s1⟩:=q
  simp only at hI ⊢
  cases hn:nxS s1 with
  |none=>
   refine Ev.of fun n z again => ?_
   simp only [M9,Er,Option.getD_none,Option.isSome_none,H26,A2,vv2,vf,reduceCtorEq,Nat.reduceAdd,Nat.reduceEqDiff,Rd.BR]
  |some t=>
   have:=stp_26 hR g1 s1 t hI hn f1 f2 f3 [.ptr 7 0] g s
   rw [hn] at this
   refine this.mono fun n h z again => ?_
   simp only [Rd.Ax]
   exact h z again
 ·cases hn:nxS q.2 with
  |none=>rw [hn] at hs;cases hs
  |some t=>
   rw [hn] at hs
   cases hs
   exact hR.st q.2 t hI hn
 ·cases hn:nxS q.2 with
  |none=>
   cases hm:μ q.2 with
   |zero=>rfl
   |succ m=>simp only [rnT,hn,Rd.fin]
  |some t=>
   obtain ⟨h1,h2⟩:=hR.st q.2 t hI hn
   simp only [Rd.fin]
   cases hm:μ q.2 with
   |zero=>omega
   |succ m=>
    simp only [rnT,hn]
    exact IQ hR m (stT q t) h1 (by simp only [stT];omega)
end Ab
set_option linter.unusedVariables false
set_option linter.unusedSimpArgs false
set_option maxRecDepth 100000
namespace Ab
open Go
theorem s26 {W P1 P2:Ses→Prop} {μ:Ses→Nat} (hR:XG W P1 P2 μ) (c:Con) (b e:Int) (d:ByteArray) (ps:List Int) (lim:Int) (dk:List Span) (hW:PA c b e d ps lim dk=0→W (ini c b e d ps lim dk)) (hL:PA c b e d ps lim dk=0→ -9223372036854775808≤(IP (μ (ini c b e d ps lim dk)) (ini c b e d ps lim dk)).dat.lost+(IP (μ (ini c b e d ps lim dk)) (ini c b e d ps lim dk)).rep.lost∧(IP (μ (ini c b e d ps lim dk)) (ini c b e d ps lim dk)).dat.lost+(IP (μ (ini c b e d ps lim dk)) (ini c b e d ps lim dk)).rep.lost<9223372036854775808) :
  AP C 26 (Gj c b e d ps lim dk) (if PA c b e d ps lim dk=0 then Ox (IP (μ (ini c b e d ps lim dk)) (ini c b e d ps lim dk)) else [.bool false,tI 0,.bool false,tI 0,tI 0,tI 0,tI 0,tI (PA c b e d ps lim dk)]):=by
 unfold Gj PA at *
 refine AP.of (fun n=>e26 n _ _ _ _ _ _ _ _ _ _ _ _ _) ?_
 by_cases h1:1000<ps.length
 ·refine Ev.of fun n => ?_
  simp only [h1,vv2,vf,reduceCtorEq,Nat.reduceAdd,Nat.reduceEqDiff,(show (1000:Int)<(ps.length:Int) by omega),(show ¬(4:Int)=0 by omega)]
 ·have h1':¬(1000:Int)<(ps.length:Int):=by omega
  by_cases h2:lim < -1
  ·refine Ev.of fun n => ?_
   simp only [h1,h1',h2,vv2,vf,reduceCtorEq,Nat.reduceAdd,Nat.reduceEqDiff,(show ¬(2:Int)=0 by omega)]
  ·by_cases h3:BB dk=0
   ·by_cases h4:(A7 c 0 d b e).2.2=0
    ·have hr:=UT h4
     simp only [h1,h2,h3,h4,if_false,ne_eq,not_true_eq_false,if_true] at hW hL ⊢
     have hL:=hL trivial
     have kr:=rn_26 hR ⟨0,0,0,[]⟩ (ini c b e d ps lim dk) (.row true 0 15 [(ini c b e d ps lim dk).snd.enc]) (.row true 0 4 [[tI c.rng,.sl 10 [],tI 0,tI 0]]) (.row true 0 4 [[tI 0,tI (-1),.sl 2 [],.str (ByteArray.mk #[])]]) (hW trivial)
     refine ((s67 dk).and ((P5 c 0 d b e).and ((s69 c.rng hr).and ((s70 0).and kr)))).mono fun n hh => ?_
     obtain ⟨k1,k2,k3,k4,kr⟩:=hh
     have k4':newR 0=(⟨0,-1,[],ByteArray.mk #[]⟩,0):=rfl
     rw [k4'] at k4
     simp only [Ds,h4,Con.enc,Snd.enc,Rcv.enc,List.cons_append,List.nil_append,List.map_nil] at k2 k4
     simp only [h1',h2,h3,k1,k2,k3,k4,vv2,vf,reduceCtorEq,Nat.reduceAdd,Nat.reduceEqDiff,bne_self_eq_false]
     refine (kr _).trans ?_
     generalize IP (μ (ini c b e d ps lim dk)) (ini c b e d ps lim dk)=fs at hL ⊢
     generalize (rnT (μ (ini c b e d ps lim dk)) (⟨0,0,0,[]⟩,ini c b e d ps lim dk)).1=g
     simp only [Ss,Ox,H26,A2,vv2,vf,reduceCtorEq,Nat.reduceAdd,Nat.reduceEqDiff,AS hL.1 hL.2]
    ·have h4':((A7 c 0 d b e).2.2 != 0)=true:=by simpa using h4
     refine ((s67 dk).and (P5 c 0 d b e)).mono fun n hh => ?_
     obtain ⟨k1,k2⟩:=hh
     simp only [Ds,Con.enc,Snd.enc,List.cons_append,List.nil_append] at k2
     simp only [h1,h1',h2,h3,h4,k1,k2,h4',vv2,vf,reduceCtorEq,Nat.reduceAdd,Nat.reduceEqDiff,bne_self_eq_false,ne_eq,not_true_eq_false]
   ·have h3':(BB dk != 0)=true:=by simpa using h3
    refine (s67 dk).mono fun n k1 => ?_
    simp only [h1,h1',h2,h3,k1,h3',vv2,vf,reduceCtorEq,Nat.reduceAdd,Nat.reduceEqDiff,ne_eq,not_false_eq_true,(show ¬(1:Int)=0 by omega)]
end Ab
set_option maxRecDepth 100000
set_option linter.unusedVariables false
namespace Ab
open Go Go.Proofs
theorem e13 (n:Nat) (a0:Int) (a1:Int) (a2:Int) (a3:Int) (a4:Int) (a5:Int) (a6:Int) (a7:Int) (a8:Int) (a9:ByteArray) (a10:List (List Tree)) (a11:Int) (a12:List (List Tree)):AA C (n+1) 13 [tI a0,tI a1,tI a2,tI a3,tI a4,tI a5,tI a6,tI a7,tI a8,Tree.str a9,Tree.sl 1 a10,tI a11,Tree.sl 2 a12]=
 Option.bind (AA C n 26 [tI a0,tI a1,tI a2,tI a3,tI a4,tI a5,tI a6,tI a7,tI a8,Tree.str a9,Tree.sl 1 a10,tI a11,Tree.sl 2 a12]) fun y13=>cnd (List.length y13 =
 (8:Nat)) (cnd (okB y13 0) (cnd (okI y13 1) (cnd (okB y13 2) (cnd (okI y13 3) (cnd (okI y13 4) (cnd (okI y13 5) (cnd (okI y13 6) (cnd (okI y13 7) (some [Tree.bool (gB y13 0),tI (gI y13 1),Tree.bool
 (gB y13 2),tI (gI y13 3),tI (gI y13 4),tI (gI y13 5),tI (gI y13 6),tI (gI y13 7)]) none) none) none) none) none) none) none) none) none:=by kernel_rfl
end Ab
set_option linter.unusedVariables false
set_option linter.unusedSimpArgs false
set_option maxRecDepth 100000
namespace Ab
open Go
def PK (r:Int):Int:=if (if 1048576<r then 1048576 else r)>0 then (if 1048576<r then 1048576 else r) else 0
def O8 (p:Par):Bool:=decide (120<p.d.size∨(60<p.ps.length∧p.ps.length≤1000)∨20<p.dk.length∨p.e>w64 (p.b+w64 (40*w64 (w64 (2*PK p.c.rng)+1))))
def FN (p:Par):List Tree:=Gj p.c p.b p.e p.d p.ps p.lim p.dk
def Fu (p:Par):Int:=PA p.c p.b p.e p.d p.ps p.lim p.dk
theorem s11 (p:Par):AP C 11 (FN p) [.bool (O8 p)]:=by
 unfold FN Gj
 refine AP.of (fun n=>e11 n _ _ _ _ _ _ _ _ _ _ _ _ _) (Ev.of fun n => ?_)
 unfold O8
 simp only [List.length_map]
 have e:(if (if (1048576:Int)<p.c.rng then (1048576:Int) else p.c.rng)>(0:Int) then (if (1048576:Int)<p.c.rng then (1048576:Int) else p.c.rng) else (0:Int))=PK p.c.rng:=rfl
 rw [e]
 by_cases h1:120<p.d.size
 ·simp only [vv,vf,reduceCtorEq,Nat.reduceAdd,Nat.reduceEqDiff,h1,(show (p.d.size:Int)>120 by omega)]
 ·by_cases h2:60<p.ps.length
  ·by_cases h3:p.ps.length≤1000
   ·simp only [vv,vf,reduceCtorEq,Nat.reduceAdd,Nat.reduceEqDiff,h1,h2,h3,(show ¬(120:Int)<(p.d.size:Int) by omega),(show (60:Int)<(p.ps.length:Int) by omega),(show (p.ps.length:Int)≤1000 by omega)]
   ·by_cases h4:20<p.dk.length
    ·simp only [vv,vf,reduceCtorEq,Nat.reduceAdd,Nat.reduceEqDiff,h1,h2,h3,h4,(show ¬(120:Int)<(p.d.size:Int) by omega),(show (60:Int)<(p.ps.length:Int) by omega),(show ¬(p.ps.length:Int)≤1000 by omega),(show (20:Int)<(p.dk.length:Int) by omega)]
    ·simp only [vv,vf,reduceCtorEq,Nat.reduceAdd,Nat.reduceEqDiff,h1,h2,h3,h4,(show ¬(120:Int)<(p.d.size:Int) by omega),(show (60:Int)<(p.ps.length:Int) by omega),(show ¬(p.ps.length:Int)≤1000 by omega),(show ¬(20:Int)<(p.dk.length:Int) by omega)]
  ·by_cases h4:20<p.dk.length
   ·simp only [vv,vf,reduceCtorEq,Nat.reduceAdd,Nat.reduceEqDiff,h1,h2,h4,(show ¬(120:Int)<(p.d.size:Int) by omega),(show ¬(60:Int)<(p.ps.length:Int) by omega),(show (20:Int)<(p.dk.length:Int) by omega)]
   ·simp only [vv,vf,reduceCtorEq,Nat.reduceAdd,Nat.reduceEqDiff,h1,h2,h4,(show ¬(120:Int)<(p.d.size:Int) by omega),(show ¬(60:Int)<(p.ps.length:Int) by omega),(show ¬(20:Int)<(p.dk.length:Int) by omega)]
def L9 (p:Par):List Tree:=if Fu p=0 then Ox (Bj p) else [.bool false,tI 0,.bool false,tI 0,tI 0,tI 0,tI 0,tI (Fu p)]
theorem FJ {p:Par} (h:Fu p=0):p.ps.length≤1000∧ -1≤p.lim∧BB p.dk=0∧(A7 p.c 0 p.d p.b p.e).2.2=0:=by
 unfold Fu PA at h
 split at h
 ·omega
 ·split at h
  ·omega
  ·split at h
   ·omega
   ·rename_i h1 h2 h3
    exact ⟨by omega,by omega,by omega,h⟩
theorem Q1 {p:Par} (hp:POk p) (h:Fu p=0):0≤(Bj p).dat.lost∧0≤(Bj p).rep.lost∧(Bj p).dat.lost+(Bj p).rep.lost≤(Bj p).entered∧(Bj p).entered≤5000:=by
 have hw:=(KO hp (FJ h).2.2.2).2.1.i
 have:=hw.gd.lost;have:=hw.gr.lost;have:=hw.c1;have:=hw.small hp
 omega
theorem s26P (p:Par) (hp:Fu p=0→POk p):AP C 26 (FN p) (L9 p):=by
 by_cases h:Fu p=0
 ·have hok:=hp h
  have hl:=Q1 hok h
  have:=s26 (runP hok) p.c p.b p.e p.d p.ps p.lim p.dk (fun _=>Wa hok (FJ h).2.2.2) (fun _=>by show _≤(Bj p).dat.lost+(Bj p).rep.lost∧(Bj p).dat.lost+(Bj p).rep.lost<_;omega)
  exact this
 ·have h0:¬PA p.c p.b p.e p.d p.ps p.lim p.dk=0:=h
  have:=s26 (W:=fun _=>False) (P1:=fun _=>False) (P2:=fun _=>False) (μ:=fun _=>0) ⟨⟨fun _ h=>h.elim,fun _ _ _ h=>h.elim⟩,⟨fun _ h=>h.elim,fun _ h=>h.elim,fun _ _ _ h=>h.elim⟩,fun _ h=>h.elim,fun _ _ h=>h.elim,fun _ _ h=>h.elim,fun _ _ h=>h.elim,fun _ _ h=>h.elim,fun _ _ h=>h.elim⟩ p.c p.b p.e p.d p.ps p.lim p.dk (fun q=>(h0 q).elim) (fun q=>(h0 q).elim)
  rw [if_neg h0] at this
  unfold L9
  rw [if_neg h]
  exact this
theorem s13P (p:Par) (hp:Fu p=0→POk p):AP C 13 (FN p) (L9 p):=by
 have k:=s26P p hp
 by_cases h0:Fu p=0
 ·have e:L9 p=Ox (Bj p):=if_pos h0
  rw [e] at k ⊢
  unfold Ox at k ⊢
  unfold FN Gj at k ⊢
  refine AP.of (fun n=>e13 n _ _ _ _ _ _ _ _ _ _ _ _ _) ?_
  refine k.mono fun n h => ?_
  simp only [Con.enc,List.cons_append,List.nil_append] at h
  simp only [h,vv,vf,reduceCtorEq,Nat.reduceAdd,Nat.reduceEqDiff]
 ·have e:L9 p=[.bool false,tI 0,.bool false,tI 0,tI 0,tI 0,tI 0,tI (Fu p)]:=if_neg h0
  rw [e] at k ⊢
  unfold FN Gj at k ⊢
  refine AP.of (fun n=>e13 n _ _ _ _ _ _ _ _ _ _ _ _ _) ?_
  refine k.mono fun n h => ?_
  simp only [Con.enc,List.cons_append,List.nil_append] at h
  simp only [h,vv,vf,reduceCtorEq,Nat.reduceAdd,Nat.reduceEqDiff]
theorem Ov {p:Par} (hg:O8 p=false) (hpk:∀x∈p.ps,-9223372036854775808≤x∧x≤9223372036854775807) (h:Fu p=0):POk p:=by
 obtain ⟨h1,h2,h3,h4⟩:=FJ h
 have hg:=of_decide_eq_false hg
 have hS:=h4
 unfold A7 at hS
 split at hS
 ·simp [Cu] at hS
 rename_i g1
 have g1:Ee p.c=0:=by simpa using g1
 rw [if_neg (by omega)] at hS
 split at hS
 ·simp [Cu] at hS
 rw [if_neg (by omega)] at hS
 split at hS
 ·simp [Cu] at hS
 rename_i g2 g3
 obtain ⟨c1,c2⟩:=Dp g1
 unfold F0 at c1
 have hcl:PK p.c.rng=p.c.rng:=by
  have e:(if (1048576:Int)<p.c.rng then (1048576:Int) else p.c.rng)=p.c.rng:=if_neg (by omega)
  unfold PK
  rw [e,if_pos (by omega)]
 rw [hcl,AS (x:=2*p.c.rng) (by omega) (by omega),AS (x:=2*p.c.rng+1) (by omega) (by omega),AS (x:=40*(2*p.c.rng+1)) (by omega) (by omega),AS (x:=p.b+40*(2*p.c.rng+1)) (by omega) (by omega)] at hg
 refine ⟨g1,by omega,by omega,hpk,h1,fun k k1 k2 =>.inl ?_⟩
 have hk:k≤40:=by
  refine Classical.byContradiction fun q => ?_
  have:40*(2*p.c.rng+1)≤(k-1)*(2*p.c.rng+1):=Int.mul_le_mul_of_nonneg_right (by omega) (by omega)
  omega
 have:((p.d.size:Int)+1)*k≤121*k:=Int.mul_le_mul_of_nonneg_right (by omega) (by omega)
 omega
end Ab
set_option linter.unusedVariables false
set_option linter.unusedSimpArgs false
set_option maxRecDepth 100000
namespace Ab
open Go
def exC:Con:=⟨0,1,10,60,4,5,1⟩
def exD:ByteArray:=⟨(Go.Lib.repeatL [120] 20).toArray⟩
def ex1:Par:=⟨exC,10,36,exD,[],-1,[]⟩
def ex2:Par:=⟨exC,10,36,exD,[7,0,0,0,0,0],1,[]⟩
def ex3:Par:=⟨exC,10,36,exD,[0,0,7,0,0,0],1,[]⟩
theorem ex1_out:L9 ex1=[.bool true,tI 24,.bool true,tI 29,tI 19,tI 3,tI 0,tI 0]:=by kernel_rfl
theorem ex2_out:L9 ex2=[.bool true,tI 40,.bool true,tI 45,tI 35,tI 5,tI 1,tI 0]:=by kernel_rfl
theorem ex3_out:L9 ex3=[.bool true,tI 24,.bool true,tI 43,tI 33,tI 5,tI 1,tI 0]:=by kernel_rfl
theorem SO:(∀h:Fu ex1=0,POk ex1)∧(∀h:Fu ex2=0,POk ex2)∧(∀h:Fu ex3=0,POk ex3):=
 ⟨Ov (by decide +kernel) (by decide),Ov (by decide +kernel) (by decide),Ov (by decide +kernel) (by decide)⟩
theorem s25x:AP C 25 [.str (ByteArray.mk #[120]),tI 20] [.str exD]:=AP.of (g:=fun _=>some [.str exD]) (fun n=>by kernel_rfl) (Ev.of fun _=>rfl)
theorem fin_now {p:Par} (hp:POk p) (h:Fu p=0):0≤(Bj p).now∧(Bj p).now≤p.e+4*p.c.rng+2:=by
 obtain ⟨f1,f2,f3⟩:=KO hp (FJ h).2.2.2
 have hr:=hp.rng
 refine ⟨f2.i.now,f1.ind (fun s=>s.now≤p.e+4*p.c.rng+2) (by show (0:Int)≤_;omega) fun s s' k m => ?_⟩
 cases m with
 |time t q1 q2 q3 q4 q5 q6=>exact (Wt.nx hp ⟨q1,q2,q3,q4,q5⟩ q6).2
 |tx o l q1 q2 q3=>exact k
 |rx f l q1 q2 q3 q4=>rw [(q1.P8 hp q3 q4).now];exact k
 |ls _ f l q1 q2 q3 q4 q5 q6=>cases q6<;>exact k
 |ex _ q1 q2 q3 q4 q5=>cases q5<;>exact k
theorem s12:AP C 12 [] [.bool true]:=by
 refine AP.of (fun n=>e12 n) ?_
 have a:=s26P ex1 SO.1
 have b:=s26P ex2 SO.2.1
 have c:=s26P ex3 SO.2.2
 rw [ex1_out] at a
 rw [ex2_out] at b
 rw [ex3_out] at c
 refine (s25x.and (a.and (b.and c))).mono fun n h => ?_
 obtain ⟨h1,h2,h3,h4⟩:=h
 simp only [FN,Gj,ex1,ex2,ex3,exC,Con.enc,Cz,List.map_nil,List.map_cons,List.cons_append,List.nil_append] at h2 h3 h4
 simp only [h1,h2,h3,h4,vv,vf,reduceCtorEq,Nat.reduceAdd,Nat.reduceEqDiff,J12_1,J12_2,beq_self_eq_true,Bool.and_self]
theorem s4 (p:Par) (hpk:∀x∈p.ps,-9223372036854775808≤x∧x≤9223372036854775807):AP C 4 (FN p) [.bool true]:=by
 have k11:=s11 p
 cases hg:O8 p with
 |true=>
  rw [hg] at k11
  unfold FN Gj at k11 ⊢
  refine AP.of (fun n=>e4 n _ _ _ _ _ _ _ _ _ _ _ _ _) ?_
  refine (k11.and s12).mono fun n h => ?_
  obtain ⟨h1,h2⟩:=h
  simp only [Con.enc,List.cons_append,List.nil_append] at h1
  simp only [h1,h2,vv,vf,reduceCtorEq,Nat.reduceAdd,Nat.reduceEqDiff]
 |false=>
  rw [hg] at k11
  have hp:=Ov hg hpk
  have k13:=s13P p hp
  by_cases h0:Fu p=0
  ·have hok:=hp h0
   have hS:=(FJ h0).2.2.2
   have e:L9 p=Ox (Bj p):=if_pos h0
   rw [e] at k13
   unfold Ox at k13
   unfold FN Gj at k11 k13 ⊢
   refine AP.of (fun n=>e4 n _ _ _ _ _ _ _ _ _ _ _ _ _) ?_
   refine (k11.and (k13.and s12)).mono fun n h => ?_
   obtain ⟨h1,h2,h3⟩:=h
   simp only [Con.enc,List.cons_append,List.nil_append] at h1 h2
   obtain ⟨kt,kk⟩:=knw_fin hok hS
   have hl:=Q1 hok h0
   have hw:=(KO hok hS).2.1
   have hr:=hok.rng
   have hbig:(Bj p).rcvd=true→p.b+p.c.rng<(Bj p).arrive:=fun q=>by
    obtain ⟨_,t,k1,k2⟩:=kk.k4 q
    have:=(kk.k1 t k1).1
    omega
   have harr:(Bj p).rcvd=true→(Bj p).arrive≤(Bj p).now:=fun q=>by
    obtain ⟨_,t,k1,k2⟩:=kk.k4 q
    have:=(kk.k1 t k1).2
    omega
   have hnow:(Bj p).now≤8796093022208:=by have:=fin_now hok h0;omega
   have hq:(Bj p).dat.lost=0→(Bj p).rep.lost=0→(Bj p).rcvd=true∧(Bj p).kno=true:=fun z1 z2=>⟨(q_fin hok hS z1 z2).rc,(q_fin hok hS z1 z2).kn⟩
   have k5:=kk.k5;have k6:=kk.k6;have k7:=kk.k7
   have w1:w64 (p.b+p.c.rng)=p.b+p.c.rng:=AS (by omega) (by omega)
   cases hrc:(Bj p).rcvd with
   |false=>
    have hkn:(Bj p).kno=false:=by
     cases hk:(Bj p).kno with
     |false=>rfl
     |true=>rw [(k7 hk).1] at hrc;cases hrc
    have hlost:(Bj p).dat.lost+(Bj p).rep.lost>0:=by
     refine Classical.byContradiction fun q => ?_
     have:=(hq (by omega) (by omega)).1
     rw [hrc] at this;cases this
    rw [hrc,hkn,k5 hrc,k6 hkn] at h2
    simp only [h1,h2,h3,vv,vf,reduceCtorEq,Nat.reduceAdd,Nat.reduceEqDiff,Js,Js,hlost,bne_self_eq_false]
   |true=>
    have w2:w64 ((Bj p).arrive+p.c.rng)=(Bj p).arrive+p.c.rng:=by
     have:=hbig hrc;have:=harr hrc
     exact AS (by omega) (by omega)
    have hb:=hbig hrc
    cases hkn:(Bj p).kno with
    |false=>
     have hlost:(Bj p).dat.lost+(Bj p).rep.lost>0:=by
      refine Classical.byContradiction fun q => ?_
      have:=(hq (by omega) (by omega)).2
      rw [hkn] at this;cases this
     rw [hrc,hkn,k6 hkn] at h2
     simp only [h1,h2,h3,vv,vf,reduceCtorEq,Nat.reduceAdd,Nat.reduceEqDiff,Js,Js,hlost,bne_self_eq_false,w1,w2,(show ¬(Bj p).arrive≤p.b+p.c.rng by omega)]
    |true=>
     have:=(k7 hkn).2
     rw [hrc,hkn] at h2
     simp only [h1,h2,h3,vv,vf,reduceCtorEq,Nat.reduceAdd,Nat.reduceEqDiff,Js,Js,bne_self_eq_false,w1,w2,(show ¬(Bj p).arrive≤p.b+p.c.rng by omega),(show ¬(Bj p).knoAt<(Bj p).arrive+p.c.rng by omega),AB,ite_self]
  ·have e:L9 p=[.bool false,tI 0,.bool false,tI 0,tI 0,tI 0,tI 0,tI (Fu p)]:=if_neg h0
   rw [e] at k13
   unfold FN Gj at k11 k13 ⊢
   refine AP.of (fun n=>e4 n _ _ _ _ _ _ _ _ _ _ _ _ _) ?_
   refine (k11.and (k13.and s12)).mono fun n h => ?_
   obtain ⟨h1,h2,h3⟩:=h
   simp only [Con.enc,List.cons_append,List.nil_append] at h1 h2
   have hne:(Fu p != 0)=true:=by simpa using h0
   simp only [h1,h2,h3,vv,vf,reduceCtorEq,Nat.reduceAdd,Nat.reduceEqDiff,hne]
end Ab
set_option linter.unusedVariables false
set_option linter.unusedSimpArgs false
namespace Ab
open Go
def Ed (c:Con) (n:Int):Int:=DP c.rate n+c.loss*(2*c.rng+1+tk c.rate 16)
theorem Jb {c:Con} {n:Int} (hc:Ee c=0) (hn:1≤n∧n≤65536):0≤Ed c n∧Ed c n≤40000000∧0≤c.loss*(2*c.rng+1+tk c.rate 16)∧c.loss*(2*c.rng+1+tk c.rate 16)≤16*2097200:=by
 have h:=Db hc
 have ht:=Fa (r:=c.rate) (n:=16) h.2.1 (by omega)
 have hp:=QR (r:=c.rate) (n:=n) h.2.1 (by omega)
 have h1:c.loss*(2*c.rng+1+tk c.rate 16)≤16*2097200:=Int.mul_le_mul (by omega) (by omega) (by omega) (by omega)
 have h2:0≤c.loss*(2*c.rng+1+tk c.rate 16):=Int.mul_nonneg (by omega) (by omega)
 unfold Ed
 omega
theorem s38 (c:Con) (n:Int) (hc:Ee c=0) (hn:1≤n∧n≤65536):AP C 38 (c.enc++[tI n]) [tI (Ed c n)]:=by
 have h:=Db hc
 have ht:=Fa (r:=c.rate) (n:=16) h.2.1 (by omega)
 have hp:=QR (r:=c.rate) (n:=n) h.2.1 (by omega)
 have hd:=Jb hc hn
 refine AP.of (fun m=>e38 m _ _ _ _ _ _ _ _) ?_
 refine ((s33 c n hc hn).and (s58 c 16 hc (by omega))).mono fun m h => ?_
 obtain ⟨h1,h2⟩:=h
 simp only [Con.enc,List.cons_append,List.nil_append] at h1 h2
 simp only [h1,h2,vv,vf,reduceCtorEq,Nat.reduceAdd,Nat.reduceEqDiff,AS (x:=2*c.rng) (by omega) (by omega),AS (x:=2*c.rng+1) (by omega) (by omega),AS (x:=2*c.rng+1+tk c.rate 16) (by omega) (by omega),AS (x:=c.loss*(2*c.rng+1+tk c.rate 16)) (by omega) (by omega),AS (x:=DP c.rate n+c.loss*(2*c.rng+1+tk c.rate 16)) (by omega) (by omega),Ed]
def Qz (c:Con) (t n:Int):Bool:=decide (c.start≤t∧t≤c.fin-Ed c n)
theorem s39 (c:Con) (t n:Int) (hc:Ee c=0) (hn:1≤n∧n≤65536):AP C 39 (c.enc++[tI t,tI n]) [.bool (Qz c t n)]:=by
 have h:=Db hc
 have hd:=Jb hc hn
 refine AP.of (fun m=>e39 m _ _ _ _ _ _ _ _ _) ?_
 refine (s38 c n hc hn).mono fun m h1 => ?_
 simp only [Con.enc,List.cons_append,List.nil_append] at h1
 simp only [h1,vv,vf,reduceCtorEq,Nat.reduceAdd,Nat.reduceEqDiff,AS (x:=c.fin-Ed c n) (by omega) (by omega),Qz]
 by_cases a:c.start≤t<;>simp [a,AB]
theorem s24 (c:Con) (t n:Int):AP C 24 (c.enc++[tI t,tI n]) [.bool (decide (GO c n=0)&&Qz c t n)]:=by
 refine AP.of (fun m=>e24 m _ _ _ _ _ _ _ _ _) ?_
 by_cases h0:GO c n=0
 ·obtain ⟨a1,a2⟩:=Fy h0
  refine ((s32 c n).and (s39 c t n a1 a2)).mono fun m h => ?_
  obtain ⟨h1,h2⟩:=h
  simp only [Con.enc,List.cons_append,List.nil_append] at h1 h2
  simp only [h1,h2,vv,vf,reduceCtorEq,Nat.reduceAdd,Nat.reduceEqDiff,h0,beq_self_eq_true,Bool.true_and]
 ·refine (s32 c n).mono fun m h1 => ?_
  simp only [Con.enc,List.cons_append,List.nil_append] at h1
  have hne:(GO c n==0)=false:=by simpa using h0
  simp only [h1,vv,vf,reduceCtorEq,Nat.reduceAdd,Nat.reduceEqDiff,hne,h0,Bool.false_and]
theorem s23 (c:Con) (n:Int):AP C 23 (c.enc++[tI n]) [tI (if GO c n=0 then Ed c n else 0),tI (GO c n)]:=by
 refine AP.of (fun m=>e23 m _ _ _ _ _ _ _ _) ?_
 by_cases h0:GO c n=0
 ·obtain ⟨a1,a2⟩:=Fy h0
  refine ((s32 c n).and (s38 c n a1 a2)).mono fun m h => ?_
  obtain ⟨h1,h2⟩:=h
  simp only [Con.enc,List.cons_append,List.nil_append] at h1 h2
  simp only [h1,h2,vv,vf,reduceCtorEq,Nat.reduceAdd,Nat.reduceEqDiff,h0,bne_self_eq_false]
 ·refine (s32 c n).mono fun m h1 => ?_
  simp only [Con.enc,List.cons_append,List.nil_append] at h1
  have hne:(GO c n != 0)=true:=by simpa using h0
  simp only [h1,vv,vf,reduceCtorEq,Nat.reduceAdd,Nat.reduceEqDiff,hne,if_neg h0]
def Gl (c:Con) (t n:Int):Int:=if GO c n≠0 then GO c n else if Qz c t n=true then 0 else 16
def NQ (c:Con) (t n k:Int):Int:=if Gl c t n=0 then t+Ed c n+k*c.rng else 0
theorem Uc {c:Con} {t n:Int} (h:Gl c t n=0):GO c n=0∧Qz c t n=true:=by
 unfold Gl at h
 split at h
 ·omega
 ·split at h
  ·exact ⟨by omega,by assumption⟩
  ·omega
theorem O9 {c:Con} {t n:Int} (hc:Ee c=0) (h:Qz c t n=true) (hn:1≤n∧n≤65536):c.start≤t∧t+Ed c n≤c.fin∧0≤t:=by
 have hh:=Db hc
 have:=of_decide_eq_true h
 omega
theorem s59 (c:Con) (t n k:Int) (hk:0≤k∧k≤2):AP C 59 (c.enc++[tI t,tI n,tI k]) [tI (NQ c t n k),tI (Gl c t n)]:=by
 refine AP.of (fun m=>e59 m _ _ _ _ _ _ _ _ _ _) ?_
 by_cases h0:GO c n=0
 ·obtain ⟨a1,a2⟩:=Fy h0
  have hc:=Db a1
  have hd:=Jb a1 a2
  refine ((s32 c n).and ((s39 c t n a1 a2).and (s38 c n a1 a2))).mono fun m h => ?_
  obtain ⟨h1,h2,h3⟩:=h
  simp only [Con.enc,List.cons_append,List.nil_append] at h1 h2 h3
  cases hf:Qz c t n with
  |true=>
   have hn:=O9 a1 hf a2
   have hkr:0≤k*c.rng∧k*c.rng≤2*1048576:=⟨Int.mul_nonneg (by omega) (by omega),Int.mul_le_mul (by omega) (by omega) (by omega) (by omega)⟩
   have e0:Gl c t n=0:=by unfold Gl;rw [if_neg (by omega),if_pos hf]
   rw [hf] at h2
   simp only [h1,h2,h3,vv,vf,reduceCtorEq,Nat.reduceAdd,Nat.reduceEqDiff,h0,bne_self_eq_false,AS (x:=t+Ed c n) (by omega) (by omega),AS (x:=k*c.rng) (by omega) (by omega),AS (x:=t+Ed c n+k*c.rng) (by omega) (by omega),e0,NQ]
  |false=>
   rw [hf] at h2
   have e0:Gl c t n=16:=by unfold Gl;rw [if_neg (by omega),if_neg (by rw [hf];simp)]
   simp only [h1,h2,vv,vf,reduceCtorEq,Nat.reduceAdd,Nat.reduceEqDiff,h0,bne_self_eq_false,e0,NQ,(show ¬(16:Int)=0 by omega)]
 ·refine (s32 c n).mono fun m h1 => ?_
  simp only [Con.enc,List.cons_append,List.nil_append] at h1
  have hne:(GO c n != 0)=true:=by simpa using h0
  have e0:Gl c t n=GO c n:=by unfold Gl;rw [if_pos h0]
  simp only [h1,vv,vf,reduceCtorEq,Nat.reduceAdd,Nat.reduceEqDiff,hne,e0,NQ,h0]
theorem s34 (c:Con) (t n:Int):AP C 34 (c.enc++[tI t,tI n]) [tI (NQ c t n 2),tI (Gl c t n)]:=by
 refine AP.of (fun m=>e34 m _ _ _ _ _ _ _ _ _) ?_
 refine (s59 c t n 2 (by omega)).mono fun m h => ?_
 simp only [Con.enc,List.cons_append,List.nil_append] at h
 simp only [h,vv,vf,reduceCtorEq,Nat.reduceAdd,Nat.reduceEqDiff]
theorem s35 (c:Con) (t n:Int):AP C 35 (c.enc++[tI t,tI n]) [tI (NQ c t n 1),tI (Gl c t n)]:=by
 refine AP.of (fun m=>e35 m _ _ _ _ _ _ _ _ _) ?_
 refine (s59 c t n 1 (by omega)).mono fun m h => ?_
 simp only [Con.enc,List.cons_append,List.nil_append] at h
 simp only [h,vv,vf,reduceCtorEq,Nat.reduceAdd,Nat.reduceEqDiff]
def proO (c:Con) (t n:Int):List Tree:=if Gl c t n=0 then [.bool true,tI (t+Ed c n+c.rng),.bool true,tI (t+Ed c n+2*c.rng),tI (t+Ed c n),tI ((n+15) / 16+3*c.loss+2),tI c.loss,tI 0] else [.bool false,tI 0,.bool false,tI 0,tI 0,tI 0,tI 0,tI (Gl c t n)]
theorem seg_num {c:Con} {n:Int} (hc:Ee c=0) (hn:1≤n∧n≤65536):w64 (w64 (w64 (Int.tdiv (w64 (w64 (n+16)-1)) 16)+w64 (3*c.loss))+2)=(n+15) / 16+3*c.loss+2:=by
 have h:=Db hc
 rw [AS (x:=n+16) (by omega) (by omega),AS (x:=n+16-1) (by omega) (by omega),Int.tdiv_eq_ediv_of_nonneg (by omega),show n+16-1=n+15 by omega,AS (x:=3*c.loss) (by omega) (by omega)]
 have h1:(n+15) / 16≤4097:=by omega
 have h2:0≤(n+15) / 16:=by omega
 rw [AS (x:=(n+15) / 16) (by omega) (by omega),AS (x:=(n+15) / 16+3*c.loss) (by omega) (by omega),AS (x:=(n+15) / 16+3*c.loss+2) (by omega) (by omega)]
theorem s19 (c:Con) (t n:Int):AP C 19 (c.enc++[tI t,tI n]) (proO c t n):=by
 refine AP.of (fun m=>e19 m _ _ _ _ _ _ _ _ _) ?_
 refine ((s34 c t n).and (s35 c t n)).mono fun m h => ?_
 obtain ⟨h1,h2⟩:=h
 simp only [Con.enc,List.cons_append,List.nil_append] at h1 h2
 by_cases h0:Gl c t n=0
 ·obtain ⟨a0,hf⟩:=Uc h0
  obtain ⟨a1,a2⟩:=Fy a0
  have hc:=Db a1
  have hd:=Jb a1 a2
  have hn:=O9 a1 hf a2
  have e1:NQ c t n 1=t+Ed c n+c.rng:=by unfold NQ;rw [if_pos h0];omega
  have e2:NQ c t n 2=t+Ed c n+2*c.rng:=by unfold NQ;rw [if_pos h0]
  simp only [h1,h2,vv,vf,reduceCtorEq,Nat.reduceAdd,Nat.reduceEqDiff,h0,e1,e2,bne_self_eq_false,seg_num a1 a2,(show t+Ed c n+c.rng-c.rng=t+Ed c n by omega),AS (x:=t+Ed c n) (by omega) (by omega),proO]
 ·have hne:(Gl c t n != 0)=true:=by simpa using h0
  simp only [h1,h2,vv,vf,reduceCtorEq,Nat.reduceAdd,Nat.reduceEqDiff,hne,proO,h0]
end Ab
set_option linter.unusedVariables false
set_option linter.unusedSimpArgs false
set_option maxRecDepth 100000
namespace Ab
open Go
theorem s10 (p:Par) (m:Nat) (hm:m<256) (hpk:∀x∈p.ps,-9223372036854775808≤x∧x≤9223372036854775807):AP C 10 (FN p++[.int .u8 (m:Int)]) [.bool true]:=by
 have k23:=s23 p.c p.d.size
 have k24:=s24 p.c p.b p.d.size
 have wm:w64 (m:Int)=m:=AS (by omega) (by omega)
 unfold FN Gj
 by_cases h0:GO p.c p.d.size=0
 ·obtain ⟨a1,a2⟩:=Fy h0
  have hc:=Db a1
  have hd:=Jb a1 a2
  rw [if_pos h0,h0] at k23
  rw [h0] at k24
  simp only [decide_true,Bool.true_and] at k24
  cases hf:Qz p.c p.b p.d.size with
  |true=>
   rw [hf] at k24
   have hn:=O9 a1 hf a2
   by_cases hsz:(p.d.size:Int)>120
   ·refine AP.of (fun n=>e10 n _ _ _ _ _ _ _ _ _ _ _ _ _ _) ?_
    refine (k23.and (k24.and s12)).mono fun n h => ?_
    obtain ⟨h1,h2,h3⟩:=h
    simp only [Con.enc,List.cons_append,List.nil_append] at h1 h2 ⊢
    simp only [h1,h2,h3,vv,vf,reduceCtorEq,Nat.reduceAdd,Nat.reduceEqDiff,OY,bne_self_eq_false,(show (120:Int)<(p.d.size:Int) from hsz)]
   ·by_cases hps:(p.ps.length:Int)>60
    ·refine AP.of (fun n=>e10 n _ _ _ _ _ _ _ _ _ _ _ _ _ _) ?_
     refine (k23.and (k24.and s12)).mono fun n h => ?_
     obtain ⟨h1,h2,h3⟩:=h
     simp only [Con.enc,List.cons_append,List.nil_append] at h1 h2 ⊢
     simp only [h1,h2,h3,vv,vf,reduceCtorEq,Nat.reduceAdd,Nat.reduceEqDiff,OY,bne_self_eq_false,(show ¬(120:Int)<(p.d.size:Int) from hsz),(show (60:Int)<(p.ps.length:Int) from hps)]
    ·have wl:w64 (p.c.loss-m)=p.c.loss-m:=AS (by omega) (by omega)
     have wb:w64 (p.b+Ed p.c p.d.size)=p.b+Ed p.c p.d.size:=AS (by omega) (by omega)
     obtain ⟨q,hq⟩:∃q:Par,q={p with e:=p.b+Ed p.c p.d.size,lim:=if p.c.loss-m>0 then p.c.loss-m else 0,dk:=[]}:=⟨_,rfl⟩
     have qc:q.c=p.c:=by rw [hq]
     have qb:q.b=p.b:=by rw [hq]
     have qd:q.d=p.d:=by rw [hq]
     have qe:q.e=p.b+Ed p.c p.d.size:=by rw [hq]
     have ql:q.lim=if p.c.loss-m>0 then p.c.loss-m else 0:=by rw [hq]
     have qs:q.ps=p.ps:=by rw [hq]
     have qk:q.dk=[]:=by rw [hq]
     have hB:BP q:=⟨qk,by rw [ql,qc];split<;>omega,by rw [qe,qb,qc,qd];unfold TTp Ed;rw [qc];omega⟩
     obtain ⟨hok,b1,b2,b3,b4⟩:=bnd_ok hB (by rw [qc];exact a1) (by rw [qc,qb];exact hn.1) (by rw [qc,qe];exact hn.2.1) (by rw [qd];omega) (by rw [qs];omega) (by rw [qs];exact hpk)
     have hE:Fu q=0:=by
      unfold Fu PA
      rw [if_neg (by omega),if_neg (by omega),if_neg (by rw [b3];simp),b4]
     have k13:=s13P q (fun _=>hok)
     have e:L9 q=Ox (Bj q):=if_pos hE
     rw [e] at k13
     unfold Ox at k13
     unfold FN Gj at k13
     obtain ⟨g1,g2,g3,g4,g5,g6,g7⟩:=bi_fin hok hB b4
     rw [qc,qe] at g3
     rw [qe] at g4 g5
     rw [qc] at g4
     rw [qc,qd] at g6
     have hpe:Gl p.c p.b p.d.size=0:=by unfold Gl;rw [if_neg (by omega),if_pos hf]
     have k19:=s19 p.c p.b p.d.size
     unfold proO at k19
     rw [if_pos hpe] at k19
     refine AP.of (fun n=>e10 n _ _ _ _ _ _ _ _ _ _ _ _ _ _) ?_
     refine (k23.and (k24.and (k13.and (k19.and s12)))).mono fun n h => ?_
     obtain ⟨h1,h2,h3,h4,h5⟩:=h
     simp only [Con.enc,List.cons_append,List.nil_append,qc,qb,qd,qe,ql,qs,qk,List.map_nil] at h1 h2 h3 h4 ⊢
     rw [g1,g2] at h3
     rw [ql] at g7
     simp only [h1,h2,h3,h4,h5,wm,wl,wb,vv,vf,reduceCtorEq,Nat.reduceAdd,Nat.reduceEqDiff,OY,J10_1,bne_self_eq_false,beq_self_eq_true,(show ¬(120:Int)<(p.d.size:Int) from hsz),(show ¬(60:Int)<(p.ps.length:Int) from hps),g4,g5,g6,g7,(show (Bj q).arrive≤p.b+Ed p.c p.d.size+p.c.rng by omega)]
  |false=>
   rw [hf] at k24
   refine AP.of (fun n=>e10 n _ _ _ _ _ _ _ _ _ _ _ _ _ _) ?_
   refine (k23.and (k24.and s12)).mono fun n h => ?_
   obtain ⟨h1,h2,h3⟩:=h
   simp only [Con.enc,List.cons_append,List.nil_append] at h1 h2 ⊢
   simp only [h1,h2,h3,vv,vf,reduceCtorEq,Nat.reduceAdd,Nat.reduceEqDiff,OY,bne_self_eq_false]
 ·rw [if_neg h0] at k23
  refine AP.of (fun n=>e10 n _ _ _ _ _ _ _ _ _ _ _ _ _ _) ?_
  refine (k23.and s12).mono fun n h => ?_
  obtain ⟨h1,h3⟩:=h
  simp only [Con.enc,List.cons_append,List.nil_append] at h1 ⊢
  have hne:(GO p.c p.d.size != 0)=true:=by simpa using h0
  simp only [h1,h3,vv,vf,reduceCtorEq,Nat.reduceAdd,Nat.reduceEqDiff,OY,hne]
end Ab
set_option linter.unusedVariables false
namespace Ab
open Go
variable {P:Program}
theorem Nh {d:Nat} {t:TypeId} {k:IntKind} (hu:P.underlying t=some (.int k)) {ts:List Tree} (h:Typed P d t ts):∃n,ts=[.int k n]∧(Lit.int k n).wf=true:=by
 cases d with
 |zero=>cases h
 |succ d=>unfold Typed at h;rw [hu] at h;exact h
theorem UR {d:Nat} {t:TypeId} (hu:P.underlying t=some .string) {ts:List Tree} (h:Typed P d t ts):∃s:ByteArray,ts=[.str s]∧s.size≤maxLen:=by
 cases d with
 |zero=>cases h
 |succ d=>unfold Typed at h;rw [hu] at h;exact h
theorem Ko {d:Nat} {t e:TypeId} (hu:P.underlying t=some (.slice e)) {ts:List Tree} (h:Typed P (d+1) t ts):∃es,ts=[.sl (P.cellsOf e) es]∧es.length≤maxLen∧∀x∈es,Typed P d e x:=by
 unfold Typed at h;rw [hu] at h;exact h
theorem Oe {d:Nat} {t:TypeId} {fs:Array Field} (hu:P.underlying t=some (.struct fs)) {ts:List Tree} (h:Typed P (d+1) t ts):FO (Typed P d) (fs.toList.map (·.type)) ts:=by
 unfold Typed at h;rw [hu] at h;exact h
def Q2 (P:Program) (t:TypeId):Option (List TypeId):=
 match P.underlying t with
 |some (.struct fs)=>some (fs.toList.map (·.type))
 |_=>none
theorem F2 {d:Nat} {t:TypeId} (l:List TypeId) (hu:Q2 P t=some l) {ts:List Tree} (h:Typed P (d+1) t ts):FO (Typed P d) l ts:=by
 unfold Q2 at hu
 split at hu
 ·rename_i fs hf
  cases hu
  exact Oe hf h
 ·cases hu
theorem Aq {Ty:TypeId→List Tree→Prop} {t:TypeId} {l:List TypeId} {ts:List Tree} (h:FO Ty (t::l) ts):∃a b,ts=a++b∧Ty t a∧FO Ty l b:=h
theorem F3 {Ty:TypeId→List Tree→Prop} {ts:List Tree} (h:FO Ty [] ts):ts=[]:=h
theorem GL {α:Type} {enc:α→List Tree} {p:α→Prop}:∀{es:List (List Tree)},(∀x∈es,∃a,x=enc a∧p a)→∃l:List α,es=l.map enc∧∀a∈l,p a
 |[],_=>⟨[],rfl,by simp⟩
 |x::es,h=>by
  obtain ⟨a,ha,pa⟩:=h x (by simp)
  obtain ⟨l,hl,pl⟩:=GL (es:=es) fun y hy=>h y (by simp [hy])
  refine ⟨a::l,by simp [ha,hl],fun b hb => ?_⟩
  rcases List.mem_cons.1 hb with rfl|hb
  ·exact pa
  ·exact pl b hb
end Ab
set_option linter.unusedVariables false
set_option maxRecDepth 100000
namespace Ab
open Go Go.Proofs
theorem uInt:C.P.underlying 3=some (.int .i64):=by kernel_rfl
theorem uU8:C.P.underlying 5=some (.int .u8):=by kernel_rfl
theorem uStr:C.P.underlying 9=some .string:=by kernel_rfl
def VS (n:Int):Prop := -9223372036854775808≤n∧n≤9223372036854775807
theorem DO {d:Nat} {ts:List Tree} (h:Typed C.P d 3 ts):∃n,ts=[tI n]∧VS n:=by
 obtain ⟨n,h1,h2⟩:=Nh uInt h
 refine ⟨n,h1,?_⟩
 simp only [Lit.wf,Bool.and_eq_true,decide_eq_true_eq,show IntKind.i64.min = -9223372036854775808 from rfl,show IntKind.i64.max=9223372036854775807 from rfl] at h2
 exact h2
theorem dec_u8 {d:Nat} {ts:List Tree} (h:Typed C.P d 5 ts):∃n:Nat,ts=[.int .u8 (n:Int)]∧n<256:=by
 obtain ⟨n,h1,h2⟩:=Nh uU8 h
 have h3:0≤n∧n≤255:=by simpa [Lit.wf,IntKind.min,IntKind.max,IntKind.signed,IntKind.bits] using h2
 exact ⟨n.toNat,by rw [h1,show ((n.toNat:Nat):Int)=n by omega],by omega⟩
theorem dec_str {d:Nat} {ts:List Tree} (h:Typed C.P d 9 ts):∃b:ByteArray,ts=[.str b]∧True:=by
 obtain ⟨b,h1,_⟩:=UR uStr h
 exact ⟨b,h1,trivial⟩
theorem Wr {d:Nat} {ts:List Tree} (h:Typed C.P (d+1) 45 ts):∃e:Span,ts=e.enc∧True:=by
 have h1:=F2 (t:=45) [3,3] (by kernel_rfl) h
 clear h
 obtain ⟨_,t1,rfl,x1,g1⟩:=Aq h1
 obtain ⟨a1,rfl,k1⟩:=DO x1
 obtain ⟨_,t2,rfl,x2,g2⟩:=Aq g1
 obtain ⟨a2,rfl,k2⟩:=DO x2
 obtain rfl:=F3 g2
 exact ⟨⟨a1,a2⟩,rfl,trivial⟩
theorem U6 {d:Nat} {ts:List Tree} (h:Typed C.P (d+2) 25 ts):∃l:List Span,ts=[.sl 2 (l.map Span.enc)]∧True:=by
 obtain ⟨es,rfl,_,h2⟩:=Ko (t:=25) (e:=45) (by kernel_rfl) h
 obtain ⟨l,rfl,hl⟩:=GL fun x hx=>Wr (h2 x hx)
 exact ⟨l,by rw [show C.P.cellsOf 45=2 by kernel_rfl],trivial⟩
theorem Ws {d:Nat} {ts:List Tree} (h:Typed C.P (d+2) 24 ts):∃l:List Int,ts=[.sl 1 (l.map Cz)]∧∀n∈l,VS n:=by
 obtain ⟨es,rfl,_,h2⟩:=Ko (t:=24) (e:=3) (by kernel_rfl) h
 obtain ⟨l,rfl,hl⟩:=GL (enc:=Cz) fun x hx=>DO (h2 x hx)
 exact ⟨l,by rw [show C.P.cellsOf 3=1 by kernel_rfl],hl⟩
theorem dec_con {d:Nat} {ts:List Tree} (h:Typed C.P (d+1) 23 ts):∃e:Con,ts=e.enc∧True:=by
 have h1:=F2 (t:=23) [3,3,3,3,3,3,3] (by kernel_rfl) h
 clear h
 obtain ⟨_,t1,rfl,x1,g1⟩:=Aq h1
 obtain ⟨a1,rfl,k1⟩:=DO x1
 obtain ⟨_,t2,rfl,x2,g2⟩:=Aq g1
 obtain ⟨a2,rfl,k2⟩:=DO x2
 obtain ⟨_,t3,rfl,x3,g3⟩:=Aq g2
 obtain ⟨a3,rfl,k3⟩:=DO x3
 obtain ⟨_,t4,rfl,x4,g4⟩:=Aq g3
 obtain ⟨a4,rfl,k4⟩:=DO x4
 obtain ⟨_,t5,rfl,x5,g5⟩:=Aq g4
 obtain ⟨a5,rfl,k5⟩:=DO x5
 obtain ⟨_,t6,rfl,x6,g6⟩:=Aq g5
 obtain ⟨a6,rfl,k6⟩:=DO x6
 obtain ⟨_,t7,rfl,x7,g7⟩:=Aq g6
 obtain ⟨a7,rfl,k7⟩:=DO x7
 obtain rfl:=F3 g7
 exact ⟨⟨a1,a2,a3,a4,a5,a6,a7⟩,rfl,trivial⟩
structure Wd (p:Par):Prop where
 b:VS p.b
 e:VS p.e
 lim:VS p.lim
 pk:∀n∈p.ps,VS n
theorem Wu {d:Nat} {ts:List Tree} (h:Typed C.P (d+3) 27 ts):∃p:Par,ts=FN p∧Wd p:=by
 have h1:=F2 (t:=27) [23,3,3,9,24,3,25] (by kernel_rfl) h
 clear h
 obtain ⟨_,t1,rfl,x1,g1⟩:=Aq h1
 obtain ⟨a1,rfl,k1⟩:=dec_con x1
 obtain ⟨_,t2,rfl,x2,g2⟩:=Aq g1
 obtain ⟨a2,rfl,k2⟩:=DO x2
 obtain ⟨_,t3,rfl,x3,g3⟩:=Aq g2
 obtain ⟨a3,rfl,k3⟩:=DO x3
 obtain ⟨_,t4,rfl,x4,g4⟩:=Aq g3
 obtain ⟨a4,rfl,k4⟩:=dec_str x4
 obtain ⟨_,t5,rfl,x5,g5⟩:=Aq g4
 obtain ⟨a5,rfl,k5⟩:=Ws x5
 obtain ⟨_,t6,rfl,x6,g6⟩:=Aq g5
 obtain ⟨a6,rfl,k6⟩:=DO x6
 obtain ⟨_,t7,rfl,x7,g7⟩:=Aq g6
 obtain ⟨a7,rfl,k7⟩:=U6 x7
 obtain rfl:=F3 g7
 exact ⟨⟨a1,a2,a3,a4,a5,a6,a7⟩,rfl,⟨k2,k3,k6,k5⟩⟩
theorem own:ownKnob Tryz.prog.godebug=none:=by kernel_rfl
end Ab
namespace Go.Proofs
open Go.Shelf
open Go.RowKit in
open Go.RowKit in
open Go.RowKit in
open Go.RowKit in
open Go.RowKit in
open Go.RowKit in
open Go.RowKit in
open Go.RowKit in
open Go.RowKit in
open Go.RowKit in
open Go.RowKit Go.Lib in
open Go.RowKit Go.Lib in
open Go.RowKit Go.Lib in
open Go.RowKit Go.Lib in
def Tryz.Kw:Go.Shelf.Ren:=⟨fun|105=>25|212=>40|99=>41|165=>42|166=>43|170=>44|169=>45|263=>62|264=>63|206=>64|240=>65|241=>66|276=>89|277=>90|n=>n,fun|9=>9|3=>3|4=>4|20=>20|0=>0|46=>76|109=>77|5=>5|72=>83|76=>87|51=>114|146=>115|53=>117|148=>118|70=>80|37=>81|75=>86|127=>120|164=>139|80=>90|n=>n,fun|n=>n⟩
theorem Tryz.lays105:Go.Proofs.Lays.n105 Tryz.prog Tryz.Kw:={
 mixed:=by kernel_rfl
 f99:=Tryz.func41.trans (congrArg some (by kernel_rfl))
 f105:=Tryz.func25.trans (congrArg some (by kernel_rfl))
 f165:=Tryz.func42.trans (congrArg some (by kernel_rfl))
 f166:=Tryz.func43.trans (congrArg some (by kernel_rfl))
 f169:=Tryz.func45.trans (congrArg some (by kernel_rfl))
 f170:=Tryz.func44.trans (congrArg some (by kernel_rfl))
 f206:=Tryz.func64.trans (congrArg some (by kernel_rfl))
 f212:=Tryz.func40.trans (congrArg some (by kernel_rfl))
 f240:=Tryz.func65.trans (congrArg some (by kernel_rfl))
 f241:=Tryz.func66.trans (congrArg some (by kernel_rfl))
 f263:=Tryz.func62.trans (congrArg some (by kernel_rfl))
 f264:=Tryz.func63.trans (congrArg some (by kernel_rfl))
 f276:=Tryz.func89.trans (congrArg some (by kernel_rfl))
 f277:=Tryz.func90.trans (congrArg some (by kernel_rfl))
 t0:=Tryz.underlying0
 a0:=Tryz.isAgg0
 z0:=Tryz.sizeOf0
 v0:=Tryz.zeroValue0
 t3:=Tryz.underlying3
 a3:=Tryz.isAgg3
 z3:=Tryz.sizeOf3
 v3:=Tryz.zeroValue3
 t4:=Tryz.underlying4
 a4:=Tryz.isAgg4
 z4:=Tryz.sizeOf4
 v4:=Tryz.zeroValue4
 t5:=Tryz.underlying5
 a5:=Tryz.isAgg5
 z5:=Tryz.sizeOf5
 v5:=Tryz.zeroValue5
 t9:=Tryz.underlying9
 a9:=Tryz.isAgg9
 z9:=Tryz.sizeOf9
 v9:=Tryz.zeroValue9
 t20:=Tryz.underlying20
 a20:=Tryz.isAgg20
 z20:=Tryz.sizeOf20
 v20:=Tryz.zeroValue20
 t37:=Tryz.underlying81
 a37:=Tryz.isAgg81
 z37:=Tryz.sizeOf81
 v37:=Tryz.zeroValue81
 t46:=Tryz.underlying76
 a46:=Tryz.isAgg76
 z46:=Tryz.sizeOf76
 v46:=Tryz.zeroValue76
 t51:=Tryz.underlying114
 a51:=Tryz.isAgg114
 z51:=Tryz.sizeOf114
 v51:=Tryz.zeroValue114
 t53:=Tryz.underlying117
 a53:=Tryz.isAgg117
 z53:=Tryz.sizeOf117
 v53:=Tryz.zeroValue117
 t70:=Tryz.underlying80
 a70:=Tryz.isAgg80
 z70:=Tryz.sizeOf80
 v70:=Tryz.zeroValue80
 t72:=Tryz.underlying83
 a72:=Tryz.isAgg83
 z72:=Tryz.sizeOf83
 v72:=Tryz.zeroValue83
 t75:=Tryz.underlying86
 a75:=Tryz.isAgg86
 z75:=Tryz.sizeOf86
 v75:=Tryz.zeroValue86
 t76:=Tryz.underlying87
 a76:=Tryz.isAgg87
 z76:=Tryz.sizeOf87
 v76:=Tryz.zeroValue87
 t109:=Tryz.underlying77
 a109:=Tryz.isAgg77
 z109:=Tryz.sizeOf77
 v109:=Tryz.zeroValue77
 t127:=Tryz.underlying120
 a127:=Tryz.isAgg120
 z127:=Tryz.sizeOf120
 v127:=Tryz.zeroValue120
 t146:=Tryz.underlying115
 a146:=Tryz.isAgg115
 z146:=Tryz.sizeOf115
 v146:=Tryz.zeroValue115
 t148:=Tryz.underlying118
 a148:=Tryz.isAgg118
 z148:=Tryz.sizeOf118
 v148:=Tryz.zeroValue118
 t164:=Tryz.underlying139
 a164:=Tryz.isAgg139
 z164:=Tryz.sizeOf139
 v164:=Tryz.zeroValue139}
theorem Tryz.J1:Builder.Extra Tryz.prog Tryz.Kw:={
 sizeBuilder:=by kernel_rfl
 liesBuilder:=by kernel_rfl
 t5:=Tryz.underlying5
 a5:=Tryz.isAgg5
 z5:=Tryz.sizeOf5
 v5:=Tryz.zeroValue5
 infoByte:=by kernel_rfl
 cellsByte:=by kernel_rfl
 sizeByte:=by kernel_rfl
 neB5:=by decide}
open Go.RowKit Go.Lib in
open Go.RowKit Go.Lib in
open Go.RowKit Go.Lib in
open Go.RowKit Go.Lib in
open Go.RowKit Go.Lib in
open Go.RowKit Go.Lib in
open Go.RowKit Go.Lib in
theorem Tryz.strings_Repeat (s:ByteArray) (c:Nat) (w:World) (hc:c≤9223372036854775807) (hlen:s.size*c≤140737488355328) :
  Calls Tryz.prog 25 #[.string s,.int .i64 c] w fun e w'=>e = .returned (.string ⟨(Lib.repeatL s.data.toList c).toArray⟩)∧Below w.heap.size w w':=Any.strings_Repeat Tryz.lays105 Tryz.J1 s c w hc hlen
end Go.Proofs
namespace Ab
open Go Go.Proofs Go.Shelf Go.RowKit Go.Lib
set_option maxRecDepth 100000
theorem Gx {P:Program} {t key elem:TypeId} {kd:IntKind} (hu:P.underlying t=some (.map key elem)) (hk:P.underlying key=some (.int kd)) {w:World} {b:Nat} {es:Array MapEntry} {clock:Nat} (hb:w.heap[b]? = some (.map es clock)) (n:Int) (v:Value)
  (hnew:Instr.findNow (.int kd) (.int kd n) es.toList 0=some none) :
  (Instr.mapUpdate t (.map (some b)) (.int kd n) v).run P w = .ok () (w.putObj b (.map (es.push {key :=.int kd n,val:=v,born:=clock}) (clock+1))):=by
 have hck:(Instr.checkKey false 10000 key (.int kd n)).run P w = .ok () w:=by
  have:∀m:Nat,(Instr.checkKey false (m+1) key (.int kd n)).run P w = .ok () w:=fun m=>by simp [Instr.checkKey,run_underlying hk]
  exact this 9999
 simp only [Instr.mapUpdate,Sem.run_bind,run_underlying hu,Result.andThen_ok,IN hb,hck,Instr.findKey,run_underlying hk,hnew,Sem.run_pure]
 simp [setObj,Sem.run,hb,World.putObj]
theorem MX (w:World):Calls Tryz.prog 165 #[] w fun e w'=>∃b,e = .returned (.map (some b))∧w.heap.size≤b∧b<w'.heap.size∧Below w.heap.size w w'∧∃es clock,w'.heap[b]? = some (.map es clock)∧es.toList.map (fun e=>(e.key,e.val))=[(.int .i64 2,.func (.func 186) #[] #[]),(.int .i64 3,.func (.func 187) #[] #[])]:=by
 have hmm:=@Go.run_makeMap_plain Tryz.prog
 have hw0:(w.alloc (.map #[] 0)).heap[w.heap.size]? = some (.map #[] 0):=by
  show (w.heap.push (.map #[] 0))[w.heap.size]? = _
  exact Array.getElem?_push_size
 have h1:(Instr.mapUpdate 191 (.map (some w.heap.size)) (.int .i64 2) (.func (.func 186) #[] #[])).run Tryz.prog (w.alloc (.map #[] 0))= .ok () ((w.alloc (.map #[] 0)).putObj w.heap.size (.map #[{key :=.int .i64 2,val :=.func (.func 186) #[] #[],born:=0}] 1)):=
  Gx (P:=Tryz.prog) (t:=191) (key:=3) (elem:=189) (kd :=.i64) (by kernel_rfl) (by kernel_rfl) hw0 2 (.func (.func 186) #[] #[]) rfl
 have hlt:=Dg hw0
 have hw1:=World.putObj_heap_same (o :=.map #[{key :=.int .i64 2,val :=.func (.func 186) #[] #[],born:=0}] 1) hlt
 have hlt2:=Dg hw1
 have hw2:=World.putObj_heap_same (o :=.map #[{key :=.int .i64 2,val :=.func (.func 186) #[] #[],born:=0},{key :=.int .i64 3,val :=.func (.func 187) #[] #[],born:=1}] 2) hlt2
 have hlt3:=Dg hw2
 have h2:(Instr.mapUpdate 191 (.map (some w.heap.size)) (.int .i64 3) (.func (.func 187) #[] #[])).run Tryz.prog ((w.alloc (.map #[] 0)).putObj w.heap.size (.map #[{key :=.int .i64 2,val :=.func (.func 186) #[] #[],born:=0}] 1))= .ok () (((w.alloc (.map #[] 0)).putObj w.heap.size (.map #[{key :=.int .i64 2,val :=.func (.func 186) #[] #[],born:=0}] 1)).putObj w.heap.size (.map #[{key :=.int .i64 2,val :=.func (.func 186) #[] #[],born:=0},{key :=.int .i64 3,val :=.func (.func 187) #[] #[],born:=1}] 2)):=
  Gx (P:=Tryz.prog) (t:=191) (key:=3) (elem:=189) (kd :=.i64) (by kernel_rfl) (by kernel_rfl) hw1 3 (.func (.func 187) #[] #[]) rfl
 go_enter Tryz.func165,Tryz.ntmps165
 go_wp2
 go_ret
 exact ⟨w.heap.size,rfl,Nat.le_refl _,hlt3,⟨rfl,rfl,rfl,Nat.le_of_lt hlt3,fun k hk=>by
  rw [World.putObj_heap_other (Nat.ne_of_lt hk),World.putObj_heap_other (Nat.ne_of_lt hk)]
  show (w.heap.push (.map #[] 0))[k]? = _
  rw [Array.getElem?_push,if_neg (Nat.ne_of_lt hk)]⟩,_,_,hw2,rfl⟩
theorem mapExt:Kf Tryz.prog 165 [] [.mp .i64 [(2,186),(3,187)]]:=by
 intro B w avs vs n hm hB hc
 have e:avs=[]:=by
  have:DR Tryz.prog 165 (fun i =>.t ((List.getD [] i default:Tree)))=some []:=by kernel_rfl
  rw [this] at hm
  exact (Option.some.inj hm).symm
 subst e
 obtain rfl:vs = #[]:=Array.eq_empty_of_size_eq_zero (by simpa using hc.1)
 refine (callsIn_wide (n:=n)).2 (MX w) |>.mono ?_
 rintro e w' ⟨b,rfl,h1,h2,h3,es,clock,h4,h5⟩
 refine ⟨_,.t (.mp .i64 [(2,186),(3,187)]),rfl,by kernel_rfl,.t _ _ (.mp .i64 _ b es clock h2 ?_ h4 (by rw [h5];rfl)),⟨h3.os,h3.tape,h3.output,h3.size,h3.block⟩,fun h => ?_⟩
 ·rintro (h|h)
  ·exact Nat.lt_irrefl _ (Nat.lt_of_lt_of_le (hB b h) h1)
  ·exact DY h
 ·have:CJ Tryz.prog 165=false:=by kernel_rfl
  rw [this] at h
  cases h
theorem repExt (s:ByteArray) (c:Int) (h0:0≤c∧c≤9223372036854775807∧s.size*c.toNat≤140737488355328):Kf Tryz.prog 25 [.str s,.int .i64 c] [.str ⟨(Go.Lib.repeatL s.data.toList c.toNat).toArray⟩]:=by
 intro B w avs vs n hm hB hc
 have e:avs=[.t (.str s),.t (.int .i64 c)]:=by
  have:DR Tryz.prog 25 (fun i =>.t ((List.getD [.str s,.int .i64 c] i default:Tree)))=some [.t (.str s),.t (.int .i64 c)]:=by kernel_rfl
  rw [this] at hm
  exact (Option.some.inj hm).symm
 subst e
 obtain ⟨h1,h2,h3⟩:=h0
 obtain ⟨k,rfl⟩:∃k:Nat,c=(k:Int):=⟨c.toNat,by omega⟩
 simp only [Int.toNat_natCast] at h3 ⊢
 obtain rfl:vs = #[.string s,.int .i64 (k:Int)]:=by
  obtain ⟨hl,hv⟩:=hc
  obtain ⟨l⟩:=vs
  match l,hl with
  |[u,v],_=>
   have q0:=hv 0 _ rfl
   have q1:=hv 1 _ rfl
   simp only [Array.getD] at q0 q1
   have r0:u = .string s:=by
    cases q0 with|t _ _ q=>cases q with|str=>rfl
   have r1:v = .int .i64 (k:Int):=by
    cases q1 with|t _ _ q=>cases q with|int=>rfl
   rw [r0,r1]
 refine (callsIn_wide (n:=n)).2 (Tryz.strings_Repeat s k w (by omega) h3) |>.mono ?_
 rintro e w' ⟨rfl,h3⟩
 exact ⟨_,.t (.str _),rfl,by kernel_rfl,.t _ _ (.str _),⟨h3.os,h3.tape,h3.output,h3.size,h3.block⟩,fun _=>rfl⟩
theorem extOk:Rh C:=by
 intro g xs ys _ h
 unfold C at h
 simp only at h
 unfold Wf at h
 split at h
 ·rename_i e
  subst e
  split at h
  ·split at h
   ·rename_i hq
    cases h
    exact repExt _ _ hq
   ·cases h
  ·cases h
 ·split at h
  ·rename_i e
   subst e
   split at h
   ·cases h;exact mapExt
   ·cases h
  ·cases h
end Ab
