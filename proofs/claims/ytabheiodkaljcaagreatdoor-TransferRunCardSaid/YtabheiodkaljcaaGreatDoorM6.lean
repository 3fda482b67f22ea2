/- A part of the proof: see the last text. -/
import Derived.Test.YtabheiodkaljcaaGreatDoorM5
import Derived.Shelf.Strings.Builder1
import Derived.Shelf.Strings.Builder2
import Derived.Shelf.Strings.BuilderF
import Derived.Shelf.Strings.Prefix
import Derived.Shelf.Bits.Mul64
import Derived.Shelf.Strings.Repeat
import Derived.Test.YtabheiodkaljcaaGreatDoorProg
import Derived.Deep.LoopGhost
import Derived.Below
import Derived.WideMake
import Derived.WalkKit
open Array (eq_empty_of_size_eq_zero)
open Bool (and_eq_true false_eq_true true_eq_false)
open Int (lt_irrefl toNat toNat_natCast)
open List (append_nil cons_append drop_nil drop_succ_cons getElem?_cons_zero length length_map map_cons map_nil mem_cons nil_append set_cons_zero tail_cons take)
open Nat (le_refl lt_of_lt_of_le ne_of_lt reduceAdd reduceEqDiff)
open Option (getD_none isSome_none isSome_some)
set_option linter.unusedVariables false
set_option linter.unusedSimpArgs false
set_option maxRecDepth 100000
namespace Ab
open Go
theorem tkD_26 (g:Gh) (s:Ses) (v:Nat) (y:Seg) (hr:Bs s.dat) :
  Ev fun n=>∀again e1 hp,Oa n (fI C n) ((.rptr 8 v 0 0::e1),hp) again ([],H26 E0 E0 E0 g s [.row false v 8 [y.enc]])=again (BI g (DO s).1 (v+1) (DO s).2):=by
 cases hf:s.dat.frames with
 |nil=>
  have hn:A0 s.dat=none:=by simp [A0,hf]
  rw [show DO s=(s,none) by simp only [DO,hf]];refine (Hn s.dat hr).mono fun n h again e1 hp => ?_;rw [hn] at h;simp only [BL.enc,DX] at h;simp only [BI,Oa,RD,H26,BJ,vv2,vf,reduceCtorEq,reduceAdd,reduceEqDiff,getElem?_cons_zero,Seg.enc,h,isSome_none,getD_none,Jx,map_nil,set_cons_zero,drop_succ_cons,drop_nil,append_nil,le_refl]
 |cons f l=>
  have hn:A0 s.dat=some f.arr:=by simp [A0,hf]
  by_cases ha:f.arr=s.now
  ·rw [show DO s=(BF s,some f.seg) by simp only [DO,hf,ha,if_true]];refine ((Hn s.dat hr).and (s158 s.dat hr f l hf)).mono fun n h again e1 hp => ?_;obtain ⟨h,h2⟩:=h;rw [hn,ha] at h;simp only [BL.enc,DX] at h h2;have hx:BF s={s with dat:=⟨s.dat.rng,l,s.dat.sent,s.dat.lost⟩}:=by simp only [BF,hf,tail_cons]
   simp only [hx,BI,Oa,RD,H26,BJ,vv2,vf,reduceCtorEq,reduceAdd,reduceEqDiff,getElem?_cons_zero,Seg.enc,h,h2,bne_self_eq_false,isSome_some,Option.getD_some,set_cons_zero,drop_succ_cons,drop_nil,append_nil,le_refl]
  ·have ha':(f.arr != s.now)=true:=by simpa using ha
   rw [show DO s=(s,none) by simp only [DO,hf,ha,if_false]];refine (Hn s.dat hr).mono fun n h again e1 hp => ?_;rw [hn] at h;simp only [BL.enc,DX] at h;simp only [ha',BI,Oa,RD,H26,BJ,vv2,vf,reduceCtorEq,reduceAdd,reduceEqDiff,getElem?_cons_zero,Seg.enc,h,isSome_none,getD_none,Jx,map_nil,set_cons_zero,drop_succ_cons,drop_nil,append_nil,le_refl]
theorem rp_26 (g:Gh) (s:Ses) (v:Nat) (x:Seg) (r:Rcv) (l:List Seg) (y:List Tree) (hy:gL y 4=l.map Seg.enc) (f1 f2 f3:AI) (e00:List AV) (g00:Gh) (s00:Ses) (hb:Bud l.length s) :
  Ev fun n=>∀z,AH (fun p again=>Jp n (fI C n) y (e00,H26 f1 f2 f3 g00 s00 []) z p again) n ([.t (tI 0)],H26 E0 E0 E0 g s [.row false v 8 [x.enc],FB r])=z ([],H26 E0 E0 E0 {g with v5:=g.v5+l.length} (rxF (l.foldl CQ s)) [.row false v 8 [x.enc]]):=by
 have key:=Fg (R:=List Tree) (Z:=List AV×Heap→Option (List Tree)) (Q:=Gh×Ses) (B:=fun n z p again=>Jp n (fI C n) y (e00,H26 f1 f2 f3 g00 s00 []) z p again)
  (s:=(([.t (tI 0)],H26 E0 E0 E0 g s [.row false v 8 [x.enc],FB r]):List AV×Heap)) (r:=({g with v5:=g.v5+l.length},l.foldl CQ s)) l
  (fun i (q:Gh×Ses)=>(([.t (tI i)],H26 E0 E0 E0 q.1 q.2 [.row false v 8 [x.enc],FB r]):List AV×Heap)) (fun _ q y =>.next ({q.1 with v5:=q.1.v5+1},CQ q.2 y)) (fun q=>q)
  (fun z q=>z ([],H26 E0 E0 E0 q.1 (rxF q.2) [.row false v 8 [x.enc]])) (fun i q=>Bud (l.length-i) q.2) (g,s) rfl hb ?_
  (fun i q w hx hI => ?_) (fun i q w q' hx hI hs => ?_) (fun q hI => ?_)
 ·exact key
 ·rw [CP,T0]
 ·have hi:=AM hx;obtain ⟨g1,s1⟩:=q;have hI':Bud (l.length-(i+1)+1) s1:=by
   have:l.length-(i+1)+1=l.length-i:=by omega
   rw [this];exact hI
  have k:=entR_26 g1 s1 w (.row true (AI.ver f1) 15 (Bj f1)) (.row true (AI.ver f2) 4 (Bj f2)) (.row true (AI.ver f3) 4 (Bj f3)) hI'.eR v [x.enc] r.ses r.tot (r.known.map Span.enc) r.data w;refine k.mono fun n h z again => ?_;have h:=fun again=>h again;simp only [DR,H26] at h;simp only [Jp,UY,FB,H26,hy,BJ,vv2,vf,reduceCtorEq,reduceAdd,reduceEqDiff,hx,Seg.enc,(show (i:Int)<(l.length:Int) by omega),AS (show i<4611686018427387904 by have:=hb.ent;omega),Rd.AT,Jy,IC];simp only [Seg.enc] at h;simp only [h,UY,BJ,vv2,vf,reduceCtorEq,reduceAdd,reduceEqDiff,AS (show i<4611686018427387904 by have:=hb.ent;omega)]
 ·cases hs;have hi:=AM hx;have:l.length-i=l.length-(i+1)+1:=by omega
  rw [this] at hI;exact hI.CQ w
 ·obtain ⟨g1,s1⟩:=q;rcases Bool.eq_false_or_eq_true s1.rcvd with hr|hr
  ·have hr1:(!s1.rcvd)=false:=by simp [hr]
   have e:rxF s1=s1:=by simp only [rxF,hr,true_eq_false,false_and,if_false]
   rw [e];refine Ev.of fun n z again => ?_;simp only [Jp,FB,H26,hy,BJ,vv2,vf,reduceCtorEq,reduceAdd,reduceEqDiff,lt_irrefl,hr1]
  ·have hr1:(!s1.rcvd)=true:=by simp [hr]
   refine (s147 s1.rcv).mono fun n h z again => ?_;simp only [Rcv.enc] at h;rcases Bool.eq_false_or_eq_true (A1 s1.rcv) with hc|hc
   ·have e:rxF s1={s1 with rcvd:=true,arrive:=s1.now}:=by simp only [rxF,hr,hc,and_self,if_true]
    rw [e];simp only [Jp,FB,H26,hy,BJ,vv2,vf,reduceCtorEq,reduceAdd,reduceEqDiff,lt_irrefl,hr1,h,hc]
   ·have e:rxF s1=s1:=by simp only [rxF,hc,false_eq_true,and_false,if_false]
    rw [e];simp only [Jp,FB,H26,hy,BJ,vv2,vf,reduceCtorEq,reduceAdd,reduceEqDiff,lt_irrefl,hr1,h,hc]
theorem hd_26 (g:Gh) (s:Ses) (v:Nat) (x:Seg) (f1 f2 f3:AI) (e00:List AV) (g00:Gh) (s00:Ses) (hd:Bs s.dat) (hw:(DZ s.rcv x).2.2=0) (hb:Bud (DZ s.rcv x).2.1.length s) :
  Ev fun n=>∀z again,G2 n (fI C n) (e00,H26 f1 f2 f3 g00 s00 []) z (BI g s v (some x)) again=again (BI (rxG g s x) (DO (rxX s x)).1 (v+1) (DO (rxX s x)).2):=by
 have key:=tkD_26 (rxG g s x) (rxX s x) v x (by rw [Ey];exact hd);have k146:=s146 s.rcv x;unfold rxG rxX rxH at key ⊢;generalize DZ s.rcv x=w at hw hb k146 key ⊢;obtain ⟨a,l,e⟩:=w;simp only at hw hb key ⊢;subst hw;have kl:=rp_26 g {s with rcv:=a} v x a l [tI a.ses,tI a.tot,.sl 2 (a.known.map Span.enc),.str a.data,.sl 8 (l.map Seg.enc),tI 0] rfl f1 f2 f3 e00 g00 s00 (hb.of rfl rfl rfl rfl rfl rfl rfl rfl);simp only [ML,Rcv.enc,Seg.enc,cons_append,nil_append] at k146;refine (k146.and (kl.and key)).mono fun n h z again => ?_;obtain ⟨h,h2,h3⟩:=h;have h3:=fun e1 hp=>h3 again e1 hp;simp only [BI,H26,isSome_some,Option.getD_some,FB,Seg.enc] at h2 h3 ⊢;simp only [G2,H26,BJ,vv2,vf,reduceCtorEq,reduceAdd,reduceEqDiff,Jy,IC,getElem?_cons_zero,h,bne_self_eq_false,h2,h3]
theorem l32_26:G2=G2:=rfl
theorem dp_26 {P:Ses→Prop} (hP:RxP P) (q:RS) (h:q.inv P) (f1 f2 f3:AI) (e00:List AV) (g00:Gh) (s00:Ses) :
  Ev fun n=>∀z,AH (fun p again=>G2 n (fI C n) (e00,H26 f1 f2 f3 g00 s00 []) z p again) n (BI q.g q.s q.v q.o)=z ([],H26 E0 E0 E0 q.res.1 q.res.2 []):=by
 refine CB (R:=List Tree) (Z:=List AV×Heap→Option (List Tree)) (Q:=Gh×Ses) (B:=fun n z p again=>G2 n (fI C n) (e00,H26 f1 f2 f3 g00 s00 []) z p again) (r:=q.res)
  (fun z r=>z ([],H26 E0 E0 E0 r.1 r.2 [])) (fun q:RS=>BI q.g q.s q.v q.o) RS.step (RS.inv P) (fun q=>q.s.dat.frames.length+(if q.o.isSome then 1 else 0)) RS.res q rfl h rfl
  (fun q hI => ?_) (fun q q' hI hs=>RS.sound hP q q' hI hs) (fun q hI=>RS.fin hP q hI)
 obtain ⟨g,s,v,o⟩:=q;cases o with
 |none=>
  refine Ev.of fun n z again => ?_;simp only [BI,isSome_none,G2,H26,BJ,vv2,vf,reduceCtorEq,reduceAdd,reduceEqDiff,RS.step,Rd.Ar]
 |some x=>
  obtain ⟨h1,h2,h3,h4⟩:=hI;refine (hd_26 g s v x f1 f2 f3 e00 g00 s00 h1 h2 h3).mono fun n h z again => ?_;simp only [RS.step,Rd.AT];exact h z again
theorem rx_26 {P:Ses→Prop} (hP:RxP P) (g:Gh) (s:Ses) (f1 f2 f3:AI) (h:P s) :
  Ev fun n=>∀again,Zw n (fI C n) again ([.ptr 7 0],H26 f1 f2 f3 g s [])=again ([],H26 E0 E0 E0 (rxT s.dat.frames.length (g,s)).1 (rxS s.dat.frames.length s) []):=by
 have hr:=hP.dat s h;obtain ⟨i1,i2⟩:=RS.take hP h g 0;have key:=dp_26 hP _ i1 f1 f2 f3 [.ptr 7 0] g s;rw [i2,QQ] at key;simp only at key;cases hf:s.dat.frames with
 |nil=>
  have hn:A0 s.dat=none:=by simp [A0,hf]
  have e:DO s=(s,none):=by simp only [DO,hf]
  rw [e] at key;rw [hf] at key;refine ((Hn s.dat hr).and key).mono fun n h again => ?_;obtain ⟨h,k⟩:=h;rw [hn] at h;simp only [BL.enc,DX] at h;have k:=k again;simp only [BI,H26,isSome_none,getD_none,Jx,Seg.enc,map_nil] at k;simp only [TM,S6,RC,H26,BJ,vv2,vf,reduceCtorEq,reduceAdd,reduceEqDiff,h,k]
 |cons f l=>
  have hn:A0 s.dat=some f.arr:=by simp [A0,hf]
  by_cases ha:f.arr=s.now
  ·have e:DO s=(BF s,some f.seg):=by simp only [DO,hf,ha,if_true]
   rw [e] at key;rw [hf] at key;refine ((Hn s.dat hr).and ((s158 s.dat hr f l hf).and key)).mono fun n h again => ?_;obtain ⟨h,h2,k⟩:=h;rw [hn,ha] at h;simp only [BL.enc,DX] at h h2;have hx:BF s={s with dat:=⟨s.dat.rng,l,s.dat.sent,s.dat.lost⟩}:=by simp only [BF,hf,tail_cons]
   have k:=k again;simp only [BI,H26,isSome_some,Option.getD_some,Seg.enc,hx] at k;simp only [TM,S6,RC,l32_26,H26,BJ,vv2,vf,reduceCtorEq,reduceAdd,reduceEqDiff,h,h2,bne_self_eq_false,k]
  ·have ha':(f.arr != s.now)=true:=by simpa using ha
   have e:DO s=(s,none):=by simp only [DO,hf,ha,if_false]
   rw [e] at key;rw [hf] at key;refine ((Hn s.dat hr).and key).mono fun n h again => ?_;obtain ⟨h,k⟩:=h;rw [hn] at h;simp only [BL.enc,DX] at h;have k:=k again;simp only [BI,H26,isSome_none,getD_none,Jx,Seg.enc,map_nil] at k;simp only [TM,S6,RC,H26,BJ,vv2,vf,reduceCtorEq,reduceAdd,reduceEqDiff,h,ha',k]
end Ab
set_option linter.unusedVariables false
set_option linter.unusedSimpArgs false
set_option maxRecDepth 100000
namespace Ab
open Go
theorem stp_26 {W P1 P2:Ses→Prop} {μ:Ses→Nat} (hR:XK W P1 P2 μ) (g:Gh) (s:Ses) (t:Int) (h:W s) (ht:nxS s=some t) (f1 f2 f3:AI) (e00:List AV) (g00:Gh) (s00:Ses) :
  Ev fun n=>∀z again,OQ n (fI C n) (e00,H26 f1 f2 f3 g00 s00 []) z (DT (nxS s),H26 E0 E0 E0 g s []) again=again (DT (nxS (stS s t)),H26 E0 E0 E0 (stT (g,s) t).1 (stS s t) []):=by
 have k0:=tx_26 g {s with now:=t} (.row true (AI.ver f1) 15 (Bj f1)) (.row true (AI.ver f2) 4 (Bj f2)) (.row true (AI.ver f3) 4 (Bj f3)) (hR.tx s t h ht);have k1:=rx_26 hR.rx (g1T g s t) (ph1 s t) (.row true (AI.ver f1) 15 (Bj f1)) (.row true (AI.ver f2) 4 (Bj f2)) (.row true (AI.ver f3) 4 (Bj f3)) (hR.p1 s t h ht);have k2:=ls_26 hR.ls (g2T g s t) (ph2 s t) (.row true (AI.ver f1) 15 (Bj f1)) (.row true (AI.ver f2) 4 (Bj f2)) (.row true (AI.ver f3) 4 (Bj f3)) (hR.p2 s t h ht);have hx:=hR.ex s t h ht;have k3:=ex_26 (g3T g s t) (ph3 s t) (.row true (AI.ver f1) 15 (Bj f1)) (.row true (AI.ver f2) 4 (Bj f2)) (.row true (AI.ver f3) 4 (Bj f3)) hx.ent hx.ack hx.pl hx.w;obtain ⟨n1,n2,n3⟩:=hR.nx _ (hR.st s t h ht).1;have k4:=nx_26 (exG (g3T g s t) (ph3 s t)) (stS s t) (.row true (AI.ver f1) 15 (Bj f1)) (.row true (AI.ver f2) 4 (Bj f2)) (.row true (AI.ver f3) 4 (Bj f3)) n1 n2 n3;refine (k0.and (k1.and (k2.and (k3.and (k4.and (Ev.ge 5)))))).mono fun n hh z again => ?_;obtain ⟨k0,k1,k2,k3,k4,hn⟩:=hh;have q:AH (fun p again'=>Jo n (fI C n) (e00,H26 f1 f2 f3 g00 s00 []) again p again') n ([.t (tI 0)],H26 E0 E0 E0 g {s with now:=t} [])=again (DT (nxS (stS s t)),H26 E0 E0 E0 (exG (g3T g s t) (ph3 s t)) (stS s t) []):=by
  refine Tn _ _ ([.t (tI 1)],H26 E0 E0 E0 (g1T g s t) (ph1 s t) []) ([.t (tI 2)],H26 E0 E0 E0 (g2T g s t) (ph2 s t) []) ([.t (tI 3)],H26 E0 E0 E0 (g3T g s t) (ph3 s t) []) ([.t (tI 4)],H26 E0 E0 E0 (exG (g3T g s t) (ph3 s t)) (stS s t) []) _ n hn (fun ag => ?_) (fun ag => ?_) (fun ag => ?_) (fun ag => ?_) (fun ag => ?_)
  ·have k0:=fun ag=>k0 ag;simp only [H26] at k0;simp only [Jo,IW,H26,BJ,vv2,vf,reduceCtorEq,reduceAdd,reduceEqDiff,(show ¬(0:Int)=((3:Nat):Int) by omega),(show ¬(0:Int)=((2:Nat):Int) by omega),(show ¬(0:Int)=((1:Nat):Int) by omega),(show (0:Int)=((0:Nat):Int) by omega),(show (0:Int)<4 by omega),(show (0:Int)≤0 by omega),k0];rfl
  ·have k1:=fun ag=>k1 ag;simp only [H26] at k1;simp only [Jo,IW,H26,BJ,vv2,vf,reduceCtorEq,reduceAdd,reduceEqDiff,(show ¬(1:Int)=((3:Nat):Int) by omega),(show ¬(1:Int)=((2:Nat):Int) by omega),(show (1:Int)=((1:Nat):Int) by omega),(show (1:Int)<4 by omega),(show (0:Int)≤1 by omega),k1];rfl
  ·have k2:=fun ag=>k2 ag;simp only [H26] at k2;simp only [Jo,IW,H26,BJ,vv2,vf,reduceCtorEq,reduceAdd,reduceEqDiff,(show ¬(2:Int)=((3:Nat):Int) by omega),(show (2:Int)=((2:Nat):Int) by omega),(show (2:Int)<4 by omega),(show (0:Int)≤2 by omega),k2];rfl
  ·have k3:=fun ag=>k3 ag;simp only [H26] at k3;simp only [Jo,IW,H26,BJ,vv2,vf,reduceCtorEq,reduceAdd,reduceEqDiff,(show (3:Int)=((3:Nat):Int) by omega),(show (3:Int)<4 by omega),(show (0:Int)≤3 by omega),k3];rfl
  ·have k4:=fun ag=>k4 ag;simp only [H26] at k4;simp only [Jo,Ze,H26,BJ,vv2,vf,reduceCtorEq,reduceAdd,reduceEqDiff,(show ¬(4:Int)<4 by omega),k4,DT]
 rw [ht];simp only [H26] at q;simp only [OQ,DT,Option.getD_some,isSome_some,H26,BJ,vv2,vf,reduceCtorEq,reduceAdd,reduceEqDiff];exact q
theorem rn_26 {W P1 P2:Ses→Prop} {μ:Ses→Nat} (hR:XK W P1 P2 μ) (g:Gh) (s:Ses) (f1 f2 f3:AI) (h:W s) :
  Ev fun n=>∀again,WG n (fI C n) again ([.ptr 7 0],H26 f1 f2 f3 g s [])=again ([],H26 E0 E0 E0 (rnT (μ s) (g,s)).1 (Hr (μ s) s) []):=by
 have key:=CB (R:=List Tree) (Z:=List AV×Heap→Option (List Tree)) (Q:=Gh×Ses) (B:=fun n z p again=>OQ n (fI C n) ([.ptr 7 0],H26 f1 f2 f3 g s []) z p again)
  (s:=((DT (nxS s),H26 E0 E0 E0 g s []):List AV×Heap)) (r:=rnT (μ s) (g,s))
  (fun z r=>z ([],H26 E0 E0 E0 r.1 r.2 [])) (fun q:Gh×Ses=>((DT (nxS q.2),H26 E0 E0 E0 q.1 q.2 []):List AV×Heap)) (fun q=>match nxS q.2 with
   |none =>.done q
   |some t =>.next (stT q t)) (fun q=>W q.2) (fun q=>μ q.2) (fun q=>rnT (μ q.2) q) (g,s) rfl h rfl
  (fun q hI => ?_) (fun q q' hI hs => ?_) (fun q hI => ?_)
 ·obtain ⟨n1,n2,n3⟩:=hR.nx s h;have k4:=nx_26 g s (.row true (AI.ver f1) 15 (Bj f1)) (.row true (AI.ver f2) 4 (Bj f2)) (.row true (AI.ver f3) 4 (Bj f3)) n1 n2 n3;refine (key.and k4).mono fun n hh again => ?_;obtain ⟨k,k4⟩:=hh;have k:=k again;rw [QR] at k;simp only [H26,DT] at k k4;simp only [tC26_8,ZN,Zd,H26,BJ,vv2,vf,reduceCtorEq,reduceAdd,reduceEqDiff,k4,k]
 ·obtain ⟨g1,s1⟩:=q;simp only at hI ⊢;cases hn:nxS s1 with
  |none=>
   refine Ev.of fun n z again => ?_;simp only [OQ,DT,getD_none,isSome_none,H26,BJ,vv2,vf,reduceCtorEq,reduceAdd,reduceEqDiff,Rd.Ar]
  |some t=>
   have:=stp_26 hR g1 s1 t hI hn f1 f2 f3 [.ptr 7 0] g s;rw [hn] at this;refine this.mono fun n h z again => ?_;simp only [Rd.AT];exact h z again
 ·cases hn:nxS q.2 with
  |none=>rw [hn] at hs;cases hs
  |some t=>
   rw [hn] at hs;cases hs;exact hR.st q.2 t hI hn
 ·cases hn:nxS q.2 with
  |none=>
   cases hm:μ q.2 with
   |zero=>rfl
   |succ m=>simp only [rnT,hn,Rd.fin]
  |some t=>
   obtain ⟨h1,h2⟩:=hR.st q.2 t hI hn;simp only [Rd.fin];cases hm:μ q.2 with
   |zero=>omega
   |succ m=>
    simp only [rnT,hn];exact Gf hR m (stT q t) h1 (by simp only [stT];omega)
end Ab
set_option linter.unusedVariables false
set_option linter.unusedSimpArgs false
set_option maxRecDepth 100000
namespace Ab
open Go
theorem s26 {W P1 P2:Ses→Prop} {μ:Ses→Nat} (hR:XK W P1 P2 μ) (c:Con) (b e:Int) (d:ByteArray) (ps:List Int) (lim:Int) (dk:List Span) (hW:Kf c b e d ps lim dk=0→W (ini c b e d ps lim dk)) (hL:Kf c b e d ps lim dk=0→ -9223372036854775808≤(Hr (μ (ini c b e d ps lim dk)) (ini c b e d ps lim dk)).dat.lost+(Hr (μ (ini c b e d ps lim dk)) (ini c b e d ps lim dk)).rep.lost∧(Hr (μ (ini c b e d ps lim dk)) (ini c b e d ps lim dk)).dat.lost+(Hr (μ (ini c b e d ps lim dk)) (ini c b e d ps lim dk)).rep.lost<9223372036854775808) :
  AL C 26 (IH c b e d ps lim dk) (if Kf c b e d ps lim dk=0 then Th (Hr (μ (ini c b e d ps lim dk)) (ini c b e d ps lim dk)) else [.bool false,tI 0,.bool false,tI 0,tI 0,tI 0,tI 0,tI (Kf c b e d ps lim dk)]):=by
 unfold IH Kf at *;refine AL.of (fun n=>e26 n _ _ _ _ _ _ _ _ _ _ _ _ _) ?_;by_cases h1:1000<ps.length
 ·refine Ev.of fun n => ?_;simp only [h1,vv2,vf,reduceCtorEq,reduceAdd,reduceEqDiff,(show (1000:Int)<(ps.length:Int) by omega),(show ¬(4:Int)=0 by omega)]
 ·have h1':¬(1000:Int)<(ps.length:Int):=by omega
  by_cases h2:lim < -1
  ·refine Ev.of fun n => ?_;simp only [h1,h1',h2,vv2,vf,reduceCtorEq,reduceAdd,reduceEqDiff,(show ¬(2:Int)=0 by omega)]
  ·by_cases h3:A8 dk=0
   ·by_cases h4:(Aq c 0 d b e).2.2=0
    ·have hr:=PA h4;simp only [h1,h2,h3,h4,if_false,ne_eq,not_true_eq_false,if_true] at hW hL ⊢;have hL:=hL trivial;have kr:=rn_26 hR ⟨0,0,0,[]⟩ (ini c b e d ps lim dk) (.row true 0 15 [(ini c b e d ps lim dk).snd.enc]) (.row true 0 4 [[tI c.rng,.sl 10 [],tI 0,tI 0]]) (.row true 0 4 [[tI 0,tI (-1),.sl 2 [],.str (ByteArray.mk #[])]]) (hW trivial);refine ((s67 dk).and ((Ri c 0 d b e).and ((s69 c.rng hr).and ((s70 0).and kr)))).mono fun n hh => ?_;obtain ⟨k1,k2,k3,k4,kr⟩:=hh;have k4':SH 0=(⟨0,-1,[],ByteArray.mk #[]⟩,0):=rfl;rw [k4'] at k4;simp only [BR,h4,Con.enc,Snd.enc,Rcv.enc,cons_append,nil_append,map_nil] at k2 k4;simp only [h1',h2,h3,k1,k2,k3,k4,vv2,vf,reduceCtorEq,reduceAdd,reduceEqDiff,bne_self_eq_false];refine (kr _).trans ?_;generalize Hr (μ (ini c b e d ps lim dk)) (ini c b e d ps lim dk)=fs at hL ⊢;generalize (rnT (μ (ini c b e d ps lim dk)) (⟨0,0,0,[]⟩,ini c b e d ps lim dk)).1=g;simp only [UX,Th,H26,BJ,vv2,vf,reduceCtorEq,reduceAdd,reduceEqDiff,AP hL.1 hL.2]
    ·have h4':((Aq c 0 d b e).2.2 != 0)=true:=by simpa using h4
     refine ((s67 dk).and (Ri c 0 d b e)).mono fun n hh => ?_;obtain ⟨k1,k2⟩:=hh;simp only [BR,Con.enc,Snd.enc,cons_append,nil_append] at k2;simp only [h1,h1',h2,h3,h4,k1,k2,h4',vv2,vf,reduceCtorEq,reduceAdd,reduceEqDiff,bne_self_eq_false,ne_eq,not_true_eq_false]
   ·have h3':(A8 dk != 0)=true:=by simpa using h3
    refine (s67 dk).mono fun n k1 => ?_;simp only [h1,h1',h2,h3,k1,h3',vv2,vf,reduceCtorEq,reduceAdd,reduceEqDiff,ne_eq,not_false_eq_true,(show ¬(1:Int)=0 by omega)]
end Ab
set_option maxRecDepth 100000
set_option linter.unusedVariables false
namespace Ab
open Go Go.Proofs
theorem e13 (n:Nat) (a0:Int) (a1:Int) (a2:Int) (a3:Int) (a4:Int) (a5:Int) (a6:Int) (a7:Int) (a8:Int) (a9:ByteArray) (a10:List (List Tree)) (a11:Int) (a12:List (List Tree)):AA C (n+1) 13 [tI a0,tI a1,tI a2,tI a3,tI a4,tI a5,tI a6,tI a7,tI a8,Tree.str a9,Tree.sl 1 a10,tI a11,Tree.sl 2 a12]=
 Option.bind (AA C n 26 [tI a0,tI a1,tI a2,tI a3,tI a4,tI a5,tI a6,tI a7,tI a8,Tree.str a9,Tree.sl 1 a10,tI a11,Tree.sl 2 a12]) fun y13=>cnd (length y13 =
 (8:Nat)) (cnd (okB y13 0) (cnd (okI y13 1) (cnd (okB y13 2) (cnd (okI y13 3) (cnd (okI y13 4) (cnd (okI y13 5) (cnd (okI y13 6) (cnd (okI y13 7) (some [Tree.bool (gB y13 0),tI (gI y13 1),Tree.bool
 (gB y13 2),tI (gI y13 3),tI (gI y13 4),tI (gI y13 5),tI (gI y13 6),tI (gI y13 7)]) none) none) none) none) none) none) none) none) none:=by kernel_rfl
end Ab
set_option linter.unusedVariables false
set_option linter.unusedSimpArgs false
set_option maxRecDepth 100000
namespace Ab
open Go
def Qu (r:Int):Int:=if (if 1048576<r then 1048576 else r)>0 then (if 1048576<r then 1048576 else r) else 0
def Qj (p:Par):Bool:=decide (120<p.d.size∨(60<p.ps.length∧p.ps.length≤1000)∨20<p.dk.length∨p.e>w64 (p.b+w64 (40*w64 (w64 (2*Qu p.c.rng)+1))))
def HQ (p:Par):List Tree:=IH p.c p.b p.e p.d p.ps p.lim p.dk
def JE (p:Par):Int:=Kf p.c p.b p.e p.d p.ps p.lim p.dk
theorem s11 (p:Par):AL C 11 (HQ p) [.bool (Qj p)]:=by
 unfold HQ IH;refine AL.of (fun n=>e11 n _ _ _ _ _ _ _ _ _ _ _ _ _) (Ev.of fun n => ?_);unfold Qj;simp only [length_map];have e:(if (if (1048576:Int)<p.c.rng then (1048576:Int) else p.c.rng)>(0:Int) then (if (1048576:Int)<p.c.rng then (1048576:Int) else p.c.rng) else (0:Int))=Qu p.c.rng:=rfl;rw [e];by_cases h1:120<p.d.size
 ·simp only [vv,vf,reduceCtorEq,reduceAdd,reduceEqDiff,h1,(show (p.d.size:Int)>120 by omega)]
 ·by_cases h2:60<p.ps.length
  ·by_cases h3:p.ps.length≤1000
   ·simp only [vv,vf,reduceCtorEq,reduceAdd,reduceEqDiff,h1,h2,h3,(show ¬(120:Int)<(p.d.size:Int) by omega),(show (60:Int)<(p.ps.length:Int) by omega),(show (p.ps.length:Int)≤1000 by omega)]
   ·by_cases h4:20<p.dk.length
    ·simp only [vv,vf,reduceCtorEq,reduceAdd,reduceEqDiff,h1,h2,h3,h4,(show ¬(120:Int)<(p.d.size:Int) by omega),(show (60:Int)<(p.ps.length:Int) by omega),(show ¬(p.ps.length:Int)≤1000 by omega),(show (20:Int)<(p.dk.length:Int) by omega)]
    ·simp only [vv,vf,reduceCtorEq,reduceAdd,reduceEqDiff,h1,h2,h3,h4,(show ¬(120:Int)<(p.d.size:Int) by omega),(show (60:Int)<(p.ps.length:Int) by omega),(show ¬(p.ps.length:Int)≤1000 by omega),(show ¬(20:Int)<(p.dk.length:Int) by omega)]
  ·by_cases h4:20<p.dk.length
   ·simp only [vv,vf,reduceCtorEq,reduceAdd,reduceEqDiff,h1,h2,h4,(show ¬(120:Int)<(p.d.size:Int) by omega),(show ¬(60:Int)<(p.ps.length:Int) by omega),(show (20:Int)<(p.dk.length:Int) by omega)]
   ·simp only [vv,vf,reduceCtorEq,reduceAdd,reduceEqDiff,h1,h2,h4,(show ¬(120:Int)<(p.d.size:Int) by omega),(show ¬(60:Int)<(p.ps.length:Int) by omega),(show ¬(20:Int)<(p.dk.length:Int) by omega)]
def KP (p:Par):List Tree:=if JE p=0 then Th (JD p) else [.bool false,tI 0,.bool false,tI 0,tI 0,tI 0,tI 0,tI (JE p)]
theorem Gu {p:Par} (h:JE p=0):p.ps.length≤1000∧ -1≤p.lim∧A8 p.dk=0∧(Aq p.c 0 p.d p.b p.e).2.2=0:=by
 unfold JE Kf at h;split at h
 ·omega
 ·split at h
  ·omega
  ·split at h
   ·omega
   ·rename_i h1 h2 h3;exact ⟨by omega,by omega,by omega,h⟩
theorem SY {p:Par} (hp:POk p) (h:JE p=0):0≤(JD p).dat.lost∧0≤(JD p).rep.lost∧(JD p).dat.lost+(JD p).rep.lost≤(JD p).entered∧(JD p).entered≤5000:=by have hw:=(fin_ok hp (Gu h).2.2.2).2.1.i;have:=hw.gd.lost;have:=hw.gr.lost;have:=hw.c1;have:=hw.small hp;omega
theorem s26P (p:Par) (hp:JE p=0→POk p):AL C 26 (HQ p) (KP p):=by
 by_cases h:JE p=0
 ·have hok:=hp h;have hl:=SY hok h;have:=s26 (runP hok) p.c p.b p.e p.d p.ps p.lim p.dk (fun _=>Tu hok (Gu h).2.2.2) (fun _=>by show _≤(JD p).dat.lost+(JD p).rep.lost∧(JD p).dat.lost+(JD p).rep.lost<_;omega);exact this
 ·have h0:¬Kf p.c p.b p.e p.d p.ps p.lim p.dk=0:=h;have:=s26 (W:=fun _=>False) (P1:=fun _=>False) (P2:=fun _=>False) (μ:=fun _=>0) ⟨⟨fun _ h=>h.elim,fun _ _ _ h=>h.elim⟩,⟨fun _ h=>h.elim,fun _ h=>h.elim,fun _ _ _ h=>h.elim⟩,fun _ h=>h.elim,fun _ _ h=>h.elim,fun _ _ h=>h.elim,fun _ _ h=>h.elim,fun _ _ h=>h.elim,fun _ _ h=>h.elim⟩ p.c p.b p.e p.d p.ps p.lim p.dk (fun q=>(h0 q).elim) (fun q=>(h0 q).elim);rw [if_neg h0] at this;unfold KP;rw [if_neg h];exact this
theorem s13P (p:Par) (hp:JE p=0→POk p):AL C 13 (HQ p) (KP p):=by
 have k:=s26P p hp;by_cases h0:JE p=0
 ·have e:KP p=Th (JD p):=if_pos h0;rw [e] at k ⊢;unfold Th at k ⊢;unfold HQ IH at k ⊢;refine AL.of (fun n=>e13 n _ _ _ _ _ _ _ _ _ _ _ _ _) ?_;refine k.mono fun n h => ?_;simp only [Con.enc,cons_append,nil_append] at h;simp only [h,vv,vf,reduceCtorEq,reduceAdd,reduceEqDiff]
 ·have e:KP p=[.bool false,tI 0,.bool false,tI 0,tI 0,tI 0,tI 0,tI (JE p)]:=if_neg h0;rw [e] at k ⊢;unfold HQ IH at k ⊢;refine AL.of (fun n=>e13 n _ _ _ _ _ _ _ _ _ _ _ _ _) ?_;refine k.mono fun n h => ?_;simp only [Con.enc,cons_append,nil_append] at h;simp only [h,vv,vf,reduceCtorEq,reduceAdd,reduceEqDiff]
theorem QX {p:Par} (hg:Qj p=false) (hpk:∀x∈p.ps,-9223372036854775808≤x∧x≤9223372036854775807) (h:JE p=0):POk p:=by
 obtain ⟨h1,h2,h3,h4⟩:=Gu h;have hg:=of_decide_eq_false hg;have hS:=h4;unfold Aq at hS;split at hS
 ·simp [Bg] at hS
 rename_i g1;have g1:HX p.c=0:=by simpa using g1
 rw [if_neg (by omega)] at hS;split at hS
 ·simp [Bg] at hS
 rw [if_neg (by omega)] at hS;split at hS
 ·simp [Bg] at hS
 rename_i g2 g3;obtain ⟨c1,c2⟩:=ED g1;unfold F1 at c1;have hcl:Qu p.c.rng=p.c.rng:=by have e:(if (1048576:Int)<p.c.rng then (1048576:Int) else p.c.rng)=p.c.rng:=if_neg (by omega);unfold Qu;rw [e,if_pos (by omega)]
 rw [hcl,AP (x:=2*p.c.rng) (by omega) (by omega),AP (x:=2*p.c.rng+1) (by omega) (by omega),AP (x:=40*(2*p.c.rng+1)) (by omega) (by omega),AP (x:=p.b+40*(2*p.c.rng+1)) (by omega) (by omega)] at hg;refine ⟨g1,by omega,by omega,hpk,h1,fun k k1 k2 =>.inl ?_⟩;have hk:k≤40:=by refine Classical.byContradiction fun q => ?_;have:40*(2*p.c.rng+1)≤(k-1)*(2*p.c.rng+1):=Int.mul_le_mul_of_nonneg_right (by omega) (by omega);omega
 have:((p.d.size:Int)+1)*k≤121*k:=Int.mul_le_mul_of_nonneg_right (by omega) (by omega);omega
end Ab
set_option linter.unusedVariables false
set_option linter.unusedSimpArgs false
set_option maxRecDepth 100000
namespace Ab
open Go
def exC:Con:=⟨0,1,10,60,4,5,1⟩
def exD:ByteArray:=⟨(Go.Lib.repeatL [120] 20).toArray⟩
def ex1:Par:=⟨exC,10,36,exD,[],-1,[]⟩
def ex2:Par:=⟨exC,10,36,exD,[7,0,0,0,0,0],1,[]⟩
def ex3:Par:=⟨exC,10,36,exD,[0,0,7,0,0,0],1,[]⟩
theorem ex1_out:KP ex1=[.bool true,tI 24,.bool true,tI 29,tI 19,tI 3,tI 0,tI 0]:=by kernel_rfl
theorem ex2_out:KP ex2=[.bool true,tI 40,.bool true,tI 45,tI 35,tI 5,tI 1,tI 0]:=by kernel_rfl
theorem ex3_out:KP ex3=[.bool true,tI 24,.bool true,tI 43,tI 33,tI 5,tI 1,tI 0]:=by kernel_rfl
theorem T2:(∀h:JE ex1=0,POk ex1)∧(∀h:JE ex2=0,POk ex2)∧(∀h:JE ex3=0,POk ex3):=
 ⟨QX (by decide +kernel) (by decide),QX (by decide +kernel) (by decide),QX (by decide +kernel) (by decide)⟩
theorem s25x:AL C 25 [.str (ByteArray.mk #[120]),tI 20] [.str exD]:=AL.of (g:=fun _=>some [.str exD]) (fun n=>by kernel_rfl) (Ev.of fun _=>rfl)
theorem s12:AL C 12 [] [.bool true]:=by refine AL.of (fun n=>e12 n) ?_;have a:=s26P ex1 T2.1;have b:=s26P ex2 T2.2.1;have c:=s26P ex3 T2.2.2;rw [ex1_out] at a;rw [ex2_out] at b;rw [ex3_out] at c;refine (s25x.and (a.and (b.and c))).mono fun n h => ?_;obtain ⟨h1,h2,h3,h4⟩:=h;simp only [HQ,IH,ex1,ex2,ex3,exC,Con.enc,Az,map_nil,map_cons,cons_append,nil_append] at h2 h3 h4;simp only [h1,h2,h3,h4,vv,vf,reduceCtorEq,reduceAdd,reduceEqDiff,J12_1,J12_2,beq_self_eq_true,Bool.and_self]
end Ab
set_option linter.unusedVariables false
set_option linter.unusedSimpArgs false
set_option maxRecDepth 100000
namespace Ab
open Go
theorem s14P (p:Par) (hp:JE p=0→POk p):AL C 14 (HQ p) (KP p):=by
 by_cases h:JE p=0
 ·have hok:=hp h;have hl:=SY hok h;have k:=s14 (runQ hok) p.c p.b p.e p.d p.ps p.lim p.dk (fun _=>Tu hok (Gu h).2.2.2);have e:KP p=Tg (JD p):=by unfold KP Th Tg;rw [if_pos h,AP (by omega) (by omega)]
  have h0:Kf p.c p.b p.e p.d p.ps p.lim p.dk=0:=h;rw [if_pos h0] at k;rw [e];exact k
 ·have h0:¬Kf p.c p.b p.e p.d p.ps p.lim p.dk=0:=h;have:=s14 runQ0 p.c p.b p.e p.d p.ps p.lim p.dk (fun q=>(h0 q).elim);rw [if_neg h0] at this;unfold KP;rw [if_neg h];exact this
theorem Wf (p:Par):∃b1 i2 b3 i4 i5 i6 i7 i8,KP p=[.bool b1,tI i2,.bool b3,tI i4,tI i5,tI i6,tI i7,tI i8]:=by unfold KP Th;split<;>exact ⟨_,_,_,_,_,_,_,_,rfl⟩
theorem lwRun (p:Par) (hpk:∀x∈p.ps,-9223372036854775808≤x∧x≤9223372036854775807):AL C 3 (HQ p) [.bool true]:=by
 have k11:=s11 p;cases hg:Qj p with
 |true=>
  rw [hg] at k11;unfold HQ IH at k11 ⊢;refine AL.of (fun n=>e3 n _ _ _ _ _ _ _ _ _ _ _ _ _) ?_;refine (k11.and s12).mono fun n h => ?_;obtain ⟨h1,h2⟩:=h;simp only [Con.enc,cons_append,nil_append] at h1;simp only [h1,h2,vv,vf,reduceCtorEq,reduceAdd,reduceEqDiff]
 |false=>
  rw [hg] at k11;have hp:=QX hg hpk;have k13:=s13P p hp;have k14:=s14P p hp;obtain ⟨b1,i2,b3,i4,i5,i6,i7,i8,e⟩:=Wf p;rw [e] at k13 k14;unfold HQ IH at k11 k13 k14 ⊢;refine AL.of (fun n=>e3 n _ _ _ _ _ _ _ _ _ _ _ _ _) ?_;refine (k11.and (k13.and (k14.and s12))).mono fun n h => ?_;obtain ⟨h1,h2,h3,h4⟩:=h;simp only [Con.enc,cons_append,nil_append] at h1 h2 h3;simp only [h1,h2,h3,h4,vv,vf,reduceCtorEq,reduceAdd,reduceEqDiff,beq_self_eq_true,Bool.and_self]
end Ab
set_option linter.unusedVariables false
namespace Ab
open Go
variable {P:Program}
theorem WQ {d:Nat} {t:TypeId} {k:IntKind} (hu:P.underlying t=some (.int k)) {ts:List Tree} (h:Typed P d t ts):∃n,ts=[.int k n]∧(Lit.int k n).wf=true:=by
 cases d with
 |zero=>cases h
 |succ d=>unfold Typed at h;rw [hu] at h;exact h
theorem WO {d:Nat} {t:TypeId} (hu:P.underlying t=some .string) {ts:List Tree} (h:Typed P d t ts):∃s:ByteArray,ts=[.str s]∧s.size≤maxLen:=by
 cases d with
 |zero=>cases h
 |succ d=>unfold Typed at h;rw [hu] at h;exact h
theorem L7 {d:Nat} {t e:TypeId} (hu:P.underlying t=some (.slice e)) {ts:List Tree} (h:Typed P (d+1) t ts):∃es,ts=[.sl (P.cellsOf e) es]∧es.length≤maxLen∧∀x∈es,Typed P d e x:=by unfold Typed at h;rw [hu] at h;exact h
theorem QI {d:Nat} {t:TypeId} {fs:Array Field} (hu:P.underlying t=some (.struct fs)) {ts:List Tree} (h:Typed P (d+1) t ts):Fl (Typed P d) (fs.toList.map (·.type)) ts:=by unfold Typed at h;rw [hu] at h;exact h
def SZ (P:Program) (t:TypeId):Option (List TypeId):=
 match P.underlying t with
 |some (.struct fs)=>some (fs.toList.map (·.type))
 |_=>none
theorem GY {d:Nat} {t:TypeId} (l:List TypeId) (hu:SZ P t=some l) {ts:List Tree} (h:Typed P (d+1) t ts):Fl (Typed P d) l ts:=by
 unfold SZ at hu;split at hu
 ·rename_i fs hf;cases hu;exact QI hf h
 ·cases hu
theorem BE {Ty:TypeId→List Tree→Prop} {t:TypeId} {l:List TypeId} {ts:List Tree} (h:Fl Ty (t::l) ts):∃a b,ts=a++b∧Ty t a∧Fl Ty l b:=h
theorem GZ {Ty:TypeId→List Tree→Prop} {ts:List Tree} (h:Fl Ty [] ts):ts=[]:=h
theorem Gx {α:Type} {enc:α→List Tree} {p:α→Prop}:∀{es:List (List Tree)},(∀x∈es,∃a,x=enc a∧p a)→∃l:List α,es=l.map enc∧∀a∈l,p a
 |[],_=>⟨[],rfl,by simp⟩
 |x::es,h=>by
  obtain ⟨a,ha,pa⟩:=h x (by simp);obtain ⟨l,hl,pl⟩:=Gx (es:=es) fun y hy=>h y (by simp [hy]);refine ⟨a::l,by simp [ha,hl],fun b hb => ?_⟩;rcases mem_cons.1 hb with rfl|hb
  ·exact pa
  ·exact pl b hb
end Ab
set_option linter.unusedVariables false
set_option maxRecDepth 100000
namespace Ab
open Go Go.Proofs
theorem uInt:C.P.underlying 3=some (.int .i64):=by kernel_rfl
theorem uStr:C.P.underlying 9=some .string:=by kernel_rfl
def XL (n:Int):Prop := -9223372036854775808≤n∧n≤9223372036854775807
theorem Dj {d:Nat} {ts:List Tree} (h:Typed C.P d 3 ts):∃n,ts=[tI n]∧XL n:=by obtain ⟨n,h1,h2⟩:=WQ uInt h;refine ⟨n,h1,?_⟩;simp only [Lit.wf,and_eq_true,decide_eq_true_eq,show IntKind.i64.min = -9223372036854775808 from rfl,show IntKind.i64.max=9223372036854775807 from rfl] at h2;exact h2
theorem dec_str {d:Nat} {ts:List Tree} (h:Typed C.P d 9 ts):∃b:ByteArray,ts=[.str b]∧True:=by obtain ⟨b,h1,_⟩:=WO uStr h;exact ⟨b,h1,trivial⟩
theorem Y6 {d:Nat} {ts:List Tree} (h:Typed C.P (d+1) 45 ts):∃e:Span,ts=e.enc∧True:=by have h1:=GY (t:=45) [3,3] (by kernel_rfl) h;clear h;obtain ⟨_,t1,rfl,x1,g1⟩:=BE h1;obtain ⟨a1,rfl,k1⟩:=Dj x1;obtain ⟨_,t2,rfl,x2,g2⟩:=BE g1;obtain ⟨a2,rfl,k2⟩:=Dj x2;obtain rfl:=GZ g2;exact ⟨⟨a1,a2⟩,rfl,trivial⟩
theorem W0 {d:Nat} {ts:List Tree} (h:Typed C.P (d+2) 25 ts):∃l:List Span,ts=[.sl 2 (l.map Span.enc)]∧True:=by obtain ⟨es,rfl,_,h2⟩:=L7 (t:=25) (e:=45) (by kernel_rfl) h;obtain ⟨l,rfl,hl⟩:=Gx fun x hx=>Y6 (h2 x hx);exact ⟨l,by rw [show C.P.cellsOf 45=2 by kernel_rfl],trivial⟩
theorem Y7 {d:Nat} {ts:List Tree} (h:Typed C.P (d+2) 24 ts):∃l:List Int,ts=[.sl 1 (l.map Az)]∧∀n∈l,XL n:=by obtain ⟨es,rfl,_,h2⟩:=L7 (t:=24) (e:=3) (by kernel_rfl) h;obtain ⟨l,rfl,hl⟩:=Gx (enc:=Az) fun x hx=>Dj (h2 x hx);exact ⟨l,by rw [show C.P.cellsOf 3=1 by kernel_rfl],hl⟩
theorem dec_con {d:Nat} {ts:List Tree} (h:Typed C.P (d+1) 23 ts):∃e:Con,ts=e.enc∧True:=by have h1:=GY (t:=23) [3,3,3,3,3,3,3] (by kernel_rfl) h;clear h;obtain ⟨_,t1,rfl,x1,g1⟩:=BE h1;obtain ⟨a1,rfl,k1⟩:=Dj x1;obtain ⟨_,t2,rfl,x2,g2⟩:=BE g1;obtain ⟨a2,rfl,k2⟩:=Dj x2;obtain ⟨_,t3,rfl,x3,g3⟩:=BE g2;obtain ⟨a3,rfl,k3⟩:=Dj x3;obtain ⟨_,t4,rfl,x4,g4⟩:=BE g3;obtain ⟨a4,rfl,k4⟩:=Dj x4;obtain ⟨_,t5,rfl,x5,g5⟩:=BE g4;obtain ⟨a5,rfl,k5⟩:=Dj x5;obtain ⟨_,t6,rfl,x6,g6⟩:=BE g5;obtain ⟨a6,rfl,k6⟩:=Dj x6;obtain ⟨_,t7,rfl,x7,g7⟩:=BE g6;obtain ⟨a7,rfl,k7⟩:=Dj x7;obtain rfl:=GZ g7;exact ⟨⟨a1,a2,a3,a4,a5,a6,a7⟩,rfl,trivial⟩
structure Wd (p:Par):Prop where
 b:XL p.b
 e:XL p.e
 lim:XL p.lim
 pk:∀n∈p.ps,XL n
theorem Y8 {d:Nat} {ts:List Tree} (h:Typed C.P (d+3) 27 ts):∃p:Par,ts=HQ p∧Wd p:=by have h1:=GY (t:=27) [23,3,3,9,24,3,25] (by kernel_rfl) h;clear h;obtain ⟨_,t1,rfl,x1,g1⟩:=BE h1;obtain ⟨a1,rfl,k1⟩:=dec_con x1;obtain ⟨_,t2,rfl,x2,g2⟩:=BE g1;obtain ⟨a2,rfl,k2⟩:=Dj x2;obtain ⟨_,t3,rfl,x3,g3⟩:=BE g2;obtain ⟨a3,rfl,k3⟩:=Dj x3;obtain ⟨_,t4,rfl,x4,g4⟩:=BE g3;obtain ⟨a4,rfl,k4⟩:=dec_str x4;obtain ⟨_,t5,rfl,x5,g5⟩:=BE g4;obtain ⟨a5,rfl,k5⟩:=Y7 x5;obtain ⟨_,t6,rfl,x6,g6⟩:=BE g5;obtain ⟨a6,rfl,k6⟩:=Dj x6;obtain ⟨_,t7,rfl,x7,g7⟩:=BE g6;obtain ⟨a7,rfl,k7⟩:=W0 x7;obtain rfl:=GZ g7;exact ⟨⟨a1,a2,a3,a4,a5,a6,a7⟩,rfl,⟨k2,k3,k6,k5⟩⟩
theorem own:ownKnob Tryz.prog.godebug=none:=by kernel_rfl
end Ab
namespace Go.Proofs
open Go.Shelf
open Go.RowKit in
open Go.RowKit in
open Go.RowKit in
open Go.RowKit in
open Go.RowKit in
open Go.RowKit in
open Go.RowKit in
open Go.RowKit in
open Go.RowKit in
open Go.RowKit in
open Go.RowKit Go.Lib in
open Go.RowKit Go.Lib in
open Go.RowKit Go.Lib in
open Go.RowKit Go.Lib in
def Tryz.MG:Go.Shelf.Ren:=⟨fun|105=>25|212=>40|99=>41|165=>42|166=>43|170=>44|169=>45|263=>62|264=>63|206=>64|240=>65|241=>66|276=>89|277=>90|n=>n,fun|9=>9|3=>3|4=>4|20=>20|0=>0|46=>76|109=>77|5=>5|72=>83|76=>87|51=>114|146=>115|53=>117|148=>118|70=>80|37=>81|75=>86|127=>120|164=>139|80=>90|n=>n,fun|n=>n⟩
theorem Tryz.lays105:Go.Proofs.Lays.n105 Tryz.prog Tryz.MG:={
 mixed:=by kernel_rfl
 f99:=Tryz.func41.trans (congrArg some (by kernel_rfl))
 f105:=Tryz.func25.trans (congrArg some (by kernel_rfl))
 f165:=Tryz.func42.trans (congrArg some (by kernel_rfl))
 f166:=Tryz.func43.trans (congrArg some (by kernel_rfl))
 f169:=Tryz.func45.trans (congrArg some (by kernel_rfl))
 f170:=Tryz.func44.trans (congrArg some (by kernel_rfl))
 f206:=Tryz.func64.trans (congrArg some (by kernel_rfl))
 f212:=Tryz.func40.trans (congrArg some (by kernel_rfl))
 f240:=Tryz.func65.trans (congrArg some (by kernel_rfl))
 f241:=Tryz.func66.trans (congrArg some (by kernel_rfl))
 f263:=Tryz.func62.trans (congrArg some (by kernel_rfl))
 f264:=Tryz.func63.trans (congrArg some (by kernel_rfl))
 f276:=Tryz.func89.trans (congrArg some (by kernel_rfl))
 f277:=Tryz.func90.trans (congrArg some (by kernel_rfl))
 t0:=Tryz.underlying0
 a0:=Tryz.isAgg0
 z0:=Tryz.sizeOf0
 v0:=Tryz.zeroValue0
 t3:=Tryz.underlying3
 a3:=Tryz.isAgg3
 z3:=Tryz.sizeOf3
 v3:=Tryz.zeroValue3
 t4:=Tryz.underlying4
 a4:=Tryz.isAgg4
 z4:=Tryz.sizeOf4
 v4:=Tryz.zeroValue4
 t5:=Tryz.underlying5
 a5:=Tryz.isAgg5
 z5:=Tryz.sizeOf5
 v5:=Tryz.zeroValue5
 t9:=Tryz.underlying9
 a9:=Tryz.isAgg9
 z9:=Tryz.sizeOf9
 v9:=Tryz.zeroValue9
 t20:=Tryz.underlying20
 a20:=Tryz.isAgg20
 z20:=Tryz.sizeOf20
 v20:=Tryz.zeroValue20
 t37:=Tryz.underlying81
 a37:=Tryz.isAgg81
 z37:=Tryz.sizeOf81
 v37:=Tryz.zeroValue81
 t46:=Tryz.underlying76
 a46:=Tryz.isAgg76
 z46:=Tryz.sizeOf76
 v46:=Tryz.zeroValue76
 t51:=Tryz.underlying114
 a51:=Tryz.isAgg114
 z51:=Tryz.sizeOf114
 v51:=Tryz.zeroValue114
 t53:=Tryz.underlying117
 a53:=Tryz.isAgg117
 z53:=Tryz.sizeOf117
 v53:=Tryz.zeroValue117
 t70:=Tryz.underlying80
 a70:=Tryz.isAgg80
 z70:=Tryz.sizeOf80
 v70:=Tryz.zeroValue80
 t72:=Tryz.underlying83
 a72:=Tryz.isAgg83
 z72:=Tryz.sizeOf83
 v72:=Tryz.zeroValue83
 t75:=Tryz.underlying86
 a75:=Tryz.isAgg86
 z75:=Tryz.sizeOf86
 v75:=Tryz.zeroValue86
 t76:=Tryz.underlying87
 a76:=Tryz.isAgg87
 z76:=Tryz.sizeOf87
 v76:=Tryz.zeroValue87
 t109:=Tryz.underlying77
 a109:=Tryz.isAgg77
 z109:=Tryz.sizeOf77
 v109:=Tryz.zeroValue77
 t127:=Tryz.underlying120
 a127:=Tryz.isAgg120
 z127:=Tryz.sizeOf120
 v127:=Tryz.zeroValue120
 t146:=Tryz.underlying115
 a146:=Tryz.isAgg115
 z146:=Tryz.sizeOf115
 v146:=Tryz.zeroValue115
 t148:=Tryz.underlying118
 a148:=Tryz.isAgg118
 z148:=Tryz.sizeOf118
 v148:=Tryz.zeroValue118
 t164:=Tryz.underlying139
 a164:=Tryz.isAgg139
 z164:=Tryz.sizeOf139
 v164:=Tryz.zeroValue139}
theorem Tryz.K8:Builder.Extra Tryz.prog Tryz.MG:={
 sizeBuilder:=by kernel_rfl
 liesBuilder:=by kernel_rfl
 t5:=Tryz.underlying5
 a5:=Tryz.isAgg5
 z5:=Tryz.sizeOf5
 v5:=Tryz.zeroValue5
 infoByte:=by kernel_rfl
 cellsByte:=by kernel_rfl
 sizeByte:=by kernel_rfl
 neB5:=by decide}
open Go.RowKit Go.Lib in
open Go.RowKit Go.Lib in
open Go.RowKit Go.Lib in
open Go.RowKit Go.Lib in
open Go.RowKit Go.Lib in
open Go.RowKit Go.Lib in
open Go.RowKit Go.Lib in
theorem Tryz.strings_Repeat (s:ByteArray) (c:Nat) (w:World) (hc:c≤9223372036854775807) (hlen:s.size*c≤140737488355328) :
  Calls Tryz.prog 25 #[.string s,.int .i64 c] w fun e w'=>e = .returned (.string ⟨(Lib.repeatL s.data.toList c).toArray⟩)∧Below w.heap.size w w':=Any.strings_Repeat Tryz.lays105 Tryz.K8 s c w hc hlen
end Go.Proofs
namespace Ab
open Go Go.Proofs Go.Shelf Go.RowKit Go.Lib
set_option maxRecDepth 100000
theorem Ho {P:Program} {t key elem:TypeId} {kd:IntKind} (hu:P.underlying t=some (.map key elem)) (hk:P.underlying key=some (.int kd)) {w:World} {b:Nat} {es:Array MapEntry} {clock:Nat} (hb:w.heap[b]? = some (.map es clock)) (n:Int) (v:Value)
  (hnew:Instr.findNow (.int kd) (.int kd n) es.toList 0=some none) :
  (Instr.mapUpdate t (.map (some b)) (.int kd n) v).run P w = .ok () (w.putObj b (.map (es.push {key :=.int kd n,val:=v,born:=clock}) (clock+1))):=by
 have hck:(Instr.checkKey false 10000 key (.int kd n)).run P w = .ok () w:=by
  have:∀m:Nat,(Instr.checkKey false (m+1) key (.int kd n)).run P w = .ok () w:=fun m=>by simp [Instr.checkKey,run_underlying hk]
  exact this 9999
 simp only [Instr.mapUpdate,Sem.run_bind,run_underlying hu,Result.andThen_ok,JV hb,hck,Instr.findKey,run_underlying hk,hnew,Sem.run_pure];simp [setObj,Sem.run,hb,World.putObj]
theorem Nn (w:World):Calls Tryz.prog 165 #[] w fun e w'=>∃b,e = .returned (.map (some b))∧w.heap.size≤b∧b<w'.heap.size∧Below w.heap.size w w'∧∃es clock,w'.heap[b]? = some (.map es clock)∧es.toList.map (fun e=>(e.key,e.val))=[(.int .i64 2,.func (.func 186) #[] #[]),(.int .i64 3,.func (.func 187) #[] #[])]:=by
 have hmm:=@Go.run_makeMap_plain Tryz.prog;have hw0:(w.alloc (.map #[] 0)).heap[w.heap.size]? = some (.map #[] 0):=by show (w.heap.push (.map #[] 0))[w.heap.size]? = _;exact Array.getElem?_push_size
 have h1:(Instr.mapUpdate 191 (.map (some w.heap.size)) (.int .i64 2) (.func (.func 186) #[] #[])).run Tryz.prog (w.alloc (.map #[] 0))= .ok () ((w.alloc (.map #[] 0)).putObj w.heap.size (.map #[{key :=.int .i64 2,val :=.func (.func 186) #[] #[],born:=0}] 1)):=
  Ho (P:=Tryz.prog) (t:=191) (key:=3) (elem:=189) (kd :=.i64) (by kernel_rfl) (by kernel_rfl) hw0 2 (.func (.func 186) #[] #[]) rfl
 have hlt:=D2 hw0;have hw1:=World.putObj_heap_same (o :=.map #[{key :=.int .i64 2,val :=.func (.func 186) #[] #[],born:=0}] 1) hlt;have hlt2:=D2 hw1;have hw2:=World.putObj_heap_same (o :=.map #[{key :=.int .i64 2,val :=.func (.func 186) #[] #[],born:=0},{key :=.int .i64 3,val :=.func (.func 187) #[] #[],born:=1}] 2) hlt2;have hlt3:=D2 hw2;have h2:(Instr.mapUpdate 191 (.map (some w.heap.size)) (.int .i64 3) (.func (.func 187) #[] #[])).run Tryz.prog ((w.alloc (.map #[] 0)).putObj w.heap.size (.map #[{key :=.int .i64 2,val :=.func (.func 186) #[] #[],born:=0}] 1))= .ok () (((w.alloc (.map #[] 0)).putObj w.heap.size (.map #[{key :=.int .i64 2,val :=.func (.func 186) #[] #[],born:=0}] 1)).putObj w.heap.size (.map #[{key :=.int .i64 2,val :=.func (.func 186) #[] #[],born:=0},{key :=.int .i64 3,val :=.func (.func 187) #[] #[],born:=1}] 2)):=
  Ho (P:=Tryz.prog) (t:=191) (key:=3) (elem:=189) (kd :=.i64) (by kernel_rfl) (by kernel_rfl) hw1 3 (.func (.func 187) #[] #[]) rfl
 go_enter Tryz.func165,Tryz.ntmps165
 go_wp2
 go_ret
 exact ⟨w.heap.size,rfl,le_refl _,hlt3,⟨rfl,rfl,rfl,Nat.le_of_lt hlt3,fun k hk=>by rw [World.putObj_heap_other (ne_of_lt hk),World.putObj_heap_other (ne_of_lt hk)];show (w.heap.push (.map #[] 0))[k]? = _;rw [Array.getElem?_push,if_neg (ne_of_lt hk)]⟩,_,_,hw2,rfl⟩
theorem mapExt:Lu Tryz.prog 165 [] [.mp .i64 [(2,186),(3,187)]]:=by
 intro B w avs vs n hm hB hc;have e:avs=[]:=by
  have:Dn Tryz.prog 165 (fun i =>.t ((List.getD [] i default:Tree)))=some []:=by kernel_rfl
  rw [this] at hm;exact (Option.some.inj hm).symm
 subst e;obtain rfl:vs = #[]:=eq_empty_of_size_eq_zero (by simpa using hc.1);refine (callsIn_wide (n:=n)).2 (Nn w) |>.mono ?_
 rintro e w' ⟨b,rfl,h1,h2,h3,es,clock,h4,h5⟩
 refine ⟨_,.t (.mp .i64 [(2,186),(3,187)]),rfl,by kernel_rfl,.t _ _ (.mp .i64 _ b es clock h2 ?_ h4 (by rw [h5];rfl)),⟨h3.os,h3.tape,h3.output,h3.size,h3.block⟩,fun h => ?_⟩
 ·rintro (h|h)
  ·exact Nat.lt_irrefl _ (lt_of_lt_of_le (hB b h) h1)
  ·exact Dw h
 ·have:Cd Tryz.prog 165=false:=by kernel_rfl
  rw [this] at h;cases h
theorem repExt (s:ByteArray) (c:Int) (h0:0≤c∧c≤9223372036854775807∧s.size*c.toNat≤140737488355328):Lu Tryz.prog 25 [.str s,.int .i64 c] [.str ⟨(Go.Lib.repeatL s.data.toList c.toNat).toArray⟩]:=by
 intro B w avs vs n hm hB hc;have e:avs=[.t (.str s),.t (.int .i64 c)]:=by
  have:Dn Tryz.prog 25 (fun i =>.t ((List.getD [.str s,.int .i64 c] i default:Tree)))=some [.t (.str s),.t (.int .i64 c)]:=by kernel_rfl
  rw [this] at hm;exact (Option.some.inj hm).symm
 subst e;obtain ⟨h1,h2,h3⟩:=h0;obtain ⟨k,rfl⟩:∃k:Nat,c=(k:Int):=⟨c.toNat,by omega⟩
 simp only [toNat_natCast] at h3 ⊢;obtain rfl:vs = #[.string s,.int .i64 (k:Int)]:=by
  obtain ⟨hl,hv⟩:=hc;obtain ⟨l⟩:=vs
  match l,hl with
  |[u,v],_=>
   have q0:=hv 0 _ rfl;have q1:=hv 1 _ rfl;simp only [Array.getD] at q0 q1;have r0:u = .string s:=by cases q0 with|t _ _ q=>cases q with|str=>rfl
   have r1:v = .int .i64 (k:Int):=by cases q1 with|t _ _ q=>cases q with|int=>rfl
   rw [r0,r1]
 refine (callsIn_wide (n:=n)).2 (Tryz.strings_Repeat s k w (by omega) h3) |>.mono ?_
 rintro e w' ⟨rfl,h3⟩
 exact ⟨_,.t (.str _),rfl,by kernel_rfl,.t _ _ (.str _),⟨h3.os,h3.tape,h3.output,h3.size,h3.block⟩,fun _=>rfl⟩
theorem extOk:TI C:=by
 intro g xs ys _ h;unfold C at h;simp only at h;unfold Ys at h;split at h
 ·rename_i e;subst e;split at h
  ·split at h
   ·rename_i hq;cases h;exact repExt _ _ hq
   ·cases h
  ·cases h
 ·split at h
  ·rename_i e;subst e;split at h
   ·cases h;exact mapExt
   ·cases h
  ·cases h
end Ab
