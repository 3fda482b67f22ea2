/- A part of the proof: see the last text. -/
import Derived.Test.YtabheiodkaljcaaGreatDoorM3
open Bool (false_eq_true not_eq_true' or_eq_true)
open ByteArray (size_extract)
open Classical (not_forall not_not)
open Int (emod_lt_of_pos emod_nonneg lt_irrefl natCast_add natCast_zero tdiv tmod toNat toNat_natCast)
open List (all_cons all_eq_true append_assoc append_nil cons_append countP_cons drop dropWhile_cons drop_succ_cons drop_zero eq_nil_of_length_eq_zero foldl_cons getD_eq_getElem?_getD getElem?_append_right getElem?_cons_zero getElem?_drop getElem?_eq_getElem getElem?_eq_none getElem?_map getElem?_take getElem_mem getElem_of_mem getLast?_concat head?_cons head?_nil length length_append length_cons length_drop length_eq_zero_iff length_map length_nil length_pos_iff length_tail length_take map_append map_cons map_drop map_map map_nil map_take mem_append mem_cons mem_cons_of_mem mem_cons_self mem_flatMap mem_map mem_map_of_mem mem_of_getElem? mem_singleton nil_append pairwise_append pairwise_cons replicate singleton_append take take_add_one take_length take_of_length_le)
open Nat (add_assoc add_mul add_zero le_refl le_trans lt_or_ge min_def reduceAdd reduceEqDiff zero_add)
open Option (bind_none map_none map_some)
set_option linter.unusedVariables false
set_option linter.unusedSimpArgs false
namespace Ab
open Go
def FN (a b:Int):Int:=if (a / 16+1)*16<b then (a / 16+1)*16 else b
theorem F7 {a b:Int} (h:a<b):a<FN a b∧FN a b≤b:=by unfold FN;split<;>omega
def cut (a b:Int):List (Int×Int):=if h:a<b then (a,FN a b)::cut (FN a b) b else []
termination_by (b-a).toNat
decreasing_by have:=F7 h;omega
theorem F6 {a b:Int} (h:a<b):cut a b=(a,FN a b)::cut (FN a b) b:=by rw [cut,dif_pos h]
theorem Gq {a b:Int} (h:¬a<b):cut a b=[]:=by rw [cut,dif_neg h]
def raw (d:ByteArray) (ses:Int) (p:Int×Int):Seg:=⟨1,ses,0,p.1,d.size,false,d.extract p.1.toNat p.2.toNat,[]⟩
def DG (d:ByteArray) (ses:Int) (l:List Span):List Seg:=l.flatMap fun x=>(cut x.fro x.to).map (raw d ses)
def Dy (ser:Int) (l:List Seg):List Seg:=match l.getLast? with
 |some x=>l.dropLast++[{x with ser:=ser,chk:=true}]
 |none=>[]
structure MS where
 v:Nat
 at_:Int
 out:List Seg
structure NS where
 v:Nat
 out:List Seg
def J0 (d:ByteArray) (ses b:Int) (s:MS):NS:=⟨s.v+(cut s.at_ b).length,s.out++(cut s.at_ b).map (raw d ses)⟩
def On (d:ByteArray) (ses b:Int) (s:MS):Rd MS NS:=if s.at_<b then .next ⟨s.v+1,FN s.at_ b,s.out++[raw d ses (s.at_,FN s.at_ b)]⟩ else .done ⟨s.v,s.out⟩
def ZB (b:Int) (K:Int) (s:MS):Prop:=0≤s.at_∧s.at_≤b∧(s.out.length:Int)≤K+s.at_
theorem WI {d:ByteArray} {ses b K:Int} {s s':MS} (h:ZB b K s) (he:On d ses b s = .next s'):ZB b K s'∧(b-s'.at_).toNat<(b-s.at_).toNat:=by
 unfold On at he;split at he
 ·rename_i hq;cases he;have:=F7 hq;unfold ZB at h ⊢;simp only [length_append,length_cons,length_nil];omega
 ·cases he
theorem WJ {d:ByteArray} {ses b:Int} (s:MS):J0 d ses b s=(On d ses b s).fin (J0 d ses b):=by
 unfold On;split
 ·rename_i hq;simp only [Rd.fin,J0,F6 hq,length_cons,map_cons,append_assoc,cons_append,nil_append];congr 1;omega
 ·rename_i hq;simp [Rd.fin,J0,Gq hq]
theorem WX (l:List Seg):take l.length (List.map Seg.enc l)=List.map Seg.enc l:=by rw [take_of_length_le (by simp)]
theorem YR (d:ByteArray) (ses:Int) (x:Span) (i:Nat) (v:Nat) (out:List Seg) (K:Int) (hx:0≤x.fro∧x.fro<x.to∧x.to≤d.size) (hd:d.size≤65536) (ho:(out.length:Int)≤K+x.fro) (hK:K≤65536000) (hi:i≤1000) (y11:List Tree) (hy:y11=x.enc) (H0:Heap) :
  Ev fun n=>∀z:(List AV×Heap)→Option (List Tree),AJ (fun (p12:List AV×Heap) again=>N4 n y11 d ses z (([.t (tI i)],H0):List AV×Heap) p12 again) n (([.t (tI x.fro)],[.row false v 8 (out.map Seg.enc),.box [.sref 0 v 0 out.length],.box [],.box []]):List AV×Heap)=
   z (([.t (tI ((i+1:Nat):Int))],[.row false (J0 d ses x.to ⟨v,x.fro,out⟩).v 8 ((J0 d ses x.to ⟨v,x.fro,out⟩).out.map Seg.enc),.box [.sref 0 (J0 d ses x.to ⟨v,x.fro,out⟩).v 0 (J0 d ses x.to ⟨v,x.fro,out⟩).out.length],.box []]):List AV×Heap):=by
 subst hy;refine CF (R:=List Tree) (Z:=(List AV×Heap)→Option (List Tree)) (B:=fun n z p again=>N4 n x.enc d ses z (([.t (tI i)],H0):List AV×Heap) p again)
  (fun z (u:NS)=>z (([.t (tI ((i+1:Nat):Int))],[.row false u.v 8 (u.out.map Seg.enc),.box [.sref 0 u.v 0 u.out.length],.box []]):List AV×Heap))
  (fun (s:MS)=>(([.t (tI s.at_)],[.row false s.v 8 (s.out.map Seg.enc),.box [.sref 0 s.v 0 s.out.length],.box [],.box []]):List AV×Heap)) (On d ses x.to) (ZB x.to K) (fun s=>(x.to-s.at_).toNat) (J0 d ses x.to) ⟨v,x.fro,out⟩ rfl ⟨hx.1,by simp only;omega,ho⟩ rfl (fun s hI=>Ev.of fun n z again => ?_) (fun s s' hI he=>WI hI he) (fun s _=>WJ s)
 unfold ZB at hI;have e0:w64 (w64 (w64 (tdiv s.at_ 16)+1)*16)=(s.at_ / 16+1)*16:=by rw [Ua hI.1,Ad (x:=s.at_ / 16) (by omega) (by omega),Ad (x:=s.at_ / 16+1) (by omega) (by omega),Ad (by omega) (by omega)]
 unfold On;by_cases hq:s.at_<x.to
 ·have hc:=F7 hq;have e1:(if (s.at_ / 16+1)*16<x.to then (s.at_ / 16+1)*16 else x.to)=FN s.at_ x.to:=rfl;rw [if_pos hq];simp only [N4,vv,vf,reduceCtorEq,reduceAdd,reduceEqDiff,Span.enc,hq,e0,e1,WX,(show 0≤FN s.at_ x.to by omega),(show FN s.at_ x.to≤(d.size:Int) by omega),hI.1,(show s.at_≤((FN s.at_ x.to).toNat:Int) by omega),le_refl,(show s.out.length+1≤1073741824 by omega),Rd.Ai,map_append,map_cons,map_nil,raw,Seg.enc,length_append]
 ·rw [if_neg hq];simp only [N4,vv,vf,reduceCtorEq,reduceAdd,reduceEqDiff,Span.enc,hq,Rd.Az,Aw (show i<4611686018427387904 by omega)]
end Ab
set_option linter.unusedVariables false
set_option linter.unusedSimpArgs false
namespace Ab
open Go
theorem QR:∀(k:Nat) (a b:Int),(b-a).toNat≤k→((cut a b).length:Int)≤if a<b then b-a else 0
 |k,a,b,h=>by
  by_cases hq:a<b
  ·rw [F6 hq,if_pos hq];have hc:=F7 hq;cases k with
   |zero=>omega
   |succ k=>
    have:=QR k (FN a b) b (by omega);simp only [length_cons];split at this<;>omega
  ·rw [Gq hq,if_neg hq];simp
theorem YE (d:ByteArray) (ses b:Int) (s:MS) (h:s.at_≤b):((J0 d ses b s).out.length:Int)≤s.out.length+(b-s.at_):=by have:=QR _ s.at_ b (le_refl _);simp only [J0,length_append,length_map];split at this<;>omega
def Ny (l:List Span) (n:Int):Prop:=∀x∈l,0≤x.fro∧x.fro<x.to∧x.to≤n
def Rj (d:ByteArray) (ses:Int) (_:Nat) (s:NS) (x:Span):Rd NS (List Seg):=.next (J0 d ses x.to ⟨s.v,x.fro,s.out⟩)
theorem o_run (d:ByteArray) (ses ser:Int):∀(l:List Span) (i:Nat) (s:NS),CR (Rj d ses) (fun s=>Dy ser s.out) i l s=Dy ser (s.out++DG d ses l)
 |[],i,s=>by simp [CR,DG]
 |x::l,i,s=>by simp only [CR,Rj];rw [o_run d ses ser l];simp [J0,DG]
def OInv (i:Nat) (s:NS):Prop:=(s.out.length:Int)≤65536*i∧(i≠0→s.out≠[])
theorem WE {d:ByteArray} {ses:Int} {x:Span} {i:Nat} {s s':NS} (hd:d.size≤65536) (hx:0≤x.fro∧x.fro<x.to∧x.to≤d.size) (h:OInv i s) (he:Rj d ses i s x = .next s'):OInv (i+1) s':=by cases he;have:=YE d ses x.to ⟨s.v,x.fro,s.out⟩ (by simp only;omega);simp only at this;refine ⟨by have:=h.1;omega,fun _ => ?_⟩;simp [J0,F6 hx.2.1]
theorem YO (pre:List Seg) (x:Seg):List.map Seg.enc (pre++[x])=List.map Seg.enc pre++[x.enc]:=by simp
theorem TZ (l:List (List Tree)) (y:List Tree) (k:Nat) (h:k=l.length):(l++[y])[k]? = some y:=by subst h;rw [getElem?_append_right (le_refl _)];simp
theorem XN (l:List (List Tree)) (y:List Tree) (k:Nat) (h:k=l.length+1):take k (l++[y])=l++[y]:=by subst h;rw [take_of_length_le (by simp)]
theorem F2 (ser:Int) (pre:List Seg) (x:Seg):Dy ser (pre++[x])=pre++[{x with ser:=ser,chk:=true}]:=by unfold Dy;simp
theorem X6 (d:ByteArray) (ses ser:Int) (l:List Span) (hl:l≠[]) (hl2:l.length≤1000) (hd:d.size≤65536) (hs:Ny l d.size) :
  Ev fun n=>AJ (fun (p9:List AV×Heap) again=>Qg n (l.map Span.enc) d ses ser p9 again) n (([.t (tI 0)],[.row false 0 8 [],.box [.sref 0 0 0 0],.box []]):List AV×Heap)=some [.sl 8 ((Dy ser (DG d ses l)).map Seg.enc),tI 0]:=by
 refine BM (R:=List Tree) (fun (q:List Seg)=>[Tree.sl 8 (q.map Seg.enc),tI 0]) l (fun i (s:NS)=>(([.t (tI i)],[.row false s.v 8 (s.out.map Seg.enc),.box [.sref 0 s.v 0 s.out.length],.box []]):List AV×Heap)) (Rj d ses) (fun s=>Dy ser s.out) OInv ⟨0,[]⟩ rfl ⟨by simp,fun h=>(h rfl).elim⟩ (by rw [o_run];rfl)
  (fun i s x hx hI => ?_) (fun i s x s' hx hI he=>WE hd (hs x (mem_of_getElem? hx)) hI he) (fun s hI=>Ev.of fun n again => ?_)
 ·have hi:=AZ hx;have hb:=hs x (mem_of_getElem? hx);have key:=YR d ses x i s.v s.out ((s.out.length:Int)-x.fro) hb hd (by omega) (by have:=hI.1;omega) (by omega) x.enc rfl [.row false s.v 8 (s.out.map Seg.enc),.box [.sref 0 s.v 0 s.out.length],.box []];refine key.mono fun n h again => ?_;have h':=h again;simp only [Span.enc] at h';simp only [Qg,vv,vf,reduceCtorEq,reduceAdd,reduceEqDiff,(show (i:Int)<(l.length:Int) by omega),hx,Span.enc,h',Rj,Rd.Ai]
 ·have hne:s.out≠[]:=hI.2 (by intro h;exact hl (eq_nil_of_length_eq_zero h));obtain ⟨pre,x,hpx⟩:∃pre x,s.out=pre++[x]:=⟨s.out.dropLast,s.out.getLast hne,(List.dropLast_concat_getLast hne).symm⟩
  have hlen:=hI.1;rw [hpx] at hlen;simp only [length_append,length_cons,length_nil,zero_add] at hlen;have e0:s.out.length=pre.length+1:=by rw [hpx];simp
  have e1:w64 (((pre.length+1:Nat):Int)-1)=(pre.length:Int):=by rw [Ad (by omega) (by omega)];omega
  rw [hpx,F2];simp only [Qg,vv,vf,reduceCtorEq,reduceAdd,reduceEqDiff,lt_irrefl,YO,length_append,e1,(show (pre.length:Int)<((pre.length+1:Nat):Int) by omega),le_refl,TZ (List.map Seg.enc pre) _ pre.length (by simp),Mc (List.map Seg.enc pre) _ _ pre.length (by simp),XN (List.map Seg.enc pre) _ (pre.length+1) (by simp),Seg.enc,take,drop,cons_append,nil_append,Nat.reduceLeDiff]
def LI (ses ser:Int) (d:ByteArray) (l:List Span):Int:=if ¬((0≤ses∧ses≤1099511627776)∧(1≤ser∧ser≤1099511627776)) then 2 else if d.size=0 then 20 else if 65536<d.size then 4 else if inside l d.size=false then 1 else if l=[] then 20 else 0
def CZ (ses ser:Int) (d:ByteArray) (l:List Span):List Seg:=if LI ses ser d l=0 then Dy ser (DG d ses l) else []
theorem Ku {l:List Span} {n:Int} (h:inside l n=true):Ny l n∧l.length≤1000:=by unfold inside at h;have h:=of_decide_eq_true h;have hw:=(CJ h.1).1 h.2;have hc:=((Aj l).1 h.1).2.1;exact ⟨fun x hx=>by have:=hw x hx;have:=FA hc x hx;omega,Bo h.1⟩
theorem s118 (ses ser:Int) (d:ByteArray) (l:List Span):AT C 118 [tI ses,tI ser,.str d,.sl 2 (l.map Span.enc)] [.sl 8 ((CZ ses ser d l).map Seg.enc),tI (LI ses ser d l)]:=by
 refine AT.of (fun n=>e118 n _ _ _ _) ?_;have hJ:Ev fun n=>IK n d (l.map Span.enc) ses ser (([.t (.bool (decide (¬((0≤ses∧ses≤1099511627776)∧(1≤ser∧ser≤1099511627776)))))],[]):List AV×Heap)=some [.sl 8 ((CZ ses ser d l).map Seg.enc),tI (LI ses ser d l)]:=by
  unfold CZ LI;by_cases h1:(0≤ses∧ses≤1099511627776)∧(1≤ser∧ser≤1099511627776)
  ·by_cases h2:d.size=0
   ·exact Ev.of fun n=>by simp [IK,vv,vf,reduceCtorEq,reduceAdd,reduceEqDiff,h1,h2,AE,Ce]
   ·by_cases h3:65536<d.size
    ·exact Ev.of fun n=>by simp [IK,vv,vf,reduceCtorEq,reduceAdd,reduceEqDiff,h1,h2,h3,AE,Ce,(show (65536:Int)<(d.size:Int) by omega)]
    ·by_cases h4:inside l d.size=false
     ·refine (s139 l d.size).mono fun n g => ?_;simp [IK,vv,vf,reduceCtorEq,reduceAdd,reduceEqDiff,h1,h2,h3,g,h4,AE,Ce,(show ¬(65536:Int)<(d.size:Int) by omega)]
     ·have h4':inside l d.size=true:=by simpa using h4
      by_cases h5:l=[]
      ·refine (s139 l d.size).mono fun n g => ?_;subst h5;rw [h4'] at g;simp only [map_nil] at g;simp [IK,vv,vf,reduceCtorEq,reduceAdd,reduceEqDiff,h1,h2,h3,g,h4',AE,Ce,(show ¬(65536:Int)<(d.size:Int) by omega)]
      ·obtain ⟨g1,g2⟩:=Ku h4';refine ((s139 l d.size).and (X6 d ses ser l h5 g2 (by omega) g1)).mono fun n g => ?_;have hp:=length_pos_iff.2 h5;simp only [IK,vv,vf,reduceCtorEq,reduceAdd,reduceEqDiff,h1,not_true_eq_false,Ce,h2,h3,g.1,g.2,h4',h5,(show ¬(65536:Int)<(d.size:Int) by omega),(show ¬((l.length:Int)=0) by omega),beq_iff_eq]
  ·exact Ev.of fun n=>by simp only [IK,vv,vf,reduceCtorEq,reduceAdd,reduceEqDiff,h1,not_false_eq_true];simp
 refine ((FC ses 0 1099511627776).and ((FC ser 1 1099511627776).and hJ)).mono fun n h => ?_;obtain ⟨h1,h2,h3⟩:=h;simp only [h1,h2,vv,vf,reduceCtorEq,reduceAdd,reduceEqDiff,wi];by_cases q1:0≤ses∧ses≤1099511627776
 ·have:(!decide (1≤ser∧ser≤1099511627776))=decide (¬((0≤ses∧ses≤1099511627776)∧(1≤ser∧ser≤1099511627776))):=by rw [Bool.eq_iff_iff,decide_eq_true_eq,not_eq_true',decide_eq_false_iff_not];simp only [q1,true_and,and_self]
  simp only [q1,vv,vf,reduceCtorEq,reduceAdd,reduceEqDiff];rw [this];exact h3
 ·have:(true:Bool)=decide (¬((0≤ses∧ses≤1099511627776)∧(1≤ser∧ser≤1099511627776))):=by symm;rw [decide_eq_true_eq];exact fun h=>q1 h.1
  simp only [q1,vv,vf,reduceCtorEq,reduceAdd,reduceEqDiff];rw [this];exact h3
end Ab
set_option linter.unusedVariables false
set_option linter.unusedSimpArgs false
namespace Ab
open Go
def Ac (s:Snd):List Seg:=CZ s.ses (s.ser+1) s.data (Dc s)
theorem s94 (s:Snd) (h : -4611686018427387904≤s.ser∧s.ser≤4611686018427387904):AT C 94 s.enc [.sl 8 ((Ac s).map Seg.enc)]:=by refine AT.of (fun n=>e94 n _ _ _ _ _ _ _ _ _ _ _ _ _ _ _) ?_;refine ((s119 s).and (s118 s.ses (s.ser+1) s.data (Dc s))).mono fun n g => ?_;obtain ⟨g1,g2⟩:=g;simp only [Snd.enc] at g1;rw [Ad (x:=s.ser+1) (by omega) (by omega)];simp only [g1,g2,vv,vf,reduceCtorEq,reduceAdd,reduceEqDiff,Ac]
def A1 (r:Int):Int→List Seg→List Out
 |_,[]=>[]
 |t,x::l=>⟨t+Cp r x,x⟩::A1 r (t+Cp r x) l
def Ak (r:Int):Int→List Seg→Int
 |t,[]=>t
 |t,x::l=>Ak r (t+Cp r x) l
theorem CT (r:Int):∀(l:List Seg) (t:Int),(A1 r t l).length=l.length
 |[],t=>rfl
 |x::l,t=>by simp [A1,CT r l]
theorem EB (r:Int):∀(l:List Seg) (t:Int) (x:Seg),(A1 r t (l++[x]))=A1 r t l++[⟨Ak r t (l++[x]),x⟩]
 |[],t,x=>rfl
 |y::l,t,x=>by show _::A1 r _ (l++[x])=_;rw [EB r l];rfl
end Ab
set_option linter.unusedVariables false
set_option linter.unusedSimpArgs false
namespace Ab
open Go
structure TS where
 v:Nat
 at_:Int
 out:List Out
def DY (s:Snd):Snd:={s with due:=0,st:=3}
def A9 (s:Snd) (t ser:Int):Snd:={s with busy:=t,ser:=ser,due:=t+2*s.c.rng+1,st:=1}
theorem Hq (r:Int):∀(l:List Seg) (t:Int),t≤Ak r t l∧Ak r t l≤t+1000*l.length
 |[],t=>by simp [Ak]
 |x::l,t=>by have h1:=Q9 r x;have h2:=Hq r l (t+Cp r x);simp only [Ak,length_cons];omega
theorem Cy (l:List Out):take l.length (List.map Out.enc l)=List.map Out.enc l:=by rw [take_of_length_le (by simp)]
def L3:AF :=.box [.t (tI 0),.t (tI 0),.t (tI 0),.t (tI 0),.t (tI 0),.t (tI 0),.t (tI 0),.t (tI 0),.t (.str (ByteArray.mk #[])),.t (tI 0),.t (tI 0),.t (tI 0),.t (.sl 2 []),.t (tI 0),.t (tI 0)]
def Pn (s:Snd):AF :=.box [.t (tI s.c.frm),.t (tI s.c.dst),.t (tI s.c.start),.t (tI s.c.fin),.t (tI s.c.rate),.t (tI s.c.rng),.t (tI s.c.loss),.t (tI s.ses),.t (.str s.data),.t (tI s.fin),.t (tI s.busy),.t (tI s.ser),.t (.sl 2 (s.acked.map Span.enc)),.t (tI s.due),.t (tI s.st)]
end Ab
set_option linter.unusedVariables false
set_option linter.unusedSimpArgs false
namespace Ab
open Go
theorem loop_at {S R α:Type} {B:Nat→S→(S→Option R)→Option R} {s:S} {out:R} (l:List α) (st:Nat→S) (hs:s=st 0)
  (hstep:∀i x,l[i]? = some x→Ev fun n=>∀again,B n (st i) again=again (st (i+1)))
  (hend:Ev fun n=>∀again,B n (st l.length) again=some out):Ev fun n=>AJ (B n) n s=some out:=by
 refine BM (Q:=R) (σ:=Unit) (fun q=>q) l (fun i _=>st i) (fun _ _ _ =>.next ()) (fun _=>out) (fun _ _=>True) () hs trivial ?_ (fun i _ x hx _ => ?_) (fun _ _ _ _ _ _ _=>trivial) (fun _ _=>hend)
 ·have:∀(l:List α) (i:Nat),CR (fun (_:Nat) (_:Unit) (_:α)=>(Rd.next ():Rd Unit R)) (fun _=>out) i l ()=out:=by
   intro l
   induction l with
   |nil=>intro i;rfl
   |cons x l ih=>intro i;exact ih (i+1)
  exact this l 0
 ·exact (hstep i x hx).mono fun n h again=>by rw [h];rfl
theorem Pm {α:Type} {l:List α} {i:Nat} {x:α} (h:l[i]? = some x):l.take (i+1)=l.take i++[x]:=by rw [take_add_one,h];rfl
theorem K6 (r:Int):∀(l:List Seg) (t:Int) (x:Seg),Ak r t (l++[x])=Ak r t l+Cp r x
 |[],t,x=>rfl
 |y::l,t,x=>by simp only [cons_append,Ak];exact K6 r l _ x
def CO (s:Snd) (t:Int) (l:List Seg):Snd×List Out:=
 match l.getLast? with
 |none=>(DY s,[])
 |some x=>if s.fin<Ak s.c.rate t l∨1099511627776<x.ser then (DY s,[]) else (A9 s (Ak s.c.rate t l) x.ser,A1 s.c.rate t l)
def HW (p:Snd×List Out):List Tree:=p.1.enc++[.sl 9 (p.2.map Out.enc)]
theorem Mg (s:Snd) (t:Int) (l:List Seg) (hl2:l.length≤100000000) (ht:0≤t∧t≤4398046511104) (hr:0≤s.c.rng∧s.c.rng≤1048576):AT C 2005967 (s.enc++[tI t,.sl 8 (l.map Seg.enc)]) (HW (CO s t l)):=by
 refine AT.of (fun n=>YZ n _ _ _ _ _ _ _ _ _ _ _ _ _ _ _ _ _) ?_;refine loop_at l (fun i=>(([.t (tI i)],[Pn s,L3,.box [.t (tI (Ak s.c.rate t (l.take i)))],.row false i 9 ((A1 s.c.rate t (l.take i)).map Out.enc),.box [.sref 3 i 0 i],.box []]):List AV×Heap)) rfl (fun i x hx => ?_) ?_
 ·have hi:=AZ hx;have hb:=Q9 s.c.rate x;have hE:=Hq s.c.rate (l.take i) t;have hL:(l.take i).length=i:=by rw [length_take];omega
  have hO:=CT s.c.rate (l.take i) t;rw [hL] at hE hO;refine (s137 s.c.rate x).mono fun n h again => ?_;simp only [Seg.enc] at h;have e9:take i (List.map Out.enc (A1 s.c.rate t (l.take i)))=List.map Out.enc (A1 s.c.rate t (l.take i)):=by rw [take_of_length_le (by simp [hO])]
  rw [Pm hx,EB,K6];simp only [Gz,Pn,L3,vv,vf,reduceCtorEq,reduceAdd,reduceEqDiff,hx,(show (i:Int)<(l.length:Int) by omega),Seg.enc,h,Ad (x:=Ak s.c.rate t (l.take i)+Cp s.c.rate x) (by omega) (by omega),Aw (show i<4611686018427387904 by omega),e9,hO,le_refl,(show i+1≤1073741824 by omega),map_append,map_cons,map_nil,Out.enc,Nat.add_eq]
 ·rw [take_length];cases hx:l.getLast? with
  |none=>
   rw [List.getLast?_eq_none_iff] at hx;subst hx;refine (s116 s).mono fun n h again => ?_;simp only [Snd.enc] at h;simp only [Gz,Pn,L3,vv,vf,reduceCtorEq,reduceAdd,reduceEqDiff,lt_irrefl,h,A1,map_nil];simp [AE,HW,CO,DY,Snd.enc,h,vv,vf,reduceCtorEq,reduceAdd,reduceEqDiff]
  |some x=>
   obtain ⟨pre,rfl⟩:∃pre,l=pre++[x]:=by rw [List.getLast?_eq_some_iff] at hx;exact hx
   have hE:=Hq s.c.rate (pre++[x]) t;have hO:=CT s.c.rate pre t;have hlen:(pre++[x]).length=pre.length+1:=by simp
   rw [hlen] at hE hl2 ⊢;refine ((s116 s).and (s117 {s with busy:=Ak s.c.rate t (pre++[x]),ser:=x.ser,st:=1} (by simp only;omega))).mono fun n h again => ?_;obtain ⟨h1,h2⟩:=h;simp only [Snd.enc,Yd] at h1 h2;have hb:((A1 s.c.rate t pre).map Out.enc++[Out.enc ⟨Ak s.c.rate t (pre++[x]),x⟩])[pre.length]? = some (Out.enc ⟨Ak s.c.rate t (pre++[x]),x⟩):=by rw [getElem?_append_right (by simp [hO])];simp [hO]
   have e1:w64 (((pre.length+1:Nat):Int)-1)=(pre.length:Int):=by rw [Ad (by omega) (by omega)];omega
   have e2:¬(((pre.length+1:Nat):Int)=0):=by omega
   have e3:take (pre.length+1) ((A1 s.c.rate t pre).map Out.enc++[Out.enc ⟨Ak s.c.rate t (pre++[x]),x⟩])=(A1 s.c.rate t pre).map Out.enc++[Out.enc ⟨Ak s.c.rate t (pre++[x]),x⟩]:=by rw [take_of_length_le (by simp [hO])]
   rw [EB];simp only [Gz,Pn,L3,vv,vf,reduceCtorEq,reduceAdd,reduceEqDiff,lt_irrefl,hlen,length_append,map_append,map_cons,map_nil,e1,beq_iff_eq,e2,hb,(show (pre.length:Int)<((pre.length+1:Nat):Int) by omega)];simp only [Out.enc] at e3;simp only [Out.enc,vv,vf,reduceCtorEq,reduceAdd,reduceEqDiff];by_cases q1:s.fin<Ak s.c.rate t (pre++[x])
   ·simp only [G1,q1,vv,vf,reduceCtorEq,reduceAdd,reduceEqDiff,h1,HW,CO,getLast?_concat,DY,Snd.enc,map_nil,cons_append,nil_append]
   ·by_cases q2:1099511627776<x.ser
    ·simp only [G1,q1,q2,vv,vf,reduceCtorEq,reduceAdd,reduceEqDiff,h1,HW,CO,getLast?_concat,DY,Snd.enc,map_nil,cons_append,nil_append]
    ·simp only [G1,q1,q2,vv,vf,reduceCtorEq,reduceAdd,reduceEqDiff,h2,e3,HW,CO,getLast?_concat,A9,Snd.enc,EB,map_append,map_cons,map_nil,Out.enc,cons_append,nil_append]
end Ab
set_option linter.unusedVariables false
set_option linter.unusedSimpArgs false
namespace Ab
open Go
theorem Gr:∀(k:Nat) (a b:Int),(b-a).toNat≤k→∀p∈cut a b,a≤p.1∧p.1<p.2∧p.2≤b∧p.2≤p.1+16
 |k,a,b,h,p,hp=>by
  by_cases hq:a<b
  ·rw [F6 hq] at hp;have hc:=F7 hq;rcases mem_cons.1 hp with rfl|hp
   ·have:FN a b≤a+16:=by unfold FN;split<;>omega
    exact ⟨Int.le_refl _,hc.1,hc.2,this⟩
   ·cases k with
    |zero=>omega
    |succ k=>
     have:=Gr k (FN a b) b (by omega) p hp;omega
  ·rw [Gq hq] at hp;cases hp
theorem cut_ne {a b:Int} (h:a<b):cut a b≠[]:=by rw [F6 h];simp
structure Piece (d:ByteArray) (ses:Int) (x:Seg):Prop where
 kind:x.kind=1
 ses_:x.ses=ses
 ser:x.ser=0
 tot:x.tot=d.size
 chk:x.chk=false
 cl:x.AS=[]
 off:0≤x.off∧x.off<d.size
 sz:1≤x.data.size∧x.data.size≤16
 fit:(x.data.size:Int)≤d.size-x.off
theorem V5 {d:ByteArray} {ses:Int} {p:Int×Int} (h:0≤p.1∧p.1<p.2∧p.2≤d.size∧p.2≤p.1+16):Piece d ses (raw d ses p):=by
 have hs:(raw d ses p).data.size=p.2.toNat-p.1.toNat:=by simp only [raw,size_extract];omega
 exact ⟨rfl,rfl,rfl,rfl,rfl,rfl,⟨h.1,by simp only [raw];omega⟩,by omega,by rw [hs];simp only [raw];omega⟩
theorem X0 {d:ByteArray} {ses:Int} {x:Seg} (h:Piece d ses x) (hs:0≤ses∧ses≤1099511627776) (hd:1≤d.size∧d.size≤65536):C4 x=0:=by
 have k:=h.kind;have n:CN x:=by unfold CN;have:=h.ses_;have:=h.tot;have:=h.off;refine ⟨by omega,by omega,by omega,fun _=>⟨by omega,by omega,fun hc => ?_,fun _=>h.ser⟩⟩;rw [h.chk] at hc;cases hc
 have c:C6 x:=by unfold C6;have:=h.tot;have:=h.fit;exact ⟨by omega,by omega,fun _=>⟨h.sz,by omega,h.cl⟩⟩
 unfold C4;rw [if_neg (by omega),if_neg (fun f=>f n),if_neg (fun f=>f c)]
theorem Mr {d:ByteArray} {ses:Int} {l:List Span} (h:Ny l d.size):∀x∈DG d ses l,Piece d ses x:=by intro x hx;unfold DG at hx;obtain ⟨y,hy,hx⟩:=mem_flatMap.1 hx;obtain ⟨p,hp,rfl⟩:=mem_map.1 hx;have h1:=h y hy;have h2:=Gr _ y.fro y.to (le_refl _) p hp;exact V5 (by omega)
theorem U9 {d:ByteArray} {ses:Int} {l:List Span} (h:Ny l d.size) (hl:l≠[]):DG d ses l≠[]:=by
 cases l with
 |nil=>exact absurd rfl hl
 |cons y l=>
  have h1:=h y (by simp);have h2:=cut_ne h1.2.1;unfold DG;rw [List.flatMap_cons];intro e;exact h2 (List.map_eq_nil_iff.1 (List.append_eq_nil_iff.1 e).1)
theorem RQ {d:ByteArray} {ses:Int}:∀{l:List Span} {b n:Int},Canon b l→b<n→(∀x∈l,x.to≤n)→((DG d ses l).length:Int)≤n-b
 |[],b,n,_,h,_=>by simp [DG];omega
 |x::l,b,n,h,hb,ht=>by
  have h1:=h.1;have h2:=h.2.1;have h3:=ht x (by simp);have h4:=QR _ x.fro x.to (le_refl _);rw [if_pos h2] at h4;have e:(DG d ses (x::l)).length=(cut x.fro x.to).length+(DG d ses l).length:=by unfold DG;rw [List.flatMap_cons,length_append,length_map]
  rw [e];by_cases he:x.to<n
  ·have:=RQ (d:=d) (ses:=ses) h.2.2 he (fun y hy=>ht y (by simp [hy]));omega
  ·cases l with
   |nil=>
    simp only [DG,List.flatMap_nil,length_nil];omega
   |cons y l=>
    have:=h.2.2.1;have:=h.2.2.2.1;have:=ht y (by simp);omega
theorem JK {l:List Span} {b n:Int} (h:Canon b l) (hw:B9 l n):Canon (-1) l:=by
 cases l with
 |nil=>trivial
 |cons x l=>exact ⟨by have:=hw x (by simp);omega,h.2⟩
structure Bat (d:ByteArray) (ses ser:Int) (l:List Seg):Prop where
 ex:∃pre x,l=pre++[{x with ser:=ser,chk:=true}]∧Piece d ses x∧∀y∈pre,Piece d ses y
 len:(l.length:Int)≤d.size+1
theorem Oy {l:List Span} {n:Int} (h:BG l=0) (hw:B9 l n):inside l n=true:=by unfold inside;exact decide_eq_true ⟨h,(CJ h).2 hw⟩
theorem PL {ses ser:Int} {d:ByteArray} {l:List Span} (hs:0≤ses∧ses≤1099511627776) (hr:1≤ser∧ser≤1099511627776) (hd:1≤d.size∧d.size≤65536) (hi:inside l d.size=true) (hl:l≠[]):LI ses ser d l=0:=by unfold LI;rw [if_neg (fun f=>f ⟨hs,hr⟩),if_neg (by omega),if_neg (by omega),if_neg (by rw [hi];simp),if_neg hl]
theorem Ni {ses ser:Int} {d:ByteArray} {l:List Span} (h:LI ses ser d l=0):Bat d ses ser (CZ ses ser d l):=by
 have h0:=h;unfold LI at h0;split at h0
 ·cases h0
 split at h0
 ·cases h0
 split at h0
 ·cases h0
 split at h0
 ·cases h0
 split at h0
 ·cases h0
 rename_i k1 k2 k3 k4 k5;have k4:inside l d.size=true:=by simpa using k4
 obtain ⟨g1,g2⟩:=Ku k4;have hn:=U9 (ses:=ses) g1 k5;obtain ⟨pre,x,hx⟩:∃pre x,DG d ses l=pre++[x]:=⟨_,_,(List.dropLast_concat_getLast hn).symm⟩
 have hp:=Mr (ses:=ses) g1;rw [hx] at hp;have e:CZ ses ser d l=pre++[{x with ser:=ser,chk:=true}]:=by unfold CZ;rw [if_pos h,hx,F2]
 refine ⟨⟨pre,x,e,hp x (by simp),fun y hy=>hp y (by simp [hy])⟩,?_⟩;unfold inside at k4;have k4:=of_decide_eq_true k4;have hw:=(CJ k4.1).1 k4.2;have:=RQ (d:=d) (ses:=ses) (n:=d.size) (JK ((Aj _).1 k4.1).2.1 hw) (by omega) (fun x hx=>(hw x hx).2);rw [hx] at this;rw [e];simp only [length_append,length_cons,length_nil] at this ⊢;omega
structure FOk (s:Snd):Prop where
 f:HL s=0
 few:s.acked.length≤900
theorem FOk.dat {s:Snd} (h:FOk s):1≤s.data.size∧s.data.size≤65536:=(DQ h.f).2.1.2.1
theorem FOk.ack {s:Snd} (h:FOk s):BG s.acked=0:=(DQ h.f).2.2.1
theorem FOk.win {s:Snd} (h:FOk s):B9 s.acked s.data.size:=(CJ h.ack).1 (DQ h.f).2.2.2
theorem FOk.left {s:Snd} (h:FOk s):Dc s=min_ (AU s.data) s.acked:=left_eq h.dat h.ack h.few
theorem FOk.M9 {s:Snd} (h:FOk s):Dc s=[]↔complete s=true:=by rw [← YM h.dat h.ack h.win h.few,length_eq_zero_iff]
theorem FOk.YL {s:Snd} (h:FOk s) (t:Int):AM t (Dc s)↔(0≤t∧t<s.data.size)∧¬AM t s.acked:=by rw [h.left];exact (GN h.dat h.ack h.win).2.2 t
theorem FOk.Rw {s:Snd} (h:FOk s):BG (Dc s)=0:=by rw [h.left];obtain ⟨k1,k2,k3⟩:=GN h.dat h.ack h.win;have:=VE h.dat h.ack;have:=h.few;have:=h.dat;rw [Aj];exact ⟨by omega,k1,fun x hx=>by have:=k2 x hx;omega⟩
theorem FOk.Rv {s:Snd} (h:FOk s):B9 (Dc s) s.data.size:=by rw [h.left];exact (GN h.dat h.ack h.win).2.1
theorem FOk.rng {s:Snd} (h:FOk s):1≤s.c.rng∧s.c.rng≤1048576∧1≤s.c.rate∧s.c.rate≤1000∧0≤s.c.start∧s.c.fin≤1099511627776-2*s.c.rng:=by obtain ⟨c1,c2⟩:=Fi (DQ h.f).1;unfold IL at c1;omega
theorem FOk.num {s:Snd} (h:FOk s):(0≤s.ses∧s.ses≤1099511627776)∧(s.c.start≤s.busy∧s.busy≤s.fin)∧s.fin≤s.c.fin∧(1≤s.ser∧s.ser≤1099511627776):=by have:=(DQ h.f).2.1;unfold Es at this;omega
theorem FOk.bat {s:Snd} (h:FOk s) (hc:complete s=false) (hr:s.ser<1099511627776):LI s.ses (s.ser+1) s.data (Dc s)=0:=by have:=h.num;refine PL this.1 (by omega) h.dat (Oy h.Rw h.Rv) fun e => ?_;rw [h.M9.1 e] at hc;cases hc
theorem Wn {s:Snd} (hr:s.ser=1099511627776):Ac s=[]:=by unfold Ac CZ;rw [if_neg];unfold LI;rw [if_pos (by omega)];omega
end Ab
set_option linter.unusedVariables false
set_option linter.unusedSimpArgs false
namespace Ab
open Go
def Fk:Snd:=⟨⟨0,0,0,0,0,0,0⟩,0,ByteArray.mk #[],0,0,0,[],0,0⟩
def Dm (p:Snd×List Out×Int):List Tree:=p.1.enc++[.sl 9 (p.2.1.map Out.enc),tI p.2.2]
def DI (e:Int):Snd×List Out×Int:=(Fk,[],e)
def Br (c:Con) (ses:Int) (d:ByteArray) (e:Int):Snd:=⟨c,ses,d,e,0,0,[],0,0⟩
def Bi (c:Con) (ses:Int) (d:ByteArray) (b e:Int):Snd×List Out×Int:=
 if KF c≠0 then DI 1 else if ¬(0≤ses∧ses≤1099511627776) then DI 2 else if d.size=0 then DI 20 else if 65536<d.size then DI 4
 else if b<c.start∨e<b∨c.fin<e then DI 2
 else if (CO (Br c ses d e) b (CZ ses 1 d (AU d))).1.st=3 then DI 16
 else ((CO (Br c ses d e) b (CZ ses 1 d (AU d))).1,(CO (Br c ses d e) b (CZ ses 1 d (AU d))).2,0)
theorem QT:BG []=0:=by simp [BG,CR]
theorem TP {d:ByteArray} (hd:1≤d.size∧d.size≤65536) (s:Snd) (h1:s.data=d) (h2:s.acked=[]):Dc s=AU d:=by
 have e:Dc s=min_ (AU d) []:=by have:=left_eq (s:=s) (by rw [h1];exact hd) (by rw [h2];exact QT) (by rw [h2];simp);rw [this,h1,h2]
 rw [e];obtain ⟨k1,k2,k3⟩:=GN (a:=[]) hd QT (fun x hx=>by cases hx);exact DJ k1 ((Aj _).1 (Fh hd)).2.1 fun t=>by rw [k3];simp [AM,AU]
theorem W0 {d:ByteArray} (hd:1≤d.size∧d.size≤65536):inside (AU d) d.size=true:=Oy (Fh hd) fun x hx=>by simp only [AU,mem_singleton] at hx;subst hx;exact ⟨Int.le_refl _,Int.le_refl _⟩
theorem Ke {ses:Int} {d:ByteArray} (hs:0≤ses∧ses≤1099511627776) (hd:1≤d.size∧d.size≤65536):LI ses 1 d (AU d)=0:=PL hs (by omega) hd (W0 hd) (by simp [AU])
theorem Bat.len2 {d:ByteArray} {ses ser:Int} {l:List Seg} (h:Bat d ses ser l) (hd:d.size≤65536):l.length≤100000000:=by have:=h.len;omega
theorem Jk (c:Con) (ses:Int) (d:ByteArray) (b e:Int):AT C 2004367 (c.enc++[tI ses,.str d,tI b,tI e]) (Dm (Bi c ses d b e)):=by
 refine AT.of (fun n=>Ya n _ _ _ _ _ _ _ _ _ _ _) ?_;by_cases h1:KF c=0
 ·by_cases h2:0≤ses∧ses≤1099511627776
  ·by_cases h3:d.size=0
   ·refine ((s55 c).and (s92 ses 0 1099511627776)).mono fun n g => ?_;obtain ⟨g1,g2⟩:=g;simp only [Con.enc] at g1;simp only [g1,g2,AK,Cy,vv,vf,reduceCtorEq,reduceAdd,reduceEqDiff,wi,h1,h2,bne_self_eq_false,Ce,h3,Bi,ne_eq,not_true_eq_false,Dm,DI,Fk,Snd.enc,map_nil,cons_append,nil_append]
   ·by_cases h4:65536<d.size
    ·refine ((s55 c).and (s92 ses 0 1099511627776)).mono fun n g => ?_;obtain ⟨g1,g2⟩:=g;simp only [Con.enc] at g1;simp only [g1,g2,AK,Cy,vv,vf,reduceCtorEq,reduceAdd,reduceEqDiff,wi,h1,h2,bne_self_eq_false,Ce,h3,h4,(show (65536:Int)<(d.size:Int) by omega),Bi,ne_eq,not_true_eq_false,Dm,DI,Fk,Snd.enc,map_nil,cons_append,nil_append]
    ·by_cases h5:b<c.start∨e<b∨c.fin<e
     ·refine ((s55 c).and (s92 ses 0 1099511627776)).mono fun n g => ?_;obtain ⟨g1,g2⟩:=g;simp only [Con.enc] at g1;have r:Dm (Bi c ses d b e)=Dm (DI 2):=by simp only [Bi,h1,h2,h3,h4,h5,ne_eq,not_true_eq_false,if_false,if_true,and_self]
      rw [r];simp only [g1,g2,AK,Cy,vv,vf,reduceCtorEq,reduceAdd,reduceEqDiff,wi,h1,h2,bne_self_eq_false,Ce,h3,h4,(show ¬(65536:Int)<(d.size:Int) by omega)];by_cases q1:b<c.start
      ·simp only [So,q1,AK,Cy,vv,vf,reduceCtorEq,reduceAdd,reduceEqDiff,Dm,DI,Fk,Snd.enc,map_nil,cons_append,nil_append]
      ·by_cases q2:e<b
       ·simp only [So,q1,q2,AK,Cy,vv,vf,reduceCtorEq,reduceAdd,reduceEqDiff,Dm,DI,Fk,Snd.enc,map_nil,cons_append,nil_append]
       ·have q3:c.fin<e:=by omega
        simp only [So,q1,q2,q3,AK,Cy,vv,vf,reduceCtorEq,reduceAdd,reduceEqDiff,Dm,DI,Fk,Snd.enc,map_nil,cons_append,nil_append]
     ·have hd:1≤d.size∧d.size≤65536:=by omega
      obtain ⟨c1,c2⟩:=Fi h1;unfold IL at c1;have hb:=Ke h2 hd;have hl:=(Ni hb).len2 hd.2;have e94:Ac ⟨⟨0,0,0,0,0,0,0⟩,ses,d,0,0,0,[],0,0⟩=CZ ses 1 d (AU d):=by unfold Ac;rw [TP hd _ rfl rfl];rfl
      have t37:=s94 ⟨⟨0,0,0,0,0,0,0⟩,ses,d,0,0,0,[],0,0⟩ (by simp);rw [e94] at t37;refine ((s55 c).and ((s92 ses 0 1099511627776).and (t37.and (Mg (Br c ses d e) b _ hl (by omega) (by simp only [Br];omega))))).mono fun n g => ?_;obtain ⟨g1,g2,g3,g4⟩:=g;simp only [Con.enc] at g1;have r:Bi c ses d b e=if (CO (Br c ses d e) b (CZ ses 1 d (AU d))).1.st=3 then DI 16 else ((CO (Br c ses d e) b (CZ ses 1 d (AU d))).1,(CO (Br c ses d e) b (CZ ses 1 d (AU d))).2,0):=by simp only [Bi,h1,h2,h3,h4,h5,ne_eq,not_true_eq_false,if_false,if_true,and_self]
      rw [r];generalize CO (Br c ses d e) b (CZ ses 1 d (AU d))=p at g4;obtain ⟨p,o⟩:=p;simp only [Snd.enc,Br,HW,cons_append,nil_append,map_nil] at g3 g4;have q1:¬b<c.start:=by omega
      have q2:¬e<b:=by omega
      have q3:¬c.fin<e:=by omega
      simp only [g1,g2,AK,Cy,vv,vf,reduceCtorEq,reduceAdd,reduceEqDiff,wi,h1,h2,bne_self_eq_false,Ce,h3,h4,(show ¬(65536:Int)<(d.size:Int) by omega),So,q1,q2,q3,g3,g4,beq_iff_eq];by_cases hp:p.st=3
      ·simp only [hp,AK,Cy,vv,vf,reduceCtorEq,reduceAdd,reduceEqDiff,Dm,DI,Fk,Snd.enc,map_nil,cons_append,nil_append]
      ·simp only [hp,AK,Cy,vv,vf,reduceCtorEq,reduceAdd,reduceEqDiff,Dm,Snd.enc,cons_append,nil_append]
  ·refine ((s55 c).and (s92 ses 0 1099511627776)).mono fun n g => ?_;obtain ⟨g1,g2⟩:=g;simp only [Con.enc] at g1;simp only [g1,g2,AK,Cy,vv,vf,reduceCtorEq,reduceAdd,reduceEqDiff,wi,h1,h2,bne_self_eq_false,Bi,ne_eq,not_true_eq_false,not_false_eq_true,Dm,DI,Fk,Snd.enc,map_nil,cons_append,nil_append]
 ·refine (s55 c).mono fun n g1 => ?_;simp only [Con.enc] at g1;simp only [g1,AK,Cy,vv,vf,reduceCtorEq,reduceAdd,reduceEqDiff,h1,bne_iff_ne,ne_eq,not_false_eq_true,Bi,Dm,DI,Fk,Snd.enc,map_nil,cons_append,nil_append]
theorem Bat.last {d:ByteArray} {ses ser:Int} {l:List Seg} (h:Bat d ses ser l):∃x,l.getLast? = some x∧x.ser=ser∧l≠[]:=by obtain ⟨pre,x,rfl,_⟩:=h.ex;exact ⟨_,getLast?_concat ..,rfl,by simp⟩
end Ab
set_option linter.unusedVariables false
set_option linter.unusedSimpArgs false
namespace Ab
open Go
def A6 (s:Snd) (x:Seg):Snd:={s with acked:=uni s.acked x.AS}
def Hb (s:Snd) (t:Int) (x:Seg):Snd×List Out:=
 if x.ser≠s.ser∨x.tot≠s.data.size then (s,[]) else if complete (A6 s x)=true then ({A6 s x with due:=0,st:=2},[]) else CO (A6 s x) t (Ac (A6 s x))
def BU (s:Snd) (t:Int) (x:Seg):Snd×List Out×Int:=
 if Gt s≠0∨C4 x≠0 then DI 1 else if ¬(s.busy≤t∧t≤2199023255552) then DI 2
 else if s.st≠1∨x.ses≠s.ses∨x.kind=1 then (s,[],0) else if x.kind=3 then (DY s,[],0)
 else ((Hb s t x).1,(Hb s t x).2,0)
def BX (l:List Seg):List Seg:=l.drop (l.length-1)
def Co (s:Snd) (t:Int):Snd×List Out×Int:=
 if Gt s≠0 then DI 1 else if s.st≠1 then DI 19 else if ¬(s.due≤t∧t≤2199023255552) then DI 2
 else ((CO s t (BX (Ac s))).1,(CO s t (BX (Ac s))).2,0)
theorem LA {s:Snd} (h:Gt s=0):HL s=0∧fits s=true:=by
 unfold Gt at h;split at h
 ·rename_i h1;exact absurd h h1
 ·rename_i h1;split at h
  ·rename_i h2;exact ⟨by omega,h2⟩
  ·cases h
theorem FOk.batch {s:Snd} (h:FOk s) (hc:complete s=false):s.ser=1099511627776∧Ac s=[]∨s.ser<1099511627776∧Bat s.data s.ses (s.ser+1) (Ac s):=by
 have:=h.num;by_cases hr:s.ser=1099511627776
 ·exact .inl ⟨hr,Wn hr⟩
 ·have hr:s.ser<1099511627776:=by omega
  exact .inr ⟨hr,Ni (h.bat hc hr)⟩
theorem FOk.PK {s:Snd} (h:FOk s) (hc:complete s=false):(Ac s).length≤65537:=by
 have:=h.dat;rcases h.batch hc with ⟨_,e⟩|⟨_,b⟩
 ·rw [e];simp
 ·have:=b.len;omega
theorem TQ (l:List Seg):(BX l).length≤1:=by unfold BX;rw [length_drop];omega
theorem E1 (pre:List Seg) (x:Seg):BX (pre++[x])=[x]:=by unfold BX;simp
structure GOk (x:Seg):Prop where
 g:C4 x=0
 few:x.AS.length≤100
theorem Em {x:Seg} (h:C4 x=0):(1≤x.kind∧x.kind≤3)∧CN x∧C6 x:=by
 unfold C4 at h;split at h
 ·cases h
 ·rename_i h1;split at h
  ·cases h
  ·rename_i h2;split at h
   ·cases h
   ·rename_i h3;exact ⟨not_not.1 h1,not_not.1 h2,not_not.1 h3⟩
theorem GOk.cl {x:Seg} (h:GOk x) (hk:x.kind=2):BG x.AS=0∧B9 x.AS x.tot:=by have:=(Em h.g).2.2.2.1 hk;have k4:=this.2.2;unfold inside at k4;have k4:=of_decide_eq_true k4;exact ⟨k4.1,(CJ k4.1).1 k4.2⟩
theorem W3 {a b:List Span} {n:Int} (ha:BG a=0) (hb:BG b=0) (wa:B9 a n) (wb:B9 b n) (hl:a.length+b.length≤1000) (hn:n≤65536):BG (uni a b)=0∧B9 (uni a b) n∧∀t,AM t (uni a b)↔AM t a∨AM t b:=by
 obtain ⟨k1,k2⟩:=JZ ((Aj _).1 ha).2.1 ((Aj _).1 hb).2.1;have hw:B9 (uni a b) n:=Gg k1 fun t m=>by
  rcases (k2 t).1 m with m|m
  ·exact Fl wa m
  ·exact Fl wb m
 have:=Pf ha hb;refine ⟨(Aj _).2 ⟨by omega,k1,fun x hx=>by have:=hw x hx;omega⟩,hw,k2⟩
theorem Vf {s:Snd} {x:Seg} (h:FOk s) (hs:s.acked.length≤100) (g:GOk x) (hk:x.kind=2) (ht:x.tot=s.data.size):FOk (A6 s x):=by
 obtain ⟨k1,k2⟩:=g.cl hk;rw [ht] at k2;have hd:=h.dat;have:=g.few;obtain ⟨u1,u2,u3⟩:=W3 h.ack k1 h.win k2 (by omega) (by omega);refine ⟨?_,?_⟩
 ·obtain ⟨c1,c2,c3⟩:=DQ h.f;unfold HL;have a1:Es (A6 s x):=c2;have a2:Q1 (A6 s x):=⟨u1,(CJ u1).2 u2⟩
  have a0:KF (A6 s x).c=0:=c1;rw [if_neg (fun f=>f a0),if_neg (fun f=>f a1),if_neg (fun f=>f a2)]
 ·have:=Pf h.ack k1;have e:(A6 s x).acked=uni s.acked x.AS:=rfl;rw [e];omega
theorem W2 {a b:List Span} (ha:BG a=0) (hb:BG b=0) (hl:a.length+b.length≤1000):DR a b=uni a b∧Eb a b=0:=by have:=Pf ha hb;unfold DR Eb;simp [ha,hb,(show ¬1000<(uni a b).length by omega)]
theorem s186 (s:Snd) (t:Int) (x:Seg) (h:FOk s) (hs:s.acked.length≤100) (g:GOk x) (hk:x.kind=2) (ht:s.busy≤t∧t≤2199023255552):AT C 186 (s.enc++[tI t]++x.enc) (HW (Hb s t x)):=by
 refine AT.of (fun n=>e186 n _ _ _ _ _ _ _ _ _ _ _ _ _ _ _ _ _ _ _ _ _ _ _ _) ?_;obtain ⟨k1,k2⟩:=g.cl hk;have hcl:=g.few;obtain ⟨u1,u2⟩:=W2 h.ack k1 (by omega);have t67:=s183 s.acked x.AS;rw [OY,u1,u2] at t67;have hrng:=h.rng;have hnum:=h.num;by_cases q1:x.ser=s.ser
 ·by_cases q2:x.tot=s.data.size
  ·have hA:=Vf h hs g hk q2;by_cases q3:complete (A6 s x)=true
   ·refine (t67.and (s185 (A6 s x) (by have:=hA.few;omega))).mono fun n y => ?_;obtain ⟨y1,y2⟩:=y;simp only [Snd.enc,A6] at y2;have r:Hb s t x=({A6 s x with due:=0,st:=2},[]):=by unfold Hb;rw [if_neg (by omega),if_pos q3]
    rw [r];unfold A6 at q3;simp only [y1,y2,AK,Cy,vv,vf,reduceCtorEq,reduceAdd,reduceEqDiff,q1,q2,q3,bne_self_eq_false,OB,HW,A6,Snd.enc,map_nil,cons_append,nil_append]
   ·have q3':complete (A6 s x)=false:=by simpa using q3
    have hbl:=hA.PK q3';refine (t67.and ((s185 (A6 s x) (by have:=hA.few;omega)).and ((s94 (A6 s x) (by have:=hA.num;omega)).and (Mg (A6 s x) t (Ac (A6 s x)) (by omega) (by omega) (by simp only [A6];omega))))).mono fun n y => ?_;obtain ⟨y1,y2,y3,y4⟩:=y;have r:Hb s t x=CO (A6 s x) t (Ac (A6 s x)):=by unfold Hb;rw [if_neg (by omega),if_neg q3]
    rw [r];rw [q3'] at y2;generalize CO (A6 s x) t (Ac (A6 s x))=p at y4;obtain ⟨p,o⟩:=p;generalize Ac (A6 s x)=bb at y3 y4;simp only [Snd.enc,A6,HW,cons_append,nil_append] at y2 y3 y4;simp only [y1,y2,y3,y4,AK,Cy,vv,vf,reduceCtorEq,reduceAdd,reduceEqDiff,q1,q2,bne_self_eq_false,OB,HW,Snd.enc,cons_append,nil_append]
  ·refine t67.mono fun n y1 => ?_;have r:Hb s t x=(s,[]):=by unfold Hb;rw [if_pos (by omega)]
   rw [r];simp only [y1,AK,Cy,vv,vf,reduceCtorEq,reduceAdd,reduceEqDiff,q1,q2,bne_self_eq_false,bne_iff_ne,ne_eq,not_false_eq_true,OB,HW,Snd.enc,map_nil,cons_append,nil_append]
 ·refine t67.mono fun n y1 => ?_;have r:Hb s t x=(s,[]):=by unfold Hb;rw [if_pos (by omega)]
  rw [r];simp only [y1,AK,Cy,vv,vf,reduceCtorEq,reduceAdd,reduceEqDiff,q1,bne_iff_ne,ne_eq,not_false_eq_true,OB,HW,Snd.enc,map_nil,cons_append,nil_append]
theorem s187 (s:Snd) (t:Int) (x:Seg):AT C 187 (s.enc++[tI t]++x.enc) (HW (DY s,[])):=by refine AT.of (fun n=>e187 n _ _ _ _ _ _ _ _ _ _ _ _ _ _ _ _ _ _ _ _ _ _ _ _) ?_;refine (s116 s).mono fun n y => ?_;simp only [Snd.enc] at y;simp only [y,AK,Cy,vv,vf,reduceCtorEq,reduceAdd,reduceEqDiff,HW,DY,Snd.enc,map_nil,cons_append,nil_append]
theorem YU {s:Snd} (h:Gt s=0) (hs:s.acked.length≤100):FOk s:=⟨(LA h).1,by omega⟩
theorem gok_of {x:Seg} (h:C4 x=0) (hx:x.AS.length≤100∨1000<x.AS.length):GOk x:=by
 refine ⟨h,?_⟩;obtain ⟨k1,k2,k3⟩:=Em h;have hkk:x.kind=1∨x.kind=2∨x.kind=3:=by omega
 rcases hkk with hk|hk|hk
 ·rw [(k3.2.2 hk).2.2];simp
 ·have:=(k3.2.1 hk).2.2;unfold inside at this;have:=Bo (of_decide_eq_true this).1;omega
 ·rw [(k3.1 hk).2.2];simp
theorem s148 (s:Snd) (t:Int) (x:Seg) (hs:s.acked.length≤100) (hx:x.AS.length≤100∨1000<x.AS.length):AT C 148 (s.enc++[tI t]++x.enc) (Dm (BU s t x)):=by
 refine AT.of (fun n=>e148 n _ _ _ _ _ _ _ _ _ _ _ _ _ _ _ _ _ _ _ _ _ _ _ _) ?_;by_cases h1:Gt s=0
 ·by_cases h2:C4 x=0
  ·have hF:=YU h1 hs;have hG:=gok_of h2 hx;have hk:=(Em h2).1;have hb:Ev fun n=>AA C n 164 s.enc=some [tI 0]∧AA C n 152 x.enc=some [tI 0]∧AA C n 92 [tI t,tI s.busy,tI 2199023255552]=some [.bool (wi t s.busy 2199023255552)]:=by have a:=S5 s;have b:=Xb x;rw [h1] at a;rw [h2] at b;exact a.and (b.and (s92 t s.busy 2199023255552))
   by_cases h3:s.busy≤t∧t≤2199023255552
   ·by_cases h4:s.st=1
    ·by_cases h5:x.ses=s.ses
     ·by_cases k1:x.kind=1
      ·refine hb.mono fun n g => ?_;obtain ⟨g1,g2,g3⟩:=g;simp only [Snd.enc,Seg.enc,wi] at g1 g2 g3;rw [k1] at g2;have r:BU s t x=(s,[],0):=by unfold BU;rw [if_neg (by omega),if_neg (by omega),if_pos (.inr (.inr k1))]
       rw [r];simp only [k1,g1,g2,g3,AK,Cy,vv,vf,reduceCtorEq,reduceAdd,reduceEqDiff,G2,bne_self_eq_false,h3,Int.reduceEq,Dm,Snd.enc,map_nil,cons_append,nil_append]
      ·by_cases k3:x.kind=3
       ·refine (hb.and (s187 s t x)).mono fun n g => ?_;obtain ⟨⟨g1,g2,g3⟩,g4⟩:=g;simp only [Snd.enc,Seg.enc,wi,HW,DY,map_nil,cons_append,nil_append] at g1 g2 g3 g4;rw [k3] at g2 g4;have r:BU s t x=(DY s,[],0):=by unfold BU;rw [if_neg (by omega),if_neg (by omega),if_neg (by omega),if_pos k3]
        rw [r];simp only [k3,h4,h5] at g1 g2 g3 g4 ⊢;simp only [k3,g1,g2,g3,g4,AK,Cy,vv,vf,reduceCtorEq,reduceAdd,reduceEqDiff,G2,Qv,bne_self_eq_false,h3,h4,h5,Int.reduceEq,Dm,DY,Snd.enc,map_nil,cons_append,nil_append]
       ·have k2:x.kind=2:=by omega
        refine (hb.and (s186 s t x hF hs hG k2 h3)).mono fun n g => ?_;obtain ⟨⟨g1,g2,g3⟩,g4⟩:=g;have r:BU s t x=((Hb s t x).1,(Hb s t x).2,0):=by unfold BU;rw [if_neg (by omega),if_neg (by omega),if_neg (by omega),if_neg k3]
        rw [r];generalize Hb s t x=p at g4;obtain ⟨p,o⟩:=p;simp only [Snd.enc,Seg.enc,wi,HW,cons_append,nil_append] at g1 g2 g3 g4;simp only [k2,h4,h5] at g1 g2 g3 g4 ⊢;simp only [k2,g1,g2,g3,g4,AK,Cy,vv,vf,reduceCtorEq,reduceAdd,reduceEqDiff,G2,Qw,bne_self_eq_false,h3,h4,h5,Int.reduceEq,Dm,Snd.enc,cons_append,nil_append]
     ·refine hb.mono fun n g => ?_;obtain ⟨g1,g2,g3⟩:=g;simp only [Snd.enc,Seg.enc,wi,h4] at g1 g2 g3;have r:BU s t x=(s,[],0):=by unfold BU;rw [if_neg (by omega),if_neg (by omega),if_pos (.inr (.inl h5))]
      rw [r];have hkk:x.kind=1∨x.kind=2∨x.kind=3:=by omega
      rcases hkk with k|k|k<;>rw [k] at g2<;>simp only [k,g1,g2,g3,AK,Cy,vv,vf,reduceCtorEq,reduceAdd,reduceEqDiff,G2,Qv,Qw,bne_self_eq_false,h3,h4,h5,bne_iff_ne,ne_eq,not_false_eq_true,not_true_eq_false,Int.reduceEq,Dm,Snd.enc,map_nil,cons_append,nil_append]
    ·refine hb.mono fun n g => ?_;obtain ⟨g1,g2,g3⟩:=g;simp only [Snd.enc,Seg.enc,wi] at g1 g2 g3;have r:BU s t x=(s,[],0):=by unfold BU;rw [if_neg (by omega),if_neg (by omega),if_pos (.inl h4)]
     rw [r];have hkk:x.kind=1∨x.kind=2∨x.kind=3:=by omega
     rcases hkk with k|k|k<;>rw [k] at g2<;>simp only [k,g1,g2,g3,AK,Cy,vv,vf,reduceCtorEq,reduceAdd,reduceEqDiff,G2,Qv,Qw,bne_self_eq_false,h3,h4,bne_iff_ne,ne_eq,not_false_eq_true,not_true_eq_false,Int.reduceEq,Dm,Snd.enc,map_nil,cons_append,nil_append]
   ·refine hb.mono fun n g => ?_;obtain ⟨g1,g2,g3⟩:=g;simp only [Snd.enc,Seg.enc,wi] at g1 g2 g3;have r:BU s t x=DI 2:=by unfold BU;rw [if_neg (by omega),if_pos h3]
    rw [r];simp only [g1,g2,g3,AK,Cy,vv,vf,reduceCtorEq,reduceAdd,reduceEqDiff,G2,bne_self_eq_false,h3,Dm,DI,Fk,Snd.enc,map_nil,cons_append,nil_append]
  ·have r:BU s t x=DI 1:=by unfold BU;rw [if_pos (.inr h2)]
   refine ((S5 s).and (Xb x)).mono fun n g => ?_;obtain ⟨g1,g2⟩:=g;rw [h1] at g1;simp only [Snd.enc,Seg.enc] at g1 g2;rw [r];simp only [g1,g2,AK,Cy,vv,vf,reduceCtorEq,reduceAdd,reduceEqDiff,G2,bne_self_eq_false,bne_iff_ne,ne_eq,not_false_eq_true,not_true_eq_false,h2,Dm,DI,Fk,Snd.enc,map_nil,cons_append,nil_append]
 ·have r:BU s t x=DI 1:=by unfold BU;rw [if_pos (.inl h1)]
  refine (S5 s).mono fun n g1 => ?_;simp only [Snd.enc] at g1;rw [r];simp only [g1,AK,Cy,vv,vf,reduceCtorEq,reduceAdd,reduceEqDiff,G2,bne_iff_ne,ne_eq,not_false_eq_true,h1,Dm,DI,Fk,Snd.enc,map_nil,cons_append,nil_append]
end Ab
set_option linter.unusedVariables false
set_option linter.unusedSimpArgs false
namespace Ab
open Go
theorem OQ (l:List Seg):List.map Seg.enc (BX l)=drop (l.length-1) (List.map Seg.enc l):=by unfold BX;rw [map_drop]
theorem O3 {s:Snd} (h:Gt s=0) (h4:s.st=1):complete s=false∧s.due=s.busy+2*s.c.rng+1:=by
 have:=(LA h).2;unfold fits at this;have:=of_decide_eq_true this;have e:Yd s=s.busy+2*s.c.rng+1:=rfl;rcases this with k|k|k
 ·exact ⟨k.2.1,by rw [k.2.2,e]⟩
 ·omega
 ·omega
theorem s149 (s:Snd) (t:Int) (hs:s.acked.length≤100):AT C 149 (s.enc++[tI t]) (Dm (Co s t)):=by
 refine AT.of (fun n=>e149 n _ _ _ _ _ _ _ _ _ _ _ _ _ _ _ _) ?_;by_cases h1:Gt s=0
 ·have hF:=YU h1 hs;have hnum:=hF.num;have hrng:=hF.rng;by_cases h4:s.st=1
  ·obtain ⟨hc,hd⟩:=O3 h1 h4;by_cases h3:s.due≤t∧t≤2199023255552
   ·have hl:=hF.PK hc;refine ((S5 s).and ((s92 t s.due 2199023255552).and ((s94 s (by omega)).and (Mg s t (BX (Ac s)) (by have:=TQ (Ac s);omega) (by omega) (by omega))))).mono fun n g => ?_;obtain ⟨g1,g2,g3,g4⟩:=g;have r:Co s t=((CO s t (BX (Ac s))).1,(CO s t (BX (Ac s))).2,0):=by unfold Co;rw [if_neg (by omega),if_neg (by omega),if_neg (by omega)]
    rw [r];rw [OQ] at g4;generalize CO s t (BX (Ac s))=p at g4;obtain ⟨p,o⟩:=p;rw [h1] at g1;generalize Ac s=bb at g3 g4 hl;simp only [Snd.enc,wi,HW,cons_append,nil_append] at g1 g2 g3 g4;simp only [h4] at g1 g3 g4 ⊢;have e1:(if w64 ((bb.length:Int)-1)>0 then w64 ((bb.length:Int)-1) else 0)=((bb.length-1:Nat):Int):=by rw [Ad (by omega) (by omega)];split<;>omega
    have e2:take bb.length (List.map Seg.enc bb)=List.map Seg.enc bb:=take_of_length_le (by simp);simp only [gt_iff_lt] at e1;simp only [g1,g2,g3,AK,Cy,vv,vf,reduceCtorEq,reduceAdd,reduceEqDiff,bne_self_eq_false,h3,e1,e2,g4,(show ((bb.length-1:Nat):Int)≤(bb.length:Int) by omega),Dm,Snd.enc,cons_append,nil_append]
   ·refine ((S5 s).and (s92 t s.due 2199023255552)).mono fun n g => ?_;obtain ⟨g1,g2⟩:=g;have r:Co s t=DI 2:=by unfold Co;rw [if_neg (by omega),if_neg (by omega),if_pos h3]
    rw [r];rw [h1] at g1;simp only [Snd.enc,wi] at g1 g2;simp only [h4] at g1 ⊢;simp only [g1,g2,AK,Cy,vv,vf,reduceCtorEq,reduceAdd,reduceEqDiff,bne_self_eq_false,h3,Dm,DI,Fk,Snd.enc,map_nil,cons_append,nil_append]
  ·refine (S5 s).mono fun n g1 => ?_;have r:Co s t=DI 19:=by unfold Co;rw [if_neg (by omega),if_pos h4]
   rw [r];rw [h1] at g1;simp only [Snd.enc] at g1;simp only [g1,AK,Cy,vv,vf,reduceCtorEq,reduceAdd,reduceEqDiff,bne_self_eq_false,bne_iff_ne,ne_eq,not_false_eq_true,not_true_eq_false,h4,Dm,DI,Fk,Snd.enc,map_nil,cons_append,nil_append]
 ·have r:Co s t=DI 1:=by unfold Co;rw [if_pos h1]
  refine (S5 s).mono fun n g1 => ?_;simp only [Snd.enc] at g1;rw [r];simp only [g1,AK,Cy,vv,vf,reduceCtorEq,reduceAdd,reduceEqDiff,bne_iff_ne,ne_eq,not_false_eq_true,h1,Dm,DI,Fk,Snd.enc,map_nil,cons_append,nil_append]
end Ab
set_option linter.unusedVariables false
set_option linter.unusedSimpArgs false
namespace Ab
open Go
def tb (b:UInt8):List Tree:=[.int .u8 (b.toNat:Int)]
def bl (s:ByteArray):List UInt8:=s.data.toList
def mkB (l:List UInt8):ByteArray:=⟨l.toArray⟩
theorem YF (s:ByteArray):mkB (bl s)=s:=by obtain ⟨a⟩:=s;simp [mkB,bl]
theorem Lu (l:List UInt8):bl (mkB l)=l:=by simp [mkB,bl]
theorem B8 (s:ByteArray):(bl s).length=s.size:=by obtain ⟨a⟩:=s;simp [bl,ByteArray.size]
theorem IV (l:List UInt8):(mkB l).size=l.length:=by rw [← B8,Lu]
theorem LG {a b:ByteArray} (h:bl a=bl b):a=b:=by rw [← YF a,← YF b,h]
theorem Oc (s:ByteArray):DT s=(bl s).map tb:=rfl
theorem Wl (s:ByteArray) (i:Nat):Fu s i=(((bl s).getD i 0).toNat:Int):=by
 obtain ⟨⟨l⟩⟩:=s;unfold Fu bl;by_cases h:i<l.length
 ·have h1:(ByteArray.mk ⟨l⟩)[i]? = some l[i]:=getElem?_pos (ByteArray.mk ⟨l⟩) i h;rw [h1];simp [List.getD,h]
 ·have h1:(ByteArray.mk ⟨l⟩)[i]? = none:=getElem?_neg (ByteArray.mk ⟨l⟩) i h;rw [h1];simp [List.getD,h]
theorem TK (l:List UInt8):MC (l.map tb)=true:=by unfold MC;rw [List.all_map,all_eq_true];exact fun x _=>rfl
theorem Yr (b:UInt8):SQ (tb b)=b:=by simp [SQ,tb]
theorem V8 (l:List UInt8) (s:ByteArray):bl (l.foldl ByteArray.push s)=bl s++l:=by
 induction l generalizing s with
 |nil=>simp
 |cons b l ih=>rw [foldl_cons,ih];simp [bl,ByteArray.push]
theorem Tt (l:List UInt8):bytesOf (l.map tb)=mkB l:=by unfold bytesOf;rw [map_map,show SQ ∘ tb=id from funext Yr,List.map_id];apply LG;rw [V8,Lu];rfl
def Me (l:List UInt8) (p:Nat) (m:List UInt8):List UInt8:=l.take p++m++l.drop (p+m.length)
theorem Kk (l:List UInt8) (p:Nat) (m:List UInt8):BQ (l.map tb) p (m.map tb)=(Me l p m).map tb:=by simp [BQ,Me,map_take,map_drop]
theorem rep_tb (k:Nat):replicate k ([Tree.int IntKind.u8 0]:List Tree)=(replicate k (0:UInt8)).map tb:=by rw [List.map_replicate];rfl
theorem ED (s:ByteArray) (i j:Nat):bl (s.extract i j)=((bl s).drop i).take (j-i):=by unfold bl;rw [ByteArray.data_extract];simp [List.extract_eq_take_drop]
theorem Tv {a b:ByteArray} (h:a.size=b.size) (hb:∀i,i<a.size→(bl a).getD i 0=(bl b).getD i 0):a=b:=by apply LG;apply List.ext_getElem (by rw [B8,B8,h]);intro i h1 h2;have:=hb i (by rw [← B8];exact h1);simpa [List.getD,h1,h2] using this
theorem HQ (l:List UInt8) (p:Nat) (m:List UInt8) (h:p+m.length≤l.length):(Me l p m).length=l.length:=by simp only [Me,length_append,length_take,length_drop];omega
theorem RC (l:List UInt8) (p:Nat) (m:List UInt8) (h:p+m.length≤l.length) (i:Nat) :
  (Me l p m).getD i 0=if p≤i∧i<p+m.length then m.getD (i-p) 0 else l.getD i 0:=by
 simp only [Me,getD_eq_getElem?_getD,List.getElem?_append,length_take,length_append,getElem?_take,getElem?_drop];have e:min p l.length=p:=by omega
 simp only [e];by_cases h1:i<p
 ·rw [if_pos (by omega),if_pos h1,if_pos h1,if_neg (by omega)]
 ·rw [if_neg (c:=i<p) h1];by_cases h2:i<p+m.length
  ·rw [if_pos h2,if_pos ⟨by omega,h2⟩]
  ·rw [if_neg h2,if_neg (by omega),show p+m.length+(i-(p+m.length))=i by omega]
end Ab
set_option linter.unusedVariables false
set_option linter.unusedSimpArgs false
namespace Ab
open Go
structure Rcv where
 ses:Int
 tot:Int
 known:List Span
 data:ByteArray
 deriving DecidableEq
def Rcv.enc (r:Rcv):List Tree:=[tI r.ses,tI r.tot,.sl 2 (r.known.map Span.enc),.str r.data]
theorem PH (l:List UInt8) (i:Nat):Fu (mkB l) i=((l.getD i 0).toNat:Int):=by rw [Wl,Lu]
theorem extract_mk (l:List UInt8) (i j:Nat):(mkB l).extract i j=mkB ((l.drop i).take (j-i)):=LG (by rw [ED,Lu,Lu])
theorem Ii (l:List UInt8):(mkB l==ByteArray.mk #[])=decide (l=[]):=by rw [Ce,IV];cases l<;>simp
theorem s205 (l:List UInt8) (hl:l.length≤1000000):AT C 205 [.str (mkB l),.int .u8 0] [.str (mkB (l.dropWhile (· == 0)))]:=by
 refine AT.of (fun n=>e205 n _ _) ?_;refine Ld (fun (r:List UInt8)=>[Tree.str (mkB r)]) (fun (s:List UInt8)=>(([.t (.str (mkB s))],[]):List AV×Heap)) (fun s=>match s with
  |[]=>.done []
  |b::s=>if b=0 then .next s else .done (b::s)) (fun s=>s.length≤1000000) (fun s=>s.length) (fun s=>s.dropWhile (· == 0)) l rfl hl rfl
  (fun s hs=>Ev.of fun n again => ?_) (fun s s' hI h => ?_) (fun s hI => ?_)
 ·cases s with
  |nil=>simp [T3,vv,IV,AE,Rd.Az]
  |cons b s=>
   simp only [T3,vv,vf,reduceCtorEq,reduceAdd,reduceEqDiff,IV,PH,extract_mk];simp only [length_cons,List.getD_cons_zero,drop_succ_cons,drop_zero,Nat.add_sub_cancel,take_length,AE];by_cases hb:b=0
   ·subst hb;simp [Rd.Ai];intro h;omega
   ·have hbn:¬(b.toNat=0):=fun h=>hb (UInt8.toNat_inj.1 (by simpa using h));simp [hb,hbn,Rd.Az]
 ·cases s with
  |nil=>simp at h
  |cons b s=>
   simp only at h;split at h
   ·simp only [Rd.next.injEq] at h;subst h;simp at hI ⊢;omega
   ·simp at h
 ·cases s with
  |nil=>rfl
  |cons b s=>by_cases hb:b=0<;>simp [hb,Rd.fin,dropWhile_cons]
def Fy (l:List UInt8):List UInt8:=(l.reverse.dropWhile (· == 0)).reverse
theorem MR (l:List UInt8) (b:UInt8):Fy (l++[b])=if b=0 then Fy l else l++[b]:=by unfold Fy;rw [List.reverse_append];simp only [List.reverse_cons,List.reverse_nil,nil_append,singleton_append,dropWhile_cons];by_cases hb:b=0<;>simp [hb]
theorem I3 (l:List UInt8):l=[]∨∃s b,l=s++[b]:=by
 by_cases h:l=[]
 ·exact .inl h
 ·exact .inr ⟨_,_,(List.dropLast_concat_getLast h).symm⟩
theorem s206 (l:List UInt8) (hl:l.length≤1000000):AT C 206 [.str (mkB l),.int .u8 0] [.str (mkB (Fy l))]:=by
 refine AT.of (fun n=>e206 n _ _) ?_;refine Ld (fun (r:List UInt8)=>[Tree.str (mkB r)]) (fun (s:List UInt8)=>(([.t (.str (mkB s))],[]):List AV×Heap)) (fun s=>if s.getLast? = some 0 then .next s.dropLast else .done s)
  (fun s=>s.length≤1000000) (fun s=>s.length) Fy l rfl hl rfl
  (fun s hs=>Ev.of fun n again => ?_) (fun s s' hI h => ?_) (fun s hI => ?_)
 ·rcases I3 s with rfl|⟨s,b,rfl⟩
  ·simp [T2,UB,vv,IV,AE,Rd.Az]
  ·have hs':s.length+1≤1000000:=by simpa using hs
   have e:w64 (((s.length+1:Nat):Int)-1)=(s.length:Int):=by rw [MM (by omega) (by omega)];simp
   simp only [T2,UB,vv,vf,reduceCtorEq,reduceAdd,reduceEqDiff,IV,PH,extract_mk,length_append,length_cons,length_nil,e];simp only [AE,getLast?_concat,Option.some.injEq,List.dropLast_concat,drop_zero,toNat_natCast,Nat.sub_zero,List.take_left];have e2:(s++[b]).getD s.length 0=b:=by simp [List.getD]
   rw [e2];by_cases hb:b=0
   ·subst hb;simp [Rd.Ai]
    first|omega|(rw [if_pos (by omega),if_pos (by omega)])
   ·have hbn:¬(b.toNat=0):=fun h=>hb (UInt8.toNat_inj.1 (by simpa using h));simp [hb,hbn,Rd.Az]
    try omega
 ·split at h
  ·rename_i hg;simp only [Rd.next.injEq] at h;subst h;have:s≠[]:=fun e=>by simp [e] at hg
   have h2:s.length≠0:=fun e=>this (eq_nil_of_length_eq_zero e);simp only [List.length_dropLast];omega
  ·simp at h
 ·rcases I3 s with rfl|⟨s,b,rfl⟩
  ·simp [Rd.fin,Fy]
  ·rw [MR];by_cases hb:b=0<;>simp [hb,Rd.fin]
def Hy (l:List UInt8):Bool:=l.all (· == 0)
theorem O6:∀(l:List UInt8),l.dropWhile (· == 0)=[]↔Hy l=true
 |[]=>by simp [Hy]
 |b::l=>by
  have:=O6 l;by_cases hb:b=0
  ·simp only [hb,dropWhile_cons,beq_self_eq_true,if_true,this,Hy,all_cons,Bool.true_and]
  ·simp [hb,dropWhile_cons,Hy]
theorem Su (l:List UInt8):(Fy l).dropWhile (· == 0)=[]↔Hy l=true:=by
 rw [O6];have h:∀k:Nat,∀l:List UInt8,l.length≤k→(Hy (Fy l)=true↔Hy l=true):=by
  intro k
  induction k with
  |zero=>intro l hl;have:l=[]:=eq_nil_of_length_eq_zero (by omega);subst this;simp [Fy]
  |succ k ih=>
   intro l hl;rcases I3 l with rfl|⟨l,b,rfl⟩
   ·simp [Fy]
   ·rw [MR];by_cases hb:b=0
    ·rw [if_pos hb,ih l (by simp at hl;omega)];simp [Hy,hb]
    ·rw [if_neg hb]
 exact h _ l (le_refl _)
theorem SB (p:UInt8→Bool):∀l:List UInt8,(l.dropWhile p).length≤l.length
 |[]=>le_refl _
 |b::l=>by rw [dropWhile_cons];have:=SB p l;split<;>simp only [length_cons]<;>omega
theorem J48t (n:Nat) (s:ByteArray):OC n s ([.t (.bool true)],[])=some [.str s]:=by unfold OC;exact Ct rfl _ _
theorem J48f (n:Nat) (s t u:ByteArray) (h1:AA C n 206 [.str s,.int .u8 0]=some [.str t]) (h2:AA C n 205 [.str t,.int .u8 0]=some [.str u]):OC n s ([.t (.bool false)],[])=some [.str u]:=by
 have e1:Fu (ByteArray.mk #[0]) 0=0:=by decide
 unfold OC;rw [MH (show ¬(vB ([AV.t (Tree.bool false)],[]) 0=true) from Bool.false_ne_true),e1,h1];simp only [vv,vf,reduceCtorEq,reduceAdd,reduceEqDiff,h2]
theorem s178 (l:List UInt8) (hl:l.length≤1000000):∃t:List UInt8,(t=[]↔Hy l=true)∧AT C 178 [.str (mkB l),.str (ByteArray.mk #[0])] [.str (mkB t)]:=by
 by_cases h:l=[]
 ·subst h;refine ⟨[],by simp [Hy],AT.of (fun n=>e178 n _) (Ev.of fun n => ?_)⟩;have h1:∀X Y:Option (List Tree),cnd ((mkB []==ByteArray.mk #[])=true) X Y=X:=fun X Y=>Ct (by rw [Ii];exact decide_eq_true rfl) X Y;rw [join_eq,h1];exact J48t n (mkB [])
 ·refine ⟨(Fy l).dropWhile (· == 0),Su l,AT.of (fun n=>e178 n _) ?_⟩;have hlen:(Fy l).length≤l.length:=by unfold Fy;rw [List.length_reverse];refine le_trans (SB _ _) (by rw [List.length_reverse];exact le_refl _)
  refine ((s206 l hl).and (s205 (Fy l) (by omega))).mono fun n hh => ?_;have h1:∀X Y:Option (List Tree),cnd ((mkB l==ByteArray.mk #[])=true) X Y=Y:=fun X Y=>MH (by rw [Ii,decide_eq_false h];exact Bool.false_ne_true) X Y;have h2:(ByteArray.mk #[0]==ByteArray.mk #[])=false:=by decide
  rw [join_eq,h1,h2];exact J48f n _ _ _ hh.1 hh.2
end Ab
set_option linter.unusedVariables false
set_option linter.unusedSimpArgs false
namespace Ab
open Go
def Tz (r:Rcv):Prop:=(0≤r.ses∧r.ses≤1099511627776)∧(r.tot = -1∨1≤r.tot∧r.tot≤65536)
def KnR (r:Rcv):Prop:=BG r.known=0∧(r.known=[]↔r.tot = -1)∧(r.known=[]∨0≤ER r.known∧Eh r.known≤r.tot)
def Sf (r:Rcv):Prop:=∀i,i<r.data.size→(bl r.data).getD i 0≠0→AM i r.known
instance (r:Rcv):Decidable (Tz r):=by unfold Tz;exact inferInstance
instance (r:Rcv):Decidable (KnR r):=by unfold KnR;exact inferInstance
instance (r:Rcv):Decidable (Sf r):=by unfold Sf;exact inferInstance
def Ji (t:Int):Int:=if 0>t then 0 else t
def El (r:Rcv):Int:=if ¬Tz r then 2 else if ¬KnR r then 1 else if (r.data.size:Int)≠Ji r.tot then 10 else if Sf r then 0 else 24
theorem Rt (t:Int):∀(l:List Span),AM t l↔l.any (fun x=>decide (x.fro≤t∧t<x.to))=true
 |[]=>by simp [AM]
 |x::l=>by simp only [AM,Rt t l,List.any_cons,or_eq_true,decide_eq_true_eq]
end Ab
set_option linter.unusedVariables false
set_option linter.unusedSimpArgs false
namespace Ab
open Go
def Gk (D:List UInt8) (_:Nat) (a:Int) (x:Span):Rd Int Int:=if Hy ((D.drop a.toNat).take (x.fro.toNat-a.toNat))=true then .next x.to else .done 24
def NT (D:List UInt8) (a:Int):Int:=if Hy (D.drop a.toNat)=true then 0 else 24
theorem Yy (l:List UInt8):Hy l=true↔∀k,k<l.length→l.getD k 0=0:=by
 unfold Hy;rw [all_eq_true];constructor
 ·intro h k hk;have:l.getD k 0=l[k]:=by simp [List.getD,hk]
  rw [this];simpa using h _ (getElem_mem hk)
 ·intro h x hx;obtain ⟨k,hk,rfl⟩:=getElem_of_mem hx;have:=h k hk;have e:l.getD k 0=l[k]:=by simp [List.getD,hk]
  rw [e] at this;simp [this]
theorem PR (D:List UInt8) (a b:Nat) (hb:b≤D.length):Hy ((D.drop a).take (b-a))=true↔∀k,a≤k→k<b→D.getD k 0=0:=by
 rw [Yy];have hg:∀k,k<b-a→((D.drop a).take (b-a)).getD k 0=D.getD (a+k) 0:=fun k hk=>by simp [getD_eq_getElem?_getD,getElem?_take,hk,getElem?_drop]
 constructor
 ·intro h k h1 h2;have:=h (k-a) (by simp;omega);rw [hg _ (by omega),show a+(k-a)=k by omega] at this;exact this
 ·intro h k hk;simp at hk;rw [hg k (by omega)];exact h _ (by omega) (by omega)
theorem VP (D:List UInt8):∀(l:List Span) (i:Nat) (a:Int),Canon (a-1) l→B9 l D.length→0≤a→a≤D.length→
  (CR (Gk D) (NT D) i l a=0∧(∀k:Nat,a≤k→k<D.length→D.getD k 0≠0→AM k l))∨(CR (Gk D) (NT D) i l a=24∧∃k:Nat,a≤k∧k<D.length∧D.getD k 0≠0∧¬AM k l)
 |[],i,a,hc,hw,h0,h1=>by
  simp only [CR,NT];have key:=PR D a.toNat D.length (le_refl _);rw [take_of_length_le (by simp)] at key;by_cases h:Hy (D.drop a.toNat)=true
  ·rw [if_pos h];exact .inl ⟨rfl,fun k h2 h3 h4=>(h4 (key.1 h k (by omega) h3)).elim⟩
  ·rw [if_neg h];refine .inr ⟨rfl,?_⟩;have h5:¬∀k,a.toNat≤k→k<D.length→D.getD k 0=0:=fun hh=>h (key.2 hh);simp only [not_forall] at h5;obtain ⟨k,h6,h7,h8⟩:=h5;exact ⟨k,by omega,h7,h8,fun h=>h⟩
 |x::l,i,a,hc,hw,h0,h1=>by
  obtain ⟨c1,c2,c3⟩:=hc;have hx:=hw x (mem_cons_self);have key:=PR D a.toNat x.fro.toNat (by omega);simp only [CR];by_cases h:Hy ((D.drop a.toNat).take (x.fro.toNat-a.toNat))=true
  ·simp only [Gk,h,if_true];have ih:=VP D l (i+1) x.to (De c3 (by omega)) (fun y hy=>hw y (mem_cons_of_mem _ hy)) (by omega) (by omega);have hz:=key.1 h;rcases ih with ⟨e,ih⟩|⟨e,k,k1,k2,k3,k4⟩
   ·refine .inl ⟨e,fun k k1 k2 k3 => ?_⟩;by_cases hk:(k:Int)<x.fro
    ·exact (k3 (hz k (by omega) (by omega))).elim
    ·by_cases hk2:(k:Int)<x.to
     ·exact .inl ⟨by omega,hk2⟩
     ·exact .inr (ih k (by omega) k2 k3)
   ·refine .inr ⟨e,k,by omega,k2,k3,fun hm => ?_⟩;rcases hm with hm|hm
    ·omega
    ·exact k4 hm
  ·simp only [Gk,h,if_false,false_eq_true];refine .inr ⟨trivial,?_⟩;have h5:¬∀k,a.toNat≤k→k<x.fro.toNat→D.getD k 0=0:=fun hh=>h (key.2 hh);simp only [not_forall] at h5;obtain ⟨k,h6,h7,h8⟩:=h5;refine ⟨k,by omega,by omega,h8,fun hm => ?_⟩;rcases hm with hm|hm
   ·omega
   ·have:=By c3 hm;omega
theorem s159 (r:Rcv):AT C 159 r.enc [tI (El r)]:=by
 refine AT.of (fun n=>e159 n _ _ _ _) ?_;unfold El;by_cases hr:Tz r
 ·have hr':=hr;obtain ⟨⟨h1,h2⟩,h3⟩:=hr;have hj:∀(J:List AV×Heap→Option (List Tree)),(cnd (decide (r.ses<0)=true) (J ([AV.t (Tree.bool true)],[])) (cnd (decide (r.ses>1099511627776)=true) (J ([AV.t (Tree.bool true)],[])) (cnd ((r.tot != -1)=true) (cnd (decide (r.tot<1)=true) (J ([AV.t (Tree.bool true)],[])) (J ([AV.t (Tree.bool (decide (r.tot>65536)))],[]))) (J ([AV.t (Tree.bool false)],[])))))=J ([AV.t (Tree.bool false)],[]):=fun J=>by
   simp only [AE,decide_eq_true_eq,bne_iff_ne];rw [if_neg (by omega),if_neg (by omega)];split
   ·rw [if_neg (by omega),decide_eq_false (by omega)]
   ·rfl
  simp only [join_eq];refine Ev.conv' (fun n h=>(hj _).trans h) ?_;simp only [UD,vv,vf,reduceCtorEq,reduceAdd,reduceEqDiff];refine Ev.rw (s67 r.known) (fun n h=>by simp only [h,vv,vf,reduceCtorEq,reduceAdd,reduceEqDiff];rfl) ?_;rw [if_neg (not_not_intro hr')];have el:(r.known.length:Int)=0↔r.known=[]:=by rw [← length_eq_zero_iff];omega
  have eb:((r.known.length:Int)==0)=decide (r.known=[]):=by rw [Bool.eq_iff_iff,beq_iff_eq,decide_eq_true_eq,el]
  have eb2:(r.tot == -1)=decide (r.tot = -1):=by rw [Bool.eq_iff_iff,beq_iff_eq,decide_eq_true_eq]
  simp only [eb,eb2];by_cases hc:BG r.known=0
  ·simp only [hc,bne_self_eq_false,vv,vf,reduceCtorEq,reduceAdd,reduceEqDiff,UE];by_cases he:(r.known=[]↔r.tot = -1)
   ·have e1:(! (decide (r.known=[])==decide (r.tot = -1)))=false:=by
     by_cases hx:r.known=[]
     ·simp [hx,he.1 hx]
     ·have hy:¬r.tot = -1:=fun h=>hx (he.2 h);simp [hx,hy]
    simp only [e1,vv,vf,reduceCtorEq,reduceAdd,reduceEqDiff];have hkn:KnR r↔(r.known=[]∨0≤ER r.known∧Eh r.known≤r.tot):=⟨fun h=>h.2.2,fun h=>⟨hc,he,h⟩⟩
    have hstep:∀(J:List AV×Heap→Option (List Tree)),(cnd (0<(r.known.length:Int)) (Option.bind (Option.map Span.enc r.known[0]?) fun y11=>cnd (okI y11 0) (cnd (gI y11 0<0) (J ([AV.t (Tree.bool true)],[])) (cnd (0≤w64 ((r.known.length:Int)-1)) (Option.bind (Option.map Span.enc r.known[(w64 ((r.known.length:Int)-1)).toNat]?) fun y12=>cnd (okI y12 1) (J ([AV.t (Tree.bool (decide (r.tot<gI y12 1)))],[])) none) none)) none) (J ([AV.t (Tree.bool false)],[])))=J ([AV.t (Tree.bool (decide (¬KnR r)))],[]):=fun J=>by
     by_cases hl:r.known=[]
     ·have:KnR r:=hkn.2 (.inl hl);simp [hl,AE,this]
     ·obtain ⟨e1,e2⟩:=MG hl;obtain ⟨e3,e4⟩:=MF hl;have hk:=Bo hc;have hlen:r.known.length≠0:=fun e=>hl (eq_nil_of_length_eq_zero e);simp only [(show (0:Int)<r.known.length by omega),vv,vf,reduceCtorEq,reduceAdd,reduceEqDiff,e1,MM (show r.known.length<4611686018427387904 by omega) (by omega),e3,Span.enc];rw [← e2,← e4];by_cases h3:ER r.known<0
      ·have:¬KnR r:=fun h=>by rcases hkn.1 h with h|h;exact hl h;omega
       simp [h3,this,AE]
      ·by_cases h4:r.tot<Eh r.known
       ·have:¬KnR r:=fun h=>by rcases hkn.1 h with h|h;exact hl h;omega
        simp [h3,h4,this,AE]
       ·have:KnR r:=hkn.2 (.inr ⟨by omega,by omega⟩);simp [h3,h4,this,AE]
    refine Ev.conv' (fun n h=>(hstep _).trans h) ?_;simp only [ZT,vv,vf,reduceCtorEq,reduceAdd,reduceEqDiff];by_cases hk:KnR r
    ·simp only [hk,not_true_eq_false,vv,vf,reduceCtorEq,reduceAdd,reduceEqDiff];by_cases hs:(r.data.size:Int)=Ji r.tot
     ·have hb:((r.data.size:Int) != if 0>r.tot then 0 else r.tot)=false:=by simpa [Ji] using hs
      have hsz:r.data.size≤65536:=by unfold Ji at hs;split at hs<;>omega
      rw [if_neg (not_not_intro hs)];simp only [gt_iff_lt] at hb;simp only [hb,vv,vf,reduceCtorEq,reduceAdd,reduceEqDiff];have hW:B9 r.known (bl r.data).length:=by
       have hw:=(CJ hc).1 hk.2.2;rw [B8,hs];intro x hx;have:=hw x hx;unfold Ji;split
       ·have ht:r.tot = -1:=by omega
        have:=he.2 ht;rw [this] at hx;cases hx
       ·exact this
      have hC:Canon (0-1) r.known:=by
       have h:=((Aj r.known).1 hc).2.1;cases hkk:r.known with
       |nil=>trivial
       |cons x l=>
        rw [hkk] at h;refine ⟨?_,h.2.1,h.2.2⟩;have:=hW x (by rw [hkk];exact mem_cons_self);omega
      have hlen:=Bo hc;have hd:r.data=mkB (bl r.data):=(YF _).symm;refine BM (fun (r:Int)=>[tI r]) r.known (fun i (a:Int)=>(([.t (tI i)],[.box [.t (tI a)]]):List AV×Heap)) (Gk (bl r.data)) (NT (bl r.data)) (fun i a=>Canon (a-1) (r.known.drop i)∧0≤a∧a≤r.data.size) 0 rfl ⟨by simpa using hC,by omega,by omega⟩
       ?_ (fun i a x hx hI => ?_) (fun i a x a' hx hI h => ?_) (fun a hI => ?_)
      ·rcases VP (bl r.data) r.known 0 0 hC hW (by omega) (by omega) with ⟨e,h⟩|⟨e,k,k1,k2,k3,k4⟩
       ·rw [e,if_pos];intro i hi hi2;exact h i (by omega) (by rw [B8];exact hi) hi2
       ·rw [e,if_neg];intro h;exact k4 (h k (by rw [B8] at k2;exact k2) k3)
      ·have hi:=AZ hx;have hdr:r.known.drop i=x::r.known.drop (i+1):=by rw [List.drop_eq_getElem_cons hi];congr 1;rw [getElem?_eq_getElem hi] at hx;exact Option.some.inj hx
       obtain ⟨c1,c2,c3⟩:=hI;rw [hdr] at c1;have hx2:=hW x (mem_of_getElem? hx);rw [B8] at hx2;obtain ⟨t,ht,h48⟩:=s178 (((bl r.data).drop a.toNat).take (x.fro.toNat-a.toNat)) (by simp;rw [B8];omega);refine h48.mono fun n h again => ?_;have hxc:=c1.1;have he:r.data.extract a.toNat x.fro.toNat=mkB (((bl r.data).drop a.toNat).take (x.fro.toNat-a.toNat)):=by apply LG;rw [ED,Lu]
       simp only [T5,vv,vf,reduceCtorEq,reduceAdd,reduceEqDiff,hx,Span.enc,(show (i:Int)<r.known.length by omega),Aw (show i<4611686018427387904 by omega)];rw [Ct (by have:=c1.2.1;omega),Ct (by omega),he,h];simp only [vv,vf,reduceCtorEq,reduceAdd,reduceEqDiff,Ii,Gk,← ht];by_cases htt:t=[]<;>simp [htt,AE,Rd.Ai,Rd.Az]
      ·have hi:=AZ hx;have hdr:r.known.drop i=x::r.known.drop (i+1):=by rw [List.drop_eq_getElem_cons hi];congr 1;rw [getElem?_eq_getElem hi] at hx;exact Option.some.inj hx
       obtain ⟨c1,c2,c3⟩:=hI;rw [hdr] at c1;have hx2:=hW x (mem_of_getElem? hx);rw [B8] at hx2;unfold Gk at h;split at h
       ·simp only [Rd.next.injEq] at h;subst h;have:=c1.2.1;have:=c1.1;exact ⟨De c1.2.2 (by omega),by omega,by omega⟩
       ·cases h
      ·obtain ⟨c1,c2,c3⟩:=hI;obtain ⟨t,ht,h48⟩:=s178 ((bl r.data).drop a.toNat) (by simp;rw [B8];omega);refine h48.mono fun n h again => ?_;have he:r.data.extract a.toNat r.data.size=mkB ((bl r.data).drop a.toNat):=by apply LG;rw [ED,Lu,take_of_length_le (by simp;rw [B8];omega)]
       simp only [T5,vv,vf,reduceCtorEq,reduceAdd,reduceEqDiff,lt_irrefl];rw [Ct (by omega),Ct (by omega),he,h];simp only [vv,vf,reduceCtorEq,reduceAdd,reduceEqDiff,Ii,NT,← ht];by_cases htt:t=[]<;>simp [htt,AE]
     ·have hb:((r.data.size:Int) != if 0>r.tot then 0 else r.tot)=true:=by simpa [Ji] using hs
      rw [if_pos hs];simp only [gt_iff_lt] at hb;simp only [hb,vv,vf,reduceCtorEq,reduceAdd,reduceEqDiff];exact Ev.of fun n=>by first|rfl|trivial
    ·simp only [hk,not_false_eq_true,vv,vf,reduceCtorEq,reduceAdd,reduceEqDiff];exact Ev.of fun n=>by first|rfl|trivial
   ·have e1:(! (decide (r.known=[])==decide (r.tot = -1)))=true:=by by_cases hx:r.known=[]<;>by_cases hy:r.tot = -1<;>simp_all
    have:¬KnR r:=fun h=>he h.2.1;simp only [e1,this,not_false_eq_true,vv,vf,reduceCtorEq,reduceAdd,reduceEqDiff];exact Ev.of fun n=>by first|rfl|trivial
  ·have:(BG r.known != 0)=true:=by simpa using hc
   have h2:¬KnR r:=fun h=>hc h.1;simp only [this,h2,UE,not_false_eq_true,vv,vf,reduceCtorEq,reduceAdd,reduceEqDiff];exact Ev.of fun n=>by first|rfl|trivial
 ·rw [if_pos hr];refine Ev.of fun n => ?_;unfold Tz at hr;simp only [join_eq,UD,vv,vf,reduceCtorEq,reduceAdd,reduceEqDiff,AE,bne_iff_ne];by_cases h1:r.ses<0
  ·simp [h1]
  ·by_cases h2:1099511627776<r.ses
   ·simp [h1,h2]
   ·have h3:r.tot ≠ -1:=by omega
    simp only [h1,h2,if_false,h3,ne_eq,not_false_eq_true,if_true];by_cases h4:r.tot<1
    ·simp [h4]
    ·simp [h4,show 65536<r.tot by omega]
end Ab
set_option linter.unusedVariables false
set_option linter.unusedSimpArgs false
namespace Ab
open Go
def sp (x:Seg):Span:=⟨x.off,x.off+x.data.size⟩
theorem S2 {x:Seg} (h:C4 x=0):0≤x.off∧x.off≤65536∧x.data.size≤16∧0≤x.tot∧x.tot≤65536:=by
 obtain ⟨hk,hn,hc⟩:=Em h;unfold CN at hn;unfold C6 at hc;by_cases h1:x.kind=1
 ·grind
 ·by_cases h2:x.kind=2
  ·grind
  ·have:x.kind=3:=by omega
   grind
theorem EN {x:Seg} (h:C4 x=0) (h1:x.kind=1):1≤x.tot∧x.tot≤65536∧0≤x.off∧1≤x.data.size∧x.data.size≤16∧x.off+x.data.size≤x.tot∧x.AS=[]∧(x.chk=true→1≤x.ser∧x.ser≤1099511627776)∧0≤x.ses∧x.ses≤1099511627776:=by obtain ⟨hk,hn,hc⟩:=Em h;unfold CN at hn;unfold C6 at hc;grind
theorem s161 (r:Rcv) (x:Seg) (hx:C4 x=0):AT C 161 (r.enc++x.enc) [.sl 2 ((DR r.known [sp x]).map Span.enc),tI (Eb r.known [sp x])]:=by obtain ⟨h1,h2,h3,_⟩:=S2 hx;refine AT.of (fun n=>e161 n _ _ _ _ _ _ _ _ _ _ _ _) ?_;refine (s183 r.known [sp x]).mono fun n h => ?_;rw [OY] at h;simp only [map_cons,map_nil,sp,Span.enc] at h;rw [Ad (x:=x.off+(x.data.size:Int)) (by omega) (by omega)];simp only [h,vv,vf,reduceCtorEq,reduceAdd,reduceEqDiff];rfl
theorem QE {a b:List UInt8} (h:a.length=b.length):a=b↔∀k,k<a.length→a.getD k 0=b.getD k 0:=by
 constructor
 ·intro e k _;rw [e]
 ·intro hk;apply List.ext_getElem h;intro i h1 h2;have:=hk i h1;simpa [List.getD,h1,h2] using this
theorem Ju (D:List UInt8) (a b k:Nat) (hb:b≤D.length) (hk:k<b-a):((D.drop a).take (b-a)).getD k 0=D.getD (a+k) 0:=by simp [getD_eq_getElem?_getD,getElem?_take,hk,getElem?_drop]
theorem part_eq (D E:List UInt8) (f t o:Nat) (h1:f<t) (h2:t≤D.length) (h3:o≤f) (h4:t-o≤E.length) :
  ((D.drop f).take (t-f)=(E.drop (f-o)).take ((t-o)-(f-o))↔∀k,f≤k→k<t→D.getD k 0=E.getD (k-o) 0):=by
 rw [QE (by simp;omega)];constructor
 ·intro h k k1 k2;have:=h (k-f) (by simp;omega);rw [Ju D f t _ h2 (by omega),Ju E (f-o) (t-o) _ h4 (by omega),show f+(k-f)=k by omega,show f-o+(k-f)=k-o by omega] at this;exact this
 ·intro h k hk;simp at hk;rw [Ju D f t _ h2 (by omega),Ju E (f-o) (t-o) _ h4 (by omega),show f-o+k=f+k-o by omega];exact h _ (by omega) (by omega)
def agree (r:Rcv) (x:Seg):Prop:=∀i,i<x.data.size→AM (x.off+i) r.known→(bl r.data).getD (x.off.toNat+i) 0=(bl x.data).getD i 0
def GZ (r:Rcv) (x:Seg) (k:Span):Prop:=∀i,i<x.data.size→k.fro≤x.off+i→x.off+i<k.to→(bl r.data).getD (x.off.toNat+i) 0=(bl x.data).getD i 0
instance (r:Rcv) (x:Seg):Decidable (agree r x):=by unfold agree;exact inferInstance
instance (r:Rcv) (x:Seg) (k:Span):Decidable (GZ r x k):=by unfold GZ;exact inferInstance
def EY (r:Rcv) (x:Seg):Bool:=decide (x.kind=1∧x.ses=r.ses∧(r.tot = -1∨x.tot=r.tot)∧agree r x∧Eb r.known [sp x]=0)
theorem Ws (r:Rcv) (x:Seg):agree r x↔r.known.all (fun k=>decide (GZ r x k))=true:=by
 have hm:∀(t:Int) (l:List Span),AM t l↔∃k∈l,k.fro≤t∧t<k.to:=by
  intro t l
  induction l with
  |nil=>simp [AM]
  |cons y l ih=>simp only [AM,ih,mem_cons,exists_eq_or_imp]
 rw [all_eq_true];simp only [decide_eq_true_eq];unfold agree GZ;constructor
 ·intro h k hk i hi h1 h2;exact h i hi ((hm _ _).2 ⟨k,hk,h1,h2⟩)
 ·intro h i hi hmem;obtain ⟨k,hk,h1,h2⟩:=(hm _ _).1 hmem;exact h k hk i hi h1 h2
theorem DP {r:Rcv} (h:El r=0):Tz r∧KnR r∧(r.data.size:Int)=Ji r.tot∧Sf r:=by
 unfold El at h;split at h
 ·omega
 ·rename_i h1;split at h
  ·omega
  ·rename_i h2;split at h
   ·omega
   ·rename_i h3;split at h
    ·rename_i h4;exact ⟨not_not.1 h1,not_not.1 h2,not_not.1 h3,h4⟩
    ·omega
theorem Mq {r:Rcv} (h:El r=0):B9 r.known r.data.size:=by
 obtain ⟨h1,h2,h3,h4⟩:=DP h;have hw:=(CJ h2.1).1 h2.2.2;rw [h3];intro x hx;have:=hw x hx;unfold Ji;split
 ·have ht:r.tot = -1:=by rcases h1.2 with h|h<;>omega
  have:=h2.2.1.2 ht;rw [this] at hx;cases hx
 ·exact this
theorem Wi {l:List Span} {b:Int} (h:Canon b l):∀y∈l,y.fro<y.to:=fun y hy=>(FA h y hy).2
theorem YQ (r:Rcv) (x:Seg) (hr:El r=0) (hx:C4 x=0) (hk:x.kind=1):Ev fun n=>∀z:List AV×Heap→Option (List Tree),AJ (fun p again=>Qd n (r.known.map Span.enc) x.kind x.ses x.ser x.off x.tot x.chk x.data (x.AS.map Span.enc) r.ses r.tot r.data z p again) n ([.t (tI 0)],[.box []])=z ([.t (.bool (decide (agree r x)))],[.box []]):=by
 obtain ⟨c1,c2,c3,c4⟩:=DP hr;have hW:=Mq hr;have hlen:=Bo c2.1;obtain ⟨g1,g2,g3,g4,g5,g6,g7⟩:=EN hx hk;have hcan:=Wi ((Aj r.known).1 c2.1).2.1;have hsz:r.data.size≤65536:=by have:=c1.2;unfold Ji at c3;split at c3<;>omega
 refine Eg r.known (fun i (_:Unit)=>(([.t (tI i)],[.box []]):List AV×Heap)) (fun _ (_:Unit) k=>if (fun k=>decide (GZ r x k)) k=true then .next () else .done false) (fun _=>true) (fun (z:List AV×Heap→Option (List Tree)) (q:Bool)=>z ([AV.t (Tree.bool q)],[AF.box []])) (fun _ _=>True) () rfl trivial ?_
  (fun i s k hk' hI=>Ev.of fun n z again => ?_) (fun _ _ _ _ _ _ _=>trivial) (fun s hI=>Ev.of fun n z again => ?_)
 ·rw [RI];rw [Bool.eq_iff_iff,decide_eq_true_eq,Ws];by_cases h:r.known.all (fun k=>decide (GZ r x k))=true<;>simp [h]
 ·have hi:=AZ hk';have hkw:=hW k (mem_of_getElem? hk');have hkc:=hcan k (mem_of_getElem? hk');simp only [Qd,vv,vf,reduceCtorEq,reduceAdd,reduceEqDiff,hk',Span.enc,(show (i:Int)<r.known.length by omega),Aw (show i<4611686018427387904 by omega),Ad (show -9223372036854775808≤x.off+(x.data.size:Int) by omega) (by omega),ZS,AO];have ef:(if x.off>k.fro then x.off else k.fro)=((if x.off>k.fro then x.off else k.fro).toNat:Int):=by split<;>omega
  generalize hf:(if x.off>k.fro then x.off else k.fro)=f at *;generalize ht:(if x.off+(x.data.size:Int)<k.to then x.off+(x.data.size:Int) else k.to)=t at *;have hf2:f=max x.off k.fro:=by rw [← hf];simp only [Int.max_def];split<;>split<;>omega
  have ht2:t=min (x.off+(x.data.size:Int)) k.to:=by rw [← ht];simp only [Int.min_def];split<;>split<;>omega
  by_cases hft:f<t
  ·have hok:GZ r x k↔(r.data.extract f.toNat t.toNat=x.data.extract (f-x.off).toNat (t-x.off).toNat):=by
    have key:=part_eq (bl r.data) (bl x.data) f.toNat t.toNat x.off.toNat (by omega) (by rw [B8];omega) (by omega) (by rw [B8];omega);have e1:(r.data.extract f.toNat t.toNat=x.data.extract (f-x.off).toNat (t-x.off).toNat)↔((bl r.data).drop f.toNat).take (t.toNat-f.toNat)=((bl x.data).drop (f.toNat-x.off.toNat)).take ((t.toNat-x.off.toNat)-(f.toNat-x.off.toNat)):=by rw [show (f-x.off).toNat=f.toNat-x.off.toNat by omega,show (t-x.off).toNat=t.toNat-x.off.toNat by omega,← ED,← ED];exact ⟨fun h=>by rw [h],fun h=>LG h⟩
    rw [e1,key];unfold GZ;constructor
    ·intro h q h1 h2;have:=h (q-x.off.toNat) (by omega) (by omega) (by omega);rw [show x.off.toNat+(q-x.off.toNat)=q by omega] at this;exact this
    ·intro h i h1 h2 h3;have:=h (x.off.toNat+i) (by omega) (by omega);rw [show x.off.toNat+i-x.off.toNat=i by omega] at this;exact this
   rw [Ad (x:=t-x.off) (by omega) (by omega),Ad (x:=f-x.off) (by omega) (by omega)];rw [Ct (show f<t from hft),Ct (by omega),Ct (by omega),Ct (by omega),Ct (by omega)];simp only [hok,bne,LH];by_cases he:r.data.extract f.toNat t.toNat=x.data.extract (f-x.off).toNat (t-x.off).toNat<;>simp [he,AE,Rd.Ai,Rd.Az]
  ·have hok:GZ r x k:=by intro i h1 h2 h3;omega
   rw [MH (show ¬f<t from hft)];simp [hok,AE,Rd.Ai]
 ·simp only [Qd,vv,vf,reduceCtorEq,reduceAdd,reduceEqDiff,lt_irrefl,AO]
theorem s160 (r:Rcv) (x:Seg) (hr:El r=0) (hx:C4 x=0):AT C 160 (r.enc++x.enc) [.bool (EY r x)]:=by
 refine AT.of (fun n=>e160 n _ _ _ _ _ _ _ _ _ _ _ _) ?_;simp only [AO];refine BM (fun (b:Bool)=>[Tree.bool b]) [0,1,2,3] (fun i (_:Unit)=>(([.t (tI i)],[.box []]):List AV×Heap)) (fun i (_:Unit) (_:Nat)=>if (match i with
  |0=>decide (x.kind=1∧x.ses=r.ses)
  |1=>decide (r.tot = -1∨x.tot=r.tot)
  |2=>decide (agree r x)
  |_=>decide (Eb r.known [sp x]=0))=true then .next () else .done false) (fun _=>true) (fun i _=>0<i→x.kind=1) () rfl (fun h=>by omega) ?_
  (fun i s k hk hI => ?_) (fun i s k s' hk hI h h0 => ?_) (fun s hI=>Ev.of fun n again => ?_)
 ·unfold EY;simp only [CR];by_cases h1:x.kind=1<;>by_cases h2:x.ses=r.ses<;>by_cases h3:(r.tot = -1∨x.tot=r.tot)<;>by_cases h4:agree r x<;>by_cases h5:Eb r.known [sp x]=0<;>simp [h1,h2,h3,h4,h5]
 ·have hi:i<4:=AZ hk;have h40:=s161 r x hx;rcases (show i=0∨i=1∨i=2∨i=3 by omega) with rfl|rfl|rfl|rfl
  ·refine Ev.of fun n again => ?_;simp only [LQ,Qs,LV,vv,vf,reduceCtorEq,reduceAdd,reduceEqDiff,AO];by_cases h1:x.kind=1<;>by_cases h2:x.ses=r.ses<;>simp [h1,h2,AE,Rd.Ai,Rd.Az,vv,w64,wrap64]
  ·refine Ev.of fun n again => ?_;simp only [LQ,Qs,LV,vv,vf,reduceCtorEq,reduceAdd,reduceEqDiff,AO];by_cases h1:r.tot = -1<;>by_cases h2:x.tot=r.tot<;>simp [h1,h2,AE,Rd.Ai,Rd.Az,vv,w64,wrap64]
  ·refine (YQ r x hr hx (hI (by omega))).mono fun n h again => ?_;simp only [LQ,LV,vv,vf,reduceCtorEq,reduceAdd,reduceEqDiff,AO,h];by_cases h1:agree r x<;>simp [h1,AE,Rd.Ai,Rd.Az,vv,w64,wrap64]
  ·refine h40.mono fun n h again => ?_;simp only [Rcv.enc,Seg.enc,cons_append,nil_append] at h;simp only [LQ,vv,vf,reduceCtorEq,reduceAdd,reduceEqDiff,AO,h];by_cases h1:Eb r.known [sp x]=0<;>simp [h1,AE,Rd.Ai,Rd.Az,vv,w64,wrap64]
 ·rcases (show i=0∨0<i by omega) with rfl|h1
  ·simp only at h;split at h
   ·rename_i h2;simp only [decide_eq_true_eq] at h2;exact h2.1
   ·cases h
  ·exact hI h1
 ·simp only [LQ,vv,vf,reduceCtorEq,reduceAdd,reduceEqDiff];simp [AE,vv]
end Ab
set_option linter.unusedVariables false
set_option linter.unusedSimpArgs false
namespace Ab
open Go
end Ab
set_option linter.unusedVariables false
set_option linter.unusedSimpArgs false
namespace Ab
open Go
theorem s163 (es:List (List Tree)) (hl:es.length≤1073741824):AT C 163 [.sl 2 es] [.sl 2 es]:=by
 refine AT.of (fun n=>e163 n _) (Ev.of fun n => ?_);by_cases h:es.length=0
 ·have:es=[]:=eq_nil_of_length_eq_zero h;subst this;simp [AE,AK]
 ·rw [Ct h,Ct hl,take_of_length_le (le_refl _)]
def EJ (k:Nat):List UInt8:=replicate k 0
def D6 (r:Rcv) (x:Seg):List UInt8:=Me (Me (EJ x.tot.toNat) 0 (bl r.data)) x.off.toNat (bl x.data)
def B3 (r:Rcv) (x:Seg):Seg:=⟨2,r.ses,x.ser,0,x.tot,false,ByteArray.mk #[],DR r.known [sp x]⟩
def C1 (r:Rcv) (x:Seg):Rcv:=⟨r.ses,x.tot,DR r.known [sp x],mkB (D6 r x)⟩
def zeroR:Rcv:=⟨0,0,[],ByteArray.mk #[]⟩
def Ei (r:Rcv) (x:Seg):Rcv×List Seg×Int:=
 if ¬(El r=0∧C4 x=0) then (zeroR,[],1) else if EY r x=false then (r,[],0) else (C1 r x,if x.chk=true then [B3 r x] else [],0)
def YS (q:Rcv×List Seg×Int):List Tree:=[tI q.1.ses,tI q.1.tot,.sl 2 (q.1.known.map Span.enc),.str q.1.data,.sl 8 (q.2.1.map Seg.enc),tI q.2.2]
theorem HN {a b:List Span} (h:Eb a b=0):BG a=0∧BG b=0∧DR a b=uni a b∧BG (DR a b)=0∧∀t,AM t (DR a b)↔AM t a∨AM t b:=by
 unfold Eb at h;split at h
 ·rename_i hc;split at h
  ·omega
  ·rename_i hl;obtain ⟨h1,h2⟩:=JZ ((Aj _).1 hc.1).2.1 ((Aj _).1 hc.2).2.1;have e:DR a b=uni a b:=by unfold DR;rw [if_pos hc,if_neg hl]
   refine ⟨hc.1,hc.2,e,?_,by rw [e];exact h2⟩;rw [e,Aj];refine ⟨by omega,h1,mem_top h1 fun t m => ?_⟩;rcases (h2 t).1 m with m|m
   ·exact Pj ((Aj _).1 hc.1).2.2 ((Aj _).1 hc.1).2.1 m
   ·exact Pj ((Aj _).1 hc.2).2.2 ((Aj _).1 hc.2).2.1 m
 ·omega
theorem Dj {r:Rcv} {x:Seg}:EY r x=true↔x.kind=1∧x.ses=r.ses∧(r.tot = -1∨x.tot=r.tot)∧agree r x∧Eb r.known [sp x]=0:=by unfold EY;rw [decide_eq_true_eq]
theorem Lj {r:Rcv} {x:Seg} (hr:El r=0) (hx:C4 x=0) (hs:EY r x=true):B9 (DR r.known [sp x]) x.tot∧DR r.known [sp x]≠[]:=by
 obtain ⟨h1,h2,h3,h4,h5⟩:=Dj.1 hs;obtain ⟨g1,g2,g3,g4,g5,g6,g7⟩:=EN hx h1;obtain ⟨c1,c2,c3,c4⟩:=DP hr;obtain ⟨u1,u2,u3,u4,u5⟩:=HN h5;have hW:=Mq hr;have hm:AM x.off (DR r.known [sp x]):=(u5 _).2 (.inr (.inl ⟨Int.le_refl _,by show x.off<x.off+x.data.size;omega⟩));refine ⟨Gg ((Aj _).1 u4).2.1 fun t m => ?_,fun e=>by rw [e] at hm;exact hm⟩;rcases (u5 t).1 m with m|m
 ·have:=Fl hW m;have h0:r.tot ≠ -1:=fun h0=>by have:=c2.2.1.2 h0;rw [this] at m;exact m
  have:x.tot=r.tot:=by rcases h3 with h|h;exact (h0 h).elim;exact h
  have:(r.data.size:Int)=r.tot:=by rw [c3];unfold Ji;rw [if_neg];rcases c1.2 with h|h<;>omega
  omega
 ·rcases m with m|m
  ·have m1:x.off≤t:=m.1;have m2:t<x.off+x.data.size:=m.2;omega
  ·exact m.elim
theorem SN {r:Rcv} {x:Seg} (hr:El r=0) (hx:C4 x=0) (hs:EY r x=true) (hc:x.chk=true):C4 (B3 r x)=0:=by
 obtain ⟨h1,h2,h3,h4,h5⟩:=Dj.1 hs;obtain ⟨g1,g2,g3,g4,g5,g6,g7,g8,g9⟩:=EN hx h1;obtain ⟨c1,c2,c3,c4⟩:=DP hr;obtain ⟨u1,u2,u3,u4,u5⟩:=HN h5;have hn:CN (B3 r x):=by unfold CN B3;simp only;have:=c1.1;have:=g8 hc;grind
 have hk:C6 (B3 r x):=by
  have:inside (DR r.known [sp x]) x.tot=true:=by unfold inside;rw [decide_eq_true_eq];exact ⟨u4,(CJ u4).2 (Lj hr hx hs).1⟩
  unfold C6 B3;simp only [this];simp;rfl
 unfold C4;rw [if_neg (not_not_intro (by simp [B3])),if_neg (not_not_intro hn),if_neg (not_not_intro hk)]
theorem size_le {r:Rcv} {x:Seg} (hr:El r=0) (hx:C4 x=0) (hs:EY r x=true):r.data.size≤x.tot.toNat∧(r.data.size=0∨r.data.size=x.tot.toNat):=by
 obtain ⟨h1,h2,h3,h4,h5⟩:=Dj.1 hs;obtain ⟨g1,g2,g3,g4,g5,g6,g7,g8⟩:=EN hx h1;obtain ⟨c1,c2,c3,c4⟩:=DP hr;unfold Ji at c3;rcases c1.2 with h|h
 ·rw [if_pos (by omega)] at c3;omega
 ·rw [if_neg (by omega)] at c3;have:x.tot=r.tot:=by rcases h3 with h|h<;>omega
  omega
theorem s146 (r:Rcv) (x:Seg):AT C 146 (r.enc++x.enc) (YS (Ei r x)):=by
 refine AT.of (fun n=>e146 n _ _ _ _ _ _ _ _ _ _ _ _) ?_;simp only [join_eq];refine Ev.rw (s159 r) (fun n h=>by simp only [Rcv.enc] at h;simp only [h,vv,vf,reduceCtorEq,reduceAdd,reduceEqDiff];rfl) ?_;unfold Ei;by_cases hr:El r=0
 ·simp only [hr,bne_self_eq_false,vv,vf,reduceCtorEq,reduceAdd,reduceEqDiff];refine Ev.rw (Xb x) (fun n h=>by simp only [Seg.enc] at h;simp only [h,vv,vf,reduceCtorEq,reduceAdd,reduceEqDiff];rfl) ?_;by_cases hx:C4 x=0
  ·simp only [hx,bne_self_eq_false,Qx,vv,vf,reduceCtorEq,reduceAdd,reduceEqDiff,not_true_eq_false];refine Ev.rw (s160 r x hr hx) (fun n h=>by simp only [Rcv.enc,Seg.enc,cons_append,nil_append] at h;simp only [h,vv,vf,reduceCtorEq,reduceAdd,reduceEqDiff];rfl) ?_;by_cases hs:EY r x=true
   ·simp only [hs,vv,vf,reduceCtorEq,reduceAdd,reduceEqDiff];obtain ⟨h1,h2,h3,h4,h5⟩:=Dj.1 hs;obtain ⟨g1,g2,g3,g4,g5,g6,g7,g8⟩:=EN hx h1;have hsz:=(size_le hr hx hs).1;refine Ev.rw (s161 r x hx) (fun n h=>by simp only [Rcv.enc,Seg.enc,cons_append,nil_append] at h;simp only [h,vv,vf,reduceCtorEq,reduceAdd,reduceEqDiff];rfl) ?_;have hz:(EJ x.tot.toNat).length=x.tot.toNat:=by simp [EJ]
    have l1:(Me (EJ x.tot.toNat) 0 (bl r.data)).length=x.tot.toNat:=by rw [HQ _ _ _ (by rw [B8,hz];omega),hz]
    have l2:(D6 r x).length=x.tot.toNat:=by unfold D6;rw [HQ _ _ _ (by rw [B8,l1];omega),l1]
    have r1:take x.tot.toNat (DT r.data)=(bl r.data).map tb:=by rw [Oc,take_of_length_le (by rw [length_map,B8];exact hsz)]
    have r2:take (x.tot.toNat-x.off.toNat) (DT x.data)=(bl x.data).map tb:=by rw [Oc,take_of_length_le (by rw [length_map,B8];omega)]
    have r0:replicate x.tot.toNat ([Tree.int IntKind.u8 0]:List Tree)=(EJ x.tot.toNat).map tb:=rep_tb _;have r3:BQ (BQ ((EJ x.tot.toNat).map tb) 0 ((bl r.data).map tb)) (0+x.off.toNat) ((bl x.data).map tb)=(D6 r x).map tb:=by rw [Kk,zero_add,Kk];rfl
    have r4:take x.tot.toNat ((D6 r x).map tb)=(D6 r x).map tb:=by rw [take_of_length_le (by rw [length_map,l2];exact le_refl _)]
    have r5:(BQ ((EJ x.tot.toNat).map tb) 0 ((bl r.data).map tb)).length=x.tot.toNat:=by rw [Kk,length_map,l1]
    simp only [zero_add] at r3;simp only [r0,r1,r2,r3,r4,r5,zero_add,TK,Tt,vv,vf,reduceCtorEq,reduceAdd,reduceEqDiff];have k1:(0:Int)≤x.tot:=by omega
    have k2:x.tot≤1073741824:=by omega
    have k3:x.off≤(x.tot.toNat:Int):=by omega
    have k4:x.off.toNat<x.tot.toNat∨x.off.toNat=0 :=.inl (by omega);simp only [k1,k2,k3,k4,g3,vv,vf,reduceCtorEq,reduceAdd,reduceEqDiff];by_cases hc:x.chk=true
    ·simp only [hc,vv,vf,reduceCtorEq,reduceAdd,reduceEqDiff];refine Ev.rw (s163 ((DR r.known [sp x]).map Span.enc) (by have:=Bo (HN h5).2.2.2.1;rw [length_map];omega)) (fun n h=>by simp only [h,vv,vf,reduceCtorEq,reduceAdd,reduceEqDiff];rfl) ?_;have hcl:=SN hr hx hs hc;refine (s162 r.ses x.ser x.tot (DR r.known [sp x])).mono fun n h => ?_;unfold B3 at hcl;rw [if_pos hcl] at h;simp only [Seg.enc,cons_append,nil_append] at h;simp only [h,bne_self_eq_false,vv,vf,reduceCtorEq,reduceAdd,reduceEqDiff];rfl
    ·have hc':x.chk=false:=by simpa using hc
     simp only [hc',vv,vf,reduceCtorEq,reduceAdd,reduceEqDiff];exact Ev.of fun n=>rfl
   ·have hs':EY r x=false:=by simpa using hs
    simp only [hs',vv,vf,reduceCtorEq,reduceAdd,reduceEqDiff];exact Ev.of fun n=>rfl
  ·have hb:(C4 x != 0)=true:=by simpa using hx
   simp only [hb,hx,Qx,vv,vf,reduceCtorEq,reduceAdd,reduceEqDiff,not_false_eq_true];exact Ev.of fun n=>rfl
 ·have hb:(El r != 0)=true:=by simpa using hr
  simp only [hb,hr,Qx,vv,vf,reduceCtorEq,reduceAdd,reduceEqDiff,not_false_eq_true];exact Ev.of fun n=>rfl
end Ab
set_option linter.unusedVariables false
set_option linter.unusedSimpArgs false
namespace Ab
open Go
def A7 (r:Rcv):Bool:=decide (El r=0∧r.known=[⟨0,r.tot⟩])
theorem X9 {l:List Span}:l.length=1↔∃x,l=[x]:=by
 constructor
 ·intro h
  match l,h with
  |[x],_=>exact ⟨x,rfl⟩
 ·rintro ⟨x,rfl⟩;rfl
theorem s147 (r:Rcv):AT C 147 r.enc [.bool (A7 r)]:=by
 refine AT.of (fun n=>e147 n _ _ _ _) ?_;refine (s159 r).mono fun n h => ?_;simp only [Rcv.enc] at h;simp only [h,vv,vf,reduceCtorEq,reduceAdd,reduceEqDiff];unfold A7;by_cases hr:El r=0
 ·simp only [hr,beq_self_eq_true,vv,vf,reduceCtorEq,reduceAdd,reduceEqDiff];by_cases hl:r.known.length=1
  ·obtain ⟨x,hx⟩:=X9.1 hl;simp only [hx,vv,vf,reduceCtorEq,reduceAdd,reduceEqDiff,getElem?_cons_zero,Span.enc];obtain ⟨a,b⟩:=x;simp only [AE,List.cons.injEq,and_true,Span.mk.injEq];by_cases h1:a=0<;>by_cases h2:b=r.tot<;>simp [h1,h2]
  ·have h1:((r.known.length:Int)==1)=false:=by simpa using fun h=>hl (by omega)
   have h2:¬r.known=[⟨0,r.tot⟩]:=fun h=>hl (by rw [h];rfl);simp only [h1,h2,vv,vf,reduceCtorEq,reduceAdd,reduceEqDiff]
 ·have h1:(El r==0)=false:=by simpa using hr
  simp only [h1,hr,vv,vf,reduceCtorEq,reduceAdd,reduceEqDiff]
def YD (n:Int):Rcv×Int:=if 0≤n∧n≤1099511627776 then (⟨n,-1,[],ByteArray.mk #[]⟩,0) else (zeroR,2)
theorem s70 (n:Int):AT C 70 [tI n] ((YD n).1.enc++[tI (YD n).2]):=by
 refine AT.of (fun m=>e70 m _) (Ev.of fun m => ?_);unfold YD;simp only [AE,decide_eq_true_eq];by_cases h1:n<0
 ·rw [if_pos h1,if_neg (by omega)];rfl
 ·by_cases h2:n>1099511627776
  ·rw [if_neg h1,if_pos h2,if_neg (by omega)];rfl
  ·rw [if_neg h1,if_neg h2,if_pos (by omega)];rfl
end Ab
set_option linter.unusedVariables false
set_option linter.unusedSimpArgs false
namespace Ab
open Go
def Bh (n:Int):List Tree:=[tI n]
theorem s200 (l:List Int) (e:Int) (hl:l.length≤1000000):AT C 200 [.sl 1 (l.map Bh),tI e] [tI (idx (fun x=>decide (x=e)) l)]:=by
 refine AT.of (fun n=>e200 n _ _) ?_;refine BM (fun r=>[tI r]) l (fun i _=>(([.t (tI i)],[]):List AV×Heap)) (fun i _ x=>if decide (x=e)=true then .done (i:Int) else .next ()) (fun _ => -1) (fun _ _=>True) () rfl trivial (WU _ l)
  (fun i s x hx hI=>Ev.of fun n again => ?_) (fun _ _ _ _ _ _ _=>trivial) (fun s hI=>Ev.of fun n again => ?_)
 ·have hi:=AZ hx;simp only [T4,vv,vf,reduceCtorEq,reduceAdd,reduceEqDiff,hx,Bh,Aw (show i<4611686018427387904 by omega),(show (i:Int)<l.length by omega)];simp only [AE];grind [Rd.Ai,Rd.Az]
 ·simp only [T4,vv,vf,reduceCtorEq,reduceAdd,reduceEqDiff,lt_irrefl]
theorem s174 (l:List Int) (e:Int) (hl:l.length≤1000000):AT C 174 [.sl 1 (l.map Bh),tI e] [.bool (decide (e∈l))]:=by refine AT.of (fun n=>e174 n _ _) ?_;refine (s200 l e hl).mono fun n h => ?_;simp only [h,vv,vf,reduceCtorEq,reduceAdd,reduceEqDiff];congr 3;rw [Bool.eq_iff_iff];simp only [decide_eq_true_eq,TW];simp
theorem s95 (a:Int):AT C 95 [tI a] [.bool (decide (1≤a∧a≤1048576))]:=by refine AT.of (fun n=>e95 n _) (Ev.of fun n => ?_);simp only [I2,vv,vf,reduceCtorEq,reduceAdd,reduceEqDiff];congr 3;rw [Bool.eq_iff_iff];split<;>simp<;>omega
theorem s203 (a b:Int) (ha : -9223372036854775808≤a∧a≤9223372036854775807) (hb:1≤b∧b≤1048576):AT C 203 [tI a,tI b] [tI (a / b),tI (a % b)]:=by
 refine AT.of (fun n=>e203 n _ _) (Ev.of fun n => ?_);have hb0:¬b=0:=by omega
 have hb1:(0:Int)<b:=by omega
 have hq : -9223372036854775808≤a / b∧a / b≤9223372036854775807:=by
  constructor
  ·rw [Int.le_ediv_iff_mul_le hb1];have : -9223372036854775808*b≤ -9223372036854775808*1:=Int.mul_le_mul_of_nonpos_left (by omega) (by omega);omega
  ·have:a / b≤if 0≤a then a else 0:=by
    split
    ·exact Int.ediv_le_self b (by omega)
    ·have:=Int.ediv_lt_of_lt_mul hb1 (show a<0*b by omega);omega
   split at this<;>omega
 have hm:=emod_nonneg a hb0;have hml:=emod_lt_of_pos a hb1;have hdm:=Int.mul_ediv_add_emod a b;have ht:tmod a b=if 0≤a∨a % b=0 then a % b else a % b-b:=by
  rw [Int.tmod_eq_emod];have:(↑b.natAbs:Int)=b:=by omega
  have hdv:b∣a↔a % b=0:=Int.dvd_iff_emod_eq_zero;simp only [hdv,this];split<;>omega
 have htd:tdiv a b=if 0≤a∨a % b=0 then a / b else a / b+1:=by rw [Int.tdiv_eq_ediv];have hdv:b∣a↔a % b=0:=Int.dvd_iff_emod_eq_zero;have hs:b.sign=1:=Int.sign_eq_one_of_pos hb1;simp only [hdv,hs];split<;>omega
 by_cases h:0≤a∨a % b=0
 ·simp only [ht,htd,h,if_true,vv,vf,reduceCtorEq,reduceAdd,reduceEqDiff,hb0,(show ¬a % b<0 by omega),Ad (show -9223372036854775808≤a / b by omega) (by omega)]
 ·have hneg:a / b<0:=Int.ediv_lt_of_lt_mul hb1 (by omega);simp only [ht,htd,h,if_false,vv,vf,reduceCtorEq,reduceAdd,reduceEqDiff,hb0,(show a % b-b<0 by omega)];rw [Ad (x:=a / b+1) (by omega) (by omega),Ad (x:=a / b+1-1) (by omega) (by omega),Ad (by omega) (by omega)];simp
def BL (n r:Int):List Int:=if n % 8<4 then [r] else if n % 8<6 then [r,r+1+n / 8 % r] else if n % 8=6 then [r+1+n / 8 % r] else []
theorem s176 (n r:Int) (hn : -9223372036854775808≤n∧n≤9223372036854775807) (hr:1≤r∧r≤1048576):AT C 176 [tI n,tI r] [.sl 1 ((BL n r).map Bh),tI 0]:=by
 refine AT.of (fun n=>e176 n _ _) ?_;have hm:=emod_nonneg (n / 8) (show r≠0 by omega);have hml:=emod_lt_of_pos (n / 8) (show 0<r by omega);have h19:AT C 216 [tI r,tI (n / 8 % r)] [.sl 1 [[tI r]]]:=AT.of (fun n=>e216 n _ _) (Ev.of fun n=>rfl);have hw:w64 (w64 (r+1)+n / 8 % r)=r+1+n / 8 % r:=by rw [Ad (x:=r+1) (by omega) (by omega),Ad (by omega) (by omega)]
 have h20:AT C 217 [tI r,tI (n / 8 % r)] [.sl 1 [[tI r],[tI (r+1+n / 8 % r)]]]:=AT.of (fun n=>e217 n _ _) (Ev.of fun n=>by rw [hw]);have h21:AT C 218 [tI r,tI (n / 8 % r)] [.sl 1 [[tI (r+1+n / 8 % r)]]]:=AT.of (fun n=>e218 n _ _) (Ev.of fun n=>by rw [hw]);have h22:AT C 219 [tI r,tI (n / 8 % r)] [.sl 1 []]:=AT.of (fun n=>e219 n _ _) (Ev.of fun n=>rfl);refine ((s95 r).and ((s203 n 8 hn (by omega)).and ((s203 (n / 8) r (by omega) hr).and (h19.and (h20.and (h21.and h22)))))).mono fun m h => ?_;obtain ⟨k1,k2,k3,k4,k5,k6,k7⟩:=h;have h8:0≤n % 8∧n % 8<8:=by omega
 simp only [k1,k2,k3,k4,k5,k6,k7,vv,vf,reduceCtorEq,reduceAdd,reduceEqDiff,hr,h8,and_self];unfold BL;rcases (show n % 8=0∨n % 8=1∨n % 8=2∨n % 8=3∨n % 8=4∨n % 8=5∨n % 8=6∨n % 8=7 by omega) with e|e|e|e|e|e|e|e<;>simp [e,AE,Bh]
end Ab
set_option linter.unusedVariables false
set_option linter.unusedSimpArgs false
namespace Ab
open Go
structure Frame where
 arr:Int
 num:Int
 seg:Seg
 deriving DecidableEq
def Frame.enc (f:Frame):List Tree:=[tI f.arr,tI f.num,tI f.seg.kind,tI f.seg.ses,tI f.seg.ser,tI f.seg.off,tI f.seg.tot,.bool f.seg.chk,.str f.seg.data,.sl 2 (f.seg.AS.map Span.enc)]
structure BY where
 rng:Int
 frames:List Frame
 sent:Int
 lost:Int
def BY.enc (c:BY):List Tree:=[tI c.rng,.sl 10 (c.frames.map Frame.enc),tI c.sent,tI c.lost]
structure Bz (c:BY):Prop where
 rng:1≤c.rng∧c.rng≤1048576
 lost:0≤c.lost∧c.lost≤c.sent
 sent:c.sent≤1152921504606846976
 len:c.frames.length≤10000
 frm:∀f∈c.frames,0≤f.arr∧f.arr≤2199023255552∧0≤f.num∧f.num<c.sent
 srt:c.frames.Pairwise fun a b=>a.arr≤b.arr
theorem RF (es:List (List Tree)) (hl:es.length≤1073741824):AT C 1000170 [.sl 10 es] [.sl 10 es]:=by
 refine AT.of (fun n=>Yb n _) (Ev.of fun n => ?_);by_cases h:es.length=0
 ·have:es=[]:=eq_nil_of_length_eq_zero h;subst this;simp [AE,AK]
 ·rw [Ct h,Ct hl,take_of_length_le (le_refl _)]
theorem s143 (c:BY) (hc:Bz c):AT C 143 c.enc [tI 0]:=by
 refine AT.of (fun n=>e143 n _ _ _ _) ?_;have h1:=hc.rng;have h2:=hc.lost;have h3:=hc.len;refine Ev.rw (T' := ?TT) (s95 c.rng) (fun n h => ?g1) ?g2
 case g1=>
  simp only [h,vv,vf,reduceCtorEq,reduceAdd,reduceEqDiff,h1,and_self,(show ¬c.sent<0 by omega),(show ¬c.lost<0 by omega),(show ¬c.sent<c.lost by omega),(show ¬(10000:Int)<(c.frames.length:Int) by omega)];rfl
 case g2=>
  refine BM (fun (r:Int)=>[tI r]) c.frames (fun i (_:Unit)=>(([.t (tI i)],[]):List AV×Heap)) (fun _ _ _ =>.next ()) (fun _=>0) (fun _ _=>True) () rfl trivial (Fb (fun _ _=>()) (fun _=>0) 0 _ ())
   (fun i s f hx hI=>Ev.of fun n again => ?_) (fun _ _ _ _ _ _ _=>trivial) (fun s hI=>Ev.of fun n again => ?_)
  ·have hi:=AZ hx;have hf:=hc.frm f (mem_of_getElem? hx);by_cases hi0:i=0
   ·subst hi0;simp only [Qh,UG,vv,vf,reduceCtorEq,reduceAdd,reduceEqDiff,hx,Frame.enc,(show ((0:Nat):Int)<c.frames.length by omega),(show ¬f.arr<0 by omega),(show ¬(2199023255552:Int)<f.arr by omega),(show ¬f.num<0 by omega),(show ¬c.sent≤f.num by omega),(show ¬(0:Int)<((0:Nat):Int) by omega),Aw (show 0<4611686018427387904 by omega),Rd.Ai]
   ·have hp:c.frames[i-1]? = some c.frames[i-1]:=getElem?_eq_getElem (by omega);have hs:=List.pairwise_iff_getElem.1 hc.srt (i-1) i (by omega) hi (by omega);rw [getElem?_eq_getElem hi] at hx;have hx2:=Option.some.inj hx;rw [hx2] at hs;rw [← getElem?_eq_getElem hi] at hx;simp only [Qh,UG,vv,vf,reduceCtorEq,reduceAdd,reduceEqDiff,hx,hp,Frame.enc,(show (i:Int)<c.frames.length by omega),(show ¬f.arr<0 by omega),(show ¬(2199023255552:Int)<f.arr by omega),(show ¬f.num<0 by omega),(show ¬c.sent≤f.num by omega),(show (0:Int)<(i:Int) by omega),Aw (show i<4611686018427387904 by omega),MM (show i<4611686018427387904 by omega) (by omega),(show ¬f.arr<(c.frames[i-1]).arr by omega),Rd.Ai]
  ·simp only [Qh,vv,vf,reduceCtorEq,reduceAdd,reduceEqDiff,lt_irrefl]
theorem s69 (r:Int) (hr:1≤r∧r≤1048576):AT C 69 [tI r] [tI r,.sl 10 [],tI 0,tI 0,tI 0]:=by refine AT.of (fun n=>e69 n _) ?_;refine (s95 r).mono fun n h => ?_;simp only [h,vv,vf,reduceCtorEq,reduceAdd,reduceEqDiff,hr,and_self]
theorem RE (c:BY) (hc:Bz c) (f:Frame) (rest:List Frame) (hf:c.frames=f::rest) :
  AT C 158 c.enc [tI c.rng,.sl 10 (rest.map Frame.enc),tI c.sent,tI c.lost,tI f.arr,tI f.num,tI f.seg.kind,tI f.seg.ses,tI f.seg.ser,tI f.seg.off,tI f.seg.tot,.bool f.seg.chk,.str f.seg.data,.sl 2 (f.seg.AS.map Span.enc),tI 0]:=by
 refine AT.of (fun n=>e158 n _ _ _ _) ?_;have hlen:=hc.len;rw [hf] at hlen;simp only [length_cons] at hlen;refine ((s143 c hc).and (RF (rest.map Frame.enc) (by simp;omega))).mono fun n h => ?_;obtain ⟨h1,h2⟩:=h;have e1:take rest.length (List.map Frame.enc rest)=List.map Frame.enc rest:=take_of_length_le (by simp);simp only [BY.enc,hf,map_cons,Frame.enc] at h1;simp only [hf,map_cons,Frame.enc,h1,vv,vf,reduceCtorEq,reduceAdd,reduceEqDiff,bne_self_eq_false,(show (((rest.length+1:Nat):Int)==0)=false by simp;omega),getElem?_cons_zero,(show (0:Int)≤1 by omega),(show (1:Int)≤((rest.length+1:Nat):Int) by omega),List.take_succ_cons,drop_succ_cons,e1,h2]
def Kv (at_ num:Int) (ser:Seg) (fs:List Frame) (d:Int):List Frame:=JA (fun x=>decide (x.arr>at_+d)) ⟨at_+d,num,ser⟩ fs
def Kn (at_ num:Int) (ser:Seg) (ds:List Int) (fs:List Frame):List Frame:=ds.foldl (Kv at_ num ser) fs
def Hj (c:BY) (ds:List Int):Int:=if c.rng∈ds then 0 else 1
def B4 (c:BY) (at_:Int) (ser:Seg) (ds:List Int):BY:=⟨c.rng,Kn at_ c.sent ser ds c.frames,c.sent+1,c.lost+Hj c ds⟩
theorem NJ (at_ num:Int) (ser:Seg) (fs:List Frame) (d:Int):(Kv at_ num ser fs d).length=fs.length+1:=R3 _ _ _
theorem R2 {at_ num:Int} {ser:Seg} {fs:List Frame} {d:Int} (h:fs.Pairwise fun a b=>a.arr≤b.arr):(Kv at_ num ser fs d).Pairwise fun a b=>a.arr≤b.arr:=by
 unfold Kv;refine Ix h (fun x _ hg => ?_) (fun x _ hg => ?_) (fun x _ y _ hr hg => ?_)
 ·simp only [decide_eq_true_eq] at hg;simp only;omega
 ·simp only [decide_eq_false_iff_not] at hg;simp only;omega
 ·simp only [decide_eq_true_eq] at *;omega
theorem SC {fs:List Frame} (t:Int) (h:fs.Pairwise fun a b=>a.arr≤b.arr):Down (fun x:Frame=>decide (x.arr≤t)) fs:=by
 intro i j x y hij hx hy hlt;rcases lt_or_ge i j with hl|hl
 ·have h1:=AZ hx;have h2:=AZ hy;have:=List.pairwise_iff_getElem.1 h i j h1 h2 hl;rw [getElem?_eq_getElem h1] at hx;rw [getElem?_eq_getElem h2] at hy;cases hx;cases hy;simp only [decide_eq_true_eq] at *;omega
 ·obtain rfl:i=j:=by omega
  rw [hx] at hy;cases hy;exact hlt
theorem s156 (c:BY) (hc:Bz c) (at_:Int) (ser:Seg) (ha:0≤at_∧at_≤1099511627776) (ds:List Int) (hd:∀d∈ds,c.rng≤d∧d≤2*c.rng) (hl:c.frames.length+ds.length≤10000) :
  AT C 156 (c.enc++[tI at_,tI ser.kind,tI ser.ses,tI ser.ser,tI ser.off,tI ser.tot,.bool ser.chk,.str ser.data,.sl 2 (ser.AS.map Span.enc),.sl 1 (ds.map Bh)]) ((B4 c at_ ser ds).enc++[tI 0]):=by
 refine AT.of (fun n=>e156 n _ _ _ _ _ _ _ _ _ _ _ _ _ _) ?_;have h1:=hc.rng;have hsent:=hc.sent;have hlost:=hc.lost;have hw2:w64 (2*c.rng)=2*c.rng:=Ad (by omega) (by omega);refine Ev.rw (T' := ?TT) (s143 c hc) (fun n h => ?g1) ?g2
 case g1=>
  simp only [BY.enc] at h;simp only [h,vv,vf,reduceCtorEq,reduceAdd,reduceEqDiff,bne_self_eq_false,(show ¬at_<0 by omega),(show ¬(1099511627776:Int)<at_ by omega)];rfl
 case g2=>
  refine BM (fun (r:List Tree)=>r) ds (fun i (_:Unit)=>(([.t (tI i)],[.box [.t (tI c.rng),.t (.sl 10 (c.frames.map Frame.enc)),.t (tI c.sent),.t (tI c.lost)],.row false 0 10 [],.box [.t (tI 0),.sref 1 0 0 0,.t (tI 0),.t (tI 0)]]):List AV×Heap)) (fun _ _ _ =>.next ()) (fun _=>(B4 c at_ ser ds).enc++[tI 0]) (fun _ _=>True) () rfl trivial (Fb (fun _ _=>()) (fun _=>(B4 c at_ ser ds).enc++[tI 0]) 0 ds ())
   (fun i s d hx hI=>Ev.of fun n again => ?_) (fun _ _ _ _ _ _ _=>trivial) (fun s hI => ?_)
  ·have hi:=AZ hx;have hdd:=hd d (mem_of_getElem? hx);simp only [T6,ZW,Qu,vv,vf,reduceCtorEq,reduceAdd,reduceEqDiff,hx,Bh,(show (i:Int)<ds.length by omega),(show ¬d<c.rng by omega),hw2,(show ¬2*c.rng<d by omega),Aw (show i<4611686018427387904 by omega),Rd.Ai]
  ·have hwl:w64 ((c.frames.length:Int)+(ds.length:Int))=((c.frames.length+ds.length:Nat):Int):=by rw [Ad (by omega) (by omega)];omega
   simp only [T6,ZV,Qu,Vs,vv,vf,reduceCtorEq,reduceAdd,reduceEqDiff,lt_irrefl,(show ¬(0:Int)≤ -1 by omega),hwl,(show ¬(10000:Int)<((c.frames.length+ds.length:Nat):Int) by omega)];refine WW (Ev.rw (T' := ?TT2) (RF (c.frames.map Frame.enc) (by simp;omega)) (fun n h => ?g3) ?g4)
   case g3=>
    simp only [h,vv,vf,reduceCtorEq,reduceAdd,reduceEqDiff];rfl
   case g4=>
    refine BM (fun (fs:List Frame)=>(⟨c.rng,fs,c.sent+1,c.lost+Hj c ds⟩:BY).enc++[tI 0]) ds (fun i (s:Nat×List Frame)=>(([.t (tI i)],[.box [.t (tI c.rng),.t (.sl 10 (c.frames.map Frame.enc)),.t (tI c.sent),.t (tI c.lost)],.row false 0 10 [],.box [.t (tI 0),.sref 1 0 0 0,.t (tI 0),.t (tI 0)],.row false s.1 10 (s.2.map Frame.enc),.row false 0 10 [],.box [.sref 3 s.1 0 s.2.length]]):List AV×Heap))
     (fun _ s d =>.next (s.1+1,Kv at_ c.sent ser s.2 d)) (fun s=>s.2) (fun i s=>s.2.Pairwise (fun a b=>a.arr≤b.arr)∧s.2.length=c.frames.length+i) (0,c.frames) (by simp) ⟨hc.srt,by simp⟩ ?_
     (fun i s d hx hI => ?_) (fun i s d s' hx hI hs' => ?_) (fun s hI => ?_)
    ·rw [Fb];have:∀(ds:List Int) (s:Nat×List Frame),(ds.foldl (fun (s:Nat×List Frame) d=>(s.1+1,Kv at_ c.sent ser s.2 d)) s).2=Kn at_ c.sent ser ds s.2:=by
      intro ds
      induction ds with
      |nil=>intro s;rfl
      |cons d ds ih=>intro s;exact ih _
     exact this ds (0,c.frames)
    ·have hi:=AZ hx;have hdd:=hd d (mem_of_getElem? hx);obtain ⟨v,fs⟩:=s;obtain ⟨hsr,hfl⟩:=hI;simp only at hsr hfl;have hwd:w64 (at_+d)=at_+d:=Ad (by omega) (by omega);have hins:Kv at_ c.sent ser fs d=fs.take (fs.countP fun x=>decide (x.arr≤at_+d))++⟨at_+d,c.sent,ser⟩::fs.drop (fs.countP fun x=>decide (x.arr≤at_+d)):=by
      unfold Kv;rw [VK];obtain ⟨h1,h2⟩:=Lr (SC (at_+d) hsr);rw [h1,h2];have hf:(fun x:Frame => !decide (x.arr>at_+d))=fun x=>decide (x.arr≤at_+d):=by funext x;rw [Bool.eq_iff_iff];simp
      rw [hf]
     have key:=Ys (R:=List Tree) (Z:=List AV×Heap→Option (List Tree))
      (B:=fun n z p again=>Qf n at_ [tI d] (fun p32=>UF n z (([.t (tI i)],[.box [.t (tI c.rng),.t (.sl 10 (c.frames.map Frame.enc)),.t (tI c.sent),.t (tI c.lost)],.row false 0 10 [],.box [.t (tI 0),.sref 1 0 0 0,.t (tI 0),.t (tI 0)],.row false v 10 (fs.map Frame.enc),.row false 0 10 [],.box [.sref 3 v 0 fs.length]]):List AV×Heap) at_ [tI d] ser.kind ser.ses ser.ser ser.off ser.tot ser.chk ser.data (ser.AS.map Span.enc) p32) p again)
      (fun z (k:Nat)=>z ([.t (tI ((i+1:Nat):Int))],[.box [.t (tI c.rng),.t (.sl 10 (c.frames.map Frame.enc)),.t (tI c.sent),.t (tI c.lost)],.row false 0 10 [],.box [.t (tI 0),.sref 1 0 0 0,.t (tI 0),.t (tI 0)],.row false (v+1) 10 (((fs.map Frame.enc).take k++[(⟨at_+d,c.sent,ser⟩:Frame).enc])++(fs.map Frame.enc).drop k),.row false 0 10 [],.box [.sref 3 (v+1) 0 (fs.length+1)]]))
      (fun x:Frame=>decide (x.arr≤at_+d)) fs id (fun s=>(([.t (tI s.1),.t (tI s.2)],[.box [.t (tI c.rng),.t (.sl 10 (c.frames.map Frame.enc)),.t (tI c.sent),.t (tI c.lost)],.row false 0 10 [],.box [.t (tI 0),.sref 1 0 0 0,.t (tI 0),.t (tI 0)],.row false v 10 (fs.map Frame.enc),.row false 0 10 [],.box [.sref 3 v 0 fs.length],.box []]):List AV×Heap)) (SC _ hsr) rfl
      (fun s a1 a2 a3=>Ev.of fun n z again=>by
       obtain ⟨a,b⟩:=s;simp only at a1 a2 a3;by_cases hab:a<b
       ·have hm:fs[(a+b) / 2]? = some fs[(a+b) / 2]:=getElem?_eq_getElem (by omega);simp only [Qf,ZU,vv,vf,reduceCtorEq,reduceAdd,reduceEqDiff,halfU a b (by omega),hm,Frame.enc,(show (a:Int)<(b:Int) by omega),LD,if_pos hab,(show (((a+b) / 2:Nat):Int)<(fs.length:Int) by omega),Aw (show (a+b) / 2<4611686018427387904 by omega),hwd];by_cases hx:(fs[(a+b) / 2]).arr≤at_+d
        ·simp only [hx,(show ¬at_+d<(fs[(a+b) / 2]).arr by omega),vv,vf,reduceCtorEq,reduceAdd,reduceEqDiff,Rd.Ai]
        ·simp only [hx,(show at_+d<(fs[(a+b) / 2]).arr by omega),vv,vf,reduceCtorEq,reduceAdd,reduceEqDiff,Rd.Ai]
       ·obtain rfl:a=b:=by omega
        simp only [Qf,UF,vv,vf,reduceCtorEq,reduceAdd,reduceEqDiff,lt_irrefl,LD,Nat.lt_irrefl,Rd.Az,id,hwd,Frame.enc,Aw (show i<4611686018427387904 by omega),(show fs.length+1≤1073741824 by omega),(show (a:Int)≤(fs.length:Int) by omega)])
     have hkl:fs.countP (fun x:Frame=>decide (x.arr≤at_+d))≤fs.length:=List.countP_le_length;refine key.mono fun n h again => ?_;have h:=h again;simp only [Qe,vv,vf,reduceCtorEq,reduceAdd,reduceEqDiff,hx,Bh,(show (i:Int)<ds.length by omega),Rd.Ai];refine h.trans ?_;simp only [vv,vf,reduceCtorEq,reduceAdd,reduceEqDiff,id];have hil:=NJ at_ c.sent ser fs d;rw [hil,hins];simp [Frame.enc,map_take,map_drop]
    ·have hi:=AZ hx;simp only [Rd.next.injEq] at hs';subst hs';exact ⟨R2 hI.1,by rw [NJ,hI.2];omega⟩
    ·obtain ⟨v,fs⟩:=s;simp only at hI;refine (s174 ds c.rng (by omega)).mono fun n h again => ?_;have e1:take fs.length (List.map Frame.enc fs)=List.map Frame.enc fs:=take_of_length_le (by simp);have w1:w64 (c.sent+1)=c.sent+1:=Ad (by omega) (by omega);have w2:w64 (c.lost+1)=c.lost+1:=Ad (by omega) (by omega);by_cases hm:c.rng∈ds
     ·simp only [Qe,vv,vf,reduceCtorEq,reduceAdd,reduceEqDiff,lt_irrefl,h,hm,e1,w1,w2,Hj,BY.enc];simp
     ·simp only [Qe,vv,vf,reduceCtorEq,reduceAdd,reduceEqDiff,lt_irrefl,h,hm,e1,w1,w2,Hj,BY.enc];simp
end Ab
set_option linter.unusedVariables false
set_option linter.unusedSimpArgs false
namespace Ab
open Go
def Ay (c:BY):Option Int:=c.frames.head?.map (·.arr)
def DH:Option Int→List Tree
 |none=>[tI 0,.bool false]
 |some t=>[tI t,.bool true]
theorem Dk (c:BY) (hc:Bz c):AT C 122 c.enc (DH (Ay c)):=by
 refine AT.of (fun n=>e122 n _ _ _ _) ?_;refine (s143 c hc).mono fun n h => ?_;cases hf:c.frames with
 |nil=>
  simp only [BY.enc,hf,map_nil] at h;simp only [hf,map_nil,h,vv,vf,reduceCtorEq,reduceAdd,reduceEqDiff,bne_self_eq_false,(show (((0:Nat):Int)==0)=true from rfl),Ay,head?_nil,DH]
 |cons f rest=>
  simp only [BY.enc,hf,map_cons,Frame.enc] at h;simp only [hf,map_cons,Frame.enc,h,vv,vf,reduceCtorEq,reduceAdd,reduceEqDiff,bne_self_eq_false,(show (((rest.length+1:Nat):Int)==0)=false by simp;omega),getElem?_cons_zero,Frame.enc,Ay,head?_cons,DH]
end Ab
set_option linter.unusedVariables false
set_option linter.unusedSimpArgs false
namespace Ab
open Go
end Ab
namespace Ab
open Go
inductive Sh where
 |i
 |k (k:IntKind)
 |b
 |s
 |l (n:Nat)
 |r (o:Nat)
 |c (v:AV)
def rcell (p:List AV×Heap) (k j:Nat):Sh→AV
 | .i =>.t (tI (cI p k j))
 | .k q =>.t (.int q (cI p k j))
 | .b =>.t (.bool (cB p k j))
 | .s =>.t (.str (cS p k j))
 | .l n =>.t (.sl n (cL p k j))
 | .r o =>.sref o (AI p k j) (AL p k j) (AH p k j)
 | .c v=>v
def rb (p:List AV×Heap) (k:Nat):Nat→List Sh→List AV
 |_,[]=>[]
 |j,x::l=>rcell p k j x::rb p k (j+1) l
inductive OSh where
 |row (z:Nat)
 |frz (z:Nat)
 |box (l:List Sh)
def robj (p:List AV×Heap) (k:Nat):OSh→AF
 | .row z =>.row false (AB p k) z (oEs p k)
 | .frz z =>.row true (AB p k) z (oEs p k)
 | .box l =>.box (rb p k 0 l)
def rh (p:List AV×Heap):Nat→List OSh→Heap
 |_,[]=>[]
 |k,s::l=>robj p k s::rh p (k+1) l
def upd {α:Type}:List α→List (Nat×α)→List α
 |l,[]=>l
 |l,(j,x)::c=>upd (l.set j x) c
noncomputable def FJ (C:Cfg) (pc:BO) (n:Nat) (ff:Nat→Rec) (S:List FuncId):Nat→Rec
 |0=>fun _ _ _ _=>none
 |d+1=>fun R r h K=>match r with
  | .fn g avs=>match S.contains g with
   |true=>ff (d+1) R (.fn g avs) h K
   |false=>DD C (FJ C pc n ff S d) pc n g avs h K
  | .yield i args=>Mk C (FJ C pc n ff S d) pc n i args h K
noncomputable def fI (C:Cfg) (n:Nat):Nat→Rec:=inl C (pcx C (AA C n)) n
theorem IY (C:Cfg) (n:Nat) (S:List FuncId):∀d,FJ C (pcx C (AA C n)) n (fI C n) S d=inl C (pcx C (AA C n)) n d
 |0=>rfl
 |d+1=>by
  funext R r h K;cases r with
  |fn g avs=>
   show (match S.contains g with
    |true=>fI C n (d+1) R (.fn g avs) h K
    |false=>DD C (FJ C (pcx C (AA C n)) n (fI C n) S d) (pcx C (AA C n)) n g avs h K)=_
   cases S.contains g with
   |true=>rfl
   |false=>rw [IY C n S d];rfl
  |yield i args=>
   show Mk C (FJ C (pcx C (AA C n)) n (fI C n) S d) (pcx C (AA C n)) n i args h K=_;rw [IY C n S d];rfl
theorem FR (C:Cfg) (n:Nat) (S:List FuncId) (d:Nat) (R:Type) (g:FuncId) (avs:List AV) (h:Heap) (K:List AV→Heap→Option R) :
  fI C n (d+1) R (.fn g avs) h K=DD C (FJ C (pcx C (AA C n)) n (fI C n) S d) (pcx C (AA C n)) n g avs h K:=by
 rw [IY];rfl
theorem pureO (C:Cfg) (n:Nat) (S:List FuncId) (g:FuncId) (xs:List Tree):Jq C (FJ C (pcx C (AA C n)) n (fI C n) S C.depth) (pcx C (AA C n)) n g xs=Jq C (inl C (pcx C (AA C n)) n C.depth) (pcx C (AA C n)) n g xs:=by rw [IY]
theorem Nl (C:Cfg) (n:Nat) (g:FuncId) (xs:List Tree) (hg:g<OWN) (he:C.ext g xs=none):AA C (n+1) g xs=Jq C (inl C (pcx C (AA C n)) n C.depth) (pcx C (AA C n)) n g xs:=by
 show (if g<OWN then _ else _)=_;rw [if_pos hg];show (match C.ext g xs with
  |some ys=>some ys
  |none=>Jq C (inl C (pcx C (AA C n)) n C.depth) (pcx C (AA C n)) n g xs)=_
 rw [he]
end Ab
set_option linter.unusedVariables false
set_option linter.unusedSimpArgs false
namespace Ab
open Go
def J8 (l:List Span) (t:Int):Bool:=decide (BG l=0∧AM t l)
theorem GJ (l:List Span) (t:Int):AT C 175 [.sl 2 (l.map Span.enc),tI t] [.bool (J8 l t)]:=by
 refine AT.of (fun n=>e175 n _ _) ?_;unfold J8;by_cases hc:BG l=0
 ·refine Ev.rw (T' := ?TT) (s67 l) (fun n h => ?g1) ?g2
  case g1=>
   simp only [h,vv,vf,reduceCtorEq,reduceAdd,reduceEqDiff,hc,beq_self_eq_true];rfl
  case g2=>
   have hlen:=Bo hc;have hm:decide (BG l=0∧AM t l)=l.any (fun x=>decide (x.fro≤t∧t<x.to)):=by rw [Bool.eq_iff_iff,decide_eq_true_eq];simp only [hc,true_and];exact Rt t l
   have key:=BM (R:=List Tree) (B:=fun n p again=>LP n (l.map Span.enc) (fun p7=>LU n (fun p5=>IH n (fun p2=>JS n p2) p5) p7) t p again) (fun (q:Bool)=>[Tree.bool q]) l (fun i (_:Unit)=>(([.t (tI i)],[]):List AV×Heap))
    (fun _ _ x=>if (fun x:Span=>decide (x.fro≤t∧t<x.to)) x=true then .done true else .next ()) (fun _=>false) (fun _ _=>True) () (s:=(([.t (tI 0)],[]):List AV×Heap)) rfl trivial (Mi (fun x:Span=>decide (x.fro≤t∧t<x.to)) 0 l)
    (fun i s x hx hI=>Ev.of fun n again => ?_) (fun _ _ _ _ _ _ _=>trivial) (fun s hI=>Ev.of fun n again => ?_)
   ·refine key.mono fun n h => ?_;rw [hm];simpa only [hc,true_and] using h
   ·have hi:=AZ hx;by_cases h1:x.fro≤t
    ·by_cases h2:t<x.to
     ·simp only [LP,OD,LU,IH,JS,vv,vf,reduceCtorEq,reduceAdd,reduceEqDiff,hx,Span.enc,(show (i:Int)<l.length by omega),h1,h2,Rd.Az,and_self]
     ·simp only [LP,OD,LU,IH,JS,vv,vf,reduceCtorEq,reduceAdd,reduceEqDiff,hx,Span.enc,(show (i:Int)<l.length by omega),h1,h2,Rd.Ai,and_self,Aw (show i<4611686018427387904 by omega)]
    ·simp only [LP,OD,LU,IH,JS,vv,vf,reduceCtorEq,reduceAdd,reduceEqDiff,hx,Span.enc,(show (i:Int)<l.length by omega),h1,Rd.Ai,Aw (show i<4611686018427387904 by omega)]
   ·simp only [LP,OD,LU,IH,JS,vv,vf,reduceCtorEq,reduceAdd,reduceEqDiff,lt_irrefl,(show ¬(0:Int)≤ -1 by omega)]
 ·refine (s67 l).mono fun n h => ?_;have hc':(BG l==0)=false:=by simpa using hc
  simp only [h,JS,vv,vf,reduceCtorEq,reduceAdd,reduceEqDiff,hc,hc']
structure Gh where
 v0:Nat
 v4:Nat
 v5:Nat
 pre:List (List Tree)
abbrev E0:AF :=.box []
structure Ses where
 dat:BY
 rep:BY
 picks:List Int
 limit:Int
 dark:List Span
 entered:Int
 dist:Int
 sent:List Out
 told:List Out
 now:Int
 snd:Snd
 rcv:Rcv
 pend:List Out
 rcvd:Bool
 arrive:Int
 kno:Bool
 knoAt:Int
def B7 (s:Ses) (R:Int):List Int×Int:=
 if J8 s.dark s.now=true then ([],s.dist)
 else if s.picks=[] then ([R],s.dist)
 else if (BL (s.picks.getD (s.entered % s.picks.length).toNat 0) R).head? = some R then (BL (s.picks.getD (s.entered % s.picks.length).toNat 0) R,s.dist)
 else if 0≤s.limit∧s.limit≤s.dist then ([R],s.dist)
 else (BL (s.picks.getD (s.entered % s.picks.length).toNat 0) R,s.dist+1)
def Cs (s:Ses) (x:Seg):Ses:={s with dat:=B4 s.dat s.now x (B7 s s.dat.rng).1,dist:=(B7 s s.dat.rng).2,entered:=s.entered+1,sent:=s.sent++[⟨s.now,x⟩]}
def Cv (s:Ses) (x:Seg):Ses:={s with rep:=B4 s.rep s.now x (B7 s s.rep.rng).1,dist:=(B7 s s.rep.rng).2,entered:=s.entered+1,told:=s.told++[⟨s.now,x⟩]}
def txS:Nat→Ses→Ses
 |0,s=>s
 |k+1,s=>match s.pend with
  |[]=>s
  |o::l=>if o.at_=s.now then txS k {Cs s o.seg with pend:=l} else s
def BF (s:Ses):Ses:={s with dat:={s.dat with frames:=s.dat.frames.tail}}
def BT (s:Ses):Ses:={s with rep:={s.rep with frames:=s.rep.frames.tail}}
def rxH (s:Ses) (x:Seg):Ses:=(Ei s.rcv x).2.1.foldl Cv {s with rcv:=(Ei s.rcv x).1}
def rxF (s:Ses):Ses:=if s.rcvd=false∧A7 s.rcv=true then {s with rcvd:=true,arrive:=s.now} else s
def rxX (s:Ses) (x:Seg):Ses:=rxF (rxH s x)
def rxS:Nat→Ses→Ses
 |0,s=>s
 |k+1,s=>match s.dat.frames with
  |[]=>s
  |f::_=>if f.arr=s.now then rxS k (rxX (BF s) f.seg) else s
def lsF (s:Ses):Ses:=if s.kno=false∧s.snd.st=2 then {s with kno:=true,knoAt:=s.now} else s
def lsX (s:Ses) (x:Seg):Ses:=if s.now<s.snd.busy then s else lsF {s with snd:=(BU s.snd s.now x).1,pend:=s.pend++(BU s.snd s.now x).2.1}
def lsS:Nat→Ses→Ses
 |0,s=>s
 |k+1,s=>match s.rep.frames with
  |[]=>s
  |f::_=>if f.arr=s.now then lsS k (lsX (BT s) f.seg) else s
def exS (s:Ses):Ses:=if s.snd.st=1∧s.snd.due=s.now then {s with snd:=(Co s.snd s.now).1,pend:=s.pend++(Co s.snd s.now).2.1} else s
def CH:Option Int→Option Int→Option Int
 |none,o=>o
 |some a,none=>some a
 |some a,some b=>some (if b<a then b else a)
def nxS (s:Ses):Option Int:=CH (CH (CH (s.pend.head?.map (·.at_)) (Ay s.dat)) (Ay s.rep)) (if s.snd.st=1 then some s.snd.due else none)
def ph1 (s:Ses) (t:Int):Ses:=txS s.pend.length {s with now:=t}
def ph2 (s:Ses) (t:Int):Ses:=rxS (ph1 s t).dat.frames.length (ph1 s t)
def ph3 (s:Ses) (t:Int):Ses:=lsS (ph2 s t).rep.frames.length (ph2 s t)
def stS (s:Ses) (t:Int):Ses:=exS (ph3 s t)
def HJ:Nat→Ses→Ses
 |0,s=>s
 |k+1,s=>match nxS s with
  |none=>s
  |some t=>HJ k (stS s t)
end Ab
set_option linter.unusedVariables false
set_option linter.unusedSimpArgs false
namespace Ab
open Go
theorem vv2 :
  (∀(e:List AV) (h:Heap) (k:Nat),vI (e,h) k=intOf (AD (List.getD e k AV.undef)))∧
  (∀(e:List AV) (h:Heap) (k:Nat),vB (e,h) k=Av (AD (List.getD e k AV.undef)))∧
  (∀(e:List AV) (h:Heap) (k:Nat),vS (e,h) k=strOf (AD (List.getD e k AV.undef)))∧
  (∀(e:List AV) (h:Heap) (k:Nat),vL (e,h) k=Bm (AD (List.getD e k AV.undef)))∧
  (∀(e:List AV) (h:Heap) (k:Nat),CQ (e,h) k=E7 (List.getD e k AV.undef))∧
  (∀(e:List AV) (h:Heap) (k:Nat),E8 (e,h) k=HB (List.getD e k AV.undef))∧
  (∀(e:List AV) (h:Heap) (k:Nat),B5 (e,h) k=HC (List.getD e k AV.undef))∧
  (∀(x:Tree) (l:List Tree),gI (x::l) (0:Nat)=intOf x)∧
  (∀(x:Tree) (l:List Tree) (k:Nat),gI (x::l) (k+(1:Nat))=gI l k)∧
  (∀(x:Tree) (l:List Tree),gB (x::l) (0:Nat)=Av x)∧
  (∀(x:Tree) (l:List Tree) (k:Nat),gB (x::l) (k+(1:Nat))=gB l k)∧
  (∀(x:Tree) (l:List Tree),gS (x::l) (0:Nat)=strOf x)∧
  (∀(x:Tree) (l:List Tree) (k:Nat),gS (x::l) (k+(1:Nat))=gS l k)∧
  (∀(x:Tree) (l:List Tree),gL (x::l) (0:Nat)=Bm x)∧
  (∀(x:Tree) (l:List Tree) (k:Nat),gL (x::l) (k+(1:Nat))=gL l k)∧
  (∀(x:Tree) (l:List Tree),okI (x::l) (0:Nat)=(FI IntKind.i64 x=true))∧
  (∀(x:Tree) (l:List Tree) (k:Nat),okI (x::l) (k+(1:Nat))=okI l k)∧
  (∀(x:Tree) (l:List Tree),okB (x::l) (0:Nat)=(D7 x=true))∧
  (∀(x:Tree) (l:List Tree) (k:Nat),okB (x::l) (k+(1:Nat))=okB l k)∧
  (∀(x:Tree) (l:List Tree),okS (x::l) (0:Nat)=(FH x=true))∧
  (∀(x:Tree) (l:List Tree) (k:Nat),okS (x::l) (k+(1:Nat))=okS l k)∧
  (∀(z:Nat) (x:Tree) (l:List Tree),okL z (x::l) (0:Nat)=(FQ z x=true))∧
  (∀(z:Nat) (x:Tree) (l:List Tree) (k:Nat),okL z (x::l) (k+(1:Nat))=okL z l k)∧
  (∀(k:IntKind) (n:Int),FI k (Tree.int k n)=true)∧
  (∀(b:Bool),D7 (Tree.bool b)=true)∧
  (∀(b:ByteArray),FH (Tree.str b)=true)∧
  (∀(z:Nat) (es:List (List Tree)),FQ z (Tree.sl z es)=true)∧
  (∀(k:IntKind) (n:Int),intOf (Tree.int k n)=n)∧
  (∀(b:Bool),Av (Tree.bool b)=b)∧
  (∀(b:ByteArray),strOf (Tree.str b)=b)∧
  (∀(z:Nat) (es:List (List Tree)),Bm (Tree.sl z es)=es)∧
  (∀(x:Tree),AD (AV.t x)=x)∧
  (∀(i v o l:Nat),E7 (AV.sref i v o l)=v)∧
  (∀(i v k o:Nat),E7 (AV.rptr i v k o)=v)∧
  (∀(i v o l:Nat),HB (AV.sref i v o l)=o)∧
  (∀(i v o l:Nat),HC (AV.sref i v o l)=l)∧
  (∀(f:Bool) (v z:Nat) (es:List (List Tree)),AF.ver (AF.row f v z es)=v)∧
  (∀(f:Bool) (v z:Nat) (es:List (List Tree)),Aq (AF.row f v z es)=es)∧
  (∀(cs:List AV) (j:Nat),cellOf (AF.box cs) j=List.getD cs j AV.undef)∧
  (∀(e:List AV) (h:Heap) (k j:Nat),aI (e,h) k j=intOf (AD (List.getD (Dq (List.getD e k AV.undef)) j AV.undef)))∧
  (∀(e:List AV) (h:Heap) (k j:Nat),aB (e,h) k j=Av (AD (List.getD (Dq (List.getD e k AV.undef)) j AV.undef)))∧
  (∀(e:List AV) (h:Heap) (k j:Nat),aS (e,h) k j=strOf (AD (List.getD (Dq (List.getD e k AV.undef)) j AV.undef)))∧
  (∀(e:List AV) (h:Heap) (k j:Nat),aL (e,h) k j=Bm (AD (List.getD (Dq (List.getD e k AV.undef)) j AV.undef)))∧
  (∀(cs:List AV),Dq (AV.agg cs)=cs)∧
  (∀{R S:Type} (J:S→Option R) (f:(S→Option R)→Option R),join J f=f J)∧
  (∀{α:Type} {x:α} {xs:List α} {d:α},List.getD (x::xs) (0:Nat) d=x)∧
  (∀{α:Type} {x:α} {xs:List α} {n:Nat} {d:α},List.getD (x::xs) (n+(1:Nat)) d=List.getD xs n d)∧
  (∀(h:Decidable True),@decide True h=true)∧
  (∀(h:Decidable False),@decide False h=false)∧
  (∀{R:Type} {i:Decidable True} (a b:Option R),@cnd R True i a b=a)∧
  (∀{R:Type} {i:Decidable False} (a b:Option R),@cnd R False i a b=b)∧
  (∀(p:Prop),(True∧p)=p)∧
  (∀(p:Prop),(p∧True)=p)∧
  (∀(p:Prop),(False∧p)=False)∧
  (∀(p:Prop),(p∧False)=False)∧
  (∀{α β:Type} (a:α) (f:α→Option β),Option.bind (some a) f=f a)∧
  (∀{α β:Type} (f:α→Option β),Option.bind (none:Option α) f=none)∧
  (∀{α:Type} {a:α} {l:List α},length (a::l)=length l+(1:Nat))∧
  (∀{α:Type},length ([]:List α)=(0:Nat))∧
  (∀{α β:Type} {l:List α} (f:α→β),length (List.map f l)=length l)∧
  (∀{α β:Type} {f:α→β} {l:List α} {i:Nat},(List.map f l)[i]? = Option.map f l[i]?)∧
  (∀{α β:Type} (a:α) (f:α→β),Option.map f (some a)=some (f a))∧
  (∀{α β:Type} (f:α→β),Option.map f (none:Option α)=none)∧
  (∀(n:Nat),toNat (n:Int)=n)∧
  (∀{α:Type} (a:α),(a=a)=True)∧
  (∀{α:Type} {x:Decidable True} (t e:α),@ite α True x t e=t)∧
  (∀{α:Type} {x:Decidable False} (t e:α),@ite α False x t e=e)∧
  (∀(n:Nat),(0:Nat)+n=n)∧
  (∀(n:Nat),(0:Int)≤(n:Int))∧
  (∀{α:Type} {l:List α},drop (0:Nat) l=l)∧
  (∀(p:Prop),(p∨True)=True)∧
  (∀(p:Prop),(True∨p)=True)∧
  (∀(p:Prop),(p∨False)=p)∧
  (∀(p:Prop),(False∨p)=p)∧
  ((!true)=false)∧
  ((!false)=true)∧
  ((false=true)=False)∧
  (∀{p:Prop} [inst:Decidable p],(decide p=true)=p)∧
  (∀{α:Type} [inst:LE α] {x y:α},x≥y↔y≤x)∧
  (∀{α:Type} [inst:LT α] {x y:α},x>y↔y<x):=
 ⟨@vI_mk,@OX,@vS_mk,@vL_mk,@Uh,@Ui,@Uj,@VU,@VV,@VW,@VX,@VQ,@VR,@VS,@VT,@Rf,@Rg,@Rh,@Ri,@Ra,@Rb,@Rc,@Re,@NF,@J7,@ND,@Rz,@intOf_int,@Lt,@Od,@Ud,@Q7,@MX,@MY,@MZ,@Ma,@Fx,@E9,@Nf,@aI_mk,@aB_mk,@aS_mk,@aL_mk,@PT,@join_eq,@List.getD_cons_zero,@List.getD_cons_succ,@decide_true,@decide_false,@SK,@PD,@true_and,@and_true,@false_and,@and_false,@Option.bind_some,@bind_none,@length_cons,@length_nil,@length_map,@getElem?_map,@map_some,@map_none,@toNat_natCast,@eq_self,@if_true,@if_false,@zero_add,@Int.natCast_nonneg,@drop_zero,@or_true,@true_or,@or_false,@false_or,@Bool.not_true,@Bool.not_false,@false_eq_true,@decide_eq_true_eq,@ge_iff_le,@gt_iff_lt⟩
theorem GP (n r:Int):(BL n r).length≤2:=by
 unfold BL
 repeat' split
 all_goals simp
theorem GO {n r d:Int} (hr:1≤r) (h:d∈BL n r):r≤d∧d≤2*r:=by
 have hm:=emod_nonneg (n / 8) (show r≠0 by omega);have hml:=emod_lt_of_pos (n / 8) (show 0<r by omega);unfold BL at h
 repeat' split at h
 all_goals simp at h
 all_goals omega
def BH (x:Seg):List AV:=[.t (tI x.kind),.t (tI x.ses),.t (tI x.ser),.t (tI x.off),.t (tI x.tot),.t (.bool x.chk),.t (.str x.data),.t (.sl 2 (x.AS.map Span.enc))]
structure EOk (s:Ses) (c:BY):Prop where
 gc:Bz c
 now:0≤s.now∧s.now≤1099511627776
 pk:∀p∈s.picks,-9223372036854775808≤p∧p≤9223372036854775807
 ent:0≤s.entered∧s.entered<10000
 len:c.frames.length+2≤10000
 dst:0≤s.dist∧s.dist≤10000
 sl:s.sent.length<1000000∧s.told.length<1000000
 pl:s.picks.length≤1000
theorem E3 (s:Ses) (x:Seg) (ds:List Int) (u:Int) (h:B7 s s.dat.rng=(ds,u)):Cs s x={s with dat:=B4 s.dat s.now x ds,dist:=u,entered:=s.entered+1,sent:=s.sent++[⟨s.now,x⟩]}:=by unfold Cs;rw [h]
theorem E2 (s:Ses) (x:Seg) (ds:List Int) (u:Int) (h:B7 s s.rep.rng=(ds,u)):Cv s x={s with rep:=B4 s.rep s.now x ds,dist:=u,entered:=s.entered+1,told:=s.told++[⟨s.now,x⟩]}:=by unfold Cv;rw [h]
def boO (o:Option Int):Heap:=[.box [.t (tI (o.getD 0))],.box [.t (.bool o.isSome)]]
def CP (o:Option Int):List AV:=[.t (tI (o.getD 0)),.t (.bool o.isSome)]
def exG (g:Gh) (s:Ses):Gh:=if s.snd.st=1∧s.snd.due=s.now then {g with v0:=g.v0+1,pre:=[]} else g
def EX:Seg:=⟨0,0,0,0,0,false,ByteArray.mk #[],[]⟩
def Bs (s:Ses):Ses×Option Seg:=
 match s.rep.frames with
 |[]=>(s,none)
 |f::_=>if f.arr=s.now then (BT s,some f.seg) else (s,none)
def Bt (s:Ses):Ses×Option Seg:=
 match s.dat.frames with
 |[]=>(s,none)
 |f::_=>if f.arr=s.now then (BF s,some f.seg) else (s,none)
theorem Ej {c:BY} (hc:Bz c):Bz {c with frames:=c.frames.tail}:=by
 refine ⟨hc.rng,hc.lost,hc.sent,?_,fun f hf=>hc.frm f (List.mem_of_mem_tail hf),?_⟩
 ·have:=hc.len;simp;omega
 ·have:=hc.srt;cases h:c.frames with
  |nil=>simp
  |cons f l=>rw [h] at this;exact (pairwise_cons.1 this).2
def gP (g:Gh):Gh:={g with v0:=g.v0+1,pre:=[]}
def lsG (g:Gh) (s:Ses):Gh:=if s.now<s.snd.busy then g else gP g
structure LsP (P:Ses→Prop):Prop where
 rep:∀s,P s→Bz s.rep
 ack:∀s,P s→s.snd.acked.length≤100∧s.pend.length≤1000000
 Ei:∀s f l,P s→s.rep.frames=f::l→f.arr=s.now→(f.seg.AS.length≤100∨1000<f.seg.AS.length)∧(¬s.now<s.snd.busy→(BU s.snd s.now f.seg).2.2=0∧(BU s.snd s.now f.seg).2.1.length≤1000000)∧P (lsX (BT s) f.seg)
def lsT:Nat→Gh×Ses→Gh×Ses
 |0,q=>q
 |k+1,q=>match q.2.rep.frames with
  |[]=>q
  |f::_=>if f.arr=q.2.now then lsT k (lsG q.1 (BT q.2),lsX (BT q.2) f.seg) else q
theorem QD:∀(k:Nat) (q:Gh×Ses),(lsT k q).2=lsS k q.2
 |0,q=>rfl
 |k+1,q=>by
  unfold lsT lsS;cases q.2.rep.frames with
  |nil=>rfl
  |cons f l=>
   simp only;split
   ·exact QD k _
   ·rfl
theorem J3 (s:Ses) (x:Seg):(lsX s x).rep=s.rep:=by
 unfold lsX lsF;split
 ·rfl
 ·split<;>rfl
structure LS where
 g:Gh
 s:Ses
 v:Nat
 o:Option Seg
def LS.step (q:LS):Rd LS (Gh×Ses):=match q.o with
 |none =>.done (q.g,q.s)
 |some x =>.next ⟨lsG q.g q.s,(Bs (lsX q.s x)).1,q.v+1,(Bs (lsX q.s x)).2⟩
def LS.res (q:LS):Gh×Ses:=match q.o with
 |none=>(q.g,q.s)
 |some x=>lsT q.s.rep.frames.length (lsG q.g q.s,lsX q.s x)
def LS.inv (P:Ses→Prop) (q:LS):Prop:=Bz q.s.rep∧match q.o with
 |none=>True
 |some x=>(q.s.snd.acked.length≤100∧q.s.pend.length≤1000000)∧(x.AS.length≤100∨1000<x.AS.length)∧(¬q.s.now<q.s.snd.busy→(BU q.s.snd q.s.now x).2.2=0∧(BU q.s.snd q.s.now x).2.1.length≤1000000)∧P (lsX q.s x)
theorem LS.take {P:Ses→Prop} (hP:LsP P) {s:Ses} (h:P s) (g:Gh) (v:Nat):LS.inv P ⟨g,(Bs s).1,v,(Bs s).2⟩∧LS.res ⟨g,(Bs s).1,v,(Bs s).2⟩=lsT s.rep.frames.length (g,s):=by
 have hg:=hP.rep s h;unfold Bs;cases hf:s.rep.frames with
 |nil=>exact ⟨⟨hg,trivial⟩,by simp [LS.res,lsT]⟩
 |cons f l=>
  simp only;split
  ·rename_i ha;obtain ⟨h1,h2,h3⟩:=hP.Ei s f l h hf ha;refine ⟨⟨Ej hg,hP.ack s h,h1,h2,h3⟩,?_⟩;simp only [LS.res,length_cons,lsT,hf,ha,if_true];have:(BT s).rep.frames.length=l.length:=by simp [BT,hf]
   rw [this]
  ·rename_i ha;refine ⟨⟨hg,trivial⟩,?_⟩;simp only [LS.res,length_cons,lsT,hf,ha,if_false]
theorem LS.sound {P:Ses→Prop} (hP:LsP P) (q q':LS) (h:q.inv P) (hs:q.step = .next q'):q'.inv P∧(q'.s.rep.frames.length+(if q'.o.isSome then 1 else 0)<q.s.rep.frames.length+(if q.o.isSome then 1 else 0)):=by
 obtain ⟨g,s,v,o⟩:=q;unfold LS.step at hs;cases o with
 |none=>cases hs
 |some x=>
  cases hs;refine ⟨(LS.take hP h.2.2.2.2 _ _).1,?_⟩;simp only [Bs,J3];cases hf:s.rep.frames with
  |nil=>simp [J3,hf]
  |cons f l=>
   simp only;split
   ·simp [BT,J3,hf]
   ·simp [J3,hf]
theorem LS.fin {P:Ses→Prop} (hP:LsP P) (q:LS) (h:q.inv P):q.res=q.step.fin LS.res:=by
 obtain ⟨g,s,v,o⟩:=q;cases o with
 |none=>rfl
 |some x=>
  simp only [LS.step,Rd.fin];rw [(LS.take hP h.2.2.2.2 _ _).2,J3];rfl
end Ab
set_option linter.unusedVariables false
set_option linter.unusedSimpArgs false
namespace Ab
open Go
structure Bud (k:Nat) (s:Ses):Prop where
 gd:Bz s.dat
 gr:Bz s.rep
 now:0≤s.now∧(0<k→s.now≤1099511627776)
 pk:∀p∈s.picks,-9223372036854775808≤p∧p≤9223372036854775807
 ent:0≤s.entered∧s.entered+k≤5000
 ld:(s.dat.frames.length:Int)≤2*s.entered
 lr:(s.rep.frames.length:Int)≤2*s.entered
 sd:s.dat.sent≤s.entered
 sr:s.rep.sent≤s.entered
 dst:0≤s.dist∧s.dist≤s.entered
 sl:(s.sent.length:Int)≤s.entered
 tl:(s.told.length:Int)≤s.entered
 pl:s.picks.length≤1000
theorem Bud.mono {k k':Nat} {s:Ses} (h:Bud k s) (hk:k'≤k):Bud k' s:={h with ent:=by have:=h.ent;omega,now:=⟨h.now.1,fun q=>h.now.2 (by omega)⟩}
theorem Bud.eD {k:Nat} {s:Ses} (h:Bud (k+1) s):EOk s s.dat:=by have:=h.ent;have:=h.ld;have:=h.dst;have:=h.sl;have:=h.tl;exact ⟨h.gd,⟨h.now.1,h.now.2 (by omega)⟩,h.pk,by omega,by omega,by omega,by omega,h.pl⟩
theorem Bud.eR {k:Nat} {s:Ses} (h:Bud (k+1) s):EOk s s.rep:=by have:=h.ent;have:=h.lr;have:=h.dst;have:=h.sl;have:=h.tl;exact ⟨h.gr,⟨h.now.1,h.now.2 (by omega)⟩,h.pk,by omega,by omega,by omega,by omega,h.pl⟩
theorem GL (t num:Int) (x:Seg):∀(ds:List Int) (fs:List Frame),(Kn t num x ds fs).length=fs.length+ds.length
 |[],fs=>by simp [Kn]
 |d::ds,fs=>by show (Kn t num x ds (Kv t num x fs d)).length=_;rw [GL t num x ds,NJ];simp;omega
theorem CY {t num:Int} {x:Seg} {f:Frame}:∀{ds:List Int} {fs:List Frame},f∈Kn t num x ds fs↔f∈fs∨∃d∈ds,f=⟨t+d,num,x⟩
 |[],fs=>by simp [Kn]
 |d::ds,fs=>by
  show f∈Kn t num x ds (Kv t num x fs d)↔_;rw [CY];unfold Kv;rw [NK];simp only [mem_cons,exists_eq_or_imp];constructor
  ·rintro ((h|h)|h)
   ·exact .inr (.inl h)
   ·exact .inl h
   ·exact .inr (.inr h)
  ·rintro (h|h|h)
   ·exact .inl (.inr h)
   ·exact .inl (.inl h)
   ·exact .inr h
theorem RX {t num:Int} {x:Seg}:∀{ds:List Int} {fs:List Frame},fs.Pairwise (fun a b=>a.arr≤b.arr)→(Kn t num x ds fs).Pairwise fun a b=>a.arr≤b.arr
 |[],fs,h=>h
 |d::ds,fs,h=>RX (ds:=ds) (R2 h)
theorem QQ {s:Ses} {R:Int} (hR:1≤R):(∀d∈(B7 s R).1,R≤d∧d≤2*R)∧(B7 s R).1.length≤2∧s.dist≤(B7 s R).2∧(B7 s R).2≤s.dist+1:=by
 unfold B7;split
 ·simp;omega
 ·split
  ·simp;omega
  ·split
   ·exact ⟨fun d hd=>GO hR hd,GP _ _,by simp,by simp only;omega⟩
   ·split
    ·simp;omega
    ·exact ⟨fun d hd=>GO hR hd,GP _ _,by simp only;omega,by simp⟩
theorem NP {c:BY} {t:Int} {x:Seg} {ds:List Int} (hc:Bz c) (ht:0≤t∧t≤1099511627776) (hd:∀d∈ds,c.rng≤d∧d≤2*c.rng) (hl:c.frames.length+ds.length≤10000) (hs:c.sent<1152921504606846976):Bz (B4 c t x ds):=by
 have h1:=hc.rng;have h2:=hc.lost;refine ⟨h1,?_,?_,?_,fun f hf => ?_,RX hc.srt⟩
 ·simp only [B4,Hj];split<;>omega
 ·simp only [B4];omega
 ·simp only [B4,GL];exact hl
 ·simp only [B4] at hf;rcases CY.1 hf with hf|⟨d,hdd,rfl⟩
  ·have:=hc.frm f hf;simp only [B4];omega
  ·have:=hd d hdd;simp only [B4];omega
theorem Bud.Cs {k:Nat} {s:Ses} (h:Bud (k+1) s) (x:Seg):Bud k (Cs s x):=by
 have he:=h.eD;have hr:=h.gd.rng;obtain ⟨d1,d2,d3,d4⟩:=QQ (s:=s) hr.1;have:=h.ent;have:=h.ld;have:=h.lr;have:=h.dst;have:=h.sl;have:=h.tl;have:=h.sd;have:=h.sr;refine ⟨NP h.gd he.now d1 (by omega) (by omega),h.gr,⟨h.now.1,fun _=>h.now.2 (by omega)⟩,h.pk,?_,?_,?_,?_,?_,?_,?_,?_,h.pl⟩
 all_goals simp only [Ab.Cs,B4,GL,length_append,length_cons,length_nil]
 all_goals omega
theorem Bud.Cv {k:Nat} {s:Ses} (h:Bud (k+1) s) (x:Seg):Bud k (Cv s x):=by
 have he:=h.eR;have hr:=h.gr.rng;obtain ⟨d1,d2,d3,d4⟩:=QQ (s:=s) hr.1;have:=h.ent;have:=h.ld;have:=h.lr;have:=h.dst;have:=h.sl;have:=h.tl;have:=h.sd;have:=h.sr;refine ⟨h.gd,NP h.gr he.now d1 (by omega) (by omega),⟨h.now.1,fun _=>h.now.2 (by omega)⟩,h.pk,?_,?_,?_,?_,?_,?_,?_,?_,h.pl⟩
 all_goals simp only [Ab.Cv,B4,GL,length_append,length_cons,length_nil]
 all_goals omega
theorem Bud.BF {k:Nat} {s:Ses} (h:Bud k s):Bud k (BF s):={h with gd:=Ej h.gd,ld:=by have:=h.ld;simp only [Ab.BF,length_tail];omega}
theorem Bud.BT {k:Nat} {s:Ses} (h:Bud k s):Bud k (BT s):={h with gr:=Ej h.gr,lr:=by have:=h.lr;simp only [Ab.BT,length_tail];omega}
theorem Bud.of {k:Nat} {s s':Ses} (h:Bud k s) (h1:s'.dat=s.dat) (h2:s'.rep=s.rep) (h3:s'.now=s.now) (h4:s'.picks=s.picks) (h5:s'.entered=s.entered) (h6:s'.dist=s.dist) (h7:s'.sent=s.sent) (h8:s'.told=s.told):Bud k s':=
 ⟨h1 ▸ h.gd,h2 ▸ h.gr,h3 ▸ h.now,h4 ▸ h.pk,h5 ▸ h.ent,by rw [h1,h5];exact h.ld,by rw [h2,h5];exact h.lr,by rw [h1,h5];exact h.sd,by rw [h2,h5];exact h.sr,by rw [h6,h5];exact h.dst,by rw [h7,h5];exact h.sl,by rw [h8,h5];exact h.tl,h4 ▸ h.pl⟩
theorem Kz:∀(l:List Seg) (s:Ses),(l.foldl Cv s).dat=s.dat
 |[],s=>rfl
 |x::l,s=>by rw [foldl_cons,Kz l];rfl
theorem Ky:∀(l:List Seg) (s:Ses),(l.foldl Cv s).now=s.now
 |[],s=>rfl
 |x::l,s=>by rw [foldl_cons,Ky l];rfl
def rxG (g:Gh) (s:Ses) (x:Seg):Gh:={g with v5:=g.v5+(Ei s.rcv x).2.1.length}
structure RxP (P:Ses→Prop):Prop where
 dat:∀s,P s→Bz s.dat
 Ei:∀s f l,P s→s.dat.frames=f::l→f.arr=s.now→(Ei s.rcv f.seg).2.2=0∧Bud (Ei s.rcv f.seg).2.1.length (BF s)∧P (rxX (BF s) f.seg)
def rxT:Nat→Gh×Ses→Gh×Ses
 |0,q=>q
 |k+1,q=>match q.2.dat.frames with
  |[]=>q
  |f::_=>if f.arr=q.2.now then rxT k (rxG q.1 (BF q.2) f.seg,rxX (BF q.2) f.seg) else q
theorem Ps:∀(k:Nat) (q:Gh×Ses),(rxT k q).2=rxS k q.2
 |0,q=>rfl
 |k+1,q=>by
  unfold rxT rxS;cases q.2.dat.frames with
  |nil=>rfl
  |cons f l=>
   simp only;split
   ·exact Ps k _
   ·rfl
theorem FV (s:Ses) (x:Seg):(rxX s x).dat=s.dat:=by
 unfold rxX rxF rxH;split
 ·show (List.foldl Cv _ _).dat=_;rw [Kz]
 ·rw [Kz]
theorem Pr (s:Ses) (x:Seg):(rxX s x).now=s.now:=by
 unfold rxX rxF rxH;split
 ·show (List.foldl Cv _ _).now=_;rw [Ky]
 ·rw [Ky]
structure RS where
 g:Gh
 s:Ses
 v:Nat
 o:Option Seg
def RS.step (q:RS):Rd RS (Gh×Ses):=match q.o with
 |none =>.done (q.g,q.s)
 |some x =>.next ⟨rxG q.g q.s x,(Bt (rxX q.s x)).1,q.v+1,(Bt (rxX q.s x)).2⟩
def RS.res (q:RS):Gh×Ses:=match q.o with
 |none=>(q.g,q.s)
 |some x=>rxT q.s.dat.frames.length (rxG q.g q.s x,rxX q.s x)
def RS.inv (P:Ses→Prop) (q:RS):Prop:=Bz q.s.dat∧match q.o with
 |none=>True
 |some x=>(Ab.Ei q.s.rcv x).2.2=0∧Bud (Ab.Ei q.s.rcv x).2.1.length q.s∧P (rxX q.s x)
theorem RS.take {P:Ses→Prop} (hP:RxP P) {s:Ses} (h:P s) (g:Gh) (v:Nat):RS.inv P ⟨g,(Bt s).1,v,(Bt s).2⟩∧RS.res ⟨g,(Bt s).1,v,(Bt s).2⟩=rxT s.dat.frames.length (g,s):=by
 have hg:=hP.dat s h;unfold Bt;cases hf:s.dat.frames with
 |nil=>exact ⟨⟨hg,trivial⟩,by simp [RS.res,rxT]⟩
 |cons f l=>
  simp only;split
  ·rename_i ha;obtain ⟨h1,h2,h3⟩:=hP.Ei s f l h hf ha;refine ⟨⟨Ej hg,h1,h2,h3⟩,?_⟩;simp only [RS.res,length_cons,rxT,hf,ha,if_true];have:(BF s).dat.frames.length=l.length:=by simp [BF,hf]
   rw [this]
  ·rename_i ha;refine ⟨⟨hg,trivial⟩,?_⟩;simp only [RS.res,length_cons,rxT,hf,ha,if_false]
theorem RS.sound {P:Ses→Prop} (hP:RxP P) (q q':RS) (h:q.inv P) (hs:q.step = .next q'):q'.inv P∧(q'.s.dat.frames.length+(if q'.o.isSome then 1 else 0)<q.s.dat.frames.length+(if q.o.isSome then 1 else 0)):=by
 obtain ⟨g,s,v,o⟩:=q;unfold RS.step at hs;cases o with
 |none=>cases hs
 |some x=>
  cases hs;refine ⟨(RS.take hP h.2.2.2 _ _).1,?_⟩;simp only [Bt,FV];cases hf:s.dat.frames with
  |nil=>simp [FV,hf]
  |cons f l=>
   simp only;split
   ·simp [BF,FV,hf]
   ·simp [FV,hf]
theorem RS.fin {P:Ses→Prop} (hP:RxP P) (q:RS) (h:q.inv P):q.res=q.step.fin RS.res:=by
 obtain ⟨g,s,v,o⟩:=q;cases o with
 |none=>rfl
 |some x=>
  simp only [RS.step,Rd.fin];rw [(RS.take hP h.2.2.2 _ _).2,FV];rfl
def Is (r:Rcv):AF :=.box [.t (tI r.ses),.t (tI r.tot),.t (.sl 2 (r.known.map Span.enc)),.t (.str r.data)]
theorem Td:∀(l:List Seg) (g:Gh) (s:Ses),l.foldl (fun (q:Gh×Ses) y=>({q.1 with v5:=q.1.v5+1},Cv q.2 y)) (g,s)=({g with v5:=g.v5+l.length},l.foldl Cv s)
 |[],g,s=>rfl
 |x::l,g,s=>by rw [foldl_cons,Td l];simp only [length_cons,foldl_cons,add_assoc,Nat.add_comm 1]
def txT:Nat→Gh×Ses→Gh×Ses
 |0,q=>q
 |k+1,q=>match q.2.pend with
  |[]=>q
  |o::l=>if o.at_=q.2.now then txT k ({q.1 with v4:=q.1.v4+1,pre:=q.1.pre++[o.enc]},{Cs q.2 o.seg with pend:=l}) else q
theorem Ph:∀(k:Nat) (q:Gh×Ses),(txT k q).2=txS k q.2
 |0,q=>rfl
 |k+1,q=>by
  unfold txT txS;cases q.2.pend with
  |nil=>rfl
  |cons o l=>
   simp only;split
   ·exact Ph k _
   ·rfl
structure ExOk (s:Ses):Prop where
 ent:s.entered<10000
 ack:s.snd.acked.length≤100
 pl:s.pend.length≤1000000
 w:s.snd.st=1→s.snd.due=s.now→(Co s.snd s.now).2.2=0∧(Co s.snd s.now).2.1.length≤1000000
structure Sn (W P1 P2:Ses→Prop) (μ:Ses→Nat):Prop where
 rx:RxP P1
 ls:LsP P2
 nx:∀s,W s→s.entered<10000∧Bz s.dat∧Bz s.rep
 tx:∀s t,W s→nxS s=some t→Bud s.pend.length {s with now:=t}
 p1:∀s t,W s→nxS s=some t→P1 (ph1 s t)
 p2:∀s t,W s→nxS s=some t→P2 (ph2 s t)
 ex:∀s t,W s→nxS s=some t→ExOk (ph3 s t)
 st:∀s t,W s→nxS s=some t→W (stS s t)∧μ (stS s t)<μ s
def g1T (g:Gh) (s:Ses) (t:Int):Gh:=(txT s.pend.length (g,{s with now:=t})).1
def g2T (g:Gh) (s:Ses) (t:Int):Gh:=(rxT (ph1 s t).dat.frames.length (g1T g s t,ph1 s t)).1
def g3T (g:Gh) (s:Ses) (t:Int):Gh:=(lsT (ph2 s t).rep.frames.length (g2T g s t,ph2 s t)).1
def stT (q:Gh×Ses) (t:Int):Gh×Ses:=(exG (g3T q.1 q.2 t) (ph3 q.2 t),stS q.2 t)
def rnT:Nat→Gh×Ses→Gh×Ses
 |0,q=>q
 |k+1,q=>match nxS q.2 with
  |none=>q
  |some t=>rnT k (stT q t)
theorem Pu:∀(k:Nat) (q:Gh×Ses),(rnT k q).2=HJ k q.2
 |0,q=>rfl
 |k+1,q=>by
  unfold rnT HJ;cases nxS q.2 with
  |none=>rfl
  |some t=>exact Pu k _
theorem Gc {W P1 P2:Ses→Prop} {μ:Ses→Nat} (hR:Sn W P1 P2 μ):∀(k:Nat) (q:Gh×Ses),W q.2→μ q.2≤k→rnT k q=rnT (μ q.2) q
 |0,q,h,hk=>by rw [show μ q.2=0 by omega]
 |k+1,q,h,hk=>by
  cases hn:nxS q.2 with
  |none=>
   cases hm:μ q.2 with
   |zero=>simp only [rnT,hn]
   |succ m=>simp only [rnT,hn]
  |some t=>
   obtain ⟨h1,h2⟩:=hR.st q.2 t h hn;cases hm:μ q.2 with
   |zero=>omega
   |succ m=>
    simp only [rnT,hn];rw [Gc hR k (stT q t) h1 (by simp only [stT];omega),← Gc hR m (stT q t) h1 (by simp only [stT];omega)]
theorem M7 {S R:Type} (B:S→(S→Option R)→Option R) (s0 s1 s2 s3 s4:S) (r:Option R) (n:Nat) (hn:5≤n) (h0:∀ag,B s0 ag=ag s1) (h1:∀ag,B s1 ag=ag s2) (h2:∀ag,B s2 ag=ag s3) (h3:∀ag,B s3 ag=ag s4) (h4:∀ag,B s4 ag=r):AJ B n s0=r:=by
 obtain ⟨m,rfl⟩:∃m,n=m+5:=⟨n-5,by omega⟩
 show B s0 (AJ B (m+4))=r;rw [h0];show B s1 (AJ B (m+3))=r;rw [h1];show B s2 (AJ B (m+2))=r;rw [h2];show B s3 (AJ B (m+1))=r;rw [h3];show B s4 (AJ B m)=r;rw [h4]
def ini (c:Con) (b e:Int) (d:ByteArray) (ps:List Int) (lim:Int) (dk:List Span):Ses:=
 ⟨⟨c.rng,[],0,0⟩,⟨c.rng,[],0,0⟩,ps,lim,dk,0,0,[],[],0,(Bi c 0 d b e).1,⟨0,-1,[],ByteArray.mk #[]⟩,(Bi c 0 d b e).2.1,false,0,false,0⟩
def K4 (c:Con) (b e:Int) (d:ByteArray) (ps:List Int) (lim:Int) (dk:List Span):Int:=
 if 1000<ps.length then 4 else if lim < -1 then 2 else if BG dk≠0 then 1 else (Bi c 0 d b e).2.2
def F8 (c:Con) (b e:Int) (d:ByteArray) (ps:List Int) (lim:Int) (dk:List Span):List Tree:=c.enc++[tI b,tI e,.str d,.sl 1 (ps.map Bh),tI lim,.sl 2 (dk.map Span.enc)]
theorem Oe {c:Con} {b e:Int} {d:ByteArray} (h:(Bi c 0 d b e).2.2=0):1≤c.rng∧c.rng≤1048576:=by
 unfold Bi at h;split at h
 ·simp [DI] at h
 ·rename_i h1;have h1:KF c=0:=by simpa using h1
  obtain ⟨c1,c2⟩:=Fi h1;unfold IL at c1;omega
def Ta (s:Ses):List Tree:=[.sl 9 (s.sent.map Out.enc),.sl 9 (s.told.map Out.enc),tI 0]
def TH (s:Ses):List Tree:=[.bool s.rcvd,tI s.arrive,.bool s.kno,tI s.knoAt,tI s.snd.busy,tI s.entered,tI (s.dat.lost+s.rep.lost),tI 0]
end Ab
set_option linter.unusedVariables false
set_option linter.unusedSimpArgs false
namespace Ab
open Go
theorem Bat.BX {d:ByteArray} {ses ser:Int} {l:List Seg} (h:Bat d ses ser l):Bat d ses ser (BX l):=by obtain ⟨pre,x,rfl,h1,h2⟩:=h.ex;rw [E1];exact ⟨⟨[],x,rfl,h1,fun y hy=>by cases hy⟩,by simp;omega⟩
theorem Bat.AS {d:ByteArray} {ses ser:Int} {l:List Seg} (h:Bat d ses ser l):∀x∈l,x.AS=[]:=by
 obtain ⟨pre,x,rfl,h1,h2⟩:=h.ex;intro y hy;rcases mem_append.1 hy with hy|hy
 ·exact (h2 y hy).cl
 ·rw [mem_singleton] at hy;subst hy;exact h1.cl
theorem Fc (r:Int):∀(l:List Seg) (t:Int),(A1 r t l).map Out.seg=l
 |[],t=>rfl
 |x::l,t=>by simp only [A1,map_cons,Fc r l]
def FewO (o:List Out):Prop:=o.length≤1000000∧∀x∈o,x.seg.AS.length≤1000000
theorem QU {s:Snd} (h:HL s=0) (hf:fits s=true):Gt s=0:=by unfold Gt;rw [if_neg (fun f=>f h),if_pos hf]
theorem VZ {s:Snd} (h:HL s=0):Gt (DY s)=0:=by refine QU h ?_;unfold fits DY;simp
theorem Ue {s:Snd} {t ser:Int} (h:HL s=0) (hc:complete s=false) (ht:s.c.start≤t∧t≤s.fin) (hr:1≤ser∧ser≤1099511627776):Gt (A9 s t ser)=0:=by
 refine QU ?_ ?_
 ·obtain ⟨c1,c2,c3⟩:=DQ h;unfold Es at c2;have a1:Es (A9 s t ser):=by unfold Es A9;simp only;omega
  have a2:Q1 (A9 s t ser):=c3;have a0:KF (A9 s t ser).c=0:=c1;unfold HL;rw [if_neg (fun f=>f a0),if_neg (fun f=>f a1),if_neg (fun f=>f a2)]
 ·unfold fits;refine decide_eq_true (.inl ⟨rfl,hc,rfl⟩)
theorem done_ok {s:Snd} (h:HL s=0) (hc:complete s=true):Gt {s with due:=0,st:=2}=0:=by refine QU h ?_;unfold fits;exact decide_eq_true (.inr (.inl ⟨rfl,hc,rfl⟩))
structure Step (s p:Snd) (o:List Out):Prop where
 ok:Gt p=0
 few:p.acked.length≤s.acked.length+100
 data:p.data=s.data
 acc:∀t,AM t s.acked→AM t p.acked
 ser:s.ser≤p.ser
 busy:s.busy≤p.busy
 still:s.st=1∨o=[]∧p=s
 next:o=[]∨p.ser=s.ser+1
 fewO:FewO o
end Ab
set_option linter.unusedVariables false
set_option linter.unusedSimpArgs false
namespace Ab
open Go
theorem Fj (k:Nat):(EJ k).length=k:=by simp [EJ]
theorem NQ {l:List UInt8} {i:Nat} (h:l.length≤i):l.getD i 0=0:=by simp [List.getD,getElem?_eq_none h]
theorem Ss (k i:Nat):(EJ k).getD i 0=0:=by
 by_cases h:i<k
 ·simp [EJ,List.getD,List.getElem?_replicate,h]
 ·exact NQ (by simp [EJ];omega)
theorem Rq {r:Rcv} {x:Seg} (h1:r.data.size≤x.tot.toNat) (h2:x.off.toNat+x.data.size≤x.tot.toNat):(D6 r x).length=x.tot.toNat:=by
 have l1:(Me (EJ x.tot.toNat) 0 (bl r.data)).length=x.tot.toNat:=by rw [HQ _ _ _ (by rw [B8,Fj];omega),Fj]
 unfold D6;rw [HQ _ _ _ (by rw [B8,l1];omega),l1]
theorem Rr {r:Rcv} {x:Seg} (h1:r.data.size≤x.tot.toNat) (h2:x.off.toNat+x.data.size≤x.tot.toNat) (i:Nat) :
  (D6 r x).getD i 0=if x.off.toNat≤i∧i<x.off.toNat+x.data.size then (bl x.data).getD (i-x.off.toNat) 0 else (bl r.data).getD i 0:=by
 have l1:(Me (EJ x.tot.toNat) 0 (bl r.data)).length=x.tot.toNat:=by rw [HQ _ _ _ (by rw [B8,Fj];omega),Fj]
 unfold D6;rw [RC _ _ _ (by rw [B8,l1];omega),RC _ _ _ (by rw [B8,Fj];omega),B8,B8];split
 ·rfl
 ·split
  ·rw [Nat.sub_zero]
  ·rw [Ss,NQ (by rw [B8];omega)]
theorem VY {r:Rcv} {x:Seg} (hr:El r=0) (hx:C4 x=0) (hs:EY r x=true):r.data.size≤x.tot.toNat∧x.off.toNat+x.data.size≤x.tot.toNat:=by obtain ⟨g1,g2,g3,g4,g5,g6,g7⟩:=EN hx (Dj.1 hs).1;exact ⟨(size_le hr hx hs).1,by omega⟩
theorem YJ {x:Seg} {t:Int}:AM t [sp x]↔x.off≤t∧t<x.off+x.data.size:=by simp only [AM,or_false];rfl
theorem Jz {r:Rcv} {x:Seg} (hs:EY r x=true) (t:Int):AM t (C1 r x).known↔AM t r.known∨(x.off≤t∧t<x.off+x.data.size):=by rw [← YJ];exact (HN (Dj.1 hs).2.2.2.2).2.2.2.2 t
theorem Rp {r:Rcv} {x:Seg} (hr:El r=0) (hx:C4 x=0) (hs:EY r x=true) (i:Nat) :
  (bl (C1 r x).data).getD i 0=if x.off.toNat≤i∧i<x.off.toNat+x.data.size then (bl x.data).getD (i-x.off.toNat) 0 else (bl r.data).getD i 0:=by
 show (bl (mkB (D6 r x))).getD i 0=_;rw [Lu];exact Rr (VY hr hx hs).1 (VY hr hx hs).2 i
theorem WH {r:Rcv} {x:Seg} (hr:El r=0) (hx:C4 x=0) (hs:EY r x=true):(C1 r x).data.size=x.tot.toNat:=by show (mkB (D6 r x)).size=_;rw [IV];exact Rq (VY hr hx hs).1 (VY hr hx hs).2
theorem M0 {r:Rcv} {x:Seg} (hr:El r=0) (hx:C4 x=0) (hs:EY r x=true):El (C1 r x)=0:=by
 obtain ⟨h1,h2,h3,h4,h5⟩:=Dj.1 hs;obtain ⟨g1,g2,g3,g4,g5,g6,g7⟩:=EN hx h1;obtain ⟨c1,c2,c3,c4⟩:=DP hr;obtain ⟨w1,w2⟩:=Lj hr hx hs;obtain ⟨u1,u2,u3,u4,u5⟩:=HN h5;have a1:Tz (C1 r x):=⟨c1.1,.inr ⟨g1,g2⟩⟩
 have a2:KnR (C1 r x):=by refine ⟨u4,⟨fun h=>(w2 h).elim,fun h => ?_⟩,(CJ u4).2 w1⟩;have:x.tot = -1:=h;omega
 have a3:((C1 r x).data.size:Int)=Ji (C1 r x).tot:=by rw [WH hr hx hs];show ((x.tot.toNat:Nat):Int)=Ji x.tot;unfold Ji;rw [if_neg (by omega)];omega
 have a4:Sf (C1 r x):=by
  intro i hi hi0;rw [Rp hr hx hs] at hi0;rw [Jz hs];split at hi0
  ·right;omega
  ·left;refine c4 i ?_ hi0;rw [← B8];rcases lt_or_ge i (bl r.data).length with h|h
   ·exact h
   ·exact (hi0 (NQ h)).elim
 unfold El;rw [if_neg (not_not_intro a1),if_neg (not_not_intro a2),if_neg (not_not_intro a3),if_pos a4]
theorem QI {r:Rcv} {x:Seg} (hr:El r=0) (hx:C4 x=0):Ei r x=if EY r x=true then (C1 r x,if x.chk=true then [B3 r x] else [],0) else (r,[],0):=by
 unfold Ei;rw [if_neg (not_not_intro ⟨hr,hx⟩)];by_cases hs:EY r x=true
 ·rw [if_neg (by rw [hs];decide),if_pos hs]
 ·rw [if_pos (by simpa using hs),if_neg hs]
theorem TY {r:Rcv} {x:Seg} (hr:El r=0) (hx:C4 x=0):El (Ei r x).1=0:=by
 rw [QI hr hx];split
 ·rename_i hs;exact M0 hr hx hs
 ·exact hr
theorem NC {r:Rcv} {x:Seg} (hr:El r=0) (hx:C4 x=0) (hc:A7 r=true):A7 (Ei r x).1=true:=by
 have hv:=TY hr hx;unfold A7 at hc ⊢;rw [decide_eq_true_eq] at hc ⊢;refine ⟨hv,?_⟩;rw [QI hr hx] at hv ⊢;split
 ·rename_i hs;rw [if_pos hs] at hv;obtain ⟨h1,h2,h3,h4,h5⟩:=Dj.1 hs;obtain ⟨g1,g2,g3,g4,g5,g6,g7⟩:=EN hx h1;obtain ⟨c1,c2,c3,c4⟩:=DP hr;obtain ⟨d1,d2,d3,d4⟩:=DP hv;have ht:r.tot ≠ -1:=fun h=>by have:=c2.2.1.2 h;rw [this] at hc;cases hc.2
  have htt:x.tot=r.tot:=by rcases h3 with h|h;exact (ht h).elim;exact h
  show (C1 r x).known=[⟨0,x.tot⟩];refine DJ ((Aj _).1 d2.1).2.1 (b' := -1) ⟨by show (-1:Int)<0;decide,by show (0:Int)<x.tot;omega,trivial⟩ fun t => ?_;rw [Jz hs,hc.2];simp only [AM,or_false];omega
 ·exact hc.2
end Ab
set_option linter.unusedVariables false
set_option linter.unusedSimpArgs false
namespace Ab
open Go
def DK (D:ByteArray) (x:Seg):Prop:=C4 x=0∧x.kind=1∧x.ses=0∧x.tot=D.size∧∀i,i<x.data.size→(bl x.data).getD i 0=(bl D).getD (x.off.toNat+i) 0
def Cov (l:List Seg) (t:Int):Prop:=∃x∈l,x.off≤t∧t<x.off+x.data.size
def R0:Rcv:=⟨0,-1,[],ByteArray.mk #[]⟩
structure Hd (D:ByteArray) (r:Rcv) (l:List Seg):Prop where
 ok:El r=0
 ses:r.ses=0
 tot:r.tot=if l=[] then -1 else (D.size:Int)
 mem:∀t,AM t r.known↔Cov l t
 get:∀i:Nat,Cov l (i:Int)→(bl r.data).getD i 0=(bl D).getD i 0
theorem XS (D:ByteArray):Hd D R0 []:=⟨by decide,rfl,rfl,fun t=>⟨fun h=>h.elim,fun ⟨x,h,_⟩=>by cases h⟩,fun i ⟨x,h,_⟩=>by cases h⟩
theorem SJ {l:List Seg} {x:Seg} {t:Int}:Cov (l++[x]) t↔Cov l t∨(x.off≤t∧t<x.off+x.data.size):=by
 unfold Cov;constructor
 ·rintro ⟨y,hy,h⟩
  rcases mem_append.1 hy with hy|hy
  ·exact .inl ⟨y,hy,h⟩
  ·simp only [mem_singleton] at hy;subst hy;exact .inr h
 ·rintro (⟨y,hy,h⟩|h)
  ·exact ⟨y,List.mem_append_left _ hy,h⟩
  ·exact ⟨x,by simp,h⟩
theorem Dn {D:ByteArray} {x:Seg} (hx:DK D x):0≤x.off∧1≤x.data.size∧x.off+x.data.size≤D.size∧x.data.size≤16:=by obtain ⟨g1,g2,g3,g4,g5,g6,g7⟩:=EN hx.1 hx.2.1;have:=hx.2.2.2.1;omega
theorem Yn {D:ByteArray} {l:List Seg} (hl:∀x∈l,DK D x) {t:Int} (h:Cov l t):0≤t∧t<D.size:=by obtain ⟨x,hx,h1,h2⟩:=h;have:=Dn (hl x hx);omega
theorem MV {D:ByteArray} {r:Rcv} {l:List Seg} {x:Seg} (h:Hd D r l) (hl:∀x∈l,DK D x) (hx:DK D x) (hD:D.size≤900):EY r x=true:=by
 obtain ⟨c1,c2,c3,c4⟩:=DP h.ok;obtain ⟨b1,b2,b3,b4⟩:=Dn hx;refine Dj.2 ⟨hx.2.1,by rw [hx.2.2.1,h.ses],?_,fun i hi hm => ?_,?_⟩
 ·rw [h.tot,hx.2.2.2.1];by_cases hn:l=[]
  ·left;rw [if_pos hn]
  ·right;rw [if_neg hn]
 ·have:=h.get (x.off.toNat+i) (by rw [show ((x.off.toNat+i:Nat):Int)=x.off+(i:Int) by omega];exact (h.mem _).1 hm);rw [this,hx.2.2.2.2 i hi]
 ·have hs:BG [sp x]=0:=by
   rw [Aj];refine ⟨by simp,⟨?_,?_,trivial⟩,fun y hy => ?_⟩
   ·show -1152921504606846977<x.off;omega
   ·show x.off<x.off+x.data.size;omega
   ·simp only [mem_singleton] at hy;subst hy;show x.off+x.data.size≤_;omega
  obtain ⟨u1,u2⟩:=JZ ((Aj _).1 c2.1).2.1 ((Aj _).1 hs).2.1;have hin:∀t,AM t (uni r.known [sp x])→0≤t∧t<D.size:=fun t m=>by
   rcases (u2 t).1 m with m|m
   ·exact Yn hl ((h.mem t).1 m)
   ·rw [YJ] at m;omega
  have hw:=Gg u1 hin;have hlen:((uni r.known [sp x]).length:Int)≤D.size-(-1):=by
   refine Wj (b := -1) ?_ (by omega) (fun y hy=>(hw y hy).2);cases hu:uni r.known [sp x] with
   |nil=>trivial
   |cons y l'=>
    rw [hu] at u1 hw;exact ⟨by have:=(hw y mem_cons_self).1;omega,u1.2.1,u1.2.2⟩
  unfold Eb;rw [if_pos ⟨c2.1,hs⟩,if_neg (by omega)]
theorem st_next {D:ByteArray} {r:Rcv} {l:List Seg} {x:Seg} (h:Hd D r l) (hl:∀x∈l,DK D x) (hx:DK D x) (hD:D.size≤900):Hd D (C1 r x) (l++[x]):=by
 have hs:=MV h hl hx hD;obtain ⟨b1,b2,b3,b4⟩:=Dn hx;refine ⟨M0 h.ok hx.1 hs,h.ses,?_,fun t => ?_,fun i hi => ?_⟩
 ·rw [if_neg (by simp)];exact hx.2.2.2.1
 ·rw [Jz hs,h.mem,SJ]
 ·rw [Rp h.ok hx.1 hs];split
  ·rename_i hr;rw [hx.2.2.2.2 _ (by omega),show x.off.toNat+(i-x.off.toNat)=i by omega]
  ·rename_i hr;rcases SJ.1 hi with hc|hc
   ·exact h.get i hc
   ·omega
theorem st_hear {D:ByteArray} {r:Rcv} {l:List Seg} {x:Seg} (h:Hd D r l) (hl:∀x∈l,DK D x) (hx:DK D x) (hD:D.size≤900):Ei r x=(C1 r x,if x.chk=true then [B3 r x] else [],0):=by rw [QI h.ok hx.1,if_pos (MV h hl hx hD)]
end Ab
set_option linter.unusedVariables false
set_option linter.unusedSimpArgs false
namespace Ab
open Go
theorem V6 {d:ByteArray} {p:Int×Int} (h:0≤p.1∧p.1<p.2∧p.2≤d.size) (i:Nat) (hi:i<(raw d 0 p).data.size):(bl (raw d 0 p).data).getD i 0=(bl d).getD ((raw d 0 p).off.toNat+i) 0:=by
 have hs:(raw d 0 p).data.size=p.2.toNat-p.1.toNat:=by simp only [raw,size_extract];omega
 rw [hs] at hi;show (bl (d.extract p.1.toNat p.2.toNat)).getD i 0=(bl d).getD (p.1.toNat+i) 0;rw [ED];simp [getD_eq_getElem?_getD,getElem?_take,hi,getElem?_drop]
structure LN (d:ByteArray) (x:Seg):Prop where
 pc:DK d x
 sr:x.chk=false→x.ser=0
 cl:x.AS=[]
theorem V4 {d:ByteArray} {l:List Span} (h:Ny l d.size) (hd:1≤d.size∧d.size≤65536):∀x∈DG d 0 l,LN d x∧x.chk=false:=by intro x hx;have hp:=Mr (ses:=0) h x hx;unfold DG at hx;obtain ⟨y,hy,hx⟩:=mem_flatMap.1 hx;obtain ⟨p,hpm,rfl⟩:=mem_map.1 hx;have h1:=h y hy;have h2:=Gr _ y.fro y.to (le_refl _) p hpm;exact ⟨⟨⟨X0 hp (by omega) hd,hp.kind,hp.ses_,hp.tot,fun i hi=>V6 (by omega) i hi⟩,fun _=>rfl,rfl⟩,rfl⟩
theorem WM {d:ByteArray} {x:Seg} {ser:Int} (h:LN d x) (hc:x.chk=false) (hr:1≤ser∧ser≤1099511627776):LN d {x with ser:=ser,chk:=true}:=by
 obtain ⟨⟨h1,h2,h3,h4,h5⟩,h6,h7⟩:=h;obtain ⟨k1,k2,k3⟩:=Em h1;refine ⟨⟨?_,h2,h3,h4,h5⟩,fun f=>(by cases f),h7⟩;have n:CN {x with ser:=ser,chk:=true}:=by unfold CN at k2 ⊢;have q:=k2.2.2.2 h2;exact ⟨k2.1,fun f=>absurd (h2.symm.trans f) (by decide),fun f=>absurd (h2.symm.trans f) (by decide),fun _=>⟨q.1,q.2.1,fun _=>hr,fun f=>by cases f⟩⟩
 have c:C6 {x with ser:=ser,chk:=true}:=by unfold C6 at k3 ⊢;exact ⟨fun f=>absurd (h2.symm.trans f) (by decide),fun f=>absurd (h2.symm.trans f) (by decide),fun _=>k3.2.2 h2⟩
 unfold C4;rw [if_neg (fun f=>f k1),if_neg (fun f=>f n),if_neg (fun f=>f c)]
structure HM (d:ByteArray) (ser:Int) (l:List Seg):Prop where
 ex:∃pre x,l=pre++[x]∧x.chk=true∧x.ser=ser∧∀y∈pre,y.chk=false
 pc:∀x∈l,LN d x
 len:(l.length:Int)≤d.size+1
theorem batP {ser:Int} {d:ByteArray} {l:List Span} (h:LI 0 ser d l=0):HM d ser (CZ 0 ser d l):=by
 have hb:=Ni h;have h0:=h;unfold LI at h0;split at h0
 ·cases h0
 split at h0
 ·cases h0
 split at h0
 ·cases h0
 split at h0
 ·cases h0
 split at h0
 ·cases h0
 rename_i k1 k2 k3 k4 k5;have k4:inside l d.size=true:=by simpa using k4
 obtain ⟨g1,g2⟩:=Ku k4;have hn:=U9 (ses:=0) g1 k5;obtain ⟨pre,x,hx⟩:∃pre x,DG d 0 l=pre++[x]:=⟨_,_,(List.dropLast_concat_getLast hn).symm⟩
 have hp:=V4 g1 (by omega);rw [hx] at hp;have e:CZ 0 ser d l=pre++[{x with ser:=ser,chk:=true}]:=by unfold CZ;rw [if_pos h,hx,F2]
 have hx2:=hp x (by simp);refine ⟨⟨pre,_,e,rfl,rfl,fun y hy=>(hp y (by simp [hy])).2⟩,?_,hb.len⟩;rw [e];intro y hy;rcases mem_append.1 hy with hy|hy
 ·exact (hp y (by simp [hy])).1
 ·rw [mem_singleton] at hy;subst hy;exact WM hx2.1 hx2.2 (by omega)
theorem HM.last {d:ByteArray} {ser:Int} {l:List Seg} (h:HM d ser l):HM d ser (BX l):=by obtain ⟨⟨pre,x,rfl,h1,h2,h3⟩,h4,h5⟩:=h;rw [E1];exact ⟨⟨[],x,rfl,h1,h2,fun y hy=>by cases hy⟩,fun y hy=>h4 y (by simp at hy;simp [hy]),by simp;omega⟩
theorem LN.Cp {d:ByteArray} {x:Seg} (h:LN d x) {r:Int} (hr:1≤r∧r≤1000):Cp r x=((x.data.size:Int)+7+r) / r∧1≤Cp r x:=by
 have h1:=h.pc.1;have h2:=h.pc.2.1;have e:Ab.Cp r x=((x.data.size:Int)+7+r) / r:=by unfold Ab.Cp;rw [if_pos ⟨h1,hr.1,hr.2,h2⟩]
 refine ⟨e,?_⟩;rw [e,Int.le_ediv_iff_mul_le (by omega)];omega
theorem Kr {r:Int}:∀(l:List Seg) (t:Int),(∀x∈l,1≤Cp r x)→
  (A1 r t l).Pairwise (fun a b=>a.at_<b.at_)∧(∀o∈A1 r t l,t<o.at_∧o.at_≤Ak r t l∧o.seg∈l)∧t+(l.length:Int)≤Ak r t l
 |[],t,h=>⟨List.Pairwise.nil,(fun o ho=>by cases ho),by simp [Ak]⟩
 |x::l,t,h=>by
  have hx:=h x (by simp);obtain ⟨h1,h2,h3⟩:=Kr l (t+Cp r x) (fun y hy=>h y (by simp [hy]));refine ⟨?_,?_,?_⟩
  ·simp only [A1,pairwise_cons];exact ⟨fun o ho=>(h2 o ho).1,h1⟩
  ·intro o ho;simp only [A1,mem_cons] at ho;have hE:=Hq r l (t+Cp r x);rcases ho with rfl|ho
   ·exact ⟨by simp only;omega,by simp only [Ak];omega,by simp⟩
   ·have:=h2 o ho;exact ⟨by omega,by simp only [Ak];omega,by simp [this.2.2]⟩
  ·simp only [Ak,length_cons];omega
end Ab
set_option linter.unusedVariables false
set_option linter.unusedSimpArgs false
namespace Ab
open Go
theorem Tr {l:List Span}:∀{b n:Int},Canon b l→b<n→(∀x∈l,x.to≤n)→2*(l.length:Int)≤n-b:=by
 induction l with
 |nil=>intro b n _ h _;simp;omega
 |cons x l ih=>
  intro b n h hb ht;have h1:=h.1;have h2:=h.2.1;have h3:=ht x (by simp);simp only [length_cons];by_cases he:x.to<n
  ·have:=ih h.2.2 he (fun y hy=>ht y (by simp [hy]));omega
  ·cases l with
   |nil=>simp;omega
   |cons y l=>
    have:=h.2.2.1;have:=h.2.2.2.1;have:=ht y (by simp);omega
theorem NY {l:List Span} {n:Int} (h:BG l=0) (hw:B9 l n) (hn:0≤n∧n≤120):l.length≤60:=by have hc:=((Aj _).1 h).2.1;have:=Tr (n:=n) (JK hc hw) (by omega) (fun x hx=>(hw x hx).2);omega
structure Par where
 c:Con
 b:Int
 e:Int
 d:ByteArray
 ps:List Int
 lim:Int
 dk:List Span
structure POk (p:Par):Prop where
 con:KF p.c=0
 t:p.c.start≤p.b∧p.b≤p.e∧p.e≤p.c.fin
 sz:1≤p.d.size∧p.d.size≤120
 pk:∀x∈p.ps,-9223372036854775808≤x∧x≤9223372036854775807
 pl:p.ps.length≤1000
 bud:∀k:Int,1≤k→p.b+1+(k-1)*(2*p.c.rng+1)≤p.e→(((p.d.size:Int)+1)*k+2*k≤4990∨(p.e-p.b)+2*k≤4990)
theorem POk.rng {p:Par} (h:POk p):1≤p.c.rng∧p.c.rng≤1048576∧1≤p.c.rate∧p.c.rate≤1000∧0≤p.b∧p.b≤p.e∧p.e≤1099511627776-2*p.c.rng∧0≤p.c.loss∧p.c.loss≤16:=by obtain ⟨c1,c2⟩:=Fi h.con;unfold IL at c1;have:=h.t;omega
structure I1 (d:ByteArray) (x:Seg):Prop where
 g:C4 x=0
 kind:x.kind=2
 ses:x.ses=0
 tot:x.tot=d.size
theorem I1.cl {d:ByteArray} {x:Seg} (h:I1 d x):BG x.AS=0∧B9 x.AS d.size:=by obtain ⟨k1,k2,k3⟩:=Em h.g;unfold C6 at k3;have hi:=(k3.2.1 h.kind).2.2;unfold inside at hi;have hi:=of_decide_eq_true hi;exact ⟨hi.1,h.tot ▸ (CJ hi.1).1 hi.2⟩
theorem I1.few {d:ByteArray} {x:Seg} (h:I1 d x) (hd:d.size≤120):x.AS.length≤60:=NY h.cl.1 h.cl.2 (by omega)
structure KN (p:Par) (s:Snd):Prop where
 c:s.c=p.c
 ses:s.ses=0
 data:s.data=p.d
 fin:s.fin=p.e
 ok:Gt s=0
 t:p.b+1+(s.ser-1)*(2*p.c.rng+1)≤s.busy
theorem KN.fo {p:Par} {s:Snd} (hp:POk p) (h:KN p s):FOk s∧s.acked.length≤60:=by have hf:=(LA h.ok).1;obtain ⟨c1,c2,c3⟩:=DQ hf;have hw:=(CJ c3.1).1 c3.2;have hsz:=hp.sz;have:=NY c3.1 hw (by rw [h.data];omega);exact ⟨⟨hf,by omega⟩,this⟩
theorem KN.num {p:Par} {s:Snd} (hp:POk p) (h:KN p s):p.c.start≤s.busy∧s.busy≤p.e∧1≤s.ser∧s.ser<1099511627776∧p.b+1≤s.busy∧(s.ser-1)≤s.busy-p.b-1:=by have hn:=(h.fo hp).1.num;have hr:=hp.rng;have ht:=h.t;have hc:=h.c;have hfin:=h.fin;rw [hc] at hn;have h0:(s.ser-1)*1≤(s.ser-1)*(2*p.c.rng+1):=Int.mul_le_mul_of_nonneg_left (by omega) (by omega);omega
structure Inv (p:Par) (s:Ses):Prop where
 rd:s.dat.rng=p.c.rng
 rr:s.rep.rng=p.c.rng
 ps:s.picks=p.ps
 lim:s.limit=p.lim
 dk:s.dark=p.dk
 gd:Bz s.dat
 gr:Bz s.rep
 now:0≤s.now
 sn:KN p s.snd
 rc:∃hl,Hd p.d s.rcv hl∧∀x∈hl,DK p.d x
 fd:∀f∈s.dat.frames,LN p.d f.seg∧f.seg.ser≤s.snd.ser∧s.now≤f.arr∧f.arr≤p.e+2*p.c.rng∧(f.seg.chk=true→f.seg.ser=s.snd.ser→s.snd.busy+p.c.rng≤f.arr)
 fr:∀f∈s.rep.frames,I1 p.d f.seg∧f.seg.ser≤s.snd.ser∧s.now≤f.arr∧f.arr≤p.e+4*p.c.rng∧(f.seg.ser=s.snd.ser→s.snd.busy+2*p.c.rng≤f.arr)
 pd:∀o∈s.pend,LN p.d o.seg∧s.now≤o.at_∧o.at_≤s.snd.busy∧o.seg.ser≤s.snd.ser∧(o.seg.chk=true→o.at_=s.snd.busy)
 po:s.pend.Pairwise (fun a b=>a.at_<b.at_)
 du:s.snd.st=1→s.now≤s.snd.due
 c1:s.entered=s.dat.sent+s.rep.sent
 c2:s.dat.sent=s.sent.length
 c3:s.rep.sent=s.told.length
 c4:(s.sent.length:Int)+s.pend.length≤s.snd.busy-p.b
 c5:(s.sent.length:Int)+s.pend.length≤((p.d.size:Int)+1)*s.snd.ser
 c6:(s.told.length:Int)+s.dat.frames.countP (fun f=>f.seg.chk)+2*s.pend.countP (fun o=>o.seg.chk)≤2*s.snd.ser
 l1:(s.dat.frames.length:Int)≤2*s.dat.sent
 l2:(s.rep.frames.length:Int)≤2*s.rep.sent
 ds:0≤s.dist∧s.dist≤s.entered
 kn:s.kno=true↔s.snd.st=2
 rv:s.rcvd=A7 s.rcv
def PGt (s:Ses):Prop:=∀o∈s.pend,s.now<o.at_
def DGt (s:Ses):Prop:=∀f∈s.dat.frames,s.now<f.arr
def RGt (s:Ses):Prop:=∀f∈s.rep.frames,s.now<f.arr
def UGt (s:Ses):Prop:=s.snd.st=1→s.now<s.snd.due
theorem Inv.bud {p:Par} {s:Ses} (hp:POk p) (h:Inv p s) {k:Nat} (hk:(k:Int)≤s.pend.length+s.dat.frames.countP (fun f=>f.seg.chk)) (hn:0<k→s.now≤1099511627776):Bud k s:=by
 have hs:=h.sn.num hp;have hb:=hp.bud s.snd.ser (by omega) (by have:=h.sn.t;omega);have:=h.c1;have:=h.c2;have:=h.c3;have:=h.c4;have:=h.c5;have:=h.c6;have:=h.l1;have:=h.l2;have:=h.gd.lost;have:=h.gr.lost;refine ⟨h.gd,h.gr,⟨h.now,hn⟩,by rw [h.ps];exact hp.pk,?_,?_,?_,?_,?_,?_,?_,?_,by rw [h.ps];exact hp.pl⟩
 ·refine ⟨by omega,?_⟩;rcases hb with hb|hb<;>omega
 all_goals have:=h.ds;omega
end Ab
set_option linter.unusedVariables false
set_option linter.unusedSimpArgs false
namespace Ab
open Go
theorem Ln {α:Type} (g:α→Bool) (b:α) (q:α→Bool):∀l:List α,(JA g b l).countP q=l.countP q+(if q b=true then 1 else 0)
 |[]=>by simp [JA,countP_cons]
 |x::l=>by
  unfold JA;split
  ·simp only [countP_cons]
  ·simp only [countP_cons,Ln g b q l];omega
theorem He (t num:Int) (x:Seg):∀(ds:List Int) (fs:List Frame),(Kn t num x ds fs).countP (fun f=>f.seg.chk)=fs.countP (fun f=>f.seg.chk)+(if x.chk=true then ds.length else 0)
 |[],fs=>by simp [Kn]
 |d::ds,fs=>by show (Kn t num x ds (Kv t num x fs d)).countP _=_;rw [He t num x ds];unfold Kv;rw [Ln];simp only [length_cons];split<;>omega
theorem Inv.del {p:Par} {s:Ses} (hp:POk p) (h:Inv p s):(∀d∈(B7 s p.c.rng).1,p.c.rng≤d∧d≤2*p.c.rng)∧(B7 s p.c.rng).1.length≤2∧s.dist≤(B7 s p.c.rng).2∧(B7 s p.c.rng).2≤s.dist+1:=QQ hp.rng.1
theorem Inv.tx {p:Par} {s:Ses} (hp:POk p) (h:Inv p s) {o:Out} {l:List Out} (hpd:s.pend=o::l) (ho:o.at_=s.now):Inv p {Cs s o.seg with pend:=l}:=by
 have hr:=hp.rng;have hn:=h.sn.num hp;obtain ⟨o1,o2,o3,o4,o5⟩:=h.pd o (by rw [hpd];simp);obtain ⟨d1,d2,d3,d4⟩:=h.del hp;have hb:=h.bud hp (k:=0+1) (by rw [hpd];simp;omega) (fun _=>by omega);have hB:=hb.Cs o.seg;have c1:=h.c1;have c2:=h.c2;have c3:=h.c3;have c4:=h.c4;have c5:=h.c5;have c6:=h.c6;have l1:=h.l1;have l2:=h.l2;have hds:=h.ds;rw [hpd] at c4 c5 c6;simp only [length_cons,countP_cons] at c4 c5 c6;have hrd:=h.rd;refine ⟨h.rd,h.rr,h.ps,h.lim,h.dk,hB.gd,hB.gr,h.now,h.sn,h.rc,fun f hf => ?_,h.fr,fun x hx=>h.pd x (by rw [hpd];simp [hx]),?_,h.du,?_,?_,h.c3,?_,?_,?_,?_,h.l2,?_,h.kn,h.rv⟩
 ·simp only [Cs,B4] at hf;rcases CY.1 hf with hf|⟨d,hd,rfl⟩
  ·exact h.fd f hf
  ·rw [hrd] at hd;have:=d1 d hd;refine ⟨o1,o4,?_,?_,fun hc hs => ?_⟩
   ·simp only [Cs];omega
   ·simp only;omega
   ·have:=o5 hc;simp only [Cs];omega
 ·have:=h.po;rw [hpd] at this;exact (pairwise_cons.1 this).2
 ·simp only [Cs,B4];omega
 ·simp only [Cs,B4,length_append,length_cons,length_nil];omega
 ·simp only [Cs,length_append,length_cons,length_nil];omega
 ·simp only [Cs,length_append,length_cons,length_nil];omega
 ·simp only [Cs,B4,He,hrd];split
  ·rename_i hc;rw [if_pos hc] at c6;omega
  ·rename_i hc;rw [if_neg hc] at c6;omega
 ·simp only [Cs,B4,GL,hrd];omega
 ·simp only [Cs,hrd];omega
theorem Inv.VL {p:Par} {s:Ses} (hp:POk p) (h:Inv p s) {x:Seg} (hx:LN p.d x):Ei s.rcv x=(C1 s.rcv x,if x.chk=true then [B3 s.rcv x] else [],0)∧(∃hl,Hd p.d (C1 s.rcv x) hl∧∀y∈hl,DK p.d y)∧(x.chk=true→I1 p.d (B3 s.rcv x))∧(∀t,AM t (C1 s.rcv x).known↔AM t s.rcv.known∨(x.off≤t∧t<x.off+x.data.size))∧(A7 s.rcv=true→A7 (C1 s.rcv x)=true)∧(B3 s.rcv x).AS=(C1 s.rcv x).known:=by
 obtain ⟨hl,h1,h2⟩:=h.rc;have hsz:=hp.sz;have hs:=MV h1 h2 hx.pc (by omega);have he:=st_hear h1 h2 hx.pc (by omega);refine ⟨he,⟨hl++[x],st_next h1 h2 hx.pc (by omega),fun y hy => ?_⟩,fun hc=>⟨SN h1.ok hx.pc.1 hs hc,rfl,h1.ses,hx.pc.2.2.2.1⟩,Jz hs,fun hc => ?_,rfl⟩
 ·rcases mem_append.1 hy with hy|hy
  ·exact h2 y hy
  ·rw [mem_singleton] at hy;subst hy;exact hx.pc
 ·have:=NC h1.ok hx.pc.1 hc;rw [he] at this;exact this
theorem Uk {p:Par} {s:Ses} (h:Inv p {s with rcvd:=A7 s.rcv}) (hr:s.rcvd=true→A7 s.rcv=true):Inv p (rxF s):=by
 unfold rxF;split
 ·rename_i hc;rw [hc.2] at h;exact {h with}
 ·rename_i hc;have e:s.rcvd=A7 s.rcv:=by
   cases h1:s.rcvd with
   |true=>exact (hr h1).symm
   |false=>
    cases h2:A7 s.rcv with
    |false=>rfl
    |true=>exact (hc ⟨h1,h2⟩).elim
  rw [← e] at h;exact h
theorem Inv.rx {p:Par} {s:Ses} (hp:POk p) (h:Inv p s) {f:Frame} {l:List Frame} (hf:s.dat.frames=f::l) (ha:f.arr=s.now):Inv p (rxX (BF s) f.seg):=by
 have hr:=hp.rng;have hn:=h.sn.num hp;obtain ⟨f1,f2,f3,f4,f5⟩:=h.fd f (by rw [hf];simp);obtain ⟨e1,e2,e3,e4,e5,e6⟩:=h.VL hp f1;have c1:=h.c1;have c2:=h.c2;have c3:=h.c3;have c4:=h.c4;have c5:=h.c5;have c6:=h.c6;have l1:=h.l1;have l2:=h.l2;have hds:=h.ds;have hrr:=h.rr;have hpop:(BF s).rcv=s.rcv:=rfl;unfold rxX rxH;rw [hpop,e1];simp only;have hfr:s.dat.frames.tail=l:=by rw [hf];rfl
 rw [hf] at c6 l1;simp only [length_cons,countP_cons] at c6 l1;by_cases hc:f.seg.chk=true
 ·rw [if_pos hc];simp only [foldl_cons,List.foldl_nil];rw [if_pos hc] at c6;have hrep:=e3 hc;have hb:=h.bud hp (k:=0+1) (by rw [hf];simp only [countP_cons,hc,if_true];omega) (fun _=>by omega);have hb2:Bud (0+1) {BF s with rcv:=C1 s.rcv f.seg}:=hb.BF.of rfl rfl rfl rfl rfl rfl rfl rfl;have hB:=hb2.Cv (B3 s.rcv f.seg);obtain ⟨d1,d2,d3,d4⟩:=QQ (s:={BF s with rcv:=C1 s.rcv f.seg}) (R:=p.c.rng) hr.1;refine Uk ⟨h.rd,h.rr,h.ps,h.lim,h.dk,hB.gd,hB.gr,h.now,h.sn,e2,fun x hx=>h.fd x (by rw [hf];simp only [Cv,BF,hfr] at hx;simp [hx]),fun x hx => ?_,h.pd,h.po,h.du,?_,h.c2,?_,h.c4,h.c5,?_,?_,?_,?_,h.kn,rfl⟩ (fun hq=>e5 (by rw [← h.rv];exact hq))
  ·simp only [Cv,B4,BF] at hx;rcases CY.1 hx with hx|⟨d,hd,rfl⟩
   ·exact h.fr x hx
   ·have:=d1 d (by simpa only [BF,hrr] using hd);have hser:(B3 s.rcv f.seg).ser=f.seg.ser:=rfl;refine ⟨hrep,by rw [hser];exact f2,?_,?_,fun hs => ?_⟩
    ·simp only [Cv,BF];omega
    ·simp only;omega
    ·have:=f5 hc (by rw [← hser];exact hs);simp only [Cv,BF];omega
  ·simp only [Cv,B4,BF];omega
  ·simp only [Cv,B4,BF,length_append,length_cons,length_nil];omega
  ·simp only [Cv,B4,BF,hfr,length_append,length_cons,length_nil];omega
  ·simp only [Cv,BF,hfr];omega
  ·simp only [Cv,B4,BF,GL,hrr];simp only [BF] at d2;omega
  ·simp only [Cv,BF,hrr];simp only [BF] at d3 d4;omega
 ·rw [if_neg hc];simp only [List.foldl_nil];rw [if_neg hc] at c6;refine Uk ⟨h.rd,h.rr,h.ps,h.lim,h.dk,Ej h.gd,h.gr,h.now,h.sn,e2,fun x hx=>h.fd x (by rw [hf];simp only [BF,hfr] at hx;simp [hx]),h.fr,h.pd,h.po,h.du,h.c1,h.c2,h.c3,h.c4,h.c5,?_,?_,h.l2,h.ds,h.kn,rfl⟩ (fun hq=>e5 (by rw [← h.rv];exact hq))
  ·simp only [BF,hfr];omega
  ·simp only [BF,hfr];omega
end Ab
set_option linter.unusedVariables false
set_option linter.unusedSimpArgs false
namespace Ab
open Go
structure L0 (p:Par) (s q:Snd):Prop where
 fo:FOk q
 c:q.c=p.c
 ses:q.ses=0
 data:q.data=p.d
 fin:q.fin=p.e
 ser:q.ser=s.ser
 busy:q.busy=s.busy
theorem KN.ack {p:Par} {s:Snd} {x:Seg} (hp:POk p) (h:KN p s) (hx:I1 p.d x):L0 p s (A6 s x)∧(∀t,AM t (A6 s x).acked↔AM t s.acked∨AM t x.AS):=by obtain ⟨h1,h2⟩:=h.fo hp;have hd:=hp.sz;have hf:=hx.few hd.2;have hk:=Vf h1 (by omega) ⟨hx.g,by omega⟩ hx.kind (by rw [hx.tot,h.data]);have hw:=h1.win;rw [h.data] at hw;obtain ⟨u1,u2,u3⟩:=W3 h1.ack hx.cl.1 hw hx.cl.2 (by omega) (by omega);exact ⟨⟨hk,h.c,h.ses,h.data,h.fin,rfl,rfl⟩,u3⟩
theorem L0.bat {p:Par} {s q:Snd} (hp:POk p) (h:KN p s) (hq:L0 p s q) (hc:complete q=false):HM p.d (s.ser+1) (Ac q):=by have hn:=h.num hp;have hb:=hq.fo.bat hc (by rw [hq.ser];omega);unfold Ac;rw [hq.ses,hq.data,hq.ser] at *;exact batP hb
theorem L0.send {p:Par} {s q:Snd} {l:List Seg} {t:Int} (hp:POk p) (h:KN p s) (hq:L0 p s q) (hc:complete q=false) (hl:HM p.d (s.ser+1) l) :
  (p.e<Ak p.c.rate t l∧CO q t l=(DY q,[]))∨(Ak p.c.rate t l≤p.e∧CO q t l=(A9 q (Ak p.c.rate t l) (s.ser+1),A1 p.c.rate t l)):=by
 have hn:=h.num hp;obtain ⟨pre,x,e,h1,h2,h3⟩:=hl.ex;have hlast:l.getLast? = some x:=by rw [e];exact getLast?_concat ..
 unfold CO;rw [hlast];simp only;rw [hq.fin,hq.c,h2];by_cases hb:p.e<Ak p.c.rate t l
 ·exact .inl ⟨hb,by rw [if_pos (.inl hb)]⟩
 ·exact .inr ⟨by omega,by rw [if_neg (by omega)]⟩
inductive LsR (p:Par) (s:Ses) (x:Seg):Ses→Prop
 |busy:s.now<s.snd.busy→LsR p s x s
 |same:¬s.now<s.snd.busy→s.snd.st≠1∨x.ser≠s.snd.ser→LsR p s x s
 |done:¬s.now<s.snd.busy→s.snd.st=1→x.ser=s.snd.ser→complete (A6 s.snd x)=true→LsR p s x {s with snd:={A6 s.snd x with due:=0,st:=2},kno:=true,knoAt:=s.now}
 |fail:¬s.now<s.snd.busy→s.snd.st=1→x.ser=s.snd.ser→complete (A6 s.snd x)=false→p.e<Ak p.c.rate s.now (Ac (A6 s.snd x))→LsR p s x {s with snd:=DY (A6 s.snd x)}
 |send:¬s.now<s.snd.busy→s.snd.st=1→x.ser=s.snd.ser→complete (A6 s.snd x)=false→Ak p.c.rate s.now (Ac (A6 s.snd x))≤p.e→
   LsR p s x {s with snd:=A9 (A6 s.snd x) (Ak p.c.rate s.now (Ac (A6 s.snd x))) (s.snd.ser+1),pend:=A1 p.c.rate s.now (Ac (A6 s.snd x))}
theorem KN.BU {p:Par} {s:Snd} {x:Seg} {t:Int} (hp:POk p) (h:KN p s) (hx:I1 p.d x) (ht:s.busy≤t∧t≤2199023255552) :
  ((s.st≠1∨x.ser≠s.ser)→BU s t x=(s,[],0))∧(s.st=1→x.ser=s.ser→complete (A6 s x)=true→BU s t x=({A6 s x with due:=0,st:=2},[],0))∧
  (s.st=1→x.ser=s.ser→complete (A6 s x)=false→BU s t x=((CO (A6 s x) t (Ac (A6 s x))).1,(CO (A6 s x) t (Ac (A6 s x))).2,0)):=by
 have hk:=hx.kind;have hses:x.ses=s.ses:=by rw [hx.ses,h.ses]
 have htot:x.tot=s.data.size:=by rw [hx.tot,h.data]
 have hg:=hx.g;have hok:=h.ok;refine ⟨fun hq => ?_,fun h1 h2 h3 => ?_,fun h1 h2 h3 => ?_⟩
 ·unfold Ab.BU;rw [if_neg (by omega),if_neg (by omega)];rcases hq with hq|hq
  ·rw [if_pos (.inl hq)]
  ·by_cases hst:s.st=1
   ·rw [if_neg (by omega),if_neg (by omega)];unfold Hb;rw [if_pos (.inl hq)]
   ·rw [if_pos (.inl hst)]
 ·unfold Ab.BU;rw [if_neg (by omega),if_neg (by omega),if_neg (by omega),if_neg (by omega)];unfold Hb;rw [if_neg (by omega),if_pos h3]
 ·unfold Ab.BU;rw [if_neg (by omega),if_neg (by omega),if_neg (by omega),if_neg (by omega)];unfold Hb;rw [if_neg (by omega),if_neg (by rw [h3];simp)]
theorem DM {p:Par} {s:Ses} (h:Inv p s) (hg:PGt s) (hb:¬s.now<s.snd.busy):s.pend=[]:=by
 cases hp:s.pend with
 |nil=>rfl
 |cons o l=>
  have h1:=h.pd o (by rw [hp];simp);have h2:=hg o (by rw [hp];simp);omega
theorem Inv.lsR {p:Par} {s:Ses} (hp:POk p) (h:Inv p s) (hg:PGt s) {f:Frame} {l:List Frame} (hf:s.rep.frames=f::l) (ha:f.arr=s.now) :
  LsR p (BT s) f.seg (lsX (BT s) f.seg)∧(¬s.now<s.snd.busy→(BU s.snd s.now f.seg).2.2=0∧(BU s.snd s.now f.seg).2.1.length≤1000000):=by
 have hr:=hp.rng;obtain ⟨f1,f2,f3,f4,f5⟩:=h.fr f (by rw [hf];simp);by_cases hb:s.now<s.snd.busy
 ·refine ⟨?_,fun q=>(q hb).elim⟩;have e:lsX (BT s) f.seg=BT s:=if_pos hb;rw [e];exact .busy hb
 ·have hpn:=DM h hg hb;obtain ⟨k1,k2,k3⟩:=h.sn.BU hp f1 (t:=s.now) (by omega);have e:lsX (BT s) f.seg=lsF {BT s with snd:=(BU s.snd s.now f.seg).1,pend:=s.pend++(BU s.snd s.now f.seg).2.1}:=if_neg hb;rw [e,hpn];by_cases hq:s.snd.st≠1∨f.seg.ser≠s.snd.ser
  ·rw [k1 hq];refine ⟨?_,fun _=>⟨rfl,by simp⟩⟩;have e2:lsF {BT s with snd:=s.snd,pend:=[]++[]}=BT s:=by
    unfold lsF;rw [if_neg]
    ·simp only [BT,hpn,append_nil]
    ·rintro ⟨q1,q2⟩
     have:=h.kn.2 q2;rw [show (BT s).kno=s.kno from rfl] at q1;rw [q1] at this;cases this
   simp only;rw [e2];exact .same hb hq
  ·have hst:s.snd.st=1:=by omega
   have hser:f.seg.ser=s.snd.ser:=by omega
   have hk:s.kno=false:=by
    cases hkk:s.kno with
    |false=>rfl
    |true=>have:=h.kn.1 hkk;omega
   cases hc:complete (A6 s.snd f.seg) with
   |true=>
    rw [k2 hst hser hc];refine ⟨?_,fun _=>⟨rfl,by simp⟩⟩;have e2:lsF {BT s with snd:={A6 s.snd f.seg with due:=0,st:=2},pend:=[]++[]}={BT s with snd:={A6 s.snd f.seg with due:=0,st:=2},kno:=true,knoAt:=s.now}:=by unfold lsF;rw [if_pos ⟨hk,rfl⟩];simp only [BT,hpn,append_nil]
    simp only;rw [e2];exact .done hb hst hser hc
   |false=>
    rw [k3 hst hser hc];obtain ⟨hQ,_⟩:=h.sn.ack hp f1;have hB:=hQ.bat hp h.sn hc;have hlen:=hB.len;have hsz:=hp.sz;rcases hQ.send (t:=s.now) hp h.sn hc hB with ⟨g1,g2⟩|⟨g1,g2⟩
    ·rw [g2];refine ⟨?_,fun _=>⟨rfl,by simp⟩⟩;have e2:lsF {BT s with snd:=DY (A6 s.snd f.seg),pend:=[]++[]}={BT s with snd:=DY (A6 s.snd f.seg)}:=by unfold lsF;rw [if_neg (by simp [DY])];simp only [BT,hpn,append_nil]
     simp only;rw [e2];exact .fail hb hst hser hc g1
    ·rw [g2];refine ⟨?_,fun _=>⟨rfl,by simp only [CT];omega⟩⟩;have e2:lsF {BT s with snd:=A9 (A6 s.snd f.seg) (Ak p.c.rate s.now (Ac (A6 s.snd f.seg))) (s.snd.ser+1),pend:=[]++A1 p.c.rate s.now (Ac (A6 s.snd f.seg))}={BT s with snd:=A9 (A6 s.snd f.seg) (Ak p.c.rate s.now (Ac (A6 s.snd f.seg))) (s.snd.ser+1),pend:=A1 p.c.rate s.now (Ac (A6 s.snd f.seg))}:=by unfold lsF;rw [if_neg (by simp [A9]),nil_append]
     simp only;rw [e2];exact .send hb hst hser hc g1
end Ab
set_option linter.unusedVariables false
set_option linter.unusedSimpArgs false
namespace Ab
open Go
theorem HM.outs {d:ByteArray} {ser r t:Int} {l:List Seg} (h:HM d ser l) (hr:1≤r∧r≤1000) (hs:0≤ser) :
  (A1 r t l).Pairwise (fun a b=>a.at_<b.at_)∧(∀o∈A1 r t l,LN d o.seg∧t<o.at_∧o.at_≤Ak r t l∧o.seg.ser≤ser∧(o.seg.chk=true→o.at_=Ak r t l∧o.seg.ser=ser))∧t+(l.length:Int)≤Ak r t l∧(A1 r t l).countP (fun o=>o.seg.chk)=1∧1≤l.length:=by
 obtain ⟨h1,h2,h3⟩:=Kr (r:=r) l t (fun x hx=>((h.pc x hx).Cp hr).2);obtain ⟨pre,x,e,e1,e2,e3⟩:=h.ex;have hc:∀o∈A1 r t pre,o.seg.chk=false:=fun o ho=>by have:o.seg∈(A1 r t pre).map Out.seg:=mem_map_of_mem ho;rw [Fc] at this;exact e3 _ this
 refine ⟨h1,fun o ho => ?_,h3,?_,by rw [e];simp⟩
 ·obtain ⟨k1,k2,k3⟩:=h2 o ho;have hsp:=h.pc _ k3;rw [e,EB] at ho;rcases mem_append.1 ho with ho|ho
  ·have:=hc o ho;refine ⟨hsp,k1,k2,?_,fun q=>by rw [this] at q;cases q⟩;rw [hsp.sr this];exact hs
  ·rw [mem_singleton] at ho;subst ho;refine ⟨hsp,k1,k2,by simp only;omega,fun _=>⟨by rw [e],e2⟩⟩
 ·rw [e,EB,List.countP_append,List.countP_eq_zero.2 (fun o ho=>by rw [hc o ho];simp)];simp [e1]
theorem Inv.BT {p:Par} {s:Ses} (h:Inv p s):Inv p (BT s):=
 {h with
  gr:=Ej h.gr
  fr:=fun f hf=>h.fr f (List.mem_of_mem_tail hf)
  l2:=by have:=h.l2;simp only [Ab.BT,length_tail];omega}
theorem Inv.send {p:Par} {s:Ses} (hp:POk p) (h:Inv p s) {q:Snd} {l:List Seg} (hpn:s.pend=[]) (hq:L0 p s.snd q) (hc:complete q=false) (hl:HM p.d (s.snd.ser+1) l) (hst:s.snd.st=1) (hnow:s.snd.busy+2*p.c.rng≤s.now) (he:Ak p.c.rate s.now l≤p.e) :
  Inv p {s with snd:=A9 q (Ak p.c.rate s.now l) (s.snd.ser+1),pend:=A1 p.c.rate s.now l}:=by
 have hr:=hp.rng;have hn:=h.sn.num hp;obtain ⟨o1,o2,o3,o4,o5⟩:=hl.outs (t:=s.now) ⟨hr.2.2.1,hr.2.2.2.1⟩ (by omega);have hsz:=hp.sz;have hlen:=hl.len;have c4:=h.c4;have c5:=h.c5;have c6:=h.c6;rw [hpn] at c4 c5 c6;simp only [length_nil,List.countP_nil,natCast_zero,Int.add_zero,Int.mul_zero] at c4 c5 c6;have ht:=h.sn.t;have hcs:=hp.t;have hm1:(s.snd.ser+1-1)*(2*p.c.rng+1)=(s.snd.ser-1)*(2*p.c.rng+1)+(2*p.c.rng+1):=by rw [show s.snd.ser+1-1=(s.snd.ser-1)+1 by omega,Int.add_mul,Int.one_mul]
 have hm2:((p.d.size:Int)+1)*(s.snd.ser+1)=((p.d.size:Int)+1)*s.snd.ser+((p.d.size:Int)+1):=by rw [Int.mul_add,Int.mul_one]
 have hk:s.kno=false:=by
  cases hkk:s.kno with
  |false=>rfl
  |true=>have:=h.kn.1 hkk;omega
 have hqf:=hq.fo.f;have hok:Gt (A9 q (Ak p.c.rate s.now l) (s.snd.ser+1))=0:=Ue hqf hc (by rw [hq.c,hq.fin];omega) (by omega);refine ⟨h.rd,h.rr,h.ps,h.lim,h.dk,h.gd,h.gr,h.now,⟨hq.c,hq.ses,hq.data,hq.fin,hok,?_⟩,h.rc,fun f hf => ?_,fun f hf => ?_,fun o ho => ?_,o1,fun _ => ?_,h.c1,h.c2,h.c3,?_,?_,?_,h.l1,h.l2,h.ds,?_,h.rv⟩
 ·simp only [A9];omega
 ·obtain ⟨f1,f2,f3,f4,f5⟩:=h.fd f hf;exact ⟨f1,by simp only [A9];omega,f3,f4,fun _ hs=>by simp only [A9] at hs;omega⟩
 ·obtain ⟨f1,f2,f3,f4,f5⟩:=h.fr f hf;exact ⟨f1,by simp only [A9];omega,f3,f4,fun hs=>by simp only [A9] at hs;omega⟩
 ·obtain ⟨k1,k2,k3,k4,k5⟩:=o2 o ho;exact ⟨k1,by simp only;omega,by simp only [A9];omega,by simp only [A9];omega,fun hcc=>(k5 hcc).1⟩
 ·simp only [A9,hq.c];omega
 ·simp only [A9,CT];omega
 ·simp only [A9,CT];omega
 ·simp only [A9,o4];omega
 ·simp only [A9,hk];simp
theorem Inv.turn {p:Par} {s:Ses} (h:Inv p s) {q:Snd} (hq:L0 p s.snd q) (st due:Int) (hst:st≠1) (hok:Gt {q with due:=due,st:=st}=0) (kno:Bool) (t:Int) (hk:kno=true↔st=2) :
  Inv p {s with snd:={q with due:=due,st:=st},kno:=kno,knoAt:=t}:=by
 refine ⟨h.rd,h.rr,h.ps,h.lim,h.dk,h.gd,h.gr,h.now,⟨hq.c,hq.ses,hq.data,hq.fin,hok,?_⟩,h.rc,fun f hf => ?_,fun f hf => ?_,fun o ho => ?_,h.po,fun q=>(hst q).elim,h.c1,h.c2,h.c3,?_,?_,?_,h.l1,h.l2,h.ds,hk,h.rv⟩
 ·simp only [hq.ser,hq.busy];exact h.sn.t
 ·simp only [hq.ser,hq.busy];exact h.fd f hf
 ·simp only [hq.ser,hq.busy];exact h.fr f hf
 ·simp only [hq.ser,hq.busy];exact h.pd o ho
 ·simp only [hq.busy];exact h.c4
 ·simp only [hq.ser];exact h.c5
 ·simp only [hq.ser];exact h.c6
theorem Inv.ls {p:Par} {s s':Ses} (hp:POk p) (h:Inv p s) (hg:PGt s) {f:Frame} {l:List Frame} (hf:s.rep.frames=f::l) (ha:f.arr=s.now) (hs:LsR p (Ab.BT s) f.seg s'):Inv p s':=by
 have hI:=h.BT;obtain ⟨f1,f2,f3,f4,f5⟩:=h.fr f (by rw [hf];simp);obtain ⟨hQ,_⟩:=h.sn.ack hp f1;have hkf:s.snd.st=1→s.kno=false:=fun q=>by
  cases hkk:s.kno with
  |false=>rfl
  |true=>have:=h.kn.1 hkk;omega
 cases hs with
 |busy _=>exact hI
 |same _ _=>exact hI
 |done h1 h2 h3 h4=>exact hI.turn hQ 2 0 (by decide) (done_ok hQ.fo.f h4) true s.now (by simp)
 |fail h1 h2 h3 h4 h5=>
  have:=hI.turn hQ 3 0 (by decide) (VZ hQ.fo.f) s.kno s.knoAt (by rw [hkf h2];simp);exact this
 |send h1 h2 h3 h4 h5=>
  have hb:=f5 h3;have hpn0:=DM (s:=s) h hg h1;have hpn:(Ab.BT s).pend=[]:=hpn0;exact hI.send hp hpn hQ h4 (hQ.bat hp h.sn h4) h2 (by show s.snd.busy+2*p.c.rng≤s.now;omega) h5
inductive ExR (p:Par) (s:Ses):Ses→Prop
 |same:¬(s.snd.st=1∧s.snd.due=s.now)→ExR p s s
 |fail:s.snd.st=1→s.snd.due=s.now→p.e<Ak p.c.rate s.now (BX (Ac s.snd))→ExR p s {s with snd:=DY s.snd}
 |send:s.snd.st=1→s.snd.due=s.now→complete s.snd=false→Ak p.c.rate s.now (BX (Ac s.snd))≤p.e→
   ExR p s {s with snd:=A9 s.snd (Ak p.c.rate s.now (BX (Ac s.snd))) (s.snd.ser+1),pend:=A1 p.c.rate s.now (BX (Ac s.snd))}
theorem KN.q {p:Par} {s:Snd} (hp:POk p) (h:KN p s):L0 p s s:=⟨(h.fo hp).1,h.c,h.ses,h.data,h.fin,rfl,rfl⟩
theorem Inv.due {p:Par} {s:Ses} (h:Inv p s) (h1:s.snd.st=1):complete s.snd=false∧s.snd.due=s.snd.busy+2*p.c.rng+1:=by have:=O3 h.sn.ok h1;rw [h.sn.c] at this;exact this
theorem Inv.exR {p:Par} {s:Ses} (hp:POk p) (h:Inv p s) (hg:PGt s):ExR p s (exS s)∧(s.snd.st=1→s.snd.due=s.now→(Co s.snd s.now).2.2=0∧(Co s.snd s.now).2.1.length≤1000000):=by
 by_cases hq:s.snd.st=1∧s.snd.due=s.now
 ·obtain ⟨h1,h2⟩:=hq;obtain ⟨d1,d2⟩:=h.due h1;have hr:=hp.rng;have hn:=h.sn.num hp;have hsz:=hp.sz;have hpn:=DM h hg (by omega);have hQ:=h.sn.q hp;have hB:=(hQ.bat hp h.sn d1).last;have hw:Co s.snd s.now=((CO s.snd s.now (BX (Ac s.snd))).1,(CO s.snd s.now (BX (Ac s.snd))).2,0):=by unfold Co;rw [if_neg (by have:=h.sn.ok;omega),if_neg (by omega),if_neg (by omega)]
  have e:exS s={s with snd:=(Co s.snd s.now).1,pend:=s.pend++(Co s.snd s.now).2.1}:=if_pos ⟨h1,h2⟩;have hlen:=hB.len;rw [e,hw,hpn];rcases hQ.send (t:=s.now) hp h.sn d1 hB with ⟨g1,g2⟩|⟨g1,g2⟩
  ·rw [g2];refine ⟨?_,fun _ _=>⟨rfl,by simp⟩⟩;have e2:{s with snd:=DY s.snd,pend:=[]++[]}={s with snd:=DY s.snd}:=by simp only [hpn,append_nil]
   simp only;rw [e2];exact .fail h1 h2 g1
  ·rw [g2];refine ⟨?_,fun _ _=>⟨rfl,by simp only [CT];omega⟩⟩;simp only [nil_append];exact .send h1 h2 d1 g1
 ·have e:exS s=s:=if_neg hq;rw [e];exact ⟨.same hq,fun a b=>(hq ⟨a,b⟩).elim⟩
theorem Inv.ex {p:Par} {s s':Ses} (hp:POk p) (h:Inv p s) (hg:PGt s) (hs:ExR p s s'):Inv p s':=by
 have hQ:=h.sn.q hp;have hkf:s.snd.st=1→s.kno=false:=fun q=>by
  cases hkk:s.kno with
  |false=>rfl
  |true=>have:=h.kn.1 hkk;omega
 cases hs with
 |same _=>exact h
 |fail h1 h2 h3=>
  have:=h.turn hQ 3 0 (by decide) (VZ hQ.fo.f) s.kno s.knoAt (by rw [hkf h1];simp);exact this
 |send h1 h2 h3 h4=>
  obtain ⟨d1,d2⟩:=h.due h1;have hr:=hp.rng;exact h.send hp (DM h hg (by omega)) hQ h3 (hQ.bat hp h.sn h3).last h1 (by omega) h4
end Ab
set_option linter.unusedVariables false
set_option linter.unusedSimpArgs false
namespace Ab
open Go
inductive Mic (p:Par):Ses→Ses→Prop
 |time (s:Ses) (t:Int):Inv p s→PGt s→DGt s→RGt s→UGt s→nxS s=some t→Mic p s {s with now:=t}
 |tx (s:Ses) (o:Out) (l:List Out):Inv p s→s.pend=o::l→o.at_=s.now→Mic p s {Cs s o.seg with pend:=l}
 |rx (s:Ses) (f:Frame) (l:List Frame):Inv p s→PGt s→s.dat.frames=f::l→f.arr=s.now→Mic p s (rxX (BF s) f.seg)
 |ls (s s':Ses) (f:Frame) (l:List Frame):Inv p s→PGt s→DGt s→s.rep.frames=f::l→f.arr=s.now→LsR p (BT s) f.seg s'→Mic p s s'
 |ex (s s':Ses):Inv p s→PGt s→DGt s→RGt s→ExR p s s'→Mic p s s'
inductive Reach (p:Par) (s:Ses):Ses→Prop
 |refl:Reach p s s
 |step {t u:Ses}:Reach p s t→Mic p t u→Reach p s u
theorem Reach.trans {p:Par} {a b c:Ses} (h:Reach p a b) (k:Reach p b c):Reach p a c:=by
 induction k with
 |refl=>exact h
 |step _ m ih=>exact ih.step m
theorem Reach.one {p:Par} {a b:Ses} (m:Mic p a b):Reach p a b:=Reach.refl.step m
theorem J1 {a b:Option Int} {t:Int} (h:CH a b=some t):(∀x,a=some x→t≤x)∧(∀x,b=some x→t≤x)∧(a=some t∨b=some t):=by
 cases a with
 |none=>
  simp only [CH] at h;subst h;exact ⟨fun x hx=>(by cases hx),fun x hx=>(by cases hx;omega),.inr rfl⟩
 |some a=>
  cases b with
  |none=>
   simp only [CH] at h;cases h;exact ⟨fun x hx=>(by cases hx;omega),fun x hx=>(by cases hx),.inl rfl⟩
  |some b=>
   simp only [CH,Option.some.injEq] at h;split at h
   ·subst h;exact ⟨fun x hx=>(by cases hx;omega),fun x hx=>(by cases hx;omega),.inr rfl⟩
   ·subst h;exact ⟨fun x hx=>(by cases hx;omega),fun x hx=>(by cases hx;omega),.inl rfl⟩
theorem Fe {a b:Option Int} (h:CH a b=none):a=none∧b=none:=by
 cases a with
 |none=>cases b with
  |none=>exact ⟨rfl,rfl⟩
  |some b=>simp [CH] at h
 |some a=>cases b<;>simp [CH] at h
theorem YB {p:Par} {s:Ses} {t:Int} (h:Inv p s) (ht:nxS s=some t) :
  (∀o∈s.pend,t≤o.at_)∧(∀f∈s.dat.frames,t≤f.arr)∧(∀f∈s.rep.frames,t≤f.arr)∧(s.snd.st=1→t≤s.snd.due)∧
  ((∃o∈s.pend,o.at_=t)∨(∃f∈s.dat.frames,f.arr=t)∨(∃f∈s.rep.frames,f.arr=t)∨(s.snd.st=1∧s.snd.due=t)):=by
 unfold nxS at ht;obtain ⟨a1,a2,a3⟩:=J1 ht;have hp:∀x,s.pend.head?.map (·.at_)=some x→(∀o∈s.pend,x≤o.at_)∧∃o∈s.pend,o.at_=x:=by
  intro x hx;have hs:=h.po;cases hpd:s.pend with
  |nil=>rw [hpd] at hx;cases hx
  |cons o l=>
   rw [hpd] at hx hs;simp only [head?_cons,map_some,Option.some.injEq] at hx;subst hx;rw [pairwise_cons] at hs;refine ⟨fun y hy => ?_,o,by simp,rfl⟩;rcases mem_cons.1 hy with rfl|hy
   ·omega
   ·have:=hs.1 y hy;omega
 have hc:∀(c:BY) x,c.frames.Pairwise (fun a b=>a.arr≤b.arr)→Ay c=some x→(∀f∈c.frames,x≤f.arr)∧∃f∈c.frames,f.arr=x:=by
  intro c x hs hx;unfold Ay at hx;cases hpd:c.frames with
  |nil=>rw [hpd] at hx;cases hx
  |cons o l=>
   rw [hpd] at hx hs;simp only [head?_cons,map_some,Option.some.injEq] at hx;subst hx;rw [pairwise_cons] at hs;refine ⟨fun y hy => ?_,o,by simp,rfl⟩;rcases mem_cons.1 hy with rfl|hy
   ·omega
   ·exact hs.1 y hy
 have key:∀{a b:Option Int} {t:Int},CH a b=some t→(∀x,a=some x→t≤x)∧(∀x,b=some x→t≤x):=fun h=>⟨(J1 h).1,(J1 h).2.1⟩
 have h3:∀x,CH (CH (s.pend.head?.map (·.at_)) (Ay s.dat)) (Ay s.rep)=some x→(∀o∈s.pend,x≤o.at_)∧(∀f∈s.dat.frames,x≤f.arr)∧(∀f∈s.rep.frames,x≤f.arr)∧((∃o∈s.pend,o.at_=x)∨(∃f∈s.dat.frames,f.arr=x)∨∃f∈s.rep.frames,f.arr=x):=by
  intro x hx;obtain ⟨b1,b2,b3⟩:=J1 hx;have hr:∀f∈s.rep.frames,x≤f.arr:=by
   intro f hf;cases hn:Ay s.rep with
   |none=>
    unfold Ay at hn;cases hff:s.rep.frames with
    |nil=>rw [hff] at hf;cases hf
    |cons a l=>rw [hff] at hn;cases hn
   |some y=>have:=(hc s.rep y h.gr.srt hn).1 f hf;have:=b2 y hn;omega
  have h2:∀y,CH (s.pend.head?.map (·.at_)) (Ay s.dat)=some y→(∀o∈s.pend,y≤o.at_)∧(∀f∈s.dat.frames,y≤f.arr)∧((∃o∈s.pend,o.at_=y)∨∃f∈s.dat.frames,f.arr=y):=by
   intro y hy;obtain ⟨d1,d2,d3⟩:=J1 hy;refine ⟨fun o ho => ?_,fun f hf => ?_,?_⟩
   ·cases hn:s.pend.head?.map (·.at_) with
    |none=>
     cases hff:s.pend with
     |nil=>rw [hff] at ho;cases ho
     |cons a l=>rw [hff] at hn;cases hn
    |some z=>have:=(hp z hn).1 o ho;have:=d1 z hn;omega
   ·cases hn:Ay s.dat with
    |none=>
     unfold Ay at hn;cases hff:s.dat.frames with
     |nil=>rw [hff] at hf;cases hf
     |cons a l=>rw [hff] at hn;cases hn
    |some z=>have:=(hc s.dat z h.gd.srt hn).1 f hf;have:=d2 z hn;omega
   ·rcases d3 with d3|d3
    ·exact .inl (hp y d3).2
    ·exact .inr (hc s.dat y h.gd.srt d3).2
  cases hm:CH (s.pend.head?.map (·.at_)) (Ay s.dat) with
  |none=>
   obtain ⟨e1,e2⟩:=Fe hm;have hpe:s.pend=[]:=by cases hff:s.pend with|nil=>rfl|cons a l=>rw [hff] at e1;cases e1
   have hde:s.dat.frames=[]:=by unfold Ay at e2;cases hff:s.dat.frames with|nil=>rfl|cons a l=>rw [hff] at e2;cases e2
   rw [hm] at b3;rcases b3 with b3|b3
   ·cases b3
   ·exact ⟨by rw [hpe];simp,by rw [hde];simp,hr,.inr (.inr (hc s.rep x h.gr.srt b3).2)⟩
  |some y=>
   obtain ⟨q1,q2,q3⟩:=h2 y hm;have hxy:=b1 y hm;refine ⟨fun o ho=>by have:=q1 o ho;omega,fun f hf=>by have:=q2 f hf;omega,hr,?_⟩;rcases b3 with b3|b3
   ·rw [hm] at b3;cases b3;rcases q3 with q3|q3
    ·exact .inl q3
    ·exact .inr (.inl q3)
   ·exact .inr (.inr (hc s.rep x h.gr.srt b3).2)
 have hdue:s.snd.st=1→t≤s.snd.due:=fun q=>a2 _ (by rw [if_pos q]);cases hm:CH (CH (s.pend.head?.map (·.at_)) (Ay s.dat)) (Ay s.rep) with
 |none=>
  obtain ⟨e0,e3⟩:=Fe hm;obtain ⟨e1,e2⟩:=Fe e0;have hpe:s.pend=[]:=by cases hff:s.pend with|nil=>rfl|cons a l=>rw [hff] at e1;cases e1
  have hde:s.dat.frames=[]:=by unfold Ay at e2;cases hff:s.dat.frames with|nil=>rfl|cons a l=>rw [hff] at e2;cases e2
  have hre:s.rep.frames=[]:=by unfold Ay at e3;cases hff:s.rep.frames with|nil=>rfl|cons a l=>rw [hff] at e3;cases e3
  refine ⟨by rw [hpe];simp,by rw [hde];simp,by rw [hre];simp,hdue,?_⟩;rw [hm] at a3;rcases a3 with a3|a3
  ·cases a3
  ·by_cases q:s.snd.st=1
   ·rw [if_pos q] at a3;cases a3;exact .inr (.inr (.inr ⟨q,rfl⟩))
   ·rw [if_neg q] at a3;cases a3
 |some y=>
  obtain ⟨q1,q2,q3,q4⟩:=h3 y hm;have hty:=a1 y hm;refine ⟨fun o ho=>by have:=q1 o ho;omega,fun f hf=>by have:=q2 f hf;omega,fun f hf=>by have:=q3 f hf;omega,hdue,?_⟩;rcases a3 with a3|a3
  ·rw [hm] at a3;cases a3;rcases q4 with q|q|q
   ·exact .inl q
   ·exact .inr (.inl q)
   ·exact .inr (.inr (.inl q))
  ·by_cases q:s.snd.st=1
   ·rw [if_pos q] at a3;cases a3;exact .inr (.inr (.inr ⟨q,rfl⟩))
   ·rw [if_neg q] at a3;cases a3
theorem YC {s:Ses} (h:nxS s=none):s.pend=[]∧s.dat.frames=[]∧s.rep.frames=[]∧s.snd.st≠1:=by unfold nxS at h;obtain ⟨e0,e4⟩:=Fe h;obtain ⟨e0,e3⟩:=Fe e0;obtain ⟨e1,e2⟩:=Fe e0;refine ⟨(by cases hff:s.pend with|nil=>rfl|cons a l=>rw [hff] at e1;cases e1),(by unfold Ay at e2;cases hff:s.dat.frames with|nil=>rfl|cons a l=>rw [hff] at e2;cases e2),(by unfold Ay at e3;cases hff:s.rep.frames with|nil=>rfl|cons a l=>rw [hff] at e3;cases e3),fun q => ?_⟩;rw [if_pos q] at e4;cases e4
theorem Inv.at {p:Par} {s:Ses} {t:Int} (h:Inv p s) (ht0:0≤t) (ht:nxS s=some t):Inv p {s with now:=t}:=by
 obtain ⟨n1,n2,n3,n4,n5⟩:=YB h ht;exact {h with
  now:=ht0
  fd:=fun f hf=>by obtain ⟨f1,f2,f3,f4,f5⟩:=h.fd f hf;exact ⟨f1,f2,n2 f hf,f4,f5⟩
  fr:=fun f hf=>by obtain ⟨f1,f2,f3,f4,f5⟩:=h.fr f hf;exact ⟨f1,f2,n3 f hf,f4,f5⟩
  pd:=fun o ho=>by obtain ⟨f1,f2,f3,f4,f5⟩:=h.pd o ho;exact ⟨f1,n1 o ho,f3,f4,f5⟩
  du:=n4}
structure Wt (p:Par) (s:Ses):Prop where
 i:Inv p s
 pg:PGt s
 dg:DGt s
 rg:RGt s
 ug:UGt s
theorem Wt.nx {p:Par} {s:Ses} {t:Int} (hp:POk p) (h:Wt p s) (ht:nxS s=some t):s.now<t∧t≤p.e+4*p.c.rng+2:=by
 have hr:=hp.rng;have hn:=h.i.sn.num hp;rcases (YB h.i ht).2.2.2.2 with ⟨o,ho,rfl⟩|⟨f,hf,rfl⟩|⟨f,hf,rfl⟩|⟨h1,rfl⟩
 ·have:=h.pg o ho;have:=h.i.pd o ho;omega
 ·have:=h.dg f hf;have:=h.i.fd f hf;omega
 ·have:=h.rg f hf;have:=h.i.fr f hf;omega
 ·have:=h.ug h1;have:=(h.i.due h1).2;omega
theorem Mic.inv {p:Par} {s s':Ses} (hp:POk p) (m:Mic p s s'):Inv p s':=by
 cases m with
 |time t h1 h2 h3 h4 h5 h6=>exact h1.at (by have:=(Wt.nx hp ⟨h1,h2,h3,h4,h5⟩ h6).1;have:=h1.now;omega) h6
 |tx o l h1 h2 h3=>exact h1.tx hp h2 h3
 |rx f l h1 h2 h3 h4=>exact h1.rx hp h3 h4
 |ls _ f l h1 h2 h3 h4 h5 h6=>exact h1.ls hp h2 h4 h5 h6
 |ex _ h1 h2 h3 h4 h5=>exact h1.ex hp h2 h5
end Ab
set_option linter.unusedVariables false
set_option linter.unusedSimpArgs false
namespace Ab
open Go
theorem tx_gt {p:Par} {s:Ses} {o:Out} {l:List Out} (h:Inv p s) (hp:s.pend=o::l) (ho:o.at_≠s.now):PGt s:=by
 have h0:=(h.pd o (by rw [hp];simp)).2.1;have hs:=h.po;rw [hp,pairwise_cons] at hs;intro x hx;rw [hp] at hx;rcases mem_cons.1 hx with rfl|hx
 ·omega
 ·have:=hs.1 x hx;omega
theorem XK {p:Par} (hp:POk p):∀(k:Nat) (s:Ses),Inv p s→s.pend.length≤k→Reach p s (txS k s)∧Inv p (txS k s)∧PGt (txS k s)∧(txS k s).now=s.now
 |0,s,h,hk=>⟨.refl,h,(fun o ho=>by have e:s.pend=[]:=length_eq_zero_iff.1 (by omega);change o∈s.pend at ho;rw [e] at ho;cases ho),rfl⟩
 |k+1,s,h,hk=>by
  unfold txS;cases hpd:s.pend with
  |nil=>exact ⟨.refl,h,fun o ho=>(by simp only [hpd] at ho;cases ho),rfl⟩
  |cons o l=>
   simp only;split
   ·rename_i ha;have hI:=h.tx hp hpd ha;obtain ⟨i1,i2,i3,i4⟩:=XK hp k _ hI (by rw [hpd] at hk;simpa using hk);exact ⟨(Reach.one (.tx s o l h hpd ha)).trans i1,i2,i3,i4⟩
   ·rename_i ha;exact ⟨.refl,h,tx_gt h hpd ha,rfl⟩
theorem NV:∀(l:List Seg) (s:Ses),(l.foldl Cv s).pend=s.pend∧(l.foldl Cv s).snd=s.snd∧(l.foldl Cv s).sent=s.sent∧(l.foldl Cv s).rcv=s.rcv∧(l.foldl Cv s).kno=s.kno∧(l.foldl Cv s).knoAt=s.knoAt∧(l.foldl Cv s).rcvd=s.rcvd∧(l.foldl Cv s).arrive=s.arrive
 |[],s=>⟨rfl,rfl,rfl,rfl,rfl,rfl,rfl,rfl⟩
 |x::l,s=>by rw [foldl_cons];exact NV l _
theorem RH (s:Ses) (x:Seg):(rxX s x).pend=s.pend∧(rxX s x).snd=s.snd∧(rxX s x).sent=s.sent∧(rxX s x).kno=s.kno∧(rxX s x).knoAt=s.knoAt:=by
 obtain ⟨a1,a2,a3,a4,a5,a6,a7⟩:=NV (Ei s.rcv x).2.1 {s with rcv:=(Ei s.rcv x).1};unfold rxX rxF rxH;split
 ·exact ⟨a1,a2,a3,a5,a6⟩
 ·exact ⟨a1,a2,a3,a5,a6⟩
theorem Inv.rxG {p:Par} {s:Ses} (h:PGt s) {x:Seg}:PGt (rxX (BF s) x):=by intro o ho;rw [(RH _ _).1] at ho;rw [Pr];exact h o ho
theorem Xc {p:Par} (hp:POk p):∀(k:Nat) (s:Ses),Inv p s→PGt s→s.dat.frames.length≤k→Reach p s (rxS k s)∧Inv p (rxS k s)∧PGt (rxS k s)∧DGt (rxS k s)∧(rxS k s).now=s.now
 |0,s,h,hg,hk=>⟨.refl,h,hg,(fun o ho=>by have e:s.dat.frames=[]:=length_eq_zero_iff.1 (by omega);change o∈s.dat.frames at ho;rw [e] at ho;cases ho),rfl⟩
 |k+1,s,h,hg,hk=>by
  unfold rxS;cases hpd:s.dat.frames with
  |nil=>exact ⟨.refl,h,hg,fun o ho=>(by rw [hpd] at ho;cases ho),rfl⟩
  |cons f l=>
   simp only;split
   ·rename_i ha;have hI:=h.rx hp hpd ha;obtain ⟨i1,i2,i3,i4,i5⟩:=Xc hp k _ hI (Inv.rxG (p:=p) hg) (by rw [FV];simp only [BF,length_tail];omega);exact ⟨(Reach.one (.rx s f l h hg hpd ha)).trans i1,i2,i3,i4,by rw [i5,Pr];rfl⟩
   ·rename_i ha;refine ⟨.refl,h,hg,?_,rfl⟩;have h0:=(h.fd f (by rw [hpd];simp)).2.2.1;have hs:=h.gd.srt;rw [hpd,pairwise_cons] at hs;intro x hx;rw [hpd] at hx;rcases mem_cons.1 hx with rfl|hx
    ·omega
    ·have:=hs.1 x hx;omega
theorem HM.gt {p:Par} {s:Ses} {q:Snd} {l:List Seg} (hp:POk p) (hl:HM p.d (s.snd.ser+1) l) (hs:0≤s.snd.ser+1) {o:Out} (ho:o∈A1 p.c.rate s.now l):s.now<o.at_:=by have hr:=hp.rng;exact ((hl.outs (t:=s.now) ⟨hr.2.2.1,hr.2.2.2.1⟩ hs).2.1 o ho).2.1
theorem Mic.lsG {p:Par} {s s':Ses} (hp:POk p) (h:Inv p s) (hg:PGt s) (hd:DGt s) {f:Frame} {l:List Frame} (hf:s.rep.frames=f::l) (ha:f.arr=s.now) (hs:LsR p (BT s) f.seg s'):PGt s'∧DGt s'∧s'.now=s.now∧s'.rep.frames=l:=by
 obtain ⟨f1,f2,f3,f4,f5⟩:=h.fr f (by rw [hf];simp);have hl:(BT s).rep.frames=l:=by simp [BT,hf]
 cases hs with
 |busy _=>exact ⟨hg,hd,rfl,hl⟩
 |same _ _=>exact ⟨hg,hd,rfl,hl⟩
 |done h1 h2 h3 h4=>exact ⟨hg,hd,rfl,hl⟩
 |fail h1 h2 h3 h4 h5=>exact ⟨hg,hd,rfl,hl⟩
 |send h1 h2 h3 h4 h5=>
  obtain ⟨hQ,_⟩:=h.sn.ack hp f1;have hn:=h.sn.num hp;have hB:=hQ.bat hp h.sn h4;exact ⟨fun o ho=>HM.gt (s:=s) (q:=s.snd) hp hB (by omega) ho,hd,rfl,hl⟩
theorem YK {p:Par} (hp:POk p):∀(k:Nat) (s:Ses),Inv p s→PGt s→DGt s→s.rep.frames.length≤k→Reach p s (lsS k s)∧Inv p (lsS k s)∧PGt (lsS k s)∧DGt (lsS k s)∧RGt (lsS k s)∧(lsS k s).now=s.now
 |0,s,h,hg,hd,hk=>⟨.refl,h,hg,hd,(fun o ho=>by have e:s.rep.frames=[]:=length_eq_zero_iff.1 (by omega);change o∈s.rep.frames at ho;rw [e] at ho;cases ho),rfl⟩
 |k+1,s,h,hg,hd,hk=>by
  unfold lsS;cases hpd:s.rep.frames with
  |nil=>exact ⟨.refl,h,hg,hd,fun o ho=>(by rw [hpd] at ho;cases ho),rfl⟩
  |cons f l=>
   simp only;split
   ·rename_i ha;have hR:=(h.lsR hp hg hpd ha).1;have hI:=h.ls hp hg hpd ha hR;obtain ⟨g1,g2,g3,g4⟩:=Mic.lsG hp h hg hd hpd ha hR;obtain ⟨i1,i2,i3,i4,i5,i6⟩:=YK hp k _ hI g1 g2 (by rw [g4];rw [hpd] at hk;simpa using hk);exact ⟨(Reach.one (.ls s _ f l h hg hd hpd ha hR)).trans i1,i2,i3,i4,i5,by rw [i6,g3]⟩
   ·rename_i ha;refine ⟨.refl,h,hg,hd,?_,rfl⟩;have h0:=(h.fr f (by rw [hpd];simp)).2.2.1;have hs:=h.gr.srt;rw [hpd,pairwise_cons] at hs;intro x hx;rw [hpd] at hx;rcases mem_cons.1 hx with rfl|hx
    ·omega
    ·have:=hs.1 x hx;omega
theorem exR_ok {p:Par} {s s':Ses} (hp:POk p) (h:Inv p s) (hg:PGt s) (hd:DGt s) (hr:RGt s) (hR:ExR p s s'):Wt p s'∧s'.now=s.now:=by
 have hI:=h.ex hp hg hR;cases hR with
 |same hn=>exact ⟨⟨h,hg,hd,hr,fun h1=>by have:=h.du h1;have:=fun q=>hn ⟨h1,q⟩;omega⟩,rfl⟩
 |fail h1 h2 h3=>exact ⟨⟨hI,hg,hd,hr,fun q=>by simp [DY] at q⟩,rfl⟩
 |send h1 h2 h3 h4=>
  have hQ:=h.sn.q hp;have hB:=(hQ.bat hp h.sn h3).last;have hn:=h.sn.num hp;have hrr:=hp.rng;have ho:=hB.outs (t:=s.now) ⟨hrr.2.2.1,hrr.2.2.2.1⟩ (by omega);refine ⟨⟨hI,fun o ho=>HM.gt (s:=s) (q:=s.snd) hp hB (by omega) ho,hd,hr,fun q => ?_⟩,rfl⟩;have:=(hI.due q).2;have e:({s with snd:=A9 s.snd (Ak p.c.rate s.now (BX (Ac s.snd))) (s.snd.ser+1),pend:=A1 p.c.rate s.now (BX (Ac s.snd))}:Ses).snd.busy=Ak p.c.rate s.now (BX (Ac s.snd)):=rfl;rw [e] at this;show s.now<_;omega
theorem X3 {p:Par} {s:Ses} {t:Int} (hp:POk p) (h:Wt p s) (ht:nxS s=some t):Reach p s (ph1 s t)∧Inv p (ph1 s t)∧PGt (ph1 s t)∧(ph1 s t).now=t:=by have hI:=h.i.at (t:=t) (by have:=(h.nx hp ht).1;have:=h.i.now;omega) ht;obtain ⟨a1,a2,a3,a4⟩:=XK hp s.pend.length _ hI (le_refl _);exact ⟨(Reach.one (.time s t h.i h.pg h.dg h.rg h.ug ht)).trans a1,a2,a3,a4⟩
theorem X2 {p:Par} {s:Ses} {t:Int} (hp:POk p) (h:Wt p s) (ht:nxS s=some t):Reach p s (ph2 s t)∧Inv p (ph2 s t)∧PGt (ph2 s t)∧DGt (ph2 s t)∧(ph2 s t).now=t:=by obtain ⟨a1,a2,a3,a4⟩:=X3 hp h ht;obtain ⟨b1,b2,b3,b4,b5⟩:=Xc hp _ _ a2 a3 (le_refl _);exact ⟨a1.trans b1,b2,b3,b4,by unfold ph2;rw [b5,a4]⟩
theorem X1 {p:Par} {s:Ses} {t:Int} (hp:POk p) (h:Wt p s) (ht:nxS s=some t):Reach p s (ph3 s t)∧Inv p (ph3 s t)∧PGt (ph3 s t)∧DGt (ph3 s t)∧RGt (ph3 s t)∧(ph3 s t).now=t:=by obtain ⟨a1,a2,a3,a4,a5⟩:=X2 hp h ht;obtain ⟨b1,b2,b3,b4,b5,b6⟩:=YK hp _ _ a2 a3 a4 (le_refl _);exact ⟨a1.trans b1,b2,b3,b4,b5,by unfold ph3;rw [b6,a5]⟩
theorem XT {p:Par} {s:Ses} {t:Int} (hp:POk p) (h:Wt p s) (ht:nxS s=some t):Reach p s (stS s t)∧Wt p (stS s t)∧(stS s t).now=t:=by obtain ⟨a1,a2,a3,a4,a5,a6⟩:=X1 hp h ht;have hR:=(a2.exR hp a3).1;obtain ⟨b1,b2⟩:=exR_ok hp a2 a3 a4 a5 hR;exact ⟨a1.trans (Reach.one (.ex _ _ a2 a3 a4 a5 hR)),b1,by unfold stS;rw [b2,a6]⟩
def muS (p:Par) (s:Ses):Nat:=(p.e+4*p.c.rng+3-s.now).toNat
theorem Inv.small {p:Par} {s:Ses} (hp:POk p) (h:Inv p s):s.entered≤5000∧s.pend.length≤5000:=by have hB:=h.bud hp (k:=0) (by omega) (fun q=>by omega);have:=hB.ent;have hs:=h.sn.num hp;have hb:=hp.bud s.snd.ser (by omega) (by have:=h.sn.t;omega);have:=h.c4;have:=h.c5;have:=h.sn.t;have hz:(s.snd.ser-1)*1≤(s.snd.ser-1)*(2*p.c.rng+1):=Int.mul_le_mul_of_nonneg_left (by have:=hp.rng;omega) (by omega);refine ⟨by omega,?_⟩;rcases hb with hb|hb<;>omega
theorem runP {p:Par} (hp:POk p):Sn (Wt p) (fun s=>Inv p s∧PGt s) (fun s=>Inv p s∧PGt s∧DGt s) (muS p):=by
 refine ⟨⟨fun s h=>h.1.gd,fun s f l h hf ha => ?_⟩,⟨fun s h=>h.1.gr,fun s h => ?_,fun s f l h hf ha => ?_⟩,fun s h => ?_,fun s t h ht => ?_,fun s t h ht => ?_,fun s t h ht => ?_,fun s t h ht => ?_,fun s t h ht => ?_⟩
 ·obtain ⟨hI,hg⟩:=h;obtain ⟨f1,f2,f3,f4,f5⟩:=hI.fd f (by rw [hf];simp);have hn:=hI.sn.num hp;have hr:=hp.rng;refine ⟨by rw [(hI.VL hp f1).1],?_,hI.rx hp hf ha,Inv.rxG (p:=p) hg⟩;rw [(hI.VL hp f1).1];refine (hI.bud hp ?_ (fun _=>by omega)).BF;rw [hf];simp only [countP_cons];split
  ·simp only [length_cons,length_nil];omega
  ·simp only [length_nil];omega
 ·have:=(h.1.sn.fo hp).2;have:=(h.1.small hp).2;omega
 ·obtain ⟨hI,hg,hd⟩:=h;obtain ⟨f1,f2,f3,f4,f5⟩:=hI.fr f (by rw [hf];simp);obtain ⟨r1,r2⟩:=hI.lsR hp hg hf ha;obtain ⟨g1,g2,g3,g4⟩:=Mic.lsG hp hI hg hd hf ha r1;have:=f1.few hp.sz.2;exact ⟨.inl (by omega),r2,hI.ls hp hg hf ha r1,g1,g2⟩
 ·have:=(h.i.small hp).1;exact ⟨by omega,h.i.gd,h.i.gr⟩
 ·have hI:=h.i.at (t:=t) (by have:=(h.nx hp ht).1;have:=h.i.now;omega) ht;refine hI.bud hp (show (s.pend.length:Int)≤s.pend.length+(s.dat.frames.countP (fun f=>f.seg.chk):Nat) by omega) (fun hk => ?_);obtain ⟨n1,n2⟩:=YB h.i ht;cases hpd:s.pend with
  |nil=>rw [hpd] at hk;simp at hk
  |cons o l=>
   have h1:=n1 o (by rw [hpd];simp);have h2:=h.i.pd o (by rw [hpd];simp);have hn:=h.i.sn.num hp;have hr:=hp.rng;show t≤_;omega
 ·have:=X3 hp h ht;exact ⟨this.2.1,this.2.2.1⟩
 ·have:=X2 hp h ht;exact ⟨this.2.1,this.2.2.1,this.2.2.2.1⟩
 ·obtain ⟨a1,a2,a3,a4,a5,a6⟩:=X1 hp h ht;have:=(a2.small hp)
  have:=(a2.sn.fo hp).2;exact ⟨by omega,by omega,by omega,(a2.exR hp a3).2⟩
 ·obtain ⟨a1,a2,a3⟩:=XT hp h ht;have:=h.nx hp ht;refine ⟨a2,?_⟩;unfold muS;rw [a3];omega
theorem Ul {p:Par} (hp:POk p):∀(k:Nat) (s:Ses),Wt p s→muS p s≤k→Reach p s (HJ k s)∧Wt p (HJ k s)∧nxS (HJ k s)=none
 |0,s,h,hk=>by
  refine ⟨.refl,h,?_⟩;cases hn:nxS s with
  |none=>exact hn
  |some t=>
   have:=h.nx hp hn;unfold muS at hk;omega
 |k+1,s,h,hk=>by
  unfold HJ;cases hn:nxS s with
  |none=>exact ⟨.refl,h,hn⟩
  |some t=>
   simp only;obtain ⟨a1,a2,a3⟩:=XT hp h hn;have:=h.nx hp hn;obtain ⟨b1,b2,b3⟩:=Ul hp k _ a2 (by unfold muS at hk ⊢;rw [a3];omega);exact ⟨a1.trans b1,b2,b3⟩
theorem MU {p:Par} (hp:POk p) (h:(Bi p.c 0 p.d p.b p.e).2.2=0) :
  HM p.d 1 (CZ 0 1 p.d (AU p.d))∧Ak p.c.rate p.b (CZ 0 1 p.d (AU p.d))≤p.e∧
  (Bi p.c 0 p.d p.b p.e).1=A9 (Br p.c 0 p.d p.e) (Ak p.c.rate p.b (CZ 0 1 p.d (AU p.d))) 1∧(Bi p.c 0 p.d p.b p.e).2.1=A1 p.c.rate p.b (CZ 0 1 p.d (AU p.d)):=by
 have hd:=hp.sz;have hB:=batP (Ke (ses:=0) (d:=p.d) ⟨by omega,by omega⟩ ⟨by omega,by omega⟩);obtain ⟨pre,x,e,h1,h2,h3⟩:=hB.ex;have hlast:(CZ 0 1 p.d (AU p.d)).getLast? = some x:=by rw [e];exact getLast?_concat ..
 have ht:=hp.t;have e0:Bi p.c 0 p.d p.b p.e=if (CO (Br p.c 0 p.d p.e) p.b (CZ 0 1 p.d (AU p.d))).1.st=3 then DI 16 else ((CO (Br p.c 0 p.d p.e) p.b (CZ 0 1 p.d (AU p.d))).1,(CO (Br p.c 0 p.d p.e) p.b (CZ 0 1 p.d (AU p.d))).2,0):=by unfold Bi;rw [if_neg (by have:=hp.con;omega),if_neg (by omega),if_neg (by omega),if_neg (by omega),if_neg (by omega)]
 have e1:CO (Br p.c 0 p.d p.e) p.b (CZ 0 1 p.d (AU p.d))=if p.e<Ak p.c.rate p.b (CZ 0 1 p.d (AU p.d))∨1099511627776<x.ser then (DY (Br p.c 0 p.d p.e),[]) else (A9 (Br p.c 0 p.d p.e) (Ak p.c.rate p.b (CZ 0 1 p.d (AU p.d))) x.ser,A1 p.c.rate p.b (CZ 0 1 p.d (AU p.d))):=by unfold CO;rw [hlast];rfl
 by_cases hb:p.e<Ak p.c.rate p.b (CZ 0 1 p.d (AU p.d))
 ·exfalso;rw [e0,e1,if_pos (Or.inl hb)] at h;simp [DI,DY] at h
 ·rw [if_neg (by omega),h2] at e1;rw [e0,e1,if_neg (by simp [A9])];exact ⟨hB,by omega,rfl,rfl⟩
def JB (p:Par):Ses:=ini p.c p.b p.e p.d p.ps p.lim p.dk
theorem TV {p:Par} (hp:POk p) (h:(Bi p.c 0 p.d p.b p.e).2.2=0):Wt p (JB p):=by
 obtain ⟨hB,he,e1,e2⟩:=MU hp h;have hr:=hp.rng;have hd:=hp.sz;have ht:=hp.t;obtain ⟨o1,o2,o3,o4,o5⟩:=hB.outs (t:=p.b) ⟨hr.2.2.1,hr.2.2.2.1⟩ (by omega);have hlen:=hB.len;let q:Snd:={Br p.c 0 p.d p.e with busy:=Ak p.c.rate p.b (CZ 0 1 p.d (AU p.d)),ser:=1}
 have hq:HL q=0:=by
  unfold HL;have a1:Es q:=by unfold Es;simp only [q,Br];omega
  have a2:Q1 q:=⟨QT,.inl rfl⟩
  rw [if_neg (fun f=>f hp.con),if_neg (fun f=>f a1),if_neg (fun f=>f a2)]
 have hc0:complete q=false:=by simp [complete,q,Br,AU]
 have hok:=Ue (t:=Ak p.c.rate p.b (CZ 0 1 p.d (AU p.d))) (ser:=1) hq hc0 (by simp only [q,Br];omega) (by omega);have e3:A9 q (Ak p.c.rate p.b (CZ 0 1 p.d (AU p.d))) 1=A9 (Br p.c 0 p.d p.e) (Ak p.c.rate p.b (CZ 0 1 p.d (AU p.d))) 1:=rfl;rw [e3] at hok;have ei:JB p=⟨⟨p.c.rng,[],0,0⟩,⟨p.c.rng,[],0,0⟩,p.ps,p.lim,p.dk,0,0,[],[],0,A9 (Br p.c 0 p.d p.e) (Ak p.c.rate p.b (CZ 0 1 p.d (AU p.d))) 1,R0,A1 p.c.rate p.b (CZ 0 1 p.d (AU p.d)),false,0,false,0⟩:=by unfold JB ini;rw [e1,e2];rfl
 rw [ei];have hgc:Bz ⟨p.c.rng,[],0,0⟩:=⟨by simp only;omega,by simp,by simp,by simp,(fun f hf=>by cases hf),List.Pairwise.nil⟩
 refine ⟨⟨rfl,rfl,rfl,rfl,rfl,hgc,hgc,Int.le_refl _,⟨rfl,rfl,rfl,rfl,hok,?_⟩,⟨[],XS _,fun x hx=>by cases hx⟩,(fun f hf=>by cases hf),(fun f hf=>by cases hf),fun o ho => ?_,o1,fun _ => ?_,rfl,rfl,rfl,?_,?_,?_,?_,?_,?_,?_,(show false=A7 R0 by decide)⟩,fun o ho => ?_,(fun f hf=>by cases hf),(fun f hf=>by cases hf),fun _ => ?_⟩
 ·simp only [A9,Br];omega
 ·obtain ⟨k1,k2,k3,k4,k5⟩:=o2 o ho;exact ⟨k1,by simp only;omega,by simp only [A9];omega,by simp only [A9];omega,fun hcc=>(k5 hcc).1⟩
 ·simp only [A9,Br];omega
 ·simp only [A9,Br,CT,length_nil];omega
 ·simp only [A9,Br,CT,length_nil];omega
 ·simp only [A9,Br,o4,length_nil,List.countP_nil];omega
 ·simp
 ·simp
 ·simp
 ·simp [A9]
 ·have:=o2 o ho;simp only;omega
 ·simp only [A9,Br];omega
end Ab
set_option linter.unusedVariables false
set_option linter.unusedSimpArgs false
namespace Ab
open Go
theorem Q4 {l:List Span} {n:Int} (h:BG l=0) (hn:0<n) (hm:∀t,AM t l↔0≤t∧t<n):l=[⟨0,n⟩]:=
 DJ (b' := -1) ((Aj _).1 h).2.1 ⟨by simp only;omega,by simp only;omega,trivial⟩ fun t=>by rw [hm];simp [AM]
theorem Inv.full {p:Par} {s:Ses} (hp:POk p) (h:Inv p s):A7 s.rcv=true↔∀t,AM t s.rcv.known↔0≤t∧t<p.d.size:=by
 obtain ⟨hl,h1,h2⟩:=h.rc;have hd:=hp.sz;have hc:=(DP h1.ok).2.1.1;unfold A7;rw [decide_eq_true_eq];constructor
 ·rintro ⟨_,e⟩ t
  by_cases hn:hl=[]
  ·exfalso;have hcc:=((Aj _).1 hc).2.1;rw [e,h1.tot,if_pos hn] at hcc;have:=hcc.2.1;simp only at this;omega
  ·rw [e,h1.tot,if_neg hn];simp [AM]
 ·intro hm;refine ⟨h1.ok,?_⟩;have hn:hl≠[]:=by
   rintro rfl
   obtain ⟨x,hx,_⟩:=(h1.mem 0).1 ((hm 0).2 (by omega));cases hx
  rw [h1.tot,if_neg hn];exact Q4 hc (by omega) hm
theorem Inv.kin {p:Par} {s:Ses} (h:Inv p s) {t:Int} (ht:AM t s.rcv.known):0≤t∧t<p.d.size:=by obtain ⟨hl,h1,h2⟩:=h.rc;exact Yn h2 ((h1.mem t).1 ht)
structure RxF (p:Par) (s s':Ses) (f:Frame) (l:List Frame):Prop where
 sp:LN p.d f.seg
 rcv:s'.rcv=C1 s.rcv f.seg
 mem:∀t,AM t s'.rcv.known↔AM t s.rcv.known∨(f.seg.off≤t∧t<f.seg.off+f.seg.data.size)
 dat:s'.dat={s.dat with frames:=l}
 snd:s'.snd=s.snd
 pend:s'.pend=s.pend
 sent:s'.sent=s.sent
 now:s'.now=s.now
 kno:s'.kno=s.kno
 knoAt:s'.knoAt=s.knoAt
 rcvd:s'.rcvd=A7 s'.rcv
 arr:s'.arrive=if s.rcvd=false∧s'.rcvd=true then s.now else s.arrive
 cl:(B3 s.rcv f.seg).AS=s'.rcv.known
 no:f.seg.chk=false→s'.rep=s.rep∧s'.told=s.told∧s'.entered=s.entered∧s'.dist=s.dist
 yes:f.seg.chk=true→I1 p.d (B3 s.rcv f.seg)∧s'.rep=B4 s.rep s.now (B3 s.rcv f.seg) (B7 s p.c.rng).1∧s'.told=s.told++[⟨s.now,B3 s.rcv f.seg⟩]∧s'.entered=s.entered+1∧s'.dist=(B7 s p.c.rng).2
 mono:s.rcvd=true→s'.rcvd=true
theorem rxF_f (s:Ses):(rxF s).rcv=s.rcv∧(rxF s).rep=s.rep∧(rxF s).told=s.told∧(rxF s).entered=s.entered∧(rxF s).dist=s.dist∧(rxF s).arrive=if s.rcvd=false∧A7 s.rcv=true then s.now else s.arrive:=by
 unfold rxF;by_cases h:s.rcvd=false∧A7 s.rcv=true
 ·rw [if_pos h,if_pos h];exact ⟨rfl,rfl,rfl,rfl,rfl,rfl⟩
 ·rw [if_neg h,if_neg h];exact ⟨rfl,rfl,rfl,rfl,rfl,rfl⟩
theorem Inv.Pt {p:Par} {s:Ses} (hp:POk p) (h:Inv p s) {f:Frame} {l:List Frame} (hf:s.dat.frames=f::l) (ha:f.arr=s.now):RxF p s (rxX (BF s) f.seg) f l:=by
 obtain ⟨f1,f2,f3,f4,f5⟩:=h.fd f (by rw [hf];simp);obtain ⟨e1,e2,e3,e4,e5,e6⟩:=h.VL hp f1;have hI:=h.rx hp hf ha;have hfr:s.dat.frames.tail=l:=by rw [hf];rfl
 have hrr:(BF s).rep.rng=p.c.rng:=h.rr;have hpop:(BF s).rcv=s.rcv:=rfl;have hH:rxH (BF s) f.seg=if f.seg.chk=true then Cv {BF s with rcv:=C1 s.rcv f.seg} (B3 s.rcv f.seg) else {BF s with rcv:=C1 s.rcv f.seg}:=by unfold rxH;rw [hpop,e1];split<;>rfl
 obtain ⟨q1,q2,q3,q4,q5,q6⟩:=rxF_f (rxH (BF s) f.seg);have e0:rxX (BF s) f.seg=rxF (rxH (BF s) f.seg):=rfl;rw [← e0] at q1 q2 q3 q4 q5 q6;have hrv:(rxX (BF s) f.seg).rcv=C1 s.rcv f.seg:=by rw [q1,hH];split<;>rfl
 obtain ⟨p1,p2,p3,p4,p5⟩:=RH (BF s) f.seg;have hrc:(rxX (BF s) f.seg).rcvd=A7 (C1 s.rcv f.seg):=by rw [hI.rv,hrv]
 refine ⟨f1,hrv,by rw [hrv];exact e4,by rw [FV];simp [BF,hfr],p2,p1,p3,by rw [Pr];rfl,p4,p5,hI.rv,?_,by rw [hrv];exact e6,fun hc => ?_,fun hc=>⟨e3 hc,?_⟩,fun q=>by rw [hrc];exact e5 (by rw [← h.rv];exact q)⟩
 ·rw [hrc,q6,hH];split<;>rfl
 ·rw [q2,q3,q4,q5,hH,if_neg (by simp [hc])];exact ⟨rfl,rfl,rfl,rfl⟩
 ·rw [q2,q3,q4,q5,hH,if_pos hc];have e:(B7 {BF s with rcv:=C1 s.rcv f.seg} p.c.rng)=B7 s p.c.rng:=rfl;simp only [Cv];rw [hrr,e];exact ⟨rfl,rfl,rfl,rfl⟩
theorem Cj {c:BY} {t:Int} {x:Seg} {ds:List Int} {f:Frame} (h:f∈(B4 c t x ds).frames):f∈c.frames∨∃d∈ds,f=⟨t+d,c.sent,x⟩:=CY.1 h
structure Knw (p:Par) (kt:Int→Int) (s:Ses):Prop where
 pd:∀o∈s.pend,p.b<o.at_
 fd:∀f∈s.dat.frames,p.b+p.c.rng<f.arr
 k1:∀t,AM t s.rcv.known→p.b+p.c.rng<kt t∧kt t≤s.now
 k2:∀t,AM t s.snd.acked→AM t s.rcv.known∧kt t+p.c.rng≤s.now
 k3:∀f∈s.rep.frames,∀t,AM t f.seg.AS→AM t s.rcv.known∧kt t+p.c.rng≤f.arr
 k4:s.rcvd=true→(∀t,AM t s.rcv.known→kt t≤s.arrive)∧∃t,AM t s.rcv.known∧kt t=s.arrive
 k5:s.rcvd=false→s.arrive=0
 k6:s.kno=false→s.knoAt=0
 k7:s.kno=true→s.rcvd=true∧s.arrive+p.c.rng≤s.knoAt
theorem Knw.mic {p:Par} {s s':Ses} {kt:Int→Int} (hp:POk p) (h:Knw p kt s) (m:Mic p s s'):∃kt',Knw p kt' s':=by
 have hr:=hp.rng;have hI':=m.inv hp;cases m with
 |time t h1 h2 h3 h4 h5 h6=>
  have hlt:=(Wt.nx hp ⟨h1,h2,h3,h4,h5⟩ h6).1;exact ⟨kt,h.pd,h.fd,fun t ht=>by have:=h.k1 t ht;simp only;omega,fun t ht=>by have:=h.k2 t ht;refine ⟨this.1,?_⟩;simp only;omega,h.k3,h.k4,h.k5,h.k6,h.k7⟩
 |tx o l h1 h2 h3=>
  refine ⟨kt,fun x hx=>h.pd x (by rw [h2];simp [hx]),fun f hf => ?_,h.k1,h.k2,h.k3,h.k4,h.k5,h.k6,h.k7⟩;rcases Cj hf with hf|⟨d,hd,rfl⟩
  ·exact h.fd f hf
  ·have hd:=(h1.del hp).1 d (by rw [← h1.rd];exact hd);have:=h.pd o (by rw [h2];simp);simp only;omega
 |rx f l h1 h2 h3 h4=>
  have hF:=h1.Pt hp h3 h4;refine ⟨fun t=>open Classical in if AM t s.rcv.known then kt t else s.now,?_,?_,?_,?_,?_,?_,?_,?_,?_⟩
  ·rw [hF.pend];exact h.pd
  ·rw [hF.dat];exact fun x hx=>h.fd x (by rw [h3];exact mem_cons_of_mem _ hx)
  ·intro t ht;rw [hF.now];split
   ·rename_i hk;exact h.k1 t hk
   ·have:=h.fd f (by rw [h3];simp);omega
  ·intro t ht;rw [hF.snd] at ht;obtain ⟨k1,k2⟩:=h.k2 t ht;rw [hF.now];rw [if_pos k1];exact ⟨(hF.mem t).2 (.inl k1),k2⟩
  ·have old:∀x∈s.rep.frames,∀t,AM t x.seg.AS→AM t (rxX (BF s) f.seg).rcv.known∧(open Classical in if AM t s.rcv.known then kt t else s.now)+p.c.rng≤x.arr:=by intro x hx t ht;obtain ⟨k1,k2⟩:=h.k3 x hx t ht;rw [if_pos k1];exact ⟨(hF.mem t).2 (.inl k1),k2⟩
   cases hc:f.seg.chk with
   |false=>rw [(hF.no hc).1];exact old
   |true=>
    rw [(hF.yes hc).2.1];intro x hx t ht;rcases Cj hx with hx|⟨d,hd,rfl⟩
    ·exact old x hx t ht
    ·have hd:=(h1.del hp).1 d hd;rw [hF.cl] at ht;refine ⟨ht,?_⟩;split
     ·rename_i hk;have:=(h.k1 t hk).2;show _≤s.now+d;omega
     ·show _≤s.now+d;omega
  ·intro hq;have hI:=hI';have hful:=(hI.full hp).1 (by rw [← hF.rcvd];exact hq);rw [hF.arr];cases ho:s.rcvd with
   |true=>
    rw [if_neg (by simp)];obtain ⟨k1,t,k2,k3⟩:=h.k4 ho;have hfo:=(h1.full hp).1 (by rw [← h1.rv];exact ho);refine ⟨fun t ht => ?_,t,(hF.mem t).2 (.inl k2),?_⟩
    ·have hk:=(hfo t).2 ((hful t).1 ht);rw [if_pos hk];exact k1 t hk
    ·rw [if_pos k2];exact k3
   |false=>
    rw [if_pos ⟨rfl,hq⟩];refine ⟨fun t ht => ?_,?_⟩
    ·split
     ·rename_i hk;exact (h.k1 t hk).2
     ·exact Int.le_refl _
    ·have hno:¬∀t,AM t s.rcv.known↔0≤t∧t<p.d.size:=fun q=>by have:=(h1.full hp).2 q;rw [← h1.rv,ho] at this;cases this
     obtain ⟨t,ht⟩:=not_forall.1 hno;have hn:¬AM t s.rcv.known:=fun q=>ht ⟨fun _=>h1.kin q,fun _=>q⟩;have hin:0≤t∧t<p.d.size:=Classical.byContradiction fun q=>ht ⟨fun m=>(hn m).elim,fun m=>(q m).elim⟩;exact ⟨t,(hful t).2 hin,by rw [if_neg hn]⟩
  ·intro hq;rw [hF.arr];have ho:s.rcvd=false:=by
    cases hs:s.rcvd with
    |false=>rfl
    |true=>rw [hF.mono hs] at hq;cases hq
   rw [if_neg (by rw [hq];simp)];exact h.k5 ho
  ·rw [hF.kno,hF.knoAt];exact h.k6
  ·intro hq;rw [hF.kno] at hq;obtain ⟨k1,k2⟩:=h.k7 hq;rw [hF.knoAt,hF.arr,k1,if_neg (by simp)];exact ⟨hF.mono k1,k2⟩
 |ls _ f l h1 h2 h3 h4 h5 h6=>
  obtain ⟨f1,f2,f3,f4,f5⟩:=h1.fr f (by rw [h4];simp);obtain ⟨hQ,hack⟩:=h1.sn.ack hp f1;have hk3:∀x∈l,∀t,AM t x.seg.AS→AM t s.rcv.known∧kt t+p.c.rng≤x.arr:=fun x hx=>h.k3 x (by rw [h4];simp [hx]);have hl:(BT s).rep.frames=l:=by simp [BT,h4]
  have hk3':∀x∈(BT s).rep.frames,∀t,AM t x.seg.AS→AM t s.rcv.known∧kt t+p.c.rng≤x.arr:=by rw [hl];exact hk3
  have ha:∀t,AM t (A6 s.snd f.seg).acked→AM t s.rcv.known∧kt t+p.c.rng≤s.now:=fun t ht=>by
   rcases (hack t).1 ht with ht|ht
   ·exact h.k2 t ht
   ·have:=h.k3 f (by rw [h4];simp) t ht;exact ⟨this.1,by omega⟩
  refine ⟨kt,?_⟩;cases h6 with
  |busy q1=>exact ⟨h.pd,h.fd,h.k1,h.k2,hk3',h.k4,h.k5,h.k6,h.k7⟩
  |same q1 q2=>exact ⟨h.pd,h.fd,h.k1,h.k2,hk3',h.k4,h.k5,h.k6,h.k7⟩
  |done q1 q2 q3 q4=>
   refine ⟨h.pd,h.fd,h.k1,ha,hk3',h.k4,h.k5,fun q=>(by cases q),fun _ => ?_⟩;have hw:(A6 s.snd f.seg).acked=AU p.d:=by have:=of_decide_eq_true (show decide ((A6 s.snd f.seg).acked=AU (A6 s.snd f.seg).data)=true from q4);rw [this,hQ.data]
   have hall:∀t,AM t s.rcv.known↔0≤t∧t<p.d.size:=fun t=>⟨fun m=>h1.kin m,fun m=>(ha t (by rw [hw];simpa [AM,AU] using m)).1⟩
   have hrc:s.rcvd=true:=by rw [h1.rv];exact (h1.full hp).2 hall
   obtain ⟨k1,t,k2,k3⟩:=h.k4 hrc;have:=(ha t (by rw [hw];have:=(hall t).1 k2;simpa [AM,AU] using this)).2;exact ⟨hrc,by show s.arrive+p.c.rng≤s.now;omega⟩
  |fail q1 q2 q3 q4 q5=>exact ⟨h.pd,h.fd,h.k1,ha,hk3',h.k4,h.k5,h.k6,h.k7⟩
  |send q1 q2 q3 q4 q5=>
   have hn:=h1.sn.num hp;refine ⟨fun o ho => ?_,h.fd,h.k1,ha,hk3',h.k4,h.k5,h.k6,h.k7⟩;have:=HM.gt (s:=s) (q:=s.snd) hp (hQ.bat hp h1.sn q4) (by omega) ho;have:¬s.now<s.snd.busy:=q1;omega
 |ex _ h1 h2 h3 h4 h5=>
  refine ⟨kt,?_⟩;cases h5 with
  |same q=>exact h
  |fail q1 q2 q3=>exact ⟨h.pd,h.fd,h.k1,h.k2,h.k3,h.k4,h.k5,h.k6,h.k7⟩
  |send q1 q2 q3 q4=>
   have hn:=h1.sn.num hp;have hdu:=(h1.due q1).2;refine ⟨fun o ho => ?_,h.fd,h.k1,h.k2,h.k3,h.k4,h.k5,h.k6,h.k7⟩;have:=HM.gt (s:=s) (q:=s.snd) hp (((h1.sn.q hp).bat hp h1.sn q3).last) (by omega) ho;omega
theorem Reach.ind {p:Par} {a b:Ses} (P:Ses→Prop) (h:Reach p a b) (h0:P a) (hs:∀s s',P s→Mic p s s'→P s'):P b:=by
 induction h with
 |refl=>exact h0
 |step _ m ih=>exact hs _ _ ih m
def DV (p:Par):Ses:=HJ (muS p (JB p)) (JB p)
theorem QJ {p:Par} (hp:POk p) (h:(Bi p.c 0 p.d p.b p.e).2.2=0):Reach p (JB p) (DV p)∧Wt p (DV p)∧nxS (DV p)=none:=Ul hp _ _ (TV hp h) (le_refl _)
end Ab
set_option linter.unusedVariables false
set_option linter.unusedSimpArgs false
namespace Ab
open Go
def ChT (r:Int):Int→List Out→Prop
 |_,[]=>True
 |t,o::l=>t≤o.at_-Cp r o.seg∧ChT r o.at_ l
def enT:Int→List Out→Int
 |t,[]=>t
 |_,o::l=>enT o.at_ l
theorem ChT.weak {r:Int}:∀{l:List Out} {t t':Int},ChT r t l→t'≤t→ChT r t' l
 |[],_,_,h,_=>h
 |o::l,t,t',h,ht=>⟨by have:=h.1;omega,h.2⟩
theorem ChT.app {r:Int}:∀{l:List Out} {t:Int} {l':List Out},ChT r t l→ChT r (enT t l) l'→ChT r t (l++l')
 |[],_,_,_,h=>h
 |o::l,t,l',h,h'=>⟨h.1,ChT.app h.2 h'⟩
theorem ChT.left {r:Int}:∀{l:List Out} {t:Int} {l':List Out},ChT r t (l++l')→ChT r t l
 |[],_,_,_=>trivial
 |o::l,t,l',h=>⟨h.1,ChT.left h.2⟩
theorem ChT.outs (r:Int):∀(l:List Seg) (t:Int),ChT r t (A1 r t l)
 |[],_=>trivial
 |x::l,t=>⟨by simp only;omega,ChT.outs r l _⟩
theorem YY {b:Int}:∀{l:List Out} {t:Int},t≤b→(∀o∈l,o.at_≤b)→enT t l≤b
 |[],_,h,_=>h
 |o::l,t,h,k=>show enT o.at_ l≤b from YY (k o (by simp)) fun x hx=>k x (by simp [hx])
theorem ChT.get {r:Int}:∀{l:List Out} {t:Int} {i:Nat} {x:Out},ChT r t l→l[i]? = some x→enT t (l.take i)≤x.at_-Cp r x.seg∧enT t (l.take (i+1))=x.at_
 |[],t,i,x,h,hx=>by simp at hx
 |o::l,t,0,x,h,hx=>by simp only [getElem?_cons_zero,Option.some.injEq] at hx;subst hx;exact ⟨h.1,rfl⟩
 |o::l,t,i+1,x,h,hx=>ChT.get (t:=o.at_) h.2 (by simpa using hx)
structure IC (p:Par) (F:Int) (s:Ses):Prop where
 ch:ChT p.c.rate p.b (s.sent++s.pend)
 hd:((s.sent++s.pend).head?).map (fun o=>o.at_)=some F
 sg:∀o∈s.sent,LN p.d o.seg∧o.at_≤s.snd.busy∧0≤o.at_
 pf:∀o∈s.pend,F≤o.at_
 ff:∀f∈s.dat.frames,F+p.c.rng≤f.arr
 tl:∀o∈s.told,o.seg.kind=2∧F+p.c.rng≤o.at_∧o.at_≤s.now
 ts:s.told.Pairwise fun a b=>a.at_≤b.at_
theorem IC.go {p:Par} {s:Ses} {F:Int} {q:Snd} {l:List Seg} (hp:POk p) (h:IC p F s) (hpn:s.pend=[]) (hI:Inv p s) (hn:s.snd.busy≤s.now) (hl:HM p.d (s.snd.ser+1) l) :
  IC p F {s with snd:=A9 q (Ak p.c.rate s.now l) (s.snd.ser+1),pend:=A1 p.c.rate s.now l}:=by
 have hr:=hp.rng;have hsn:=hI.sn.num hp;have hch:=h.ch;have hhd:=h.hd;rw [hpn,append_nil] at hch hhd;have ho:=hl.outs (t:=s.now) ⟨hr.2.2.1,hr.2.2.2.1⟩ (by omega);have hend:=Hq p.c.rate l s.now;have hF:F≤s.snd.busy:=by
  cases hs:s.sent with
  |nil=>rw [hs] at hhd;simp at hhd
  |cons o k=>
   rw [hs] at hhd;simp only [head?_cons,map_some,Option.some.injEq] at hhd;have:=(h.sg o (by rw [hs];simp)).2.1;omega
 refine ⟨?_,?_,fun o hx => ?_,fun o hx => ?_,h.ff,h.tl,h.ts⟩
 ·refine ChT.app hch ((ChT.outs p.c.rate l s.now).weak (YY (by omega) fun o hx => ?_));have:=(h.sg o hx).2.1;omega
 ·show (((s.sent++A1 p.c.rate s.now l):List Out).head?).map _=_;cases hs:s.sent with
  |nil=>rw [hs] at hhd;simp at hhd
  |cons o k=>rw [hs] at hhd;simpa using hhd
 ·have:=h.sg o hx;refine ⟨this.1,?_,this.2.2⟩;show o.at_≤Ak p.c.rate s.now l;omega
 ·have:=(ho.2.1 o hx).2.1;omega
theorem IC.mic {p:Par} {s s':Ses} {F:Int} (hp:POk p) (h:IC p F s) (m:Mic p s s'):IC p F s':=by
 have hr:=hp.rng;cases m with
 |time t q1 q2 q3 q4 q5 q6=>
  have hlt:=(Wt.nx hp ⟨q1,q2,q3,q4,q5⟩ q6).1;exact ⟨h.ch,h.hd,h.sg,h.pf,h.ff,fun o ho=>by have:=h.tl o ho;exact ⟨this.1,this.2.1,by show _≤t;omega⟩,h.ts⟩
 |tx o l q1 q2 q3=>
  obtain ⟨o1,o2,o3,o4,o5⟩:=q1.pd o (by rw [q2];simp);have hnow:=q1.now;have e:(⟨s.now,o.seg⟩:Out)=o:=by rw [← q3]
  have el:(s.sent++[⟨s.now,o.seg⟩])++l=s.sent++s.pend:=by rw [e,q2];simp
  refine ⟨by show ChT _ _ ((s.sent++[(⟨s.now,o.seg⟩:Out)])++l);rw [el];exact h.ch,by show (((s.sent++[(⟨s.now,o.seg⟩:Out)])++l).head?).map _=_;rw [el];exact h.hd,fun x hx => ?_,fun x hx=>h.pf x (by rw [q2];simp [hx]),fun f hf => ?_,h.tl,h.ts⟩
  ·rcases mem_append.1 hx with hx|hx
   ·exact h.sg x hx
   ·rw [mem_singleton] at hx;subst hx;exact ⟨o1,by show s.now≤s.snd.busy;omega,hnow⟩
  ·rcases Cj hf with hf|⟨d,hd,rfl⟩
   ·exact h.ff f hf
   ·have hd:=(q1.del hp).1 d (by rw [← q1.rd];exact hd);have:=h.pf o (by rw [q2];simp);show _≤s.now+d;omega
 |rx f l q1 q2 q3 q4=>
  have hF:=q1.Pt hp q3 q4;have hff:=h.ff f (by rw [q3];simp);refine ⟨by rw [hF.sent,hF.pend];exact h.ch,by rw [hF.sent,hF.pend];exact h.hd,by rw [hF.sent,hF.snd];exact h.sg,by rw [hF.pend];exact h.pf,(by rw [hF.dat];exact fun x hx=>h.ff x (by rw [q3];exact mem_cons_of_mem _ hx)),?_,?_⟩
  ·rw [hF.now];cases hc:f.seg.chk with
   |false=>rw [(hF.no hc).2.1];exact h.tl
   |true=>
    rw [(hF.yes hc).2.2.1];intro o ho;rcases mem_append.1 ho with ho|ho
    ·exact h.tl o ho
    ·rw [mem_singleton] at ho;subst ho;exact ⟨(hF.yes hc).1.kind,(show F+p.c.rng≤s.now by omega),Int.le_refl _⟩
  ·cases hc:f.seg.chk with
   |false=>rw [(hF.no hc).2.1];exact h.ts
   |true=>
    rw [(hF.yes hc).2.2.1,pairwise_append];refine ⟨h.ts,List.pairwise_singleton ..,fun a ha b hb => ?_⟩;rw [mem_singleton] at hb;subst hb;exact (h.tl a ha).2.2
 |ls _ f l q1 q2 q3 q4 q5 q6=>
  obtain ⟨f1,f2,f3,f4,f5⟩:=q1.fr f (by rw [q4];simp);obtain ⟨hQ,_⟩:=q1.sn.ack hp f1;cases q6 with
  |busy a1=>exact ⟨h.ch,h.hd,h.sg,h.pf,h.ff,h.tl,h.ts⟩
  |same a1 a2=>exact ⟨h.ch,h.hd,h.sg,h.pf,h.ff,h.tl,h.ts⟩
  |done a1 a2 a3 a4=>exact ⟨h.ch,h.hd,h.sg,h.pf,h.ff,h.tl,h.ts⟩
  |fail a1 a2 a3 a4 a5=>exact ⟨h.ch,h.hd,h.sg,h.pf,h.ff,h.tl,h.ts⟩
  |send a1 a2 a3 a4 a5=>
   have a1:¬s.now<s.snd.busy:=a1;have k:=IC.go (q:=A6 s.snd f.seg) hp h (DM q1 q2 a1) q1 (by omega) (hQ.bat hp q1.sn a4);exact ⟨k.ch,k.hd,k.sg,k.pf,k.ff,k.tl,k.ts⟩
 |ex _ q1 q2 q3 q4 q5=>
  cases q5 with
  |same a1=>exact h
  |fail a1 a2 a3=>exact ⟨h.ch,h.hd,h.sg,h.pf,h.ff,h.tl,h.ts⟩
  |send a1 a2 a3 a4=>
   have hdu:=(q1.due a1).2;exact IC.go (q:=s.snd) hp h (DM q1 q2 (by omega)) q1 (by omega) ((q1.sn.q hp).bat hp q1.sn a3).last
theorem ic_fin {p:Par} (hp:POk p) (h:(Bi p.c 0 p.d p.b p.e).2.2=0):∃F,IC p F (DV p)∧(DV p).pend=[]:=by
 obtain ⟨f1,f2,f3⟩:=QJ hp h;obtain ⟨hB,he,g1,g2⟩:=MU hp h;have hr:=hp.rng;have ee1:(JB p).pend=A1 p.c.rate p.b (CZ 0 1 p.d (AU p.d)):=g2;obtain ⟨pre,x,ex,_⟩:=hB.ex;have ho:=hB.outs (r:=p.c.rate) (t:=p.b) ⟨hr.2.2.1,hr.2.2.2.1⟩ (by omega);cases hl:(JB p).pend with
 |nil=>
  have:=congrArg length hl;rw [ee1,CT,ex] at this;simp at this
 |cons o l=>
  refine ⟨o.at_,f1.ind (IC p o.at_) ⟨?_,?_,(fun x hx=>by cases hx),fun y hy => ?_,(fun x hx=>by cases hx),(fun x hx=>by cases hx),List.Pairwise.nil⟩ fun s s' k m=>k.mic hp m,(YC f3).1⟩
  ·show ChT _ _ ([]++(JB p).pend);rw [nil_append,ee1];exact ChT.outs _ _ _
  ·show (([]++(JB p).pend).head?).map _=_;rw [hl];rfl
  ·have hs:=ho.1;rw [← ee1,hl,pairwise_cons] at hs;rw [hl] at hy;rcases mem_cons.1 hy with rfl|hy
   ·exact Int.le_refl _
   ·have:=hs.1 y hy;omega
end Ab
set_option linter.unusedVariables false
set_option linter.unusedSimpArgs false
namespace Ab
open Go
def cov (x:Seg) (t:Int):Prop:=x.off≤t∧t<x.off+x.data.size
theorem PB:∀(k:Nat) (a b:Int),(b-a).toNat≤k→∀t,a≤t→t<b→∃q∈cut a b,q.1≤t∧t<q.2
 |0,a,b,hk,t,h1,h2=>by omega
 |k+1,a,b,hk,t,h1,h2=>by
  have hq:a<b:=by omega
  have hc:=F7 hq;rw [F6 hq];by_cases h:t<FN a b
  ·exact ⟨(a,FN a b),by simp,h1,h⟩
  ·obtain ⟨q,q1,q2⟩:=PB k (FN a b) b (by omega) t (by omega) h2;exact ⟨q,by simp [q1],q2⟩
theorem SI:∀(k:Nat) (a b:Int),(b-a).toNat≤k→(cut a b).Pairwise fun q r=>q.2≤r.1
 |0,a,b,hk=>by rw [Gq (by omega)];exact List.Pairwise.nil
 |k+1,a,b,hk=>by
  by_cases hq:a<b
  ·have hc:=F7 hq;rw [F6 hq,pairwise_cons];exact ⟨fun r hr=>(Gr _ _ _ (le_refl _) r hr).1,SI k (FN a b) b (by omega)⟩
  ·rw [Gq hq];exact List.Pairwise.nil
structure QA (p:Par) (B:Int) (ck:Seg) (s:Ses):Prop where
 st:s.snd.st=1
 ser:s.snd.ser=1
 bu:s.snd.busy=B
 hck:ck.chk=true∧ck.ser=1∧1≤ck.data.size∧0≤ck.off∧ck.off+(ck.data.size:Int)≤(p.d.size:Int)
 all:∀t:Int,0≤t→t<p.d.size→AM t s.rcv.known∨cov ck t∨(∃o∈s.pend,o.seg.chk=false∧cov o.seg t)∨∃f∈s.dat.frames,cov f.seg t∧f.arr<B+p.c.rng
 dj:∀t,cov ck t→¬AM t s.rcv.known∧(∀o∈s.pend,o.seg.chk=false→¬cov o.seg t)∧∀f∈s.dat.frames,f.seg.chk=false→¬cov f.seg t
 pn:∀o∈s.pend,(o.seg.chk=false→o.at_<B)∧(o.seg.chk=true→o.seg=ck∧o.at_=B)
 fn:∀f∈s.dat.frames,f.seg.chk=true→f.seg=ck∧B+p.c.rng≤f.arr
 ex:(∃o∈s.pend,o.seg=ck)∨((∃f∈s.dat.frames,f.seg=ck∧f.arr=B+p.c.rng)∧∀o∈s.pend,o.seg.chk=false)
 rp:s.rep.frames=[]
 kn:s.kno=false
 rc:s.rcvd=false
structure QB (p:Par) (B:Int) (s:Ses):Prop where
 st:s.snd.st=1
 ser:s.snd.ser=1
 bu:s.snd.busy=B
 rc:s.rcvd=true
 ar:s.arrive=B+p.c.rng
 nw:B+p.c.rng≤s.now
 pn:s.pend=[]
 kn:s.kno=false
 wh:∀f∈s.rep.frames,∀t:Int,0≤t→t<p.d.size→AM t f.seg.AS
 ex:∃f∈s.rep.frames,f.seg.ser=1∧f.arr=B+2*p.c.rng
structure QC (p:Par) (B:Int) (s:Ses):Prop where
 st:s.snd.st=2
 bu:s.snd.busy=B
 rc:s.rcvd=true
 ar:s.arrive=B+p.c.rng
 kn:s.kno=true
 ka:s.knoAt=B+2*p.c.rng
def Q (p:Par) (B:Int) (s:Ses):Prop:=(∃ck,QA p B ck s)∨QB p B s∨QC p B s
theorem IW {c:BY} {t:Int} {x:Seg} {ds:List Int} (h0:0≤c.lost) (h:(B4 c t x ds).lost=0):c.lost=0∧c.rng∈ds:=by
 simp only [B4,Hj] at h;by_cases hm:c.rng∈ds
 ·rw [if_pos hm] at h;exact ⟨by omega,hm⟩
 ·rw [if_neg hm] at h;omega
theorem Yp {p:Par} {s q:Snd} (hp:POk p) (hq:L0 p s q) (h:∀t:Int,0≤t→t<p.d.size→AM t q.acked):complete q=true:=by have hd:=hp.sz;unfold complete;refine decide_eq_true ?_;have hw:=hq.fo.win;rw [hq.data] at hw ⊢;exact Q4 hq.fo.ack (by omega) fun t=>⟨fun m=>Fl hw m,fun m=>h t m.1 m.2⟩
theorem Mic.lost {p:Par} {s s':Ses} (hp:POk p) (m:Mic p s s') (h1:s'.dat.lost=0) (h2:s'.rep.lost=0):s.dat.lost=0∧s.rep.lost=0:=by
 cases m with
 |time t q1 q2 q3 q4 q5 q6=>exact ⟨h1,h2⟩
 |tx o l q1 q2 q3=>exact ⟨(IW q1.gd.lost.1 h1).1,h2⟩
 |rx f l q1 q2 q3 q4=>
  have hF:=q1.Pt hp q3 q4;refine ⟨by rw [hF.dat] at h1;exact h1,?_⟩;cases hc:f.seg.chk with
  |false=>rw [(hF.no hc).1] at h2;exact h2
  |true=>rw [(hF.yes hc).2.1] at h2;exact (IW q1.gr.lost.1 h2).1
 |ls _ f l q1 q2 q3 q4 q5 q6=>cases q6<;>exact ⟨h1,h2⟩
 |ex _ q1 q2 q3 q4 q5=>cases q5<;>exact ⟨h1,h2⟩
theorem QA.mic {p:Par} {s s':Ses} {B:Int} {ck:Seg} (hp:POk p) (h:QA p B ck s) (m:Mic p s s') (z1:s'.dat.lost=0) (z2:s'.rep.lost=0):Q p B s':=by
 have hr:=hp.rng;have hI':=m.inv hp;have hbu:=h.bu;cases m with
 |time t q1 q2 q3 q4 q5 q6=>exact .inl ⟨ck,{h with}⟩
 |tx o l q1 q2 q3=>
  have hd:=(IW q1.gd.lost.1 z1).2;have hrd:=q1.rd;have hg:(⟨s.now+p.c.rng,s.dat.sent,o.seg⟩:Frame)∈(Cs s o.seg).dat.frames:=CY.2 (.inr ⟨p.c.rng,by rw [← hrd];exact hd,rfl⟩);have hold:∀f∈s.dat.frames,f∈(Cs s o.seg).dat.frames:=fun f hf=>CY.2 (.inl hf);have hpo:=q1.po;have hpn:=h.pn;have hdj:=h.dj;rw [q2] at hpo hpn hdj;rw [pairwise_cons] at hpo;refine .inl ⟨ck,⟨h.st,h.ser,h.bu,h.hck,fun t h0 h1 => ?_,fun t ht => ?_,fun x hx=>hpn x (by simp [hx]),fun f hf hc => ?_,?_,h.rp,h.kn,h.rc⟩⟩
  ·rcases h.all t h0 h1 with a|a|⟨x,hx,a⟩|⟨f,hf,a⟩
   ·exact .inl a
   ·exact .inr (.inl a)
   ·rw [q2] at hx;rcases mem_cons.1 hx with rfl|hx
    ·have:=(hpn x (by simp)).1 a.1;exact .inr (.inr (.inr ⟨_,hg,a.2,by show s.now+p.c.rng<_;omega⟩))
    ·exact .inr (.inr (.inl ⟨x,hx,a⟩))
   ·exact .inr (.inr (.inr ⟨f,hold f hf,a⟩))
  ·obtain ⟨k1,k2,k3⟩:=hdj t ht;refine ⟨k1,fun x hx=>k2 x (by simp [hx]),fun f hf hc => ?_⟩;rcases Cj hf with hf|⟨d,hdd,rfl⟩
   ·exact k3 f hf hc
   ·exact k2 o (by simp) hc
  ·rcases Cj hf with hf|⟨d,hdd,rfl⟩
   ·exact h.fn f hf hc
   ·have h1:=(hpn o (by simp)).2 hc;have h2:=(q1.del hp).1 d (by rw [← hrd];exact hdd);exact ⟨h1.1,by show _≤s.now+d;omega⟩
  ·rcases h.ex with ⟨x,hx,a⟩|⟨⟨f,hf,a⟩,b⟩
   ·rw [q2] at hx;rcases mem_cons.1 hx with rfl|hx
    ·have h1:=(hpn x (by simp)).2 (by rw [a];exact h.hck.1);refine .inr ⟨⟨_,hg,a,by show s.now+p.c.rng=_;omega⟩,fun y hy => ?_⟩;have h2:=hpo.1 y hy;cases hc:y.seg.chk with
     |false=>rfl
     |true=>have:=((hpn y (by simp [hy])).2 hc).2;omega
    ·exact .inl ⟨x,hx,a⟩
   ·exact .inr ⟨⟨f,hold f hf,a⟩,fun y hy=>b y (by rw [q2];simp [hy])⟩
 |rx f l q1 q2 q3 q4=>
  have hF:=q1.Pt hp q3 q4;have hall:=h.all;have hdj:=h.dj;have hfn:=h.fn;have hex:=h.ex;rw [q3] at hall hdj hfn hex;cases hc:f.seg.chk with
  |false=>
   obtain ⟨r1,r2,r3,r4⟩:=hF.no hc;have hnk:∀t,cov ck t→¬AM t (rxX (BF s) f.seg).rcv.known:=fun t ht hm=>by
    obtain ⟨k1,k2,k3⟩:=hdj t ht;rcases (hF.mem t).1 hm with hm|hm
    ·exact k1 hm
    ·exact k3 f (by simp) hc hm
   refine .inl ⟨ck,⟨by rw [hF.snd];exact h.st,by rw [hF.snd];exact h.ser,by rw [hF.snd];exact h.bu,h.hck,fun t h0 h1 => ?_,fun t ht => ?_,by rw [hF.pend];exact h.pn,?_,?_,by rw [r1];exact h.rp,by rw [hF.kno];exact h.kn,?_⟩⟩
   ·rw [hF.mem,hF.pend,hF.dat];rcases hall t h0 h1 with a|a|a|⟨g,hg,a⟩
    ·exact .inl (.inl a)
    ·exact .inr (.inl a)
    ·exact .inr (.inr (.inl a))
    ·rcases mem_cons.1 hg with rfl|hg
     ·exact .inl (.inr a.1)
     ·exact .inr (.inr (.inr ⟨g,hg,a⟩))
   ·rw [hF.pend,hF.dat];obtain ⟨k1,k2,k3⟩:=hdj t ht;exact ⟨hnk t ht,k2,fun g hg=>k3 g (by simp only at hg;simp [hg])⟩
   ·rw [hF.dat];exact fun g hg=>hfn g (by simp only at hg;simp [hg])
   ·rw [hF.pend,hF.dat];rcases hex with a|⟨⟨g,hg,a⟩,b⟩
    ·exact .inl a
    ·refine .inr ⟨⟨g,?_,a⟩,b⟩;rcases mem_cons.1 hg with rfl|hg
     ·rw [a.1,h.hck.1] at hc;cases hc
     ·exact hg
   ·cases hq:(rxX (BF s) f.seg).rcvd with
    |false=>rfl
    |true=>
     exfalso;have hful:=(hI'.full hp).1 (by rw [← hF.rcvd];exact hq);have hk:=h.hck;exact hnk ck.off ⟨Int.le_refl _,by omega⟩ ((hful ck.off).2 (by omega))
  |true=>
   obtain ⟨y1,y2,y3,y4,y5⟩:=hF.yes hc;obtain ⟨f1,f2⟩:=hfn f (by simp) hc;have hfd:=q1.fd;rw [q3] at hfd;have hnow:s.now=B+p.c.rng:=by
    rcases hex with ⟨o,ho,a⟩|⟨⟨g,hg,a⟩,b⟩
    ·have h1:=(h.pn o ho).2 (by rw [a];exact h.hck.1);have h2:=(q1.pd o ho).2.1;omega
    ·have:=(hfd g hg).2.2.1;omega
   have hpe:s.pend=[]:=by
    cases hpd:s.pend with
    |nil=>rfl
    |cons o l'=>
     have h1:=h.pn o (by rw [hpd];simp);have h2:=(q1.pd o (by rw [hpd];simp)).2.1;cases hcc:o.seg.chk with
     |false=>have:=h1.1 hcc;omega
     |true=>have:=(h1.2 hcc).2;omega
   have hful:∀t,AM t (rxX (BF s) f.seg).rcv.known↔0≤t∧t<p.d.size:=fun t=>⟨fun m=>hI'.kin m,fun ⟨h0,h1⟩=>by
    rw [hF.mem];rcases hall t h0 h1 with a|a|⟨o,ho,_⟩|⟨g,hg,a⟩
    ·exact .inl a
    ·rw [f1];exact .inr a
    ·rw [hpe] at ho;cases ho
    ·have:=(hfd g hg).2.2.1;omega⟩
   have hrc:(rxX (BF s) f.seg).rcvd=true:=by rw [hF.rcvd];exact (hI'.full hp).2 hful
   have z3:=z2;rw [y2] at z3;have hd:=(IW q1.gr.lost.1 z3).2;rw [q1.rr] at hd;have hrf:(rxX (BF s) f.seg).rep.frames=Kn s.now s.rep.sent (B3 s.rcv f.seg) (B7 s p.c.rng).1 s.rep.frames:=by rw [y2];rfl
   refine .inr (.inl ⟨by rw [hF.snd];exact h.st,by rw [hF.snd];exact h.ser,by rw [hF.snd];exact h.bu,hrc,?_,by rw [hF.now];omega,by rw [hF.pend];exact hpe,by rw [hF.kno];exact h.kn,fun g hg t h0 h1 => ?_,⟨⟨s.now+p.c.rng,s.rep.sent,B3 s.rcv f.seg⟩,?_,?_,by show s.now+_=_;omega⟩⟩)
   ·rw [hF.arr,if_pos ⟨h.rc,hrc⟩,hnow]
   ·rw [hrf,h.rp] at hg;rcases CY.1 hg with hg|⟨d,hdd,rfl⟩
    ·cases hg
    ·rw [hF.cl];exact (hful t).2 ⟨h0,h1⟩
   ·rw [hrf];exact CY.2 (.inr ⟨_,hd,rfl⟩)
   ·show f.seg.ser=1;rw [f1];exact h.hck.2.1
 |ls _ f l q1 q2 q3 q4 q5 q6=>rw [h.rp] at q4;cases q4
 |ex _ q1 q2 q3 q4 q5=>
  have hdu:=(q1.due h.st).2;have hlt:s.now≤B+p.c.rng:=by
   rcases h.ex with ⟨o,ho,a⟩|⟨⟨g,hg,a⟩,b⟩
   ·have h1:=(h.pn o ho).2 (by rw [a];exact h.hck.1);have h2:=(q1.pd o ho).2.1;omega
   ·have:=(q1.fd g hg).2.2.1;omega
  cases q5 with
  |same _=>exact .inl ⟨ck,h⟩
  |fail a1 a2 a3=>omega
  |send a1 a2 a3 a4=>omega
theorem QB.mic {p:Par} {s s':Ses} {B:Int} (hp:POk p) (h:QB p B s) (m:Mic p s s'):Q p B s':=by
 have hr:=hp.rng;have hI':=m.inv hp;have hbu:=h.bu;obtain ⟨g,hg,g1,g2⟩:=h.ex;cases m with
 |time t q1 q2 q3 q4 q5 q6=>
  have hlt:=(Wt.nx hp ⟨q1,q2,q3,q4,q5⟩ q6).1;exact .inr (.inl {h with nw:=by have:=h.nw;simp only;omega})
 |tx o l q1 q2 q3=>rw [h.pn] at q2;cases q2
 |rx f l q1 q2 q3 q4=>
  have hF:=q1.Pt hp q3 q4;have hrc:=hF.mono h.rc;have hful:=(hI'.full hp).1 (by rw [← hF.rcvd];exact hrc);refine .inr (.inl ⟨by rw [hF.snd];exact h.st,by rw [hF.snd];exact h.ser,by rw [hF.snd];exact h.bu,hrc,?_,by rw [hF.now];exact h.nw,by rw [hF.pend];exact h.pn,by rw [hF.kno];exact h.kn,?_,?_⟩)
  ·rw [hF.arr,if_neg (by rw [h.rc];simp)];exact h.ar
  ·cases hc:f.seg.chk with
   |false=>rw [(hF.no hc).1];exact h.wh
   |true=>
    rw [(hF.yes hc).2.1];intro x hx t h0 h1;rcases Cj hx with hx|⟨d,hd,rfl⟩
    ·exact h.wh x hx t h0 h1
    ·rw [hF.cl];exact (hful t).2 ⟨h0,h1⟩
  ·cases hc:f.seg.chk with
   |false=>rw [(hF.no hc).1];exact ⟨g,hg,g1,g2⟩
   |true=>rw [(hF.yes hc).2.1];exact ⟨g,CY.2 (.inl hg),g1,g2⟩
 |ls _ f l q1 q2 q3 q4 q5 q6=>
  obtain ⟨f1,f2,f3,f4,f5⟩:=q1.fr f (by rw [q4];simp);have hfw:=h.wh f (by rw [q4];simp);obtain ⟨hQ,hack⟩:=q1.sn.ack hp f1;have hcm:complete (A6 s.snd f.seg)=true:=Yp hp hQ fun t h0 h1=>(hack t).2 (.inr (hfw t h0 h1));have hnow:=(q1.fr g hg).2.2.1;have hl:(BT s).rep.frames=l:=by simp [BT,q4]
  have hnw:=h.nw;cases q6 with
  |busy a1=>have:s.now<s.snd.busy:=a1;omega
  |same a1 a2=>
   have a2:s.snd.st≠1∨f.seg.ser≠s.snd.ser:=a2;have h1:=h.st;have h2:=h.ser;have hfg:g≠f:=by rintro rfl;omega
   rw [q4] at hg;refine .inr (.inl ⟨h.st,h.ser,h.bu,h.rc,h.ar,h.nw,h.pn,h.kn,by rw [hl];exact fun x hx=>h.wh x (by rw [q4];simp [hx]),⟨g,?_,g1,g2⟩⟩);rw [hl];rcases mem_cons.1 hg with e|hg
   ·exact (hfg e).elim
   ·exact hg
  |done a1 a2 a3 a4=>
   have:=f5 a3;exact .inr (.inr ⟨rfl,h.bu,h.rc,h.ar,rfl,by show s.now=_;omega⟩)
  |fail a1 a2 a3 a4 a5=>
   have a4:complete (A6 s.snd f.seg)=false:=a4;rw [hcm] at a4;cases a4
  |send a1 a2 a3 a4 a5=>
   have a4:complete (A6 s.snd f.seg)=false:=a4;rw [hcm] at a4;cases a4
 |ex _ q1 q2 q3 q4 q5=>
  have hdu:=(q1.due h.st).2;have hnow:=(q1.fr g hg).2.2.1;cases q5 with
  |same _=>exact .inr (.inl h)
  |fail a1 a2 a3=>omega
  |send a1 a2 a3 a4=>omega
theorem QC.mic {p:Par} {s s':Ses} {B:Int} (hp:POk p) (h:QC p B s) (m:Mic p s s'):Q p B s':=by
 cases m with
 |time t q1 q2 q3 q4 q5 q6=>exact .inr (.inr {h with})
 |tx o l q1 q2 q3=>exact .inr (.inr {h with})
 |rx f l q1 q2 q3 q4=>
  have hF:=q1.Pt hp q3 q4;exact .inr (.inr ⟨by rw [hF.snd];exact h.st,by rw [hF.snd];exact h.bu,hF.mono h.rc,by rw [hF.arr,if_neg (by rw [h.rc];simp)];exact h.ar,by rw [hF.kno];exact h.kn,by rw [hF.knoAt];exact h.ka⟩)
 |ls _ f l q1 q2 q3 q4 q5 q6=>
  have hst:=h.st;cases q6 with
  |busy a1=>exact .inr (.inr ⟨h.st,h.bu,h.rc,h.ar,h.kn,h.ka⟩)
  |same a1 a2=>exact .inr (.inr ⟨h.st,h.bu,h.rc,h.ar,h.kn,h.ka⟩)
  |done a1 a2 a3 a4=>have:s.snd.st=1:=a2;omega
  |fail a1 a2 a3 a4 a5=>have:s.snd.st=1:=a2;omega
  |send a1 a2 a3 a4 a5=>have:s.snd.st=1:=a2;omega
 |ex _ q1 q2 q3 q4 q5=>
  have hst:=h.st;cases q5 with
  |same _=>exact .inr (.inr h)
  |fail a1 a2 a3=>omega
  |send a1 a2 a3 a4=>omega
theorem Q.mic {p:Par} {s s':Ses} {B:Int} (hp:POk p) (h:Q p B s) (m:Mic p s s') (z1:s'.dat.lost=0) (z2:s'.rep.lost=0):Q p B s':=by
 rcases h with ⟨ck,h⟩|h|h
 ·exact h.mic hp m z1 z2
 ·exact h.mic hp m
 ·exact h.mic hp m
end Ab
set_option linter.unusedVariables false
set_option linter.unusedSimpArgs false
namespace Ab
open Go
def tk (r n:Int):Int:=(n+7+r) / r
def X4 (r n:Int):Int:=(n / 16)*tk r 16+if 0<n % 16 then tk r (n % 16) else 0
theorem Nd {s:Ses} {R:Int} (h1:s.picks=[]) (h2:s.dark=[]):B7 s R=([R],s.dist):=by unfold B7;rw [h1,h2];simp [J8,AM]
structure Qt (m:Nat) (s:Ses):Prop where
 a:s.sent.length+s.pend.length=m
 b:s.told.length+s.dat.frames.countP (fun f=>f.seg.chk)+s.pend.countP (fun o=>o.seg.chk)=1
 z1:s.dat.lost=0
 z2:s.rep.lost=0
theorem M5 {c:BY} {t:Int} {x:Seg}:(B4 c t x [c.rng]).lost=c.lost:=by simp [B4,Hj]
theorem Q.once {p:Par} {B:Int} {s:Ses} (h:Q p B s) (h1:s.snd.st=1):s.snd.ser=1:=by
 rcases h with ⟨ck,h⟩|h|h
 ·exact h.ser
 ·exact h.ser
 ·have:=h.st;omega
theorem Qt.mic {p:Par} {s s':Ses} {B:Int} {m:Nat} (hp:POk p) (e1:p.ps=[]) (e2:p.dk=[]) (h:Qt m s∧Q p B s) (mi:Mic p s s'):Qt m s'∧Q p B s':=by
 obtain ⟨⟨a,b,z1,z2⟩,hq⟩:=h;have hI:=mi.inv hp;cases mi with
 |time t q1 q2 q3 q4 q5 q6=>exact ⟨⟨a,b,z1,z2⟩,hq.mic hp (.time s t q1 q2 q3 q4 q5 q6) z1 z2⟩
 |tx o l q1 q2 q3=>
  have hd:B7 s s.dat.rng=([s.dat.rng],s.dist):=Nd (by rw [q1.ps,e1]) (by rw [q1.dk,e2]);have y1:({Cs s o.seg with pend:=l}:Ses).dat.lost=0:=by simp only [Cs,hd,M5,z1]
  refine ⟨⟨?_,?_,y1,z2⟩,hq.mic hp (.tx s o l q1 q2 q3) y1 z2⟩
  ·rw [q2] at a;simp only [Cs,length_append,length_cons,length_nil] at a ⊢;omega
  ·rw [q2] at b;simp only [Cs,hd,B4,He,countP_cons,length_cons,length_nil] at b ⊢;split at b<;>split<;>simp_all<;>omega
 |rx f l q1 q2 q3 q4=>
  have hF:=q1.Pt hp q3 q4;have hd:B7 s p.c.rng=([p.c.rng],s.dist):=Nd (by rw [q1.ps,e1]) (by rw [q1.dk,e2]);have y1:(rxX (BF s) f.seg).dat.lost=0:=by rw [hF.dat];exact z1
  have y2:(rxX (BF s) f.seg).rep.lost=0:=by
   cases hc:f.seg.chk with
   |false=>rw [(hF.no hc).1];exact z2
   |true=>rw [(hF.yes hc).2.1,hd,← q1.rr];simp only [M5];exact z2
  refine ⟨⟨by rw [hF.sent,hF.pend];exact a,?_,y1,y2⟩,hq.mic hp (.rx s f l q1 q2 q3 q4) y1 y2⟩;rw [hF.pend,hF.dat];rw [q3] at b;simp only [countP_cons] at b;cases hc:f.seg.chk with
  |false=>rw [(hF.no hc).2.1];simp only [hc] at b ⊢;simpa using b
  |true=>
   rw [(hF.yes hc).2.2.1];simp only [hc,if_true,length_append,length_cons,length_nil] at b ⊢;omega
 |ls _ f l q1 q2 q3 q4 q5 q6=>
  have hQ:∀y1 y2,Q p B s':=fun y1 y2=>hq.mic hp (.ls s s' f l q1 q2 q3 q4 q5 q6) y1 y2;cases q6 with
  |busy a1=>exact ⟨⟨a,b,z1,z2⟩,hQ z1 z2⟩
  |same a1 a2=>exact ⟨⟨a,b,z1,z2⟩,hQ z1 z2⟩
  |done a1 a2 a3 a4=>exact ⟨⟨a,b,z1,z2⟩,hQ z1 z2⟩
  |fail a1 a2 a3 a4 a5=>exact ⟨⟨a,b,z1,z2⟩,hQ z1 z2⟩
  |send a1 a2 a3 a4 a5=>
   have h1:s.snd.ser=1:=hq.once a2;have h2:s.snd.ser+1=1:=(hQ z1 z2).once rfl;omega
 |ex _ q1 q2 q3 q4 q5=>
  have hQ:∀y1 y2,Q p B s':=fun y1 y2=>hq.mic hp (.ex s s' q1 q2 q3 q4 q5) y1 y2;cases q5 with
  |same a1=>exact ⟨⟨a,b,z1,z2⟩,hQ z1 z2⟩
  |fail a1 a2 a3=>exact ⟨⟨a,b,z1,z2⟩,hQ z1 z2⟩
  |send a1 a2 a3 a4=>
   have h1:s.snd.ser=1:=hq.once a1;have h2:s.snd.ser+1=1:=(hQ z1 z2).once rfl;omega
end Ab
set_option linter.unusedVariables false
set_option linter.unusedSimpArgs false
namespace Ab
open Go
def Blk (d:ByteArray) (x:Seg):Prop:=0≤x.off∧x.off<d.size∧x.off % 16=0∧(x.data.size:Int)=if x.off+16<d.size then 16 else d.size-x.off
theorem Blk.cov {d:ByteArray} {x:Seg} (h:Blk d x) (t:Int):cov x t↔(0≤t∧t<d.size)∧t / 16=x.off / 16:=by obtain ⟨h1,h2,h3,h4⟩:=h;unfold Ab.cov;rw [h4];split<;>omega
def Clo (d:ByteArray) (l:List Span):Prop:=∀t t':Int,AM t l→0≤t'→t'<d.size→t / 16=t' / 16→AM t' l
theorem Ez (t:Int):∀(l:List Span),AM t l↔∃x∈l,x.fro≤t∧t<x.to
 |[]=>by simp [AM]
 |x::l=>by simp only [AM,Ez t l,mem_cons,exists_eq_or_imp]
theorem PG {l:List Span}:∀{b:Int},Canon b l→∀x∈l,¬AM (x.fro-1) l∧¬AM x.to l:=by
 induction l with
 |nil=>intro b _ x hx;cases hx
 |cons y l ih=>
  intro b h x hx;have h1:=h.2.1;have hm:∀t,AM t (y::l)↔(y.fro≤t∧t<y.to)∨AM t l:=fun t=>by simp [AM]
  rcases mem_cons.1 hx with rfl|hx
  ·rw [hm,hm];refine ⟨?_,?_⟩
   ·rintro (a|a)
    ·omega
    ·have:=By h.2.2 a;omega
   ·rintro (a|a)
    ·omega
    ·have:=By h.2.2 a;omega
  ·obtain ⟨i1,i2⟩:=ih h.2.2 x hx;have h2:=FA h.2.2 x hx;rw [hm,hm];refine ⟨?_,?_⟩
   ·rintro (a|a)
    ·omega
    ·exact i1 a
   ·rintro (a|a)
    ·omega
    ·exact i2 a
theorem Va {n:Int}:∀(k:Nat) (a b:Int),(b-a).toNat≤k→0≤a→a % 16=0→(b % 16=0∨b=n)→b≤n→∀q∈cut a b,q.1 % 16=0∧q.2=if q.1+16<n then q.1+16 else n
 |k,a,b,hk,h0,h1,h2,h3,q,hq=>by
  by_cases hab:a<b
  ·rw [F6 hab] at hq;have hc:=F7 hab;have e:FN a b=if a+16<n then a+16 else n:=by unfold FN;rw [show (a / 16+1)*16=a+16 by omega];split<;>split<;>omega
   rcases mem_cons.1 hq with rfl|hq
   ·exact ⟨h1,e⟩
   ·cases k with
    |zero=>omega
    |succ k=>
     by_cases hb:FN a b<b
     ·refine Va k (FN a b) b (by omega) (by omega) ?_ h2 h3 q hq;rw [e] at hb ⊢;split at hb
      ·rw [if_pos (by assumption)];omega
      ·omega
     ·rw [Gq hb] at hq;cases hq
  ·rw [Gq hab] at hq;cases hq
theorem RP {d:ByteArray}:∀{l:List Span} {b:Int},Canon b l→(DG d 0 l).Pairwise (fun x y=>x.off<y.off)∧∀x∈DG d 0 l,b<x.off
 |[],b,h=>⟨by simp [DG],fun x hx=>by simp [DG] at hx⟩
 |s::l,b,h=>by
  obtain ⟨i1,i2⟩:=RP (d:=d) h.2.2;have e:DG d 0 (s::l)=(cut s.fro s.to).map (raw d 0)++DG d 0 l:=by simp [DG]
  have hm:=Gr _ s.fro s.to (le_refl _);rw [e,pairwise_append];refine ⟨⟨?_,i1,fun x hx y hy => ?_⟩,fun x hx => ?_⟩
  ·rw [List.pairwise_map];refine List.Pairwise.imp_of_mem ?_ (SI _ s.fro s.to (le_refl _));intro q r hq hr hqr;have:=hm q hq;show q.1<r.1;omega
  ·obtain ⟨q,hq,rfl⟩:=mem_map.1 hx;have:=hm q hq;have:=i2 y hy;show q.1<_;omega
  ·have h1:=h.1;have h2:=h.2.1;rcases mem_append.1 hx with hx|hx
   ·obtain ⟨q,hq,rfl⟩:=mem_map.1 hx;have:=hm q hq;show _<q.1;omega
   ·have:=i2 x hx;omega
theorem QG:∀(l l':List Int),l.Pairwise (· < ·)→(∀x∈l,x∈l')→l.length≤l'.length
 |[],l',h,hs=>by simp
 |x::l,l',h,hs=>by rw [pairwise_cons] at h;have hx:=hs x (by simp);have:=QG l (l'.erase x) h.2 fun y hy=>(List.mem_erase_of_ne (by have:=h.1 y hy;omega)).2 (hs y (by simp [hy]));rw [List.length_erase_of_mem hx] at this;have:=List.length_pos_of_mem hx;simp only [length_cons];omega
theorem tk_mono {r n:Int} (hr:1≤r) (hn:n≤16):tk r n≤tk r 16:=Int.ediv_le_ediv (by omega) (by omega)
theorem end_len {d:ByteArray} {r:Int} (hr:1≤r∧r≤1000) (l:List Seg) (t:Int) (h:∀x∈l,LN d x):Ak r t l≤t+l.length*tk r 16:=by
 induction l generalizing t with
 |nil=>simp [Ak]
 |cons x l ih=>
  have h1:=((h x (by simp)).Cp hr).1;have h2:=(LB (h x (by simp)).pc.1 (h x (by simp)).pc.2.1).1;have h3:=ih (t+Cp r x) fun y hy=>h y (by simp [hy]);have h4:=tk_mono (r:=r) (n:=(x.data.size:Int)) (by omega) (by omega);simp only [Ak,length_cons];rw [show ((l.length+1:Nat):Int)*tk r 16=l.length*tk r 16+tk r 16 by rw [natCast_add,Int.add_mul];simp];unfold tk at h4;rw [h1] at h3 ⊢;unfold tk at h3 ⊢;omega
structure LBk (d:ByteArray) (a:List Span) (l:List Seg):Prop where
 bk:∀x∈l,Blk d x∧¬AM x.off a
 al:∀t:Int,0≤t→t<d.size→¬AM t a→∃x∈l,cov x t
 od:(l.map fun x=>x.off / 16).Pairwise (· < ·)
theorem RR {d:ByteArray} {a l:List Span} (hl:∀t,AM t l↔(0≤t∧t<d.size)∧¬AM t a) (hc:BG l=0) (hw:B9 l d.size) (ha:Clo d a):LBk d a (DG d 0 l):=by
 have hcn:=JK ((Aj _).1 hc).2.1 hw;have hmem:∀x∈DG d 0 l,∃s∈l,∃q∈cut s.fro s.to,x=raw d 0 q:=fun x hx=>by unfold DG at hx;obtain ⟨s,hs,hx⟩:=mem_flatMap.1 hx;obtain ⟨q,hq,rfl⟩:=mem_map.1 hx;exact ⟨s,hs,q,hq,rfl⟩
 have hsp:∀s∈l,0≤s.fro∧s.fro<s.to∧s.to≤d.size∧s.fro % 16=0∧(s.to % 16=0∨s.to=d.size):=fun s hs=>by
  have h1:=FA hcn s hs;have h2:=hw s hs;obtain ⟨o1,o2⟩:=PG hcn s hs;have m1:AM s.fro l:=(Ez _ _).2 ⟨s,hs,by omega⟩;have m2:AM (s.to-1) l:=(Ez _ _).2 ⟨s,hs,by omega⟩;refine ⟨by omega,h1.2,h2.2,?_,?_⟩
  ·refine Classical.byContradiction fun q=>o1 ((hl _).2 ⟨by omega,fun m => ?_⟩);exact ((hl _).1 m1).2 (ha _ _ m (by omega) (by omega) (by omega))
  ·refine Classical.byContradiction fun q=>o2 ((hl _).2 ⟨by omega,fun m => ?_⟩);exact ((hl _).1 m2).2 (ha _ _ m (by omega) (by omega) (by omega))
 have hblk:∀x∈DG d 0 l,Blk d x∧¬AM x.off a:=fun x hx=>by
  obtain ⟨s,hs,q,hq,rfl⟩:=hmem x hx;obtain ⟨k1,k2,k3,k4,k5⟩:=hsp s hs;have c1:=Gr _ s.fro s.to (le_refl _) q hq;obtain ⟨c2,c3⟩:=Va (n:=d.size) _ s.fro s.to (le_refl _) k1 k4 k5 k3 q hq;refine ⟨⟨by show 0≤q.1;omega,by show q.1<_;omega,c2,?_⟩,fun m => ?_⟩
  ·show ((raw d 0 q).data.size:Int)=if q.1+16<d.size then 16 else d.size-q.1
   simp only [raw,size_extract];split at c3
   ·rw [if_pos (by assumption)];omega
   ·rw [if_neg (by assumption)];omega
  ·exact ((hl q.1).1 ((Ez _ _).2 ⟨s,hs,by omega⟩)).2 m
 refine ⟨hblk,fun t h0 h1 hn => ?_,?_⟩
 ·obtain ⟨s,hs,hst⟩:=(Ez _ _).1 ((hl t).2 ⟨⟨h0,h1⟩,hn⟩);obtain ⟨q,hq,hq2⟩:=PB _ s.fro s.to (le_refl _) t hst.1 hst.2;refine ⟨raw d 0 q,mem_flatMap.2 ⟨s,hs,mem_map_of_mem hq⟩,?_⟩;have c1:=Gr _ s.fro s.to (le_refl _) q hq;have k3:=hsp s hs;unfold cov;show q.1≤t∧t<q.1+((raw d 0 q).data.size:Int);simp only [raw,size_extract];omega
 ·rw [List.pairwise_map];refine List.Pairwise.imp_of_mem ?_ (RP (d:=d) hcn).1;intro x y hx hy hxy;have h1:=(hblk x hx).1;have h2:=(hblk y hy).1;unfold Blk at h1 h2;omega
theorem Ou (ser:Int) (l:List Seg):(Dy ser l).map (fun x=>(x.off,(x.data.size:Int)))=l.map fun x=>(x.off,(x.data.size:Int)):=by
 cases h:l.getLast? with
 |none=>rw [List.getLast?_eq_none_iff.1 h];rfl
 |some x=>
  obtain ⟨pre,rfl⟩:∃pre,l=pre++[x]:=by
   cases l with
   |nil=>cases h
   |cons y l=>
    have:=List.dropLast_concat_getLast (List.cons_ne_nil y l);rw [List.getLast?_eq_some_getLast (List.cons_ne_nil y l),Option.some.injEq] at h;rw [h] at this;exact ⟨_,this.symm⟩
  rw [F2];simp
theorem LBk.of {d:ByteArray} {a:List Span} {l l':List Seg} (h:LBk d a l) (e:l'.map (fun x=>(x.off,(x.data.size:Int)))=l.map fun x=>(x.off,(x.data.size:Int))):LBk d a l':=by
 have hm:∀x∈l',∃y∈l,y.off=x.off∧(y.data.size:Int)=x.data.size:=fun x hx=>by
  have:(x.off,(x.data.size:Int))∈l.map fun x=>(x.off,(x.data.size:Int)):=by rw [← e];exact mem_map_of_mem hx
  obtain ⟨y,hy,e⟩:=mem_map.1 this;injection e with e1 e2;exact ⟨y,hy,e1,e2⟩
 have hm':∀y∈l,∃x∈l',y.off=x.off∧(y.data.size:Int)=x.data.size:=fun y hy=>by
  have:(y.off,(y.data.size:Int))∈l'.map fun x=>(x.off,(x.data.size:Int)):=by rw [e];exact mem_map_of_mem hy
  obtain ⟨x,hx,e⟩:=mem_map.1 this;injection e with e1 e2;exact ⟨x,hx,e1.symm,e2.symm⟩
 refine ⟨fun x hx => ?_,fun t h0 h1 hn => ?_,?_⟩
 ·obtain ⟨y,hy,e1,e2⟩:=hm x hx;obtain ⟨b1,b2⟩:=h.bk y hy;refine ⟨?_,by rw [← e1];exact b2⟩;unfold Blk at b1 ⊢;rw [← e1,← e2];exact b1
 ·obtain ⟨y,hy,hc⟩:=h.al t h0 h1 hn;obtain ⟨x,hx,e1,e2⟩:=hm' y hy;refine ⟨x,hx,?_⟩;unfold cov at hc ⊢;rw [← e1,← e2];exact hc
 ·have:=h.od;have e3:=congrArg (List.map fun q:Int×Int=>q.1 / 16) e;rw [map_map,map_map] at e3;have e4:(l'.map fun x=>x.off / 16)=l.map fun x=>x.off / 16:=e3;rw [e4];exact this
theorem L0.blk {p:Par} {s q:Snd} (hp:POk p) (h:KN p s) (hq:L0 p s q) (hc:complete q=false) (ha:Clo p.d q.acked) :
  LBk p.d q.acked (Ac q)∧∃y z,(Ac q).getLast? = some y∧(DG p.d 0 (Dc q)).getLast? = some z∧y.off=z.off:=by
 have hB:=hq.bat hp h hc;have hn:=h.num hp;have hb:=hq.fo.bat hc (by rw [hq.ser];omega);have hm:∀t,AM t (Dc q)↔(0≤t∧t<p.d.size)∧¬AM t q.acked:=fun t=>by rw [hq.fo.YL,hq.data]
 have hwn:=hq.fo.Rv;rw [hq.data] at hwn;have hR:=RR hm hq.fo.Rw hwn ha;have e0:Ac q=Dy (s.ser+1) (DG p.d 0 (Dc q)):=by have e1:Ac q=CZ q.ses (q.ser+1) q.data (Dc q):=rfl;rw [e1];unfold CZ;rw [if_pos hb,hq.ses,hq.data,hq.ser]
 have e:(Ac q).map (fun x=>(x.off,(x.data.size:Int)))=(DG p.d 0 (Dc q)).map fun x=>(x.off,(x.data.size:Int)):=by rw [e0];exact Ou _ _
 refine ⟨hR.of e,?_⟩;obtain ⟨pre,x,ex,_⟩:=hB.ex;have e2:=congrArg List.getLast? e;rw [List.getLast?_map,List.getLast?_map] at e2;cases hz:(DG p.d 0 (Dc q)).getLast? with
 |none=>
  rw [hz,ex] at e2;simp at e2
 |some z=>
  rw [hz,ex,getLast?_concat] at e2;simp only [map_some,Option.some.injEq] at e2;injection e2 with e3 e4;exact ⟨x,z,by rw [ex];exact getLast?_concat ..,rfl,e3⟩
end Ab
set_option linter.unusedVariables false
set_option linter.unusedSimpArgs false
namespace Ab
open Go
theorem fate_or (n r:Int) (hr:1≤r):(BL n r).head? = some r∨r∉BL n r:=by
 have hm:=emod_nonneg (n / 8) (show r≠0 by omega);unfold BL;split
 ·exact .inl rfl
 ·split
  ·exact .inl rfl
  ·split
   ·refine .inr fun h => ?_;rw [mem_singleton] at h;omega
   ·exact .inr (by simp)
theorem QP {s:Ses} {R:Int} (hR:1≤R) (hk:s.dark=[]):(R∈(B7 s R).1∧(B7 s R).2=s.dist)∨(R∉(B7 s R).1∧(B7 s R).2=s.dist+1∧(0≤s.limit→s.dist<s.limit)):=by
 have e:J8 s.dark s.now=false:=by rw [hk];simp [J8,AM]
 unfold B7;rw [if_neg (by rw [e];simp)];split
 ·exact .inl ⟨by simp,rfl⟩
 ·split
  ·rename_i h;exact .inl ⟨List.mem_of_mem_head? h,rfl⟩
  ·rename_i h;split
   ·exact .inl ⟨by simp,rfl⟩
   ·rcases fate_or (s.picks.getD (s.entered % s.picks.length).toNat 0) R hR with k|k
    ·exact (h k).elim
    ·exact .inr ⟨k,rfl,fun q=>by omega⟩
def TTp (p:Par):Int:=2*p.c.rng+1+tk p.c.rate 16
structure BP (p:Par):Prop where
 dk:p.dk=[]
 l:0≤p.lim∧p.lim≤p.c.loss
 e:p.e=p.b+X4 p.c.rate p.d.size+p.c.loss*TTp p
structure BA (p:Par) (X:Int) (Bl:List Int) (v:Int) (s:Ses):Prop where
 x0:0≤X
 v01:0≤v∧v≤1
 bu:s.snd.busy≤p.b+X4 p.c.rate p.d.size+X*TTp p
 se:s.snd.ser≤1+X
 sn:(s.sent.length:Int)+s.pend.length≤((p.d.size:Int)+15) / 16+X
 di:X+Bl.length+v≤s.dist
 dl:s.dist≤p.lim
 lo:s.dat.lost+s.rep.lost=s.dist
 pb:∀o∈s.pend,Blk p.d o.seg
 fb:∀f∈s.dat.frames,Blk p.d f.seg
 rc:Clo p.d s.rcv.known
 ra:Clo p.d s.snd.acked
 rf:∀f∈s.rep.frames,Clo p.d f.seg.AS
structure BW (p:Par) (Bl:List Int) (v:Int) (ck:Seg) (s:Ses):Prop where
 cb:Blk p.d ck
 pn:∀o∈s.pend,(o.seg.chk=false→o.at_<s.snd.busy)∧(o.seg.chk=true→o.seg=ck)
 cv:∀t:Int,0≤t→t<p.d.size→AM t s.rcv.known∨t / 16∈Bl∨cov ck t∨(∃o∈s.pend,o.seg.chk=false∧cov o.seg t)∨∃f∈s.dat.frames,cov f.seg t∧f.arr<s.snd.busy+p.c.rng
 lz:∃z,(DG p.d 0 (Dc s.snd)).getLast? = some z∧ck.off=z.off
 cs:ck.chk=true∧ck.ser=s.snd.ser
 fc:∀f∈s.dat.frames,f.seg.chk=true→f.seg.ser=s.snd.ser→f.seg=ck
 rq:∀f∈s.rep.frames,f.seg.ser=s.snd.ser→∀t:Int,0≤t→t<p.d.size→AM t f.seg.AS∨t / 16∈Bl
 al:v=0→(∃o∈s.pend,o.seg.chk=true)∨(∃f∈s.dat.frames,f.seg.chk=true∧f.seg.ser=s.snd.ser∧f.arr=s.snd.busy+p.c.rng)∨∃f∈s.rep.frames,f.seg.ser=s.snd.ser∧f.arr=s.snd.busy+2*p.c.rng
def BI (p:Par) (s:Ses):Prop:=∃X Bl v,BA p X Bl v s∧((s.snd.st=1∧∃ck,BW p Bl v ck s)∨(s.snd.st=2∧s.pend=[]∧s.knoAt≤p.e+2*p.c.rng))
theorem Ru {c:BY} {t:Int} {x:Seg} {ds:List Int}:(c.rng∈ds→(B4 c t x ds).lost=c.lost)∧(c.rng∉ds→(B4 c t x ds).lost=c.lost+1):=by simp only [B4,Hj];exact ⟨fun h=>by rw [if_pos h];omega,fun h=>by rw [if_neg h]⟩
theorem BI.tx {p:Par} {s:Ses} {o:Out} {l:List Out} (hp:POk p) (hb:BP p) (h:BI p s) (q1:Inv p s) (q2:s.pend=o::l) (q3:o.at_=s.now):BI p {Cs s o.seg with pend:=l}:=by
 obtain ⟨X,Bl,v,a,w⟩:=h;have hr:=hp.rng;rcases w with ⟨hst,ck,w⟩|⟨_,e,_⟩;rotate_left
 ·rw [e] at q2;cases q2
 have hrd:=q1.rd;have hv:=a.v01;have hdi:=a.di;have hdl:=a.dl;have hlo:=a.lo;have hsn:=a.sn;rw [q2] at hsn;simp only [length_cons] at hsn;obtain ⟨o1,o2,o3,o4,o5⟩:=q1.pd o (by rw [q2];simp);have hob:=a.pb o (by rw [q2];simp);obtain ⟨n1,n2⟩:=w.pn o (by rw [q2];simp);have hD:=QP (s:=s) (R:=s.dat.rng) (by omega) (by rw [q1.dk];exact hb.dk);obtain ⟨L1,L2⟩:=Ru (c:=s.dat) (t:=s.now) (x:=o.seg) (ds:=(B7 s s.dat.rng).1);have hlim:=q1.lim;have hl:=hb.l;have hsn':(((s.sent++[⟨s.now,o.seg⟩]:List Out).length:Nat):Int)+l.length≤((p.d.size:Int)+15) / 16+X:=by simp only [length_append,length_cons,length_nil];omega
 have hfb:∀f∈(Cs s o.seg).dat.frames,Blk p.d f.seg:=fun f hf=>by
  rcases Cj hf with hf|⟨d,hd,rfl⟩
  ·exact a.fb f hf
  ·exact hob
 have hA:∀Bl' v',0≤v'∧v'≤1→X+(Bl':List Int).length+v'≤(B7 s s.dat.rng).2→BA p X Bl' v' {Cs s o.seg with pend:=l}:=fun Bl' v' k1 k2=>
  ⟨a.x0,k1,a.bu,a.se,hsn',k2,by
   show (B7 s s.dat.rng).2≤_;rcases hD with ⟨d1,d2⟩|⟨d1,d2,d3⟩
   ·omega
   ·have:=d3 (by omega);omega,by
   show (B4 s.dat s.now o.seg (B7 s s.dat.rng).1).lost+s.rep.lost=(B7 s s.dat.rng).2;rcases hD with ⟨d1,d2⟩|⟨d1,d2,d3⟩
   ·rw [L1 d1,d2];omega
   ·rw [L2 d1,d2];omega,fun x hx=>a.pb x (by rw [q2];simp [hx]),hfb,a.rc,a.ra,a.rf⟩
 have hold:∀f∈s.dat.frames,f∈(Cs s o.seg).dat.frames:=fun f hf=>CY.2 (.inl hf);have hpn:∀x∈l,(x.seg.chk=false→x.at_<s.snd.busy)∧(x.seg.chk=true→x.seg=ck):=fun x hx=>w.pn x (by rw [q2];simp [hx]);have hfc:∀f∈(Cs s o.seg).dat.frames,f.seg.chk=true→f.seg.ser=s.snd.ser→f.seg=ck:=fun f hf hc hs=>by
  rcases Cj hf with hf|⟨d,hd,rfl⟩
  ·exact w.fc f hf hc hs
  ·exact n2 hc
 cases hc:o.seg.chk with
 |false=>
  have hlt:=n1 hc;rcases hD with ⟨d1,d2⟩|⟨d1,d2,d3⟩
  ·have hg:(⟨s.now+s.dat.rng,s.dat.sent,o.seg⟩:Frame)∈(Cs s o.seg).dat.frames:=CY.2 (.inr ⟨_,d1,rfl⟩);refine ⟨X,Bl,v,hA Bl v hv (by omega),.inl ⟨hst,ck,w.cb,hpn,fun t h0 h1 => ?_,w.lz,w.cs,hfc,w.rq,fun hz => ?_⟩⟩
   ·rcases w.cv t h0 h1 with k|k|k|⟨x,hx,k⟩|⟨f,hf,k⟩
    ·exact .inl k
    ·exact .inr (.inl k)
    ·exact .inr (.inr (.inl k))
    ·rw [q2] at hx;rcases mem_cons.1 hx with rfl|hx
     ·exact .inr (.inr (.inr (.inr ⟨_,hg,k.2,by show s.now+s.dat.rng<s.snd.busy+_;omega⟩)))
     ·exact .inr (.inr (.inr (.inl ⟨x,hx,k⟩)))
    ·exact .inr (.inr (.inr (.inr ⟨f,hold f hf,k⟩)))
   ·rcases w.al hz with ⟨x,hx,k⟩|⟨f,hf,k⟩|k
    ·rw [q2] at hx;rcases mem_cons.1 hx with rfl|hx
     ·rw [hc] at k;cases k
     ·exact .inl ⟨x,hx,k⟩
    ·exact .inr (.inl ⟨f,hold f hf,k⟩)
    ·exact .inr (.inr k)
  ·refine ⟨X,o.seg.off / 16::Bl,v,hA _ v hv (by simp only [length_cons];omega),.inl ⟨hst,ck,w.cb,hpn,fun t h0 h1 => ?_,w.lz,w.cs,hfc,fun f hf hs t h0 h1 => ?_,fun hz => ?_⟩⟩
   ·rcases w.cv t h0 h1 with k|k|k|⟨x,hx,k⟩|⟨f,hf,k⟩
    ·exact .inl k
    ·exact .inr (.inl (mem_cons_of_mem _ k))
    ·exact .inr (.inr (.inl k))
    ·rw [q2] at hx;rcases mem_cons.1 hx with rfl|hx
     ·have:=((hob.cov t).1 k.2).2;exact .inr (.inl (by rw [this];exact mem_cons_self ..))
     ·exact .inr (.inr (.inr (.inl ⟨x,hx,k⟩)))
    ·exact .inr (.inr (.inr (.inr ⟨f,hold f hf,k⟩)))
   ·rcases w.rq f hf hs t h0 h1 with k|k
    ·exact .inl k
    ·exact .inr (mem_cons_of_mem _ k)
   ·rcases w.al hz with ⟨x,hx,k⟩|⟨f,hf,k⟩|k
    ·rw [q2] at hx;rcases mem_cons.1 hx with rfl|hx
     ·rw [hc] at k;cases k
     ·exact .inl ⟨x,hx,k⟩
    ·exact .inr (.inl ⟨f,hold f hf,k⟩)
    ·exact .inr (.inr k)
 |true=>
  have hcv:∀t:Int,0≤t→t<p.d.size→AM t s.rcv.known∨t / 16∈Bl∨cov ck t∨(∃o∈l,o.seg.chk=false∧cov o.seg t)∨∃f∈(Cs s o.seg).dat.frames,cov f.seg t∧f.arr<s.snd.busy+p.c.rng:=fun t h0 h1=>by
   rcases w.cv t h0 h1 with k|k|k|⟨x,hx,k⟩|⟨f,hf,k⟩
   ·exact .inl k
   ·exact .inr (.inl k)
   ·exact .inr (.inr (.inl k))
   ·rw [q2] at hx;rcases mem_cons.1 hx with rfl|hx
    ·rw [hc] at k;cases k.1
    ·exact .inr (.inr (.inr (.inl ⟨x,hx,k⟩)))
   ·exact .inr (.inr (.inr (.inr ⟨f,hold f hf,k⟩)))
  have hat:=o5 hc;rcases hD with ⟨d1,d2⟩|⟨d1,d2,d3⟩
  ·have hg:(⟨s.now+s.dat.rng,s.dat.sent,o.seg⟩:Frame)∈(Cs s o.seg).dat.frames:=CY.2 (.inr ⟨_,d1,rfl⟩);refine ⟨X,Bl,v,hA Bl v hv (by omega),.inl ⟨hst,ck,w.cb,hpn,hcv,w.lz,w.cs,hfc,w.rq,fun hz =>.inr (.inl ⟨_,hg,hc,?_,?_⟩)⟩⟩
   ·show o.seg.ser=_;rw [n2 hc];exact w.cs.2
   ·show s.now+s.dat.rng=s.snd.busy+p.c.rng;omega
  ·exact ⟨X,Bl,1,hA Bl 1 (by omega) (by omega),.inl ⟨hst,ck,w.cb,hpn,hcv,w.lz,w.cs,hfc,w.rq,fun hz=>by omega⟩⟩
theorem BA.rx {p:Par} {s s':Ses} {f:Frame} {l:List Frame} {X:Int} {Bl:List Int} {v:Int} (hp:POk p) (hb:BP p) (a:BA p X Bl v s) (q1:Inv p s) (q3:s.dat.frames=f::l) (hF:RxF p s s' f l) {v':Int} (hv:0≤v'∧v'≤1) (hd:X+Bl.length+v'≤s'.dist):BA p X Bl v' s':=by
 have hr:=hp.rng;have hlim:=q1.lim;have hl:=hb.l;have hdl:=a.dl;have hlo:=a.lo;have hfb:=a.fb f (by rw [q3];simp);have hrc:Clo p.d s'.rcv.known:=by
  intro t t' h h0 h1 he;rw [hF.mem] at h ⊢;rcases h with h|h
  ·exact .inl (a.rc t t' h h0 h1 he)
  ·have:=(hfb.cov t).1 h;exact .inr ((hfb.cov t').2 ⟨⟨h0,h1⟩,by omega⟩)
 have hD:=QP (s:=s) (R:=p.c.rng) (by omega) (by rw [q1.dk];exact hb.dk);obtain ⟨L1,L2⟩:=Ru (c:=s.rep) (t:=s.now) (x:=B3 s.rcv f.seg) (ds:=(B7 s p.c.rng).1);rw [q1.rr] at L1 L2;refine ⟨a.x0,hv,by rw [hF.snd];exact a.bu,by rw [hF.snd];exact a.se,by rw [hF.sent,hF.pend];exact a.sn,hd,?_,?_,by rw [hF.pend];exact a.pb,by rw [hF.dat];exact fun x hx=>a.fb x (by rw [q3];exact mem_cons_of_mem _ hx),hrc,by rw [hF.snd];exact a.ra,?_⟩
 ·cases hc:f.seg.chk with
  |false=>rw [(hF.no hc).2.2.2];exact hdl
  |true=>
   rw [(hF.yes hc).2.2.2.2];rcases hD with ⟨d1,d2⟩|⟨d1,d2,d3⟩
   ·omega
   ·have:=d3 (by omega);omega
 ·rw [hF.dat];cases hc:f.seg.chk with
  |false=>rw [(hF.no hc).2.2.2,(hF.no hc).1];exact hlo
  |true=>
   rw [(hF.yes hc).2.2.2.2,(hF.yes hc).2.1];rcases hD with ⟨d1,d2⟩|⟨d1,d2,d3⟩
   ·rw [L1 d1,d2];exact hlo
   ·rw [L2 d1,d2];show s.dat.lost+(s.rep.lost+1)=_;omega
 ·cases hc:f.seg.chk with
  |false=>rw [(hF.no hc).1];exact a.rf
  |true=>
   rw [(hF.yes hc).2.1];intro x hx;rcases Cj hx with hx|⟨d,hd,rfl⟩
   ·exact a.rf x hx
   ·show Clo p.d (B3 s.rcv f.seg).AS;rw [hF.cl];exact hrc
theorem BI.rx {p:Par} {s s':Ses} {f:Frame} {l:List Frame} (hp:POk p) (hb:BP p) (h:BI p s) (q1:Inv p s) (q3:s.dat.frames=f::l) (q4:f.arr=s.now) (hF:RxF p s s' f l):BI p s':=by
 obtain ⟨X,Bl,v,a,w⟩:=h;have hr:=hp.rng;have hdi:=a.di;have hv:=a.v01;have hD:=QP (s:=s) (R:=p.c.rng) (by omega) (by rw [q1.dk];exact hb.dk);have hdist:s.dist≤s'.dist:=by
  cases hc:f.seg.chk with
  |false=>rw [(hF.no hc).2.2.2];exact Int.le_refl _
  |true=>rw [(hF.yes hc).2.2.2.2];omega
 rcases w with ⟨hst,ck,w⟩|⟨w1,w2,w3⟩;rotate_left
 ·exact ⟨X,Bl,v,a.rx hp hb q1 q3 hF hv (by omega),.inr ⟨by rw [hF.snd];exact w1,by rw [hF.pend];exact w2,by rw [hF.knoAt];exact w3⟩⟩
 have hst':s'.snd.st=1:=by rw [hF.snd];exact hst
 have hfd:=q1.fd;have hcv:∀t:Int,0≤t→t<p.d.size→AM t s'.rcv.known∨t / 16∈Bl∨cov ck t∨(∃o∈s'.pend,o.seg.chk=false∧cov o.seg t)∨∃f∈s'.dat.frames,cov f.seg t∧f.arr<s'.snd.busy+p.c.rng:=fun t h0 h1=>by
  rw [hF.pend,hF.dat,hF.snd,hF.mem];rcases w.cv t h0 h1 with k|k|k|k|⟨g,hg,k⟩
  ·exact .inl (.inl k)
  ·exact .inr (.inl k)
  ·exact .inr (.inr (.inl k))
  ·exact .inr (.inr (.inr (.inl k)))
  ·rw [q3] at hg;rcases mem_cons.1 hg with rfl|hg
   ·exact .inl (.inr k.1)
   ·exact .inr (.inr (.inr (.inr ⟨g,hg,k⟩)))
 have hpn:∀o∈s'.pend,(o.seg.chk=false→o.at_<s'.snd.busy)∧(o.seg.chk=true→o.seg=ck):=by rw [hF.pend,hF.snd];exact w.pn
 have hlz:∃z,(DG p.d 0 (Dc s'.snd)).getLast? = some z∧ck.off=z.off:=by rw [hF.snd];exact w.lz
 have hcs:ck.chk=true∧ck.ser=s'.snd.ser:=by rw [hF.snd];exact w.cs
 have hfc:∀f∈s'.dat.frames,f.seg.chk=true→f.seg.ser=s'.snd.ser→f.seg=ck:=by rw [hF.dat,hF.snd];exact fun g hg=>w.fc g (by rw [q3];exact mem_cons_of_mem _ hg)
 cases hc:f.seg.chk with
 |false=>
  obtain ⟨r1,r2,r3,r4⟩:=hF.no hc;refine ⟨X,Bl,v,a.rx hp hb q1 q3 hF hv (by omega),.inl ⟨hst',ck,w.cb,hpn,hcv,hlz,hcs,hfc,by rw [r1,hF.snd];exact w.rq,fun hz => ?_⟩⟩;rw [hF.pend,hF.dat,hF.snd,r1];rcases w.al hz with k|⟨g,hg,k⟩|k
  ·exact .inl k
  ·rw [q3] at hg;rcases mem_cons.1 hg with rfl|hg
   ·rw [hc] at k;cases k.1
   ·exact .inr (.inl ⟨g,hg,k⟩)
  ·exact .inr (.inr k)
 |true=>
  obtain ⟨y1,y2,y3,y4,y5⟩:=hF.yes hc;have hser:(B3 s.rcv f.seg).ser=f.seg.ser:=rfl;have hrq:∀x∈s'.rep.frames,x.seg.ser=s'.snd.ser→∀t:Int,0≤t→t<p.d.size→AM t x.seg.AS∨t / 16∈Bl:=by
   rw [y2,hF.snd];intro x hx hs t h0 h1;rcases Cj hx with hx|⟨d,hd,rfl⟩
   ·exact w.rq x hx hs t h0 h1
   ·have hs:f.seg.ser=s.snd.ser:=hs;have hck:=w.fc f (by rw [q3];simp) hc hs;have hbu:=(hfd f (by rw [q3];simp)).2.2.2.2 hc hs;show AM t (B3 s.rcv f.seg).AS∨_;rw [hF.cl];rw [hF.mem];rcases w.cv t h0 h1 with k|k|k|⟨o,ho,k⟩|⟨g,hg,k⟩
    ·exact .inl (.inl k)
    ·exact .inr k
    ·exact .inl (.inr (by rw [hck];exact k))
    ·have:=(q1.pd o ho).2;omega
    ·have:=(hfd g hg).2.2.1;omega
  rcases hD with ⟨d1,d2⟩|⟨d1,d2,d3⟩
  ·refine ⟨X,Bl,v,a.rx hp hb q1 q3 hF hv (by omega),.inl ⟨hst',ck,w.cb,hpn,hcv,hlz,hcs,hfc,hrq,fun hz => ?_⟩⟩;rw [hF.pend,hF.dat,hF.snd,y2];rcases w.al hz with k|⟨g,hg,k⟩|⟨g,hg,k⟩
   ·exact .inl k
   ·rw [q3] at hg;rcases mem_cons.1 hg with rfl|hg
    ·exact .inr (.inr ⟨⟨s.now+p.c.rng,s.rep.sent,B3 s.rcv g.seg⟩,CY.2 (.inr ⟨_,d1,rfl⟩),k.2.1,by show s.now+p.c.rng=_;omega⟩)
    ·exact .inr (.inl ⟨g,hg,k⟩)
   ·exact .inr (.inr ⟨g,CY.2 (.inl hg),k⟩)
  ·exact ⟨X,Bl,1,a.rx hp hb q1 q3 hF (by omega) (by omega),.inl ⟨hst',ck,w.cb,hpn,hcv,hlz,hcs,hfc,hrq,fun hz=>by omega⟩⟩
theorem BA.go {p:Par} {s:Ses} {X:Int} {Bl:List Int} {v:Int} (hp:POk p) (a:BA p X Bl v s) (hI:Inv p s) {q:Snd} {l:List Seg} {y:Seg} {Bl':List Int} (hpn:s.pend=[]) (hq:L0 p s.snd q)
  (hl:HM p.d (s.snd.ser+1) l) (hy:l.getLast? = some y) (hbl:∀x∈l,Blk p.d x) (hqa:Clo p.d q.acked) (hz:∃z,(DG p.d 0 (Dc q)).getLast? = some z∧y.off=z.off)
  (hnow:s.now≤s.snd.busy+2*p.c.rng+1) (hX:X+l.length+Bl'.length≤s.dist) (hcv:∀t:Int,0≤t→t<p.d.size→AM t s.rcv.known∨t / 16∈Bl'∨∃x∈l,cov x t) :
  BA p (X+l.length) Bl' 0 {s with snd:=A9 q (Ak p.c.rate s.now l) (s.snd.ser+1),pend:=A1 p.c.rate s.now l}∧BW p Bl' 0 y {s with snd:=A9 q (Ak p.c.rate s.now l) (s.snd.ser+1),pend:=A1 p.c.rate s.now l}:=by
 have hr:=hp.rng;have hn:=hI.sn.num hp;obtain ⟨pre,y',e,e1,e2,e3⟩:=hl.ex;have hyy:y'=y:=by rw [e,getLast?_concat] at hy;exact Option.some.inj hy
 subst hyy;have hlen:1≤l.length:=by rw [e];simp
 have hend:=end_len (r:=p.c.rate) ⟨hr.2.2.1,hr.2.2.2.1⟩ l s.now hl.pc;have hbu:=a.bu;have hsn:=a.sn;rw [hpn] at hsn;simp only [length_nil,natCast_zero,Int.add_zero] at hsn;have hmul:(X+l.length)*TTp p=X*TTp p+(l.length*(2*p.c.rng+1)+l.length*tk p.c.rate 16):=by unfold TTp;rw [Int.add_mul,Int.mul_add (l.length:Int)]
 have hge:1*(2*p.c.rng+1)≤(l.length:Int)*(2*p.c.rng+1):=Int.mul_le_mul_of_nonneg_right (by omega) (by omega);have hx0:=a.x0;have hse:=a.se;have hmem:∀x∈l,∃o∈A1 p.c.rate s.now l,o.seg=x:=fun x hx=>by
  have:x∈(A1 p.c.rate s.now l).map Out.seg:=by rw [Fc];exact hx
  obtain ⟨o,ho,h⟩:=mem_map.1 this;exact ⟨o,ho,h⟩
 have hmem':∀o∈A1 p.c.rate s.now l,o.seg∈l:=fun o ho=>by have:o.seg∈(A1 p.c.rate s.now l).map Out.seg:=mem_map_of_mem ho;rw [Fc] at this;exact this
 refine ⟨⟨by omega,by omega,?_,?_,?_,(show X+(l.length:Int)+Bl'.length+0≤s.dist by omega),a.dl,a.lo,fun o ho=>hbl _ (hmem' o ho),a.fb,a.rc,hqa,a.rf⟩,⟨hbl y' (by rw [e];simp),fun o ho => ?_,fun t h0 h1 => ?_,hz,⟨e1,e2⟩,fun f hf hc hs => ?_,fun f hf hs => ?_,fun _ => ?_⟩⟩
 ·show Ak p.c.rate s.now l≤_;omega
 ·show s.snd.ser+1≤_;omega
 ·show (s.sent.length:Int)+(A1 p.c.rate s.now l).length≤_;rw [CT];omega
 ·have ht:=(hl.pc y' (by rw [e];simp)).Cp (r:=p.c.rate) ⟨hr.2.2.1,hr.2.2.2.1⟩;have hee:Ak p.c.rate s.now l=Ak p.c.rate s.now pre+Cp p.c.rate y':=by rw [e,K6]
  show (_→_<Ak p.c.rate s.now l)∧_;have ho':=ho;simp only [e,EB] at ho';rcases mem_append.1 ho' with ho'|ho'
  ·have:=(Kr (r:=p.c.rate) pre s.now fun x hx=>((hl.pc x (by rw [e];simp [hx])).Cp ⟨hr.2.2.1,hr.2.2.2.1⟩).2).2.1 o ho';have hf:=e3 _ this.2.2;exact ⟨fun _=>by omega,fun q=>by rw [hf] at q;cases q⟩
  ·rw [mem_singleton] at ho';subst ho';exact ⟨fun q=>(by rw [e1] at q;cases q),fun _=>rfl⟩
 ·rcases hcv t h0 h1 with k|k|⟨x,hx,k⟩
  ·exact .inl k
  ·exact .inr (.inl k)
  ·have hx':=hx;rw [e] at hx';rcases mem_append.1 hx' with hx'|hx'
   ·obtain ⟨o,ho,rfl⟩:=hmem x hx;exact .inr (.inr (.inr (.inl ⟨o,ho,e3 _ hx',k⟩)))
   ·rw [mem_singleton] at hx';subst hx';exact .inr (.inr (.inl k))
 ·have:=(hI.fd f hf).2.1;have hs:f.seg.ser=s.snd.ser+1:=hs;omega
 ·have:=(hI.fr f hf).2.1;have hs:f.seg.ser=s.snd.ser+1:=hs;omega
 ·obtain ⟨o,ho,k⟩:=hmem y' (by rw [e];simp);exact .inl ⟨o,ho,by rw [k];exact e1⟩
end Ab
set_option linter.unusedVariables false
set_option linter.unusedSimpArgs false
namespace Ab
open Go
theorem tk_num {r n:Int} (hr:1≤r∧r≤1000) (hn:1≤n∧n≤16):1≤tk r n∧tk r n≤24:=by unfold tk;refine ⟨(Int.le_ediv_iff_mul_le (by omega)).2 (by omega),?_⟩;have h:(n+7+r) / r<25:=(Int.ediv_lt_iff_lt_mul (by omega)).2 (by omega);omega
end Ab
set_option linter.unusedVariables false
set_option linter.unusedSimpArgs false
namespace Ab
open Go
theorem Vj {p:Par} (hp:POk p):2*p.c.rng+2≤TTp p:=by have hr:=hp.rng;have:=tk_num (r:=p.c.rate) (n:=16) (by omega) (by omega);unfold TTp;omega
theorem QH {p:Par} (hp:POk p) (hb:BP p) {k:Int} (hk:k≤p.c.loss):p.b+X4 p.c.rate p.d.size+k*TTp p≤p.e:=by have:=Vj hp;have hr:=hp.rng;have h:=Int.mul_le_mul_of_nonneg_right hk (show 0≤TTp p by omega);have:=hb.e;omega
theorem BA.BT {p:Par} {X:Int} {Bl:List Int} {v:Int} {s:Ses} (a:BA p X Bl v s):BA p X Bl v (Ab.BT s):=
 {a with rf:=fun f hf=>a.rf f (List.mem_of_mem_tail hf)}
theorem BI.ls {p:Par} {s s':Ses} {f:Frame} {l:List Frame} {kt:Int→Int} (hp:POk p) (hb:BP p) (hk:Knw p kt s) (h:BI p s) (q1:Inv p s) (q2:PGt s) (q3:DGt s) (q4:s.rep.frames=f::l) (q5:f.arr=s.now) (q6:LsR p (BT s) f.seg s'):BI p s':=by
 obtain ⟨X,Bl,v,a,w⟩:=h;have hr:=hp.rng;have hn:=q1.sn.num hp;have hdi:=a.di;have hdl:=a.dl;have hv:=a.v01;have hbu:=a.bu;have hlim:=hb.l;obtain ⟨f1,f2,f3,f4,f5⟩:=q1.fr f (by rw [q4];simp);obtain ⟨hQ,hack⟩:=q1.sn.ack hp f1;have hl:(Ab.BT s).rep.frames=l:=by simp [Ab.BT,q4]
 have a':=a.BT;have hcf:=a.rf f (by rw [q4];simp);have hra:Clo p.d (A6 s.snd f.seg).acked:=by
  intro t t' h h0 h1 he;rw [hack] at h ⊢;rcases h with h|h
  ·exact .inl (a.ra t t' h h0 h1 he)
  ·exact .inr (hcf t t' h h0 h1 he)
 rcases w with ⟨hst,ck,w⟩|⟨w1,w2,w3⟩;rotate_left
 ·cases q6 with
  |busy a1=>exact ⟨X,Bl,v,a',.inr ⟨w1,w2,w3⟩⟩
  |same a1 a2=>exact ⟨X,Bl,v,a',.inr ⟨w1,w2,w3⟩⟩
  |done a1 a2 a3 a4=>have:s.snd.st=1:=a2;omega
  |fail a1 a2 a3 a4 a5=>have:s.snd.st=1:=a2;omega
  |send a1 a2 a3 a4 a5=>have:s.snd.st=1:=a2;omega
 have hrq:∀x∈l,x.seg.ser=s.snd.ser→∀t:Int,0≤t→t<p.d.size→AM t x.seg.AS∨t / 16∈Bl:=fun x hx=>w.rq x (by rw [q4];simp [hx]);have keep:(∀g:Frame,g=f→g.seg.ser=s.snd.ser→g.arr=s.snd.busy+2*p.c.rng→False)→BI p (Ab.BT s):=fun hno=>by
  refine ⟨X,Bl,v,a',.inl ⟨hst,ck,w.cb,w.pn,w.cv,w.lz,w.cs,w.fc,by rw [hl];exact hrq,fun hz => ?_⟩⟩;rcases w.al hz with k|k|⟨g,hg,k1,k2⟩
  ·exact .inl k
  ·exact .inr (.inl k)
  ·rw [q4] at hg;rcases mem_cons.1 hg with e|hg
   ·exact (hno g e k1 k2).elim
   ·exact .inr (.inr ⟨g,by rw [hl];exact hg,k1,k2⟩)
 have hdue:=(q1.due hst).2;have hdu:=q1.du hst;have hv1:s.now=s.snd.busy+2*p.c.rng+1→¬s.now<s.snd.busy→v=1:=fun e nb=>by
  refine Classical.byContradiction fun hv' => ?_;rcases w.al (by omega) with ⟨o,ho,k⟩|⟨g,hg,k1,k2,k3⟩|⟨g,hg,k1,k2⟩
  ·rw [DM q1 q2 nb] at ho;cases ho
  ·have:=q3 g hg;omega
  ·have:=(q1.fr g hg).2.2.1;omega
 have hbat:¬s.now<s.snd.busy→s.snd.st=1→f.seg.ser=s.snd.ser→complete (A6 s.snd f.seg)=false→∃y,X+(Ac (A6 s.snd f.seg)).length≤p.c.loss∧
   BA p (X+(Ac (A6 s.snd f.seg)).length) [] 0 {BT s with snd:=A9 (A6 s.snd f.seg) (Ak p.c.rate s.now (Ac (A6 s.snd f.seg))) (s.snd.ser+1),pend:=A1 p.c.rate s.now (Ac (A6 s.snd f.seg))}∧
   BW p [] 0 y {BT s with snd:=A9 (A6 s.snd f.seg) (Ak p.c.rate s.now (Ac (A6 s.snd f.seg))) (s.snd.ser+1),pend:=A1 p.c.rate s.now (Ac (A6 s.snd f.seg))}:=fun a1 a2 a3 a4=>by
  obtain ⟨hL,y,z,y1,y2,y3⟩:=hQ.blk hp q1.sn a4 hra;have hlen:(Ac (A6 s.snd f.seg)).length≤Bl.length:=by
   have:=QG _ Bl hL.od fun k hk=>by
    obtain ⟨x,hx,rfl⟩:=mem_map.1 hk;obtain ⟨b1,b2⟩:=hL.bk x hx;rcases w.rq f (by rw [q4];simp) a3 x.off b1.1 b1.2.1 with m|m
    ·exact (b2 ((hack _).2 (.inr m))).elim
    ·exact m
   rwa [length_map] at this
  refine ⟨y,by omega,?_⟩;refine BA.go (s:=Ab.BT s) (Bl':=[]) hp a' q1.BT (DM (s:=s) q1 q2 a1) hQ (hQ.bat hp q1.sn a4) y1 (fun x hx=>(hL.bk x hx).1) hra ⟨z,y2,y3⟩ (by show s.now≤s.snd.busy+_+1;omega) (by show X+_+0≤s.dist;omega) fun t h0 h1 => ?_;by_cases hm:AM t (A6 s.snd f.seg).acked
  ·refine .inl ?_;rcases (hack t).1 hm with m|m
   ·exact (hk.k2 t m).1
   ·exact (hk.k3 f (by rw [q4];simp) t m).1
  ·exact .inr (.inr (hL.al t h0 h1 hm))
 cases q6 with
 |busy a1=>
  have a1:s.now<s.snd.busy:=a1;exact keep fun g e k1 k2=>by rw [e] at k2;omega
 |same a1 a2=>
  have a2:s.snd.st≠1∨f.seg.ser≠s.snd.ser:=a2;exact keep fun g e k1 k2=>by rw [e] at k1;omega
 |done a1 a2 a3 a4=>
  have a1:¬s.now<s.snd.busy:=a1;have h5:=f5 a3;refine ⟨X,Bl,v,⟨a.x0,a.v01,a.bu,a.se,a.sn,a.di,a.dl,a.lo,a.pb,a.fb,a.rc,hra,a'.rf⟩,.inr ⟨rfl,DM (s:=s) q1 q2 a1,?_⟩⟩;show s.now≤_;by_cases e:s.now=s.snd.busy+2*p.c.rng+1
  ·have:=hv1 e a1;have h1:=QH hp hb (k:=X+1) (by omega);rw [Int.add_mul,Int.one_mul] at h1;have:=Vj hp;omega
  ·omega
 |fail a1 a2 a3 a4 a5=>
  obtain ⟨y,k1,k2,k3⟩:=hbat a1 a2 a3 a4;have h1:=QH hp hb k1;have h2:Ak p.c.rate s.now (Ac (A6 s.snd f.seg))≤_:=k2.bu;have a5:p.e<Ak p.c.rate s.now (Ac (A6 s.snd f.seg)):=a5;omega
 |send a1 a2 a3 a4 a5=>
  obtain ⟨y,k1,k2,k3⟩:=hbat a1 a2 a3 a4;exact ⟨_,[],0,k2,.inl ⟨rfl,y,k3⟩⟩
theorem BI.ex {p:Par} {s s':Ses} (hp:POk p) (hb:BP p) (h:BI p s) (q1:Inv p s) (q2:PGt s) (q3:DGt s) (q4:RGt s) (q5:ExR p s s'):BI p s':=by
 have h0:=h;obtain ⟨X,Bl,v,a,w⟩:=h;have hr:=hp.rng;have hdi:=a.di;have hdl:=a.dl;have hv:=a.v01;have hbu:=a.bu;have hlim:=hb.l;have hQ:=q1.sn.q hp;have hbat:s.snd.st=1→s.snd.due=s.now→complete s.snd=false→∃y,X+1≤p.c.loss∧(BX (Ac s.snd)).length=1∧
   BA p (X+(BX (Ac s.snd)).length) Bl 0 {s with snd:=A9 s.snd (Ak p.c.rate s.now (BX (Ac s.snd))) (s.snd.ser+1),pend:=A1 p.c.rate s.now (BX (Ac s.snd))}∧
   BW p Bl 0 y {s with snd:=A9 s.snd (Ak p.c.rate s.now (BX (Ac s.snd))) (s.snd.ser+1),pend:=A1 p.c.rate s.now (BX (Ac s.snd))}:=fun a1 a2 a3=>by
  have hdue:=(q1.due a1).2;rcases w with ⟨hst,ck,w⟩|⟨w1,_⟩;rotate_left
  ·omega
  have hpn:=DM q1 q2 (by omega);have hv1:v=1:=by
   refine Classical.byContradiction fun hv' => ?_;rcases w.al (by omega) with ⟨o,ho,k⟩|⟨g,hg,k1,k2,k3⟩|⟨g,hg,k1,k2⟩
   ·rw [hpn] at ho;cases ho
   ·have:=q3 g hg;omega
   ·have:=q4 g hg;omega
  obtain ⟨hL,y,z,y1,y2,y3⟩:=hQ.blk hp q1.sn a3 a.ra;have hB:=hQ.bat hp q1.sn a3;obtain ⟨pre,x,ex,e1,e2,e3⟩:=hB.ex;have hxy:x=y:=by rw [ex,getLast?_concat] at y1;exact Option.some.inj y1
  subst hxy;have el:BX (Ac s.snd)=[x]:=by rw [ex,E1]
  have hxm:x∈Ac s.snd:=by rw [ex];simp
  obtain ⟨z',z1,z2⟩:=w.lz;have hzz:z'=z:=by rw [z1] at y2;exact Option.some.inj y2
  rw [hzz] at z2;refine ⟨x,by omega,by rw [el];rfl,BA.go hp a q1 hpn hQ hB.last (by rw [el];rfl) (fun u hu => ?_) a.ra ⟨z,y2,y3⟩ (by omega) (by rw [el];simp only [length_cons,length_nil];omega) fun t h0 h1 => ?_⟩
  ·rw [el,mem_singleton] at hu;subst hu;exact (hL.bk u hxm).1
  ·rcases w.cv t h0 h1 with k|k|k|⟨o,ho,k⟩|⟨f,hf,k1,k2⟩
   ·exact .inl k
   ·exact .inr (.inl k)
   ·refine .inr (.inr ⟨x,by rw [el];simp,?_⟩);have b1:=(hL.bk x hxm).1;have b2:=(w.cb.cov t).1 k;exact (b1.cov t).2 ⟨b2.1,by rw [b2.2,y3,z2]⟩
   ·rw [hpn] at ho;cases ho
   ·have:=q3 f hf;omega
 cases q5 with
 |same a1=>exact h0
 |fail a1 a2 a3=>
  obtain ⟨y,k1,k0,k2,k3⟩:=hbat a1 a2 (q1.due a1).1;have h1:=QH hp hb k1;have h2:Ak p.c.rate s.now (BX (Ac s.snd))≤_:=k2.bu;rw [k0] at h2;have h3:(X+((1:Nat):Int))*TTp p=(X+1)*TTp p:=rfl;omega
 |send a1 a2 a3 a4=>
  obtain ⟨y,k1,k0,k2,k3⟩:=hbat a1 a2 a3;exact ⟨_,Bl,0,k2,.inl ⟨rfl,y,k3⟩⟩
theorem BI.mic {p:Par} {s s':Ses} (hp:POk p) (hb:BP p) (h:(∃kt,Knw p kt s)∧BI p s) (m:Mic p s s'):(∃kt,Knw p kt s')∧BI p s':=by
 obtain ⟨⟨kt,hk⟩,h⟩:=h;refine ⟨hk.mic hp m,?_⟩;cases m with
 |time t q1 q2 q3 q4 q5 q6=>
  obtain ⟨X,Bl,v,a,w⟩:=h;refine ⟨X,Bl,v,{a with},?_⟩;rcases w with ⟨hst,ck,w⟩|w
  ·exact .inl ⟨hst,ck,{w with}⟩
  ·exact .inr w
 |tx o l q1 q2 q3=>exact h.tx hp hb q1 q2 q3
 |rx f l q1 q2 q3 q4=>exact h.rx hp hb q1 q3 q4 (q1.Pt hp q3 q4)
 |ls _ f l q1 q2 q3 q4 q5 q6=>exact BI.ls hp hb hk h q1 q2 q3 q4 q5 q6
 |ex _ q1 q2 q3 q4 q5=>exact h.ex hp hb q1 q2 q3 q4 q5
theorem QS (d:ByteArray):Clo d []:=fun t t' h=>by simp [AM] at h
end Ab
set_option linter.unusedVariables false
set_option linter.unusedSimpArgs false
namespace Ab
open Go
structure DC (p:Par) (s:Ses):Prop where
 pb:∀o∈s.pend,Blk p.d o.seg
 fb:∀f∈s.dat.frames,Blk p.d f.seg∧∃o∈s.sent,o.seg=f.seg∧o.at_+p.c.rng≤f.arr
 rc:Clo p.d s.rcv.known
 ra:Clo p.d s.snd.acked
 rf:∀f∈s.rep.frames,Clo p.d f.seg.AS
 sn:(s.sent.length:Int)+s.pend.length≤8*s.snd.ser
 kn:∀t,AM t s.rcv.known→∃o∈s.sent,cov o.seg t∧o.at_+p.c.rng≤s.now
 tl:∀r∈s.told,I1 p.d r.seg∧∀t,AM t r.seg.AS→∃o∈s.sent,cov o.seg t∧o.at_+p.c.rng≤r.at_
theorem LBk.few {d:ByteArray} {a:List Span} {l:List Seg} (h:LBk d a l) (hd:d.size≤120):l.length≤8:=by
 have:=QG _ [0,1,2,3,4,5,6,7] h.od fun k hk=>by obtain ⟨x,hx,rfl⟩:=mem_map.1 hk;have b:=(h.bk x hx).1;unfold Blk at b;simp only [mem_cons,List.not_mem_nil,or_false];omega
 rwa [length_map] at this
theorem DC.go {p:Par} {s:Ses} {q:Snd} {l:List Seg} (h:DC p s) (hpn:s.pend=[]) (hl:l.length≤8) (hb:∀x∈l,Blk p.d x) (ha:Clo p.d q.acked) :
  DC p {s with snd:=A9 q (Ak p.c.rate s.now l) (s.snd.ser+1),pend:=A1 p.c.rate s.now l}:=by
 refine ⟨fun o ho => ?_,h.fb,h.rc,ha,h.rf,?_,h.kn,h.tl⟩
 ·have:o.seg∈(A1 p.c.rate s.now l).map Out.seg:=mem_map_of_mem ho;rw [Fc] at this;exact hb _ this
 ·have:=h.sn;rw [hpn] at this;simp only [length_nil] at this;show (s.sent.length:Int)+(A1 p.c.rate s.now l).length≤8*(s.snd.ser+1);rw [CT];omega
theorem DC.mic {p:Par} {s s':Ses} (hp:POk p) (h:DC p s) (m:Mic p s s'):DC p s':=by
 have hr:=hp.rng;have hsz:=hp.sz;cases m with
 |time t q1 q2 q3 q4 q5 q6=>
  have hlt:=(Wt.nx hp ⟨q1,q2,q3,q4,q5⟩ q6).1;exact ⟨h.pb,h.fb,h.rc,h.ra,h.rf,h.sn,fun t' ht=>by obtain ⟨o,h1,h2,h3⟩:=h.kn t' ht;exact ⟨o,h1,h2,by show _≤t;omega⟩,h.tl⟩
 |tx o l q1 q2 q3=>
  have hmem:∀x∈s.sent,x∈s.sent++[(⟨s.now,o.seg⟩:Out)]:=fun x hx=>mem_append.2 (.inl hx);have hsn:=h.sn;rw [q2] at hsn;simp only [length_cons] at hsn;refine ⟨fun x hx=>h.pb x (by rw [q2];simp [hx]),fun f hf => ?_,h.rc,h.ra,h.rf,?_,fun t ht => ?_,fun r hr=>⟨(h.tl r hr).1,fun t ht => ?_⟩⟩
  ·rcases Cj hf with hf|⟨d,hd,rfl⟩
   ·obtain ⟨k1,x,k2,k3⟩:=h.fb f hf;exact ⟨k1,x,hmem x k2,k3⟩
   ·have hd:=(q1.del hp).1 d (by rw [← q1.rd];exact hd);exact ⟨h.pb o (by rw [q2];simp),⟨s.now,o.seg⟩,mem_append.2 (.inr (by simp)),rfl,by show s.now+_≤s.now+d;omega⟩
  ·show ((s.sent++[(⟨s.now,o.seg⟩:Out)]).length:Int)+l.length≤8*s.snd.ser;rw [length_append];simp only [length_cons,length_nil];omega
  ·obtain ⟨x,k1,k2⟩:=h.kn t ht;exact ⟨x,hmem x k1,k2⟩
  ·obtain ⟨x,k1,k2⟩:=(h.tl r hr).2 t ht;exact ⟨x,hmem x k1,k2⟩
 |rx f l q1 q2 q3 q4=>
  have hF:=q1.Pt hp q3 q4;obtain ⟨fb1,o,fb2,fb3,fb4⟩:=h.fb f (by rw [q3];simp);have hrc:Clo p.d (rxX (BF s) f.seg).rcv.known:=by
   intro t t' h' h0 h1 he;rw [hF.mem] at h' ⊢;rcases h' with h'|h'
   ·exact .inl (h.rc t t' h' h0 h1 he)
   ·have:=(fb1.cov t).1 h';exact .inr ((fb1.cov t').2 ⟨⟨h0,h1⟩,by omega⟩)
  have hkn:∀t,AM t (rxX (BF s) f.seg).rcv.known→∃o∈s.sent,cov o.seg t∧o.at_+p.c.rng≤s.now:=fun t ht=>by
   rcases (hF.mem t).1 ht with ht|ht
   ·exact h.kn t ht
   ·exact ⟨o,fb2,by rw [fb3];exact ht,by omega⟩
  refine ⟨by rw [hF.pend];exact h.pb,by rw [hF.dat,hF.sent];exact fun x hx=>h.fb x (by rw [q3];exact mem_cons_of_mem _ hx),hrc,by rw [hF.snd];exact h.ra,?_,by rw [hF.sent,hF.pend,hF.snd];exact h.sn,by rw [hF.sent,hF.now];exact hkn,?_⟩
  ·cases hc:f.seg.chk with
   |false=>rw [(hF.no hc).1];exact h.rf
   |true=>
    rw [(hF.yes hc).2.1];intro x hx;rcases Cj hx with hx|⟨d,hd,rfl⟩
    ·exact h.rf x hx
    ·show Clo p.d (B3 s.rcv f.seg).AS;rw [hF.cl];exact hrc
  ·rw [hF.sent];cases hc:f.seg.chk with
   |false=>rw [(hF.no hc).2.1];exact h.tl
   |true=>
    rw [(hF.yes hc).2.2.1];intro r hr;rcases mem_append.1 hr with hr|hr
    ·exact h.tl r hr
    ·rw [mem_singleton] at hr;subst hr;refine ⟨(hF.yes hc).1,fun t ht=>hkn t ?_⟩;rw [← hF.cl];exact ht
 |ls _ f l q1 q2 q3 q4 q5 q6=>
  obtain ⟨f1,f2,f3,f4,f5⟩:=q1.fr f (by rw [q4];simp);obtain ⟨hQ,hack⟩:=q1.sn.ack hp f1;have hcf:=h.rf f (by rw [q4];simp);have hra:Clo p.d (A6 s.snd f.seg).acked:=by
   intro t t' h' h0 h1 he;rw [hack] at h' ⊢;rcases h' with h'|h'
   ·exact .inl (h.ra t t' h' h0 h1 he)
   ·exact .inr (hcf t t' h' h0 h1 he)
  have h':DC p (BT s):={h with rf:=fun f hf=>h.rf f (List.mem_of_mem_tail hf)}
  cases q6 with
  |busy a1=>exact h'
  |same a1 a2=>exact h'
  |done a1 a2 a3 a4=>exact ⟨h.pb,h.fb,h.rc,hra,h'.rf,h.sn,h.kn,h.tl⟩
  |fail a1 a2 a3 a4 a5=>exact ⟨h.pb,h.fb,h.rc,hra,h'.rf,h.sn,h.kn,h.tl⟩
  |send a1 a2 a3 a4 a5=>
   obtain ⟨hL,_⟩:=hQ.blk hp q1.sn a4 hra;exact h'.go (DM (s:=s) q1 q2 a1) (hL.few (by omega)) (fun x hx=>(hL.bk x hx).1) hra
 |ex _ q1 q2 q3 q4 q5=>
  cases q5 with
  |same a1=>exact h
  |fail a1 a2 a3=>exact ⟨h.pb,h.fb,h.rc,h.ra,h.rf,h.sn,h.kn,h.tl⟩
  |send a1 a2 a3 a4=>
   have hdu:=(q1.due a1).2;have hQ:=q1.sn.q hp;obtain ⟨hL,_⟩:=hQ.blk hp q1.sn a3 h.ra;obtain ⟨pre,x,ex,e1,e2,e3⟩:=(hQ.bat hp q1.sn a3).ex;have el:BX (Ac s.snd)=[x]:=by rw [ex,E1]
   refine h.go (DM q1 q2 (by omega)) (by rw [el];simp) (fun y hy => ?_) h.ra;rw [el,mem_singleton] at hy;subst hy;exact (hL.bk y (by rw [ex];simp)).1
theorem dc_ini {p:Par} (hp:POk p) (h:(Bi p.c 0 p.d p.b p.e).2.2=0):DC p (JB p):=by
 obtain ⟨hB,he,g1,g2⟩:=MU hp h;have hr:=hp.rng;have hd:=hp.sz;have hbe:=Ke (ses:=0) (d:=p.d) ⟨by omega,by omega⟩ ⟨by omega,by omega⟩;have ee1:(JB p).pend=A1 p.c.rate p.b (CZ 0 1 p.d (AU p.d)):=g2;have ee2:(JB p).snd=A9 (Br p.c 0 p.d p.e) (Ak p.c.rate p.b (CZ 0 1 p.d (AU p.d))) 1:=g1;have es:(JB p).snd.ser=1:=by rw [ee2];rfl
 have ea:(JB p).snd.acked=[]:=by rw [ee2];rfl
 have hwc:BG (AU p.d)=0:=by rw [Aj];refine ⟨by simp [AU],⟨by simp only;omega,by simp only;omega,trivial⟩,fun x hx => ?_⟩;simp only [AU,mem_singleton] at hx;subst hx;simp only;omega
 have hww:B9 (AU p.d) p.d.size:=fun x hx=>by simp only [AU,mem_singleton] at hx;subst hx;simp only;omega
 have hR:=RR (d:=p.d) (a:=[]) (l:=AU p.d) (fun t=>by simp [AU,AM]) hwc hww (QS _);have e0:CZ 0 1 p.d (AU p.d)=Dy 1 (DG p.d 0 (AU p.d)):=by unfold CZ;rw [if_pos hbe]
 have eo:(CZ 0 1 p.d (AU p.d)).map (fun x=>(x.off,(x.data.size:Int)))=(DG p.d 0 (AU p.d)).map fun x=>(x.off,(x.data.size:Int)):=by rw [e0];exact Ou _ _
 have hL:=hR.of eo;have hlen:=hL.few (by omega);refine ⟨fun o ho => ?_,(fun f hf=>by cases hf),QS _,by rw [ea];exact QS _,(fun f hf=>by cases hf),?_,(fun t ht=>by cases ht),(fun f hf=>by cases hf)⟩
 ·rw [ee1] at ho;have:o.seg∈(A1 p.c.rate p.b (CZ 0 1 p.d (AU p.d))).map Out.seg:=mem_map_of_mem ho;rw [Fc] at this;exact (hL.bk _ this).1
 ·rw [es,ee1,CT];show (0:Int)+_≤_;omega
theorem dc_fin {p:Par} (hp:POk p) (h:(Bi p.c 0 p.d p.b p.e).2.2=0):DC p (DV p):=
 (QJ hp h).1.ind (DC p) (dc_ini hp h) fun s s' k m=>k.mic hp m
end Ab
