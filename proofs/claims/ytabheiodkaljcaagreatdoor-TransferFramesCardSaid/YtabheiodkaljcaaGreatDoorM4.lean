/- A part of the proof: see the last text. -/
import Derived.Test.YtabheiodkaljcaaGreatDoorM3
open Bool (and_eq_true or_eq_true)
open Bool renaming false_eq_true → zD, not_eq_true' → yV, true_eq_false → wM
open ByteArray (size_extract)
open Classical renaming not_forall → wN, not_not → wO
open Int (natCast_zero tdiv tmod toNat toNat_natCast)
open Int renaming emod_lt_of_pos → wP, emod_nonneg → wQ, lt_irrefl → wE
open List (all_cons append_assoc append_nil drop ext_getElem? getElem?_map getElem?_take getElem_mem getElem_of_mem head?_cons head?_nil length map_map map_take mem_append mem_cons_of_mem mem_flatMap mem_map singleton_append take)
open List renaming all_eq_true → zG, cons_append → xB, dropWhile_cons → wR, drop_succ_cons → wS, drop_zero → wT, eq_nil_of_length_eq_zero → zI, foldl_cons → wU, getD_eq_getElem?_getD → xJ, getElem?_append_right → zL, getElem?_cons_zero → zM, getElem?_drop → zN, getElem?_eq_getElem → zO, getElem?_eq_none → zP, getLast?_concat → wV, length_append → zV, length_cons → zW, length_drop → xK, length_eq_zero_iff → wW, length_map → wX, length_nil → zX, length_pos_iff → zY, length_take → zZ, map_append → wY, map_cons → xN, map_drop → wZ, map_nil → vA, mem_cons → xP, mem_of_getElem? → yA, mem_singleton → xW, nil_append → xX, pairwise_cons → wC, replicate → yB, take_length → vC, take_of_length_le → vD
open Nat (add_comm add_sub_cancel add_zero le_trans min_def reduceEqDiff)
open Nat renaming add_assoc → yE, le_refl → yI, lt_or_ge → yL, reduceAdd → wK, zero_add → yR, zero_le → yS
open Option (bind_none map_none map_some)
open Option renaming getD_none → vE, isSome_none → vF, isSome_some → vG
set_option linter.unusedVariables false
namespace Ab
open Go
def DH (x:Span):List Span→List Span
 |[]=>[x]
 |y::l=>if y.fro≤x.to then DH ⟨if y.fro<x.fro then y.fro else x.fro,if y.to>x.to then y.to else x.to⟩ l else x::y::l
def Hf (x:Span):List Span→List Span
 |[]=>DH x []
 |y::l=>if y.to<x.fro then y::Hf x l else DH x (y::l)
theorem Kh {l:List Span} {b:Int} (h:Canon b l):∀y∈l,b<y.fro∧y.fro<y.to:=by
 induction l generalizing b with
 |nil=>simp
 |cons x l ih=>
  intro y hy;rcases xP.1 hy with rfl|hy
  ·exact ⟨h.1,h.2.1⟩
  ·have:=ih h.2.2 y hy;have h1:=h.1;have h2:=h.2.1;omega
theorem JY:∀(l:List Span) (x:Span) (lo:Int),Canon lo l→x.fro<x.to→lo<x.fro→(∀y∈l,x.fro≤y.to)→Canon lo (DH x l)∧∀t,Ac t (DH x l)↔(x.fro≤t∧t<x.to)∨Ac t l
 |[],x,lo,h,h1,h2,h3=>⟨⟨h2,h1,trivial⟩,fun t=>Iff.rfl⟩
 |y::l,x,lo,h,h1,h2,h3=>by
  unfold DH;have hy:=h3 y (by simp);have g1:=h.1;have g2:=h.2.1;split
  ·rename_i hq;obtain ⟨k1,k2⟩:=JY l ⟨if y.fro<x.fro then y.fro else x.fro,if y.to>x.to then y.to else x.to⟩ lo (D4 h.2.2 (by omega)) (by simp only;split<;>split<;>omega) (by simp only;split<;>omega) (fun z hz=>by have:=Kh h.2.2 z hz;simp only;split<;>omega)
   refine ⟨k1,fun t => ?_⟩;rw [k2 t];simp only [Ac];rw [← or_assoc];refine or_congr ?_ Iff.rfl;split<;>split<;>omega
  ·rename_i hq;exact ⟨⟨h2,h1,by omega,h.2.1,h.2.2⟩,fun t=>Iff.rfl⟩
theorem SQ:∀(l:List Span) (x:Span) (lo:Int),Canon lo l→x.fro<x.to→lo<x.fro→Canon lo (Hf x l)∧∀t,Ac t (Hf x l)↔(x.fro≤t∧t<x.to)∨Ac t l
 |[],x,lo,h,h1,h2=>JY [] x lo h h1 h2 (by simp)
 |y::l,x,lo,h,h1,h2=>by
  unfold Hf;split
  ·rename_i hq;obtain ⟨k1,k2⟩:=SQ l x y.to h.2.2 h1 hq;refine ⟨⟨h.1,h.2.1,k1⟩,fun t => ?_⟩;simp only [Ac];rw [k2 t];constructor
   ·rintro (h|h|h)
    ·exact .inr (.inl h)
    ·exact .inl h
    ·exact .inr (.inr h)
   ·rintro (h|h|h)
    ·exact .inr (.inl h)
    ·exact .inl h
    ·exact .inr (.inr h)
  ·rename_i hq;refine JY (y::l) x lo h h1 h2 fun z hz => ?_;rcases xP.1 hz with rfl|hz
   ·omega
   ·have:=Kh h.2.2 z hz;omega
def Gi (a b:List Span):List Span:=b.foldl (fun l x=>Hf x l) a
theorem Mq:∀(b a:List Span) (lo c:Int),Canon lo a→Canon c b→lo≤c→Canon lo (Gi a b)∧∀t,Ac t (Gi a b)↔Ac t a∨Ac t b
 |[],a,lo,c,h,_,_=>⟨h,fun t=>by simp [Gi,Ac]⟩
 |x::b,a,lo,c,h,hb,hc=>by
  have g1:=hb.1;have g2:=hb.2.1;obtain ⟨k1,k2⟩:=SQ a x lo h hb.2.1 (by omega);obtain ⟨m1,m2⟩:=Mq b (Hf x a) lo x.to k1 hb.2.2 (by omega);refine ⟨m1,fun t => ?_⟩;show Ac t (Gi (Hf x a) b)↔_;rw [m2 t,k2 t];simp only [Ac];constructor
  ·rintro ((h|h)|h)
   ·exact .inr (.inl h)
   ·exact .inl h
   ·exact .inr (.inr h)
  ·rintro (h|h|h)
   ·exact .inl (.inr h)
   ·exact .inl (.inl h)
   ·exact .inr h
def He (from_:Int):List Span→List Span
 |[]=>if from_<1152921504606846976 then [⟨from_,1152921504606846976⟩] else []
 |x::l=>if from_<x.fro then ⟨from_,x.fro⟩::He x.to l else He x.to l
theorem R4:∀(l:List Span) (f:Int),Canon (f-1) l→Top l→Canon (f-1) (He f l)∧∀t,Ac t (He f l)↔f≤t∧t<1152921504606846976∧¬Ac t l
 |[],f,h,ht=>by
  unfold He;split
  ·exact ⟨⟨by simp only;omega,by simp only;omega,trivial⟩,fun t=>by simp [Ac]⟩
  ·exact ⟨trivial,fun t=>by simp [Ac];omega⟩
 |x::l,f,h,ht=>by
  have g1:=h.1;have g2:=h.2.1;have g3:=ht x (by simp);obtain ⟨k1,k2⟩:=R4 l x.to (D4 h.2.2 (by omega)) fun y hy=>ht y (by simp [hy]);have hl:∀t,Ac t l→x.to<t:=fun t m=>CB h.2.2 m;unfold He;split
  ·rename_i hq;refine ⟨⟨by simp only;omega,hq,D4 k1 (by simp only;omega)⟩,fun t => ?_⟩;simp only [Ac];rw [k2 t];have:=hl t;constructor
   ·rintro (h|⟨h,h',h''⟩)
    ·refine ⟨h.1,by omega,?_⟩
     rintro (m|m)
     ·omega
     ·have:=this m;omega
    ·refine ⟨by omega,h',?_⟩
     rintro (m|m)
     ·omega
     ·exact h'' m
   ·rintro ⟨h,h',h''⟩
    by_cases hx:t<x.fro
    ·exact .inl ⟨h,hx⟩
    ·refine .inr ⟨?_,h',fun m=>h'' (.inr m)⟩;apply Classical.byContradiction;intro hn;exact h'' (.inl ⟨by omega,by omega⟩)
  ·rename_i hq;refine ⟨D4 k1 (by omega),fun t => ?_⟩;simp only [Ac];rw [k2 t];have:=hl t;constructor
   ·rintro ⟨h,h',h''⟩
    refine ⟨by omega,h',?_⟩
    rintro (m|m)
    ·omega
    ·exact h'' m
   ·rintro ⟨h,h',h''⟩
    refine ⟨?_,h',fun m=>h'' (.inr m)⟩;apply Classical.byContradiction;intro hn;exact h'' (.inl ⟨by omega,by omega⟩)
def mxI (a b:Int):Int:=if b>a then b else a
def mnI (a b:Int):Int:=if b<a then b else a
theorem mxI_ok (a b:Int):a≤mxI a b∧b≤mxI a b∧(mxI a b=a∨mxI a b=b):=by unfold mxI;split<;>omega
theorem mnI_ok (a b:Int):mnI a b≤a∧mnI a b≤b∧(mnI a b=a∨mnI a b=b):=by unfold mnI;split<;>omega
def piece (x y:Span):Option Span:=if mxI x.fro y.fro<mnI x.to y.to then some ⟨mxI x.fro y.fro,mnI x.to y.to⟩ else none
def HY (a o:List Span):List Span:=a.flatMap fun x=>o.filterMap (piece x)
theorem Ki:∀{l l':List Span} {b u:Int},Canon b l→(∀y∈l,y.to≤u)→b≤u→Canon u l'→Canon b (l++l')
 |[],l',b,u,_,_,hb,h'=>D4 h' hb
 |x::l,l',b,u,h,hu,hb,h'=>⟨h.1,h.2.1,Ki h.2.2 (fun y hy=>hu y (by simp [hy])) (hu x (by simp)) h'⟩
theorem mem_append' {t:Int}:∀{l l':List Span},Ac t (l++l')↔Ac t l∨Ac t l'
 |[],l'=>by simp [Ac]
 |x::l,l'=>by simp only [xB,Ac,mem_append' (l:=l),or_assoc]
theorem H8 (x:Span):∀(o:List Span) (c c':Int),Canon c o→(c'<x.fro∨c'≤c)→Canon c' (o.filterMap (piece x))∧(∀y∈o.filterMap (piece x),y.to≤x.to)∧∀t,Ac t (o.filterMap (piece x))↔(x.fro≤t∧t<x.to)∧Ac t o
 |[],c,c',h,hc=>⟨trivial,by simp,fun t=>by simp [Ac]⟩
 |y::o,c,c',h,hc=>by
  have g1:=h.1;have g2:=h.2.1;have q1:=mxI_ok x.fro y.fro;have q2:=mnI_ok x.to y.to;cases hp:piece x y with
  |none=>
   rw [List.filterMap_cons_none hp];obtain ⟨k1,k2,k3⟩:=H8 x o y.to c' h.2.2 (by omega);refine ⟨k1,k2,fun t => ?_⟩;rw [k3 t];simp only [Ac];unfold piece at hp;split at hp
   ·cases hp
   ·rename_i hq;constructor
    ·exact fun h=>⟨h.1,.inr h.2⟩
    ·rintro ⟨h1,h2|h2⟩
     ·exfalso;omega
     ·exact ⟨h1,h2⟩
  |some z=>
   rw [List.filterMap_cons_some hp];unfold piece at hp;split at hp
   ·rename_i hq;cases hp;obtain ⟨k1,k2,k3⟩:=H8 x o y.to (mnI x.to y.to) h.2.2 (by omega);refine ⟨⟨?_,hq,k1⟩,fun w hw => ?_,fun t => ?_⟩
    ·simp only;omega
    ·rcases xP.1 hw with rfl|hw
     ·simp only;omega
     ·exact k2 w hw
    ·simp only [Ac];rw [k3 t];constructor
     ·rintro (h|h)
      ·exact ⟨by omega,.inl (by omega)⟩
      ·exact ⟨h.1,.inr h.2⟩
     ·rintro ⟨h1,h2|h2⟩
      ·exact .inl (by omega)
      ·exact .inr ⟨h1,h2⟩
   ·cases hp
theorem Py:∀(a o:List Span) (lo c:Int),Canon lo a→Canon c o→Canon lo (HY a o)∧∀t,Ac t (HY a o)↔Ac t a∧Ac t o
 |[],o,lo,c,h,ho=>⟨trivial,fun t=>by simp [HY,Ac]⟩
 |x::a,o,lo,c,h,ho=>by
  have g1:=h.1;have g2:=h.2.1;obtain ⟨k1,k2,k3⟩:=H8 x o c lo ho (.inl h.1);obtain ⟨m1,m2⟩:=Py a o x.to c h.2.2 ho;have e:HY (x::a) o=o.filterMap (piece x)++HY a o:=rfl;rw [e];refine ⟨Ki k1 k2 (by omega) m1,fun t => ?_⟩;rw [mem_append',k3 t,m2 t];simp only [Ac];constructor
  ·rintro (⟨h,h'⟩|⟨h,h'⟩)
   ·exact ⟨.inl h,h'⟩
   ·exact ⟨.inr h,h'⟩
  ·rintro ⟨h|h,h'⟩
   ·exact .inl ⟨h,h'⟩
   ·exact .inr ⟨h,h'⟩
def Qh (a b:List Span):List Span:=HY a (He (-1152921504606846976) b)
instance decMem (t:Int):(l:List Span)→Decidable (Ac t l)
 |[]=>.isFalse id
 |x::l=>@instDecidableOr _ _ inferInstance (decMem t l)
def uni (a b:List Span):List Span:=go (fun p q=>p||q) ⟨a,false⟩ ⟨b,false⟩ none
def min_ (a b:List Span):List Span:=go (fun p q=>p && !q) ⟨a,false⟩ ⟨b,false⟩ none
theorem Ip {l:List Span} (h:Canon (-1152921504606846977) l):Sd.Inv ⟨l,false⟩ (-1152921504606846977):=by
 cases l with
 |nil=>rfl
 |cons x l=>exact ⟨by simp only [zD,if_false];exact ⟨h.1,h.2.1⟩,h.2.2⟩
theorem PV {l:List Span} {t:Int}:Sd.mem ⟨l,false⟩ t↔Ac t l:=by cases l<;>simp [Sd.mem,Ac]
theorem Jv {a b:List Span} (ha:Canon (-1152921504606846977) a) (hb:Canon (-1152921504606846977) b):Canon (-1152921504606846977) (uni a b)∧∀t,Ac t (uni a b)↔Ac t a∨Ac t b:=by
 obtain ⟨k1,k2⟩:=VM (fun p q=>p||q) rfl _ ⟨a,false⟩ ⟨b,false⟩ none (-1152921504606846977) (-1152921504606846977) (Nat.lt_succ_self _) (Ip ha) (Ip hb) rfl (fun s e=>by cases e) (fun _=>Int.le_refl _);refine ⟨k1,fun t => ?_⟩;show Ac t (go _ _ _ _)↔_;rw [k2 t];simp only [reduceCtorEq,false_and,exists_false,false_or,EE,PV,or_eq_true];constructor
 ·rintro ⟨_,p,q,h1,h2,h3⟩
  rcases h3 with h3|h3
  ·exact .inl (h1.2 h3)
  ·exact .inr (h2.2 h3)
 ·intro h;refine ⟨?_,_,_,(decide_eq_true_iff (p:=Ac t a)).symm,(decide_eq_true_iff (p:=Ac t b)).symm,?_⟩
  ·rcases h with h|h
   ·have:=CB ha h;omega
   ·have:=CB hb h;omega
  ·rcases h with h|h
   ·exact .inl (decide_eq_true h)
   ·exact .inr (decide_eq_true h)
theorem SJ {a b:List Span} (ha:Canon (-1152921504606846977) a) (hb:Canon (-1152921504606846977) b):Canon (-1152921504606846977) (min_ a b)∧∀t,Ac t (min_ a b)↔Ac t a∧¬Ac t b:=by
 obtain ⟨k1,k2⟩:=VM (fun p q=>p && !q) rfl _ ⟨a,false⟩ ⟨b,false⟩ none (-1152921504606846977) (-1152921504606846977) (Nat.lt_succ_self _) (Ip ha) (Ip hb) rfl (fun s e=>by cases e) (fun _=>Int.le_refl _);refine ⟨k1,fun t => ?_⟩;show Ac t (go _ _ _ _)↔_;rw [k2 t];simp only [reduceCtorEq,false_and,exists_false,false_or,EE,PV,and_eq_true,yV];constructor
 ·rintro ⟨_,p,q,h1,h2,h3,h4⟩
  exact ⟨h1.2 h3,fun h=>by rw [h2.1 h] at h4;cases h4⟩
 ·intro h;refine ⟨?_,_,_,(decide_eq_true_iff (p:=Ac t a)).symm,(decide_eq_true_iff (p:=Ac t b)).symm,decide_eq_true h.1,decide_eq_false h.2⟩;have:=CB ha h.1;omega
theorem QO {l:List Span} (ht:Top l) {b:Int} (h:Canon b l) {t:Int} (m:Ac t l):t<1152921504606846976:=by
 induction l generalizing b with
 |nil=>exact m.elim
 |cons x l ih=>
  rcases m with m|m
  ·have:=ht x (by simp);omega
  ·exact ih (fun y hy=>ht y (by simp [hy])) h.2.2 m
theorem mem_top {l:List Span} {b:Int} (h:Canon b l) (hm:∀t,Ac t l→t<1152921504606846976):Top l:=by
 induction l generalizing b with
 |nil=>intro x hx;cases hx
 |cons x l ih=>
  intro y hy;rcases xP.1 hy with rfl|hy
  ·have:=h.2.1;have:=hm (y.to-1) (.inl ⟨by omega,by omega⟩);omega
  ·exact ih h.2.2 (fun t m=>hm t (.inr m)) y hy
theorem W5 {a b:List Span} (ha:Canon (-1152921504606846977) a) (hb:Canon (-1152921504606846977) b):Gi a b=uni a b:=by obtain ⟨h1,h2⟩:=Mq b a _ _ ha hb (Int.le_refl _);obtain ⟨k1,k2⟩:=Jv ha hb;exact Di h1 k1 fun t=>(h2 t).trans (k2 t).symm
theorem min_eq {a b:List Span} (ha:Canon (-1152921504606846977) a) (hb:Canon (-1152921504606846977) b) (ta:Top a) (tb:Top b):Qh a b=min_ a b:=by
 obtain ⟨o1,o2⟩:=R4 b (-1152921504606846976) (by rw [show (-1152921504606846976:Int)-1 = -1152921504606846977 by omega];exact hb) tb;obtain ⟨h1,h2⟩:=Py a _ _ _ ha o1;obtain ⟨k1,k2⟩:=SJ ha hb;refine Di h1 k1 fun t=>(h2 t).trans (Iff.trans ?_ (k2 t).symm);rw [o2 t];constructor
 ·exact fun h=>⟨h.1,h.2.2.2⟩
 ·intro h;have:=CB ha h.1;exact ⟨h.1,by omega,QO ta ha h.1,h.2⟩
end Ab
namespace Ab
open Go
def HH (g v:Nat) (es:List Span) (ins:Bool) (p q:List Span) (pi:Nat) (pb:Bool) (qi:Nat) (qb:Bool):Heap:=[.box [.func (.func g) [] []],.row false v 2 (es.map Span.enc),.box [.sref 1 v 0 es.length],.box [.t (.bool ins)],.box [],.box [.t (.sl 2 (p.map Span.enc)),.t (tI pi),.t (.bool pb)],.box [.t (.sl 2 (q.map Span.enc)),.t (tI qi),.t (.bool qb)]]
def nx (a:List Span) (i:Nat) (xi:Bool):Option Int:=match a[i]? with
 |none=>none
 |some x=>some (if xi then x.to else x.fro)
def nv (o:Option Int):Int:=o.getD 0
def fin (es:List Span):List Tree:=if 1000<es.length then [.sl 2 [],tI 4] else [.sl 2 (es.map Span.enc),tI 0]
def pi_ (a:List Span) (i:Nat) (xi:Bool) (t:Int):Nat:=if nx a i xi=some t∧xi=true then i+1 else i
def pb (a:List Span) (i:Nat) (xi:Bool) (t:Int):Bool:=if nx a i xi=some t then !xi else xi
def opn (cl:List Span) (o:Option Int):List Span:=match o with
 |none=>cl
 |some s=>cl++[⟨s,0⟩]
def ncl (cl:List Span) (o:Option Int) (t:Int) (now:Bool):List Span:=match o,now with
 |some s,false=>cl++[⟨s,t⟩]
 |_,_=>cl
def nop (o:Option Int) (t:Int) (now:Bool):Option Int:=if now then some (o.getD t) else none
theorem J2 {α:Type} (l:List α) (x y:α) (k:Nat) (h:k=l.length):(l++[x]).set k y=l++[y]:=by
 subst h
 induction l with
 |nil=>rfl
 |cons z l ih=>simp [ih]
def NW (v:Nat) (o:Option Int) (now:Bool):Nat:=match o,now with
 |none,true=>v+1
 |_,_=>v
theorem q1_67_1 (F n:Nat) (ag:(List AV×Heap)→Option (List Tree)) (v:Nat) (es:List Span) (ins:Bool) (a b:List Span) (i j:Nat) (xi yi:Bool) (hi:i≤a.length) :
  I5 F n (([],(HH F v es ins a b i xi j yi)):List AV×Heap) ag=Kz F n ag (([.t (tI (nv (nx a i xi))),.t (.bool (nx a i xi).isSome)],(HH F v es ins a b i xi j yi)):List AV×Heap):=by
 unfold nx nv;by_cases h:i=a.length
 ·subst h;have hx:a[a.length]? = none:=zP (yI _);simp only [I5,HH,vv,vf,wK,hx,beq_self_eq_true,vF,vE]
 ·obtain ⟨x,hx⟩:∃x,a[i]? = some x:=⟨a[i]'(by omega),zO (by omega)⟩
  have h':¬((i:Int)=(a.length:Int)):=by omega
  cases xi<;>simp only [I5,HH,vv,vf,wK,hx,h',beq_iff_eq,Span.enc,vG,Option.getD_some]
theorem q2_67_1 (F n:Nat) (ag:(List AV×Heap)→Option (List Tree)) (m:Int) (fx:Bool) (v:Nat) (es:List Span) (ins:Bool) (a b:List Span) (i j:Nat) (xi yi:Bool) (hj:j≤b.length) :
  Kz F n ag (([.t (tI m),.t (.bool fx)],(HH F v es ins a b i xi j yi)):List AV×Heap)=HN F n ag (([.t (tI m),.t (.bool fx)],(HH F v es ins a b i xi j yi)):List AV×Heap) (([.t (tI (nv (nx b j yi))),.t (.bool (nx b j yi).isSome)],(HH F v es ins a b i xi j yi)):List AV×Heap):=by
 unfold nx nv;by_cases h:j=b.length
 ·subst h;have hx:b[b.length]? = none:=zP (yI _);simp only [Kz,HH,vv,vf,wK,hx,beq_self_eq_true,vF,vE]
 ·obtain ⟨x,hx⟩:∃x,b[j]? = some x:=⟨b[j]'(by omega),zO (by omega)⟩
  have h':¬((j:Int)=(b.length:Int)):=by omega
  cases yi<;>simp only [Kz,HH,vv,vf,wK,hx,h',beq_iff_eq,Span.enc,vG,Option.getD_some]
theorem q3_67_1 (F n:Nat) (ag:(List AV×Heap)→Option (List Tree)) (ox oy:Option Int) (v:Nat) (es:List Span) (ins:Bool) (a b:List Span) (i j:Nat) (xi yi:Bool) :
  HN F n ag (([.t (tI (nv ox)),.t (.bool ox.isSome)],(HH F v es ins a b i xi j yi)):List AV×Heap) (([.t (tI (nv oy)),.t (.bool oy.isSome)],(HH F v es ins a b i xi j yi)):List AV×Heap)=match E2 ox oy with
   |none=>some (fin es)
   |some t=>I8 F n ag (([.t (tI t)],(HH F v es ins a b i xi j yi)):List AV×Heap):=by
 have hl:∀l:List Span,take l.length (List.map Span.enc l)=List.map Span.enc l:=fun l=>by rw [vD (by simp)]
 cases ox with
 |none=>cases oy with
  |none=>
   simp only [HN,K2,HH,vv,vf,reduceCtorEq,wK,E2,nv,vF,vE,fin];by_cases h:1000<es.length
   ·simp only [h,(show (1000:Int)<(es.length:Int) by omega),vv]
   ·simp only [h,(show ¬(1000:Int)<(es.length:Int) by omega),vv,hl]
  |some m=>simp only [HN,K2,Mn,HH,vv,vf,reduceCtorEq,wK,E2,nv,vF,vG,vE,Option.getD_some]
 |some k=>cases oy with
  |none=>simp only [HN,K2,Mn,HH,vv,vf,reduceCtorEq,wK,E2,nv,vF,vG,vE,Option.getD_some]
  |some m=>
   simp only [HN,K2,Mn,HH,vv,vf,reduceCtorEq,wK,E2,nv,vG,Option.getD_some];by_cases h:m<k<;>simp only [h,vv]
theorem q4_67_1 (F n:Nat) (ag:(List AV×Heap)→Option (List Tree)) (t:Int) (v:Nat) (es:List Span) (ins:Bool) (a b:List Span) (i j:Nat) (xi yi:Bool) (hi:i≤a.length) (hl:a.length≤1000) :
  I8 F n ag (([.t (tI t)],(HH F v es ins a b i xi j yi)):List AV×Heap)=I9 F n ag (([.t (tI t)],(HH F v es ins a b i xi j yi)):List AV×Heap) (([],(HH F v es ins a b (pi_ a i xi t) (pb a i xi t) j yi)):List AV×Heap):=by
 unfold pi_ pb nx;by_cases h:i=a.length
 ·subst h;have hx:a[a.length]? = none:=zP (yI _);simp only [I8,Ia,Jq,Jr,HH,vv,vf,reduceCtorEq,wK,hx,beq_self_eq_true]
 ·obtain ⟨x,hx⟩:∃x,a[i]? = some x:=⟨a[i]'(by omega),zO (by omega)⟩
  have h':¬((i:Int)=(a.length:Int)):=by omega
  cases xi
  ·by_cases hq:x.fro=t<;>simp only [I8,Ia,Jq,Jr,HH,vv,vf,wK,hx,h',hq,beq_iff_eq,Span.enc,bne_iff_ne,ne_eq,not_true_eq_false,not_false_eq_true,Option.some.injEq]
  ·by_cases hq:x.to=t<;>simp only [I8,Ia,Jq,Jr,HH,vv,vf,wK,hx,h',hq,beq_iff_eq,Span.enc,bne_iff_ne,ne_eq,not_true_eq_false,not_false_eq_true,Option.some.injEq,AT (show i<4611686018427387904 by omega),Int.natCast_add,nc1]
theorem q5_67_1 (F n:Nat) (ag:(List AV×Heap)→Option (List Tree)) (t:Int) (Hp:Heap) (v:Nat) (es:List Span) (ins:Bool) (a b:List Span) (i j:Nat) (xi yi:Bool) (hj:j≤b.length) (hl:b.length≤1000) :
  I9 F n ag (([.t (tI t)],Hp):List AV×Heap) (([],(HH F v es ins a b i xi j yi)):List AV×Heap)=HO F n ag (([.t (tI t)],Hp):List AV×Heap) (([],(HH F v es ins a b i xi (pi_ b j yi t) (pb b j yi t))):List AV×Heap):=by
 unfold pi_ pb nx;by_cases h:j=b.length
 ·subst h;have hx:b[b.length]? = none:=zP (yI _);simp only [I9,IZ,Jo,Jp,HH,vv,vf,reduceCtorEq,wK,hx,beq_self_eq_true]
 ·obtain ⟨x,hx⟩:∃x,b[j]? = some x:=⟨b[j]'(by omega),zO (by omega)⟩
  have h':¬((j:Int)=(b.length:Int)):=by omega
  cases yi
  ·by_cases hq:x.fro=t<;>simp only [I9,IZ,Jo,Jp,HH,vv,vf,wK,hx,h',hq,beq_iff_eq,Span.enc,bne_iff_ne,ne_eq,not_true_eq_false,not_false_eq_true,Option.some.injEq]
  ·by_cases hq:x.to=t<;>simp only [I9,IZ,Jo,Jp,HH,vv,vf,wK,hx,h',hq,beq_iff_eq,Span.enc,bne_iff_ne,ne_eq,not_true_eq_false,not_false_eq_true,Option.some.injEq,AT (show j<4611686018427387904 by omega),Int.natCast_add,nc1]
theorem q6_67_1 (F n:Nat) (ag:(List AV×Heap)→Option (List Tree)) (t:Int) (Hp:Heap) (cl:List Span) (o:Option Int) (v:Nat) (a b:List Span) (i j:Nat) (xi yi now:Bool) (hl:cl.length≤1000000)
  (hf:AA C n F [Tree.bool xi,Tree.bool yi]=some [Tree.bool now]) :
  HO F n ag (([.t (tI t)],Hp):List AV×Heap) (([],(HH F v (opn cl o) o.isSome a b i xi j yi)):List AV×Heap)=
   ag (([],(HH F (NW v o now) (opn (ncl cl o t now) (nop o t now)) (nop o t now).isSome a b i xi j yi)):List AV×Heap):=by
 have hm:∀l:List Span,take l.length (List.map Span.enc l)=List.map Span.enc l:=fun l=>by rw [vD (by simp)]
 cases o with
 |none=>
  cases now with
  |true=>simp only [HO,K3,Oi,GP,HJ,HH,vv,vf,reduceCtorEq,wK,hf,opn,ncl,nop,NW,vF,vG,hm,wY,xN,vA,Span.enc,(show cl.length+1≤1073741824 by omega),vE,zV,yI]
  |false=>simp only [HO,K3,Oi,GP,HJ,HH,vv,vf,reduceCtorEq,wK,hf,opn,ncl,nop,NW,vF]
 |some s=>
  cases now with
  |true=>simp only [HO,K3,Oi,GP,HJ,HH,vv,vf,reduceCtorEq,wK,hf,opn,ncl,nop,NW,vG,Option.getD_some]
  |false=>
   have e1:w64 (((cl.length+1:Nat):Int)-1)=(cl.length:Int):=by rw [AM (by omega) (by omega)];omega
   have e2:(List.map Span.enc cl++[[tI s,tI 0]])[cl.length]? = some [tI s,tI 0]:=by rw [zL (by simp)];simp
   have e3:(List.map Span.enc cl++[[tI s,tI 0]]).set cl.length [tI s,tI t]=List.map Span.enc cl++[[tI s,tI t]]:=J2 _ _ _ cl.length (by simp);simp only [HO,K3,Oi,GP,HJ,HH,vv,vf,reduceCtorEq,wK,hf,opn,ncl,nop,NW,vF,vG,wY,xN,vA,Span.enc,zV,e1,e2,e3,take,drop,xB,xX,(show (cl.length:Int)<((cl.length+1:Nat):Int) by omega),yI]
theorem q1_67_2 (F n:Nat) (ag:(List AV×Heap)→Option (List Tree)) (v:Nat) (es:List Span) (ins:Bool) (a b:List Span) (i j:Nat) (xi yi:Bool) (hi:i≤a.length) :
  I4 F n (([],(HH F v es ins b a j yi i xi)):List AV×Heap) ag=Kv F n ag (([.t (tI (nv (nx a i xi))),.t (.bool (nx a i xi).isSome)],(HH F v es ins b a j yi i xi)):List AV×Heap):=by
 unfold nx nv;by_cases h:i=a.length
 ·subst h;have hx:a[a.length]? = none:=zP (yI _);simp only [I4,HH,vv,vf,wK,hx,beq_self_eq_true,vF,vE]
 ·obtain ⟨x,hx⟩:∃x,a[i]? = some x:=⟨a[i]'(by omega),zO (by omega)⟩
  have h':¬((i:Int)=(a.length:Int)):=by omega
  cases xi<;>simp only [I4,HH,vv,vf,wK,hx,h',beq_iff_eq,Span.enc,vG,Option.getD_some]
theorem q2_67_2 (F n:Nat) (ag:(List AV×Heap)→Option (List Tree)) (m:Int) (fx:Bool) (v:Nat) (es:List Span) (ins:Bool) (a b:List Span) (i j:Nat) (xi yi:Bool) (hj:j≤b.length) :
  Kv F n ag (([.t (tI m),.t (.bool fx)],(HH F v es ins b a j yi i xi)):List AV×Heap)=HK F n ag (([.t (tI m),.t (.bool fx)],(HH F v es ins b a j yi i xi)):List AV×Heap) (([.t (tI (nv (nx b j yi))),.t (.bool (nx b j yi).isSome)],(HH F v es ins b a j yi i xi)):List AV×Heap):=by
 unfold nx nv;by_cases h:j=b.length
 ·subst h;have hx:b[b.length]? = none:=zP (yI _);simp only [Kv,HH,vv,vf,wK,hx,beq_self_eq_true,vF,vE]
 ·obtain ⟨x,hx⟩:∃x,b[j]? = some x:=⟨b[j]'(by omega),zO (by omega)⟩
  have h':¬((j:Int)=(b.length:Int)):=by omega
  cases yi<;>simp only [Kv,HH,vv,vf,wK,hx,h',beq_iff_eq,Span.enc,vG,Option.getD_some]
theorem q3_67_2 (F n:Nat) (ag:(List AV×Heap)→Option (List Tree)) (ox oy:Option Int) (v:Nat) (es:List Span) (ins:Bool) (a b:List Span) (i j:Nat) (xi yi:Bool) :
  HK F n ag (([.t (tI (nv ox)),.t (.bool ox.isSome)],(HH F v es ins b a j yi i xi)):List AV×Heap) (([.t (tI (nv oy)),.t (.bool oy.isSome)],(HH F v es ins b a j yi i xi)):List AV×Heap)=match E2 ox oy with
   |none=>some (fin es)
   |some t=>I6 F n ag (([.t (tI t)],(HH F v es ins b a j yi i xi)):List AV×Heap):=by
 have hl:∀l:List Span,take l.length (List.map Span.enc l)=List.map Span.enc l:=fun l=>by rw [vD (by simp)]
 cases ox with
 |none=>cases oy with
  |none=>
   simp only [HK,Kw,HH,vv,vf,reduceCtorEq,wK,E2,nv,vF,vE,fin];by_cases h:1000<es.length
   ·simp only [h,(show (1000:Int)<(es.length:Int) by omega),vv]
   ·simp only [h,(show ¬(1000:Int)<(es.length:Int) by omega),vv,hl]
  |some m=>simp only [HK,Kw,Mm,HH,vv,vf,reduceCtorEq,wK,E2,nv,vF,vG,vE,Option.getD_some]
 |some k=>cases oy with
  |none=>simp only [HK,Kw,Mm,HH,vv,vf,reduceCtorEq,wK,E2,nv,vF,vG,vE,Option.getD_some]
  |some m=>
   simp only [HK,Kw,Mm,HH,vv,vf,reduceCtorEq,wK,E2,nv,vG,Option.getD_some];by_cases h:m<k<;>simp only [h,vv]
theorem q4_67_2 (F n:Nat) (ag:(List AV×Heap)→Option (List Tree)) (t:Int) (v:Nat) (es:List Span) (ins:Bool) (a b:List Span) (i j:Nat) (xi yi:Bool) (hi:i≤a.length) (hl:a.length≤1000) :
  I6 F n ag (([.t (tI t)],(HH F v es ins b a j yi i xi)):List AV×Heap)=I7 F n ag (([.t (tI t)],(HH F v es ins b a j yi i xi)):List AV×Heap) (([],(HH F v es ins b a j yi (pi_ a i xi t) (pb a i xi t))):List AV×Heap):=by
 unfold pi_ pb nx;by_cases h:i=a.length
 ·subst h;have hx:a[a.length]? = none:=zP (yI _);simp only [I6,IZ,Jo,Jp,HH,vv,vf,reduceCtorEq,wK,hx,beq_self_eq_true]
 ·obtain ⟨x,hx⟩:∃x,a[i]? = some x:=⟨a[i]'(by omega),zO (by omega)⟩
  have h':¬((i:Int)=(a.length:Int)):=by omega
  cases xi
  ·by_cases hq:x.fro=t<;>simp only [I6,IZ,Jo,Jp,HH,vv,vf,wK,hx,h',hq,beq_iff_eq,Span.enc,bne_iff_ne,ne_eq,not_true_eq_false,not_false_eq_true,Option.some.injEq]
  ·by_cases hq:x.to=t<;>simp only [I6,IZ,Jo,Jp,HH,vv,vf,wK,hx,h',hq,beq_iff_eq,Span.enc,bne_iff_ne,ne_eq,not_true_eq_false,not_false_eq_true,Option.some.injEq,AT (show i<4611686018427387904 by omega),Int.natCast_add,nc1]
theorem q5_67_2 (F n:Nat) (ag:(List AV×Heap)→Option (List Tree)) (t:Int) (Hp:Heap) (v:Nat) (es:List Span) (ins:Bool) (a b:List Span) (i j:Nat) (xi yi:Bool) (hj:j≤b.length) (hl:b.length≤1000) :
  I7 F n ag (([.t (tI t)],Hp):List AV×Heap) (([],(HH F v es ins b a j yi i xi)):List AV×Heap)=HL F n ag (([.t (tI t)],Hp):List AV×Heap) (([],(HH F v es ins b a (pi_ b j yi t) (pb b j yi t) i xi)):List AV×Heap):=by
 unfold pi_ pb nx;by_cases h:j=b.length
 ·subst h;have hx:b[b.length]? = none:=zP (yI _);simp only [I7,Ia,Jq,Jr,HH,vv,vf,reduceCtorEq,wK,hx,beq_self_eq_true]
 ·obtain ⟨x,hx⟩:∃x,b[j]? = some x:=⟨b[j]'(by omega),zO (by omega)⟩
  have h':¬((j:Int)=(b.length:Int)):=by omega
  cases yi
  ·by_cases hq:x.fro=t<;>simp only [I7,Ia,Jq,Jr,HH,vv,vf,wK,hx,h',hq,beq_iff_eq,Span.enc,bne_iff_ne,ne_eq,not_true_eq_false,not_false_eq_true,Option.some.injEq]
  ·by_cases hq:x.to=t<;>simp only [I7,Ia,Jq,Jr,HH,vv,vf,wK,hx,h',hq,beq_iff_eq,Span.enc,bne_iff_ne,ne_eq,not_true_eq_false,not_false_eq_true,Option.some.injEq,AT (show j<4611686018427387904 by omega),Int.natCast_add,nc1]
theorem q6_67_2 (F n:Nat) (ag:(List AV×Heap)→Option (List Tree)) (t:Int) (Hp:Heap) (cl:List Span) (o:Option Int) (v:Nat) (a b:List Span) (i j:Nat) (xi yi now:Bool) (hl:cl.length≤1000000)
  (hf:AA C n F [Tree.bool xi,Tree.bool yi]=some [Tree.bool now]) :
  HL F n ag (([.t (tI t)],Hp):List AV×Heap) (([],(HH F v (opn cl o) o.isSome b a j yi i xi)):List AV×Heap)=
   ag (([],(HH F (NW v o now) (opn (ncl cl o t now) (nop o t now)) (nop o t now).isSome b a j yi i xi)):List AV×Heap):=by
 have hm:∀l:List Span,take l.length (List.map Span.enc l)=List.map Span.enc l:=fun l=>by rw [vD (by simp)]
 cases o with
 |none=>
  cases now with
  |true=>simp only [HL,Kx,Ky,GP,HJ,HH,vv,vf,reduceCtorEq,wK,hf,opn,ncl,nop,NW,vF,vG,hm,wY,xN,vA,Span.enc,(show cl.length+1≤1073741824 by omega),vE,zV,yI]
  |false=>simp only [HL,Kx,Ky,GP,HJ,HH,vv,vf,reduceCtorEq,wK,hf,opn,ncl,nop,NW,vF]
 |some s=>
  cases now with
  |true=>simp only [HL,Kx,Ky,GP,HJ,HH,vv,vf,reduceCtorEq,wK,hf,opn,ncl,nop,NW,vG,Option.getD_some]
  |false=>
   have e1:w64 (((cl.length+1:Nat):Int)-1)=(cl.length:Int):=by rw [AM (by omega) (by omega)];omega
   have e2:(List.map Span.enc cl++[[tI s,tI 0]])[cl.length]? = some [tI s,tI 0]:=by rw [zL (by simp)];simp
   have e3:(List.map Span.enc cl++[[tI s,tI 0]]).set cl.length [tI s,tI t]=List.map Span.enc cl++[[tI s,tI t]]:=J2 _ _ _ cl.length (by simp);simp only [HL,Kx,Ky,GP,HJ,HH,vv,vf,reduceCtorEq,wK,hf,opn,ncl,nop,NW,vF,vG,wY,xN,vA,Span.enc,zV,e1,e2,e3,take,drop,xB,xX,(show (cl.length:Int)<((cl.length+1:Nat):Int) by omega),yI]
end Ab
namespace Ab
open Go
theorem QR (a:List Span) (i:Nat) (xi:Bool):(⟨a.drop i,xi⟩:Sd).next=nx a i xi:=by
 unfold Sd.next nx;have:(a.drop i)[0]? = a[i]? :=by rw [zN];simp
 cases h:a.drop i with
 |nil=>
  rw [h] at this;have hx:a[i]? = none:=this.symm;rw [hx]
 |cons x l=>
  rw [h] at this;have hx:a[i]? = some x:=this.symm;rw [hx]
theorem Us (a:List Span) (i:Nat) (xi:Bool) (t:Int):(⟨a.drop i,xi⟩:Sd).pass t=⟨a.drop (pi_ a i xi t),pb a i xi t⟩:=by
 unfold Sd.pass pi_ pb;rw [QR];by_cases h:nx a i xi=some t
 ·cases xi<;>simp [h]
 ·simp [h]
theorem nx_lt {a:List Span} {i:Nat} {xi:Bool} {t:Int} (h:nx a i xi=some t):i<a.length:=by
 unfold nx at h;split at h
 ·cases h
 ·rename_i x hx;exact AN hx
theorem VA {a:List Span} {i:Nat} {xi:Bool} (h:nx a i xi=none):a.length≤i:=by
 unfold nx at h;split at h
 ·rename_i hx;exact List.getElem?_eq_none_iff.1 hx
 ·cases h
theorem pi_le {a:List Span} {i:Nat} {xi:Bool} {t:Int} (hi:i≤a.length) (he:i=a.length→xi=false):pi_ a i xi t≤a.length∧(pi_ a i xi t=a.length→pb a i xi t=false):=by
 unfold pi_ pb;by_cases h:nx a i xi=some t
 ·have:=nx_lt h;cases xi
  ·simp [h];omega
  ·simp [h];omega
 ·simp [h];exact ⟨hi,he⟩
theorem Mz (f:Bool→Bool→Bool) (hff:f false false=false) (a b:List Span) (Hs:Nat→List Span→Bool→Nat→Bool→Nat→Bool→Heap) (body:(List AV×Heap)→((List AV×Heap)→Option (List Tree))→Option (List Tree))
  (hstep:∀ag v cl o i xi j yi,i≤a.length→j≤b.length→cl.length≤1000000→body (([],Hs v (opn cl o) o.isSome i xi j yi):List AV×Heap) ag=match E2 (nx a i xi) (nx b j yi) with
   |none=>some (fin (opn cl o))
   |some t=>ag (([],Hs (NW v o (f (pb a i xi t) (pb b j yi t))) (opn (ncl cl o t (f (pb a i xi t) (pb b j yi t))) (nop o t (f (pb a i xi t) (pb b j yi t)))) (nop o t (f (pb a i xi t) (pb b j yi t))).isSome (pi_ a i xi t) (pb a i xi t) (pi_ b j yi t) (pb b j yi t)):List AV×Heap)) :
  ∀k v cl o i xi j yi,i≤a.length→j≤b.length→(i=a.length→xi=false)→(j=b.length→yi=false)→o.isSome=f xi yi→cl.length+(Sd.sz ⟨a.drop i,xi⟩+Sd.sz ⟨b.drop j,yi⟩)≤1000000→Sd.sz ⟨a.drop i,xi⟩+Sd.sz ⟨b.drop j,yi⟩<k→
   AH body k (([],Hs v (opn cl o) o.isSome i xi j yi):List AV×Heap)=some (fin (cl++go f ⟨a.drop i,xi⟩ ⟨b.drop j,yi⟩ o)):=by
 intro k
 induction k with
 |zero=>intro v cl o i xi j yi h1 h2 h3 h4 h5 h6 h7;omega
 |succ k ih=>
  intro v cl o i xi j yi h1 h2 h3 h4 h5 h6 h7;show body _ (AH body k)=_;rw [hstep _ v cl o i xi j yi h1 h2 (by omega)];have e1:=QR a i xi;have e2:=QR b j yi;cases h:E2 (nx a i xi) (nx b j yi) with
  |none=>
   obtain ⟨g1,g2⟩:=PA h;have:=VA g1;have:=VA g2;rw [h3 (by omega),h4 (by omega),hff] at h5;obtain rfl:o=none:=by cases o<;>simp at h5 ⊢
   rw [VO (by rw [e1,e2];exact h)];simp [opn]
  |some t=>
   have h':E2 (Sd.next ⟨a.drop i,xi⟩) (Sd.next ⟨b.drop j,yi⟩)=some t:=by rw [e1,e2];exact h
   have p1:=Us a i xi t;have p2:=Us b j yi t;obtain ⟨m1,_,_⟩:=Ie h';have z1:=Sd.Ij ⟨a.drop i,xi⟩ t;have z2:=Sd.Ij ⟨b.drop j,yi⟩ t;rw [p1] at z1;rw [p2] at z2;have hsz:Sd.sz ⟨a.drop (pi_ a i xi t),pb a i xi t⟩+Sd.sz ⟨b.drop (pi_ b j yi t),pb b j yi t⟩<Sd.sz ⟨a.drop i,xi⟩+Sd.sz ⟨b.drop j,yi⟩:=by
    rcases m1 with m|m
    ·have:=z1.2 m;omega
    ·have:=z2.2 m;omega
   have hcl:(ncl cl o t (f (pb a i xi t) (pb b j yi t))).length≤cl.length+1:=by unfold ncl;split<;>simp
   have hno:(nop o t (f (pb a i xi t) (pb b j yi t))).isSome=f (pb a i xi t) (pb b j yi t):=by unfold nop;split<;>simp_all
   simp only;obtain ⟨b1,b2⟩:=pi_le (t:=t) h1 h3;obtain ⟨b3,b4⟩:=pi_le (t:=t) h2 h4;rw [ih _ _ _ _ _ _ _ b1 b3 b2 b4 hno (by omega) (by omega)];rw [VN h',p1,p2];simp only;congr 2;cases hnow:f (pb a i xi t) (pb b j yi t) with
   |true=>cases o<;>simp [ncl,nop]
   |false=>cases o<;>simp [ncl,nop]
theorem Un (F n:Nat) (op:Bool→Bool→Bool) (h0:op false false=false) (a b:List Span) (ha:a.length≤1000) (hb:b.length≤1000) (hf:∀xi yi,AA C n F [Tree.bool xi,Tree.bool yi]=some [Tree.bool (op xi yi)]) (hn:5000≤n) :
  AH (fun (p:List AV×Heap) again=>I5 F n p again) n (([],HH F 0 [] false a b 0 false 0 false):List AV×Heap)=some (fin (go op ⟨a,false⟩ ⟨b,false⟩ none)):=by
 have:=Mz op h0 a b (fun v es ins i xi j yi=>HH F v es ins a b i xi j yi) (fun (p:List AV×Heap) again=>I5 F n p again) (fun ag v cl o i xi j yi hi hj hc=>by
  rw [q1_67_1 F n ag v (opn cl o) o.isSome a b i j xi yi hi,q2_67_1 F n ag _ _ v (opn cl o) o.isSome a b i j xi yi hj,q3_67_1 F n ag (nx a i xi) (nx b j yi) v (opn cl o) o.isSome a b i j xi yi];cases htm:E2 (nx a i xi) (nx b j yi) with
  |none=>rfl
  |some t=>
   simp only;rw [q4_67_1 F n ag t v (opn cl o) o.isSome a b i j xi yi hi ha,q5_67_1 F n ag t _ v (opn cl o) o.isSome a b _ j _ yi hj hb,q6_67_1 F n ag t _ cl o v a b _ _ _ _ _ hc (hf _ _)]) n 0 [] none 0 false 0 false (yS _) (yS _) (fun _=>rfl) (fun _=>rfl) h0.symm (by simp only [Sd.sz,wT,zX,zD,if_false];omega) (by simp only [Sd.sz,wT,zD,if_false];omega)
 simpa [opn] using this
theorem Um (F n:Nat) (op:Bool→Bool→Bool) (h0:op false false=false) (a b:List Span) (ha:a.length≤1000) (hb:b.length≤1000) (hf:∀xi yi,AA C n F [Tree.bool xi,Tree.bool yi]=some [Tree.bool (op xi yi)]) (hn:5000≤n) :
  AH (fun (p:List AV×Heap) again=>I4 F n p again) n (([],HH F 0 [] false b a 0 false 0 false):List AV×Heap)=some (fin (go op ⟨a,false⟩ ⟨b,false⟩ none)):=by
 have:=Mz op h0 a b (fun v es ins i xi j yi=>HH F v es ins b a j yi i xi) (fun (p:List AV×Heap) again=>I4 F n p again) (fun ag v cl o i xi j yi hi hj hc=>by
  rw [q1_67_2 F n ag v (opn cl o) o.isSome a b i j xi yi hi,q2_67_2 F n ag _ _ v (opn cl o) o.isSome a b i j xi yi hj,q3_67_2 F n ag (nx a i xi) (nx b j yi) v (opn cl o) o.isSome a b i j xi yi];cases htm:E2 (nx a i xi) (nx b j yi) with
  |none=>rfl
  |some t=>
   simp only;rw [q4_67_2 F n ag t v (opn cl o) o.isSome a b i j xi yi hi ha,q5_67_2 F n ag t _ v (opn cl o) o.isSome a b _ j _ yi hj hb,q6_67_2 F n ag t _ cl o v a b _ _ _ _ _ hc (hf _ _)]) n 0 [] none 0 false 0 false (yS _) (yS _) (fun _=>rfl) (fun _=>rfl) h0.symm (by simp only [Sd.sz,wT,zX,zD,if_false];omega) (by simp only [Sd.sz,wT,zD,if_false];omega)
 simpa [opn] using this
theorem s212 (p q:Bool):AK C 212 [.bool p,.bool q] [.bool (p||q)]:=AK.of (fun n=>e212 n _ _) (Ev.of fun n=>by cases p<;>simp [AB])
theorem s155 (p q:Bool):AK C 155 [.bool p,.bool q] [.bool (p && !q)]:=AK.of (fun n=>e155 n _ _) (Ev.of fun n=>by cases p<;>simp [AB])
theorem P6 {P:Nat→Bool→Bool→Prop} (h:∀p q,Ev fun n=>P n p q):Ev fun n=>∀p q,P n p q:=
 ((h false false).and ((h false true).and ((h true false).and (h true true)))).mono fun n x p q=>by
  cases p<;>cases q
  ·exact x.1
  ·exact x.2.1
  ·exact x.2.2.1
  ·exact x.2.2.2
def K7 (a b:List Span):List Tree:=if A4 a=0∧A4 b=0 then fin (uni a b) else [.sl 2 [],tI 1]
def LQ (a b:List Span):List Tree:=if A4 a=0∧A4 b=0 then fin (min_ a b) else [.sl 2 [],tI 1]
theorem s183 (a b:List Span):AK C 183 [.sl 2 (a.map Span.enc),.sl 2 (b.map Span.enc)] (K7 a b):=by
 refine AK.of (fun n=>e183 n _ _) ?_;refine ((s67 a).and ((s67 b).and ((P6 s212).and (Ev.ge 5000)))).mono fun n h => ?_;obtain ⟨h1,h2,h3,h4⟩:=h;simp only [h1,h2,vv,vf,K7];by_cases ha:A4 a=0
 ·by_cases hb:A4 b=0
  ·have k1:=Un 212 n (fun xi yi=>xi||yi) rfl a b (BA ha) (BA hb) h3 h4;have k2:=Um 212 n (fun xi yi=>xi||yi) rfl a b (BA ha) (BA hb) h3 h4;simp only [HH,vA,zX] at k1 k2;simp only [ha,hb,bne_self_eq_false,F8,vv,vf];simp only [natCast_zero] at k1 k2;rw [k1,k2,AF];rfl
  ·simp [ha,hb,AB,F8,O4,AE,BF]
 ·simp [ha,AB,F8,O4,AE,BF]
theorem s141 (a b:List Span):AK C 141 [.sl 2 (a.map Span.enc),.sl 2 (b.map Span.enc)] (LQ a b):=by
 refine AK.of (fun n=>e141 n _ _) ?_;refine ((s67 a).and ((s67 b).and ((P6 s155).and (Ev.ge 5000)))).mono fun n h => ?_;obtain ⟨h1,h2,h3,h4⟩:=h;simp only [h1,h2,vv,vf,LQ];by_cases ha:A4 a=0
 ·by_cases hb:A4 b=0
  ·have k1:=Un 155 n (fun xi yi=>xi && !yi) rfl a b (BA ha) (BA hb) h3 h4;have k2:=Um 155 n (fun xi yi=>xi && !yi) rfl a b (BA ha) (BA hb) h3 h4;simp only [HH,vA,zX] at k1 k2;simp only [ha,hb,bne_self_eq_false,F8,vv,vf];simp only [natCast_zero] at k1 k2;rw [k1,k2,AF];rfl
  ·simp [ha,hb,AB,F8,O4,AE,BF]
 ·simp [ha,AB,F8,O4,AE,BF]
end Ab
namespace Ab
open Go
theorem s133 (l:List Span):AK C 133 [.sl 2 (l.map Span.enc)] (fin l):=by
 refine AK.of (fun n=>e133 n _) (Ev.of fun n => ?_);unfold fin;by_cases h:1000<l.length
 ·simp only [vv,h,(show (1000:Int)<(l.length:Int) by omega)]
 ·simp only [vv,h,(show ¬(1000:Int)<(l.length:Int) by omega)]
theorem s132 (a b:List Span):AK C 132 [.sl 2 (a.map Span.enc),.sl 2 (b.map Span.enc)] [.bool (decide (¬(A4 a=0∧A4 b=0)))]:=by
 refine AK.of (fun n=>e132 n _ _) ?_;refine ((s31 a).and (s31 b)).mono fun n h => ?_;simp only [h.1,h.2,vv,vf];by_cases ha:A4 a=0
 ·by_cases hb:A4 b=0<;>simp [ha,hb,AB]
 ·simp [ha,AB]
def mg (x y:Span):Span:=⟨if y.fro<x.fro then y.fro else x.fro,if y.to>x.to then y.to else x.to⟩
theorem Ci (l:List Span):take l.length (List.map Span.enc l)=List.map Span.enc l:=by rw [vD (by simp)]
theorem Pd (l:List Span) (i:Nat) (hi:i≤l.length) (hl:l.length≤1000000) (x:Span) (p3:List AV×Heap) (h1:A0 p3 0=i) (h2:Bu p3 0=0) (h3:Ah p3 0=i) :
  Ev fun n=>AH (fun (p9:List AV×Heap) again=>En n (l.map Span.enc) p3 p9 again) n (([.t (tI i)],[.box [.t (tI x.fro),.t (tI x.to)],.row false i 2 ((l.take i).map Span.enc)]):List AV×Heap)=some [.sl 2 ((l.take i++DH x (l.drop i)).map Span.enc)]:=by
 have key:=AZ (R:=List Tree) (B:=fun n p again=>En n (l.map Span.enc) p3 p again) (s:=(([.t (tI i)],[.box [.t (tI x.fro),.t (tI x.to)],.row false i 2 ((l.take i).map Span.enc)]):List AV×Heap))
  (fun (q:List Span)=>[Tree.sl 2 ((l.take i++q).map Span.enc)]) (l.drop i) (fun j (s:Span)=>(([.t (tI ((i+j:Nat):Int))],[.box [.t (tI s.fro),.t (tI s.to)],.row false i 2 ((l.take i).map Span.enc)]):List AV×Heap))
  (fun j s y=>if y.fro≤s.to then .next (mg s y) else .done (s::l.drop (i+j))) (fun s=>[s]) (fun _ _=>True) x rfl trivial (r:=DH x (l.drop i)) ?_ (fun j s y hy hI=>Ev.of fun n again => ?_) (fun _ _ _ _ _ _ _=>trivial) (fun s hI=>Ev.of fun n again => ?_)
 ·exact key
 ·have:∀(k:Nat) (m:List Span) (s:Span),m=l.drop (i+k)→BX (fun j s y=>if y.fro≤s.to then (.next (mg s y):Rd Span (List Span)) else .done (s::l.drop (i+j))) (fun s=>[s]) k m s=DH s m:=by
   intro k m
   induction m generalizing k with
   |nil=>intro s _;rfl
   |cons y m ih=>
    intro s hm;have hm':m=l.drop (i+(k+1)):=by have:=congrArg List.tail hm;simpa [List.tail_drop,yE] using this
    unfold DH;simp only [BX];split
    ·rename_i s' hs;split at hs
     ·rename_i hq;cases hs;rw [if_pos hq];exact ih (k+1) _ hm'
     ·cases hs
    ·rename_i r hs;split at hs
     ·cases hs
     ·rename_i hq;cases hs;rw [if_neg hq,← hm]
  exact this 0 _ x rfl
 ·have hj:=AN hy;rw [xK] at hj;have hy':l[i+j]? = some y:=by rw [zN] at hy;exact hy
  have ek:((l.take i).length)=i:=by simp;omega
  have e1:((i+j:Nat):Int)<(l.length:Int):=by omega
  have e2:((i+j:Nat):Int)≤(l.length:Int):=by omega
  have e3:take i (List.map Span.enc (take i l))=List.map Span.enc (take i l):=by rw [vD (by simp;omega)]
  have e4:(i+1)≤1073741824:=by omega
  have e5:¬(length (drop (i+j) (take l.length (List.map Span.enc l)))=0∧i+1<length (List.map Span.enc (take i l))+1):=by simp;omega
  by_cases hq:y.fro≤s.to
  ·simp only [En,HQ,vv,vf,reduceCtorEq,wK,hy',e1,Span.enc,hq,mg,AT (show i+j<4611686018427387904 by omega),Rd.AR,yE]
  ·simp only [En,HQ,vv,vf,reduceCtorEq,hy',e1,e2,Span.enc,hq,h1,h2,h3,e3,e4,ek,Rd.Aj,yI];simp only [AB];have e6:(List.map Span.enc (take i l)).length=i:=by simp;omega
   have e7:take (l.length) (List.map Span.enc l)=List.map Span.enc l:=Ci l;simp [e7,Span.enc];have eA:(take i (List.map Span.enc l)).length=i:=by simp;omega
   rw [if_neg (by omega),if_pos ⟨by omega,by omega⟩,vD (l:=take i (List.map Span.enc l)++[[tI s.fro,tI s.to]]) (by simp;omega),vD (by simp;omega)];simp
 ·have ej:i+(l.drop i).length=l.length:=by rw [xK];omega
  simp only [ej,En,HQ,vv,vf,reduceCtorEq,wE,h1,h2,h3];simp only [AB];have ek:((l.take i).length)=i:=by simp;omega
  have e3:take i (List.map Span.enc (take i l))=List.map Span.enc (take i l):=by rw [vD (by simp;omega)]
  have ed:drop l.length (take l.length (List.map Span.enc l))=[]:=by simp
  rw [e3,ed];rw [if_pos ⟨by omega,by omega⟩,if_pos (Int.le_refl _),if_neg (by simp;omega),if_pos ⟨by simp;omega,by simp;omega⟩];rw [append_nil,vD (l:=List.map Span.enc (take i l)++[[tI s.fro,tI s.to]]) (by simp;omega),vD (by simp;omega)];simp [Span.enc]
theorem Xd (l:List Span) (x:Span) (hl:l.length≤1000000):AK C 1000030 [.sl 2 (l.map Span.enc),tI x.fro,tI x.to] [.sl 2 ((Hf x l).map Span.enc)]:=by
 refine AK.of (fun n=>Yl n _ _ _) ?_;refine AZ (fun (q:List Span)=>[Tree.sl 2 (q.map Span.enc)]) l (fun i (_:Unit)=>(([.sref 1 i 0 i,.t (tI i)],[.box [.t (tI x.fro),.t (tI x.to)],.row false i 2 ((l.take i).map Span.enc)]):List AV×Heap))
  (fun i _ y=>if y.to<x.fro then .next () else .done (l.take i++DH x (l.drop i))) (fun _=>l++DH x []) (fun _ _=>True) () rfl trivial ?_ (fun i s y hy hI => ?_) (fun _ _ _ _ _ _ _=>trivial) (fun s hI => ?_)
 ·have:∀(m pre:List Span),l=pre++m→BX (fun i (_:Unit) y=>if y.to<x.fro then (.next ():Rd Unit (List Span)) else .done (l.take i++DH x (l.drop i))) (fun _=>l++DH x []) pre.length m ()=pre++Hf x m:=by
   intro m
   induction m with
   |nil=>intro pre h;simp [BX,Hf,h]
   |cons y m ih=>
    intro pre h;unfold Hf;simp only [BX];have:=ih (pre++[y]) (by simp [h]);simp only [zV,zW,zX,yR] at this;split
    ·rename_i s' hs;split at hs
     ·rename_i hq;rw [if_pos hq];rw [this];simp
     ·cases hs
    ·rename_i r hs;split at hs
     ·cases hs
     ·rename_i hq;cases hs;rw [if_neg hq];have e1:l.take pre.length=pre:=by rw [h];simp
      have e2:l.drop pre.length=y::m:=by rw [h];simp
      rw [e1,e2]
  exact this l [] rfl
 ·have hi:=AN hy;have k2:=Pd l i (by omega) hl x (([.sref 1 i 0 i,.t (tI i)],[.box [.t (tI x.fro),.t (tI x.to)],.row false i 2 ((l.take i).map Span.enc)]):List AV×Heap) rfl rfl rfl;refine k2.mono fun n h2 again => ?_;have e1:(i:Int)<(l.length:Int):=by omega
  have ek:((l.take i).length)=i:=by simp;omega
  have e3:take i (List.map Span.enc (take i l))=List.map Span.enc (take i l):=by rw [vD (by simp;omega)]
  have e4:take (i+1) l=take i l++[y]:=by rw [List.take_add_one,hy];rfl
  by_cases hq:y.to<x.fro
  ·simp only [HE,HP,vv,vf,reduceCtorEq,wK,hy,e1,Span.enc,hq,AT (show i<4611686018427387904 by omega),Rd.AR,ek,e3,(show i+1≤1073741824 by omega),yI];rw [e4,wY];rfl
  ·simp only [HE,HP,vv,vf,reduceCtorEq,wK,hy,e1,Span.enc,hq,Rd.Aj];exact h2
 ·have k2:=Pd l l.length (yI _) hl x (([.sref 1 l.length 0 l.length,.t (tI l.length)],[.box [.t (tI x.fro),.t (tI x.to)],.row false l.length 2 ((l.take l.length).map Span.enc)]):List AV×Heap) rfl rfl rfl;refine k2.mono fun n h2 again => ?_;simp only [HE,HP,vv,vf,reduceCtorEq,wK,wE];simpa using h2
theorem No (x:Span):∀l,(Hf x l).length≤l.length+1
 |[]=>by simp [Hf,DH]
 |y::l=>by
  unfold Hf;split
  ·simp;exact No x l
  ·have:∀(m:List Span) (z:Span),(DH z m).length≤m.length+1:=by
    intro m
    induction m with
    |nil=>intro z;simp [DH]
    |cons w m ih=>
     intro z;unfold DH;split
     ·have:=ih ⟨if w.fro<z.fro then w.fro else z.fro,if w.to>z.to then w.to else z.to⟩;simp only [zW];omega
     ·simp
   exact this _ _
theorem s108 (a b:List Span):AK C 108 [.sl 2 (a.map Span.enc),.sl 2 (b.map Span.enc)] (K7 a b):=by
 refine AK.of (fun n=>e108 n _ _) ?_;unfold K7;by_cases hc:A4 a=0∧A4 b=0
 ·rw [if_pos hc];have la:=BA hc.1;have lb:=BA hc.2;have hu:Gi a b=uni a b:=W5 ((Ag a).1 hc.1).2.1 ((Ag b).1 hc.2).2.1;refine Ev.rw (s132 a b) (T' := ?TT) (fun n h => ?g1) ?g2
  case g1=>
   simp only [h,hc,vv,vf,not_true_eq_false,(show a.length≤1073741824 by omega)];rfl
  case g2=>
   rw [← hu];refine AZ (R:=List Tree) (Q:=List Span) fin b (fun i (m:List Span)=>(([.sref 0 i 0 m.length,.t (tI i)],[.row false i 2 (m.map Span.enc)]):List AV×Heap))
    (fun i m x =>.next (Hf x m)) (fun m=>m) (fun i m=>m.length≤1000+i) a rfl (by omega) ?_ (fun i m x hx hI => ?_) (fun i m x m' hx hI he => ?_) (fun m hI => ?_)
   ·have:∀(k:Nat) (m a:List Span),BX (fun i m x=>(Rd.next (Hf x m):Rd (List Span) (List Span))) (fun m=>m) k m a=Gi a m:=by
     intro k m
     induction m generalizing k with
     |nil=>intro a;rfl
     |cons x m ih=>intro a;exact ih _ _
    exact this 0 b a
   ·have hi:=AN hx;refine (Xd m x (by omega)).mono fun n h again => ?_;simp only [UP,vv,vf,reduceCtorEq,wK,hx,(show (i:Int)<(b.length:Int) by omega),Span.enc,Ci,h,AT (show i<4611686018427387904 by omega),Rd.AR]
   ·cases he;have:=No x m;omega
   ·refine (s133 m).mono fun n h again => ?_;simp only [UP,vv,vf,reduceCtorEq,wK,wE,Ci,h,fin];split<;>simp only [vv,wK]
 ·rw [if_neg hc];refine (s132 a b).mono fun n h => ?_;simp only [h,hc,vv,vf,not_false_eq_true]
end Ab
namespace Ab
open Go
structure OS where
 v:Nat
 f:Int
 out:List Span
theorem s151 (l:List Span) (hl:l.length≤1000):AK C 151 [.sl 2 (l.map Span.enc)] [.sl 2 ((He (-1152921504606846976) l).map Span.enc)]:=by
 refine AK.of (fun n=>e151 n _) ?_;refine AZ (R:=List Tree) (fun (q:List Span)=>[Tree.sl 2 (q.map Span.enc)]) l (fun i (s:OS)=>(([.sref 0 s.v 0 s.out.length,.t (tI s.f),.t (tI i)],[.row false s.v 2 (s.out.map Span.enc)]):List AV×Heap))
  (fun i s x=>if s.f<x.fro then .next ⟨s.v+1,x.to,s.out++[⟨s.f,x.fro⟩]⟩ else .next ⟨s.v,x.to,s.out⟩) (fun s=>if s.f<1152921504606846976 then s.out++[⟨s.f,1152921504606846976⟩] else s.out) (fun i s=>s.out.length≤i) ⟨0,-1152921504606846976,[]⟩ rfl (yI _) ?_ (fun i s x hx hI=>Ev.of fun n again => ?_) (fun i s x s' hx hI he => ?_) (fun s hI=>Ev.of fun n again => ?_)
 ·have:∀(m:List Span) (k:Nat) (s:OS),BX (fun i s x=>if s.f<x.fro then (.next ⟨s.v+1,x.to,s.out++[⟨s.f,x.fro⟩]⟩:Rd OS (List Span)) else .next ⟨s.v,x.to,s.out⟩) (fun s=>if s.f<1152921504606846976 then s.out++[⟨s.f,1152921504606846976⟩] else s.out) k m s=s.out++He s.f m:=by
   intro m
   induction m with
   |nil=>
    intro k s;simp only [BX,He];split<;>simp
   |cons x m ih=>
    intro k s;simp only [BX,He];by_cases h:s.f<x.fro
    ·simp only [h,if_true];rw [ih];simp
    ·simp only [h,if_false];rw [ih]
  simpa using this l 0 ⟨0,-1152921504606846976,[]⟩
 ·have hi:=AN hx;by_cases hq:s.f<x.fro
  ·simp only [Ob,vv,reduceCtorEq,hx,(show (i:Int)<(l.length:Int) by omega),Span.enc,Ci,AT (show i<4611686018427387904 by omega),hq,Rd.AR,yI,(show s.out.length+1≤1073741824 by omega),wY,xN,vA,zV]
  ·simp only [Ob,vv,reduceCtorEq,hx,(show (i:Int)<(l.length:Int) by omega),Span.enc,AT (show i<4611686018427387904 by omega),hq,Rd.AR]
 ·split at he
  ·cases he;simp;omega
  ·cases he;simp only;omega
 ·by_cases hq:s.f<1152921504606846976
  ·have e1:take (s.out.length+1) (List.map Span.enc s.out++[[tI s.f,tI 1152921504606846976]])=List.map Span.enc s.out++[[tI s.f,tI 1152921504606846976]]:=by rw [vD (by simp)]
   simp only [Ob,vv,reduceCtorEq,wE,Ci,hq,yI,(show s.out.length+1≤1073741824 by omega),e1,wY,xN,vA,Span.enc]
  ·simp only [Ob,vv,reduceCtorEq,wE,Ci,hq]
structure BS where
 v:Nat
 out:List Span
def inner (x:Span) (s:BS):List Span→BS
 |[]=>s
 |y::o=>match piece x y with
  |some z=>inner x ⟨s.v+1,s.out++[z]⟩ o
  |none=>inner x s o
theorem Ir (x:Span):∀(o:List Span) (s:BS),(inner x s o).out=s.out++o.filterMap (piece x)
 |[],s=>by simp [inner]
 |y::o,s=>by
  unfold inner;cases h:piece x y with
  |none=>rw [List.filterMap_cons_none h];exact Ir x o s
  |some z=>rw [List.filterMap_cons_some h,Ir x o];simp
theorem s150 (a o:List Span) (ha:a.length≤1000) (ho:o.length≤2000):AK C 150 [.sl 2 (a.map Span.enc),.sl 2 (o.map Span.enc)] [.sl 2 ((HY a o).map Span.enc)]:=by
 refine AK.of (fun n=>e150 n _ _) ?_;refine AZ (R:=List Tree) (fun (q:List Span)=>[Tree.sl 2 (q.map Span.enc)]) a (fun i (s:BS)=>(([.sref 0 s.v 0 s.out.length,.t (tI i)],[.row false s.v 2 (s.out.map Span.enc)]):List AV×Heap))
  (fun i s x =>.next (inner x s o)) (fun s=>s.out) (fun i s=>s.out.length≤2000*i) ⟨0,[]⟩ rfl (yI _) ?_ (fun i s x hx hI => ?_) (fun i s x s' hx hI he => ?_) (fun s hI=>Ev.of fun n again => ?_)
 ·have:∀(m:List Span) (k:Nat) (s:BS),BX (fun i s x=>(.next (inner x s o):Rd BS (List Span))) (fun s=>s.out) k m s=s.out++HY m o:=by
   intro m
   induction m with
   |nil=>intro k s;simp [BX,HY]
   |cons x m ih=>
    intro k s;simp only [BX];rw [ih,Ir];simp [HY]
  simpa using this a 0 ⟨0,[]⟩
 ·have hi:=AN hx;have key:=Fj (R:=List Tree) (Z:=List AV×Heap→Option (List Tree)) (B:=fun n z p again=>Oc n (o.map Span.enc) (([.sref 0 s.v 0 s.out.length,.t (tI i)],[.row false s.v 2 (s.out.map Span.enc)]):List AV×Heap) (a.map Span.enc) z p again)
   (s:=(([.sref 0 s.v 0 s.out.length,.t (tI 0)],[.row false s.v 2 (s.out.map Span.enc)]):List AV×Heap)) o (fun j (u:BS)=>(([.sref 0 u.v 0 u.out.length,.t (tI j)],[.row false u.v 2 (u.out.map Span.enc)]):List AV×Heap))
   (fun j u y=>match piece x y with
    |some z =>.next ⟨u.v+1,u.out++[z]⟩
    |none =>.next u) (fun u=>u) (fun z (u:BS)=>z (([.sref 0 u.v 0 u.out.length,.t (tI ((i+1:Nat):Int))],[.row false u.v 2 (u.out.map Span.enc)]):List AV×Heap)) (fun j u=>u.out.length≤2000*i+j) s rfl (by omega) (r:=inner x s o) ?_
   (fun j u y hy hJ=>Ev.of fun n z again => ?_) (fun j u y u' hy hJ he => ?_) (fun u hJ=>Ev.of fun n z again => ?_)
  ·refine key.mono fun n h again => ?_;simp only [UO,vv,reduceCtorEq,(show (i:Int)<(a.length:Int) by omega),Rd.AR];exact h again
  ·have:∀(m:List Span) (k:Nat) (u:BS),BX (fun j u y=>match piece x y with
    |some z=>(.next ⟨u.v+1,u.out++[z]⟩:Rd BS BS)
    |none =>.next u) (fun u=>u) k m u=inner x u m:=by
    intro m
    induction m with
    |nil=>intro k u;rfl
    |cons y m ih=>
     intro k u;simp only [BX,inner];cases h:piece x y with
     |none=>exact ih _ _
     |some z=>exact ih _ _
   exact this o 0 s
  ·have hj:=AN hy;unfold piece mxI mnI;by_cases hq:(if y.fro>x.fro then y.fro else x.fro)<(if y.to<x.to then y.to else x.to)
   ·rw [if_pos hq];simp only [gt_iff_lt] at hq;simp only [Oc,vv,reduceCtorEq,hx,hy,(show (j:Int)<(o.length:Int) by omega),Span.enc,Ci,AT (show j<4611686018427387904 by omega),hq,Rd.AR,yI,(show u.out.length+1≤1073741824 by omega),wY,xN,vA,zV]
   ·rw [if_neg hq];simp only [gt_iff_lt] at hq;simp only [Oc,vv,reduceCtorEq,hx,hy,(show (j:Int)<(o.length:Int) by omega),Span.enc,AT (show j<4611686018427387904 by omega),hq,Rd.AR]
  ·split at he
   ·cases he;simp;omega
   ·cases he;omega
  ·simp only [Oc,vv,reduceCtorEq,wE,AT (show i<4611686018427387904 by omega)]
 ·cases he;rw [Ir];have:=List.length_filterMap_le (piece x) o;simp only [zV];omega
 ·simp only [UO,vv,reduceCtorEq,wE,Ci]
theorem NT:∀(l:List Span) (f:Int),(He f l).length≤l.length+1
 |[],f=>by unfold He;split<;>simp
 |x::l,f=>by
  have:=NT l x.to;unfold He;split
  ·simp;omega
  ·simp;omega
theorem s134 (a b:List Span):AK C 134 [.sl 2 (a.map Span.enc),.sl 2 (b.map Span.enc)] (LQ a b):=by
 refine AK.of (fun n=>e134 n _ _) ?_;unfold LQ;by_cases hc:A4 a=0∧A4 b=0
 ·rw [if_pos hc];have la:=BA hc.1;have lb:=BA hc.2;have hu:Qh a b=min_ a b:=min_eq ((Ag a).1 hc.1).2.1 ((Ag b).1 hc.2).2.1 ((Ag a).1 hc.1).2.2 ((Ag b).1 hc.2).2.2;have lo:=NT b (-1152921504606846976);refine ((s132 a b).and ((s151 b lb).and ((s150 a (He (-1152921504606846976) b) la (by omega)).and (s133 (HY a (He (-1152921504606846976) b)))))).mono fun n h => ?_;obtain ⟨h1,h2,h3,h4⟩:=h;rw [← hu];unfold Qh;simp only [fin] at h4 ⊢;by_cases hq:1000<(HY a (He (-1152921504606846976) b)).length
  ·simp only [hq,if_true] at h4 ⊢;simp only [h1,hc,vv,vf,wK,not_true_eq_false,h2,h3,h4]
  ·simp only [hq,if_false] at h4 ⊢;simp only [h1,hc,vv,vf,wK,not_true_eq_false,h2,h3,h4]
 ·rw [if_neg hc];refine (s132 a b).mono fun n h => ?_;simp only [h,hc,vv,vf,wK,not_false_eq_true]
end Ab
namespace Ab
open Go
def Qi (a b:List Span):List Span:=if A4 a=0∧A4 b=0 then (if 1000<(min_ a b).length then [] else min_ a b) else []
def YP (a b:List Span):Int:=if A4 a=0∧A4 b=0 then (if 1000<(min_ a b).length then 4 else 0) else 1
theorem PU (a b:List Span):LQ a b=[.sl 2 ((Qi a b).map Span.enc),tI (YP a b)]:=by
 unfold LQ Qi YP fin;split
 ·split<;>rfl
 ·rfl
def C6 (a b:List Span):List Span:=if A4 a=0∧A4 b=0 then (if 1000<(uni a b).length then [] else uni a b) else []
def C7 (a b:List Span):Int:=if A4 a=0∧A4 b=0 then (if 1000<(uni a b).length then 4 else 0) else 1
theorem EX (a b:List Span):K7 a b=[.sl 2 ((C6 a b).map Span.enc),tI (C7 a b)]:=by
 unfold K7 C6 C7 fin;split
 ·split<;>rfl
 ·rfl
def AY (d:ByteArray):List Span:=[⟨0,d.size⟩]
def DP (s:Snd):List Span:=Qi (AY s.data) s.acked
theorem s142 (d:ByteArray):AK C 142 [.str d] [.sl 2 ((AY d).map Span.enc)]:=AK.of (fun n=>e142 n _) (Ev.of fun n=>rfl)
theorem s119 (s:Snd):AK C 119 s.enc [.sl 2 ((DP s).map Span.enc)]:=by refine AK.of (fun n=>e119 n _ _ _ _ _ _ _ _ _ _ _ _ _ _ _) ?_;refine ((s142 s.data).and (s141 (AY s.data) s.acked)).mono fun n h => ?_;obtain ⟨h1,h2⟩:=h;rw [PU] at h2;simp only [h1,h2,vv,vf,wK];rfl
theorem Xa (s:Snd):AK C 111 s.enc [.sl 2 ((DP s).map Span.enc)]:=by refine AK.of (fun n=>e111 n _ _ _ _ _ _ _ _ _ _ _ _ _ _ _) ?_;refine (s134 (AY s.data) s.acked).mono fun n h2 => ?_;rw [PU] at h2;simp only [AY,xN,vA,Span.enc] at h2;simp only [h2,vv,vf,wK];rfl
def complete (s:Snd):Bool:=decide (s.acked=AY s.data)
theorem s185 (s:Snd) (hl:s.acked.length≤1000):AK C 185 s.enc [.bool (complete s)]:=by refine AK.of (fun n=>e185 n _ _ _ _ _ _ _ _ _ _ _ _ _ _ _) ?_;refine ((s142 s.data).and (s213 s.acked (AY s.data) (by omega))).mono fun n h => ?_;simp only [h.1,h.2,vv,vf,complete]
def Tx (s:Snd):Int:=s.busy+2*s.c.rng+1
theorem s117 (s:Snd) (h : -4611686018427387904≤s.busy∧s.busy≤2305843009213693952∧0≤s.c.rng∧s.c.rng≤1048576):AK C 117 s.enc [tI (Tx s)]:=by refine AK.of (fun n=>e117 n _ _ _ _ _ _ _ _ _ _ _ _ _ _ _) (Ev.of fun n => ?_);rw [AM (x:=2*s.c.rng) (by omega) (by omega),AM (x:=s.busy+2*s.c.rng) (by omega) (by omega),AM (by omega) (by omega)];rfl
theorem s116 (s:Snd):AK C 116 s.enc (Snd.enc {s with due:=0,st:=3}):=AK.of (fun n=>e116 n _ _ _ _ _ _ _ _ _ _ _ _ _ _ _) (Ev.of fun n=>rfl)
def Cq (s:Snd):Prop:=(0≤s.ses∧s.ses≤1099511627776)∧(1≤s.data.size∧s.data.size≤65536)∧(s.c.start≤s.busy∧s.busy≤s.fin)∧s.fin≤s.c.fin∧(1≤s.ser∧s.ser≤1099511627776)
instance (s:Snd):Decidable (Cq s):=by unfold Cq;exact inferInstance
def Mf (s:Snd):Prop:=A4 s.acked=0∧(s.acked=[]∨0≤EL s.acked∧Ee s.acked≤s.data.size)
instance (s:Snd):Decidable (Mf s):=by unfold Mf;exact inferInstance
def FU (s:Snd):Int:=if Dn s.c≠0 then 1 else if ¬Cq s then 2 else if ¬Mf s then 1 else 0
theorem s184 (s:Snd):AK C 184 s.enc [tI (FU s)]:=by
 refine AK.of (fun n=>e184 n _ _ _ _ _ _ _ _ _ _ _ _ _ _ _) ?_;refine ((s55 s.c).and ((s92 s.ses 0 1099511627776).and ((s92 (s.data.size:Int) 1 65536).and ((s92 s.busy s.c.start s.fin).and ((s92 s.ser 1 1099511627776).and (s67 s.acked)))))).mono fun n h => ?_;obtain ⟨h1,h2,h3,h4,h5,h6⟩:=h;simp only [Con.enc] at h1;unfold FU;by_cases hc:Dn s.c=0
 ·have hJ:∀(hp:Heap),UW n (s.acked.map Span.enc) s.data (([.t (.bool (decide (¬Cq s)))],hp):List AV×Heap)=some [tI (if ¬Cq s then 2 else if ¬Mf s then 1 else 0)]:=by
   intro hp;simp only [UW,vv,vf,h6];by_cases hr:Cq s
   ·simp only [hr,vv,not_true_eq_false,Mf];by_cases ha:A4 s.acked=0
    ·by_cases hl:s.acked=[]
     ·simp [hl,AB];simp [A4,BX]
     ·obtain ⟨g1,g2⟩:=Iu hl;obtain ⟨g3,g4⟩:=Io hl;have hp:=zY.2 hl;have hm:=BA ha;rw [AM (x:=(s.acked.length:Int)-1) (by omega) (by omega)];simp only [ha,bne_self_eq_false,vv,(show (0:Int)<(s.acked.length:Int) by omega),g1,g2,g4,(show ((s.acked.length:Int)-1).toNat=s.acked.length-1 by omega),g3,Span.enc,(show (0:Int)≤(s.acked.length:Int)-1 by omega),hl];simp only [AB]
      (repeat' split)<;>first|rfl|(exfalso;omega)
    ·simp [ha,AB]
   ·simp [hr,AB]
  simp only [h1,h2,h3,h4,h5,hc,vv,vf,bne_self_eq_false,wi,ne_eq,not_true_eq_false];have hT:(decide (¬Cq s))=true↔¬Cq s:=decide_eq_true_iff;by_cases q1:0≤s.ses∧s.ses≤1099511627776
  ·by_cases q2:1≤s.data.size∧s.data.size≤65536
   ·have q2':(1:Int)≤(s.data.size:Int)∧(s.data.size:Int)≤65536:=by omega
    by_cases q3:s.c.start≤s.busy∧s.busy≤s.fin
    ·by_cases q4:s.c.fin<s.fin
     ·have:(true:Bool)=decide (¬Cq s):=by symm;rw [decide_eq_true_eq];unfold Cq;omega
      simp only [q1,q2',q3,q4,vv];rw [this];exact hJ _
     ·have:(!decide (1≤s.ser∧s.ser≤1099511627776))=decide (¬Cq s):=by
       rw [Bool.eq_iff_iff,decide_eq_true_eq,yV,decide_eq_false_iff_not];unfold Cq;constructor
       ·intro h h2;exact h h2.2.2.2.2
       ·intro h h2;exact h ⟨q1,q2,q3,by omega,h2⟩
      simp only [q1,q2',q3,q4,vv];rw [this];exact hJ _
    ·have:(true:Bool)=decide (¬Cq s):=by symm;rw [decide_eq_true_eq];unfold Cq;omega
     simp only [q1,q2',q3,vv];rw [this];exact hJ _
   ·have q2':¬((1:Int)≤(s.data.size:Int)∧(s.data.size:Int)≤65536):=by omega
    have:(true:Bool)=decide (¬Cq s):=by symm;rw [decide_eq_true_eq];unfold Cq;omega
    simp only [q1,q2',vv];rw [this];exact hJ _
  ·have:(true:Bool)=decide (¬Cq s):=by symm;rw [decide_eq_true_eq];unfold Cq;omega
   simp only [q1,vv];rw [this];exact hJ _
 ·simp [h1,hc,AB,vv,vf]
end Ab
namespace Ab
open Go
def fits (s:Snd):Bool:=decide ((s.st=1∧complete s=false∧s.due=Tx s)∨(s.st=2∧complete s=true∧s.due=0)∨(s.st=3∧s.due=0))
def Fv (s:Snd):Int:=if FU s≠0 then FU s else if fits s=true then 0 else 19
theorem DF {s:Snd} (h:FU s=0):Dn s.c=0∧Cq s∧Mf s:=by
 unfold FU at h;split at h
 ·cases h
 ·rename_i h1;split at h
  ·cases h
  ·rename_i h2;split at h
   ·cases h
   ·rename_i h3;exact ⟨by omega,wO.1 h2,wO.1 h3⟩
theorem Dh {c:Con} (h:Dn c=0):Ft c∧0≤c.start∧c.start<c.fin∧c.fin≤1099511627776-2*c.rng:=by
 unfold Dn at h;split at h
 ·cases h
 ·rename_i h1;split at h
  ·cases h
  ·split at h
   ·cases h
   ·rename_i h3;exact ⟨wO.1 h1,by omega⟩
theorem due_ok {s:Snd} (h:FU s=0) : -4611686018427387904≤s.busy∧s.busy≤2305843009213693952∧0≤s.c.rng∧s.c.rng≤1048576:=by obtain ⟨h1,h2,h3⟩:=DF h;obtain ⟨c1,c2⟩:=Dh h1;unfold Ft at c1;unfold Cq at h2;omega
theorem TQ (s:Snd):AK C 164 s.enc [tI (Fv s)]:=by
 refine AK.of (fun n=>e164 n _ _ _ _ _ _ _ _ _ _ _ _ _ _ _) ?_;unfold Fv;by_cases hc:FU s=0
 ·have hl:=BA (DF hc).2.2.1;refine ((s184 s).and ((s185 s hl).and (s117 s (due_ok hc)))).mono fun n h => ?_;obtain ⟨h1,h2,h3⟩:=h;simp only [Snd.enc] at h1 h2 h3;simp only [h1,h2,h3,hc,vv,vf,bne_self_eq_false,ZY,IY,ne_eq,not_true_eq_false,fits];simp only [AB,beq_iff_eq,yV];by_cases k1:s.st=1
  ·cases complete s<;>simp [k1];by_cases k2:s.due=Tx s<;>simp [k2]
  ·by_cases k2:s.st=2
   ·cases complete s<;>simp [k2];by_cases k3:s.due=0<;>simp [k3]
   ·by_cases k3:s.st=3
    ·simp [k3];by_cases k4:s.due=0<;>simp [k4]
    ·simp [k1,k2,k3]
 ·refine (s184 s).mono fun n h1 => ?_;simp only [Snd.enc] at h1;simp [h1,hc,AB,vv,vf]
theorem Q4 {l:List Span} {b:Int} (h:Canon b l) (hl:l≠[]):∀x∈l,EL l≤x.fro∧x.to≤Ee l:=by
 induction l generalizing b with
 |nil=>exact (hl rfl).elim
 |cons y l ih=>
  intro x hx;cases l with
  |nil=>
   simp only [xW] at hx;subst hx;exact ⟨Int.le_refl _,Int.le_refl _⟩
  |cons z l=>
   have e:Ee (y::z::l)=Ee (z::l):=by unfold Ee;rw [List.getLast?_cons_cons]
   rw [e];have k:=ih h.2.2 (by simp);have hz:EL (z::l)=z.fro:=rfl;have hy:EL (y::z::l)=y.fro:=rfl;have h1:=h.2.1;have h2:=h.2.2.1;rw [hy];rcases xP.1 hx with rfl|hx
   ·have:=k z (by simp);have:=h.2.2.2.1;omega
   ·have:=k x hx;omega
theorem head_mem {l:List Span} (hl:l≠[]):∃x∈l,EL l=x.fro:=⟨l.head hl,List.head_mem hl,(Iu hl).2⟩
theorem YX {l:List Span} (hl:l≠[]):∃x∈l,Ee l=x.to:=⟨l.getLast hl,List.getLast_mem hl,(Io hl).2⟩
def BU (l:List Span) (n:Int):Prop:=∀x∈l,0≤x.fro∧x.to≤n
instance (l:List Span) (n:Int):Decidable (BU l n):=by unfold BU;exact inferInstance
theorem Bx {l:List Span} {n:Int} (h:A4 l=0):(l=[]∨0≤EL l∧Ee l≤n)↔BU l n:=by
 have hc:=((Ag l).1 h).2.1;by_cases hl:l=[]
 ·subst hl;simp [BU]
 ·constructor
  ·rintro (h|h)
   ·exact (hl h).elim
   ·intro x hx;have:=Q4 hc hl x hx;omega
  ·intro hw;obtain ⟨x,hx,e1⟩:=head_mem hl;obtain ⟨y,hy,e2⟩:=YX hl;have:=hw x hx;have:=hw y hy;omega
theorem EW {l:List Span} {n t:Int} (h:BU l n) (m:Ac t l):0≤t∧t<n:=by
 induction l with
 |nil=>exact m.elim
 |cons x l ih=>
  rcases m with m|m
  ·have:=h x (by simp);omega
  ·exact ih (fun y hy=>h y (by simp [hy])) m
theorem Gx {l:List Span} {b n:Int} (h:Canon b l) (hm:∀t,Ac t l→0≤t∧t<n):BU l n:=by
 induction l generalizing b with
 |nil=>intro x hx;cases hx
 |cons x l ih=>
  intro y hy;rcases xP.1 hy with rfl|hy
  ·have:=h.2.1;have:=hm y.fro (.inl ⟨by omega,by omega⟩);have:=hm (y.to-1) (.inl ⟨by omega,by omega⟩);omega
  ·exact ih h.2.2 (fun t m=>hm t (.inr m)) y hy
theorem FX {d:ByteArray} (h:1≤d.size∧d.size≤65536):A4 (AY d)=0:=by rw [Ag];refine ⟨by simp [AY],⟨by simp only;omega,by simp only;omega,trivial⟩,fun x hx => ?_⟩;simp only [AY,xW] at hx;subst hx;simp only;omega
theorem Wk {l:List Span}:∀{b n:Int},Canon b l→b<n→(∀x∈l,x.to≤n)→(l.length:Int)≤n-b:=by
 induction l with
 |nil=>intro b n _ h _;simp;omega
 |cons x l ih=>
  intro b n h hb ht;have h1:=h.1;have h2:=h.2.1;by_cases he:x.to<n
  ·have:=ih h.2.2 he (fun y hy=>ht y (by simp [hy]));simp only [zW];omega
  ·cases l with
   |nil=>simp;omega
   |cons y l=>
    have:=h.2.2.1;have:=h.2.2.2.1;have:=ht y (by simp);omega
theorem Im {d:ByteArray} {a:List Span} (hd:1≤d.size∧d.size≤65536) (ha:A4 a=0) (hw:BU a d.size) :
  Canon (-1152921504606846977) (min_ (AY d) a)∧BU (min_ (AY d) a) d.size∧∀t,Ac t (min_ (AY d) a)↔(0≤t∧t<d.size)∧¬Ac t a:=by
 obtain ⟨k1,k2⟩:=SJ ((Ag _).1 (FX hd)).2.1 ((Ag _).1 ha).2.1;have hm:∀t,Ac t (min_ (AY d) a)↔(0≤t∧t<d.size)∧¬Ac t a:=fun t=>by rw [k2 t];simp [AY,Ac]
 exact ⟨k1,Gx k1 fun t m=>((hm t).1 m).1,hm⟩
theorem IC {d:ByteArray} {a:List Span} (hd:1≤d.size∧d.size≤65536) (ha:A4 a=0) (hw:BU a d.size):min_ (AY d) a=[]↔a=AY d:=by
 obtain ⟨k1,k2,k3⟩:=Im hd ha hw;constructor
 ·intro h;rw [h] at k3;refine Di ((Ag _).1 ha).2.1 ((Ag _).1 (FX hd)).2.1 fun t => ?_;have:=k3 t;simp only [Ac,false_iff] at this;simp only [AY,Ac,or_false];constructor
  ·exact fun m=>EW hw m
  ·intro h;exact wO.1 fun hn=>this ⟨h,hn⟩
 ·intro h;cases hm:min_ (AY d) a with
  |nil=>rfl
  |cons x l=>
   rw [hm] at k1 k3;have:=(k3 x.fro).1 (.inl ⟨Int.le_refl _,k1.2.1⟩);rw [h] at this;exact (this.2 (by simp only [AY,Ac];exact .inl this.1)).elim
end Ab
namespace Ab
open Go
theorem VD {d:ByteArray} {a:List Span} (hd:1≤d.size∧d.size≤65536) (ha:A4 a=0):(min_ (AY d) a).length≤a.length+1:=by
 have h1:=(Ag _).1 (FX hd);have h2:=(Ag _).1 ha;rw [← min_eq h1.2.1 h2.2.1 h1.2.2 h2.2.2];have e:Qh (AY d) a=(He (-1152921504606846976) a).filterMap (piece ⟨0,d.size⟩):=by show List.flatMap _ [_]=_;simp
 rw [e];exact le_trans (List.length_filterMap_le _ _) (NT _ _)
theorem QH {a b:List Span} (ha:A4 a=0) (hb:A4 b=0):(uni a b).length≤a.length+b.length:=by
 rw [← W5 ((Ag _).1 ha).2.1 ((Ag _).1 hb).2.1];clear ha hb
 induction b generalizing a with
 |nil=>simp [Gi]
 |cons x b ih=>
  have h1:=ih (a:=Hf x a);have h2:=No x a;show (Gi (Hf x a) b).length≤_;simp only [zW];omega
theorem left_eq {s:Snd} (hd:1≤s.data.size∧s.data.size≤65536) (ha:A4 s.acked=0) (hk:s.acked.length≤900):DP s=min_ (AY s.data) s.acked:=by have:=VD hd ha;unfold DP Qi;rw [if_pos ⟨FX hd,ha⟩,if_neg (by omega)]
theorem SK {s:Snd} (hd:1≤s.data.size∧s.data.size≤65536) (ha:A4 s.acked=0) (hw:BU s.acked s.data.size) (hk:s.acked.length≤900):(DP s).length=0↔complete s=true:=by rw [left_eq hd ha hk,wW,IC hd ha hw];unfold complete;rw [decide_eq_true_eq]
def Kp (n:Int) (i:Nat) (_:Unit) (x:Span):Rd Unit Bool:=if 0≤x.fro∧x.to≤n then .next () else .done false
theorem Ve (n:Int):∀(l:List Span) (i:Nat),BX (Kp n) (fun _=>true) i l ()=decide (BU l n)
 |[],i=>by simp [BX,BU]
 |x::l,i=>by
  have:=Ve n l (i+1);simp only [BX,Kp];by_cases h:0≤x.fro∧x.to≤n
  ·rw [if_pos h];simp only;rw [this,Bool.eq_iff_iff,decide_eq_true_eq,decide_eq_true_eq];unfold BU;simp [h]
  ·rw [if_neg h];simp only;symm;rw [decide_eq_false_iff_not];exact fun hw=>h (hw x (by simp))
theorem Rk (s:Snd) (hk:s.acked.length≤900):AK C 110 s.enc [tI (Fv s)]:=by
 refine AK.of (fun n=>e110 n _ _ _ _ _ _ _ _ _ _ _ _ _ _ _) ?_;unfold Fv;by_cases hc:Dn s.c=0
 ·
  have hJ:Ev fun n=>L2 n (s.acked.map Span.enc) s.data s.c.frm s.c.dst s.c.start s.c.fin s.c.rate s.c.rng s.c.loss s.ses s.fin s.busy s.ser s.due s.st (([.t (.bool (decide (¬Cq s)))],[]):List AV×Heap)=some [tI (if FU s≠0 then FU s else if fits s=true then 0 else 19)]:=by
   unfold FU;by_cases hr:Cq s
   ·by_cases ha:A4 s.acked=0
    ·have hla:=BA ha;have hin:=Bx (n:=s.data.size) ha;have key:Ev fun n=>AH (fun (p19:List AV×Heap) again=>RG n (s.acked.map Span.enc) s.data s.c.frm s.c.dst s.c.start s.c.fin s.c.rate s.c.rng s.c.loss s.ses s.fin s.busy s.ser s.due s.st p19 again) n (([.t (tI 0)],[]):List AV×Heap)=some [tI (if decide (BU s.acked s.data.size)=true then (if fits s=true then 0 else 19) else 1)]:=by
      refine AZ (fun (b:Bool)=>[tI (if b=true then (if fits s=true then 0 else 19) else 1)]) s.acked (fun i (_:Unit)=>(([.t (tI i)],[]):List AV×Heap)) (Kp s.data.size) (fun _=>true) (fun i _=>∀(j:Nat) x,j<i→s.acked[j]? = some x→0≤x.fro∧x.to≤s.data.size) () rfl (fun j x hj=>by omega) (r:=decide (BU s.acked s.data.size)) (Ve _ _ 0) ?_ ?_ ?_
      ·intro i u x hx hI;refine Ev.of fun n again => ?_;have hi:=AN hx;simp only [RG,vv,vf,hx,(show (i:Int)<(s.acked.length:Int) by omega),Span.enc,AT (show i<4611686018427387904 by omega),Kp];by_cases h1:x.fro<0
       ·simp [h1,(show ¬0≤x.fro by omega),AB,Rd.Aj]
       ·by_cases h2:(s.data.size:Int)<x.to
        ·simp [h1,h2,(show ¬x.to≤(s.data.size:Int) by omega),AB,Rd.Aj]
        ·simp [h1,h2,(show 0≤x.fro by omega),(show x.to≤(s.data.size:Int) by omega),AB,Rd.AR]
      ·intro i u x u' hx hI he j y hj hy;unfold Kp at he;split at he
       ·rename_i hq;rcases yL j i with h|h
        ·exact hI j y h hy
        ·obtain rfl:j=i:=by omega
         rw [hx] at hy;cases hy;exact hq
       ·cases he
      ·intro u hI;have hw:BU s.acked s.data.size:=fun x hx=>by obtain ⟨j,hj,rfl⟩:=List.mem_iff_getElem.1 hx;exact hI j _ hj (zO hj)
       have hl:=SK hr.2.1 ha hw hk;have hd:w64 (w64 (s.busy+w64 (2*s.c.rng))+1)=Tx s:=by have hr':=hr;have hcc:=Dh hc;unfold Cq at hr';unfold Ft at hcc;rw [AM (x:=2*s.c.rng) (by omega) (by omega),AM (x:=s.busy+2*s.c.rng) (by omega) (by omega),AM (by omega) (by omega)];rfl
       refine (Xa s).mono fun n h again => ?_;simp only [Snd.enc] at h;simp only [RG,vv,vf,wE,h,Ze,fits,hd];have hl':((DP s).length:Int)=0↔complete s=true:=by rw [← hl];omega
       simp only [AB,beq_iff_eq,yV,hl',beq_eq_false_iff_ne,ne_eq];by_cases k1:s.st=1
       ·cases complete s<;>simp [k1];by_cases k2:s.due=Tx s<;>simp [k2]
       ·by_cases k2:s.st=2
        ·cases complete s<;>simp [k2];by_cases k3:s.due=0<;>simp [k3]
        ·by_cases k3:s.st=3
         ·simp [k3];by_cases k4:s.due=0<;>simp [k4]
         ·simp [k1,k2,k3]
     refine ((s31 s.acked).and key).mono fun n h => ?_;obtain ⟨h1,h2⟩:=h;have hA:Mf s↔BU s.acked s.data.size:=by unfold Mf;rw [← hin];exact ⟨fun h=>h.2,fun h=>⟨ha,h⟩⟩
     simp only [L2,vv,vf,hr,not_true_eq_false,h1,ha,bne_self_eq_false,h2,hc,ne_eq,hA];by_cases hw:BU s.acked s.data.size<;>simp [hw]
    ·have hA:¬Mf s:=fun h=>ha h.1;refine (s31 s.acked).mono fun n h1 => ?_;simp [L2,vv,vf,hr,h1,ha,hc,hA,AB]
   ·refine Ev.of fun n => ?_;simp [L2,vv,vf,hr,hc,AB]
  refine ((s72 s.c).and hJ).mono fun n h => ?_;obtain ⟨h1,h2⟩:=h;simp only [Con.enc] at h1;simp only [h1,hc,vv,vf,bne_self_eq_false];have hb:∀b:Bool,b=decide (¬Cq s)→L2 n (s.acked.map Span.enc) s.data s.c.frm s.c.dst s.c.start s.c.fin s.c.rate s.c.rng s.c.loss s.ses s.fin s.busy s.ser s.due s.st (([.t (.bool b)],[]):List AV×Heap)=some [tI (if FU s≠0 then FU s else if fits s=true then 0 else 19)]:=fun b e=>by rw [e];exact h2
  have hT:∀p:Prop,¬Cq s→true=decide (¬Cq s):=fun p h=>by symm;rw [decide_eq_true_eq];exact h
  by_cases q1:s.ses<0
  ·rw [BD q1];exact hb _ (hT True (by unfold Cq;omega))
  rw [DR q1];by_cases q2:1099511627776<s.ses
  ·rw [BD q2];exact hb _ (hT True (by unfold Cq;omega))
  rw [DR q2];by_cases q3:(s.data.size:Int)<1
  ·rw [BD q3];exact hb _ (hT True (by unfold Cq;omega))
  rw [DR q3];by_cases q4:65536<(s.data.size:Int)
  ·rw [BD q4];exact hb _ (hT True (by unfold Cq;omega))
  rw [DR q4];by_cases q5:s.busy<s.c.start
  ·rw [BD q5];exact hb _ (hT True (by unfold Cq;omega))
  rw [DR q5];by_cases q6:s.fin<s.busy
  ·rw [BD q6];exact hb _ (hT True (by unfold Cq;omega))
  rw [DR q6];by_cases q7:s.c.fin<s.fin
  ·rw [BD q7];exact hb _ (hT True (by unfold Cq;omega))
  rw [DR q7];by_cases q8:s.ser<1
  ·rw [BD q8];exact hb _ (hT True (by unfold Cq;omega))
  rw [DR q8];refine hb _ ?_;rw [Bool.eq_iff_iff,decide_eq_true_eq,decide_eq_true_eq];unfold Cq;omega
 ·refine (s72 s.c).mono fun n h1 => ?_;simp only [Con.enc] at h1;simp [h1,hc,AB,vv,vf,FU]
end Ab
namespace Ab
open Go
def GF (a b:Int):Int:=if (a / 16+1)*16<b then (a / 16+1)*16 else b
theorem I0 {a b:Int} (h:a<b):a<GF a b∧GF a b≤b:=by unfold GF;split<;>omega
def cut (a b:Int):List (Int×Int):=if h:a<b then (a,GF a b)::cut (GF a b) b else []
termination_by (b-a).toNat
decreasing_by have:=I0 h;omega
theorem Kg {a b:Int} (h:a<b):cut a b=(a,GF a b)::cut (GF a b) b:=by rw [cut,dif_pos h]
theorem Qx {a b:Int} (h:¬a<b):cut a b=[]:=by rw [cut,dif_neg h]
def raw (d:ByteArray) (ses:Int) (p:Int×Int):Seg:=⟨1,ses,0,p.1,d.size,false,d.extract p.1.toNat p.2.toNat,[]⟩
def GS (d:ByteArray) (ses:Int) (l:List Span):List Seg:=l.flatMap fun x=>(cut x.fro x.to).map (raw d ses)
def EJ (ser:Int) (l:List Seg):List Seg:=match l.getLast? with
 |some x=>l.dropLast++[{x with ser:=ser,chk:=true}]
 |none=>[]
structure MS where
 v:Nat
 at_:Int
 out:List Seg
structure NS where
 v:Nat
 out:List Seg
def Gw (d:ByteArray) (ses b:Int) (s:MS):NS:=⟨s.v+(cut s.at_ b).length,s.out++(cut s.at_ b).map (raw d ses)⟩
def ME (d:ByteArray) (ses b:Int) (s:MS):Rd MS NS:=if s.at_<b then .next ⟨s.v+1,GF s.at_ b,s.out++[raw d ses (s.at_,GF s.at_ b)]⟩ else .done ⟨s.v,s.out⟩
def UI (b:Int) (K:Int) (s:MS):Prop:=0≤s.at_∧s.at_≤b∧(s.out.length:Int)≤K+s.at_
theorem PR {d:ByteArray} {ses b K:Int} {s s':MS} (h:UI b K s) (he:ME d ses b s = .next s'):UI b K s'∧(b-s'.at_).toNat<(b-s.at_).toNat:=by
 unfold ME at he;split at he
 ·rename_i hq;cases he;have:=I0 hq;unfold UI at h ⊢;simp only [zV,zW,zX];omega
 ·cases he
theorem PS {d:ByteArray} {ses b:Int} (s:MS):Gw d ses b s=(ME d ses b s).fin (Gw d ses b):=by
 unfold ME;split
 ·rename_i hq;simp only [Rd.fin,Gw,Kg hq,zW,xN,append_assoc,xB,xX];congr 1;omega
 ·rename_i hq;simp [Rd.fin,Gw,Qx hq]
theorem Pn (l:List Seg):take l.length (List.map Seg.enc l)=List.map Seg.enc l:=by rw [vD (by simp)]
theorem Ya (d:ByteArray) (ses:Int) (x:Span) (i:Nat) (v:Nat) (out:List Seg) (K:Int) (hx:0≤x.fro∧x.fro<x.to∧x.to≤d.size) (hd:d.size≤65536) (ho:(out.length:Int)≤K+x.fro) (hK:K≤65536000) (hi:i≤1000) (y11:List Tree) (hy:y11=x.enc) (H0:Heap) :
  Ev fun n=>∀z:(List AV×Heap)→Option (List Tree),AH (fun (p12:List AV×Heap) again=>Od n y11 d ses z (([.t (tI i)],H0):List AV×Heap) p12 again) n (([.t (tI x.fro)],[.row false v 8 (out.map Seg.enc),.box [.sref 0 v 0 out.length],.box [],.box []]):List AV×Heap)=
   z (([.t (tI ((i+1:Nat):Int))],[.row false (Gw d ses x.to ⟨v,x.fro,out⟩).v 8 ((Gw d ses x.to ⟨v,x.fro,out⟩).out.map Seg.enc),.box [.sref 0 (Gw d ses x.to ⟨v,x.fro,out⟩).v 0 (Gw d ses x.to ⟨v,x.fro,out⟩).out.length],.box []]):List AV×Heap):=by
 subst hy;refine B6 (R:=List Tree) (Z:=(List AV×Heap)→Option (List Tree)) (B:=fun n z p again=>Od n x.enc d ses z (([.t (tI i)],H0):List AV×Heap) p again)
  (fun z (u:NS)=>z (([.t (tI ((i+1:Nat):Int))],[.row false u.v 8 (u.out.map Seg.enc),.box [.sref 0 u.v 0 u.out.length],.box []]):List AV×Heap))
  (fun (s:MS)=>(([.t (tI s.at_)],[.row false s.v 8 (s.out.map Seg.enc),.box [.sref 0 s.v 0 s.out.length],.box [],.box []]):List AV×Heap)) (ME d ses x.to) (UI x.to K) (fun s=>(x.to-s.at_).toNat) (Gw d ses x.to) ⟨v,x.fro,out⟩ rfl ⟨hx.1,by simp only;omega,ho⟩ rfl (fun s hI=>Ev.of fun n z again => ?_) (fun s s' hI he=>PR hI he) (fun s _=>PS s)
 unfold UI at hI;have e0:w64 (w64 (w64 (tdiv s.at_ 16)+1)*16)=(s.at_ / 16+1)*16:=by rw [Ul hI.1,AM (x:=s.at_ / 16) (by omega) (by omega),AM (x:=s.at_ / 16+1) (by omega) (by omega),AM (by omega) (by omega)]
 unfold ME;by_cases hq:s.at_<x.to
 ·have hc:=I0 hq;have e1:(if (s.at_ / 16+1)*16<x.to then (s.at_ / 16+1)*16 else x.to)=GF s.at_ x.to:=rfl;rw [if_pos hq];simp only [Od,vv,reduceCtorEq,Span.enc,hq,e0,e1,Pn,(show 0≤GF s.at_ x.to by omega),(show GF s.at_ x.to≤(d.size:Int) by omega),hI.1,(show s.at_≤((GF s.at_ x.to).toNat:Int) by omega),yI,(show s.out.length+1≤1073741824 by omega),Rd.AR,wY,xN,vA,raw,Seg.enc,zV]
 ·rw [if_neg hq];simp only [Od,vv,reduceCtorEq,Span.enc,hq,Rd.Aj,AT (show i<4611686018427387904 by omega)]
theorem inner73 (d:ByteArray) (ses:Int) (l:List Span) (x:Span) (i:Nat) (hxi:l[i]? = some x) (v:Nat) (out:List Seg) (K:Int) (hx:0≤x.fro∧x.fro<x.to∧x.to≤d.size) (hd:d.size≤65536) (ho:(out.length:Int)≤K+x.fro) (hK:K≤65536000) (hi:i≤1000) (H0:Heap) (r0:AV) :
  Ev fun n=>∀z:(List AV×Heap)→Option (List Tree),AH (fun (p12:List AV×Heap) again=>TA n (([r0,.t (tI i)],H0):List AV×Heap) (l.map Span.enc) d ses z p12 again) n (([.sref 0 v 0 out.length,.t (tI x.fro)],[.row false v 8 (out.map Seg.enc)]):List AV×Heap)=
   z (([.sref 0 (Gw d ses x.to ⟨v,x.fro,out⟩).v 0 (Gw d ses x.to ⟨v,x.fro,out⟩).out.length,.t (tI ((i+1:Nat):Int))],[.row false (Gw d ses x.to ⟨v,x.fro,out⟩).v 8 ((Gw d ses x.to ⟨v,x.fro,out⟩).out.map Seg.enc)]):List AV×Heap):=by
 refine B6 (R:=List Tree) (Z:=(List AV×Heap)→Option (List Tree)) (B:=fun n z p again=>TA n (([r0,.t (tI i)],H0):List AV×Heap) (l.map Span.enc) d ses z p again)
  (fun z (u:NS)=>z (([.sref 0 u.v 0 u.out.length,.t (tI ((i+1:Nat):Int))],[.row false u.v 8 (u.out.map Seg.enc)]):List AV×Heap))
  (fun (s:MS)=>(([.sref 0 s.v 0 s.out.length,.t (tI s.at_)],[.row false s.v 8 (s.out.map Seg.enc)]):List AV×Heap)) (ME d ses x.to) (UI x.to K) (fun s=>(x.to-s.at_).toNat) (Gw d ses x.to) ⟨v,x.fro,out⟩ rfl ⟨hx.1,by simp only;omega,ho⟩ rfl (fun s hI=>Ev.of fun n z again => ?_) (fun s s' hI he=>PR hI he) (fun s _=>PS s)
 unfold UI at hI;have e0:w64 (w64 (s.at_-tmod s.at_ 16)+16)=(s.at_ / 16+1)*16:=by rw [Int.tmod_eq_emod_of_nonneg hI.1,AM (x:=s.at_-s.at_ % 16) (by omega) (by omega),AM (by omega) (by omega)];omega
 unfold ME;by_cases hq:s.at_<x.to
 ·have hc:=I0 hq;have e1:(if (s.at_ / 16+1)*16<x.to then (s.at_ / 16+1)*16 else x.to)=GF s.at_ x.to:=rfl;rw [if_pos hq];simp only [TA,vv,reduceCtorEq,hxi,Span.enc,hq,e0,e1,Pn,(show 0≤GF s.at_ x.to by omega),(show GF s.at_ x.to≤(d.size:Int) by omega),hI.1,(show s.at_≤((GF s.at_ x.to).toNat:Int) by omega),yI,(show s.out.length+1≤1073741824 by omega),Rd.AR,wY,xN,vA,raw,Seg.enc,zV]
 ·rw [if_neg hq];simp only [TA,vv,reduceCtorEq,hxi,Span.enc,hq,Rd.Aj,AT (show i<4611686018427387904 by omega)]
end Ab
namespace Ab
open Go
theorem Qz:∀(k:Nat) (a b:Int),(b-a).toNat≤k→((cut a b).length:Int)≤if a<b then b-a else 0
 |k,a,b,h=>by
  by_cases hq:a<b
  ·rw [Kg hq,if_pos hq];have hc:=I0 hq;cases k with
   |zero=>omega
   |succ k=>
    have:=Qz k (GF a b) b (by omega);simp only [zW];split at this<;>omega
  ·rw [Qx hq,if_neg hq];simp
theorem YM (d:ByteArray) (ses b:Int) (s:MS) (h:s.at_≤b):((Gw d ses b s).out.length:Int)≤s.out.length+(b-s.at_):=by have:=Qz _ s.at_ b (yI _);simp only [Gw,zV,wX];split at this<;>omega
def Lr (l:List Span) (n:Int):Prop:=∀x∈l,0≤x.fro∧x.fro<x.to∧x.to≤n
def NV (d:ByteArray) (ses:Int) (_:Nat) (s:NS) (x:Span):Rd NS (List Seg):=.next (Gw d ses x.to ⟨s.v,x.fro,s.out⟩)
theorem YK (d:ByteArray) (ses ser:Int):∀(l:List Span) (i:Nat) (s:NS),BX (NV d ses) (fun s=>EJ ser s.out) i l s=EJ ser (s.out++GS d ses l)
 |[],i,s=>by simp [BX,GS]
 |x::l,i,s=>by simp only [BX,NV];rw [YK d ses ser l];simp [Gw,GS]
def OInv (i:Nat) (s:NS):Prop:=(s.out.length:Int)≤65536*i∧(i≠0→s.out≠[])
theorem PO {d:ByteArray} {ses:Int} {x:Span} {i:Nat} {s s':NS} (hd:d.size≤65536) (hx:0≤x.fro∧x.fro<x.to∧x.to≤d.size) (h:OInv i s) (he:NV d ses i s x = .next s'):OInv (i+1) s':=by cases he;have:=YM d ses x.to ⟨s.v,x.fro,s.out⟩ (by simp only;omega);simp only at this;refine ⟨by have:=h.1;omega,fun _ => ?_⟩;simp [Gw,Kg hx.2.1]
theorem SM (pre:List Seg) (x:Seg):List.map Seg.enc (pre++[x])=List.map Seg.enc pre++[x.enc]:=by simp
theorem Nv (l:List (List Tree)) (y:List Tree) (k:Nat) (h:k=l.length):(l++[y])[k]? = some y:=by subst h;rw [zL (yI _)];simp
theorem Rf (l:List (List Tree)) (y:List Tree) (k:Nat) (h:k=l.length+1):take k (l++[y])=l++[y]:=by subst h;rw [vD (by simp)]
theorem F3 (ser:Int) (pre:List Seg) (x:Seg):EJ ser (pre++[x])=pre++[{x with ser:=ser,chk:=true}]:=by unfold EJ;simp
theorem YF (d:ByteArray) (ses ser:Int) (l:List Span) (hl:l≠[]) (hl2:l.length≤1000) (hd:d.size≤65536) (hs:Lr l d.size) :
  Ev fun n=>AH (fun (p9:List AV×Heap) again=>RF n (l.map Span.enc) d ses ser p9 again) n (([.t (tI 0)],[.row false 0 8 [],.box [.sref 0 0 0 0],.box []]):List AV×Heap)=some [.sl 8 ((EJ ser (GS d ses l)).map Seg.enc),tI 0]:=by
 refine AZ (R:=List Tree) (fun (q:List Seg)=>[Tree.sl 8 (q.map Seg.enc),tI 0]) l (fun i (s:NS)=>(([.t (tI i)],[.row false s.v 8 (s.out.map Seg.enc),.box [.sref 0 s.v 0 s.out.length],.box []]):List AV×Heap)) (NV d ses) (fun s=>EJ ser s.out) OInv ⟨0,[]⟩ rfl ⟨by simp,fun h=>(h rfl).elim⟩ (by rw [YK];rfl)
  (fun i s x hx hI => ?_) (fun i s x s' hx hI he=>PO hd (hs x (yA hx)) hI he) (fun s hI=>Ev.of fun n again => ?_)
 ·have hi:=AN hx;have hb:=hs x (yA hx);have key:=Ya d ses x i s.v s.out ((s.out.length:Int)-x.fro) hb hd (by omega) (by have:=hI.1;omega) (by omega) x.enc rfl [.row false s.v 8 (s.out.map Seg.enc),.box [.sref 0 s.v 0 s.out.length],.box []];refine key.mono fun n h again => ?_;have h':=h again;simp only [Span.enc] at h';simp only [RF,vv,vf,reduceCtorEq,wK,(show (i:Int)<(l.length:Int) by omega),hx,Span.enc,h',NV,Rd.AR]
 ·have hne:s.out≠[]:=hI.2 (by intro h;exact hl (zI h));obtain ⟨pre,x,hpx⟩:∃pre x,s.out=pre++[x]:=⟨s.out.dropLast,s.out.getLast hne,(List.dropLast_concat_getLast hne).symm⟩
  have hlen:=hI.1;rw [hpx] at hlen;simp only [zV,zW,zX,yR] at hlen;have e0:s.out.length=pre.length+1:=by rw [hpx];simp
  have e1:w64 (((pre.length+1:Nat):Int)-1)=(pre.length:Int):=by rw [AM (by omega) (by omega)];omega
  rw [hpx,F3];simp only [RF,vv,vf,reduceCtorEq,wK,wE,SM,zV,e1,(show (pre.length:Int)<((pre.length+1:Nat):Int) by omega),Nv (List.map Seg.enc pre) _ pre.length (by simp),J2 (List.map Seg.enc pre) _ _ pre.length (by simp),Rf (List.map Seg.enc pre) _ (pre.length+1) (by simp),Seg.enc,take,drop,xB,xX,Nat.reduceLeDiff]
theorem outer73 (d:ByteArray) (ses ser:Int) (l:List Span) (hl:l≠[]) (hl2:l.length≤1000) (hd:d.size≤65536) (hs:Lr l d.size) :
  Ev fun n=>AH (fun (p9:List AV×Heap) again=>Vk n (l.map Span.enc) d ses ser p9 again) n (([.sref 0 0 0 0,.t (tI 0)],[.row false 0 8 []]):List AV×Heap)=some [.sl 8 ((EJ ser (GS d ses l)).map Seg.enc),tI 0]:=by
 refine AZ (R:=List Tree) (fun (q:List Seg)=>[Tree.sl 8 (q.map Seg.enc),tI 0]) l (fun i (s:NS)=>(([.sref 0 s.v 0 s.out.length,.t (tI i)],[.row false s.v 8 (s.out.map Seg.enc)]):List AV×Heap)) (NV d ses) (fun s=>EJ ser s.out) OInv ⟨0,[]⟩ rfl ⟨by simp,fun h=>(h rfl).elim⟩ (by rw [YK];rfl)
  (fun i s x hx hI => ?_) (fun i s x s' hx hI he=>PO hd (hs x (yA hx)) hI he) (fun s hI=>Ev.of fun n again => ?_)
 ·have hi:=AN hx;have hb:=hs x (yA hx);have key:=inner73 d ses l x i hx s.v s.out ((s.out.length:Int)-x.fro) hb hd (by omega) (by have:=hI.1;omega) (by omega) [.row false s.v 8 (s.out.map Seg.enc)] (.sref 0 s.v 0 s.out.length);refine key.mono fun n h again => ?_;have h':=h again;simp only [Vk,vv,reduceCtorEq,(show (i:Int)<(l.length:Int) by omega),hx,Span.enc,h',NV,Rd.AR]
 ·have hne:s.out≠[]:=hI.2 (by intro h;exact hl (zI h));obtain ⟨pre,x,hpx⟩:∃pre x,s.out=pre++[x]:=⟨s.out.dropLast,s.out.getLast hne,(List.dropLast_concat_getLast hne).symm⟩
  have hlen:=hI.1;rw [hpx] at hlen;simp only [zV,zW,zX,yR] at hlen;have e0:s.out.length=pre.length+1:=by rw [hpx];simp
  have e1:w64 (((pre.length+1:Nat):Int)-1)=(pre.length:Int):=by rw [AM (by omega) (by omega)];omega
  rw [hpx,F3];simp only [Vk,vv,reduceCtorEq,wE,SM,zV,e1,(show (pre.length:Int)<((pre.length+1:Nat):Int) by omega),Nv (List.map Seg.enc pre) _ pre.length (by simp),J2 (List.map Seg.enc pre) _ _ pre.length (by simp),Rf (List.map Seg.enc pre) _ (pre.length+1) (by simp),Seg.enc,take,drop,xB,xX,Nat.reduceLeDiff]
def Hh (ses ser:Int) (d:ByteArray) (l:List Span):Int:=if ¬((0≤ses∧ses≤1099511627776)∧(1≤ser∧ser≤1099511627776)) then 2 else if d.size=0 then 20 else if 65536<d.size then 4 else if inside l d.size=false then 1 else if l=[] then 20 else 0
def CU (ses ser:Int) (d:ByteArray) (l:List Span):List Seg:=if Hh ses ser d l=0 then EJ ser (GS d ses l) else []
theorem Iq {l:List Span} {n:Int} (h:inside l n=true):Lr l n∧l.length≤1000:=by unfold inside at h;have h:=of_decide_eq_true h;have hw:=(Bx h.1).1 h.2;have hc:=((Ag l).1 h.1).2.1;exact ⟨fun x hx=>by have:=hw x hx;have:=Kh hc x hx;omega,BA h.1⟩
theorem s118 (ses ser:Int) (d:ByteArray) (l:List Span):AK C 118 [tI ses,tI ser,.str d,.sl 2 (l.map Span.enc)] [.sl 8 ((CU ses ser d l).map Seg.enc),tI (Hh ses ser d l)]:=by
 refine AK.of (fun n=>e118 n _ _ _ _) ?_;have hJ:Ev fun n=>Ib n d (l.map Span.enc) ses ser (([.t (.bool (decide (¬((0≤ses∧ses≤1099511627776)∧(1≤ser∧ser≤1099511627776)))))],[]):List AV×Heap)=some [.sl 8 ((CU ses ser d l).map Seg.enc),tI (Hh ses ser d l)]:=by
  unfold CU Hh;by_cases h1:(0≤ses∧ses≤1099511627776)∧(1≤ser∧ser≤1099511627776)
  ·by_cases h2:d.size=0
   ·exact Ev.of fun n=>by simp [Ib,vv,vf,h1,h2,AB,CY]
   ·by_cases h3:65536<d.size
    ·exact Ev.of fun n=>by simp [Ib,vv,vf,h1,h2,h3,AB,CY,(show (65536:Int)<(d.size:Int) by omega)]
    ·by_cases h4:inside l d.size=false
     ·refine (s139 l d.size).mono fun n g => ?_;simp [Ib,vv,vf,h1,h2,h3,g,h4,AB,CY,(show ¬(65536:Int)<(d.size:Int) by omega)]
     ·have h4':inside l d.size=true:=by simpa using h4
      by_cases h5:l=[]
      ·refine (s139 l d.size).mono fun n g => ?_;subst h5;rw [h4'] at g;simp only [vA] at g;simp [Ib,vv,vf,h1,h2,h3,g,h4',AB,CY,(show ¬(65536:Int)<(d.size:Int) by omega)]
      ·obtain ⟨g1,g2⟩:=Iq h4';refine ((s139 l d.size).and (YF d ses ser l h5 g2 (by omega) g1)).mono fun n g => ?_;have hp:=zY.2 h5;simp only [Ib,vv,vf,reduceCtorEq,h1,not_true_eq_false,CY,h2,h3,g.1,g.2,h4',h5,(show ¬(65536:Int)<(d.size:Int) by omega),(show ¬((l.length:Int)=0) by omega),beq_iff_eq]
  ·exact Ev.of fun n=>by simp only [Ib,vv,vf,h1,not_false_eq_true];simp
 refine ((E6 ses 0 1099511627776).and ((E6 ser 1 1099511627776).and hJ)).mono fun n h => ?_;obtain ⟨h1,h2,h3⟩:=h;simp only [h1,h2,vv,vf,wi];by_cases q1:0≤ses∧ses≤1099511627776
 ·have:(!decide (1≤ser∧ser≤1099511627776))=decide (¬((0≤ses∧ses≤1099511627776)∧(1≤ser∧ser≤1099511627776))):=by rw [Bool.eq_iff_iff,decide_eq_true_eq,yV,decide_eq_false_iff_not];simp only [q1,true_and,and_self]
  simp only [q1,vv];rw [this];exact h3
 ·have:(true:Bool)=decide (¬((0≤ses∧ses≤1099511627776)∧(1≤ser∧ser≤1099511627776))):=by symm;rw [decide_eq_true_eq];exact fun h=>q1 h.1
  simp only [q1,vv];rw [this];exact h3
theorem s73 (ses ser:Int) (d:ByteArray) (l:List Span):AK C 73 [tI ses,tI ser,.str d,.sl 2 (l.map Span.enc)] [.sl 8 ((CU ses ser d l).map Seg.enc),tI (Hh ses ser d l)]:=by
 refine AK.of (fun n=>e73 n _ _ _ _) ?_;have hJ:Ev fun n=>Ma n d (l.map Span.enc) ses ser (([.t (.bool (decide (¬((0≤ses∧ses≤1099511627776)∧(1≤ser∧ser≤1099511627776)))))],[]):List AV×Heap)=some [.sl 8 ((CU ses ser d l).map Seg.enc),tI (Hh ses ser d l)]:=by
  unfold CU Hh;by_cases h1:(0≤ses∧ses≤1099511627776)∧(1≤ser∧ser≤1099511627776)
  ·by_cases h2:d.size=0
   ·exact Ev.of fun n=>by simp [Ma,vv,vf,h1,h2,AB]
   ·by_cases h3:65536<d.size
    ·exact Ev.of fun n=>by simp [Ma,vv,vf,h1,h2,h3,AB,(show (65536:Int)<(d.size:Int) by omega)]
    ·by_cases h4:inside l d.size=false
     ·refine (s99 l d.size).mono fun n g => ?_;simp [Ma,vv,vf,h1,h2,h3,g,h4,AB,(show ¬(65536:Int)<(d.size:Int) by omega)]
     ·have h4':inside l d.size=true:=by simpa using h4
      by_cases h5:l=[]
      ·refine (s99 l d.size).mono fun n g => ?_;subst h5;rw [h4'] at g;simp only [vA] at g;simp [Ma,vv,vf,h1,h2,h3,g,h4',AB,(show ¬(65536:Int)<(d.size:Int) by omega)]
      ·obtain ⟨g1,g2⟩:=Iq h4';refine ((s99 l d.size).and (outer73 d ses ser l h5 g2 (by omega) g1)).mono fun n g => ?_;have hp:=zY.2 h5;simp only [Ma,vv,vf,reduceCtorEq,h1,not_true_eq_false,h2,h3,g.1,g.2,h4',h5,(show ¬(65536:Int)<(d.size:Int) by omega),(show ¬((l.length:Int)=0) by omega),(show ¬((d.size:Int)=0) by omega),beq_iff_eq]
  ·exact Ev.of fun n=>by simp only [Ma,vv,vf,h1,not_false_eq_true];simp
 refine ((s98 ses 0 1099511627776).and ((s98 ser 1 1099511627776).and hJ)).mono fun n h => ?_;obtain ⟨h1,h2,h3⟩:=h;simp only [h1,h2,vv,vf,wi];by_cases q1:0≤ses∧ses≤1099511627776
 ·have:(!decide (1≤ser∧ser≤1099511627776))=decide (¬((0≤ses∧ses≤1099511627776)∧(1≤ser∧ser≤1099511627776))):=by rw [Bool.eq_iff_iff,decide_eq_true_eq,yV,decide_eq_false_iff_not];simp only [q1,true_and,and_self]
  simp only [q1,vv];rw [this];exact h3
 ·have:(true:Bool)=decide (¬((0≤ses∧ses≤1099511627776)∧(1≤ser∧ser≤1099511627776))):=by symm;rw [decide_eq_true_eq];exact fun h=>q1 h.1
  simp only [q1,vv];rw [this];exact h3
end Ab
namespace Ab
open Go
def Aa (s:Snd):List Seg:=CU s.ses (s.ser+1) s.data (DP s)
theorem s94 (s:Snd) (h : -4611686018427387904≤s.ser∧s.ser≤4611686018427387904):AK C 94 s.enc [.sl 8 ((Aa s).map Seg.enc)]:=by refine AK.of (fun n=>e94 n _ _ _ _ _ _ _ _ _ _ _ _ _ _ _) ?_;refine ((s119 s).and (s118 s.ses (s.ser+1) s.data (DP s))).mono fun n g => ?_;obtain ⟨g1,g2⟩:=g;simp only [Snd.enc] at g1;rw [AM (x:=s.ser+1) (by omega) (by omega)];simp only [g1,g2,vv,vf,wK,Aa]
def Bl (r:Int):Int→List Seg→List Out
 |_,[]=>[]
 |t,x::l=>⟨t+Cr r x,x⟩::Bl r (t+Cr r x) l
def A1 (r:Int):Int→List Seg→Int
 |t,[]=>t
 |t,x::l=>A1 r (t+Cr r x) l
theorem Dg (r:Int):∀(l:List Seg) (t:Int),(Bl r t l).length=l.length
 |[],t=>rfl
 |x::l,t=>by simp [Bl,Dg r l]
theorem Ec (r:Int):∀(l:List Seg) (t:Int) (x:Seg),(Bl r t (l++[x]))=Bl r t l++[⟨A1 r t (l++[x]),x⟩]
 |[],t,x=>rfl
 |y::l,t,x=>by show _::Bl r _ (l++[x])=_;rw [Ec r l];rfl
end Ab
namespace Ab
open Go
structure TS where
 v:Nat
 at_:Int
 out:List Out
theorem t_run {Q:Type} (r:Int) (fin:TS→Q):∀(l:List Seg) (i:Nat) (s:TS),BX (fun i s x=>(Rd.next ⟨s.v+1,s.at_+Cr r x,s.out++[⟨s.at_+Cr r x,x⟩]⟩:Rd TS Q)) fin i l s=fin ⟨s.v+l.length,A1 r s.at_ l,s.out++Bl r s.at_ l⟩
 |[],i,s=>by simp [BX,A1,Bl]
 |x::l,i,s=>by simp only [BX];rw [t_run r fin l];simp [A1,Bl,yE,add_comm 1]
def CF (s:Snd):Snd:={s with due:=0,st:=3}
def BO (s:Snd) (t ser:Int):Snd:={s with busy:=t,ser:=ser,due:=t+2*s.c.rng+1,st:=1}
def QN (s:Snd) (l:List Seg) (t:Int):List Tree:=if s.fin<A1 s.c.rate t l then (CF s).enc++[.sl 9 []] else match l.getLast? with
 |some x=>(BO s (A1 s.c.rate t l) x.ser).enc++[.sl 9 ((Bl s.c.rate t l).map Out.enc)]
 |none=>[]
theorem Kc (r:Int):∀(l:List Seg) (t:Int),t≤A1 r t l∧A1 r t l≤t+1000*l.length
 |[],t=>by simp [A1]
 |x::l,t=>by have h1:=Jx r x;have h2:=Kc r l (t+Cr r x);simp only [A1,zW];omega
theorem Az (l:List Out):take l.length (List.map Out.enc l)=List.map Out.enc l:=by rw [vD (by simp)]
def Fx:AI :=.box [.t (tI 0),.t (tI 0),.t (tI 0),.t (tI 0),.t (tI 0),.t (tI 0),.t (tI 0),.t (tI 0),.t (.str (ByteArray.mk #[])),.t (tI 0),.t (tI 0),.t (tI 0),.t (.sl 2 []),.t (tI 0),.t (tI 0)]
def Hq (s:Snd):AI :=.box [.t (tI s.c.frm),.t (tI s.c.dst),.t (tI s.c.start),.t (tI s.c.fin),.t (tI s.c.rate),.t (tI s.c.rng),.t (tI s.c.loss),.t (tI s.ses),.t (.str s.data),.t (tI s.fin),.t (tI s.busy),.t (tI s.ser),.t (.sl 2 (s.acked.map Span.enc)),.t (tI s.due),.t (tI s.st)]
theorem NC (s:Snd) (l:List Seg) (t:Int) (hl:l≠[]) (hl2:l.length≤100000000) (ht:0≤t∧t≤4398046511104) (hr:0≤s.c.rng∧s.c.rng≤1048576):AK C 2004751 (s.enc++[.sl 8 (l.map Seg.enc),tI t]) (QN s l t):=by
 refine AK.of (fun n=>Yh n _ _ _ _ _ _ _ _ _ _ _ _ _ _ _ _ _) ?_;obtain ⟨x,hx⟩:∃x,l.getLast? = some x:=⟨l.getLast hl,List.getLast?_eq_some_getLast hl⟩
 refine AZ (R:=List Tree) (Q:=List Tree) (fun q=>q) l (fun i (u:TS)=>(([.t (tI u.at_),.sref 2 u.v 0 u.out.length,.t (tI i)],[Hq s,Fx,.row false u.v 9 (u.out.map Out.enc)]):List AV×Heap))
  (fun i u x =>.next ⟨u.v+1,u.at_+Cr s.c.rate x,u.out++[⟨u.at_+Cr s.c.rate x,x⟩]⟩) (fun u=>if s.fin<u.at_ then (CF s).enc++[.sl 9 []] else (BO s u.at_ x.ser).enc++[.sl 9 (u.out.map Out.enc)])
  (fun i u=>u.out.length=i∧0≤u.at_∧u.at_≤4398046511104+1000*i) ⟨0,t,[]⟩ rfl ⟨rfl,ht.1,by simp only;omega⟩ ?_ (fun i u y hy hI => ?_) (fun i u y u' hy hI he => ?_) (fun u hI=>Ev.of fun n again => ?_)
 ·rw [t_run];unfold QN;rw [hx];simp
 ·have hi:=AN hy;have hb:=Jx s.c.rate y;refine (s100 s.c.rate y).mono fun n h again => ?_;simp only [Seg.enc] at h;simp only [HD,Hq,Fx,vv,vf,reduceCtorEq,wK,hy,(show (i:Int)<(l.length:Int) by omega),Seg.enc,h,AM (x:=u.at_+Cr s.c.rate y) (by omega) (by omega),AT (show i<4611686018427387904 by omega),Az,Rd.AR,yI,(show u.out.length+1≤1073741824 by omega),wY,xN,vA,Out.enc,zV]
 ·cases he;have hb:=Jx s.c.rate y;refine ⟨by simp;omega,by simp only;omega,by simp only;omega⟩
 ·have hp:=zY.2 hl;have hx':l[l.length-1]? = some x:=by rw [← List.getLast?_eq_getElem?];exact hx
  have hI':=hI.2;by_cases hq:s.fin<u.at_
  ·simp only [HD,Hq,Fx,vv,vf,reduceCtorEq,wK,wE,hq,CF,Snd.enc,xB,xX]
  ·simp only [HD,Hq,Fx,vv,vf,reduceCtorEq,wK,wE,hq,AM (x:=(l.length:Int)-1) (by omega) (by omega),(show (0:Int)≤(l.length:Int)-1 by omega),(show ((l.length:Int)-1).toNat=l.length-1 by omega),hx',Seg.enc,Az,AM (x:=2*s.c.rng) (by omega) (by omega),AM (x:=u.at_+2*s.c.rng) (by omega) (by omega),AM (x:=u.at_+2*s.c.rng+1) (by omega) (by omega),BO,Snd.enc,xB,xX]
end Ab
namespace Ab
open Go
theorem loop_at {S R α:Type} {B:Nat→S→(S→Option R)→Option R} {s:S} {out:R} (l:List α) (st:Nat→S) (hs:s=st 0)
  (hstep:∀i x,l[i]? = some x→Ev fun n=>∀again,B n (st i) again=again (st (i+1)))
  (hend:Ev fun n=>∀again,B n (st l.length) again=some out):Ev fun n=>AH (B n) n s=some out:=by
 refine AZ (Q:=R) (σ:=Unit) (fun q=>q) l (fun i _=>st i) (fun _ _ _ =>.next ()) (fun _=>out) (fun _ _=>True) () hs trivial ?_ (fun i _ x hx _ => ?_) (fun _ _ _ _ _ _ _=>trivial) (fun _ _=>hend)
 ·have:∀(l:List α) (i:Nat),BX (fun (_:Nat) (_:Unit) (_:α)=>(Rd.next ():Rd Unit R)) (fun _=>out) i l ()=out:=by
   intro l
   induction l with
   |nil=>intro i;rfl
   |cons x l ih=>intro i;exact ih (i+1)
  exact this l 0
 ·exact (hstep i x hx).mono fun n h again=>by rw [h];rfl
theorem Jy {α:Type} {l:List α} {i:Nat} {x:α} (h:l[i]? = some x):l.take (i+1)=l.take i++[x]:=by rw [List.take_add_one,h];rfl
theorem Pm (r:Int):∀(l:List Seg) (t:Int) (x:Seg),A1 r t (l++[x])=A1 r t l+Cr r x
 |[],t,x=>rfl
 |y::l,t,x=>by simp only [xB,A1];exact Pm r l _ x
def BR (s:Snd) (t:Int) (l:List Seg):Snd×List Out:=
 match l.getLast? with
 |none=>(CF s,[])
 |some x=>if s.fin<A1 s.c.rate t l∨1099511627776<x.ser then (CF s,[]) else (BO s (A1 s.c.rate t l) x.ser,Bl s.c.rate t l)
def Fh (p:Snd×List Out):List Tree:=p.1.enc++[.sl 9 (p.2.map Out.enc)]
theorem NB (s:Snd) (t:Int) (l:List Seg) (hl2:l.length≤100000000) (ht:0≤t∧t≤4398046511104) (hr:0≤s.c.rng∧s.c.rng≤1048576):AK C 2005967 (s.enc++[tI t,.sl 8 (l.map Seg.enc)]) (Fh (BR s t l)):=by
 refine AK.of (fun n=>Yg n _ _ _ _ _ _ _ _ _ _ _ _ _ _ _ _ _) ?_;refine loop_at l (fun i=>(([.t (tI i)],[Hq s,Fx,.box [.t (tI (A1 s.c.rate t (l.take i)))],.row false i 9 ((Bl s.c.rate t (l.take i)).map Out.enc),.box [.sref 3 i 0 i],.box []]):List AV×Heap)) rfl (fun i x hx => ?_) ?_
 ·have hi:=AN hx;have hb:=Jx s.c.rate x;have hE:=Kc s.c.rate (l.take i) t;have hL:(l.take i).length=i:=by rw [zZ];omega
  have hO:=Dg s.c.rate (l.take i) t;rw [hL] at hE hO;refine (s137 s.c.rate x).mono fun n h again => ?_;simp only [Seg.enc] at h;have e9:take i (List.map Out.enc (Bl s.c.rate t (l.take i)))=List.map Out.enc (Bl s.c.rate t (l.take i)):=by rw [vD (by simp [hO])]
  rw [Jy hx,Ec,Pm];simp only [HC,Hq,Fx,vv,vf,reduceCtorEq,wK,hx,(show (i:Int)<(l.length:Int) by omega),Seg.enc,h,AM (x:=A1 s.c.rate t (l.take i)+Cr s.c.rate x) (by omega) (by omega),AT (show i<4611686018427387904 by omega),e9,hO,yI,(show i+1≤1073741824 by omega),wY,xN,vA,Out.enc]
 ·rw [vC];cases hx:l.getLast? with
  |none=>
   rw [List.getLast?_eq_none_iff] at hx;subst hx;refine (s116 s).mono fun n h again => ?_;simp only [Snd.enc] at h;simp only [HC,Hq,Fx,vv,vf,reduceCtorEq,wK,wE,h,Bl,vA];simp [AB,Fh,BR,CF,Snd.enc]
  |some x=>
   obtain ⟨pre,rfl⟩:∃pre,l=pre++[x]:=by rw [List.getLast?_eq_some_iff] at hx;exact hx
   have hE:=Kc s.c.rate (pre++[x]) t;have hO:=Dg s.c.rate pre t;have hlen:(pre++[x]).length=pre.length+1:=by simp
   rw [hlen] at hE hl2 ⊢;refine ((s116 s).and (s117 {s with busy:=A1 s.c.rate t (pre++[x]),ser:=x.ser,st:=1} (by simp only;omega))).mono fun n h again => ?_;obtain ⟨h1,h2⟩:=h;simp only [Snd.enc,Tx] at h1 h2;have hb:((Bl s.c.rate t pre).map Out.enc++[Out.enc ⟨A1 s.c.rate t (pre++[x]),x⟩])[pre.length]? = some (Out.enc ⟨A1 s.c.rate t (pre++[x]),x⟩):=by rw [zL (by simp [hO])];simp [hO]
   have e1:w64 (((pre.length+1:Nat):Int)-1)=(pre.length:Int):=by rw [AM (by omega) (by omega)];omega
   have e2:¬(((pre.length+1:Nat):Int)=0):=by omega
   have e3:take (pre.length+1) ((Bl s.c.rate t pre).map Out.enc++[Out.enc ⟨A1 s.c.rate t (pre++[x]),x⟩])=(Bl s.c.rate t pre).map Out.enc++[Out.enc ⟨A1 s.c.rate t (pre++[x]),x⟩]:=by rw [vD (by simp [hO])]
   rw [Ec];simp only [HC,Hq,Fx,vv,vf,reduceCtorEq,wK,wE,zV,wY,xN,vA,e1,beq_iff_eq,e2,hb,(show (pre.length:Int)<((pre.length+1:Nat):Int) by omega)];simp only [Out.enc] at e3;simp only [Out.enc,vv];by_cases q1:s.fin<A1 s.c.rate t (pre++[x])
   ·simp only [HG,q1,vv,vf,wK,h1,Fh,BR,wV,CF,Snd.enc,vA,xB,xX]
   ·by_cases q2:1099511627776<x.ser
    ·simp only [HG,q1,q2,vv,vf,wK,h1,Fh,BR,wV,CF,Snd.enc,vA,xB,xX]
    ·simp only [HG,q1,q2,vv,vf,wK,h2,e3,Fh,BR,wV,BO,Snd.enc,Ec,wY,xN,vA,Out.enc,xB,xX]
end Ab
namespace Ab
open Go
theorem Qy:∀(k:Nat) (a b:Int),(b-a).toNat≤k→∀p∈cut a b,a≤p.1∧p.1<p.2∧p.2≤b∧p.2≤p.1+16
 |k,a,b,h,p,hp=>by
  by_cases hq:a<b
  ·rw [Kg hq] at hp;have hc:=I0 hq;rcases xP.1 hp with rfl|hp
   ·have:GF a b≤a+16:=by unfold GF;split<;>omega
    exact ⟨Int.le_refl _,hc.1,hc.2,this⟩
   ·cases k with
    |zero=>omega
    |succ k=>
     have:=Qy k (GF a b) b (by omega) p hp;omega
  ·rw [Qx hq] at hp;cases hp
theorem cut_ne {a b:Int} (h:a<b):cut a b≠[]:=by rw [Kg h];simp
structure Piece (d:ByteArray) (ses:Int) (x:Seg):Prop where
 kind:x.kind=1
 ses_:x.ses=ses
 ser:x.ser=0
 tot:x.tot=d.size
 chk:x.chk=false
 cl:x.claims=[]
 off:0≤x.off∧x.off<d.size
 sz:1≤x.data.size∧x.data.size≤16
 fit:(x.data.size:Int)≤d.size-x.off
theorem V8 {d:ByteArray} {ses:Int} {p:Int×Int} (h:0≤p.1∧p.1<p.2∧p.2≤d.size∧p.2≤p.1+16):Piece d ses (raw d ses p):=by
 have hs:(raw d ses p).data.size=p.2.toNat-p.1.toNat:=by simp only [raw,size_extract];omega
 exact ⟨rfl,rfl,rfl,rfl,rfl,rfl,⟨h.1,by simp only [raw];omega⟩,by omega,by rw [hs];simp only [raw];omega⟩
theorem YA {d:ByteArray} {ses:Int} {x:Seg} (h:Piece d ses x) (hs:0≤ses∧ses≤1099511627776) (hd:1≤d.size∧d.size≤65536):By x=0:=by
 have k:=h.kind;have n:Bk x:=by unfold Bk;have:=h.ses_;have:=h.tot;have:=h.off;refine ⟨by omega,by omega,by omega,fun _=>⟨by omega,by omega,fun hc => ?_,fun _=>h.ser⟩⟩;rw [h.chk] at hc;cases hc
 have c:CJ x:=by unfold CJ;have:=h.tot;have:=h.fit;exact ⟨by omega,by omega,fun _=>⟨h.sz,by omega,h.cl⟩⟩
 unfold By;rw [if_neg (by omega),if_neg (fun f=>f n),if_neg (fun f=>f c)]
theorem NM {d:ByteArray} {ses:Int} {l:List Span} (h:Lr l d.size):∀x∈GS d ses l,Piece d ses x:=by intro x hx;unfold GS at hx;obtain ⟨y,hy,hx⟩:=mem_flatMap.1 hx;obtain ⟨p,hp,rfl⟩:=mem_map.1 hx;have h1:=h y hy;have h2:=Qy _ y.fro y.to (yI _) p hp;exact V8 (by omega)
theorem U7 {d:ByteArray} {ses:Int} {l:List Span} (h:Lr l d.size) (hl:l≠[]):GS d ses l≠[]:=by
 cases l with
 |nil=>exact absurd rfl hl
 |cons y l=>
  have h1:=h y (by simp);have h2:=cut_ne h1.2.1;unfold GS;rw [List.flatMap_cons];intro e;exact h2 (List.map_eq_nil_iff.1 (List.append_eq_nil_iff.1 e).1)
theorem Rx {d:ByteArray} {ses:Int}:∀{l:List Span} {b n:Int},Canon b l→b<n→(∀x∈l,x.to≤n)→((GS d ses l).length:Int)≤n-b
 |[],b,n,_,h,_=>by simp [GS];omega
 |x::l,b,n,h,hb,ht=>by
  have h1:=h.1;have h2:=h.2.1;have h3:=ht x (by simp);have h4:=Qz _ x.fro x.to (yI _);rw [if_pos h2] at h4;have e:(GS d ses (x::l)).length=(cut x.fro x.to).length+(GS d ses l).length:=by unfold GS;rw [List.flatMap_cons,zV,wX]
  rw [e];by_cases he:x.to<n
  ·have:=Rx (d:=d) (ses:=ses) h.2.2 he (fun y hy=>ht y (by simp [hy]));omega
  ·cases l with
   |nil=>
    simp only [GS,List.flatMap_nil,zX];omega
   |cons y l=>
    have:=h.2.2.1;have:=h.2.2.2.1;have:=ht y (by simp);omega
theorem OA {l:List Span} {b n:Int} (h:Canon b l) (hw:BU l n):Canon (-1) l:=by
 cases l with
 |nil=>trivial
 |cons x l=>exact ⟨by have:=hw x (by simp);omega,h.2⟩
structure Bat (d:ByteArray) (ses ser:Int) (l:List Seg):Prop where
 ex:∃pre x,l=pre++[{x with ser:=ser,chk:=true}]∧Piece d ses x∧∀y∈pre,Piece d ses y
 len:(l.length:Int)≤d.size+1
theorem Pc {l:List Span} {n:Int} (h:A4 l=0) (hw:BU l n):inside l n=true:=by unfold inside;exact decide_eq_true ⟨h,(Bx h).2 hw⟩
theorem P0 {ses ser:Int} {d:ByteArray} {l:List Span} (hs:0≤ses∧ses≤1099511627776) (hr:1≤ser∧ser≤1099511627776) (hd:1≤d.size∧d.size≤65536) (hi:inside l d.size=true) (hl:l≠[]):Hh ses ser d l=0:=by unfold Hh;rw [if_neg (fun f=>f ⟨hs,hr⟩),if_neg (by omega),if_neg (by omega),if_neg (by rw [hi];simp),if_neg hl]
theorem IM {ses ser:Int} {d:ByteArray} {l:List Span} (h:Hh ses ser d l=0):Bat d ses ser (CU ses ser d l):=by
 have h0:=h;unfold Hh at h0;split at h0
 ·cases h0
 split at h0
 ·cases h0
 split at h0
 ·cases h0
 split at h0
 ·cases h0
 split at h0
 ·cases h0
 rename_i k1 k2 k3 k4 k5;have k4:inside l d.size=true:=by simpa using k4
 obtain ⟨g1,g2⟩:=Iq k4;have hn:=U7 (ses:=ses) g1 k5;obtain ⟨pre,x,hx⟩:∃pre x,GS d ses l=pre++[x]:=⟨_,_,(List.dropLast_concat_getLast hn).symm⟩
 have hp:=NM (ses:=ses) g1;rw [hx] at hp;have e:CU ses ser d l=pre++[{x with ser:=ser,chk:=true}]:=by unfold CU;rw [if_pos h,hx,F3]
 refine ⟨⟨pre,x,e,hp x (by simp),fun y hy=>hp y (by simp [hy])⟩,?_⟩;unfold inside at k4;have k4:=of_decide_eq_true k4;have hw:=(Bx k4.1).1 k4.2;have:=Rx (d:=d) (ses:=ses) (n:=d.size) (OA ((Ag _).1 k4.1).2.1 hw) (by omega) (fun x hx=>(hw x hx).2);rw [hx] at this;rw [e];simp only [zV,zW,zX] at this ⊢;omega
structure FOk (s:Snd):Prop where
 f:FU s=0
 few:s.acked.length≤900
theorem FOk.dat {s:Snd} (h:FOk s):1≤s.data.size∧s.data.size≤65536:=(DF h.f).2.1.2.1
theorem FOk.ack {s:Snd} (h:FOk s):A4 s.acked=0:=(DF h.f).2.2.1
theorem FOk.win {s:Snd} (h:FOk s):BU s.acked s.data.size:=(Bx h.ack).1 (DF h.f).2.2.2
theorem FOk.left {s:Snd} (h:FOk s):DP s=min_ (AY s.data) s.acked:=left_eq h.dat h.ack h.few
theorem FOk.IC {s:Snd} (h:FOk s):DP s=[]↔complete s=true:=by rw [← SK h.dat h.ack h.win h.few,wW]
theorem FOk.YW {s:Snd} (h:FOk s):A4 (DP s)=0:=by rw [h.left];obtain ⟨k1,k2,k3⟩:=Im h.dat h.ack h.win;have:=VD h.dat h.ack;have:=h.few;have:=h.dat;rw [Ag];exact ⟨by omega,k1,fun x hx=>by have:=k2 x hx;omega⟩
theorem FOk.YV {s:Snd} (h:FOk s):BU (DP s) s.data.size:=by rw [h.left];exact (Im h.dat h.ack h.win).2.1
theorem FOk.rng {s:Snd} (h:FOk s):1≤s.c.rng∧s.c.rng≤1048576∧1≤s.c.rate∧s.c.rate≤1000∧0≤s.c.start∧s.c.fin≤1099511627776-2*s.c.rng:=by obtain ⟨c1,c2⟩:=Dh (DF h.f).1;unfold Ft at c1;omega
theorem FOk.num {s:Snd} (h:FOk s):(0≤s.ses∧s.ses≤1099511627776)∧(s.c.start≤s.busy∧s.busy≤s.fin)∧s.fin≤s.c.fin∧(1≤s.ser∧s.ser≤1099511627776):=by have:=(DF h.f).2.1;unfold Cq at this;omega
theorem FOk.bat {s:Snd} (h:FOk s) (hc:complete s=false) (hr:s.ser<1099511627776):Hh s.ses (s.ser+1) s.data (DP s)=0:=by have:=h.num;refine P0 this.1 (by omega) h.dat (Pc h.YW h.YV) fun e => ?_;rw [h.IC.1 e] at hc;cases hc
theorem Wn {s:Snd} (hr:s.ser=1099511627776):Aa s=[]:=by unfold Aa CU;rw [if_neg];unfold Hh;rw [if_pos (by omega)];omega
end Ab
namespace Ab
open Go
def CK:Snd:=⟨⟨0,0,0,0,0,0,0⟩,0,ByteArray.mk #[],0,0,0,[],0,0⟩
def BK (p:Snd×List Out×Int):List Tree:=p.1.enc++[.sl 9 (p.2.1.map Out.enc),tI p.2.2]
def Ba (e:Int):Snd×List Out×Int:=(CK,[],e)
theorem JQ {s:Snd} {t:Int} {l:List Seg} {x:Seg} (hx:l.getLast? = some x) (hs:x.ser≤1099511627776):QN s l t=Fh (BR s t l):=by
 unfold QN BR;rw [hx];by_cases hq:s.fin<A1 s.c.rate t l
 ·simp [hq,Fh]
 ·simp [hq,Fh,(show ¬1099511627776<x.ser by omega)]
def BG (c:Con) (ses:Int) (d:ByteArray) (e:Int):Snd:=⟨c,ses,d,e,0,0,[],0,0⟩
def Ak (c:Con) (ses:Int) (d:ByteArray) (b e:Int):Snd×List Out×Int:=
 if Dn c≠0 then Ba 1 else if ¬(0≤ses∧ses≤1099511627776) then Ba 2 else if d.size=0 then Ba 20 else if 65536<d.size then Ba 4
 else if b<c.start∨e<b∨c.fin<e then Ba 2
 else if (BR (BG c ses d e) b (CU ses 1 d (AY d))).1.st=3 then Ba 16
 else ((BR (BG c ses d e) b (CU ses 1 d (AY d))).1,(BR (BG c ses d e) b (CU ses 1 d (AY d))).2,0)
theorem Q1:A4 []=0:=by simp [A4,BX]
theorem Tl {d:ByteArray} (hd:1≤d.size∧d.size≤65536) (s:Snd) (h1:s.data=d) (h2:s.acked=[]):DP s=AY d:=by
 have e:DP s=min_ (AY d) []:=by have:=left_eq (s:=s) (by rw [h1];exact hd) (by rw [h2];exact Q1) (by rw [h2];simp);rw [this,h1,h2]
 rw [e];obtain ⟨k1,k2,k3⟩:=Im (a:=[]) hd Q1 (fun x hx=>by cases hx);exact Di k1 ((Ag _).1 (FX hd)).2.1 fun t=>by rw [k3];simp [Ac,AY]
theorem W3 {d:ByteArray} (hd:1≤d.size∧d.size≤65536):inside (AY d) d.size=true:=Pc (FX hd) fun x hx=>by simp only [AY,xW] at hx;subst hx;exact ⟨Int.le_refl _,Int.le_refl _⟩
theorem LA {ses:Int} {d:ByteArray} (hs:0≤ses∧ses≤1099511627776) (hd:1≤d.size∧d.size≤65536):Hh ses 1 d (AY d)=0:=P0 hs (by omega) hd (W3 hd) (by simp [AY])
theorem Bat.len2 {d:ByteArray} {ses ser:Int} {l:List Seg} (h:Bat d ses ser l) (hd:d.size≤65536):l.length≤100000000:=by have:=h.len;omega
theorem J5 (c:Con) (ses:Int) (d:ByteArray) (b e:Int):AK C 2004367 (c.enc++[tI ses,.str d,tI b,tI e]) (BK (Ak c ses d b e)):=by
 refine AK.of (fun n=>Yi n _ _ _ _ _ _ _ _ _ _ _) ?_;by_cases h1:Dn c=0
 ·by_cases h2:0≤ses∧ses≤1099511627776
  ·by_cases h3:d.size=0
   ·refine ((s55 c).and (s92 ses 0 1099511627776)).mono fun n g => ?_;obtain ⟨g1,g2⟩:=g;simp only [Con.enc] at g1;simp only [g1,g2,vv,vf,wi,h1,h2,bne_self_eq_false,CY,h3,Ak,ne_eq,not_true_eq_false,BK,Ba,CK,Snd.enc,vA,xB,xX]
   ·by_cases h4:65536<d.size
    ·refine ((s55 c).and (s92 ses 0 1099511627776)).mono fun n g => ?_;obtain ⟨g1,g2⟩:=g;simp only [Con.enc] at g1;simp only [g1,g2,vv,vf,wi,h1,h2,bne_self_eq_false,CY,h3,h4,(show (65536:Int)<(d.size:Int) by omega),Ak,ne_eq,not_true_eq_false,BK,Ba,CK,Snd.enc,vA,xB,xX]
    ·by_cases h5:b<c.start∨e<b∨c.fin<e
     ·refine ((s55 c).and (s92 ses 0 1099511627776)).mono fun n g => ?_;obtain ⟨g1,g2⟩:=g;simp only [Con.enc] at g1;have r:BK (Ak c ses d b e)=BK (Ba 2):=by simp only [Ak,h1,h2,h3,h4,h5,ne_eq,not_true_eq_false,if_false,if_true,and_self]
      rw [r];simp only [g1,g2,vv,vf,wi,h1,h2,bne_self_eq_false,CY,h3,(show ¬(65536:Int)<(d.size:Int) by omega)];by_cases q1:b<c.start
      ·simp only [TE,q1,AF,vv,vf,wK,BK,Ba,CK,Snd.enc,vA,xB,xX]
      ·by_cases q2:e<b
       ·simp only [TE,q1,q2,AF,vv,vf,wK,BK,Ba,CK,Snd.enc,vA,xB,xX]
       ·have q3:c.fin<e:=by omega
        simp only [TE,q1,q2,q3,AF,vv,vf,wK,BK,Ba,CK,Snd.enc,vA,xB,xX]
     ·have hd:1≤d.size∧d.size≤65536:=by omega
      obtain ⟨c1,c2⟩:=Dh h1;unfold Ft at c1;have hb:=LA h2 hd;have hl:=(IM hb).len2 hd.2;have e94:Aa ⟨⟨0,0,0,0,0,0,0⟩,ses,d,0,0,0,[],0,0⟩=CU ses 1 d (AY d):=by unfold Aa;rw [Tl hd _ rfl rfl];rfl
      have t37:=s94 ⟨⟨0,0,0,0,0,0,0⟩,ses,d,0,0,0,[],0,0⟩ (by simp);rw [e94] at t37;refine ((s55 c).and ((s92 ses 0 1099511627776).and (t37.and (NB (BG c ses d e) b _ hl (by omega) (by simp only [BG];omega))))).mono fun n g => ?_;obtain ⟨g1,g2,g3,g4⟩:=g;simp only [Con.enc] at g1;have r:Ak c ses d b e=if (BR (BG c ses d e) b (CU ses 1 d (AY d))).1.st=3 then Ba 16 else ((BR (BG c ses d e) b (CU ses 1 d (AY d))).1,(BR (BG c ses d e) b (CU ses 1 d (AY d))).2,0):=by simp only [Ak,h1,h2,h3,h4,h5,ne_eq,not_true_eq_false,if_false,and_self]
      rw [r];generalize BR (BG c ses d e) b (CU ses 1 d (AY d))=p at g4;obtain ⟨p,o⟩:=p;simp only [Snd.enc,BG,Fh,xB,xX,vA] at g3 g4;have q1:¬b<c.start:=by omega
      have q2:¬e<b:=by omega
      have q3:¬c.fin<e:=by omega
      simp only [g1,g2,AF,Az,vv,vf,wK,wi,h1,h2,bne_self_eq_false,CY,h3,(show ¬(65536:Int)<(d.size:Int) by omega),TE,q1,q2,q3,g3,g4,beq_iff_eq];by_cases hp:p.st=3
      ·simp only [hp,vv,BK,Ba,CK,Snd.enc,vA,xB,xX]
      ·simp only [hp,vv,BK,Snd.enc,xB,xX]
  ·refine ((s55 c).and (s92 ses 0 1099511627776)).mono fun n g => ?_;obtain ⟨g1,g2⟩:=g;simp only [Con.enc] at g1;simp only [g1,g2,vv,vf,wi,h1,h2,bne_self_eq_false,Ak,ne_eq,not_true_eq_false,not_false_eq_true,BK,Ba,CK,Snd.enc,vA,xB,xX]
 ·refine (s55 c).mono fun n g1 => ?_;simp only [Con.enc] at g1;simp only [g1,vv,vf,h1,bne_iff_ne,ne_eq,not_false_eq_true,Ak,BK,Ba,CK,Snd.enc,vA,xB,xX]
theorem Bat.last {d:ByteArray} {ses ser:Int} {l:List Seg} (h:Bat d ses ser l):∃x,l.getLast? = some x∧x.ser=ser∧l≠[]:=by obtain ⟨pre,x,rfl,_⟩:=h.ex;exact ⟨_,wV ..,rfl,by simp⟩
theorem Rj (c:Con) (ses:Int) (d:ByteArray) (b e:Int):AK C 2003023 (c.enc++[tI ses,.str d,tI b,tI e]) (BK (Ak c ses d b e)):=by
 refine AK.of (fun n=>Yj n _ _ _ _ _ _ _ _ _ _ _) ?_;by_cases h1:Dn c=0
 ·by_cases h2:0≤ses∧ses≤1099511627776
  ·have w1:¬ses<0:=by omega
   have w2:¬1099511627776<ses:=by omega
   by_cases h3:d.size=0
   ·refine (s72 c).mono fun n g1 => ?_;simp only [Con.enc] at g1;simp only [g1,vv,vf,wK,h1,bne_self_eq_false,w1,w2,D7,h2,h3,Ak,ne_eq,not_true_eq_false,BK,Ba,CK,Snd.enc,vA,xB,xX,nc0,beq_self_eq_true]
   ·by_cases h4:65536<d.size
    ·refine (s72 c).mono fun n g1 => ?_;simp only [Con.enc] at g1;simp only [g1,vv,vf,wK,h1,bne_self_eq_false,w1,w2,D7,h2,h3,h4,(show (65536:Int)<(d.size:Int) by omega),beq_iff_eq,(show ¬((d.size:Int)=0) by omega),Ak,ne_eq,not_true_eq_false,BK,Ba,CK,Snd.enc,vA,xB,xX]
    ·by_cases h5:b<c.start∨e<b∨c.fin<e
     ·refine (s72 c).mono fun n g1 => ?_;simp only [Con.enc] at g1;have r:BK (Ak c ses d b e)=BK (Ba 2):=by simp only [Ak,h1,h2,h3,h4,h5,ne_eq,not_true_eq_false,if_false,if_true,and_self]
      rw [r];simp only [g1,vv,vf,wK,h1,bne_self_eq_false,w1,w2,D7,(show ¬(65536:Int)<(d.size:Int) by omega),beq_iff_eq,(show ¬((d.size:Int)=0) by omega)];by_cases q1:b<c.start
      ·simp only [TF,q1,vv,vf,wK,BK,Ba,CK,Snd.enc,vA,xB,xX]
      ·by_cases q2:e<b
       ·simp only [TF,q1,q2,vv,vf,wK,BK,Ba,CK,Snd.enc,vA,xB,xX]
       ·have q3:c.fin<e:=by omega
        simp only [TF,q1,q2,q3,vv,vf,wK,BK,Ba,CK,Snd.enc,vA,xB,xX]
     ·have hd:1≤d.size∧d.size≤65536:=by omega
      obtain ⟨c1,c2⟩:=Dh h1;unfold Ft at c1;have hb:=LA h2 hd;have hl:=(IM hb).len2 hd.2;obtain ⟨x,hx,hxs,hne⟩:=(IM hb).last;have t40:=NC (BG c ses d e) _ b hne hl (by omega) (by simp only [BG];omega);rw [JQ hx (by omega)] at t40;have t39:=s73 ses 1 d (AY d);rw [hb] at t39;refine ((s72 c).and (t39.and t40)).mono fun n g => ?_;obtain ⟨g1,g3,g4⟩:=g;simp only [Con.enc] at g1;have r:Ak c ses d b e=if (BR (BG c ses d e) b (CU ses 1 d (AY d))).1.st=3 then Ba 16 else ((BR (BG c ses d e) b (CU ses 1 d (AY d))).1,(BR (BG c ses d e) b (CU ses 1 d (AY d))).2,0):=by simp only [Ak,h1,h2,h3,h4,h5,ne_eq,not_true_eq_false,if_false,and_self]
      rw [r];generalize BR (BG c ses d e) b (CU ses 1 d (AY d))=p at g4;obtain ⟨p,o⟩:=p;simp only [Snd.enc,BG,Fh,AY,Span.enc,xB,xX,vA,xN] at g3 g4;have q1:¬b<c.start:=by omega
      have q2:¬e<b:=by omega
      have q3:¬c.fin<e:=by omega
      simp only [g1,Az,vv,vf,wK,h1,bne_self_eq_false,w1,w2,D7,(show ¬(65536:Int)<(d.size:Int) by omega),(show ¬((d.size:Int)=0) by omega),TF,q1,q2,q3,g3,g4,beq_iff_eq];by_cases hp:p.st=3
      ·simp only [hp,vv,BK,Ba,CK,Snd.enc,vA,xB,xX]
      ·simp only [hp,vv,BK,Snd.enc,xB,xX]
  ·refine (s72 c).mono fun n g1 => ?_;simp only [Con.enc] at g1;have r:BK (Ak c ses d b e)=BK (Ba 2):=by simp only [Ak,h1,h2,ne_eq,not_true_eq_false,not_false_eq_true,if_false,if_true]
   rw [r];by_cases w1:ses<0
   ·simp only [g1,vv,vf,wK,h1,bne_self_eq_false,w1,D7,BK,Ba,CK,Snd.enc,vA,xB,xX]
   ·have w2:1099511627776<ses:=by omega
    simp only [g1,vv,vf,wK,h1,bne_self_eq_false,w1,w2,D7,BK,Ba,CK,Snd.enc,vA,xB,xX]
 ·refine (s72 c).mono fun n g1 => ?_;simp only [Con.enc] at g1;simp only [g1,vv,vf,h1,bne_iff_ne,ne_eq,not_false_eq_true,Ak,BK,Ba,CK,Snd.enc,vA,xB,xX]
end Ab
namespace Ab
open Go
def A5 (s:Snd) (x:Seg):Snd:={s with acked:=uni s.acked x.claims}
def Ea (s:Snd) (t:Int) (x:Seg):Snd×List Out:=
 if x.ser≠s.ser∨x.tot≠s.data.size then (s,[]) else if complete (A5 s x)=true then ({A5 s x with due:=0,st:=2},[]) else BR (A5 s x) t (Aa (A5 s x))
def Av (s:Snd) (t:Int) (x:Seg):Snd×List Out×Int:=
 if Fv s≠0∨By x≠0 then Ba 1 else if ¬(s.busy≤t∧t≤2199023255552) then Ba 2
 else if s.st≠1∨x.ses≠s.ses∨x.kind=1 then (s,[],0) else if x.kind=3 then (CF s,[],0)
 else ((Ea s t x).1,(Ea s t x).2,0)
def Bv (l:List Seg):List Seg:=l.drop (l.length-1)
def Bt (s:Snd) (t:Int):Snd×List Out×Int:=
 if Fv s≠0 then Ba 1 else if s.st≠1 then Ba 19 else if ¬(s.due≤t∧t≤2199023255552) then Ba 2
 else ((BR s t (Bv (Aa s))).1,(BR s t (Bv (Aa s))).2,0)
theorem Lh {s:Snd} (h:Fv s=0):FU s=0∧fits s=true:=by
 unfold Fv at h;split at h
 ·rename_i h1;exact absurd h h1
 ·rename_i h1;split at h
  ·rename_i h2;exact ⟨by omega,h2⟩
  ·cases h
theorem FOk.batch {s:Snd} (h:FOk s) (hc:complete s=false):s.ser=1099511627776∧Aa s=[]∨s.ser<1099511627776∧Bat s.data s.ses (s.ser+1) (Aa s):=by
 have:=h.num;by_cases hr:s.ser=1099511627776
 ·exact .inl ⟨hr,Wn hr⟩
 ·have hr:s.ser<1099511627776:=by omega
  exact .inr ⟨hr,IM (h.bat hc hr)⟩
theorem FOk.Pz {s:Snd} (h:FOk s) (hc:complete s=false):(Aa s).length≤65537:=by
 have:=h.dat;rcases h.batch hc with ⟨_,e⟩|⟨_,b⟩
 ·rw [e];simp
 ·have:=b.len;omega
theorem Nh (l:List Seg):(Bv l).length≤1:=by unfold Bv;rw [xK];omega
theorem JJ (pre:List Seg) (x:Seg):Bv (pre++[x])=[x]:=by unfold Bv;simp
structure GOk (x:Seg):Prop where
 g:By x=0
 few:x.claims.length≤100
theorem D9 {x:Seg} (h:By x=0):(1≤x.kind∧x.kind≤3)∧Bk x∧CJ x:=by
 unfold By at h;split at h
 ·cases h
 ·rename_i h1;split at h
  ·cases h
  ·rename_i h2;split at h
   ·cases h
   ·rename_i h3;exact ⟨wO.1 h1,wO.1 h2,wO.1 h3⟩
theorem GOk.cl {x:Seg} (h:GOk x) (hk:x.kind=2):A4 x.claims=0∧BU x.claims x.tot:=by have:=(D9 h.g).2.2.2.1 hk;have k4:=this.2.2;unfold inside at k4;have k4:=of_decide_eq_true k4;exact ⟨k4.1,(Bx k4.1).1 k4.2⟩
theorem W4 {a b:List Span} {n:Int} (ha:A4 a=0) (hb:A4 b=0) (wa:BU a n) (wb:BU b n) (hl:a.length+b.length≤1000) (hn:n≤65536):A4 (uni a b)=0∧BU (uni a b) n∧∀t,Ac t (uni a b)↔Ac t a∨Ac t b:=by
 obtain ⟨k1,k2⟩:=Jv ((Ag _).1 ha).2.1 ((Ag _).1 hb).2.1;have hw:BU (uni a b) n:=Gx k1 fun t m=>by
  rcases (k2 t).1 m with m|m
  ·exact EW wa m
  ·exact EW wb m
 have:=QH ha hb;refine ⟨(Ag _).2 ⟨by omega,k1,fun x hx=>by have:=hw x hx;omega⟩,hw,k2⟩
theorem Q8 {s:Snd} {x:Seg} (h:FOk s) (hs:s.acked.length≤100) (g:GOk x) (hk:x.kind=2) (ht:x.tot=s.data.size):FOk (A5 s x):=by
 obtain ⟨k1,k2⟩:=g.cl hk;rw [ht] at k2;have hd:=h.dat;have:=g.few;obtain ⟨u1,u2,u3⟩:=W4 h.ack k1 h.win k2 (by omega) (by omega);refine ⟨?_,?_⟩
 ·obtain ⟨c1,c2,c3⟩:=DF h.f;unfold FU;have a1:Cq (A5 s x):=c2;have a2:Mf (A5 s x):=⟨u1,(Bx u1).2 u2⟩
  have a0:Dn (A5 s x).c=0:=c1;rw [if_neg (fun f=>f a0),if_neg (fun f=>f a1),if_neg (fun f=>f a2)]
 ·have:=QH h.ack k1;have e:(A5 s x).acked=uni s.acked x.claims:=rfl;rw [e];omega
theorem RX {a b:List Span} (ha:A4 a=0) (hb:A4 b=0) (hl:a.length+b.length≤1000):C6 a b=uni a b∧C7 a b=0:=by have:=QH ha hb;unfold C6 C7;simp [ha,hb,(show ¬1000<(uni a b).length by omega)]
theorem s186 (s:Snd) (t:Int) (x:Seg) (h:FOk s) (hs:s.acked.length≤100) (g:GOk x) (hk:x.kind=2) (ht:s.busy≤t∧t≤2199023255552):AK C 186 (s.enc++[tI t]++x.enc) (Fh (Ea s t x)):=by
 refine AK.of (fun n=>e186 n _ _ _ _ _ _ _ _ _ _ _ _ _ _ _ _ _ _ _ _ _ _ _ _) ?_;obtain ⟨k1,k2⟩:=g.cl hk;have hcl:=g.few;obtain ⟨u1,u2⟩:=RX h.ack k1 (by omega);have t67:=s183 s.acked x.claims;rw [EX,u1,u2] at t67;have hrng:=h.rng;have hnum:=h.num;by_cases q1:x.ser=s.ser
 ·by_cases q2:x.tot=s.data.size
  ·have hA:=Q8 h hs g hk q2;by_cases q3:complete (A5 s x)=true
   ·refine (t67.and (s185 (A5 s x) (by have:=hA.few;omega))).mono fun n y => ?_;obtain ⟨y1,y2⟩:=y;simp only [Snd.enc,A5] at y2;have r:Ea s t x=({A5 s x with due:=0,st:=2},[]):=by unfold Ea;rw [if_neg (by omega),if_pos q3]
    rw [r];unfold A5 at q3;simp only [y1,y2,vv,vf,wK,q1,q2,q3,bne_self_eq_false,Of,Fh,A5,Snd.enc,vA,xB,xX]
   ·have q3':complete (A5 s x)=false:=by simpa using q3
    have hbl:=hA.Pz q3';refine (t67.and ((s185 (A5 s x) (by have:=hA.few;omega)).and ((s94 (A5 s x) (by have:=hA.num;omega)).and (NB (A5 s x) t (Aa (A5 s x)) (by omega) (by omega) (by simp only [A5];omega))))).mono fun n y => ?_;obtain ⟨y1,y2,y3,y4⟩:=y;have r:Ea s t x=BR (A5 s x) t (Aa (A5 s x)):=by unfold Ea;rw [if_neg (by omega),if_neg q3]
    rw [r];rw [q3'] at y2;generalize BR (A5 s x) t (Aa (A5 s x))=p at y4;obtain ⟨p,o⟩:=p;generalize Aa (A5 s x)=bb at y3 y4;simp only [Snd.enc,A5,Fh,xB,xX] at y2 y3 y4;simp only [y1,y2,y3,y4,Az,vv,vf,wK,q1,q2,bne_self_eq_false,Of,Fh,Snd.enc,xB,xX]
  ·refine t67.mono fun n y1 => ?_;have r:Ea s t x=(s,[]):=by unfold Ea;rw [if_pos (by omega)]
   rw [r];simp only [y1,vv,vf,wK,q1,q2,bne_self_eq_false,bne_iff_ne,ne_eq,not_false_eq_true,Of,Fh,Snd.enc,vA,xB,xX]
 ·refine t67.mono fun n y1 => ?_;have r:Ea s t x=(s,[]):=by unfold Ea;rw [if_pos (by omega)]
  rw [r];simp only [y1,vv,vf,wK,q1,bne_iff_ne,ne_eq,not_false_eq_true,Of,Fh,Snd.enc,vA,xB,xX]
theorem s187 (s:Snd) (t:Int) (x:Seg):AK C 187 (s.enc++[tI t]++x.enc) (Fh (CF s,[])):=by refine AK.of (fun n=>e187 n _ _ _ _ _ _ _ _ _ _ _ _ _ _ _ _ _ _ _ _ _ _ _ _) ?_;refine (s116 s).mono fun n y => ?_;simp only [Snd.enc] at y;simp only [y,vv,vf,wK,Fh,CF,Snd.enc,vA,xB,xX]
theorem Qq {s:Snd} (h:Fv s=0) (hs:s.acked.length≤100):FOk s:=⟨(Lh h).1,by omega⟩
theorem Ye {x:Seg} (h:By x=0) (hx:x.claims.length≤100∨1000<x.claims.length):GOk x:=by
 refine ⟨h,?_⟩;obtain ⟨k1,k2,k3⟩:=D9 h;have hkk:x.kind=1∨x.kind=2∨x.kind=3:=by omega
 rcases hkk with hk|hk|hk
 ·rw [(k3.2.2 hk).2.2];simp
 ·have:=(k3.2.1 hk).2.2;unfold inside at this;have:=BA (of_decide_eq_true this).1;omega
 ·rw [(k3.1 hk).2.2];simp
theorem s148 (s:Snd) (t:Int) (x:Seg) (hs:s.acked.length≤100) (hx:x.claims.length≤100∨1000<x.claims.length):AK C 148 (s.enc++[tI t]++x.enc) (BK (Av s t x)):=by
 refine AK.of (fun n=>e148 n _ _ _ _ _ _ _ _ _ _ _ _ _ _ _ _ _ _ _ _ _ _ _ _) ?_;by_cases h1:Fv s=0
 ·by_cases h2:By x=0
  ·have hF:=Qq h1 hs;have hG:=Ye h2 hx;have hk:=(D9 h2).1;have hb:Ev fun n=>AA C n 164 s.enc=some [tI 0]∧AA C n 152 x.enc=some [tI 0]∧AA C n 92 [tI t,tI s.busy,tI 2199023255552]=some [.bool (wi t s.busy 2199023255552)]:=by have a:=TQ s;have b:=XZ x;rw [h1] at a;rw [h2] at b;exact a.and (b.and (s92 t s.busy 2199023255552))
   by_cases h3:s.busy≤t∧t≤2199023255552
   ·by_cases h4:s.st=1
    ·by_cases h5:x.ses=s.ses
     ·by_cases k1:x.kind=1
      ·refine hb.mono fun n g => ?_;obtain ⟨g1,g2,g3⟩:=g;simp only [Snd.enc,Seg.enc,wi] at g1 g2 g3;rw [k1] at g2;have r:Av s t x=(s,[],0):=by unfold Av;rw [if_neg (by omega),if_neg (by omega),if_pos (.inr (.inr k1))]
       rw [r];simp only [k1,g1,g2,g3,vv,vf,wK,HI,bne_self_eq_false,h3,Int.reduceEq,BK,Snd.enc,vA,xB,xX]
      ·by_cases k3:x.kind=3
       ·refine (hb.and (s187 s t x)).mono fun n g => ?_;obtain ⟨⟨g1,g2,g3⟩,g4⟩:=g;simp only [Snd.enc,Seg.enc,wi,Fh,CF,vA,xB,xX] at g1 g2 g3 g4;rw [k3] at g2 g4;have r:Av s t x=(CF s,[],0):=by unfold Av;rw [if_neg (by omega),if_neg (by omega),if_neg (by omega),if_pos k3]
        rw [r];simp only [k3,h4,h5] at g1 g2 g3 g4 ⊢;simp only [g1,g2,g3,g4,vv,vf,wK,HI,RM,bne_self_eq_false,h3,Int.reduceEq,BK,CF,Snd.enc,vA,xB,xX]
       ·have k2:x.kind=2:=by omega
        refine (hb.and (s186 s t x hF hs hG k2 h3)).mono fun n g => ?_;obtain ⟨⟨g1,g2,g3⟩,g4⟩:=g;have r:Av s t x=((Ea s t x).1,(Ea s t x).2,0):=by unfold Av;rw [if_neg (by omega),if_neg (by omega),if_neg (by omega),if_neg k3]
        rw [r];generalize Ea s t x=p at g4;obtain ⟨p,o⟩:=p;simp only [Snd.enc,Seg.enc,wi,Fh,xB,xX] at g1 g2 g3 g4;simp only [k2,h4,h5] at g1 g2 g3 g4 ⊢;simp only [g1,g2,g3,g4,vv,vf,wK,HI,RN,bne_self_eq_false,h3,Int.reduceEq,BK,Snd.enc,xB,xX]
     ·refine hb.mono fun n g => ?_;obtain ⟨g1,g2,g3⟩:=g;simp only [Snd.enc,Seg.enc,wi,h4] at g1 g2 g3;have r:Av s t x=(s,[],0):=by unfold Av;rw [if_neg (by omega),if_neg (by omega),if_pos (.inr (.inl h5))]
      rw [r];have hkk:x.kind=1∨x.kind=2∨x.kind=3:=by omega
      rcases hkk with k|k|k<;>rw [k] at g2<;>simp only [k,g1,g2,g3,vv,vf,wK,HI,RM,RN,bne_self_eq_false,h3,h4,h5,bne_iff_ne,ne_eq,not_false_eq_true,not_true_eq_false,Int.reduceEq,BK,Snd.enc,vA,xB,xX]
    ·refine hb.mono fun n g => ?_;obtain ⟨g1,g2,g3⟩:=g;simp only [Snd.enc,Seg.enc,wi] at g1 g2 g3;have r:Av s t x=(s,[],0):=by unfold Av;rw [if_neg (by omega),if_neg (by omega),if_pos (.inl h4)]
     rw [r];have hkk:x.kind=1∨x.kind=2∨x.kind=3:=by omega
     rcases hkk with k|k|k<;>rw [k] at g2<;>simp only [k,g1,g2,g3,vv,vf,wK,HI,RM,RN,bne_self_eq_false,h3,h4,bne_iff_ne,ne_eq,not_false_eq_true,not_true_eq_false,Int.reduceEq,BK,Snd.enc,vA,xB,xX]
   ·refine hb.mono fun n g => ?_;obtain ⟨g1,g2,g3⟩:=g;simp only [Snd.enc,Seg.enc,wi] at g1 g2 g3;have r:Av s t x=Ba 2:=by unfold Av;rw [if_neg (by omega),if_pos h3]
    rw [r];simp only [g1,g2,g3,vv,vf,wK,HI,bne_self_eq_false,h3,BK,Ba,CK,Snd.enc,vA,xB,xX]
  ·have r:Av s t x=Ba 1:=by unfold Av;rw [if_pos (.inr h2)]
   refine ((TQ s).and (XZ x)).mono fun n g => ?_;obtain ⟨g1,g2⟩:=g;rw [h1] at g1;simp only [Snd.enc,Seg.enc] at g1 g2;rw [r];simp only [g1,g2,vv,vf,wK,HI,bne_iff_ne,ne_eq,not_false_eq_true,not_true_eq_false,h2,BK,Ba,CK,Snd.enc,vA,xB,xX]
 ·have r:Av s t x=Ba 1:=by unfold Av;rw [if_pos (.inl h1)]
  refine (TQ s).mono fun n g1 => ?_;simp only [Snd.enc] at g1;rw [r];simp only [g1,vv,vf,wK,HI,bne_iff_ne,ne_eq,not_false_eq_true,h1,BK,Ba,CK,Snd.enc,vA,xB,xX]
end Ab
namespace Ab
open Go
theorem s83 (s:Snd) (t:Int) (x:Seg) (hs:s.acked.length≤100) (hx:x.claims.length≤100∨1000<x.claims.length):AK C 83 (s.enc++[tI t]++x.enc) (BK (Av s t x)):=by
 refine AK.of (fun n=>e83 n _ _ _ _ _ _ _ _ _ _ _ _ _ _ _ _ _ _ _ _ _ _ _ _) ?_;by_cases h1:Fv s=0
 ·by_cases h2:By x=0
  ·have hF:=Qq h1 hs;have hG:=Ye h2 hx;have hk:=(D9 h2).1;have hnum:=hF.num;have hrng:=hF.rng;have hb:Ev fun n=>AA C n 110 s.enc=some [tI 0]∧AA C n 106 x.enc=some [tI 0]:=by have a:=Rk s hF.few;have b:=Xb x;rw [h1] at a;rw [h2] at b;exact a.and b
   by_cases h3:s.busy≤t∧t≤2199023255552
   ·have w1:¬t<s.busy:=by omega
    have w2:¬2199023255552<t:=by omega
    by_cases h4:s.st=1
    ·by_cases h5:x.ses=s.ses
     ·by_cases k3:x.kind=3
      ·refine hb.mono fun n g => ?_;obtain ⟨g1,g2⟩:=g;have r:Av s t x=(CF s,[],0):=by unfold Av;rw [if_neg (by omega),if_neg (by omega),if_neg (by omega),if_pos k3]
       rw [r];simp only [Snd.enc,Seg.enc] at g1 g2;simp only [h4,h5,k3] at g1 g2 ⊢;simp only [g1,g2,vv,vf,wK,F7,Ha,JP,bne_self_eq_false,w1,w2,beq_self_eq_true,BK,CF,Snd.enc,vA,xB,xX]
      ·by_cases k2:x.kind=2
       ·obtain ⟨k1,kw⟩:=hG.cl k2;have hcl:=hG.few;obtain ⟨u1,u2⟩:=RX hF.ack k1 (by omega);have t44:=s108 s.acked x.claims;rw [EX,u1,u2] at t44;have r:Av s t x=((Ea s t x).1,(Ea s t x).2,0):=by unfold Av;rw [if_neg (by omega),if_neg (by omega),if_neg (by omega),if_neg k3]
        rw [r];by_cases q1:x.ser=s.ser
        ·by_cases q2:x.tot=s.data.size
         ·have hA:=Q8 hF hs hG k2 q2;by_cases q3:complete (A5 s x)=true
          ·refine (hb.and (t44.and (Xa (A5 s x)))).mono fun n g => ?_;obtain ⟨⟨g1,g2⟩,g3,g4⟩:=g;have r:Ea s t x=({A5 s x with due:=0,st:=2},[]):=by unfold Ea;rw [if_neg (by omega),if_pos q3]
           rw [r];rw [hA.IC.2 q3] at g4;simp only [Snd.enc,Seg.enc,A5,vA] at g1 g2 g4;simp only [h4,h5,k2,q1,q2] at g1 g2 g3 g4 ⊢;simp only [g1,g2,g3,g4,vv,vf,wK,F7,Ha,JP,Oe,bne_self_eq_false,w1,w2,Int.reduceBEq,BK,A5,Snd.enc,vA,xB,xX,nc0,beq_self_eq_true]
          ·have q3':complete (A5 s x)=false:=by simpa using q3
           have hne:¬((DP (A5 s x)).length:Int)=0:=by intro e;refine q3 (hA.IC.1 (zI (by omega)))
           have r:Ea s t x=BR (A5 s x) t (Aa (A5 s x)):=by unfold Ea;rw [if_neg (by omega),if_neg q3]
           rw [r];rcases hA.batch q3' with ⟨b1,b2⟩|⟨b1,b2⟩
           ·refine (hb.and (t44.and (Xa (A5 s x)))).mono fun n g => ?_;obtain ⟨⟨g1,g2⟩,g3,g4⟩:=g;have b1:s.ser=1099511627776:=b1;have r:BR (A5 s x) t (Aa (A5 s x))=(CF (A5 s x),[]):=by rw [b2];rfl
            rw [r];generalize DP (A5 s x)=ll at g4 hne;simp only [Snd.enc,Seg.enc,A5] at g1 g2 g4;simp only [h4,h5,k2,q1,q2] at g1 g2 g3 g4 ⊢;rw [b1] at g1 g2 g4;simp only [b1,g1,g2,g3,g4,vv,vf,wK,F7,Ha,JP,Oe,bne_self_eq_false,w1,w2,Int.reduceBEq,beq_iff_eq,hne,BK,CF,A5,Snd.enc,vA,xB,xX]
           ·have b1:s.ser<1099511627776:=b1;obtain ⟨z,hz,hzs,hzn⟩:=b2.last;have hl:=b2.len2 hA.dat.2;have t39:=s73 s.ses (s.ser+1) s.data (DP (A5 s x));have e0:Hh s.ses (s.ser+1) s.data (DP (A5 s x))=0:=hA.bat q3' b1;rw [e0] at t39;have t39:AK C 73 [tI s.ses,tI (s.ser+1),.str s.data,.sl 2 ((DP (A5 s x)).map Span.enc)] [.sl 8 ((Aa (A5 s x)).map Seg.enc),tI 0]:=t39;have t40:=NC (A5 s x) (Aa (A5 s x)) t hzn hl (by omega) (by simp only [A5];omega);rw [JQ hz (by simp only [A5] at hzs;omega)] at t40;refine (hb.and (t44.and ((Xa (A5 s x)).and (t39.and t40)))).mono fun n g => ?_;obtain ⟨⟨g1,g2⟩,g3,g4,g5,g6⟩:=g;generalize BR (A5 s x) t (Aa (A5 s x))=p at g6;obtain ⟨p,o⟩:=p;generalize Aa (A5 s x)=bb at g5 g6;generalize DP (A5 s x)=ll at g4 g5 hne;have nn:¬s.ser=1099511627776:=by omega
            simp only [Snd.enc,Seg.enc,A5,Fh,xB,xX] at g1 g2 g4 g6;simp only [h4,h5,k2,q1,q2] at g1 g2 g3 g4 g5 g6 ⊢;simp only [g1,g2,g3,g4,g5,g6,Az,vv,vf,wK,F7,Ha,JP,Oe,bne_self_eq_false,w1,w2,Int.reduceBEq,beq_iff_eq,hne,nn,AM (x:=s.ser+1) (by omega) (by omega),BK,Snd.enc,xB,xX]
         ·refine hb.mono fun n g => ?_;obtain ⟨g1,g2⟩:=g;have r:Ea s t x=(s,[]):=by unfold Ea;rw [if_pos (by omega)]
          rw [r];simp only [Snd.enc,Seg.enc] at g1 g2;simp only [h4,h5,k2,q1] at g1 g2 ⊢;simp only [g1,g2,vv,vf,wK,F7,Ha,JP,Oe,bne_self_eq_false,w1,w2,Int.reduceBEq,bne_iff_ne,ne_eq,q2,not_false_eq_true,not_true_eq_false,h4,BK,Snd.enc,vA,xB,xX]
        ·refine hb.mono fun n g => ?_;obtain ⟨g1,g2⟩:=g;have r:Ea s t x=(s,[]):=by unfold Ea;rw [if_pos (by omega)]
         rw [r];simp only [Snd.enc,Seg.enc] at g1 g2;simp only [h4,h5,k2] at g1 g2 ⊢;simp only [g1,g2,vv,vf,wK,F7,Ha,JP,Oe,bne_self_eq_false,w1,w2,Int.reduceBEq,bne_iff_ne,ne_eq,q1,not_false_eq_true,not_true_eq_false,h4,BK,Snd.enc,vA,xB,xX]
       ·have k1:x.kind=1:=by omega
        refine hb.mono fun n g => ?_;obtain ⟨g1,g2⟩:=g;have r:Av s t x=(s,[],0):=by unfold Av;rw [if_neg (by omega),if_neg (by omega),if_pos (.inr (.inr k1))]
        rw [r];simp only [Snd.enc,Seg.enc] at g1 g2;simp only [h4,h5,k1] at g1 g2 ⊢;simp only [g1,g2,vv,vf,wK,F7,Ha,JP,Oe,bne_self_eq_false,w1,w2,Int.reduceBEq,Int.reduceBNe,h4,BK,Snd.enc,vA,xB,xX]
     ·refine hb.mono fun n g => ?_;obtain ⟨g1,g2⟩:=g;have r:Av s t x=(s,[],0):=by unfold Av;rw [if_neg (by omega),if_neg (by omega),if_pos (.inr (.inl h5))]
      rw [r];simp only [Snd.enc,Seg.enc] at g1 g2;simp only [h4] at g1 g2 ⊢;simp only [g1,g2,vv,vf,wK,F7,Ha,JP,bne_self_eq_false,w1,w2,bne_iff_ne,ne_eq,h5,not_false_eq_true,not_true_eq_false,h4,BK,Snd.enc,vA,xB,xX]
    ·refine hb.mono fun n g => ?_;obtain ⟨g1,g2⟩:=g;have r:Av s t x=(s,[],0):=by unfold Av;rw [if_neg (by omega),if_neg (by omega),if_pos (.inl h4)]
     rw [r];simp only [Snd.enc,Seg.enc] at g1 g2;simp only [g1,g2,vv,vf,wK,F7,Ha,JP,bne_self_eq_false,w1,w2,bne_iff_ne,ne_eq,h4,not_false_eq_true,not_true_eq_false,BK,Snd.enc,vA,xB,xX]
   ·refine hb.mono fun n g => ?_;obtain ⟨g1,g2⟩:=g;simp only [Snd.enc,Seg.enc] at g1 g2;have r:Av s t x=Ba 2:=by unfold Av;rw [if_neg (by omega),if_pos h3]
    rw [r];by_cases w1:t<s.busy
    ·simp only [g1,g2,vv,vf,wK,F7,Ha,bne_self_eq_false,w1,BK,Ba,CK,Snd.enc,vA,xB,xX]
    ·have w2:2199023255552<t:=by omega
     simp only [g1,g2,vv,vf,wK,F7,Ha,bne_self_eq_false,w1,w2,BK,Ba,CK,Snd.enc,vA,xB,xX]
  ·have r:Av s t x=Ba 1:=by unfold Av;rw [if_pos (.inr h2)]
   refine ((Rk s (by omega)).and (Xb x)).mono fun n g => ?_;obtain ⟨g1,g2⟩:=g;rw [h1] at g1;simp only [Snd.enc,Seg.enc] at g1 g2;rw [r];simp only [g1,g2,vv,vf,wK,F7,bne_iff_ne,ne_eq,not_false_eq_true,not_true_eq_false,h2,BK,Ba,CK,Snd.enc,vA,xB,xX]
 ·have r:Av s t x=Ba 1:=by unfold Av;rw [if_pos (.inl h1)]
  refine (Rk s (by omega)).mono fun n g1 => ?_;simp only [Snd.enc] at g1;rw [r];simp only [g1,vv,vf,wK,F7,bne_iff_ne,ne_eq,not_false_eq_true,h1,BK,Ba,CK,Snd.enc,vA,xB,xX]
theorem JN (l:List Seg):List.map Seg.enc (Bv l)=drop (l.length-1) (List.map Seg.enc l):=by unfold Bv;rw [wZ]
theorem Ld {s:Snd} (h:Fv s=0) (h4:s.st=1):complete s=false∧s.due=s.busy+2*s.c.rng+1:=by
 have:=(Lh h).2;unfold fits at this;have:=of_decide_eq_true this;have e:Tx s=s.busy+2*s.c.rng+1:=rfl;rcases this with k|k|k
 ·exact ⟨k.2.1,by rw [k.2.2,e]⟩
 ·omega
 ·omega
theorem s149 (s:Snd) (t:Int) (hs:s.acked.length≤100):AK C 149 (s.enc++[tI t]) (BK (Bt s t)):=by
 refine AK.of (fun n=>e149 n _ _ _ _ _ _ _ _ _ _ _ _ _ _ _ _) ?_;by_cases h1:Fv s=0
 ·have hF:=Qq h1 hs;have hnum:=hF.num;have hrng:=hF.rng;by_cases h4:s.st=1
  ·obtain ⟨hc,hd⟩:=Ld h1 h4;by_cases h3:s.due≤t∧t≤2199023255552
   ·have hl:=hF.Pz hc;refine ((TQ s).and ((s92 t s.due 2199023255552).and ((s94 s (by omega)).and (NB s t (Bv (Aa s)) (by have:=Nh (Aa s);omega) (by omega) (by omega))))).mono fun n g => ?_;obtain ⟨g1,g2,g3,g4⟩:=g;have r:Bt s t=((BR s t (Bv (Aa s))).1,(BR s t (Bv (Aa s))).2,0):=by unfold Bt;rw [if_neg (by omega),if_neg (by omega),if_neg (by omega)]
    rw [r];rw [JN] at g4;generalize BR s t (Bv (Aa s))=p at g4;obtain ⟨p,o⟩:=p;rw [h1] at g1;generalize Aa s=bb at g3 g4 hl;simp only [Snd.enc,wi,Fh,xB,xX] at g1 g2 g3 g4;simp only [h4] at g1 g3 g4 ⊢;have e1:(if w64 ((bb.length:Int)-1)>0 then w64 ((bb.length:Int)-1) else 0)=((bb.length-1:Nat):Int):=by rw [AM (by omega) (by omega)];split<;>omega
    have e2:take bb.length (List.map Seg.enc bb)=List.map Seg.enc bb:=vD (by simp);simp only [gt_iff_lt] at e1;simp only [g1,g2,g3,AF,Az,vv,vf,wK,bne_self_eq_false,h3,e1,e2,g4,(show ((bb.length-1:Nat):Int)≤(bb.length:Int) by omega),BK,Snd.enc,xB,xX]
   ·refine ((TQ s).and (s92 t s.due 2199023255552)).mono fun n g => ?_;obtain ⟨g1,g2⟩:=g;have r:Bt s t=Ba 2:=by unfold Bt;rw [if_neg (by omega),if_neg (by omega),if_pos h3]
    rw [r];rw [h1] at g1;simp only [Snd.enc,wi] at g1 g2;simp only [h4] at g1 ⊢;simp only [g1,g2,AF,vv,vf,wK,bne_self_eq_false,h3,BK,Ba,CK,Snd.enc,vA,xB,xX]
  ·refine (TQ s).mono fun n g1 => ?_;have r:Bt s t=Ba 19:=by unfold Bt;rw [if_neg (by omega),if_pos h4]
   rw [r];rw [h1] at g1;simp only [Snd.enc] at g1;simp only [g1,AF,vv,vf,wK,bne_iff_ne,ne_eq,not_false_eq_true,not_true_eq_false,h4,BK,Ba,CK,Snd.enc,vA,xB,xX]
 ·have r:Bt s t=Ba 1:=by unfold Bt;rw [if_pos h1]
  refine (TQ s).mono fun n g1 => ?_;simp only [Snd.enc] at g1;rw [r];simp only [g1,AF,vv,vf,wK,bne_iff_ne,ne_eq,not_false_eq_true,h1,BK,Ba,CK,Snd.enc,vA,xB,xX]
theorem s84 (s:Snd) (t:Int) (hs:s.acked.length≤100):AK C 84 (s.enc++[tI t]) (BK (Bt s t)):=by
 refine AK.of (fun n=>e84 n _ _ _ _ _ _ _ _ _ _ _ _ _ _ _ _) ?_;by_cases h1:Fv s=0
 ·have hF:=Qq h1 hs;have hnum:=hF.num;have hrng:=hF.rng;by_cases h4:s.st=1
  ·obtain ⟨hc,hd⟩:=Ld h1 h4;by_cases h3:s.due≤t∧t≤2199023255552
   ·have w1:¬t<s.due:=by omega
    have w2:¬2199023255552<t:=by omega
    have r:Bt s t=((BR s t (Bv (Aa s))).1,(BR s t (Bv (Aa s))).2,0):=by unfold Bt;rw [if_neg (by omega),if_neg (by omega),if_neg (by omega)]
    rw [r];rcases hF.batch hc with ⟨b1,b2⟩|⟨b1,b2⟩
    ·refine (Rk s hF.few).mono fun n g1 => ?_;have r:BR s t (Bv (Aa s))=(CF s,[]):=by rw [b2];rfl
     rw [r];rw [h1] at g1;simp only [Snd.enc] at g1;simp only [h4,b1] at g1 ⊢;simp only [b1,g1,vv,vf,wK,bne_self_eq_false,w1,w2,TD,beq_self_eq_true,BK,CF,Snd.enc,vA,xB,xX]
    ·have hl:=b2.len2 hF.dat.2;obtain ⟨pre,z,hz,_⟩:=b2.ex;have t39:=s73 s.ses (s.ser+1) s.data (DP s);have e0:Hh s.ses (s.ser+1) s.data (DP s)=0:=hF.bat hc b1;rw [e0] at t39;have t39:AK C 73 [tI s.ses,tI (s.ser+1),.str s.data,.sl 2 ((DP s).map Span.enc)] [.sl 8 ((Aa s).map Seg.enc),tI 0]:=t39;have hlo:Bv (Aa s)=[{z with ser:=s.ser+1,chk:=true}]:=by rw [hz,JJ]
     have t40:=NC s (Bv (Aa s)) t (by rw [hlo];simp) (by have:=Nh (Aa s);omega) (by omega) (by omega);rw [JQ (x:={z with ser:=s.ser+1,chk:=true}) (by rw [hlo];rfl) (by simp only;omega),JN] at t40;have hp:1≤(Aa s).length:=by rw [hz];simp
     refine ((Rk s hF.few).and ((Xa s).and (t39.and t40))).mono fun n g => ?_;obtain ⟨g1,g2,g3,g4⟩:=g;generalize BR s t (Bv (Aa s))=p at g4;obtain ⟨p,o⟩:=p;rw [h1] at g1;generalize Aa s=bb at g3 g4 hl hp;have nn:¬s.ser=1099511627776:=by omega
     simp only [Snd.enc,Fh,xB,xX] at g1 g2 g3 g4;simp only [h4] at g1 g2 g4 ⊢;have e1:w64 ((bb.length:Int)-1)=((bb.length-1:Nat):Int):=by rw [AM (by omega) (by omega)];omega
     have e2:take bb.length (List.map Seg.enc bb)=List.map Seg.enc bb:=vD (by simp);simp only [g1,Az,vv,vf,wK,bne_self_eq_false,w1,w2,TD,beq_iff_eq,nn,g2,AM (x:=s.ser+1) (by omega) (by omega),g3,e1,e2,g4,(show ((bb.length-1:Nat):Int)≤(bb.length:Int) by omega),BK,Snd.enc,xB,xX]
   ·refine (Rk s hF.few).mono fun n g1 => ?_;have r:Bt s t=Ba 2:=by unfold Bt;rw [if_neg (by omega),if_neg (by omega),if_pos h3]
    rw [r];rw [h1] at g1;simp only [Snd.enc] at g1;simp only [h4] at g1 ⊢;by_cases w1:t<s.due
    ·simp only [g1,vv,vf,wK,bne_self_eq_false,w1,TD,BK,Ba,CK,Snd.enc,vA,xB,xX]
    ·have w2:2199023255552<t:=by omega
     simp only [g1,vv,vf,wK,bne_self_eq_false,w1,w2,TD,BK,Ba,CK,Snd.enc,vA,xB,xX]
  ·refine (Rk s hF.few).mono fun n g1 => ?_;have r:Bt s t=Ba 19:=by unfold Bt;rw [if_neg (by omega),if_pos h4]
   rw [r];rw [h1] at g1;simp only [Snd.enc] at g1;simp only [g1,vv,vf,bne_iff_ne,ne_eq,not_false_eq_true,not_true_eq_false,h4,BK,Ba,CK,Snd.enc,vA,xB,xX]
 ·have r:Bt s t=Ba 1:=by unfold Bt;rw [if_pos h1]
  refine (Rk s (by omega)).mono fun n g1 => ?_;simp only [Snd.enc] at g1;rw [r];simp only [g1,vv,vf,bne_iff_ne,ne_eq,not_false_eq_true,h1,BK,Ba,CK,Snd.enc,vA,xB,xX]
end Ab
namespace Ab
open Go
def tb (b:UInt8):List Tree:=[.int .u8 (b.toNat:Int)]
def bl (s:ByteArray):List UInt8:=s.data.toList
def mkB (l:List UInt8):ByteArray:=⟨l.toArray⟩
theorem YN (s:ByteArray):mkB (bl s)=s:=by obtain ⟨a⟩:=s;simp [mkB,bl]
theorem MT (l:List UInt8):bl (mkB l)=l:=by simp [mkB,bl]
theorem A3 (s:ByteArray):(bl s).length=s.size:=by obtain ⟨a⟩:=s;simp [bl,ByteArray.size]
theorem Il (l:List UInt8):(mkB l).size=l.length:=by rw [← A3,MT]
theorem OD {a b:ByteArray} (h:bl a=bl b):a=b:=by rw [← YN a,← YN b,h]
theorem PB (s:ByteArray):DG s=(bl s).map tb:=rfl
theorem FY (s:ByteArray) (i:Nat):Dp s i=(((bl s).getD i 0).toNat:Int):=by
 obtain ⟨⟨l⟩⟩:=s;unfold Dp bl;by_cases h:i<l.length
 ·have h1:(ByteArray.mk ⟨l⟩)[i]? = some l[i]:=getElem?_pos (ByteArray.mk ⟨l⟩) i h;rw [h1];simp [List.getD,h]
 ·have h1:(ByteArray.mk ⟨l⟩)[i]? = none:=getElem?_neg (ByteArray.mk ⟨l⟩) i h;rw [h1];simp [List.getD,h]
theorem JX (l:List UInt8):KM (l.map tb)=true:=by unfold KM;rw [List.all_map,zG];exact fun x _=>rfl
theorem Yx (b:UInt8):Sr (tb b)=b:=by simp [Sr,tb]
theorem WB (l:List UInt8) (s:ByteArray):bl (l.foldl ByteArray.push s)=bl s++l:=by
 induction l generalizing s with
 |nil=>simp
 |cons b l ih=>rw [wU,ih];simp [bl,ByteArray.push]
theorem Jj (l:List UInt8):bytesOf (l.map tb)=mkB l:=by unfold bytesOf;rw [map_map,show Sr ∘ tb=id from funext Yx,List.map_id];apply OD;rw [WB,MT];rfl
def Dq (l:List UInt8) (p:Nat) (m:List UInt8):List UInt8:=l.take p++m++l.drop (p+m.length)
theorem LI (l:List UInt8) (p:Nat) (m:List UInt8):BP (l.map tb) p (m.map tb)=(Dq l p m).map tb:=by simp [BP,Dq,map_take,wZ]
theorem X5 (k:Nat):yB k ([Tree.int IntKind.u8 0]:List Tree)=(yB k (0:UInt8)).map tb:=by rw [List.map_replicate];rfl
theorem set_tb (l:List UInt8) (k:Nat) (b:UInt8):List.set (l.map tb) k (tb b)=(l.set k b).map tb:=by rw [List.map_set]
theorem get_tb (l:List UInt8) (k:Nat):(l.map tb)[k]? = l[k]?.map tb:=by rw [getElem?_map]
theorem Eh (s:ByteArray) (i j:Nat):bl (s.extract i j)=((bl s).drop i).take (j-i):=by unfold bl;rw [ByteArray.data_extract];simp [List.extract_eq_take_drop]
theorem DW (l:List UInt8) (p:Nat) (m:List UInt8) (h:p+m.length≤l.length):(Dq l p m).length=l.length:=by simp only [Dq,zV,zZ,xK];omega
theorem J3 (l:List UInt8) (p:Nat) (m:List UInt8) (h:p+m.length≤l.length) (i:Nat) :
  (Dq l p m).getD i 0=if p≤i∧i<p+m.length then m.getD (i-p) 0 else l.getD i 0:=by
 simp only [Dq,xJ,List.getElem?_append,zZ,zV,getElem?_take,zN];have e:min p l.length=p:=by omega
 simp only [e];by_cases h1:i<p
 ·rw [if_pos (by omega),if_pos h1,if_pos h1,if_neg (by omega)]
 ·rw [if_neg (c:=i<p) h1];by_cases h2:i<p+m.length
  ·rw [if_pos h2,if_pos ⟨by omega,h2⟩]
  ·rw [if_neg h2,if_neg (by omega),show p+m.length+(i-(p+m.length))=i by omega]
theorem V5 (l:List UInt8) (p:Nat) (m:List UInt8) (i:Nat) (hi:i<m.length) (h:p+m.length≤l.length) :
  (Dq l p (m.take i)).set (p+i) (m.getD i 0)=Dq l p (m.take (i+1)):=by
 have h1:(m.take i).length=i:=by simp;omega
 have h2:(m.take (i+1)).length=i+1:=by simp;omega
 apply ext_getElem?;intro k;have hl1:(Dq l p (m.take i)).length=l.length:=DW _ _ _ (by omega);have hl2:(Dq l p (m.take (i+1))).length=l.length:=DW _ _ _ (by omega);by_cases hk:k<l.length
 ·have e1:∀q:List UInt8,q.length=l.length→q[k]? = some (q.getD k 0):=fun q hq=>by simp [List.getD,hq,hk]
  rw [e1 _ (by simpa using hl1),e1 _ hl2];congr 1;have hs:((Dq l p (m.take i)).set (p+i) (m.getD i 0)).getD k 0=if p+i=k then m.getD i 0 else (Dq l p (m.take i)).getD k 0:=by
   simp only [xJ,List.getElem?_set,hl1];by_cases hpk:p+i=k
   ·subst hpk;simp [hk]
   ·simp [hpk]
  rw [hs,J3 _ _ _ (by omega),J3 _ _ _ (by omega),h1,h2];have ht:∀a b:Nat,a<b→b≤m.length→(m.take b).getD a 0=m.getD a 0:=fun a b hab hb=>by simp [xJ,hab]
  by_cases hpk:p+i=k
  ·subst hpk;rw [if_pos rfl,if_pos ⟨by omega,by omega⟩,show p+i-p=i by omega,ht i (i+1) (by omega) (by omega)]
  ·rw [if_neg hpk];by_cases hr:p≤k∧k<p+i
   ·rw [if_pos hr,if_pos ⟨hr.1,by omega⟩,ht _ _ (by omega) (by omega),ht _ _ (by omega) (by omega)]
   ·rw [if_neg hr,if_neg (by omega)]
 ·rw [zP (by simp;omega),zP (by omega)]
end Ab
namespace Ab
open Go
structure Rcv where
 ses:Int
 tot:Int
 known:List Span
 data:ByteArray
 deriving DecidableEq
def Rcv.enc (r:Rcv):List Tree:=[tI r.ses,tI r.tot,.sl 2 (r.known.map Span.enc),.str r.data]
theorem Px (l:List UInt8) (i:Nat):Dp (mkB l) i=((l.getD i 0).toNat:Int):=by rw [FY,MT]
theorem extract_mk (l:List UInt8) (i j:Nat):(mkB l).extract i j=mkB ((l.drop i).take (j-i)):=OD (by rw [Eh,MT,MT])
theorem I2 (l:List UInt8):(mkB l==ByteArray.mk #[])=decide (l=[]):=by rw [CY,Il];cases l<;>simp
theorem s205 (l:List UInt8) (hl:l.length≤1000000):AK C 205 [.str (mkB l),.int .u8 0] [.str (mkB (l.dropWhile (· == 0)))]:=by
 refine AK.of (fun n=>e205 n _ _) ?_;refine Fy (fun (r:List UInt8)=>[Tree.str (mkB r)]) (fun (s:List UInt8)=>(([.t (.str (mkB s))],[]):List AV×Heap)) (fun s=>match s with
  |[]=>.done []
  |b::s=>if b=0 then .next s else .done (b::s)) (fun s=>s.length≤1000000) (fun s=>s.length) (fun s=>s.dropWhile (· == 0)) l rfl hl rfl
  (fun s hs=>Ev.of fun n again => ?_) (fun s s' hI h => ?_) (fun s hI => ?_)
 ·cases s with
  |nil=>simp [UK,vv,Il,AB,Rd.Aj]
  |cons b s=>
   simp only [UK,vv,Il,Px,extract_mk];simp only [wS,wT,add_sub_cancel,vC,AB];by_cases hb:b=0
   ·subst hb;simp [Rd.AR];intro h;omega
   ·have hbn:¬(b.toNat=0):=fun h=>hb (UInt8.toNat_inj.1 (by simpa using h));simp [hb,hbn,Rd.Aj]
 ·cases s with
  |nil=>simp at h
  |cons b s=>
   simp only at h;split at h
   ·simp only [Rd.next.injEq] at h;subst h;simp at hI ⊢;omega
   ·simp at h
 ·cases s with
  |nil=>rfl
  |cons b s=>by_cases hb:b=0<;>simp [hb,Rd.fin]
def Fz (l:List UInt8):List UInt8:=(l.reverse.dropWhile (· == 0)).reverse
theorem My (l:List UInt8) (b:UInt8):Fz (l++[b])=if b=0 then Fz l else l++[b]:=by unfold Fz;rw [List.reverse_append];simp only [List.reverse_cons,List.reverse_nil,xX,singleton_append,wR];by_cases hb:b=0<;>simp [hb]
theorem JR (l:List UInt8):l=[]∨∃s b,l=s++[b]:=by
 by_cases h:l=[]
 ·exact .inl h
 ·exact .inr ⟨_,_,(List.dropLast_concat_getLast h).symm⟩
theorem s206 (l:List UInt8) (hl:l.length≤1000000):AK C 206 [.str (mkB l),.int .u8 0] [.str (mkB (Fz l))]:=by
 refine AK.of (fun n=>e206 n _ _) ?_;refine Fy (fun (r:List UInt8)=>[Tree.str (mkB r)]) (fun (s:List UInt8)=>(([.t (.str (mkB s))],[]):List AV×Heap)) (fun s=>if s.getLast? = some 0 then .next s.dropLast else .done s)
  (fun s=>s.length≤1000000) (fun s=>s.length) Fz l rfl hl rfl
  (fun s hs=>Ev.of fun n again => ?_) (fun s s' hI h => ?_) (fun s hI => ?_)
 ·rcases JR s with rfl|⟨s,b,rfl⟩
  ·simp [UJ,UU,vv,Il,AB,Rd.Aj]
  ·have hs':s.length+1≤1000000:=by simpa using hs
   have e:w64 (((s.length+1:Nat):Int)-1)=(s.length:Int):=by rw [Hj (by omega) (by omega)];simp
   simp only [UJ,UU,vv,Il,Px,extract_mk,zV,e];simp only [AB,wV,Option.some.injEq,List.dropLast_concat,Nat.sub_zero,List.take_left];have e2:(s++[b]).getD s.length 0=b:=by simp [List.getD]
   rw [e2];by_cases hb:b=0
   ·subst hb;simp [Rd.AR]
    first|omega|(rw [if_pos (by omega),if_pos (by omega)])
   ·have hbn:¬(b.toNat=0):=fun h=>hb (UInt8.toNat_inj.1 (by simpa using h));simp [hb,hbn,Rd.Aj]
    try omega
 ·split at h
  ·rename_i hg;simp only [Rd.next.injEq] at h;subst h;have:s≠[]:=fun e=>by simp [e] at hg
   have h2:s.length≠0:=fun e=>this (zI e);simp only [List.length_dropLast];omega
  ·simp at h
 ·rcases JR s with rfl|⟨s,b,rfl⟩
  ·simp [Rd.fin,Fz]
  ·rw [My];by_cases hb:b=0<;>simp [hb,Rd.fin]
def IS (l:List UInt8):Bool:=l.all (· == 0)
theorem Po:∀(l:List UInt8),l.dropWhile (· == 0)=[]↔IS l=true
 |[]=>by simp [IS]
 |b::l=>by
  have:=Po l;by_cases hb:b=0
  ·simp only [hb,wR,beq_self_eq_true,if_true,this,IS,all_cons,Bool.true_and]
  ·simp [hb,IS]
theorem TL (l:List UInt8):(Fz l).dropWhile (· == 0)=[]↔IS l=true:=by
 rw [Po];have h:∀k:Nat,∀l:List UInt8,l.length≤k→(IS (Fz l)=true↔IS l=true):=by
  intro k
  induction k with
  |zero=>intro l hl;have:l=[]:=zI (by omega);subst this;simp [Fz]
  |succ k ih=>
   intro l hl;rcases JR l with rfl|⟨l,b,rfl⟩
   ·simp [Fz]
   ·rw [My];by_cases hb:b=0
    ·rw [if_pos hb,ih l (by simp at hl;omega)];simp [IS,hb]
    ·rw [if_neg hb]
 exact h _ l (yI _)
theorem Sc (p:UInt8→Bool):∀l:List UInt8,(l.dropWhile p).length≤l.length
 |[]=>yI _
 |b::l=>by rw [wR];have:=Sc p l;split<;>simp only [zW]<;>omega
theorem J48t (n:Nat) (s:ByteArray):Og n s ([.t (.bool true)],[])=some [.str s]:=by unfold Og;exact BD rfl _ _
theorem J48f (n:Nat) (s t u:ByteArray) (h1:AA C n 206 [.str s,.int .u8 0]=some [.str t]) (h2:AA C n 205 [.str t,.int .u8 0]=some [.str u]):Og n s ([.t (.bool false)],[])=some [.str u]:=by
 have e1:Dp (ByteArray.mk #[0]) 0=0:=by decide
 unfold Og;rw [DR (show ¬(vB ([AV.t (Tree.bool false)],[]) 0=true) from Bool.false_ne_true),e1,h1];simp only [vv,vf,h2]
theorem s178 (l:List UInt8) (hl:l.length≤1000000):∃t:List UInt8,(t=[]↔IS l=true)∧AK C 178 [.str (mkB l),.str (ByteArray.mk #[0])] [.str (mkB t)]:=by
 by_cases h:l=[]
 ·subst h;refine ⟨[],by simp [IS],AK.of (fun n=>e178 n _) (Ev.of fun n => ?_)⟩;have h1:∀X Y:Option (List Tree),cnd ((mkB []==ByteArray.mk #[])=true) X Y=X:=fun X Y=>BD (by rw [I2];exact decide_eq_true rfl) X Y;rw [join_eq,h1];exact J48t n (mkB [])
 ·refine ⟨(Fz l).dropWhile (· == 0),TL l,AK.of (fun n=>e178 n _) ?_⟩;have hlen:(Fz l).length≤l.length:=by unfold Fz;rw [List.length_reverse];refine le_trans (Sc _ _) (by rw [List.length_reverse];exact yI _)
  refine ((s206 l hl).and (s205 (Fz l) (by omega))).mono fun n hh => ?_;have h1:∀X Y:Option (List Tree),cnd ((mkB l==ByteArray.mk #[])=true) X Y=Y:=fun X Y=>DR (by rw [I2,decide_eq_false h];exact Bool.false_ne_true) X Y;have h2:(ByteArray.mk #[0]==ByteArray.mk #[])=false:=by decide
  rw [join_eq,h1,h2];exact J48f n _ _ _ hh.1 hh.2
end Ab
namespace Ab
open Go
def O1 (r:Rcv):Prop:=(0≤r.ses∧r.ses≤1099511627776)∧(r.tot = -1∨1≤r.tot∧r.tot≤65536)
def KnR (r:Rcv):Prop:=A4 r.known=0∧(r.known=[]↔r.tot = -1)∧(r.known=[]∨0≤EL r.known∧Ee r.known≤r.tot)
def OR (r:Rcv):Prop:=∀i,i<r.data.size→(bl r.data).getD i 0≠0→Ac i r.known
instance (r:Rcv):Decidable (O1 r):=by unfold O1;exact inferInstance
instance (r:Rcv):Decidable (KnR r):=by unfold KnR;exact inferInstance
instance (r:Rcv):Decidable (OR r):=by unfold OR;exact inferInstance
def Hb (t:Int):Int:=if 0>t then 0 else t
def DE (r:Rcv):Int:=if ¬O1 r then 2 else if ¬KnR r then 1 else if (r.data.size:Int)≠Hb r.tot then 10 else if OR r then 0 else 24
theorem Na (t:Int):∀(l:List Span),Ac t l↔l.any (fun x=>decide (x.fro≤t∧t<x.to))=true
 |[]=>by simp [Ac]
 |x::l=>by simp only [Ac,Na t l,List.any_cons,or_eq_true,decide_eq_true_eq]
theorem Xc (l:List Span) (t:Int):AK C 103 [.sl 2 (l.map Span.enc),tI t] [.bool (decide (A4 l=0∧Ac t l))]:=by
 refine AK.of (fun n=>e103 n _ _) ?_;refine Ev.rw (s31 l) (fun n h=>by simp only [h,vv,vf];rfl) ?_;by_cases hc:A4 l=0
 ·have hl:=BA hc;have e:decide (A4 l=0∧Ac t l)=l.any (fun x=>decide (x.fro≤t∧t<x.to)):=by rw [Bool.eq_iff_iff,decide_eq_true_eq,← Na];simp [hc]
  rw [e];simp only [hc,bne_self_eq_false,vv];refine AZ (fun (r:Bool)=>[Tree.bool r]) l (fun i (_:Unit)=>(([.t (tI i)],[]):List AV×Heap)) (fun _ (_:Unit) x=>if (fun x:Span=>decide (x.fro≤t∧t<x.to)) x=true then .done true else .next ()) (fun _=>false) (fun _ _=>True) () rfl trivial
   (ND _ 0 l) (fun i s x hx hI=>Ev.of fun n again => ?_) (fun _ _ _ _ _ _ _=>trivial) (fun s hI=>Ev.of fun n again => ?_)
  ·have hi:=AN hx;simp only [UR,vv,hx,Span.enc,(show (i:Int)<l.length by omega),AT (show i<4611686018427387904 by omega)];by_cases h1:x.fro≤t<;>by_cases h2:t<x.to<;>simp [h1,h2,AB,Rd.AR,Rd.Aj]
  ·simp only [UR,vv,wE]
 ·refine Ev.of fun n => ?_;have:(A4 l != 0)=true:=by simpa using hc
  simp [hc,this,AB]
theorem s129 (r:Rcv) (hr:O1 r):AK C 129 r.enc [.bool (decide (KnR r))]:=by
 refine AK.of (fun n=>e129 n _ _ _ _) ?_;refine (s31 r.known).mono fun n h => ?_;simp only [h,vv,vf];unfold KnR;by_cases h0:r.tot<0
 ·have ht:r.tot = -1:=by rcases hr.2 with h|h<;>omega
  simp only [h0,vv];by_cases hl:r.known=[]
  ·have:A4 ([]:List Span)=0:=by decide
   simp [hl,ht,this]
  ·have:r.known.length≠0:=fun e=>hl (zI e);have h2:¬((r.known.length:Int)=0):=by omega
   simp [hl,ht]
 ·have ht:r.tot ≠ -1:=by omega
  simp only [h0,vv];by_cases hl:r.known=[]
  ·simp [hl,ht,AB]
  ·obtain ⟨e1,e2⟩:=Iu hl;obtain ⟨e3,e4⟩:=Io hl;have hlen:r.known.length≠0:=fun e=>hl (zI e);by_cases hc:A4 r.known=0
   ·have hk:=BA hc;simp only [(show (0:Int)<r.known.length by omega),hc,beq_self_eq_true,vv,e1,e2,e4,Span.enc,Hj (show r.known.length<4611686018427387904 by omega) (by omega),e3];simp only [hl,ht,false_or,true_and,AB];by_cases h3:0≤(r.known.head hl).fro<;>simp [h3]
   ·have:(A4 r.known==0)=false:=by simpa using hc
    simp only [(show (0:Int)<r.known.length by omega),this,vv];simp [hc]
theorem LF {α Q:Type} (p:Nat→α→Bool) (a b:Q):∀(l:List α) (i:Nat),(∀k x,l[k]? = some x→p (i+k) x=true)→BX (fun i (_:Unit) x=>if p i x=true then .next () else .done a) (fun _=>b) i l ()=b
 |[],i,_=>rfl
 |x::l,i,h=>by have h0:=h 0 x rfl;simp only [add_zero] at h0;simp only [BX,h0,if_true];refine LF p a b l (i+1) fun k y hy => ?_;have:=h (k+1) y (by simpa using hy);rwa [show i+(k+1)=i+1+k by omega] at this
theorem LG {α Q:Type} (p:Nat→α→Bool) (a b:Q):∀(l:List α) (i k:Nat) (x:α),l[k]? = some x→p (i+k) x=false→BX (fun i (_:Unit) x=>if p i x=true then .next () else .done a) (fun _=>b) i l ()=a
 |[],i,k,x,hx,_=>by simp at hx
 |y::l,i,k,x,hx,h=>by
  by_cases hp:p i y=true
  ·simp only [BX,hp,if_true];cases k with
   |zero=>simp at hx;subst hx;simp [hp] at h
   |succ k=>exact LG p a b l (i+1) k x (by simpa using hx) (by rwa [show i+1+k=i+(k+1) by omega])
  ·simp only [BX,hp,if_false,zD]
theorem Eu {l:List UInt8} {k:Nat} {x:UInt8} (h:l[k]? = some x):l.getD k 0=x:=by simp [List.getD,h]
theorem s105 (r:Rcv):AK C 105 r.enc [tI (DE r)]:=by
 refine AK.of (fun n=>e105 n _ _ _ _) ?_;unfold DE;by_cases hr:O1 r
 ·have hr':=hr;obtain ⟨⟨h1,h2⟩,h3⟩:=hr;have hj:∀(J:List AV×Heap→Option (List Tree)),(cnd (decide (r.ses<0)=true) (J ([AV.t (Tree.bool true)],[])) (cnd (decide (r.ses>1099511627776)=true) (J ([AV.t (Tree.bool true)],[])) (cnd ((r.tot != -1)=true) (cnd (decide (r.tot<1)=true) (J ([AV.t (Tree.bool true)],[])) (J ([AV.t (Tree.bool (decide (r.tot>65536)))],[]))) (J ([AV.t (Tree.bool false)],[])))))=J ([AV.t (Tree.bool false)],[]):=fun J=>by
   simp only [AB,decide_eq_true_eq,bne_iff_ne];rw [if_neg (by omega),if_neg (by omega)];split
   ·rw [if_neg (by omega),decide_eq_false (by omega)]
   ·rfl
  simp only [join_eq];refine Ev.conv' (fun n h=>(hj _).trans h) ?_;simp only [Ua,vv,vf];refine Ev.rw (s129 r hr') (fun n h=>by simp only [Rcv.enc] at h;simp only [h,vv];rfl) ?_;rw [if_neg (not_not_intro hr')];by_cases hk:KnR r
  ·simp only [hk,decide_true,Bool.not_true,vv];rw [if_neg (not_not_intro trivial)];by_cases hs:(r.data.size:Int)=Hb r.tot
   ·have hb:((r.data.size:Int) != if 0>r.tot then 0 else r.tot)=false:=by simpa [Hb] using hs
    have hsz:r.data.size≤65536:=by unfold Hb at hs;split at hs<;>omega
    rw [if_neg (not_not_intro hs)];simp only [hb,vv];refine AZ (fun (r:Int)=>[tI r]) (bl r.data) (fun i (_:Unit)=>(([.t (tI i)],[]):List AV×Heap)) (fun i (_:Unit) x=>if (fun (i:Nat) (x:UInt8)=>decide (x≠0→Ac i r.known)) i x=true then .next () else .done 24) (fun _=>0) (fun _ _=>True) () rfl trivial
     ?_ (fun i s x hx hI => ?_) (fun _ _ _ _ _ _ _=>trivial) (fun s hI=>Ev.of fun n again => ?_)
    ·by_cases hz:OR r
     ·rw [if_pos hz];refine LF _ _ _ _ _ fun k x hx => ?_;simp only [yR,decide_eq_true_eq];intro hx0;refine hz k (by rw [← A3];exact AN hx) ?_;rw [Eu hx];exact hx0
     ·rw [if_neg hz];unfold OR at hz;simp only [wN] at hz;obtain ⟨k,hk1,hk2,hk3⟩:=hz;obtain ⟨x,hx⟩:∃x,(bl r.data)[k]? = some x:=⟨(bl r.data)[k]'(by rw [A3];exact hk1),zO _⟩
      rw [Eu hx] at hk2;refine LG _ _ _ _ _ k x hx ?_;simp only [yR,decide_eq_false_iff_not];exact fun h=>hk3 (h hk2)
    ·have hi:=AN hx;rw [A3] at hi;refine (Xc r.known i).mono fun n h again => ?_;simp only [UQ,vv,vf,h,FY,Eu hx,(show (i:Int)<r.data.size by omega),AT (show i<4611686018427387904 by omega),hk.1];by_cases hx0:x=0
     ·subst hx0;simp [AB,Rd.AR]
     ·have hx1:¬(x.toNat=0):=fun h=>hx0 (UInt8.toNat_inj.1 (by simpa using h));by_cases hm:Ac i r.known
      ·simp [AB,hx0,hx1,hm,Rd.AR]
      ·simp [AB,hx0,hx1,hm,Rd.Aj]
    ·simp only [UQ,vv,vf,A3,wE]
   ·have hb:((r.data.size:Int) != if 0>r.tot then 0 else r.tot)=true:=by simpa [Hb] using hs
    rw [if_pos hs];simp only [hb,vv];exact Ev.of fun n=>by first|rfl|trivial
  ·simp only [hk,decide_false,Bool.not_false,vv];exact Ev.of fun n=>by first|rfl|trivial
 ·rw [if_pos hr];refine Ev.of fun n => ?_;unfold O1 at hr;simp only [join_eq,Ua,vv,vf,AB,bne_iff_ne];by_cases h1:r.ses<0
  ·simp [h1]
  ·by_cases h2:1099511627776<r.ses
   ·simp [h1,h2]
   ·have h3:r.tot ≠ -1:=by omega
    simp only [h1,h2,if_false,h3,ne_eq,not_false_eq_true,if_true];by_cases h4:r.tot<1
    ·simp [h4]
    ·simp [h4,show 65536<r.tot by omega]
end Ab
namespace Ab
open Go
def G1 (D:List UInt8) (_:Nat) (a:Int) (x:Span):Rd Int Int:=if IS ((D.drop a.toNat).take (x.fro.toNat-a.toNat))=true then .next x.to else .done 24
def Ny (D:List UInt8) (a:Int):Int:=if IS (D.drop a.toNat)=true then 0 else 24
theorem Y4 (l:List UInt8):IS l=true↔∀k,k<l.length→l.getD k 0=0:=by
 unfold IS;rw [zG];constructor
 ·intro h k hk;have:l.getD k 0=l[k]:=by simp [List.getD,hk]
  rw [this];simpa using h _ (getElem_mem hk)
 ·intro h x hx;obtain ⟨k,hk,rfl⟩:=getElem_of_mem hx;have:=h k hk;have e:l.getD k 0=l[k]:=by simp [List.getD,hk]
  rw [e] at this;simp [this]
theorem P7 (D:List UInt8) (a b:Nat) (hb:b≤D.length):IS ((D.drop a).take (b-a))=true↔∀k,a≤k→k<b→D.getD k 0=0:=by
 rw [Y4];have hg:∀k,k<b-a→((D.drop a).take (b-a)).getD k 0=D.getD (a+k) 0:=fun k hk=>by simp [xJ,hk,zN]
 constructor
 ·intro h k h1 h2;have:=h (k-a) (by simp;omega);rw [hg _ (by omega),show a+(k-a)=k by omega] at this;exact this
 ·intro h k hk;simp at hk;rw [hg k (by omega)];exact h _ (by omega) (by omega)
theorem VP (D:List UInt8):∀(l:List Span) (i:Nat) (a:Int),Canon (a-1) l→BU l D.length→0≤a→a≤D.length→
  (BX (G1 D) (Ny D) i l a=0∧(∀k:Nat,a≤k→k<D.length→D.getD k 0≠0→Ac k l))∨(BX (G1 D) (Ny D) i l a=24∧∃k:Nat,a≤k∧k<D.length∧D.getD k 0≠0∧¬Ac k l)
 |[],i,a,hc,hw,h0,h1=>by
  simp only [BX,Ny];have key:=P7 D a.toNat D.length (yI _);rw [vD (by simp)] at key;by_cases h:IS (D.drop a.toNat)=true
  ·rw [if_pos h];exact .inl ⟨rfl,fun k h2 h3 h4=>(h4 (key.1 h k (by omega) h3)).elim⟩
  ·rw [if_neg h];refine .inr ⟨rfl,?_⟩;have h5:¬∀k,a.toNat≤k→k<D.length→D.getD k 0=0:=fun hh=>h (key.2 hh);simp only [wN] at h5;obtain ⟨k,h6,h7,h8⟩:=h5;exact ⟨k,by omega,h7,h8,fun h=>h⟩
 |x::l,i,a,hc,hw,h0,h1=>by
  obtain ⟨c1,c2,c3⟩:=hc;have hx:=hw x (List.mem_cons_self);have key:=P7 D a.toNat x.fro.toNat (by omega);simp only [BX];by_cases h:IS ((D.drop a.toNat).take (x.fro.toNat-a.toNat))=true
  ·simp only [G1,h,if_true];have ih:=VP D l (i+1) x.to (D4 c3 (by omega)) (fun y hy=>hw y (mem_cons_of_mem _ hy)) (by omega) (by omega);have hz:=key.1 h;rcases ih with ⟨e,ih⟩|⟨e,k,k1,k2,k3,k4⟩
   ·refine .inl ⟨e,fun k k1 k2 k3 => ?_⟩;by_cases hk:(k:Int)<x.fro
    ·exact (k3 (hz k (by omega) (by omega))).elim
    ·by_cases hk2:(k:Int)<x.to
     ·exact .inl ⟨by omega,hk2⟩
     ·exact .inr (ih k (by omega) k2 k3)
   ·refine .inr ⟨e,k,by omega,k2,k3,fun hm => ?_⟩;rcases hm with hm|hm
    ·omega
    ·exact k4 hm
  ·simp only [G1,h,if_false,zD];refine .inr ⟨trivial,?_⟩;have h5:¬∀k,a.toNat≤k→k<x.fro.toNat→D.getD k 0=0:=fun hh=>h (key.2 hh);simp only [wN] at h5;obtain ⟨k,h6,h7,h8⟩:=h5;refine ⟨k,by omega,by omega,h8,fun hm => ?_⟩;rcases hm with hm|hm
   ·omega
   ·have:=CB c3 hm;omega
theorem s159 (r:Rcv):AK C 159 r.enc [tI (DE r)]:=by
 refine AK.of (fun n=>e159 n _ _ _ _) ?_;unfold DE;by_cases hr:O1 r
 ·have hr':=hr;obtain ⟨⟨h1,h2⟩,h3⟩:=hr;have hj:∀(J:List AV×Heap→Option (List Tree)),(cnd (decide (r.ses<0)=true) (J ([AV.t (Tree.bool true)],[])) (cnd (decide (r.ses>1099511627776)=true) (J ([AV.t (Tree.bool true)],[])) (cnd ((r.tot != -1)=true) (cnd (decide (r.tot<1)=true) (J ([AV.t (Tree.bool true)],[])) (J ([AV.t (Tree.bool (decide (r.tot>65536)))],[]))) (J ([AV.t (Tree.bool false)],[])))))=J ([AV.t (Tree.bool false)],[]):=fun J=>by
   simp only [AB,decide_eq_true_eq,bne_iff_ne];rw [if_neg (by omega),if_neg (by omega)];split
   ·rw [if_neg (by omega),decide_eq_false (by omega)]
   ·rfl
  simp only [join_eq];refine Ev.conv' (fun n h=>(hj _).trans h) ?_;simp only [UX,vv,vf];refine Ev.rw (s67 r.known) (fun n h=>by simp only [h,vv];rfl) ?_;rw [if_neg (not_not_intro hr')];have el:(r.known.length:Int)=0↔r.known=[]:=by rw [← wW];omega
  have eb:((r.known.length:Int)==0)=decide (r.known=[]):=by rw [Bool.eq_iff_iff,beq_iff_eq,decide_eq_true_eq,el]
  have eb2:(r.tot == -1)=decide (r.tot = -1):=by rw [Bool.eq_iff_iff,beq_iff_eq,decide_eq_true_eq]
  simp only [eb,eb2];by_cases hc:A4 r.known=0
  ·simp only [hc,bne_self_eq_false,vv,UY];by_cases he:(r.known=[]↔r.tot = -1)
   ·have e1:(! (decide (r.known=[])==decide (r.tot = -1)))=false:=by
     by_cases hx:r.known=[]
     ·simp [hx,he.1 hx]
     ·have hy:¬r.tot = -1:=fun h=>hx (he.2 h);simp [hx,hy]
    simp only [e1,vv];have hkn:KnR r↔(r.known=[]∨0≤EL r.known∧Ee r.known≤r.tot):=⟨fun h=>h.2.2,fun h=>⟨hc,he,h⟩⟩
    have hstep:∀(J:List AV×Heap→Option (List Tree)),(cnd (0<(r.known.length:Int)) (Option.bind (Option.map Span.enc r.known[0]?) fun y11=>cnd (okI y11 0) (cnd (gI y11 0<0) (J ([AV.t (Tree.bool true)],[])) (cnd (0≤w64 ((r.known.length:Int)-1)) (Option.bind (Option.map Span.enc r.known[(w64 ((r.known.length:Int)-1)).toNat]?) fun y12=>cnd (okI y12 1) (J ([AV.t (Tree.bool (decide (r.tot<gI y12 1)))],[])) none) none)) none) (J ([AV.t (Tree.bool false)],[])))=J ([AV.t (Tree.bool (decide (¬KnR r)))],[]):=fun J=>by
     by_cases hl:r.known=[]
     ·have:KnR r:=hkn.2 (.inl hl);simp [hl,AB,this]
     ·obtain ⟨e1,e2⟩:=Iu hl;obtain ⟨e3,e4⟩:=Io hl;have hk:=BA hc;have hlen:r.known.length≠0:=fun e=>hl (zI e);simp only [(show (0:Int)<r.known.length by omega),vv,e1,Hj (show r.known.length<4611686018427387904 by omega) (by omega),e3,Span.enc];rw [← e2,← e4];by_cases h3:EL r.known<0
      ·have:¬KnR r:=fun h=>by rcases hkn.1 h with h|h;exact hl h;omega
       simp [h3,this,AB]
      ·by_cases h4:r.tot<Ee r.known
       ·have:¬KnR r:=fun h=>by rcases hkn.1 h with h|h;exact hl h;omega
        simp [h3,h4,this,AB]
       ·have:KnR r:=hkn.2 (.inr ⟨by omega,by omega⟩);simp [h3,h4,this,AB]
    refine Ev.conv' (fun n h=>(hstep _).trans h) ?_;simp only [Za,vv];by_cases hk:KnR r
    ·simp only [hk,not_true_eq_false,vv];by_cases hs:(r.data.size:Int)=Hb r.tot
     ·have hb:((r.data.size:Int) != if 0>r.tot then 0 else r.tot)=false:=by simpa [Hb] using hs
      have hsz:r.data.size≤65536:=by unfold Hb at hs;split at hs<;>omega
      rw [if_neg (not_not_intro hs)];simp only [gt_iff_lt] at hb;simp only [hb,vv];have hW:BU r.known (bl r.data).length:=by
       have hw:=(Bx hc).1 hk.2.2;rw [A3,hs];intro x hx;have:=hw x hx;unfold Hb;split
       ·have ht:r.tot = -1:=by omega
        have:=he.2 ht;rw [this] at hx;cases hx
       ·exact this
      have hC:Canon (0-1) r.known:=by
       have h:=((Ag r.known).1 hc).2.1;cases hkk:r.known with
       |nil=>trivial
       |cons x l=>
        rw [hkk] at h;refine ⟨?_,h.2.1,h.2.2⟩;have:=hW x (by rw [hkk];exact List.mem_cons_self);omega
      have hlen:=BA hc;have hd:r.data=mkB (bl r.data):=(YN _).symm;refine AZ (fun (r:Int)=>[tI r]) r.known (fun i (a:Int)=>(([.t (tI i)],[.box [.t (tI a)]]):List AV×Heap)) (G1 (bl r.data)) (Ny (bl r.data)) (fun i a=>Canon (a-1) (r.known.drop i)∧0≤a∧a≤r.data.size) 0 rfl ⟨by simpa using hC,by omega,by omega⟩
       ?_ (fun i a x hx hI => ?_) (fun i a x a' hx hI h => ?_) (fun a hI => ?_)
      ·rcases VP (bl r.data) r.known 0 0 hC hW (by omega) (by omega) with ⟨e,h⟩|⟨e,k,k1,k2,k3,k4⟩
       ·rw [e,if_pos];intro i hi hi2;exact h i (by omega) (by rw [A3];exact hi) hi2
       ·rw [e,if_neg];intro h;exact k4 (h k (by rw [A3] at k2;exact k2) k3)
      ·have hi:=AN hx;have hdr:r.known.drop i=x::r.known.drop (i+1):=by rw [List.drop_eq_getElem_cons hi];congr 1;rw [zO hi] at hx;exact Option.some.inj hx
       obtain ⟨c1,c2,c3⟩:=hI;rw [hdr] at c1;have hx2:=hW x (yA hx);rw [A3] at hx2;obtain ⟨t,ht,h48⟩:=s178 (((bl r.data).drop a.toNat).take (x.fro.toNat-a.toNat)) (by simp;rw [A3];omega);refine h48.mono fun n h again => ?_;have hxc:=c1.1;have he:r.data.extract a.toNat x.fro.toNat=mkB (((bl r.data).drop a.toNat).take (x.fro.toNat-a.toNat)):=by apply OD;rw [Eh,MT]
       simp only [UM,vv,vf,wK,hx,Span.enc,(show (i:Int)<r.known.length by omega),AT (show i<4611686018427387904 by omega)];rw [BD (by have:=c1.2.1;omega),BD (by omega),he,h];simp only [vv,I2,G1,← ht];by_cases htt:t=[]<;>simp [htt,AB,Rd.AR,Rd.Aj]
      ·have hi:=AN hx;have hdr:r.known.drop i=x::r.known.drop (i+1):=by rw [List.drop_eq_getElem_cons hi];congr 1;rw [zO hi] at hx;exact Option.some.inj hx
       obtain ⟨c1,c2,c3⟩:=hI;rw [hdr] at c1;have hx2:=hW x (yA hx);rw [A3] at hx2;unfold G1 at h;split at h
       ·simp only [Rd.next.injEq] at h;subst h;have:=c1.2.1;have:=c1.1;exact ⟨D4 c1.2.2 (by omega),by omega,by omega⟩
       ·cases h
      ·obtain ⟨c1,c2,c3⟩:=hI;obtain ⟨t,ht,h48⟩:=s178 ((bl r.data).drop a.toNat) (by simp;rw [A3];omega);refine h48.mono fun n h again => ?_;have he:r.data.extract a.toNat r.data.size=mkB ((bl r.data).drop a.toNat):=by apply OD;rw [Eh,MT,vD (by simp;rw [A3];omega)]
       simp only [UM,vv,vf,wK,wE];rw [BD (by omega),BD (by omega),he,h];simp only [vv,I2,Ny,← ht];by_cases htt:t=[]<;>simp [htt,AB]
     ·have hb:((r.data.size:Int) != if 0>r.tot then 0 else r.tot)=true:=by simpa [Hb] using hs
      rw [if_pos hs];simp only [gt_iff_lt] at hb;simp only [hb,vv];exact Ev.of fun n=>by first|rfl|trivial
    ·simp only [hk,not_false_eq_true,vv];exact Ev.of fun n=>by first|rfl|trivial
   ·have e1:(! (decide (r.known=[])==decide (r.tot = -1)))=true:=by by_cases hx:r.known=[]<;>by_cases hy:r.tot = -1<;>simp_all
    have:¬KnR r:=fun h=>he h.2.1;simp only [e1,this,not_false_eq_true,vv];exact Ev.of fun n=>by first|rfl|trivial
  ·have:(A4 r.known != 0)=true:=by simpa using hc
   have h2:¬KnR r:=fun h=>hc h.1;simp only [this,h2,UY,not_false_eq_true,vv];exact Ev.of fun n=>by first|rfl|trivial
 ·rw [if_pos hr];refine Ev.of fun n => ?_;unfold O1 at hr;simp only [join_eq,UX,vv,vf,AB,bne_iff_ne];by_cases h1:r.ses<0
  ·simp [h1]
  ·by_cases h2:1099511627776<r.ses
   ·simp [h1,h2]
   ·have h3:r.tot ≠ -1:=by omega
    simp only [h1,h2,if_false,h3,ne_eq,not_false_eq_true,if_true];by_cases h4:r.tot<1
    ·simp [h4]
    ·simp [h4,show 65536<r.tot by omega]
end Ab
namespace Ab
open Go
def sp (x:Seg):Span:=⟨x.off,x.off+x.data.size⟩
theorem M9 {x:Seg} (h:By x=0):0≤x.off∧x.off≤65536∧x.data.size≤16∧0≤x.tot∧x.tot≤65536:=by
 obtain ⟨hk,hn,hc⟩:=D9 h;unfold Bk at hn;unfold CJ at hc;by_cases h1:x.kind=1
 ·grind
 ·by_cases h2:x.kind=2
  ·grind
  ·have:x.kind=3:=by omega
   grind
theorem Ct {x:Seg} (h:By x=0) (h1:x.kind=1):1≤x.tot∧x.tot≤65536∧0≤x.off∧1≤x.data.size∧x.data.size≤16∧x.off+x.data.size≤x.tot∧x.claims=[]∧(x.chk=true→1≤x.ser∧x.ser≤1099511627776)∧0≤x.ses∧x.ses≤1099511627776:=by obtain ⟨hk,hn,hc⟩:=D9 h;unfold Bk at hn;unfold CJ at hc;grind
theorem s161 (r:Rcv) (x:Seg) (hx:By x=0):AK C 161 (r.enc++x.enc) [.sl 2 ((C6 r.known [sp x]).map Span.enc),tI (C7 r.known [sp x])]:=by obtain ⟨h1,h2,h3,_⟩:=M9 hx;refine AK.of (fun n=>e161 n _ _ _ _ _ _ _ _ _ _ _ _) ?_;refine (s183 r.known [sp x]).mono fun n h => ?_;rw [EX] at h;simp only [xN,vA,sp,Span.enc] at h;rw [AM (x:=x.off+(x.data.size:Int)) (by omega) (by omega)];simp only [h,vv,vf,wK];rfl
theorem Qk {a b:List UInt8} (h:a.length=b.length):a=b↔∀k,k<a.length→a.getD k 0=b.getD k 0:=by
 constructor
 ·intro e k _;rw [e]
 ·intro hk;apply List.ext_getElem h;intro i h1 h2;have:=hk i h1;simpa [List.getD,h1,h2] using this
theorem KI (D:List UInt8) (a b k:Nat) (hb:b≤D.length) (hk:k<b-a):((D.drop a).take (b-a)).getD k 0=D.getD (a+k) 0:=by simp [xJ,hk,zN]
theorem part_eq (D E:List UInt8) (f t o:Nat) (h1:f<t) (h2:t≤D.length) (h3:o≤f) (h4:t-o≤E.length) :
  ((D.drop f).take (t-f)=(E.drop (f-o)).take ((t-o)-(f-o))↔∀k,f≤k→k<t→D.getD k 0=E.getD (k-o) 0):=by
 rw [Qk (by simp;omega)];constructor
 ·intro h k k1 k2;have:=h (k-f) (by simp;omega);rw [KI D f t _ h2 (by omega),KI E (f-o) (t-o) _ h4 (by omega),show f+(k-f)=k by omega,show f-o+(k-f)=k-o by omega] at this;exact this
 ·intro h k hk;simp at hk;rw [KI D f t _ h2 (by omega),KI E (f-o) (t-o) _ h4 (by omega),show f-o+k=f+k-o by omega];exact h _ (by omega) (by omega)
def agree (r:Rcv) (x:Seg):Prop:=∀i,i<x.data.size→Ac (x.off+i) r.known→(bl r.data).getD (x.off.toNat+i) 0=(bl x.data).getD i 0
def Gl (r:Rcv) (x:Seg) (k:Span):Prop:=∀i,i<x.data.size→k.fro≤x.off+i→x.off+i<k.to→(bl r.data).getD (x.off.toNat+i) 0=(bl x.data).getD i 0
instance (r:Rcv) (x:Seg):Decidable (agree r x):=by unfold agree;exact inferInstance
instance (r:Rcv) (x:Seg) (k:Span):Decidable (Gl r x k):=by unfold Gl;exact inferInstance
def DL (r:Rcv) (x:Seg):Bool:=decide (x.kind=1∧x.ses=r.ses∧(r.tot = -1∨x.tot=r.tot)∧agree r x∧C7 r.known [sp x]=0)
theorem Ws (r:Rcv) (x:Seg):agree r x↔r.known.all (fun k=>decide (Gl r x k))=true:=by
 have hm:∀(t:Int) (l:List Span),Ac t l↔∃k∈l,k.fro≤t∧t<k.to:=by
  intro t l
  induction l with
  |nil=>simp [Ac]
  |cons y l ih=>simp only [Ac,ih,xP,exists_eq_or_imp]
 rw [zG];simp only [decide_eq_true_eq];unfold agree Gl;constructor
 ·intro h k hk i hi h1 h2;exact h i hi ((hm _ _).2 ⟨k,hk,h1,h2⟩)
 ·intro h i hi hmem;obtain ⟨k,hk,h1,h2⟩:=(hm _ _).1 hmem;exact h k hk i hi h1 h2
theorem Cf {r:Rcv} (h:DE r=0):O1 r∧KnR r∧(r.data.size:Int)=Hb r.tot∧OR r:=by
 unfold DE at h;split at h
 ·omega
 ·rename_i h1;split at h
  ·omega
  ·rename_i h2;split at h
   ·omega
   ·rename_i h3;split at h
    ·rename_i h4;exact ⟨wO.1 h1,wO.1 h2,wO.1 h3,h4⟩
    ·omega
theorem Gs {r:Rcv} (h:DE r=0):BU r.known r.data.size:=by
 obtain ⟨h1,h2,h3,h4⟩:=Cf h;have hw:=(Bx h2.1).1 h2.2.2;rw [h3];intro x hx;have:=hw x hx;unfold Hb;split
 ·have ht:r.tot = -1:=by rcases h1.2 with h|h<;>omega
  have:=h2.2.1.2 ht;rw [this] at hx;cases hx
 ·exact this
theorem Wj {l:List Span} {b:Int} (h:Canon b l):∀y∈l,y.fro<y.to:=fun y hy=>(Kh h y hy).2
theorem YZ (r:Rcv) (x:Seg) (hr:DE r=0) (hx:By x=0) (hk:x.kind=1):Ev fun n=>∀z:List AV×Heap→Option (List Tree),AH (fun p again=>RC n (r.known.map Span.enc) x.kind x.ses x.ser x.off x.tot x.chk x.data (x.claims.map Span.enc) r.ses r.tot r.data z p again) n ([.t (tI 0)],[.box []])=z ([.t (.bool (decide (agree r x)))],[.box []]):=by
 obtain ⟨c1,c2,c3,c4⟩:=Cf hr;have hW:=Gs hr;have hlen:=BA c2.1;obtain ⟨g1,g2,g3,g4,g5,g6,g7⟩:=Ct hx hk;have hcan:=Wj ((Ag r.known).1 c2.1).2.1;have hsz:r.data.size≤65536:=by have:=c1.2;unfold Hb at c3;split at c3<;>omega
 refine Fj r.known (fun i (_:Unit)=>(([.t (tI i)],[.box []]):List AV×Heap)) (fun _ (_:Unit) k=>if (fun k=>decide (Gl r x k)) k=true then .next () else .done false) (fun _=>true) (fun (z:List AV×Heap→Option (List Tree)) (q:Bool)=>z ([AV.t (Tree.bool q)],[AI.box []])) (fun _ _=>True) () rfl trivial ?_
  (fun i s k hk' hI=>Ev.of fun n z again => ?_) (fun _ _ _ _ _ _ _=>trivial) (fun s hI=>Ev.of fun n z again => ?_)
 ·rw [Rp];rw [Bool.eq_iff_iff,decide_eq_true_eq,Ws];by_cases h:r.known.all (fun k=>decide (Gl r x k))=true<;>simp [h]
 ·have hi:=AN hk';have hkw:=hW k (yA hk');have hkc:=hcan k (yA hk');simp only [RC,vv,vf,wK,hk',Span.enc,(show (i:Int)<r.known.length by omega),AT (show i<4611686018427387904 by omega),AM (show -9223372036854775808≤x.off+(x.data.size:Int) by omega) (by omega),ZZ,AS];have ef:(if x.off>k.fro then x.off else k.fro)=((if x.off>k.fro then x.off else k.fro).toNat:Int):=by split<;>omega
  generalize hf:(if x.off>k.fro then x.off else k.fro)=f at *;generalize ht:(if x.off+(x.data.size:Int)<k.to then x.off+(x.data.size:Int) else k.to)=t at *;have hf2:f=max x.off k.fro:=by rw [← hf];simp only [Int.max_def];split<;>split<;>omega
  have ht2:t=min (x.off+(x.data.size:Int)) k.to:=by rw [← ht];simp only [Int.min_def];split<;>split<;>omega
  by_cases hft:f<t
  ·have hok:Gl r x k↔(r.data.extract f.toNat t.toNat=x.data.extract (f-x.off).toNat (t-x.off).toNat):=by
    have key:=part_eq (bl r.data) (bl x.data) f.toNat t.toNat x.off.toNat (by omega) (by rw [A3];omega) (by omega) (by rw [A3];omega);have e1:(r.data.extract f.toNat t.toNat=x.data.extract (f-x.off).toNat (t-x.off).toNat)↔((bl r.data).drop f.toNat).take (t.toNat-f.toNat)=((bl x.data).drop (f.toNat-x.off.toNat)).take ((t.toNat-x.off.toNat)-(f.toNat-x.off.toNat)):=by rw [show (f-x.off).toNat=f.toNat-x.off.toNat by omega,show (t-x.off).toNat=t.toNat-x.off.toNat by omega,← Eh,← Eh];exact ⟨fun h=>by rw [h],fun h=>OD h⟩
    rw [e1,key];unfold Gl;constructor
    ·intro h q h1 h2;have:=h (q-x.off.toNat) (by omega) (by omega) (by omega);rw [show x.off.toNat+(q-x.off.toNat)=q by omega] at this;exact this
    ·intro h i h1 h2 h3;have:=h (x.off.toNat+i) (by omega) (by omega);rw [show x.off.toNat+i-x.off.toNat=i by omega] at this;exact this
   rw [AM (x:=t-x.off) (by omega) (by omega),AM (x:=f-x.off) (by omega) (by omega)];rw [BD (show f<t from hft),BD (by omega),BD (by omega),BD (by omega),BD (by omega)];simp only [hok,bne,Lm];by_cases he:r.data.extract f.toNat t.toNat=x.data.extract (f-x.off).toNat (t-x.off).toNat<;>simp [he,AB,Rd.AR,Rd.Aj]
  ·have hok:Gl r x k:=by intro i h1 h2 h3;omega
   rw [DR (show ¬f<t from hft)];simp [hok,Rd.AR]
 ·simp only [RC,vv,vf,wK,wE,AS]
theorem s160 (r:Rcv) (x:Seg) (hr:DE r=0) (hx:By x=0):AK C 160 (r.enc++x.enc) [.bool (DL r x)]:=by
 refine AK.of (fun n=>e160 n _ _ _ _ _ _ _ _ _ _ _ _) ?_;simp only [AS];refine AZ (fun (b:Bool)=>[Tree.bool b]) [0,1,2,3] (fun i (_:Unit)=>(([.t (tI i)],[.box []]):List AV×Heap)) (fun i (_:Unit) (_:Nat)=>if (match i with
  |0=>decide (x.kind=1∧x.ses=r.ses)
  |1=>decide (r.tot = -1∨x.tot=r.tot)
  |2=>decide (agree r x)
  |_=>decide (C7 r.known [sp x]=0))=true then .next () else .done false) (fun _=>true) (fun i _=>0<i→x.kind=1) () rfl (fun h=>by omega) ?_
  (fun i s k hk hI => ?_) (fun i s k s' hk hI h h0 => ?_) (fun s hI=>Ev.of fun n again => ?_)
 ·unfold DL;simp only [BX];by_cases h1:x.kind=1<;>by_cases h2:x.ses=r.ses<;>by_cases h3:(r.tot = -1∨x.tot=r.tot)<;>by_cases h4:agree r x<;>by_cases h5:C7 r.known [sp x]=0<;>simp [h1,h2,h3,h4,h5]
 ·have hi:i<4:=AN hk;have h40:=s161 r x hx;rcases (show i=0∨i=1∨i=2∨i=3 by omega) with rfl|rfl|rfl|rfl
  ·refine Ev.of fun n again => ?_;simp only [Lw,RK,L1,vv,vf,wK,AS];by_cases h1:x.kind=1<;>by_cases h2:x.ses=r.ses<;>simp [h1,h2,AB,Rd.AR,Rd.Aj,w64,wrap64]
  ·refine Ev.of fun n again => ?_;simp only [Lw,RK,L1,vv,vf,wK,AS];by_cases h1:r.tot = -1<;>by_cases h2:x.tot=r.tot<;>simp [h1,h2,AB,Rd.AR,Rd.Aj,w64,wrap64]
  ·refine (YZ r x hr hx (hI (by omega))).mono fun n h again => ?_;simp only [Lw,L1,vv,vf,wK,AS,h];by_cases h1:agree r x<;>simp [h1,AB,Rd.AR,Rd.Aj,w64,wrap64]
  ·refine h40.mono fun n h again => ?_;simp only [Rcv.enc,Seg.enc,xB,xX] at h;simp only [Lw,vv,vf,wK,AS,h];by_cases h1:C7 r.known [sp x]=0<;>simp [h1,AB,Rd.AR,Rd.Aj,w64,wrap64]
 ·rcases (show i=0∨0<i by omega) with rfl|h1
  ·simp only at h;split at h
   ·rename_i h2;simp only [decide_eq_true_eq] at h2;exact h2.1
   ·cases h
  ·exact hI h1
 ·simp only [Lw,vv,vf,wK];simp [AB]
end Ab
namespace Ab
open Go
theorem P8 (r:Rcv) (x:Seg):BX (fun i (_:Unit) (b:UInt8)=>if (fun (i:Nat) (b:UInt8)=>decide (Ac (x.off+i) r.known→(bl r.data).getD (x.off.toNat+i) 0=b)) i b=true then .next () else .done false) (fun _=>decide (C7 r.known [sp x]=0)) 0 (bl x.data) ()=decide (agree r x∧C7 r.known [sp x]=0):=by
 by_cases h:agree r x
 ·simp only [h,true_and];refine LF _ _ _ _ _ fun k b hb => ?_;simp only [yR,decide_eq_true_eq];intro hm;have:=h k (by rw [← A3];exact AN hb) hm;rw [this,Eu hb]
 ·simp only [h,false_and,decide_false];unfold agree at h;simp only [wN] at h;obtain ⟨k,k1,k2,k3⟩:=h;obtain ⟨b,hb⟩:∃b,(bl x.data)[k]? = some b:=⟨(bl x.data)[k]'(by rw [A3];exact k1),zO _⟩
  refine LG _ _ _ _ _ k b hb ?_;rw [Eu hb] at k3;simp only [yR,decide_eq_false_iff_not];exact fun h=>k3 (h k2)
theorem YU (r:Rcv) (x:Seg) (hr:DE r=0) (hx:By x=0) (hk:x.kind=1):Ev fun n=>AH (fun p again=>IU n x.data (r.known.map Span.enc) x.off r.data p again) n ([.t (tI 0)],[])=some [.bool (decide (agree r x∧C7 r.known [sp x]=0))]:=by
 obtain ⟨c1,c2,c3,c4⟩:=Cf hr;have hW:=Gs hr;obtain ⟨g1,g2,g3,g4,g5,g6,g7⟩:=Ct hx hk;refine AZ (fun (b:Bool)=>[Tree.bool b]) (bl x.data) (fun i (_:Unit)=>(([.t (tI i)],[]):List AV×Heap)) (fun i (_:Unit) (b:UInt8)=>if (fun (i:Nat) (b:UInt8)=>decide (Ac (x.off+i) r.known→(bl r.data).getD (x.off.toNat+i) 0=b)) i b=true then .next () else .done false) (fun _=>decide (C7 r.known [sp x]=0)) (fun _ _=>True) () rfl trivial
  (P8 r x) (fun i s b hb hI => ?_) (fun _ _ _ _ _ _ _=>trivial) (fun s hI => ?_)
 ·have hi:=AN hb;rw [A3] at hi;refine (Xc r.known (x.off+i)).mono fun n h again => ?_;simp only [IU,vv,vf,wK,AM (show -9223372036854775808≤x.off+(i:Int) by omega) (by omega),h,c2.1,(show (i:Int)<x.data.size by omega),AT (show i<4611686018427387904 by omega),FY,Eu hb];by_cases hm:Ac (x.off+i) r.known
  ·have:=EW hW hm;simp only [hm,vv];rw [BD (by omega),show (x.off+(i:Int)).toNat=x.off.toNat+i by omega];by_cases he:(bl r.data).getD (x.off.toNat+i) 0=b
   ·simp only [he];simp [AB,Rd.AR]
   ·have he2:¬(((bl r.data).getD (x.off.toNat+i) 0).toNat=b.toNat):=fun h=>he (UInt8.toNat_inj.1 h);simp only [he];simp [AB,Rd.Aj];intro h;have h':=Int.ofNat_inj.1 h;exact absurd (by simpa [xJ] using h') he2
  ·simp [hm,AB,Rd.AR]
 ·refine (s108 r.known [sp x]).mono fun n h again => ?_;rw [EX] at h;simp only [xN,vA,sp,Span.enc] at h;simp only [IU,vv,vf,wK,A3,wE,AM (show -9223372036854775808≤x.off+(x.data.size:Int) by omega) (by omega),h];simp only [sp];congr 1
theorem YT (r:Rcv) (x:Seg) (hr:DE r=0) (hx:By x=0) (hk:x.kind=1):Ev fun n=>AH (fun p again=>IU n x.data (r.known.map Span.enc) x.off r.data p again) n ([.t (tI 0)],[])=some [.bool (decide (agree r x∧C7 r.known [sp x]=0))]:=by
 obtain ⟨c1,c2,c3,c4⟩:=Cf hr;have hW:=Gs hr;obtain ⟨g1,g2,g3,g4,g5,g6,g7⟩:=Ct hx hk;refine AZ (fun (b:Bool)=>[Tree.bool b]) (bl x.data) (fun i (_:Unit)=>(([.t (tI i)],[]):List AV×Heap)) (fun i (_:Unit) (b:UInt8)=>if (fun (i:Nat) (b:UInt8)=>decide (Ac (x.off+i) r.known→(bl r.data).getD (x.off.toNat+i) 0=b)) i b=true then .next () else .done false) (fun _=>decide (C7 r.known [sp x]=0)) (fun _ _=>True) () rfl trivial
  (P8 r x) (fun i s b hb hI => ?_) (fun _ _ _ _ _ _ _=>trivial) (fun s hI => ?_)
 ·have hi:=AN hb;rw [A3] at hi;refine (Xc r.known (x.off+i)).mono fun n h again => ?_;simp only [IU,vv,vf,wK,AM (show -9223372036854775808≤x.off+(i:Int) by omega) (by omega),h,c2.1,(show (i:Int)<x.data.size by omega),AT (show i<4611686018427387904 by omega),FY,Eu hb];by_cases hm:Ac (x.off+i) r.known
  ·have:=EW hW hm;simp only [hm,vv];rw [BD (by omega),show (x.off+(i:Int)).toNat=x.off.toNat+i by omega];by_cases he:(bl r.data).getD (x.off.toNat+i) 0=b
   ·simp only [he];simp [AB,Rd.AR]
   ·have he2:¬(((bl r.data).getD (x.off.toNat+i) 0).toNat=b.toNat):=fun h=>he (UInt8.toNat_inj.1 h);simp only [he];simp [AB,Rd.Aj];intro h;have h':=Int.ofNat_inj.1 h;exact absurd (by simpa [xJ] using h') he2
  ·simp [hm,AB,Rd.AR]
 ·refine (s108 r.known [sp x]).mono fun n h again => ?_;rw [EX] at h;simp only [xN,vA,sp,Span.enc] at h;simp only [IU,vv,vf,wK,A3,wE,AM (show -9223372036854775808≤x.off+(x.data.size:Int) by omega) (by omega),h];simp only [sp];congr 1
theorem s107 (r:Rcv) (x:Seg) (hr:DE r=0) (hx:By x=0):AK C 107 (r.enc++x.enc) [.bool (DL r x)]:=by
 refine AK.of (fun n=>e107 n _ _ _ _ _ _ _ _ _ _ _ _) ?_;obtain ⟨c1,c2,c3,c4⟩:=Cf hr;unfold DL;by_cases h1:x.kind=1
 ·by_cases h2:x.ses=r.ses
  ·simp only [h1,h2,bne_self_eq_false,vv];by_cases h3:0≤r.tot
   ·have h3':r.tot ≠ -1:=by omega
    by_cases h4:x.tot=r.tot
    ·simp only [h3,h3',h4,bne_self_eq_false,vv];exact YU r x hr hx h1
    ·have h5:(x.tot != r.tot)=true:=by simpa using h4
     simp only [h3,h3',h4,h5,vv];exact Ev.of fun n=>by first|rfl|trivial
   ·have h3':r.tot = -1:=by rcases c1.2 with h|h<;>omega
    simp only [h3',vv];have h6:¬(0:Int)≤ -1:=by decide
    simp only [h6,vv];exact YT r x hr hx h1
  ·have h5:(x.ses != r.ses)=true:=by simpa using h2
   simp only [h1,h2,h5,bne_self_eq_false,vv];exact Ev.of fun n=>by first|rfl|trivial
 ·have h5:(x.kind != 1)=true:=by simpa using h1
  simp only [h1,h5,vv];exact Ev.of fun n=>by first|rfl|trivial
end Ab
namespace Ab
open Go
theorem s163 (es:List (List Tree)) (hl:es.length≤1073741824):AK C 163 [.sl 2 es] [.sl 2 es]:=by
 refine AK.of (fun n=>e163 n _) (Ev.of fun n => ?_);by_cases h:es.length=0
 ·have:es=[]:=zI h;subst this;simp [AB,AF]
 ·rw [BD h,BD hl,vD (yI _)]
def Br (k:Nat):List UInt8:=yB k 0
def Ck (r:Rcv) (x:Seg):List UInt8:=Dq (Dq (Br x.tot.toNat) 0 (bl r.data)) x.off.toNat (bl x.data)
def B9 (r:Rcv) (x:Seg):Seg:=⟨2,r.ses,x.ser,0,x.tot,false,ByteArray.mk #[],C6 r.known [sp x]⟩
def CQ (r:Rcv) (x:Seg):Rcv:=⟨r.ses,x.tot,C6 r.known [sp x],mkB (Ck r x)⟩
def zeroR:Rcv:=⟨0,0,[],ByteArray.mk #[]⟩
def DX (r:Rcv) (x:Seg):Rcv×List Seg×Int:=
 if ¬(DE r=0∧By x=0) then (zeroR,[],1) else if DL r x=false then (r,[],0) else (CQ r x,if x.chk=true then [B9 r x] else [],0)
def ML (q:Rcv×List Seg×Int):List Tree:=[tI q.1.ses,tI q.1.tot,.sl 2 (q.1.known.map Span.enc),.str q.1.data,.sl 8 (q.2.1.map Seg.enc),tI q.2.2]
theorem Hk {a b:List Span} (h:C7 a b=0):A4 a=0∧A4 b=0∧C6 a b=uni a b∧A4 (C6 a b)=0∧∀t,Ac t (C6 a b)↔Ac t a∨Ac t b:=by
 unfold C7 at h;split at h
 ·rename_i hc;split at h
  ·omega
  ·rename_i hl;obtain ⟨h1,h2⟩:=Jv ((Ag _).1 hc.1).2.1 ((Ag _).1 hc.2).2.1;have e:C6 a b=uni a b:=by unfold C6;rw [if_pos hc,if_neg hl]
   refine ⟨hc.1,hc.2,e,?_,by rw [e];exact h2⟩;rw [e,Ag];refine ⟨by omega,h1,mem_top h1 fun t m => ?_⟩;rcases (h2 t).1 m with m|m
   ·exact QO ((Ag _).1 hc.1).2.2 ((Ag _).1 hc.1).2.1 m
   ·exact QO ((Ag _).1 hc.2).2.2 ((Ag _).1 hc.2).2.1 m
 ·omega
theorem Cs {r:Rcv} {x:Seg}:DL r x=true↔x.kind=1∧x.ses=r.ses∧(r.tot = -1∨x.tot=r.tot)∧agree r x∧C7 r.known [sp x]=0:=by unfold DL;rw [decide_eq_true_eq]
theorem MD {r:Rcv} {x:Seg} (hr:DE r=0) (hx:By x=0) (hs:DL r x=true):BU (C6 r.known [sp x]) x.tot∧C6 r.known [sp x]≠[]:=by
 obtain ⟨h1,h2,h3,h4,h5⟩:=Cs.1 hs;obtain ⟨g1,g2,g3,g4,g5,g6,g7⟩:=Ct hx h1;obtain ⟨c1,c2,c3,c4⟩:=Cf hr;obtain ⟨u1,u2,u3,u4,u5⟩:=Hk h5;have hW:=Gs hr;have hm:Ac x.off (C6 r.known [sp x]):=(u5 _).2 (.inr (.inl ⟨Int.le_refl _,by show x.off<x.off+x.data.size;omega⟩));refine ⟨Gx ((Ag _).1 u4).2.1 fun t m => ?_,fun e=>by rw [e] at hm;exact hm⟩;rcases (u5 t).1 m with m|m
 ·have:=EW hW m;have h0:r.tot ≠ -1:=fun h0=>by have:=c2.2.1.2 h0;rw [this] at m;exact m
  have:x.tot=r.tot:=by rcases h3 with h|h;exact (h0 h).elim;exact h
  have:(r.data.size:Int)=r.tot:=by rw [c3];unfold Hb;rw [if_neg];rcases c1.2 with h|h<;>omega
  omega
 ·rcases m with m|m
  ·have m1:x.off≤t:=m.1;have m2:t<x.off+x.data.size:=m.2;omega
  ·exact m.elim
theorem N8 {r:Rcv} {x:Seg} (hr:DE r=0) (hx:By x=0) (hs:DL r x=true) (hc:x.chk=true):By (B9 r x)=0:=by
 obtain ⟨h1,h2,h3,h4,h5⟩:=Cs.1 hs;obtain ⟨g1,g2,g3,g4,g5,g6,g7,g8,g9⟩:=Ct hx h1;obtain ⟨c1,c2,c3,c4⟩:=Cf hr;obtain ⟨u1,u2,u3,u4,u5⟩:=Hk h5;have hn:Bk (B9 r x):=by unfold Bk B9;simp only;have:=c1.1;have:=g8 hc;grind
 have hk:CJ (B9 r x):=by
  have:inside (C6 r.known [sp x]) x.tot=true:=by unfold inside;rw [decide_eq_true_eq];exact ⟨u4,(Bx u4).2 (MD hr hx hs).1⟩
  unfold CJ B9;simp only [this];simp;rfl
 unfold By;rw [if_neg (not_not_intro (by simp [B9])),if_neg (not_not_intro hn),if_neg (not_not_intro hk)]
theorem size_le {r:Rcv} {x:Seg} (hr:DE r=0) (hx:By x=0) (hs:DL r x=true):r.data.size≤x.tot.toNat∧(r.data.size=0∨r.data.size=x.tot.toNat):=by
 obtain ⟨h1,h2,h3,h4,h5⟩:=Cs.1 hs;obtain ⟨g1,g2,g3,g4,g5,g6,g7,g8⟩:=Ct hx h1;obtain ⟨c1,c2,c3,c4⟩:=Cf hr;unfold Hb at c3;rcases c1.2 with h|h
 ·rw [if_pos (by omega)] at c3;omega
 ·rw [if_neg (by omega)] at c3;have:x.tot=r.tot:=by rcases h3 with h|h<;>omega
  omega
theorem s146 (r:Rcv) (x:Seg):AK C 146 (r.enc++x.enc) (ML (DX r x)):=by
 refine AK.of (fun n=>e146 n _ _ _ _ _ _ _ _ _ _ _ _) ?_;simp only [join_eq];refine Ev.rw (s159 r) (fun n h=>by simp only [Rcv.enc] at h;simp only [h,vv,vf];rfl) ?_;unfold DX;by_cases hr:DE r=0
 ·simp only [hr,bne_self_eq_false,vv];refine Ev.rw (XZ x) (fun n h=>by simp only [Seg.enc] at h;simp only [h,vv];rfl) ?_;by_cases hx:By x=0
  ·simp only [hx,bne_self_eq_false,RO,vv,vf,wK,not_true_eq_false];refine Ev.rw (s160 r x hr hx) (fun n h=>by simp only [Rcv.enc,Seg.enc,xB,xX] at h;simp only [h,vv];rfl) ?_;by_cases hs:DL r x=true
   ·simp only [hs,vv,reduceCtorEq];obtain ⟨h1,h2,h3,h4,h5⟩:=Cs.1 hs;obtain ⟨g1,g2,g3,g4,g5,g6,g7,g8⟩:=Ct hx h1;have hsz:=(size_le hr hx hs).1;refine Ev.rw (s161 r x hx) (fun n h=>by simp only [Rcv.enc,Seg.enc,xB,xX] at h;simp only [h,vv,wK];rfl) ?_;have hz:(Br x.tot.toNat).length=x.tot.toNat:=by simp [Br]
    have l1:(Dq (Br x.tot.toNat) 0 (bl r.data)).length=x.tot.toNat:=by rw [DW _ _ _ (by rw [A3,hz];omega),hz]
    have l2:(Ck r x).length=x.tot.toNat:=by unfold Ck;rw [DW _ _ _ (by rw [A3,l1];omega),l1]
    have r1:take x.tot.toNat (DG r.data)=(bl r.data).map tb:=by rw [PB,vD (by rw [wX,A3];exact hsz)]
    have r2:take (x.tot.toNat-x.off.toNat) (DG x.data)=(bl x.data).map tb:=by rw [PB,vD (by rw [wX,A3];omega)]
    have r0:yB x.tot.toNat ([Tree.int IntKind.u8 0]:List Tree)=(Br x.tot.toNat).map tb:=X5 _;have r3:BP (BP ((Br x.tot.toNat).map tb) 0 ((bl r.data).map tb)) (0+x.off.toNat) ((bl x.data).map tb)=(Ck r x).map tb:=by rw [LI,yR,LI];rfl
    have r4:take x.tot.toNat ((Ck r x).map tb)=(Ck r x).map tb:=by rw [vD (by rw [wX,l2];exact yI _)]
    have r5:(BP ((Br x.tot.toNat).map tb) 0 ((bl r.data).map tb)).length=x.tot.toNat:=by rw [LI,wX,l1]
    simp only [yR] at r3;simp only [r0,r1,r2,r3,r4,JX,Jj,vv];have k1:(0:Int)≤x.tot:=by omega
    have k2:x.tot≤1073741824:=by omega
    have k3:x.off≤(x.tot.toNat:Int):=by omega
    have k4:x.off.toNat<x.tot.toNat∨x.off.toNat=0 :=.inl (by omega);simp only [k1,k2,k3,g3,vv];by_cases hc:x.chk=true
    ·simp only [hc,vv];refine Ev.rw (s163 ((C6 r.known [sp x]).map Span.enc) (by have:=BA (Hk h5).2.2.2.1;rw [wX];omega)) (fun n h=>by simp only [h,vv];rfl) ?_;have hcl:=N8 hr hx hs hc;refine (s162 r.ses x.ser x.tot (C6 r.known [sp x])).mono fun n h => ?_;unfold B9 at hcl;rw [if_pos hcl] at h;simp only [Seg.enc,xB,xX] at h;simp only [h,bne_self_eq_false,vv,wK];rfl
    ·have hc':x.chk=false:=by simpa using hc
     simp only [hc',vv];exact Ev.of fun n=>rfl
   ·have hs':DL r x=false:=by simpa using hs
    simp only [hs',vv];exact Ev.of fun n=>rfl
  ·have hb:(By x != 0)=true:=by simpa using hx
   simp only [hb,hx,RO,vv,vf,wK,not_false_eq_true];exact Ev.of fun n=>rfl
 ·have hb:(DE r != 0)=true:=by simpa using hr
  simp only [hb,hr,RO,vv,vf,wK,not_false_eq_true];exact Ev.of fun n=>rfl
theorem s109 (ses ser tot:Int) (l:List Span):AK C 109 [tI ses,tI ser,tI tot,.sl 2 (l.map Span.enc)] (if By ⟨2,ses,ser,0,tot,false,ByteArray.mk #[],l⟩=0 then (Seg.enc ⟨2,ses,ser,0,tot,false,ByteArray.mk #[],l⟩)++[tI 0] else (Seg.enc ⟨0,0,0,0,0,false,ByteArray.mk #[],[]⟩)++[tI (By ⟨2,ses,ser,0,tot,false,ByteArray.mk #[],l⟩)]):=by
 refine AK.of (fun n=>e109 n _ _ _ _) ?_;refine (Xb ⟨2,ses,ser,0,tot,false,ByteArray.mk #[],l⟩).mono fun n h => ?_;simp only [Seg.enc] at h;simp only [h,vv,vf];by_cases hc:By ⟨2,ses,ser,0,tot,false,ByteArray.mk #[],l⟩=0
 ·simp [hc,AB,Seg.enc]
 ·simp [hc,AB,Seg.enc,bne]
theorem U4 (l:List UInt8) (p:Nat) (m:List UInt8) (i:Nat) (b:UInt8) (hb:m[i]? = some b) (h:p+m.length≤l.length) (y:List Tree) (hy:((Dq l p (m.take i)).map tb)[p+i]? = some y) :
  List.set ((Dq l p (m.take i)).map tb) (p+i) ([Tree.int IntKind.u8 (b.toNat:Int)]++drop 1 y)=(Dq l p (m.take (i+1))).map tb:=by
 have hi:=AN hb;rw [get_tb] at hy;obtain ⟨c,hc,rfl⟩:=Option.map_eq_some_iff.1 hy;have e:[Tree.int IntKind.u8 (b.toNat:Int)]++drop 1 (tb c)=tb b:=rfl;rw [e,set_tb,← Eu hb,V5 l p m i hi h]
theorem PD (l:List UInt8) (p:Nat):Dq l p []=l:=by simp [Dq]
theorem Rr (l:List UInt8) (k:Nat) (h:k<l.length):∃y,(l.map tb)[k]? = some y:=⟨_,zO (by rw [wX];exact h)⟩
theorem Yc (r:Rcv) (x:Seg) (b0 b1:Int) (b2:List (List Tree)) (b3:ByteArray) (hr:DE r=0) (hx:By x=0) (hs:DL r x=true) :
  Ev fun n=>AH (fun p again=>S9 n x.data x.off x.tot (r.known.map Span.enc) x.chk r.ses x.ser p again) n ([.t (tI 0)],[.box [.t (tI b0),.t (tI b1),.t (.sl 2 b2),.t (.str b3)],.row false 0 1 ((Dq (Br x.tot.toNat) 0 (bl r.data)).map tb)])=some (ML (CQ r x,if x.chk=true then [B9 r x] else [],0)):=by
 obtain ⟨h1,h2,h3,h4,h5⟩:=Cs.1 hs;obtain ⟨g1,g2,g3,g4,g5,g6,g7,g8⟩:=Ct hx h1;have hsz:=(size_le hr hx hs).1;have hz:(Br x.tot.toNat).length=x.tot.toNat:=by simp [Br]
 have l1:(Dq (Br x.tot.toNat) 0 (bl r.data)).length=x.tot.toNat:=by rw [DW _ _ _ (by rw [A3,hz];omega),hz]
 have l2:(Ck r x).length=x.tot.toNat:=by unfold Ck;rw [DW _ _ _ (by rw [A3,l1];omega),l1]
 refine AZ (fun (q:List Tree)=>q) (bl x.data) (fun i (_:Unit)=>(([.t (tI i)],[.box [.t (tI b0),.t (tI b1),.t (.sl 2 b2),.t (.str b3)],.row false 0 1 ((Dq (Dq (Br x.tot.toNat) 0 (bl r.data)) x.off.toNat ((bl x.data).take i)).map tb)]):List AV×Heap)) (fun i (_:Unit) (b:UInt8)=>.next ()) (fun _=>ML (CQ r x,if x.chk=true then [B9 r x] else [],0)) (fun _ _=>True) () ?_ trivial
  ?_ (fun i s b hb hI=>Ev.of fun n again => ?_) (fun _ _ _ _ _ _ _=>trivial) (fun s hI => ?_)
 ·simp [PD]
 ·rw [CL]
 ·have hi:=AN hb;rw [A3] at hi;obtain ⟨y,hy⟩:=Rr (Dq (Dq (Br x.tot.toNat) 0 (bl r.data)) x.off.toNat ((bl x.data).take i)) (x.off.toNat+i) (by rw [DW _ _ _ (by rw [l1,zZ,A3];omega),l1];omega);have hset:=U4 _ _ _ i b hb (by rw [A3,l1];omega) y hy;have ew:=AM (show -9223372036854775808≤x.off+(i:Int) by omega) (by omega);have et:(x.off+(i:Int)).toNat=x.off.toNat+i:=by omega
  simp only [S9,vv,vf,reduceCtorEq,wK,ew,et,hy,FY,Eu hb,(show (i:Int)<x.data.size by omega),AT (show i<4611686018427387904 by omega),Rd.AR,yI];rw [BD (by omega),hset]
 ·have e1:(bl x.data).take (bl x.data).length=bl x.data:=vC;have r4:take x.tot.toNat ((Ck r x).map tb)=(Ck r x).map tb:=by rw [vD (by rw [wX,l2];exact yI _)]
  have hu:=s108 r.known [sp x];have e2:Dq (Dq (Br x.tot.toNat) 0 (bl r.data)) x.off.toNat (bl x.data)=Ck r x:=rfl;have ew:=AM (show -9223372036854775808≤x.off+(x.data.size:Int) by omega) (by omega);by_cases hc:x.chk=true
  ·have hb:=s109 r.ses x.ser x.tot (C6 r.known [sp x]);have hcl:=N8 hr hx hs hc;unfold B9 at hcl;rw [if_pos hcl] at hb;refine (hu.and hb).mono fun n h again => ?_;obtain ⟨h,hb⟩:=h;rw [EX] at h;simp only [xN,vA,sp,Span.enc] at h;simp only [Seg.enc,xB,xX,sp] at hb;simp only [e1,e2];simp only [S9,vv,vf,reduceCtorEq,wK,r4,JX,Jj,A3,wE,ew,h,hc,hb];rfl
  ·have hc':x.chk=false:=by simpa using hc
   refine hu.mono fun n h again => ?_;rw [EX] at h;simp only [xN,vA,sp,Span.enc] at h;simp only [e1,e2];simp only [S9,vv,vf,reduceCtorEq,wK,r4,JX,Jj,A3,wE,ew,h,hc'];rfl
theorem Yb (r:Rcv) (x:Seg) (b0 b1:Int) (b2:List (List Tree)) (b3:ByteArray) (hr:DE r=0) (hx:By x=0) (hs:DL r x=true) :
  Ev fun n=>AH (fun p again=>Vj n r.data x.tot x.data x.off (r.known.map Span.enc) x.chk r.ses x.ser p again) n ([.t (tI 0)],[.box [.t (tI b0),.t (tI b1),.t (.sl 2 b2),.t (.str b3)],.row false 0 1 ((Br x.tot.toNat).map tb)])=some (ML (CQ r x,if x.chk=true then [B9 r x] else [],0)):=by
 have hsz:=(size_le hr hx hs).1;have hbd:=M9 hx;have hz:(Br x.tot.toNat).length=x.tot.toNat:=by simp [Br]
 refine AZ (fun (q:List Tree)=>q) (bl r.data) (fun i (_:Unit)=>(([.t (tI i)],[.box [.t (tI b0),.t (tI b1),.t (.sl 2 b2),.t (.str b3)],.row false 0 1 ((Dq (Br x.tot.toNat) 0 ((bl r.data).take i)).map tb)]):List AV×Heap)) (fun i (_:Unit) (b:UInt8)=>.next ()) (fun _=>ML (CQ r x,if x.chk=true then [B9 r x] else [],0)) (fun _ _=>True) () ?_ trivial
  ?_ (fun i s b hb hI=>Ev.of fun n again => ?_) (fun _ _ _ _ _ _ _=>trivial) (fun s hI => ?_)
 ·simp only [List.take_zero,PD];rfl
 ·rw [CL]
 ·have hi:=AN hb;rw [A3] at hi;obtain ⟨y,hy⟩:=Rr (Dq (Br x.tot.toNat) 0 ((bl r.data).take i)) (0+i) (by rw [DW _ _ _ (by rw [hz,zZ,A3];omega),hz];omega);have hset:=U4 _ 0 _ i b hb (by rw [A3,hz];omega) y hy;simp only [yR] at hy hset;simp only [Vj,vv,vf,wK,hy,FY,Eu hb,(show (i:Int)<r.data.size by omega),AT (show i<4611686018427387904 by omega),Rd.AR,yI];rw [BD (by omega),hset]
 ·refine (Yc r x b0 b1 b2 b3 hr hx hs).mono fun n h again => ?_;have e1:(bl r.data).take (bl r.data).length=bl r.data:=vC;simp only [e1];simp only [Vj,vv,vf,wK,A3,wE];exact h
theorem s82 (r:Rcv) (x:Seg):AK C 82 (r.enc++x.enc) (ML (DX r x)):=by
 refine AK.of (fun n=>e82 n _ _ _ _ _ _ _ _ _ _ _ _) ?_;simp only [join_eq];refine Ev.rw (s105 r) (fun n h=>by simp only [Rcv.enc] at h;simp only [h,vv,vf];rfl) ?_;unfold DX;by_cases hr:DE r=0
 ·simp only [hr,bne_self_eq_false,vv];refine Ev.rw (Xb x) (fun n h=>by simp only [Seg.enc] at h;simp only [h,vv];rfl) ?_;by_cases hx:By x=0
  ·simp only [hx,bne_self_eq_false,Vr,vv,vf,wK,not_true_eq_false];refine Ev.rw (s107 r x hr hx) (fun n h=>by simp only [Rcv.enc,Seg.enc,xB,xX] at h;simp only [h,vv];rfl) ?_;by_cases hs:DL r x=true
   ·simp only [hs,vv,reduceCtorEq];obtain ⟨h1,h2,h3,h4,h5⟩:=Cs.1 hs;obtain ⟨g1,g2,g3,g4,g5,g6,g7,g8⟩:=Ct hx h1;have hsz:=(size_le hr hx hs).1;have hz:(Br x.tot.toNat).length=x.tot.toNat:=by simp [Br]
    have r0:yB x.tot.toNat ([Tree.int IntKind.u8 0]:List Tree)=(Br x.tot.toNat).map tb:=X5 _;have k1:(0:Int)≤x.tot:=by omega
    have k2:x.tot≤1073741824:=by omega
    simp only [k1,k2,r0,vv];exact Yb r x _ _ _ _ hr hx hs
   ·have hs':DL r x=false:=by simpa using hs
    simp only [hs',vv];exact Ev.of fun n=>rfl
  ·have hb:(By x != 0)=true:=by simpa using hx
   simp only [hb,hx,Vr,vv,vf,wK,not_false_eq_true];exact Ev.of fun n=>rfl
 ·have hb:(DE r != 0)=true:=by simpa using hr
  simp only [hb,hr,Vr,vv,vf,wK,not_false_eq_true];exact Ev.of fun n=>rfl
end Ab
namespace Ab
open Go
def Ay (r:Rcv):Bool:=decide (DE r=0∧r.known=[⟨0,r.tot⟩])
theorem R5 {l:List Span}:l.length=1↔∃x,l=[x]:=by
 constructor
 ·intro h
  match l,h with
  |[x],_=>exact ⟨x,rfl⟩
 ·rintro ⟨x,rfl⟩;rfl
theorem s147 (r:Rcv):AK C 147 r.enc [.bool (Ay r)]:=by
 refine AK.of (fun n=>e147 n _ _ _ _) ?_;refine (s159 r).mono fun n h => ?_;simp only [Rcv.enc] at h;simp only [h,vv,vf,wK];unfold Ay;by_cases hr:DE r=0
 ·simp only [hr,beq_self_eq_true,vv];by_cases hl:r.known.length=1
  ·obtain ⟨x,hx⟩:=R5.1 hl;simp only [hx,vv,zM,Span.enc];obtain ⟨a,b⟩:=x;simp only [AB,List.cons.injEq,and_true,Span.mk.injEq];by_cases h1:a=0<;>by_cases h2:b=r.tot<;>simp [h1,h2]
  ·have h1:((r.known.length:Int)==1)=false:=by simpa using fun h=>hl (by omega)
   have h2:¬r.known=[⟨0,r.tot⟩]:=fun h=>hl (by rw [h];rfl);simp only [h1,h2,vv]
 ·have h1:(DE r==0)=false:=by simpa using hr
  simp only [h1,hr,vv]
theorem s81 (r:Rcv):AK C 81 r.enc [.bool (Ay r)]:=by
 refine AK.of (fun n=>e81 n _ _ _ _) ?_;refine (s105 r).mono fun n h => ?_;simp only [Rcv.enc] at h;simp only [h,vv,vf];unfold Ay;by_cases hr:DE r=0
 ·simp only [hr,beq_self_eq_true,vv];by_cases hl:r.known.length=1
  ·obtain ⟨x,hx⟩:=R5.1 hl;simp only [hx,vv,zM,Span.enc];obtain ⟨a,b⟩:=x;simp only [AB,List.cons.injEq,and_true,Span.mk.injEq];by_cases h1:a=0<;>by_cases h2:b=r.tot<;>simp [h1,h2]
  ·have h1:((r.known.length:Int)==1)=false:=by simpa using fun h=>hl (by omega)
   have h2:¬r.known=[⟨0,r.tot⟩]:=fun h=>hl (by rw [h];rfl);simp only [h1,h2,vv]
 ·have h1:(DE r==0)=false:=by simpa using hr
  simp only [h1,hr,vv]
def Qg (n:Int):Rcv×Int:=if 0≤n∧n≤1099511627776 then (⟨n,-1,[],ByteArray.mk #[]⟩,0) else (zeroR,2)
theorem s70 (n:Int):AK C 70 [tI n] ((Qg n).1.enc++[tI (Qg n).2]):=by
 refine AK.of (fun m=>e70 m _) (Ev.of fun m => ?_);unfold Qg;simp only [AB,decide_eq_true_eq];by_cases h1:n<0
 ·rw [if_pos h1,if_neg (by omega)];rfl
 ·by_cases h2:n>1099511627776
  ·rw [if_neg h1,if_pos h2,if_neg (by omega)];rfl
  ·rw [if_neg h1,if_neg h2,if_pos (by omega)];rfl
theorem s48 (n:Int):AK C 48 [tI n] ((Qg n).1.enc++[tI (Qg n).2]):=by
 refine AK.of (fun m=>e48 m _) (Ev.of fun m => ?_);unfold Qg;simp only [AB,decide_eq_true_eq];by_cases h1:n<0
 ·rw [if_pos h1,if_neg (by omega)];rfl
 ·by_cases h2:n>1099511627776
  ·rw [if_neg h1,if_pos h2,if_neg (by omega)];rfl
  ·rw [if_neg h1,if_neg h2,if_pos (by omega)];rfl
end Ab
namespace Ab
open Go
def Aw (n:Int):List Tree:=[tI n]
theorem s200 (l:List Int) (e:Int) (hl:l.length≤1000000):AK C 200 [.sl 1 (l.map Aw),tI e] [tI (idx (fun x=>decide (x=e)) l)]:=by
 refine AK.of (fun n=>e200 n _ _) ?_;refine AZ (fun r=>[tI r]) l (fun i _=>(([.t (tI i)],[]):List AV×Heap)) (fun i _ x=>if decide (x=e)=true then .done (i:Int) else .next ()) (fun _ => -1) (fun _ _=>True) () rfl trivial (WX _ l)
  (fun i s x hx hI=>Ev.of fun n again => ?_) (fun _ _ _ _ _ _ _=>trivial) (fun s hI=>Ev.of fun n again => ?_)
 ·have hi:=AN hx;simp only [UL,vv,hx,Aw,AT (show i<4611686018427387904 by omega),(show (i:Int)<l.length by omega)];simp only [AB];grind [Rd.AR,Rd.Aj]
 ·simp only [UL,vv,wE]
theorem s174 (l:List Int) (e:Int) (hl:l.length≤1000000):AK C 174 [.sl 1 (l.map Aw),tI e] [.bool (decide (e∈l))]:=by refine AK.of (fun n=>e174 n _ _) ?_;refine (s200 l e hl).mono fun n h => ?_;simp only [h,vv,vf];congr 3;rw [Bool.eq_iff_iff];simp only [decide_eq_true_eq,Tp];simp
theorem s95 (a:Int):AK C 95 [tI a] [.bool (decide (1≤a∧a≤1048576))]:=by refine AK.of (fun n=>e95 n _) (Ev.of fun n => ?_);simp only [Ff,vv];congr 3;rw [Bool.eq_iff_iff];split<;>simp<;>omega
theorem s203 (a b:Int) (ha : -9223372036854775808≤a∧a≤9223372036854775807) (hb:1≤b∧b≤1048576):AK C 203 [tI a,tI b] [tI (a / b),tI (a % b)]:=by
 refine AK.of (fun n=>e203 n _ _) (Ev.of fun n => ?_);have hb0:¬b=0:=by omega
 have hb1:(0:Int)<b:=by omega
 have hq : -9223372036854775808≤a / b∧a / b≤9223372036854775807:=by
  constructor
  ·rw [Int.le_ediv_iff_mul_le hb1];have : -9223372036854775808*b≤ -9223372036854775808*1:=Int.mul_le_mul_of_nonpos_left (by omega) (by omega);omega
  ·have:a / b≤if 0≤a then a else 0:=by
    split
    ·exact Int.ediv_le_self b (by omega)
    ·have:=Int.ediv_lt_of_lt_mul hb1 (show a<0*b by omega);omega
   split at this<;>omega
 have hm:=wQ a hb0;have hml:=wP a hb1;have hdm:=Int.mul_ediv_add_emod a b;have ht:tmod a b=if 0≤a∨a % b=0 then a % b else a % b-b:=by
  rw [Int.tmod_eq_emod];have:(↑b.natAbs:Int)=b:=by omega
  have hdv:b∣a↔a % b=0:=Int.dvd_iff_emod_eq_zero;simp only [hdv];split<;>omega
 have htd:tdiv a b=if 0≤a∨a % b=0 then a / b else a / b+1:=by rw [Int.tdiv_eq_ediv];have hdv:b∣a↔a % b=0:=Int.dvd_iff_emod_eq_zero;have hs:b.sign=1:=Int.sign_eq_one_of_pos hb1;simp only [hdv,hs];split<;>omega
 by_cases h:0≤a∨a % b=0
 ·simp only [ht,htd,h,if_true,vv,hb0,(show ¬a % b<0 by omega),AM (show -9223372036854775808≤a / b by omega) (by omega)]
 ·have hneg:a / b<0:=Int.ediv_lt_of_lt_mul hb1 (by omega);simp only [ht,htd,h,if_false,vv,hb0,(show a % b-b<0 by omega)];rw [AM (x:=a / b+1) (by omega) (by omega),AM (x:=a / b+1-1) (by omega) (by omega),AM (by omega) (by omega)];simp
def BL (n r:Int):List Int:=if n % 8<4 then [r] else if n % 8<6 then [r,r+1+n / 8 % r] else if n % 8=6 then [r+1+n / 8 % r] else []
theorem s176 (n r:Int) (hn : -9223372036854775808≤n∧n≤9223372036854775807) (hr:1≤r∧r≤1048576):AK C 176 [tI n,tI r] [.sl 1 ((BL n r).map Aw),tI 0]:=by
 refine AK.of (fun n=>e176 n _ _) ?_;have hm:=wQ (n / 8) (show r≠0 by omega);have hml:=wP (n / 8) (show 0<r by omega);have h19:AK C 216 [tI r,tI (n / 8 % r)] [.sl 1 [[tI r]]]:=AK.of (fun n=>e216 n _ _) (Ev.of fun n=>rfl);have hw:w64 (w64 (r+1)+n / 8 % r)=r+1+n / 8 % r:=by rw [AM (x:=r+1) (by omega) (by omega),AM (by omega) (by omega)]
 have h20:AK C 217 [tI r,tI (n / 8 % r)] [.sl 1 [[tI r],[tI (r+1+n / 8 % r)]]]:=AK.of (fun n=>e217 n _ _) (Ev.of fun n=>by rw [hw]);have h21:AK C 218 [tI r,tI (n / 8 % r)] [.sl 1 [[tI (r+1+n / 8 % r)]]]:=AK.of (fun n=>e218 n _ _) (Ev.of fun n=>by rw [hw]);have h22:AK C 219 [tI r,tI (n / 8 % r)] [.sl 1 []]:=AK.of (fun n=>e219 n _ _) (Ev.of fun n=>rfl);refine ((s95 r).and ((s203 n 8 hn (by omega)).and ((s203 (n / 8) r (by omega) hr).and (h19.and (h20.and (h21.and h22)))))).mono fun m h => ?_;obtain ⟨k1,k2,k3,k4,k5,k6,k7⟩:=h;have h8:0≤n % 8∧n % 8<8:=by omega
 simp only [k1,k2,k3,k4,k5,k6,k7,vv,vf,wK,hr,h8,and_self];unfold BL;rcases (show n % 8=0∨n % 8=1∨n % 8=2∨n % 8=3∨n % 8=4∨n % 8=5∨n % 8=6∨n % 8=7 by omega) with e|e|e|e|e|e|e|e<;>simp [e,AB,Aw]
end Ab
namespace Ab
open Go
structure Frame where
 arr:Int
 num:Int
 seg:Seg
 deriving DecidableEq
def Frame.enc (f:Frame):List Tree:=[tI f.arr,tI f.num,tI f.seg.kind,tI f.seg.ses,tI f.seg.ser,tI f.seg.off,tI f.seg.tot,.bool f.seg.chk,.str f.seg.data,.sl 2 (f.seg.claims.map Span.enc)]
structure BI where
 rng:Int
 frames:List Frame
 sent:Int
 lost:Int
def BI.enc (c:BI):List Tree:=[tI c.rng,.sl 10 (c.frames.map Frame.enc),tI c.sent,tI c.lost]
structure Bn (c:BI):Prop where
 rng:1≤c.rng∧c.rng≤1048576
 lost:0≤c.lost∧c.lost≤c.sent
 sent:c.sent≤1152921504606846976
 len:c.frames.length≤10000
 frm:∀f∈c.frames,0≤f.arr∧f.arr≤2199023255552∧0≤f.num∧f.num<c.sent
 srt:c.frames.Pairwise fun a b=>a.arr≤b.arr
theorem Rm (es:List (List Tree)) (hl:es.length≤1073741824):AK C 1000170 [.sl 10 es] [.sl 10 es]:=by
 refine AK.of (fun n=>Yk n _) (Ev.of fun n => ?_);by_cases h:es.length=0
 ·have:es=[]:=zI h;subst this;simp [AB,AF]
 ·rw [BD h,BD hl,vD (yI _)]
theorem s143 (c:BI) (hc:Bn c):AK C 143 c.enc [tI 0]:=by
 refine AK.of (fun n=>e143 n _ _ _ _) ?_;have h1:=hc.rng;have h2:=hc.lost;have h3:=hc.len;refine Ev.rw (T' := ?TT) (s95 c.rng) (fun n h => ?g1) ?g2
 case g1=>
  simp only [h,vv,vf,h1,and_self,(show ¬c.sent<0 by omega),(show ¬c.lost<0 by omega),(show ¬c.sent<c.lost by omega),(show ¬(10000:Int)<(c.frames.length:Int) by omega)];rfl
 case g2=>
  refine AZ (fun (r:Int)=>[tI r]) c.frames (fun i (_:Unit)=>(([.t (tI i)],[]):List AV×Heap)) (fun _ _ _ =>.next ()) (fun _=>0) (fun _ _=>True) () rfl trivial (CL (fun _ _=>()) (fun _=>0) 0 _ ())
   (fun i s f hx hI=>Ev.of fun n again => ?_) (fun _ _ _ _ _ _ _=>trivial) (fun s hI=>Ev.of fun n again => ?_)
  ·have hi:=AN hx;have hf:=hc.frm f (yA hx);by_cases hi0:i=0
   ·subst hi0;simp only [IV,Oj,vv,vf,wK,hx,Frame.enc,(show ((0:Nat):Int)<c.frames.length by omega),(show ¬f.arr<0 by omega),(show ¬(2199023255552:Int)<f.arr by omega),(show ¬f.num<0 by omega),(show ¬c.sent≤f.num by omega),(show ¬(0:Int)<((0:Nat):Int) by omega),AT (show 0<4611686018427387904 by omega),Rd.AR]
   ·have hp:c.frames[i-1]? = some c.frames[i-1]:=zO (by omega);have hs:=List.pairwise_iff_getElem.1 hc.srt (i-1) i (by omega) hi (by omega);rw [zO hi] at hx;have hx2:=Option.some.inj hx;rw [hx2] at hs;rw [← zO hi] at hx;simp only [IV,Oj,vv,vf,wK,hx,hp,Frame.enc,(show (i:Int)<c.frames.length by omega),(show ¬f.arr<0 by omega),(show ¬(2199023255552:Int)<f.arr by omega),(show ¬f.num<0 by omega),(show ¬c.sent≤f.num by omega),(show (0:Int)<(i:Int) by omega),AT (show i<4611686018427387904 by omega),Hj (show i<4611686018427387904 by omega) (by omega),(show ¬f.arr<(c.frames[i-1]).arr by omega),Rd.AR]
  ·simp only [IV,vv,vf,wK,wE]
theorem s69 (r:Int) (hr:1≤r∧r≤1048576):AK C 69 [tI r] [tI r,.sl 10 [],tI 0,tI 0,tI 0]:=by refine AK.of (fun n=>e69 n _) ?_;refine (s95 r).mono fun n h => ?_;simp only [h,vv,vf,hr,and_self]
theorem s158 (c:BI) (hc:Bn c) (f:Frame) (rest:List Frame) (hf:c.frames=f::rest) :
  AK C 158 c.enc [tI c.rng,.sl 10 (rest.map Frame.enc),tI c.sent,tI c.lost,tI f.arr,tI f.num,tI f.seg.kind,tI f.seg.ses,tI f.seg.ser,tI f.seg.off,tI f.seg.tot,.bool f.seg.chk,.str f.seg.data,.sl 2 (f.seg.claims.map Span.enc),tI 0]:=by
 refine AK.of (fun n=>e158 n _ _ _ _) ?_;have hlen:=hc.len;rw [hf] at hlen;simp only [zW] at hlen;refine ((s143 c hc).and (Rm (rest.map Frame.enc) (by simp;omega))).mono fun n h => ?_;obtain ⟨h1,h2⟩:=h;have e1:take rest.length (List.map Frame.enc rest)=List.map Frame.enc rest:=vD (by simp);simp only [BI.enc,hf,xN,Frame.enc] at h1;simp only [hf,xN,Frame.enc,h1,vv,vf,wK,bne_self_eq_false,(show (((rest.length+1:Nat):Int)==0)=false by simp;omega),zM,(show (0:Int)≤1 by omega),(show (1:Int)≤((rest.length+1:Nat):Int) by omega),List.take_succ_cons,wS,e1,h2]
def Ja (at_ num:Int) (ser:Seg) (fs:List Frame) (d:Int):List Frame:=GX (fun x=>decide (x.arr>at_+d)) ⟨at_+d,num,ser⟩ fs
def Mb (at_ num:Int) (ser:Seg) (ds:List Int) (fs:List Frame):List Frame:=ds.foldl (Ja at_ num ser) fs
def JZ (c:BI) (ds:List Int):Int:=if c.rng∈ds then 0 else 1
def CT (c:BI) (at_:Int) (ser:Seg) (ds:List Int):BI:=⟨c.rng,Mb at_ c.sent ser ds c.frames,c.sent+1,c.lost+JZ c ds⟩
theorem KW (at_ num:Int) (ser:Seg) (fs:List Frame) (d:Int):(Ja at_ num ser fs d).length=fs.length+1:=SS _ _ _
theorem SR {at_ num:Int} {ser:Seg} {fs:List Frame} {d:Int} (h:fs.Pairwise fun a b=>a.arr≤b.arr):(Ja at_ num ser fs d).Pairwise fun a b=>a.arr≤b.arr:=by
 unfold Ja;refine JK h (fun x _ hg => ?_) (fun x _ hg => ?_) (fun x _ y _ hr hg => ?_)
 ·simp only [decide_eq_true_eq] at hg;simp only;omega
 ·simp only [decide_eq_false_iff_not] at hg;simp only;omega
 ·simp only [decide_eq_true_eq] at *;omega
theorem Se {fs:List Frame} (t:Int) (h:fs.Pairwise fun a b=>a.arr≤b.arr):Down (fun x:Frame=>decide (x.arr≤t)) fs:=by
 intro i j x y hij hx hy hlt;rcases yL i j with hl|hl
 ·have h1:=AN hx;have h2:=AN hy;have:=List.pairwise_iff_getElem.1 h i j h1 h2 hl;rw [zO h1] at hx;rw [zO h2] at hy;cases hx;cases hy;simp only [decide_eq_true_eq] at *;omega
 ·obtain rfl:i=j:=by omega
  rw [hx] at hy;cases hy;exact hlt
theorem s156 (c:BI) (hc:Bn c) (at_:Int) (ser:Seg) (ha:0≤at_∧at_≤1099511627776) (ds:List Int) (hd:∀d∈ds,c.rng≤d∧d≤2*c.rng) (hl:c.frames.length+ds.length≤10000) :
  AK C 156 (c.enc++[tI at_,tI ser.kind,tI ser.ses,tI ser.ser,tI ser.off,tI ser.tot,.bool ser.chk,.str ser.data,.sl 2 (ser.claims.map Span.enc),.sl 1 (ds.map Aw)]) ((CT c at_ ser ds).enc++[tI 0]):=by
 refine AK.of (fun n=>e156 n _ _ _ _ _ _ _ _ _ _ _ _ _ _) ?_;have h1:=hc.rng;have hsent:=hc.sent;have hlost:=hc.lost;have hw2:w64 (2*c.rng)=2*c.rng:=AM (by omega) (by omega);refine Ev.rw (T' := ?TT) (s143 c hc) (fun n h => ?g1) ?g2
 case g1=>
  simp only [BI.enc] at h;simp only [h,vv,vf,bne_self_eq_false,(show ¬at_<0 by omega),(show ¬(1099511627776:Int)<at_ by omega)];rfl
 case g2=>
  refine AZ (fun (r:List Tree)=>r) ds (fun i (_:Unit)=>(([.t (tI i)],[.box [.t (tI c.rng),.t (.sl 10 (c.frames.map Frame.enc)),.t (tI c.sent),.t (tI c.lost)],.row false 0 10 [],.box [.t (tI 0),.sref 1 0 0 0,.t (tI 0),.t (tI 0)]]):List AV×Heap)) (fun _ _ _ =>.next ()) (fun _=>(CT c at_ ser ds).enc++[tI 0]) (fun _ _=>True) () rfl trivial (CL (fun _ _=>()) (fun _=>(CT c at_ ser ds).enc++[tI 0]) 0 ds ())
   (fun i s d hx hI=>Ev.of fun n again => ?_) (fun _ _ _ _ _ _ _=>trivial) (fun s hI => ?_)
  ·have hi:=AN hx;have hdd:=hd d (yA hx);simp only [UN,Zd,RL,vv,vf,wK,hx,Aw,(show (i:Int)<ds.length by omega),(show ¬d<c.rng by omega),hw2,(show ¬2*c.rng<d by omega),AT (show i<4611686018427387904 by omega),Rd.AR]
  ·have hwl:w64 ((c.frames.length:Int)+(ds.length:Int))=((c.frames.length+ds.length:Nat):Int):=by rw [AM (by omega) (by omega)];omega
   simp only [UN,Zc,RL,Vt,vv,vf,reduceCtorEq,wK,wE,(show ¬(0:Int)≤ -1 by omega),hwl,(show ¬(10000:Int)<((c.frames.length+ds.length:Nat):Int) by omega)];refine Pk (Ev.rw (T' := ?TT2) (Rm (c.frames.map Frame.enc) (by simp;omega)) (fun n h => ?g3) ?g4)
   case g3=>
    simp only [h,vv];rfl
   case g4=>
    refine AZ (fun (fs:List Frame)=>(⟨c.rng,fs,c.sent+1,c.lost+JZ c ds⟩:BI).enc++[tI 0]) ds (fun i (s:Nat×List Frame)=>(([.t (tI i)],[.box [.t (tI c.rng),.t (.sl 10 (c.frames.map Frame.enc)),.t (tI c.sent),.t (tI c.lost)],.row false 0 10 [],.box [.t (tI 0),.sref 1 0 0 0,.t (tI 0),.t (tI 0)],.row false s.1 10 (s.2.map Frame.enc),.row false 0 10 [],.box [.sref 3 s.1 0 s.2.length]]):List AV×Heap))
     (fun _ s d =>.next (s.1+1,Ja at_ c.sent ser s.2 d)) (fun s=>s.2) (fun i s=>s.2.Pairwise (fun a b=>a.arr≤b.arr)∧s.2.length=c.frames.length+i) (0,c.frames) (by simp) ⟨hc.srt,by simp⟩ ?_
     (fun i s d hx hI => ?_) (fun i s d s' hx hI hs' => ?_) (fun s hI => ?_)
    ·rw [CL];have:∀(ds:List Int) (s:Nat×List Frame),(ds.foldl (fun (s:Nat×List Frame) d=>(s.1+1,Ja at_ c.sent ser s.2 d)) s).2=Mb at_ c.sent ser ds s.2:=by
      intro ds
      induction ds with
      |nil=>intro s;rfl
      |cons d ds ih=>intro s;exact ih _
     exact this ds (0,c.frames)
    ·have hi:=AN hx;have hdd:=hd d (yA hx);obtain ⟨v,fs⟩:=s;obtain ⟨hsr,hfl⟩:=hI;simp only at hsr hfl;have hwd:w64 (at_+d)=at_+d:=AM (by omega) (by omega);have hins:Ja at_ c.sent ser fs d=fs.take (fs.countP fun x=>decide (x.arr≤at_+d))++⟨at_+d,c.sent,ser⟩::fs.drop (fs.countP fun x=>decide (x.arr≤at_+d)):=by
      unfold Ja;rw [VK];obtain ⟨h1,h2⟩:=MP (Se (at_+d) hsr);rw [h1,h2];have hf:(fun x:Frame => !decide (x.arr>at_+d))=fun x=>decide (x.arr≤at_+d):=by funext x;rw [Bool.eq_iff_iff];simp
      rw [hf]
     have key:=Yy (R:=List Tree) (Z:=List AV×Heap→Option (List Tree))
      (B:=fun n z p again=>RE n at_ [tI d] (fun p32=>UZ n z (([.t (tI i)],[.box [.t (tI c.rng),.t (.sl 10 (c.frames.map Frame.enc)),.t (tI c.sent),.t (tI c.lost)],.row false 0 10 [],.box [.t (tI 0),.sref 1 0 0 0,.t (tI 0),.t (tI 0)],.row false v 10 (fs.map Frame.enc),.row false 0 10 [],.box [.sref 3 v 0 fs.length]]):List AV×Heap) at_ [tI d] ser.kind ser.ses ser.ser ser.off ser.tot ser.chk ser.data (ser.claims.map Span.enc) p32) p again)
      (fun z (k:Nat)=>z ([.t (tI ((i+1:Nat):Int))],[.box [.t (tI c.rng),.t (.sl 10 (c.frames.map Frame.enc)),.t (tI c.sent),.t (tI c.lost)],.row false 0 10 [],.box [.t (tI 0),.sref 1 0 0 0,.t (tI 0),.t (tI 0)],.row false (v+1) 10 (((fs.map Frame.enc).take k++[(⟨at_+d,c.sent,ser⟩:Frame).enc])++(fs.map Frame.enc).drop k),.row false 0 10 [],.box [.sref 3 (v+1) 0 (fs.length+1)]]))
      (fun x:Frame=>decide (x.arr≤at_+d)) fs id (fun s=>(([.t (tI s.1),.t (tI s.2)],[.box [.t (tI c.rng),.t (.sl 10 (c.frames.map Frame.enc)),.t (tI c.sent),.t (tI c.lost)],.row false 0 10 [],.box [.t (tI 0),.sref 1 0 0 0,.t (tI 0),.t (tI 0)],.row false v 10 (fs.map Frame.enc),.row false 0 10 [],.box [.sref 3 v 0 fs.length],.box []]):List AV×Heap)) (Se _ hsr) rfl
      (fun s a1 a2 a3=>Ev.of fun n z again=>by
       obtain ⟨a,b⟩:=s;simp only at a1 a2 a3;by_cases hab:a<b
       ·have hm:fs[(a+b) / 2]? = some fs[(a+b) / 2]:=zO (by omega);simp only [RE,Zb,vv,vf,wK,halfU a b (by omega),hm,Frame.enc,(show (a:Int)<(b:Int) by omega),Lk,if_pos hab,(show (((a+b) / 2:Nat):Int)<(fs.length:Int) by omega),AT (show (a+b) / 2<4611686018427387904 by omega),hwd];by_cases hx:(fs[(a+b) / 2]).arr≤at_+d
        ·simp only [hx,(show ¬at_+d<(fs[(a+b) / 2]).arr by omega),vv,Rd.AR]
        ·simp only [hx,(show at_+d<(fs[(a+b) / 2]).arr by omega),vv,Rd.AR]
       ·obtain rfl:a=b:=by omega
        simp only [RE,UZ,vv,vf,wK,wE,Lk,Nat.lt_irrefl,Rd.Aj,id,hwd,Frame.enc,AT (show i<4611686018427387904 by omega),(show fs.length+1≤1073741824 by omega),(show (a:Int)≤(fs.length:Int) by omega)])
     have hkl:fs.countP (fun x:Frame=>decide (x.arr≤at_+d))≤fs.length:=List.countP_le_length;refine key.mono fun n h again => ?_;have h:=h again;simp only [RD,vv,vf,reduceCtorEq,wK,hx,Aw,(show (i:Int)<ds.length by omega),Rd.AR];refine h.trans ?_;simp only [id];have hil:=KW at_ c.sent ser fs d;rw [hil,hins];simp [Frame.enc,map_take,wZ]
    ·have hi:=AN hx;simp only [Rd.next.injEq] at hs';subst hs';exact ⟨SR hI.1,by rw [KW,hI.2];omega⟩
    ·obtain ⟨v,fs⟩:=s;simp only at hI;refine (s174 ds c.rng (by omega)).mono fun n h again => ?_;have e1:take fs.length (List.map Frame.enc fs)=List.map Frame.enc fs:=vD (by simp);have w1:w64 (c.sent+1)=c.sent+1:=AM (by omega) (by omega);have w2:w64 (c.lost+1)=c.lost+1:=AM (by omega) (by omega);by_cases hm:c.rng∈ds
     ·simp only [RD,vv,vf,reduceCtorEq,wK,wE,h,hm,e1,w1,w2,JZ,BI.enc];simp
     ·simp only [RD,vv,vf,reduceCtorEq,wK,wE,h,hm,e1,w1,w2,JZ,BI.enc];simp
end Ab
namespace Ab
open Go
def Ax (c:BI):Option Int:=c.frames.head?.map (·.arr)
def DU:Option Int→List Tree
 |none=>[tI 0,.bool false]
 |some t=>[tI t,.bool true]
theorem Hy (c:BI) (hc:Bn c):AK C 122 c.enc (DU (Ax c)):=by
 refine AK.of (fun n=>e122 n _ _ _ _) ?_;refine (s143 c hc).mono fun n h => ?_;cases hf:c.frames with
 |nil=>
  simp only [BI.enc,hf,vA] at h;simp only [hf,vA,h,vv,vf,bne_self_eq_false,(show (((0:Nat):Int)==0)=true from rfl),Ax,head?_nil,DU]
 |cons f rest=>
  simp only [BI.enc,hf,xN,Frame.enc] at h;simp only [hf,xN,Frame.enc,h,vv,vf,bne_self_eq_false,(show (((rest.length+1:Nat):Int)==0)=false by simp;omega),zM,Frame.enc,Ax,head?_cons,DU]
theorem s75 (a:Int):AK C 75 [tI a] [.bool (decide (1≤a∧a≤1048576))]:=by refine AK.of (fun n=>e75 n _) (Ev.of fun n => ?_);simp only [Ff,vv];congr 3;rw [Bool.eq_iff_iff];split<;>simp<;>omega
theorem s49 (r:Int) (hr:1≤r∧r≤1048576):AK C 49 [tI r] [tI r,.sl 10 [],tI 0,tI 0,tI 0]:=by refine AK.of (fun n=>e49 n _) ?_;refine (s75 r).mono fun n h => ?_;simp only [h,vv,vf,hr,and_self]
theorem s128 (a b:Int) (ha : -9223372036854775808≤a∧a≤9223372036854775807) (hb:1≤b∧b≤1048576):AK C 128 [tI a,tI b] [tI (a / b),tI (a % b)]:=by
 refine AK.of (fun n=>e128 n _ _) (Ev.of fun n => ?_);have hb0:¬b=0:=by omega
 have hb1:(0:Int)<b:=by omega
 have hq : -9223372036854775808≤a / b∧a / b≤9223372036854775807:=by
  constructor
  ·rw [Int.le_ediv_iff_mul_le hb1];have : -9223372036854775808*b≤ -9223372036854775808*1:=Int.mul_le_mul_of_nonpos_left (by omega) (by omega);omega
  ·have:a / b≤if 0≤a then a else 0:=by
    split
    ·exact Int.ediv_le_self b (by omega)
    ·have:=Int.ediv_lt_of_lt_mul hb1 (show a<0*b by omega);omega
   split at this<;>omega
 have hm:=wQ a hb0;have hml:=wP a hb1;have hdm:=Int.mul_ediv_add_emod a b;have ht:tmod a b=if 0≤a∨a % b=0 then a % b else a % b-b:=by
  rw [Int.tmod_eq_emod];have:(↑b.natAbs:Int)=b:=by omega
  have hdv:b∣a↔a % b=0:=Int.dvd_iff_emod_eq_zero;simp only [hdv];split<;>omega
 have htd:tdiv a b=if 0≤a∨a % b=0 then a / b else a / b+1:=by rw [Int.tdiv_eq_ediv];have hdv:b∣a↔a % b=0:=Int.dvd_iff_emod_eq_zero;have hs:b.sign=1:=Int.sign_eq_one_of_pos hb1;simp only [hdv,hs];split<;>omega
 by_cases h:0≤a∨a % b=0
 ·simp only [ht,htd,h,if_true,vv,hb0,(show ¬a % b<0 by omega),AM (show -9223372036854775808≤a / b by omega) (by omega)]
 ·have hneg:a / b<0:=Int.ediv_lt_of_lt_mul hb1 (by omega);simp only [ht,htd,h,if_false,vv,hb0,(show a % b-b<0 by omega)];rw [AM (x:=a / b+1) (by omega) (by omega),AM (x:=a / b+1-1) (by omega) (by omega),AM (by omega) (by omega)];simp
theorem s104 (n r:Int) (hn : -9223372036854775808≤n∧n≤9223372036854775807) (hr:1≤r∧r≤1048576):AK C 104 [tI n,tI r] [.sl 1 ((BL n r).map Aw),tI 0]:=by
 refine AK.of (fun n=>e104 n _ _) ?_;have hm:=wQ (n / 8) (show r≠0 by omega);have hml:=wP (n / 8) (show 0<r by omega);have hw:w64 (w64 (r+1)+n / 8 % r)=r+1+n / 8 % r:=by rw [AM (x:=r+1) (by omega) (by omega),AM (by omega) (by omega)]
 refine ((s75 r).and ((s128 n 8 hn (by omega)).and (s128 (n / 8) r (by omega) hr))).mono fun m h => ?_;obtain ⟨k1,k2,k3⟩:=h;have h8:0≤n % 8∧n % 8<8:=by omega
 simp only [k1,k2,k3,vv,vf,wK,hr,and_self,hw];unfold BL;rcases (show n % 8=0∨n % 8=1∨n % 8=2∨n % 8=3∨n % 8=4∨n % 8=5∨n % 8=6∨n % 8=7 by omega) with e|e|e|e|e|e|e|e<;>simp [e,AB,Aw]
theorem s101 (c:BI) (hc:Bn c):AK C 101 c.enc [tI 0]:=by
 refine AK.of (fun n=>e101 n _ _ _ _) ?_;have h1:=hc.rng;have h2:=hc.lost;have h3:=hc.len;refine Ev.rw (T' := ?TT) (s75 c.rng) (fun n h => ?g1) ?g2
 case g1=>
  simp only [h,vv,vf,h1,and_self,(show ¬c.sent<0 by omega),(show ¬c.lost<0 by omega),(show ¬c.sent<c.lost by omega),(show ¬(10000:Int)<(c.frames.length:Int) by omega)];rfl
 case g2=>
  refine AZ (fun (r:Int)=>[tI r]) c.frames (fun i (_:Unit)=>(([.t (tI i)],[]):List AV×Heap)) (fun _ _ _ =>.next ()) (fun _=>0) (fun _ _=>True) () rfl trivial (CL (fun _ _=>()) (fun _=>0) 0 _ ())
   (fun i s f hx hI=>Ev.of fun n again => ?_) (fun _ _ _ _ _ _ _=>trivial) (fun s hI=>Ev.of fun n again => ?_)
  ·have hi:=AN hx;have hf:=hc.frm f (yA hx);by_cases hi0:i=0
   ·subst hi0;simp only [IV,Oj,vv,vf,wK,hx,Frame.enc,(show ((0:Nat):Int)<c.frames.length by omega),(show ¬f.arr<0 by omega),(show ¬(2199023255552:Int)<f.arr by omega),(show ¬f.num<0 by omega),(show ¬c.sent≤f.num by omega),(show ¬(0:Int)<((0:Nat):Int) by omega),AT (show 0<4611686018427387904 by omega),Rd.AR]
   ·have hp:c.frames[i-1]? = some c.frames[i-1]:=zO (by omega);have hs:=List.pairwise_iff_getElem.1 hc.srt (i-1) i (by omega) hi (by omega);rw [zO hi] at hx;have hx2:=Option.some.inj hx;rw [hx2] at hs;rw [← zO hi] at hx;simp only [IV,Oj,vv,vf,wK,hx,hp,Frame.enc,(show (i:Int)<c.frames.length by omega),(show ¬f.arr<0 by omega),(show ¬(2199023255552:Int)<f.arr by omega),(show ¬f.num<0 by omega),(show ¬c.sent≤f.num by omega),(show (0:Int)<(i:Int) by omega),AT (show i<4611686018427387904 by omega),Hj (show i<4611686018427387904 by omega) (by omega),(show ¬f.arr<(c.frames[i-1]).arr by omega),Rd.AR]
  ·simp only [IV,vv,vf,wK,wE]
theorem s76 (c:BI) (hc:Bn c):AK C 76 c.enc (DU (Ax c)):=by
 refine AK.of (fun n=>e76 n _ _ _ _) ?_;refine (s101 c hc).mono fun n h => ?_;cases hf:c.frames with
 |nil=>
  simp only [BI.enc,hf,vA] at h;simp only [hf,vA,h,vv,vf,bne_self_eq_false,(show (((0:Nat):Int)==0)=true from rfl),Ax,head?_nil,DU]
 |cons f rest=>
  simp only [BI.enc,hf,xN,Frame.enc] at h;simp only [hf,xN,Frame.enc,h,vv,vf,bne_self_eq_false,(show (((rest.length+1:Nat):Int)==0)=false by simp;omega),zM,Frame.enc,Ax,head?_cons,DU]
theorem s80 (c:BI) (hc:Bn c) (f:Frame) (rest:List Frame) (hf:c.frames=f::rest) :
  AK C 80 c.enc [tI c.rng,.sl 10 (rest.map Frame.enc),tI c.sent,tI c.lost,tI f.arr,tI f.num,tI f.seg.kind,tI f.seg.ses,tI f.seg.ser,tI f.seg.off,tI f.seg.tot,.bool f.seg.chk,.str f.seg.data,.sl 2 (f.seg.claims.map Span.enc),tI 0]:=by
 refine AK.of (fun n=>e80 n _ _ _ _) ?_;have hlen:=hc.len;rw [hf] at hlen;simp only [zW] at hlen;refine (s101 c hc).mono fun n h1 => ?_;have e1:take rest.length (List.map Frame.enc rest)=List.map Frame.enc rest:=vD (by simp);simp only [BI.enc,hf,xN,Frame.enc] at h1;simp only [hf,xN,Frame.enc,h1,vv,vf,wK,bne_self_eq_false,(show (((rest.length+1:Nat):Int)==0)=false by simp;omega),zM,(show (0:Int)≤1 by omega),(show (1:Int)≤((rest.length+1:Nat):Int) by omega),List.take_succ_cons,wS,e1]
end Ab
namespace Ab
open Go
theorem s102 (l:List Frame) (b:Frame) (hl:l.length≤1000000):AK C 102 [.sl 10 (l.map Frame.enc),tI b.arr,tI b.num,tI b.seg.kind,tI b.seg.ses,tI b.seg.ser,tI b.seg.off,tI b.seg.tot,.bool b.seg.chk,.str b.seg.data,.sl 2 (b.seg.claims.map Span.enc)] [.sl 10 ((GX (fun x=>decide (x.arr>b.arr)) b l).map Frame.enc)]:=by
 refine AK.of (fun n=>e102 n _ _ _ _ _ _ _ _ _ _ _) ?_;refine AZ (fun (r:List Frame)=>[Tree.sl 10 (r.map Frame.enc)]) l (fun i (s:Nat×List Frame×Bool)=>(([.sref 0 s.1 0 s.2.1.length,.t (.bool s.2.2),.t (tI i)],[.row false s.1 10 (s.2.1.map Frame.enc)]):List AV×Heap)) (fun _ s x =>.next (EK (fun x=>decide (x.arr>b.arr)) b s x)) (LW b) (fun i s=>s.2.1.length≤2*i) (0,[],false) rfl (by simp) ?_
  (fun i s x hx hI => ?_) (fun i s x s' hx hI hs' => ?_) (fun s hI=>Ev.of fun n again => ?_)
 ·rw [CL,MI];rfl
 ·have hi:=AN hx;obtain ⟨v,out,d⟩:=s;simp only at hI;have ho:out.length+1≤1073741824:=by omega
  have ho2:out.length+1+1≤1073741824:=by omega
  have e1:take out.length (List.map Frame.enc out)=List.map Frame.enc out:=vD (by simp);have e2:∀y:List Tree,take (out.length+1) (List.map Frame.enc out++[y])=List.map Frame.enc out++[y]:=fun y=>vD (by simp);refine Ev.of fun n again => ?_;cases d with
  |true=>
   simp only [Lx,RP,RQ,vv,vf,reduceCtorEq,wK,hx,Frame.enc,(show (i:Int)<l.length by omega),AT (show i<4611686018427387904 by omega),Rd.AR,EK,ho,yI,e1,wY,xN,vA,zV,wM]
  |false=>
   by_cases h1:b.arr<x.arr
   ·simp only [Lx,RP,RQ,vv,vf,reduceCtorEq,wK,hx,Frame.enc,(show (i:Int)<l.length by omega),AT (show i<4611686018427387904 by omega),Rd.AR,EK,ho,ho2,yI,e1,e2,h1,zV,wY,xN,vA,append_assoc,xB,xX]
   ·simp only [Lx,RP,RQ,vv,vf,reduceCtorEq,wK,hx,Frame.enc,(show (i:Int)<l.length by omega),AT (show i<4611686018427387904 by omega),Rd.AR,EK,ho,yI,e1,e2,h1,zV,wY,xN,vA]
 ·simp only [Rd.next.injEq] at hs';subst hs';exact To _ b s x hI
 ·obtain ⟨v,out,d⟩:=s;simp only at hI;have ho:out.length+1≤1073741824:=by omega
  have e1:take out.length (List.map Frame.enc out)=List.map Frame.enc out:=vD (by simp);have e2:∀y:List Tree,take (out.length+1) (List.map Frame.enc out++[y])=List.map Frame.enc out++[y]:=fun y=>vD (by simp);cases d with
  |true=>simp only [Lx,vv,reduceCtorEq,wE,ho,LW,e1,wM]
  |false=>simp only [Lx,vv,reduceCtorEq,wE,ho,LW,e1,e2,yI,Frame.enc,wY,xN,vA]
def PX (r:Int) (s:Int) (d:Int):Int:=if d=r then 0 else s
theorem Nc (r:Int):∀(ds:List Int) (s:Int),ds.foldl (PX r) s=if r∈ds then 0 else s
 |[],s=>by simp
 |d::ds,s=>by
  rw [wU,Nc r ds];unfold PX;by_cases h:d=r
  ·subst h;simp
  ·have h':¬r=d:=fun e=>h e.symm;simp [h,h']
theorem s78 (c:BI) (hc:Bn c) (at_:Int) (ser:Seg) (ha:0≤at_∧at_≤1099511627776) (ds:List Int) (hd:∀d∈ds,c.rng≤d∧d≤2*c.rng) (hl:c.frames.length+ds.length≤10000) :
  AK C 78 (c.enc++[tI at_,tI ser.kind,tI ser.ses,tI ser.ser,tI ser.off,tI ser.tot,.bool ser.chk,.str ser.data,.sl 2 (ser.claims.map Span.enc),.sl 1 (ds.map Aw)]) ((CT c at_ ser ds).enc++[tI 0]):=by
 refine AK.of (fun n=>e78 n _ _ _ _ _ _ _ _ _ _ _ _ _ _) ?_;have h1:=hc.rng;have hsent:=hc.sent;have hlost:=hc.lost;have hw2:w64 (2*c.rng)=2*c.rng:=AM (by omega) (by omega);refine Ev.rw (T' := ?TT) (s101 c hc) (fun n h => ?g1) ?g2
 case g1=>
  simp only [BI.enc] at h;simp only [h,J78_5,vv,vf,wK,bne_self_eq_false,(show ¬at_<0 by omega),(show ¬(1099511627776:Int)<at_ by omega)];rfl
 case g2=>
  refine AZ (fun (r:List Tree)=>r) ds (fun i (s:Int)=>(([.t (tI s),.t (tI i)],[.box [.t (tI c.rng),.t (.sl 10 (c.frames.map Frame.enc)),.t (tI c.sent),.t (tI c.lost)],.box [.t (tI 0),.t (.sl 10 []),.t (tI 0),.t (tI 0)]]):List AV×Heap)) (fun _ s d =>.next (PX c.rng s d)) (fun _=>(CT c at_ ser ds).enc++[tI 0]) (fun i s=>s=(ds.take i).foldl (PX c.rng) 1) 1 rfl rfl (CL (PX c.rng) (fun _=>(CT c at_ ser ds).enc++[tI 0]) 0 ds 1)
   (fun i s d hx hI=>Ev.of fun n again => ?_) (fun i s d s' hx hI hs' => ?_) (fun s hI => ?_)
  ·have hi:=AN hx;have hdd:=hd d (yA hx);simp only [ZK,J78_2,J78_1,vv,vf,wK,hx,Aw,(show (i:Int)<ds.length by omega),(show ¬d<c.rng by omega),hw2,(show ¬2*c.rng<d by omega),AT (show i<4611686018427387904 by omega),Rd.AR,PX,beq_iff_eq];by_cases hq:d=c.rng<;>simp [hq,AB]
  ·cases hs';rw [Jy hx,List.foldl_append,← hI];rfl
  ·have hwl:w64 ((c.frames.length:Int)+(ds.length:Int))=((c.frames.length+ds.length:Nat):Int):=by rw [AM (by omega) (by omega)];omega
   rw [vC,Nc] at hI;have hs:0≤s∧s≤1:=by rw [hI];split<;>omega
   have hS:=hI;simp only [ZK,vv,vf,wK,wE,hwl,(show ¬(10000:Int)<((c.frames.length+ds.length:Nat):Int) by omega)];refine Pk (AZ (fun (fs:List Frame)=>(⟨c.rng,fs,c.sent+1,c.lost+JZ c ds⟩:BI).enc++[tI 0]) ds (fun i (fs:List Frame)=>(([.t (tI i)],[.box [.t (tI c.rng),.t (.sl 10 (fs.map Frame.enc)),.t (tI c.sent),.t (tI c.lost)],.box [.t (tI 0),.t (.sl 10 []),.t (tI 0),.t (tI 0)]]):List AV×Heap))
     (fun _ fs d =>.next (Ja at_ c.sent ser fs d)) (fun s=>s) (fun i fs=>fs.length=c.frames.length+i) c.frames rfl (by simp) ?_
     (fun i fs d hx hI => ?_) (fun i fs d s' hx hI hs' => ?_) (fun fs hI=>Ev.of fun n again => ?_))
   ·rw [CL];rfl
   ·have hi:=AN hx;have hdd:=hd d (yA hx);have hwd:w64 (at_+d)=at_+d:=AM (by omega) (by omega);refine (s102 fs ⟨at_+d,c.sent,ser⟩ (by omega)).mono fun n h again => ?_;simp only at h;simp only [ZL,vv,vf,wK,hx,Aw,(show (i:Int)<ds.length by omega),hwd,h,AT (show i<4611686018427387904 by omega),Rd.AR,Ja]
   ·have hi:=AN hx;cases hs';rw [KW,hI];omega
   ·have w1:w64 (c.sent+1)=c.sent+1:=AM (by omega) (by omega);have w2:w64 (c.lost+s)=c.lost+s:=AM (by omega) (by omega);simp only [ZL,vv,vf,wK,wE,w1,w2,JZ,BI.enc,xB,xX];rw [hS]
end Ab
namespace Ab
open Go
inductive Sh where
 |i
 |k (k:IntKind)
 |b
 |s
 |l (n:Nat)
 |r (o:Nat)
 |c (v:AV)
def rcell (p:List AV×Heap) (k j:Nat):Sh→AV
 | .i =>.t (tI (cI p k j))
 | .k q =>.t (.int q (cI p k j))
 | .b =>.t (.bool (cB p k j))
 | .s =>.t (.str (cS p k j))
 | .l n =>.t (.sl n (cL p k j))
 | .r o =>.sref o (AL p k j) (AP p k j) (AJ p k j)
 | .c v=>v
def rb (p:List AV×Heap) (k:Nat):Nat→List Sh→List AV
 |_,[]=>[]
 |j,x::l=>rcell p k j x::rb p k (j+1) l
inductive OSh where
 |row (z:Nat)
 |frz (z:Nat)
 |box (l:List Sh)
def robj (p:List AV×Heap) (k:Nat):OSh→AI
 | .row z =>.row false (AD p k) z (oEs p k)
 | .frz z =>.row true (AD p k) z (oEs p k)
 | .box l =>.box (rb p k 0 l)
def rh (p:List AV×Heap):Nat→List OSh→Heap
 |_,[]=>[]
 |k,s::l=>robj p k s::rh p (k+1) l
def upd {α:Type}:List α→List (Nat×α)→List α
 |l,[]=>l
 |l,(j,x)::c=>upd (l.set j x) c
noncomputable def Fk (C:Cfg) (pc:BN) (n:Nat) (ff:Nat→Rec) (S:List FuncId):Nat→Rec
 |0=>fun _ _ _ _=>none
 |d+1=>fun R r h K=>match r with
  | .fn g avs=>match S.contains g with
   |true=>ff (d+1) R (.fn g avs) h K
   |false=>Da C (Fk C pc n ff S d) pc n g avs h K
  | .yield i args=>NG C (Fk C pc n ff S d) pc n i args h K
noncomputable def fI (C:Cfg) (n:Nat):Nat→Rec:=inl C (pcx C (AA C n)) n
theorem Is (C:Cfg) (n:Nat) (S:List FuncId):∀d,Fk C (pcx C (AA C n)) n (fI C n) S d=inl C (pcx C (AA C n)) n d
 |0=>rfl
 |d+1=>by
  funext R r h K;cases r with
  |fn g avs=>
   show (match S.contains g with
    |true=>fI C n (d+1) R (.fn g avs) h K
    |false=>Da C (Fk C (pcx C (AA C n)) n (fI C n) S d) (pcx C (AA C n)) n g avs h K)=_
   cases S.contains g with
   |true=>rfl
   |false=>rw [Is C n S d];rfl
  |yield i args=>
   show NG C (Fk C (pcx C (AA C n)) n (fI C n) S d) (pcx C (AA C n)) n i args h K=_;rw [Is C n S d];rfl
theorem Ga (C:Cfg) (n:Nat) (S:List FuncId) (d:Nat) (R:Type) (g:FuncId) (avs:List AV) (h:Heap) (K:List AV→Heap→Option R) :
  fI C n (d+1) R (.fn g avs) h K=Da C (Fk C (pcx C (AA C n)) n (fI C n) S d) (pcx C (AA C n)) n g avs h K:=by
 rw [Is];rfl
theorem PJ (C:Cfg) (n:Nat) (S:List FuncId) (g:FuncId) (xs:List Tree):JG C (Fk C (pcx C (AA C n)) n (fI C n) S C.depth) (pcx C (AA C n)) n g xs=JG C (inl C (pcx C (AA C n)) n C.depth) (pcx C (AA C n)) n g xs:=by rw [Is]
theorem Ej (C:Cfg) (n:Nat) (g:FuncId) (xs:List Tree) (hg:g<OWN) (he:C.ext g xs=none):AA C (n+1) g xs=JG C (inl C (pcx C (AA C n)) n C.depth) (pcx C (AA C n)) n g xs:=by
 show (if g<OWN then _ else _)=_;rw [if_pos hg];show (match C.ext g xs with
  |some ys=>some ys
  |none=>JG C (inl C (pcx C (AA C n)) n C.depth) (pcx C (AA C n)) n g xs)=_
 rw [he]
end Ab
namespace Ab
open Go
def LX (l:List Span) (t:Int):Bool:=decide (A4 l=0∧Ac t l)
theorem On (l:List Span) (t:Int):AK C 175 [.sl 2 (l.map Span.enc),tI t] [.bool (LX l t)]:=by
 refine AK.of (fun n=>e175 n _ _) ?_;unfold LX;by_cases hc:A4 l=0
 ·refine Ev.rw (T' := ?TT) (s67 l) (fun n h => ?g1) ?g2
  case g1=>
   simp only [h,vv,vf,hc,beq_self_eq_true];rfl
  case g2=>
   have hlen:=BA hc;have hm:decide (A4 l=0∧Ac t l)=l.any (fun x=>decide (x.fro≤t∧t<x.to)):=by rw [Bool.eq_iff_iff,decide_eq_true_eq];simp only [hc,true_and];exact Na t l
   have key:=AZ (R:=List Tree) (B:=fun n p again=>Lv n (l.map Span.enc) (fun p7=>L0 n (fun p5=>IY n (fun p2=>Jn n p2) p5) p7) t p again) (fun (q:Bool)=>[Tree.bool q]) l (fun i (_:Unit)=>(([.t (tI i)],[]):List AV×Heap))
    (fun _ _ x=>if (fun x:Span=>decide (x.fro≤t∧t<x.to)) x=true then .done true else .next ()) (fun _=>false) (fun _ _=>True) () (s:=(([.t (tI 0)],[]):List AV×Heap)) rfl trivial (ND (fun x:Span=>decide (x.fro≤t∧t<x.to)) 0 l)
    (fun i s x hx hI=>Ev.of fun n again => ?_) (fun _ _ _ _ _ _ _=>trivial) (fun s hI=>Ev.of fun n again => ?_)
   ·refine key.mono fun n h => ?_;rw [hm];simpa only [hc,true_and] using h
   ·have hi:=AN hx;by_cases h1:x.fro≤t
    ·by_cases h2:t<x.to
     ·simp only [Lv,Oh,L0,IY,Jn,vv,vf,wK,hx,Span.enc,(show (i:Int)<l.length by omega),h1,h2,Rd.Aj,and_self]
     ·simp only [Lv,Oh,L0,IY,Jn,vv,vf,wK,hx,Span.enc,(show (i:Int)<l.length by omega),h1,h2,Rd.AR,and_self,AT (show i<4611686018427387904 by omega)]
    ·simp only [Lv,Oh,L0,IY,Jn,vv,vf,wK,hx,Span.enc,(show (i:Int)<l.length by omega),h1,Rd.AR,AT (show i<4611686018427387904 by omega)]
   ·simp only [Lv,Oh,L0,IY,Jn,vv,vf,wK,wE,(show ¬(0:Int)≤ -1 by omega)]
 ·refine (s67 l).mono fun n h => ?_;have hc':(A4 l==0)=false:=by simpa using hc
  simp only [h,Jn,vv,vf,hc,hc']
structure Gh where
 v0:Nat
 v4:Nat
 v5:Nat
 pre:List (List Tree)
abbrev E0:AI :=.box []
structure Ses where
 dat:BI
 rep:BI
 picks:List Int
 limit:Int
 dark:List Span
 entered:Int
 dist:Int
 sent:List Out
 told:List Out
 now:Int
 snd:Snd
 rcv:Rcv
 pend:List Out
 rcvd:Bool
 arrive:Int
 kno:Bool
 knoAt:Int
def C9 (s:Ses) (R:Int):List Int×Int:=
 if LX s.dark s.now=true then ([],s.dist)
 else if s.picks=[] then ([R],s.dist)
 else if (BL (s.picks.getD (s.entered % s.picks.length).toNat 0) R).head? = some R then (BL (s.picks.getD (s.entered % s.picks.length).toNat 0) R,s.dist)
 else if 0≤s.limit∧s.limit≤s.dist then ([R],s.dist)
 else (BL (s.picks.getD (s.entered % s.picks.length).toNat 0) R,s.dist+1)
def EU (s:Ses) (x:Seg):Ses:={s with dat:=CT s.dat s.now x (C9 s s.dat.rng).1,dist:=(C9 s s.dat.rng).2,entered:=s.entered+1,sent:=s.sent++[⟨s.now,x⟩]}
def CM (s:Ses) (x:Seg):Ses:={s with rep:=CT s.rep s.now x (C9 s s.rep.rng).1,dist:=(C9 s s.rep.rng).2,entered:=s.entered+1,told:=s.told++[⟨s.now,x⟩]}
def txS:Nat→Ses→Ses
 |0,s=>s
 |k+1,s=>match s.pend with
  |[]=>s
  |o::l=>if o.at_=s.now then txS k {EU s o.seg with pend:=l} else s
def BC (s:Ses):Ses:={s with dat:={s.dat with frames:=s.dat.frames.tail}}
def CC (s:Ses):Ses:={s with rep:={s.rep with frames:=s.rep.frames.tail}}
def rxH (s:Ses) (x:Seg):Ses:=(DX s.rcv x).2.1.foldl CM {s with rcv:=(DX s.rcv x).1}
def rxF (s:Ses):Ses:=if s.rcvd=false∧Ay s.rcv=true then {s with rcvd:=true,arrive:=s.now} else s
def rxX (s:Ses) (x:Seg):Ses:=rxF (rxH s x)
def rxS:Nat→Ses→Ses
 |0,s=>s
 |k+1,s=>match s.dat.frames with
  |[]=>s
  |f::_=>if f.arr=s.now then rxS k (rxX (BC s) f.seg) else s
def lsF (s:Ses):Ses:=if s.kno=false∧s.snd.st=2 then {s with kno:=true,knoAt:=s.now} else s
def lsX (s:Ses) (x:Seg):Ses:=if s.now<s.snd.busy then s else lsF {s with snd:=(Av s.snd s.now x).1,pend:=s.pend++(Av s.snd s.now x).2.1}
def lsS:Nat→Ses→Ses
 |0,s=>s
 |k+1,s=>match s.rep.frames with
  |[]=>s
  |f::_=>if f.arr=s.now then lsS k (lsX (CC s) f.seg) else s
def exS (s:Ses):Ses:=if s.snd.st=1∧s.snd.due=s.now then {s with snd:=(Bt s.snd s.now).1,pend:=s.pend++(Bt s.snd s.now).2.1} else s
def C1:Option Int→Option Int→Option Int
 |none,o=>o
 |some a,none=>some a
 |some a,some b=>some (if b<a then b else a)
def nxS (s:Ses):Option Int:=C1 (C1 (C1 (s.pend.head?.map (·.at_)) (Ax s.dat)) (Ax s.rep)) (if s.snd.st=1 then some s.snd.due else none)
def ph1 (s:Ses) (t:Int):Ses:=txS s.pend.length {s with now:=t}
def ph2 (s:Ses) (t:Int):Ses:=rxS (ph1 s t).dat.frames.length (ph1 s t)
def ph3 (s:Ses) (t:Int):Ses:=lsS (ph2 s t).rep.frames.length (ph2 s t)
def stS (s:Ses) (t:Int):Ses:=exS (ph3 s t)
def Gp:Nat→Ses→Ses
 |0,s=>s
 |k+1,s=>match nxS s with
  |none=>s
  |some t=>Gp k (stS s t)
end Ab
namespace Ab
open Go
theorem vv2 :
  (∀(e:List AV) (h:Heap) (k:Nat),vI (e,h) k=intOf (AE (List.getD e k AV.undef)))∧
  (∀(e:List AV) (h:Heap) (k:Nat),vB (e,h) k=BF (AE (List.getD e k AV.undef)))∧
  (∀(e:List AV) (h:Heap) (k:Nat),vS (e,h) k=strOf (AE (List.getD e k AV.undef)))∧
  (∀(e:List AV) (h:Heap) (k:Nat),vL (e,h) k=B8 (AE (List.getD e k AV.undef)))∧
  (∀(e:List AV) (h:Heap) (k:Nat),A0 (e,h) k=E3 (List.getD e k AV.undef))∧
  (∀(e:List AV) (h:Heap) (k:Nat),Bu (e,h) k=HS (List.getD e k AV.undef))∧
  (∀(e:List AV) (h:Heap) (k:Nat),Ah (e,h) k=HT (List.getD e k AV.undef))∧
  (∀(x:Tree) (l:List Tree),gI (x::l) (0:Nat)=intOf x)∧
  (∀(x:Tree) (l:List Tree) (k:Nat),gI (x::l) (k+(1:Nat))=gI l k)∧
  (∀(x:Tree) (l:List Tree),gB (x::l) (0:Nat)=BF x)∧
  (∀(x:Tree) (l:List Tree) (k:Nat),gB (x::l) (k+(1:Nat))=gB l k)∧
  (∀(x:Tree) (l:List Tree),gS (x::l) (0:Nat)=strOf x)∧
  (∀(x:Tree) (l:List Tree) (k:Nat),gS (x::l) (k+(1:Nat))=gS l k)∧
  (∀(x:Tree) (l:List Tree),gL (x::l) (0:Nat)=B8 x)∧
  (∀(x:Tree) (l:List Tree) (k:Nat),gL (x::l) (k+(1:Nat))=gL l k)∧
  (∀(x:Tree) (l:List Tree),okI (x::l) (0:Nat)=(FD IntKind.i64 x=true))∧
  (∀(x:Tree) (l:List Tree) (k:Nat),okI (x::l) (k+(1:Nat))=okI l k)∧
  (∀(x:Tree) (l:List Tree),okB (x::l) (0:Nat)=(Dz x=true))∧
  (∀(x:Tree) (l:List Tree) (k:Nat),okB (x::l) (k+(1:Nat))=okB l k)∧
  (∀(x:Tree) (l:List Tree),okS (x::l) (0:Nat)=(FB x=true))∧
  (∀(x:Tree) (l:List Tree) (k:Nat),okS (x::l) (k+(1:Nat))=okS l k)∧
  (∀(z:Nat) (x:Tree) (l:List Tree),okL z (x::l) (0:Nat)=(FI z x=true))∧
  (∀(z:Nat) (x:Tree) (l:List Tree) (k:Nat),okL z (x::l) (k+(1:Nat))=okL z l k)∧
  (∀(k:IntKind) (n:Int),FD k (Tree.int k n)=true)∧
  (∀(b:Bool),Dz (Tree.bool b)=true)∧
  (∀(b:ByteArray),FB (Tree.str b)=true)∧
  (∀(z:Nat) (es:List (List Tree)),FI z (Tree.sl z es)=true)∧
  (∀(k:IntKind) (n:Int),intOf (Tree.int k n)=n)∧
  (∀(b:Bool),BF (Tree.bool b)=b)∧
  (∀(b:ByteArray),strOf (Tree.str b)=b)∧
  (∀(z:Nat) (es:List (List Tree)),B8 (Tree.sl z es)=es)∧
  (∀(x:Tree),AE (AV.t x)=x)∧
  (∀(i v o l:Nat),E3 (AV.sref i v o l)=v)∧
  (∀(i v k o:Nat),E3 (AV.rptr i v k o)=v)∧
  (∀(i v o l:Nat),HS (AV.sref i v o l)=o)∧
  (∀(i v o l:Nat),HT (AV.sref i v o l)=l)∧
  (∀(f:Bool) (v z:Nat) (es:List (List Tree)),AI.ver (AI.row f v z es)=v)∧
  (∀(f:Bool) (v z:Nat) (es:List (List Tree)),Be (AI.row f v z es)=es)∧
  (∀(cs:List AV) (j:Nat),cellOf (AI.box cs) j=List.getD cs j AV.undef)∧
  (∀(e:List AV) (h:Heap) (k j:Nat),aI (e,h) k j=intOf (AE (List.getD (Dj (List.getD e k AV.undef)) j AV.undef)))∧
  (∀(e:List AV) (h:Heap) (k j:Nat),aB (e,h) k j=BF (AE (List.getD (Dj (List.getD e k AV.undef)) j AV.undef)))∧
  (∀(e:List AV) (h:Heap) (k j:Nat),aS (e,h) k j=strOf (AE (List.getD (Dj (List.getD e k AV.undef)) j AV.undef)))∧
  (∀(e:List AV) (h:Heap) (k j:Nat),aL (e,h) k j=B8 (AE (List.getD (Dj (List.getD e k AV.undef)) j AV.undef)))∧
  (∀(cs:List AV),Dj (AV.agg cs)=cs)∧
  (∀{R S:Type} (J:S→Option R) (f:(S→Option R)→Option R),join J f=f J)∧
  (∀{α:Type} {x:α} {xs:List α} {d:α},List.getD (x::xs) (0:Nat) d=x)∧
  (∀{α:Type} {x:α} {xs:List α} {n:Nat} {d:α},List.getD (x::xs) (n+(1:Nat)) d=List.getD xs n d)∧
  (∀(h:Decidable True),@decide True h=true)∧
  (∀(h:Decidable False),@decide False h=false)∧
  (∀{R:Type} {i:Decidable True} (a b:Option R),@cnd R True i a b=a)∧
  (∀{R:Type} {i:Decidable False} (a b:Option R),@cnd R False i a b=b)∧
  (∀(p:Prop),(True∧p)=p)∧
  (∀(p:Prop),(p∧True)=p)∧
  (∀(p:Prop),(False∧p)=False)∧
  (∀(p:Prop),(p∧False)=False)∧
  (∀{α β:Type} (a:α) (f:α→Option β),Option.bind (some a) f=f a)∧
  (∀{α β:Type} (f:α→Option β),Option.bind (none:Option α) f=none)∧
  (∀{α:Type} {a:α} {l:List α},length (a::l)=length l+(1:Nat))∧
  (∀{α:Type},length ([]:List α)=(0:Nat))∧
  (∀{α β:Type} {l:List α} (f:α→β),length (List.map f l)=length l)∧
  (∀{α β:Type} {f:α→β} {l:List α} {i:Nat},(List.map f l)[i]? = Option.map f l[i]?)∧
  (∀{α β:Type} (a:α) (f:α→β),Option.map f (some a)=some (f a))∧
  (∀{α β:Type} (f:α→β),Option.map f (none:Option α)=none)∧
  (∀(n:Nat),toNat (n:Int)=n)∧
  (∀{α:Type} (a:α),(a=a)=True)∧
  (∀{α:Type} {x:Decidable True} (t e:α),@ite α True x t e=t)∧
  (∀{α:Type} {x:Decidable False} (t e:α),@ite α False x t e=e)∧
  (∀(n:Nat),(0:Nat)+n=n)∧
  (∀(n:Nat),(0:Int)≤(n:Int))∧
  (∀{α:Type} {l:List α},drop (0:Nat) l=l)∧
  (∀(p:Prop),(p∨True)=True)∧
  (∀(p:Prop),(True∨p)=True)∧
  (∀(p:Prop),(p∨False)=p)∧
  (∀(p:Prop),(False∨p)=p)∧
  ((!true)=false)∧
  ((!false)=true)∧
  ((false=true)=False)∧
  (∀{p:Prop} [inst:Decidable p],(decide p=true)=p)∧
  (∀{α:Type} [inst:LE α] {x y:α},x≥y↔y≤x)∧
  (∀{α:Type} [inst:LT α] {x y:α},x>y↔y<x):=
 ⟨@vI_mk,@O4,@vS_mk,@vL_mk,@Ut,@Uu,@Uv,@VU,@VV,@VW,@VX,@VQ,@VR,@VS,@VT,@SA,@SB,@SC,@SD,@R6,@R7,@R8,@R9,@Nl,@KV,@Nk,@SO,@intOf_int,@MR,@PC,@Uo,@Rc,@M3,@M4,@M5,@M6,@Ju,@II,@N9,@aI_mk,@aB_mk,@aS_mk,@aL_mk,@P9,@join_eq,@List.getD_cons_zero,@List.getD_cons_succ,@decide_true,@decide_false,@Sm,@Pu,@true_and,@and_true,@false_and,@and_false,@Option.bind_some,@bind_none,@zW,@zX,@wX,@getElem?_map,@map_some,@map_none,@toNat_natCast,@eq_self,@if_true,@if_false,@yR,@Int.natCast_nonneg,@wT,@or_true,@true_or,@or_false,@false_or,@Bool.not_true,@Bool.not_false,@zD,@decide_eq_true_eq,@ge_iff_le,@gt_iff_lt⟩
theorem GZ (n r:Int):(BL n r).length≤2:=by
 unfold BL
 repeat' split
 all_goals simp
theorem GY {n r d:Int} (hr:1≤r) (h:d∈BL n r):r≤d∧d≤2*r:=by
 have hm:=wQ (n / 8) (show r≠0 by omega);have hml:=wP (n / 8) (show 0<r by omega);unfold BL at h
 repeat' split at h
 all_goals simp at h
 all_goals omega
def DN (x:Seg):List AV:=[.t (tI x.kind),.t (tI x.ses),.t (tI x.ser),.t (tI x.off),.t (tI x.tot),.t (.bool x.chk),.t (.str x.data),.t (.sl 2 (x.claims.map Span.enc))]
structure EOk (s:Ses) (c:BI):Prop where
 gc:Bn c
 now:0≤s.now∧s.now≤1099511627776
 pk:∀p∈s.picks,-9223372036854775808≤p∧p≤9223372036854775807
 ent:0≤s.entered∧s.entered<10000
 len:c.frames.length+2≤10000
 dst:0≤s.dist∧s.dist≤10000
 sl:s.sent.length<1000000∧s.told.length<1000000
 pl:s.picks.length≤1000
theorem Ey (s:Ses) (x:Seg) (ds:List Int) (u:Int) (h:C9 s s.dat.rng=(ds,u)):EU s x={s with dat:=CT s.dat s.now x ds,dist:=u,entered:=s.entered+1,sent:=s.sent++[⟨s.now,x⟩]}:=by unfold EU;rw [h]
theorem Ew (s:Ses) (x:Seg) (ds:List Int) (u:Int) (h:C9 s s.rep.rng=(ds,u)):CM s x={s with rep:=CT s.rep s.now x ds,dist:=u,entered:=s.entered+1,told:=s.told++[⟨s.now,x⟩]}:=by unfold CM;rw [h]
def boO (o:Option Int):Heap:=[.box [.t (tI (o.getD 0))],.box [.t (.bool o.isSome)]]
def DO (o:Option Int):List AV:=[.t (tI (o.getD 0)),.t (.bool o.isSome)]
def exG (g:Gh) (s:Ses):Gh:=if s.snd.st=1∧s.snd.due=s.now then {g with v0:=g.v0+1,pre:=[]} else g
def Jt:Seg:=⟨0,0,0,0,0,false,ByteArray.mk #[],[]⟩
def DJ (s:Ses):Ses×Option Seg:=
 match s.rep.frames with
 |[]=>(s,none)
 |f::_=>if f.arr=s.now then (CC s,some f.seg) else (s,none)
def DK (s:Ses):Ses×Option Seg:=
 match s.dat.frames with
 |[]=>(s,none)
 |f::_=>if f.arr=s.now then (BC s,some f.seg) else (s,none)
theorem Fl {c:BI} (hc:Bn c):Bn {c with frames:=c.frames.tail}:=by
 refine ⟨hc.rng,hc.lost,hc.sent,?_,fun f hf=>hc.frm f (List.mem_of_mem_tail hf),?_⟩
 ·have:=hc.len;simp;omega
 ·have:=hc.srt;cases h:c.frames with
  |nil=>simp
  |cons f l=>rw [h] at this;exact (wC.1 this).2
def gP (g:Gh):Gh:={g with v0:=g.v0+1,pre:=[]}
def lsG (g:Gh) (s:Ses):Gh:=if s.now<s.snd.busy then g else gP g
structure LsP (P:Ses→Prop):Prop where
 rep:∀s,P s→Bn s.rep
 ack:∀s,P s→s.snd.acked.length≤100∧s.pend.length≤1000000
 DX:∀s f l,P s→s.rep.frames=f::l→f.arr=s.now→(f.seg.claims.length≤100∨1000<f.seg.claims.length)∧(¬s.now<s.snd.busy→(Av s.snd s.now f.seg).2.2=0∧(Av s.snd s.now f.seg).2.1.length≤1000000)∧P (lsX (CC s) f.seg)
def lsT:Nat→Gh×Ses→Gh×Ses
 |0,q=>q
 |k+1,q=>match q.2.rep.frames with
  |[]=>q
  |f::_=>if f.arr=q.2.now then lsT k (lsG q.1 (CC q.2),lsX (CC q.2) f.seg) else q
theorem Qj:∀(k:Nat) (q:Gh×Ses),(lsT k q).2=lsS k q.2
 |0,q=>rfl
 |k+1,q=>by
  unfold lsT lsS;cases q.2.rep.frames with
  |nil=>rfl
  |cons f l=>
   simp only;split
   ·exact Qj k _
   ·rfl
theorem Gz (s:Ses) (x:Seg):(lsX s x).rep=s.rep:=by
 unfold lsX lsF;split
 ·rfl
 ·split<;>rfl
theorem VF (s:Ses) (x:Seg):(lsX s x).now=s.now:=by
 unfold lsX lsF;split
 ·rfl
 ·split<;>rfl
structure LS where
 g:Gh
 s:Ses
 v:Nat
 o:Option Seg
def LS.step (q:LS):Rd LS (Gh×Ses):=match q.o with
 |none =>.done (q.g,q.s)
 |some x =>.next ⟨lsG q.g q.s,(DJ (lsX q.s x)).1,q.v+1,(DJ (lsX q.s x)).2⟩
def LS.res (q:LS):Gh×Ses:=match q.o with
 |none=>(q.g,q.s)
 |some x=>lsT q.s.rep.frames.length (lsG q.g q.s,lsX q.s x)
def LS.inv (P:Ses→Prop) (q:LS):Prop:=Bn q.s.rep∧match q.o with
 |none=>True
 |some x=>(q.s.snd.acked.length≤100∧q.s.pend.length≤1000000)∧(x.claims.length≤100∨1000<x.claims.length)∧(¬q.s.now<q.s.snd.busy→(Av q.s.snd q.s.now x).2.2=0∧(Av q.s.snd q.s.now x).2.1.length≤1000000)∧P (lsX q.s x)
theorem LS.take {P:Ses→Prop} (hP:LsP P) {s:Ses} (h:P s) (g:Gh) (v:Nat):LS.inv P ⟨g,(DJ s).1,v,(DJ s).2⟩∧LS.res ⟨g,(DJ s).1,v,(DJ s).2⟩=lsT s.rep.frames.length (g,s):=by
 have hg:=hP.rep s h;unfold DJ;cases hf:s.rep.frames with
 |nil=>exact ⟨⟨hg,trivial⟩,by simp [LS.res,lsT]⟩
 |cons f l=>
  simp only;split
  ·rename_i ha;obtain ⟨h1,h2,h3⟩:=hP.DX s f l h hf ha;refine ⟨⟨Fl hg,hP.ack s h,h1,h2,h3⟩,?_⟩;simp only [LS.res,zW,lsT,hf,ha,if_true];have:(CC s).rep.frames.length=l.length:=by simp [CC,hf]
   rw [this]
  ·rename_i ha;refine ⟨⟨hg,trivial⟩,?_⟩;simp only [LS.res,zW,lsT,hf,ha,if_false]
theorem LS.sound {P:Ses→Prop} (hP:LsP P) (q q':LS) (h:q.inv P) (hs:q.step = .next q'):q'.inv P∧(q'.s.rep.frames.length+(if q'.o.isSome then 1 else 0)<q.s.rep.frames.length+(if q.o.isSome then 1 else 0)):=by
 obtain ⟨g,s,v,o⟩:=q;unfold LS.step at hs;cases o with
 |none=>cases hs
 |some x=>
  cases hs;refine ⟨(LS.take hP h.2.2.2.2 _ _).1,?_⟩;simp only [DJ,Gz];cases hf:s.rep.frames with
  |nil=>simp [Gz,hf]
  |cons f l=>
   simp only;split
   ·simp [CC,Gz,hf]
   ·simp [Gz,hf]
theorem LS.fin {P:Ses→Prop} (hP:LsP P) (q:LS) (h:q.inv P):q.res=q.step.fin LS.res:=by
 obtain ⟨g,s,v,o⟩:=q;cases o with
 |none=>rfl
 |some x=>
  simp only [LS.step,Rd.fin];rw [(LS.take hP h.2.2.2.2 _ _).2,Gz];rfl
end Ab
namespace Ab
open Go
structure Bud (k:Nat) (s:Ses):Prop where
 gd:Bn s.dat
 gr:Bn s.rep
 now:0≤s.now∧(0<k→s.now≤1099511627776)
 pk:∀p∈s.picks,-9223372036854775808≤p∧p≤9223372036854775807
 ent:0≤s.entered∧s.entered+k≤5000
 ld:(s.dat.frames.length:Int)≤2*s.entered
 lr:(s.rep.frames.length:Int)≤2*s.entered
 sd:s.dat.sent≤s.entered
 sr:s.rep.sent≤s.entered
 dst:0≤s.dist∧s.dist≤s.entered
 sl:(s.sent.length:Int)≤s.entered
 tl:(s.told.length:Int)≤s.entered
 pl:s.picks.length≤1000
theorem Bud.eD {k:Nat} {s:Ses} (h:Bud (k+1) s):EOk s s.dat:=by have:=h.ent;have:=h.ld;have:=h.dst;have:=h.sl;have:=h.tl;exact ⟨h.gd,⟨h.now.1,h.now.2 (by omega)⟩,h.pk,by omega,by omega,by omega,by omega,h.pl⟩
theorem Bud.eR {k:Nat} {s:Ses} (h:Bud (k+1) s):EOk s s.rep:=by have:=h.ent;have:=h.lr;have:=h.dst;have:=h.sl;have:=h.tl;exact ⟨h.gr,⟨h.now.1,h.now.2 (by omega)⟩,h.pk,by omega,by omega,by omega,by omega,h.pl⟩
theorem GV (t num:Int) (x:Seg):∀(ds:List Int) (fs:List Frame),(Mb t num x ds fs).length=fs.length+ds.length
 |[],fs=>by simp [Mb]
 |d::ds,fs=>by show (Mb t num x ds (Ja t num x fs d)).length=_;rw [GV t num x ds,KW];simp;omega
theorem KC {t num:Int} {x:Seg} {f:Frame}:∀{ds:List Int} {fs:List Frame},f∈Mb t num x ds fs↔f∈fs∨∃d∈ds,f=⟨t+d,num,x⟩
 |[],fs=>by simp [Mb]
 |d::ds,fs=>by
  show f∈Mb t num x ds (Ja t num x fs d)↔_;rw [KC];unfold Ja;rw [Np];simp only [xP,exists_eq_or_imp];constructor
  ·rintro ((h|h)|h)
   ·exact .inr (.inl h)
   ·exact .inl h
   ·exact .inr (.inr h)
  ·rintro (h|h|h)
   ·exact .inl (.inr h)
   ·exact .inl (.inl h)
   ·exact .inr h
theorem R2 {t num:Int} {x:Seg}:∀{ds:List Int} {fs:List Frame},fs.Pairwise (fun a b=>a.arr≤b.arr)→(Mb t num x ds fs).Pairwise fun a b=>a.arr≤b.arr
 |[],fs,h=>h
 |d::ds,fs,h=>R2 (ds:=ds) (SR h)
theorem Qw {s:Ses} {R:Int} (hR:1≤R):(∀d∈(C9 s R).1,R≤d∧d≤2*R)∧(C9 s R).1.length≤2∧s.dist≤(C9 s R).2∧(C9 s R).2≤s.dist+1:=by
 unfold C9;split
 ·simp;omega
 ·split
  ·simp;omega
  ·split
   ·exact ⟨fun d hd=>GY hR hd,GZ _ _,by simp,by simp only;omega⟩
   ·split
    ·simp;omega
    ·exact ⟨fun d hd=>GY hR hd,GZ _ _,by simp only;omega,by simp⟩
theorem Nu {c:BI} {t:Int} {x:Seg} {ds:List Int} (hc:Bn c) (ht:0≤t∧t≤1099511627776) (hd:∀d∈ds,c.rng≤d∧d≤2*c.rng) (hl:c.frames.length+ds.length≤10000) (hs:c.sent<1152921504606846976):Bn (CT c t x ds):=by
 have h1:=hc.rng;have h2:=hc.lost;refine ⟨h1,?_,?_,?_,fun f hf => ?_,R2 hc.srt⟩
 ·simp only [CT,JZ];split<;>omega
 ·simp only [CT];omega
 ·simp only [CT,GV];exact hl
 ·simp only [CT] at hf;rcases KC.1 hf with hf|⟨d,hdd,rfl⟩
  ·have:=hc.frm f hf;simp only [CT];omega
  ·have:=hd d hdd;simp only [CT];omega
theorem Bud.EU {k:Nat} {s:Ses} (h:Bud (k+1) s) (x:Seg):Bud k (EU s x):=by
 have he:=h.eD;have hr:=h.gd.rng;obtain ⟨d1,d2,d3,d4⟩:=Qw (s:=s) hr.1;have:=h.ent;have:=h.ld;have:=h.lr;have:=h.dst;have:=h.sl;have:=h.tl;have:=h.sd;have:=h.sr;refine ⟨Nu h.gd he.now d1 (by omega) (by omega),h.gr,⟨h.now.1,fun _=>h.now.2 (by omega)⟩,h.pk,?_,?_,?_,?_,?_,?_,?_,?_,h.pl⟩
 all_goals simp only [Ab.EU,CT,GV,zV,zW,zX]
 all_goals omega
theorem Bud.CM {k:Nat} {s:Ses} (h:Bud (k+1) s) (x:Seg):Bud k (CM s x):=by
 have he:=h.eR;have hr:=h.gr.rng;obtain ⟨d1,d2,d3,d4⟩:=Qw (s:=s) hr.1;have:=h.ent;have:=h.ld;have:=h.lr;have:=h.dst;have:=h.sl;have:=h.tl;have:=h.sd;have:=h.sr;refine ⟨h.gd,Nu h.gr he.now d1 (by omega) (by omega),⟨h.now.1,fun _=>h.now.2 (by omega)⟩,h.pk,?_,?_,?_,?_,?_,?_,?_,?_,h.pl⟩
 all_goals simp only [Ab.CM,CT,GV,zV,zW,zX]
 all_goals omega
theorem Bud.BC {k:Nat} {s:Ses} (h:Bud k s):Bud k (BC s):={h with gd:=Fl h.gd,ld:=by have:=h.ld;simp only [Ab.BC,List.length_tail];omega}
theorem Bud.of {k:Nat} {s s':Ses} (h:Bud k s) (h1:s'.dat=s.dat) (h2:s'.rep=s.rep) (h3:s'.now=s.now) (h4:s'.picks=s.picks) (h5:s'.entered=s.entered) (h6:s'.dist=s.dist) (h7:s'.sent=s.sent) (h8:s'.told=s.told):Bud k s':=
 ⟨h1 ▸ h.gd,h2 ▸ h.gr,h3 ▸ h.now,h4 ▸ h.pk,h5 ▸ h.ent,by rw [h1,h5];exact h.ld,by rw [h2,h5];exact h.lr,by rw [h1,h5];exact h.sd,by rw [h2,h5];exact h.sr,by rw [h6,h5];exact h.dst,by rw [h7,h5];exact h.sl,by rw [h8,h5];exact h.tl,h4 ▸ h.pl⟩
theorem La:∀(l:List Seg) (s:Ses),(l.foldl CM s).dat=s.dat
 |[],s=>rfl
 |x::l,s=>by rw [wU,La l];rfl
theorem LZ:∀(l:List Seg) (s:Ses),(l.foldl CM s).now=s.now
 |[],s=>rfl
 |x::l,s=>by rw [wU,LZ l];rfl
def rxG (g:Gh) (s:Ses) (x:Seg):Gh:={g with v5:=g.v5+(DX s.rcv x).2.1.length}
structure RxP (P:Ses→Prop):Prop where
 dat:∀s,P s→Bn s.dat
 DX:∀s f l,P s→s.dat.frames=f::l→f.arr=s.now→(DX s.rcv f.seg).2.2=0∧Bud (DX s.rcv f.seg).2.1.length (BC s)∧P (rxX (BC s) f.seg)
def rxT:Nat→Gh×Ses→Gh×Ses
 |0,q=>q
 |k+1,q=>match q.2.dat.frames with
  |[]=>q
  |f::_=>if f.arr=q.2.now then rxT k (rxG q.1 (BC q.2) f.seg,rxX (BC q.2) f.seg) else q
theorem QT:∀(k:Nat) (q:Gh×Ses),(rxT k q).2=rxS k q.2
 |0,q=>rfl
 |k+1,q=>by
  unfold rxT rxS;cases q.2.dat.frames with
  |nil=>rfl
  |cons f l=>
   simp only;split
   ·exact QT k _
   ·rfl
theorem Es (s:Ses) (x:Seg):(rxX s x).dat=s.dat:=by
 unfold rxX rxF rxH;split
 ·show (List.foldl CM _ _).dat=_;rw [La]
 ·rw [La]
theorem J6 (s:Ses) (x:Seg):(rxX s x).now=s.now:=by
 unfold rxX rxF rxH;split
 ·show (List.foldl CM _ _).now=_;rw [LZ]
 ·rw [LZ]
structure RS where
 g:Gh
 s:Ses
 v:Nat
 o:Option Seg
def RS.step (q:RS):Rd RS (Gh×Ses):=match q.o with
 |none =>.done (q.g,q.s)
 |some x =>.next ⟨rxG q.g q.s x,(DK (rxX q.s x)).1,q.v+1,(DK (rxX q.s x)).2⟩
def RS.res (q:RS):Gh×Ses:=match q.o with
 |none=>(q.g,q.s)
 |some x=>rxT q.s.dat.frames.length (rxG q.g q.s x,rxX q.s x)
def RS.inv (P:Ses→Prop) (q:RS):Prop:=Bn q.s.dat∧match q.o with
 |none=>True
 |some x=>(Ab.DX q.s.rcv x).2.2=0∧Bud (Ab.DX q.s.rcv x).2.1.length q.s∧P (rxX q.s x)
theorem RS.take {P:Ses→Prop} (hP:RxP P) {s:Ses} (h:P s) (g:Gh) (v:Nat):RS.inv P ⟨g,(DK s).1,v,(DK s).2⟩∧RS.res ⟨g,(DK s).1,v,(DK s).2⟩=rxT s.dat.frames.length (g,s):=by
 have hg:=hP.dat s h;unfold DK;cases hf:s.dat.frames with
 |nil=>exact ⟨⟨hg,trivial⟩,by simp [RS.res,rxT]⟩
 |cons f l=>
  simp only;split
  ·rename_i ha;obtain ⟨h1,h2,h3⟩:=hP.DX s f l h hf ha;refine ⟨⟨Fl hg,h1,h2,h3⟩,?_⟩;simp only [RS.res,zW,rxT,hf,ha,if_true];have:(BC s).dat.frames.length=l.length:=by simp [BC,hf]
   rw [this]
  ·rename_i ha;refine ⟨⟨hg,trivial⟩,?_⟩;simp only [RS.res,zW,rxT,hf,ha,if_false]
theorem RS.sound {P:Ses→Prop} (hP:RxP P) (q q':RS) (h:q.inv P) (hs:q.step = .next q'):q'.inv P∧(q'.s.dat.frames.length+(if q'.o.isSome then 1 else 0)<q.s.dat.frames.length+(if q.o.isSome then 1 else 0)):=by
 obtain ⟨g,s,v,o⟩:=q;unfold RS.step at hs;cases o with
 |none=>cases hs
 |some x=>
  cases hs;refine ⟨(RS.take hP h.2.2.2 _ _).1,?_⟩;simp only [DK,Es];cases hf:s.dat.frames with
  |nil=>simp [Es,hf]
  |cons f l=>
   simp only;split
   ·simp [BC,Es,hf]
   ·simp [Es,hf]
theorem RS.fin {P:Ses→Prop} (hP:RxP P) (q:RS) (h:q.inv P):q.res=q.step.fin RS.res:=by
 obtain ⟨g,s,v,o⟩:=q;cases o with
 |none=>rfl
 |some x=>
  simp only [RS.step,Rd.fin];rw [(RS.take hP h.2.2.2 _ _).2,Es];rfl
def E8 (r:Rcv):AI :=.box [.t (tI r.ses),.t (tI r.tot),.t (.sl 2 (r.known.map Span.enc)),.t (.str r.data)]
theorem Tt:∀(l:List Seg) (g:Gh) (s:Ses),l.foldl (fun (q:Gh×Ses) y=>({q.1 with v5:=q.1.v5+1},CM q.2 y)) (g,s)=({g with v5:=g.v5+l.length},l.foldl CM s)
 |[],g,s=>rfl
 |x::l,g,s=>by rw [wU,Tt l];simp only [zW,wU,yE,add_comm 1]
def txT:Nat→Gh×Ses→Gh×Ses
 |0,q=>q
 |k+1,q=>match q.2.pend with
  |[]=>q
  |o::l=>if o.at_=q.2.now then txT k ({q.1 with v4:=q.1.v4+1,pre:=q.1.pre++[o.enc]},{EU q.2 o.seg with pend:=l}) else q
theorem QM:∀(k:Nat) (q:Gh×Ses),(txT k q).2=txS k q.2
 |0,q=>rfl
 |k+1,q=>by
  unfold txT txS;cases q.2.pend with
  |nil=>rfl
  |cons o l=>
   simp only;split
   ·exact QM k _
   ·rfl
structure ExOk (s:Ses):Prop where
 ent:s.entered<10000
 ack:s.snd.acked.length≤100
 pl:s.pend.length≤1000000
 w:s.snd.st=1→s.snd.due=s.now→(Bt s.snd s.now).2.2=0∧(Bt s.snd s.now).2.1.length≤1000000
structure UF (W P1 P2:Ses→Prop) (μ:Ses→Nat):Prop where
 rx:RxP P1
 ls:LsP P2
 nx:∀s,W s→s.entered<10000∧Bn s.dat∧Bn s.rep
 tx:∀s t,W s→nxS s=some t→Bud s.pend.length {s with now:=t}
 p1:∀s t,W s→nxS s=some t→P1 (ph1 s t)
 p2:∀s t,W s→nxS s=some t→P2 (ph2 s t)
 ex:∀s t,W s→nxS s=some t→ExOk (ph3 s t)
 st:∀s t,W s→nxS s=some t→W (stS s t)∧μ (stS s t)<μ s
def g1T (g:Gh) (s:Ses) (t:Int):Gh:=(txT s.pend.length (g,{s with now:=t})).1
def g2T (g:Gh) (s:Ses) (t:Int):Gh:=(rxT (ph1 s t).dat.frames.length (g1T g s t,ph1 s t)).1
def g3T (g:Gh) (s:Ses) (t:Int):Gh:=(lsT (ph2 s t).rep.frames.length (g2T g s t,ph2 s t)).1
def stT (q:Gh×Ses) (t:Int):Gh×Ses:=(exG (g3T q.1 q.2 t) (ph3 q.2 t),stS q.2 t)
def rnT:Nat→Gh×Ses→Gh×Ses
 |0,q=>q
 |k+1,q=>match nxS q.2 with
  |none=>q
  |some t=>rnT k (stT q t)
theorem QU:∀(k:Nat) (q:Gh×Ses),(rnT k q).2=Gp k q.2
 |0,q=>rfl
 |k+1,q=>by
  unfold rnT Gp;cases nxS q.2 with
  |none=>rfl
  |some t=>exact QU k _
theorem Gq {W P1 P2:Ses→Prop} {μ:Ses→Nat} (hR:UF W P1 P2 μ):∀(k:Nat) (q:Gh×Ses),W q.2→μ q.2≤k→rnT k q=rnT (μ q.2) q
 |0,q,h,hk=>by rw [show μ q.2=0 by omega]
 |k+1,q,h,hk=>by
  cases hn:nxS q.2 with
  |none=>
   cases hm:μ q.2 with
   |zero=>simp only [rnT,hn]
   |succ m=>simp only [rnT,hn]
  |some t=>
   obtain ⟨h1,h2⟩:=hR.st q.2 t h hn;cases hm:μ q.2 with
   |zero=>omega
   |succ m=>
    simp only [rnT,hn];rw [Gq hR k (stT q t) h1 (by simp only [stT];omega),← Gq hR m (stT q t) h1 (by simp only [stT];omega)]
theorem Ti {S R:Type} (B:S→(S→Option R)→Option R) (s0 s1 s2 s3 s4:S) (r:Option R) (n:Nat) (hn:5≤n) (h0:∀ag,B s0 ag=ag s1) (h1:∀ag,B s1 ag=ag s2) (h2:∀ag,B s2 ag=ag s3) (h3:∀ag,B s3 ag=ag s4) (h4:∀ag,B s4 ag=r):AH B n s0=r:=by
 obtain ⟨m,rfl⟩:∃m,n=m+5:=⟨n-5,by omega⟩
 show B s0 (AH B (m+4))=r;rw [h0];show B s1 (AH B (m+3))=r;rw [h1];show B s2 (AH B (m+2))=r;rw [h2];show B s3 (AH B (m+1))=r;rw [h3];show B s4 (AH B m)=r;rw [h4]
def ini (c:Con) (b e:Int) (d:ByteArray) (ps:List Int) (lim:Int) (dk:List Span):Ses:=
 ⟨⟨c.rng,[],0,0⟩,⟨c.rng,[],0,0⟩,ps,lim,dk,0,0,[],[],0,(Ak c 0 d b e).1,⟨0,-1,[],ByteArray.mk #[]⟩,(Ak c 0 d b e).2.1,false,0,false,0⟩
def Hg (c:Con) (b e:Int) (d:ByteArray) (ps:List Int) (lim:Int) (dk:List Span):Int:=
 if 1000<ps.length then 4 else if lim < -1 then 2 else if A4 dk≠0 then 1 else (Ak c 0 d b e).2.2
def Gc (c:Con) (b e:Int) (d:ByteArray) (ps:List Int) (lim:Int) (dk:List Span):List Tree:=c.enc++[tI b,tI e,.str d,.sl 1 (ps.map Aw),tI lim,.sl 2 (dk.map Span.enc)]
theorem K9 {c:Con} {b e:Int} {d:ByteArray} (h:(Ak c 0 d b e).2.2=0):1≤c.rng∧c.rng≤1048576:=by
 unfold Ak at h;split at h
 ·simp [Ba] at h
 ·rename_i h1;have h1:Dn c=0:=by simpa using h1
  obtain ⟨c1,c2⟩:=Dh h1;unfold Ft at c1;omega
def Ow (s:Ses):List Tree:=[.sl 9 (s.sent.map Out.enc),.sl 9 (s.told.map Out.enc),tI 0]
def outT (s:Ses):List Tree:=[.bool s.rcvd,tI s.arrive,.bool s.kno,tI s.knoAt,tI s.snd.busy,tI s.entered,tI (s.dat.lost+s.rep.lost),tI 0]
end Ab
namespace Ab
open Go
theorem PM (r:Int):∀(l:List Seg) (t:Int),(Bl r t l).map Out.seg=l
 |[],t=>rfl
 |x::l,t=>by simp only [Bl,xN,PM r l]
theorem Q2 {s:Snd} (h:FU s=0) (hf:fits s=true):Fv s=0:=by unfold Fv;rw [if_neg (fun f=>f h),if_pos hf]
theorem VZ {s:Snd} (h:FU s=0):Fv (CF s)=0:=by refine Q2 h ?_;unfold fits CF;simp
theorem Up {s:Snd} {t ser:Int} (h:FU s=0) (hc:complete s=false) (ht:s.c.start≤t∧t≤s.fin) (hr:1≤ser∧ser≤1099511627776):Fv (BO s t ser)=0:=by
 refine Q2 ?_ ?_
 ·obtain ⟨c1,c2,c3⟩:=DF h;unfold Cq at c2;have a1:Cq (BO s t ser):=by unfold Cq BO;simp only;omega
  have a2:Mf (BO s t ser):=c3;have a0:Dn (BO s t ser).c=0:=c1;unfold FU;rw [if_neg (fun f=>f a0),if_neg (fun f=>f a1),if_neg (fun f=>f a2)]
 ·unfold fits;refine decide_eq_true (.inl ⟨rfl,hc,rfl⟩)
theorem done_ok {s:Snd} (h:FU s=0) (hc:complete s=true):Fv {s with due:=0,st:=2}=0:=by refine Q2 h ?_;unfold fits;exact decide_eq_true (.inr (.inl ⟨rfl,hc,rfl⟩))
end Ab
namespace Ab
open Go
theorem Fa (k:Nat):(Br k).length=k:=by simp [Br]
theorem Nw {l:List UInt8} {i:Nat} (h:l.length≤i):l.getD i 0=0:=by simp [List.getD,zP h]
theorem TK (k i:Nat):(Br k).getD i 0=0:=by
 by_cases h:i<k
 ·simp [Br,List.getD,h]
 ·exact Nw (by simp [Br];omega)
theorem SH {r:Rcv} {x:Seg} (h1:r.data.size≤x.tot.toNat) (h2:x.off.toNat+x.data.size≤x.tot.toNat):(Ck r x).length=x.tot.toNat:=by
 have l1:(Dq (Br x.tot.toNat) 0 (bl r.data)).length=x.tot.toNat:=by rw [DW _ _ _ (by rw [A3,Fa];omega),Fa]
 unfold Ck;rw [DW _ _ _ (by rw [A3,l1];omega),l1]
theorem SI {r:Rcv} {x:Seg} (h1:r.data.size≤x.tot.toNat) (h2:x.off.toNat+x.data.size≤x.tot.toNat) (i:Nat) :
  (Ck r x).getD i 0=if x.off.toNat≤i∧i<x.off.toNat+x.data.size then (bl x.data).getD (i-x.off.toNat) 0 else (bl r.data).getD i 0:=by
 have l1:(Dq (Br x.tot.toNat) 0 (bl r.data)).length=x.tot.toNat:=by rw [DW _ _ _ (by rw [A3,Fa];omega),Fa]
 unfold Ck;rw [J3 _ _ _ (by rw [A3,l1];omega),J3 _ _ _ (by rw [A3,Fa];omega),A3,A3];split
 ·rfl
 ·split
  ·rw [Nat.sub_zero]
  ·rw [TK,Nw (by rw [A3];omega)]
theorem VY {r:Rcv} {x:Seg} (hr:DE r=0) (hx:By x=0) (hs:DL r x=true):r.data.size≤x.tot.toNat∧x.off.toNat+x.data.size≤x.tot.toNat:=by obtain ⟨g1,g2,g3,g4,g5,g6,g7⟩:=Ct hx (Cs.1 hs).1;exact ⟨(size_le hr hx hs).1,by omega⟩
theorem YQ {x:Seg} {t:Int}:Ac t [sp x]↔x.off≤t∧t<x.off+x.data.size:=by simp only [Ac,or_false];rfl
theorem KO {r:Rcv} {x:Seg} (hs:DL r x=true) (t:Int):Ac t (CQ r x).known↔Ac t r.known∨(x.off≤t∧t<x.off+x.data.size):=by rw [← YQ];exact (Hk (Cs.1 hs).2.2.2.2).2.2.2.2 t
theorem SG {r:Rcv} {x:Seg} (hr:DE r=0) (hx:By x=0) (hs:DL r x=true) (i:Nat) :
  (bl (CQ r x).data).getD i 0=if x.off.toNat≤i∧i<x.off.toNat+x.data.size then (bl x.data).getD (i-x.off.toNat) 0 else (bl r.data).getD i 0:=by
 show (bl (mkB (Ck r x))).getD i 0=_;rw [MT];exact SI (VY hr hx hs).1 (VY hr hx hs).2 i
theorem WL {r:Rcv} {x:Seg} (hr:DE r=0) (hx:By x=0) (hs:DL r x=true):(CQ r x).data.size=x.tot.toNat:=by show (mkB (Ck r x)).size=_;rw [Il];exact SH (VY hr hx hs).1 (VY hr hx hs).2
theorem NX {r:Rcv} {x:Seg} (hr:DE r=0) (hx:By x=0) (hs:DL r x=true):DE (CQ r x)=0:=by
 obtain ⟨h1,h2,h3,h4,h5⟩:=Cs.1 hs;obtain ⟨g1,g2,g3,g4,g5,g6,g7⟩:=Ct hx h1;obtain ⟨c1,c2,c3,c4⟩:=Cf hr;obtain ⟨w1,w2⟩:=MD hr hx hs;obtain ⟨u1,u2,u3,u4,u5⟩:=Hk h5;have a1:O1 (CQ r x):=⟨c1.1,.inr ⟨g1,g2⟩⟩
 have a2:KnR (CQ r x):=by refine ⟨u4,⟨fun h=>(w2 h).elim,fun h => ?_⟩,(Bx u4).2 w1⟩;have:x.tot = -1:=h;omega
 have a3:((CQ r x).data.size:Int)=Hb (CQ r x).tot:=by rw [WL hr hx hs];show ((x.tot.toNat:Nat):Int)=Hb x.tot;unfold Hb;rw [if_neg (by omega)];omega
 have a4:OR (CQ r x):=by
  intro i hi hi0;rw [SG hr hx hs] at hi0;rw [KO hs];split at hi0
  ·right;omega
  ·left;refine c4 i ?_ hi0;rw [← A3];rcases yL i (bl r.data).length with h|h
   ·exact h
   ·exact (hi0 (Nw h)).elim
 unfold DE;rw [if_neg (not_not_intro a1),if_neg (not_not_intro a2),if_neg (not_not_intro a3),if_pos a4]
theorem Qn {r:Rcv} {x:Seg} (hr:DE r=0) (hx:By x=0):DX r x=if DL r x=true then (CQ r x,if x.chk=true then [B9 r x] else [],0) else (r,[],0):=by
 unfold DX;rw [if_neg (not_not_intro ⟨hr,hx⟩)];by_cases hs:DL r x=true
 ·rw [if_neg (by rw [hs];decide),if_pos hs]
 ·rw [if_pos (by simpa using hs),if_neg hs]
theorem Tr {r:Rcv} {x:Seg} (hr:DE r=0) (hx:By x=0):DE (DX r x).1=0:=by
 rw [Qn hr hx];split
 ·rename_i hs;exact NX hr hx hs
 ·exact hr
theorem Nj {r:Rcv} {x:Seg} (hr:DE r=0) (hx:By x=0) (hc:Ay r=true):Ay (DX r x).1=true:=by
 have hv:=Tr hr hx;unfold Ay at hc ⊢;rw [decide_eq_true_eq] at hc ⊢;refine ⟨hv,?_⟩;rw [Qn hr hx] at hv ⊢;split
 ·rename_i hs;rw [if_pos hs] at hv;obtain ⟨h1,h2,h3,h4,h5⟩:=Cs.1 hs;obtain ⟨g1,g2,g3,g4,g5,g6,g7⟩:=Ct hx h1;obtain ⟨c1,c2,c3,c4⟩:=Cf hr;obtain ⟨d1,d2,d3,d4⟩:=Cf hv;have ht:r.tot ≠ -1:=fun h=>by have:=c2.2.1.2 h;rw [this] at hc;cases hc.2
  have htt:x.tot=r.tot:=by rcases h3 with h|h;exact (ht h).elim;exact h
  show (CQ r x).known=[⟨0,x.tot⟩];refine Di ((Ag _).1 d2.1).2.1 (b' := -1) ⟨by show (-1:Int)<0;decide,by show (0:Int)<x.tot;omega,trivial⟩ fun t => ?_;rw [KO hs,hc.2];simp only [Ac,or_false];omega
 ·exact hc.2
end Ab
namespace Ab
open Go
def ES (D:ByteArray) (x:Seg):Prop:=By x=0∧x.kind=1∧x.ses=0∧x.tot=D.size∧∀i,i<x.data.size→(bl x.data).getD i 0=(bl D).getD (x.off.toNat+i) 0
def Cov (l:List Seg) (t:Int):Prop:=∃x∈l,x.off≤t∧t<x.off+x.data.size
def R0:Rcv:=⟨0,-1,[],ByteArray.mk #[]⟩
structure Hd (D:ByteArray) (r:Rcv) (l:List Seg):Prop where
 ok:DE r=0
 ses:r.ses=0
 tot:r.tot=if l=[] then -1 else (D.size:Int)
 mem:∀t,Ac t r.known↔Cov l t
 get:∀i:Nat,Cov l (i:Int)→(bl r.data).getD i 0=(bl D).getD i 0
theorem XQ (D:ByteArray):Hd D R0 []:=⟨by decide,rfl,rfl,fun t=>⟨fun h=>h.elim,fun ⟨x,h,_⟩=>by cases h⟩,fun i ⟨x,h,_⟩=>by cases h⟩
theorem Sl {l:List Seg} {x:Seg} {t:Int}:Cov (l++[x]) t↔Cov l t∨(x.off≤t∧t<x.off+x.data.size):=by
 unfold Cov;constructor
 ·rintro ⟨y,hy,h⟩
  rcases mem_append.1 hy with hy|hy
  ·exact .inl ⟨y,hy,h⟩
  ·simp only [xW] at hy;subst hy;exact .inr h
 ·rintro (⟨y,hy,h⟩|h)
  ·exact ⟨y,List.mem_append_left _ hy,h⟩
  ·exact ⟨x,by simp,h⟩
theorem Gu {D:ByteArray} {x:Seg} (hx:ES D x):0≤x.off∧1≤x.data.size∧x.off+x.data.size≤D.size∧x.data.size≤16:=by obtain ⟨g1,g2,g3,g4,g5,g6,g7⟩:=Ct hx.1 hx.2.1;have:=hx.2.2.2.1;omega
theorem cov_in {D:ByteArray} {l:List Seg} (hl:∀x∈l,ES D x) {t:Int} (h:Cov l t):0≤t∧t<D.size:=by obtain ⟨x,hx,h1,h2⟩:=h;have:=Gu (hl x hx);omega
theorem M0 {D:ByteArray} {r:Rcv} {l:List Seg} {x:Seg} (h:Hd D r l) (hl:∀x∈l,ES D x) (hx:ES D x) (hD:D.size≤900):DL r x=true:=by
 obtain ⟨c1,c2,c3,c4⟩:=Cf h.ok;obtain ⟨b1,b2,b3,b4⟩:=Gu hx;refine Cs.2 ⟨hx.2.1,by rw [hx.2.2.1,h.ses],?_,fun i hi hm => ?_,?_⟩
 ·rw [h.tot,hx.2.2.2.1];by_cases hn:l=[]
  ·left;rw [if_pos hn]
  ·right;rw [if_neg hn]
 ·have:=h.get (x.off.toNat+i) (by rw [show ((x.off.toNat+i:Nat):Int)=x.off+(i:Int) by omega];exact (h.mem _).1 hm);rw [this,hx.2.2.2.2 i hi]
 ·have hs:A4 [sp x]=0:=by
   rw [Ag];refine ⟨by simp,⟨?_,?_,trivial⟩,fun y hy => ?_⟩
   ·show -1152921504606846977<x.off;omega
   ·show x.off<x.off+x.data.size;omega
   ·simp only [xW] at hy;subst hy;show x.off+x.data.size≤_;omega
  obtain ⟨u1,u2⟩:=Jv ((Ag _).1 c2.1).2.1 ((Ag _).1 hs).2.1;have hin:∀t,Ac t (uni r.known [sp x])→0≤t∧t<D.size:=fun t m=>by
   rcases (u2 t).1 m with m|m
   ·exact cov_in hl ((h.mem t).1 m)
   ·rw [YQ] at m;omega
  have hw:=Gx u1 hin;have hlen:((uni r.known [sp x]).length:Int)≤D.size-(-1):=by
   refine Wk (b := -1) ?_ (by omega) (fun y hy=>(hw y hy).2);cases hu:uni r.known [sp x] with
   |nil=>trivial
   |cons y l'=>
    rw [hu] at u1 hw;exact ⟨by have:=(hw y List.mem_cons_self).1;omega,u1.2.1,u1.2.2⟩
  unfold C7;rw [if_pos ⟨c2.1,hs⟩,if_neg (by omega)]
theorem st_next {D:ByteArray} {r:Rcv} {l:List Seg} {x:Seg} (h:Hd D r l) (hl:∀x∈l,ES D x) (hx:ES D x) (hD:D.size≤900):Hd D (CQ r x) (l++[x]):=by
 have hs:=M0 h hl hx hD;obtain ⟨b1,b2,b3,b4⟩:=Gu hx;refine ⟨NX h.ok hx.1 hs,h.ses,?_,fun t => ?_,fun i hi => ?_⟩
 ·rw [if_neg (by simp)];exact hx.2.2.2.1
 ·rw [KO hs,h.mem,Sl]
 ·rw [SG h.ok hx.1 hs];split
  ·rename_i hr;rw [hx.2.2.2.2 _ (by omega),show x.off.toNat+(i-x.off.toNat)=i by omega]
  ·rename_i hr;rcases Sl.1 hi with hc|hc
   ·exact h.get i hc
   ·omega
theorem st_hear {D:ByteArray} {r:Rcv} {l:List Seg} {x:Seg} (h:Hd D r l) (hl:∀x∈l,ES D x) (hx:ES D x) (hD:D.size≤900):DX r x=(CQ r x,if x.chk=true then [B9 r x] else [],0):=by rw [Qn h.ok hx.1,if_pos (M0 h hl hx hD)]
end Ab
namespace Ab
open Go
theorem V9 {d:ByteArray} {p:Int×Int} (h:0≤p.1∧p.1<p.2∧p.2≤d.size) (i:Nat) (hi:i<(raw d 0 p).data.size):(bl (raw d 0 p).data).getD i 0=(bl d).getD ((raw d 0 p).off.toNat+i) 0:=by
 have hs:(raw d 0 p).data.size=p.2.toNat-p.1.toNat:=by simp only [raw,size_extract];omega
 rw [hs] at hi;show (bl (d.extract p.1.toNat p.2.toNat)).getD i 0=(bl d).getD (p.1.toNat+i) 0;rw [Eh];simp [xJ,hi,zN]
structure OV (d:ByteArray) (x:Seg):Prop where
 pc:ES d x
 sr:x.chk=false→x.ser=0
 cl:x.claims=[]
theorem V7 {d:ByteArray} {l:List Span} (h:Lr l d.size) (hd:1≤d.size∧d.size≤65536):∀x∈GS d 0 l,OV d x∧x.chk=false:=by intro x hx;have hp:=NM (ses:=0) h x hx;unfold GS at hx;obtain ⟨y,hy,hx⟩:=mem_flatMap.1 hx;obtain ⟨p,hpm,rfl⟩:=mem_map.1 hx;have h1:=h y hy;have h2:=Qy _ y.fro y.to (yI _) p hpm;exact ⟨⟨⟨YA hp (by omega) hd,hp.kind,hp.ses_,hp.tot,fun i hi=>V9 (by omega) i hi⟩,fun _=>rfl,rfl⟩,rfl⟩
theorem WN {d:ByteArray} {x:Seg} {ser:Int} (h:OV d x) (hc:x.chk=false) (hr:1≤ser∧ser≤1099511627776):OV d {x with ser:=ser,chk:=true}:=by
 obtain ⟨⟨h1,h2,h3,h4,h5⟩,h6,h7⟩:=h;obtain ⟨k1,k2,k3⟩:=D9 h1;refine ⟨⟨?_,h2,h3,h4,h5⟩,fun f=>(by cases f),h7⟩;have n:Bk {x with ser:=ser,chk:=true}:=by unfold Bk at k2 ⊢;have q:=k2.2.2.2 h2;exact ⟨k2.1,fun f=>absurd (h2.symm.trans f) (by decide),fun f=>absurd (h2.symm.trans f) (by decide),fun _=>⟨q.1,q.2.1,fun _=>hr,fun f=>by cases f⟩⟩
 have c:CJ {x with ser:=ser,chk:=true}:=by unfold CJ at k3 ⊢;exact ⟨fun f=>absurd (h2.symm.trans f) (by decide),fun f=>absurd (h2.symm.trans f) (by decide),fun _=>k3.2.2 h2⟩
 unfold By;rw [if_neg (fun f=>f k1),if_neg (fun f=>f n),if_neg (fun f=>f c)]
structure K6 (d:ByteArray) (ser:Int) (l:List Seg):Prop where
 ex:∃pre x,l=pre++[x]∧x.chk=true∧x.ser=ser∧∀y∈pre,y.chk=false
 pc:∀x∈l,OV d x
 len:(l.length:Int)≤d.size+1
theorem batP {ser:Int} {d:ByteArray} {l:List Span} (h:Hh 0 ser d l=0):K6 d ser (CU 0 ser d l):=by
 have hb:=IM h;have h0:=h;unfold Hh at h0;split at h0
 ·cases h0
 split at h0
 ·cases h0
 split at h0
 ·cases h0
 split at h0
 ·cases h0
 split at h0
 ·cases h0
 rename_i k1 k2 k3 k4 k5;have k4:inside l d.size=true:=by simpa using k4
 obtain ⟨g1,g2⟩:=Iq k4;have hn:=U7 (ses:=0) g1 k5;obtain ⟨pre,x,hx⟩:∃pre x,GS d 0 l=pre++[x]:=⟨_,_,(List.dropLast_concat_getLast hn).symm⟩
 have hp:=V7 g1 (by omega);rw [hx] at hp;have e:CU 0 ser d l=pre++[{x with ser:=ser,chk:=true}]:=by unfold CU;rw [if_pos h,hx,F3]
 have hx2:=hp x (by simp);refine ⟨⟨pre,_,e,rfl,rfl,fun y hy=>(hp y (by simp [hy])).2⟩,?_,hb.len⟩;rw [e];intro y hy;rcases mem_append.1 hy with hy|hy
 ·exact (hp y (by simp [hy])).1
 ·rw [xW] at hy;subst hy;exact WN hx2.1 hx2.2 (by omega)
theorem K6.last {d:ByteArray} {ser:Int} {l:List Seg} (h:K6 d ser l):K6 d ser (Bv l):=by obtain ⟨⟨pre,x,rfl,h1,h2,h3⟩,h4,h5⟩:=h;rw [JJ];exact ⟨⟨[],x,rfl,h1,h2,fun y hy=>by cases hy⟩,fun y hy=>h4 y (by simp at hy;simp [hy]),by simp;omega⟩
theorem OV.Cr {d:ByteArray} {x:Seg} (h:OV d x) {r:Int} (hr:1≤r∧r≤1000):Cr r x=((x.data.size:Int)+7+r) / r∧1≤Cr r x:=by
 have h1:=h.pc.1;have h2:=h.pc.2.1;have e:Ab.Cr r x=((x.data.size:Int)+7+r) / r:=by unfold Ab.Cr;rw [if_pos ⟨h1,hr.1,hr.2,h2⟩]
 refine ⟨e,?_⟩;rw [e,Int.le_ediv_iff_mul_le (by omega)];omega
theorem PL {r:Int}:∀(l:List Seg) (t:Int),(∀x∈l,1≤Cr r x)→
  (Bl r t l).Pairwise (fun a b=>a.at_<b.at_)∧(∀o∈Bl r t l,t<o.at_∧o.at_≤A1 r t l∧o.seg∈l)∧t+(l.length:Int)≤A1 r t l
 |[],t,h=>⟨List.Pairwise.nil,(fun o ho=>by cases ho),by simp [A1]⟩
 |x::l,t,h=>by
  have hx:=h x (by simp);obtain ⟨h1,h2,h3⟩:=PL l (t+Cr r x) (fun y hy=>h y (by simp [hy]));refine ⟨?_,?_,?_⟩
  ·simp only [Bl,wC];exact ⟨fun o ho=>(h2 o ho).1,h1⟩
  ·intro o ho;simp only [Bl,xP] at ho;have hE:=Kc r l (t+Cr r x);rcases ho with rfl|ho
   ·exact ⟨by simp only;omega,by simp only [A1];omega,by simp⟩
   ·have:=h2 o ho;exact ⟨by omega,by simp only [A1];omega,by simp [this.2.2]⟩
  ·simp only [A1,zW];omega
end Ab
namespace Ab
open Go
theorem UA {l:List Span}:∀{b n:Int},Canon b l→b<n→(∀x∈l,x.to≤n)→2*(l.length:Int)≤n-b:=by
 induction l with
 |nil=>intro b n _ h _;simp;omega
 |cons x l ih=>
  intro b n h hb ht;have h1:=h.1;have h2:=h.2.1;have h3:=ht x (by simp);simp only [zW];by_cases he:x.to<n
  ·have:=ih h.2.2 he (fun y hy=>ht y (by simp [hy]));omega
  ·cases l with
   |nil=>simp;omega
   |cons y l=>
    have:=h.2.2.1;have:=h.2.2.2.1;have:=ht y (by simp);omega
theorem N3 {l:List Span} {n:Int} (h:A4 l=0) (hw:BU l n) (hn:0≤n∧n≤120):l.length≤60:=by have hc:=((Ag _).1 h).2.1;have:=UA (n:=n) (OA hc hw) (by omega) (fun x hx=>(hw x hx).2);omega
structure Par where
 c:Con
 b:Int
 e:Int
 d:ByteArray
 ps:List Int
 lim:Int
 dk:List Span
structure POk (p:Par):Prop where
 con:Dn p.c=0
 t:p.c.start≤p.b∧p.b≤p.e∧p.e≤p.c.fin
 sz:1≤p.d.size∧p.d.size≤120
 pk:∀x∈p.ps,-9223372036854775808≤x∧x≤9223372036854775807
 pl:p.ps.length≤1000
 bud:∀k:Int,1≤k→p.b+1+(k-1)*(2*p.c.rng+1)≤p.e→(((p.d.size:Int)+1)*k+2*k≤4990∨(p.e-p.b)+2*k≤4990)
theorem POk.rng {p:Par} (h:POk p):1≤p.c.rng∧p.c.rng≤1048576∧1≤p.c.rate∧p.c.rate≤1000∧0≤p.b∧p.b≤p.e∧p.e≤1099511627776-2*p.c.rng∧0≤p.c.loss∧p.c.loss≤16:=by obtain ⟨c1,c2⟩:=Dh h.con;unfold Ft at c1;have:=h.t;omega
structure Kr (d:ByteArray) (x:Seg):Prop where
 g:By x=0
 kind:x.kind=2
 ses:x.ses=0
 tot:x.tot=d.size
theorem Kr.cl {d:ByteArray} {x:Seg} (h:Kr d x):A4 x.claims=0∧BU x.claims d.size:=by obtain ⟨k1,k2,k3⟩:=D9 h.g;unfold CJ at k3;have hi:=(k3.2.1 h.kind).2.2;unfold inside at hi;have hi:=of_decide_eq_true hi;exact ⟨hi.1,h.tot ▸ (Bx hi.1).1 hi.2⟩
theorem Kr.few {d:ByteArray} {x:Seg} (h:Kr d x) (hd:d.size≤120):x.claims.length≤60:=N3 h.cl.1 h.cl.2 (by omega)
structure Ls (p:Par) (s:Snd):Prop where
 c:s.c=p.c
 ses:s.ses=0
 data:s.data=p.d
 fin:s.fin=p.e
 ok:Fv s=0
 t:p.b+1+(s.ser-1)*(2*p.c.rng+1)≤s.busy
theorem Ls.fo {p:Par} {s:Snd} (hp:POk p) (h:Ls p s):FOk s∧s.acked.length≤60:=by have hf:=(Lh h.ok).1;obtain ⟨c1,c2,c3⟩:=DF hf;have hw:=(Bx c3.1).1 c3.2;have hsz:=hp.sz;have:=N3 c3.1 hw (by rw [h.data];omega);exact ⟨⟨hf,by omega⟩,this⟩
theorem Ls.num {p:Par} {s:Snd} (hp:POk p) (h:Ls p s):p.c.start≤s.busy∧s.busy≤p.e∧1≤s.ser∧s.ser<1099511627776∧p.b+1≤s.busy∧(s.ser-1)≤s.busy-p.b-1:=by have hn:=(h.fo hp).1.num;have hr:=hp.rng;have ht:=h.t;have hc:=h.c;have hfin:=h.fin;rw [hc] at hn;have h0:(s.ser-1)*1≤(s.ser-1)*(2*p.c.rng+1):=Int.mul_le_mul_of_nonneg_left (by omega) (by omega);omega
structure Inv (p:Par) (s:Ses):Prop where
 rd:s.dat.rng=p.c.rng
 rr:s.rep.rng=p.c.rng
 ps:s.picks=p.ps
 lim:s.limit=p.lim
 dk:s.dark=p.dk
 gd:Bn s.dat
 gr:Bn s.rep
 now:0≤s.now
 sn:Ls p s.snd
 rc:∃hl,Hd p.d s.rcv hl∧∀x∈hl,ES p.d x
 fd:∀f∈s.dat.frames,OV p.d f.seg∧f.seg.ser≤s.snd.ser∧s.now≤f.arr∧f.arr≤p.e+2*p.c.rng∧(f.seg.chk=true→f.seg.ser=s.snd.ser→s.snd.busy+p.c.rng≤f.arr)
 fr:∀f∈s.rep.frames,Kr p.d f.seg∧f.seg.ser≤s.snd.ser∧s.now≤f.arr∧f.arr≤p.e+4*p.c.rng∧(f.seg.ser=s.snd.ser→s.snd.busy+2*p.c.rng≤f.arr)
 pd:∀o∈s.pend,OV p.d o.seg∧s.now≤o.at_∧o.at_≤s.snd.busy∧o.seg.ser≤s.snd.ser∧(o.seg.chk=true→o.at_=s.snd.busy)
 po:s.pend.Pairwise (fun a b=>a.at_<b.at_)
 du:s.snd.st=1→s.now≤s.snd.due
 c1:s.entered=s.dat.sent+s.rep.sent
 c2:s.dat.sent=s.sent.length
 c3:s.rep.sent=s.told.length
 c4:(s.sent.length:Int)+s.pend.length≤s.snd.busy-p.b
 c5:(s.sent.length:Int)+s.pend.length≤((p.d.size:Int)+1)*s.snd.ser
 c6:(s.told.length:Int)+s.dat.frames.countP (fun f=>f.seg.chk)+2*s.pend.countP (fun o=>o.seg.chk)≤2*s.snd.ser
 l1:(s.dat.frames.length:Int)≤2*s.dat.sent
 l2:(s.rep.frames.length:Int)≤2*s.rep.sent
 ds:0≤s.dist∧s.dist≤s.entered
 kn:s.kno=true↔s.snd.st=2
 rv:s.rcvd=Ay s.rcv
def PGt (s:Ses):Prop:=∀o∈s.pend,s.now<o.at_
def DGt (s:Ses):Prop:=∀f∈s.dat.frames,s.now<f.arr
def RGt (s:Ses):Prop:=∀f∈s.rep.frames,s.now<f.arr
def UGt (s:Ses):Prop:=s.snd.st=1→s.now<s.snd.due
theorem Inv.bud {p:Par} {s:Ses} (hp:POk p) (h:Inv p s) {k:Nat} (hk:(k:Int)≤s.pend.length+s.dat.frames.countP (fun f=>f.seg.chk)) (hn:0<k→s.now≤1099511627776):Bud k s:=by
 have hs:=h.sn.num hp;have hb:=hp.bud s.snd.ser (by omega) (by have:=h.sn.t;omega);have:=h.c1;have:=h.c2;have:=h.c3;have:=h.c4;have:=h.c5;have:=h.c6;have:=h.l1;have:=h.l2;have:=h.gd.lost;have:=h.gr.lost;refine ⟨h.gd,h.gr,⟨h.now,hn⟩,by rw [h.ps];exact hp.pk,?_,?_,?_,?_,?_,?_,?_,?_,by rw [h.ps];exact hp.pl⟩
 ·refine ⟨by omega,?_⟩;rcases hb with hb|hb<;>omega
 all_goals have:=h.ds;omega
end Ab
