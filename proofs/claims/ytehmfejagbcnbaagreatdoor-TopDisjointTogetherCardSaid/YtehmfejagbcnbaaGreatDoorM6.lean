/- A part of the proof: see the last text. -/
import Derived.Test.YtehmfejagbcnbaaGreatDoorM5
import Derived.KernelRfl
import Derived.Test.YtehmfejagbcnbaaGreatDoorProg
import Derived.Deep.LoopGhost
import Derived.Deep.WholeRow
import Derived.Laws.ResultCell
import Derived.Below
import Derived.WalkKit
import Derived.Lib.Walk
import Derived.WideMake
set_option linter.unusedVariables false
set_option linter.unusedSimpArgs false
open Array (eq_empty_of_size_eq_zero getElem?_modify getElem?_push getElem?_push_lt)
open Bool (and_eq_true false_eq_true not_eq_true' or_eq_false_iff)
open Int (lt_irrefl toNat toNat_natCast)
open List (all_eq_true any_eq_false append_assoc append_nil cons_append drop drop_succ_cons drop_zero eq_nil_of_length_eq_zero ext_getElem? filterMap_cons filter_append filter_cons filter_eq_self foldl_cons getElem?_append_left getElem?_cons_succ getElem?_drop getElem?_eq_getElem getElem?_eq_none getElem?_map getElem?_range getElem?_set_ne getElem?_set_self getElem_mem length length_append length_cons length_drop length_map length_nil length_range length_set length_take map_append map_congr_left map_cons map_id map_map map_nil map_take mem_append mem_append_left mem_append_right mem_cons mem_cons_of_mem mem_cons_self mem_filterMap mem_flatten mem_iff_getElem mem_map mem_of_getElem? mem_of_mem_drop mem_range mem_singleton nil_append nodup_append nodup_cons nodup_iff_pairwise_ne pairwise_append pairwise_cons pairwise_map replicate take take_of_length_le take_zero)
open Nat (add_zero le_refl le_succ le_trans lt_of_lt_of_le lt_or_ge mul_le_mul ne_of_lt not_lt reduceAdd reduceEqDiff succ_mul zero_add zero_le)
open Option (getD_none isSome_none isSome_some map_some)
namespace Ab
open Go
structure AW where
 node:Int
 frm:Int
 to:Int
 size:Int
 ticket:Int
 deriving DecidableEq
def AW.enc (h:AW):List Tree:=[tI h.node,tI h.frm,tI h.to,tI h.size,tI h.ticket]
structure Lvl where
 at_:Int
 val:Int
 deriving DecidableEq
def Lvl.enc (x:Lvl):List Tree:=[tI x.at_,tI x.val]
def E8 (q:List Int) (h:AW):Bool:=decide (0≤h.node∧h.node<q.length∧0≤h.frm∧h.frm<h.to∧h.to≤1099511627776∧1≤h.size∧h.size≤65536∧0≤h.ticket∧h.ticket≤1152921504606846976)
def cmpH (a b:AW):Int:=if C5 a.node b.node≠0 then C5 a.node b.node else if C5 a.frm b.frm≠0 then C5 a.frm b.frm else if C5 a.to b.to≠0 then C5 a.to b.to else if C5 a.ticket b.ticket≠0 then C5 a.ticket b.ticket else C5 a.size b.size
def Po (a b:AW):Bool:=if a.node≠b.node then decide (a.node<b.node) else if a.frm≠b.frm then decide (a.frm<b.frm) else if a.to≠b.to then decide (a.to<b.to) else if a.ticket≠b.ticket then decide (a.ticket<b.ticket) else decide (a.size<b.size)
theorem Nq (a b:AW):cmpH a b>0↔Po b a=true:=by unfold cmpH Po C5;grind
theorem Sp (t n v:Int):∀(es:List (Int×Int)),Av t (BN n v es)=if t=n then some v else Av t es
 |[]=>by simp only [BN,Av]
 |p::l=>by
  simp only [BN];by_cases h:n=p.1
  ·rw [if_pos h];simp only [Av];by_cases ht:t=n
   ·rw [if_pos ht,if_pos ht]
   ·rw [if_neg ht,if_neg ht,if_neg (by rw [← h];exact ht)]
  ·rw [if_neg h];simp only [Av];by_cases ht:t=p.1
   ·rw [if_pos ht,if_pos ht,if_neg (by omega)]
   ·rw [if_neg ht,if_neg ht,Sp t n v l]
theorem get_none {t:Int}:∀{es:List (Int×Int)},Av t es=none↔t∉es.map (·.1)
 |[]=>by simp [Av]
 |p::l=>by
  simp only [Av,map_cons,mem_cons,not_or];by_cases h:t=p.1
  ·simp [h]
  ·rw [if_neg h,get_none (es:=l)];simp [h]
theorem PS (n v:Int):∀(es:List (Int×Int)),(BN n v es).map (·.1)=if n∈es.map (·.1) then es.map (·.1) else es.map (·.1)++[n]
 |[]=>by simp [BN]
 |p::l=>by
  simp only [BN];by_cases h:n=p.1
  ·rw [if_pos h,if_pos (by simp [h])];simp [h]
  ·rw [if_neg h];simp only [map_cons,mem_cons,PS n v l];by_cases hm:n∈l.map (·.1)
   ·rw [if_pos hm,if_pos (.inr hm)]
   ·rw [if_neg hm,if_neg (by simp only [not_or];exact ⟨h,hm⟩)];rfl
def Cx (es:List (Int×Int)) (t:Int):Int:=(Av t es).getD 0
def Dm (es:List (Int×Int)) (t n:Int):List (Int×Int):=BN t (w64 (Cx es t+n)) es
theorem Ll (es:List (Int×Int)) (t n s:Int):Cx (Dm es t n) s=if s=t then w64 (Cx es t+n) else Cx es s:=by
 unfold Dm;rw [Cx,Sp];split
 ·rfl
 ·rfl
theorem Jp (es:List (Int×Int)) (t n:Int):(Dm es t n).map (·.1)=if t∈es.map (·.1) then es.map (·.1) else es.map (·.1)++[t]:=PS _ _ _
def Br (node:Int) (es:List (Int×Int)) (h:AW):List (Int×Int):=if h.node=node then Dm (Dm es h.frm h.size) h.to (w64 (0-h.size)) else es
def J0 (node:Int) (l:List AW):List (Int×Int):=l.foldl (Br node) []
def dzH (node t:Int) (h:AW):Int:=if h.node=node then (if h.frm=t then h.size else 0)-(if h.to=t then h.size else 0) else 0
def Ca (f:AW→Int):List AW→Int
 |[]=>0
 |h::l=>f h+Ca f l
def GN (l:List AW):Prop:=∀h∈l,1≤h.size∧h.size≤65536∧0≤h.frm∧h.frm<h.to
theorem GN.tail {h:AW} {l:List AW} (hs:GN (h::l)):GN l:=fun x hx=>hs x (mem_cons_of_mem _ hx)
theorem LF {f:AW→Int}:∀{l:List AW},(∀h∈l,-65536≤f h∧f h≤65536)→ -65536*(l.length:Int)≤Ca f l∧Ca f l≤65536*(l.length:Int)
 |[],_=>by simp [Ca]
 |h::l,hf=>by have h1:=hf h (mem_cons_self ..);have h2:=LF (l:=l) fun x hx=>hf x (mem_cons_of_mem _ hx);simp only [Ca,length_cons];omega
theorem VY {node t:Int} {h:AW} (hs:1≤h.size∧h.size≤65536∧0≤h.frm∧h.frm<h.to) : -65536≤dzH node t h∧dzH node t h≤65536:=by unfold dzH;grind
theorem S1 (node:Int):∀(l:List AW) (es:List (Int×Int)) (B:Int),GN l→(∀t,-B≤Cx es t∧Cx es t≤B)→B+131072*(l.length:Int)≤4611686018427387904→∀t,Cx (l.foldl (Br node) es) t=Cx es t+Ca (dzH node t) l
 |[],es,B,_,_,_,t=>by simp [Ca]
 |h::l,es,B,hs,hB,hl,t=>by
  have h1:=hs h (mem_cons_self ..);simp only [length_cons] at hl;rw [foldl_cons];have hw:w64 (0-h.size)= - h.size:=by rw [w64,G2]<;>omega
  have hv:∀s,Cx (Br node es h) s=Cx es s+dzH node s h:=fun s=>by
   unfold Br dzH;by_cases hn:h.node=node
   ·rw [if_pos hn,if_pos hn,Ll,Ll,hw];have hb1:=hB h.frm;have hb2:=hB h.to;have hb3:=hB s;have e1:w64 (Cx es h.frm+h.size)=Cx es h.frm+h.size:=by rw [w64,G2]<;>omega
    rw [Ll,e1,if_neg (show ¬h.to=h.frm by omega)];have e2:w64 (Cx es h.to + -h.size)=Cx es h.to-h.size:=by rw [w64,G2]<;>omega
    rw [e2];by_cases ha:s=h.to
    ·subst ha;rw [if_pos rfl,if_neg (show ¬h.frm=h.to by omega),if_pos rfl];omega
    ·rw [if_neg ha];by_cases hb:s=h.frm
     ·subst hb;rw [if_pos rfl,if_pos rfl,if_neg (fun e=>ha e.symm)];omega
     ·rw [if_neg hb,if_neg (fun e=>hb e.symm),if_neg (fun e=>ha e.symm)];omega
   ·rw [if_neg hn,if_neg hn];omega
  rw [S1 node l (Br node es h) (B+65536) hs.tail (fun s=>by rw [hv s];have:=hB s;have:=VY (node:=node) (t:=s) h1;omega) (by omega) t,hv t,Ca];omega
theorem QK (node:Int):∀(l:List AW) (es:List (Int×Int)),(es.map (·.1)).Nodup→((l.foldl (Br node) es).map (·.1)).Nodup∧∀t,t∈(l.foldl (Br node) es).map (·.1)↔t∈es.map (·.1)∨∃h∈l,h.node=node∧(t=h.frm∨t=h.to)
 |[],es,hn=>⟨hn,fun t=>by simp⟩
 |h::l,es,hn=>by
  rw [foldl_cons];have one:∀(es:List (Int×Int)) (t n:Int),(es.map (·.1)).Nodup→((Dm es t n).map (·.1)).Nodup∧∀s,s∈(Dm es t n).map (·.1)↔s∈es.map (·.1)∨s=t:=fun es t n hn=>by
   rw [Jp];split
   ·rename_i hm;refine ⟨hn,fun s=>⟨.inl,?_⟩⟩
    rintro (h|rfl)
    ·exact h
    ·exact hm
   ·rename_i hm;refine ⟨?_,fun s=>by simp⟩;rw [nodup_append];refine ⟨hn,by simp,fun a ha b hb e => ?_⟩;cases mem_singleton.1 hb;exact hm (e ▸ ha)
  have hst:((Br node es h).map (·.1)).Nodup∧∀t,t∈(Br node es h).map (·.1)↔t∈es.map (·.1)∨h.node=node∧(t=h.frm∨t=h.to):=by
   unfold Br;by_cases hc:h.node=node
   ·rw [if_pos hc];obtain ⟨a1,a2⟩:=one es h.frm h.size hn;obtain ⟨b1,b2⟩:=one _ h.to (w64 (0-h.size)) a1;refine ⟨b1,fun t => ?_⟩;rw [b2,a2];simp only [hc,true_and];exact or_assoc
   ·rw [if_neg hc];exact ⟨hn,fun t=>by simp [hc]⟩
  obtain ⟨h1,h2⟩:=QK node l _ hst.1;refine ⟨h1,fun t => ?_⟩;rw [h2,hst.2];simp only [mem_cons,exists_eq_or_imp];exact or_assoc
def Hg (es:List (Int×Int)):List Int→Int→List Lvl
 |[],_=>[]
 |t::l,s=>if Cx es t=0 then Hg es l s else ⟨t,w64 (s+Cx es t)⟩::Hg es l (w64 (s+Cx es t))
def Ba (l:List Int):List Int:=l.mergeSort fun x y=>decide (x≤y)
def levels (l:List AW) (node:Int):List Lvl:=Hg (J0 node l) (Ba ((J0 node l).map (·.1))) 0
theorem Fx (l:List Int):(Ba l).Perm l:=List.mergeSort_perm l _
theorem PN (l:List Int):(Ba l).Pairwise (· ≤·):=by have:=List.pairwise_mergeSort (le:=fun x y:Int=>decide (x≤y)) (fun a b c h1 h2=>by simp at *;omega) (fun a b=>by simp;omega) l;exact this.imp fun h=>by simpa using h
theorem PO {l:List Int} (h:l.Nodup):(Ba l).Pairwise (· < ·):=by have h1:=PN l;have h2:(Ba l).Nodup:=(Fx l).nodup_iff.2 h;exact (h1.and h2).imp fun h=>by omega
def upTo (node t:Int) (h:AW):Int:=if h.node=node then (if h.frm≤t then h.size else 0)-(if h.to≤t then h.size else 0) else 0
def stH (node t:Int) (h:AW):Int:=if h.node=node∧h.frm≤t∧t<h.to then h.size else 0
def stored (l:List AW) (node t:Int):Int:=Ca (stH node t) l
theorem Ds {f g:AW→Int}:∀{l:List AW},(∀h∈l,f h=g h)→Ca f l=Ca g l
 |[],_=>rfl
 |h::l,e=>by rw [Ca,Ca,e h (mem_cons_self ..),Ds fun x hx=>e x (mem_cons_of_mem _ hx)]
theorem PI {f g:AW→Int}:∀(l:List AW),Ca (fun h=>f h+g h) l=Ca f l+Ca g l
 |[]=>rfl
 |h::l=>by simp only [Ca,PI l];omega
theorem N5 {f g:AW→Int}:∀{l:List AW},(∀h∈l,f h≤g h)→Ca f l≤Ca g l
 |[],_=>Int.le_refl _
 |h::l,e=>by have:=e h (mem_cons_self ..);have:=N5 (l:=l) fun x hx=>e x (mem_cons_of_mem _ hx);simp only [Ca];omega
theorem SG {l:List AW} (hs:GN l) (node t:Int):Ca (upTo node t) l=stored l node t:=Ds fun h hh=>by have:=hs h hh;unfold upTo stH;grind
theorem Ic {l:List AW} (hs:GN l) (node t:Int):0≤stored l node t∧stored l node t≤65536*(l.length:Int):=by
 have h1:=LF (f:=stH node t) (l:=l) fun h hh=>by have:=hs h hh;unfold stH;split<;>omega
 refine ⟨?_,h1.2⟩;have h2:=N5 (f:=fun _=>0) (g:=stH node t) (l:=l) fun h hh=>by have:=hs h hh;unfold stH;split<;>omega
 have h3:∀(l:List AW),Ca (fun _=>0) l=0:=fun l=>by induction l with
  |nil=>rfl
  |cons a l ih=>simp [Ca,ih]
 rw [h3] at h2;exact h2
theorem SJ {l:List AW} (hs:GN l) {node lo t:Int} (hlt:lo<t) (hk:∀h∈l,h.node=node→(h.frm≤lo∨t≤h.frm)∧(h.to≤lo∨t≤h.to)):stored l node t=stored l node lo+Ca (dzH node t) l:=by rw [← SG hs,← SG hs,← PI];refine Ds fun h hh => ?_;have h1:=hs h hh;have h2:=hk h hh;unfold upTo dzH;grind
theorem Jr {l:List AW} (hs:GN l) (hlen:l.length≤10000) {node:Int} {es:List (Int×Int)} (hes:∀t,Cx es t=Ca (dzH node t) l):∀(ts:List Int) (lo s:Int),ts.Pairwise (· < ·)→(∀t∈ts,lo<t)→
  (∀h∈l,h.node=node→(h.frm≤lo∨h.frm∈ts)∧(h.to≤lo∨h.to∈ts))→s=stored l node lo→
  (∀x∈Hg es ts s,x.at_∈ts∧x.val=stored l node x.at_)∧(Hg es ts s).Pairwise (fun x y=>x.at_<y.at_)
 |[],lo,s,_,_,_,_=>⟨fun x hx=>by simp [Hg] at hx,by simp [Hg]⟩
 |t::ts,lo,s,hp,hlo,hk,hS=>by
  rw [pairwise_cons] at hp;have hlt:=hlo t (mem_cons_self ..);have hge:∀x∈t::ts,t≤x:=fun x hx=>by
   rcases mem_cons.1 hx with rfl|hx
   ·exact Int.le_refl _
   ·exact Int.le_of_lt (hp.1 x hx)
  have hnx:=SJ hs (node:=node) hlt fun h hh hn=>by obtain ⟨h1,h2⟩:=hk h hh hn;exact ⟨h1.imp id (hge _),h2.imp id (hge _)⟩
  have hk':∀h∈l,h.node=node→(h.frm≤t∨h.frm∈ts)∧(h.to≤t∨h.to∈ts):=fun h hh hn=>by
   obtain ⟨h1,h2⟩:=hk h hh hn;constructor
   ·rcases h1 with h1|h1
    ·exact .inl (by omega)
    ·rcases mem_cons.1 h1 with h1|h1
     ·exact .inl (by omega)
     ·exact .inr h1
   ·rcases h2 with h1|h1
    ·exact .inl (by omega)
    ·rcases mem_cons.1 h1 with h1|h1
     ·exact .inl (by omega)
     ·exact .inr h1
  unfold Hg;rw [← hes t] at hnx;by_cases h0:Cx es t=0
  ·rw [if_pos h0];obtain ⟨a1,a2⟩:=Jr hs hlen hes ts t s hp.2 hp.1 hk' (by omega);exact ⟨fun x hx=>⟨mem_cons_of_mem _ (a1 x hx).1,(a1 x hx).2⟩,a2⟩
  ·rw [if_neg h0];have hb:=Ic hs node t;have hw:w64 (s+Cx es t)=stored l node t:=by rw [w64,G2]<;>omega
   obtain ⟨a1,a2⟩:=Jr hs hlen hes ts t (w64 (s+Cx es t)) hp.2 hp.1 hk' hw;refine ⟨fun x hx => ?_,?_⟩
   ·rcases mem_cons.1 hx with rfl|hx
    ·exact ⟨mem_cons_self ..,hw⟩
    ·exact ⟨mem_cons_of_mem _ (a1 x hx).1,(a1 x hx).2⟩
   ·rw [pairwise_cons];exact ⟨fun y hy=>hp.1 _ (a1 y hy).1,a2⟩
theorem UZ {l:List AW} (hs:GN l) {node t:Int} (ht:t<0):stored l node t=0:=by
 have:stored l node t=Ca (fun _=>0) l:=Ds fun h hh=>by have:=hs h hh;unfold stH;rw [if_neg (by omega)]
 rw [this]
 induction l with
 |nil=>rfl
 |cons a l ih=>
  simp only [Ca,Int.zero_add];exact ih hs.tail (Ds fun h hh=>by have:=hs.tail h hh;unfold stH;rw [if_neg (by omega)])
theorem NT {l:List AW} (hs:GN l) (hlen:l.length≤10000) (node:Int):∀t,Cx (J0 node l) t=Ca (dzH node t) l:=fun t=>by have:=S1 node l [] 0 hs (fun s=>by simp [Cx,Av]) (by omega) t;rw [J0,this];simp [Cx,Av]
theorem KO {l:List AW} (node:Int):(Ba ((J0 node l).map (·.1))).Pairwise (· < ·)∧∀t,t∈Ba ((J0 node l).map (·.1))↔∃h∈l,h.node=node∧(t=h.frm∨t=h.to):=by obtain ⟨h1,h2⟩:=QK node l [] (by simp);refine ⟨PO h1,fun t => ?_⟩;rw [(Fx _).mem_iff];rw [J0,h2];simp
theorem E5 {l:List AW} (hs:GN l) (hlen:l.length≤10000) (node:Int):(∀x∈levels l node,(∃h∈l,h.node=node∧(x.at_=h.frm∨x.at_=h.to))∧0≤x.at_∧x.val=stored l node x.at_)∧(levels l node).Pairwise (fun x y=>x.at_<y.at_):=by
 obtain ⟨k1,k2⟩:=KO (l:=l) node;have h0:∀t∈Ba ((J0 node l).map (·.1)),-1<t:=fun t ht=>by obtain ⟨h,h1,h2,h3⟩:=(k2 t).1 ht;have:=hs h h1;omega
 have hst:=Jr hs hlen (NT hs hlen node) (Ba ((J0 node l).map (·.1))) (-1) 0 k1 h0
  (fun h hh hn=>⟨.inr ((k2 _).2 ⟨h,hh,hn,.inl rfl⟩),.inr ((k2 _).2 ⟨h,hh,hn,.inr rfl⟩)⟩) (UZ hs (by omega)).symm
 refine ⟨fun x hx => ?_,hst.2⟩;obtain ⟨h1,h2⟩:=hst.1 x hx;have:=h0 _ h1;exact ⟨(k2 _).1 h1,by omega,h2⟩
theorem Qs {l:List AW} (hs:GN l) {node Q:Int} (hQ:0≤Q) (hf:∀h∈l,h.node=node→stored l node h.frm≤Q) (t:Int):stored l node t≤Q:=by
 have key:∀(m:List AW),(∀h∈m,h∈l)→(∃a∈m,a.node=node∧a.frm≤t∧t<a.to)→∃a∈l,a.node=node∧a.frm≤t∧t<a.to∧∀h∈m,h.node=node→h.frm≤t→t<h.to→h.frm≤a.frm:=by
  intro m
  induction m with
  |nil=>rintro _ ⟨a,ha,_⟩;cases ha
  |cons b m ih=>
   intro hm hex;by_cases hr:∃a∈m,a.node=node∧a.frm≤t∧t<a.to
   ·obtain ⟨a,a1,a2,a3,a4,a5⟩:=ih (fun h hh=>hm h (mem_cons_of_mem _ hh)) hr;by_cases hb:b.node=node∧b.frm≤t∧t<b.to∧a.frm<b.frm
    ·refine ⟨b,hm b (mem_cons_self ..),hb.1,hb.2.1,hb.2.2.1,fun h hh h1 h2 h3 => ?_⟩;rcases mem_cons.1 hh with rfl|hh
     ·exact Int.le_refl _
     ·have:=a5 h hh h1 h2 h3;omega
    ·refine ⟨a,a1,a2,a3,a4,fun h hh h1 h2 h3 => ?_⟩;rcases mem_cons.1 hh with rfl|hh
     ·by_cases hc:h.frm≤a.frm
      ·exact hc
      ·exact (hb ⟨h1,h2,h3,by omega⟩).elim
     ·exact a5 h hh h1 h2 h3
   ·obtain ⟨a,ha,h1,h2,h3⟩:=hex;rcases mem_cons.1 ha with rfl|ha
    ·refine ⟨a,hm a (mem_cons_self ..),h1,h2,h3,fun h hh g1 g2 g3 => ?_⟩;rcases mem_cons.1 hh with rfl|hh
     ·exact Int.le_refl _
     ·exact (hr ⟨h,hh,g1,g2,g3⟩).elim
    ·exact (hr ⟨a,ha,h1,h2,h3⟩).elim
 by_cases hex:∃a∈l,a.node=node∧a.frm≤t∧t<a.to
 ·obtain ⟨a,a1,a2,a3,a4,a5⟩:=key l (fun _ h=>h) hex;refine Int.le_trans (N5 fun h hh => ?_) (hf a a1 a2);have h1:=hs h hh;have h2:=a5 h hh;unfold stH;grind
 ·have:stored l node t=Ca (fun _=>0) l:=Ds fun h hh=>by unfold stH;rw [if_neg fun hc=>hex ⟨h,hh,hc⟩]
  have h3:∀(l:List AW),Ca (fun _=>0) l=0:=fun l=>by induction l with
   |nil=>rfl
   |cons a l ih=>simp [Ca,ih]
  rw [this,h3];exact hQ
def Pm (l:List Lvl):Int:=l.foldl (fun n x=>if x.val>n then x.val else n) 0
theorem Sd {Q:Int}:∀(l:List Lvl) (n:Int),n≤Q→(∀x∈l,x.val≤Q)→l.foldl (fun n x=>if x.val>n then x.val else n) n≤Q
 |[],n,h,_=>h
 |x::l,n,h,hl=>by rw [foldl_cons];refine Sd l _ ?_ fun y hy=>hl y (mem_cons_of_mem _ hy);have:=hl x (mem_cons_self ..);split<;>omega
def CQ (q:List Int) (l:List AW) (i:Nat) (_:Unit) (h:AW):Rd Unit Int:=
 if E8 q h=false then .done 2 else if i=0 then .next () else match l[i-1]? with
  |some a=>if Po h a=true then .done 9 else .next ()
  |none =>.next ()
def Hw (q:List Int) (l:List AW):Int:=BJ (CQ q l) (fun _=>0) 0 l ()
def En (l:List AW) (i:Nat) (_:Unit) (Q:Int):Rd Unit Int:=if Pm (levels l i)>Q then .done 15 else .next ()
def Cr (q:List Int) (cs:List AA) (l:List AW):Int:=
 if Ac q cs≠0 then 1 else if l.length>512 then 4 else if Hw q l≠0 then Hw q l else BJ (En l) (fun _=>0) 0 q ()
def Nf (q:List Int) (l:List AW):Bool:=l.all fun h=>decide (stored l h.node h.frm≤q.getD h.node.toNat 0)
def DT (q:List Int) (cs:List AA) (l:List AW):Int:=
 if Ac q cs≠0 then 1 else if l.length>512 then 4 else if Hw q l≠0 then Hw q l else if Nf q l=true then 0 else 15
theorem VQ {q:List Int} {l:List AW} (h:Hw q l=0):∀x∈l,E8 q x=true:=fun x hx=>by
 obtain ⟨j,hj,rfl⟩:=mem_iff_getElem.1 hx;have:=FX (step:=CQ q l) (fun i x r hd=>by
  unfold CQ at hd;split at hd
  ·cases hd;decide
  ·split at hd
   ·cases hd
   ·split at hd
    ·split at hd
     ·cases hd;decide
     ·cases hd
    ·cases hd) l 0 h j l[j] (getElem?_eq_getElem hj)
 unfold CQ at this;split at this
 ·cases this
 ·rename_i hc;simpa using hc
theorem L3 {q:List Int} {h:AW} (hv:E8 q h=true):0≤h.node∧h.node<q.length∧0≤h.frm∧h.frm<h.to∧h.to≤1099511627776∧1≤h.size∧h.size≤65536∧0≤h.ticket∧h.ticket≤1152921504606846976:=by unfold E8 at hv;simpa using hv
theorem Kg {q:List Int} {l:List AW} (h:Hw q l=0):GN l:=fun x hx=>by have:=L3 (VQ h x hx);omega
theorem Ip {q:List Int} {cs:List AA} (h:Ac q cs=0):∀Q∈q,0≤Q∧Q≤1073741824:=fun Q hQ=>by
 unfold Ac at h;split at h
 ·cases h
 ·split at h
  ·rename_i hq;have:=all_eq_true.1 hq Q hQ;unfold qOk at this;simpa using this
  ·cases h
theorem N6 {q:List Int} {cs:List AA} {l:List AW} (h:DT q cs l=0):Ac q cs=0∧l.length≤512∧Hw q l=0∧Nf q l=true:=by
 unfold DT at h;split at h
 ·cases h
 ·split at h
  ·cases h
  ·split at h
   ·contradiction
   ·split at h
    ·rename_i h1 h2 h3 h4;exact ⟨by omega,by omega,by omega,h4⟩
    ·cases h
theorem Nb {l:List AW}:∀(q:List Int) (i:Nat),(∀(j:Nat) Q,q[j]? = some Q→Pm (levels l (i+j:Nat))≤Q)→BJ (En l) (fun _=>0) i q ()=0
 |[],_,_=>rfl
 |Q::q,i,h=>by
  have h0:=h 0 Q rfl;rw [add_zero] at h0;have e:En l i () Q = .next ():=by rw [En,if_neg (by omega)]
  rw [BJ,e];refine Nb q (i+1) fun j Q' hj => ?_;have:=h (j+1) Q' (by simpa using hj);rwa [show i+(j+1)=i+1+j by omega] at this
theorem PJ {q:List Int} {cs:List AA} {l:List AW} (h:DT q cs l=0):Cr q cs l=0:=by obtain ⟨h1,h2,h3,h4⟩:=N6 h;have hs:=Kg h3;have hq:=Ip h1;unfold Cr;rw [if_neg (by omega),if_neg (by omega),if_neg (by omega)];refine Nb q 0 fun j Q hj => ?_;rw [zero_add];have hQ:=hq Q (mem_of_getElem? hj);unfold Pm;refine Sd _ _ hQ.1 fun x hx => ?_;rw [((E5 hs (by omega) (j:Nat)).1 x hx).2.2];refine Qs hs hQ.1 (fun a ha hn => ?_) _;have:=all_eq_true.1 h4 a ha;simp only [decide_eq_true_eq] at this;rw [hn] at this;simp only [toNat_natCast,List.getD,hj,Option.getD_some] at this;exact this
theorem Ez {q:List Int} {cs:List AA} {l:List AW} (h:Cr q cs l=0):Ac q cs=0∧l.length≤512∧Hw q l=0:=by
 unfold Cr at h;split at h
 ·cases h
 ·split at h
  ·cases h
  ·split at h
   ·contradiction
   ·exact ⟨by omega,by omega,by omega⟩
end Ab
namespace Ab
open Go
theorem s95 (q:List Int) (cs:List AA) (h:AW):Al C 95 [.sl 1 (q.map encI),.sl 7 (cs.map AA.enc),tI h.node,tI h.frm,tI h.to,tI h.size,tI h.ticket] [.bool (E8 q h)]:=by refine Al.of (fun n=>e95 n _ _ _ _ _ _ _) (Ev.of fun n => ?_);simp only [vv,reduceCtorEq,reduceAdd,reduceEqDiff,E8,AE];grind
theorem s109 (q:List Int) (cs:List AA) (h:AW):Al C 109 [.sl 1 (q.map encI),.sl 7 (cs.map AA.enc),tI h.node,tI h.frm,tI h.to,tI h.size,tI h.ticket] [.bool (E8 q h)]:=by refine Al.of (fun n=>e109 n _ _ _ _ _ _ _) (Ev.of fun n => ?_);simp only [vv,reduceCtorEq,reduceAdd,reduceEqDiff,E8,AE];grind
theorem find5 (a b c d e:Int):(([a,b,c,d,e]).find? (· ≠ 0)).getD 0=if a≠0 then a else if b≠0 then b else if c≠0 then c else if d≠0 then d else e:=by by_cases h1:a=0<;>by_cases h2:b=0<;>by_cases h3:c=0<;>by_cases h4:d=0<;>by_cases h5:e=0<;>simp [h1,h2,h3,h4,h5]
theorem s96 (a b:AW):Al C 96 (a.enc++b.enc) [tI (cmpH a b)]:=by refine Al.of (fun n=>e96 n _ _ _ _ _ _ _ _ _ _) ?_;refine ((s35 a.node b.node).and ((s35 a.frm b.frm).and ((s35 a.to b.to).and ((s35 a.ticket b.ticket).and ((s35 a.size b.size).and (s34 [C5 a.node b.node,C5 a.frm b.frm,C5 a.to b.to,C5 a.ticket b.ticket,C5 a.size b.size] (by simp))))))).mono fun n ⟨h1,h2,h3,h4,h5,h6⟩=> ?_;simp only [map_cons,map_nil,encI] at h6;rw [find5] at h6;simp only [h1,h2,h3,h4,h5,h6,vv,reduceCtorEq,reduceAdd,reduceEqDiff];rfl
theorem s110 (a b:AW):Al C 110 (a.enc++b.enc) [.bool (Po a b)]:=by refine Al.of (fun n=>e110 n _ _ _ _ _ _ _ _ _ _) (Ev.of fun n => ?_);simp only [vv,reduceCtorEq,reduceAdd,reduceEqDiff,Po,AE,bne_iff_ne];grind
theorem s97 (l:List Lvl) (hl:l.length≤1000000):Al C 97 [.sl 2 (l.map Lvl.enc)] [tI (Pm l)]:=by
 refine Al.of (fun n=>e97 n _) ?_;refine Aj (fun r=>[tI r]) l (fun i (s:Int)=>(([.t (tI s),.t (tI i)],[]):List AV×Heap)) (fun i s x =>.next (if x.val>s then x.val else s)) (fun s=>s) (fun _ _=>True) 0 rfl trivial ?_
  (fun i s x hx hI=>Ev.of fun n again => ?_) (fun _ _ _ _ _ _ _=>trivial) (fun s hI=>Ev.of fun n again => ?_)
 ·rw [Bf];rfl
 ·have hi:=AJ hx;simp only [vv,reduceCtorEq,reduceAdd,reduceEqDiff,hx,Lvl.enc,Rd.Ad,AS (show i<4611686018427387904 by omega),(show (i:Int)<l.length by omega)]
 ·simp only [vv,reduceCtorEq,reduceAdd,reduceEqDiff,lt_irrefl]
theorem s162 (l:List AW) (node t:Int) (hl:l.length≤10000) (hs:GN l):Al C 162 [.sl 5 (l.map AW.enc),tI node,tI t] [tI (stored l node t)]:=by
 refine Al.of (fun n=>e162 n _ _ _) ?_;refine Aj (fun r=>[tI r]) l (fun i (s:Int)=>(([.t (tI s),.t (tI i)],[]):List AV×Heap)) (fun i s x =>.next (s+stH node t x)) (fun s=>s) (fun i s=>0≤s∧s≤65536*(i:Int)∧i≤l.length) 0 rfl (by simp) ?_
  (fun i s x hx hI=>Ev.of fun n again => ?_) (fun i s x s' hx hI h => ?_) (fun s hI=>Ev.of fun n again => ?_)
 ·rw [Bf];have:∀(l:List AW) (s:Int),l.foldl (fun s x=>s+stH node t x) s=s+Ca (stH node t) l:=fun l=>by
   induction l with
   |nil=>intro s;simp [Ca]
   |cons a l ih=>intro s;rw [foldl_cons,ih,Ca];omega
  rw [this,stored];omega
 ·have hi:=AJ hx;have h1:=hs x (mem_of_getElem? hx);simp only [vv,reduceCtorEq,reduceAdd,reduceEqDiff,hx,AW.enc,Rd.Ad,AS (show i<4611686018427387904 by omega),(show (i:Int)<l.length by omega),A6 (x:=s+x.size) (by omega) (by omega)];simp only [stH,AE];by_cases k1:x.node=node<;>by_cases k2:x.frm≤t<;>by_cases k3:t<x.to<;>simp [k1,k2,k3]
 ·have hi:=AJ hx;have h1:=hs x (mem_of_getElem? hx);simp only [Rd.next.injEq] at h;subst h;unfold stH;split<;>omega
 ·simp only [vv,reduceCtorEq,reduceAdd,reduceEqDiff,lt_irrefl]
theorem TM (l:List Int):E1 (l.map encI)=(Ba l).map encI:=by
 have h1:(l.map encI).map oneI=l:=by rw [map_map];exact (map_congr_left fun a _=>rfl).trans (map_id l)
 unfold E1 Ba;rw [h1];rfl
theorem Px (l:List Int):A7 1 (l.map encI)=true:=by simp [A7,encI,I3]
theorem H5 {es new:List (List Tree)} (h:new.length=es.length):BB es 0 new=new:=by simp [BB,h]
theorem OV {t:Int} {es:List (Int×Int)}:(Av t es).isSome=decide (t∈es.map (·.1)):=by
 cases h:Av t es with
 |none=>
  have:=get_none.1 h;simp only [isSome_none];exact (decide_eq_false this).symm
 |some v=>
  have:t∈es.map (·.1):=by refine Classical.byContradiction fun hn => ?_;rw [get_none.2 hn] at h;cases h
  simp only [isSome_some];exact (decide_eq_true this).symm
theorem Lm (es:List (Int×Int)) (t n:Int):(Dm es t n).length=es.length+if t∈es.map (·.1) then 0 else 1:=by have:=congrArg length (Jp es t n);rw [length_map] at this;rw [this];split<;>simp
theorem Td (es:List (Int×Int)) (t n:Int):(Dm es t n).map (fun p=>encI p.1)=es.map (fun p=>encI p.1)++if t∈es.map (·.1) then [] else [encI t]:=by
 have h1:∀es:List (Int×Int),es.map (fun p=>encI p.1)=(es.map (·.1)).map encI:=fun es=>by rw [map_map];rfl
 rw [h1,h1,Jp];split<;>simp
def Vq (i:Nat) (es:List (Int×Int)):List AV×Heap:=([.t (tI i)],[.mapo .i64 .i64 es,.box [.mref 0],.row false es.length 1 (es.map fun p=>encI p.1),.box [.sref 2 es.length 0 es.length]])
def Sg (es:List (Int×Int)) (ks:List Int) (i:Nat) (s:Int×List Lvl):List AV×Heap:=([.t (tI s.1),.sref 4 s.2.length 0 s.2.length,.t (tI i)],[.mapo .i64 .i64 es,.box [.mref 0],.row false ks.length 1 (ks.map encI),.box [.sref 2 ks.length 0 ks.length],.row false s.2.length 2 (s.2.map Lvl.enc)])
def I0 (es:List (Int×Int)) (_:Nat) (s:Int×List Lvl) (t:Int):Rd (Int×List Lvl) (List Lvl):=.next (if Cx es t=0 then s else (w64 (s.1+Cx es t),s.2++[⟨t,w64 (s.1+Cx es t)⟩]))
theorem OO (es:List (Int×Int)):∀(ks:List Int) (i:Nat) (s:Int) (out:List Lvl),BJ (I0 es) (fun s=>s.2) i ks (s,out)=out++Hg es ks s
 |[],i,s,out=>by simp [BJ,Hg]
 |t::ks,i,s,out=>by
  unfold BJ I0 Hg;simp only;by_cases h:Cx es t=0
  ·rw [if_pos h,if_pos h];exact OO es ks (i+1) s out
  ·rw [if_neg h,if_neg h];refine (OO es ks (i+1) _ _).trans ?_;rw [append_assoc];rfl
theorem Lv (es:List (Int×Int)):∀(ks:List Int) (s:Int),(Hg es ks s).length≤ks.length
 |[],s=>le_refl _
 |t::ks,s=>by
  unfold Hg;split
  ·exact Nat.le_succ_of_le (Lv es ks s)
  ·exact Nat.succ_le_succ (Lv es ks _)
theorem KY (node:Int) (es:List (Int×Int)) (h:AW):(Br node es h).length≤es.length+2:=by
 unfold Br;split
 ·rw [Lm,Lm];split<;>split<;>omega
 ·omega
theorem Vr (node:Int) (l:List AW):(J0 node l).length≤2*l.length:=by
 have:∀(l:List AW) (es:List (Int×Int)),(l.foldl (Br node) es).length≤es.length+2*l.length:=fun l=>by
  induction l with
  |nil=>intro es;simp
  |cons a l ih=>
   intro es;rw [foldl_cons];have h1:=ih (Br node es a);have h2:=KY node es a;simp only [length_cons];omega
 have:=this l [];simpa [J0] using this
theorem IA (l:List AW) (node:Int):(levels l node).length≤2*l.length:=by unfold levels;refine le_trans (Lv _ _ _) ?_;rw [(Fx _).length_eq,length_map];exact Vr node l
theorem s98 (l:List AW) (node:Int) (hl:l.length≤10000):Al C 98 [.sl 5 (l.map AW.enc),tI node] [.sl 2 ((levels l node).map Lvl.enc)]:=by
 refine Al.of (fun n=>e98 n _ _) ?_;refine Aj (fun (r:List Lvl)=>[Tree.sl 2 (r.map Lvl.enc)]) l Vq (fun i es x =>.next (Br node es x)) (fun es=>Hg es (Ba (es.map (·.1))) 0) (fun i es=>es.length≤2*i∧i≤l.length) [] rfl (by simp) ?_
  (fun i es x hx hI=>Ev.of fun n again => ?_) (fun i es x s' hx hI h => ?_) (fun es hI => ?_)
 ·rw [Bf];rfl
 ·have hi:=AJ hx;have b1:es.length+1≤1073741824:=by omega
  have b2:es.length+2≤1073741824:=by omega
  have t1:∀(f:Int×Int→List Tree),take es.length (es.map f)=es.map f:=fun f=>take_of_length_le (by simp);simp only [Vq,vv,reduceCtorEq,reduceAdd,reduceEqDiff,hx,AW.enc,Rd.Ad,AS (show i<4611686018427387904 by omega),(show (i:Int)<l.length by omega),OV,t1];by_cases k0:x.node=node
  ·have e1:Br node es x=Dm (Dm es x.frm x.size) x.to (w64 (0-x.size)):=by simp only [Br,if_pos k0]
   have e2:BN x.frm (w64 ((Av x.frm es).getD 0+x.size)) es=Dm es x.frm x.size:=rfl;have e3:BN x.to (w64 ((Av x.to (Dm es x.frm x.size)).getD 0+w64 (0-x.size))) (Dm es x.frm x.size)=Dm (Dm es x.frm x.size) x.to (w64 (0-x.size)):=rfl;simp only [e1,e2,e3,k0,beq_self_eq_true,Lm,Td];by_cases k1:x.frm∈es.map (·.1)
   ·by_cases k2:x.to∈(Dm es x.frm x.size).map (·.1)
    ·simp only [k1,k2,vv,reduceCtorEq,reduceAdd,reduceEqDiff,append_nil,add_zero]
    ·simp only [k1,k2,vv,reduceCtorEq,reduceAdd,reduceEqDiff,append_nil,add_zero,b1,le_refl];rfl
   ·by_cases k2:x.to∈(Dm es x.frm x.size).map (·.1)
    ·simp only [k1,k2,vv,reduceCtorEq,reduceAdd,reduceEqDiff,append_nil,add_zero,b1,le_refl];rfl
    ·simp only [k1,k2,vv,reduceCtorEq,reduceAdd,reduceEqDiff,append_nil,add_zero,b1,b2,le_refl];have t2:take (es.length+1) (es.map (fun p=>encI p.1)++[[tI x.frm]])=es.map (fun p=>encI p.1)++[[tI x.frm]]:=take_of_length_le (by simp);rw [C4 (by simp),t2];rfl
  ·have e1:Br node es x=es:=by simp only [Br,if_neg k0]
   simp only [e1,beq_eq_false_iff_ne.2 k0,vv,reduceCtorEq,reduceAdd,reduceEqDiff]
 ·have hi:=AJ hx;simp only [Rd.next.injEq] at h;subst h;have:=KY node es x;omega
 ·have b1:es.length≤1073741824:=by omega
  have hk:∀es:List (Int×Int),es.map (fun p=>encI p.1)=(es.map (·.1)).map encI:=fun es=>by rw [map_map];rfl
  have t1:take es.length (es.map fun p=>encI p.1)=(es.map (·.1)).map encI:=by rw [hk];exact take_of_length_le (by simp)
  have hsl:(Ba (es.map (·.1))).length=es.length:=by rw [(Fx _).length_eq,length_map]
  have hrs:BB (es.map fun p=>encI p.1) 0 ((Ba (es.map (·.1))).map encI)=(Ba (es.map (·.1))).map encI:=H5 (by simp [hsl]);simp only [Vq,vv,reduceCtorEq,reduceAdd,reduceEqDiff,lt_irrefl,t1,le_refl,b1,Px,TM,hrs];generalize hks:Ba (es.map (·.1))=ks at hsl;refine Ev.mono (fun n h again=>h) ?_;refine Aj (fun (r:List Lvl)=>[Tree.sl 2 (r.map Lvl.enc)]) ks (Sg es ks) (I0 es) (fun s=>s.2) (fun i s=>s.2.length≤i∧i≤ks.length) (0,[]) (by simp only [Sg,hsl];rfl) (by simp) ?_
   (fun i s x hx hI=>Ev.of fun n again => ?_) (fun i s x s' hx hI h => ?_) (fun s hI=>Ev.of fun n again => ?_)
  ·rw [OO];rfl
  ·have hi:=AJ hx;have t3:take s.2.length (s.2.map Lvl.enc)=s.2.map Lvl.enc:=take_of_length_le (by simp);have b3:s.2.length+1≤1073741824:=by omega
   have b4:(i:Int)<(ks.length:Int):=by omega
   have e0:(Av x es).getD 0=Cx es x:=rfl;simp only [Sg,← hsl,vv,reduceCtorEq,reduceAdd,reduceEqDiff,hx,encI,b3,b4,le_refl,t3,e0,AS (show i<4611686018427387904 by omega),I0,Rd.Ad];by_cases h:Cx es x=0
   ·simp only [h,beq_self_eq_true,vv,reduceCtorEq,reduceAdd,reduceEqDiff]
   ·simp only [beq_eq_false_iff_ne.2 h,if_neg h,vv,reduceCtorEq,reduceAdd,reduceEqDiff,length_append,map_append,map_cons,map_nil,Lvl.enc]
  ·have hi:=AJ hx;unfold I0 at h;simp only [Rd.next.injEq] at h;subst h;split
   ·omega
   ·simp only [length_append,length_cons,length_nil];omega
  ·have t3:take s.2.length (s.2.map Lvl.enc)=s.2.map Lvl.enc:=take_of_length_le (by simp);simp only [Sg,← hsl,vv,reduceCtorEq,reduceAdd,reduceEqDiff,lt_irrefl,t3]
end Ab
namespace Ab
open Go
theorem VU {stop n t:Int} (hn:1≤n):∀(l:List Span) (at_:Int),at_≤t→t+n≤stop→(∀x∈l,x.to≤t∨t+n≤x.frm)→∃g∈A9 stop l at_,g.frm≤t∧t+n≤g.to
 |[],at_,h1,h2,_=>by unfold A9;rw [if_pos (by omega)];exact ⟨_,mem_singleton.2 rfl,h1,h2⟩
 |x::l,at_,h1,h2,h3=>by
  unfold A9;rcases h3 x (mem_cons_self ..) with hx|hx
  ·obtain ⟨g,g1,g2⟩:=VU hn l (if at_<x.to then x.to else at_) (by split<;>omega) h2 fun y hy=>h3 y (mem_cons_of_mem _ hy);exact ⟨g,mem_append_right _ g1,g2⟩
  ·rw [if_pos (by omega)];exact ⟨⟨at_,x.frm⟩,mem_append_left _ (mem_singleton.2 rfl),h1,hx⟩
theorem VO {stop n fr b:Int} {l:List Span} {lo at_:Int} (h:Row stop l lo) (hle:lo≤at_) (hb:FN n fr (A9 stop l at_)=some b) (hn:1≤n):at_≤b∧fr≤b∧b+n≤stop∧∀x∈l,x.to≤b∨b+n≤x.frm:=by obtain ⟨h1,g,g1,g2,g3⟩:=HG hb;have hm:=Dy l lo at_ h hle g g1;refine ⟨by omega,h1,by omega,fun x hx => ?_⟩;have:=F4 l lo at_ h hle g g1 x hx;omega
def Bg (s:List Span×Int) (t:Int):List Span×Int:=(if 0≤s.2∧s.2<t then s.1++[⟨s.2,t⟩] else s.1,-1)
def C8 (Q size:Int) (s:List Span×Int) (t st:Int):List Span×Int:=if Q-st<size then Bg s t else if s.2<0 then (s.1,t) else s
def BV (Q size:Int) (s:List Span×Int) (x:Lvl):List Span×Int:=if x.at_<1099511627776 then C8 Q size s x.at_ x.val else s
def Au (Q size:Int) (ls:List Lvl):List Span:=(Bg (ls.foldl (BV Q size) (C8 Q size ([],-1) 0 0)) 1099511627776).1
def Asc (l:List Span) (t:Int):Prop:=l.Pairwise (fun a b=>a.to≤b.frm)∧∀a∈l,0≤a.frm∧a.frm<a.to∧a.to≤t
theorem S4 {s:List Span×Int} {t u:Int} (h:Asc s.1 t) (hs:s.2 = -1∨(0≤s.2∧s.2≤t∧∀a∈s.1,a.to≤s.2)) (hu:t≤u):Asc (Bg s u).1 u:=by
 unfold Bg;have h0:Asc s.1 u:=⟨h.1,fun a ha=>by have:=h.2 a ha;omega⟩
 split
 ·rename_i hc;refine ⟨?_,fun a ha => ?_⟩
  ·rw [pairwise_append];refine ⟨h.1,by simp,fun a ha b hb => ?_⟩;cases mem_singleton.1 hb;rcases hs with hs|hs
   ·omega
   ·exact hs.2.2 a ha
  ·rcases mem_append.1 ha with ha|ha
   ·exact h0.2 a ha
   ·cases mem_singleton.1 ha;exact ⟨hc.1,hc.2,Int.le_refl _⟩
 ·exact h0
def WB (s:List Span×Int) (t:Int):Prop:=Asc s.1 t∧(s.2 = -1∨(0≤s.2∧s.2≤t∧∀a∈s.1,a.to≤s.2))
theorem SN {Q size st:Int} {s:List Span×Int} {t u:Int} (h:WB s t) (hu:t≤u) (h0:0≤u):WB (C8 Q size s u st) u:=by
 unfold C8;split
 ·exact ⟨S4 h.1 h.2 hu,.inl rfl⟩
 ·split
  ·exact ⟨⟨h.1.1,fun a ha=>by have:=h.1.2 a ha;omega⟩,.inr ⟨h0,Int.le_refl _,fun a ha=>by have:=h.1.2 a ha;omega⟩⟩
  ·rename_i h1 h2;refine ⟨⟨h.1.1,fun a ha=>by have:=h.1.2 a ha;omega⟩,.inr ?_⟩;rcases h.2 with h3|h3
   ·omega
   ·exact ⟨h3.1,by omega,h3.2.2⟩
theorem Jh {Q size:Int}:∀(ls:List Lvl) (s:List Span×Int) (t:Int),WB s t→0≤t→t≤1099511627776→ls.Pairwise (fun x y=>x.at_<y.at_)→(∀x∈ls,t≤x.at_)→∃u,u≤1099511627776∧WB (ls.foldl (BV Q size) s) u
 |[],s,t,h,_,h2,_,_=>⟨t,h2,h⟩
 |x::ls,s,t,h,h0,h2,hp,hl=>by
  rw [pairwise_cons] at hp;have hx:=hl x (mem_cons_self ..);rw [foldl_cons];unfold BV;split
  ·exact Jh ls _ x.at_ (SN h hx (by omega)) (by omega) (by omega) hp.2 fun y hy=>Int.le_of_lt (hp.1 y hy)
  ·exact Jh ls _ t h h0 h2 hp.2 fun y hy=>hl y (mem_cons_of_mem _ hy)
theorem TQ {Q size:Int} {ls:List Lvl} (hp:ls.Pairwise fun x y=>x.at_<y.at_) (h0:∀x∈ls,0≤x.at_):Asc (Au Q size ls) 1099511627776:=by
 have hst:WB (([],-1):List Span×Int) 0:=⟨⟨by simp,fun a ha=>by cases ha⟩,.inl rfl⟩
 obtain ⟨u,h1,h2⟩:=Jh (Q:=Q) (size:=size) ls _ 0 (SN (Q:=Q) (size:=size) (st:=0) hst (Int.le_refl _) (Int.le_refl _)) (Int.le_refl _) (by omega) hp h0;exact S4 h2.1 h2.2 h1
theorem asc_ne {l:List Span} {t:Int} (h:Asc l t):l.Pairwise fun a b=>a.frm≠b.frm:=by refine (List.Pairwise.and_mem.1 h.1).imp fun {a b} hab => ?_;have:=h.2 a hab.1;omega
end Ab
namespace Ab
open Go
def CG (q:List Int) (cs:List AA) (r:Rqt):Int:=
 if Ac q cs≠0 then 1 else if r.src<0∨(q.length:Int)≤r.src∨r.dst<0∨(q.length:Int)≤r.dst then 2 else if r.src=r.dst then 10
 else if r.size<1∨65536<r.size∨r.ready<0∨r.dead<r.ready∨1099511627776<r.dead then 2 else if r.prio<0∨2<r.prio then 8 else 0
theorem CV {q:List Int} {cs:List AA} {r:Rqt} (h:CG q cs r=0):Ac q cs=0∧0≤r.src∧r.src<q.length∧0≤r.dst∧r.dst<q.length∧r.src≠r.dst∧1≤r.size∧r.size≤65536∧0≤r.ready∧r.ready≤r.dead∧r.dead≤1099511627776∧0≤r.prio∧r.prio≤2:=by
 unfold CG at h;split at h
 ·cases h
 ·split at h
  ·cases h
  ·split at h
   ·cases h
   ·split at h
    ·cases h
    ·split at h
     ·cases h
     ·omega
def Bn (q:List Int) (cs:List AA) (bs:List AB) (hs:List AW):Int:=
 if Ac q cs≠0 then Ac q cs else if As q cs bs≠0 then As q cs bs else Cr q cs hs
def Dr (q:List Int) (cs:List AA) (bs:List AB) (hs:List AW):Int:=
 if Ac q cs≠0 then Ac q cs else if As q cs bs≠0 then As q cs bs else DT q cs hs
theorem N3 {q:List Int} {cs:List AA} {bs:List AB} {hs:List AW} (h:Dr q cs bs hs=0):Ac q cs=0∧As q cs bs=0∧DT q cs hs=0:=by unfold Dr at h;grind
theorem BY {q:List Int} {cs:List AA} {bs:List AB} {hs:List AW} (h:Bn q cs bs hs=0):Ac q cs=0∧As q cs bs=0∧Cr q cs hs=0:=by unfold Bn at h;grind
theorem KG {q:List Int} {cs:List AA} {bs:List AB} {hs:List AW} (h1:Ac q cs=0) (h2:As q cs bs=0) (h3:Cr q cs hs=0):Bn q cs bs hs=0:=by unfold Bn;rw [if_neg (by omega),if_neg (by omega),h3]
theorem PF {q:List Int} {cs:List AA} {bs:List AB} {hs:List AW} (h:Dr q cs bs hs=0):Bn q cs bs hs=0:=by obtain ⟨h1,h2,h3⟩:=N3 h;exact KG h1 h2 (PJ h3)
theorem DQ {q:List Int} {cs:List AA} (h:Ac q cs=0):∀c∈cs,AX c=0∧c.frm<q.length∧c.to<q.length:=fun c hc=>by
 have hp:=h;unfold Ac at h;split at h
 ·cases h
 ·split at h
  ·unfold OF at h;obtain ⟨j,hj,rfl⟩:=mem_iff_getElem.1 hc;have:=FX (step:=By q.length cs) (fun i x r hd=>by
    unfold By at hd;split at hd
    ·rename_i hz;cases hd;exact hz
    ·split at hd
     ·cases hd;decide
     ·split at hd
      ·cases hd;decide
      ·cases hd) cs 0 h j cs[j] (getElem?_eq_getElem hj)
   unfold By at this;split at this
   ·cases this
   ·split at this
    ·cases this
    ·rename_i h1 h2;exact ⟨by omega,by omega,by omega⟩
  ·cases h
def E9 (bs:List AB):Nat→List AA→List (List Span)
 |_,[]=>[]
 |k,c::l=>A9 c.stop (busy bs k) c.start::E9 bs (k+1) l
def CM (hs:List AW) (size:Int):Nat→List Int→List (List Span)
 |_,[]=>[]
 |n,Q::l=>Au Q size (levels hs n)::CM hs size (n+1) l
def gOf (q:List Int) (cs:List AA) (bs:List AB) (hs:List AW) (r:Rqt):Gr:=⟨cs,E9 bs 0 cs,CM hs r.size 0 q,cs.map fun c=>Fj c r.size,r⟩
theorem Na (bs:List AB):∀(l:List AA) (k j:Nat),(E9 bs k l).getD j []=match l[j]? with
  |some c=>A9 c.stop (busy bs (k+j:Nat)) c.start
  |none=>[]
 |[],k,j=>by simp [E9]
 |c::l,k,j=>by
  cases j with
  |zero=>simp [E9]
  |succ j=>
   have:=Na bs l (k+1) j;simp only [E9,List.getD_cons_succ,getElem?_cons_succ];rw [this,show k+1+j=k+(j+1) by omega]
theorem Eh (hs:List AW) (size:Int):∀(l:List Int) (k j:Nat),(CM hs size k l)[j]? = (l[j]?).map fun Q=>Au Q size (levels hs (k+j:Nat))
 |[],k,j=>by simp [CM]
 |c::l,k,j=>by
  cases j with
  |zero=>simp [CM]
  |succ j=>
   have:=Eh hs size l (k+1) j;simp only [CM,getElem?_cons_succ];rw [this,show k+1+j=k+(j+1) by omega]
theorem Du (hs:List AW) (size:Int):∀(l:List Int) (k:Nat),(CM hs size k l).length=l.length
 |[],k=>rfl
 |c::l,k=>by simp [CM,Du hs size l (k+1)]
theorem Jg {q:List Int} {hs:List AW} {size:Int} (hh:Hw q hs=0) (hl:hs.length≤10000):∀l∈CM hs size 0 q,Asc l 1099511627776:=fun l hm=>by
 obtain ⟨j,hj,rfl⟩:=mem_iff_getElem.1 hm;have h1:=Eh hs size q 0 j;rw [getElem?_eq_getElem hj] at h1;cases hQ:q[j]? with
 |none=>rw [hQ] at h1;cases h1
 |some Q=>
  rw [hQ] at h1;rw [Option.some.inj h1];have hs':=E5 (Kg hh) hl ((0+j:Nat):Int);exact TQ hs'.2 fun x hx=>(hs'.1 x hx).2.1
theorem MB {q:List Int} {cs:List AA} {bs:List AB} {hs:List AW} {r:Rqt} (ht:Bn q cs bs hs=0) (hr:CG q cs r=0):GOk (gOf q cs bs hs r) where
 src:=by have:=CV hr;refine ⟨this.2.1,?_,this.2.2.2.2.2.1⟩;show r.src<((CM hs r.size 0 q).length:Nat);rw [Du];exact this.2.2.1
 dur:=fun k hk=>by
  have hr':=CV hr;have hk':k<cs.length:=hk;have:(gOf q cs bs hs r).dur.getD k 0=Fj cs[k] r.size:=by show (cs.map fun c=>Fj c r.size).getD k 0=_;simp [List.getD,hk']
  rw [this];exact P7 (DQ hr'.1 _ (getElem_mem hk')).1 (by omega)
 con:=fun c hc=>by have hr':=CV hr;obtain ⟨h1,h2,h3⟩:=DQ hr'.1 c hc;have:=B0 h1;refine ⟨by omega,?_,by omega⟩;show c.to<((CM hs r.size 0 q).length:Nat);rw [Du];exact h3
 room:=fun l hl=>by obtain ⟨_,_,h3⟩:=BY ht;obtain ⟨_,h4,h5⟩:=Ez h3;exact asc_ne (Jg h5 (by omega) l hl)
def GA (ticket:Int) (h:Hop):AB:=⟨h.con,h.beg,h.stop,ticket⟩
def Bs (q:List Int) (cs:List AA):List AB→List AB→Option (List AB)
 |cur,[]=>some cur
 |cur,b::l=>if Fs q cs cur b≠0 then none else Bs q cs (Hk q cs cur b) l
end Ab
namespace Ab
open Go
def RFull (Q size:Int) (s:List Span×Int) (V:Int):Prop:=(Q-V<size∧s.2 = -1)∨(¬Q-V<size∧0≤s.2)
theorem QO {l:List AB} {k:Int} {x:Span} (hx:x∈busy l k):∃b∈l,b.contact=k∧x=⟨b.beg,b.stop⟩:=by
 unfold busy at hx;obtain ⟨b,h1,h2⟩:=mem_filterMap.1 hx;split at h2
 ·rename_i h3;exact ⟨b,h1,h3,(Option.some.inj h2).symm⟩
 ·cases h2
theorem Kn {q:List Int} {cs:List AA} {bs:List AB} {hs:List AW} {r:Rqt} {k:Nat} {c:AA} (hc:cs[k]? = some c):(gOf q cs bs hs r).gaps.getD k []=A9 c.stop (busy bs (k:Nat)) c.start∧(gOf q cs bs hs r).dur.getD k 0=Fj c r.size:=by
 constructor
 ·have:=Na bs cs 0 k;rw [hc,zero_add] at this;exact this
 ·show (cs.map fun c=>Fj c r.size).getD k 0=_;simp [List.getD,hc]
end Ab
namespace Ab
open Go
theorem LU {α:Type} {step:Nat→Unit→α→Rd Unit Int} (hd:∀i x r,step i () x = .done r→r≠0) (R:Int):∀(l:List α) (i:Nat),BJ step (fun _=>R) i l ()=if BJ step (fun _=>0) i l ()≠0 then BJ step (fun _=>0) i l () else R
 |[],i=>by simp [BJ]
 |x::l,i=>by
  have e:∀R:Int,BJ step (fun _=>R) i (x::l) ()=(step i () x).fin fun s=>BJ step (fun _=>R) (i+1) l s:=fun R=>by rw [BJ];cases step i () x<;>rfl
  rw [e,e];cases h:step i () x with
  |done r=>
   have:=hd i x r h;simp only [Rd.fin,ne_eq,this,not_false_eq_true,if_true]
  |next s=>exact LU hd R l (i+1)
theorem KR {q:List Int} {l:List AW} (i:Nat) (x:AW) (r:Int) (hd:CQ q l i () x = .done r):r≠0:=by
 unfold CQ at hd;split at hd
 ·cases hd;decide
 ·split at hd
  ·cases hd
  ·split at hd
   ·split at hd
    ·cases hd;decide
    ·cases hd
   ·cases hd
theorem planL {q:List Int} {cs:List AA} (h:Ac q cs=0):q.length≤16∧cs.length≤64∧1≤q.length:=by
 unfold Ac at h;split at h
 ·cases h
 ·omega
theorem s48 (q:List Int) (cs:List AA) (l:List AW):Al C 48 [.sl 1 (q.map encI),.sl 7 (cs.map AA.enc),.sl 5 (l.map AW.enc)] [tI (Cr q cs l)]:=by
 refine Al.of (fun n=>e48 n _ _ _) ?_;refine Ev.rw (T' := ?T') (s41 q cs) (fun n h => ?a) ?b
 case a=>
  simp only [h,vv,reduceCtorEq,reduceAdd,reduceEqDiff];rfl
 case b=>
  by_cases h1:Ac q cs=0∧l.length≤512
  ·have hql:=(planL h1.1).1;simp only [h1.1,bne_self_eq_false,(show ¬(512:Int)<l.length by omega),vv,reduceCtorEq,reduceAdd,reduceEqDiff,Cr,ne_eq,not_true_eq_false,(show ¬l.length>512 by omega)];refine Aj (fun r=>[tI r]) l (fun i _=>(([.t (tI i)],[]):List AV×Heap)) (CQ q l) (fun _=>BJ (En l) (fun _=>0) 0 q ()) (fun _ _=>True) () rfl trivial (by rw [LU KR];rfl)
    (fun i s b hx hI => ?_) (fun _ _ _ _ _ _ _=>trivial) (fun s hI => ?_)
   ·have hi:=AJ hx;by_cases hi0:i=0
    ·subst hi0;refine (s95 q cs b).mono fun n h again => ?_;simp only [vv,reduceCtorEq,reduceAdd,reduceEqDiff,hx,AW.enc,h,AS (show 0<4611686018427387904 by omega),(show ((0:Nat):Int)<l.length by omega),CQ];cases E8 q b<;>simp [AE,Rd.Ap,Rd.Ad]
    ·have hp:l[i-1]? = some l[i-1]:=getElem?_eq_getElem (by omega);refine ((s95 q cs b).and (s96 l[i-1] b)).mono fun n ⟨h,h2⟩ again => ?_;simp only [AW.enc,cons_append,nil_append] at h2;have e1:(i:Int)-1=((i-1:Nat):Int):=by omega
     simp only [vv,reduceCtorEq,reduceAdd,reduceEqDiff,hx,hp,AW.enc,h,h2,AS (show i<4611686018427387904 by omega),IU (show i<4611686018427387904 by omega) (by omega),(show ((i:Nat):Int)<l.length by omega),CQ,if_neg hi0,(show (0:Int)<(i:Int) by omega)];cases E8 q b
     ·simp [AE,Rd.Ap]
     ·have h3:=Nq l[i-1] b;simp only [AE];grind [Rd.Ap,Rd.Ad]
   ·simp only [vv,reduceCtorEq,reduceAdd,reduceEqDiff,lt_irrefl];refine Ev.mono (fun n h again=>h) ?_;refine Aj (fun r=>[tI r]) q (fun i _=>(([.t (tI i)],[]):List AV×Heap)) (En l) (fun _=>0) (fun _ _=>True) () rfl trivial rfl
     (fun i s b hx hI => ?_) (fun _ _ _ _ _ _ _=>trivial) (fun s hI=>Ev.of fun n again => ?_)
    ·have hi:=AJ hx;have hll:=IA l i;refine ((s98 l i (by omega)).and (s97 (levels l i) (by omega))).mono fun n ⟨h,h2⟩ again => ?_;simp only [vv,reduceCtorEq,reduceAdd,reduceEqDiff,hx,encI,h,h2,AS (show i<4611686018427387904 by omega),(show ((i:Nat):Int)<q.length by omega),En];by_cases hb:b<Pm (levels l i)<;>simp [hb,AE,Rd.Ap,Rd.Ad]
    ·simp only [vv,reduceCtorEq,reduceAdd,reduceEqDiff,lt_irrefl]
  ·refine Ev.of fun n => ?_;simp only [Cr];by_cases h2:Ac q cs=0
   ·simp only [h2,bne_self_eq_false,(show (512:Int)<l.length by omega),vv,reduceCtorEq,reduceAdd,reduceEqDiff,ne_eq,not_true_eq_false,(show l.length>512 by omega)]
   ·simp [h2,AE]
theorem s111 (q:List Int) (cs:List AA) (l:List AW) (hl:l.length≤10000) (hs:GN l) (hn:∀h∈l,0≤h.node∧h.node<q.length):Al C 111 [.sl 1 (q.map encI),.sl 7 (cs.map AA.enc),.sl 5 (l.map AW.enc)] [.bool (Nf q l)]:=by
 refine Al.of (fun n=>e111 n _ _ _) ?_;refine Aj (fun r=>[Tree.bool r]) l (fun i _=>(([.t (tI i)],[]):List AV×Heap)) (fun i _ x=>if decide (stored l x.node x.frm≤q.getD x.node.toNat 0)=true then .next () else .done false) (fun _=>true) (fun _ _=>True) () rfl trivial ?_
  (fun i s x hx hI => ?_) (fun _ _ _ _ _ _ _=>trivial) (fun s hI=>Ev.of fun n again => ?_)
 ·rw [Ii];unfold Nf;cases l.all fun h=>decide (stored l h.node h.frm≤q.getD h.node.toNat 0)<;>rfl
 ·have hi:=AJ hx;have hm:=hn x (mem_of_getElem? hx);have hq:q[x.node.toNat]? = some (q.getD x.node.toNat 0):=by rw [getElem?_eq_getElem (by omega)];simp [List.getD,getElem?_eq_getElem (show x.node.toNat<q.length by omega)]
  refine (s162 l x.node x.frm hl hs).mono fun n h again => ?_;simp only [vv,reduceCtorEq,reduceAdd,reduceEqDiff,hx,hq,AW.enc,encI,h,AS (show i<4611686018427387904 by omega),(show ((i:Nat):Int)<l.length by omega),hm.1];generalize q.getD x.node.toNat 0=Q;by_cases hb:stored l x.node x.frm≤Q
  ·simp only [hb,(show ¬Q<stored l x.node x.frm by omega),vv,reduceCtorEq,reduceAdd,reduceEqDiff,Rd.Ad]
  ·simp only [hb,(show Q<stored l x.node x.frm by omega),vv,reduceCtorEq,reduceAdd,reduceEqDiff,Rd.Ap]
 ·simp only [vv,reduceCtorEq,reduceAdd,reduceEqDiff,lt_irrefl]
theorem s58 (q:List Int) (cs:List AA) (l:List AW):Al C 58 [.sl 1 (q.map encI),.sl 7 (cs.map AA.enc),.sl 5 (l.map AW.enc)] [tI (DT q cs l)]:=by
 refine Al.of (fun n=>e58 n _ _ _) ?_;refine Ev.rw (T' := ?T') (s15 q cs) (fun n h => ?a) ?b
 case a=>
  simp only [h,vv,reduceCtorEq,reduceAdd,reduceEqDiff];rfl
 case b=>
  by_cases h1:Ac q cs=0∧l.length≤512
  ·simp only [h1.1,bne_self_eq_false,(show ¬(512:Int)<l.length by omega),vv,reduceCtorEq,reduceAdd,reduceEqDiff,DT,ne_eq,not_true_eq_false,(show ¬l.length>512 by omega)];refine Aj (fun r=>[tI r]) l (fun i _=>(([.t (tI i)],[]):List AV×Heap)) (CQ q l) (fun _=>if Nf q l=true then 0 else 15) (fun i _=>∀j x,j<i→l[j]? = some x→E8 q x=true) () rfl (fun j x h=>by omega) (by rw [LU KR];rfl)
    (fun i s b hx hI => ?_) (fun i s x s' hx hI h => ?_) (fun s hI => ?_)
   ·have hi:=AJ hx;by_cases hi0:i=0
    ·subst hi0;refine (s109 q cs b).mono fun n h again => ?_;simp only [vv,reduceCtorEq,reduceAdd,reduceEqDiff,hx,AW.enc,h,AS (show 0<4611686018427387904 by omega),(show ((0:Nat):Int)<l.length by omega),CQ];cases E8 q b<;>simp [AE,Rd.Ap,Rd.Ad]
    ·have hp:l[i-1]? = some l[i-1]:=getElem?_eq_getElem (by omega);refine ((s109 q cs b).and (s110 b l[i-1])).mono fun n ⟨h,h2⟩ again => ?_;simp only [AW.enc,cons_append,nil_append] at h2;simp only [vv,reduceCtorEq,reduceAdd,reduceEqDiff,hx,hp,AW.enc,h,h2,AS (show i<4611686018427387904 by omega),IU (show i<4611686018427387904 by omega) (by omega),(show ((i:Nat):Int)<l.length by omega),CQ,if_neg hi0,(show (0:Int)<(i:Int) by omega)];have h3:=Nq l[i-1] b;cases E8 q b
     ·simp [AE,Rd.Ap]
     ·simp only [AE];grind [Rd.Ap,Rd.Ad]
   ·intro j y hj hy;rcases lt_or_ge j i with h2|h2
    ·exact hI j y h2 hy
    ·obtain rfl:j=i:=by omega
     rw [hx] at hy;cases hy;unfold CQ at h;split at h
     ·cases h
     ·rename_i hv;simpa using hv
   ·have hv:∀x∈l,E8 q x=true:=fun x hx=>by obtain ⟨j,hj,rfl⟩:=mem_iff_getElem.1 hx;exact hI j _ hj (getElem?_eq_getElem hj)
    refine (s111 q cs l (by omega) (fun x hx=>by have:=L3 (hv x hx);omega) (fun x hx=>by have:=L3 (hv x hx);omega)).mono fun n h again => ?_;simp only [vv,reduceCtorEq,reduceAdd,reduceEqDiff,lt_irrefl,h];cases Nf q l<;>simp [AE]
  ·refine Ev.of fun n => ?_;simp only [DT];by_cases h2:Ac q cs=0
   ·simp only [h2,bne_self_eq_false,(show (512:Int)<l.length by omega),vv,reduceCtorEq,reduceAdd,reduceEqDiff,ne_eq,not_true_eq_false,(show l.length>512 by omega)]
   ·simp [h2,AE]
end Ab
namespace Ab
open Go
def Q2 (i:Nat) (s:List Span×Int):List AV×Heap:=([.t (tI i)],[.row false s.1.length 2 (s.1.map Span.enc),.box [.sref 0 s.1.length 0 s.1.length],.box [.t (tI s.2)],.box [.func (.func 145) [] [.ptr 2 0,.ptr 1 0]]])
theorem Ik (Q size:Int) (s:List Span×Int) (x:Lvl):(BV Q size s x).1.length≤s.1.length+1:=by
 unfold BV C8 Bg;split
 ·split
  ·simp only;split<;>simp
  ·split<;>simp
 ·simp
theorem s85 (q:List Int) (cs:List AA) (l:List AW) (h0:Cr q cs l=0) (node:Nat) (Q:Int) (hq:q[node]? = some Q) (size:Int) (z1:1≤size) (z2:size≤65536) :
  Al C 85 [.sl 1 (q.map encI),.sl 7 (cs.map AA.enc),.sl 5 (l.map AW.enc),tI node,tI size] [.sl 2 ((Au Q size (levels l node)).map Span.enc),tI 0]:=by
 obtain ⟨p1,p2,p3⟩:=Ez h0;have hs:=Kg p3;have hql:=(planL p1).1;have hQ:=Ip p1 Q (mem_of_getElem? hq);have hn:=AJ hq;have hlev:=(E5 hs (by omega) node).1;have hll:=IA l node;refine Al.of (fun n=>e85 n _ _ _ _ _) ?_;refine Ev.rw (T' := ?T') ((s48 q cs l).and (s98 l node (by omega))) (fun n h => ?a) ?b
 case a=>
  simp only [h.1,h.2,vv,reduceCtorEq,reduceAdd,reduceEqDiff,h0,bne_self_eq_false,hq,encI,(show ¬(node:Int)<0 by omega),(show ¬(q.length:Int)≤(node:Int) by omega),(show ¬size<1 by omega),(show ¬65536<size by omega)];rfl
 case b=>
  have hv:∀(i:Nat) (x:Lvl),(levels l node)[i]? = some x→0≤x.at_∧0≤x.val∧x.val≤33554432:=fun i x hx=>by have h1:=hlev x (mem_of_getElem? hx);have h2:=Ic hs node x.at_;refine ⟨h1.2.1,by omega,by omega⟩
  have w0:w64 (Q-0)=Q-0:=A6 (by omega) (by omega);have hstep:∀(i:Nat) (s:List Span×Int) (x:Lvl),(levels l node)[i]? = some x→s.1.length≤i+1∧(s.2 = -1∨0≤s.2)→(BV Q size s x).1.length≤i+1+1∧((BV Q size s x).2 = -1∨0≤(BV Q size s x).2):=fun i s x hx hI=>by
   have h1:=Ik Q size s x;have h2:=hv i x hx;refine ⟨by omega,?_⟩;unfold BV C8 Bg;split
   ·split
    ·exact .inl rfl
    ·split
     ·exact .inr h2.1
     ·exact hI.2
   ·exact hI.2
  rw [w0];have hrun:∀(s:List Span×Int),BJ (fun _ (s:List Span×Int) (x:Lvl)=>(.next (BV Q size s x):Rd (List Span×Int) (List Span))) (fun s=>(Bg s 1099511627776).1) 0 (levels l node) s=(Bg ((levels l node).foldl (BV Q size) s) 1099511627776).1:=fun s=>by rw [Bf]
  by_cases hc:Q-0<size
  all_goals
   simp only [hc,vv,reduceCtorEq,reduceAdd,reduceEqDiff];refine Aj (fun (r:List Span)=>[Tree.sl 2 (r.map Span.enc),tI 0]) (levels l node) Q2 (fun _ s x =>.next (BV Q size s x)) (fun s=>(Bg s 1099511627776).1) (fun i s=>s.1.length≤i+1∧(s.2 = -1∨0≤s.2)) (C8 Q size ([],-1) 0 0) ?_ ?_ (hrun _)
    (fun i s x hx hI=>Ev.of fun n again => ?_) (fun i s x s' hx hI h => ?_) (fun s hI=>Ev.of fun n again => ?_)
   ·simp only [C8,hc,if_true,if_false,Bg];rfl
   ·simp only [C8,hc,if_true,if_false,Bg];simp
   ·have hi:=AJ hx;have hvx:=hv i x hx;have b1:s.1.length+1≤1073741824:=by omega
    have t3:take s.1.length (s.1.map Span.enc)=s.1.map Span.enc:=take_of_length_le (by simp);have w1:w64 (Q-x.val)=Q-x.val:=A6 (by omega) (by omega);simp only [Q2,vv,reduceCtorEq,reduceAdd,reduceEqDiff,hx,Lvl.enc,hq,encI,w1,b1,t3,le_refl,AS (show i<4611686018427387904 by omega),(show (i:Int)<(levels l node).length by omega),Rd.Ad,BV,C8,Bg];by_cases k1:x.at_<1099511627776
    ·by_cases k2:Q-x.val<size
     ·by_cases k3:0≤s.2
      ·by_cases k4:s.2<x.at_
       ·simp only [k1,k2,k3,k4,vv,reduceCtorEq,reduceAdd,reduceEqDiff,length_append,map_append,map_cons,map_nil,Span.enc]
       ·simp only [k1,k2,k3,k4,vv,reduceCtorEq,reduceAdd,reduceEqDiff]
      ·simp only [k1,k2,k3,vv,reduceCtorEq,reduceAdd,reduceEqDiff]
     ·by_cases k3:s.2<0
      ·simp only [k1,k2,k3,vv,reduceCtorEq,reduceAdd,reduceEqDiff]
      ·simp only [k1,k2,k3,vv,reduceCtorEq,reduceAdd,reduceEqDiff]
    ·simp only [k1,vv,reduceCtorEq,reduceAdd,reduceEqDiff]
   ·have hi:=AJ hx;simp only [Rd.next.injEq] at h;subst h;exact hstep i s x hx hI
   ·have b1:s.1.length+1≤1073741824:=by omega
    have t3:take s.1.length (s.1.map Span.enc)=s.1.map Span.enc:=take_of_length_le (by simp);simp only [Q2,vv,reduceCtorEq,reduceAdd,reduceEqDiff,lt_irrefl,b1,t3,le_refl,Bg];by_cases k3:0≤s.2
    ·by_cases k4:s.2<1099511627776
     ·have t4:take (s.1.length+1) (s.1.map Span.enc++[[tI s.2,tI 1099511627776]])=s.1.map Span.enc++[[tI s.2,tI 1099511627776]]:=take_of_length_le (by simp);simp only [k3,k4,vv,reduceCtorEq,reduceAdd,reduceEqDiff,map_append,map_cons,map_nil,Span.enc,t4]
     ·simp only [k3,k4,vv,reduceCtorEq,reduceAdd,reduceEqDiff]
    ·simp only [k3,vv,reduceCtorEq,reduceAdd,reduceEqDiff]
end Ab
namespace Ab
open Go
theorem s17 (q:List Int) (cs:List AA) (bs:List AB) (hs:List AW):Al C 17 [.sl 1 (q.map encI),.sl 7 (cs.map AA.enc),.sl 4 (bs.map AB.enc),.sl 5 (hs.map AW.enc)] [tI (Bn q cs bs hs)]:=by refine Al.of (fun n=>e17 n _ _ _ _) ?_;refine ((s41 q cs).and ((s13 q cs bs).and (s48 q cs hs))).mono fun n ⟨h1,h2,h3⟩=> ?_;simp only [h1,h2,h3,vv,reduceCtorEq,reduceAdd,reduceEqDiff,Bn,bne_iff_ne,Fv]
theorem s24 (q:List Int) (cs:List AA) (bs:List AB) (hs:List AW):Al C 24 [.sl 1 (q.map encI),.sl 7 (cs.map AA.enc),.sl 4 (bs.map AB.enc),.sl 5 (hs.map AW.enc)] [tI (Dr q cs bs hs)]:=by refine Al.of (fun n=>e24 n _ _ _ _) ?_;refine ((s15 q cs).and ((s57 q cs bs).and (s58 q cs hs))).mono fun n ⟨h1,h2,h3⟩=> ?_;simp only [h1,h2,h3,vv,reduceCtorEq,reduceAdd,reduceEqDiff,Dr,bne_iff_ne,Fv]
theorem s71 (q:List Int) (cs:List AA) (r:Rqt):Al C 71 [.sl 1 (q.map encI),.sl 7 (cs.map AA.enc),tI r.src,tI r.dst,tI r.size,tI r.ready,tI r.dead,tI r.prio,.bool r.cust] [tI (CG q cs r)]:=by refine Al.of (fun n=>e71 n _ _ _ _ _ _ _ _ _) ?_;refine (s41 q cs).mono fun n h1 => ?_;simp only [h1,vv,reduceCtorEq,reduceAdd,reduceEqDiff,CG,bne_iff_ne,beq_iff_eq,Fv];congr 3;omega
theorem s25 (q:List Int) (cs:List AA) (r:Rqt):Al C 25 [.sl 1 (q.map encI),.sl 7 (cs.map AA.enc),tI r.src,tI r.dst,tI r.size,tI r.ready,tI r.dead,tI r.prio,.bool r.cust] [tI (CG q cs r)]:=by refine Al.of (fun n=>e25 n _ _ _ _ _ _ _ _ _) ?_;refine (s15 q cs).mono fun n h1 => ?_;simp only [h1,vv,reduceCtorEq,reduceAdd,reduceEqDiff,CG,bne_iff_ne,beq_iff_eq,Fv];congr 3;omega
end Ab
namespace Ab
open Go
theorem OR (l:List AB):A7 4 (l.map AB.enc)=true:=by simp [A7,AB.enc,I3]
def lift {α:Type} (enc:α→List Tree) (dec:List Tree→α) (F:List (List Tree)→List (List Tree)) (l:List α):List α:=(F (l.map enc)).map dec
theorem Pn {α:Type} {enc:α→List Tree} {dec:List Tree→α} {F:List (List Tree)→List (List Tree)} (hde:∀x,dec (enc x)=x) (hF:∀d,(F d).Perm d) (l:List α):(lift enc dec F l).map enc=F (l.map enc):=by unfold lift;rw [map_map];refine (map_congr_left fun y hy => ?_).trans (map_id _);obtain ⟨x,_,rfl⟩:=mem_map.1 ((hF _).mem_iff.1 hy);simp only [Function.comp,hde,id]
theorem NS {α:Type} {enc:α→List Tree} {dec:List Tree→α} {F:List (List Tree)→List (List Tree)} (hde:∀x,dec (enc x)=x) (hF:∀d,(F d).Perm d) (l:List α):(lift enc dec F l).Perm l:=by have h1:=(hF (l.map enc)).map dec;rw [map_map] at h1;have h2:l.map (dec ∘ enc)=l:=(map_congr_left fun x _=>hde x).trans (map_id l);rw [h2] at h1;exact h1
def Sy (e:List Tree):AB:=⟨intOf (e.getD 0 default),intOf (e.getD 1 default),intOf (e.getD 2 default),intOf (e.getD 3 default)⟩
theorem KW (h:AB):Sy h.enc=h:=rfl
noncomputable def sbI:List AB→List AB:=lift AB.enc Sy (Hn (BH [0,1]))
theorem sbI_enc (l:List AB):(sbI l).map AB.enc=Hn (BH [0,1]) (l.map AB.enc):=Pn KW (fun d=>Ed (Bm _) d) l
theorem GS (l:List AB):(sbI l).Perm l:=NS KW (fun d=>Ed (Bm _) d) l
end Ab
namespace Ab
open Go
def Vv (i:Nat) (s:List AB):List AV×Heap:=([.sref 0 s.length 0 s.length,.t (tI i)],[.row false s.length 4 (s.map AB.enc)])
theorem s11 (l:List Hop) (hl:l.length≤39) (ticket:Int):Al C 11 [.sl 4 (l.map Hop.enc),tI ticket] [.sl 4 ((sbI (l.map (GA ticket))).map AB.enc)]:=by
 refine Al.of (fun n=>e11 n _ _) ?_;refine Aj (fun (o:List AB)=>[Tree.sl 4 ((sbI o).map AB.enc)]) l Vv (fun _ s x =>.next (s++[GA ticket x])) (fun s=>s) (fun i s=>s.length=i∧i≤l.length) [] rfl (by simp) ?_
  (fun i s x hx hI=>Ev.of fun n again => ?_) (fun i s x s' hx hI h => ?_) (fun s hI=>Ev.of fun n again => ?_)
 ·rw [Bf];have:∀(l:List Hop) (s:List AB),l.foldl (fun s x=>s++[GA ticket x]) s=s++l.map (GA ticket):=fun l=>by
   induction l with
   |nil=>intro s;simp
   |cons a l ih=>intro s;rw [foldl_cons,ih];simp
  exact (this l []).trans (nil_append _)
 ·have hi:=AJ hx;have b1:s.length+1≤1073741824:=by omega
  have t3:take s.length (s.map AB.enc)=s.map AB.enc:=take_of_length_le (by simp);simp only [Vv,vv,reduceCtorEq,reduceAdd,reduceEqDiff,hx,Hop.enc,AS (show i<4611686018427387904 by omega),(show (i:Int)<l.length by omega),b1,t3,le_refl,Rd.Ad,length_append,map_append,map_cons,map_nil,AB.enc,GA]
 ·have hi:=AJ hx;simp only [Rd.next.injEq] at h;subst h;simp only [length_append,length_cons,length_nil];omega
 ·have b1:s.length≤39:=by omega
  have t3:take s.length (s.map AB.enc)=s.map AB.enc:=take_of_length_le (by simp);have e1:BB (s.map AB.enc) 0 ((sbI s).map AB.enc)=(sbI s).map AB.enc:=H5 (by simp [(GS s).length_eq]);have t4:take s.length ((sbI s).map AB.enc)=(sbI s).map AB.enc:=take_of_length_le (by simp [(GS s).length_eq]);simp only [Vv,vv,reduceCtorEq,reduceAdd,reduceEqDiff,lt_irrefl,b1,t3,le_refl,OR,← sbI_enc,e1,t4]
def L7 (q:List Int) (cs:List AA):Bool:=decide (6<q.length∨10<cs.length)
theorem s56 (q:List Int) (cs:List AA):Al C 56 [.sl 1 (q.map encI),.sl 7 (cs.map AA.enc)] [.bool (L7 q cs)]:=by
 refine Al.of (fun n=>e56 n _ _) (Ev.of fun n => ?_);have e1:(6:Int)<(q.length:Int)↔6<q.length:=by omega
 have e2:(10:Int)<(cs.length:Int)↔10<cs.length:=by omega
 simp only [L7,vv,reduceCtorEq,reduceAdd,reduceEqDiff,AE,e1,e2];by_cases h1:6<q.length<;>by_cases h2:10<cs.length<;>simp [h1,h2]
def L6 (q:List Int) (cs:List AA) (bs:List AB) (hs:List AW):Bool:=L7 q cs||decide (30<bs.length)||decide (30<hs.length)
theorem s23 (q:List Int) (cs:List AA) (bs:List AB) (hs:List AW):Al C 23 [.sl 1 (q.map encI),.sl 7 (cs.map AA.enc),.sl 4 (bs.map AB.enc),.sl 5 (hs.map AW.enc)] [.bool (L6 q cs bs hs)]:=by
 refine Al.of (fun n=>e23 n _ _ _ _) ?_;refine (s56 q cs).mono fun n h => ?_;have e1:(30:Int)<(bs.length:Int)↔30<bs.length:=by omega
 have e2:(30:Int)<(hs.length:Int)↔30<hs.length:=by omega
 simp only [h,vv,reduceCtorEq,reduceAdd,reduceEqDiff,L6,AE,e1,e2];cases L7 q cs<;>by_cases h1:30<bs.length<;>by_cases h2:30<hs.length<;>simp [h1,h2]
def Ss (q:List Int) (cs:List AA) (bs:List AB) (hs:List AW) (r:Rqt):Bool := !L6 q cs bs hs&&decide (Dr q cs bs hs=0)&&decide (CG q cs r=0)
theorem s6 (q:List Int) (cs:List AA) (bs:List AB) (hs:List AW) (r:Rqt):Al C 6 [.sl 1 (q.map encI),.sl 7 (cs.map AA.enc),.sl 4 (bs.map AB.enc),.sl 5 (hs.map AW.enc),tI r.src,tI r.dst,tI r.size,tI r.ready,tI r.dead,tI r.prio,.bool r.cust] [.bool (Ss q cs bs hs r)]:=by refine Al.of (fun n=>e6 n _ _ _ _ _ _ _ _ _ _ _) ?_;refine ((s23 q cs bs hs).and ((s24 q cs bs hs).and (s25 q cs r))).mono fun n ⟨h1,h2,h3⟩=> ?_;simp only [h1,h2,h3,vv,reduceCtorEq,reduceAdd,reduceEqDiff,Ss,AE,beq_iff_eq];cases L6 q cs bs hs<;>by_cases k1:Dr q cs bs hs=0<;>by_cases k2:CG q cs r=0<;>simp [k1,k2]
end Ab
namespace Ab
open Go
theorem find3 (a b c:Int):(([a,b,c]).find? (· ≠ 0)).getD 0=if a≠0 then a else if b≠0 then b else c:=by by_cases h1:a=0<;>by_cases h2:b=0<;>by_cases h3:c=0<;>simp [h1,h2,h3]
theorem s88 (a b:Lab):Al C 88 (a.enc++b.enc) [tI (Jy a b)]:=by refine Al.of (fun n=>e88 n _ _ _ _ _ _ _ _) ?_;refine ((s35 a.time b.time).and ((s35 a.node b.node).and ((s35 a.frm b.frm).and (s34 [C5 a.time b.time,C5 a.node b.node,C5 a.frm b.frm] (by simp))))).mono fun n ⟨h1,h2,h3,h4⟩=> ?_;simp only [map_cons,map_nil,encI] at h4;rw [find3] at h4;simp only [h1,h2,h3,h4,vv,reduceCtorEq,reduceAdd,reduceEqDiff,zh0,zh1,zh2,zh3,zh4,zh5,zh6,zo0,zo1];rfl
theorem s91 (a b:Lab):Al C 91 (a.enc++b.enc) [.bool (Az a b)]:=by refine Al.of (fun n=>e91 n _ _ _ _ _ _ _ _) (Ev.of fun n => ?_);simp only [vv,reduceCtorEq,reduceAdd,reduceEqDiff,zh0,zh1,zh2,zh3,zh4,zh5,zh6,zo0,zo1,Az,beq_iff_eq];by_cases h1:a.node=b.node<;>by_cases h2:a.frm=b.frm<;>simp [h1,h2,AE]
structure Tb where
 q:List Int
 cs:List AA
 bs:List AB
 hs:List AW
 r:Rqt
def Tb.g (T:Tb):Gr:=gOf T.q T.cs T.bs T.hs T.r
def spE (l:List Span):List Tree:=[.sl 2 (l.map Span.enc)]
def gH (T:Tb) (ga ro:List (List Span)) (du:List Int) (suf:Heap):Heap:=
 .row false ga.length 1 (ga.map spE) :: .row false ro.length 1 (ro.map spE) :: .row false du.length 1 (du.map encI) ::
 .box [.t (.sl 1 (T.q.map encI)),.t (.sl 7 (T.cs.map AA.enc)),.t (.sl 4 (T.bs.map AB.enc)),.t (.sl 5 (T.hs.map AW.enc)),.t (tI T.r.src),.t (tI T.r.dst),.t (tI T.r.size),.t (tI T.r.ready),.t (tI T.r.dead),.t (tI T.r.prio),.t (.bool T.r.cust),
  .sref 0 ga.length 0 ga.length,.sref 1 ro.length 0 ro.length,.sref 2 du.length 0 du.length]::suf
structure LSt where
 done:List Lab
 vo:Nat
 opn:List Lab
 jk:List (List Tree)
def LSt.push (s:LSt) (y:Lab):LSt:=⟨s.done,s.vo+1,s.opn++[y],[]⟩
def lH (T:Tb) (s:LSt) (suf:Heap):Heap:=
 gH T T.g.gaps T.g.Au T.g.dur (.box [.ptr 3 0] :: .box [.ptr 3 0] :: .row false s.done.length 4 (s.done.map Lab.enc) :: .box [.sref 6 s.done.length 0 s.done.length] :: .row false s.vo 4 (s.opn.map Lab.enc++s.jk) :: .box [.sref 8 s.vo 0 s.opn.length]::suf)
def xA (x:Lab):List AV:=[.t (tI x.node),.t (tI x.frm),.t (tI x.to),.t (tI x.time)]
def rgE (a:Span):List Tree:=[tI a.frm,tI a.to]
def hpA:Option Hop→List AV
 |none=>[.t (tI 0),.t (tI 0),.t (tI 0),.t (tI 0),.t (.bool false)]
 |some h=>[.t (tI h.con),.t (tI h.beg),.t (tI h.stop),.t (tI h.arr),.t (.bool true)]
def Bp:AF :=.box [.t (tI 0),.t (tI 0),.t (tI 0),.t (tI 0)]
def CI (fr:Int) (x:Span):Int:=if fr>x.frm then fr else x.frm
def E7 (c:AA) (k:Nat) (n fr:Int) (_:Nat) (_:Unit) (x:Span):Rd Unit (Option Hop):=if CI fr x+n≤x.to then .done (some ⟨k,CI fr x,CI fr x+n,CI fr x+n+c.rng⟩) else .next ()
theorem Km (c:AA) (k:Nat) (n fr:Int):∀(gs:List Span) (i:Nat),BJ (E7 c k n fr) (fun _=>none) i gs ()=IC k c n gs fr
 |[],i=>rfl
 |x::l,i=>by
  unfold BJ E7 IC FN;by_cases h:CI fr x+n≤x.to
  ·have h':(if fr>x.frm then fr else x.frm)+n≤x.to:=h;simp only [if_pos h,if_pos h',map_some];rfl
  ·have h':¬(if fr>x.frm then fr else x.frm)+n≤x.to:=h;simp only [if_neg h,if_neg h'];exact Km c k n fr l (i+1)
def Sm (x:Int):Prop := -4398046511104≤x∧x≤4398046511104
theorem Qx {x y:Int} (hx:Sm x) (hy:Sm y):w64 (x+y)=x+y:=by unfold Sm at hx hy;exact A6 (by omega) (by omega)
theorem hop42 (T:Tb) (s:LSt) (x:Lab) (hp:Heap) (rm:Span) (k:Nat) (c:AA) (hk:T.cs[k]? = some c) (d:Int) (hd:Sm d) (ht:Sm x.time) (hr:Sm rm.frm) (hc:0≤c.rng∧c.rng≤1048576) (kh:Heap)
  (gs:List Span) (hgs:∀a∈gs,Sm a.frm∧Sm a.to) (hgl:gs.length≤100000) :
  Ev fun n=>∀z,AI (fun p again=>Kw n (spE gs) (rgE rm) (xA x,hp) [tI d] ([.t (tI k)],kh) z p again) n ([.t (tI (0:Nat))],lH T s [.box [],.box [.ptr 3 0],.box [],.box [],.box [],Bp])
   = z (hpA (IC k c d gs (if rm.frm>x.time then rm.frm else x.time)),lH T s [.box [],.box [.ptr 3 0],.box [],.box [],.box []]):=by
 refine A3 gs (fun i _=>(([.t (tI i)],lH T s [.box [],.box [.ptr 3 0],.box [],.box [],.box [],Bp]):List AV×Heap)) (E7 c k d (if rm.frm>x.time then rm.frm else x.time)) (fun _=>none)
  (fun (z:List AV×Heap→Option (List Tree)) o=>z (hpA o,lH T s [.box [],.box [.ptr 3 0],.box [],.box [],.box []])) (fun _ _=>True) () rfl trivial (Km c k d _ gs 0)
  (fun i s' a ha hI=>Ev.of fun n z again => ?_) (fun _ _ _ _ _ _ _=>trivial) (fun s' hI=>Ev.of fun n z again => ?_)
 ·have hi:=AJ ha;obtain ⟨h1,h2⟩:=hgs a (mem_of_getElem? ha);have hb:Sm (CI (if rm.frm>x.time then rm.frm else x.time) a):=by unfold CI Sm at *;omega
  have e1:w64 (CI (if rm.frm>x.time then rm.frm else x.time) a+d)=CI (if rm.frm>x.time then rm.frm else x.time) a+d:=Qx hb hd;have e3:w64 (CI (if rm.frm>x.time then rm.frm else x.time) a+d+c.rng)=CI (if rm.frm>x.time then rm.frm else x.time) a+d+c.rng:=by unfold Sm at hb hd;exact A6 (by omega) (by omega)
  have e4:(if (if rm.frm>x.time then rm.frm else x.time)>a.frm then (if rm.frm>x.time then rm.frm else x.time) else a.frm)=CI (if rm.frm>x.time then rm.frm else x.time) a:=rfl;simp only [gt_iff_lt] at e1 e3 e4;simp only [Kw,lH,gH,spE,rgE,xA,Bp,vv,reduceCtorEq,reduceAdd,reduceEqDiff,zh0,zh1,zh2,zh3,zh4,zh5,zh6,zo0,zo1,ha,Span.enc,e1,e3,e4,hk,AA.enc,(show (i:Int)<gs.length by omega),AS (show i<4611686018427387904 by omega),E7];by_cases hc2:CI (if x.time<rm.frm then rm.frm else x.time) a+d≤a.to
  ·simp only [hc2,vv,reduceCtorEq,reduceAdd,reduceEqDiff,zh0,zh1,zh2,zh3,zh4,zh5,zh6,zo0,zo1,Rd.Ap,hpA]
  ·simp only [hc2,vv,reduceCtorEq,reduceAdd,reduceEqDiff,zh0,zh1,zh2,zh3,zh4,zh5,zh6,zo0,zo1,Rd.Ad]
 ·simp only [Kw,lH,gH,spE,rgE,xA,Bp,vv,reduceCtorEq,reduceAdd,reduceEqDiff,zh0,zh1,zh2,zh3,zh4,zh5,zh6,zo0,zo1,lt_irrefl,hpA]
end Ab
namespace Ab
open Go
def LSt.mv (T:Tb) (s:LSt) (m:Lab×Hop):LSt:=if (decide (m.1.node≠T.r.dst) && !s.done.any fun y=>Az m.1 y)=true then s.push m.1 else s
def LSt.mvO (T:Tb) (s:LSt):Option (Lab×Hop)→LSt
 |none=>s
 |some m=>s.mv T m
def Ke (T:Tb) (x:Lab) (c:AA) (rm:Span) (h:Hop):Bool:=decide (FK T.r c h>x.to∨h.arr>T.r.dead∨(c.to≠T.r.dst∧h.arr≥rm.to))
def mvH (T:Tb) (x:Lab) (c:AA) (rm:Span):Option Hop→Option (Lab×Hop)
 |none=>none
 |some h=>if FK T.r c h>x.to∨h.arr>T.r.dead∨(c.to≠T.r.dst∧h.arr≥rm.to) then none else some (⟨c.to,rm.frm,rm.to,h.arr⟩,h)
theorem con44 (T:Tb) (s:LSt) (hl:s.done.length≤100000) (y:Lab) (c:AA) (rm:Span) (hy:y.node=c.to∧y.frm=rm.frm∧y.to=rm.to) (e:List AV) (p183:List AV×Heap) (h1:AM p183 7 0=s.done.length) (h2:AK p183 7 0=s.done.length) (h3:AU p183 7 0=0)
  (p175:List AV×Heap) (h4:vI p175 3=y.time) :
  Ev fun n=>∀z,AI (fun p again=>Kv n p183 c.enc (rgE rm) p175 z p again) n ([.t (tI (0:Nat))],lH T s [.box [],.box [.ptr 3 0],.box [],.box [],.box [],.box [],.box []])
   = z ([.t (tI (idx (fun b=>Az y b) s.done))],lH T s [.box [],.box [.ptr 3 0],.box [],.box [],.box [],.box [],.box []]):=by
 obtain ⟨y1,y2,y3⟩:=hy;refine A3 s.done (fun i _=>(([.t (tI i)],lH T s [.box [],.box [.ptr 3 0],.box [],.box [],.box [],.box [],.box []]):List AV×Heap)) (fun i _ b=>if Az y b=true then .done (i:Int) else .next ()) (fun _ => -1)
  (fun (z:List AV×Heap→Option (List Tree)) (o:Int)=>z ([.t (tI o)],lH T s [.box [],.box [.ptr 3 0],.box [],.box [],.box [],.box [],.box []])) (fun _ _=>True) () rfl trivial (Ng _ s.done)
  (fun i s' a ha hI => ?_) (fun _ _ _ _ _ _ _=>trivial) (fun s' hI=>Ev.of fun n z again => ?_)
 ·have hi:=AJ ha;refine (s91 y a).mono fun n h z again => ?_;simp only [Lab.enc,cons_append,nil_append,y1,y2,y3] at h;simp only [Kv,lH,gH,rgE,h1,h2,h3,h4,vv,reduceCtorEq,reduceAdd,reduceEqDiff,zh0,zh1,zh2,zh3,zh4,zh5,zh6,zo0,zo1,ha,Lab.enc,AA.enc,h,(show (i:Int)<s.done.length by omega),AS (show i<4611686018427387904 by omega)];cases Az y a<;>simp [AE,Rd.Ap,Rd.Ad]
 ·simp only [Kv,lH,gH,rgE,h1,h2,h3,h4,vv,reduceCtorEq,reduceAdd,reduceEqDiff,zh0,zh1,zh2,zh3,zh4,zh5,zh6,zo0,zo1,lt_irrefl]
theorem mv50 (T:Tb) (s:LSt) (hl:s.done.length≤100000) (ho:s.opn.length≤10000000) (x:Lab) (hp:Heap) (rm:Span) (k:Nat) (c:AA) (hk:T.cs[k]? = some c) (hc:0≤c.rng∧c.rng≤1048576) (o:Option Hop) (hh:∀h,o=some h→h.con=k∧Sm h.stop) :
  Ev fun n=>∀z,GG n z c.enc (rgE rm) (xA x,hp) (hpA o,lH T s [.box [],.box [.ptr 3 0],.box [],.box [],.box []])=z ([],lH T (s.mvO T (mvH T x c rm o)) [.box [],.box [.ptr 3 0],.box [],.box []]):=by
 cases o with
 |none=>
  refine Ev.of fun n z => ?_;simp only [GG,EX,lH,gH,hpA,mvH,LSt.mvO,vv,reduceCtorEq,reduceAdd,reduceEqDiff,zh0,zh1,zh2,zh3,zh4,zh5,zh6,zo0,zo1]
 |some h=>
  obtain ⟨c1,c2⟩:=hh h rfl;have e1:w64 (2*c.rng)=2*c.rng:=A6 (by omega) (by omega);have e2:w64 (h.stop+2*c.rng)=h.stop+2*c.rng:=by unfold Sm at c2;exact A6 (by omega) (by omega)
  have hA:∀n z,GG n z c.enc (rgE rm) (xA x,hp) (hpA (some h),lH T s [.box [],.box [.ptr 3 0],.box [],.box [],.box []])=
    EX n z c.enc (rgE rm) (hpA (some h),lH T s [.box [],.box [.ptr 3 0],.box [],.box [],.box []]) ([.t (.bool (Ke T x c rm h))],lH T s [.box [],.box [.ptr 3 0],.box [],.box [],.box [],.box []]):=fun n z=>by
   have hB:∀lv:Int,∀w,K8 n (xA x,hp) w (hpA (some h),lH T s [.box [],.box [.ptr 3 0],.box [],.box [],.box []]) c.enc (rgE rm) ([.t (tI lv)],lH T s [.box [],.box [.ptr 3 0],.box [],.box [],.box [],.box []])=
     w ([.t (.bool (decide (lv>x.to∨h.arr>T.r.dead∨(c.to≠T.r.dst∧h.arr≥rm.to))))],lH T s [.box [],.box [.ptr 3 0],.box [],.box [],.box [],.box []]):=fun lv w=>by
    simp only [K8,lH,gH,hpA,xA,rgE,AA.enc,vv,reduceCtorEq,reduceAdd,reduceEqDiff,zh0,zh1,zh2,zh3,zh4,zh5,zh6,zo0,zo1];by_cases b1:x.to<lv
    ·simp only [b1,vv,reduceCtorEq,reduceAdd,reduceEqDiff,zh0,zh1,zh2,zh3,zh4,zh5,zh6,zo0,zo1]
    ·by_cases b2:T.r.dead<h.arr
     ·simp only [b1,b2,vv,reduceCtorEq,reduceAdd,reduceEqDiff,zh0,zh1,zh2,zh3,zh4,zh5,zh6,zo0,zo1]
     ·by_cases b3:c.to=T.r.dst
      ·simp only [b1,b2,b3,bne_self_eq_false,vv,reduceCtorEq,reduceAdd,reduceEqDiff,zh0,zh1,zh2,zh3,zh4,zh5,zh6,zo0,zo1,ne_eq,not_true_eq_false]
      ·simp only [b1,b2,b3,bne_iff_ne,vv,reduceCtorEq,reduceAdd,reduceEqDiff,zh0,zh1,zh2,zh3,zh4,zh5,zh6,zo0,zo1,ne_eq,not_false_eq_true]
   have hC:GG n z c.enc (rgE rm) (xA x,hp) (hpA (some h),lH T s [.box [],.box [.ptr 3 0],.box [],.box [],.box []])=
     K8 n (xA x,hp) (fun p183=>EX n z c.enc (rgE rm) (hpA (some h),lH T s [.box [],.box [.ptr 3 0],.box [],.box [],.box []]) p183) (hpA (some h),lH T s [.box [],.box [.ptr 3 0],.box [],.box [],.box []]) c.enc (rgE rm) ([.t (tI (FK T.r c h))],lH T s [.box [],.box [.ptr 3 0],.box [],.box [],.box [],.box []]):=by
    simp only [GG,lH,gH,hpA,FK,c1,hk,AA.enc,e1,e2,vv,reduceCtorEq,reduceAdd,reduceEqDiff,zh0,zh1,zh2,zh3,zh4,zh5,zh6,zo0,zo1];cases T.r.cust<;>simp only [vv,reduceCtorEq,reduceAdd,reduceEqDiff,zh0,zh1,zh2,zh3,zh4,zh5,zh6,zo0,zo1]
   rw [hC,hB];rfl
  simp only [hA];cases hb:Ke T x c rm h with
  |true=>
   have hm:mvH T x c rm (some h)=none:=by simp only [Ke,decide_eq_true_eq] at hb;simp only [mvH,if_pos hb]
   refine Ev.of fun n z => ?_;simp only [EX,lH,gH,hm,LSt.mvO,vv,reduceCtorEq,reduceAdd,reduceEqDiff,zh0,zh1,zh2,zh3,zh4,zh5,zh6,zo0,zo1]
  |false=>
   have hm:mvH T x c rm (some h)=some (⟨c.to,rm.frm,rm.to,h.arr⟩,h):=by simp only [Ke,decide_eq_false_iff_not] at hb;simp only [mvH,if_neg hb]
   rw [hm];simp only [LSt.mvO,LSt.mv];have hD:∀n z (b:Bool),GH n z c.enc (rgE rm) (hpA (some h),lH T s [.box [],.box [.ptr 3 0],.box [],.box [],.box []]) ([.t (.bool b)],lH T s [.box [],.box [.ptr 3 0],.box [],.box [],.box [],.box [],.box []])=
     z ([],lH T (if b=true then s.push ⟨c.to,rm.frm,rm.to,h.arr⟩ else s) [.box [],.box [.ptr 3 0],.box [],.box []]):=fun n z b=>by
    have t1:take s.opn.length (s.opn.map Lab.enc++s.jk)=s.opn.map Lab.enc:=by rw [List.take_append_of_le_length (by simp)];exact take_of_length_le (by simp)
    have b1:s.opn.length+1≤1073741824:=by omega
    have b2:s.opn.length≤s.opn.length+s.jk.length:=Nat.le_add_right _ _;cases b with
    |false=>simp only [GH,O2,lH,gH,vv,reduceCtorEq,reduceAdd,reduceEqDiff,zh0,zh1,zh2,zh3,zh4,zh5,zh6,zo0,zo1]
    |true=>
     simp only [GH,O2,lH,gH,vv,reduceCtorEq,reduceAdd,reduceEqDiff,zh0,zh1,zh2,zh3,zh4,zh5,zh6,zo0,zo1,b1,b2,t1,LSt.push,hpA,rgE,AA.enc,map_append,map_cons,map_nil,Lab.enc,append_nil,length_append]
   by_cases hd:c.to=T.r.dst
   ·refine Ev.of fun n z => ?_;have hE:EX n z c.enc (rgE rm) (hpA (some h),lH T s [.box [],.box [.ptr 3 0],.box [],.box [],.box []]) ([.t (.bool false)],lH T s [.box [],.box [.ptr 3 0],.box [],.box [],.box [],.box []])=
      GH n z c.enc (rgE rm) (hpA (some h),lH T s [.box [],.box [.ptr 3 0],.box [],.box [],.box []]) ([.t (.bool false)],lH T s [.box [],.box [.ptr 3 0],.box [],.box [],.box [],.box [],.box []]):=by
     simp only [EX,lH,gH,hpA,AA.enc,hd,bne_self_eq_false,vv,reduceCtorEq,reduceAdd,reduceEqDiff,zh0,zh1,zh2,zh3,zh4,zh5,zh6,zo0,zo1]
    rw [hE,hD];simp only [hd,ne_eq,not_true_eq_false,decide_false,Bool.false_and]
   ·refine (con44 T s hl ⟨c.to,rm.frm,rm.to,h.arr⟩ c rm ⟨rfl,rfl,rfl⟩ [] ([.t (.bool false)],lH T s [.box [],.box [.ptr 3 0],.box [],.box [],.box [],.box []]) (by simp only [lH,gH,vv,reduceCtorEq,reduceAdd,reduceEqDiff,zh0,zh1,zh2,zh3,zh4,zh5,zh6,zo0,zo1]) (by simp only [lH,gH,vv,reduceCtorEq,reduceAdd,reduceEqDiff,zh0,zh1,zh2,zh3,zh4,zh5,zh6,zo0,zo1]) (by simp only [lH,gH,vv,reduceCtorEq,reduceAdd,reduceEqDiff,zh0,zh1,zh2,zh3,zh4,zh5,zh6,zo0,zo1])
     (hpA (some h),lH T s [.box [],.box [.ptr 3 0],.box [],.box [],.box []]) (by simp only [hpA,vv,reduceCtorEq,reduceAdd,reduceEqDiff,zh0,zh1,zh2,zh3,zh4,zh5,zh6,zo0,zo1])).mono fun n hcon z => ?_
    have hE:EX n z c.enc (rgE rm) (hpA (some h),lH T s [.box [],.box [.ptr 3 0],.box [],.box [],.box []]) ([.t (.bool false)],lH T s [.box [],.box [.ptr 3 0],.box [],.box [],.box [],.box []])=
      GH n z c.enc (rgE rm) (hpA (some h),lH T s [.box [],.box [.ptr 3 0],.box [],.box [],.box []]) ([.t (.bool (!decide (idx (fun b=>Az ⟨c.to,rm.frm,rm.to,h.arr⟩ b) s.done≥0)))],lH T s [.box [],.box [.ptr 3 0],.box [],.box [],.box [],.box [],.box []]):=by
     have h2:=hcon fun p192=>O4 n (fun p190=>O3 n (fun p188=>GH n z c.enc (rgE rm) (hpA (some h),lH T s [.box [],.box [.ptr 3 0],.box [],.box [],.box []]) p188) p190) p192;refine Eq.trans ?_ (h2.trans ?_)
     ·simp only [EX,lH,gH,hpA,AA.enc,bne_iff_ne.2 hd,vv,reduceCtorEq,reduceAdd,reduceEqDiff,zh0,zh1,zh2,zh3,zh4,zh5,zh6,zo0,zo1];rfl
     ·simp only [O4,O3,lH,gH,vv,reduceCtorEq,reduceAdd,reduceEqDiff,zh0,zh1,zh2,zh3,zh4,zh5,zh6,zo0,zo1]
    rw [hE,hD];have hany:=RX (fun b=>Az ⟨c.to,rm.frm,rm.to,h.arr⟩ b) s.done;have hcnd:(!decide (idx (fun b=>Az ⟨c.to,rm.frm,rm.to,h.arr⟩ b) s.done≥0))=(decide (c.to≠T.r.dst) && !s.done.any fun y=>Az ⟨c.to,rm.frm,rm.to,h.arr⟩ y):=by rw [decide_eq_true hd,Bool.true_and];congr 1;rw [Bool.eq_iff_iff,decide_eq_true_eq];exact hany
    rw [hcnd]
end Ab
namespace Ab
open Go
theorem RL (T:Tb) (x:Lab) (k:Nat) (c:AA) (rm:Span):mv1 T.g x k c rm=mvH T x c rm (IC k c (T.g.dur.getD k 0) (T.g.gaps.getD k []) (if rm.frm>x.time then rm.frm else x.time)):=by unfold mv1 mvH;cases IC k c (T.g.dur.getD k 0) (T.g.gaps.getD k []) (if rm.frm>x.time then rm.frm else x.time)<;>rfl
def LSt.mvR (T:Tb) (x:Lab) (k:Nat) (c:AA) (s:LSt) (rm:Span):LSt:=s.mvO T (mv1 T.g x k c rm)
theorem Sa (T:Tb) (s:LSt) (m:Option (Lab×Hop)):(s.mvO T m).done=s.done∧(s.mvO T m).opn.length≤s.opn.length+1:=by
 unfold LSt.mvO;cases m with
 |none=>exact ⟨rfl,le_succ _⟩
 |some m=>
  simp only [LSt.mv];split
  ·exact ⟨rfl,by simp [LSt.push]⟩
  ·exact ⟨rfl,le_succ _⟩
theorem L2 {k:Nat} {c:AA} {n fr:Int} {gs:List Span} {h:Hop} (hm:IC k c n gs fr=some h):h.con=k∧∃a∈gs,fr≤h.beg∧a.frm≤h.beg∧h.beg+n≤a.to∧h.stop=h.beg+n∧h.arr=h.beg+n+c.rng:=by
 unfold IC at hm;cases hb:FN n fr gs with
 |none=>rw [hb] at hm;cases hm
 |some b=>
  rw [hb] at hm;cases hm;obtain ⟨h1,a,h2,h3,h4⟩:=HG hb;exact ⟨rfl,a,h2,h1,h3,h4,rfl,rfl⟩
structure CtOk (T:Tb) (k:Nat) (c:AA) (d:Int) (gs:List Span):Prop where
 con:T.cs[k]? = some c
 dur:T.g.dur[k]? = some d
 gap:T.g.gaps[k]? = some gs
 durS:0≤d∧d≤67108864
 rng:0≤c.rng∧c.rng≤1048576
 gapS:∀a∈gs,(0≤a.frm∧a.frm≤1099511627776)∧0≤a.to∧a.to≤1099511627776
 gapL:gs.length≤100000
theorem rm52 (T:Tb) (s0:LSt) (hdl:s0.done.length≤50000) (x:Lab) (hp:Heap) (k:Nat) (c:AA) (d:Int) (gs:List Span) (hk:CtOk T k c d gs) (ht:0≤x.time∧x.time≤1099511627776) (kh:Heap)
  (rs:List Span) (hol:s0.opn.length+rs.length≤10000000) (hrs:∀a∈rs,Sm a.frm) :
  Ev fun n=>∀z,AI (fun p again=>JU n (spE rs) c.enc (xA x,hp) ([.t (tI k)],kh) z p again) n ([.t (tI (0:Nat))],lH T s0 [.box [],.box [.ptr 3 0],.box [],.box []])
   = z ([],lH T (rs.foldl (LSt.mvR T x k c) s0) [.box [],.box [.ptr 3 0],.box []]):=by
 refine A3 rs (fun i s=>(([.t (tI i)],lH T s [.box [],.box [.ptr 3 0],.box [],.box []]):List AV×Heap)) (fun _ s rm =>.next (s.mvR T x k c rm)) (fun s=>s)
  (fun (z:List AV×Heap→Option (List Tree)) s=>z ([],lH T s [.box [],.box [.ptr 3 0],.box []])) (fun i s=>s.done=s0.done∧s.opn.length≤s0.opn.length+i∧i≤rs.length) s0 rfl ⟨rfl,by omega,zero_le _⟩ (by rw [Bf])
  (fun i s rm ha hI => ?_) (fun i s rm s' ha hI h => ?_) (fun s hI=>Ev.of fun n z again => ?_)
 ·have hi:=AJ ha;obtain ⟨i1,i2,i3⟩:=hI;have hg1:T.g.dur.getD k 0=d:=by simp [List.getD,hk.dur]
  have hg2:T.g.gaps.getD k []=gs:=by simp [List.getD,hk.gap]
  have hmv:s.mvR T x k c rm=s.mvO T (mvH T x c rm (IC k c d gs (if rm.frm>x.time then rm.frm else x.time))):=by rw [LSt.mvR,RL,hg1,hg2]
  have hkl:=AJ hk.gap;have hkd:=AJ hk.dur;have hS:=hk.durS;have hA:=hop42 T s x hp rm k c hk.con d (by unfold Sm;omega) (by unfold Sm;omega) (hrs rm (mem_of_getElem? ha)) hk.rng kh gs (fun a ha=>by have:=hk.gapS a ha;unfold Sm;omega) hk.gapL;have hB:=mv50 T s (by rw [i1];omega) (by omega) x hp rm k c hk.con hk.rng (IC k c d gs (if rm.frm>x.time then rm.frm else x.time)) (fun h hh=>by obtain ⟨h1,a,h2,h3,h4,h5,h6,h7⟩:=L2 hh;have:=hk.gapS a h2;exact ⟨h1,by unfold Sm;omega⟩)
  refine (hA.and hB).mono fun n hab z again => ?_;obtain ⟨h1,h2⟩:=hab;have a1:=h1 (fun p175=>GG n (fun p172=>K7 n again ([.t (tI i)],lH T s [.box [],.box [.ptr 3 0],.box [],.box []]) p172) c.enc (rgE rm) (xA x,hp) p175);have a2:=h2 (fun p172=>K7 n again ([.t (tI i)],lH T s [.box [],.box [.ptr 3 0],.box [],.box []]) p172);rw [Rd.Ad,hmv];refine Eq.trans ?_ (a1.trans (a2.trans ?_))
  ·simp only [JU,lH,gH,spE,rgE,Bp,vv,reduceCtorEq,reduceAdd,reduceEqDiff,zh0,zh1,zh2,zh3,zh4,zh5,zh6,zo0,zo1,ha,Span.enc,hk.dur,hk.gap,encI,(show (i:Int)<rs.length by omega),(show (k:Int)<T.g.gaps.length by omega),(show (k:Int)<T.g.dur.length by omega)];rfl
  ·simp only [K7,lH,gH,vv,reduceCtorEq,reduceAdd,reduceEqDiff,zh0,zh1,zh2,zh3,zh4,zh5,zh6,zo0,zo1,AS (show i<4611686018427387904 by omega)]
 ·have hi:=AJ ha;simp only [Rd.next.injEq] at h;subst h;obtain ⟨h1,h2⟩:=Sa T s (mv1 T.g x k c rm);exact ⟨h1.trans hI.1,by have:(s.mvR T x k c rm).opn.length≤s.opn.length+1:=h2;omega,by omega⟩
 ·simp only [JU,lH,gH,spE,vv,reduceCtorEq,reduceAdd,reduceEqDiff,zh0,zh1,zh2,zh3,zh4,zh5,zh6,zo0,zo1,lt_irrefl]
theorem eq41 (n:Nat) (y:List Tree) (p33 p132:List AV×Heap) (ag:List AV×Heap→Option (List Tree)) (p:List AV×Heap) (again:List AV×Heap→Option (List Tree)) :
  TB n y p33 p132 ag p again=JU n (spE [⟨0,1099511627776⟩]) y p33 p132 ag p again:=rfl
end Ab
namespace Ab
open Go
def LSt.mvK (T:Tb) (x:Lab) (k:Nat) (s:LSt) (c:AA):LSt:=if c.frm=x.node then (BU T.g c.to).foldl (LSt.mvR T x k c) s else s
def LSt.mvA (T:Tb) (x:Lab):Nat→List AA→LSt→LSt
 |_,[],s=>s
 |k,c::l,s=>LSt.mvA T x (k+1) l (s.mvK T x k c)
theorem Pj (T:Tb) (x:Lab) (k:Nat) (c:AA):∀(rs:List Span) (s:LSt),rs.foldl (LSt.mvR T x k c) s=(rs.filterMap (mv1 T.g x k c)).foldl (LSt.mv T) s
 |[],s=>rfl
 |r::rs,s=>by
  rw [foldl_cons,Pj T x k c rs];unfold LSt.mvR;cases h:mv1 T.g x k c r with
  |none=>rw [List.filterMap_cons_none h];rfl
  |some m=>rw [List.filterMap_cons_some h];rfl
theorem Pk (T:Tb) (x:Lab):∀(l:List AA) (k:Nat) (s:LSt),LSt.mvA T x k l s=(mvL T.g x k l).foldl (LSt.mv T) s
 |[],k,s=>rfl
 |c::l,k,s=>by
  unfold LSt.mvA mvL;rw [Pk T x l,List.foldl_append];congr 1;unfold LSt.mvK mvC;split
  ·exact Pj T x k c _ s
  ·rfl
theorem SZ (T:Tb):∀(ms:List (Lab×Hop)) (s:LSt),(ms.foldl (LSt.mv T) s).done=s.done∧(ms.foldl (LSt.mv T) s).opn=s.opn++(ms.filter fun m=>decide (m.1.node≠T.r.dst) && !s.done.any fun y=>Az m.1 y).map (·.1)
 |[],s=>by simp
 |m::ms,s=>by
  rw [foldl_cons];obtain ⟨h1,h2⟩:=SZ T ms (s.mv T m);have hd:(s.mv T m).done=s.done:=by unfold LSt.mv;split<;>rfl
  refine ⟨h1.trans hd,?_⟩;rw [h2,hd];unfold LSt.mv;by_cases hc:(decide (m.1.node≠T.r.dst) && !s.done.any fun y=>Az m.1 y)=true
  ·rw [if_pos hc,filter_cons,if_pos hc];simp [LSt.push]
  ·rw [if_neg hc,filter_cons,if_neg hc]
structure TOk (T:Tb):Prop where
 ct:∀k c,T.cs[k]? = some c→∃d gs,CtOk T k c d gs
 to:∀c∈T.cs,0≤c.to∧c.to<T.g.Au.length
 room:∀rs∈T.g.Au,rs.length≤100∧∀a∈rs,0≤a.frm∧a.frm<a.to∧a.to≤1099511627776
 cl:T.cs.length≤10
 rl:T.g.Au.length≤6
 dead:0≤T.r.ready∧T.r.ready≤T.r.dead∧T.r.dead≤1099511627776
theorem mvK_len (T:Tb) (hT:TOk T) (x:Lab) (k:Nat) (s:LSt) (c:AA) (hc:c∈T.cs):(s.mvK T x k c).done=s.done∧(s.mvK T x k c).opn.length≤s.opn.length+100:=by
 have hf:∀(rs:List Span) (s:LSt),(rs.foldl (LSt.mvR T x k c) s).done=s.done∧(rs.foldl (LSt.mvR T x k c) s).opn.length≤s.opn.length+rs.length:=fun rs=>by
  induction rs with
  |nil=>intro s;exact ⟨rfl,le_refl _⟩
  |cons r rs ih=>
   intro s;rw [foldl_cons];obtain ⟨h1,h2⟩:=ih (s.mvR T x k c r);obtain ⟨h3,h4⟩:=Sa T s (mv1 T.g x k c r);refine ⟨h1.trans h3,?_⟩;have:(s.mvR T x k c r).opn.length≤s.opn.length+1:=h4;simp only [length_cons];omega
 unfold LSt.mvK;split
 ·obtain ⟨h1,h2⟩:=hf (BU T.g c.to) s;refine ⟨h1,le_trans h2 ?_⟩;have:(BU T.g c.to).length≤100:=by
   unfold BU;split
   ·simp
   ·have ht:=hT.to c hc;have hlt:c.to.toNat<T.g.Au.length:=by omega
    have hr:=hT.room T.g.Au[c.to.toNat] (getElem_mem hlt);simp only [List.getD,getElem?_eq_getElem hlt,Option.getD_some];exact hr.1
  omega
 ·exact ⟨rfl,by omega⟩
theorem ct54 (T:Tb) (hT:TOk T) (s0:LSt) (hdl:s0.done.length≤50000) (hol:s0.opn.length≤1000000) (x:Lab) (hp:Heap) (ht:0≤x.time∧x.time≤1099511627776) (p123:List AV×Heap) (h123:cL p123 3 1=T.cs.map AA.enc) :
  Ev fun n=>∀z,AI (fun p again=>Hb n p123 (xA x,hp) z p again) n ([.t (tI (0:Nat))],lH T s0 [.box [],.box [.ptr 3 0],.box []])
   = z ([],lH T ((BM T.g x).foldl (LSt.mv T) s0) []):=by
 have hrun:∀(l:List AA) (k:Nat) (s:LSt),BJ (fun i s c=>(.next (LSt.mvK T x i s c):Rd LSt LSt)) (fun s=>s) k l s=LSt.mvA T x k l s:=fun l=>by
  induction l with
  |nil=>intro k s;rfl
  |cons c l ih=>intro k s;exact ih (k+1) _
 have hfin:BJ (fun i s c=>(.next (LSt.mvK T x i s c):Rd LSt LSt)) (fun s=>s) 0 T.cs s0=(BM T.g x).foldl (LSt.mv T) s0:=by rw [hrun,Pk];rfl
 refine A3 T.cs (fun i s=>(([.t (tI i)],lH T s [.box [],.box [.ptr 3 0],.box []]):List AV×Heap)) (fun i s c =>.next (LSt.mvK T x i s c)) (fun s=>s)
  (fun (z:List AV×Heap→Option (List Tree)) s=>z ([],lH T s [])) (fun i s=>s.done=s0.done∧s.opn.length≤s0.opn.length+100*i∧i≤T.cs.length) s0 rfl ⟨rfl,by omega,zero_le _⟩ hfin
  (fun i s c ha hI => ?_) (fun i s c s' ha hI h => ?_) (fun s hI=>Ev.of fun n z again => ?_)
 ·have hi:=AJ ha;obtain ⟨i1,i2,i3⟩:=hI;have hcl:=hT.cl;obtain ⟨d,gs,hk⟩:=hT.ct i c ha;have hto:=hT.to c (mem_of_getElem? ha);simp only [Rd.Ad];have ha':(T.cs.map AA.enc)[i]? = some c.enc:=by rw [getElem?_map,ha];rfl
  by_cases hf:c.frm=x.node
  ·by_cases hd:c.to=T.r.dst
   ·have hrm:BU T.g c.to=[⟨0,1099511627776⟩]:=by unfold BU;exact if_pos hd
    have hR:=rm52 T s (by rw [i1];omega) x hp i c d gs hk ht (lH T s [.box [],.box [.ptr 3 0],.box []]) [⟨0,1099511627776⟩] (by simp only [length_cons,length_nil];omega) (fun a ha=>by cases mem_singleton.1 ha;unfold Sm;exact ⟨by decide,by decide⟩);refine hR.mono fun n h z again => ?_;have a1:=h (fun p134=>He n again ([.t (tI i)],lH T s [.box [],.box [.ptr 3 0],.box []]) p134);have hs:s.mvK T x i c=[⟨0,1099511627776⟩].foldl (LSt.mvR T x i c) s:=by unfold LSt.mvK;rw [if_pos hf,hrm]
    rw [hs];refine Eq.trans ?_ (a1.trans ?_)
    ·simp only [Hb,h123,lH,gH,eq41,vv,reduceCtorEq,reduceAdd,reduceEqDiff,zh0,zh1,zh2,zh3,zh4,zh5,zh6,zo0,zo1,ha,AA.enc,hf,hd,xA,bne_self_eq_false,beq_self_eq_true,(show (i:Int)<T.cs.length by omega)];rfl
    ·simp only [He,lH,gH,vv,reduceCtorEq,reduceAdd,reduceEqDiff,zh0,zh1,zh2,zh3,zh4,zh5,zh6,zo0,zo1,AS (show i<4611686018427387904 by omega)]
   ·have hlt:c.to.toNat<T.g.Au.length:=by omega
    have hg:T.g.Au[c.to.toNat]? = some T.g.Au[c.to.toNat]:=getElem?_eq_getElem hlt;have hm:=hT.room _ (mem_of_getElem? hg);have hrm:BU T.g c.to=T.g.Au[c.to.toNat]:=by unfold BU;rw [if_neg (show ¬c.to=T.g.rq.dst from hd)];simp [List.getD,hg]
    generalize T.g.Au[c.to.toNat]=rs at hg hm hrm;have hR:=rm52 T s (by rw [i1];omega) x hp i c d gs hk ht (lH T s [.box [],.box [.ptr 3 0],.box []]) rs (by omega) (fun a ha=>by have:=hm.2 a ha;unfold Sm;omega);refine hR.mono fun n h z again => ?_;have a1:=h (fun p134=>He n again ([.t (tI i)],lH T s [.box [],.box [.ptr 3 0],.box []]) p134);have hs:s.mvK T x i c=rs.foldl (LSt.mvR T x i c) s:=by unfold LSt.mvK;rw [if_pos hf,hrm]
    rw [hs];refine Eq.trans ?_ (a1.trans ?_)
    ·have t1:okL 2 (spE rs) 0=true:=rfl;simp only [Hb,h123,lH,gH,vv,reduceCtorEq,reduceAdd,reduceEqDiff,zh0,zh1,zh2,zh3,zh4,zh5,zh6,zo0,zo1,ha,AA.enc,hf,bne_self_eq_false,beq_eq_false_iff_ne.2 hd,xA,hg,t1,hto.1,hto.2,(show (i:Int)<T.cs.length by omega)];rfl
    ·simp only [He,lH,gH,vv,reduceCtorEq,reduceAdd,reduceEqDiff,zh0,zh1,zh2,zh3,zh4,zh5,zh6,zo0,zo1,AS (show i<4611686018427387904 by omega)]
  ·refine Ev.of fun n z again => ?_;have hs:s.mvK T x i c=s:=by unfold LSt.mvK;rw [if_neg hf]
   simp only [Hb,He,lH,gH,h123,hs,vv,reduceCtorEq,reduceAdd,reduceEqDiff,zh0,zh1,zh2,zh3,zh4,zh5,zh6,zo0,zo1,ha,AA.enc,bne_iff_ne.2 hf,xA,AS (show i<4611686018427387904 by omega),(show (i:Int)<T.cs.length by omega)]
 ·have hi:=AJ ha;simp only [Rd.next.injEq] at h;subst h;obtain ⟨h1,h2⟩:=mvK_len T hT x i s c (mem_of_getElem? ha);exact ⟨h1.trans hI.1,by omega,by omega⟩
 ·simp only [Hb,lH,gH,h123,vv,reduceCtorEq,reduceAdd,reduceEqDiff,zh0,zh1,zh2,zh3,zh4,zh5,zh6,zo0,zo1,lt_irrefl]
end Ab
namespace Ab
open Go
def lHr (T:Tb) (done:List Lab) (vo:Nat) (es:List (List Tree)) (lo:Nat) (suf:Heap):Heap:=
 gH T T.g.gaps T.g.Au T.g.dur (.box [.ptr 3 0] :: .box [.ptr 3 0] :: .row false done.length 4 (done.map Lab.enc) :: .box [.sref 6 done.length 0 done.length] :: .row false vo 4 es :: .box [.sref 8 vo 0 lo]::suf)
theorem OI {l:List Lab} {jk:List (List Tree)} {i:Nat} {y:Lab} (h:l[i]? = some y):(l.map Lab.enc++jk)[i]? = some y.enc:=by rw [getElem?_append_left (by simpa using AJ h),getElem?_map,h];rfl
theorem Se:∀(os:List Lab) (i:Nat) (m:Lab),BJ (fun _ m y=>(.next (if Jy y m<0 then y else m):Rd Lab Lab)) (fun m=>m) i os m=Cu m os
 |[],i,m=>rfl
 |y::os,i,m=>Se os (i+1) _
theorem mn4 (T:Tb) (s:LSt) (o:Lab) (os:List Lab) (hs:s.opn=o::os) (hl:s.opn.length≤10000000) (e:List AV) :
  Ev fun n=>∀z,AI (fun p again=>O0 n (e,lH T s []) z p again) n ([.t (tI ((0+1:Nat):Int))],lH T s [Bp,.box (xA o)])=z (xA (Cu o os),lH T s []):=by
 refine A3 os (fun i m=>(([.t (tI ((i+1:Nat):Int))],lH T s [Bp,.box (xA m)]):List AV×Heap)) (fun _ m y =>.next (if Jy y m<0 then y else m)) (fun m=>m)
  (fun (z:List AV×Heap→Option (List Tree)) m=>z (xA m,lH T s [])) (fun _ _=>True) o rfl trivial (Se os 0 o)
  (fun i m y ha hI => ?_) (fun _ _ _ _ _ _ _=>trivial) (fun m hI=>Ev.of fun n z again => ?_)
 ·have hi:=AJ ha;have hg:s.opn[i+1]? = some y:=by rw [hs];simpa using ha
  have hg2:=OI (jk:=s.jk) hg;have hlt:=AJ hg;refine (s88 y m).mono fun n h z again => ?_;simp only [Lab.enc,cons_append,nil_append] at h;simp only [Lab.enc] at hg2;simp only [O0,WM,lH,gH,xA,Bp,vv,reduceCtorEq,reduceAdd,reduceEqDiff,zh0,zh1,zh2,zh3,zh4,zh5,zh6,zo0,zo1,hg2,Lab.enc,h,(show ((i+1:Nat):Int)<s.opn.length by omega),AS (show i+1<4611686018427387904 by omega),Rd.Ad];by_cases hc:Jy y m<0
  ·simp only [hc,vv,reduceCtorEq,reduceAdd,reduceEqDiff,zh0,zh1,zh2,zh3,zh4,zh5,zh6,zo0,zo1]
  ·simp only [hc,vv,reduceCtorEq,reduceAdd,reduceEqDiff,zh0,zh1,zh2,zh3,zh4,zh5,zh6,zo0,zo1]
 ·have hlen:s.opn.length=os.length+1:=by rw [hs];rfl
  simp only [O0,lH,gH,xA,Bp,vv,reduceCtorEq,reduceAdd,reduceEqDiff,zh0,zh1,zh2,zh3,zh4,zh5,zh6,zo0,zo1,hlen,lt_irrefl]
theorem ix5 (T:Tb) (s:LSt) (x:Lab) (hl:s.opn.length≤10000000) :
  Ev fun n=>∀z,AI (fun p again=>Oz n (xA x,lH T s []) z p again) n ([.t (tI (0:Nat))],lH T s [.box []])=z ([.t (tI (idx (fun y=>Az x y) s.opn))],lH T s [.box []]):=by
 refine A3 s.opn (fun i _=>(([.t (tI i)],lH T s [.box []]):List AV×Heap)) (fun i _ b=>if Az x b=true then .done (i:Int) else .next ()) (fun _ => -1)
  (fun (z:List AV×Heap→Option (List Tree)) (o:Int)=>z ([.t (tI o)],lH T s [.box []])) (fun _ _=>True) () rfl trivial (Ng _ s.opn)
  (fun i s' a ha hI => ?_) (fun _ _ _ _ _ _ _=>trivial) (fun s' hI=>Ev.of fun n z again => ?_)
 ·have hi:=AJ ha;have hg2:=OI (jk:=s.jk) ha;refine (s91 x a).mono fun n h z again => ?_;simp only [Lab.enc,cons_append,nil_append] at h;simp only [Lab.enc] at hg2;simp only [Oz,lH,gH,xA,vv,reduceCtorEq,reduceAdd,reduceEqDiff,zh0,zh1,zh2,zh3,zh4,zh5,zh6,zo0,zo1,hg2,Lab.enc,h,(show (i:Int)<s.opn.length by omega),AS (show i<4611686018427387904 by omega)];cases Az x a<;>simp [AE,Rd.Ap,Rd.Ad]
 ·simp only [Oz,lH,gH,xA,vv,reduceCtorEq,reduceAdd,reduceEqDiff,zh0,zh1,zh2,zh3,zh4,zh5,zh6,zo0,zo1,lt_irrefl]
structure SB (opn:List Lab) (orig:List (List Tree)) (j:Nat) (s:List Lab×List (List Tree)):Prop where
 len:s.2.length=orig.length
 keep:s.2.take s.1.length=s.1.map Lab.enc
 rest:∀q,j≤q→s.2[q]? = orig[q]?
 le:s.1.length<j
 jle:j≤opn.length
 four:∀e∈s.2,e.length=4
theorem VG {opn:List Lab} {orig:List (List Tree)} {j:Nat} {s:List Lab×List (List Tree)} (h:SB opn orig j s) (hlo:opn.length≤orig.length) {y:Lab} (hy:opn[j]? = some y):SB opn orig (j+1) (s.1++[y],s.2.set s.1.length y.enc) where
 len:=by rw [length_set];exact h.len
 keep:=by have h1:=h.len;have h2:=h.le;have h3:=h.jle;simp only [length_append,length_cons,length_nil,map_append,map_cons,map_nil];rw [List.take_succ_eq_append_getElem (by rw [length_set];omega),List.take_set_of_le (le_refl _),h.keep,List.getElem_set_self]
 rest:=fun q hq=>by have:=h.le;rw [getElem?_set_ne (by omega)];exact h.rest q (by omega)
 le:=by have:=h.le;simp only [length_append,length_cons,length_nil];omega
 jle:=AJ hy
 four:=fun e he=>by
  rcases List.mem_or_eq_of_mem_set he with h1|h1
  ·exact h.four e h1
  ·rw [h1];rfl
theorem Tk {opn:List Lab} {orig:List (List Tree)} {j:Nat} {s:List Lab×List (List Tree)} (h:SB opn orig j s) (hj:j<opn.length):SB opn orig (j+1) s:=
 ⟨h.len,h.keep,fun q hq=>h.rest q (by omega),by have:=h.le;omega,hj,h.four⟩
def KE:List Tree:=[tI 0,tI 0,tI 0,tI 0]
def JE (T:Tb) (s:LSt) (i0:Nat) (i:Nat) (d:List Lab×List (List Tree)):List AV×Heap:=([.t (tI d.1.length),.t (tI ((i0+1+i:Nat):Int))],lHr T s.done s.vo d.2 s.opn.length [.box []])
def Of {Q:Type} (x:Lab) (_:Nat) (d:List Lab×List (List Tree)) (y:Lab):Rd (List Lab×List (List Tree)) Q :=.next (if Az x y=true then d else (d.1++[y],d.2.set d.1.length y.enc))
theorem Vg (T:Tb) (s:LSt) (hl:s.opn.length≤10000000) (x:Lab) (i0 i:Nat) (d:List Lab×List (List Tree)) (y:Lab) (hy:s.opn[i0+1+i]? = some y) (hI:SB s.opn (s.opn.map Lab.enc++s.jk) (i0+1+i) d) :
  Ev fun n=>∀z again,JT n (xA x,lH T s []) z (JE T s i0 i d) again=again (JE T s i0 (i+1) (if Az x y=true then d else (d.1++[y],d.2.set d.1.length y.enc))):=by
 have hlt:=AJ hy;have h1:=hI.le;have h2:=hI.jle;have h3:=hI.len;have hg:d.2[i0+1+i]? = some y.enc:=by rw [hI.rest _ (le_refl _)];exact OI hy
 have hll:d.1.length<d.2.length:=by rw [h3];simp;omega
 have hk:d.2[d.1.length]? = some d.2[d.1.length]:=getElem?_eq_getElem hll;have h4:drop 4 d.2[d.1.length]=[]:=List.drop_eq_nil_of_le (by rw [hI.four _ (getElem_mem hll)];exact le_refl _);generalize d.2[d.1.length]=w at hk h4;have hw:w64 (((i0+1+i:Nat):Int)+1)=((i0+1+(i+1):Nat):Int):=by rw [A6 (by omega) (by omega)];omega
 have hw2:w64 ((d.1.length:Int)+1)=((d.1.length+1:Nat):Int):=by rw [A6 (by omega) (by omega)];omega
 refine (s91 x y).mono fun n h z again => ?_;simp only [Lab.enc,cons_append,nil_append] at h;simp only [Lab.enc] at hg;simp only [JT,TC,JE,lHr,lH,gH,xA,vv,reduceCtorEq,reduceAdd,reduceEqDiff,zh0,zh1,zh2,zh3,zh4,zh5,zh6,zo0,zo1,hg,hk,h4,Lab.enc,h,(show ((i0+1+i:Nat):Int)<s.opn.length by omega),(show (d.1.length:Int)<s.opn.length by omega),hw,hw2,le_refl,append_nil];cases Az x y with
 |true=>simp only [vv,reduceCtorEq,reduceAdd,reduceEqDiff,zh0,zh1,zh2,zh3,zh4,zh5,zh6,zo0,zo1]
 |false=>simp only [vv,reduceCtorEq,reduceAdd,reduceEqDiff,zh0,zh1,zh2,zh3,zh4,zh5,zh6,zo0,zo1,hw2,length_append,hk,h4,append_nil,length_cons,length_nil]
end Ab
namespace Ab
open Go
theorem Sx {Q:Type} (x:Lab) (fin:List Lab×List (List Tree)→Q):∀(l:List Lab) (i:Nat) (d:List Lab×List (List Tree)),BJ (Of x) fin i l d=fin (l.foldl (fun d y=>if Az x y=true then d else (d.1++[y],d.2.set d.1.length y.enc)) d)
 |[],i,d=>rfl
 |y::l,i,d=>Sx x fin l (i+1) _
def Vh (x:Lab) (opn:List Lab) (jk:List (List Tree)) (i0:Nat):List Lab×List (List Tree):=
 (opn.drop (i0+1)).foldl (fun d y=>if Az x y=true then d else (d.1++[y],d.2.set d.1.length y.enc)) (opn.take i0,opn.map Lab.enc++jk)
theorem QE (x:Lab):∀(l:List Lab) (d:List Lab×List (List Tree)),(l.foldl (fun d y=>if Az x y=true then d else (d.1++[y],d.2.set d.1.length y.enc)) d).1=d.1++l.filter fun y => !Az x y
 |[],d=>by simp
 |y::l,d=>by rw [foldl_cons,QE x l,filter_cons];cases Az x y<;>simp
def LSt.del (s:LSt) (x:Lab) (i0:Nat):LSt:=⟨s.done++[x],s.vo,(Vh x s.opn s.jk i0).1,replicate (s.opn.length-(Vh x s.opn s.jk i0).1.length) KE++(Vh x s.opn s.jk i0).2.drop s.opn.length⟩
def LSt.nxt (T:Tb) (s:LSt) (x:Lab):LSt:=(BM T.g x).foldl (LSt.mv T) (s.del x (idx (fun y=>Az x y) s.opn).toNat)
structure SOk (s:LSt):Prop where
 four:∀e∈s.jk,e.length=4
 dl:s.done.length≤1000
 ol:s.opn.length≤1000000
theorem enc4 (l:List Lab):∀e∈l.map Lab.enc,e.length=4:=fun e he=>by obtain ⟨y,_,rfl⟩:=mem_map.1 he;rfl
theorem nx56 (T:Tb) (hT:TOk T) (s:LSt) (hs:SOk s) (x:Lab) (hx:0≤x.time∧x.time≤1099511627776) (i0:Nat) (hi0:i0<s.opn.length) :
  Ev fun n=>∀z,K6 n (xA x,lH T s []) z ([.t (tI i0)],lH T s [.box []])=z ([],lH T ((BM T.g x).foldl (LSt.mv T) (s.del x i0)) []):=by
 have hlo:s.opn.length≤(s.opn.map Lab.enc++s.jk).length:=by simp
 have hd0:SB s.opn (s.opn.map Lab.enc++s.jk) (i0+1+0) (s.opn.take i0,s.opn.map Lab.enc++s.jk):=
  {len:=rfl
   keep:=by simp only [length_take];rw [List.take_append_of_le_length (by simp;omega),map_take];congr 1;omega
   rest:=fun q _=>rfl
   le:=by simp only [length_take];omega
   jle:=hi0
   four:=fun e he=>by
    rcases mem_append.1 he with h|h
    ·exact enc4 _ e h
    ·exact hs.four e h}
 have hol:=hs.ol;have hloop:Ev fun n=>∀z,AI (fun p again=>JT n (xA x,lH T s []) z p again) n (JE T s i0 0 (s.opn.take i0,s.opn.map Lab.enc++s.jk))=z ([],lH T ((BM T.g x).foldl (LSt.mv T) (s.del x i0)) []):=by
  refine A3 (s.opn.drop (i0+1)) (JE T s i0) (Of x) (fun d=>(⟨s.done++[x],s.vo,d.1,replicate (s.opn.length-d.1.length) KE++d.2.drop s.opn.length⟩:LSt))
   (fun (z:List AV×Heap→Option (List Tree)) s1=>z ([],lH T ((BM T.g x).foldl (LSt.mv T) s1) [])) (fun i d=>SB s.opn (s.opn.map Lab.enc++s.jk) (i0+1+i) d) (s.opn.take i0,s.opn.map Lab.enc++s.jk) rfl hd0 (by rw [Sx];rfl)
   (fun i d y ha hI => ?_) (fun i d y s' ha hI h => ?_) (fun d hI => ?_)
  ·rw [getElem?_drop] at ha;exact (Vg T s (by omega) x i0 i d y ha hI).mono fun n h z again=>h z again
  ·rw [getElem?_drop] at ha;unfold Of at h;simp only [Rd.next.injEq] at h;subst h;cases Az x y with
   |true=>exact Tk hI (AJ ha)
   |false=>exact VG hI hlo ha
  ·have hll:i0+1+(s.opn.drop (i0+1)).length=s.opn.length:=by rw [length_drop];omega
   rw [hll] at hI;have h1:=hI.le;have h3:=hI.len;have hct:=ct54 T hT ⟨s.done++[x],s.vo,d.1,replicate (s.opn.length-d.1.length) KE++d.2.drop s.opn.length⟩ (by have:=hs.dl;simp;omega) (by simp only;omega) x (lH T s []) hx (JE T s i0 (s.opn.drop (i0+1)).length d) (by simp only [JE,lHr,gH,vv,reduceCtorEq,reduceAdd,reduceEqDiff,zh0,zh1,zh2,zh3,zh4,zh5,zh6,zo0,zo1]);refine hct.mono fun n h z again => ?_;have a1:=h z;refine Eq.trans ?_ a1;have hrow:BB d.2 d.1.length (replicate (s.opn.length-d.1.length) KE)=d.1.map Lab.enc++(replicate (s.opn.length-d.1.length) KE++d.2.drop s.opn.length):=by unfold BB;rw [hI.keep,List.length_replicate,show d.1.length+(s.opn.length-d.1.length)=s.opn.length by omega,append_assoc]
   have hle1:s.done.length+1≤1073741824:=by have:=hs.dl;omega
   have hj:((i0+1+(s.opn.drop (i0+1)).length:Nat):Int)=(s.opn.length:Int):=by rw [hll]
   have hkl:(d.1.length:Int)≤s.opn.length:=by omega
   have hrl:(d.1.length:Int)≤((d.1.map Lab.enc++(replicate (s.opn.length-d.1.length) KE++d.2.drop s.opn.length)).length:Int):=by simp only [length_append,length_map];omega
   have t3:take s.done.length (s.done.map Lab.enc)=s.done.map Lab.enc:=take_of_length_le (by simp);unfold KE at hrow hrl;simp only [JT,JE,hj,lHr,lH,gH,xA,KE,vv,reduceCtorEq,reduceAdd,reduceEqDiff,zh0,zh1,zh2,zh3,zh4,zh5,zh6,zo0,zo1,lt_irrefl,hkl,hrow,hle1,t3,le_refl,Nat.sub_zero,length_append,map_append,map_cons,map_nil,Lab.enc];rw [C4 (by omega)];rfl
 refine hloop.mono fun n h z => ?_;refine Eq.trans ?_ (h z);have hw:w64 ((i0:Int)+1)=((i0+1+0:Nat):Int):=by rw [A6 (by omega) (by omega)];omega
 have hne:((i0:Int)== -1)=false:=beq_eq_false_iff_ne.2 (by omega);have hl0:(s.opn.take i0).length=i0:=by rw [length_take];omega
 simp only [K6,JE,lHr,lH,gH,xA,vv,reduceCtorEq,reduceAdd,reduceEqDiff,zh0,zh1,zh2,zh3,zh4,zh5,zh6,zo0,zo1,hw,hne,hl0]
theorem Py {x:Lab} {l:List Lab} (hx:x∈l):∃i0:Nat,i0<l.length∧idx (fun y=>Az x y) l=(i0:Int)∧l.take i0++(l.drop (i0+1)).filter (fun y => !Az x y)=l.filter fun y => !Az x y:=by
 have hxx:Az x x=true:=EC.2 rfl;cases h:l.findIdx? (fun y=>Az x y) with
 |none=>
  rw [List.findIdx?_eq_none_iff] at h;have:=h x hx;rw [hxx] at this;cases this
 |some i0=>
  have hi:idx (fun y=>Az x y) l=(i0:Int):=by simp [idx,h]
  obtain ⟨h1,h2,h3⟩:=List.findIdx?_eq_some_iff_getElem.1 h;refine ⟨i0,h1,hi,?_⟩
  conv=>rhs;rw [← List.take_append_drop i0 l,filter_append,List.drop_eq_getElem_cons h1,filter_cons]
  rw [if_neg (by simp [h2])];congr 1;rw [filter_eq_self.2];intro y hy;obtain ⟨j,hj,rfl⟩:=mem_iff_getElem.1 hy;have hj':j<i0:=by simp only [length_take] at hj;omega
  have:=h3 j hj';rw [List.getElem_take];simpa using this
theorem mv_jk (T:Tb):∀(ms:List (Lab×Hop)) (s:LSt),(∀e∈s.jk,e.length=4)→∀e∈(ms.foldl (LSt.mv T) s).jk,e.length=4
 |[],s,h=>h
 |m::ms,s,h=>by
  rw [foldl_cons];refine mv_jk T ms _ ?_;unfold LSt.mv;split
  ·intro e he;cases he
  ·exact h
theorem Nn (x:Lab):∀(l:List Lab) (d:List Lab×List (List Tree)),(∀e∈d.2,e.length=4)→∀e∈(l.foldl (fun d y=>if Az x y=true then d else (d.1++[y],d.2.set d.1.length y.enc)) d).2,e.length=4
 |[],d,h=>h
 |y::l,d,h=>by
  rw [foldl_cons];refine Nn x l _ ?_;split
  ·exact h
  ·intro e he;rcases List.mem_or_eq_of_mem_set he with h1|h1
   ·exact h e h1
   ·rw [h1];rfl
theorem RK (T:Tb) (s:LSt) (hs:∀e∈s.jk,e.length=4) (x:Lab) (hx:x∈s.opn):(s.nxt T x).done=s.done++[x]∧(s.nxt T x).opn=s.opn.filter (fun y => !Az x y)++ON T.g (s.done++[x]) x∧∀e∈(s.nxt T x).jk,e.length=4:=by
 obtain ⟨i0,h1,h2,h3⟩:=Py hx;unfold LSt.nxt;rw [h2,toNat_natCast];obtain ⟨m1,m2⟩:=SZ T (BM T.g x) (s.del x i0);refine ⟨m1,?_,mv_jk T _ _ ?_⟩
 ·rw [m2];congr 1;show (Vh x s.opn s.jk i0).1=_;unfold Vh;rw [QE];exact h3
 ·intro e he;rcases mem_append.1 he with h|h
  ·rw [List.eq_of_mem_replicate h];rfl
  ·refine Nn x _ _ ?_ e (mem_of_mem_drop h);intro e he;rcases mem_append.1 he with h|h
   ·exact enc4 _ e h
   ·exact hs e h
theorem nx57 (T:Tb) (hT:TOk T) (s:LSt) (hs:SOk s) (x:Lab) (hm:x∈s.opn) (hx:0≤x.time∧x.time≤1099511627776) :
  Ev fun n=>∀z,K5 n z (xA x,lH T s [])=z ([],lH T (s.nxt T x) []):=by
 obtain ⟨i0,h1,h2,h3⟩:=Py hm;have hol:=hs.ol;refine ((ix5 T s x (by omega)).and (nx56 T hT s hs x hx i0 h1)).mono fun n ⟨k1,k2⟩ z => ?_;have a1:=k1 (fun p45=>K6 n (xA x,lH T s []) z p45);rw [h2] at a1;have a2:=k2 z;have e1:s.nxt T x=(BM T.g x).foldl (LSt.mv T) (s.del x i0):=by unfold LSt.nxt;rw [h2,toNat_natCast]
 rw [e1];refine Eq.trans ?_ (a1.trans a2);simp only [K5,lH,gH,xA,vv,reduceCtorEq,reduceAdd,reduceEqDiff,zh0,zh1,zh2,zh3,zh4,zh5,zh6,zo0,zo1];rfl
end Ab
namespace Ab
open Go
structure ASt where
 ls:List Lab
 vo:Nat
 jk:List (List Tree)
def aH (T:Tb) (a:ASt) (b:Option Int) (suf:Heap):Heap:=
 gH T T.g.gaps T.g.Au T.g.dur (.box [.ptr 3 0] :: .box [.ptr 3 0] :: .row false a.ls.length 4 (a.ls.map Lab.enc) :: .box [.sref 6 a.ls.length 0 a.ls.length] :: .row false a.vo 4 a.jk :: .box [.sref 8 a.vo 0 0] :: .box [.sref 6 a.ls.length 0 a.ls.length] ::
  .box [.ptr 3 0] :: .box [.t (tI (b.getD 0))] :: .box [.t (.bool b.isSome)]::suf)
theorem hop66 (T:Tb) (a:ASt) (b:Option Int) (x:Lab) (rm:Span) (k:Nat) (c:AA) (hk:T.cs[k]? = some c) (d:Int) (hd:Sm d) (ht:Sm x.time) (hr:Sm rm.frm) (hc:0≤c.rng∧c.rng≤1048576) (kh:Heap)
  (gs:List Span) (hgs:∀a∈gs,Sm a.frm∧Sm a.to) (hgl:gs.length≤100000) :
  Ev fun n=>∀z,AI (fun p again=>Ku n (spE gs) (rgE rm) x.enc [tI d] ([.t (tI k)],kh) z p again) n ([.t (tI (0:Nat))],aH T a b [.box [],.box [.ptr 3 0],.box [],.box [],.box [],Bp])
   = z (hpA (IC k c d gs (if rm.frm>x.time then rm.frm else x.time)),aH T a b [.box [],.box [.ptr 3 0],.box [],.box [],.box []]):=by
 refine A3 gs (fun i _=>(([.t (tI i)],aH T a b [.box [],.box [.ptr 3 0],.box [],.box [],.box [],Bp]):List AV×Heap)) (E7 c k d (if rm.frm>x.time then rm.frm else x.time)) (fun _=>none)
  (fun (z:List AV×Heap→Option (List Tree)) o=>z (hpA o,aH T a b [.box [],.box [.ptr 3 0],.box [],.box [],.box []])) (fun _ _=>True) () rfl trivial (Km c k d _ gs 0)
  (fun i s' e ha hI=>Ev.of fun n z again => ?_) (fun _ _ _ _ _ _ _=>trivial) (fun s' hI=>Ev.of fun n z again => ?_)
 ·have hi:=AJ ha;obtain ⟨h1,h2⟩:=hgs e (mem_of_getElem? ha);have hb:Sm (CI (if rm.frm>x.time then rm.frm else x.time) e):=by unfold CI Sm at *;omega
  have e1:w64 (CI (if rm.frm>x.time then rm.frm else x.time) e+d)=CI (if rm.frm>x.time then rm.frm else x.time) e+d:=Qx hb hd;have e3:w64 (CI (if rm.frm>x.time then rm.frm else x.time) e+d+c.rng)=CI (if rm.frm>x.time then rm.frm else x.time) e+d+c.rng:=by unfold Sm at hb hd;exact A6 (by omega) (by omega)
  have e4:(if (if rm.frm>x.time then rm.frm else x.time)>e.frm then (if rm.frm>x.time then rm.frm else x.time) else e.frm)=CI (if rm.frm>x.time then rm.frm else x.time) e:=rfl;simp only [gt_iff_lt] at e1 e3 e4;simp only [Ku,aH,gH,spE,rgE,Lab.enc,Bp,vv,reduceCtorEq,reduceAdd,reduceEqDiff,zh0,zh1,zh2,zh3,zh4,zh5,zh6,zo0,zo1,ha,Span.enc,e1,e3,e4,hk,AA.enc,(show (i:Int)<gs.length by omega),AS (show i<4611686018427387904 by omega),E7];by_cases hc2:CI (if x.time<rm.frm then rm.frm else x.time) e+d≤e.to
  ·simp only [hc2,vv,reduceCtorEq,reduceAdd,reduceEqDiff,zh0,zh1,zh2,zh3,zh4,zh5,zh6,zo0,zo1,Rd.Ap,hpA]
  ·simp only [hc2,vv,reduceCtorEq,reduceAdd,reduceEqDiff,zh0,zh1,zh2,zh3,zh4,zh5,zh6,zo0,zo1,Rd.Ad]
 ·simp only [Ku,aH,gH,spE,rgE,Lab.enc,Bp,vv,reduceCtorEq,reduceAdd,reduceEqDiff,zh0,zh1,zh2,zh3,zh4,zh5,zh6,zo0,zo1,lt_irrefl,hpA]
def arO (T:Tb) (b:Option Int):Option (Lab×Hop)→Option Int
 |none=>b
 |some m=>JK T.g b m
theorem mv71 (T:Tb) (a:ASt) (b:Option Int) (x:Lab) (rm:Span) (k:Nat) (c:AA) (hk:T.cs[k]? = some c) (hc:0≤c.rng∧c.rng≤1048576) (o:Option Hop) (hh:∀h,o=some h→h.con=k∧Sm h.stop) :
  ∀n z,GF n z c.enc x.enc (rgE rm) (hpA o,aH T a b [.box [],.box [.ptr 3 0],.box [],.box [],.box []])=z ([],aH T a (arO T b (mvH T x c rm o)) [.box [],.box [.ptr 3 0],.box [],.box []]):=by
 intro n z;cases o with
 |none=>
  simp only [GF,EW,aH,gH,hpA,mvH,arO,vv,reduceCtorEq,reduceAdd,reduceEqDiff,zh0,zh1,zh2,zh3,zh4,zh5,zh6,zo0,zo1]
 |some h=>
  obtain ⟨c1,c2⟩:=hh h rfl;have e1:w64 (2*c.rng)=2*c.rng:=A6 (by omega) (by omega);have e2:w64 (h.stop+2*c.rng)=h.stop+2*c.rng:=by unfold Sm at c2;exact A6 (by omega) (by omega)
  have hA:GF n z c.enc x.enc (rgE rm) (hpA (some h),aH T a b [.box [],.box [.ptr 3 0],.box [],.box [],.box []])=
    EW n z (hpA (some h),aH T a b [.box [],.box [.ptr 3 0],.box [],.box [],.box []]) c.enc ([.t (.bool (Ke T x c rm h))],aH T a b [.box [],.box [.ptr 3 0],.box [],.box [],.box [],.box []]):=by
   have hB:∀lv:Int,∀w,K4 n x.enc w (hpA (some h),aH T a b [.box [],.box [.ptr 3 0],.box [],.box [],.box []]) c.enc (rgE rm) ([.t (tI lv)],aH T a b [.box [],.box [.ptr 3 0],.box [],.box [],.box [],.box []])=
     w ([.t (.bool (decide (lv>x.to∨h.arr>T.r.dead∨(c.to≠T.r.dst∧h.arr≥rm.to))))],aH T a b [.box [],.box [.ptr 3 0],.box [],.box [],.box [],.box []]):=fun lv w=>by
    simp only [K4,aH,gH,hpA,Lab.enc,rgE,AA.enc,vv,reduceCtorEq,reduceAdd,reduceEqDiff,zh0,zh1,zh2,zh3,zh4,zh5,zh6,zo0,zo1];by_cases b1:x.to<lv
    ·simp only [b1,vv,reduceCtorEq,reduceAdd,reduceEqDiff,zh0,zh1,zh2,zh3,zh4,zh5,zh6,zo0,zo1]
    ·by_cases b2:T.r.dead<h.arr
     ·simp only [b1,b2,vv,reduceCtorEq,reduceAdd,reduceEqDiff,zh0,zh1,zh2,zh3,zh4,zh5,zh6,zo0,zo1]
     ·by_cases b3:c.to=T.r.dst
      ·simp only [b1,b2,b3,bne_self_eq_false,vv,reduceCtorEq,reduceAdd,reduceEqDiff,zh0,zh1,zh2,zh3,zh4,zh5,zh6,zo0,zo1,ne_eq,not_true_eq_false]
      ·simp only [b1,b2,b3,bne_iff_ne,vv,reduceCtorEq,reduceAdd,reduceEqDiff,zh0,zh1,zh2,zh3,zh4,zh5,zh6,zo0,zo1,ne_eq,not_false_eq_true]
   have hC:GF n z c.enc x.enc (rgE rm) (hpA (some h),aH T a b [.box [],.box [.ptr 3 0],.box [],.box [],.box []])=
     K4 n x.enc (fun p183=>EW n z (hpA (some h),aH T a b [.box [],.box [.ptr 3 0],.box [],.box [],.box []]) c.enc p183) (hpA (some h),aH T a b [.box [],.box [.ptr 3 0],.box [],.box [],.box []]) c.enc (rgE rm) ([.t (tI (FK T.r c h))],aH T a b [.box [],.box [.ptr 3 0],.box [],.box [],.box [],.box []]):=by
    simp only [GF,aH,gH,hpA,FK,c1,hk,AA.enc,Lab.enc,e1,e2,vv,reduceCtorEq,reduceAdd,reduceEqDiff,zh0,zh1,zh2,zh3,zh4,zh5,zh6,zo0,zo1];cases T.r.cust<;>simp only [vv,reduceCtorEq,reduceAdd,reduceEqDiff,zh0,zh1,zh2,zh3,zh4,zh5,zh6,zo0,zo1]
   rw [hC,hB];rfl
  rw [hA];cases hb:Ke T x c rm h with
  |true=>
   have hm:mvH T x c rm (some h)=none:=by simp only [Ke,decide_eq_true_eq] at hb;simp only [mvH,if_pos hb]
   simp only [EW,aH,gH,hm,arO,vv,reduceCtorEq,reduceAdd,reduceEqDiff,zh0,zh1,zh2,zh3,zh4,zh5,zh6,zo0,zo1]
  |false=>
   have hm:mvH T x c rm (some h)=some (⟨c.to,rm.frm,rm.to,h.arr⟩,h):=by simp only [Ke,decide_eq_false_iff_not] at hb;simp only [mvH,if_neg hb]
   rw [hm];have hg:T.g.rq=T.r:=rfl;simp only [arO,JK,hg];by_cases hd:c.to=T.r.dst
   ·cases b with
    |none=>simp only [EW,JZ,Ja,aH,gH,hpA,AA.enc,hd,beq_self_eq_true,Ra,vv,reduceCtorEq,reduceAdd,reduceEqDiff,zh0,zh1,zh2,zh3,zh4,zh5,zh6,zo0,zo1,isSome_none,isSome_some,Option.getD_some]
    |some v=>
     by_cases hv:h.arr<v
     ·simp only [EW,JZ,Ja,aH,gH,hpA,AA.enc,hd,beq_self_eq_true,Ra,hv,vv,reduceCtorEq,reduceAdd,reduceEqDiff,zh0,zh1,zh2,zh3,zh4,zh5,zh6,zo0,zo1,isSome_none,isSome_some,Option.getD_some]
     ·simp only [EW,JZ,Ja,aH,gH,hpA,AA.enc,hd,beq_self_eq_true,Ra,hv,vv,reduceCtorEq,reduceAdd,reduceEqDiff,zh0,zh1,zh2,zh3,zh4,zh5,zh6,zo0,zo1,isSome_none,isSome_some,Option.getD_some]
   ·simp only [EW,JZ,Ja,aH,gH,hpA,AA.enc,hd,beq_eq_false_iff_ne.2 hd,vv,reduceCtorEq,reduceAdd,reduceEqDiff,zh0,zh1,zh2,zh3,zh4,zh5,zh6,zo0,zo1]
theorem rm73 (T:Tb) (a:ASt) (b0:Option Int) (x:Lab) (k:Nat) (c:AA) (d:Int) (gs:List Span) (hk:CtOk T k c d gs) (ht:0≤x.time∧x.time≤1099511627776) (kh:Heap)
  (rs:List Span) (hol:rs.length≤10000000) (hrs:∀a∈rs,Sm a.frm) :
  Ev fun n=>∀z,AI (fun p again=>JS n (spE rs) c.enc x.enc ([.t (tI k)],kh) z p again) n ([.t (tI (0:Nat))],aH T a b0 [.box [],.box [.ptr 3 0],.box [],.box []])
   = z ([],aH T a (rs.foldl (fun b rm=>arO T b (mv1 T.g x k c rm)) b0) [.box [],.box [.ptr 3 0],.box []]):=by
 refine A3 rs (fun i b=>(([.t (tI i)],aH T a b [.box [],.box [.ptr 3 0],.box [],.box []]):List AV×Heap)) (fun _ b rm =>.next (arO T b (mv1 T.g x k c rm))) (fun s=>s)
  (fun (z:List AV×Heap→Option (List Tree)) b=>z ([],aH T a b [.box [],.box [.ptr 3 0],.box []])) (fun i b=>True) b0 rfl trivial (by rw [Bf])
  (fun i b rm ha hI => ?_) (fun _ _ _ _ _ _ _=>trivial) (fun b hI=>Ev.of fun n z again => ?_)
 ·have hi:=AJ ha;have hg1:T.g.dur.getD k 0=d:=by simp [List.getD,hk.dur]
  have hg2:T.g.gaps.getD k []=gs:=by simp [List.getD,hk.gap]
  have hkl:=AJ hk.gap;have hkd:=AJ hk.dur;have hS:=hk.durS;have hA:=hop66 T a b x rm k c hk.con d (by unfold Sm;omega) (by unfold Sm;omega) (hrs rm (mem_of_getElem? ha)) hk.rng kh gs (fun a ha=>by have:=hk.gapS a ha;unfold Sm;omega) hk.gapL;have hB:=mv71 T a b x rm k c hk.con hk.rng (IC k c d gs (if rm.frm>x.time then rm.frm else x.time)) (fun h hh=>by obtain ⟨h1,a,h2,h3,h4,h5,h6,h7⟩:=L2 hh;have:=hk.gapS a h2;exact ⟨h1,by unfold Sm;omega⟩)
  refine hA.mono fun n h1 z again => ?_;have a1:=h1 (fun p240=>GF n (fun p237=>K3 n again ([.t (tI i)],aH T a b [.box [],.box [.ptr 3 0],.box [],.box []]) p237) c.enc x.enc (rgE rm) p240);have a2:=hB n (fun p237=>K3 n again ([.t (tI i)],aH T a b [.box [],.box [.ptr 3 0],.box [],.box []]) p237);rw [Rd.Ad,RL,hg1,hg2];refine Eq.trans ?_ (a1.trans (a2.trans ?_))
  ·simp only [JS,aH,gH,spE,rgE,Bp,vv,reduceCtorEq,reduceAdd,reduceEqDiff,zh0,zh1,zh2,zh3,zh4,zh5,zh6,zo0,zo1,ha,Span.enc,hk.dur,hk.gap,encI,(show (i:Int)<rs.length by omega),(show (k:Int)<T.g.gaps.length by omega),(show (k:Int)<T.g.dur.length by omega)];rfl
  ·simp only [K3,aH,gH,vv,reduceCtorEq,reduceAdd,reduceEqDiff,zh0,zh1,zh2,zh3,zh4,zh5,zh6,zo0,zo1,AS (show i<4611686018427387904 by omega)]
 ·simp only [JS,aH,gH,spE,vv,reduceCtorEq,reduceAdd,reduceEqDiff,zh0,zh1,zh2,zh3,zh4,zh5,zh6,zo0,zo1,lt_irrefl]
theorem eq65 (n:Nat) (y y2:List Tree) (p132:List AV×Heap) (ag:List AV×Heap→Option (List Tree)) (p:List AV×Heap) (again:List AV×Heap→Option (List Tree)) :
  TA n y y2 p132 ag p again=JS n (spE [⟨0,1099511627776⟩]) y y2 p132 ag p again:=rfl
end Ab
namespace Ab
open Go
def arK (T:Tb) (x:Lab) (k:Nat) (b:Option Int) (c:AA):Option Int:=if c.frm=x.node then (BU T.g c.to).foldl (fun b rm=>arO T b (mv1 T.g x k c rm)) b else b
def arA (T:Tb) (x:Lab):Nat→List AA→Option Int→Option Int
 |_,[],b=>b
 |k,c::l,b=>arA T x (k+1) l (arK T x k b c)
theorem QW (T:Tb) (x:Lab) (k:Nat) (c:AA):∀(rs:List Span) (b:Option Int),rs.foldl (fun b rm=>arO T b (mv1 T.g x k c rm)) b=Hj T.g b (rs.filterMap (mv1 T.g x k c))
 |[],b=>rfl
 |r::rs,b=>by
  rw [foldl_cons,QW T x k c rs];cases h:mv1 T.g x k c r with
  |none=>rw [List.filterMap_cons_none h];rfl
  |some m=>rw [List.filterMap_cons_some h];rfl
theorem QX (T:Tb) (x:Lab):∀(l:List AA) (k:Nat) (b:Option Int),arA T x k l b=Hj T.g b (mvL T.g x k l)
 |[],k,b=>rfl
 |c::l,k,b=>by
  unfold arA mvL;rw [QX T x l,← QV];congr 1;unfold arK mvC;split
  ·exact QW T x k c _ b
  ·rfl
theorem ct75 (T:Tb) (hT:TOk T) (a:ASt) (b0:Option Int) (x:Lab) (ht:0≤x.time∧x.time≤1099511627776) (p204:List AV×Heap) (h204:cL p204 3 1=T.cs.map AA.enc) (i:Nat) (hi0:vI p204 0=i) (hi:i≤100000) :
  Ev fun n=>∀z,AI (fun p again=>Ha n p204 x.enc z p again) n ([.t (tI (0:Nat))],aH T a b0 [.box [],.box [.ptr 3 0],.box []])
   = z ([.t (tI ((i+1:Nat):Int))],aH T a (Hj T.g b0 (BM T.g x)) []):=by
 have hrun:∀(l:List AA) (k:Nat) (b:Option Int),BJ (fun i b c=>(.next (arK T x i b c):Rd (Option Int) (Option Int))) (fun s=>s) k l b=arA T x k l b:=fun l=>by
  induction l with
  |nil=>intro k s;rfl
  |cons c l ih=>intro k s;exact ih (k+1) _
 have hfin:BJ (fun i b c=>(.next (arK T x i b c):Rd (Option Int) (Option Int))) (fun s=>s) 0 T.cs b0=Hj T.g b0 (BM T.g x):=by rw [hrun,QX];rfl
 refine A3 T.cs (fun i b=>(([.t (tI i)],aH T a b [.box [],.box [.ptr 3 0],.box []]):List AV×Heap)) (fun i b c =>.next (arK T x i b c)) (fun s=>s)
  (fun (z:List AV×Heap→Option (List Tree)) b=>z ([.t (tI ((i+1:Nat):Int))],aH T a b [])) (fun _ _=>True) b0 rfl trivial hfin
  (fun i b c ha hI => ?_) (fun _ _ _ _ _ _ _=>trivial) (fun b hI=>Ev.of fun n z again => ?_)
 ·have hi:=AJ ha;have hcl:=hT.cl;obtain ⟨d,gs,hk⟩:=hT.ct i c ha;have hto:=hT.to c (mem_of_getElem? ha);simp only [Rd.Ad];by_cases hf:c.frm=x.node
  ·by_cases hd:c.to=T.r.dst
   ·have hrm:BU T.g c.to=[⟨0,1099511627776⟩]:=by unfold BU;exact if_pos hd
    have hR:=rm73 T a b x i c d gs hk ht (aH T a b [.box [],.box [.ptr 3 0],.box []]) [⟨0,1099511627776⟩] (by simp only [length_cons,length_nil];omega) (fun a ha=>by cases mem_singleton.1 ha;unfold Sm;exact ⟨by decide,by decide⟩);refine hR.mono fun n h z again => ?_;have a1:=h (fun p134=>Hd n again ([.t (tI i)],aH T a b [.box [],.box [.ptr 3 0],.box []]) p134);have hs:arK T x i b c=[⟨0,1099511627776⟩].foldl (fun b rm=>arO T b (mv1 T.g x i c rm)) b:=by unfold arK;rw [if_pos hf,hrm]
    rw [hs];refine Eq.trans ?_ (a1.trans ?_)
    ·simp only [Ha,h204,aH,gH,eq65,vv,reduceCtorEq,reduceAdd,reduceEqDiff,zh0,zh1,zh2,zh3,zh4,zh5,zh6,zo0,zo1,ha,AA.enc,Lab.enc,hf,hd,bne_self_eq_false,beq_self_eq_true,(show (i:Int)<T.cs.length by omega)];rfl
    ·simp only [Hd,aH,gH,vv,reduceCtorEq,reduceAdd,reduceEqDiff,zh0,zh1,zh2,zh3,zh4,zh5,zh6,zo0,zo1,AS (show i<4611686018427387904 by omega)]
   ·have hlt:c.to.toNat<T.g.Au.length:=by omega
    have hg:T.g.Au[c.to.toNat]? = some T.g.Au[c.to.toNat]:=getElem?_eq_getElem hlt;have hm:=hT.room _ (mem_of_getElem? hg);have hrm:BU T.g c.to=T.g.Au[c.to.toNat]:=by unfold BU;rw [if_neg (show ¬c.to=T.g.rq.dst from hd)];simp [List.getD,hg]
    generalize T.g.Au[c.to.toNat]=rs at hg hm hrm;have hR:=rm73 T a b x i c d gs hk ht (aH T a b [.box [],.box [.ptr 3 0],.box []]) rs (by omega) (fun a ha=>by have:=hm.2 a ha;unfold Sm;omega);refine hR.mono fun n h z again => ?_;have a1:=h (fun p134=>Hd n again ([.t (tI i)],aH T a b [.box [],.box [.ptr 3 0],.box []]) p134);have hs:arK T x i b c=rs.foldl (fun b rm=>arO T b (mv1 T.g x i c rm)) b:=by unfold arK;rw [if_pos hf,hrm]
    rw [hs];refine Eq.trans ?_ (a1.trans ?_)
    ·have t1:okL 2 (spE rs) 0=true:=rfl;simp only [Ha,h204,aH,gH,vv,reduceCtorEq,reduceAdd,reduceEqDiff,zh0,zh1,zh2,zh3,zh4,zh5,zh6,zo0,zo1,ha,AA.enc,Lab.enc,hf,bne_self_eq_false,beq_eq_false_iff_ne.2 hd,hg,t1,hto.1,hto.2,(show (i:Int)<T.cs.length by omega)];rfl
    ·simp only [Hd,aH,gH,vv,reduceCtorEq,reduceAdd,reduceEqDiff,zh0,zh1,zh2,zh3,zh4,zh5,zh6,zo0,zo1,AS (show i<4611686018427387904 by omega)]
  ·refine Ev.of fun n z again => ?_;have hs:arK T x i b c=b:=by unfold arK;rw [if_neg hf]
   simp only [Ha,Hd,aH,gH,h204,hs,vv,reduceCtorEq,reduceAdd,reduceEqDiff,zh0,zh1,zh2,zh3,zh4,zh5,zh6,zo0,zo1,ha,AA.enc,Lab.enc,bne_iff_ne.2 hf,AS (show i<4611686018427387904 by omega),(show (i:Int)<T.cs.length by omega)]
 ·simp only [Ha,aH,gH,h204,hi0,vv,reduceCtorEq,reduceAdd,reduceEqDiff,zh0,zh1,zh2,zh3,zh4,zh5,zh6,zo0,zo1,lt_irrefl,AS (show i<4611686018427387904 by omega)]
theorem ar76 (T:Tb) (hT:TOk T) (a:ASt) (hl:a.ls.length≤10000) (ht:∀x∈a.ls,0≤x.time∧x.time≤1099511627776) (p31:List AV×Heap) (h1:AM p31 7 0=a.ls.length) (h2:AK p31 7 0=a.ls.length) (h3:AU p31 7 0=0) :
  Ev fun n=>∀z,AI (fun p again=>Kt n p31 z p again) n ([.t (tI (0:Nat))],aH T a none [])
   = z ([.t (tI ((M8 T.g a.ls).getD 0)),.t (.bool (M8 T.g a.ls).isSome)],lH T ⟨a.ls,a.vo,[],a.jk⟩ [.box [.sref 6 a.ls.length 0 a.ls.length]]):=by
 refine A3 a.ls (fun i b=>(([.t (tI i)],aH T a b []):List AV×Heap)) (fun _ b x =>.next (Hj T.g b (BM T.g x))) (fun s=>s)
  (fun (z:List AV×Heap→Option (List Tree)) b=>z ([.t (tI (b.getD 0)),.t (.bool b.isSome)],lH T ⟨a.ls,a.vo,[],a.jk⟩ [.box [.sref 6 a.ls.length 0 a.ls.length]])) (fun _ _=>True) none rfl trivial (by rw [Bf];rfl)
  (fun i b x ha hI => ?_) (fun _ _ _ _ _ _ _=>trivial) (fun b hI=>Ev.of fun n z again => ?_)
 ·have hi:=AJ ha;have hct:=ct75 T hT a b x (ht x (mem_of_getElem? ha)) ([.t (tI i)],aH T a b []) (by simp only [aH,gH,vv,reduceCtorEq,reduceAdd,reduceEqDiff,zh0,zh1,zh2,zh3,zh4,zh5,zh6,zo0,zo1]) i (by simp only [vv,reduceCtorEq,reduceAdd,reduceEqDiff,zh0,zh1,zh2,zh3,zh4,zh5,zh6,zo0,zo1]) (by omega);refine hct.mono fun n h z again => ?_;refine Eq.trans ?_ (h again);simp only [Kt,aH,gH,h1,h2,h3,vv,reduceCtorEq,reduceAdd,reduceEqDiff,zh0,zh1,zh2,zh3,zh4,zh5,zh6,zo0,zo1,ha,Lab.enc,(show (i:Int)<a.ls.length by omega)];rfl
 ·simp only [Kt,aH,lH,gH,h1,h2,h3,vv,reduceCtorEq,reduceAdd,reduceEqDiff,zh0,zh1,zh2,zh3,zh4,zh5,zh6,zo0,zo1,lt_irrefl,map_nil,nil_append,length_nil]
end Ab
namespace Ab
open Go
theorem PX (hs:List AW) (size:Int) (q:List Int) (n:Nat) (hn:n<q.length):(CM hs size 0 q).getD n []=Au (q.getD n 0) size (levels hs (n:Nat)):=by have:=Eh hs size q 0 n;rw [getElem?_eq_getElem hn,zero_add] at this;simp only [List.getD,this,map_some,Option.getD_some,getElem?_eq_getElem hn]
theorem Nt (g:AB→Bool) (b:AB) {k:Int} (hk:b.contact≠k):∀(l:List AB),busy (Gl g b l) k=busy l k
 |[]=>by simp [Gl,busy,hk]
 |x::l=>by
  unfold Gl;split
  ·simp [busy,hk]
  ·have ih:=Nt g b hk l;simp only [busy,filterMap_cons] at ih ⊢;rw [ih]
theorem MY {k j:Int} (hk:k≠j):∀(gs:List Span) (l:List AB),busy (blk k l gs) j=busy l j
 |[],l=>rfl
 |g::gs,l=>by show busy (blk k (FQ l (bk k g)) gs) j=_;rw [MY hk gs,FQ,Nt _ _ hk]
theorem Uf {cs:List AA} {bs:List AB} {k:Int} {c:AA} (hb:Dl cs bs) (hk:0≤k∧k<cs.length) (hc:cs[k.toNat]? = some c) (hcc:AX c=0) :
  Dl cs (blk k bs (A9 c.stop (busy bs k) c.start))∧A9 c.stop (busy (blk k bs (A9 c.stop (busy bs k) c.start)) k) c.start=[]:=by
 have hG:=L8 (f:=c.start) hb hk hc hcc;rw [if_neg (lt_irrefl _)] at hG;have hB:=QS _ _ hG;refine ⟨hB,?_⟩;have hrow:=Fm hB hc hcc;cases hL:A9 c.stop (busy (blk k bs (A9 c.stop (busy bs k) c.start)) k) c.start with
 |nil=>rfl
 |cons g l=>
  have hg:g∈A9 c.stop (busy (blk k bs (A9 c.stop (busy bs k) c.start)) k) c.start:=by rw [hL];exact mem_cons_self ..
  have hm:=Dy _ _ _ hrow (Int.le_refl _) g hg;have hf:=F4 _ _ _ hrow (Int.le_refl _) g hg;by_cases hex:∃x∈busy bs k,x.frm≤g.frm∧g.frm<x.to
  ·obtain ⟨x,x1,x2,x3⟩:=hex;obtain ⟨b,b1,b2,rfl⟩:=QO x1;have:=hf _ (JH ((Oj k _ bs b).2 (.inl b1)) b2);simp only at this x2 x3;omega
  ·obtain ⟨g2,e1,e2,e3⟩:=VU (stop:=c.stop) (n:=1) (t:=g.frm) (Int.le_refl _) (busy bs k) c.start (by omega) (by omega) fun x hx=>by
    by_cases h1:x.to≤g.frm
    ·exact .inl h1
    ·by_cases h2:x.frm≤g.frm
     ·exact (hex ⟨x,hx,h2,by omega⟩).elim
     ·right;omega
   have:=hf ⟨g2.frm,g2.to⟩ (JH (x:=bk k g2) ((Oj k _ bs _).2 (.inr ⟨g2,e1,rfl⟩)) rfl);simp only at this;omega
structure BSt (q:List Int) (cs:List AA) (bs0 bs:List AB) (B:List Int):Prop where
 ok:As q cs bs=0
 nd:B.Nodup
 rng:∀k∈B,0≤k∧k<cs.length
 oth:∀k,k∉B→busy bs k=busy bs0 k
 shut:∀k∈B,∀c,cs[k.toNat]? = some c→A9 c.stop (busy bs k) c.start=[]
 len:bs.length≤bs0.length+B.length*(bs0.length+1)
theorem J2 {q:List Int} {cs:List AA} {bs:List AB} (h:As q cs bs=0):BSt q cs bs bs []:=
 ⟨h,by simp,fun k hk=>by simp at hk,fun k _=>rfl,fun k hk=>by simp at hk,by simp⟩
theorem nodup_range {n:Nat} {B:List Int} (h:B.Nodup) (hr:∀k∈B,0≤k∧k<n):B.length≤n:=by
 have:=Fe h (b:=(List.range n).map fun i:Nat=>(i:Int)) fun k hk=>by have:=hr k hk;exact mem_map.2 ⟨k.toNat,mem_range.2 (by omega),Int.toNat_of_nonneg this.1⟩
 simpa using this
def D4 (cs:List AA) (k:Int):Int:=match cs[k.toNat]? with
 |some c=>c.start
 |none=>0
theorem MZ {q:List Int} {cs:List AA} {bs0 bs:List AB} {B:List Int} (h:BSt q cs bs0 bs B) (h0:bs0.length≤30) (hcs:cs.length≤10) {k:Int} (hk:0≤k∧k<cs.length) :
  QT q cs bs k (D4 cs k)=0∧∃B',BSt q cs bs0 (Ol q cs bs k (D4 cs k)) B'∧∀j,j∈B'↔j∈B∨j=k:=by
 obtain ⟨hp,hl5,hb⟩:=C6 h.ok;have hkn:k.toNat<cs.length:=by omega
 have hc:cs[k.toNat]? = some cs[k.toNat]:=getElem?_eq_getElem hkn;have hcc:=(DQ hp _ (getElem_mem hkn)).1;generalize cs[k.toNat]=c at hc hcc;have hst:D4 cs k=c.start:=by unfold D4;rw [hc]
 have hBl:B.length≤10:=le_trans (nodup_range h.nd h.rng) hcs;have hgl:=HJ c.stop (busy bs k) c.start;have hmul:B.length*(bs0.length+1)≤10*31:=mul_le_mul hBl (by omega);have hck:=ck_of h.ok hk;have hgs:(A9 c.stop (busy bs k) c.start).length≤31:=by
  by_cases hm:k∈B
  ·rw [h.shut k hm c hc];simp
  ·rw [h.oth k hm] at hgl ⊢;have:=Fo bs0 k;omega
 have hlen:=h.len;have hbc:QT q cs bs k (D4 cs k)=0:=by unfold QT;rw [if_neg (by omega),hc,hst];simp only;rw [if_neg (lt_irrefl _),if_neg (by omega)]
 refine ⟨hbc,?_⟩;have hbl:Ol q cs bs k (D4 cs k)=blk k bs (A9 c.stop (busy bs k) c.start):=by unfold Ol;rw [if_neg (by omega),hc,hst];simp only;rw [if_neg (lt_irrefl _)]
 rw [hbl];by_cases hm:k∈B
 ·refine ⟨B,?_,fun j=>⟨.inl,fun h=>h.elim id fun e=>by rw [e];exact hm⟩⟩;rw [h.shut k hm c hc];exact h
 ·obtain ⟨s1,s2⟩:=Uf hb hk hc hcc;have hbl2:=S2 k (A9 c.stop (busy bs k) c.start) bs;rw [h.oth k hm] at hgl hbl2 hgs;have hbusy:=Fo bs0 k;rw [h.oth k hm] at s1 s2 ⊢;refine ⟨k::B,⟨?_,nodup_cons.2 ⟨hm,h.nd⟩,fun j hj => ?_,fun j hj => ?_,fun j hj c' hc' => ?_,?_⟩,fun j=>by simp [or_comm]⟩
  ·exact F8 hp (by rw [hbl2];omega) s1
  ·rcases mem_cons.1 hj with rfl|hj
   ·exact hk
   ·exact h.rng j hj
  ·rw [mem_cons,not_or] at hj;rw [MY (fun e=>hj.1 e.symm)];exact h.oth j hj.2
  ·rcases mem_cons.1 hj with rfl|hj
   ·rw [hc] at hc';cases hc';exact s2
   ·rw [MY (fun e=>hm (by rw [e];exact hj))];exact h.shut j hj c' hc'
  ·rw [hbl2,length_cons,succ_mul];omega
def IN (q:List Int) (cs:List AA) (bs:List AB) (ks:List Int):List AB:=ks.foldl (fun b k=>Ol q cs b k (D4 cs k)) bs
theorem J3 {q:List Int} {cs:List AA} {bs0:List AB} (h0:bs0.length≤30) (hcs:cs.length≤10):∀(ks:List Int) (bs:List AB) (B:List Int),BSt q cs bs0 bs B→(∀k∈ks,0≤k∧k<cs.length)→∃B',BSt q cs bs0 (IN q cs bs ks) B'∧∀j,j∈B'↔j∈B∨j∈ks
 |[],bs,B,h,_=>⟨B,h,fun j=>by simp⟩
 |k::ks,bs,B,h,hk=>by obtain ⟨_,B1,h1,h2⟩:=MZ h h0 hcs (hk k (mem_cons_self ..));obtain ⟨B2,h3,h4⟩:=J3 h0 hcs ks _ B1 h1 fun j hj=>hk j (mem_cons_of_mem _ hj);refine ⟨B2,h3,fun j => ?_⟩;rw [h4,h2,mem_cons];exact or_assoc
def GM (g:Gr) (ls:List Lab) (to:Lab):Option (Lab×Hop):=ls.findSome? fun x=>(BM g x).findSome? fun m=>if Az m.1 to=true∧m.1.time=to.time then some (x,m.2) else none
def DW (g:Gr) (ls:List Lab):Nat→Lab→List (Lab×Hop)
 |0,_=>[]
 |f+1,to=>match GM g ls to with
  |none=>[]
  |some p=>p::(if p.1.node=g.rq.src∧p.1.time=g.rq.ready then [] else DW g ls f p.1)
theorem Jl {g:Gr} {ls:List Lab} {to:Lab} {p:Lab×Hop} (h:GM g ls to=some p):p.1∈ls∧∃m∈BM g p.1,m.2=p.2∧Dw m.1=Dw to∧m.1.time=to.time:=by
 unfold GM at h;obtain ⟨x,hx,h1⟩:=List.exists_of_findSome?_eq_some h;obtain ⟨m,hm,h2⟩:=List.exists_of_findSome?_eq_some h1;split at h2
 ·rename_i hc;cases h2;exact ⟨hx,m,hm,rfl,EC.1 hc.1,hc.2⟩
 ·cases h2
theorem TU {g:Gr} {ls:List Lab} {to:Lab} (h:GM g ls to=none):∀x∈ls,∀m∈BM g x,¬(Dw m.1=Dw to∧m.1.time=to.time):=fun x hx m hm hc=>by unfold GM at h;rw [List.findSome?_eq_none_iff] at h;have h1:=h x hx;rw [List.findSome?_eq_none_iff] at h1;have h2:=h1 m hm;rw [if_pos ⟨EC.2 hc.1,hc.2⟩] at h2;cases h2
def KC (g:Gr) (h:Hop):Prop:=∃(k:Nat) (c:AA) (fr:Int),g.cs[k]? = some c∧h.con=k∧FN (g.dur.getD k 0) fr (g.gaps.getD k [])=some h.beg∧h.stop=h.beg+g.dur.getD k 0∧h.arr=h.beg+g.dur.getD k 0+c.rng
theorem VC {g:Gr} {x:Lab} {m:Lab×Hop} (hm:m∈BM g x):KC g m.2:=by
 obtain ⟨k,c,r,h1,h2,h3,h4⟩:=Ff.1 hm;obtain ⟨b,h5,h6,h7,h8⟩:=Gf h4;clear h8;refine ⟨k,c,(if r.frm>x.time then r.frm else x.time),h1,?_,?_,?_,?_⟩
 ·rw [h6]
 ·rw [h6];exact h5
 ·rw [h6]
 ·rw [h6]
theorem start_eq {g:Gr} {x:Lab} (h:x∈Ec g):x.node=g.rq.src∧x.time=g.rq.ready:=by
 obtain ⟨r,h1,h2⟩:=mem_filterMap.1 h;split at h2
 ·cases h2;exact ⟨rfl,rfl⟩
 ·cases h2
theorem H6 {g:Gr} (hg:GOk g) {x:Lab} (h:Reach g x):g.rq.ready≤x.time:=by
 induction h with
 |start h=>rw [(start_eq h).2];exact Int.le_refl _
 |step _ hm _ ih=>
  have:=(Ct hg hm).1;omega
structure SE (g:Gr) (ls:List Lab) (to:Lab) (l:List (Lab×Hop)):Prop where
 lab:∀p∈l,p.1∈ls∧p.1.time<to.time∧KC g p.2∧p.2.arr≤to.time
 ord:l.Pairwise fun a b=>b.1.time<a.1.time∧b.2.arr≤a.2.beg
 first:∀p∈l.head?,p.2.arr=to.time
theorem JI {g:Gr} (hg:GOk g) {ls:List Lab}:∀(f:Nat) (to:Lab),SE g ls to (DW g ls f to)
 |0,to=>⟨fun p hp=>by simp [DW] at hp,by simp [DW],fun p hp=>by simp [DW] at hp⟩
 |f+1,to=>by
  unfold DW;cases h:GM g ls to with
  |none=>exact ⟨fun p hp=>by simp at hp,by simp,fun p hp=>by simp at hp⟩
  |some p=>
   obtain ⟨h1,m,h2,h3,h4,h5⟩:=Jl h;have hl:=Ct hg h2;have hgp:=VC h2;rw [h3] at hl hgp;have ih:SE g ls p.1 (if p.1.node=g.rq.src∧p.1.time=g.rq.ready then [] else DW g ls f p.1):=by
    split
    ·exact ⟨fun p hp=>by simp at hp,by simp,fun p hp=>by simp at hp⟩
    ·exact JI hg f p.1
   simp only;refine ⟨fun a ha => ?_,?_,fun a ha => ?_⟩
   ·rcases mem_cons.1 ha with rfl|ha
    ·exact ⟨h1,by omega,hgp,by omega⟩
    ·obtain ⟨a1,a2,a3,a4⟩:=ih.lab a ha;exact ⟨a1,by omega,a3,by omega⟩
   ·rw [pairwise_cons];refine ⟨fun a ha => ?_,ih.ord⟩;obtain ⟨a1,a2,a3,a4⟩:=ih.lab a ha;exact ⟨a2,by omega⟩
   ·obtain rfl:p=a:=by simpa using ha
    omega
theorem Mb {g:Gr} {ls:List Lab} {to:Lab} {l:List (Lab×Hop)} (h:SE g ls to l):l.length≤ls.length:=by
 have hnd:(l.map (·.1)).Nodup:=by rw [nodup_iff_pairwise_ne,pairwise_map];refine h.ord.imp fun {a b} hab e => ?_;rw [e] at hab;omega
 have:=Fe hnd (b:=ls) fun x hx=>by obtain ⟨p,hp,rfl⟩:=mem_map.1 hx;exact (h.lab p hp).1
 simpa using this
theorem Mc {g:Gr} (hg:GOk g) {ls:List Lab} (hp:∀x,x∈ls↔x∈labels g):∀(f f':Nat) (to:Lab),g.rq.ready≤to.time→(to.time-g.rq.ready).toNat<f→(to.time-g.rq.ready).toNat<f'→DW g ls f to=DW g ls f' to
 |0,_,to,_,h,_=>by omega
 |_,0,to,_,_,h=>by omega
 |f+1,f'+1,to,h0,h1,h2=>by
  unfold DW;cases h:GM g ls to with
  |none=>rfl
  |some p=>
   obtain ⟨h3,m,h4,h5,h6,h7⟩:=Jl h;have hl:=Ct hg h4;have ht:=H6 hg ((Ek hg).reach p.1 (by simpa using (hp _).1 h3));simp only;split
   ·rfl
   ·rw [Mc hg hp f f' p.1 ht (by omega) (by omega)]
def Fk (g:Gr) (a:Int):Lab:=⟨g.rq.dst,0,1099511627776,a⟩
def Cl (g:Gr) (ls:List Lab):Option (List Hop):=(M8 g ls).map fun a=>((DW g ls ((a-g.rq.ready).toNat+1) (Fk g a)).map (·.2)).reverse
structure EarlOk (g:Gr) (ls:List Lab) (a:Int) (l:List Hop):Prop where
 ne:l≠[]
 last:∃h,l.getLast? = some h∧h.arr=a
 gap:∀h∈l,KC g h
 ord:l.Pairwise fun x y=>x.arr≤y.beg
 len:l.length≤ls.length
theorem Su {g:Gr} (hg:GOk g) {ls:List Lab} (hp:∀x,x∈ls↔x∈labels g) {l:List Hop} (h:Cl g ls=some l):∃a,M8 g ls=some a∧EarlOk g ls a l:=by
 unfold Cl at h;cases ha:M8 g ls with
 |none=>rw [ha] at h;cases h
 |some a=>
  rw [ha] at h;simp only [map_some,Option.some.injEq] at h;obtain ⟨⟨x,hx,m,hm,hmd,hmt⟩,_⟩:=Nw ha;have hb:=JI hg (ls:=ls) ((a-g.rq.ready).toNat+1) (Fk g a);have hpre:∃p,GM g ls (Fk g a)=some p:=by
   cases hpr:GM g ls (Fk g a) with
   |some p=>exact ⟨p,rfl⟩
   |none=>
    refine (TU hpr x hx m hm ⟨?_,hmt⟩).elim;obtain ⟨k,c,r,h1,h2,h3,h4⟩:=Ff.1 hm;obtain ⟨b,h5,h6,h7,h8⟩:=Gf h4;have hd:c.to=g.rq.dst:=by rw [h7] at hmd;exact hmd
    unfold BU at h3;rw [if_pos hd] at h3;cases mem_singleton.1 h3;rw [h7];simp [Dw,Fk,hd]
  obtain ⟨p,hpe⟩:=hpre;have hcons:∃t,DW g ls ((a-g.rq.ready).toNat+1) (Fk g a)=p::t:=by unfold DW;rw [hpe];exact ⟨_,rfl⟩
  obtain ⟨t,ht⟩:=hcons;rw [ht] at hb h;refine ⟨a,rfl,?_,?_,fun e he => ?_,?_,?_⟩
  ·rw [← h];simp
  ·refine ⟨p.2,?_,hb.first p rfl⟩;rw [← h];simp
  ·rw [← h,List.mem_reverse] at he;obtain ⟨q,hq,rfl⟩:=mem_map.1 he;exact (hb.lab q hq).2.2.1
  ·rw [← h,List.pairwise_reverse,pairwise_map];exact hb.ord.imp fun hab=>hab.2
  ·rw [← h];have:=Mb hb;simpa using this
def Dn (so:List Lab→List Lab) (q:List Int) (cs:List AA) (hs:List AW) (r:Rqt) (pick:List Hop→List Int):Nat→List AB→List (List Hop)
 |0,_=>[]
 |f+1,bs=>match Cl (gOf q cs bs hs r) (so (labels (gOf q cs bs hs r))) with
  |none=>[]
  |some l=>l::Dn so q cs hs r pick f (IN q cs bs (pick l))
theorem Sn {q:List Int} {cs:List AA} {bs:List AB} {hs:List AW} {r:Rqt} {h:Hop} (hg:KC (gOf q cs bs hs r) h):0≤h.con∧h.con<cs.length:=by obtain ⟨k,c,fr,h1,h2,_⟩:=hg;have:k<cs.length:=AJ h1;omega
theorem VT {q:List Int} {cs:List AA} {bs0 bs:List AB} {hs:List AW} {r:Rqt} {B:List Int} (hB:BSt q cs bs0 bs B) {h:Hop} (hg:KC (gOf q cs bs hs r) h):h.con∉B:=fun hm=>by obtain ⟨k,c,fr,h1,h2,h3,_⟩:=hg;have hc:cs[k]? = some c:=h1;rw [(Kn hc).1,← h2,hB.shut _ hm c (by rw [h2,toNat_natCast];exact hc)] at h3;cases h3
theorem SI {q:List Int} {cs:List AA} {bs0 bs:List AB} {hs:List AW} {B:List Int} (ht:Bn q cs bs0 hs=0) (hB:BSt q cs bs0 bs B):Bn q cs bs hs=0:=by obtain ⟨h1,h2,h3⟩:=BY ht;exact KG h1 hB.ok h3
end Ab
namespace Ab
open Go
structure WSt where
 vt:Nat
 to:Lab
 vw:Nat
 out:List Hop
def bH (T:Tb) (a:ASt) (W:WSt) (suf:Heap):Heap:=
 gH T T.g.gaps T.g.Au T.g.dur (.box [.ptr 3 0] :: .box [.ptr 3 0] :: .row false a.ls.length 4 (a.ls.map Lab.enc) :: .box [.sref 6 a.ls.length 0 a.ls.length] :: .row false a.vo 4 a.jk :: .box [.sref 8 a.vo 0 0] :: .box [.sref 6 a.ls.length 0 a.ls.length] ::
  .row false W.vt 4 [W.to.enc] :: .row false W.vw 4 (W.out.map Hop.enc)::suf)
def cH (T:Tb) (a:ASt) (W:WSt) (x:Lab) (suf:Heap):Heap:=bH T a W (Bp::Bp :: .box [.t (.bool false)] :: .box (xA x)::suf)
def Tq (x:Lab) (h:Hop):List AV:=[.t (tI x.node),.t (tI x.frm),.t (tI x.to),.t (tI x.time),.t (tI h.con),.t (tI h.beg),.t (tI h.stop),.t (tI h.arr),.t (.bool true)]
def fZ (T:Tb) (a:ASt) (W:WSt) (zz:List AV×Heap→Option (List Tree)) (z:Option (List Tree)):Option (Lab×Hop)→Option (List Tree)
 |none=>z
 |some p=>zz (Tq p.1 p.2,bH T a W [])
theorem hop84 (T:Tb) (a:ASt) (W:WSt) (x:Lab) (rm:Span) (k:Nat) (c:AA) (hk:T.cs[k]? = some c) (d:Int) (hd:Sm d) (ht:Sm x.time) (hr:Sm rm.frm) (hc:0≤c.rng∧c.rng≤1048576) (kh:Heap)
  (gs:List Span) (hgs:∀a∈gs,Sm a.frm∧Sm a.to) (hgl:gs.length≤100000) :
  Ev fun n=>∀z,AI (fun p again=>Ks n (spE gs) (rgE rm) x.enc [tI d] ([.t (tI k)],kh) z p again) n ([.t (tI (0:Nat))],cH T a W x [.box [.ptr 3 0],.box [],.box [],.box [],Bp])
   = z (hpA (IC k c d gs (if rm.frm>x.time then rm.frm else x.time)),cH T a W x [.box [.ptr 3 0],.box [],.box [],.box []]):=by
 refine A3 gs (fun i _=>(([.t (tI i)],cH T a W x [.box [.ptr 3 0],.box [],.box [],.box [],Bp]):List AV×Heap)) (E7 c k d (if rm.frm>x.time then rm.frm else x.time)) (fun _=>none)
  (fun (z:List AV×Heap→Option (List Tree)) o=>z (hpA o,cH T a W x [.box [.ptr 3 0],.box [],.box [],.box []])) (fun _ _=>True) () rfl trivial (Km c k d _ gs 0)
  (fun i s' e ha hI=>Ev.of fun n z again => ?_) (fun _ _ _ _ _ _ _=>trivial) (fun s' hI=>Ev.of fun n z again => ?_)
 ·have hi:=AJ ha;obtain ⟨h1,h2⟩:=hgs e (mem_of_getElem? ha);have hb:Sm (CI (if rm.frm>x.time then rm.frm else x.time) e):=by unfold CI Sm at *;omega
  have e1:w64 (CI (if rm.frm>x.time then rm.frm else x.time) e+d)=CI (if rm.frm>x.time then rm.frm else x.time) e+d:=Qx hb hd;have e3:w64 (CI (if rm.frm>x.time then rm.frm else x.time) e+d+c.rng)=CI (if rm.frm>x.time then rm.frm else x.time) e+d+c.rng:=by unfold Sm at hb hd;exact A6 (by omega) (by omega)
  have e4:(if (if rm.frm>x.time then rm.frm else x.time)>e.frm then (if rm.frm>x.time then rm.frm else x.time) else e.frm)=CI (if rm.frm>x.time then rm.frm else x.time) e:=rfl;simp only [gt_iff_lt] at e1 e3 e4;simp only [Ks,cH,bH,gH,spE,rgE,xA,Lab.enc,Bp,vv,reduceCtorEq,reduceAdd,reduceEqDiff,zh0,zh1,zh2,zh3,zh4,zh5,zh6,zo0,zo1,ha,Span.enc,e1,e3,e4,hk,AA.enc,(show (i:Int)<gs.length by omega),AS (show i<4611686018427387904 by omega),E7];by_cases hc2:CI (if x.time<rm.frm then rm.frm else x.time) e+d≤e.to
  ·simp only [hc2,vv,reduceCtorEq,reduceAdd,reduceEqDiff,zh0,zh1,zh2,zh3,zh4,zh5,zh6,zo0,zo1,Rd.Ap,hpA]
  ·simp only [hc2,vv,reduceCtorEq,reduceAdd,reduceEqDiff,zh0,zh1,zh2,zh3,zh4,zh5,zh6,zo0,zo1,Rd.Ad]
 ·simp only [Ks,cH,bH,gH,spE,rgE,xA,Lab.enc,Bp,vv,reduceCtorEq,reduceAdd,reduceEqDiff,zh0,zh1,zh2,zh3,zh4,zh5,zh6,zo0,zo1,lt_irrefl,hpA]
def To (W:WSt) (x:Lab):Option (Lab×Hop)→Option (Lab×Hop)
 |none=>none
 |some m=>if Az m.1 W.to=true∧m.1.time=W.to.time then some (x,m.2) else none
theorem mv88 (T:Tb) (a:ASt) (W:WSt) (x:Lab) (rm:Span) (k:Nat) (c:AA) (hk:T.cs[k]? = some c) (hc:0≤c.rng∧c.rng≤1048576) (o:Option Hop) (hh:∀h,o=some h→h.con=k∧Sm h.stop) :
  Ev fun n=>∀zz z,GD n z zz c.enc (rgE rm) W.to.enc x.enc (hpA o,cH T a W x [.box [.ptr 3 0],.box [],.box [],.box []])=fZ T a W zz (z ([],cH T a W x [.box [.ptr 3 0],.box [],.box []])) (To W x (mvH T x c rm o)):=by
 cases o with
 |none=>
  refine Ev.of fun n zz z => ?_;simp only [GD,FH,cH,bH,gH,xA,Bp,hpA,mvH,To,fZ,vv,reduceCtorEq,reduceAdd,reduceEqDiff,zh0,zh1,zh2,zh3,zh4,zh5,zh6,zo0,zo1]
 |some h=>
  obtain ⟨c1,c2⟩:=hh h rfl;have e1:w64 (2*c.rng)=2*c.rng:=A6 (by omega) (by omega);have e2:w64 (h.stop+2*c.rng)=h.stop+2*c.rng:=by unfold Sm at c2;exact A6 (by omega) (by omega)
  have hA:∀n zz z,GD n z zz c.enc (rgE rm) W.to.enc x.enc (hpA (some h),cH T a W x [.box [.ptr 3 0],.box [],.box [],.box []])=
    FH n z zz (hpA (some h),cH T a W x [.box [.ptr 3 0],.box [],.box [],.box []]) c.enc (rgE rm) W.to.enc ([.t (.bool (Ke T x c rm h))],cH T a W x [.box [.ptr 3 0],.box [],.box [],.box [],.box []]):=fun n zz z=>by
   have hB:∀lv:Int,∀w,K2 n x.enc w (hpA (some h),cH T a W x [.box [.ptr 3 0],.box [],.box [],.box []]) c.enc (rgE rm) ([.t (tI lv)],cH T a W x [.box [.ptr 3 0],.box [],.box [],.box [],.box []])=
     w ([.t (.bool (decide (lv>x.to∨h.arr>T.r.dead∨(c.to≠T.r.dst∧h.arr≥rm.to))))],cH T a W x [.box [.ptr 3 0],.box [],.box [],.box [],.box []]):=fun lv w=>by
    simp only [K2,cH,bH,gH,xA,Bp,hpA,Lab.enc,rgE,AA.enc,vv,reduceCtorEq,reduceAdd,reduceEqDiff,zh0,zh1,zh2,zh3,zh4,zh5,zh6,zo0,zo1];by_cases b1:x.to<lv
    ·simp only [b1,vv,reduceCtorEq,reduceAdd,reduceEqDiff,zh0,zh1,zh2,zh3,zh4,zh5,zh6,zo0,zo1]
    ·by_cases b2:T.r.dead<h.arr
     ·simp only [b1,b2,vv,reduceCtorEq,reduceAdd,reduceEqDiff,zh0,zh1,zh2,zh3,zh4,zh5,zh6,zo0,zo1]
     ·by_cases b3:c.to=T.r.dst
      ·simp only [b1,b2,b3,bne_self_eq_false,vv,reduceCtorEq,reduceAdd,reduceEqDiff,zh0,zh1,zh2,zh3,zh4,zh5,zh6,zo0,zo1,ne_eq,not_true_eq_false]
      ·simp only [b1,b2,b3,bne_iff_ne,vv,reduceCtorEq,reduceAdd,reduceEqDiff,zh0,zh1,zh2,zh3,zh4,zh5,zh6,zo0,zo1,ne_eq,not_false_eq_true]
   have hC:GD n z zz c.enc (rgE rm) W.to.enc x.enc (hpA (some h),cH T a W x [.box [.ptr 3 0],.box [],.box [],.box []])=
     K2 n x.enc (fun p183=>FH n z zz (hpA (some h),cH T a W x [.box [.ptr 3 0],.box [],.box [],.box []]) c.enc (rgE rm) W.to.enc p183) (hpA (some h),cH T a W x [.box [.ptr 3 0],.box [],.box [],.box []]) c.enc (rgE rm) ([.t (tI (FK T.r c h))],cH T a W x [.box [.ptr 3 0],.box [],.box [],.box [],.box []]):=by
    simp only [GD,cH,bH,gH,xA,Bp,hpA,FK,c1,hk,AA.enc,Lab.enc,e1,e2,vv,reduceCtorEq,reduceAdd,reduceEqDiff,zh0,zh1,zh2,zh3,zh4,zh5,zh6,zo0,zo1];cases T.r.cust<;>simp only [vv,reduceCtorEq,reduceAdd,reduceEqDiff,zh0,zh1,zh2,zh3,zh4,zh5,zh6,zo0,zo1]
   rw [hC,hB];rfl
  simp only [hA];cases hb:Ke T x c rm h with
  |true=>
   have hm:mvH T x c rm (some h)=none:=by simp only [Ke,decide_eq_true_eq] at hb;simp only [mvH,if_pos hb]
   refine Ev.of fun n zz z => ?_;simp only [FH,cH,bH,gH,xA,Bp,hm,To,fZ,vv,reduceCtorEq,reduceAdd,reduceEqDiff,zh0,zh1,zh2,zh3,zh4,zh5,zh6,zo0,zo1]
  |false=>
   have hm:mvH T x c rm (some h)=some (⟨c.to,rm.frm,rm.to,h.arr⟩,h):=by simp only [Ke,decide_eq_false_iff_not] at hb;simp only [mvH,if_neg hb]
   rw [hm];simp only [To];refine (s91 ⟨c.to,rm.frm,rm.to,h.arr⟩ W.to).mono fun n h91 zz z => ?_;simp only [Lab.enc,cons_append,nil_append] at h91;cases hS:Az ⟨c.to,rm.frm,rm.to,h.arr⟩ W.to with
   |false=>
    rw [hS] at h91;simp only [FH,Kz,cH,bH,gH,xA,Bp,hpA,rgE,AA.enc,Lab.enc,h91,vv,reduceCtorEq,reduceAdd,reduceEqDiff,zh0,zh1,zh2,zh3,zh4,zh5,zh6,zo0,zo1,hS,false_eq_true,false_and,if_false,fZ]
   |true=>
    rw [hS] at h91;by_cases hT:h.arr=W.to.time
    ·rw [hT] at h91 hS;simp only [FH,Kz,cH,bH,gH,xA,Bp,hpA,rgE,AA.enc,Lab.enc,h91,vv,reduceCtorEq,reduceAdd,reduceEqDiff,zh0,zh1,zh2,zh3,zh4,zh5,zh6,zo0,zo1,hS,hT,beq_self_eq_true,and_self,if_true,fZ,Tq]
    ·simp only [FH,Kz,cH,bH,gH,xA,Bp,hpA,rgE,AA.enc,Lab.enc,h91,vv,reduceCtorEq,reduceAdd,reduceEqDiff,zh0,zh1,zh2,zh3,zh4,zh5,zh6,zo0,zo1,hS,hT,beq_eq_false_iff_ne.2 hT,and_false,if_false,fZ]
def OU (W:WSt) (x:Lab) (m:Lab×Hop):Option (Lab×Hop):=if Az m.1 W.to=true∧m.1.time=W.to.time then some (x,m.2) else none
def I9 {α:Type} (f:Nat→α→Option (Lab×Hop)) (i:Nat) (_:Unit) (a:α):Rd Unit (Option (Lab×Hop)):=match f i a with
 |some p =>.done (some p)
 |none =>.next ()
theorem P5 {α:Type} (f:Nat→α→Option (Lab×Hop)) (i:Nat) (a:α) (T:Tb) (A:ASt) (W:WSt) (zz:List AV×Heap→Option (List Tree)) (z:Option (List Tree)) (w:Option (List Tree)) :
  (I9 f i () a).go (fun _=>z) (fun o=>fZ T A W zz w o)=fZ T A W zz z (f i a):=by
 unfold I9;cases f i a<;>rfl
theorem fRun {α:Type} (f:α→Option (Lab×Hop)):∀(l:List α) (i:Nat),BJ (I9 fun _=>f) (fun _=>none) i l ()=l.findSome? f
 |[],i=>rfl
 |a::l,i=>by
  have ih:=fRun f l (i+1);rw [List.findSome?_cons];unfold BJ;simp only [I9];cases h:f a with
  |none=>exact ih
  |some p=>rfl
theorem Sr (W:WSt) (x:Lab) (g:Span→Option (Lab×Hop)):∀rs:List Span,rs.findSome? (fun rm=>To W x (g rm))=(rs.filterMap g).findSome? (OU W x)
 |[]=>rfl
 |r::rs=>by
  rw [List.findSome?_cons,Sr W x g rs];cases h:g r with
  |none=>rw [List.filterMap_cons_none h];rfl
  |some m=>
   rw [List.filterMap_cons_some h,List.findSome?_cons];rfl
theorem rm90 (T:Tb) (a:ASt) (W:WSt) (x:Lab) (k:Nat) (c:AA) (d:Int) (gs:List Span) (hk:CtOk T k c d gs) (ht:0≤x.time∧x.time≤1099511627776) (kh:Heap)
  (rs:List Span) (hol:rs.length≤10000000) (hrs:∀a∈rs,Sm a.frm) :
  Ev fun n=>∀y:(List AV×Heap→Option (List Tree))×(List AV×Heap→Option (List Tree)),AI (fun p again=>JR n (spE rs) y.1 c.enc W.to.enc x.enc ([.t (tI k)],kh) y.2 p again) n ([.t (tI (0:Nat))],cH T a W x [.box [.ptr 3 0],.box [],.box []])
   = fZ T a W y.1 (y.2 ([],cH T a W x [.box [.ptr 3 0],.box []])) ((rs.filterMap (mv1 T.g x k c)).findSome? (OU W x)):=by
 refine A3 rs (fun i _=>(([.t (tI i)],cH T a W x [.box [.ptr 3 0],.box [],.box []]):List AV×Heap)) (I9 fun _ rm=>To W x (mv1 T.g x k c rm)) (fun _=>none)
  (fun (y:(List AV×Heap→Option (List Tree))×(List AV×Heap→Option (List Tree))) o=>fZ T a W y.1 (y.2 ([],cH T a W x [.box [.ptr 3 0],.box []])) o) (fun i _=>True) () rfl trivial (by rw [fRun,Sr])
  (fun i b rm ha hI => ?_) (fun _ _ _ _ _ _ _=>trivial) (fun b hI=>Ev.of fun n z again => ?_)
 ·have hi:=AJ ha;have hg1:T.g.dur.getD k 0=d:=by simp [List.getD,hk.dur]
  have hg2:T.g.gaps.getD k []=gs:=by simp [List.getD,hk.gap]
  have hkl:=AJ hk.gap;have hkd:=AJ hk.dur;have hS:=hk.durS;have hA:=hop84 T a W x rm k c hk.con d (by unfold Sm;omega) (by unfold Sm;omega) (hrs rm (mem_of_getElem? ha)) hk.rng kh gs (fun a ha=>by have:=hk.gapS a ha;unfold Sm;omega) hk.gapL;have hB:=mv88 T a W x rm k c hk.con hk.rng (IC k c d gs (if rm.frm>x.time then rm.frm else x.time)) (fun h hh=>by obtain ⟨h1,a,h2,h3,h4,h5,h6,h7⟩:=L2 hh;have:=hk.gapS a h2;exact ⟨h1,by unfold Sm;omega⟩)
  refine (hA.and hB).mono fun n ⟨h1,h2⟩ y again => ?_;have a1:=h1 (fun p299=>GD n (fun p296=>JY n again ([.t (tI i)],cH T a W x [.box [.ptr 3 0],.box [],.box []]) p296) y.1 c.enc (rgE rm) W.to.enc x.enc p299);have a2:=h2 y.1 (fun p296=>JY n again ([.t (tI i)],cH T a W x [.box [.ptr 3 0],.box [],.box []]) p296);have a3:JY n again ([.t (tI i)],cH T a W x [.box [.ptr 3 0],.box [],.box []]) ([],cH T a W x [.box [.ptr 3 0],.box [],.box []])=again ([.t (tI ((i+1:Nat):Int))],cH T a W x [.box [.ptr 3 0],.box [],.box []]):=by simp only [JY,cH,bH,gH,xA,Bp,vv,reduceCtorEq,reduceAdd,reduceEqDiff,zh0,zh1,zh2,zh3,zh4,zh5,zh6,zo0,zo1,AS (show i<4611686018427387904 by omega)]
  rw [a3] at a2;rw [P5,RL,hg1,hg2];refine Eq.trans ?_ (a1.trans a2);simp only [JR,cH,bH,gH,xA,spE,rgE,Bp,vv,reduceCtorEq,reduceAdd,reduceEqDiff,zh0,zh1,zh2,zh3,zh4,zh5,zh6,zo0,zo1,ha,Span.enc,hk.dur,hk.gap,encI,(show (i:Int)<rs.length by omega),(show (k:Int)<T.g.gaps.length by omega),(show (k:Int)<T.g.dur.length by omega)];rfl
 ·simp only [JR,cH,bH,gH,xA,spE,Bp,vv,reduceCtorEq,reduceAdd,reduceEqDiff,zh0,zh1,zh2,zh3,zh4,zh5,zh6,zo0,zo1,lt_irrefl,fZ]
theorem eq83 (n:Nat) (zz:List AV×Heap→Option (List Tree)) (y y2 y3:List Tree) (p132:List AV×Heap) (ag:List AV×Heap→Option (List Tree)) (p:List AV×Heap) (again:List AV×Heap→Option (List Tree)) :
  S9 n zz y y2 y3 p132 ag p again=JR n (spE [⟨0,1099511627776⟩]) zz y y2 y3 p132 ag p again:=rfl
def ctF (T:Tb) (W:WSt) (x:Lab) (k:Nat) (c:AA):Option (Lab×Hop):=(mvC T.g x k c).findSome? (OU W x)
theorem Vm (T:Tb) (W:WSt) (x:Lab):∀(l:List AA) (k:Nat),BJ (I9 (ctF T W x)) (fun _=>none) k l ()=(mvL T.g x k l).findSome? (OU W x)
 |[],k=>rfl
 |c::l,k=>by
  have ih:=Vm T W x l (k+1);unfold mvL;rw [List.findSome?_append];unfold BJ;simp only [I9];have e:ctF T W x k c=(mvC T.g x k c).findSome? (OU W x):=rfl;cases h:ctF T W x k c with
  |none=>
   rw [← e,h];exact ih
  |some p=>
   rw [← e,h];rfl
theorem ct92 (T:Tb) (hT:TOk T) (a:ASt) (W:WSt) (x:Lab) (ht:0≤x.time∧x.time≤1099511627776) (p264:List AV×Heap) (h264:cL p264 3 1=T.cs.map AA.enc) (i:Nat) (hi0:vI p264 0=i) (hi:i≤100000) :
  Ev fun n=>∀y:(List AV×Heap→Option (List Tree))×(List AV×Heap→Option (List Tree)),AI (fun p again=>HZ n p264 x.enc y.1 W.to.enc y.2 p again) n ([.t (tI (0:Nat))],cH T a W x [.box [.ptr 3 0],.box []])
   = fZ T a W y.1 (y.2 ([.t (tI ((i+1:Nat):Int))],bH T a W [Bp,Bp,.box [.t (.bool false)]])) ((BM T.g x).findSome? (OU W x)):=by
 refine A3 T.cs (fun i _=>(([.t (tI i)],cH T a W x [.box [.ptr 3 0],.box []]):List AV×Heap)) (I9 (ctF T W x)) (fun _=>none)
  (fun (y:(List AV×Heap→Option (List Tree))×(List AV×Heap→Option (List Tree))) o=>fZ T a W y.1 (y.2 ([.t (tI ((i+1:Nat):Int))],bH T a W [Bp,Bp,.box [.t (.bool false)]])) o) (fun _ _=>True) () rfl trivial (Vm T W x T.cs 0)
  (fun i b c ha hI => ?_) (fun _ _ _ _ _ _ _=>trivial) (fun b hI=>Ev.of fun n z again => ?_)
 ·have hi:=AJ ha;have hcl:=hT.cl;obtain ⟨d,gs,hk⟩:=hT.ct i c ha;have hto:=hT.to c (mem_of_getElem? ha);by_cases hf:c.frm=x.node
  ·by_cases hd:c.to=T.r.dst
   ·have hrm:BU T.g c.to=[⟨0,1099511627776⟩]:=by unfold BU;exact if_pos hd
    have hR:=rm90 T a W x i c d gs hk ht (cH T a W x [.box [.ptr 3 0],.box []]) [⟨0,1099511627776⟩] (by simp only [length_cons,length_nil];omega) (fun a ha=>by cases mem_singleton.1 ha;unfold Sm;exact ⟨by decide,by decide⟩);refine hR.mono fun n h y again => ?_;have a1:=h (y.1,fun p134=>FF n again ([.t (tI i)],cH T a W x [.box [.ptr 3 0],.box []]) p134);have a3:FF n again ([.t (tI i)],cH T a W x [.box [.ptr 3 0],.box []]) ([],cH T a W x [.box [.ptr 3 0],.box []])=again ([.t (tI ((i+1:Nat):Int))],cH T a W x [.box [.ptr 3 0],.box []]):=by simp only [FF,cH,bH,gH,xA,Bp,vv,reduceCtorEq,reduceAdd,reduceEqDiff,zh0,zh1,zh2,zh3,zh4,zh5,zh6,zo0,zo1,AS (show i<4611686018427387904 by omega)]
    simp only [a3] at a1;have hs:ctF T W x i c=([⟨0,1099511627776⟩].filterMap (mv1 T.g x i c)).findSome? (OU W x):=by unfold ctF mvC;rw [if_pos hf,hrm]
    rw [P5,hs];refine Eq.trans ?_ a1;simp only [HZ,h264,cH,bH,gH,xA,Bp,eq83,vv,reduceCtorEq,reduceAdd,reduceEqDiff,zh0,zh1,zh2,zh3,zh4,zh5,zh6,zo0,zo1,ha,AA.enc,Lab.enc,hf,hd,bne_self_eq_false,beq_self_eq_true,(show (i:Int)<T.cs.length by omega)];rfl
   ·have hlt:c.to.toNat<T.g.Au.length:=by omega
    have hg:T.g.Au[c.to.toNat]? = some T.g.Au[c.to.toNat]:=getElem?_eq_getElem hlt;have hm:=hT.room _ (mem_of_getElem? hg);have hrm:BU T.g c.to=T.g.Au[c.to.toNat]:=by unfold BU;rw [if_neg (show ¬c.to=T.g.rq.dst from hd)];simp [List.getD,hg]
    generalize T.g.Au[c.to.toNat]=rs at hg hm hrm;have hR:=rm90 T a W x i c d gs hk ht (cH T a W x [.box [.ptr 3 0],.box []]) rs (by omega) (fun a ha=>by have:=hm.2 a ha;unfold Sm;omega);refine hR.mono fun n h y again => ?_;have a1:=h (y.1,fun p134=>FF n again ([.t (tI i)],cH T a W x [.box [.ptr 3 0],.box []]) p134);have a3:FF n again ([.t (tI i)],cH T a W x [.box [.ptr 3 0],.box []]) ([],cH T a W x [.box [.ptr 3 0],.box []])=again ([.t (tI ((i+1:Nat):Int))],cH T a W x [.box [.ptr 3 0],.box []]):=by simp only [FF,cH,bH,gH,xA,Bp,vv,reduceCtorEq,reduceAdd,reduceEqDiff,zh0,zh1,zh2,zh3,zh4,zh5,zh6,zo0,zo1,AS (show i<4611686018427387904 by omega)]
    simp only [a3] at a1;have hs:ctF T W x i c=(rs.filterMap (mv1 T.g x i c)).findSome? (OU W x):=by unfold ctF mvC;rw [if_pos hf,hrm]
    rw [P5,hs];refine Eq.trans ?_ a1;have t1:okL 2 (spE rs) 0=true:=rfl;simp only [HZ,h264,cH,bH,gH,xA,Bp,vv,reduceCtorEq,reduceAdd,reduceEqDiff,zh0,zh1,zh2,zh3,zh4,zh5,zh6,zo0,zo1,ha,AA.enc,Lab.enc,hf,bne_self_eq_false,beq_eq_false_iff_ne.2 hd,hg,t1,hto.1,hto.2,(show (i:Int)<T.cs.length by omega)];rfl
  ·refine Ev.of fun n z again => ?_;have hs:ctF T W x i c=none:=by unfold ctF mvC;rw [if_neg hf];rfl
   rw [P5,hs];simp only [HZ,FF,cH,bH,gH,xA,Bp,h264,vv,reduceCtorEq,reduceAdd,reduceEqDiff,zh0,zh1,zh2,zh3,zh4,zh5,zh6,zo0,zo1,ha,AA.enc,Lab.enc,bne_iff_ne.2 hf,AS (show i<4611686018427387904 by omega),(show (i:Int)<T.cs.length by omega),fZ]
 ·simp only [HZ,cH,bH,gH,xA,Bp,h264,hi0,vv,reduceCtorEq,reduceAdd,reduceEqDiff,zh0,zh1,zh2,zh3,zh4,zh5,zh6,zo0,zo1,lt_irrefl,AS (show i<4611686018427387904 by omega),fZ]
def VA:List AV:=[.t (tI 0),.t (tI 0),.t (tI 0),.t (tI 0),.t (tI 0),.t (tI 0),.t (tI 0),.t (tI 0),.t (.bool false)]
theorem lb93 (T:Tb) (hT:TOk T) (a:ASt) (W:WSt) (hl:a.ls.length≤10000) (ht:∀x∈a.ls,0≤x.time∧x.time≤1099511627776) (p259:List AV×Heap) (h1:AM p259 10 0=a.ls.length) (h2:AK p259 10 0=a.ls.length) (h3:AU p259 10 0=0) :
  Ev fun n=>∀z,AI (fun p again=>Kr n p259 z W.to.enc p again) n ([.t (tI (0:Nat))],bH T a W [Bp,Bp,.box [.t (.bool false)]])
   = fZ T a W z (z (VA,bH T a W [])) (GM T.g a.ls W.to):=by
 refine A3 a.ls (fun i _=>(([.t (tI i)],bH T a W [Bp,Bp,.box [.t (.bool false)]]):List AV×Heap)) (I9 fun _ x=>(BM T.g x).findSome? (OU W x)) (fun _=>none)
  (fun (z:List AV×Heap→Option (List Tree)) o=>fZ T a W z (z (VA,bH T a W [])) o) (fun _ _=>True) () rfl trivial (by rw [fRun];rfl)
  (fun i b x ha hI => ?_) (fun _ _ _ _ _ _ _=>trivial) (fun b hI=>Ev.of fun n z again => ?_)
 ·have hi:=AJ ha;have hct:=ct92 T hT a W x (ht x (mem_of_getElem? ha)) ([.t (tI i)],bH T a W [Bp,Bp,.box [.t (.bool false)]]) (by simp only [bH,gH,vv,reduceCtorEq,reduceAdd,reduceEqDiff,zh0,zh1,zh2,zh3,zh4,zh5,zh6,zo0,zo1]) i (by simp only [vv,reduceCtorEq,reduceAdd,reduceEqDiff,zh0,zh1,zh2,zh3,zh4,zh5,zh6,zo0,zo1]) (by omega);refine hct.mono fun n h z again => ?_;rw [P5];refine Eq.trans ?_ (h (z,again));simp only [Kr,cH,bH,gH,Bp,h1,h2,h3,vv,reduceCtorEq,reduceAdd,reduceEqDiff,zh0,zh1,zh2,zh3,zh4,zh5,zh6,zo0,zo1,ha,xA,Lab.enc,(show (i:Int)<a.ls.length by omega)];rfl
 ·simp only [Kr,bH,gH,Bp,h1,h2,h3,vv,reduceCtorEq,reduceAdd,reduceEqDiff,zh0,zh1,zh2,zh3,zh4,zh5,zh6,zo0,zo1,lt_irrefl,fZ,VA]
end Ab
namespace Ab
open Go
def WSt.app (W:WSt) (p:Lab×Hop):WSt:=⟨W.vt,p.1,W.vw+1,W.out++[p.2]⟩
def WSt.nxt (W:WSt) (p:Lab×Hop):WSt:=⟨W.vt+1,p.1,W.vw+1,W.out++[p.2]⟩
def IZ (T:Tb) (x:Lab):Prop:=x.node=T.r.src∧x.time=T.r.ready
instance (T:Tb) (x:Lab):Decidable (IZ T x):=inferInstanceAs (Decidable (_∧_))
def Ji (T:Tb) (ls:List Lab):Nat→WSt→WSt
 |0,W=>W
 |f+1,W=>match GM T.g ls W.to with
  |none=>W
  |some p=>if IZ T p.1 then W.app p else Ji T ls f (W.nxt p)
theorem LZ (T:Tb) (ls:List Lab):∀(f:Nat) (W:WSt),(Ji T ls f W).out=W.out++(DW T.g ls f W.to).map (·.2)
 |0,W=>by simp [Ji,DW]
 |f+1,W=>by
  unfold Ji DW;cases h:GM T.g ls W.to with
  |none=>simp
  |some p=>
   simp only;by_cases hs:IZ T p.1
   ·have hs2:p.1.node=T.g.rq.src∧p.1.time=T.g.rq.ready:=hs;rw [if_pos hs,if_pos hs2];rfl
   ·have hs2:¬(p.1.node=T.g.rq.src∧p.1.time=T.g.rq.ready):=hs;rw [if_neg hs,if_neg hs2,LZ T ls f];simp [WSt.nxt]
theorem Lh {T:Tb} (hg:GOk T.g) {ls:List Lab} (hp:∀x,x∈ls↔x∈labels T.g) {to:Lab} {p:Lab×Hop} (h:GM T.g ls to=some p):T.r.ready≤p.1.time∧p.1.time<to.time:=by obtain ⟨h3,m,h4,h5,h6,h7⟩:=Jl h;have hl:=Ct hg h4;have ht:=H6 hg ((Ek hg).reach p.1 (by simpa using (hp _).1 h3));have hr:T.g.rq.ready=T.r.ready:=rfl;rw [hr] at ht;exact ⟨ht,by omega⟩
theorem NH {T:Tb} (hg:GOk T.g) {ls:List Lab} (hp:∀x,x∈ls↔x∈labels T.g):∀(f f':Nat) (W:WSt),(W.to.time-T.r.ready).toNat<f→(W.to.time-T.r.ready).toNat<f'→Ji T ls f W=Ji T ls f' W
 |0,_,W,h,_=>by omega
 |_,0,W,_,h=>by omega
 |f+1,f'+1,W,h1,h2=>by
  unfold Ji;cases h:GM T.g ls W.to with
  |none=>rfl
  |some p=>
   have hl:=Lh hg hp h;simp only;split
   ·rfl
   ·rw [NH hg hp f f' (W.nxt p) (by simp only [WSt.nxt];omega) (by simp only [WSt.nxt];omega)]
def Om (T:Tb) (ls:List Lab) (W:WSt):Rd WSt WSt:=match GM T.g ls W.to with
 |none =>.done W
 |some p=>if IZ T p.1 then .done (W.app p) else .next (W.nxt p)
def wSt (T:Tb) (a:ASt) (W:WSt):List AV×Heap:=([.sref 12 W.vw 0 W.out.length,.rptr 11 W.vt 0 0],bH T a W [])
def wFn (T:Tb) (a:ASt) (W:WSt):List AV×Heap:=([.sref 12 W.vw 0 W.out.length],bH T a W [])
theorem j95n (T:Tb) (a:ASt) (W:WSt) (n:Nat) (z again:List AV×Heap→Option (List Tree)):FE n z (wSt T a W) again T.r.src T.r.ready (VA,bH T a W [])=z (wFn T a W):=by simp only [FE,wSt,wFn,VA,bH,gH,vv,reduceCtorEq,reduceAdd,reduceEqDiff,zh0,zh1,zh2,zh3,zh4,zh5,zh6,zo0,zo1]
theorem j95s (T:Tb) (a:ASt) (W:WSt) (hl:W.out.length≤10000) (p:Lab×Hop) (n:Nat) (z again:List AV×Heap→Option (List Tree)) :
  FE n z (wSt T a W) again T.r.src T.r.ready (Tq p.1 p.2,bH T a W [])=if IZ T p.1 then z (wFn T a (W.app p)) else again (wSt T a (W.nxt p)):=by
 have t1:take W.out.length (W.out.map Hop.enc)=W.out.map Hop.enc:=take_of_length_le (by simp);have b1:W.out.length+1≤1073741824:=by omega
 by_cases h1:p.1.node=T.r.src
 ·by_cases h2:p.1.time=T.r.ready
  ·have hs:IZ T p.1:=⟨h1,h2⟩
   rw [if_pos hs];simp only [FE,Ky,wSt,wFn,WSt.app,Tq,bH,gH,Lab.enc,vv,reduceCtorEq,reduceAdd,reduceEqDiff,zh0,zh1,zh2,zh3,zh4,zh5,zh6,zo0,zo1,t1,b1,h1,h2,beq_self_eq_true,le_refl,length_append,map_append,map_cons,map_nil,Hop.enc]<;>rfl
  ·have hs:¬IZ T p.1:=fun h=>h2 h.2;rw [if_neg hs];simp only [FE,Ky,wSt,wFn,WSt.nxt,Tq,bH,gH,Lab.enc,vv,reduceCtorEq,reduceAdd,reduceEqDiff,zh0,zh1,zh2,zh3,zh4,zh5,zh6,zo0,zo1,t1,b1,h1,beq_self_eq_true,beq_eq_false_iff_ne.2 h2,le_refl,length_append,map_append,map_cons,map_nil,Hop.enc]<;>rfl
 ·have hs:¬IZ T p.1:=fun h=>h1 h.1;rw [if_neg hs];simp only [FE,Ky,wSt,wFn,WSt.nxt,Tq,bH,gH,Lab.enc,vv,reduceCtorEq,reduceAdd,reduceEqDiff,zh0,zh1,zh2,zh3,zh4,zh5,zh6,zo0,zo1,t1,b1,beq_eq_false_iff_ne.2 h1,le_refl,length_append,map_append,map_cons,map_nil,Hop.enc]<;>rfl
theorem bk96 (T:Tb) (hT:TOk T) (hg:GOk T.g) (a:ASt) (hp:∀x,x∈a.ls↔x∈labels T.g) (hl:a.ls.length≤1000) (ht:∀x∈a.ls,0≤x.time∧x.time≤1099511627776) (to:Lab) (hto:T.r.ready≤to.time) :
  Ev fun n=>∀z,AI (fun p again=>Oy n z T.r.src T.r.ready p again) n ([.sref 12 0 0 0,.rptr 11 0 0 0],bH T a ⟨0,to,0,[]⟩ [])
   = z (wFn T a (Ji T a.ls ((to.time-T.r.ready).toNat+1) ⟨0,to,0,[]⟩)):=by
 have hnd:∀W:WSt,True:=fun _=>trivial;refine EA (fun (z:List AV×Heap→Option (List Tree)) W=>z (wFn T a W)) (wSt T a) (Om T a.ls) (fun W=>W.out.length+(DW T.g a.ls ((W.to.time-T.r.ready).toNat+1) W.to).length≤1000∧T.r.ready≤W.to.time) (fun W=>(W.to.time-T.r.ready).toNat) (fun W=>Ji T a.ls ((W.to.time-T.r.ready).toNat+1) W) ⟨0,to,0,[]⟩ rfl
  ⟨by have:=Mb (JI hg (ls:=a.ls) ((to.time-T.r.ready).toNat+1) to);simp only [length_nil];omega,hto⟩ rfl
  (fun W hI => ?_) (fun W W' hI h => ?_) (fun W hI => ?_)
 ·refine (lb93 T hT a W (by omega) ht (wSt T a W) (by simp only [wSt,bH,gH,vv,reduceCtorEq,reduceAdd,reduceEqDiff,zh0,zh1,zh2,zh3,zh4,zh5,zh6,zo0,zo1]) (by simp only [wSt,bH,gH,vv,reduceCtorEq,reduceAdd,reduceEqDiff,zh0,zh1,zh2,zh3,zh4,zh5,zh6,zo0,zo1]) (by simp only [wSt,bH,gH,vv,reduceCtorEq,reduceAdd,reduceEqDiff,zh0,zh1,zh2,zh3,zh4,zh5,zh6,zo0,zo1])).mono fun n h z again => ?_;have a1:=h (fun p262=>FE n z (wSt T a W) again T.r.src T.r.ready p262);have hol:W.out.length≤10000:=by omega
  refine Eq.trans ?_ (a1.trans ?_)
  ·simp only [Oy,wSt,bH,gH,Lab.enc,Bp,vv,reduceCtorEq,reduceAdd,reduceEqDiff,zh0,zh1,zh2,zh3,zh4,zh5,zh6,zo0,zo1];rfl
  ·unfold Om;cases hpr:GM T.g a.ls W.to with
   |none=>exact j95n T a W n z again
   |some p=>
    simp only [fZ];rw [j95s T a W hol p n z again];split<;>rfl
 ·unfold Om at h;cases hpr:GM T.g a.ls W.to with
  |none=>rw [hpr] at h;cases h
  |some p=>
   rw [hpr] at h;simp only at h;split at h
   ·cases h
   ·rename_i hs;cases h;have hl2:=Lh hg hp hpr;have hs2:¬(p.1.node=T.g.rq.src∧p.1.time=T.g.rq.ready):=hs;obtain ⟨i1,i2⟩:=hI;have e:DW T.g a.ls ((W.to.time-T.r.ready).toNat+1) W.to=p::DW T.g a.ls ((W.to.time-T.r.ready).toNat) p.1:=by
     conv=>lhs;unfold DW
     rw [hpr];simp only [if_neg hs2]
    have e2:=Mc hg hp ((W.to.time-T.r.ready).toNat) ((p.1.time-T.r.ready).toNat+1) p.1 hl2.1 (show (p.1.time-T.r.ready).toNat<_ by omega) (show (p.1.time-T.r.ready).toNat<_ by omega);rw [e,e2,length_cons] at i1;refine ⟨⟨?_,hl2.1⟩,?_⟩
    ·simp only [WSt.nxt,length_append,length_cons,length_nil];omega
    ·simp only [WSt.nxt];omega
 ·unfold Om
  conv=>lhs;unfold Ji
  cases hpr:GM T.g a.ls W.to with
  |none=>rfl
  |some p=>
   simp only;have hl2:=Lh hg hp hpr;by_cases hs:IZ T p.1
   ·rw [if_pos hs,if_pos hs];rfl
   ·rw [if_neg hs,if_neg hs];exact NH hg hp _ _ _ (by simp only [WSt.nxt];omega) (by simp only [WSt.nxt];omega)
end Ab
namespace Ab
open Go
def WSt.outs (W:WSt) (l:List Hop):WSt:=⟨W.vt,W.to,W.vw,l⟩
def Uo (T:Tb) (a:ASt) (W:WSt) (s:Nat×List Hop):List AV×Heap:=([.t (tI s.1),.t (tI ((W.out.length:Int)-1-s.1))],bH T a (W.outs s.2) [])
def GV {α:Type} (n:Nat) (s:Nat×List α):Rd (Nat×List α) (List α):=
 if h:s.1+s.1+1<n∧n=s.2.length then .next (s.1+1,(s.2.set s.1 (s.2[n-1-s.1]'(by omega))).set (n-1-s.1) (s.2[s.1]'(by omega))) else .done s.2
structure RvI {α:Type} (L:List α) (s:Nat×List α):Prop where
 len:s.2.length=L.length
 le:s.1+s.1≤L.length+1
 get:∀k,k<L.length→s.2[k]? = if k<s.1∨L.length-1-k<s.1 then L[L.length-1-k]? else L[k]?
theorem SM {α:Type} {L:List α} {s:Nat×List α} (h:RvI L s) (hc:¬s.1+s.1+1<L.length):s.2=L.reverse:=by
 have h1:=h.len;have h2:=h.le;refine ext_getElem? fun k => ?_;by_cases hk:k<L.length
 ·rw [h.get k hk,List.getElem?_reverse hk];split
  ·rfl
  ·rename_i hn;congr 1;omega
 ·rw [getElem?_eq_none (by omega),getElem?_eq_none (by simp;omega)]
theorem SL {α:Type} {L:List α} {s:Nat×List α} (h:RvI L s) (hc:s.1+s.1+1<L.length) (h1:L.length-1-s.1<s.2.length) (h2:s.1<s.2.length):RvI L (s.1+1,(s.2.set s.1 s.2[L.length-1-s.1]).set (L.length-1-s.1) s.2[s.1]):=by
 have hl:=h.len;refine ⟨by simp only [length_set];exact hl,by simp only;omega,fun k hk => ?_⟩;have hj:=h.get (L.length-1-s.1) (by omega);have hi:=h.get s.1 (by omega);rw [if_neg (by omega)] at hj hi;rw [getElem?_eq_getElem h1] at hj;rw [getElem?_eq_getElem h2] at hi;simp only;by_cases e1:k=L.length-1-s.1
 ·subst e1;rw [getElem?_set_self (by rw [length_set];exact h1),hi,if_pos (by omega)];congr 1;omega
 ·rw [getElem?_set_ne (fun e=>e1 e.symm)];by_cases e2:k=s.1
  ·subst e2;rw [getElem?_set_self h2,hj,if_pos (by omega)]
  ·rw [getElem?_set_ne (fun e=>e2 e.symm),h.get k hk];by_cases e3:k<s.1∨L.length-1-k<s.1
   ·rw [if_pos e3,if_pos (by omega)]
   ·rw [if_neg e3,if_neg (by omega)]
theorem rv97 (T:Tb) (a:ASt) (W:WSt) (hl:W.out.length≤10000) :
  Ev fun n=>∀z,AI (fun p again=>Kq n (wFn T a W) z p again) n (Uo T a W (0,W.out))=z ([],bH T a (W.outs W.out.reverse) []):=by
 refine EA (fun (z:List AV×Heap→Option (List Tree)) l=>z ([],bH T a (W.outs l) [])) (Uo T a W) (GV W.out.length) (RvI W.out) (fun s=>W.out.length-s.1) (fun _=>W.out.reverse) (0,W.out) rfl
  ⟨rfl,by simp,fun k hk=>by simp only [Nat.not_lt_zero,or_self,if_false]⟩ rfl
  (fun s hI=>Ev.of fun n z again => ?_) (fun s s' hI h => ?_) (fun s hI => ?_)
 ·have hlen:=hI.len;unfold GV;by_cases hc:s.1+s.1+1<W.out.length
  ·rw [dif_pos ⟨hc,hlen.symm⟩];have hj:((W.out.length:Int)-1-s.1)=((W.out.length-1-s.1:Nat):Int):=by omega
   have h1:W.out.length-1-s.1<s.2.length:=by omega
   have h2:s.1<s.2.length:=by omega
   have g1:s.2[W.out.length-1-s.1]? = some s.2[W.out.length-1-s.1]:=getElem?_eq_getElem h1;have g2:s.2[s.1]? = some s.2[s.1]:=getElem?_eq_getElem h2;have hw:w64 ((s.1:Int)+1)=((s.1+1:Nat):Int):=by rw [A6 (by omega) (by omega)];omega
   have hw2:w64 (((W.out.length-1-s.1:Nat):Int)-1)=(W.out.length:Int)-1-((s.1+1:Nat):Int):=by rw [A6 (by omega) (by omega)];omega
   have g3:((s.2.map Hop.enc).set s.1 s.2[W.out.length-1-s.1].enc)[W.out.length-1-s.1]? = some s.2[W.out.length-1-s.1].enc:=by rw [getElem?_set_ne (by omega),getElem?_map,g1];rfl
   generalize s.2[W.out.length-1-s.1]=x at g1 g3;generalize s.2[s.1]=y at g2;simp only [Hop.enc] at g3;rw [Rd.Ad];simp only [Kq,Uo,wFn,WSt.outs,bH,gH,vv,reduceCtorEq,reduceAdd,reduceEqDiff,zh0,zh1,zh2,zh3,zh4,zh5,zh6,zo0,zo1,hj,g1,g2,Hop.enc,hw,hw2,(show (s.1:Int)<((W.out.length-1-s.1:Nat):Int) by omega),(show ((W.out.length-1-s.1:Nat):Int)<W.out.length by omega),(show (s.1:Int)<W.out.length by omega),le_refl,List.map_set,append_nil,drop_succ_cons,drop_zero,List.drop_nil,g3]
  ·rw [dif_neg fun h=>hc h.1,Rd.Ap];simp only [Kq,Uo,wFn,WSt.outs,bH,gH,vv,reduceCtorEq,reduceAdd,reduceEqDiff,zh0,zh1,zh2,zh3,zh4,zh5,zh6,zo0,zo1,(show ¬(s.1:Int)<(W.out.length:Int)-1-s.1 by omega)]
 ·unfold GV at h;split at h
  ·rename_i hc;cases h;exact ⟨SL hI hc.1 (by omega) (by omega),by simp only;omega⟩
  ·cases h
 ·unfold GV;split
  ·rfl
  ·rename_i hc;simp only [Rd.fin];exact (SM hI (fun h=>hc ⟨h,hI.len.symm⟩)).symm
theorem j99 (T:Tb) (a:ASt) (W:WSt) (hl:W.out.length≤1000):Ev fun n=>Kx n (wFn T a W)=some [.sl 4 (W.out.reverse.map Hop.enc),tI 0]:=by
 refine (rv97 T a W (by omega)).mono fun n h => ?_;have a1:=h (fun p319=>O1 n (wFn T a W) p319);have hw:w64 ((W.out.length:Int)-1)=(W.out.length:Int)-1-((0:Nat):Int):=by rw [A6 (by omega) (by omega)];omega
 refine Eq.trans ?_ (a1.trans ?_)
 ·simp only [Kx,Uo,wFn,WSt.outs,bH,gH,vv,reduceCtorEq,reduceAdd,reduceEqDiff,zh0,zh1,zh2,zh3,zh4,zh5,zh6,zo0,zo1,hw,(show ¬(1000:Int)<W.out.length by omega)];rfl
 ·have t1:take W.out.length (W.out.reverse.map Hop.enc)=W.out.reverse.map Hop.enc:=take_of_length_le (by simp);simp only [O1,wFn,WSt.outs,bH,gH,vv,reduceCtorEq,reduceAdd,reduceEqDiff,zh0,zh1,zh2,zh3,zh4,zh5,zh6,zo0,zo1,t1]
def Fi:Option (List Hop)→List Tree
 |none=>[.sl 4 [],tI 18]
 |some l=>[.sl 4 (l.map Hop.enc),tI 0]
theorem j100 (T:Tb) (hT:TOk T) (hg:GOk T.g) (a:ASt) (hp:∀x,x∈a.ls↔x∈labels T.g) (hl:a.ls.length≤1000) (ht:∀x∈a.ls,0≤x.time∧x.time≤1099511627776) :
  Ev fun n=>G1 n T.r.src T.r.ready T.r.dst ([.t (tI ((M8 T.g a.ls).getD 0)),.t (.bool (M8 T.g a.ls).isSome)],lH T ⟨a.ls,a.vo,[],a.jk⟩ [.box [.sref 6 a.ls.length 0 a.ls.length]])=some (Fi (Cl T.g a.ls)):=by
 cases hA:M8 T.g a.ls with
 |none=>
  refine Ev.of fun n => ?_;have hE:Cl T.g a.ls=none:=by unfold Cl;rw [hA];rfl
  rw [hE];simp only [G1,isSome_none,getD_none,Fi,vv,reduceCtorEq,reduceAdd,reduceEqDiff,zh0,zh1,zh2,zh3,zh4,zh5,zh6,zo0,zo1]
 |some v=>
  have hv:T.r.ready≤v:=by obtain ⟨⟨x,hx,m,hm,hmd,hmt⟩,_⟩:=Nw hA;have h1:=H6 hg ((Ek hg).reach x (by simpa using (hp x).1 hx));have h2:=Ct hg hm;have hr:T.g.rq.ready=T.r.ready:=rfl;omega
  have hE:Cl T.g a.ls=some ((Ji T a.ls ((v-T.r.ready).toNat+1) ⟨0,Fk T.g v,0,[]⟩).out.reverse):=by unfold Cl;rw [hA,LZ];rfl
  have hb:=bk96 T hT hg a hp hl ht (Fk T.g v) hv;have hbl:=Mb (JI hg (ls:=a.ls) ((v-T.r.ready).toNat+1) (Fk T.g v));have hol:(Ji T a.ls ((v-T.r.ready).toNat+1) ⟨0,Fk T.g v,0,[]⟩).out.length≤1000:=by rw [LZ];simp only [nil_append,length_map];omega
  have hdt:(Fk T.g v).time=v:=rfl;rw [hdt] at hb;rw [hE];generalize Ji T a.ls ((v-T.r.ready).toNat+1) ⟨0,Fk T.g v,0,[]⟩=W at hb hol;refine (hb.and (j99 T a W hol)).mono fun n ⟨h1,h2⟩=> ?_;have a1:=h1 (fun p257=>Kx n p257);rw [h2] at a1;refine Eq.trans ?_ a1;simp only [G1,bH,lH,gH,Fk,Lab.enc,vv,reduceCtorEq,reduceAdd,reduceEqDiff,zh0,zh1,zh2,zh3,zh4,zh5,zh6,zo0,zo1,isSome_some,Option.getD_some,map_nil,nil_append,length_nil];rfl
end Ab
namespace Ab
open Go
def Vl (e:List Tree):Lab:=⟨intOf (e.getD 0 default),intOf (e.getD 1 default),intOf (e.getD 2 default),intOf (e.getD 3 default)⟩
theorem MQ (h:Lab):Vl h.enc=h:=rfl
noncomputable def soI:List Lab→List Lab:=lift Lab.enc Vl (Jm (BH [3,0,1]))
theorem soI_enc (l:List Lab):(soI l).map Lab.enc=Jm (BH [3,0,1]) (l.map Lab.enc):=Pn MQ (fun d=>Fa (Bm _) d) l
theorem Ef (l:List Lab):(soI l).Perm l:=NS MQ (fun d=>Fa (Bm _) d) l
theorem Pw (l:List Lab):A7 4 (l.map Lab.enc)=true:=by simp [A7,Lab.enc,I3]
theorem Sc (T:Tb) (hT:TOk T) (x:Lab):∀(l:List AA) (k:Nat),(∀c∈l,c∈T.cs)→(mvL T.g x k l).length≤100*l.length
 |[],k,_=>le_refl _
 |c::l,k,hl=>by
  have ih:=Sc T hT x l (k+1) fun c hc=>hl c (mem_cons_of_mem _ hc);have h1:(mvC T.g x k c).length≤100:=by
   unfold mvC;split
   ·refine le_trans (List.length_filterMap_le _ _) ?_;unfold BU;split
    ·simp
    ·have ht:=hT.to c (hl c (mem_cons_self ..));have hlt:c.to.toNat<T.g.Au.length:=by omega
     have hr:=hT.room T.g.Au[c.to.toNat] (getElem_mem hlt);simp only [List.getD,getElem?_eq_getElem hlt,Option.getD_some];exact hr.1
   ·simp
  unfold mvL;simp only [length_append,length_cons];omega
theorem VB (T:Tb) (hT:TOk T) (done:List Lab) (x:Lab):(ON T.g done x).length≤1000:=by unfold ON;rw [length_map];refine le_trans (List.length_filter_le _ _) ?_;have:=Sc T hT x T.cs 0 fun c hc=>hc;have h2:=hT.cl;show (mvL T.g x 0 T.cs).length≤1000;omega
theorem NU (T:Tb) (hT:TOk T):(Cj T.g).length≤600:=by
 unfold Cj;rw [List.length_flatten];have h1:∀n∈((List.range T.g.Au.length).map fun n=>(T.g.Au.getD n []).map fun r=>((n:Int),r.frm)).map length,n≤100:=fun n hn=>by simp only [map_map,mem_map,mem_range,Function.comp,length_map] at hn;obtain ⟨j,hj,rfl⟩:=hn;have hr:=hT.room T.g.Au[j] (getElem_mem hj);simp only [List.getD,getElem?_eq_getElem hj,Option.getD_some];exact hr.1
 have h2:∀l:List Nat,(∀n∈l,n≤100)→l.sum≤100*l.length:=fun l=>by
  induction l with
  |nil=>intro _;simp
  |cons a l ih=>
   intro h;have e1:=h a (mem_cons_self ..);have e2:=ih fun n hn=>h n (mem_cons_of_mem _ hn);simp only [List.sum_cons,length_cons];omega
 have h3:=h2 _ h1;have h4:=hT.rl;simp only [length_map,length_range] at h3;omega
theorem Pd (T:Tb) (hT:TOk T) (hg:GOk T.g) {x:Lab} (h:Reach T.g x):0≤x.time∧x.time≤1099511627776:=by
 have hd:=hT.dead
 induction h with
 |start h=>
  unfold Ec at h;obtain ⟨r,h1,h2⟩:=mem_filterMap.1 h;split at h2
  ·cases h2;exact ⟨hd.1,Int.le_trans hd.2.1 hd.2.2⟩
  ·cases h2
 |step h1 h2 h3 ih=>
  have hl:=Ct hg h2;obtain ⟨k,c,r,m1,m2,m3,m4⟩:=Ff.1 h2;obtain ⟨b,e1,e2,e3,e4⟩:=Gf m4;have hg:T.g.rq=T.r:=rfl;rw [hg] at e4;omega
structure UK (T:Tb) (s:LSt):Prop where
 inv:Qj T.g s.done s.opn
 four:∀e∈s.jk,e.length=4
 ol:s.opn.length≤100+1000*s.done.length
theorem VE {T:Tb} (hT:TOk T) (hg:GOk T.g) {s:LSt} (h:UK T s):SOk s:=by have h1:=Fg hg h.inv;have h2:=NU T hT;have h3:=h.ol;exact ⟨h.four,by omega,by omega⟩
theorem VF {T:Tb} (hT:TOk T) (hg:GOk T.g) {s:LSt} (h:UK T s) {o:Lab} {os:List Lab} (ho:s.opn=o::os):UK T (s.nxt T (Cu o os)):=by
 have hm:Cu o os∈s.opn:=by rw [ho];exact (EY os o).1
 obtain ⟨h1,h2,h3⟩:=RK T s h.four (Cu o os) hm;refine ⟨?_,h3,?_⟩
 ·rw [h1,h2,ho];have:=h.inv;rw [ho] at this;exact NR hg this
 ·rw [h1,h2];have e1:=VB T hT (s.done++[Cu o os]) (Cu o os);have e2:=List.length_filter_le (fun y => !Az (Cu o os) y) s.opn;have e3:=h.ol;simp only [length_append,length_cons,length_nil];omega
def Ej (T:Tb) (s:LSt):Rd LSt (List Lab):=match s.opn with
 |[]=>.done s.done
 |o::os =>.next (s.nxt T (Cu o os))
theorem Ps {T:Tb} {s:LSt} (h4:∀e∈s.jk,e.length=4) (hlt:s.done.length≤(Cj T.g).length) {o:Lab} {os:List Lab} (ho:s.opn=o::os) :
  Pu T.g ((Cj T.g).length+1-s.done.length) s.done s.opn=Pu T.g ((Cj T.g).length+1-(s.nxt T (Cu o os)).done.length) (s.nxt T (Cu o os)).done (s.nxt T (Cu o os)).opn:=by
 obtain ⟨f,hf⟩:∃f,(Cj T.g).length+1-s.done.length=f+1:=⟨(Cj T.g).length-s.done.length,by omega⟩
 have hm:Cu o os∈s.opn:=by rw [ho];exact (EY os o).1
 obtain ⟨e1,e2,e3⟩:=RK T s h4 (Cu o os) hm;have hf2:(Cj T.g).length+1-(s.done++[Cu o os]).length=f:=by simp only [length_append,length_cons,length_nil];omega
 rw [e1,e2,hf,hf2,ho];rfl
theorem Sh {T:Tb} {s:LSt} (ho:s.opn=[]):Pu T.g ((Cj T.g).length+1-s.done.length) s.done s.opn=s.done:=by rw [ho];cases h:(Cj T.g).length+1-s.done.length<;>rfl
theorem lm101 (T:Tb) (hT:TOk T) (hg:GOk T.g) (s0:LSt) (h0:UK T s0) (hd0:s0.done=[]) (hs0:s0.opn=Ec T.g) :
  Ev fun n=>AI (fun p again=>JX n T.r.src T.r.ready T.r.dst p again) n ([],lH T s0 [])=some (Fi (Cl T.g (soI (labels T.g)))):=by
 refine GO (fun l:List Lab=>Fi (Cl T.g (soI l))) (fun s=>(([],lH T s []):List AV×Heap)) (Ej T) (fun s=>UK T s∧Pu T.g ((Cj T.g).length+1-s.done.length) s.done s.opn=labels T.g) (fun s=>(Cj T.g).length+1-s.done.length) (fun s=>Pu T.g ((Cj T.g).length+1-s.done.length) s.done s.opn) s0 rfl
  ⟨h0,by rw [hd0,hs0];rfl⟩ (by rw [hd0,hs0];rfl) (fun s hII => ?_) (fun s s' hII h => ?_) (fun s hII => ?_)
 ·obtain ⟨hI,hL⟩:=hII;have hS:=VE hT hg hI;cases ho:s.opn with
  |nil=>
   have hst:Ej T s = .done s.done:=by unfold Ej;rw [ho]
   rw [hst];rw [Sh ho] at hL;have hsl:(soI s.done).length=s.done.length:=(Ef s.done).length_eq;have hdl:=hS.dl;have hls:∀x,x∈soI s.done↔x∈labels T.g:=fun x=>by rw [(Ef s.done).mem_iff,hL]
   have hlt:∀x∈soI s.done,0≤x.time∧x.time≤1099511627776:=fun x hx=>Pd T hT hg (hI.inv.reach x (mem_append_left _ ((Ef s.done).mem_iff.1 hx)));refine ((ar76 T hT ⟨soI s.done,s.vo,s.jk⟩ (by simp only;omega) hlt ([],lH T s []) (by simp only [lH,gH,vv,reduceCtorEq,reduceAdd,reduceEqDiff,zh0,zh1,zh2,zh3,zh4,zh5,zh6,zo0,zo1,hsl]) (by simp only [lH,gH,vv,reduceCtorEq,reduceAdd,reduceEqDiff,zh0,zh1,zh2,zh3,zh4,zh5,zh6,zo0,zo1,hsl]) (by simp only [lH,gH,vv,reduceCtorEq,reduceAdd,reduceEqDiff,zh0,zh1,zh2,zh3,zh4,zh5,zh6,zo0,zo1])).and (j100 T hT hg ⟨soI s.done,s.vo,s.jk⟩ hls (by simp only;omega) hlt)).mono fun n ⟨h,h2⟩ again => ?_;have a1:=h (fun p202=>G1 n T.r.src T.r.ready T.r.dst p202);have t3:take s.done.length (s.done.map Lab.enc)=s.done.map Lab.enc:=take_of_length_le (by simp);have b1:s.done.length≤1073741824:=by omega
   have e1:BB (s.done.map Lab.enc) 0 ((soI s.done).map Lab.enc)=(soI s.done).map Lab.enc:=H5 (by simp [hsl]);rw [Rd.Ap];refine Eq.trans ?_ (a1.trans h2);simp only [JX,lH,aH,gH,ho,vv,reduceCtorEq,reduceAdd,reduceEqDiff,zh0,zh1,zh2,zh3,zh4,zh5,zh6,zo0,zo1,lt_irrefl,map_nil,nil_append,length_nil,le_refl,b1,t3,Pw,← soI_enc,e1,hsl,getD_none,isSome_none,(show ¬(0:Int)<((0:Nat):Int) by decide)];rfl
  |cons o os=>
   have hst:Ej T s = .next (s.nxt T (Cu o os)):=by unfold Ej;rw [ho]
   have hm:Cu o os∈s.opn:=by rw [ho];exact (EY os o).1
   have htm:=Pd T hT hg (hI.inv.reach _ (mem_append_right _ hm));have hol:=hS.ol;rw [hst];refine ((mn4 T s o os ho (by omega) []).and (nx57 T hT s hS (Cu o os) hm htm)).mono fun n ⟨h1,h2⟩ again => ?_;have a1:=h1 (fun p33=>K5 n again p33);have a2:=h2 again;rw [Rd.Ad];refine Eq.trans ?_ (a1.trans a2);have hlen:(0:Int)<s.opn.length:=by rw [ho];simp only [length_cons];omega
   have hg0:(s.opn.map Lab.enc++s.jk)[0]? = some [tI o.node,tI o.frm,tI o.to,tI o.time]:=by rw [ho];rfl
   simp only [JX,lH,gH,xA,Bp,vv,reduceCtorEq,reduceAdd,reduceEqDiff,zh0,zh1,zh2,zh3,zh4,zh5,zh6,zo0,zo1,hlen,hg0,(show ¬(s.opn.length:Int)<1 by omega)];rfl
 ·obtain ⟨hI,hL⟩:=hII;have h1:=Fg hg hI.inv;cases ho:s.opn with
  |nil=>unfold Ej at h;rw [ho] at h;cases h
  |cons o os=>
   unfold Ej at h;rw [ho] at h;cases h;have hm:Cu o os∈s.opn:=by rw [ho];exact (EY os o).1
   refine ⟨⟨VF hT hg hI ho,(Ps hI.four h1 ho).symm.trans hL⟩,?_⟩;rw [(RK T s hI.four (Cu o os) hm).1];simp only [length_append,length_cons,length_nil];omega
 ·obtain ⟨hI,hL⟩:=hII;have h1:=Fg hg hI.inv;cases ho:s.opn with
  |nil=>
   have hst:Ej T s = .done s.done:=by unfold Ej;rw [ho]
   rw [hst,← ho,Sh ho];rfl
  |cons o os=>
   have hst:Ej T s = .next (s.nxt T (Cu o os)):=by unfold Ej;rw [ho]
   rw [hst,← ho];exact Ps hI.four h1 ho
end Ab
namespace Ab
open Go
theorem ID (bs:List AB):∀(l:List AA) (k j:Nat),(E9 bs k l)[j]? = (l[j]?).map fun c=>A9 c.stop (busy bs (k+j:Nat)) c.start
 |[],k,j=>by simp [E9]
 |c::l,k,j=>by
  cases j with
  |zero=>simp [E9]
  |succ j=>
   have:=ID bs l (k+1) j;simp only [E9,getElem?_cons_succ,this];congr 2;funext c;rw [show k+1+j=k+(j+1) by omega]
theorem NZ (bs:List AB):∀(l:List AA) (k:Nat),(E9 bs k l).length=l.length
 |[],k=>rfl
 |c::l,k=>by simp [E9,NZ bs l (k+1)]
theorem TP (Q size:Int) (ls:List Lvl):(Au Q size ls).length≤ls.length+2:=by
 have h1:∀(ls:List Lvl) (s:List Span×Int),(ls.foldl (BV Q size) s).1.length≤s.1.length+ls.length:=fun ls=>by
  induction ls with
  |nil=>intro s;simp
  |cons x ls ih=>
   intro s;rw [foldl_cons];have e1:=ih (BV Q size s x);have e2:=Ik Q size s x;simp only [length_cons];omega
 have h2:=h1 ls (C8 Q size ([],-1) 0 0);have h3:(C8 Q size (([],-1):List Span×Int) 0 0).1.length=0:=by
  unfold C8 Bg;split
  ·simp
  ·split<;>simp
 unfold Au Bg;split
 ·simp only [length_append,length_cons,length_nil];omega
 ·simp only;omega
structure In (T:Tb):Prop where
 tab:Bn T.q T.cs T.bs T.hs=0
 req:CG T.q T.cs T.r=0
 ql:T.q.length≤6
 cl:T.cs.length≤10
 hl:T.hs.length≤30
theorem UP {T:Tb} (h:In T):TOk T:=by
 obtain ⟨p1,p2,p3⟩:=BY h.tab;have hr:=CV h.req;obtain ⟨s1,s2,s3⟩:=Ez p3;have hb:=C6 p2;have hn:=DQ p1;have hrl:T.g.Au.length=T.q.length:=Du T.hs T.r.size T.q 0;refine ⟨fun k c hc => ?_,fun c hc => ?_,fun rs hm => ?_,h.cl,by rw [hrl];exact h.ql,⟨hr.2.2.2.2.2.2.2.2.1,hr.2.2.2.2.2.2.2.2.2.1,hr.2.2.2.2.2.2.2.2.2.2.1⟩⟩
 ·have hcc:=(hn c (mem_of_getElem? hc)).1;have o:=B0 hcc;refine ⟨Fj c T.r.size,A9 c.stop (busy T.bs (k:Nat)) c.start,hc,?_,?_,ML hcc (by omega) hr.2.2.2.2.2.2.2.1,⟨by omega,by omega⟩,fun a ha => ?_,?_⟩
  ·show (T.cs.map fun c=>Fj c T.r.size)[k]? = _;rw [getElem?_map,hc];rfl
  ·show (E9 T.bs 0 T.cs)[k]? = _;rw [ID,hc];simp
  ·have hrow:=Fm hb.2.2 (k:=((k:Nat):Int)) (c:=c) (by rw [toNat_natCast];exact hc) hcc;have:=Dy _ _ _ hrow (Int.le_refl _) a ha;omega
  ·have h1:=HJ c.stop (busy T.bs (k:Nat)) c.start;have h2:=Fo T.bs (k:Nat);have h3:=hb.2.1;omega
 ·have h1:=hn c hc;have o:=B0 h1.1;rw [hrl];omega
 ·have h1:=Jg (q:=T.q) (hs:=T.hs) (size:=T.r.size) s3 (by omega) rs hm;refine ⟨?_,fun a ha => ?_⟩
  ·obtain ⟨j,hj,rfl⟩:=mem_iff_getElem.1 hm;have h2:=Eh T.hs T.r.size T.q 0 j;have h3:(CM T.hs T.r.size 0 T.q)[j]? = some T.g.Au[j]:=getElem?_eq_getElem hj;rw [h3] at h2;cases hq:T.q[j]? with
   |none=>rw [hq] at h2;cases h2
   |some Q=>
    rw [hq] at h2;simp only [map_some,Option.some.injEq] at h2;rw [h2];have h4:=TP Q T.r.size (levels T.hs (0+j:Nat));have h5:=IA T.hs (0+j:Nat);have h6:=h.hl;omega
  ·have:=h1.2 a ha;omega
def LK (T:Tb) (s:LSt) (rm:Span):LSt:=if rm.frm≤T.r.ready∧T.r.ready<rm.to then s.push ⟨T.r.src,rm.frm,rm.to,T.r.ready⟩ else s
def staF (T:Tb) (r:Span):Option Lab:=if r.frm≤T.r.ready∧T.r.ready<r.to then some ⟨T.r.src,r.frm,r.to,T.r.ready⟩ else none
theorem Ib (T:Tb):∀(rs:List Span) (s:LSt),(rs.foldl (LK T) s).done=s.done∧(rs.foldl (LK T) s).opn=s.opn++rs.filterMap (staF T)
 |[],s=>by simp
 |r::rs,s=>by
  rw [foldl_cons];obtain ⟨h1,h2⟩:=Ib T rs (LK T s r);rw [h1,h2];unfold LK;by_cases hc:r.frm≤T.r.ready∧T.r.ready<r.to
  ·have e:staF T r=some ⟨T.r.src,r.frm,r.to,T.r.ready⟩:=if_pos hc;rw [if_pos hc,List.filterMap_cons_some e];simp [LSt.push]
  ·have e:staF T r=none:=if_neg hc;rw [if_neg hc,List.filterMap_cons_none e];exact ⟨rfl,rfl⟩
theorem UY (T:Tb):∀(rs:List Span) (s:LSt),s.jk=[]→(rs.foldl (LK T) s).jk=[]
 |[],s,h=>h
 |r::rs,s,h=>by
  rw [foldl_cons];refine UY T rs _ ?_;unfold LK;split
  ·rfl
  ·exact h
theorem st79 (T:Tb) (hT:TOk T) (hg:GOk T.g) (rs:List Span) (hrs:rs=T.g.Au.getD T.r.src.toNat []) (hl:rs.length≤100) :
  Ev fun n=>AI (fun p again=>Ft n (spE rs) T.r.src T.r.ready T.r.dst p again) n ([.t (tI (0:Nat))],lH T ⟨[],0,[],[]⟩ [])=some (Fi (Cl T.g (soI (labels T.g)))):=by
 have hs0:Ec T.g=(rs.foldl (LK T) ⟨[],0,[],[]⟩).opn:=by rw [(Ib T rs _).2,hrs];exact (nil_append _).symm
 refine Aj (fun o:Option (List Hop)=>Fi o) rs (fun i s=>(([.t (tI i)],lH T s []):List AV×Heap)) (fun _ s rm =>.next (LK T s rm)) (fun _=>Cl T.g (soI (labels T.g)))
  (fun i s=>i≤rs.length∧s=(rs.take i).foldl (LK T) ⟨[],0,[],[]⟩∧s.opn.length≤i) ⟨[],0,[],[]⟩ rfl ⟨zero_le _,rfl,le_refl _⟩ ?_
  (fun i s rm ha hI=>Ev.of fun n again => ?_) (fun i s rm s' ha hI h => ?_) (fun s hI => ?_)
 ·rw [Bf]
 ·have hi:=AJ ha;have t1:take s.opn.length (s.opn.map Lab.enc++s.jk)=s.opn.map Lab.enc:=by rw [List.take_append_of_le_length (by simp)];exact take_of_length_le (by simp)
  have b1:s.opn.length+1≤1073741824:=by omega
  have b2:s.opn.length≤s.opn.length+s.jk.length:=Nat.le_add_right _ _;rw [Rd.Ad];unfold LK;by_cases c1:rm.frm≤T.r.ready
  ·by_cases c2:T.r.ready<rm.to
   ·rw [if_pos ⟨c1,c2⟩];simp only [Ft,O5,O6,lH,gH,spE,vv,reduceCtorEq,reduceAdd,reduceEqDiff,zh0,zh1,zh2,zh3,zh4,zh5,zh6,zo0,zo1,ha,Span.enc,c1,c2,(show (i:Int)<rs.length by omega),AS (show i<4611686018427387904 by omega),t1,b1,b2,length_append,LSt.push,map_append,map_cons,map_nil,Lab.enc,append_nil]
   ·rw [if_neg fun h=>c2 h.2];simp only [Ft,O5,O6,lH,gH,spE,vv,reduceCtorEq,reduceAdd,reduceEqDiff,zh0,zh1,zh2,zh3,zh4,zh5,zh6,zo0,zo1,ha,Span.enc,c1,c2,(show (i:Int)<rs.length by omega),AS (show i<4611686018427387904 by omega)]
  ·rw [if_neg fun h=>c1 h.1];simp only [Ft,O5,O6,lH,gH,spE,vv,reduceCtorEq,reduceAdd,reduceEqDiff,zh0,zh1,zh2,zh3,zh4,zh5,zh6,zo0,zo1,ha,Span.enc,c1,(show (i:Int)<rs.length by omega),AS (show i<4611686018427387904 by omega)]
 ·have hi:=AJ ha;simp only [Rd.next.injEq] at h;subst h;obtain ⟨i1,i2,i3⟩:=hI;refine ⟨hi,?_,?_⟩
  ·obtain ⟨_,he⟩:=List.getElem?_eq_some_iff.1 ha;rw [List.take_succ_eq_append_getElem hi,List.foldl_append,← i2,he];rfl
  ·unfold LK;split
   ·simp only [LSt.push,length_append,length_cons,length_nil];omega
   ·omega
 ·obtain ⟨i1,i2,i3⟩:=hI;rw [take_of_length_le (le_refl _)] at i2;have hM:UK T s:=by
   refine ⟨?_,?_,?_⟩
   ·rw [i2,(Ib T rs _).1,← hs0];exact Lu T.g
   ·rw [i2,UY T rs _ rfl];intro e he;cases he
   ·omega
  refine (lm101 T hT hg s hM (by rw [i2,(Ib T rs _).1]) (by rw [i2];exact hs0.symm)).mono fun n h again => ?_;refine Eq.trans ?_ h;simp only [Ft,lH,gH,spE,vv,reduceCtorEq,reduceAdd,reduceEqDiff,zh0,zh1,zh2,zh3,zh4,zh5,zh6,zo0,zo1,lt_irrefl]
theorem st80 (T:Tb) (hI:In T) (ga:List (List Span)) (du:List Int) (hga:ga=T.g.gaps) (hdu:du=T.g.dur) :
  Ev fun n=>AI (fun p again=>JW n (T.q.map encI) (T.cs.map AA.enc) (T.hs.map AW.enc) T.r.size T.r.src T.r.ready T.r.dst p again) n ([.t (tI (0:Nat))],gH T ga [] du [])=some (Fi (Cl T.g (soI (labels T.g)))):=by
 have hT:=UP hI;have hg:GOk T.g:=MB hI.tab hI.req;obtain ⟨p1,p2,p3⟩:=BY hI.tab;have hr:=CV hI.req;have hrl:T.g.Au.length=T.q.length:=Du T.hs T.r.size T.q 0;have hql:=hI.ql;subst hga;subst hdu;refine Aj (fun o:Option (List Hop)=>Fi o) T.q (fun i ro=>(([.t (tI i)],gH T T.g.gaps ro T.g.dur []):List AV×Heap)) (fun i ro Q =>.next (ro++[Au Q T.r.size (levels T.hs (i:Nat))])) (fun _=>Cl T.g (soI (labels T.g)))
  (fun i ro=>i≤T.q.length∧ro=T.g.Au.take i) [] rfl ⟨zero_le _,rfl⟩ (by
   have:∀(l:List Int) (i:Nat) (ro:List (List Span)),BJ (fun i ro Q=>(.next (ro++[Au Q T.r.size (levels T.hs (i:Nat))]):Rd (List (List Span)) (Option (List Hop)))) (fun _=>Cl T.g (soI (labels T.g))) i l ro=Cl T.g (soI (labels T.g)):=fun l=>by
    induction l with
    |nil=>intro i ro;rfl
    |cons a l ih=>intro i ro;exact ih _ _
   exact this _ _ _)
  (fun i ro Q ha hJ => ?_) (fun i ro Q s' ha hJ h => ?_) (fun ro hJ => ?_)
 ·have hi:=AJ ha;obtain ⟨j1,j2⟩:=hJ;have hlen:ro.length=i:=by rw [j2,length_take];omega
  have b1:ro.length+1≤1073741824:=by omega
  have t1:take ro.length (ro.map spE)=ro.map spE:=take_of_length_le (by simp);refine (s85 T.q T.cs T.hs p3 i Q ha T.r.size hr.2.2.2.2.2.2.1 hr.2.2.2.2.2.2.2.1).mono fun n h again => ?_;simp only [JW,gH,h,vv,reduceCtorEq,reduceAdd,reduceEqDiff,zh0,zh1,zh2,zh3,zh4,zh5,zh6,zo0,zo1,(show (i:Int)<T.q.length by omega),AS (show i<4611686018427387904 by omega),t1,b1,le_refl,Rd.Ad,length_append,map_append,map_cons,map_nil,spE]
 ·have hi:=AJ ha;simp only [Rd.next.injEq] at h;subst h;obtain ⟨j1,j2⟩:=hJ;refine ⟨hi,?_⟩;have h1:T.g.Au[i]? = some (Au Q T.r.size (levels T.hs (i:Nat))):=by show (CM T.hs T.r.size 0 T.q)[i]? = _;rw [Eh,ha];simp
  obtain ⟨h2,h3⟩:=List.getElem?_eq_some_iff.1 h1;rw [List.take_succ_eq_append_getElem h2,← j2,h3]
 ·obtain ⟨j1,j2⟩:=hJ;have hro:ro=T.g.Au:=by rw [j2];exact take_of_length_le (by omega)
  subst hro;have hs1:=hg.src;have hrq:T.g.rq=T.r:=rfl;rw [hrq] at hs1;have hlt:T.r.src.toNat<T.g.Au.length:=by omega
  have hgt:T.g.Au[T.r.src.toNat]? = some T.g.Au[T.r.src.toNat]:=getElem?_eq_getElem hlt;have hm:=hT.room _ (mem_of_getElem? hgt);have hgd:T.g.Au[T.r.src.toNat]=T.g.Au.getD T.r.src.toNat []:=by simp [List.getD,hgt]
  generalize T.g.Au[T.r.src.toNat]=rs at hgt hm hgd;refine (st79 T hT hg rs hgd hm.1).mono fun n h again => ?_;refine Eq.trans ?_ h;have t1:okL 2 (spE rs) 0=true:=rfl;simp only [JW,lH,gH,vv,reduceCtorEq,reduceAdd,reduceEqDiff,zh0,zh1,zh2,zh3,zh4,zh5,zh6,zo0,zo1,lt_irrefl,hgt,t1,hs1.1,hs1.2.1,map_nil,length_nil,append_nil];rfl
theorem st81 (T:Tb) (hI:In T) :
  Ev fun n=>AI (fun p again=>JV n (T.cs.map AA.enc) (T.q.map encI) (T.bs.map AB.enc) T.r.size (T.hs.map AW.enc) T.r.src T.r.ready T.r.dst p again) n ([.t (tI (0:Nat))],gH T [] [] [] [])=some (Fi (Cl T.g (soI (labels T.g)))):=by
 obtain ⟨p1,p2,p3⟩:=BY hI.tab;have hr:=CV hI.req;have hb:=C6 p2;have hgl:T.g.gaps.length=T.cs.length:=NZ T.bs T.cs 0;have hdl:T.g.dur.length=T.cs.length:=length_map ..;have hcl:=hI.cl;refine Aj (fun o:Option (List Hop)=>Fi o) T.cs (fun i (s:List (List Span)×List Int)=>(([.t (tI i)],gH T s.1 [] s.2 []):List AV×Heap)) (fun i s c =>.next (s.1++[A9 c.stop (busy T.bs (i:Nat)) c.start],s.2++[Fj c T.r.size])) (fun _=>Cl T.g (soI (labels T.g)))
  (fun i s=>i≤T.cs.length∧s.1=T.g.gaps.take i∧s.2=T.g.dur.take i) ([],[]) rfl ⟨zero_le _,rfl,rfl⟩ (by
   have:∀(l:List AA) (i:Nat) (s:List (List Span)×List Int),BJ (fun i s c=>(.next (s.1++[A9 c.stop (busy T.bs (i:Nat)) c.start],s.2++[Fj c T.r.size]):Rd (List (List Span)×List Int) (Option (List Hop)))) (fun _=>Cl T.g (soI (labels T.g))) i l s=Cl T.g (soI (labels T.g)):=fun l=>by
    induction l with
    |nil=>intro i s;rfl
    |cons a l ih=>intro i s;exact ih _ _
   exact this _ _ _)
  (fun i s c ha hJ => ?_) (fun i s c s' ha hJ h => ?_) (fun s hJ => ?_)
 ·have hi:=AJ ha;obtain ⟨j1,j2,j3⟩:=hJ;have hl1:s.1.length=i:=by rw [j2,length_take];omega
  have hl2:s.2.length=i:=by rw [j3,length_take];omega
  have b1:i+1≤1073741824:=by omega
  have t1:take i (s.1.map spE)=s.1.map spE:=take_of_length_le (by simp [hl1]);have t2:take i (s.2.map encI)=s.2.map encI:=take_of_length_le (by simp [hl2]);have hcc:=(DQ p1 c (mem_of_getElem? ha)).1;have hck:Cm T.q T.cs T.bs (i:Nat)=0:=by unfold Cm;rw [if_neg (by omega),if_neg (by omega)]
  have hdc:EE c T.r.size=0:=by unfold EE;rw [if_neg (by omega),if_pos ⟨hr.2.2.2.2.2.2.1,hr.2.2.2.2.2.2.2.1⟩]
  have hfr:I6 T.q T.cs T.bs (i:Nat)=A9 c.stop (busy T.bs (i:Nat)) c.start:=by unfold I6;rw [if_neg (by omega),toNat_natCast,ha];exact (OW _ _ (Fm hb.2.2 (by rw [toNat_natCast];exact ha) hcc)).symm
  have h83:=s83 T.q T.cs T.bs (i:Nat);rw [hfr,hck] at h83;have h84:=s84 c T.r.size;rw [hdc,if_pos rfl] at h84;refine (h83.and h84).mono fun n ⟨h,k⟩ again => ?_;simp only [AA.enc,cons_append,nil_append] at k;simp only [JV,gH,h,k,vv,reduceCtorEq,reduceAdd,reduceEqDiff,zh0,zh1,zh2,zh3,zh4,zh5,zh6,zo0,zo1,ha,AA.enc,hl1,hl2,(show (i:Int)<T.cs.length by omega),AS (show i<4611686018427387904 by omega),t1,t2,b1,le_refl,Rd.Ad,length_append,map_append,map_cons,map_nil,spE,encI]
 ·have hi:=AJ ha;simp only [Rd.next.injEq] at h;subst h;obtain ⟨j1,j2,j3⟩:=hJ;have h1:T.g.gaps[i]? = some (A9 c.stop (busy T.bs (i:Nat)) c.start):=by show (E9 T.bs 0 T.cs)[i]? = _;rw [ID,ha];simp
  have h2:T.g.dur[i]? = some (Fj c T.r.size):=by show (T.cs.map fun c=>Fj c T.r.size)[i]? = _;rw [getElem?_map,ha];rfl
  obtain ⟨g1,g2⟩:=List.getElem?_eq_some_iff.1 h1;obtain ⟨d1,d2⟩:=List.getElem?_eq_some_iff.1 h2;refine ⟨hi,?_,?_⟩
  ·rw [List.take_succ_eq_append_getElem g1,← j2,g2]
  ·rw [List.take_succ_eq_append_getElem d1,← j3,d2]
 ·obtain ⟨j1,j2,j3⟩:=hJ;have e1:s.1=T.g.gaps:=by rw [j2];exact take_of_length_le (by omega)
  have e2:s.2=T.g.dur:=by rw [j3];exact take_of_length_le (by omega)
  refine (st80 T hI s.1 s.2 e1 e2).mono fun n h again => ?_;refine Eq.trans ?_ h;simp only [JV,gH,vv,reduceCtorEq,reduceAdd,reduceEqDiff,zh0,zh1,zh2,zh3,zh4,zh5,zh6,zo0,zo1,lt_irrefl,map_nil,length_nil];rfl
theorem s133 (T:Tb) (hI:In T):Al C 133 [.sl 1 (T.q.map encI),.sl 7 (T.cs.map AA.enc),.sl 4 (T.bs.map AB.enc),.sl 5 (T.hs.map AW.enc),tI T.r.src,tI T.r.dst,tI T.r.size,tI T.r.ready,tI T.r.dead,tI T.r.prio,.bool T.r.cust] (Fi (Cl T.g (soI (labels T.g)))):=by refine Al.of (fun n=>e133 n _ _ _ _ _ _ _ _ _ _ _) ?_;refine ((s17 T.q T.cs T.bs T.hs).and ((s71 T.q T.cs T.r).and (st81 T hI))).mono fun n ⟨h1,h2,h3⟩=> ?_;refine Eq.trans ?_ h3;simp only [h1,h2,hI.tab,hI.req,Qk,gH,vv,reduceCtorEq,reduceAdd,reduceEqDiff,zh0,zh1,zh2,zh3,zh4,zh5,zh6,zo0,zo1,bne_self_eq_false,map_nil,length_nil];rfl
end Ab
set_option maxRecDepth 100000
namespace Ab
open Go Go.Proofs
theorem e31 (n:Nat) (a0:List (List Tree)):AL C (n+1) 31 [Tree.sl (4:Nat) a0]=
 AI (fun (p1:List AV×Heap) (again2:_→Option (List Tree))=>cnd (decide (vI p1 1<((length a0:Nat):Int))=true) (cnd ((4:Nat)=(4:Nat)∧(0:Int)≤vI p1 1) (Option.bind
 a0[toNat (vI p1 1)]? fun y3=>cnd (okI y3 0) (cnd (okI y3 1) (cnd (okI y3 2) (cnd (okI y3 3) (cnd (AN p1 0=Bw p1 0∧((1:Nat)=(1:Nat)∨(1:Nat)=(0:Nat))∧(DC p1 0)+(Ax p1 0)≤
 length (oEs p1 0)∧(Ax p1 0)+(1:Nat)≤(1073741824:Nat)) (again2 ([AV.sref (0:Nat) ((Bw p1 0)+(1:Nat)) (0:Nat) ((Ax p1 0)+(1:Nat)),AV.t (tI (w64 ((vI p1 1)+(1:Int))))],[AF.row
 false ((Bw p1 0)+(1:Nat)) (1:Nat) ((take (Ax p1 0) (drop (DC p1 0) (oEs p1 0)))++[[tI (gI y3 0)]])])) none) none) none) none) none) none) (cnd ((false=true∨false=false)∧
 AN p1 0=Bw p1 0∧((1:Nat)=(1:Nat)∨(1:Nat)=(0:Nat))) (some [Tree.sl (1:Nat) (take (Ax p1 0) (drop (DC p1 0) (oEs p1 0)))]) none)) n ([AV.sref (0:Nat) (0:Nat) (0:Nat) (0:Nat),
 AV.t (tI (0:Int))],[AF.row false (0:Nat) (1:Nat) []]):=by kernel_rfl
theorem e180 (n:Nat) (a0:List (List Tree)) (a1:List (List Tree)) (a2:List (List Tree)) (a3:Int) (a4:Int):AL C (n+1) 180 [Tree.sl (1:Nat) a0,Tree.sl (7:Nat) a1,Tree.sl (4:Nat) a2,tI a3,tI a4]=
 Option.bind (AL C n (141:Nat) [Tree.sl (1:Nat) a0,Tree.sl (7:Nat) a1,Tree.sl (4:Nat) a2,tI a3]) fun y5=>cnd (length y5=(1:Nat)) (cnd (okI y5 0) (cnd (((gI y5 0) != (0:Int))=true)
 (some [Tree.sl (4:Nat) [],tI (gI y5 0)]) (Option.bind (AL C n (142:Nat) [Tree.sl (1:Nat) a0,Tree.sl (7:Nat) a1,Tree.sl (4:Nat) a2,tI a3,tI a4]) fun y6=>cnd (length y6=(1:Nat)) (cnd
 (okL 2 y6 0) (cnd (decide (w64 (((length a2:Nat):Int)+((length (gL y6 0):Nat):Int))>(512:Int))=true) (some [Tree.sl (4:Nat) [],tI (4:Int)]) (AI (fun (p7:List AV×Heap)
 (again8:_→Option (List Tree))=>cnd (decide (vI p7 1<((length (gL y6 0):Nat):Int))=true) (cnd ((2:Nat)=(2:Nat)∧(0:Int)≤vI p7 1) (Option.bind (gL y6 0)[toNat (vI p7 1)]? fun y9
 =>cnd (okI y9 0) (cnd (okI y9 1) (Option.bind (AL C n (40:Nat) [Tree.sl (4:Nat) (vL p7 0),tI a3,tI (gI y9 0),tI (gI y9 1),tI (0:Int)]) fun y10=>cnd (length y10=(1:Nat)) (cnd (okL 4
 y10 0) (again8 ([AV.t (Tree.sl (4:Nat) (gL y10 0)),AV.t (tI (w64 ((vI p7 1)+(1:Int))))],[])) none) none) none) none) none) (some [Tree.sl (4:Nat) (vL p7 0),tI (0:Int)])) n ([AV.t (Tree.sl (4:Nat)
 a2),AV.t (tI (0:Int))],[]))) none) none)) none) none:=by kernel_rfl
theorem VX (n:Nat) (a0:List (List Tree)):AL C (n+1) 1000009 [Tree.sl (1:Nat) a0]=
 cnd (length a0≠(0:Nat)) (cnd (length a0≤(1073741824:Nat)) (some [Tree.sl (1:Nat) (take (length a0) a0)]) none) (both (some [Tree.sl (1:Nat) []]) (cnd (length a0≤
 (1073741824:Nat)) (some [Tree.sl (1:Nat) (take (length a0) a0)]) none)):=by kernel_rfl
end Ab
set_option maxRecDepth 100000
namespace Ab
open Go Go.Proofs
noncomputable def WL (n:Nat) (again7:(List AV×Heap)→Option (List Tree)) (p6:List AV×Heap) (p9:List AV×Heap):Option (List Tree):=
 cnd (vB p9 0=true) (some [Tree.sl (1:Nat) [],Tree.sl (7:Nat) [],Tree.sl (4:Nat) [],Tree.sl (5:Nat) [],tI (2:Int)]) (again7 ([AV.t (tI (w64 ((vI p6 0)+(1:Int))))],[AF.box [AV.t (Tree.sl
 (1:Nat) (cL p9 0 0)),AV.t (Tree.sl (7:Nat) (cL p9 0 1)),AV.t (Tree.sl (4:Nat) (cL p9 0 2)),AV.t (Tree.sl (5:Nat) (cL p9 0 3))],AF.box [AV.t (Tree.sl (1:Nat) (cL p9 1 0)),AV.t (Tree.sl (7:Nat)
 (cL p9 1 1)),AV.t (Tree.sl (4:Nat) (cL p9 1 2)),AV.t (Tree.sl (5:Nat) (cL p9 1 3))]]))
noncomputable def Ox (n:Nat) (a4:List (List Tree)) (p11:List AV×Heap) (again12:(List AV×Heap)→Option (List Tree)):Option (List Tree):=
 cnd (decide (vI p11 0<((length a4:Nat):Int))=true) (cnd ((1:Nat)=(1:Nat)∧(0:Int)≤vI p11 0) (Option.bind a4[toNat (vI p11 0)]? fun y13=>cnd (okI y13 0) (cnd ((7:Nat)=(7:Nat)∧
 (0:Int)≤gI y13 0) (Option.bind (cL p11 0 1)[toNat (gI y13 0)]? fun y14=>cnd (okI y14 2) (Option.bind (AL C n (180:Nat) [Tree.sl (1:Nat) (cL p11 0 0),Tree.sl (7:Nat) (cL p11 0 1),Tree.sl
 (4:Nat) (cL p11 0 2),tI (gI y13 0),tI (gI y14 2)]) fun y15=>cnd (length y15=(2:Nat)) (cnd (okL 4 y15 0) (cnd (okI y15 1) (cnd (((gI y15 1) != (0:Int))=true) (some [Tree.sl (1:Nat) [],
 Tree.sl (7:Nat) [],Tree.sl (4:Nat) [],Tree.sl (5:Nat) [],tI (gI y15 1)]) (again12 ([AV.t (tI (w64 ((vI p11 0)+(1:Int))))],[AF.box [AV.t (Tree.sl (1:Nat) (cL p11 0 0)),AV.t (Tree.sl (7:Nat)
 (cL p11 0 1)),AV.t (Tree.sl (4:Nat) (gL y15 0)),AV.t (Tree.sl (5:Nat) (cL p11 0 3))],AF.box [AV.t (Tree.sl (1:Nat) (cL p11 1 0)),AV.t (Tree.sl (7:Nat) (cL p11 1 1)),AV.t (Tree.sl (4:Nat) (cL
 p11 1 2)),AV.t (Tree.sl (5:Nat) (cL p11 1 3))]]))) none) none) none) none) none) none) none) (some [Tree.sl (1:Nat) (cL p11 0 0),Tree.sl (7:Nat) (cL p11 0 1),Tree.sl (4:Nat) (cL p11 0 2),Tree.sl
 (5:Nat) (cL p11 0 3),tI (0:Int)])
noncomputable def SC (n:Nat) (a4:List (List Tree)) (p6:List AV×Heap) (again7:(List AV×Heap)→Option (List Tree)):Option (List Tree):=
 cnd (decide (vI p6 0<((length a4:Nat):Int))=true) (cnd ((1:Nat)=(1:Nat)∧(0:Int)≤vI p6 0) (Option.bind a4[toNat (vI p6 0)]? fun y8=>cnd (okI y8 0) (join (fun (p9:List AV×Heap)
 =>WL n again7 p6 p9) fun (again10:_→Option (List Tree))=>cnd (decide (gI y8 0<(0:Int))=true) (again10 ([AV.t (Tree.bool true)],[AF.box [AV.t (Tree.sl (1:Nat) (cL p6 0 0)),AV.t
 (Tree.sl (7:Nat) (cL p6 0 1)),AV.t (Tree.sl (4:Nat) (cL p6 0 2)),AV.t (Tree.sl (5:Nat) (cL p6 0 3))],AF.box [AV.t (Tree.sl (1:Nat) (cL p6 1 0)),AV.t (Tree.sl (7:Nat) (cL p6 1 1)),AV.t (Tree.sl
 (4:Nat) (cL p6 1 2)),AV.t (Tree.sl (5:Nat) (cL p6 1 3))]])) (again10 ([AV.t (Tree.bool (decide (gI y8 0≥((length (cL p6 0 1):Nat):Int))))],[AF.box [AV.t (Tree.sl (1:Nat) (cL p6 0 0)),AV.t
 (Tree.sl (7:Nat) (cL p6 0 1)),AV.t (Tree.sl (4:Nat) (cL p6 0 2)),AV.t (Tree.sl (5:Nat) (cL p6 0 3))],AF.box [AV.t (Tree.sl (1:Nat) (cL p6 1 0)),AV.t (Tree.sl (7:Nat) (cL p6 1 1)),AV.t (Tree.sl
 (4:Nat) (cL p6 1 2)),AV.t (Tree.sl (5:Nat) (cL p6 1 3))]]))) none) none) (AI (fun (p11:List AV×Heap) (again12:_→Option (List Tree))=>Ox n a4 p11 again12) n ([AV.t (tI (0:Int))],
 [AF.box [AV.t (Tree.sl (1:Nat) (cL p6 0 0)),AV.t (Tree.sl (7:Nat) (cL p6 0 1)),AV.t (Tree.sl (4:Nat) (cL p6 0 2)),AV.t (Tree.sl (5:Nat) (cL p6 0 3))],AF.box [AV.t (Tree.sl (1:Nat) (cL p6 1
 0)),AV.t (Tree.sl (7:Nat) (cL p6 1 1)),AV.t (Tree.sl (4:Nat) (cL p6 1 2)),AV.t (Tree.sl (5:Nat) (cL p6 1 3))]]))
theorem e134 (n:Nat) (a0:List (List Tree)) (a1:List (List Tree)) (a2:List (List Tree)) (a3:List (List Tree)) (a4:List (List Tree)):AL C (n+1) 134 [Tree.sl (1:Nat) a0,Tree.sl (7:Nat) a1,Tree.sl (4:Nat) a2,Tree.sl (5:Nat) a3,Tree.sl (1:Nat) a4]=
 Option.bind (AL C n (17:Nat) [Tree.sl (1:Nat) a0,Tree.sl (7:Nat) a1,Tree.sl (4:Nat) a2,Tree.sl (5:Nat) a3]) fun y5=>cnd (length y5=(1:Nat)) (cnd (okI y5 0) (cnd (((gI y5 0) != (0:Int))
 = true) (some [Tree.sl (1:Nat) [],Tree.sl (7:Nat) [],Tree.sl (4:Nat) [],Tree.sl (5:Nat) [],tI (1:Int)]) (AI (fun (p6:List AV×Heap) (again7:_→Option (List Tree))=>SC n a4 p6
 again7) n ([AV.t (tI (0:Int))],[AF.box [AV.t (Tree.sl (1:Nat) a0),AV.t (Tree.sl (7:Nat) a1),AV.t (Tree.sl (4:Nat) a2),AV.t (Tree.sl (5:Nat) a3)],AF.box [AV.t (Tree.sl (1:Nat) []),AV.t
 (Tree.sl (7:Nat) []),AV.t (Tree.sl (4:Nat) []),AV.t (Tree.sl (5:Nat) [])]]))) none) none:=by kernel_rfl
noncomputable def J8_1 (n:Nat) (again19:(List AV×Heap)→Option (List Tree)) (y26:List Tree) (a11:Int) (p27:List AV×Heap):Option (List Tree):=
 cnd (vB p27 0=true) (again19 ([],[AF.row false (AN p27 0) (1:Nat) (oEs p27 0),AF.box [AV.sref (0:Nat) (AK p27 1 0) (AU p27 1 0) (AM p27 1 0)],AF.box [AV.t (tI (cI p27 2 0))],
 AF.row false (AN p27 3) (1:Nat) (oEs p27 3),AF.box [AV.sref (3:Nat) (AK p27 4 0) (AU p27 4 0) (AM p27 4 0)],AF.box [AV.t (Tree.sl (1:Nat) (cL p27 5 0)),AV.t (Tree.sl (7:Nat) (cL p27 5
 1)),AV.t (Tree.sl (4:Nat) (cL p27 5 2)),AV.t (Tree.sl (5:Nat) (cL p27 5 3))],AF.box [AV.func (Fn.func 31) [] []]])) (cnd (((gI y26 4) != (0:Int))=true) (cnd (AN p27 0=AK p27 1 0) (cnd
 ((false=true∨false=false)∧AN p27 0=AK p27 1 0∧((1:Nat)=(1:Nat)∨(1:Nat)=(0:Nat))) (some [Tree.sl (1:Nat) (take (0:Nat) (drop (length (oEs p27 0)) (oEs p27 0))),tI
 (gI y26 4)]) none) none) (cnd (AN p27 3=AK p27 4 0∧((1:Nat)=(1:Nat)∨(1:Nat)=(0:Nat))∧(AU p27 4 0)+(AM p27 4 0)≤length (oEs p27 3)∧(AM p27 4 0)+(1:Nat)≤
 (1073741824:Nat)) (cnd ((AK p27 4 0)+(1:Nat)=(AK p27 4 0)+(1:Nat)) (cnd (((((AM p27 4 0)+(1:Nat):Nat):Int)==a11)=true) (again19 ([],[AF.row false (AN p27 0) (1:Nat) (oEs p27 0),
 AF.box [AV.sref (0:Nat) (AK p27 1 0) (AU p27 1 0) (AM p27 1 0)],AF.box [AV.t (tI (cI p27 2 0))],AF.row false ((AK p27 4 0)+(1:Nat)) (1:Nat) ((take (AM p27 4 0) (drop
 (AU p27 4 0) (oEs p27 3)))++[[Tree.sl (4:Nat) []]]),AF.box [AV.sref (3:Nat) ((AK p27 4 0)+(1:Nat)) (0:Nat) ((AM p27 4 0)+(1:Nat))],AF.box [AV.t (Tree.sl (1:Nat) (cL p27 5 0)),AV.t
 (Tree.sl (7:Nat) (cL p27 5 1)),AV.t (Tree.sl (4:Nat) (cL p27 5 2)),AV.t (Tree.sl (5:Nat) (cL p27 5 3))],AF.box [AV.func (Fn.func 31) [] []]])) (again19 ([],[AF.row false (AN p27 0) (1:Nat)
 (oEs p27 0),AF.box [AV.sref (0:Nat) (AK p27 1 0) (AU p27 1 0) (AM p27 1 0)],AF.box [AV.t (tI (cI p27 2 0))],AF.row false ((AK p27 4 0)+(1:Nat)) (1:Nat) ((take (AM p27 4 0)
 (drop (AU p27 4 0) (oEs p27 3)))++[[Tree.sl (4:Nat) []]]),AF.box [AV.sref (3:Nat) ((AK p27 4 0)+(1:Nat)) (0:Nat) ((AM p27 4 0)+(1:Nat))],AF.box [AV.t (Tree.sl (1:Nat) (cL p27 5
 0)),AV.t (Tree.sl (7:Nat) (cL p27 5 1)),AV.t (Tree.sl (4:Nat) (cL p27 5 2)),AV.t (Tree.sl (5:Nat) (cL p27 5 3))],AF.box [AV.func (Fn.func 31) [] []]]))) none) none))
noncomputable def WK (n:Nat) (again19:(List AV×Heap)→Option (List Tree)) (y22:List Tree) (a11:Int) (again21:(List AV×Heap)→Option (List Tree)) (p23:List AV×Heap):Option (List Tree):=
 cnd (vB p23 0=true) (again19 ([],[AF.row false (AN p23 0) (1:Nat) (oEs p23 0),AF.box [AV.sref (0:Nat) (AK p23 1 0) (AU p23 1 0) (AM p23 1 0)],AF.box [AV.t (tI (cI p23 2 0))],
 AF.row false (AN p23 3) (1:Nat) (oEs p23 3),AF.box [AV.sref (3:Nat) (AK p23 4 0) (AU p23 4 0) (AM p23 4 0)],AF.box [AV.t (Tree.sl (1:Nat) (cL p23 5 0)),AV.t (Tree.sl (7:Nat) (cL p23 5
 1)),AV.t (Tree.sl (4:Nat) (cL p23 5 2)),AV.t (Tree.sl (5:Nat) (cL p23 5 3))],AF.box [AV.func (Fn.func 31) [] []]])) (cnd (((gI y22 1) != (0:Int))=true) (cnd (AN p23 0=AK p23 1 0) (cnd
 ((false=true∨false=false)∧AN p23 0=AK p23 1 0∧((1:Nat)=(1:Nat)∨(1:Nat)=(0:Nat))) (some [Tree.sl (1:Nat) (take (0:Nat) (drop (length (oEs p23 0)) (oEs p23 0))),tI
 (gI y22 1)]) none) none) (cnd (AN p23 3=AK p23 4 0∧((1:Nat)=(1:Nat)∨(1:Nat)=(0:Nat))∧(AU p23 4 0)+(AM p23 4 0)≤length (oEs p23 3)∧(AM p23 4 0)+(1:Nat)≤
 (1073741824:Nat)) (cnd ((AK p23 4 0)+(1:Nat)=(AK p23 4 0)+(1:Nat)) (cnd (((((AM p23 4 0)+(1:Nat):Nat):Int)==a11)=true) (again19 ([],[AF.row false (AN p23 0) (1:Nat) (oEs p23 0),
 AF.box [AV.sref (0:Nat) (AK p23 1 0) (AU p23 1 0) (AM p23 1 0)],AF.box [AV.t (tI (cI p23 2 0))],AF.row false ((AK p23 4 0)+(1:Nat)) (1:Nat) ((take (AM p23 4 0) (drop
 (AU p23 4 0) (oEs p23 3)))++[[Tree.sl (4:Nat) (gL y22 0)]]),AF.box [AV.sref (3:Nat) ((AK p23 4 0)+(1:Nat)) (0:Nat) ((AM p23 4 0)+(1:Nat))],AF.box [AV.t (Tree.sl (1:Nat) (cL p23 5
 0)),AV.t (Tree.sl (7:Nat) (cL p23 5 1)),AV.t (Tree.sl (4:Nat) (cL p23 5 2)),AV.t (Tree.sl (5:Nat) (cL p23 5 3))],AF.box [AV.func (Fn.func 31) [] []]])) (cnd (((gI y22 1) != (0:Int))=true)
 (again19 ([],[AF.row false (AN p23 0) (1:Nat) (oEs p23 0),AF.box [AV.sref (0:Nat) (AK p23 1 0) (AU p23 1 0) (AM p23 1 0)],AF.box [AV.t (tI (cI p23 2 0))],AF.row false ((AK p23 4
 0)+(1:Nat)) (1:Nat) ((take (AM p23 4 0) (drop (AU p23 4 0) (oEs p23 3)))++[[Tree.sl (4:Nat) (gL y22 0)]]),AF.box [AV.sref (3:Nat) ((AK p23 4 0)+(1:Nat)) (0:Nat) ((AM p23 4
 0)+(1:Nat))],AF.box [AV.t (Tree.sl (1:Nat) (cL p23 5 0)),AV.t (Tree.sl (7:Nat) (cL p23 5 1)),AV.t (Tree.sl (4:Nat) (cL p23 5 2)),AV.t (Tree.sl (5:Nat) (cL p23 5 3))],AF.box [AV.func
 (Fn.func 31) [] []]])) (Option.bind (AL C n (31:Nat) [Tree.sl (4:Nat) (gL y22 0)]) fun y25=>cnd (length y25=(1:Nat)) (cnd (okL 1 y25 0) (Option.bind (AL C n (134:Nat) [Tree.sl (1:Nat)
 (cL p23 5 0),Tree.sl (7:Nat) (cL p23 5 1),Tree.sl (4:Nat) (cL p23 5 2),Tree.sl (5:Nat) (cL p23 5 3),Tree.sl (1:Nat) (gL y25 0)]) fun y26=>cnd (length y26=(5:Nat)) (cnd (okL 1 y26 0) (cnd
 (okL 7 y26 1) (cnd (okL 4 y26 2) (cnd (okL 5 y26 3) (cnd (okI y26 4) (cnd (((gI y26 4) != (0:Int))=true) (join (fun (p27:List AV×Heap)=>J8_1 n again19 y26 a11 p27) fun (again28:_→Option
 (List Tree))=>cnd (((gI y26 4)==(18:Int))=true) (cnd ((AK p23 4 0)+(1:Nat)=(AK p23 4 0)+(1:Nat)) (again28 ([AV.t (Tree.bool (decide ((((AM p23 4 0)+(1:Nat):Nat):Int)>(0:Int))))],
 [AF.row false (AN p23 0) (1:Nat) (oEs p23 0),AF.box [AV.sref (0:Nat) (AK p23 1 0) (AU p23 1 0) (AM p23 1 0)],AF.box [AV.t (tI (cI p23 2 0))],AF.row false ((AK p23 4 0)+(1:Nat))
 (1:Nat) ((take (AM p23 4 0) (drop (AU p23 4 0) (oEs p23 3)))++[[Tree.sl (4:Nat) (gL y22 0)]]),AF.box [AV.sref (3:Nat) ((AK p23 4 0)+(1:Nat)) (0:Nat) ((AM p23 4 0)+(1:Nat))],
 AF.box [AV.t (Tree.sl (1:Nat) (cL p23 5 0)),AV.t (Tree.sl (7:Nat) (cL p23 5 1)),AV.t (Tree.sl (4:Nat) (cL p23 5 2)),AV.t (Tree.sl (5:Nat) (cL p23 5 3))],AF.box [AV.func (Fn.func 31) [] []],
 AF.box [],AF.box [AV.t (Tree.sl (1:Nat) (gL y26 0)),AV.t (Tree.sl (7:Nat) (gL y26 1)),AV.t (Tree.sl (4:Nat) (gL y26 2)),AV.t (Tree.sl (5:Nat) (gL y26 3))]])) none) (again28 ([AV.t (Tree.bool
 false)],[AF.row false (AN p23 0) (1:Nat) (oEs p23 0),AF.box [AV.sref (0:Nat) (AK p23 1 0) (AU p23 1 0) (AM p23 1 0)],AF.box [AV.t (tI (cI p23 2 0))],AF.row false ((AK p23 4 0) +
 (1:Nat)) (1:Nat) ((take (AM p23 4 0) (drop (AU p23 4 0) (oEs p23 3)))++[[Tree.sl (4:Nat) (gL y22 0)]]),AF.box [AV.sref (3:Nat) ((AK p23 4 0)+(1:Nat)) (0:Nat) ((AM p23 4 0) +
 (1:Nat))],AF.box [AV.t (Tree.sl (1:Nat) (cL p23 5 0)),AV.t (Tree.sl (7:Nat) (cL p23 5 1)),AV.t (Tree.sl (4:Nat) (cL p23 5 2)),AV.t (Tree.sl (5:Nat) (cL p23 5 3))],AF.box [AV.func (Fn.func 31)
 [] []],AF.box [],AF.box [AV.t (Tree.sl (1:Nat) (gL y26 0)),AV.t (Tree.sl (7:Nat) (gL y26 1)),AV.t (Tree.sl (4:Nat) (gL y26 2)),AV.t (Tree.sl (5:Nat) (gL y26 3))]]))) (again21 ([],[AF.row
 false (AN p23 0) (1:Nat) (oEs p23 0),AF.box [AV.sref (0:Nat) (AK p23 1 0) (AU p23 1 0) (AM p23 1 0)],AF.box [AV.t (tI (cI p23 2 0))],AF.row false ((AK p23 4 0)+(1:Nat)) (1:Nat)
 ((take (AM p23 4 0) (drop (AU p23 4 0) (oEs p23 3)))++[[Tree.sl (4:Nat) (gL y22 0)]]),AF.box [AV.sref (3:Nat) ((AK p23 4 0)+(1:Nat)) (0:Nat) ((AM p23 4 0)+(1:Nat))],
 AF.box [AV.t (Tree.sl (1:Nat) (gL y26 0)),AV.t (Tree.sl (7:Nat) (gL y26 1)),AV.t (Tree.sl (4:Nat) (gL y26 2)),AV.t (Tree.sl (5:Nat) (gL y26 3))],AF.box [AV.func (Fn.func 31) [] []],AF.box
 []]))) none) none) none) none) none) none) none) none))) none) none))
noncomputable def UL (n:Nat) (a4:Int) (a5:Int) (a6:Int) (a7:Int) (a8:Int) (a9:Int) (a10:Bool) (again19:(List AV×Heap)→Option (List Tree)) (a11:Int) (p20:List AV×Heap) (again21:(List AV×Heap)→Option (List Tree)):Option (List Tree):=
 Option.bind (AL C n (133:Nat) [Tree.sl (1:Nat) (cL p20 5 0),Tree.sl (7:Nat) (cL p20 5 1),Tree.sl (4:Nat) (cL p20 5 2),Tree.sl (5:Nat) (cL p20 5 3),tI a4,tI a5,tI a6,tI a7,tI a8,tI a9,
 Tree.bool a10]) fun y22=>cnd (length y22=(2:Nat)) (cnd (okL 4 y22 0) (cnd (okI y22 1) (join (fun (p23:List AV×Heap)=>WK n again19 y22 a11 again21 p23) fun (again24:_→Option (List
 Tree))=>cnd (((gI y22 1)==(18:Int))=true) (cnd (AN p20 3=AK p20 4 0) (again24 ([AV.t (Tree.bool (decide (((AM p20 4 0:Nat):Int)>(0:Int))))],[AF.row false (AN p20 0) (1:Nat) (oEs
 p20 0),AF.box [AV.sref (0:Nat) (AK p20 1 0) (AU p20 1 0) (AM p20 1 0)],AF.box [AV.t (tI (cI p20 2 0))],AF.row false (AN p20 3) (1:Nat) (oEs p20 3),AF.box [AV.sref (3:Nat) (AK p20
 4 0) (AU p20 4 0) (AM p20 4 0)],AF.box [AV.t (Tree.sl (1:Nat) (cL p20 5 0)),AV.t (Tree.sl (7:Nat) (cL p20 5 1)),AV.t (Tree.sl (4:Nat) (cL p20 5 2)),AV.t (Tree.sl (5:Nat) (cL p20 5 3))],
 AF.box [AV.func (Fn.func 31) [] []],AF.box []])) none) (again24 ([AV.t (Tree.bool false)],[AF.row false (AN p20 0) (1:Nat) (oEs p20 0),AF.box [AV.sref (0:Nat) (AK p20 1 0) (AU p20 1
 0) (AM p20 1 0)],AF.box [AV.t (tI (cI p20 2 0))],AF.row false (AN p20 3) (1:Nat) (oEs p20 3),AF.box [AV.sref (3:Nat) (AK p20 4 0) (AU p20 4 0) (AM p20 4 0)],AF.box [AV.t (Tree.sl
 (1:Nat) (cL p20 5 0)),AV.t (Tree.sl (7:Nat) (cL p20 5 1)),AV.t (Tree.sl (4:Nat) (cL p20 5 2)),AV.t (Tree.sl (5:Nat) (cL p20 5 3))],AF.box [AV.func (Fn.func 31) [] []],AF.box []]))) none)
 none) none
noncomputable def UM (n:Nat)  (p18:List AV×Heap):Option (List Tree):=
 cnd ((false=true∨false=false)∧AN p18 3=AK p18 4 0∧((1:Nat)=(1:Nat)∨(1:Nat)=(0:Nat))) (some [Tree.sl (1:Nat) (take (AM p18 4 0) (drop (AU p18 4 0) (oEs p18 3))),tI
 (0:Int)]) none
noncomputable def J8_5 (n:Nat) (a4:Int) (a5:Int) (a6:Int) (a7:Int) (a8:Int) (a9:Int) (a10:Bool) (a11:Int) (a0:List (List Tree)) (a1:List (List Tree)) (a2:List (List Tree)) (a3:List (List Tree)) (p16:List AV×Heap):Option (List Tree):=
 cnd (vB p16 0=true) (cnd (AN p16 0=AK p16 1 0) (cnd ((false=true∨false=false)∧AN p16 0=AK p16 1 0∧((1:Nat)=(1:Nat)∨(1:Nat)=(0:Nat))) (some [Tree.sl (1:Nat) (take
 (0:Nat) (drop (length (oEs p16 0)) (oEs p16 0))),tI (2:Int)]) none) none) (join (fun (p18:List AV×Heap)=>UM n p18) fun (again19:_→Option (List Tree))=>AI (fun (p20 :
 List AV×Heap) (again21:_→Option (List Tree))=>UL n a4 a5 a6 a7 a8 a9 a10 again19 a11 p20 again21) n ([],[AF.row false (AN p16 0) (1:Nat) (oEs p16 0),AF.box [AV.sref (0:Nat) (AK p16
 1 0) (AU p16 1 0) (AM p16 1 0)],AF.box [AV.t (tI (cI p16 2 0))],AF.row false (0:Nat) (1:Nat) [],AF.box [AV.sref (3:Nat) (0:Nat) (0:Nat) (0:Nat)],AF.box [AV.t (Tree.sl (1:Nat) a0),AV.t
 (Tree.sl (7:Nat) a1),AV.t (Tree.sl (4:Nat) a2),AV.t (Tree.sl (5:Nat) a3)],AF.box [AV.func (Fn.func 31) [] []],AF.box []]))
noncomputable def J8_6 (n:Nat) (a4:Int) (a5:Int) (a6:Int) (a7:Int) (a8:Int) (a9:Int) (a10:Bool) (a11:Int) (a0:List (List Tree)) (a1:List (List Tree)) (a2:List (List Tree)) (a3:List (List Tree)) (p12:List AV×Heap):Option (List Tree):=
 cnd (vB p12 0=true) (cnd (AN p12 0=AK p12 1 0) (cnd ((false=true∨false=false)∧AN p12 0=AK p12 1 0∧((1:Nat)=(1:Nat)∨(1:Nat)=(0:Nat))) (some [Tree.sl (1:Nat) (take
 (0:Nat) (drop (length (oEs p12 0)) (oEs p12 0))),tI (1:Int)]) none) none) (join (fun (p16:List AV×Heap)=>J8_5 n a4 a5 a6 a7 a8 a9 a10 a11 a0 a1 a2 a3 p16) fun (again17:_→Option
 (List Tree))=>cnd (decide (a11<(1:Int))=true) (again17 ([AV.t (Tree.bool true)],[AF.row false (AN p12 0) (1:Nat) (oEs p12 0),AF.box [AV.sref (0:Nat) (AK p12 1 0) (AU p12 1 0) (AM
 p12 1 0)],AF.box [AV.t (tI (cI p12 2 0))]])) (again17 ([AV.t (Tree.bool (decide (a11>(16:Int))))],[AF.row false (AN p12 0) (1:Nat) (oEs p12 0),AF.box [AV.sref (0:Nat) (AK p12 1 0) (AU
 p12 1 0) (AM p12 1 0)],AF.box [AV.t (tI (cI p12 2 0))]])))
theorem e8 (n:Nat) (a0:List (List Tree)) (a1:List (List Tree)) (a2:List (List Tree)) (a3:List (List Tree)) (a4:Int) (a5:Int) (a6:Int) (a7:Int) (a8:Int) (a9:Int) (a10:Bool) (a11:Int):AL C (n+1) 8 [Tree.sl (1:Nat) a0,Tree.sl (7:Nat) a1,Tree.sl (4:Nat) a2,Tree.sl (5:Nat) a3,tI a4,tI a5,tI a6,tI a7,tI a8,tI a9,Tree.bool a10,tI a11]=
 join (fun (p12:List AV×Heap)=>J8_6 n a4 a5 a6 a7 a8 a9 a10 a11 a0 a1 a2 a3 p12) fun (again13:_→Option (List Tree))=>Option.bind (AL C n (17:Nat) [Tree.sl (1:Nat) a0,Tree.sl (7:Nat) a1,
 Tree.sl (4:Nat) a2,Tree.sl (5:Nat) a3]) fun y14=>cnd (length y14=(1:Nat)) (cnd (okI y14 0) (cnd (((gI y14 0) != (0:Int))=true) (again13 ([AV.t (Tree.bool true)],[AF.row false (0:Nat)
 (1:Nat) [],AF.box [AV.sref (0:Nat) (0:Nat) (0:Nat) (0:Nat)],AF.box [AV.t (tI (0:Int))]])) (Option.bind (AL C n (71:Nat) [Tree.sl (1:Nat) a0,Tree.sl (7:Nat) a1,tI a4,tI a5,tI a6,tI a7,tI
 a8,tI a9,Tree.bool a10]) fun y15=>cnd (length y15=(1:Nat)) (cnd (okI y15 0) (again13 ([AV.t (Tree.bool ((gI y15 0) != (0:Int)))],[AF.row false (0:Nat) (1:Nat) [],AF.box [AV.sref
 (0:Nat) (0:Nat) (0:Nat) (0:Nat)],AF.box [AV.t (tI (0:Int))]])) none) none)) none) none:=by kernel_rfl
noncomputable def L3_1 (n:Nat) (y16:List Tree) (again18:(List AV×Heap)→Option (List Tree)) (p19:List AV×Heap) (again20:(List AV×Heap)→Option (List Tree)):Option (List Tree):=
 cnd (decide (vI p19 0<vI p19 1)=true) (cnd (AN p19 0=(0:Nat)∧(1:Nat)=(1:Nat)∧(0:Int)≤vI p19 1∧vI p19 1<((length (gL y16 0):Nat):Int)) (cnd (AN p19 0=(0:Nat)) (Option.bind
 (oEs p19 0)[(0:Nat)+(toNat (vI p19 1))]? fun y21=>cnd (okL 4 y21 0) (cnd (AN p19 0=(0:Nat)∧(1:Nat)=(1:Nat)∧(0:Int)≤vI p19 0∧vI p19 0<((length (gL y16 0):Nat):Int)) (cnd
 (AN p19 0=(0:Nat)) (Option.bind (oEs p19 0)[(0:Nat)+(toNat (vI p19 0))]? fun y22=>cnd (okL 4 y22 0) (cnd (AN p19 0=(0:Nat)∧(1:Nat)=(1:Nat)∧(0:Int)≤vI p19 0∧vI p19 0 <
 ((length (gL y16 0):Nat):Int)) (cnd (AN p19 0=(0:Nat)∧(1:Nat)≤(1:Nat)) (Option.bind (oEs p19 0)[(0:Nat)+(toNat (vI p19 0))]? fun y23=>cnd ((0:Nat)=(0:Nat)∧(1:Nat)=(1:Nat)∧
 (0:Int)≤vI p19 1∧vI p19 1<((length (gL y16 0):Nat):Int)) (Option.bind (List.set (oEs p19 0) ((0:Nat)+(toNat (vI p19 0))) ([Tree.sl (4:Nat) (gL y21 0)]++drop (1:Nat)
 y23))[(0:Nat)+(toNat (vI p19 1))]? fun y24=>again20 ([AV.t (tI (w64 ((vI p19 0)+(1:Int)))),AV.t (tI (w64 ((vI p19 1)-(1:Int))))],[AF.row false (0:Nat) (1:Nat) (List.set (List.set (oEs
 p19 0) ((0:Nat)+(toNat (vI p19 0))) ([Tree.sl (4:Nat) (gL y21 0)]++drop (1:Nat) y23)) ((0:Nat)+(toNat (vI p19 1))) ([Tree.sl (4:Nat) (gL y22 0)]++drop (1:Nat) y24))])) none)
 none) none) none) none) none) none) none) none) (again18 ([],[AF.row false (AN p19 0) (1:Nat) (oEs p19 0)]))
noncomputable def WJ (n:Nat) (y28:List Tree) (a0:List (List Tree)) (a1:List (List Tree)) (again26:(List AV×Heap)→Option (List Tree)) (p25:List AV×Heap) (p29:List AV×Heap) (again30:(List AV×Heap)→Option (List Tree)):Option (List Tree):=
 cnd (decide (vI p29 1<((length (gL y28 0):Nat):Int))=true) (cnd ((4:Nat)=(4:Nat)∧(0:Int)≤vI p29 1) (Option.bind (gL y28 0)[toNat (vI p29 1)]? fun y31=>cnd (okI y31 0) (cnd (okI
 y31 1) (cnd (okI y31 2) (cnd (okI y31 3) (Option.bind (AL C n (12:Nat) [Tree.sl (1:Nat) a0,Tree.sl (7:Nat) a1,Tree.sl (4:Nat) (vL p29 0),tI (gI y31 0),tI (gI y31 1),tI (gI y31 2),tI (gI y31
 3)]) fun y32=>cnd (length y32=(2:Nat)) (cnd (okL 4 y32 0) (cnd (okI y32 1) (cnd (((gI y32 1) != (0:Int))=true) (some [Tree.bool false]) (again30 ([AV.t (Tree.sl (4:Nat) (gL y32 0)),AV.t
 (tI (w64 ((vI p29 1)+(1:Int))))],[AF.row false (AN p29 0) (1:Nat) (oEs p29 0)]))) none) none) none) none) none) none) none) none) (again26 ([AV.t (Tree.sl (4:Nat) (vL p29 0)),AV.t (tI (w64
 ((vI p25 1)+(1:Int))))],[AF.row false (AN p29 0) (1:Nat) (oEs p29 0)]))
noncomputable def WI (n:Nat) (y16:List Tree) (a0:List (List Tree)) (a1:List (List Tree)) (p25:List AV×Heap) (again26:(List AV×Heap)→Option (List Tree)):Option (List Tree):=
 cnd (decide (vI p25 1<((length (gL y16 0):Nat):Int))=true) (cnd (AN p25 0=(0:Nat)∧(1:Nat)=(1:Nat)∧(0:Int)≤vI p25 1∧vI p25 1<((length (gL y16 0):Nat):Int)) (cnd (AN p25
 0=(0:Nat)) (Option.bind (oEs p25 0)[(0:Nat)+(toNat (vI p25 1))]? fun y27=>cnd (okL 4 y27 0) (Option.bind (AL C n (11:Nat) [Tree.sl (4:Nat) (gL y27 0),tI (w64 ((vI p25 1)+(1:Int)))])
 fun y28=>cnd (length y28=(1:Nat)) (cnd (okL 4 y28 0) (AI (fun (p29:List AV×Heap) (again30:_→Option (List Tree))=>WJ n y28 a0 a1 again26 p25 p29 again30) n ([AV.t (Tree.sl
 (4:Nat) (vL p25 0)),AV.t (tI (0:Int))],[AF.row false (AN p25 0) (1:Nat) (oEs p25 0)])) none) none) none) none) none) (Option.bind (AL C n (13:Nat) [Tree.sl (1:Nat) a0,Tree.sl (7:Nat) a1,
 Tree.sl (4:Nat) (vL p25 0)]) fun y35=>cnd (length y35=(1:Nat)) (cnd (okI y35 0) (cnd (((gI y35 0)==(0:Int))=true) (some [Tree.bool true]) (some [Tree.bool false])) none) none)
noncomputable def J3_4 (n:Nat) (y16:List Tree) (a0:List (List Tree)) (a1:List (List Tree)) (a2:List (List Tree)) (p17:List AV×Heap):Option (List Tree):=
 cnd (AN p17 0=(0:Nat)) (AI (fun (p25:List AV×Heap) (again26:_→Option (List Tree))=>WI n y16 a0 a1 p25 again26) n ([AV.t (Tree.sl (4:Nat) a2),AV.t (tI (0:Int))],[AF.row false
 (AN p17 0) (1:Nat) (oEs p17 0)])) none
noncomputable def WH (n:Nat) (y39:List Tree) (a0:List (List Tree)) (a1:List (List Tree)) (again37:(List AV×Heap)→Option (List Tree)) (p36:List AV×Heap) (p40:List AV×Heap) (again41:(List AV×Heap)→Option (List Tree)):Option (List Tree):=
 cnd (decide (vI p40 1<((length (gL y39 0):Nat):Int))=true) (cnd ((4:Nat)=(4:Nat)∧(0:Int)≤vI p40 1) (Option.bind (gL y39 0)[toNat (vI p40 1)]? fun y42=>cnd (okI y42 0) (cnd (okI
 y42 1) (cnd (okI y42 2) (cnd (okI y42 3) (Option.bind (AL C n (12:Nat) [Tree.sl (1:Nat) a0,Tree.sl (7:Nat) a1,Tree.sl (4:Nat) (vL p40 0),tI (gI y42 0),tI (gI y42 1),tI (gI y42 2),tI (gI y42
 3)]) fun y43=>cnd (length y43=(2:Nat)) (cnd (okL 4 y43 0) (cnd (okI y43 1) (cnd (((gI y43 1) != (0:Int))=true) (some [Tree.bool false]) (again41 ([AV.t (Tree.sl (4:Nat) (gL y43 0)),AV.t
 (tI (w64 ((vI p40 1)+(1:Int))))],[]))) none) none) none) none) none) none) none) none) (again37 ([AV.t (Tree.sl (4:Nat) (vL p40 0)),AV.t (tI (w64 ((vI p36 1)+(1:Int))))],[]))
noncomputable def WG (n:Nat) (y13:List Tree) (a0:List (List Tree)) (a1:List (List Tree)) (p36:List AV×Heap) (again37:(List AV×Heap)→Option (List Tree)):Option (List Tree):=
 cnd (decide (vI p36 1<((length (gL y13 0):Nat):Int))=true) (cnd ((1:Nat)=(1:Nat)∧(0:Int)≤vI p36 1) (Option.bind (gL y13 0)[toNat (vI p36 1)]? fun y38=>cnd (okL 4 y38 0)
 (Option.bind (AL C n (11:Nat) [Tree.sl (4:Nat) (gL y38 0),tI (w64 ((vI p36 1)+(1:Int)))]) fun y39=>cnd (length y39=(1:Nat)) (cnd (okL 4 y39 0) (AI (fun (p40:List AV×Heap)
 (again41:_→Option (List Tree))=>WH n y39 a0 a1 again37 p36 p40 again41) n ([AV.t (Tree.sl (4:Nat) (vL p36 0)),AV.t (tI (0:Int))],[])) none) none) none) none) (Option.bind (AL C n (13:Nat)
 [Tree.sl (1:Nat) a0,Tree.sl (7:Nat) a1,Tree.sl (4:Nat) (vL p36 0)]) fun y46=>cnd (length y46=(1:Nat)) (cnd (okI y46 0) (cnd (((gI y46 0)==(0:Int))=true) (some [Tree.bool true]) (some
 [Tree.bool false])) none) none)
theorem e3 (n:Nat) (a0:List (List Tree)) (a1:List (List Tree)) (a2:List (List Tree)) (a3:List (List Tree)) (a4:Int) (a5:Int) (a6:Int) (a7:Int) (a8:Int) (a9:Int) (a10:Bool) (a11:Bool):AL C (n+1) 3 [Tree.sl (1:Nat) a0,Tree.sl (7:Nat) a1,Tree.sl (4:Nat) a2,Tree.sl (5:Nat) a3,tI a4,tI a5,tI a6,tI a7,tI a8,tI a9,Tree.bool a10,Tree.bool a11]=
 Option.bind (AL C n (6:Nat) [Tree.sl (1:Nat) a0,Tree.sl (7:Nat) a1,Tree.sl (4:Nat) a2,Tree.sl (5:Nat) a3,tI a4,tI a5,tI a6,tI a7,tI a8,tI a9,Tree.bool a10]) fun y12=>cnd (length
 y12=(1:Nat)) (cnd (okB y12 0) (cnd ((!(gB y12 0))=true) (some [Tree.bool true]) (Option.bind (AL C n (8:Nat) [Tree.sl (1:Nat) a0,Tree.sl (7:Nat) a1,Tree.sl (4:Nat) a2,Tree.sl (5:Nat) a3,tI
 a4,tI a5,tI a6,tI a7,tI a8,tI a9,Tree.bool a10,tI (16:Int)]) fun y13=>cnd (length y13=(2:Nat)) (cnd (okL 1 y13 0) (cnd (okI y13 1) (cnd (((gI y13 1) != (0:Int))=true) (cnd (((gI y13
 1)==(18:Int))=true) (some [Tree.bool true]) (some [Tree.bool false])) (cnd (a11=true) (Option.bind (AL C n (1000009:Nat) [Tree.sl (1:Nat) (gL y13 0)]) fun y16=>cnd (length y16 =
 (1:Nat)∧okL 1 y16 0) (join (fun (p17:List AV×Heap)=>J3_4 n y16 a0 a1 a2 p17) fun (again18:_→Option (List Tree))=>AI (fun (p19:List AV×Heap) (again20:_→Option (List Tree))
 =>L3_1 n y16 again18 p19 again20) n ([AV.t (tI (0:Int)),AV.t (tI (w64 (((length (gL y16 0):Nat):Int)-(1:Int))))],[AF.row false (0:Nat) (1:Nat) (gL y16 0)])) none) (AI (fun (p36 :
 List AV×Heap) (again37:_→Option (List Tree))=>WG n y13 a0 a1 p36 again37) n ([AV.t (Tree.sl (4:Nat) a2),AV.t (tI (0:Int))],[])))) none) none) none)) none) none:=by kernel_rfl
end Ab
namespace Ab
open Go
theorem s180 (q:List Int) (cs:List AA) (l:List AB) (k f:Int) :
  Al C 180 [.sl 1 (q.map encI),.sl 7 (cs.map AA.enc),.sl 4 (l.map AB.enc),tI k,tI f] [.sl 4 ((Ol q cs l k f).map AB.enc),tI (QT q cs l k f)]:=by
 refine Al.of (fun n=>e180 n _ _ _ _ _) ?_;by_cases h0:Cm q cs l k=0
 ·obtain ⟨c,hc,hk0,hk1,hcc,hbo,hlen⟩:=ck_ok h0;have hgi:=L8 (f:=f) hbo ⟨hk0,hk1⟩ hc hcc;have hgl:=HJ c.stop (busy l k) (if c.start<f then f else c.start);have hbl:=Fo l k;have S142:=s142 q cs l k f c hk0 hc (by omega);have eC:QT q cs l k f=if l.length+(A9 c.stop (busy l k) (if c.start<f then f else c.start)).length>512 then 4 else 0:=by simp [QT,h0,hc]
  have eL:Ol q cs l k f=if l.length+(A9 c.stop (busy l k) (if c.start<f then f else c.start)).length>512 then [] else blk k l (A9 c.stop (busy l k) (if c.start<f then f else c.start)):=by
   unfold Ol;rw [eC,hc];dsimp only;generalize A9 c.stop (busy l k) (if c.start<f then f else c.start)=gs;by_cases h:l.length+gs.length>512
   ·simp [h]
   ·simp [h]
  rw [eC,eL];generalize A9 c.stop (busy l k) (if c.start<f then f else c.start)=gs at *;have hw:w64 ((l.length:Int)+(gs.length:Int))=((l.length+gs.length:Nat):Int):=by rw [A6 (by omega) (by omega)];omega
  by_cases hbig:l.length+gs.length>512
  ·refine ((Ul q cs l k).and S142).mono fun n h => ?_;simp only [h.1,h.2,vv,reduceCtorEq,reduceAdd,reduceEqDiff,zh0,zh1,zh2,zh3,zh4,zh5,zh6,zo0,zo1,h0,bne_self_eq_false,hw,hbig,(show (512:Int)<((l.length+gs.length:Nat):Int) by omega),map_nil]
  ·simp only [hbig,if_false];refine Ev.rw (T' := ?TT) ((Ul q cs l k).and S142) (fun n h => ?g1) ?g2
   case g1=>
    simp only [h.1,h.2,vv,reduceCtorEq,reduceAdd,reduceEqDiff,zh0,zh1,zh2,zh3,zh4,zh5,zh6,zo0,zo1,h0,bne_self_eq_false,hw,(show ¬(512:Int)<((l.length+gs.length:Nat):Int) by omega)];rfl
   case g2=>
    refine Aj (fun (r:List AB)=>[Tree.sl 4 (r.map AB.enc),tI 0]) gs (fun i (s:List AB)=>(([.t (.sl 4 (s.map AB.enc)),.t (tI i)],[]):List AV×Heap)) (fun _ s g =>.next (FQ s (bk k g))) id (fun i s=>UN cs k s (gs.drop i)∧s.length=l.length+i) l rfl ⟨by simpa using hgi,by simp⟩ (Bf (fun s g=>FQ s (bk k g)) id 0 gs l)
     (fun i s g hx hI => ?_) (fun i s g s' hx hI hs' => ?_) (fun s hI=>Ev.of fun n again => ?_)
    ·have hi:=AJ hx;refine (s40 s (bk k g) (Sv hI.1.1 _) (by omega)).mono fun n h again => ?_;simp only [bk] at h;simp only [vv,reduceCtorEq,reduceAdd,reduceEqDiff,zh0,zh1,zh2,zh3,zh4,zh5,zh6,zo0,zo1,hx,Span.enc,h,(show (i:Int)<gs.length by omega),AS (show i<4611686018427387904 by omega),Rd.Ad,FQ,bk]
    ·have hi:=AJ hx;simp only [Rd.next.injEq] at hs';subst hs';have hd:gs.drop i=g::gs.drop (i+1):=by rw [List.drop_eq_getElem_cons hi];rw [getElem?_eq_getElem hi] at hx;rw [Option.some.inj hx]
     rw [hd] at hI;exact ⟨hI.1.step,by rw [FQ,I5,hI.2];omega⟩
    ·simp only [vv,reduceCtorEq,reduceAdd,reduceEqDiff,zh0,zh1,zh2,zh3,zh4,zh5,zh6,zo0,zo1,lt_irrefl,id]
 ·refine (Ul q cs l k).mono fun n h => ?_;simp only [h,vv,reduceCtorEq,reduceAdd,reduceEqDiff,zh0,zh1,zh2,zh3,zh4,zh5,zh6,zo0,zo1];rw [C4 (by simp [h0])];simp [Ol,QT,h0]
def tH (q:List Int) (cs:List AA) (bs:List AB) (hs:List AW):Heap:=[.box [.t (.sl 1 (q.map encI)),.t (.sl 7 (cs.map AA.enc)),.t (.sl 4 (bs.map AB.enc)),.t (.sl 5 (hs.map AW.enc))],.box [.t (.sl 1 []),.t (.sl 7 []),.t (.sl 4 []),.t (.sl 5 [])]]
def tR (q:List Int) (cs:List AA) (bs:List AB) (hs:List AW):List Tree:=[.sl 1 (q.map encI),.sl 7 (cs.map AA.enc),.sl 4 (bs.map AB.enc),.sl 5 (hs.map AW.enc),tI 0]
theorem av2 {q:List Int} {cs:List AA} {bs0:List AB} {hs:List AW} (h0:bs0.length≤30) (hcs:cs.length≤10) (ks:List Int) (hkl:ks.length≤100000) (hk:∀k∈ks,0≤k∧k<cs.length) (bs:List AB) (B:List Int) (hB:BSt q cs bs0 bs B) :
  Ev fun n=>AI (fun p again=>Ox n (ks.map encI) p again) n ([.t (tI (0:Nat))],tH q cs bs hs)=some (tR q cs (IN q cs bs ks) hs):=by
 refine Aj (fun b:List AB=>tR q cs b hs) ks (fun i b=>(([.t (tI i)],tH q cs b hs):List AV×Heap)) (fun _ b k =>.next (Ol q cs b k (D4 cs k))) (fun b=>b) (fun _ b=>∃B,BSt q cs bs0 b B) bs rfl ⟨B,hB⟩ (by rw [Bf];rfl)
  (fun i b k hx hI => ?_) (fun i b k s' hx hI h => ?_) (fun s hI=>Ev.of fun n again => ?_)
 ·have hi:=AJ hx;obtain ⟨B1,hB1⟩:=hI;have hkr:=hk k (mem_of_getElem? hx);have hst:=(MZ hB1 h0 hcs hkr).1;have hc:cs[k.toNat]? = some cs[k.toNat]:=getElem?_eq_getElem (by omega);generalize cs[k.toNat]'(by omega)=c at hc;have hS:D4 cs k=c.start:=by unfold D4;rw [hc]
  rw [hS] at hst;have h180:=s180 q cs b k c.start;rw [hst] at h180;refine h180.mono fun n h again => ?_;simp only [Ox,tH,vv,reduceCtorEq,reduceAdd,reduceEqDiff,zh0,zh1,zh2,zh3,zh4,zh5,zh6,zo0,zo1,hx,encI,hc,AA.enc,h,hkr.1,(show (i:Int)<ks.length by omega),AS (show i<4611686018427387904 by omega),Rd.Ad,hS,bne_self_eq_false]
 ·simp only [Rd.next.injEq] at h;subst h;obtain ⟨B1,hB1⟩:=hI;obtain ⟨_,B2,hB2,_⟩:=MZ hB1 h0 hcs (hk k (mem_of_getElem? hx));exact ⟨B2,hB2⟩
 ·simp only [Ox,tH,tR,vv,reduceCtorEq,reduceAdd,reduceEqDiff,zh0,zh1,zh2,zh3,zh4,zh5,zh6,zo0,zo1,lt_irrefl]
theorem s134 {q:List Int} {cs:List AA} {bs0:List AB} {hs:List AW} (h0:bs0.length≤30) (hcs:cs.length≤10) (ks:List Int) (hkl:ks.length≤100000) (hk:∀k∈ks,0≤k∧k<cs.length) (bs:List AB) (B:List Int) (hB:BSt q cs bs0 bs B) (ht:Bn q cs bs hs=0) :
  Al C 134 [.sl 1 (q.map encI),.sl 7 (cs.map AA.enc),.sl 4 (bs.map AB.enc),.sl 5 (hs.map AW.enc),.sl 1 (ks.map encI)] (tR q cs (IN q cs bs ks) hs):=by
 refine Al.of (fun n=>e134 n _ _ _ _ _) ?_;refine Ev.rw (T' := ?TT) (s17 q cs bs hs) (fun n h => ?g1) ?g2
 case g1=>
  simp only [h,ht,vv,reduceCtorEq,reduceAdd,reduceEqDiff,zh0,zh1,zh2,zh3,zh4,zh5,zh6,zo0,zo1,bne_self_eq_false];rfl
 case g2=>
  refine Aj (fun b:List AB=>tR q cs b hs) ks (fun i (_:Unit)=>(([.t (tI i)],tH q cs bs hs):List AV×Heap)) (fun _ _ k =>.next ()) (fun _=>IN q cs bs ks) (fun _ _=>True) () rfl trivial (by rw [Bf])
   (fun i b k hx hI=>Ev.of fun n again => ?_) (fun _ _ _ _ _ _ _=>trivial) (fun s hI => ?_)
  ·have hi:=AJ hx;have hkr:=hk k (mem_of_getElem? hx);simp only [SC,WL,tH,vv,reduceCtorEq,reduceAdd,reduceEqDiff,zh0,zh1,zh2,zh3,zh4,zh5,zh6,zo0,zo1,hx,encI,(show ¬k<0 by omega),(show ¬(cs.length:Int)≤k by omega),(show (i:Int)<ks.length by omega),AS (show i<4611686018427387904 by omega),Rd.Ad]
  ·refine (av2 (hs:=hs) h0 hcs ks hkl hk bs B hB).mono fun n h again => ?_;refine Eq.trans ?_ h;simp only [SC,tH,vv,reduceCtorEq,reduceAdd,reduceEqDiff,zh0,zh1,zh2,zh3,zh4,zh5,zh6,zo0,zo1,lt_irrefl];rfl
end Ab
namespace Ab
open Go
def rtE (l:List Hop):List Tree:=[.sl 4 (l.map Hop.enc)]
def Nh:List (List Hop)→List Tree
 |[]=>[.sl 1 [],tI 18]
 |l=>[.sl 1 (l.map rtE),tI 0]
theorem MF {l:List (List Hop)} (h:l≠[]):Nh l=[.sl 1 (l.map rtE),tI 0]:=by
 cases l with
 |nil=>exact (h rfl).elim
 |cons a l=>rfl
def ME (q:List Int) (cs:List AA) (hs:List AW) (s:List AB×List (List Hop)):List AV×Heap:=
 ([],[.row false 0 1 [],.box [.sref 0 0 0 0],.box [.t (tI 0)],.row false s.2.length 1 (s.2.map rtE),.box [.sref 3 s.2.length 0 s.2.length],.box [.t (.sl 1 (q.map encI)),.t (.sl 7 (cs.map AA.enc)),.t (.sl 4 (s.1.map AB.enc)),.t (.sl 5 (hs.map AW.enc))],.box [.func (Fn.func 31) [] []],.box []])
noncomputable def MK (q:List Int) (cs:List AA) (hs:List AW) (r:Rqt) (bs:List AB):Option (List Hop):=Cl (gOf q cs bs hs r) (soI (labels (gOf q cs bs hs r)))
noncomputable def MD (q:List Int) (cs:List AA) (hs:List AW) (r:Rqt) (pick:List Hop→List Int) (s:List AB×List (List Hop)):Rd (List AB×List (List Hop)) (List (List Hop)):=
 match MK q cs hs r s.1 with
 |none =>.done s.2
 |some l=>if s.2.length+1=16 then .done (s.2++[l]) else .next (IN q cs s.1 (pick l),s.2++[l])
theorem fn_res (q:List Int) (cs:List AA) (hs:List AW) (r:Rqt) (pick:List Hop→List Int) (s:List AB×List (List Hop)) (h:s.2.length<16) :
  s.2++Dn soI q cs hs r pick (16-s.2.length) s.1=(MD q cs hs r pick s).fin fun s=>s.2++Dn soI q cs hs r pick (16-s.2.length) s.1:=by
 obtain ⟨f,hf⟩:∃f,16-s.2.length=f+1:=⟨15-s.2.length,by omega⟩
 rw [hf,show Dn soI q cs hs r pick (f+1) s.1=(match MK q cs hs r s.1 with
  |none=>[]
  |some l=>l::Dn soI q cs hs r pick f (IN q cs s.1 (pick l))) from rfl]
 unfold MD;cases hE:MK q cs hs r s.1 with
 |none=>simp only [append_nil];rfl
 |some l=>
  simp only;by_cases h16:s.2.length+1=16
  ·rw [if_pos h16];obtain rfl:f=0:=by omega
   rfl
  ·rw [if_neg h16];simp only [Rd.fin,length_append,length_cons,length_nil,append_assoc,cons_append,nil_append];rw [show 16-(s.2.length+(0+1))=f by omega]
theorem VN {q:List Int} {cs:List AA} {bs0 bs:List AB} {hs:List AW} {r:Rqt} {B:List Int} (h:In ⟨q,cs,bs0,hs,r⟩) (hB:BSt q cs bs0 bs B):In ⟨q,cs,bs,hs,r⟩:=
 ⟨SI h.tab hB,h.req,h.ql,h.cl,h.hl⟩
theorem P6 {q:List Int} {cs:List AA} {bs:List AB} {hs:List AW} {r:Rqt} (h:In ⟨q,cs,bs,hs,r⟩) {l:List Hop} (hE:MK q cs hs r bs=some l):l≠[]∧(∀e∈l,0≤e.con∧e.con<cs.length)∧l.length≤1000:=by have hg:=MB h.tab h.req;obtain ⟨a,h1,hok⟩:=Su hg (fun x=>(Ef _).mem_iff) hE;refine ⟨hok.ne,fun e he=>Sn (hok.gap e he),?_⟩;have h2:l.length≤(soI (labels (gOf q cs bs hs r))).length:=hok.len;rw [(Ef _).length_eq] at h2;have h3:(labels (gOf q cs bs hs r)).length≤(Cj (gOf q cs bs hs r)).length:=Fg hg (Ek hg);have h4:=NU ⟨q,cs,bs,hs,r⟩ (UP h);have h5:(Cj (gOf q cs bs hs r)).length≤600:=h4;omega
theorem s31 (l:List Hop) (hl:l.length≤1000000):Al C 31 [.sl 4 (l.map Hop.enc)] [.sl 1 ((l.map (·.con)).map encI)]:=by
 refine Al.of (fun n=>e31 n _) ?_;refine Aj (fun (o:List Int)=>[Tree.sl 1 (o.map encI)]) l (fun i s=>(([.sref 0 s.length 0 s.length,.t (tI i)],[.row false s.length 1 (s.map encI)]):List AV×Heap)) (fun _ s x =>.next (s++[x.con])) (fun s=>s) (fun i s=>s.length=i∧i≤l.length) [] rfl (by simp) ?_
  (fun i s x hx hI=>Ev.of fun n again => ?_) (fun i s x s' hx hI h => ?_) (fun s hI=>Ev.of fun n again => ?_)
 ·rw [Bf];have:∀(l:List Hop) (s:List Int),l.foldl (fun s x=>s++[x.con]) s=s++l.map (·.con):=fun l=>by
   induction l with
   |nil=>intro s;simp
   |cons a l ih=>intro s;rw [foldl_cons,ih];simp
  exact (this l []).trans (nil_append _)
 ·have hi:=AJ hx;have b1:s.length+1≤1073741824:=by omega
  have t3:take s.length (s.map encI)=s.map encI:=take_of_length_le (by simp);simp only [vv,reduceCtorEq,reduceAdd,reduceEqDiff,zh0,zh1,zh2,zh3,zh4,zh5,zh6,zo0,zo1,hx,Hop.enc,AS (show i<4611686018427387904 by omega),(show (i:Int)<l.length by omega),b1,t3,le_refl,Rd.Ad,length_append,map_append,map_cons,map_nil,encI]
 ·have hi:=AJ hx;simp only [Rd.next.injEq] at h;subst h;simp only [length_append,length_cons,length_nil];omega
 ·have t3:take s.length (s.map encI)=s.map encI:=take_of_length_le (by simp);simp only [vv,reduceCtorEq,reduceAdd,reduceEqDiff,zh0,zh1,zh2,zh3,zh4,zh5,zh6,zo0,zo1,lt_irrefl,t3,le_refl]
theorem fn8 {q:List Int} {cs:List AA} {bs0:List AB} {hs:List AW} {r:Rqt} (hI:In ⟨q,cs,bs0,hs,r⟩) (h0:bs0.length≤30) :
  Ev fun n=>AI (fun p again=>UL n r.src r.dst r.size r.ready r.dead r.prio r.cust (fun p18=>UM n p18) 16 p again) n (ME q cs hs (bs0,[]))=some (Nh (Dn soI q cs hs r (fun l=>l.map (·.con)) 16 bs0)):=by
 refine GO Nh (ME q cs hs) (MD q cs hs r fun l=>l.map (·.con)) (fun s=>(∃B,BSt q cs bs0 s.1 B)∧s.2.length<16) (fun s=>16-s.2.length) (fun s=>s.2++Dn soI q cs hs r (fun l=>l.map (·.con)) (16-s.2.length) s.1) (bs0,[]) rfl
  ⟨⟨[],J2 (BY hI.tab).2.1⟩,by simp⟩ rfl (fun s hJ => ?_) (fun s s' hJ h => ?_) (fun s hJ=>fn_res q cs hs r _ s hJ.2)
 ·obtain ⟨⟨B,hB⟩,hlt⟩:=hJ;obtain ⟨bs,out⟩:=s;simp only at hB hlt;have hI':=VN hI hB;have h133:=s133 ⟨q,cs,bs,hs,r⟩ hI';have hEe:Cl (Tb.g ⟨q,cs,bs,hs,r⟩) (soI (labels (Tb.g ⟨q,cs,bs,hs,r⟩)))=MK q cs hs r bs:=rfl;rw [hEe] at h133;unfold MD;cases hE:MK q cs hs r bs with
  |none=>
   rw [hE] at h133;refine h133.mono fun n h again => ?_;simp only [Fi] at h;simp only [hE,Rd.Ap];cases out with
   |nil=>simp only [UL,WK,UM,ME,h,vv,reduceCtorEq,reduceAdd,reduceEqDiff,zh0,zh1,zh2,zh3,zh4,zh5,zh6,zo0,zo1,beq_self_eq_true,Nh,length_nil,lt_irrefl,Ea,map_nil,take_zero];rfl
   |cons o os=>
    have hp:(0:Int)<((o::os).length:Int):=by simp only [length_cons];omega
    have t1:take (o::os).length ((o::os).map rtE)=(o::os).map rtE:=take_of_length_le (by simp);rw [MF (by simp)];generalize o::os=out at hp t1;simp only [UL,WK,UM,ME,h,vv,reduceCtorEq,reduceAdd,reduceEqDiff,zh0,zh1,zh2,zh3,zh4,zh5,zh6,zo0,zo1,beq_self_eq_true,hp,Ea,t1]
  |some l=>
   obtain ⟨hne,hrng,hll⟩:=P6 hI' hE;rw [hE] at h133;have hks:∀k:Int,k∈l.map (·.con)→0≤k∧k<cs.length:=fun k hk=>by obtain ⟨e,he,rfl⟩:=mem_map.1 hk;exact hrng e he
   have h21:=s31 l (by omega);have h134:=s134 (hs:=hs) h0 hI.cl (l.map (·.con)) (by simp;omega) hks bs B hB hI'.tab;have t1:take out.length (out.map rtE)=out.map rtE:=take_of_length_le (by simp);have b1:out.length+1≤1073741824:=by omega
   refine (h133.and (h21.and h134)).mono fun n ⟨h,k1,k2⟩ again => ?_;simp only [Fi] at h;simp only [tR] at k2;simp only [hE];by_cases h16:out.length+1=16
   ·have h16':(((out.length+1:Nat):Int)==16)=true:=by rw [beq_iff_eq];omega
    rw [if_pos h16,Rd.Ap,MF (by simp)];have t2:take (out.length+1) (out.map rtE++[rtE l])=out.map rtE++[rtE l]:=take_of_length_le (by simp);simp only [rtE] at t2;simp only [UL,WK,UM,ME,h,k1,k2,vv,reduceCtorEq,reduceAdd,reduceEqDiff,zh0,zh1,zh2,zh3,zh4,zh5,zh6,zo0,zo1,Ea,t1,b1,h16',t2,rtE,le_refl,bne_self_eq_false,map_append,map_cons,map_nil];simp [t2,AE]
   ·have h16':(((out.length+1:Nat):Int)==16)=false:=beq_eq_false_iff_ne.2 (by omega);rw [if_neg h16,Rd.Ad];simp only [UL,WK,UM,ME,h,k1,k2,vv,reduceCtorEq,reduceAdd,reduceEqDiff,zh0,zh1,zh2,zh3,zh4,zh5,zh6,zo0,zo1,Ea,t1,b1,h16',rtE,le_refl,bne_self_eq_false,map_append,map_cons,map_nil,length_append,length_cons,length_nil,J5,(show ((0:Int)==18)=false from rfl),cons_append,nil_append]
 ·obtain ⟨⟨B,hB⟩,hlt⟩:=hJ;unfold MD at h;cases hE:MK q cs hs r s.1 with
  |none=>rw [hE] at h;cases h
  |some l=>
   rw [hE] at h;simp only at h;split at h
   ·cases h
   ·rename_i h16;cases h;have hI':=VN hI hB;obtain ⟨hne,hrng,hll⟩:=P6 hI' hE;obtain ⟨B2,hB2,_⟩:=J3 h0 hI.cl (l.map (·.con)) s.1 B hB fun k hk=>by obtain ⟨e,he,rfl⟩:=mem_map.1 hk;exact hrng e he
    refine ⟨⟨⟨B2,hB2⟩,?_⟩,?_⟩
    ·simp only [length_append,length_cons,length_nil];omega
    ·simp only [length_append,length_cons,length_nil];omega
end Ab
namespace Ab
open Go
def UpOk (p:Int→Prop):Int→List Lvl→Prop
 |_,[]=>True
 |V,x::l=>(x.val>V→p x.at_)∧UpOk p x.val l
theorem PH {f:AW→Int}:∀{l:List AW},0<Ca f l→∃h∈l,0<f h
 |[],h=>by simp [Ca] at h
 |a::l,h=>by
  simp only [Ca] at h;by_cases h1:0<f a
  ·exact ⟨a,mem_cons_self ..,h1⟩
  ·obtain ⟨b,b1,b2⟩:=PH (l:=l) (f:=f) (by omega);exact ⟨b,mem_cons_of_mem _ b1,b2⟩
theorem OP {l:List AW} (hs:GN l) (hlen:l.length≤10000) {node:Int} {es:List (Int×Int)} (hes:∀t,Cx es t=Ca (dzH node t) l):∀(ts:List Int) (lo s:Int),ts.Pairwise (· < ·)→(∀t∈ts,lo<t)→
  (∀h∈l,h.node=node→(h.frm≤lo∨h.frm∈ts)∧(h.to≤lo∨h.to∈ts))→s=stored l node lo→UpOk (fun t=>∃h∈l,h.node=node∧h.frm=t) s (Hg es ts s)
 |[],lo,s,_,_,_,_=>trivial
 |t::ts,lo,s,hp,hlo,hk,hS=>by
  have hp0:=hp;rw [pairwise_cons] at hp;have hlt:=hlo t (mem_cons_self ..);have hge:∀x∈t::ts,t≤x:=fun x hx=>by
   rcases mem_cons.1 hx with rfl|hx
   ·exact Int.le_refl _
   ·exact Int.le_of_lt (hp.1 x hx)
  have hnx:=SJ hs (node:=node) hlt fun h hh hn=>by obtain ⟨h1,h2⟩:=hk h hh hn;exact ⟨h1.imp id (hge _),h2.imp id (hge _)⟩
  have hk':∀h∈l,h.node=node→(h.frm≤t∨h.frm∈ts)∧(h.to≤t∨h.to∈ts):=fun h hh hn=>by
   obtain ⟨h1,h2⟩:=hk h hh hn;constructor
   ·rcases h1 with h1|h1
    ·exact .inl (by omega)
    ·rcases mem_cons.1 h1 with h1|h1
     ·exact .inl (by omega)
     ·exact .inr h1
   ·rcases h2 with h1|h1
    ·exact .inl (by omega)
    ·rcases mem_cons.1 h1 with h1|h1
     ·exact .inl (by omega)
     ·exact .inr h1
  unfold Hg;by_cases h0:Cx es t=0
  ·rw [if_pos h0];rw [← hes t] at hnx;exact OP hs hlen hes ts t s hp.2 hp.1 hk' (by omega)
  ·have hb:=Ic hs node t;have hb2:=Ic hs node lo;have hw:w64 (s+Cx es t)=stored l node t:=by rw [← hes t] at hnx;rw [w64,G2]<;>omega
   rw [if_neg h0];refine ⟨fun hgt => ?_,OP hs hlen hes ts t _ hp.2 hp.1 hk' hw⟩;simp only at hgt;rw [hw] at hgt;obtain ⟨h,h1,h2⟩:=PH (f:=dzH node t) (l:=l) (by omega);refine ⟨h,h1,?_⟩;have hz:=hs h h1;unfold dzH at h2;grind
theorem Tj {l:List AW} (hs:GN l) (hlen:l.length≤10000) (node:Int):UpOk (fun t=>∃h∈l,h.node=node∧h.frm=t) 0 (levels l node):=by
 obtain ⟨k1,k2⟩:=KO (l:=l) node;have h0:∀t∈Ba ((J0 node l).map (·.1)),-1<t:=fun t ht=>by obtain ⟨h,h1,h2,h3⟩:=(k2 t).1 ht;have:=hs h h1;omega
 exact OP hs hlen (NT hs hlen node) (Ba ((J0 node l).map (·.1))) (-1) 0 k1 h0
  (fun h hh hn=>⟨.inr ((k2 _).2 ⟨h,hh,hn,.inl rfl⟩),.inr ((k2 _).2 ⟨h,hh,hn,.inr rfl⟩)⟩) (UZ hs (by omega)).symm
theorem NG {Q size:Int}:∀(ls:List Lvl) (s:List Span×Int),(∀x∈ls,1099511627776≤x.at_)→ls.foldl (BV Q size) s=s
 |[],s,_=>rfl
 |x::ls,s,h=>by have:=h x (mem_cons_self ..);rw [foldl_cons,BV,if_neg (by omega)];exact NG ls s fun y hy=>h y (mem_cons_of_mem _ hy)
theorem Fz {Q size:Int} {p:Int→Prop}:∀(ls:List Lvl) (s:List Span×Int) (V:Int),RFull Q size s V→(0≤V∨True)→ls.Pairwise (fun x y=>x.at_<y.at_)→(∀x∈ls,0≤x.at_)→UpOk p V ls→(∀x∈s.1,p x.to∨x.to=1099511627776)→
  ∀x∈(Bg (ls.foldl (BV Q size) s) 1099511627776).1,p x.to∨x.to=1099511627776
 |[],s,V,_,_,_,_,_,hs=>fun x hx=>by
  rw [List.foldl_nil] at hx;unfold Bg at hx;simp only at hx;split at hx
  ·rcases mem_append.1 hx with hx|hx
   ·exact hs x hx
   ·cases mem_singleton.1 hx;exact .inr rfl
  ·exact hs x hx
 |y::ls,s,V,hf,_,hp,h0,hu,hs=>by
  rw [pairwise_cons] at hp;have hy0:=h0 y (mem_cons_self ..);by_cases hM:y.at_<1099511627776
  ·rw [foldl_cons,BV,if_pos hM];unfold C8;by_cases hq:Q-y.val<size
   ·rw [if_pos hq];refine Fz ls _ y.val (.inl ⟨hq,rfl⟩) (.inr trivial) hp.2 (fun x hx=>h0 x (mem_cons_of_mem _ hx)) hu.2 fun x hx => ?_;unfold Bg at hx;simp only at hx;split at hx
    ·rename_i hc;rcases mem_append.1 hx with hx|hx
     ·exact hs x hx
     ·cases mem_singleton.1 hx;refine .inl (hu.1 ?_);rcases hf with hf|hf
      ·omega
      ·omega
    ·exact hs x hx
   ·rw [if_neg hq];by_cases hs0:s.2<0
    ·rw [if_pos hs0];exact Fz ls _ y.val (.inr ⟨hq,hy0⟩) (.inr trivial) hp.2 (fun x hx=>h0 x (mem_cons_of_mem _ hx)) hu.2 hs
    ·rw [if_neg hs0];exact Fz ls _ y.val (.inr ⟨hq,by omega⟩) (.inr trivial) hp.2 (fun x hx=>h0 x (mem_cons_of_mem _ hx)) hu.2 hs
  ·rw [NG (y::ls) s fun x hx=>by
    rcases mem_cons.1 hx with rfl|hx
    ·omega
    ·have:=hp.1 x hx;omega]
   intro x hx;unfold Bg at hx;simp only at hx;split at hx
   ·rcases mem_append.1 hx with hx|hx
    ·exact hs x hx
    ·cases mem_singleton.1 hx;exact .inr rfl
   ·exact hs x hx
theorem Uq {Q size:Int} {hs:List AW} (hh:GN hs) (hl:hs.length≤10000) (n:Int):∀x∈Au Q size (levels hs n),(∃h∈hs,h.node=n∧h.frm=x.to)∨x.to=1099511627776:=by
 have hs':=E5 hh hl n;unfold Au;refine Fz _ _ 0 ?_ (.inr trivial) hs'.2 (fun x hx=>(hs'.1 x hx).2.1) (Tj hh hl n) ?_
 ·unfold C8 RFull Bg;split
  ·rename_i h;exact .inl ⟨h,rfl⟩
  ·rename_i h;refine .inr ⟨h,?_⟩;simp
 ·unfold C8 Bg;intro x hx;split at hx
  ·simp at hx
  ·split at hx<;>simp at hx
theorem asc_to {l:List Span} {t:Int} (h:Asc l t):(l.map (·.to)).Nodup:=by rw [nodup_iff_pairwise_ne,pairwise_map];refine (List.Pairwise.and_mem.1 h.1).imp fun {a b} hab => ?_;have:=h.2 b hab.2.1;omega
theorem VH {q:List Int} {cs:List AA} {bs:List AB} {hs:List AW} {r:Rqt} (hh:Hw q hs=0) (hl:hs.length≤10000):(Cj (gOf q cs bs hs r)).length≤q.length+hs.length:=by
 have hrm:(gOf q cs bs hs r).Au=CM hs r.size 0 q:=rfl;have hN:(CM hs r.size 0 q).length=q.length:=Du _ _ _ _;let K:List (Int×Int):=((List.range q.length).map fun n=>((CM hs r.size 0 q).getD n []).map fun x=>((n:Int),x.to)).flatten;have hK:(Cj (gOf q cs bs hs r)).length=K.length:=by unfold Cj;rw [hrm,hN];simp only [K,List.length_flatten,map_map];congr 1;apply map_congr_left;intro n _;simp
 have hnd:K.Nodup:=by
  rw [nodup_iff_pairwise_ne,List.pairwise_flatten];refine ⟨fun l hl' => ?_,?_⟩
  ·obtain ⟨n,hn,rfl⟩:=mem_map.1 hl';rw [pairwise_map];by_cases hc:n<(CM hs r.size 0 q).length
   ·have hm:(CM hs r.size 0 q).getD n []∈CM hs r.size 0 q:=by simp only [List.getD,getElem?_eq_getElem hc,Option.getD_some];exact getElem_mem hc
    have:=asc_to (Jg hh hl _ hm);rw [nodup_iff_pairwise_ne,pairwise_map] at this;exact this.imp fun hab e=>hab (by injection e)
   ·simp only [List.getD,getElem?_eq_none (not_lt.1 hc),getD_none];exact List.Pairwise.nil
  ·rw [pairwise_map];refine List.pairwise_lt_range.imp fun {a b} hab x hx y hy e => ?_;obtain ⟨u,_,rfl⟩:=mem_map.1 hx;obtain ⟨v,_,rfl⟩:=mem_map.1 hy;injection e with e1 _;omega
 have:=Fe hnd (b:=((List.range q.length).map fun n:Nat=>((n:Int),(1099511627776:Int)))++hs.map fun h=>(h.node,h.frm)) fun x hx=>by
  obtain ⟨l,h1,h2⟩:=mem_flatten.1 hx;obtain ⟨n,hn,rfl⟩:=mem_map.1 h1;obtain ⟨y,hy,rfl⟩:=mem_map.1 h2;have hn':n<q.length:=mem_range.1 hn;rw [PX hs r.size q n hn'] at hy;rcases Uq (Kg hh) hl (n:Nat) y hy with ⟨h,g1,g2,g3⟩|h
  ·exact mem_append_right _ (mem_map.2 ⟨h,g1,by rw [g2,g3]⟩)
  ·exact mem_append_left _ (mem_map.2 ⟨n,hn,by rw [h]⟩)
 rw [hK];simpa using this
theorem RQ {q:List Int} {cs:List AA} {bs:List AB} {hs:List AW} {r:Rqt} (ht:Bn q cs bs hs=0) (hr:CG q cs r=0):(labels (gOf q cs bs hs r)).length≤q.length+hs.length:=by obtain ⟨_,_,h3⟩:=BY ht;obtain ⟨_,h4,h5⟩:=Ez h3;exact le_trans (Fg (MB ht hr) (Ek (MB ht hr))) (VH h5 (by omega))
def Apt (a b:AB):Prop:=a.contact=b.contact→a.stop≤b.beg∨b.stop≤a.beg
theorem Apt.symm {a b:AB} (h:Apt a b):Apt b a:=fun e=>(h e.symm).symm
theorem Mn {q:List Int} {cs:List AA} (hp:Ac q cs=0):∀(l cur:List AB),Dl cs cur→cur.length+l.length≤512→(∀b∈l,B6 cs b=true∧∀x∈cur,Apt b x)→l.Pairwise Apt→∃out,Bs q cs cur l=some out∧As q cs out=0
 |[],cur,h,hl,_,_=>⟨cur,rfl,F8 hp (by simpa using hl) h⟩
 |b::l,cur,h,hl,hv,hpw=>by
  rw [pairwise_cons] at hpw;rw [length_cons] at hl;obtain ⟨v1,v2⟩:=hv b (mem_cons_self ..);have ho:ovl cur b=false:=by unfold ovl;rw [any_eq_false];intro x hx;have:=v2 x hx;unfold Apt at this;simp only [decide_eq_true_eq];intro hc;have:=this hc.1.symm;omega
  have ha:Fs q cs cur b=0:=by unfold Fs;rw [if_neg (by rw [F8 hp (by omega) h];simp),if_neg (by rw [v1];simp),if_neg (by omega),if_neg (by rw [ho];simp)]
  have hL:Hk q cs cur b=FQ cur b:=by unfold Hk;rw [if_pos ha]
  unfold Bs;rw [if_neg (by omega),hL];refine Mn hp l _ (VK h v1 ho) (by rw [FQ,I5];omega) (fun x hx => ?_) hpw.2;obtain ⟨w1,w2⟩:=hv x (mem_cons_of_mem _ hx);refine ⟨w1,fun y hy => ?_⟩;rcases (Fh _ b cur y).1 hy with rfl|hy
  ·exact (hpw.1 x hx).symm
  ·exact w2 y hy
structure K9 (cs:List AA) (bs0:List AB) (h:Hop):Prop where
 con:0≤h.con∧h.con<cs.length
 tim:∀c,cs[h.con.toNat]? = some c→c.start≤h.beg∧h.beg<h.stop∧h.stop≤c.stop
 free:∀x∈bs0,x.contact=h.con→h.stop≤x.beg∨x.stop≤h.beg
theorem VP {q:List Int} {cs:List AA} {bs0 bs:List AB} {hs:List AW} {r:Rqt} {B:List Int} (ht:Bn q cs bs hs=0) (hr:CG q cs r=0) (hB:BSt q cs bs0 bs B) {h:Hop} (hg:KC (gOf q cs bs hs r) h):h.con∉B∧K9 cs bs0 h:=by
 have hn:=VT hB hg;refine ⟨hn,?_⟩;have hr':=CV hr;obtain ⟨k,c,fr,h1,h2,h3,h4,h5⟩:=hg;have hc:cs[k]? = some c:=h1;have hcc:=(DQ hr'.1 c (mem_of_getElem? hc)).1;have hdp:=P7 hcc (n:=r.size) (by omega);have hrow:=Fm (C6 (BY ht).2.1).2.2 (k:=(k:Int)) (c:=c) (by rw [toNat_natCast];exact hc) hcc;rw [(Kn hc).1,(Kn hc).2] at h3;rw [(Kn hc).2] at h4;obtain ⟨e1,e2,e3,e4⟩:=VO hrow (Int.le_refl _) h3 hdp;have hk:k<cs.length:=AJ hc;refine ⟨by omega,fun c' hc' => ?_,fun x hx hxc => ?_⟩
 ·rw [h2,toNat_natCast,hc] at hc';cases hc';omega
 ·have hb:=JH (k:=h.con) hx hxc;rw [← hB.oth _ hn,h2] at hb;have:=e4 _ hb;simp only at this;omega
structure DisOk (cs:List AA) (bs0:List AB) (B:List Int) (L:Nat) (rs:List (List Hop)):Prop where
 hop:∀rt∈rs,rt≠[]∧rt.length≤L∧(∀h∈rt,h.con∉B∧K9 cs bs0 h)∧rt.Pairwise fun x y=>x.stop≤y.beg
 apart:rs.Pairwise fun a b=>∀x∈a,∀y∈b,x.con≠y.con
 len:rs.length+B.length≤cs.length
theorem Rg {so:List Lab→List Lab} (hso:∀l,(so l).Perm l) {q:List Int} {cs:List AA} {bs0:List AB} {hs:List AW} {r:Rqt} (ht:Bn q cs bs0 hs=0) (hr:CG q cs r=0) (h0:bs0.length≤30) (hcs:cs.length≤10) :
  ∀(f:Nat) (bs:List AB) (B:List Int),BSt q cs bs0 bs B→DisOk cs bs0 B (q.length+hs.length) (Dn so q cs hs r (fun l=>l.map (·.con)) f bs)
 |0,bs,B,hB=>⟨fun rt h=>by simp [Dn] at h,by simp [Dn],by simpa [Dn] using nodup_range hB.nd hB.rng⟩
 |f+1,bs,B,hB=>by
  have ht':=SI ht hB;have hg:=MB ht' hr;unfold Dn;cases hE:Cl (gOf q cs bs hs r) (so (labels (gOf q cs bs hs r))) with
  |none=>exact ⟨fun rt h=>by simp at h,by simp,by simpa using nodup_range hB.nd hB.rng⟩
  |some rt=>
   obtain ⟨a,h1,hok⟩:=Su hg (fun x=>(hso _).mem_iff) hE;simp only;obtain ⟨B',hB',hB2⟩:=J3 h0 hcs (rt.map (·.con)) bs B hB fun k hk=>by obtain ⟨h,h2,rfl⟩:=mem_map.1 hk;exact Sn (hok.gap h h2)
   have ih:=Rg hso ht hr h0 hcs f _ B' hB';have El:∀h∈rt,h.con∉B∧K9 cs bs0 h:=fun h hh=>VP ht' hr hB (hok.gap h hh);refine ⟨fun e he => ?_,?_,?_⟩
   ·rcases mem_cons.1 he with rfl|he
    ·refine ⟨hok.ne,?_,El,?_⟩
     ·have:=hok.len;rw [(hso _).length_eq] at this;exact le_trans this (RQ ht' hr)
     ·refine (List.Pairwise.and_mem.1 hok.ord).imp fun {x y} hxy => ?_;obtain ⟨k,c,fr,e1,e2,e3,e4,e5⟩:=hok.gap x hxy.1;have hc:cs[k]? = some c:=e1;have:=B0 (DQ (CV hr).1 c (mem_of_getElem? hc)).1;omega
    ·obtain ⟨i1,i2,i3,i4⟩:=ih.hop e he;exact ⟨i1,i2,fun h hh=>⟨fun hm=>(i3 h hh).1 ((hB2 _).2 (.inl hm)),(i3 h hh).2⟩,i4⟩
   ·rw [pairwise_cons];refine ⟨fun e he x hx y hy hxy => ?_,ih.apart⟩;exact ((ih.hop e he).2.2.1 y hy).1 ((hB2 _).2 (.inr (mem_map.2 ⟨x,hx,hxy⟩)))
   ·have hl:=ih.len;obtain ⟨x,hx⟩:∃x,x∈rt:=by
     cases rt with
     |nil=>exact (hok.ne rfl).elim
     |cons x l=>exact ⟨x,mem_cons_self ..⟩
    have:=Fe (a:=x.con::B) (b:=B') (nodup_cons.2 ⟨(El x hx).1,hB.nd⟩) fun k hk=>by
     rcases mem_cons.1 hk with rfl|hk
     ·exact (hB2 _).2 (.inr (mem_map.2 ⟨x,hx,rfl⟩))
     ·exact (hB2 _).2 (.inl hk)
    simp only [length_cons] at this ⊢;omega
def Hh (sb:List AB→List AB):Nat→List (List Hop)→List AB
 |_,[]=>[]
 |i,rt::rs=>sb (rt.map (GA ((i:Int)+1)))++Hh sb (i+1) rs
theorem MM {sb:List AB→List AB} (hsb:∀l,(sb l).Perm l) {b:AB}:∀{rs:List (List Hop)} {i:Nat},b∈Hh sb i rs→∃rt∈rs,∃h∈rt,∃j:Nat,j<i+rs.length∧b=GA ((j:Int)+1) h
 |[],i,h=>by simp [Hh] at h
 |rt::rs,i,h=>by
  unfold Hh at h;rcases mem_append.1 h with h|h
  ·obtain ⟨x,h1,h2⟩:=mem_map.1 ((hsb _).mem_iff.1 h);exact ⟨rt,mem_cons_self ..,x,h1,i,by simp,h2.symm⟩
  ·obtain ⟨e,h1,x,h2,j,h3,h4⟩:=MM hsb h;exact ⟨e,mem_cons_of_mem _ h1,x,h2,j,by simp only [length_cons];omega,h4⟩
theorem P8 {sb:List AB→List AB} (hsb:∀l,(sb l).Perm l) {L:Nat}:∀{rs:List (List Hop)} {i:Nat},(∀rt∈rs,rt.length≤L)→(Hh sb i rs).length≤rs.length*L
 |[],i,_=>by simp [Hh]
 |rt::rs,i,h=>by unfold Hh;have h1:=h rt (mem_cons_self ..);have h2:=P8 hsb (i:=i+1) (rs:=rs) fun e he=>h e (mem_cons_of_mem _ he);rw [length_append,(hsb _).length_eq,length_map,length_cons,succ_mul];omega
theorem Sw {sb:List AB→List AB} (hsb:∀l,(sb l).Perm l):∀{rs:List (List Hop)} {i:Nat},(∀rt∈rs,rt.Pairwise fun x y=>x.stop≤y.beg)→rs.Pairwise (fun a b=>∀x∈a,∀y∈b,x.con≠y.con)→(Hh sb i rs).Pairwise Apt
 |[],i,_,_=>by simp [Hh]
 |rt::rs,i,h,hp=>by
  rw [pairwise_cons] at hp;unfold Hh;rw [pairwise_append];refine ⟨?_,Sw hsb (fun e he=>h e (mem_cons_of_mem _ he)) hp.2,fun a ha b hb hc => ?_⟩
  ·refine ((hsb _).pairwise_iff fun {a b} hab=>Apt.symm hab).2 ?_;rw [pairwise_map];exact (h rt (mem_cons_self ..)).imp fun hab _ =>.inl hab
  ·obtain ⟨x,h1,rfl⟩:=mem_map.1 ((hsb _).mem_iff.1 ha);obtain ⟨e,h2,y,h3,j,_,rfl⟩:=MM hsb hb;exact (hp.1 e h2 x h1 y h3 hc).elim
theorem dis_all {so:List Lab→List Lab} (hso:∀l,(so l).Perm l) {sb:List AB→List AB} (hsb:∀l,(sb l).Perm l) {q:List Int} {cs:List AA} {bs:List AB} {hs:List AW} {r:Rqt} (ht:Bn q cs bs hs=0) (hr:CG q cs r=0) (hq:q.length≤6) (hcs:cs.length≤10) (h0:bs.length≤30) (hh:hs.length≤30) {rs:List (List Hop)} (hrs:rs.Perm (Dn so q cs hs r (fun l=>l.map (·.con)) 16 bs)) :
  ∃out,Bs q cs bs (Hh sb 0 rs)=some out∧As q cs out=0:=by
 have hd:=Rg hso ht hr h0 hcs 16 bs [] (J2 (BY ht).2.1);have hop:∀rt∈rs,rt≠[]∧rt.length≤q.length+hs.length∧(∀h∈rt,h.con∉([]:List Int)∧K9 cs bs h)∧rt.Pairwise fun x y=>x.stop≤y.beg:=fun rt hrt=>hd.hop rt (hrs.mem_iff.1 hrt);have hlen:rs.length≤10:=by have:=hd.len;rw [hrs.length_eq];simp only [length_nil] at this;omega
 have hp:=(hrs.pairwise_iff (R:=fun a b:List Hop=>∀x∈a,∀y∈b,x.con≠y.con) fun {a b} hab x hx y hy e=>hab y hy x hx e.symm).2 hd.apart;have hl:=P8 hsb (i:=0) fun rt hrt=>(hop rt hrt).2.1;have hmul:rs.length*(q.length+hs.length)≤10*36:=mul_le_mul hlen (by omega);refine Mn (BY ht).1 _ _ (C6 (BY ht).2.1).2.2 (by omega) (fun b hb => ?_) (Sw hsb (fun rt hrt=>(hop rt hrt).2.2.2) hp);obtain ⟨rt,h1,h,h2,j,h3,rfl⟩:=MM hsb hb;obtain ⟨_,hf⟩:=(hop rt h1).2.2.1 h h2;refine ⟨?_,fun x hx hc=>hf.free x hx hc.symm⟩;have hcn:h.con.toNat<cs.length:=by have:=hf.con;omega
 have ht2:=hf.tim _ (getElem?_eq_getElem hcn);have hcon:=hf.con;unfold B6 GA;simp only;rw [if_neg (by omega),getElem?_eq_getElem hcn];simp only [decide_eq_true_eq];omega
end Ab
namespace Ab
open Go
theorem Un (es:List (List Tree)) (hl:es.length≤1073741824):Al C 1000009 [.sl 1 es] [.sl 1 es]:=by
 refine Al.of (fun n=>VX n _) (Ev.of fun n => ?_);by_cases h:es.length=0
 ·have:es=[]:=eq_nil_of_length_eq_zero h;subst this;simp [AE,J5]
 ·rw [C4 h,C4 hl,take_of_length_le (le_refl _)]
def inZ (z:List AV×Heap→Option (List Tree)) (i:Nat) (hp:Heap):Option (List AB)→Option (List Tree)
 |none=>some [.bool false]
 |some c=>z ([.t (.sl 4 (c.map AB.enc)),.t (tI ((i+1:Nat):Int))],hp)
theorem Gy (q:List Int) (cs:List AA):∀(l:List AB) (i:Nat) (cur:List AB),BJ (fun _ cur b=>if Fs q cs cur b≠0 then .done none else .next (Hk q cs cur b)) some i l cur=Bs q cs cur l
 |[],i,cur=>rfl
 |b::l,i,cur=>by
  unfold BJ Bs;by_cases hc:Fs q cs cur b≠0
  ·simp only [if_pos hc]
  ·simp only [if_neg hc];exact Gy q cs l (i+1) _
theorem Mm (q:List Int) (cs:List AA):∀(l l':List AB) (cur:List AB),Bs q cs cur (l++l')=(Bs q cs cur l).bind fun c=>Bs q cs c l'
 |[],l',cur=>rfl
 |b::l,l',cur=>by
  have ih:=Mm q cs l l' (Hk q cs cur b);rw [cons_append,show Bs q cs cur (b::l)=if Fs q cs cur b≠0 then none else Bs q cs (Hk q cs cur b) l from rfl,show Bs q cs cur (b::(l++l'))=if Fs q cs cur b≠0 then none else Bs q cs (Hk q cs cur b) (l++l') from rfl];by_cases hc:Fs q cs cur b≠0
  ·rw [if_pos hc,if_pos hc];rfl
  ·rw [if_neg hc,if_neg hc];exact ih
noncomputable def FD (q:List Int) (cs:List AA) (i:Nat) (c:List AB) (rt:List Hop):Rd (List AB) (Option (List AB)):=match Bs q cs c (sbI (rt.map (GA ((i:Int)+1)))) with
 |none =>.done none
 |some c' =>.next c'
def Kb (q:List Int) (cs:List AA):Option (List AB)→List Tree
 |none=>[.bool false]
 |some c=>[.bool (if As q cs c=0 then true else false)]
theorem Ob (q:List Int) (cs:List AA):∀(rs:List (List Hop)) (i:Nat) (cur:List AB),BJ (FD q cs) some i rs cur=Bs q cs cur (Hh sbI i rs)
 |[],i,cur=>rfl
 |rt::rs,i,cur=>by
  rw [show Hh sbI i (rt::rs)=sbI (rt.map (GA ((i:Int)+1)))++Hh sbI (i+1) rs from rfl,Mm];unfold BJ FD;cases h:Bs q cs cur (sbI (rt.map (GA ((i:Int)+1)))) with
  |none=>rfl
  |some c=>exact Ob q cs rs (i+1) c
theorem in5 (q:List Int) (cs:List AA) (l:List AB) (hl:l.length≤1000000) (i:Nat) (hi:i≤100000) (cur0:List AB) :
  Ev fun n=>∀z,AI (fun p again=>WH n [.sl 4 (l.map AB.enc)] (q.map encI) (cs.map AA.enc) z ([.t (.sl 4 (cur0.map AB.enc)),.t (tI i)],[]) p again) n ([.t (.sl 4 (cur0.map AB.enc)),.t (tI (0:Nat))],[])=inZ z i [] (Bs q cs cur0 l):=by
 refine A3 l (fun j c=>(([.t (.sl 4 (c.map AB.enc)),.t (tI j)],[]):List AV×Heap)) (fun _ c b=>if Fs q cs c b≠0 then .done none else .next (Hk q cs c b)) some (fun (z:List AV×Heap→Option (List Tree)) o=>inZ z i [] o) (fun _ _=>True) cur0 rfl trivial (Gy q cs l 0 cur0)
  (fun j c b hx hI => ?_) (fun _ _ _ _ _ _ _=>trivial) (fun c hI=>Ev.of fun n z again => ?_)
 ·have hj:=AJ hx;refine (s12 q cs c b).mono fun n k z again => ?_;by_cases hc:Fs q cs c b=0
  ·simp only [WH,vv,reduceCtorEq,reduceAdd,reduceEqDiff,zh0,zh1,zh2,zh3,zh4,zh5,zh6,zo0,zo1,hx,AB.enc,k,hc,AS (show j<4611686018427387904 by omega),(show (j:Int)<l.length by omega),ne_eq,not_true_eq_false,Rd.Ad,bne_self_eq_false]
  ·simp only [WH,vv,reduceCtorEq,reduceAdd,reduceEqDiff,zh0,zh1,zh2,zh3,zh4,zh5,zh6,zo0,zo1,hx,AB.enc,k,bne_iff_ne.2 hc,hc,(show (j:Int)<l.length by omega),ne_eq,not_false_eq_true,Rd.Ap,inZ]
 ·simp only [WH,vv,reduceCtorEq,reduceAdd,reduceEqDiff,zh0,zh1,zh2,zh3,zh4,zh5,zh6,zo0,zo1,lt_irrefl,inZ,AS (show i<4611686018427387904 by omega)]
theorem ou6 (q:List Int) (cs:List AA) (rs:List (List Hop)) (hrs:rs.length≤1000) (hok:∀rt∈rs,rt.length≤39) (y:Tree) (bs:List AB) :
  Ev fun n=>AI (fun p again=>WG n [.sl 1 (rs.map rtE),y] (q.map encI) (cs.map AA.enc) p again) n ([.t (.sl 4 (bs.map AB.enc)),.t (tI (0:Nat))],[])=some (Kb q cs (Bs q cs bs (Hh sbI 0 rs))):=by
 refine Aj (Kb q cs) rs (fun i c=>(([.t (.sl 4 (c.map AB.enc)),.t (tI i)],[]):List AV×Heap)) (FD q cs) some (fun i _=>i≤rs.length) bs rfl (zero_le _) (Ob q cs rs 0 bs)
  (fun i c rt hx hI => ?_) (fun i c rt s' hx hI h=>AJ hx) (fun c hI => ?_)
 ·have hi:=AJ hx;have hx':(rs.map rtE)[i]? = some (rtE rt):=by rw [getElem?_map,hx];rfl
  have hl:=hok rt (mem_of_getElem? hx);have h11:=s11 rt hl ((i:Int)+1);have hbl:(sbI (rt.map (GA ((i:Int)+1)))).length≤1000000:=by rw [(GS _).length_eq,length_map];omega
  have hin:=in5 q cs (sbI (rt.map (GA ((i:Int)+1)))) hbl i (by omega) c;have hw:w64 ((i:Int)+1)=(i:Int)+1:=A6 (by omega) (by omega);refine (h11.and hin).mono fun n ⟨h1,h2⟩ again => ?_;have hd:(FD q cs i c rt).go (fun s'=>again ([.t (.sl 4 (s'.map AB.enc)),.t (tI ((i+1:Nat):Int))],[])) (fun q_1=>some (Kb q cs q_1))=inZ again i [] (Bs q cs c (sbI (rt.map (GA ((i:Int)+1))))):=by unfold FD;cases Bs q cs c (sbI (rt.map (GA ((i:Int)+1))))<;>rfl
  refine Eq.trans ?_ ((h2 again).trans hd.symm);simp only [WG,vv,reduceCtorEq,reduceAdd,reduceEqDiff,zh0,zh1,zh2,zh3,zh4,zh5,zh6,zo0,zo1,hx',rtE,h1,hw,(show (i:Int)<rs.length by omega)];rfl
 ·refine (s13 q cs c).mono fun n h again => ?_;by_cases hb:As q cs c=0
  ·simp only [WG,vv,reduceCtorEq,reduceAdd,reduceEqDiff,zh0,zh1,zh2,zh3,zh4,zh5,zh6,zo0,zo1,lt_irrefl,h,hb,Kb,beq_self_eq_true,if_true]
  ·simp only [WG,vv,reduceCtorEq,reduceAdd,reduceEqDiff,zh0,zh1,zh2,zh3,zh4,zh5,zh6,zo0,zo1,lt_irrefl,h,Kb,hb,beq_eq_false_iff_ne.2 hb,if_false]
theorem in2 (q:List Int) (cs:List AA) (l:List AB) (hl:l.length≤1000000) (i:Nat) (hi:i≤100000) (cur0:List AB) (es:List (List Hop)) :
  Ev fun n=>∀z,AI (fun p again=>WJ n [.sl 4 (l.map AB.enc)] (q.map encI) (cs.map AA.enc) z ([.t (.sl 4 (cur0.map AB.enc)),.t (tI i)],[.row false 0 1 (es.map rtE)]) p again) n ([.t (.sl 4 (cur0.map AB.enc)),.t (tI (0:Nat))],[.row false 0 1 (es.map rtE)])=inZ z i [.row false 0 1 (es.map rtE)] (Bs q cs cur0 l):=by
 refine A3 l (fun j c=>(([.t (.sl 4 (c.map AB.enc)),.t (tI j)],[.row false 0 1 (es.map rtE)]):List AV×Heap)) (fun _ c b=>if Fs q cs c b≠0 then .done none else .next (Hk q cs c b)) some (fun (z:List AV×Heap→Option (List Tree)) o=>inZ z i [.row false 0 1 (es.map rtE)] o) (fun _ _=>True) cur0 rfl trivial (Gy q cs l 0 cur0)
  (fun j c b hx hI => ?_) (fun _ _ _ _ _ _ _=>trivial) (fun c hI=>Ev.of fun n z again => ?_)
 ·have hj:=AJ hx;refine (s12 q cs c b).mono fun n k z again => ?_;by_cases hc:Fs q cs c b=0
  ·simp only [WJ,vv,reduceCtorEq,reduceAdd,reduceEqDiff,zh0,zh1,zh2,zh3,zh4,zh5,zh6,zo0,zo1,hx,AB.enc,k,hc,AS (show j<4611686018427387904 by omega),(show (j:Int)<l.length by omega),ne_eq,not_true_eq_false,Rd.Ad,bne_self_eq_false]
  ·simp only [WJ,vv,reduceCtorEq,reduceAdd,reduceEqDiff,zh0,zh1,zh2,zh3,zh4,zh5,zh6,zo0,zo1,hx,AB.enc,k,bne_iff_ne.2 hc,hc,(show (j:Int)<l.length by omega),ne_eq,not_false_eq_true,Rd.Ap,inZ]
 ·simp only [WJ,vv,reduceCtorEq,reduceAdd,reduceEqDiff,zh0,zh1,zh2,zh3,zh4,zh5,zh6,zo0,zo1,lt_irrefl,inZ,AS (show i<4611686018427387904 by omega)]
theorem ou3 (q:List Int) (cs:List AA) (rs:List (List Hop)) (hrs:rs.length≤1000) (hok:∀rt∈rs,rt.length≤39) (bs:List AB) (ys:List Tree) (hys:(gL ys 0).length=rs.length) :
  Ev fun n=>AI (fun p again=>WI n ys (q.map encI) (cs.map AA.enc) p again) n ([.t (.sl 4 (bs.map AB.enc)),.t (tI (0:Nat))],[.row false 0 1 (rs.map rtE)])=some (Kb q cs (Bs q cs bs (Hh sbI 0 rs))):=by
 refine Aj (Kb q cs) rs (fun i c=>(([.t (.sl 4 (c.map AB.enc)),.t (tI i)],[.row false 0 1 (rs.map rtE)]):List AV×Heap)) (FD q cs) some (fun i _=>i≤rs.length) bs rfl (zero_le _) (Ob q cs rs 0 bs)
  (fun i c rt hx hI => ?_) (fun i c rt s' hx hI h=>AJ hx) (fun c hI => ?_)
 ·have hi:=AJ hx;have hx':(rs.map rtE)[i]? = some (rtE rt):=by rw [getElem?_map,hx];rfl
  have hl:=hok rt (mem_of_getElem? hx);have h11:=s11 rt hl ((i:Int)+1);have hbl:(sbI (rt.map (GA ((i:Int)+1)))).length≤1000000:=by rw [(GS _).length_eq,length_map];omega
  have hin:=in2 q cs (sbI (rt.map (GA ((i:Int)+1)))) hbl i (by omega) c rs;have hw:w64 ((i:Int)+1)=(i:Int)+1:=A6 (by omega) (by omega);refine (h11.and hin).mono fun n ⟨h1,h2⟩ again => ?_;have hd:(FD q cs i c rt).go (fun s'=>again ([.t (.sl 4 (s'.map AB.enc)),.t (tI ((i+1:Nat):Int))],[.row false 0 1 (rs.map rtE)])) (fun q_1=>some (Kb q cs q_1))=inZ again i [.row false 0 1 (rs.map rtE)] (Bs q cs c (sbI (rt.map (GA ((i:Int)+1))))):=by unfold FD;cases Bs q cs c (sbI (rt.map (GA ((i:Int)+1))))<;>rfl
  refine Eq.trans ?_ ((h2 again).trans hd.symm);simp only [WI,vv,reduceCtorEq,reduceAdd,reduceEqDiff,zh0,zh1,zh2,zh3,zh4,zh5,zh6,zo0,zo1,hys,hx',rtE,h1,hw,(show (i:Int)<rs.length by omega)];rfl
 ·refine (s13 q cs c).mono fun n h again => ?_;by_cases hb:As q cs c=0
  ·simp only [WI,vv,reduceCtorEq,reduceAdd,reduceEqDiff,zh0,zh1,zh2,zh3,zh4,zh5,zh6,zo0,zo1,hys,lt_irrefl,h,hb,Kb,beq_self_eq_true,if_true]
  ·simp only [WI,vv,reduceCtorEq,reduceAdd,reduceEqDiff,zh0,zh1,zh2,zh3,zh4,zh5,zh6,zo0,zo1,hys,lt_irrefl,h,Kb,hb,beq_eq_false_iff_ne.2 hb,if_false]
def PV (rs:List (List Hop)) (s:Nat×List (List Hop)):List AV×Heap:=([.t (tI s.1),.t (tI ((rs.length:Int)-1-s.1))],[.row false 0 1 (s.2.map rtE)])
theorem rv3 (rs:List (List Hop)) (ys:List Tree) (hys:(gL ys 0).length=rs.length) (hl:rs.length≤10000) :
  Ev fun n=>∀z,AI (fun p again=>L3_1 n ys z p again) n (PV rs (0,rs))=z ([],[.row false 0 1 (rs.reverse.map rtE)]):=by
 refine EA (fun (z:List AV×Heap→Option (List Tree)) (l:List (List Hop))=>z ([],[.row false 0 1 (l.map rtE)])) (PV rs) (GV rs.length) (RvI rs) (fun s=>rs.length-s.1) (fun _=>rs.reverse) (0,rs) rfl
  ⟨rfl,by simp,fun k hk=>by simp only [Nat.not_lt_zero,or_self,if_false]⟩ rfl
  (fun s hI=>Ev.of fun n z again => ?_) (fun s s' hI h => ?_) (fun s hI => ?_)
 ·have hlen:=hI.len;unfold GV;by_cases hc:s.1+s.1+1<rs.length
  ·rw [dif_pos ⟨hc,hlen.symm⟩];have hj:((rs.length:Int)-1-s.1)=((rs.length-1-s.1:Nat):Int):=by omega
   have h1:rs.length-1-s.1<s.2.length:=by omega
   have h2:s.1<s.2.length:=by omega
   have g1:s.2[rs.length-1-s.1]? = some s.2[rs.length-1-s.1]:=getElem?_eq_getElem h1;have g2:s.2[s.1]? = some s.2[s.1]:=getElem?_eq_getElem h2;have hw:w64 ((s.1:Int)+1)=((s.1+1:Nat):Int):=by rw [A6 (by omega) (by omega)];omega
   have hw2:w64 (((rs.length-1-s.1:Nat):Int)-1)=(rs.length:Int)-1-((s.1+1:Nat):Int):=by rw [A6 (by omega) (by omega)];omega
   have g3:((s.2.map rtE).set s.1 (rtE s.2[rs.length-1-s.1]))[rs.length-1-s.1]? = some (rtE s.2[rs.length-1-s.1]):=by rw [getElem?_set_ne (by omega),getElem?_map,g1];rfl
   generalize s.2[rs.length-1-s.1]=x at g1 g3;generalize s.2[s.1]=y at g2;simp only [rtE] at g3;rw [Rd.Ad];simp only [L3_1,PV,vv,reduceCtorEq,reduceAdd,reduceEqDiff,zh0,zh1,zh2,zh3,zh4,zh5,zh6,zo0,zo1,hj,hys,g1,g2,rtE,hw,hw2,(show (s.1:Int)<((rs.length-1-s.1:Nat):Int) by omega),(show ((rs.length-1-s.1:Nat):Int)<rs.length by omega),(show (s.1:Int)<rs.length by omega),le_refl,List.map_set,append_nil,drop_succ_cons,drop_zero,List.drop_nil,g3]
  ·rw [dif_neg fun h=>hc h.1,Rd.Ap];simp only [L3_1,PV,vv,reduceCtorEq,reduceAdd,reduceEqDiff,zh0,zh1,zh2,zh3,zh4,zh5,zh6,zo0,zo1,(show ¬(s.1:Int)<(rs.length:Int)-1-s.1 by omega)]
 ·unfold GV at h;split at h
  ·rename_i hc;cases h;exact ⟨SL hI hc.1 (by omega) (by omega),by simp only;omega⟩
  ·cases h
 ·unfold GV;split
  ·rfl
  ·rename_i hc;simp only [Rd.fin];exact (SM hI (fun h=>hc ⟨h,hI.len.symm⟩)).symm
theorem l3 (q:List Int) (cs:List AA) (bs:List AB) (hs:List AW) (r:Rqt) (turn:Bool) :
  Al C 3 [.sl 1 (q.map encI),.sl 7 (cs.map AA.enc),.sl 4 (bs.map AB.enc),.sl 5 (hs.map AW.enc),tI r.src,tI r.dst,tI r.size,tI r.ready,tI r.dead,tI r.prio,.bool r.cust,.bool turn] [.bool true]:=by
 refine Al.of (fun n=>e3 n _ _ _ _ _ _ _ _ _ _ _ _) ?_;cases hf:Ss q cs bs hs r with
 |false=>
  refine (s6 q cs bs hs r).mono fun n h => ?_;simp only [h,hf,vv,reduceCtorEq,reduceAdd,reduceEqDiff,zh0,zh1,zh2,zh3,zh4,zh5,zh6,zo0,zo1]
 |true=>
  have hf0:=hf;unfold Ss L6 L7 at hf;simp only [and_eq_true,not_eq_true',or_eq_false_iff,decide_eq_false_iff_not,decide_eq_true_eq] at hf;obtain ⟨⟨⟨⟨f1,f2⟩,f3⟩,f4⟩,f5⟩:=hf;have ht:=PF f4;have hI:In ⟨q,cs,bs,hs,r⟩:=⟨ht,f5,by simp only;omega,by simp only;omega,by simp only;omega⟩
  have hbs:bs.length≤30:=by omega
  have hB0:=J2 (BY ht).2.1;have hdo:=Rg (so:=soI) Ef ht f5 hbs hI.cl 16 bs [] hB0;have hda:=fun (rs:List (List Hop)) (hp:rs.Perm (Dn soI q cs hs r (fun l=>l.map (·.con)) 16 bs))=>dis_all Ef GS ht f5 hI.ql hI.cl hbs hI.hl hp;have h8:Al C 8 [.sl 1 (q.map encI),.sl 7 (cs.map AA.enc),.sl 4 (bs.map AB.enc),.sl 5 (hs.map AW.enc),tI r.src,tI r.dst,tI r.size,tI r.ready,tI r.dead,tI r.prio,.bool r.cust,tI 16] (Nh (Dn soI q cs hs r (fun l=>l.map (·.con)) 16 bs)):=by refine Al.of (fun n=>e8 n _ _ _ _ _ _ _ _ _ _ _ _) ?_;refine ((s17 q cs bs hs).and ((s71 q cs r).and (fn8 hI hbs))).mono fun n ⟨h1,h2,h3⟩=> ?_;refine Eq.trans ?_ h3;simp only [h1,h2,ht,f5,J8_6,J8_5,ME,vv,reduceCtorEq,reduceAdd,reduceEqDiff,zh0,zh1,zh2,zh3,zh4,zh5,zh6,zo0,zo1,bne_self_eq_false,Ea,map_nil,length_nil];rfl
  have hlen:∀rt∈Dn soI q cs hs r (fun l=>l.map (·.con)) 16 bs,rt.length≤39:=fun rt h=>by have h1:=(hdo.hop rt h).2.1;have h2:=hI.ql;have h3:=hI.hl;simp only at h2 h3;omega
  have hrl:(Dn soI q cs hs r (fun l=>l.map (·.con)) 16 bs).length≤10:=by have h1:=hdo.len;have h2:=hI.cl;simp only [length_nil] at h1 h2;omega
  generalize Dn soI q cs hs r (fun l=>l.map (·.con)) 16 bs=rs at hda h8 hlen hrl;by_cases hne:rs=[]
  ·subst hne;refine ((s6 q cs bs hs r).and h8).mono fun n ⟨g1,g2⟩=> ?_;simp only [Nh] at g2;simp only [g1,hf0,g2,vv,reduceCtorEq,reduceAdd,reduceEqDiff,zh0,zh1,zh2,zh3,zh4,zh5,zh6,zo0,zo1,beq_self_eq_true];rfl
  ·rw [MF hne] at h8;cases turn with
   |false=>
    obtain ⟨out,o1,o2⟩:=hda rs (List.Perm.refl _);have h6:=ou6 q cs rs (by omega) hlen (tI 0) bs;rw [o1] at h6;refine ((s6 q cs bs hs r).and (h8.and h6)).mono fun n ⟨g1,g2,g3⟩=> ?_;simp only [Kb,o2,if_true] at g3;refine Eq.trans ?_ g3;simp only [g1,hf0,g2,vv,reduceCtorEq,reduceAdd,reduceEqDiff,zh0,zh1,zh2,zh3,zh4,zh5,zh6,zo0,zo1,bne_self_eq_false];rfl
   |true=>
    obtain ⟨out,o1,o2⟩:=hda rs.reverse (List.reverse_perm _);have hcl:=Un (rs.map rtE) (by simp;omega);have hys:(gL [Tree.sl 1 (rs.map rtE)] 0).length=rs.length:=length_map ..;have hrv:=rv3 rs [.sl 1 (rs.map rtE)] hys (by omega);have h3:=ou3 q cs rs.reverse (by simp;omega) (fun rt h=>hlen rt (by simpa using h)) bs [.sl 1 (rs.map rtE)] (by rw [hys];simp);rw [o1] at h3;have hw:w64 ((rs.length:Int)-1)=(rs.length:Int)-1-((0:Nat):Int):=by rw [A6 (by omega) (by omega)];omega
    refine ((s6 q cs bs hs r).and (h8.and (hcl.and (hrv.and h3)))).mono fun n ⟨g1,g2,g3,g4,g5⟩=> ?_;simp only [Kb,o2,if_true] at g5;have a1:=g4 fun p17=>J3_4 n [.sl 1 (rs.map rtE)] (q.map encI) (cs.map AA.enc) (bs.map AB.enc) p17;refine Eq.trans ?_ (a1.trans (Eq.trans ?_ g5))
    ·simp only [g1,hf0,g2,g3,vv,reduceCtorEq,reduceAdd,reduceEqDiff,zh0,zh1,zh2,zh3,zh4,zh5,zh6,zo0,zo1,bne_self_eq_false,PV,hw];rfl
    ·simp only [J3_4,vv,reduceCtorEq,reduceAdd,reduceEqDiff,zh0,zh1,zh2,zh3,zh4,zh5,zh6,zo0,zo1];rfl
end Ab
namespace Ab
open Go
variable {P:Program}
theorem TG {d:Nat} {t:TypeId} {k:IntKind} (hu:P.underlying t=some (.int k)) {ts:List Tree} (h:Typed P d t ts):∃n,ts=[.int k n]∧(Lit.int k n).wf=true:=by
 cases d with
 |zero=>cases h
 |succ d=>unfold Typed at h;rw [hu] at h;exact h
theorem Qm {d:Nat} {t:TypeId} (hu:P.underlying t=some .bool) {ts:List Tree} (h:Typed P d t ts):∃b,ts=[.bool b]:=by
 cases d with
 |zero=>cases h
 |succ d=>unfold Typed at h;rw [hu] at h;exact h
theorem Ey {d:Nat} {t e:TypeId} (hu:P.underlying t=some (.slice e)) {ts:List Tree} (h:Typed P (d+1) t ts):∃es,ts=[.sl (P.cellsOf e) es]∧es.length≤maxLen∧∀x∈es,Typed P d e x:=by unfold Typed at h;rw [hu] at h;exact h
theorem N1 {d:Nat} {t:TypeId} {fs:Array Field} (hu:P.underlying t=some (.struct fs)) {ts:List Tree} (h:Typed P (d+1) t ts):Eu (Typed P d) (fs.toList.map (·.type)) ts:=by unfold Typed at h;rw [hu] at h;exact h
def P2 (P:Program) (t:TypeId):Option (List TypeId):=
 match P.underlying t with
 |some (.struct fs)=>some (fs.toList.map (·.type))
 |_=>none
theorem Cy {d:Nat} {t:TypeId} (l:List TypeId) (hu:P2 P t=some l) {ts:List Tree} (h:Typed P (d+1) t ts):Eu (Typed P d) l ts:=by
 unfold P2 at hu;split at hu
 ·rename_i fs hf;cases hu;exact N1 hf h
 ·cases hu
theorem Aa {Ty:TypeId→List Tree→Prop} {t:TypeId} {l:List TypeId} {ts:List Tree} (h:Eu Ty (t::l) ts):∃a b,ts=a++b∧Ty t a∧Eu Ty l b:=h
theorem DM {Ty:TypeId→List Tree→Prop} {ts:List Tree} (h:Eu Ty [] ts):ts=[]:=h
theorem De {α:Type} {enc:α→List Tree} {p:α→Prop}:∀{es:List (List Tree)},(∀x∈es,∃a,x=enc a∧p a)→∃l:List α,es=l.map enc∧∀a∈l,p a
 |[],_=>⟨[],rfl,by simp⟩
 |x::es,h=>by
  obtain ⟨a,ha,pa⟩:=h x (by simp);obtain ⟨l,hl,pl⟩:=De (es:=es) fun y hy=>h y (by simp [hy]);refine ⟨a::l,by simp [ha,hl],fun b hb => ?_⟩;rcases mem_cons.1 hb with rfl|hb
  ·exact pa
  ·exact pl b hb
end Ab
set_option maxRecDepth 100000
namespace Ab
open Go Go.Proofs
theorem uInt:C.P.underlying 3=some (.int .i64):=by kernel_rfl
theorem uB:C.P.underlying 4=some .bool:=by kernel_rfl
theorem BW {d:Nat} {ts:List Tree} (h:Typed C.P d 3 ts):∃n,ts=[tI n]∧True:=by obtain ⟨n,h1,h2⟩:=TG uInt h;exact ⟨n,h1,trivial⟩
theorem QG {d:Nat} {ts:List Tree} (h:Typed C.P d 4 ts):∃b,ts=[.bool b]∧True:=by obtain ⟨b,h1⟩:=Qm uB h;exact ⟨b,h1,trivial⟩
theorem QF {d:Nat} {ts:List Tree} (h:Typed C.P (d+1) 50 ts):∃e:AA,ts=e.enc∧True:=by have h1:=Cy (t:=50) [3,3,3,3,3,3,3] (by kernel_rfl) h;clear h;obtain ⟨_,t1,rfl,x1,g1⟩:=Aa h1;obtain ⟨a1,rfl,_⟩:=BW x1;obtain ⟨_,t2,rfl,x2,g2⟩:=Aa g1;obtain ⟨a2,rfl,_⟩:=BW x2;obtain ⟨_,t3,rfl,x3,g3⟩:=Aa g2;obtain ⟨a3,rfl,_⟩:=BW x3;obtain ⟨_,t4,rfl,x4,g4⟩:=Aa g3;obtain ⟨a4,rfl,_⟩:=BW x4;obtain ⟨_,t5,rfl,x5,g5⟩:=Aa g4;obtain ⟨a5,rfl,_⟩:=BW x5;obtain ⟨_,t6,rfl,x6,g6⟩:=Aa g5;obtain ⟨a6,rfl,_⟩:=BW x6;obtain ⟨_,t7,rfl,x7,g7⟩:=Aa g6;obtain ⟨a7,rfl,_⟩:=BW x7;obtain rfl:=DM g7;exact ⟨⟨a1,a2,a3,a4,a5,a6,a7⟩,rfl,trivial⟩
theorem QH {d:Nat} {ts:List Tree} (h:Typed C.P (d+1) 43 ts):∃e:AB,ts=e.enc∧True:=by have h1:=Cy (t:=43) [3,3,3,3] (by kernel_rfl) h;clear h;obtain ⟨_,t1,rfl,x1,g1⟩:=Aa h1;obtain ⟨a1,rfl,_⟩:=BW x1;obtain ⟨_,t2,rfl,x2,g2⟩:=Aa g1;obtain ⟨a2,rfl,_⟩:=BW x2;obtain ⟨_,t3,rfl,x3,g3⟩:=Aa g2;obtain ⟨a3,rfl,_⟩:=BW x3;obtain ⟨_,t4,rfl,x4,g4⟩:=Aa g3;obtain ⟨a4,rfl,_⟩:=BW x4;obtain rfl:=DM g4;exact ⟨⟨a1,a2,a3,a4⟩,rfl,trivial⟩
theorem Vk {d:Nat} {ts:List Tree} (h:Typed C.P (d+1) 108 ts):∃e:AW,ts=e.enc∧True:=by have h1:=Cy (t:=108) [3,3,3,3,3] (by kernel_rfl) h;clear h;obtain ⟨_,t1,rfl,x1,g1⟩:=Aa h1;obtain ⟨a1,rfl,_⟩:=BW x1;obtain ⟨_,t2,rfl,x2,g2⟩:=Aa g1;obtain ⟨a2,rfl,_⟩:=BW x2;obtain ⟨_,t3,rfl,x3,g3⟩:=Aa g2;obtain ⟨a3,rfl,_⟩:=BW x3;obtain ⟨_,t4,rfl,x4,g4⟩:=Aa g3;obtain ⟨a4,rfl,_⟩:=BW x4;obtain ⟨_,t5,rfl,x5,g5⟩:=Aa g4;obtain ⟨a5,rfl,_⟩:=BW x5;obtain rfl:=DM g5;exact ⟨⟨a1,a2,a3,a4,a5⟩,rfl,trivial⟩
theorem Vj {d:Nat} {ts:List Tree} (h:Typed C.P (d+2) 22 ts):∃l:List Int,ts=[.sl 1 (l.map encI)]∧True:=by obtain ⟨es,rfl,_,h2⟩:=Ey (t:=22) (e:=3) (by kernel_rfl) h;obtain ⟨l,rfl,hl⟩:=De (enc:=encI) (p:=fun _=>True) fun x hx=>BW (h2 x hx);exact ⟨l,by rw [show C.P.cellsOf 3=1 by kernel_rfl],trivial⟩
theorem Og {d:Nat} {ts:List Tree} (h:Typed C.P (d+2) 23 ts):∃l:List AA,ts=[.sl 7 (l.map AA.enc)]∧True:=by obtain ⟨es,rfl,_,h2⟩:=Ey (t:=23) (e:=50) (by kernel_rfl) h;obtain ⟨l,rfl,hl⟩:=De (enc:=AA.enc) (p:=fun _=>True) fun x hx=>QF (h2 x hx);exact ⟨l,by rw [show C.P.cellsOf 50=7 by kernel_rfl],trivial⟩
theorem Oh {d:Nat} {ts:List Tree} (h:Typed C.P (d+2) 26 ts):∃l:List AB,ts=[.sl 4 (l.map AB.enc)]∧True:=by obtain ⟨es,rfl,_,h2⟩:=Ey (t:=26) (e:=43) (by kernel_rfl) h;obtain ⟨l,rfl,hl⟩:=De (enc:=AB.enc) (p:=fun _=>True) fun x hx=>QH (h2 x hx);exact ⟨l,by rw [show C.P.cellsOf 43=4 by kernel_rfl],trivial⟩
theorem T0 {d:Nat} {ts:List Tree} (h:Typed C.P (d+2) 27 ts):∃l:List AW,ts=[.sl 5 (l.map AW.enc)]∧True:=by obtain ⟨es,rfl,_,h2⟩:=Ey (t:=27) (e:=108) (by kernel_rfl) h;obtain ⟨l,rfl,hl⟩:=De (enc:=AW.enc) (p:=fun _=>True) fun x hx=>Vk (h2 x hx);exact ⟨l,by rw [show C.P.cellsOf 108=5 by kernel_rfl],trivial⟩
theorem Vi {d:Nat} {ts:List Tree} (h:Typed C.P (d+3) 25 ts):∃(q:List Int) (cs:List AA),ts=[.sl 1 (q.map encI),.sl 7 (cs.map AA.enc)]:=by have h1:=Cy (t:=25) [22,23] (by kernel_rfl) h;clear h;obtain ⟨_,t1,rfl,x1,g1⟩:=Aa h1;obtain ⟨a1,rfl,_⟩:=Vj x1;obtain ⟨_,t2,rfl,x2,g2⟩:=Aa g1;obtain ⟨a2,rfl,_⟩:=Og x2;obtain rfl:=DM g2;exact ⟨a1,a2,rfl⟩
theorem Rs {d:Nat} {ts:List Tree} (h:Typed C.P (d+4) 29 ts):∃(q:List Int) (cs:List AA) (bs:List AB) (hs:List AW),ts=[.sl 1 (q.map encI),.sl 7 (cs.map AA.enc),.sl 4 (bs.map AB.enc),.sl 5 (hs.map AW.enc)]:=by have h1:=Cy (t:=29) [25,26,27] (by kernel_rfl) h;clear h;obtain ⟨_,t1,rfl,x1,g1⟩:=Aa h1;obtain ⟨a1,a2,rfl⟩:=Vi x1;obtain ⟨_,t2,rfl,x2,g2⟩:=Aa g1;obtain ⟨a3,rfl,_⟩:=Oh x2;obtain ⟨_,t3,rfl,x3,g3⟩:=Aa g2;obtain ⟨a4,rfl,_⟩:=T0 x3;obtain rfl:=DM g3;exact ⟨a1,a2,a3,a4,rfl⟩
theorem dec_rqt {d:Nat} {ts:List Tree} (h:Typed C.P (d+1) 31 ts):∃r:Rqt,ts=[tI r.src,tI r.dst,tI r.size,tI r.ready,tI r.dead,tI r.prio,.bool r.cust]:=by have h1:=Cy (t:=31) [3,3,3,3,3,3,4] (by kernel_rfl) h;clear h;obtain ⟨_,t1,rfl,x1,g1⟩:=Aa h1;obtain ⟨a1,rfl,_⟩:=BW x1;obtain ⟨_,t2,rfl,x2,g2⟩:=Aa g1;obtain ⟨a2,rfl,_⟩:=BW x2;obtain ⟨_,t3,rfl,x3,g3⟩:=Aa g2;obtain ⟨a3,rfl,_⟩:=BW x3;obtain ⟨_,t4,rfl,x4,g4⟩:=Aa g3;obtain ⟨a4,rfl,_⟩:=BW x4;obtain ⟨_,t5,rfl,x5,g5⟩:=Aa g4;obtain ⟨a5,rfl,_⟩:=BW x5;obtain ⟨_,t6,rfl,x6,g6⟩:=Aa g5;obtain ⟨a6,rfl,_⟩:=BW x6;obtain ⟨_,t7,rfl,x7,g7⟩:=Aa g6;obtain ⟨a7,rfl,_⟩:=QG x7;obtain rfl:=DM g7;exact ⟨⟨a1,a2,a3,a4,a5,a6,a7⟩,rfl⟩
theorem own:ownKnob Tryz.prog.godebug=none:=by kernel_rfl
end Ab
namespace Ab
open Go
abbrev Ent:=FuncId×List Tree×List Tree
def EOk (P:Program) (e:Ent):Prop:=if e.1<OWN then G0 P e.1 e.2.1 e.2.2 else if e.1<EH then WC P (e.1-OWN) e.2.1 e.2.2 else R8 P ((e.1-EH) % 64) ((e.1-EH) / 64) e.2.1 e.2.2
def tab:List Ent→BE
 |[],_,_=>none
 |e::l,g,xs=>match Nat.beq e.1 g with
  |true=>match tL e.2.1 xs with
   |true=>some e.2.2
   |false=>tab l g xs
  |false=>tab l g xs
def WO (P:Program):List Ent→Prop
 |[]=>True
 |e::l=>EOk P e∧WO P l
theorem Qn {P:Program}:∀{l:List Ent},WO P l→B3 P (tab l)
 |[],_=>fun g xs ys h=>by cases h
 |e::l,hl=>fun g xs ys h=>by
  unfold tab at h;split at h
  ·rename_i h1;split at h
   ·rename_i h2;cases h;have e1:=Nat.eq_of_beq_eq_true h1;have e2:=PG _ _ h2;subst e1 e2;exact hl.1
   ·exact Qn hl.2 g xs ys h
  ·exact Qn hl.2 g xs ys h
noncomputable def stepT (C:Cfg) (l:List Ent) (n:Nat) (e:Ent):Option (List Tree):=
 if e.1<OWN then SQ C (inl C (pcx C (tab l)) n C.depth) (pcx C (tab l)) n e.1 e.2.1 else if e.1<EH then Iv C (inl C (pcx C (tab l)) n C.depth) (pcx C (tab l)) n (e.1-OWN) e.2.1
 else HA C (inl C (pcx C (tab l)) n C.depth) (pcx C (tab l)) n ((e.1-EH) % 64) ((e.1-EH) / 64) e.2.1
theorem AD {C:Cfg} (hmix:C.P.follows .mixedOrders=true) (hext:Mu C) {l:List Ent} (hl:WO C.P l) {n:Nat} {e:Ent} (hk:stepT C l n e=some e.2.2):EOk C.P e:=by
 have hp:=H8 hext (Qn hl);unfold stepT at hk;unfold EOk;by_cases hg:e.1<OWN
 ·rw [if_pos hg] at hk ⊢;exact SP (Gm hmix hp n C.depth) hp hmix hk
 ·rw [if_neg hg] at hk ⊢;by_cases hg2:e.1<EH
  ·rw [if_pos hg2] at hk ⊢;exact Uv (Gm hmix hp n C.depth) hp hmix hk
  ·rw [if_neg hg2] at hk ⊢;exact SS (Gm hmix hp n C.depth) hp hmix hk
end Ab
namespace Ab
open Go Go.Proofs Go.RowKit Go.Lib
set_option maxRecDepth 100000
set_option maxHeartbeats 4000000
theorem Ql {P:Program} {o:Oper} {a:Act} {w:World} {K:Act→World→Prop} {Q:Exit→Act→World→Prop} {t:TypeId} {x:Operand} {v:Value} (ho:o.op = .load t x) (h:(Instr.loadAt t (a.eval x)).run P w = .ok v w) (hk:K (a.put o.dst v) w):o.wp P a w K Q:=by
 have:(execOp a.eval o).run P w = .ok (.value v) w:=by unfold execOp;rw [ho];simp [h]
 unfold Oper.wp;rw [this,Oper.upon_value];exact hk
theorem LJ (r:Int) (w:World):Calls Tryz.prog 270 #[.int .u32 r] w fun e w'=>e = .returned (.int .u32 (steps 8 r))∧w'=w:=by
 go_enter Tryz.func270,Tryz.ntmps270
 go_wp2
 go_loopg [0,3] 8 (fun g s0 s3 wx=>∃i:Nat,i+g=8∧s0 = .int .u32 (steps i r)∧s3 = .int .i64 i∧wx=w)
 case atStart=>exact ⟨0,rfl,rfl,rfl,rfl⟩
 case round=>
  obtain ⟨i,hig,rfl,rfl,rfl⟩:=hrel;generalize hx:steps i r=x;cases gk with
  |zero=>
   obtain rfl:i=8:=by omega
   have hiz:¬(((8:Nat):Int)<(8:Int)):=by omega
   go_wp2
   go_ret
   exact ⟨rfl,rfl⟩
  |succ g=>
   have hiz:(i:Int)<(8:Int):=by omega
   have Hx:Aside (steps i r=x):=hx;clear hx;by_cases hodd:x.tmod 2=1
   ·have Hs:Aside (steps (i+1) r=xorK .u32 (IntKind.u32.wrap (x.tdiv 2)) 2197175160):=by show steps (i+1) r=_;rw [LI,Hx.out,PK,if_pos hodd]
    go_wp2
    go_roundg g
    case measure=>omega
    case rel=>exact ⟨i+1,by omega,by rw [Hs.out];rfl,by first|rfl|simp,rfl⟩
   ·have Hs:Aside (steps (i+1) r=IntKind.u32.wrap (x.tdiv 2)):=by show steps (i+1) r=_;rw [LI,Hx.out,PK,if_neg hodd]
    go_wp2
    go_roundg g
    case measure=>omega
    case rel=>exact ⟨i+1,by omega,by rw [Hs.out];rfl,by first|rfl|simp,rfl⟩
theorem PD (w:World):Calls Tryz.prog 245 #[] w fun e w'=>e = .returned (.agg (Am 256))∧w'=(w.alloc (.cells (Am 256) 341)).alloc (.cells (Am 256) 341):=by
 go_enter Tryz.func245,Tryz.ntmps245
 have e1:(zeroValue 341).run Tryz.prog w = .ok (.agg (Array.replicate 256 (.int .u32 0))) w:=Tryz.zeroValue341 w
 go_wp2
 rw [← QL]
 go_loopg [2,3] 256 (fun g s2 s3 wx=>∃i:Nat,i+g=256∧s3 = .int .i64 i∧wx=(w.alloc (.cells (Am 0) 341)).alloc (.cells (Am i) 341))
 case atStart=>exact ⟨0,rfl,rfl,rfl⟩
 case round=>
  obtain ⟨i,hig,rfl,rfl⟩:=hrel;cases gk with
  |zero=>
   obtain rfl:i=256:=by omega
   have hiz:¬(((256:Nat):Int)<(256:Int)):=by omega
   have hsz:(w.alloc (.cells (Am 0) 341)).heap.size=w.heap.size+1:=by simp
   have hld:=run_loadAt_new (P:=Tryz.prog) (w.alloc (.cells (Am 0) 341)) 341 (Am 256) 256 294 (by kernel_rfl) (by rw [Cw];kernel_rfl);rw [hsz] at hld;have h0:((w.alloc (.cells (Am 0) 341)).alloc (.cells (Am 256) 341)).heap[w.heap.size]? = some (.cells (Am 0) 341):=by show ((w.heap.push _).push _)[w.heap.size]? = _;rw [getElem?_push_lt (by simp)];simp
   have hW:((w.alloc (.cells (Am 0) 341)).alloc (.cells (Am 256) 341)).setRow w.heap.size (Am 256)=(w.alloc (.cells (Am 256) 341)).alloc (.cells (Am 256) 341):=by
    simp only [World.setRow,World.alloc];congr 1;apply Array.ext_getElem?;intro i;rw [getElem?_modify];by_cases h:w.heap.size=i
    ·subst h;rw [getElem?_push_lt (by simp),getElem?_push_lt (by simp)];simp
    ·simp only [h,if_false,getElem?_push];simp [Ne.symm h]
   have Hld:Aside _:=hld;have hst2:(storeCells ⟨w.heap.size,0,none⟩ (Am 256).toList 0).run Tryz.prog ((w.alloc (.cells (Am 0) 341)).alloc (.cells (Am 256) 341))= .ok () ((w.alloc (.cells (Am 256) 341)).alloc (.cells (Am 256) 341)):=by
    have h9:=run_storeCells_at Tryz.prog w.heap.size 0 341 (Am 256).toList 0 (Am 0) ((w.alloc (.cells (Am 0) 341)).alloc (.cells (Am 256) 341)) h0 (by simp [Cw]) (fun v hv=>by have:=Rx 256;rw [Array.all_eq_true_iff_forall_mem] at this;exact this v (by simpa using hv))
    have h10:((Am 0).toList.take (0+0)++(Am 256).toList++(Am 0).toList.drop (0+0+(Am 256).toList.length)).toArray=Am 256:=by rw [List.drop_of_length_le (by simp [Cw])];simp
    rw [h10,hW] at h9;exact h9
   have Hst:Aside _:=hst2;have h1:((w.alloc (.cells (Am 256) 341)).alloc (.cells (Am 256) 341)).heap[w.heap.size]? = some (.cells (Am 256) 341):=by show ((w.heap.push _).push _)[w.heap.size]? = _;rw [getElem?_push_lt (by simp)];simp
   have hu341:Tryz.prog.underlying 341=some (.array 256 294):=by kernel_rfl
   have hl2:=run_loadVar_row (P:=Tryz.prog) ((w.alloc (.cells (Am 256) 341)).alloc (.cells (Am 256) 341)) w.heap.size 341 341 (Am 256) (0,0) _ h1 hu341 rfl (by rw [Cw];kernel_rfl);have Hl2:Aside _:=hl2;clear hld hst2 hsz h0 h1 hW hl2 hu341
   go_wp2
   refine Ql (v :=.agg (Am 256)) rfl Hld.out ?_
   go_wp2
   rw [Hst.out];simp only [Result.andThen];rw [Oper.upon_skip]
   go_wp2
   (try simp only [Exit.inBlock,Exit.then])
   refine bodyPost_ret (v :=.agg (Am 256)) ?_ rfl ⟨rfl,rfl⟩;simp [results,asAddr,Result.andThen,Act.put,Hl2.out]
  |succ g=>
   have hiz:(i:Int)<(256:Int):=by omega
   have hw:IntKind.u32.wrap (i:Int)=i:=by simp only [IntKind.wrap,IntKind.signed,IntKind.bits];simp;omega
   have Hi:Aside (i<256):=by show i<256;omega
   go_wp2_with (go_at_fn 270;refine (LJ _ _).mono ?_)
   refine (LJ _ _).mono ?_
   rintro e w1 ⟨rfl,rfl⟩
   have hcell:(Am i)[i]? = some (.int .u32 0):=by rw [MU i i Hi.out,if_neg (Nat.lt_irrefl i)]
   go_wp2
   go_roundg g
   case measure=>omega
   case rel=>exact ⟨i+1,by omega,by first|rfl|simp,by rw [QM i Hi.out]⟩
theorem UR:G0 Tryz.prog 245 [] PE:=by
 intro B w avs vs n hm hB hc;have e:avs=[]:=by
  have:DA Tryz.prog 245 (fun i =>.t ((List.getD [] i default:Tree)))=some []:=by kernel_rfl
  rw [this] at hm;exact (Option.some.inj hm).symm
 subst e;obtain rfl:vs = #[]:=eq_empty_of_size_eq_zero (by simpa using hc.1);refine (callsIn_wide (n:=n)).2 (PD w) |>.mono ?_
 rintro e w' ⟨rfl,rfl⟩
 have hg:Grow w ((w.alloc (.cells (Am 256) 341)).alloc (.cells (Am 256) 341)):=⟨rfl,rfl,rfl,by simp;omega,fun b hb=>by show ((w.heap.push _).push _)[b]? = _;rw [getElem?_push,if_neg (by simp;omega),getElem?_push,if_neg (ne_of_lt hb)]⟩
 have hr:CO Tryz.prog 245 (fun i =>.t (PE.getD i default))=some (.agg (A2 (fun i =>.t (PE.getD i default)) 0 256)):=by
  have h1:Ay Tryz.prog 341=some true:=by kernel_rfl
  have h2:BZ Tryz.prog 341=some 256:=by kernel_rfl
  have h3:Tryz.prog.funcs[245]? = some Tryz.f245:=Tryz.func245;have h4:Tryz.f245.resultTypes.toList=[341]:=by kernel_rfl
  simp only [CO,h3,h4,B7,Gh,h1,h2,map_some]
 refine ⟨_,_,rfl,hr,.agg _ _ (by rw [Cw];simp [A2]) fun j x hx => ?_,hg,fun h => ?_⟩
 ·have hj:j<256:=by have:=AT hx;simpa [A2] using this
  have h1:=MU 256 j hj;rw [if_pos hj] at h1;have h2:(Am 256).getD j undef = .int .u32 (steps 8 j):=by rw [Array.getD_eq_getD_getElem?,h1];rfl
  rw [h2];simp only [A2,getElem?_map,getElem?_range hj,map_some,Option.some.injEq,zero_add] at hx;subst hx;have h3:PE.getD j default = .int .u32 (steps 8 j):=by simp [PE,hj]
  rw [h3];exact .t _ _ (.int _ _)
 ·show PE.all Tree.scalar=true;rw [all_eq_true];intro x hx;simp only [PE,mem_map] at hx;obtain ⟨j,_,rfl⟩:=hx;rfl
end Ab
namespace Ab
open Go Go.Proofs Go.Shelf Go.RowKit Go.Lib
set_option maxRecDepth 100000
theorem GW {P:Program} {t key elem:TypeId} {kd:IntKind} (hu:P.underlying t=some (.map key elem)) (hk:P.underlying key=some (.int kd)) {w:World} {b:Nat} {es:Array MapEntry} {clock:Nat} (hb:w.heap[b]? = some (.map es clock)) (n:Int) (v:Value)
  (hnew:Instr.findNow (.int kd) (.int kd n) es.toList 0=some none) :
  (Instr.mapUpdate t (.map (some b)) (.int kd n) v).run P w = .ok () (w.putObj b (.map (es.push {key :=.int kd n,val:=v,born:=clock}) (clock+1))):=by
 have hck:(Instr.checkKey false 10000 key (.int kd n)).run P w = .ok () w:=by
  have:∀m:Nat,(Instr.checkKey false (m+1) key (.int kd n)).run P w = .ok () w:=fun m=>by simp [Instr.checkKey,run_underlying hk]
  exact this 9999
 simp only [Instr.mapUpdate,Sem.run_bind,run_underlying hu,Result.andThen_ok,CY hb,hck,Instr.findKey,run_underlying hk,hnew,Sem.run_pure];simp [setObj,Sem.run,hb,World.putObj]
theorem L4 (w:World):Calls Tryz.prog 285 #[] w fun e w'=>∃b,e = .returned (.map (some b))∧w.heap.size≤b∧b<w'.heap.size∧Below w.heap.size w w'∧∃es clock,w'.heap[b]? = some (.map es clock)∧es.toList.map (fun e=>(e.key,e.val))=[(.int .i64 2,.func (.func 306) #[] #[]),(.int .i64 3,.func (.func 307) #[] #[])]:=by
 have hmm:=@Go.run_makeMap_plain Tryz.prog;have hw0:(w.alloc (.map #[] 0)).heap[w.heap.size]? = some (.map #[] 0):=by show (w.heap.push (.map #[] 0))[w.heap.size]? = _;exact Array.getElem?_push_size
 have h1:(Instr.mapUpdate 395 (.map (some w.heap.size)) (.int .i64 2) (.func (.func 306) #[] #[])).run Tryz.prog (w.alloc (.map #[] 0))= .ok () ((w.alloc (.map #[] 0)).putObj w.heap.size (.map #[{key :=.int .i64 2,val :=.func (.func 306) #[] #[],born:=0}] 1)):=
  GW (P:=Tryz.prog) (t:=395) (key:=3) (elem:=393) (kd :=.i64) (by kernel_rfl) (by kernel_rfl) hw0 2 (.func (.func 306) #[] #[]) rfl
 have hlt:=C1 hw0;have hw1:=World.putObj_heap_same (o :=.map #[{key :=.int .i64 2,val :=.func (.func 306) #[] #[],born:=0}] 1) hlt;have hlt2:=C1 hw1;have hw2:=World.putObj_heap_same (o :=.map #[{key :=.int .i64 2,val :=.func (.func 306) #[] #[],born:=0},{key :=.int .i64 3,val :=.func (.func 307) #[] #[],born:=1}] 2) hlt2;have hlt3:=C1 hw2;have h2:(Instr.mapUpdate 395 (.map (some w.heap.size)) (.int .i64 3) (.func (.func 307) #[] #[])).run Tryz.prog ((w.alloc (.map #[] 0)).putObj w.heap.size (.map #[{key :=.int .i64 2,val :=.func (.func 306) #[] #[],born:=0}] 1))= .ok () (((w.alloc (.map #[] 0)).putObj w.heap.size (.map #[{key :=.int .i64 2,val :=.func (.func 306) #[] #[],born:=0}] 1)).putObj w.heap.size (.map #[{key :=.int .i64 2,val :=.func (.func 306) #[] #[],born:=0},{key :=.int .i64 3,val :=.func (.func 307) #[] #[],born:=1}] 2)):=
  GW (P:=Tryz.prog) (t:=395) (key:=3) (elem:=393) (kd :=.i64) (by kernel_rfl) (by kernel_rfl) hw1 3 (.func (.func 307) #[] #[]) rfl
 go_enter Tryz.func285,Tryz.ntmps285
 go_wp2
 go_ret
 exact ⟨w.heap.size,rfl,le_refl _,hlt3,⟨rfl,rfl,rfl,Nat.le_of_lt hlt3,fun k hk=>by rw [World.putObj_heap_other (ne_of_lt hk),World.putObj_heap_other (ne_of_lt hk)];show (w.heap.push (.map #[] 0))[k]? = _;rw [getElem?_push,if_neg (ne_of_lt hk)]⟩,_,_,hw2,rfl⟩
theorem mapExt:G0 Tryz.prog 285 [] [.mp .i64 [(2,306),(3,307)]]:=by
 intro B w avs vs n hm hB hc;have e:avs=[]:=by
  have:DA Tryz.prog 285 (fun i =>.t ((List.getD [] i default:Tree)))=some []:=by kernel_rfl
  rw [this] at hm;exact (Option.some.inj hm).symm
 subst e;obtain rfl:vs = #[]:=eq_empty_of_size_eq_zero (by simpa using hc.1);refine (callsIn_wide (n:=n)).2 (L4 w) |>.mono ?_
 rintro e w' ⟨b,rfl,h1,h2,h3,es,clock,h4,h5⟩
 refine ⟨_,.t (.mp .i64 [(2,306),(3,307)]),rfl,by kernel_rfl,.t _ _ (.mp .i64 _ b es clock h2 ?_ h4 (by rw [h5];rfl)),⟨h3.os,h3.tape,h3.output,h3.size,h3.block⟩,fun h => ?_⟩
 ·rintro (h|h)
  ·exact Nat.lt_irrefl _ (lt_of_lt_of_le (hB b h) h1)
  ·exact DE h
 ·have:B8 Tryz.prog 285=false:=by kernel_rfl
  rw [this] at h;cases h
theorem AG:Mu C0:=by
 intro g xs ys _ h;have h2:OY g xs=some ys:=h;clear h;unfold OY at h2;split at h2
 ·rename_i e;split at h2
  ·cases h2;subst e;exact UR
  ·cases h2
 split at h2
 ·rename_i e;split at h2
  ·cases h2;subst e;exact mapExt
  ·cases h2
 cases h2
end Ab
