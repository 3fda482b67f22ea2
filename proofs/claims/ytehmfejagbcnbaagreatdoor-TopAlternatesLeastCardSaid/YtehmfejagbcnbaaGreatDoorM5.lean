/- A part of the proof: see the last text. -/
import Derived.Test.YtehmfejagbcnbaaGreatDoorM4
set_option linter.unusedVariables false
set_option linter.unusedSimpArgs false
open Bool (and_eq_true false_eq_true not_eq_true' or_eq_false_iff)
open Classical (not_not)
open Int (le_of_lt lt_irrefl toNat toNat_natCast)
open List (any_eq_false append_assoc append_nil cons_append drop drop_zero eq_nil_of_length_eq_zero ext_getElem? filterMap_cons filter_append filter_cons filter_eq_self foldl_cons getElem?_append_left getElem?_cons_succ getElem?_drop getElem?_eq_getElem getElem?_eq_none getElem?_map getElem?_set_ne getElem?_set_self getElem_mem length length_append length_cons length_drop length_map length_nil length_pos_iff length_range length_set length_take map_append map_congr_left map_cons map_drop map_id map_map map_nil map_take mem_append mem_append_left mem_append_right mem_cons mem_cons_of_mem mem_cons_self mem_filterMap mem_iff_getElem mem_map mem_of_getElem? mem_of_mem_drop mem_range mem_singleton nil_append nodup_cons pairwise_append pairwise_cons replicate take take_of_length_le take_zero)
open Nat (add_zero le_refl le_succ le_trans lt_or_ge reduceAdd reduceEqDiff succ_mul zero_add zero_le)
open Option (getD_none isSome_none isSome_some map_some)
namespace Ab
open Go
theorem U7 (es:List (List Tree)) (hl:es.length≤1073741824):Ad C 1000106 [.sl 5 es] [.sl 5 es]:=by
 refine Ad.of (fun n=>Vo n _) (Ev.of fun n => ?_);by_cases h:es.length=0
 ·have:es=[]:=eq_nil_of_length_eq_zero h;subst this;simp [AF,J6]
 ·rw [DC h,DC hl,take_of_length_le (le_refl _)]
theorem s95 (q:List Int) (cs:List AA) (h:AN):Ad C 95 [.sl 1 (q.map encI),.sl 7 (cs.map AA.enc),tI h.node,tI h.frm,tI h.to,tI h.size,tI h.ticket] [.bool (Dk q h)]:=by refine Ad.of (fun n=>e95 n _ _ _ _ _ _ _) (Ev.of fun n => ?_);simp only [vv,reduceCtorEq,reduceAdd,reduceEqDiff,Dk,AF];grind
theorem s109 (q:List Int) (cs:List AA) (h:AN):Ad C 109 [.sl 1 (q.map encI),.sl 7 (cs.map AA.enc),tI h.node,tI h.frm,tI h.to,tI h.size,tI h.ticket] [.bool (Dk q h)]:=by refine Ad.of (fun n=>e109 n _ _ _ _ _ _ _) (Ev.of fun n => ?_);simp only [vv,reduceCtorEq,reduceAdd,reduceEqDiff,Dk,AF];grind
theorem find5 (a b c d e:Int):(([a,b,c,d,e]).find? (· ≠ 0)).getD 0=if a≠0 then a else if b≠0 then b else if c≠0 then c else if d≠0 then d else e:=by by_cases h1:a=0<;>by_cases h2:b=0<;>by_cases h3:c=0<;>by_cases h4:d=0<;>by_cases h5:e=0<;>simp [h1,h2,h3,h4,h5]
theorem s96 (a b:AN):Ad C 96 (a.enc++b.enc) [tI (V8 a b)]:=by refine Ad.of (fun n=>e96 n _ _ _ _ _ _ _ _ _ _) ?_;refine ((s35 a.node b.node).and ((s35 a.frm b.frm).and ((s35 a.to b.to).and ((s35 a.ticket b.ticket).and ((s35 a.size b.size).and (s34 [C5 a.node b.node,C5 a.frm b.frm,C5 a.to b.to,C5 a.ticket b.ticket,C5 a.size b.size] (by simp))))))).mono fun n ⟨h1,h2,h3,h4,h5,h6⟩=> ?_;simp only [map_cons,map_nil,encI] at h6;rw [find5] at h6;simp only [h1,h2,h3,h4,h5,h6,vv,reduceCtorEq,reduceAdd,reduceEqDiff];rfl
theorem s110 (a b:AN):Ad C 110 (a.enc++b.enc) [.bool (Ck a b)]:=by refine Ad.of (fun n=>e110 n _ _ _ _ _ _ _ _ _ _) (Ev.of fun n => ?_);simp only [vv,reduceCtorEq,reduceAdd,reduceEqDiff,Ck,AF,bne_iff_ne];grind
theorem s97 (l:List Lvl) (hl:l.length≤1000000):Ad C 97 [.sl 2 (l.map Lvl.enc)] [tI (GP l)]:=by
 refine Ad.of (fun n=>e97 n _) ?_;refine Ae (fun r=>[tI r]) l (fun i (s:Int)=>(([.t (tI s),.t (tI i)],[]):List AV×Heap)) (fun i s x =>.next (if x.val>s then x.val else s)) (fun s=>s) (fun _ _=>True) 0 rfl trivial ?_
  (fun i s x hx hI=>Ev.of fun n again => ?_) (fun _ _ _ _ _ _ _=>trivial) (fun s hI=>Ev.of fun n again => ?_)
 ·rw [Bg];rfl
 ·have hi:=AJ hx;simp only [vv,reduceCtorEq,reduceAdd,reduceEqDiff,hx,Lvl.enc,Rd.Ac,AQ (show i<4611686018427387904 by omega),(show (i:Int)<l.length by omega)]
 ·simp only [vv,reduceCtorEq,reduceAdd,reduceEqDiff,lt_irrefl]
theorem s162 (l:List AN) (node t:Int) (hl:l.length≤10000) (hs:Ft l):Ad C 162 [.sl 5 (l.map AN.enc),tI node,tI t] [tI (stored l node t)]:=by
 refine Ad.of (fun n=>e162 n _ _ _) ?_;refine Ae (fun r=>[tI r]) l (fun i (s:Int)=>(([.t (tI s),.t (tI i)],[]):List AV×Heap)) (fun i s x =>.next (s+stH node t x)) (fun s=>s) (fun i s=>0≤s∧s≤65536*(i:Int)∧i≤l.length) 0 rfl (by simp) ?_
  (fun i s x hx hI=>Ev.of fun n again => ?_) (fun i s x s' hx hI h => ?_) (fun s hI=>Ev.of fun n again => ?_)
 ·rw [Bg];have:∀(l:List AN) (s:Int),l.foldl (fun s x=>s+stH node t x) s=s+Cj (stH node t) l:=fun l=>by
   induction l with
   |nil=>intro s;simp [Cj]
   |cons a l ih=>intro s;rw [foldl_cons,ih,Cj];omega
  rw [this,stored];omega
 ·have hi:=AJ hx;have h1:=hs x (mem_of_getElem? hx);simp only [vv,reduceCtorEq,reduceAdd,reduceEqDiff,hx,AN.enc,Rd.Ac,AQ (show i<4611686018427387904 by omega),(show (i:Int)<l.length by omega),Ay (x:=s+x.size) (by omega) (by omega)];simp only [stH,AF];by_cases k1:x.node=node<;>by_cases k2:x.frm≤t<;>by_cases k3:t<x.to<;>simp [k1,k2,k3]
 ·have hi:=AJ hx;have h1:=hs x (mem_of_getElem? hx);simp only [Rd.next.injEq] at h;subst h;unfold stH;split<;>omega
 ·simp only [vv,reduceCtorEq,reduceAdd,reduceEqDiff,lt_irrefl]
theorem Ti (l:List Int):FA (l.map encI)=(Bd l).map encI:=by
 have h1:(l.map encI).map oneI=l:=by rw [map_map];exact (map_congr_left fun a _=>rfl).trans (map_id l)
 unfold FA Bd;rw [h1];rfl
theorem QA (l:List Int):Ax 1 (l.map encI)=true:=by simp [Ax,encI,H0]
theorem Fz {es new:List (List Tree)} (h:new.length=es.length):A3 es 0 new=new:=by simp [A3,h]
theorem Ol {t:Int} {es:List (Int×Int)}:(As t es).isSome=decide (t∈es.map (·.1)):=by
 cases h:As t es with
 |none=>
  have:=get_none.1 h;simp only [isSome_none];exact (decide_eq_false this).symm
 |some v=>
  have:t∈es.map (·.1):=by refine Classical.byContradiction fun hn => ?_;rw [get_none.2 hn] at h;cases h
  simp only [isSome_some];exact (decide_eq_true this).symm
theorem Lm (es:List (Int×Int)) (t n:Int):(Dv es t n).length=es.length+if t∈es.map (·.1) then 0 else 1:=by have:=congrArg length (Jp es t n);rw [length_map] at this;rw [this];split<;>simp
theorem Tx (es:List (Int×Int)) (t n:Int):(Dv es t n).map (fun p=>encI p.1)=es.map (fun p=>encI p.1)++if t∈es.map (·.1) then [] else [encI t]:=by
 have h1:∀es:List (Int×Int),es.map (fun p=>encI p.1)=(es.map (·.1)).map encI:=fun es=>by rw [map_map];rfl
 rw [h1,h1,Jp];split<;>simp
def WB (i:Nat) (es:List (Int×Int)):List AV×Heap:=([.t (tI i)],[.mapo .i64 .i64 es,.box [.mref 0],.row false es.length 1 (es.map fun p=>encI p.1),.box [.sref 2 es.length 0 es.length]])
def Sx (es:List (Int×Int)) (ks:List Int) (i:Nat) (s:Int×List Lvl):List AV×Heap:=([.t (tI s.1),.sref 4 s.2.length 0 s.2.length,.t (tI i)],[.mapo .i64 .i64 es,.box [.mref 0],.row false ks.length 1 (ks.map encI),.box [.sref 2 ks.length 0 ks.length],.row false s.2.length 2 (s.2.map Lvl.enc)])
def I4 (es:List (Int×Int)) (_:Nat) (s:Int×List Lvl) (t:Int):Rd (Int×List Lvl) (List Lvl):=.next (if C7 es t=0 then s else (w64 (s.1+C7 es t),s.2++[⟨t,w64 (s.1+C7 es t)⟩]))
theorem OZ (es:List (Int×Int)):∀(ks:List Int) (i:Nat) (s:Int) (out:List Lvl),A6 (I4 es) (fun s=>s.2) i ks (s,out)=out++F5 es ks s
 |[],i,s,out=>by simp [A6,F5]
 |t::ks,i,s,out=>by
  unfold A6 I4 F5;simp only;by_cases h:C7 es t=0
  ·rw [if_pos h,if_pos h];exact OZ es ks (i+1) s out
  ·rw [if_neg h,if_neg h];refine (OZ es ks (i+1) _ _).trans ?_;rw [append_assoc];rfl
theorem Lw (es:List (Int×Int)):∀(ks:List Int) (s:Int),(F5 es ks s).length≤ks.length
 |[],s=>le_refl _
 |t::ks,s=>by
  unfold F5;split
  ·exact Nat.le_succ_of_le (Lw es ks s)
  ·exact Nat.succ_le_succ (Lw es ks _)
theorem KZ (node:Int) (es:List (Int×Int)) (h:AN):(Bw node es h).length≤es.length+2:=by
 unfold Bw;split
 ·rw [Lm,Lm];split<;>split<;>omega
 ·omega
theorem WC (node:Int) (l:List AN):(J3 node l).length≤2*l.length:=by
 have:∀(l:List AN) (es:List (Int×Int)),(l.foldl (Bw node) es).length≤es.length+2*l.length:=fun l=>by
  induction l with
  |nil=>intro es;simp
  |cons a l ih=>
   intro es;rw [foldl_cons];have h1:=ih (Bw node es a);have h2:=KZ node es a;simp only [length_cons];omega
 have:=this l [];simpa [J3] using this
theorem F4 (l:List AN) (node:Int):(levels l node).length≤2*l.length:=by unfold levels;refine le_trans (Lw _ _ _) ?_;rw [(Fx _).length_eq,length_map];exact WC node l
theorem s98 (l:List AN) (node:Int) (hl:l.length≤10000):Ad C 98 [.sl 5 (l.map AN.enc),tI node] [.sl 2 ((levels l node).map Lvl.enc)]:=by
 refine Ad.of (fun n=>e98 n _ _) ?_;refine Ae (fun (r:List Lvl)=>[Tree.sl 2 (r.map Lvl.enc)]) l WB (fun i es x =>.next (Bw node es x)) (fun es=>F5 es (Bd (es.map (·.1))) 0) (fun i es=>es.length≤2*i∧i≤l.length) [] rfl (by simp) ?_
  (fun i es x hx hI=>Ev.of fun n again => ?_) (fun i es x s' hx hI h => ?_) (fun es hI => ?_)
 ·rw [Bg];rfl
 ·have hi:=AJ hx;have b1:es.length+1≤1073741824:=by omega
  have b2:es.length+2≤1073741824:=by omega
  have t1:∀(f:Int×Int→List Tree),take es.length (es.map f)=es.map f:=fun f=>take_of_length_le (by simp);simp only [WB,vv,reduceCtorEq,reduceAdd,reduceEqDiff,hx,AN.enc,Rd.Ac,AQ (show i<4611686018427387904 by omega),(show (i:Int)<l.length by omega),Ol,t1];by_cases k0:x.node=node
  ·have e1:Bw node es x=Dv (Dv es x.frm x.size) x.to (w64 (0-x.size)):=by simp only [Bw,if_pos k0]
   have e2:BO x.frm (w64 ((As x.frm es).getD 0+x.size)) es=Dv es x.frm x.size:=rfl;have e3:BO x.to (w64 ((As x.to (Dv es x.frm x.size)).getD 0+w64 (0-x.size))) (Dv es x.frm x.size)=Dv (Dv es x.frm x.size) x.to (w64 (0-x.size)):=rfl;simp only [e1,e2,e3,k0,beq_self_eq_true,Lm,Tx];by_cases k1:x.frm∈es.map (·.1)
   ·by_cases k2:x.to∈(Dv es x.frm x.size).map (·.1)
    ·simp only [k1,k2,vv,reduceCtorEq,reduceAdd,reduceEqDiff,append_nil,add_zero]
    ·simp only [k1,k2,vv,reduceCtorEq,reduceAdd,reduceEqDiff,append_nil,add_zero,b1,le_refl];rfl
   ·by_cases k2:x.to∈(Dv es x.frm x.size).map (·.1)
    ·simp only [k1,k2,vv,reduceCtorEq,reduceAdd,reduceEqDiff,append_nil,add_zero,b1,le_refl];rfl
    ·simp only [k1,k2,vv,reduceCtorEq,reduceAdd,reduceEqDiff,append_nil,add_zero,b1,b2,le_refl];have t2:take (es.length+1) (es.map (fun p=>encI p.1)++[[tI x.frm]])=es.map (fun p=>encI p.1)++[[tI x.frm]]:=take_of_length_le (by simp);rw [DC (by simp),t2];rfl
  ·have e1:Bw node es x=es:=by simp only [Bw,if_neg k0]
   simp only [e1,beq_eq_false_iff_ne.2 k0,vv,reduceCtorEq,reduceAdd,reduceEqDiff]
 ·have hi:=AJ hx;simp only [Rd.next.injEq] at h;subst h;have:=KZ node es x;omega
 ·have b1:es.length≤1073741824:=by omega
  have hk:∀es:List (Int×Int),es.map (fun p=>encI p.1)=(es.map (·.1)).map encI:=fun es=>by rw [map_map];rfl
  have t1:take es.length (es.map fun p=>encI p.1)=(es.map (·.1)).map encI:=by rw [hk];exact take_of_length_le (by simp)
  have hsl:(Bd (es.map (·.1))).length=es.length:=by rw [(Fx _).length_eq,length_map]
  have hrs:A3 (es.map fun p=>encI p.1) 0 ((Bd (es.map (·.1))).map encI)=(Bd (es.map (·.1))).map encI:=Fz (by simp [hsl]);simp only [WB,vv,reduceCtorEq,reduceAdd,reduceEqDiff,lt_irrefl,t1,le_refl,b1,QA,Ti,hrs];generalize hks:Bd (es.map (·.1))=ks at hsl;refine Ev.mono (fun n h again=>h) ?_;refine Ae (fun (r:List Lvl)=>[Tree.sl 2 (r.map Lvl.enc)]) ks (Sx es ks) (I4 es) (fun s=>s.2) (fun i s=>s.2.length≤i∧i≤ks.length) (0,[]) (by simp only [Sx,hsl];rfl) (by simp) ?_
   (fun i s x hx hI=>Ev.of fun n again => ?_) (fun i s x s' hx hI h => ?_) (fun s hI=>Ev.of fun n again => ?_)
  ·rw [OZ];rfl
  ·have hi:=AJ hx;have t3:take s.2.length (s.2.map Lvl.enc)=s.2.map Lvl.enc:=take_of_length_le (by simp);have b3:s.2.length+1≤1073741824:=by omega
   have b4:(i:Int)<(ks.length:Int):=by omega
   have e0:(As x es).getD 0=C7 es x:=rfl;simp only [Sx,← hsl,vv,reduceCtorEq,reduceAdd,reduceEqDiff,hx,encI,b3,b4,le_refl,t3,e0,AQ (show i<4611686018427387904 by omega),I4,Rd.Ac];by_cases h:C7 es x=0
   ·simp only [h,beq_self_eq_true,vv,reduceCtorEq,reduceAdd,reduceEqDiff]
   ·simp only [beq_eq_false_iff_ne.2 h,if_neg h,vv,reduceCtorEq,reduceAdd,reduceEqDiff,length_append,map_append,map_cons,map_nil,Lvl.enc]
  ·have hi:=AJ hx;unfold I4 at h;simp only [Rd.next.injEq] at h;subst h;split
   ·omega
   ·simp only [length_append,length_cons,length_nil];omega
  ·have t3:take s.2.length (s.2.map Lvl.enc)=s.2.map Lvl.enc:=take_of_length_le (by simp);simp only [Sx,← hsl,vv,reduceCtorEq,reduceAdd,reduceEqDiff,lt_irrefl,t3]
end Ab
namespace Ab
open Go
theorem Nd {n fr t:Int}:∀{l:List Span},l.Pairwise (fun a b=>a.frm≤b.frm)→∀{g:Span},g∈l→g.frm≤t→fr≤t→t+n≤g.to→∃b,D6 n fr l=some b∧b≤t
 |[],_,g,hg,_,_,_=>by cases hg
 |x::l,hp,g,hg,h1,h2,h3=>by
  rw [pairwise_cons] at hp;unfold D6;have hx:x.frm≤g.frm:=by
   rcases mem_cons.1 hg with rfl|hg
   ·exact Int.le_refl _
   ·exact hp.1 g hg
  have hb:(if fr>x.frm then fr else x.frm)≤t:=by split<;>omega
  by_cases hc:(if fr>x.frm then fr else x.frm)+n≤x.to
  ·rw [if_pos hc];exact ⟨_,rfl,hb⟩
  ·rw [if_neg hc];rcases mem_cons.1 hg with rfl|hg
   ·exact (hc (by omega)).elim
   ·exact Nd hp.2 hg h1 h2 h3
theorem Ro {stop n t:Int} (hn:1≤n):∀(l:List Span) (at_:Int),at_≤t→t+n≤stop→(∀x∈l,x.to≤t∨t+n≤x.frm)→∃g∈BA stop l at_,g.frm≤t∧t+n≤g.to
 |[],at_,h1,h2,_=>by unfold BA;rw [if_pos (by omega)];exact ⟨_,mem_singleton.2 rfl,h1,h2⟩
 |x::l,at_,h1,h2,h3=>by
  unfold BA;rcases h3 x (mem_cons_self ..) with hx|hx
  ·obtain ⟨g,g1,g2⟩:=Ro hn l (if at_<x.to then x.to else at_) (by split<;>omega) h2 fun y hy=>h3 y (mem_cons_of_mem _ hy);exact ⟨g,mem_append_right _ g1,g2⟩
  ·rw [if_pos (by omega)];exact ⟨⟨at_,x.frm⟩,mem_append_left _ (mem_singleton.2 rfl),h1,hx⟩
theorem UA {stop:Int} {l:List Span} {lo at_:Int} (h:Row stop l lo) (hle:lo≤at_):(BA stop l at_).Pairwise fun a b=>a.frm≤b.frm:=by refine (List.Pairwise.and_mem.1 (Gz l lo at_ h hle)).imp fun {a b} hab => ?_;have:=D8 l lo at_ h hle a hab.1;omega
def Ba (s:List Span×Int) (t:Int):List Span×Int:=(if 0≤s.2∧s.2<t then s.1++[⟨s.2,t⟩] else s.1,-1)
def DF (Q size:Int) (s:List Span×Int) (t st:Int):List Span×Int:=if Q-st<size then Ba s t else if s.2<0 then (s.1,t) else s
def Bk (Q size:Int) (s:List Span×Int) (x:Lvl):List Span×Int:=if x.at_<1099511627776 then DF Q size s x.at_ x.val else s
def Ap (Q size:Int) (ls:List Lvl):List Span:=(Ba (ls.foldl (Bk Q size) (DF Q size ([],-1) 0 0)) 1099511627776).1
def Asc (l:List Span) (t:Int):Prop:=l.Pairwise (fun a b=>a.to≤b.frm)∧∀a∈l,0≤a.frm∧a.frm<a.to∧a.to≤t
theorem TN {s:List Span×Int} {t u:Int} (h:Asc s.1 t) (hs:s.2 = -1∨(0≤s.2∧s.2≤t∧∀a∈s.1,a.to≤s.2)) (hu:t≤u):Asc (Ba s u).1 u:=by
 unfold Ba;have h0:Asc s.1 u:=⟨h.1,fun a ha=>by have:=h.2 a ha;omega⟩
 split
 ·rename_i hc;refine ⟨?_,fun a ha => ?_⟩
  ·rw [pairwise_append];refine ⟨h.1,by simp,fun a ha b hb => ?_⟩;cases mem_singleton.1 hb;rcases hs with hs|hs
   ·omega
   ·exact hs.2.2 a ha
  ·rcases mem_append.1 ha with ha|ha
   ·exact h0.2 a ha
   ·cases mem_singleton.1 ha;exact ⟨hc.1,hc.2,Int.le_refl _⟩
 ·exact h0
def Wa (s:List Span×Int) (t:Int):Prop:=Asc s.1 t∧(s.2 = -1∨(0≤s.2∧s.2≤t∧∀a∈s.1,a.to≤s.2))
theorem Sb {Q size st:Int} {s:List Span×Int} {t u:Int} (h:Wa s t) (hu:t≤u) (h0:0≤u):Wa (DF Q size s u st) u:=by
 unfold DF;split
 ·exact ⟨TN h.1 h.2 hu,.inl rfl⟩
 ·split
  ·exact ⟨⟨h.1.1,fun a ha=>by have:=h.1.2 a ha;omega⟩,.inr ⟨h0,Int.le_refl _,fun a ha=>by have:=h.1.2 a ha;omega⟩⟩
  ·rename_i h1 h2;refine ⟨⟨h.1.1,fun a ha=>by have:=h.1.2 a ha;omega⟩,.inr ?_⟩;rcases h.2 with h3|h3
   ·omega
   ·exact ⟨h3.1,by omega,h3.2.2⟩
theorem Jj {Q size:Int}:∀(ls:List Lvl) (s:List Span×Int) (t:Int),Wa s t→0≤t→t≤1099511627776→ls.Pairwise (fun x y=>x.at_<y.at_)→(∀x∈ls,t≤x.at_)→∃u,u≤1099511627776∧Wa (ls.foldl (Bk Q size) s) u
 |[],s,t,h,_,h2,_,_=>⟨t,h2,h⟩
 |x::ls,s,t,h,h0,h2,hp,hl=>by
  rw [pairwise_cons] at hp;have hx:=hl x (mem_cons_self ..);rw [foldl_cons];unfold Bk;split
  ·exact Jj ls _ x.at_ (Sb h hx (by omega)) (by omega) (by omega) hp.2 fun y hy=>le_of_lt (hp.1 y hy)
  ·exact Jj ls _ t h h0 h2 hp.2 fun y hy=>hl y (mem_cons_of_mem _ hy)
theorem Tm {Q size:Int} {ls:List Lvl} (hp:ls.Pairwise fun x y=>x.at_<y.at_) (h0:∀x∈ls,0≤x.at_):Asc (Ap Q size ls) 1099511627776:=by
 have hst:Wa (([],-1):List Span×Int) 0:=⟨⟨by simp,fun a ha=>by cases ha⟩,.inl rfl⟩
 obtain ⟨u,h1,h2⟩:=Jj (Q:=Q) (size:=size) ls _ 0 (Sb (Q:=Q) (size:=size) (st:=0) hst (Int.le_refl _) (Int.le_refl _)) (Int.le_refl _) (by omega) hp h0;exact TN h2.1 h2.2 h1
theorem asc_ne {l:List Span} {t:Int} (h:Asc l t):l.Pairwise fun a b=>a.frm≠b.frm:=by refine (List.Pairwise.and_mem.1 h.1).imp fun {a b} hab => ?_;have:=h.2 a hab.1;omega
end Ab
namespace Ab
open Go
def Bl (q:List Int) (cs:List AA) (r:Rqt):Int:=
 if AY q cs≠0 then 1 else if r.src<0∨(q.length:Int)≤r.src∨r.dst<0∨(q.length:Int)≤r.dst then 2 else if r.src=r.dst then 10
 else if r.size<1∨65536<r.size∨r.ready<0∨r.dead<r.ready∨1099511627776<r.dead then 2 else if r.prio<0∨2<r.prio then 8 else 0
theorem Bx {q:List Int} {cs:List AA} {r:Rqt} (h:Bl q cs r=0):AY q cs=0∧0≤r.src∧r.src<q.length∧0≤r.dst∧r.dst<q.length∧r.src≠r.dst∧1≤r.size∧r.size≤65536∧0≤r.ready∧r.ready≤r.dead∧r.dead≤1099511627776∧0≤r.prio∧r.prio≤2:=by
 unfold Bl at h;split at h
 ·cases h
 ·split at h
  ·cases h
  ·split at h
   ·cases h
   ·split at h
    ·cases h
    ·split at h
     ·cases h
     ·omega
def Bb (q:List Int) (cs:List AA) (bs:List AB) (hs:List AN):Int:=
 if AY q cs≠0 then AY q cs else if Aw q cs bs≠0 then Aw q cs bs else B0 q cs hs
def Dx (q:List Int) (cs:List AA) (bs:List AB) (hs:List AN):Int:=
 if AY q cs≠0 then AY q cs else if Aw q cs bs≠0 then Aw q cs bs else DY q cs hs
theorem OF {q:List Int} {cs:List AA} {bs:List AB} {hs:List AN} (h:Dx q cs bs hs=0):AY q cs=0∧Aw q cs bs=0∧DY q cs hs=0:=by unfold Dx at h;grind
theorem BY {q:List Int} {cs:List AA} {bs:List AB} {hs:List AN} (h:Bb q cs bs hs=0):AY q cs=0∧Aw q cs bs=0∧B0 q cs hs=0:=by unfold Bb at h;grind
theorem KK {q:List Int} {cs:List AA} {bs:List AB} {hs:List AN} (h1:AY q cs=0) (h2:Aw q cs bs=0) (h3:B0 q cs hs=0):Bb q cs bs hs=0:=by unfold Bb;rw [if_neg (by omega),if_neg (by omega),h3]
theorem PV {q:List Int} {cs:List AA} {bs:List AB} {hs:List AN} (h:Dx q cs bs hs=0):Bb q cs bs hs=0:=by obtain ⟨h1,h2,h3⟩:=OF h;exact KK h1 h2 (PZ h3)
theorem Cg {q:List Int} {cs:List AA} (h:AY q cs=0):∀c∈cs,AW c=0∧c.frm<q.length∧c.to<q.length:=fun c hc=>by
 have hp:=h;unfold AY at h;split at h
 ·cases h
 ·split at h
  ·unfold OQ at h;obtain ⟨j,hj,rfl⟩:=mem_iff_getElem.1 hc;have:=Ei (step:=B5 q.length cs) (fun i x r hd=>by
    unfold B5 at hd;split at hd
    ·rename_i hz;cases hd;exact hz
    ·split at hd
     ·cases hd;decide
     ·split at hd
      ·cases hd;decide
      ·cases hd) cs 0 h j cs[j] (getElem?_eq_getElem hj)
   unfold B5 at this;split at this
   ·cases this
   ·split at this
    ·cases this
    ·rename_i h1 h2;exact ⟨by omega,by omega,by omega⟩
  ·cases h
def FJ (bs:List AB):Nat→List AA→List (List Span)
 |_,[]=>[]
 |k,c::l=>BA c.stop (busy bs k) c.start::FJ bs (k+1) l
def Ce (hs:List AN) (size:Int):Nat→List Int→List (List Span)
 |_,[]=>[]
 |n,Q::l=>Ap Q size (levels hs n)::Ce hs size (n+1) l
def gOf (q:List Int) (cs:List AA) (bs:List AB) (hs:List AN) (r:Rqt):Gr:=⟨cs,FJ bs 0 cs,Ce hs r.size 0 q,cs.map fun c=>DJ c r.size,r⟩
theorem Nh (bs:List AB):∀(l:List AA) (k j:Nat),(FJ bs k l).getD j []=match l[j]? with
  |some c=>BA c.stop (busy bs (k+j:Nat)) c.start
  |none=>[]
 |[],k,j=>by simp [FJ]
 |c::l,k,j=>by
  cases j with
  |zero=>simp [FJ]
  |succ j=>
   have:=Nh bs l (k+1) j;simp only [FJ,List.getD_cons_succ,getElem?_cons_succ];rw [this,show k+1+j=k+(j+1) by omega]
theorem Et (hs:List AN) (size:Int):∀(l:List Int) (k j:Nat),(Ce hs size k l)[j]? = (l[j]?).map fun Q=>Ap Q size (levels hs (k+j:Nat))
 |[],k,j=>by simp [Ce]
 |c::l,k,j=>by
  cases j with
  |zero=>simp [Ce]
  |succ j=>
   have:=Et hs size l (k+1) j;simp only [Ce,getElem?_cons_succ];rw [this,show k+1+j=k+(j+1) by omega]
theorem Es (hs:List AN) (size:Int):∀(l:List Int) (k:Nat),(Ce hs size k l).length=l.length
 |[],k=>rfl
 |c::l,k=>by simp [Ce,Es hs size l (k+1)]
theorem NK {q:List Int} {hs:List AN} {size:Int} (hh:GQ q hs=0) (hl:hs.length≤10000):∀l∈Ce hs size 0 q,Asc l 1099511627776:=fun l hm=>by
 obtain ⟨j,hj,rfl⟩:=mem_iff_getElem.1 hm;have h1:=Et hs size q 0 j;rw [getElem?_eq_getElem hj] at h1;cases hQ:q[j]? with
 |none=>rw [hQ] at h1;cases h1
 |some Q=>
  rw [hQ] at h1;rw [Option.some.inj h1];have hs':=FE (HJ hh) hl ((0+j:Nat):Int);exact Tm hs'.2 fun x hx=>(hs'.1 x hx).2.1
theorem MC {q:List Int} {cs:List AA} {bs:List AB} {hs:List AN} {r:Rqt} (ht:Bb q cs bs hs=0) (hr:Bl q cs r=0):GOk (gOf q cs bs hs r) where
 src:=by have:=Bx hr;refine ⟨this.2.1,?_,this.2.2.2.2.2.1⟩;show r.src<((Ce hs r.size 0 q).length:Nat);rw [Es];exact this.2.2.1
 dur:=fun k hk=>by
  have hr':=Bx hr;have hk':k<cs.length:=hk;have:(gOf q cs bs hs r).dur.getD k 0=DJ cs[k] r.size:=by show (cs.map fun c=>DJ c r.size).getD k 0=_;simp [List.getD,hk']
  rw [this];exact G3 (Cg hr'.1 _ (getElem_mem hk')).1 (by omega)
 con:=fun c hc=>by have hr':=Bx hr;obtain ⟨h1,h2,h3⟩:=Cg hr'.1 c hc;have:=A9 h1;refine ⟨by omega,?_,by omega⟩;show c.to<((Ce hs r.size 0 q).length:Nat);rw [Es];exact h3
 room:=fun l hl=>by obtain ⟨_,_,h3⟩:=BY ht;obtain ⟨_,h4,h5⟩:=CY h3;exact asc_ne (NK h5 (by omega) l hl)
def G1 (c:AA) (beg size:Int):Bool:=decide (CV c size=0∧c.start≤beg∧beg≤c.stop-DJ c size)
def T7 (k:Int) (c:AA) (beg size:Int):Hop:=⟨k,beg,beg+DJ c size,beg+DJ c size+c.rng⟩
def Bn (cs:List AA) (r:Rqt) (node time:Int) (h:Hop):Int:=
 if h.con<0∨(cs.length:Int)≤h.con then 2 else match cs[h.con.toNat]? with
  |none=>2
  |some c=>if c.frm≠node∨node=r.dst then 10 else if h.beg<time then 9 else if G1 c h.beg r.size=false then 16 else if h≠T7 h.con c h.beg r.size then 1 else 0
def GX (cs:List AA) (k:Int):Int:=match cs[k.toNat]? with
 |some c=>c.to
 |none=>0
def Sa (cs:List AA) (k:Int):Int:=match cs[k.toNat]? with
 |some c=>c.rng
 |none=>0
def Hn (cs:List AA) (r:Rqt):Int→Int→List Hop→Int
 |_,_,[]=>0
 |node,time,h::l=>if Bn cs r node time h≠0 then Bn cs r node time h else Hn cs r (GX cs h.con) h.arr l
def Bp (q:List Int) (cs:List AA) (r:Rqt) (l:List Hop):Int:=
 if Bl q cs r≠0 then 1 else if l.length=0 then 20 else if l.length>1000 then 4 else if Hn cs r r.src r.ready l≠0 then Hn cs r r.src r.ready l
 else match l.getLast? with
  |none=>0
  |some h=>if GX cs h.con≠r.dst then 18 else if h.arr>r.dead then 16 else 0
def Dj (cs:List AA) (r:Rqt) (h:Hop):Int:=if r.cust then h.stop+2*Sa cs h.con else h.stop
def DI (cs:List AA) (r:Rqt) (ticket:Int):Int→Int→List Hop→List AN
 |_,_,[]=>[]
 |node,fr,h::l=>⟨node,fr,Dj cs r h,r.size,ticket⟩::DI cs r ticket (GX cs h.con) h.beg l
def Ma (ticket:Int) (h:Hop):AB:=⟨h.con,h.beg,h.stop,ticket⟩
def HA (q:List Int) (cs:List AA):List AB→List AB→Option (List AB)
 |cur,[]=>some cur
 |cur,b::l=>if Hp q cs cur b≠0 then none else HA q cs (Mm q cs cur b) l
def Jt (l:List AN) (h:AN):List AN:=Fi (fun x => !Ck x h) h l
def DE (q:List Int) (cs:List AA) (l:List AN) (h:AN):Int:=
 if B0 q cs l≠0 then 1 else if Dk q h=false then 2 else if l.length=512 then 4 else if GP (levels (Jt l h) h.node)>q.getD h.node.toNat 0 then 15 else 0
def H7 (q:List Int) (cs:List AA):List AN→List AN→Bool
 |cur,[]=>true
 |cur,h::l=>if DE q cs cur h≠0 then false else H7 q cs (Jt cur h) l
def GG (sb:List AB→List AB) (sh:List AN→List AN) (q:List Int) (cs:List AA) (bs:List AB) (hs:List AN) (r:Rqt) (l:List Hop):Int:=
 if Bb q cs bs hs≠0 then 1 else if Bp q cs r l≠0 then Bp q cs r l
 else if bs.length+l.length>512∨hs.length+(DI cs r 0 r.src r.ready l).length>512 then 4
 else if (HA q cs bs (sb (l.map (Ma 0)))).isNone then 14 else if H7 q cs hs (sh (DI cs r 0 r.src r.ready l))=false then 15 else 0
end Ab
namespace Ab
open Go
def F3 (t:Int):List Lvl→Int→Int
 |[],V=>V
 |x::l,V=>if x.at_≤t then F3 t l x.val else V
theorem P0 (t:Int):∀(l:List Lvl) (V:Int),F3 t l V=V∨∃x∈l,F3 t l V=x.val
 |[],V =>.inl rfl
 |x::l,V=>by
  unfold F3;split
  ·rcases P0 t l x.val with h|⟨y,h1,h2⟩
   ·exact .inr ⟨x,mem_cons_self ..,h⟩
   ·exact .inr ⟨y,mem_cons_of_mem _ h1,h2⟩
  ·exact .inl rfl
theorem Oa {l:List AN} (hs:Ft l) (hlen:l.length≤10000) {node:Int} {es:List (Int×Int)} (hes:∀t,C7 es t=Cj (dzH node t) l) (t:Int):∀(ts:List Int) (lo s:Int),ts.Pairwise (· < ·)→(∀t∈ts,lo<t)→
  (∀h∈l,h.node=node→(h.frm≤lo∨h.frm∈ts)∧(h.to≤lo∨h.to∈ts))→s=stored l node lo→lo≤t→F3 t (F5 es ts s) s=stored l node t
 |[],lo,s,_,_,hk,hS,hle=>by rw [F5,F3,hS];refine (SV hs hle fun h hh hn => ?_).symm;obtain ⟨h1,h2⟩:=hk h hh hn;simp only [List.not_mem_nil,or_false] at h1 h2;exact ⟨.inl h1,.inl h2⟩
 |u::ts,lo,s,hp,hlo,hk,hS,hle=>by
  rw [pairwise_cons] at hp;have hlt:=hlo u (mem_cons_self ..);have hge:∀x∈u::ts,u≤x:=fun x hx=>by
   rcases mem_cons.1 hx with rfl|hx
   ·exact Int.le_refl _
   ·exact le_of_lt (hp.1 x hx)
  have hnx:=SX hs (node:=node) hlt fun h hh hn=>by obtain ⟨h1,h2⟩:=hk h hh hn;exact ⟨h1.imp id (hge _),h2.imp id (hge _)⟩
  have hk':∀h∈l,h.node=node→(h.frm≤u∨h.frm∈ts)∧(h.to≤u∨h.to∈ts):=fun h hh hn=>by
   obtain ⟨h1,h2⟩:=hk h hh hn;constructor
   ·rcases h1 with h1|h1
    ·exact .inl (by omega)
    ·rcases mem_cons.1 h1 with h1|h1
     ·exact .inl (by omega)
     ·exact .inr h1
   ·rcases h2 with h1|h1
    ·exact .inl (by omega)
    ·rcases mem_cons.1 h1 with h1|h1
     ·exact .inl (by omega)
     ·exact .inr h1
  rw [← hes u] at hnx;by_cases hut:u≤t
  ·unfold F5;by_cases h0:C7 es u=0
   ·rw [if_pos h0];exact Oa hs hlen hes t ts u s hp.2 hp.1 hk' (by omega) hut
   ·have hb:=Ig hs node u;have hb2:=Ig hs node lo;have hw:w64 (s+C7 es u)=stored l node u:=by rw [w64,HG]<;>omega
    rw [if_neg h0,F3,if_pos hut];exact Oa hs hlen hes t ts u _ hp.2 hp.1 hk' hw hut
  ·have hsame:stored l node t=stored l node lo:=SV hs hle fun h hh hn=>by
    obtain ⟨h1,h2⟩:=hk h hh hn;refine ⟨h1.imp id fun h1 => ?_,h2.imp id fun h2 => ?_⟩
    ·have:=hge _ h1;omega
    ·have:=hge _ h2;omega
   rw [hsame,← hS];have hall:∀x∈F5 es (u::ts) s,t<x.at_:=fun x hx=>by have:=((HR hs hlen hes (u::ts) lo s (pairwise_cons.2 hp) hlo hk hS).1 x hx).1;have:=hge _ this;omega
   cases hl:F5 es (u::ts) s with
   |nil=>rfl
   |cons x l'=>
    rw [F3,if_neg];have:=hall x (by rw [hl];exact mem_cons_self ..);omega
theorem NY {l:List AN} (hs:Ft l) (hlen:l.length≤10000) (node:Int) {t:Int} (ht:0≤t):F3 t (levels l node) 0=stored l node t:=by
 obtain ⟨k1,k2⟩:=KS (l:=l) node;have h0:∀t∈Bd ((J3 node l).map (·.1)),-1<t:=fun t ht=>by obtain ⟨h,h1,h2,h3⟩:=(k2 t).1 ht;have:=hs h h1;omega
 exact Oa hs hlen (NX hs hlen node) t (Bd ((J3 node l).map (·.1))) (-1) 0 k1 h0
  (fun h hh hn=>⟨.inr ((k2 _).2 ⟨h,hh,hn,.inl rfl⟩),.inr ((k2 _).2 ⟨h,hh,hn,.inr rfl⟩)⟩) (Uw hs (by omega)).symm (by omega)
theorem PY {l:List AN} (hs:Ft l) (hlen:l.length≤10000) (node:Int) {t:Int} (ht:0≤t):stored l node t≤GP (levels l node):=by
 rw [← NY hs hlen node ht];obtain ⟨h1,h2⟩:=Su (levels l node) 0;rcases P0 t (levels l node) 0 with h|⟨x,h3,h4⟩
 ·rw [h];exact h1
 ·rw [h4];exact h2 x h3
def InR (u v:Int) (l:List Span):Prop:=∃x∈l,x.frm≤u∧v≤x.to
def RFull (Q size:Int) (s:List Span×Int) (V:Int):Prop:=(Q-V<size∧s.2 = -1)∨(¬Q-V<size∧0≤s.2)
theorem InR.app {u v:Int} {l l':List Span} (h:InR u v l):InR u v (l++l'):=by obtain ⟨x,h1,h2⟩:=h;exact ⟨x,mem_append_left _ h1,h2⟩
theorem S4 {u v t:Int} {s:List Span×Int} (h:InR u v s.1∨(0≤s.2∧s.2≤u)) (huv:u<v) (hv:v≤t):InR u v (Ba s t).1:=by
 unfold Ba;rcases h with h|h
 ·simp only;split
  ·exact h.app
  ·exact h
 ·simp only;rw [if_pos ⟨h.1,by omega⟩];exact ⟨_,mem_append_right _ (mem_singleton.2 rfl),h.2,hv⟩
theorem Vh {u v t:Int} {s:List Span×Int} (h:InR u v s.1):InR u v (Ba s t).1:=by
 unfold Ba;simp only;split
 ·exact h.app
 ·exact h
theorem Er {Q size u v:Int} (huv:u<v) (hv:v≤1099511627776):∀(ls:List Lvl) (s:List Span×Int) (T V:Int),0≤T→T≤1099511627776→RFull Q size s V→s.2≤T→ls.Pairwise (fun x y=>x.at_<y.at_)→(∀x∈ls,T≤x.at_)→
  (∀t,u≤t→t<v→T≤t→¬Q-F3 t ls V<size)→(T≤u∨InR u v s.1∨(0≤s.2∧s.2≤u))→InR u v (Ba (ls.foldl (Bk Q size) s) 1099511627776).1
 |[],s,T,V,hT0,hT,hf,hsT,_,_,hV,hc=>by
  rw [List.foldl_nil];refine S4 ?_ huv hv;rcases hc with hc|hc|hc
  ·have:=hV u (Int.le_refl _) huv hc;rw [F3] at this;rcases hf with hf|hf
   ·exact (this hf.1).elim
   ·exact .inr ⟨hf.2,by omega⟩
  ·exact .inl hc
  ·exact .inr hc
 |x::ls,s,T,V,hT0,hT,hf,hsT,hp,hl,hV,hc=>by
  rw [pairwise_cons] at hp;have hx:=hl x (mem_cons_self ..);rw [foldl_cons];unfold Bk;have hu:u<x.at_→T≤u→0≤s.2∧s.2≤u:=fun h1 h2=>by
   have:=hV u (Int.le_refl _) huv h2;rw [F3,if_neg (by omega)] at this;rcases hf with hf|hf
   ·exact (this hf.1).elim
   ·exact ⟨hf.2,by omega⟩
  by_cases hM:x.at_<1099511627776
  ·rw [if_pos hM];have hV':∀t,u≤t→t<v→x.at_≤t→¬Q-F3 t ls x.val<size:=fun t h1 h2 h3=>by have:=hV t h1 h2 (by omega);rwa [F3,if_pos h3] at this
   have hcase:x.at_≤u∨InR u v s.1∨(0≤s.2∧s.2≤u):=by
    by_cases h1:x.at_≤u
    ·exact .inl h1
    ·rcases hc with hc|hc
     ·exact .inr (.inr (hu (by omega) hc))
     ·exact .inr hc
   unfold DF;by_cases hq:Q-x.val<size
   ·rw [if_pos hq];refine Er huv hv ls _ x.at_ x.val (by omega) (by omega) (.inl ⟨hq,rfl⟩) (by show (-1:Int)≤_;rcases hf with hf|hf<;>omega) hp.2 (fun y hy=>le_of_lt (hp.1 y hy)) hV' ?_;rcases hcase with h1|h1|h1
    ·exact .inl h1
    ·exact .inr (.inl (Vh h1))
    ·by_cases h2:x.at_≤u
     ·exact .inl h2
     ·have h3:v≤x.at_:=by
       by_cases h3:v≤x.at_
       ·exact h3
       ·have h4:=hV' x.at_ (by omega) (by omega) (Int.le_refl _);have h5:F3 x.at_ ls x.val=x.val:=by
         cases ls with
         |nil=>rfl
         |cons y l=>
          have:=hp.1 y (mem_cons_self ..);rw [F3,if_neg (by omega)]
        rw [h5] at h4;exact (h4 hq).elim
      exact .inr (.inl (S4 (.inr h1) huv h3))
   ·rw [if_neg hq];by_cases hs0:s.2<0
    ·rw [if_pos hs0];refine Er huv hv ls _ x.at_ x.val (by omega) (by omega) (.inr ⟨hq,?_⟩) (Int.le_refl _) hp.2 (fun y hy=>le_of_lt (hp.1 y hy)) hV' ?_
     ·show 0≤x.at_;omega
     ·rcases hcase with h1|h1|h1
      ·exact .inl h1
      ·exact .inr (.inl h1)
      ·omega
    ·rw [if_neg hs0];refine Er huv hv ls _ x.at_ x.val (by omega) (by omega) (.inr ⟨hq,by omega⟩) (by omega) hp.2 (fun y hy=>le_of_lt (hp.1 y hy)) hV' hcase
  ·rw [if_neg hM];refine Er huv hv ls s T V hT0 hT hf hsT hp.2 (fun y hy=>hl y (mem_cons_of_mem _ hy)) (fun t h1 h2 h3 => ?_) hc;have:=hV t h1 h2 h3;rw [F3,if_neg (by omega)] at this;cases ls with
   |nil=>exact this
   |cons y l=>
    have:=hp.1 y (mem_cons_self ..);rw [F3,if_neg (by omega)];assumption
theorem VB {Q size u v:Int} {ls:List Lvl} (hp:ls.Pairwise fun x y=>x.at_<y.at_) (h0:∀x∈ls,0≤x.at_) (hu:0≤u) (huv:u<v) (hv:v≤1099511627776) (hV:∀t,u≤t→t<v→¬Q-F3 t ls 0<size):InR u v (Ap Q size ls):=by
 unfold Ap;refine Er huv hv ls _ 0 0 (Int.le_refl _) (by omega) ?_ ?_ hp h0 (fun t h1 h2 _=>hV t h1 h2) (.inl hu)
 ·unfold DF RFull Ba;split
  ·rename_i h;exact .inl ⟨h,rfl⟩
  ·rename_i h;refine .inr ⟨h,?_⟩;simp
 ·unfold DF Ba;split
  ·show (-1:Int)≤0;omega
  ·simp
theorem Vf {l:List AN} {h x:AN}:x∈Jt l h↔x=h∨x∈l:=Ey _ h l x
theorem NF (f:AN→Int) (g:AN→Bool) (h:AN):∀(l:List AN),Cj f (Fi g h l)=f h+Cj f l
 |[]=>rfl
 |x::l=>by
  unfold Fi;split
  ·rfl
  ·simp only [Cj,NF f g h l];omega
theorem Te {q:List Int} {cs:List AA} {l:List AN} {h:AN} (ha:DE q cs l h=0):B0 q cs l=0∧Dk q h=true∧l.length<512∧GP (levels (Jt l h) h.node)≤q.getD h.node.toNat 0:=by
 unfold DE at ha;split at ha
 ·cases ha
 ·split at ha
  ·cases ha
  ·split at ha
   ·cases ha
   ·split at ha
    ·cases ha
    ·rename_i h1 h2 h3 h4;have:=(CY (by omega:B0 q cs l=0)).2.1;exact ⟨by omega,by simpa using h2,by omega,by omega⟩
theorem NG {q:List Int} {cs:List AA}:∀(l cur:List AN),H7 q cs cur l=true→∀a∈l,Dk q a=true∧∀t,a.frm≤t→t<a.to→stored cur a.node t+a.size≤q.getD a.node.toNat 0
 |[],_,_,a,ha=>by cases ha
 |h::l,cur,hA,a,ha=>by
  unfold H7 at hA;split at hA
  ·cases hA
  ·rename_i h1;obtain ⟨e1,e2,e3,e4⟩:=Te (by omega:DE q cs cur h=0);obtain ⟨_,e5,e6⟩:=CY e1;have hv:=Fj e2;have hs:=HJ e6;have hs2:Ft (Jt cur h):=fun x hx=>by
    rcases Vf.1 hx with rfl|hx
    ·omega
    ·exact hs x hx
   have hlen:(Jt cur h).length≤10000:=by rw [Jt,I8];omega
   have hadd:∀node t,stored (Jt cur h) node t=stH node t h+stored cur node t:=fun node t=>NF _ _ _ _;rcases mem_cons.1 ha with rfl|ha
   ·refine ⟨e2,fun t h1 h2 => ?_⟩;have h3:=PY hs2 hlen a.node (t:=t) (by omega);rw [hadd] at h3;have h4:stH a.node t a=a.size:=by unfold stH;rw [if_pos ⟨rfl,h1,h2⟩]
    omega
   ·obtain ⟨h2,h3⟩:=NG l _ hA a ha;refine ⟨h2,fun t h4 h5 => ?_⟩;have h6:=h3 t h4 h5;rw [hadd] at h6;have h7:0≤stH a.node t h:=by unfold stH;split<;>omega
    omega
theorem N7 {q:List Int} {cs:List AA}:∀(l cur:List AB),(HA q cs cur l).isSome=true→∀b∈l,CA cs b=true∧∀x∈cur,x.contact=b.contact→b.stop≤x.beg∨x.stop≤b.beg
 |[],_,_,b,hb=>by cases hb
 |a::l,cur,hA,b,hb=>by
  unfold HA at hA;split at hA
  ·cases hA
  ·rename_i h1;have h2:Hp q cs cur a=0:=by omega
   obtain ⟨e1,e2,e3,e4⟩:=add_ok h2;rcases mem_cons.1 hb with rfl|hb
   ·exact ⟨e2,fun x hx hc=>HQ e4 hx hc⟩
   ·obtain ⟨h3,h4⟩:=N7 l _ hA b hb;refine ⟨h3,fun x hx hc=>h4 x ?_ hc⟩;unfold Mm;rw [if_pos h2];exact (Ey _ a cur x).2 (.inr hx)
theorem Kb {l:List AB} {k:Int} {x:Span} (hx:x∈busy l k):∃b∈l,b.contact=k∧x=⟨b.beg,b.stop⟩:=by
 unfold busy at hx;obtain ⟨b,h1,h2⟩:=mem_filterMap.1 hx;split at h2
 ·rename_i h3;exact ⟨b,h1,h3,(Option.some.inj h2).symm⟩
 ·cases h2
theorem FI {cs:List AA} {r:Rqt} {node time:Int} {h:Hop} (hh:Bn cs r node time h=0):∃c,0≤h.con∧cs[h.con.toNat]? = some c∧c.frm=node∧node≠r.dst∧time≤h.beg∧G1 c h.beg r.size=true∧h.stop=h.beg+DJ c r.size∧h.arr=h.beg+DJ c r.size+c.rng∧GX cs h.con=c.to∧Sa cs h.con=c.rng:=by
 unfold Bn at hh;split at hh
 ·cases hh
 ·rename_i h0;cases he:cs[h.con.toNat]? with
  |none=>rw [he] at hh;cases hh
  |some c=>
   rw [he] at hh;simp only at hh;split at hh
   ·cases hh
   ·rename_i h1;split at hh
    ·cases hh
    ·rename_i h2;split at hh
     ·cases hh
     ·rename_i h3;split at hh
      ·cases hh
      ·rename_i h4;have h5:h=T7 h.con c h.beg r.size:=not_not.1 h4;refine ⟨c,by omega,rfl,by omega,by omega,by omega,by simpa using h3,?_,?_,by unfold GX;rw [he],by unfold Sa;rw [he]⟩
       ·rw [h5];rfl
       ·rw [h5];rfl
def Ms (cs:List AA) (bs:List AB) (Ap:List (List Span)) (r:Rqt):Int→Int→Int→List Hop→Prop
 |_,_,_,[]=>True
 |node,fr,time,h::l=>Bn cs r node time h=0∧(∀x∈busy bs h.con,x.to≤h.beg∨h.stop≤x.frm)∧(0≤node∧InR fr (Dj cs r h) (Ap.getD node.toNat []))∧Ms cs bs Ap r (GX cs h.con) h.beg h.arr l
theorem S8 {q:List Int} {cs:List AA} {bs:List AB} {hs:List AN} {r:Rqt} {k:Nat} {c:AA} (hc:cs[k]? = some c):(gOf q cs bs hs r).gaps.getD k []=BA c.stop (busy bs (k:Nat)) c.start∧(gOf q cs bs hs r).dur.getD k 0=DJ c r.size:=by
 constructor
 ·have:=Nh bs cs 0 k;rw [hc,zero_add] at this;exact this
 ·show (cs.map fun c=>DJ c r.size).getD k 0=_;simp [List.getD,hc]
theorem ND {q:List Int} {cs:List AA} {bs:List AB} {hs:List AN} {r:Rqt} (ht:Bb q cs bs hs=0) (hr:Bl q cs r=0):∀(l:List Hop) (node fr time:Int) (x:Lab),Ms cs bs (Ce hs r.size 0 q) r node fr time l→(h:Hop)→l.getLast? = some h→GX cs h.con=r.dst→h.arr≤r.dead→
  x∈labels (gOf q cs bs hs r)→x.node=node→x.time≤time→x.frm≤fr→(∀h∈l.head?,Dj cs r h≤x.to)→
  ∃z∈labels (gOf q cs bs hs r),∃m∈BH (gOf q cs bs hs r) z,m.1.node=r.dst∧m.1.time≤h.arr
 |[],_,_,_,_,_,h,hl,_,_,_,_,_,_,_=>by cases hl
 |a::l,node,fr,time,x,hw,h,hl,hd,hdead,hx,hn,hti,hfr,hlv=>by
  obtain ⟨w1,w2,w3,w4⟩:=hw;obtain ⟨c,c1,c2,c3,c4,c5,c6,c7,c8,c9,c10⟩:=FI w1;have hr':=Bx hr;have hg:=MC ht hr;have inv:=D5 hg;obtain ⟨g1,g2⟩:=S8 (q:=q) (bs:=bs) (hs:=hs) (r:=r) c2;have hcc:=Cg hr'.1 c (mem_of_getElem? c2);have hco:=A9 hcc.1;have hdp:=G3 hcc.1 (n:=r.size) (by omega);have hk:((a.con.toNat:Nat):Int)=a.con:=Int.toNat_of_nonneg c1;unfold G1 at c6;simp only [decide_eq_true_eq] at c6;have hlv':Dj cs r a≤x.to:=hlv a rfl;have hrow:=Fo (Ch (BY ht).2.1).2.2 (k:=a.con) c2 hcc.1;have begin_:∀f,f≤a.beg→∃b,D6 ((gOf q cs bs hs r).dur.getD a.con.toNat 0) f ((gOf q cs bs hs r).gaps.getD a.con.toNat [])=some b∧b≤a.beg:=fun f hf=>by rw [g1,g2,hk];obtain ⟨g,e1,e2,e3⟩:=Ro (stop:=c.stop) hdp (busy bs a.con) c.start (t:=a.beg) c6.2.1 (by omega) (fun y hy=>by have:=w2 y hy;omega);exact Nd (UA hrow (Int.le_refl _)) e1 e2 hf e3
  have hrq:(gOf q cs bs hs r).rq=r:=rfl;have hcs:(gOf q cs bs hs r).cs=cs:=rfl;have hrm:(gOf q cs bs hs r).Ap=Ce hs r.size 0 q:=rfl;have hleave:∀b,b≤a.beg→D4 r c ⟨a.con.toNat,b,b+DJ c r.size,b+DJ c r.size+c.rng⟩≤Dj cs r a:=fun b hb=>by
   unfold D4 Dj;rw [c10];split
   ·simp only;omega
   ·simp only;omega
  cases l with
  |nil=>
   obtain rfl:a=h:=by simpa using hl
   have hrz:(⟨0,1099511627776⟩:Span)∈BG (gOf q cs bs hs r) c.to:=by unfold BG;rw [hrq,if_pos (by omega)];exact mem_singleton.2 rfl
   obtain ⟨b,b1,b2⟩:=begin_ (if (0:Int)>x.time then 0 else x.time) (by
    have hb0:0≤a.beg:=by omega
    split<;>omega)
   refine ⟨x,hx,_,D2.2 ⟨a.con.toNat,c,⟨0,1099511627776⟩,c2,by rw [c3,hn],hrz,VW b1 ?_⟩,?_,?_⟩
   ·rw [hrq,g2];have:=hleave b b2
    rintro (h1|h1|h1)
    ·omega
    ·omega
    ·omega
   ·show c.to=r.dst;omega
   ·show b+_+c.rng≤a.arr;rw [g2];omega
  |cons a2 l=>
   have hl2:(a2::l).getLast? = some h:=by rw [← hl];rfl
   obtain ⟨v1,v2,v3,v4⟩:=w4;obtain ⟨d,d1,d2,d3,d4,d5,d6,d7,d8,d9,d10⟩:=FI v1;rw [c9] at v1 v3 d3 d4;obtain ⟨room,r1,r2,r3⟩:=v3.2;have hcd:=(Cg hr'.1 d (mem_of_getElem? d2))
   have hdo:=A9 hcd.1;have hdp2:=G3 hcd.1 (n:=r.size) (by omega);have hle2:a2.beg<Dj cs r a2:=by unfold Dj;rw [d10];split<;>omega
   have hrz:room∈BG (gOf q cs bs hs r) c.to:=by unfold BG;rw [hrq,if_neg d4,hrm];exact r1
   obtain ⟨b,b1,b2⟩:=begin_ (if room.frm>x.time then room.frm else x.time) (by split<;>omega);have hmv:=VW (g:=gOf q cs bs hs r) (x:=x) (k:=a.con.toNat) (c:=c) (r:=room) b1 (by
    rw [hrq,g2];have:=hleave b b2;have hadead:a2.beg≤h.arr:=by
     have:∀(l:List Hop) (node time:Int),Hn cs r node time l=0→∀h,l.getLast? = some h→time≤h.arr∧∀e∈l.head?,e.beg≤h.arr:=by
      intro l
      induction l with
      |nil=>intro _ _ _ h hh;cases hh
      |cons e l ih=>
       intro node time hw h hh;unfold Hn at hw;split at hw
       ·contradiction
       ·rename_i hz;obtain ⟨c',f1,f2,f3,f4,f5,f6,f7,f8,f9,f10⟩:=FI (by omega:Bn cs r node time e=0);have hcf:=(Cg hr'.1 c' (mem_of_getElem? f2))
        have hcf2:=A9 hcf.1;have hcf3:=G3 hcf.1 (n:=r.size) (by omega);cases l with
        |nil=>
         obtain rfl:e=h:=by simpa using hh
         refine ⟨by omega,fun e' he' => ?_⟩;obtain rfl:e=e':=by simpa using he'
         omega
        |cons e2 l=>
         have hh2:(e2::l).getLast? = some h:=by rw [← hh];rfl
         have:=(ih _ _ hw h hh2).1;refine ⟨by omega,fun e' he' => ?_⟩;obtain rfl:e=e':=by simpa using he'
         omega
     have hwm:∀(l:List Hop) (node fr time:Int),Ms cs bs (Ce hs r.size 0 q) r node fr time l→Hn cs r node time l=0:=by
      intro l
      induction l with
      |nil=>intros;rfl
      |cons e l ih=>
       intro node fr time hw;unfold Hn;rw [if_neg (by rw [hw.1];simp)];exact ih _ _ _ hw.2.2.2
     exact (this (a2::l) c.to a.arr (hwm _ _ a.beg _ ⟨v1,v2,v3,v4⟩) h hl2).2 a2 rfl
    rintro (h1|h1|h1)
    ·omega
    ·omega
    ·have:=h1.2;omega)
   have hm:=D2.2 ⟨a.con.toNat,c,room,c2,by rw [c3,hn],hrz,hmv⟩;obtain ⟨z,z1,z2,z3⟩:=inv.clos x hx _ hm d4;rw [append_nil] at z1;have hzr:=IB hg (inv.reach z (by simpa using z1));have hmr:=NR hg hm d4;have hto:=SZ hg hzr hmr z2;refine ND ht hr (a2::l) c.to a.beg a.arr z ⟨v1,v2,v3,v4⟩ h hl2 hd hdead z1 (congrArg Prod.fst z2) ?_ ?_ fun e he => ?_
   ·refine Int.le_trans z3 ?_;show b+_+c.rng≤a.arr;rw [g2];omega
   ·have:z.frm=room.frm:=congrArg Prod.snd z2;omega
   ·obtain rfl:a2=e:=by simpa using he
    rw [hto];exact r3
end Ab
namespace Ab
open Go
theorem LU {α:Type} {step:Nat→Unit→α→Rd Unit Int} (hd:∀i x r,step i () x = .done r→r≠0) (R:Int):∀(l:List α) (i:Nat),A6 step (fun _=>R) i l ()=if A6 step (fun _=>0) i l ()≠0 then A6 step (fun _=>0) i l () else R
 |[],i=>by simp [A6]
 |x::l,i=>by
  have e:∀R:Int,A6 step (fun _=>R) i (x::l) ()=(step i () x).fin fun s=>A6 step (fun _=>R) (i+1) l s:=fun R=>by rw [A6];cases step i () x<;>rfl
  rw [e,e];cases h:step i () x with
  |done r=>
   have:=hd i x r h;simp only [Rd.fin,ne_eq,this,not_false_eq_true,if_true]
  |next s=>exact LU hd R l (i+1)
theorem Gx {q:List Int} {l:List AN} (i:Nat) (x:AN) (r:Int) (hd:Br q l i () x = .done r):r≠0:=by
 unfold Br at hd;split at hd
 ·cases hd;decide
 ·split at hd
  ·cases hd
  ·split at hd
   ·split at hd
    ·cases hd;decide
    ·cases hd
   ·cases hd
theorem planL {q:List Int} {cs:List AA} (h:AY q cs=0):q.length≤16∧cs.length≤64∧1≤q.length:=by
 unfold AY at h;split at h
 ·cases h
 ·omega
theorem s48 (q:List Int) (cs:List AA) (l:List AN):Ad C 48 [.sl 1 (q.map encI),.sl 7 (cs.map AA.enc),.sl 5 (l.map AN.enc)] [tI (B0 q cs l)]:=by
 refine Ad.of (fun n=>e48 n _ _ _) ?_;refine Ev.rw (T' := ?T') (s41 q cs) (fun n h => ?a) ?b
 case a=>
  simp only [h,vv,reduceCtorEq,reduceAdd,reduceEqDiff];rfl
 case b=>
  by_cases h1:AY q cs=0∧l.length≤512
  ·have hql:=(planL h1.1).1;simp only [h1.1,bne_self_eq_false,(show ¬(512:Int)<l.length by omega),vv,reduceCtorEq,reduceAdd,reduceEqDiff,B0,ne_eq,not_true_eq_false,(show ¬l.length>512 by omega)];refine Ae (fun r=>[tI r]) l (fun i _=>(([.t (tI i)],[]):List AV×Heap)) (Br q l) (fun _=>A6 (E0 l) (fun _=>0) 0 q ()) (fun _ _=>True) () rfl trivial (by rw [LU Gx];rfl)
    (fun i s b hx hI => ?_) (fun _ _ _ _ _ _ _=>trivial) (fun s hI => ?_)
   ·have hi:=AJ hx;by_cases hi0:i=0
    ·subst hi0;refine (s95 q cs b).mono fun n h again => ?_;simp only [vv,reduceCtorEq,reduceAdd,reduceEqDiff,hx,AN.enc,h,AQ (show 0<4611686018427387904 by omega),(show ((0:Nat):Int)<l.length by omega),Br];cases Dk q b<;>simp [AF,Rd.Ah,Rd.Ac]
    ·have hp:l[i-1]? = some l[i-1]:=getElem?_eq_getElem (by omega);refine ((s95 q cs b).and (s96 l[i-1] b)).mono fun n ⟨h,h2⟩ again => ?_;simp only [AN.enc,cons_append,nil_append] at h2;have e1:(i:Int)-1=((i-1:Nat):Int):=by omega
     simp only [vv,reduceCtorEq,reduceAdd,reduceEqDiff,hx,hp,AN.enc,h,h2,AQ (show i<4611686018427387904 by omega),IX (show i<4611686018427387904 by omega) (by omega),(show ((i:Nat):Int)<l.length by omega),Br,if_neg hi0,(show (0:Int)<(i:Int) by omega)];cases Dk q b
     ·simp [AF,Rd.Ah]
     ·have h3:=Nu l[i-1] b;simp only [AF];grind [Rd.Ah,Rd.Ac]
   ·simp only [vv,reduceCtorEq,reduceAdd,reduceEqDiff,lt_irrefl];refine Ev.mono (fun n h again=>h) ?_;refine Ae (fun r=>[tI r]) q (fun i _=>(([.t (tI i)],[]):List AV×Heap)) (E0 l) (fun _=>0) (fun _ _=>True) () rfl trivial rfl
     (fun i s b hx hI => ?_) (fun _ _ _ _ _ _ _=>trivial) (fun s hI=>Ev.of fun n again => ?_)
    ·have hi:=AJ hx;have hll:=F4 l i;refine ((s98 l i (by omega)).and (s97 (levels l i) (by omega))).mono fun n ⟨h,h2⟩ again => ?_;simp only [vv,reduceCtorEq,reduceAdd,reduceEqDiff,hx,encI,h,h2,AQ (show i<4611686018427387904 by omega),(show ((i:Nat):Int)<q.length by omega),E0];by_cases hb:b<GP (levels l i)<;>simp [hb,AF,Rd.Ah,Rd.Ac]
    ·simp only [vv,reduceCtorEq,reduceAdd,reduceEqDiff,lt_irrefl]
  ·refine Ev.of fun n => ?_;simp only [B0];by_cases h2:AY q cs=0
   ·simp only [h2,bne_self_eq_false,(show (512:Int)<l.length by omega),vv,reduceCtorEq,reduceAdd,reduceEqDiff,ne_eq,not_true_eq_false,(show l.length>512 by omega)]
   ·simp [h2,AF]
theorem s111 (q:List Int) (cs:List AA) (l:List AN) (hl:l.length≤10000) (hs:Ft l) (hn:∀h∈l,0≤h.node∧h.node<q.length):Ad C 111 [.sl 1 (q.map encI),.sl 7 (cs.map AA.enc),.sl 5 (l.map AN.enc)] [.bool (Nl q l)]:=by
 refine Ad.of (fun n=>e111 n _ _ _) ?_;refine Ae (fun r=>[Tree.bool r]) l (fun i _=>(([.t (tI i)],[]):List AV×Heap)) (fun i _ x=>if decide (stored l x.node x.frm≤q.getD x.node.toNat 0)=true then .next () else .done false) (fun _=>true) (fun _ _=>True) () rfl trivial ?_
  (fun i s x hx hI => ?_) (fun _ _ _ _ _ _ _=>trivial) (fun s hI=>Ev.of fun n again => ?_)
 ·rw [Il];unfold Nl;cases l.all fun h=>decide (stored l h.node h.frm≤q.getD h.node.toNat 0)<;>rfl
 ·have hi:=AJ hx;have hm:=hn x (mem_of_getElem? hx);have hq:q[x.node.toNat]? = some (q.getD x.node.toNat 0):=by rw [getElem?_eq_getElem (by omega)];simp [List.getD,getElem?_eq_getElem (show x.node.toNat<q.length by omega)]
  refine (s162 l x.node x.frm hl hs).mono fun n h again => ?_;simp only [vv,reduceCtorEq,reduceAdd,reduceEqDiff,hx,hq,AN.enc,encI,h,AQ (show i<4611686018427387904 by omega),(show ((i:Nat):Int)<l.length by omega),hm.1];generalize q.getD x.node.toNat 0=Q;by_cases hb:stored l x.node x.frm≤Q
  ·simp only [hb,(show ¬Q<stored l x.node x.frm by omega),vv,reduceCtorEq,reduceAdd,reduceEqDiff,Rd.Ac]
  ·simp only [hb,(show Q<stored l x.node x.frm by omega),vv,reduceCtorEq,reduceAdd,reduceEqDiff,Rd.Ah]
 ·simp only [vv,reduceCtorEq,reduceAdd,reduceEqDiff,lt_irrefl]
theorem s58 (q:List Int) (cs:List AA) (l:List AN):Ad C 58 [.sl 1 (q.map encI),.sl 7 (cs.map AA.enc),.sl 5 (l.map AN.enc)] [tI (DY q cs l)]:=by
 refine Ad.of (fun n=>e58 n _ _ _) ?_;refine Ev.rw (T' := ?T') (s15 q cs) (fun n h => ?a) ?b
 case a=>
  simp only [h,vv,reduceCtorEq,reduceAdd,reduceEqDiff];rfl
 case b=>
  by_cases h1:AY q cs=0∧l.length≤512
  ·simp only [h1.1,bne_self_eq_false,(show ¬(512:Int)<l.length by omega),vv,reduceCtorEq,reduceAdd,reduceEqDiff,DY,ne_eq,not_true_eq_false,(show ¬l.length>512 by omega)];refine Ae (fun r=>[tI r]) l (fun i _=>(([.t (tI i)],[]):List AV×Heap)) (Br q l) (fun _=>if Nl q l=true then 0 else 15) (fun i _=>∀j x,j<i→l[j]? = some x→Dk q x=true) () rfl (fun j x h=>by omega) (by rw [LU Gx];rfl)
    (fun i s b hx hI => ?_) (fun i s x s' hx hI h => ?_) (fun s hI => ?_)
   ·have hi:=AJ hx;by_cases hi0:i=0
    ·subst hi0;refine (s109 q cs b).mono fun n h again => ?_;simp only [vv,reduceCtorEq,reduceAdd,reduceEqDiff,hx,AN.enc,h,AQ (show 0<4611686018427387904 by omega),(show ((0:Nat):Int)<l.length by omega),Br];cases Dk q b<;>simp [AF,Rd.Ah,Rd.Ac]
    ·have hp:l[i-1]? = some l[i-1]:=getElem?_eq_getElem (by omega);refine ((s109 q cs b).and (s110 b l[i-1])).mono fun n ⟨h,h2⟩ again => ?_;simp only [AN.enc,cons_append,nil_append] at h2;simp only [vv,reduceCtorEq,reduceAdd,reduceEqDiff,hx,hp,AN.enc,h,h2,AQ (show i<4611686018427387904 by omega),IX (show i<4611686018427387904 by omega) (by omega),(show ((i:Nat):Int)<l.length by omega),Br,if_neg hi0,(show (0:Int)<(i:Int) by omega)];have h3:=Nu l[i-1] b;cases Dk q b
     ·simp [AF,Rd.Ah]
     ·simp only [AF];grind [Rd.Ah,Rd.Ac]
   ·intro j y hj hy;rcases lt_or_ge j i with h2|h2
    ·exact hI j y h2 hy
    ·obtain rfl:j=i:=by omega
     rw [hx] at hy;cases hy;unfold Br at h;split at h
     ·cases h
     ·rename_i hv;simpa using hv
   ·have hv:∀x∈l,Dk q x=true:=fun x hx=>by obtain ⟨j,hj,rfl⟩:=mem_iff_getElem.1 hx;exact hI j _ hj (getElem?_eq_getElem hj)
    refine (s111 q cs l (by omega) (fun x hx=>by have:=Fj (hv x hx);omega) (fun x hx=>by have:=Fj (hv x hx);omega)).mono fun n h again => ?_;simp only [vv,reduceCtorEq,reduceAdd,reduceEqDiff,lt_irrefl,h];cases Nl q l<;>simp [AF]
  ·refine Ev.of fun n => ?_;simp only [DY];by_cases h2:AY q cs=0
   ·simp only [h2,bne_self_eq_false,(show (512:Int)<l.length by omega),vv,reduceCtorEq,reduceAdd,reduceEqDiff,ne_eq,not_true_eq_false,(show l.length>512 by omega)]
   ·simp [h2,AF]
end Ab
namespace Ab
open Go
def RG (i:Nat) (s:List Span×Int):List AV×Heap:=([.t (tI i)],[.row false s.1.length 2 (s.1.map Span.enc),.box [.sref 0 s.1.length 0 s.1.length],.box [.t (tI s.2)],.box [.func (.func 145) [] [.ptr 2 0,.ptr 1 0]]])
theorem Io (Q size:Int) (s:List Span×Int) (x:Lvl):(Bk Q size s x).1.length≤s.1.length+1:=by
 unfold Bk DF Ba;split
 ·split
  ·simp only;split<;>simp
  ·split<;>simp
 ·simp
theorem s85 (q:List Int) (cs:List AA) (l:List AN) (h0:B0 q cs l=0) (node:Nat) (Q:Int) (hq:q[node]? = some Q) (size:Int) (z1:1≤size) (z2:size≤65536) :
  Ad C 85 [.sl 1 (q.map encI),.sl 7 (cs.map AA.enc),.sl 5 (l.map AN.enc),tI node,tI size] [.sl 2 ((Ap Q size (levels l node)).map Span.enc),tI 0]:=by
 obtain ⟨p1,p2,p3⟩:=CY h0;have hs:=HJ p3;have hql:=(planL p1).1;have hQ:=Is p1 Q (mem_of_getElem? hq);have hn:=AJ hq;have hlev:=(FE hs (by omega) node).1;have hll:=F4 l node;refine Ad.of (fun n=>e85 n _ _ _ _ _) ?_;refine Ev.rw (T' := ?T') ((s48 q cs l).and (s98 l node (by omega))) (fun n h => ?a) ?b
 case a=>
  simp only [h.1,h.2,vv,reduceCtorEq,reduceAdd,reduceEqDiff,h0,bne_self_eq_false,hq,encI,(show ¬(node:Int)<0 by omega),(show ¬(q.length:Int)≤(node:Int) by omega),(show ¬size<1 by omega),(show ¬65536<size by omega)];rfl
 case b=>
  have hv:∀(i:Nat) (x:Lvl),(levels l node)[i]? = some x→0≤x.at_∧0≤x.val∧x.val≤33554432:=fun i x hx=>by have h1:=hlev x (mem_of_getElem? hx);have h2:=Ig hs node x.at_;refine ⟨h1.2.1,by omega,by omega⟩
  have w0:w64 (Q-0)=Q-0:=Ay (by omega) (by omega);have hstep:∀(i:Nat) (s:List Span×Int) (x:Lvl),(levels l node)[i]? = some x→s.1.length≤i+1∧(s.2 = -1∨0≤s.2)→(Bk Q size s x).1.length≤i+1+1∧((Bk Q size s x).2 = -1∨0≤(Bk Q size s x).2):=fun i s x hx hI=>by
   have h1:=Io Q size s x;have h2:=hv i x hx;refine ⟨by omega,?_⟩;unfold Bk DF Ba;split
   ·split
    ·exact .inl rfl
    ·split
     ·exact .inr h2.1
     ·exact hI.2
   ·exact hI.2
  rw [w0];have hrun:∀(s:List Span×Int),A6 (fun _ (s:List Span×Int) (x:Lvl)=>(.next (Bk Q size s x):Rd (List Span×Int) (List Span))) (fun s=>(Ba s 1099511627776).1) 0 (levels l node) s=(Ba ((levels l node).foldl (Bk Q size) s) 1099511627776).1:=fun s=>by rw [Bg]
  by_cases hc:Q-0<size
  all_goals
   simp only [hc,vv,reduceCtorEq,reduceAdd,reduceEqDiff];refine Ae (fun (r:List Span)=>[Tree.sl 2 (r.map Span.enc),tI 0]) (levels l node) RG (fun _ s x =>.next (Bk Q size s x)) (fun s=>(Ba s 1099511627776).1) (fun i s=>s.1.length≤i+1∧(s.2 = -1∨0≤s.2)) (DF Q size ([],-1) 0 0) ?_ ?_ (hrun _)
    (fun i s x hx hI=>Ev.of fun n again => ?_) (fun i s x s' hx hI h => ?_) (fun s hI=>Ev.of fun n again => ?_)
   ·simp only [DF,hc,if_true,if_false,Ba];rfl
   ·simp only [DF,hc,if_true,if_false,Ba];simp
   ·have hi:=AJ hx;have hvx:=hv i x hx;have b1:s.1.length+1≤1073741824:=by omega
    have t3:take s.1.length (s.1.map Span.enc)=s.1.map Span.enc:=take_of_length_le (by simp);have w1:w64 (Q-x.val)=Q-x.val:=Ay (by omega) (by omega);simp only [RG,vv,reduceCtorEq,reduceAdd,reduceEqDiff,hx,Lvl.enc,hq,encI,w1,b1,t3,le_refl,AQ (show i<4611686018427387904 by omega),(show (i:Int)<(levels l node).length by omega),Rd.Ac,Bk,DF,Ba];by_cases k1:x.at_<1099511627776
    ·by_cases k2:Q-x.val<size
     ·by_cases k3:0≤s.2
      ·by_cases k4:s.2<x.at_
       ·simp only [k1,k2,k3,k4,vv,reduceCtorEq,reduceAdd,reduceEqDiff,length_append,map_append,map_cons,map_nil,Span.enc]
       ·simp only [k1,k2,k3,k4,vv,reduceCtorEq,reduceAdd,reduceEqDiff]
      ·simp only [k1,k2,k3,vv,reduceCtorEq,reduceAdd,reduceEqDiff]
     ·by_cases k3:s.2<0
      ·simp only [k1,k2,k3,vv,reduceCtorEq,reduceAdd,reduceEqDiff]
      ·simp only [k1,k2,k3,vv,reduceCtorEq,reduceAdd,reduceEqDiff]
    ·simp only [k1,vv,reduceCtorEq,reduceAdd,reduceEqDiff]
   ·have hi:=AJ hx;simp only [Rd.next.injEq] at h;subst h;exact hstep i s x hx hI
   ·have b1:s.1.length+1≤1073741824:=by omega
    have t3:take s.1.length (s.1.map Span.enc)=s.1.map Span.enc:=take_of_length_le (by simp);simp only [RG,vv,reduceCtorEq,reduceAdd,reduceEqDiff,lt_irrefl,b1,t3,le_refl,Ba];by_cases k3:0≤s.2
    ·by_cases k4:s.2<1099511627776
     ·have t4:take (s.1.length+1) (s.1.map Span.enc++[[tI s.2,tI 1099511627776]])=s.1.map Span.enc++[[tI s.2,tI 1099511627776]]:=take_of_length_le (by simp);simp only [k3,k4,vv,reduceCtorEq,reduceAdd,reduceEqDiff,map_append,map_cons,map_nil,Span.enc,t4]
     ·simp only [k3,k4,vv,reduceCtorEq,reduceAdd,reduceEqDiff]
    ·simp only [k3,vv,reduceCtorEq,reduceAdd,reduceEqDiff]
theorem Lx {a b c:AN} (h1:Ck b a=false) (h2:Ck c b=false):Ck c a=false:=by unfold Ck at *;grind
theorem Vb {x y h:AN} (h1:Ck y x=false) (h2:Ck y h=true):Ck x h=true:=by unfold Ck at *;grind
theorem QO {q:List Int} {l:List AN} (h:GQ q l=0) (b:AN):Down (fun x=>Ck x b) l:=by
 have hnx:∀j x,l[j]? = some x→Br q l (0+j) () x = .next ():=Ei (step:=Br q l) (fun i x r hd=>Gx i x r hd) l 0 h;have hp:l.Pairwise fun a b=>Ck b a=false:=D1 (R:=fun a b=>Ck b a=false) (fun a b c h1 h2=>Lx h1 h2) l fun j x y hx hy=>by
  have:=hnx (j+1) y hy;unfold Br at this;split at this
  ·cases this
  ·rw [if_neg (by omega)] at this;rw [show 0+(j+1)-1=j by omega,hx] at this;simp only at this;split at this
   ·cases this
   ·rename_i hc;simpa using hc
 intro i j x y hij hx hy hlt;rcases lt_or_ge i j with h1|h1
 ·exact Vb (List.pairwise_iff_getElem.1 hp i j (AJ hx) (AJ hy) h1 |> fun e=>by have e1:=List.getElem?_eq_some_iff.1 hx;have e2:=List.getElem?_eq_some_iff.1 hy;obtain ⟨_,e1⟩:=e1;obtain ⟨_,e2⟩:=e2;rw [e1,e2] at e;exact e) hlt
 ·obtain rfl:i=j:=by omega
  rw [hx] at hy;cases hy;exact hlt
theorem insH_eq {q:List Int} {l:List AN} (h:GQ q l=0) (b:AN):Jt l b=l.take (l.countP fun x=>Ck x b)++b::l.drop (l.countP fun x=>Ck x b):=by unfold Jt;rw [Og];obtain ⟨h1,h2⟩:=G5 (QO h b);rw [h1,h2];simp
def NA (q:List Int) (cs:List AA) (l:List AN) (h:AN):List AN:=if DE q cs l h=0 then Jt l h else []
def SI (q:List Int) (b:AN) (l:List AN):List AN×Int:=if GP (levels l b.node)>q.getD b.node.toNat 0 then ([],15) else (l,0)
theorem s51 (q:List Int) (cs:List AA) (l:List AN) (b:AN) :
  Ad C 51 [.sl 1 (q.map encI),.sl 7 (cs.map AA.enc),.sl 5 (l.map AN.enc),tI b.node,tI b.frm,tI b.to,tI b.size,tI b.ticket] [.sl 5 ((NA q cs l b).map AN.enc),tI (DE q cs l b)]:=by
 refine Ad.of (fun n=>e51 n _ _ _ _ _ _ _ _) ?_;by_cases h0:B0 q cs l=0
 ·obtain ⟨p1,p2,p3⟩:=CY h0;cases hv:Dk q b with
  |false=>
   refine ((s48 q cs l).and (s95 q cs b)).mono fun n h => ?_;simp only [h.1,h.2,vv,reduceCtorEq,reduceAdd,reduceEqDiff,h0,hv,bne_self_eq_false];simp [NA,DE,h0,hv]
  |true=>
   by_cases hl:l.length=512
   ·refine ((s48 q cs l).and (s95 q cs b)).mono fun n h => ?_;simp only [h.1,h.2,vv,reduceCtorEq,reduceAdd,reduceEqDiff,h0,hv,bne_self_eq_false,hl];simp [NA,DE,h0,hv,hl,AF]
   ·have hvb:=Fj hv;have hq:q[b.node.toNat]? = some (q.getD b.node.toNat 0):=by rw [getElem?_eq_getElem (by omega)];simp [List.getD,getElem?_eq_getElem (show b.node.toNat<q.length by omega)]
    have hr:([.sl 5 ((NA q cs l b).map AN.enc),tI (DE q cs l b)]:List Tree)=(fun r:List AN×Int=>[Tree.sl 5 (r.1.map AN.enc),tI r.2]) ((fun k:Nat=>SI q b (l.take k++b::l.drop k)) (l.countP fun x=>Ck x b)):=by simp only [← insH_eq p3,NA,DE,h0,hv,hl,SI];generalize q.getD b.node.toNat 0=Q;by_cases hm:GP (levels (Jt l b) b.node)>Q<;>simp only [hm]<;>simp
    rw [hr];refine Ev.rw (T' := ?T') ((s48 q cs l).and (s95 q cs b)) (fun n h => ?a) ?b
    case a=>
     simp only [h.1,h.2,vv,reduceCtorEq,reduceAdd,reduceEqDiff,h0,hv,bne_self_eq_false,(show ((l.length:Int)==512)=false by simp;omega)];rfl
    case b=>
     refine TK (fun r:List AN×Int=>[Tree.sl 5 (r.1.map AN.enc),tI r.2]) (fun x=>Ck x b) l (fun k:Nat=>SI q b (l.take k++b::l.drop k)) (fun s=>(([.t (tI s.1),.t (tI s.2)],[]):List AV×Heap)) (QO p3 b) (by simp)
      (fun s h1 h2 h3 => ?_)
     obtain ⟨a,c⟩:=s;simp only at h1 h2 h3;by_cases hac:a<c
     ·have hm:l[(a+c) / 2]? = some l[(a+c) / 2]:=getElem?_eq_getElem (by omega);refine (s96 l[(a+c) / 2] b).mono fun n h again => ?_;simp only [AN.enc,cons_append,nil_append] at h;simp only [vv,reduceCtorEq,reduceAdd,reduceEqDiff,halfU a c (by omega),hm,AN.enc,h,(show (a:Int)<(c:Int) by omega),E4,if_pos hac,cmpH_lt,AQ (show (a+c) / 2<4611686018427387904 by omega)];cases Ck l[(a+c) / 2] b<;>simp [AF,Rd.Ac]
     ·have ho:E4 (fun x=>Ck x b) l (fun k:Nat=>SI q b (l.take k++b::l.drop k)) (a,c)= .done (SI q b (l.take a++b::l.drop a)):=by simp [E4,hac]
      rw [ho];have hcl:=U7 (l.map AN.enc) (by simp;omega);have hlen:l.length+1≤1073741824:=by omega
      have ha:(a:Int)≤(l.length:Int):=by omega
      have hb:(l.take a++b::l.drop a).map AN.enc=take a (List.map AN.enc l)++[[tI b.node,tI b.frm,tI b.to,tI b.size,tI b.ticket]]++drop a (List.map AN.enc l):=by simp [AN.enc,map_take,map_drop]
      have e1:∀x:List Tree,take (l.length+1) (take a (List.map AN.enc l)++[x]++drop a (List.map AN.enc l))=take a (List.map AN.enc l)++[x]++drop a (List.map AN.enc l):=fun x=>take_of_length_le (by simp;omega);generalize hL:l.take a++b::l.drop a=L at hb ⊢;have hLl:L.length=l.length+1:=by rw [← hL];simp;omega
      have hlev:=s98 L b.node (by omega);have hll:=F4 L b.node;have hmo:=s97 (levels L b.node) (by omega);rw [hb] at hlev;by_cases hal:a<l.length
      ·have hm:l[a]? = some l[a]:=getElem?_eq_getElem hal;refine ((s96 l[a] b).and (hcl.and (hlev.and hmo))).mono fun n h again => ?_;obtain ⟨h,k,k2,k3⟩:=h;simp only [AN.enc,cons_append,nil_append] at h;simp only [vv,reduceCtorEq,reduceAdd,reduceEqDiff,hm,AN.enc,h,k,(show ¬(a:Int)<(c:Int) by omega),(show (a:Int)<(l.length:Int) by omega),Rd.Ah,hlen,ha,e1,k2,k3,hq,encI,hvb.1,SI,hb,(show (5:Nat)≠1 by decide),ne_eq,not_false_eq_true];generalize q.getD b.node.toNat 0=Q;by_cases hc:Q<GP (levels L b.node)
       ·simp only [hc,vv,reduceCtorEq,reduceAdd,reduceEqDiff,map_nil]
       ·simp only [hc,vv,reduceCtorEq,reduceAdd,reduceEqDiff,hb]
      ·refine (hcl.and (hlev.and hmo)).mono fun n h again => ?_;obtain ⟨k,k2,k3⟩:=h;simp only [vv,reduceCtorEq,reduceAdd,reduceEqDiff,k,(show ¬(a:Int)<(c:Int) by omega),(show ¬(a:Int)<(l.length:Int) by omega),Rd.Ah,hlen,ha,e1,k2,k3,hq,encI,hvb.1,SI,hb,(show (5:Nat)≠1 by decide),ne_eq,not_false_eq_true];generalize q.getD b.node.toNat 0=Q;by_cases hc:Q<GP (levels L b.node)
       ·simp only [hc,vv,reduceCtorEq,reduceAdd,reduceEqDiff,map_nil]
       ·simp only [hc,vv,reduceCtorEq,reduceAdd,reduceEqDiff,hb]
 ·refine (s48 q cs l).mono fun n h => ?_;simp only [h,vv,reduceCtorEq,reduceAdd,reduceEqDiff];simp [NA,DE,h0,AF]
end Ab
namespace Ab
open Go
theorem s17 (q:List Int) (cs:List AA) (bs:List AB) (hs:List AN):Ad C 17 [.sl 1 (q.map encI),.sl 7 (cs.map AA.enc),.sl 4 (bs.map AB.enc),.sl 5 (hs.map AN.enc)] [tI (Bb q cs bs hs)]:=by refine Ad.of (fun n=>e17 n _ _ _ _) ?_;refine ((s41 q cs).and ((s13 q cs bs).and (s48 q cs hs))).mono fun n ⟨h1,h2,h3⟩=> ?_;simp only [h1,h2,h3,vv,reduceCtorEq,reduceAdd,reduceEqDiff,Bb,bne_iff_ne,Eo]
theorem s24 (q:List Int) (cs:List AA) (bs:List AB) (hs:List AN):Ad C 24 [.sl 1 (q.map encI),.sl 7 (cs.map AA.enc),.sl 4 (bs.map AB.enc),.sl 5 (hs.map AN.enc)] [tI (Dx q cs bs hs)]:=by refine Ad.of (fun n=>e24 n _ _ _ _) ?_;refine ((s15 q cs).and ((s57 q cs bs).and (s58 q cs hs))).mono fun n ⟨h1,h2,h3⟩=> ?_;simp only [h1,h2,h3,vv,reduceCtorEq,reduceAdd,reduceEqDiff,Dx,bne_iff_ne,Eo]
theorem s71 (q:List Int) (cs:List AA) (r:Rqt):Ad C 71 [.sl 1 (q.map encI),.sl 7 (cs.map AA.enc),tI r.src,tI r.dst,tI r.size,tI r.ready,tI r.dead,tI r.prio,.bool r.cust] [tI (Bl q cs r)]:=by refine Ad.of (fun n=>e71 n _ _ _ _ _ _ _ _ _) ?_;refine (s41 q cs).mono fun n h1 => ?_;simp only [h1,vv,reduceCtorEq,reduceAdd,reduceEqDiff,Bl,bne_iff_ne,beq_iff_eq,Eo];congr 3;omega
theorem s25 (q:List Int) (cs:List AA) (r:Rqt):Ad C 25 [.sl 1 (q.map encI),.sl 7 (cs.map AA.enc),tI r.src,tI r.dst,tI r.size,tI r.ready,tI r.dead,tI r.prio,.bool r.cust] [tI (Bl q cs r)]:=by refine Ad.of (fun n=>e25 n _ _ _ _ _ _ _ _ _) ?_;refine (s15 q cs).mono fun n h1 => ?_;simp only [h1,vv,reduceCtorEq,reduceAdd,reduceEqDiff,Bl,bne_iff_ne,beq_iff_eq,Eo];congr 3;omega
theorem s197 (c:AA) (hc:AW c=0) (beg n:Int) (h0:0≤n) (h1:n≤65536):Ad C 197 (c.enc++[tI beg,tI n]) [.bool (decide (c.start≤beg∧beg≤c.stop-DJ c n))]:=by have o:=A9 hc;have d:=E1 hc h0 h1;refine Ad.of (fun m=>e197 m _ _ _ _ _ _ _ _ _) ?_;refine (s144 c hc n h0 h1).mono fun m k1 => ?_;simp only [AA.enc,cons_append,nil_append] at k1;simp only [k1,vv,reduceCtorEq,reduceAdd,reduceEqDiff,Ay (x:=c.stop-DJ c n) (by omega) (by omega)];by_cases hb:c.start≤beg<;>simp [hb,AF]
theorem s157 (c:AA) (beg n:Int):Ad C 157 (c.enc++[tI beg,tI n]) [.bool (G1 c beg n)]:=by
 refine Ad.of (fun m=>e157 m _ _ _ _ _ _ _ _ _) ?_;by_cases hd:CV c n=0
 ·have hcn:AW c=0∧1≤n∧n≤65536:=by
   unfold CV at hd;split at hd
   ·cases hd
   ·split at hd
    ·omega
    ·cases hd
  refine ((s143 c n).and (s197 c hcn.1 beg n (by omega) hcn.2.2)).mono fun m ⟨k1,k2⟩=> ?_;simp only [AA.enc,cons_append,nil_append] at k1 k2;simp only [k1,k2,vv,reduceCtorEq,reduceAdd,reduceEqDiff,hd,beq_self_eq_true,G1]
 ·refine (s143 c n).mono fun m k1 => ?_;simp only [AA.enc,cons_append,nil_append] at k1;simp only [k1,vv,reduceCtorEq,reduceAdd,reduceEqDiff,beq_eq_false_iff_ne.2 hd,G1,hd]
theorem s158 (q:List Int) (cs:List AA) (r:Rqt) (k:Int) (c:AA) (hk:0≤k) (hc:cs[k.toNat]? = some c) (beg:Int) (hf:G1 c beg r.size=true):Ad C 158 [.sl 1 (q.map encI),.sl 7 (cs.map AA.enc),tI r.src,tI r.dst,tI r.size,tI r.ready,tI r.dead,tI r.prio,.bool r.cust,tI k,tI beg] (T7 k c beg r.size).enc:=by
 unfold G1 at hf;simp only [decide_eq_true_eq] at hf;have hcn:AW c=0∧1≤r.size∧r.size≤65536:=by
  have hd:=hf.1;unfold CV at hd;split at hd
  ·cases hd
  ·split at hd
   ·omega
   ·cases hd
 have o:=A9 hcn.1;have d:=E1 hcn.1 (n:=r.size) (by omega) hcn.2.2;refine Ad.of (fun m=>e158 m _ _ _ _ _ _ _ _ _ _ _) ?_;refine (s84 c r.size).mono fun m k1 => ?_;simp only [AA.enc,cons_append,nil_append,hf.1,if_true] at k1;simp only [k1,vv,reduceCtorEq,reduceAdd,reduceEqDiff,hc,AA.enc,hk,Ay (x:=beg+DJ c r.size) (by omega) (by omega),Ay (x:=beg+DJ c r.size+c.rng) (by omega) (by omega),T7,Hop.enc]
theorem s100 (q:List Int) (cs:List AA) (r:Rqt) (node time:Int) (h:Hop):Ad C 100 [.sl 1 (q.map encI),.sl 7 (cs.map AA.enc),tI r.src,tI r.dst,tI r.size,tI r.ready,tI r.dead,tI r.prio,.bool r.cust,tI node,tI time,tI h.con,tI h.beg,tI h.stop,tI h.arr] [tI (Bn cs r node time h)]:=by
 refine Ad.of (fun m=>e100 m _ _ _ _ _ _ _ _ _ _ _ _ _ _ _) ?_;by_cases h0:h.con<0∨(cs.length:Int)≤h.con
 ·refine Ev.of fun m => ?_;simp only [Bn,if_pos h0,AF,length_map];grind
 ·have hlt:h.con.toNat<cs.length:=by omega
  have hc:cs[h.con.toNat]? = some cs[h.con.toNat]:=getElem?_eq_getElem hlt;generalize cs[h.con.toNat]=c at hc;simp only [Bn,if_neg h0,hc];by_cases h1:c.frm≠node∨node=r.dst
  ·refine Ev.of fun m => ?_;simp only [if_pos h1,vv,reduceCtorEq,reduceAdd,reduceEqDiff,hc,AA.enc,(show ¬h.con<0 by omega),(show ¬(cs.length:Int)≤h.con by omega),(show 0≤h.con by omega),AF,bne_iff_ne,beq_iff_eq];grind
  ·have h1':c.frm=node∧¬node=r.dst:=by simp only [not_or,ne_eq,not_not] at h1;exact h1
   simp only [if_neg h1];by_cases h2:h.beg<time
   ·refine Ev.of fun m => ?_;simp only [h2,vv,reduceCtorEq,reduceAdd,reduceEqDiff,hc,AA.enc,(show ¬h.con<0 by omega),(show ¬(cs.length:Int)≤h.con by omega),(show 0≤h.con by omega),h1'.1,bne_self_eq_false,beq_eq_false_iff_ne.2 h1'.2]
   ·cases h3:G1 c h.beg r.size with
    |false=>
     refine (s157 c h.beg r.size).mono fun m k => ?_;simp only [AA.enc,cons_append,nil_append,h1'.1] at k;simp only [h2,k,h3,vv,reduceCtorEq,reduceAdd,reduceEqDiff,hc,AA.enc,(show ¬h.con<0 by omega),(show ¬(cs.length:Int)≤h.con by omega),(show 0≤h.con by omega),h1'.1,bne_self_eq_false,beq_eq_false_iff_ne.2 h1'.2]
    |true=>
     refine ((s157 c h.beg r.size).and (s158 q cs r h.con c (by omega) hc h.beg h3)).mono fun m ⟨k,k2⟩=> ?_;simp only [AA.enc,cons_append,nil_append,h1'.1] at k;simp only [h2,k,k2,h3,vv,reduceCtorEq,reduceAdd,reduceEqDiff,hc,AA.enc,Hop.enc,(show ¬h.con<0 by omega),(show ¬(cs.length:Int)≤h.con by omega),(show 0≤h.con by omega),h1'.1,bne_self_eq_false,beq_eq_false_iff_ne.2 h1'.2,Eo];congr 3;generalize T7 h.con c h.beg r.size=z;obtain ⟨z1,z2,z3,z4⟩:=z;obtain ⟨y1,y2,y3,y4⟩:=h;simp only [Hop.mk.injEq,ne_eq,not_eq_true',Bool.and_eq_false_iff,beq_eq_false_iff_ne];by_cases j1:y1=z1<;>by_cases j2:y2=z2<;>by_cases j3:y3=z3<;>by_cases j4:y4=z4<;>simp [j1,j2,j3,j4]
end Ab
namespace Ab
open Go
def HH (cs:List AA) (r:Rqt) (_:Nat) (s:Int×Int) (h:Hop):Rd (Int×Int) Int:=if Bn cs r s.1 s.2 h≠0 then .done (Bn cs r s.1 s.2 h) else .next (GX cs h.con,h.arr)
theorem SR (cs:List AA) (r:Rqt) (R:Int):∀(l:List Hop) (i:Nat) (node time:Int),A6 (HH cs r) (fun _=>R) i l (node,time)=if Hn cs r node time l≠0 then Hn cs r node time l else R
 |[],i,node,time=>by simp [A6,Hn]
 |h::l,i,node,time=>by
  unfold A6 HH Hn;simp only;by_cases hc:Bn cs r node time h≠0
  ·simp only [if_pos hc]
  ·simp only [if_neg hc];exact SR cs r R l (i+1) _ _
theorem Oi {cs:List AA} {r:Rqt} {node time:Int} {h:Hop} (hc:Bn cs r node time h=0):0≤h.con∧h.con<cs.length∧∃c,cs[h.con.toNat]? = some c∧GX cs h.con=c.to∧G1 c h.beg r.size=true∧h=T7 h.con c h.beg r.size:=by
 unfold Bn at hc;split at hc
 ·cases hc
 ·split at hc
  ·cases hc
  ·rename_i h1 c h2;refine ⟨by omega,by omega,c,h2,by simp only [GX,h2],?_⟩;split at hc
   ·cases hc
   ·split at hc
    ·cases hc
    ·split at hc
     ·cases hc
     ·split at hc
      ·cases hc
      ·rename_i g1 g2 g3 g4;exact ⟨by simpa using g3,not_not.1 g4⟩
def Sy (cs:List AA) (r:Rqt) (l:List Hop):Int:=match l.getLast? with
 |none=>0
 |some h=>if GX cs h.con≠r.dst then 18 else if h.arr>r.dead then 16 else 0
theorem s49 (q:List Int) (cs:List AA) (r:Rqt) (l:List Hop):Ad C 49 [.sl 1 (q.map encI),.sl 7 (cs.map AA.enc),tI r.src,tI r.dst,tI r.size,tI r.ready,tI r.dead,tI r.prio,.bool r.cust,.sl 4 (l.map Hop.enc)] [tI (Bp q cs r l)]:=by
 refine Ad.of (fun n=>e49 n _ _ _ _ _ _ _ _ _ _) ?_;refine Ev.rw (T' := ?T') (s71 q cs r) (fun n h => ?a) ?b
 case a=>
  simp only [h,vv,reduceCtorEq,reduceAdd,reduceEqDiff];rfl
 case b=>
  by_cases h1:Bl q cs r=0∧l.length≠0∧l.length≤1000
  ·have hlen:=h1.2.1;have hlast:l.getLast? = some l[l.length-1]:=by rw [List.getLast?_eq_getElem?,getElem?_eq_getElem (by omega)]
   have hle:l[l.length-1]? = some l[l.length-1]:=getElem?_eq_getElem (by omega);have e1:w64 ((l.length:Int)-1)=((l.length-1:Nat):Int):=by rw [Ay (by omega) (by omega)];omega
   simp only [h1.1,bne_self_eq_false,(show ¬(1000:Int)<l.length by omega),(show ((l.length:Int)==0)=false from beq_eq_false_iff_ne.2 (by omega)),vv,reduceCtorEq,reduceAdd,reduceEqDiff,e1];have hr:Bp q cs r l=A6 (HH cs r) (fun _=>Sy cs r l) 0 l (r.src,r.ready):=by
    rw [SR];unfold Bp Sy;rw [if_neg (by omega),if_neg (by omega),if_neg (by omega)]
    try rfl
   refine Ae (fun r=>[tI r]) l (fun i (s:Int×Int)=>(([.t (tI i)],[.box [.t (tI 0)],.box [],.box [.t (tI s.1),.t (tI s.2)]]):List AV×Heap)) (HH cs r) (fun _=>Sy cs r l)
    (fun i s=>i≤l.length∧∀h,0<i→l[i-1]? = some h→0≤h.con∧h.con<cs.length) (r.src,r.ready) rfl ⟨zero_le _,fun h hi=>absurd hi (Nat.lt_irrefl 0)⟩ hr.symm
    (fun i s x hx hI => ?_) (fun i s x s' hx hI h => ?_) (fun s hI=>Ev.of fun n again => ?_)
   ·have hi:=AJ hx;obtain ⟨node,time⟩:=s;refine (s100 q cs r node time x).mono fun n k again => ?_;simp only [vv,reduceCtorEq,reduceAdd,reduceEqDiff,hx,Hop.enc,k,AQ (show i<4611686018427387904 by omega),(show (i:Int)<l.length by omega),HH];by_cases hc:Bn cs r node time x=0
    ·obtain ⟨a1,a2,c,a3,a4,a5,a6⟩:=Oi hc;simp only [hc,bne_self_eq_false,vv,reduceCtorEq,reduceAdd,reduceEqDiff,(show ¬x.con<0 by omega),(show ¬(cs.length:Int)≤x.con by omega),a1,a3,AA.enc,ne_eq,not_true_eq_false,Rd.Ac,a4]
    ·simp only [bne_iff_ne.2 hc,ne_eq,hc,not_false_eq_true,vv,reduceCtorEq,reduceAdd,reduceEqDiff,Rd.Ah]
   ·have hi:=AJ hx;unfold HH at h;by_cases hc:Bn cs r s.1 s.2 x=0
    ·rw [if_neg (by omega)] at h;obtain ⟨a1,a2,_⟩:=Oi hc;refine ⟨by omega,fun y _ hy => ?_⟩;rw [Nat.add_sub_cancel,hx] at hy;cases hy;exact ⟨a1,a2⟩
    ·rw [if_pos hc] at h;cases h
   ·obtain ⟨a1,a2⟩:=hI.2 _ (by omega) hle;simp only [vv,reduceCtorEq,reduceAdd,reduceEqDiff,lt_irrefl,hle,Hop.enc,a1,Sy,hlast];generalize l[l.length-1]=x at a1 a2;have hc:cs[x.con.toNat]? = some cs[x.con.toNat]:=getElem?_eq_getElem (by omega);have ht:GX cs x.con=cs[x.con.toNat].to:=by simp only [GX,hc]
    simp only [hc,vv,reduceCtorEq,reduceAdd,reduceEqDiff,AA.enc,ht,Eo,bne_iff_ne,ne_eq]
  ·refine Ev.of fun n => ?_;simp only [Bp,bne_iff_ne,beq_iff_eq,vv,reduceCtorEq,reduceAdd,reduceEqDiff];by_cases h2:Bl q cs r=0
   ·by_cases h3:l.length=0
    ·simp [h2,h3,AF]
    ·simp only [h2,ne_eq,not_true_eq_false,vv,reduceCtorEq,reduceAdd,reduceEqDiff,h3,(show ¬(l.length:Int)=0 by omega),(show (1000:Int)<l.length by omega),(show (1000:Nat)<l.length by omega)]
   ·simp [h2,AF]
theorem RD {q:List Int} {cs:List AA} {r:Rqt} {l:List Hop} (h:Bp q cs r l=0):Bl q cs r=0∧l.length≤1000∧l.length≠0∧Hn cs r r.src r.ready l=0:=by
 unfold Bp at h;split at h
 ·cases h
 ·split at h
  ·cases h
  ·split at h
   ·cases h
   ·split at h
    ·rename_i h1 h2 h3 h4;exact (h4 h).elim
    ·rename_i h1 h2 h3 h4;exact ⟨by simpa using h1,by omega,by omega,by simpa using h4⟩
def Wh (cs:List AA) (h:Hop):Prop:=0≤h.con∧h.con<cs.length∧0≤h.beg∧h.beg≤1099511627776∧0≤h.stop∧h.stop≤1099511627776∧0≤h.arr∧h.arr≤2199023255552
theorem Um {q:List Int} {cs:List AA} (hp:AY q cs=0) {r:Rqt}:∀{l:List Hop} {node time:Int},Hn cs r node time l=0→∀h∈l,Wh cs h
 |[],_,_,_,h,hm=>by cases hm
 |x::l,node,time,hw,h,hm=>by
  unfold Hn at hw;split at hw
  ·contradiction
  ·rename_i hc;rcases mem_cons.1 hm with rfl|hm
   ·obtain ⟨a1,a2,c,a3,a4,a5,a6⟩:=Oi (not_not.1 hc);unfold G1 at a5;simp only [decide_eq_true_eq] at a5;have hcn:AW c=0∧1≤r.size∧r.size≤65536:=by
     have hd:=a5.1;unfold CV at hd;split at hd
     ·cases hd
     ·split at hd
      ·omega
      ·cases hd
    have o:=A9 hcn.1;have d:=E1 hcn.1 (n:=r.size) (by omega) hcn.2.2;have e2:h.stop=h.beg+DJ c r.size:=congrArg Hop.stop a6;have e3:h.arr=h.beg+DJ c r.size+c.rng:=congrArg Hop.arr a6;exact ⟨a1,a2,by omega,by omega,by omega,by omega,by omega,by omega⟩
   ·exact Um hp hw h hm
theorem s101 (q:List Int) (cs:List AA) (hp:AY q cs=0) (r:Rqt) (h:Hop) (hi:Wh cs h):Ad C 101 [.sl 1 (q.map encI),.sl 7 (cs.map AA.enc),tI r.src,tI r.dst,tI r.size,tI r.ready,tI r.dead,tI r.prio,.bool r.cust,tI h.con,tI h.beg,tI h.stop,tI h.arr] [tI (Dj cs r h)]:=by obtain ⟨a1,a2,a3,a4,a5,a6,a7,a8⟩:=hi;have hc:cs[h.con.toNat]? = some cs[h.con.toNat]:=getElem?_eq_getElem (by omega);generalize cs[h.con.toNat]=c at hc;have o:=A9 (Sf hp c (mem_of_getElem? hc));refine Ad.of (fun m=>e101 m _ _ _ _ _ _ _ _ _ _ _ _ _) (Ev.of fun m => ?_);simp only [vv,reduceCtorEq,reduceAdd,reduceEqDiff,hc,AA.enc,a1,Dj,Sa,Ay (x:=2*c.rng) (by omega) (by omega),Ay (x:=h.stop+2*c.rng) (by omega) (by omega)];cases r.cust<;>simp [AF]
def Rm (i:Nat) (s:List AN×Int×Int×Int):List AV×Heap:=([.t (tI i)],[.row false s.1.length 5 (s.1.map AN.enc),.box [.sref 0 s.1.length 0 s.1.length],.box [.t (tI s.2.1)],.box [],.box [.t (tI s.2.2.1),.t (tI s.2.2.2)]])
def I9 (cs:List AA) (r:Rqt) (ticket:Int) (_:Nat) (s:List AN×Int×Int×Int) (h:Hop):Rd (List AN×Int×Int×Int) (List AN):=
 .next (s.1++[⟨s.2.2.1,s.2.1,Dj cs r h,r.size,ticket⟩],h.beg,GX cs h.con,h.arr)
theorem S5 (cs:List AA) (r:Rqt) (ticket:Int):∀(l:List Hop) (i:Nat) (out:List AN) (fr node time:Int),A6 (I9 cs r ticket) (fun s=>s.1) i l (out,fr,node,time)=out++DI cs r ticket node fr l
 |[],i,out,fr,node,time=>by simp [A6,DI]
 |h::l,i,out,fr,node,time=>by unfold A6 I9 DI;simp only;refine (S5 cs r ticket l (i+1) _ _ _ _).trans ?_;rw [append_assoc];rfl
theorem Oc (l:List AN):Ax 5 (l.map AN.enc)=true:=by simp [Ax,AN.enc,H0]
theorem Od (l:List AB):Ax 4 (l.map AB.enc)=true:=by simp [Ax,AB.enc,H0]
def lift {α:Type} (enc:α→List Tree) (dec:List Tree→α) (F:List (List Tree)→List (List Tree)) (l:List α):List α:=(F (l.map enc)).map dec
theorem Lv {α:Type} {enc:α→List Tree} {dec:List Tree→α} {F:List (List Tree)→List (List Tree)} (hde:∀x,dec (enc x)=x) (hF:∀d,(F d).Perm d) (l:List α):(lift enc dec F l).map enc=F (l.map enc):=by unfold lift;rw [map_map];refine (map_congr_left fun y hy => ?_).trans (map_id _);obtain ⟨x,_,rfl⟩:=mem_map.1 ((hF _).mem_iff.1 hy);simp only [Function.comp,hde,id]
theorem Jr {α:Type} {enc:α→List Tree} {dec:List Tree→α} {F:List (List Tree)→List (List Tree)} (hde:∀x,dec (enc x)=x) (hF:∀d,(F d).Perm d) (l:List α):(lift enc dec F l).Perm l:=by have h1:=(hF (l.map enc)).map dec;rw [map_map] at h1;have h2:l.map (dec ∘ enc)=l:=(map_congr_left fun x _=>hde x).trans (map_id l);rw [h2] at h1;exact h1
def TE (e:List Tree):AN:=⟨intOf (e.getD 0 default),intOf (e.getD 1 default),intOf (e.getD 2 default),intOf (e.getD 3 default),intOf (e.getD 4 default)⟩
def TF (e:List Tree):AB:=⟨intOf (e.getD 0 default),intOf (e.getD 1 default),intOf (e.getD 2 default),intOf (e.getD 3 default)⟩
theorem KX (h:AN):TE h.enc=h:=rfl
theorem KY (h:AB):TF h.enc=h:=rfl
noncomputable def shI:List AN→List AN:=lift AN.enc TE (GV (BP [0,1,2,4,3]))
noncomputable def sbI:List AB→List AB:=lift AB.enc TF (Of (BP [0,1]))
theorem shI_enc (l:List AN):(shI l).map AN.enc=GV (BP [0,1,2,4,3]) (l.map AN.enc):=Lv KX (fun d=>D0 (CG _) d) l
theorem sbI_enc (l:List AB):(sbI l).map AB.enc=Of (BP [0,1]) (l.map AB.enc):=Lv KY (fun d=>Fh (CG _) d) l
theorem Ih (l:List AN):(shI l).Perm l:=Jr KX (fun d=>D0 (CG _) d) l
theorem Ij (l:List AB):(sbI l).Perm l:=Jr KY (fun d=>Fh (CG _) d) l
theorem s50 (q:List Int) (cs:List AA) (hp:AY q cs=0) (r:Rqt) (l:List Hop) (hl:l.length≤1000) (hin:∀h∈l,Wh cs h) (ticket:Int):Ad C 50 [.sl 1 (q.map encI),.sl 7 (cs.map AA.enc),tI r.src,tI r.dst,tI r.size,tI r.ready,tI r.dead,tI r.prio,.bool r.cust,.sl 4 (l.map Hop.enc),tI ticket]
  [.sl 5 ((shI (DI cs r ticket r.src r.ready l)).map AN.enc)]:=by
 refine Ad.of (fun n=>e50 n _ _ _ _ _ _ _ _ _ _ _) ?_;refine Ae (fun (o:List AN)=>[Tree.sl 5 ((shI o).map AN.enc)]) l Rm (I9 cs r ticket) (fun s=>s.1) (fun i s=>s.1.length=i∧i≤l.length) ([],r.ready,r.src,r.ready) rfl (by simp) ((S5 cs r ticket l 0 [] _ _ _).trans (nil_append _))
  (fun i s x hx hI => ?_) (fun i s x s' hx hI h => ?_) (fun s hI=>Ev.of fun n again => ?_)
 ·have hi:=AJ hx;have hx2:=hin x (mem_of_getElem? hx);obtain ⟨a1,a2,a3,a4,a5,a6,a7,a8⟩:=hx2;have hc:cs[x.con.toNat]? = some cs[x.con.toNat]:=getElem?_eq_getElem (by omega);have ht:GX cs x.con=cs[x.con.toNat].to:=by simp only [GX,hc]
  have b1:s.1.length+1≤1073741824:=by omega
  have t3:take s.1.length (s.1.map AN.enc)=s.1.map AN.enc:=take_of_length_le (by simp);refine (s101 q cs hp r x ⟨a1,a2,a3,a4,a5,a6,a7,a8⟩).mono fun n k again => ?_;simp only [Rm,vv,reduceCtorEq,reduceAdd,reduceEqDiff,hx,Hop.enc,k,AQ (show i<4611686018427387904 by omega),(show (i:Int)<l.length by omega),b1,t3,le_refl,(show ¬x.con<0 by omega),(show ¬(cs.length:Int)≤x.con by omega),a1,hc,AA.enc,I9,Rd.Ac,ht,length_append,map_append,map_cons,map_nil,AN.enc]
 ·have hi:=AJ hx;unfold I9 at h;simp only [Rd.next.injEq] at h;subst h;simp only [length_append,length_cons,length_nil];omega
 ·have b1:s.1.length≤1073741824:=by omega
  have t3:take s.1.length (s.1.map AN.enc)=s.1.map AN.enc:=take_of_length_le (by simp);have e1:A3 (s.1.map AN.enc) 0 ((shI s.1).map AN.enc)=(shI s.1).map AN.enc:=Fz (by simp [(Ih s.1).length_eq]);have t4:take s.1.length ((shI s.1).map AN.enc)=(shI s.1).map AN.enc:=take_of_length_le (by simp [(Ih s.1).length_eq]);simp only [Rm,vv,reduceCtorEq,reduceAdd,reduceEqDiff,lt_irrefl,b1,t3,le_refl,Oc,← shI_enc,e1,t4]
end Ab
namespace Ab
open Go
def WH (i:Nat) (s:List AB):List AV×Heap:=([.sref 0 s.length 0 s.length,.t (tI i)],[.row false s.length 4 (s.map AB.enc)])
theorem s11 (l:List Hop) (hl:l.length≤19) (ticket:Int):Ad C 11 [.sl 4 (l.map Hop.enc),tI ticket] [.sl 4 ((sbI (l.map (Ma ticket))).map AB.enc)]:=by
 refine Ad.of (fun n=>e11 n _ _) ?_;refine Ae (fun (o:List AB)=>[Tree.sl 4 ((sbI o).map AB.enc)]) l WH (fun _ s x =>.next (s++[Ma ticket x])) (fun s=>s) (fun i s=>s.length=i∧i≤l.length) [] rfl (by simp) ?_
  (fun i s x hx hI=>Ev.of fun n again => ?_) (fun i s x s' hx hI h => ?_) (fun s hI=>Ev.of fun n again => ?_)
 ·rw [Bg];have:∀(l:List Hop) (s:List AB),l.foldl (fun s x=>s++[Ma ticket x]) s=s++l.map (Ma ticket):=fun l=>by
   induction l with
   |nil=>intro s;simp
   |cons a l ih=>intro s;rw [foldl_cons,ih];simp
  exact (this l []).trans (nil_append _)
 ·have hi:=AJ hx;have b1:s.length+1≤1073741824:=by omega
  have t3:take s.length (s.map AB.enc)=s.map AB.enc:=take_of_length_le (by simp);simp only [WH,vv,reduceCtorEq,reduceAdd,reduceEqDiff,hx,Hop.enc,AQ (show i<4611686018427387904 by omega),(show (i:Int)<l.length by omega),b1,t3,le_refl,Rd.Ac,length_append,map_append,map_cons,map_nil,AB.enc,Ma]
 ·have hi:=AJ hx;simp only [Rd.next.injEq] at h;subst h;simp only [length_append,length_cons,length_nil];omega
 ·have b1:s.length≤19:=by omega
  have t3:take s.length (s.map AB.enc)=s.map AB.enc:=take_of_length_le (by simp);have e1:A3 (s.map AB.enc) 0 ((sbI s).map AB.enc)=(sbI s).map AB.enc:=Fz (by simp [(Ij s).length_eq]);have t4:take s.length ((sbI s).map AB.enc)=(sbI s).map AB.enc:=take_of_length_le (by simp [(Ij s).length_eq]);simp only [WH,vv,reduceCtorEq,reduceAdd,reduceEqDiff,lt_irrefl,b1,t3,le_refl,Od,← sbI_enc,e1,t4]
theorem Mn (q:List Int) (cs:List AA) (R:Int):∀(l:List AB) (i:Nat) (cur:List AB),A6 (fun _ cur b=>if Hp q cs cur b≠0 then .done 14 else .next (Mm q cs cur b)) (fun _=>R) i l cur=if (HA q cs cur l).isNone then 14 else R
 |[],i,cur=>by simp [A6,HA]
 |b::l,i,cur=>by
  unfold A6 HA;by_cases hc:Hp q cs cur b≠0
  ·simp only [if_pos hc,Option.isNone_none,if_true]
  ·simp only [if_neg hc];exact Mn q cs R l (i+1) _
theorem LI (q:List Int) (cs:List AA):∀(l:List AN) (i:Nat) (cur:List AN),A6 (fun _ cur b=>if DE q cs cur b≠0 then .done 15 else .next (NA q cs cur b)) (fun _=>0) i l cur=if H7 q cs cur l=false then (15:Int) else 0
 |[],i,cur=>by simp [A6,H7]
 |b::l,i,cur=>by
  unfold A6 H7;by_cases hc:DE q cs cur b≠0
  ·simp only [if_pos hc,if_true]
  ·simp only [if_neg hc];have h0:DE q cs cur b=0:=not_not.1 hc;have e1:NA q cs cur b=Jt cur b:=by simp only [NA,h0,if_true]
   rw [e1];exact LI q cs l (i+1) _
theorem s18 (q:List Int) (cs:List AA) (bs:List AB) (hs:List AN) (r:Rqt) (l:List Hop) (hl:l.length≤19) :
  Ad C 18 [.sl 1 (q.map encI),.sl 7 (cs.map AA.enc),.sl 4 (bs.map AB.enc),.sl 5 (hs.map AN.enc),tI r.src,tI r.dst,tI r.size,tI r.ready,tI r.dead,tI r.prio,.bool r.cust,.sl 4 (l.map Hop.enc)] [tI (GG sbI shI q cs bs hs r l)]:=by
 refine Ad.of (fun n=>e18 n _ _ _ _ _ _ _ _ _ _ _ _) ?_;by_cases h1:Bb q cs bs hs=0∧Bp q cs r l=0
 ·obtain ⟨p1,p2,p3⟩:=BY h1.1;obtain ⟨r1,r2,r3,r4⟩:=RD h1.2;have hin:=Um p1 r4;have hbl:bs.length≤512:=(Ch p2).2.1;have hhl:hs.length≤512:=(CY p3).2.1;have hul:(DI cs r 0 r.src r.ready l).length=l.length:=by
   have:∀(l:List Hop) (a b:Int),(DI cs r 0 a b l).length=l.length:=fun l=>by
    induction l with
    |nil=>intro a b;rfl
    |cons x l ih=>intro a b;simp only [DI,length_cons,ih]
   exact this l _ _
  have hsl:(shI (DI cs r 0 r.src r.ready l)).length=l.length:=by rw [(Ih _).length_eq,hul]
  have hbl2:(sbI (l.map (Ma 0))).length=l.length:=by rw [(Ij _).length_eq,length_map]
  refine Ev.rw (T' := ?T') ((s17 q cs bs hs).and ((s49 q cs r l).and ((s50 q cs p1 r l (by omega) hin 0).and (s11 l hl 0)))) (fun n h => ?a) ?b
  case a=>
   simp only [h.1,h.2.1,h.2.2.1,h.2.2.2,vv,reduceCtorEq,reduceAdd,reduceEqDiff,h1.1,h1.2,bne_self_eq_false,hsl,Ay (x:=(bs.length:Int)+l.length) (by omega) (by omega),Ay (x:=(hs.length:Int)+l.length) (by omega) (by omega)];rfl
  case b=>
   unfold GG;rw [if_neg (by omega),if_neg (by omega),hul];by_cases hlim:bs.length+l.length>512∨hs.length+l.length>512
   ·rw [if_pos hlim];refine Ev.of fun n => ?_;simp only [AF];grind
   ·rw [if_neg hlim];simp only [(show ¬(512:Int)<(bs.length:Int)+l.length by omega),(show ¬(512:Int)<(hs.length:Int)+l.length by omega),vv,reduceCtorEq,reduceAdd,reduceEqDiff];generalize sbI (l.map (Ma 0))=bl at hbl2;generalize shI (DI cs r 0 r.src r.ready l)=hl2 at hsl;rw [← LI q cs hl2 0 hs,← Mn q cs _ bl 0 bs];refine Ae (fun r=>[tI r]) bl (fun i (s:List AB)=>(([.t (.sl 4 (s.map AB.enc)),.t (tI i)],[]):List AV×Heap)) (fun _ cur b=>if Hp q cs cur b≠0 then .done 14 else .next (Mm q cs cur b)) _ (fun i s=>True) bs rfl trivial rfl
     (fun i s x hx hI => ?_) (fun i s x s' hx hI h=>trivial) (fun s hI => ?_)
    ·have hi:=AJ hx;refine (s12 q cs s x).mono fun n k again => ?_;simp only [vv,reduceCtorEq,reduceAdd,reduceEqDiff,hx,AB.enc,k,AQ (show i<4611686018427387904 by omega),(show (i:Int)<l.length by omega),hbl2];by_cases hc:Hp q cs s x=0
     ·simp only [hc,bne_self_eq_false,ne_eq,not_true_eq_false,vv,reduceCtorEq,reduceAdd,reduceEqDiff,Rd.Ac]
     ·simp only [bne_iff_ne.2 hc,ne_eq,hc,not_false_eq_true,vv,reduceCtorEq,reduceAdd,reduceEqDiff,Rd.Ah]
    ·simp only [vv,reduceCtorEq,reduceAdd,reduceEqDiff,hbl2,lt_irrefl];refine Ev.mono (fun n h again=>h) ?_;refine Ae (fun r=>[tI r]) hl2 (fun i (s:List AN)=>(([.t (.sl 5 (s.map AN.enc)),.t (tI i)],[]):List AV×Heap)) (fun _ cur b=>if DE q cs cur b≠0 then .done 15 else .next (NA q cs cur b)) _ (fun i s=>True) hs rfl trivial rfl
      (fun i s x hx hI => ?_) (fun i s x s' hx hI h=>trivial) (fun s hI=>Ev.of fun n again => ?_)
     ·have hi:=AJ hx;refine (s51 q cs s x).mono fun n k again => ?_;simp only [vv,reduceCtorEq,reduceAdd,reduceEqDiff,hx,AN.enc,k,AQ (show i<4611686018427387904 by omega),(show (i:Int)<l.length by omega),hsl];by_cases hc:DE q cs s x=0
      ·simp only [hc,bne_self_eq_false,ne_eq,not_true_eq_false,vv,reduceCtorEq,reduceAdd,reduceEqDiff,Rd.Ac]
      ·simp only [bne_iff_ne.2 hc,ne_eq,hc,not_false_eq_true,vv,reduceCtorEq,reduceAdd,reduceEqDiff,Rd.Ah]
     ·simp only [vv,reduceCtorEq,reduceAdd,reduceEqDiff,hsl,lt_irrefl]
 ·by_cases h2:Bb q cs bs hs=0
  ·have h3:Bp q cs r l≠0:=fun e=>h1 ⟨h2,e⟩;refine ((s17 q cs bs hs).and (s49 q cs r l)).mono fun n ⟨k1,k2⟩=> ?_;simp only [k1,k2,vv,reduceCtorEq,reduceAdd,reduceEqDiff,h2,bne_self_eq_false,bne_iff_ne.2 h3];simp only [GG,h2,ne_eq,not_true_eq_false,if_false,h3,not_false_eq_true,if_true]
  ·refine (s17 q cs bs hs).mono fun n k1 => ?_;simp only [k1,vv,reduceCtorEq,reduceAdd,reduceEqDiff,bne_iff_ne.2 h2];simp only [GG,ne_eq,h2,not_false_eq_true,if_true]
def L8 (q:List Int) (cs:List AA):Bool:=decide (6<q.length∨10<cs.length)
theorem s56 (q:List Int) (cs:List AA):Ad C 56 [.sl 1 (q.map encI),.sl 7 (cs.map AA.enc)] [.bool (L8 q cs)]:=by
 refine Ad.of (fun n=>e56 n _ _) (Ev.of fun n => ?_);have e1:(6:Int)<(q.length:Int)↔6<q.length:=by omega
 have e2:(10:Int)<(cs.length:Int)↔10<cs.length:=by omega
 simp only [L8,vv,reduceCtorEq,reduceAdd,reduceEqDiff,AF,e1,e2];by_cases h1:6<q.length<;>by_cases h2:10<cs.length<;>simp [h1,h2]
def L7 (q:List Int) (cs:List AA) (bs:List AB) (hs:List AN):Bool:=L8 q cs||decide (30<bs.length)||decide (30<hs.length)
theorem s23 (q:List Int) (cs:List AA) (bs:List AB) (hs:List AN):Ad C 23 [.sl 1 (q.map encI),.sl 7 (cs.map AA.enc),.sl 4 (bs.map AB.enc),.sl 5 (hs.map AN.enc)] [.bool (L7 q cs bs hs)]:=by
 refine Ad.of (fun n=>e23 n _ _ _ _) ?_;refine (s56 q cs).mono fun n h => ?_;have e1:(30:Int)<(bs.length:Int)↔30<bs.length:=by omega
 have e2:(30:Int)<(hs.length:Int)↔30<hs.length:=by omega
 simp only [h,vv,reduceCtorEq,reduceAdd,reduceEqDiff,L7,AF,e1,e2];cases L8 q cs<;>by_cases h1:30<bs.length<;>by_cases h2:30<hs.length<;>simp [h1,h2]
def TA (q:List Int) (cs:List AA) (bs:List AB) (hs:List AN) (r:Rqt):Bool := !L7 q cs bs hs&&decide (Dx q cs bs hs=0)&&decide (Bl q cs r=0)
theorem s6 (q:List Int) (cs:List AA) (bs:List AB) (hs:List AN) (r:Rqt):Ad C 6 [.sl 1 (q.map encI),.sl 7 (cs.map AA.enc),.sl 4 (bs.map AB.enc),.sl 5 (hs.map AN.enc),tI r.src,tI r.dst,tI r.size,tI r.ready,tI r.dead,tI r.prio,.bool r.cust] [.bool (TA q cs bs hs r)]:=by refine Ad.of (fun n=>e6 n _ _ _ _ _ _ _ _ _ _ _) ?_;refine ((s23 q cs bs hs).and ((s24 q cs bs hs).and (s25 q cs r))).mono fun n ⟨h1,h2,h3⟩=> ?_;simp only [h1,h2,h3,vv,reduceCtorEq,reduceAdd,reduceEqDiff,TA,AF,beq_iff_eq];cases L7 q cs bs hs<;>by_cases k1:Dx q cs bs hs=0<;>by_cases k2:Bl q cs r=0<;>simp [k1,k2]
end Ab
namespace Ab
open Go
theorem find3 (a b c:Int):(([a,b,c]).find? (· ≠ 0)).getD 0=if a≠0 then a else if b≠0 then b else c:=by by_cases h1:a=0<;>by_cases h2:b=0<;>by_cases h3:c=0<;>simp [h1,h2,h3]
theorem s88 (a b:Lab):Ad C 88 (a.enc++b.enc) [tI (J1 a b)]:=by refine Ad.of (fun n=>e88 n _ _ _ _ _ _ _ _) ?_;refine ((s35 a.time b.time).and ((s35 a.node b.node).and ((s35 a.frm b.frm).and (s34 [C5 a.time b.time,C5 a.node b.node,C5 a.frm b.frm] (by simp))))).mono fun n ⟨h1,h2,h3,h4⟩=> ?_;simp only [map_cons,map_nil,encI] at h4;rw [find3] at h4;simp only [h1,h2,h3,h4,vv,reduceCtorEq,reduceAdd,reduceEqDiff,zh0,zh1,zh2,zh3,zh4,zh5,zh6,zo0,zo1];rfl
theorem s91 (a b:Lab):Ad C 91 (a.enc++b.enc) [.bool (A0 a b)]:=by refine Ad.of (fun n=>e91 n _ _ _ _ _ _ _ _) (Ev.of fun n => ?_);simp only [vv,reduceCtorEq,reduceAdd,reduceEqDiff,zh0,zh1,zh2,zh3,zh4,zh5,zh6,zo0,zo1,A0,beq_iff_eq];by_cases h1:a.node=b.node<;>by_cases h2:a.frm=b.frm<;>simp [h1,h2,AF]
structure Tb where
 q:List Int
 cs:List AA
 bs:List AB
 hs:List AN
 r:Rqt
def Tb.g (T:Tb):Gr:=gOf T.q T.cs T.bs T.hs T.r
def spE (l:List Span):List Tree:=[.sl 2 (l.map Span.enc)]
def gH (T:Tb) (ga ro:List (List Span)) (du:List Int) (suf:Heap):Heap:=
 .row false ga.length 1 (ga.map spE) :: .row false ro.length 1 (ro.map spE) :: .row false du.length 1 (du.map encI) ::
 .box [.t (.sl 1 (T.q.map encI)),.t (.sl 7 (T.cs.map AA.enc)),.t (.sl 4 (T.bs.map AB.enc)),.t (.sl 5 (T.hs.map AN.enc)),.t (tI T.r.src),.t (tI T.r.dst),.t (tI T.r.size),.t (tI T.r.ready),.t (tI T.r.dead),.t (tI T.r.prio),.t (.bool T.r.cust),
  .sref 0 ga.length 0 ga.length,.sref 1 ro.length 0 ro.length,.sref 2 du.length 0 du.length]::suf
structure LSt where
 done:List Lab
 vo:Nat
 opn:List Lab
 jk:List (List Tree)
def LSt.push (s:LSt) (y:Lab):LSt:=⟨s.done,s.vo+1,s.opn++[y],[]⟩
def lH (T:Tb) (s:LSt) (suf:Heap):Heap:=
 gH T T.g.gaps T.g.Ap T.g.dur (.box [.ptr 3 0] :: .box [.ptr 3 0] :: .row false s.done.length 4 (s.done.map Lab.enc) :: .box [.sref 6 s.done.length 0 s.done.length] :: .row false s.vo 4 (s.opn.map Lab.enc++s.jk) :: .box [.sref 8 s.vo 0 s.opn.length]::suf)
def xA (x:Lab):List AV:=[.t (tI x.node),.t (tI x.frm),.t (tI x.to),.t (tI x.time)]
def rgE (a:Span):List Tree:=[tI a.frm,tI a.to]
def hpA:Option Hop→List AV
 |none=>[.t (tI 0),.t (tI 0),.t (tI 0),.t (tI 0),.t (.bool false)]
 |some h=>[.t (tI h.con),.t (tI h.beg),.t (tI h.stop),.t (tI h.arr),.t (.bool true)]
def Bs:AE :=.box [.t (tI 0),.t (tI 0),.t (tI 0),.t (tI 0)]
def CL (fr:Int) (x:Span):Int:=if fr>x.frm then fr else x.frm
def FH (c:AA) (k:Nat) (n fr:Int) (_:Nat) (_:Unit) (x:Span):Rd Unit (Option Hop):=if CL fr x+n≤x.to then .done (some ⟨k,CL fr x,CL fr x+n,CL fr x+n+c.rng⟩) else .next ()
theorem Ko (c:AA) (k:Nat) (n fr:Int):∀(gs:List Span) (i:Nat),A6 (FH c k n fr) (fun _=>none) i gs ()=Ho k c n gs fr
 |[],i=>rfl
 |x::l,i=>by
  unfold A6 FH Ho D6;by_cases h:CL fr x+n≤x.to
  ·have h':(if fr>x.frm then fr else x.frm)+n≤x.to:=h;simp only [if_pos h,if_pos h',map_some];rfl
  ·have h':¬(if fr>x.frm then fr else x.frm)+n≤x.to:=h;simp only [if_neg h,if_neg h'];exact Ko c k n fr l (i+1)
def Sm (x:Int):Prop := -4398046511104≤x∧x≤4398046511104
theorem RA {x y:Int} (hx:Sm x) (hy:Sm y):w64 (x+y)=x+y:=by unfold Sm at hx hy;exact Ay (by omega) (by omega)
theorem hop42 (T:Tb) (s:LSt) (x:Lab) (hp:Heap) (rm:Span) (k:Nat) (c:AA) (hk:T.cs[k]? = some c) (d:Int) (hd:Sm d) (ht:Sm x.time) (hr:Sm rm.frm) (hc:0≤c.rng∧c.rng≤1048576) (kh:Heap)
  (gs:List Span) (hgs:∀a∈gs,Sm a.frm∧Sm a.to) (hgl:gs.length≤100000) :
  Ev fun n=>∀z,AI (fun p again=>Kw n (spE gs) (rgE rm) (xA x,hp) [tI d] ([.t (tI k)],kh) z p again) n ([.t (tI (0:Nat))],lH T s [.box [],.box [.ptr 3 0],.box [],.box [],.box [],Bs])
   = z (hpA (Ho k c d gs (if rm.frm>x.time then rm.frm else x.time)),lH T s [.box [],.box [.ptr 3 0],.box [],.box [],.box []]):=by
 refine BC gs (fun i _=>(([.t (tI i)],lH T s [.box [],.box [.ptr 3 0],.box [],.box [],.box [],Bs]):List AV×Heap)) (FH c k d (if rm.frm>x.time then rm.frm else x.time)) (fun _=>none)
  (fun (z:List AV×Heap→Option (List Tree)) o=>z (hpA o,lH T s [.box [],.box [.ptr 3 0],.box [],.box [],.box []])) (fun _ _=>True) () rfl trivial (Ko c k d _ gs 0)
  (fun i s' a ha hI=>Ev.of fun n z again => ?_) (fun _ _ _ _ _ _ _=>trivial) (fun s' hI=>Ev.of fun n z again => ?_)
 ·have hi:=AJ ha;obtain ⟨h1,h2⟩:=hgs a (mem_of_getElem? ha);have hb:Sm (CL (if rm.frm>x.time then rm.frm else x.time) a):=by unfold CL Sm at *;omega
  have e1:w64 (CL (if rm.frm>x.time then rm.frm else x.time) a+d)=CL (if rm.frm>x.time then rm.frm else x.time) a+d:=RA hb hd;have e3:w64 (CL (if rm.frm>x.time then rm.frm else x.time) a+d+c.rng)=CL (if rm.frm>x.time then rm.frm else x.time) a+d+c.rng:=by unfold Sm at hb hd;exact Ay (by omega) (by omega)
  have e4:(if (if rm.frm>x.time then rm.frm else x.time)>a.frm then (if rm.frm>x.time then rm.frm else x.time) else a.frm)=CL (if rm.frm>x.time then rm.frm else x.time) a:=rfl;simp only [gt_iff_lt] at e1 e3 e4;simp only [Kw,lH,gH,spE,rgE,xA,Bs,vv,reduceCtorEq,reduceAdd,reduceEqDiff,zh0,zh1,zh2,zh3,zh4,zh5,zh6,zo0,zo1,ha,Span.enc,e1,e3,e4,hk,AA.enc,(show (i:Int)<gs.length by omega),AQ (show i<4611686018427387904 by omega),FH];by_cases hc2:CL (if x.time<rm.frm then rm.frm else x.time) a+d≤a.to
  ·simp only [hc2,vv,reduceCtorEq,reduceAdd,reduceEqDiff,zh0,zh1,zh2,zh3,zh4,zh5,zh6,zo0,zo1,Rd.Ah,hpA]
  ·simp only [hc2,vv,reduceCtorEq,reduceAdd,reduceEqDiff,zh0,zh1,zh2,zh3,zh4,zh5,zh6,zo0,zo1,Rd.Ac]
 ·simp only [Kw,lH,gH,spE,rgE,xA,Bs,vv,reduceCtorEq,reduceAdd,reduceEqDiff,zh0,zh1,zh2,zh3,zh4,zh5,zh6,zo0,zo1,lt_irrefl,hpA]
end Ab
namespace Ab
open Go
def LSt.mv (T:Tb) (s:LSt) (m:Lab×Hop):LSt:=if (decide (m.1.node≠T.r.dst) && !s.done.any fun y=>A0 m.1 y)=true then s.push m.1 else s
def LSt.mvO (T:Tb) (s:LSt):Option (Lab×Hop)→LSt
 |none=>s
 |some m=>s.mv T m
def Kg (T:Tb) (x:Lab) (c:AA) (rm:Span) (h:Hop):Bool:=decide (D4 T.r c h>x.to∨h.arr>T.r.dead∨(c.to≠T.r.dst∧h.arr≥rm.to))
def mvH (T:Tb) (x:Lab) (c:AA) (rm:Span):Option Hop→Option (Lab×Hop)
 |none=>none
 |some h=>if D4 T.r c h>x.to∨h.arr>T.r.dead∨(c.to≠T.r.dst∧h.arr≥rm.to) then none else some (⟨c.to,rm.frm,rm.to,h.arr⟩,h)
theorem con44 (T:Tb) (s:LSt) (hl:s.done.length≤100000) (y:Lab) (c:AA) (rm:Span) (hy:y.node=c.to∧y.frm=rm.frm∧y.to=rm.to) (e:List AV) (p183:List AV×Heap) (h1:AM p183 7 0=s.done.length) (h2:AL p183 7 0=s.done.length) (h3:AP p183 7 0=0)
  (p175:List AV×Heap) (h4:vI p175 3=y.time) :
  Ev fun n=>∀z,AI (fun p again=>Kv n p183 c.enc (rgE rm) p175 z p again) n ([.t (tI (0:Nat))],lH T s [.box [],.box [.ptr 3 0],.box [],.box [],.box [],.box [],.box []])
   = z ([.t (tI (idx (fun b=>A0 y b) s.done))],lH T s [.box [],.box [.ptr 3 0],.box [],.box [],.box [],.box [],.box []]):=by
 obtain ⟨y1,y2,y3⟩:=hy;refine BC s.done (fun i _=>(([.t (tI i)],lH T s [.box [],.box [.ptr 3 0],.box [],.box [],.box [],.box [],.box []]):List AV×Heap)) (fun i _ b=>if A0 y b=true then .done (i:Int) else .next ()) (fun _ => -1)
  (fun (z:List AV×Heap→Option (List Tree)) (o:Int)=>z ([.t (tI o)],lH T s [.box [],.box [.ptr 3 0],.box [],.box [],.box [],.box [],.box []])) (fun _ _=>True) () rfl trivial (Jy _ s.done)
  (fun i s' a ha hI => ?_) (fun _ _ _ _ _ _ _=>trivial) (fun s' hI=>Ev.of fun n z again => ?_)
 ·have hi:=AJ ha;refine (s91 y a).mono fun n h z again => ?_;simp only [Lab.enc,cons_append,nil_append,y1,y2,y3] at h;simp only [Kv,lH,gH,rgE,h1,h2,h3,h4,vv,reduceCtorEq,reduceAdd,reduceEqDiff,zh0,zh1,zh2,zh3,zh4,zh5,zh6,zo0,zo1,ha,Lab.enc,AA.enc,h,(show (i:Int)<s.done.length by omega),AQ (show i<4611686018427387904 by omega)];cases A0 y a<;>simp [AF,Rd.Ah,Rd.Ac]
 ·simp only [Kv,lH,gH,rgE,h1,h2,h3,h4,vv,reduceCtorEq,reduceAdd,reduceEqDiff,zh0,zh1,zh2,zh3,zh4,zh5,zh6,zo0,zo1,lt_irrefl]
theorem mv50 (T:Tb) (s:LSt) (hl:s.done.length≤100000) (ho:s.opn.length≤10000000) (x:Lab) (hp:Heap) (rm:Span) (k:Nat) (c:AA) (hk:T.cs[k]? = some c) (hc:0≤c.rng∧c.rng≤1048576) (o:Option Hop) (hh:∀h,o=some h→h.con=k∧Sm h.stop) :
  Ev fun n=>∀z,GK n z c.enc (rgE rm) (xA x,hp) (hpA o,lH T s [.box [],.box [.ptr 3 0],.box [],.box [],.box []])=z ([],lH T (s.mvO T (mvH T x c rm o)) [.box [],.box [.ptr 3 0],.box [],.box []]):=by
 cases o with
 |none=>
  refine Ev.of fun n z => ?_;simp only [GK,Eh,lH,gH,hpA,mvH,LSt.mvO,vv,reduceCtorEq,reduceAdd,reduceEqDiff,zh0,zh1,zh2,zh3,zh4,zh5,zh6,zo0,zo1]
 |some h=>
  obtain ⟨c1,c2⟩:=hh h rfl;have e1:w64 (2*c.rng)=2*c.rng:=Ay (by omega) (by omega);have e2:w64 (h.stop+2*c.rng)=h.stop+2*c.rng:=by unfold Sm at c2;exact Ay (by omega) (by omega)
  have hA:∀n z,GK n z c.enc (rgE rm) (xA x,hp) (hpA (some h),lH T s [.box [],.box [.ptr 3 0],.box [],.box [],.box []])=
    Eh n z c.enc (rgE rm) (hpA (some h),lH T s [.box [],.box [.ptr 3 0],.box [],.box [],.box []]) ([.t (.bool (Kg T x c rm h))],lH T s [.box [],.box [.ptr 3 0],.box [],.box [],.box [],.box []]):=fun n z=>by
   have hB:∀lv:Int,∀w,K8 n (xA x,hp) w (hpA (some h),lH T s [.box [],.box [.ptr 3 0],.box [],.box [],.box []]) c.enc (rgE rm) ([.t (tI lv)],lH T s [.box [],.box [.ptr 3 0],.box [],.box [],.box [],.box []])=
     w ([.t (.bool (decide (lv>x.to∨h.arr>T.r.dead∨(c.to≠T.r.dst∧h.arr≥rm.to))))],lH T s [.box [],.box [.ptr 3 0],.box [],.box [],.box [],.box []]):=fun lv w=>by
    simp only [K8,lH,gH,hpA,xA,rgE,AA.enc,vv,reduceCtorEq,reduceAdd,reduceEqDiff,zh0,zh1,zh2,zh3,zh4,zh5,zh6,zo0,zo1];by_cases b1:x.to<lv
    ·simp only [b1,vv,reduceCtorEq,reduceAdd,reduceEqDiff,zh0,zh1,zh2,zh3,zh4,zh5,zh6,zo0,zo1]
    ·by_cases b2:T.r.dead<h.arr
     ·simp only [b1,b2,vv,reduceCtorEq,reduceAdd,reduceEqDiff,zh0,zh1,zh2,zh3,zh4,zh5,zh6,zo0,zo1]
     ·by_cases b3:c.to=T.r.dst
      ·simp only [b1,b2,b3,bne_self_eq_false,vv,reduceCtorEq,reduceAdd,reduceEqDiff,zh0,zh1,zh2,zh3,zh4,zh5,zh6,zo0,zo1,ne_eq,not_true_eq_false]
      ·simp only [b1,b2,b3,bne_iff_ne,vv,reduceCtorEq,reduceAdd,reduceEqDiff,zh0,zh1,zh2,zh3,zh4,zh5,zh6,zo0,zo1,ne_eq,not_false_eq_true]
   have hC:GK n z c.enc (rgE rm) (xA x,hp) (hpA (some h),lH T s [.box [],.box [.ptr 3 0],.box [],.box [],.box []])=
     K8 n (xA x,hp) (fun p183=>Eh n z c.enc (rgE rm) (hpA (some h),lH T s [.box [],.box [.ptr 3 0],.box [],.box [],.box []]) p183) (hpA (some h),lH T s [.box [],.box [.ptr 3 0],.box [],.box [],.box []]) c.enc (rgE rm) ([.t (tI (D4 T.r c h))],lH T s [.box [],.box [.ptr 3 0],.box [],.box [],.box [],.box []]):=by
    simp only [GK,lH,gH,hpA,D4,c1,hk,AA.enc,e1,e2,vv,reduceCtorEq,reduceAdd,reduceEqDiff,zh0,zh1,zh2,zh3,zh4,zh5,zh6,zo0,zo1];cases T.r.cust<;>simp only [vv,reduceCtorEq,reduceAdd,reduceEqDiff,zh0,zh1,zh2,zh3,zh4,zh5,zh6,zo0,zo1]
   rw [hC,hB];rfl
  simp only [hA];cases hb:Kg T x c rm h with
  |true=>
   have hm:mvH T x c rm (some h)=none:=by simp only [Kg,decide_eq_true_eq] at hb;simp only [mvH,if_pos hb]
   refine Ev.of fun n z => ?_;simp only [Eh,lH,gH,hm,LSt.mvO,vv,reduceCtorEq,reduceAdd,reduceEqDiff,zh0,zh1,zh2,zh3,zh4,zh5,zh6,zo0,zo1]
  |false=>
   have hm:mvH T x c rm (some h)=some (⟨c.to,rm.frm,rm.to,h.arr⟩,h):=by simp only [Kg,decide_eq_false_iff_not] at hb;simp only [mvH,if_neg hb]
   rw [hm];simp only [LSt.mvO,LSt.mv];have hD:∀n z (b:Bool),GL n z c.enc (rgE rm) (hpA (some h),lH T s [.box [],.box [.ptr 3 0],.box [],.box [],.box []]) ([.t (.bool b)],lH T s [.box [],.box [.ptr 3 0],.box [],.box [],.box [],.box [],.box []])=
     z ([],lH T (if b=true then s.push ⟨c.to,rm.frm,rm.to,h.arr⟩ else s) [.box [],.box [.ptr 3 0],.box [],.box []]):=fun n z b=>by
    have t1:take s.opn.length (s.opn.map Lab.enc++s.jk)=s.opn.map Lab.enc:=by rw [List.take_append_of_le_length (by simp)];exact take_of_length_le (by simp)
    have b1:s.opn.length+1≤1073741824:=by omega
    have b2:s.opn.length≤s.opn.length+s.jk.length:=Nat.le_add_right _ _;cases b with
    |false=>simp only [GL,PI,lH,gH,vv,reduceCtorEq,reduceAdd,reduceEqDiff,zh0,zh1,zh2,zh3,zh4,zh5,zh6,zo0,zo1]
    |true=>
     simp only [GL,PI,lH,gH,vv,reduceCtorEq,reduceAdd,reduceEqDiff,zh0,zh1,zh2,zh3,zh4,zh5,zh6,zo0,zo1,b1,b2,t1,LSt.push,hpA,rgE,AA.enc,map_append,map_cons,map_nil,Lab.enc,append_nil,length_append]
   by_cases hd:c.to=T.r.dst
   ·refine Ev.of fun n z => ?_;have hE:Eh n z c.enc (rgE rm) (hpA (some h),lH T s [.box [],.box [.ptr 3 0],.box [],.box [],.box []]) ([.t (.bool false)],lH T s [.box [],.box [.ptr 3 0],.box [],.box [],.box [],.box []])=
      GL n z c.enc (rgE rm) (hpA (some h),lH T s [.box [],.box [.ptr 3 0],.box [],.box [],.box []]) ([.t (.bool false)],lH T s [.box [],.box [.ptr 3 0],.box [],.box [],.box [],.box [],.box []]):=by
     simp only [Eh,lH,gH,hpA,AA.enc,hd,bne_self_eq_false,vv,reduceCtorEq,reduceAdd,reduceEqDiff,zh0,zh1,zh2,zh3,zh4,zh5,zh6,zo0,zo1]
    rw [hE,hD];simp only [hd,ne_eq,not_true_eq_false,decide_false,Bool.false_and]
   ·refine (con44 T s hl ⟨c.to,rm.frm,rm.to,h.arr⟩ c rm ⟨rfl,rfl,rfl⟩ [] ([.t (.bool false)],lH T s [.box [],.box [.ptr 3 0],.box [],.box [],.box [],.box []]) (by simp only [lH,gH,vv,reduceCtorEq,reduceAdd,reduceEqDiff,zh0,zh1,zh2,zh3,zh4,zh5,zh6,zo0,zo1]) (by simp only [lH,gH,vv,reduceCtorEq,reduceAdd,reduceEqDiff,zh0,zh1,zh2,zh3,zh4,zh5,zh6,zo0,zo1]) (by simp only [lH,gH,vv,reduceCtorEq,reduceAdd,reduceEqDiff,zh0,zh1,zh2,zh3,zh4,zh5,zh6,zo0,zo1])
     (hpA (some h),lH T s [.box [],.box [.ptr 3 0],.box [],.box [],.box []]) (by simp only [hpA,vv,reduceCtorEq,reduceAdd,reduceEqDiff,zh0,zh1,zh2,zh3,zh4,zh5,zh6,zo0,zo1])).mono fun n hcon z => ?_
    have hE:Eh n z c.enc (rgE rm) (hpA (some h),lH T s [.box [],.box [.ptr 3 0],.box [],.box [],.box []]) ([.t (.bool false)],lH T s [.box [],.box [.ptr 3 0],.box [],.box [],.box [],.box []])=
      GL n z c.enc (rgE rm) (hpA (some h),lH T s [.box [],.box [.ptr 3 0],.box [],.box [],.box []]) ([.t (.bool (!decide (idx (fun b=>A0 ⟨c.to,rm.frm,rm.to,h.arr⟩ b) s.done≥0)))],lH T s [.box [],.box [.ptr 3 0],.box [],.box [],.box [],.box [],.box []]):=by
     have h2:=hcon fun p192=>PK n (fun p190=>PJ n (fun p188=>GL n z c.enc (rgE rm) (hpA (some h),lH T s [.box [],.box [.ptr 3 0],.box [],.box [],.box []]) p188) p190) p192;refine Eq.trans ?_ (h2.trans ?_)
     ·simp only [Eh,lH,gH,hpA,AA.enc,bne_iff_ne.2 hd,vv,reduceCtorEq,reduceAdd,reduceEqDiff,zh0,zh1,zh2,zh3,zh4,zh5,zh6,zo0,zo1];rfl
     ·simp only [PK,PJ,lH,gH,vv,reduceCtorEq,reduceAdd,reduceEqDiff,zh0,zh1,zh2,zh3,zh4,zh5,zh6,zo0,zo1]
    rw [hE,hD];have hany:=L2 (fun b=>A0 ⟨c.to,rm.frm,rm.to,h.arr⟩ b) s.done;have hcnd:(!decide (idx (fun b=>A0 ⟨c.to,rm.frm,rm.to,h.arr⟩ b) s.done≥0))=(decide (c.to≠T.r.dst) && !s.done.any fun y=>A0 ⟨c.to,rm.frm,rm.to,h.arr⟩ y):=by rw [decide_eq_true hd,Bool.true_and];congr 1;rw [Bool.eq_iff_iff,decide_eq_true_eq];exact hany
    rw [hcnd]
end Ab
namespace Ab
open Go
theorem RY (T:Tb) (x:Lab) (k:Nat) (c:AA) (rm:Span):mv1 T.g x k c rm=mvH T x c rm (Ho k c (T.g.dur.getD k 0) (T.g.gaps.getD k []) (if rm.frm>x.time then rm.frm else x.time)):=by unfold mv1 mvH;cases Ho k c (T.g.dur.getD k 0) (T.g.gaps.getD k []) (if rm.frm>x.time then rm.frm else x.time)<;>rfl
def LSt.mvR (T:Tb) (x:Lab) (k:Nat) (c:AA) (s:LSt) (rm:Span):LSt:=s.mvO T (mv1 T.g x k c rm)
theorem Sp (T:Tb) (s:LSt) (m:Option (Lab×Hop)):(s.mvO T m).done=s.done∧(s.mvO T m).opn.length≤s.opn.length+1:=by
 unfold LSt.mvO;cases m with
 |none=>exact ⟨rfl,le_succ _⟩
 |some m=>
  simp only [LSt.mv];split
  ·exact ⟨rfl,by simp [LSt.push]⟩
  ·exact ⟨rfl,le_succ _⟩
theorem L4 {k:Nat} {c:AA} {n fr:Int} {gs:List Span} {h:Hop} (hm:Ho k c n gs fr=some h):h.con=k∧∃a∈gs,fr≤h.beg∧a.frm≤h.beg∧h.beg+n≤a.to∧h.stop=h.beg+n∧h.arr=h.beg+n+c.rng:=by
 unfold Ho at hm;cases hb:D6 n fr gs with
 |none=>rw [hb] at hm;cases hm
 |some b=>
  rw [hb] at hm;cases hm;obtain ⟨h1,a,h2,h3,h4⟩:=Ju hb;exact ⟨rfl,a,h2,h1,h3,h4,rfl,rfl⟩
structure CtOk (T:Tb) (k:Nat) (c:AA) (d:Int) (gs:List Span):Prop where
 con:T.cs[k]? = some c
 dur:T.g.dur[k]? = some d
 gap:T.g.gaps[k]? = some gs
 durS:0≤d∧d≤67108864
 rng:0≤c.rng∧c.rng≤1048576
 gapS:∀a∈gs,(0≤a.frm∧a.frm≤1099511627776)∧0≤a.to∧a.to≤1099511627776
 gapL:gs.length≤100000
theorem rm52 (T:Tb) (s0:LSt) (hdl:s0.done.length≤50000) (x:Lab) (hp:Heap) (k:Nat) (c:AA) (d:Int) (gs:List Span) (hk:CtOk T k c d gs) (ht:0≤x.time∧x.time≤1099511627776) (kh:Heap)
  (rs:List Span) (hol:s0.opn.length+rs.length≤10000000) (hrs:∀a∈rs,Sm a.frm) :
  Ev fun n=>∀z,AI (fun p again=>JX n (spE rs) c.enc (xA x,hp) ([.t (tI k)],kh) z p again) n ([.t (tI (0:Nat))],lH T s0 [.box [],.box [.ptr 3 0],.box [],.box []])
   = z ([],lH T (rs.foldl (LSt.mvR T x k c) s0) [.box [],.box [.ptr 3 0],.box []]):=by
 refine BC rs (fun i s=>(([.t (tI i)],lH T s [.box [],.box [.ptr 3 0],.box [],.box []]):List AV×Heap)) (fun _ s rm =>.next (s.mvR T x k c rm)) (fun s=>s)
  (fun (z:List AV×Heap→Option (List Tree)) s=>z ([],lH T s [.box [],.box [.ptr 3 0],.box []])) (fun i s=>s.done=s0.done∧s.opn.length≤s0.opn.length+i∧i≤rs.length) s0 rfl ⟨rfl,by omega,zero_le _⟩ (by rw [Bg])
  (fun i s rm ha hI => ?_) (fun i s rm s' ha hI h => ?_) (fun s hI=>Ev.of fun n z again => ?_)
 ·have hi:=AJ ha;obtain ⟨i1,i2,i3⟩:=hI;have hg1:T.g.dur.getD k 0=d:=by simp [List.getD,hk.dur]
  have hg2:T.g.gaps.getD k []=gs:=by simp [List.getD,hk.gap]
  have hmv:s.mvR T x k c rm=s.mvO T (mvH T x c rm (Ho k c d gs (if rm.frm>x.time then rm.frm else x.time))):=by rw [LSt.mvR,RY,hg1,hg2]
  have hkl:=AJ hk.gap;have hkd:=AJ hk.dur;have hS:=hk.durS;have hA:=hop42 T s x hp rm k c hk.con d (by unfold Sm;omega) (by unfold Sm;omega) (hrs rm (mem_of_getElem? ha)) hk.rng kh gs (fun a ha=>by have:=hk.gapS a ha;unfold Sm;omega) hk.gapL;have hB:=mv50 T s (by rw [i1];omega) (by omega) x hp rm k c hk.con hk.rng (Ho k c d gs (if rm.frm>x.time then rm.frm else x.time)) (fun h hh=>by obtain ⟨h1,a,h2,h3,h4,h5,h6,h7⟩:=L4 hh;have:=hk.gapS a h2;exact ⟨h1,by unfold Sm;omega⟩)
  refine (hA.and hB).mono fun n hab z again => ?_;obtain ⟨h1,h2⟩:=hab;have a1:=h1 (fun p175=>GK n (fun p172=>K7 n again ([.t (tI i)],lH T s [.box [],.box [.ptr 3 0],.box [],.box []]) p172) c.enc (rgE rm) (xA x,hp) p175);have a2:=h2 (fun p172=>K7 n again ([.t (tI i)],lH T s [.box [],.box [.ptr 3 0],.box [],.box []]) p172);rw [Rd.Ac,hmv];refine Eq.trans ?_ (a1.trans (a2.trans ?_))
  ·simp only [JX,lH,gH,spE,rgE,Bs,vv,reduceCtorEq,reduceAdd,reduceEqDiff,zh0,zh1,zh2,zh3,zh4,zh5,zh6,zo0,zo1,ha,Span.enc,hk.dur,hk.gap,encI,(show (i:Int)<rs.length by omega),(show (k:Int)<T.g.gaps.length by omega),(show (k:Int)<T.g.dur.length by omega)];rfl
  ·simp only [K7,lH,gH,vv,reduceCtorEq,reduceAdd,reduceEqDiff,zh0,zh1,zh2,zh3,zh4,zh5,zh6,zo0,zo1,AQ (show i<4611686018427387904 by omega)]
 ·have hi:=AJ ha;simp only [Rd.next.injEq] at h;subst h;obtain ⟨h1,h2⟩:=Sp T s (mv1 T.g x k c rm);exact ⟨h1.trans hI.1,by have:(s.mvR T x k c rm).opn.length≤s.opn.length+1:=h2;omega,by omega⟩
 ·simp only [JX,lH,gH,spE,vv,reduceCtorEq,reduceAdd,reduceEqDiff,zh0,zh1,zh2,zh3,zh4,zh5,zh6,zo0,zo1,lt_irrefl]
theorem eq41 (n:Nat) (y:List Tree) (p33 p132:List AV×Heap) (ag:List AV×Heap→Option (List Tree)) (p:List AV×Heap) (again:List AV×Heap→Option (List Tree)) :
  TV n y p33 p132 ag p again=JX n (spE [⟨0,1099511627776⟩]) y p33 p132 ag p again:=rfl
end Ab
namespace Ab
open Go
def LSt.mvK (T:Tb) (x:Lab) (k:Nat) (s:LSt) (c:AA):LSt:=if c.frm=x.node then (BG T.g c.to).foldl (LSt.mvR T x k c) s else s
def LSt.mvA (T:Tb) (x:Lab):Nat→List AA→LSt→LSt
 |_,[],s=>s
 |k,c::l,s=>LSt.mvA T x (k+1) l (s.mvK T x k c)
theorem Py (T:Tb) (x:Lab) (k:Nat) (c:AA):∀(rs:List Span) (s:LSt),rs.foldl (LSt.mvR T x k c) s=(rs.filterMap (mv1 T.g x k c)).foldl (LSt.mv T) s
 |[],s=>rfl
 |r::rs,s=>by
  rw [foldl_cons,Py T x k c rs];unfold LSt.mvR;cases h:mv1 T.g x k c r with
  |none=>rw [List.filterMap_cons_none h];rfl
  |some m=>rw [List.filterMap_cons_some h];rfl
theorem Pz (T:Tb) (x:Lab):∀(l:List AA) (k:Nat) (s:LSt),LSt.mvA T x k l s=(mvL T.g x k l).foldl (LSt.mv T) s
 |[],k,s=>rfl
 |c::l,k,s=>by
  unfold LSt.mvA mvL;rw [Pz T x l,List.foldl_append];congr 1;unfold LSt.mvK mvC;split
  ·exact Py T x k c _ s
  ·rfl
theorem Sn (T:Tb):∀(ms:List (Lab×Hop)) (s:LSt),(ms.foldl (LSt.mv T) s).done=s.done∧(ms.foldl (LSt.mv T) s).opn=s.opn++(ms.filter fun m=>decide (m.1.node≠T.r.dst) && !s.done.any fun y=>A0 m.1 y).map (·.1)
 |[],s=>by simp
 |m::ms,s=>by
  rw [foldl_cons];obtain ⟨h1,h2⟩:=Sn T ms (s.mv T m);have hd:(s.mv T m).done=s.done:=by unfold LSt.mv;split<;>rfl
  refine ⟨h1.trans hd,?_⟩;rw [h2,hd];unfold LSt.mv;by_cases hc:(decide (m.1.node≠T.r.dst) && !s.done.any fun y=>A0 m.1 y)=true
  ·rw [if_pos hc,filter_cons,if_pos hc];simp [LSt.push]
  ·rw [if_neg hc,filter_cons,if_neg hc]
structure TOk (T:Tb):Prop where
 ct:∀k c,T.cs[k]? = some c→∃d gs,CtOk T k c d gs
 to:∀c∈T.cs,0≤c.to∧c.to<T.g.Ap.length
 room:∀rs∈T.g.Ap,rs.length≤100∧∀a∈rs,0≤a.frm∧a.frm<a.to∧a.to≤1099511627776
 cl:T.cs.length≤10
 rl:T.g.Ap.length≤6
 dead:0≤T.r.ready∧T.r.ready≤T.r.dead∧T.r.dead≤1099511627776
theorem mvK_len (T:Tb) (hT:TOk T) (x:Lab) (k:Nat) (s:LSt) (c:AA) (hc:c∈T.cs):(s.mvK T x k c).done=s.done∧(s.mvK T x k c).opn.length≤s.opn.length+100:=by
 have hf:∀(rs:List Span) (s:LSt),(rs.foldl (LSt.mvR T x k c) s).done=s.done∧(rs.foldl (LSt.mvR T x k c) s).opn.length≤s.opn.length+rs.length:=fun rs=>by
  induction rs with
  |nil=>intro s;exact ⟨rfl,le_refl _⟩
  |cons r rs ih=>
   intro s;rw [foldl_cons];obtain ⟨h1,h2⟩:=ih (s.mvR T x k c r);obtain ⟨h3,h4⟩:=Sp T s (mv1 T.g x k c r);refine ⟨h1.trans h3,?_⟩;have:(s.mvR T x k c r).opn.length≤s.opn.length+1:=h4;simp only [length_cons];omega
 unfold LSt.mvK;split
 ·obtain ⟨h1,h2⟩:=hf (BG T.g c.to) s;refine ⟨h1,le_trans h2 ?_⟩;have:(BG T.g c.to).length≤100:=by
   unfold BG;split
   ·simp
   ·have ht:=hT.to c hc;have hlt:c.to.toNat<T.g.Ap.length:=by omega
    have hr:=hT.room T.g.Ap[c.to.toNat] (getElem_mem hlt);simp only [List.getD,getElem?_eq_getElem hlt,Option.getD_some];exact hr.1
  omega
 ·exact ⟨rfl,by omega⟩
theorem ct54 (T:Tb) (hT:TOk T) (s0:LSt) (hdl:s0.done.length≤50000) (hol:s0.opn.length≤1000000) (x:Lab) (hp:Heap) (ht:0≤x.time∧x.time≤1099511627776) (p123:List AV×Heap) (h123:cL p123 3 1=T.cs.map AA.enc) :
  Ev fun n=>∀z,AI (fun p again=>Hj n p123 (xA x,hp) z p again) n ([.t (tI (0:Nat))],lH T s0 [.box [],.box [.ptr 3 0],.box []])
   = z ([],lH T ((BH T.g x).foldl (LSt.mv T) s0) []):=by
 have hrun:∀(l:List AA) (k:Nat) (s:LSt),A6 (fun i s c=>(.next (LSt.mvK T x i s c):Rd LSt LSt)) (fun s=>s) k l s=LSt.mvA T x k l s:=fun l=>by
  induction l with
  |nil=>intro k s;rfl
  |cons c l ih=>intro k s;exact ih (k+1) _
 have hfin:A6 (fun i s c=>(.next (LSt.mvK T x i s c):Rd LSt LSt)) (fun s=>s) 0 T.cs s0=(BH T.g x).foldl (LSt.mv T) s0:=by rw [hrun,Pz];rfl
 refine BC T.cs (fun i s=>(([.t (tI i)],lH T s [.box [],.box [.ptr 3 0],.box []]):List AV×Heap)) (fun i s c =>.next (LSt.mvK T x i s c)) (fun s=>s)
  (fun (z:List AV×Heap→Option (List Tree)) s=>z ([],lH T s [])) (fun i s=>s.done=s0.done∧s.opn.length≤s0.opn.length+100*i∧i≤T.cs.length) s0 rfl ⟨rfl,by omega,zero_le _⟩ hfin
  (fun i s c ha hI => ?_) (fun i s c s' ha hI h => ?_) (fun s hI=>Ev.of fun n z again => ?_)
 ·have hi:=AJ ha;obtain ⟨i1,i2,i3⟩:=hI;have hcl:=hT.cl;obtain ⟨d,gs,hk⟩:=hT.ct i c ha;have hto:=hT.to c (mem_of_getElem? ha);simp only [Rd.Ac];have ha':(T.cs.map AA.enc)[i]? = some c.enc:=by rw [getElem?_map,ha];rfl
  by_cases hf:c.frm=x.node
  ·by_cases hd:c.to=T.r.dst
   ·have hrm:BG T.g c.to=[⟨0,1099511627776⟩]:=by unfold BG;exact if_pos hd
    have hR:=rm52 T s (by rw [i1];omega) x hp i c d gs hk ht (lH T s [.box [],.box [.ptr 3 0],.box []]) [⟨0,1099511627776⟩] (by simp only [length_cons,length_nil];omega) (fun a ha=>by cases mem_singleton.1 ha;unfold Sm;exact ⟨by decide,by decide⟩);refine hR.mono fun n h z again => ?_;have a1:=h (fun p134=>Hl n again ([.t (tI i)],lH T s [.box [],.box [.ptr 3 0],.box []]) p134);have hs:s.mvK T x i c=[⟨0,1099511627776⟩].foldl (LSt.mvR T x i c) s:=by unfold LSt.mvK;rw [if_pos hf,hrm]
    rw [hs];refine Eq.trans ?_ (a1.trans ?_)
    ·simp only [Hj,h123,lH,gH,eq41,vv,reduceCtorEq,reduceAdd,reduceEqDiff,zh0,zh1,zh2,zh3,zh4,zh5,zh6,zo0,zo1,ha,AA.enc,hf,hd,xA,bne_self_eq_false,beq_self_eq_true,(show (i:Int)<T.cs.length by omega)];rfl
    ·simp only [Hl,lH,gH,vv,reduceCtorEq,reduceAdd,reduceEqDiff,zh0,zh1,zh2,zh3,zh4,zh5,zh6,zo0,zo1,AQ (show i<4611686018427387904 by omega)]
   ·have hlt:c.to.toNat<T.g.Ap.length:=by omega
    have hg:T.g.Ap[c.to.toNat]? = some T.g.Ap[c.to.toNat]:=getElem?_eq_getElem hlt;have hm:=hT.room _ (mem_of_getElem? hg);have hrm:BG T.g c.to=T.g.Ap[c.to.toNat]:=by unfold BG;rw [if_neg (show ¬c.to=T.g.rq.dst from hd)];simp [List.getD,hg]
    generalize T.g.Ap[c.to.toNat]=rs at hg hm hrm;have hR:=rm52 T s (by rw [i1];omega) x hp i c d gs hk ht (lH T s [.box [],.box [.ptr 3 0],.box []]) rs (by omega) (fun a ha=>by have:=hm.2 a ha;unfold Sm;omega);refine hR.mono fun n h z again => ?_;have a1:=h (fun p134=>Hl n again ([.t (tI i)],lH T s [.box [],.box [.ptr 3 0],.box []]) p134);have hs:s.mvK T x i c=rs.foldl (LSt.mvR T x i c) s:=by unfold LSt.mvK;rw [if_pos hf,hrm]
    rw [hs];refine Eq.trans ?_ (a1.trans ?_)
    ·have t1:okL 2 (spE rs) 0=true:=rfl;simp only [Hj,h123,lH,gH,vv,reduceCtorEq,reduceAdd,reduceEqDiff,zh0,zh1,zh2,zh3,zh4,zh5,zh6,zo0,zo1,ha,AA.enc,hf,bne_self_eq_false,beq_eq_false_iff_ne.2 hd,xA,hg,t1,hto.1,hto.2,(show (i:Int)<T.cs.length by omega)];rfl
    ·simp only [Hl,lH,gH,vv,reduceCtorEq,reduceAdd,reduceEqDiff,zh0,zh1,zh2,zh3,zh4,zh5,zh6,zo0,zo1,AQ (show i<4611686018427387904 by omega)]
  ·refine Ev.of fun n z again => ?_;have hs:s.mvK T x i c=s:=by unfold LSt.mvK;rw [if_neg hf]
   simp only [Hj,Hl,lH,gH,h123,hs,vv,reduceCtorEq,reduceAdd,reduceEqDiff,zh0,zh1,zh2,zh3,zh4,zh5,zh6,zo0,zo1,ha,AA.enc,bne_iff_ne.2 hf,xA,AQ (show i<4611686018427387904 by omega),(show (i:Int)<T.cs.length by omega)]
 ·have hi:=AJ ha;simp only [Rd.next.injEq] at h;subst h;obtain ⟨h1,h2⟩:=mvK_len T hT x i s c (mem_of_getElem? ha);exact ⟨h1.trans hI.1,by omega,by omega⟩
 ·simp only [Hj,lH,gH,h123,vv,reduceCtorEq,reduceAdd,reduceEqDiff,zh0,zh1,zh2,zh3,zh4,zh5,zh6,zo0,zo1,lt_irrefl]
end Ab
namespace Ab
open Go
def lHr (T:Tb) (done:List Lab) (vo:Nat) (es:List (List Tree)) (lo:Nat) (suf:Heap):Heap:=
 gH T T.g.gaps T.g.Ap T.g.dur (.box [.ptr 3 0] :: .box [.ptr 3 0] :: .row false done.length 4 (done.map Lab.enc) :: .box [.sref 6 done.length 0 done.length] :: .row false vo 4 es :: .box [.sref 8 vo 0 lo]::suf)
theorem OT {l:List Lab} {jk:List (List Tree)} {i:Nat} {y:Lab} (h:l[i]? = some y):(l.map Lab.enc++jk)[i]? = some y.enc:=by rw [getElem?_append_left (by simpa using AJ h),getElem?_map,h];rfl
theorem Sv:∀(os:List Lab) (i:Nat) (m:Lab),A6 (fun _ m y=>(.next (if J1 y m<0 then y else m):Rd Lab Lab)) (fun m=>m) i os m=C3 m os
 |[],i,m=>rfl
 |y::os,i,m=>Sv os (i+1) _
theorem mn4 (T:Tb) (s:LSt) (o:Lab) (os:List Lab) (hs:s.opn=o::os) (hl:s.opn.length≤10000000) (e:List AV) :
  Ev fun n=>∀z,AI (fun p again=>PG n (e,lH T s []) z p again) n ([.t (tI ((0+1:Nat):Int))],lH T s [Bs,.box (xA o)])=z (xA (C3 o os),lH T s []):=by
 refine BC os (fun i m=>(([.t (tI ((i+1:Nat):Int))],lH T s [Bs,.box (xA m)]):List AV×Heap)) (fun _ m y =>.next (if J1 y m<0 then y else m)) (fun m=>m)
  (fun (z:List AV×Heap→Option (List Tree)) m=>z (xA m,lH T s [])) (fun _ _=>True) o rfl trivial (Sv os 0 o)
  (fun i m y ha hI => ?_) (fun _ _ _ _ _ _ _=>trivial) (fun m hI=>Ev.of fun n z again => ?_)
 ·have hi:=AJ ha;have hg:s.opn[i+1]? = some y:=by rw [hs];simpa using ha
  have hg2:=OT (jk:=s.jk) hg;have hlt:=AJ hg;refine (s88 y m).mono fun n h z again => ?_;simp only [Lab.enc,cons_append,nil_append] at h;simp only [Lab.enc] at hg2;simp only [PG,Wg,lH,gH,xA,Bs,vv,reduceCtorEq,reduceAdd,reduceEqDiff,zh0,zh1,zh2,zh3,zh4,zh5,zh6,zo0,zo1,hg2,Lab.enc,h,(show ((i+1:Nat):Int)<s.opn.length by omega),AQ (show i+1<4611686018427387904 by omega),Rd.Ac];by_cases hc:J1 y m<0
  ·simp only [hc,vv,reduceCtorEq,reduceAdd,reduceEqDiff,zh0,zh1,zh2,zh3,zh4,zh5,zh6,zo0,zo1]
  ·simp only [hc,vv,reduceCtorEq,reduceAdd,reduceEqDiff,zh0,zh1,zh2,zh3,zh4,zh5,zh6,zo0,zo1]
 ·have hlen:s.opn.length=os.length+1:=by rw [hs];rfl
  simp only [PG,lH,gH,xA,Bs,vv,reduceCtorEq,reduceAdd,reduceEqDiff,zh0,zh1,zh2,zh3,zh4,zh5,zh6,zo0,zo1,hlen,lt_irrefl]
theorem ix5 (T:Tb) (s:LSt) (x:Lab) (hl:s.opn.length≤10000000) :
  Ev fun n=>∀z,AI (fun p again=>PF n (xA x,lH T s []) z p again) n ([.t (tI (0:Nat))],lH T s [.box []])=z ([.t (tI (idx (fun y=>A0 x y) s.opn))],lH T s [.box []]):=by
 refine BC s.opn (fun i _=>(([.t (tI i)],lH T s [.box []]):List AV×Heap)) (fun i _ b=>if A0 x b=true then .done (i:Int) else .next ()) (fun _ => -1)
  (fun (z:List AV×Heap→Option (List Tree)) (o:Int)=>z ([.t (tI o)],lH T s [.box []])) (fun _ _=>True) () rfl trivial (Jy _ s.opn)
  (fun i s' a ha hI => ?_) (fun _ _ _ _ _ _ _=>trivial) (fun s' hI=>Ev.of fun n z again => ?_)
 ·have hi:=AJ ha;have hg2:=OT (jk:=s.jk) ha;refine (s91 x a).mono fun n h z again => ?_;simp only [Lab.enc,cons_append,nil_append] at h;simp only [Lab.enc] at hg2;simp only [PF,lH,gH,xA,vv,reduceCtorEq,reduceAdd,reduceEqDiff,zh0,zh1,zh2,zh3,zh4,zh5,zh6,zo0,zo1,hg2,Lab.enc,h,(show (i:Int)<s.opn.length by omega),AQ (show i<4611686018427387904 by omega)];cases A0 x a<;>simp [AF,Rd.Ah,Rd.Ac]
 ·simp only [PF,lH,gH,xA,vv,reduceCtorEq,reduceAdd,reduceEqDiff,zh0,zh1,zh2,zh3,zh4,zh5,zh6,zo0,zo1,lt_irrefl]
structure SM (opn:List Lab) (orig:List (List Tree)) (j:Nat) (s:List Lab×List (List Tree)):Prop where
 len:s.2.length=orig.length
 keep:s.2.take s.1.length=s.1.map Lab.enc
 rest:∀q,j≤q→s.2[q]? = orig[q]?
 le:s.1.length<j
 jle:j≤opn.length
 four:∀e∈s.2,e.length=4
theorem Vc {opn:List Lab} {orig:List (List Tree)} {j:Nat} {s:List Lab×List (List Tree)} (h:SM opn orig j s) (hlo:opn.length≤orig.length) {y:Lab} (hy:opn[j]? = some y):SM opn orig (j+1) (s.1++[y],s.2.set s.1.length y.enc) where
 len:=by rw [length_set];exact h.len
 keep:=by have h1:=h.len;have h2:=h.le;have h3:=h.jle;simp only [length_append,length_cons,length_nil,map_append,map_cons,map_nil];rw [List.take_succ_eq_append_getElem (by rw [length_set];omega),List.take_set_of_le (le_refl _),h.keep,List.getElem_set_self]
 rest:=fun q hq=>by have:=h.le;rw [getElem?_set_ne (by omega)];exact h.rest q (by omega)
 le:=by have:=h.le;simp only [length_append,length_cons,length_nil];omega
 jle:=AJ hy
 four:=fun e he=>by
  rcases List.mem_or_eq_of_mem_set he with h1|h1
  ·exact h.four e h1
  ·rw [h1];rfl
theorem T3 {opn:List Lab} {orig:List (List Tree)} {j:Nat} {s:List Lab×List (List Tree)} (h:SM opn orig j s) (hj:j<opn.length):SM opn orig (j+1) s:=
 ⟨h.len,h.keep,fun q hq=>h.rest q (by omega),by have:=h.le;omega,hj,h.four⟩
def KI:List Tree:=[tI 0,tI 0,tI 0,tI 0]
def JJ (T:Tb) (s:LSt) (i0:Nat) (i:Nat) (d:List Lab×List (List Tree)):List AV×Heap:=([.t (tI d.1.length),.t (tI ((i0+1+i:Nat):Int))],lHr T s.done s.vo d.2 s.opn.length [.box []])
def Ox {Q:Type} (x:Lab) (_:Nat) (d:List Lab×List (List Tree)) (y:Lab):Rd (List Lab×List (List Tree)) Q :=.next (if A0 x y=true then d else (d.1++[y],d.2.set d.1.length y.enc))
theorem Vy (T:Tb) (s:LSt) (hl:s.opn.length≤10000000) (x:Lab) (i0 i:Nat) (d:List Lab×List (List Tree)) (y:Lab) (hy:s.opn[i0+1+i]? = some y) (hI:SM s.opn (s.opn.map Lab.enc++s.jk) (i0+1+i) d) :
  Ev fun n=>∀z again,JW n (xA x,lH T s []) z (JJ T s i0 i d) again=again (JJ T s i0 (i+1) (if A0 x y=true then d else (d.1++[y],d.2.set d.1.length y.enc))):=by
 have hlt:=AJ hy;have h1:=hI.le;have h2:=hI.jle;have h3:=hI.len;have hg:d.2[i0+1+i]? = some y.enc:=by rw [hI.rest _ (le_refl _)];exact OT hy
 have hll:d.1.length<d.2.length:=by rw [h3];simp;omega
 have hk:d.2[d.1.length]? = some d.2[d.1.length]:=getElem?_eq_getElem hll;have h4:drop 4 d.2[d.1.length]=[]:=List.drop_eq_nil_of_le (by rw [hI.four _ (getElem_mem hll)];exact le_refl _);generalize d.2[d.1.length]=w at hk h4;have hw:w64 (((i0+1+i:Nat):Int)+1)=((i0+1+(i+1):Nat):Int):=by rw [Ay (by omega) (by omega)];omega
 have hw2:w64 ((d.1.length:Int)+1)=((d.1.length+1:Nat):Int):=by rw [Ay (by omega) (by omega)];omega
 refine (s91 x y).mono fun n h z again => ?_;simp only [Lab.enc,cons_append,nil_append] at h;simp only [Lab.enc] at hg;simp only [JW,TW,JJ,lHr,lH,gH,xA,vv,reduceCtorEq,reduceAdd,reduceEqDiff,zh0,zh1,zh2,zh3,zh4,zh5,zh6,zo0,zo1,hg,hk,h4,Lab.enc,h,(show ((i0+1+i:Nat):Int)<s.opn.length by omega),(show (d.1.length:Int)<s.opn.length by omega),hw,hw2,le_refl,append_nil];cases A0 x y with
 |true=>simp only [vv,reduceCtorEq,reduceAdd,reduceEqDiff,zh0,zh1,zh2,zh3,zh4,zh5,zh6,zo0,zo1]
 |false=>simp only [vv,reduceCtorEq,reduceAdd,reduceEqDiff,zh0,zh1,zh2,zh3,zh4,zh5,zh6,zo0,zo1,hw2,length_append,hk,h4,append_nil,length_cons,length_nil]
end Ab
namespace Ab
open Go
theorem TD {Q:Type} (x:Lab) (fin:List Lab×List (List Tree)→Q):∀(l:List Lab) (i:Nat) (d:List Lab×List (List Tree)),A6 (Ox x) fin i l d=fin (l.foldl (fun d y=>if A0 x y=true then d else (d.1++[y],d.2.set d.1.length y.enc)) d)
 |[],i,d=>rfl
 |y::l,i,d=>TD x fin l (i+1) _
def Vz (x:Lab) (opn:List Lab) (jk:List (List Tree)) (i0:Nat):List Lab×List (List Tree):=
 (opn.drop (i0+1)).foldl (fun d y=>if A0 x y=true then d else (d.1++[y],d.2.set d.1.length y.enc)) (opn.take i0,opn.map Lab.enc++jk)
theorem QU (x:Lab):∀(l:List Lab) (d:List Lab×List (List Tree)),(l.foldl (fun d y=>if A0 x y=true then d else (d.1++[y],d.2.set d.1.length y.enc)) d).1=d.1++l.filter fun y => !A0 x y
 |[],d=>by simp
 |y::l,d=>by rw [foldl_cons,QU x l,filter_cons];cases A0 x y<;>simp
def LSt.del (s:LSt) (x:Lab) (i0:Nat):LSt:=⟨s.done++[x],s.vo,(Vz x s.opn s.jk i0).1,replicate (s.opn.length-(Vz x s.opn s.jk i0).1.length) KI++(Vz x s.opn s.jk i0).2.drop s.opn.length⟩
def LSt.nxt (T:Tb) (s:LSt) (x:Lab):LSt:=(BH T.g x).foldl (LSt.mv T) (s.del x (idx (fun y=>A0 x y) s.opn).toNat)
structure SOk (s:LSt):Prop where
 four:∀e∈s.jk,e.length=4
 dl:s.done.length≤1000
 ol:s.opn.length≤1000000
theorem enc4 (l:List Lab):∀e∈l.map Lab.enc,e.length=4:=fun e he=>by obtain ⟨y,_,rfl⟩:=mem_map.1 he;rfl
theorem nx56 (T:Tb) (hT:TOk T) (s:LSt) (hs:SOk s) (x:Lab) (hx:0≤x.time∧x.time≤1099511627776) (i0:Nat) (hi0:i0<s.opn.length) :
  Ev fun n=>∀z,K6 n (xA x,lH T s []) z ([.t (tI i0)],lH T s [.box []])=z ([],lH T ((BH T.g x).foldl (LSt.mv T) (s.del x i0)) []):=by
 have hlo:s.opn.length≤(s.opn.map Lab.enc++s.jk).length:=by simp
 have hd0:SM s.opn (s.opn.map Lab.enc++s.jk) (i0+1+0) (s.opn.take i0,s.opn.map Lab.enc++s.jk):=
  {len:=rfl
   keep:=by simp only [length_take];rw [List.take_append_of_le_length (by simp;omega),map_take];congr 1;omega
   rest:=fun q _=>rfl
   le:=by simp only [length_take];omega
   jle:=hi0
   four:=fun e he=>by
    rcases mem_append.1 he with h|h
    ·exact enc4 _ e h
    ·exact hs.four e h}
 have hol:=hs.ol;have hloop:Ev fun n=>∀z,AI (fun p again=>JW n (xA x,lH T s []) z p again) n (JJ T s i0 0 (s.opn.take i0,s.opn.map Lab.enc++s.jk))=z ([],lH T ((BH T.g x).foldl (LSt.mv T) (s.del x i0)) []):=by
  refine BC (s.opn.drop (i0+1)) (JJ T s i0) (Ox x) (fun d=>(⟨s.done++[x],s.vo,d.1,replicate (s.opn.length-d.1.length) KI++d.2.drop s.opn.length⟩:LSt))
   (fun (z:List AV×Heap→Option (List Tree)) s1=>z ([],lH T ((BH T.g x).foldl (LSt.mv T) s1) [])) (fun i d=>SM s.opn (s.opn.map Lab.enc++s.jk) (i0+1+i) d) (s.opn.take i0,s.opn.map Lab.enc++s.jk) rfl hd0 (by rw [TD];rfl)
   (fun i d y ha hI => ?_) (fun i d y s' ha hI h => ?_) (fun d hI => ?_)
  ·rw [getElem?_drop] at ha;exact (Vy T s (by omega) x i0 i d y ha hI).mono fun n h z again=>h z again
  ·rw [getElem?_drop] at ha;unfold Ox at h;simp only [Rd.next.injEq] at h;subst h;cases A0 x y with
   |true=>exact T3 hI (AJ ha)
   |false=>exact Vc hI hlo ha
  ·have hll:i0+1+(s.opn.drop (i0+1)).length=s.opn.length:=by rw [length_drop];omega
   rw [hll] at hI;have h1:=hI.le;have h3:=hI.len;have hct:=ct54 T hT ⟨s.done++[x],s.vo,d.1,replicate (s.opn.length-d.1.length) KI++d.2.drop s.opn.length⟩ (by have:=hs.dl;simp;omega) (by simp only;omega) x (lH T s []) hx (JJ T s i0 (s.opn.drop (i0+1)).length d) (by simp only [JJ,lHr,gH,vv,reduceCtorEq,reduceAdd,reduceEqDiff,zh0,zh1,zh2,zh3,zh4,zh5,zh6,zo0,zo1]);refine hct.mono fun n h z again => ?_;have a1:=h z;refine Eq.trans ?_ a1;have hrow:A3 d.2 d.1.length (replicate (s.opn.length-d.1.length) KI)=d.1.map Lab.enc++(replicate (s.opn.length-d.1.length) KI++d.2.drop s.opn.length):=by unfold A3;rw [hI.keep,List.length_replicate,show d.1.length+(s.opn.length-d.1.length)=s.opn.length by omega,append_assoc]
   have hle1:s.done.length+1≤1073741824:=by have:=hs.dl;omega
   have hj:((i0+1+(s.opn.drop (i0+1)).length:Nat):Int)=(s.opn.length:Int):=by rw [hll]
   have hkl:(d.1.length:Int)≤s.opn.length:=by omega
   have hrl:(d.1.length:Int)≤((d.1.map Lab.enc++(replicate (s.opn.length-d.1.length) KI++d.2.drop s.opn.length)).length:Int):=by simp only [length_append,length_map];omega
   have t3:take s.done.length (s.done.map Lab.enc)=s.done.map Lab.enc:=take_of_length_le (by simp);unfold KI at hrow hrl;simp only [JW,JJ,hj,lHr,lH,gH,xA,KI,vv,reduceCtorEq,reduceAdd,reduceEqDiff,zh0,zh1,zh2,zh3,zh4,zh5,zh6,zo0,zo1,lt_irrefl,hkl,hrow,hle1,t3,le_refl,Nat.sub_zero,length_append,map_append,map_cons,map_nil,Lab.enc];rw [DC (by omega)];rfl
 refine hloop.mono fun n h z => ?_;refine Eq.trans ?_ (h z);have hw:w64 ((i0:Int)+1)=((i0+1+0:Nat):Int):=by rw [Ay (by omega) (by omega)];omega
 have hne:((i0:Int)== -1)=false:=beq_eq_false_iff_ne.2 (by omega);have hl0:(s.opn.take i0).length=i0:=by rw [length_take];omega
 simp only [K6,JJ,lHr,lH,gH,xA,vv,reduceCtorEq,reduceAdd,reduceEqDiff,zh0,zh1,zh2,zh3,zh4,zh5,zh6,zo0,zo1,hw,hne,hl0]
theorem QC {x:Lab} {l:List Lab} (hx:x∈l):∃i0:Nat,i0<l.length∧idx (fun y=>A0 x y) l=(i0:Int)∧l.take i0++(l.drop (i0+1)).filter (fun y => !A0 x y)=l.filter fun y => !A0 x y:=by
 have hxx:A0 x x=true:=EM.2 rfl;cases h:l.findIdx? (fun y=>A0 x y) with
 |none=>
  rw [List.findIdx?_eq_none_iff] at h;have:=h x hx;rw [hxx] at this;cases this
 |some i0=>
  have hi:idx (fun y=>A0 x y) l=(i0:Int):=by simp [idx,h]
  obtain ⟨h1,h2,h3⟩:=List.findIdx?_eq_some_iff_getElem.1 h;refine ⟨i0,h1,hi,?_⟩
  conv=>rhs;rw [← List.take_append_drop i0 l,filter_append,List.drop_eq_getElem_cons h1,filter_cons]
  rw [if_neg (by simp [h2])];congr 1;rw [filter_eq_self.2];intro y hy;obtain ⟨j,hj,rfl⟩:=mem_iff_getElem.1 hy;have hj':j<i0:=by simp only [length_take] at hj;omega
  have:=h3 j hj';rw [List.getElem_take];simpa using this
theorem mv_jk (T:Tb):∀(ms:List (Lab×Hop)) (s:LSt),(∀e∈s.jk,e.length=4)→∀e∈(ms.foldl (LSt.mv T) s).jk,e.length=4
 |[],s,h=>h
 |m::ms,s,h=>by
  rw [foldl_cons];refine mv_jk T ms _ ?_;unfold LSt.mv;split
  ·intro e he;cases he
  ·exact h
theorem Nr (x:Lab):∀(l:List Lab) (d:List Lab×List (List Tree)),(∀e∈d.2,e.length=4)→∀e∈(l.foldl (fun d y=>if A0 x y=true then d else (d.1++[y],d.2.set d.1.length y.enc)) d).2,e.length=4
 |[],d,h=>h
 |y::l,d,h=>by
  rw [foldl_cons];refine Nr x l _ ?_;split
  ·exact h
  ·intro e he;rcases List.mem_or_eq_of_mem_set he with h1|h1
   ·exact h e h1
   ·rw [h1];rfl
theorem RX (T:Tb) (s:LSt) (hs:∀e∈s.jk,e.length=4) (x:Lab) (hx:x∈s.opn):(s.nxt T x).done=s.done++[x]∧(s.nxt T x).opn=s.opn.filter (fun y => !A0 x y)++OY T.g (s.done++[x]) x∧∀e∈(s.nxt T x).jk,e.length=4:=by
 obtain ⟨i0,h1,h2,h3⟩:=QC hx;unfold LSt.nxt;rw [h2,toNat_natCast];obtain ⟨m1,m2⟩:=Sn T (BH T.g x) (s.del x i0);refine ⟨m1,?_,mv_jk T _ _ ?_⟩
 ·rw [m2];congr 1;show (Vz x s.opn s.jk i0).1=_;unfold Vz;rw [QU];exact h3
 ·intro e he;rcases mem_append.1 he with h|h
  ·rw [List.eq_of_mem_replicate h];rfl
  ·refine Nr x _ _ ?_ e (mem_of_mem_drop h);intro e he;rcases mem_append.1 he with h|h
   ·exact enc4 _ e h
   ·exact hs e h
theorem nx57 (T:Tb) (hT:TOk T) (s:LSt) (hs:SOk s) (x:Lab) (hm:x∈s.opn) (hx:0≤x.time∧x.time≤1099511627776) :
  Ev fun n=>∀z,K5 n z (xA x,lH T s [])=z ([],lH T (s.nxt T x) []):=by
 obtain ⟨i0,h1,h2,h3⟩:=QC hm;have hol:=hs.ol;refine ((ix5 T s x (by omega)).and (nx56 T hT s hs x hx i0 h1)).mono fun n ⟨k1,k2⟩ z => ?_;have a1:=k1 (fun p45=>K6 n (xA x,lH T s []) z p45);rw [h2] at a1;have a2:=k2 z;have e1:s.nxt T x=(BH T.g x).foldl (LSt.mv T) (s.del x i0):=by unfold LSt.nxt;rw [h2,toNat_natCast]
 rw [e1];refine Eq.trans ?_ (a1.trans a2);simp only [K5,lH,gH,xA,vv,reduceCtorEq,reduceAdd,reduceEqDiff,zh0,zh1,zh2,zh3,zh4,zh5,zh6,zo0,zo1];rfl
end Ab
namespace Ab
open Go
structure ASt where
 ls:List Lab
 vo:Nat
 jk:List (List Tree)
def aH (T:Tb) (a:ASt) (b:Option Int) (suf:Heap):Heap:=
 gH T T.g.gaps T.g.Ap T.g.dur (.box [.ptr 3 0] :: .box [.ptr 3 0] :: .row false a.ls.length 4 (a.ls.map Lab.enc) :: .box [.sref 6 a.ls.length 0 a.ls.length] :: .row false a.vo 4 a.jk :: .box [.sref 8 a.vo 0 0] :: .box [.sref 6 a.ls.length 0 a.ls.length] ::
  .box [.ptr 3 0] :: .box [.t (tI (b.getD 0))] :: .box [.t (.bool b.isSome)]::suf)
theorem hop66 (T:Tb) (a:ASt) (b:Option Int) (x:Lab) (rm:Span) (k:Nat) (c:AA) (hk:T.cs[k]? = some c) (d:Int) (hd:Sm d) (ht:Sm x.time) (hr:Sm rm.frm) (hc:0≤c.rng∧c.rng≤1048576) (kh:Heap)
  (gs:List Span) (hgs:∀a∈gs,Sm a.frm∧Sm a.to) (hgl:gs.length≤100000) :
  Ev fun n=>∀z,AI (fun p again=>Ku n (spE gs) (rgE rm) x.enc [tI d] ([.t (tI k)],kh) z p again) n ([.t (tI (0:Nat))],aH T a b [.box [],.box [.ptr 3 0],.box [],.box [],.box [],Bs])
   = z (hpA (Ho k c d gs (if rm.frm>x.time then rm.frm else x.time)),aH T a b [.box [],.box [.ptr 3 0],.box [],.box [],.box []]):=by
 refine BC gs (fun i _=>(([.t (tI i)],aH T a b [.box [],.box [.ptr 3 0],.box [],.box [],.box [],Bs]):List AV×Heap)) (FH c k d (if rm.frm>x.time then rm.frm else x.time)) (fun _=>none)
  (fun (z:List AV×Heap→Option (List Tree)) o=>z (hpA o,aH T a b [.box [],.box [.ptr 3 0],.box [],.box [],.box []])) (fun _ _=>True) () rfl trivial (Ko c k d _ gs 0)
  (fun i s' e ha hI=>Ev.of fun n z again => ?_) (fun _ _ _ _ _ _ _=>trivial) (fun s' hI=>Ev.of fun n z again => ?_)
 ·have hi:=AJ ha;obtain ⟨h1,h2⟩:=hgs e (mem_of_getElem? ha);have hb:Sm (CL (if rm.frm>x.time then rm.frm else x.time) e):=by unfold CL Sm at *;omega
  have e1:w64 (CL (if rm.frm>x.time then rm.frm else x.time) e+d)=CL (if rm.frm>x.time then rm.frm else x.time) e+d:=RA hb hd;have e3:w64 (CL (if rm.frm>x.time then rm.frm else x.time) e+d+c.rng)=CL (if rm.frm>x.time then rm.frm else x.time) e+d+c.rng:=by unfold Sm at hb hd;exact Ay (by omega) (by omega)
  have e4:(if (if rm.frm>x.time then rm.frm else x.time)>e.frm then (if rm.frm>x.time then rm.frm else x.time) else e.frm)=CL (if rm.frm>x.time then rm.frm else x.time) e:=rfl;simp only [gt_iff_lt] at e1 e3 e4;simp only [Ku,aH,gH,spE,rgE,Lab.enc,Bs,vv,reduceCtorEq,reduceAdd,reduceEqDiff,zh0,zh1,zh2,zh3,zh4,zh5,zh6,zo0,zo1,ha,Span.enc,e1,e3,e4,hk,AA.enc,(show (i:Int)<gs.length by omega),AQ (show i<4611686018427387904 by omega),FH];by_cases hc2:CL (if x.time<rm.frm then rm.frm else x.time) e+d≤e.to
  ·simp only [hc2,vv,reduceCtorEq,reduceAdd,reduceEqDiff,zh0,zh1,zh2,zh3,zh4,zh5,zh6,zo0,zo1,Rd.Ah,hpA]
  ·simp only [hc2,vv,reduceCtorEq,reduceAdd,reduceEqDiff,zh0,zh1,zh2,zh3,zh4,zh5,zh6,zo0,zo1,Rd.Ac]
 ·simp only [Ku,aH,gH,spE,rgE,Lab.enc,Bs,vv,reduceCtorEq,reduceAdd,reduceEqDiff,zh0,zh1,zh2,zh3,zh4,zh5,zh6,zo0,zo1,lt_irrefl,hpA]
def arO (T:Tb) (b:Option Int):Option (Lab×Hop)→Option Int
 |none=>b
 |some m=>GC T.g b m
theorem mv71 (T:Tb) (a:ASt) (b:Option Int) (x:Lab) (rm:Span) (k:Nat) (c:AA) (hk:T.cs[k]? = some c) (hc:0≤c.rng∧c.rng≤1048576) (o:Option Hop) (hh:∀h,o=some h→h.con=k∧Sm h.stop) :
  ∀n z,GJ n z c.enc x.enc (rgE rm) (hpA o,aH T a b [.box [],.box [.ptr 3 0],.box [],.box [],.box []])=z ([],aH T a (arO T b (mvH T x c rm o)) [.box [],.box [.ptr 3 0],.box [],.box []]):=by
 intro n z;cases o with
 |none=>
  simp only [GJ,Eg,aH,gH,hpA,mvH,arO,vv,reduceCtorEq,reduceAdd,reduceEqDiff,zh0,zh1,zh2,zh3,zh4,zh5,zh6,zo0,zo1]
 |some h=>
  obtain ⟨c1,c2⟩:=hh h rfl;have e1:w64 (2*c.rng)=2*c.rng:=Ay (by omega) (by omega);have e2:w64 (h.stop+2*c.rng)=h.stop+2*c.rng:=by unfold Sm at c2;exact Ay (by omega) (by omega)
  have hA:GJ n z c.enc x.enc (rgE rm) (hpA (some h),aH T a b [.box [],.box [.ptr 3 0],.box [],.box [],.box []])=
    Eg n z (hpA (some h),aH T a b [.box [],.box [.ptr 3 0],.box [],.box [],.box []]) c.enc ([.t (.bool (Kg T x c rm h))],aH T a b [.box [],.box [.ptr 3 0],.box [],.box [],.box [],.box []]):=by
   have hB:∀lv:Int,∀w,K4 n x.enc w (hpA (some h),aH T a b [.box [],.box [.ptr 3 0],.box [],.box [],.box []]) c.enc (rgE rm) ([.t (tI lv)],aH T a b [.box [],.box [.ptr 3 0],.box [],.box [],.box [],.box []])=
     w ([.t (.bool (decide (lv>x.to∨h.arr>T.r.dead∨(c.to≠T.r.dst∧h.arr≥rm.to))))],aH T a b [.box [],.box [.ptr 3 0],.box [],.box [],.box [],.box []]):=fun lv w=>by
    simp only [K4,aH,gH,hpA,Lab.enc,rgE,AA.enc,vv,reduceCtorEq,reduceAdd,reduceEqDiff,zh0,zh1,zh2,zh3,zh4,zh5,zh6,zo0,zo1];by_cases b1:x.to<lv
    ·simp only [b1,vv,reduceCtorEq,reduceAdd,reduceEqDiff,zh0,zh1,zh2,zh3,zh4,zh5,zh6,zo0,zo1]
    ·by_cases b2:T.r.dead<h.arr
     ·simp only [b1,b2,vv,reduceCtorEq,reduceAdd,reduceEqDiff,zh0,zh1,zh2,zh3,zh4,zh5,zh6,zo0,zo1]
     ·by_cases b3:c.to=T.r.dst
      ·simp only [b1,b2,b3,bne_self_eq_false,vv,reduceCtorEq,reduceAdd,reduceEqDiff,zh0,zh1,zh2,zh3,zh4,zh5,zh6,zo0,zo1,ne_eq,not_true_eq_false]
      ·simp only [b1,b2,b3,bne_iff_ne,vv,reduceCtorEq,reduceAdd,reduceEqDiff,zh0,zh1,zh2,zh3,zh4,zh5,zh6,zo0,zo1,ne_eq,not_false_eq_true]
   have hC:GJ n z c.enc x.enc (rgE rm) (hpA (some h),aH T a b [.box [],.box [.ptr 3 0],.box [],.box [],.box []])=
     K4 n x.enc (fun p183=>Eg n z (hpA (some h),aH T a b [.box [],.box [.ptr 3 0],.box [],.box [],.box []]) c.enc p183) (hpA (some h),aH T a b [.box [],.box [.ptr 3 0],.box [],.box [],.box []]) c.enc (rgE rm) ([.t (tI (D4 T.r c h))],aH T a b [.box [],.box [.ptr 3 0],.box [],.box [],.box [],.box []]):=by
    simp only [GJ,aH,gH,hpA,D4,c1,hk,AA.enc,Lab.enc,e1,e2,vv,reduceCtorEq,reduceAdd,reduceEqDiff,zh0,zh1,zh2,zh3,zh4,zh5,zh6,zo0,zo1];cases T.r.cust<;>simp only [vv,reduceCtorEq,reduceAdd,reduceEqDiff,zh0,zh1,zh2,zh3,zh4,zh5,zh6,zo0,zo1]
   rw [hC,hB];rfl
  rw [hA];cases hb:Kg T x c rm h with
  |true=>
   have hm:mvH T x c rm (some h)=none:=by simp only [Kg,decide_eq_true_eq] at hb;simp only [mvH,if_pos hb]
   simp only [Eg,aH,gH,hm,arO,vv,reduceCtorEq,reduceAdd,reduceEqDiff,zh0,zh1,zh2,zh3,zh4,zh5,zh6,zo0,zo1]
  |false=>
   have hm:mvH T x c rm (some h)=some (⟨c.to,rm.frm,rm.to,h.arr⟩,h):=by simp only [Kg,decide_eq_false_iff_not] at hb;simp only [mvH,if_neg hb]
   rw [hm];have hg:T.g.rq=T.r:=rfl;simp only [arO,GC,hg];by_cases hd:c.to=T.r.dst
   ·cases b with
    |none=>simp only [Eg,Jc,Jd,aH,gH,hpA,AA.enc,hd,beq_self_eq_true,QF,vv,reduceCtorEq,reduceAdd,reduceEqDiff,zh0,zh1,zh2,zh3,zh4,zh5,zh6,zo0,zo1,isSome_none,isSome_some,Option.getD_some]
    |some v=>
     by_cases hv:h.arr<v
     ·simp only [Eg,Jc,Jd,aH,gH,hpA,AA.enc,hd,beq_self_eq_true,QF,hv,vv,reduceCtorEq,reduceAdd,reduceEqDiff,zh0,zh1,zh2,zh3,zh4,zh5,zh6,zo0,zo1,isSome_none,isSome_some,Option.getD_some]
     ·simp only [Eg,Jc,Jd,aH,gH,hpA,AA.enc,hd,beq_self_eq_true,QF,hv,vv,reduceCtorEq,reduceAdd,reduceEqDiff,zh0,zh1,zh2,zh3,zh4,zh5,zh6,zo0,zo1,isSome_none,isSome_some,Option.getD_some]
   ·simp only [Eg,Jc,Jd,aH,gH,hpA,AA.enc,hd,beq_eq_false_iff_ne.2 hd,vv,reduceCtorEq,reduceAdd,reduceEqDiff,zh0,zh1,zh2,zh3,zh4,zh5,zh6,zo0,zo1]
theorem rm73 (T:Tb) (a:ASt) (b0:Option Int) (x:Lab) (k:Nat) (c:AA) (d:Int) (gs:List Span) (hk:CtOk T k c d gs) (ht:0≤x.time∧x.time≤1099511627776) (kh:Heap)
  (rs:List Span) (hol:rs.length≤10000000) (hrs:∀a∈rs,Sm a.frm) :
  Ev fun n=>∀z,AI (fun p again=>JV n (spE rs) c.enc x.enc ([.t (tI k)],kh) z p again) n ([.t (tI (0:Nat))],aH T a b0 [.box [],.box [.ptr 3 0],.box [],.box []])
   = z ([],aH T a (rs.foldl (fun b rm=>arO T b (mv1 T.g x k c rm)) b0) [.box [],.box [.ptr 3 0],.box []]):=by
 refine BC rs (fun i b=>(([.t (tI i)],aH T a b [.box [],.box [.ptr 3 0],.box [],.box []]):List AV×Heap)) (fun _ b rm =>.next (arO T b (mv1 T.g x k c rm))) (fun s=>s)
  (fun (z:List AV×Heap→Option (List Tree)) b=>z ([],aH T a b [.box [],.box [.ptr 3 0],.box []])) (fun i b=>True) b0 rfl trivial (by rw [Bg])
  (fun i b rm ha hI => ?_) (fun _ _ _ _ _ _ _=>trivial) (fun b hI=>Ev.of fun n z again => ?_)
 ·have hi:=AJ ha;have hg1:T.g.dur.getD k 0=d:=by simp [List.getD,hk.dur]
  have hg2:T.g.gaps.getD k []=gs:=by simp [List.getD,hk.gap]
  have hkl:=AJ hk.gap;have hkd:=AJ hk.dur;have hS:=hk.durS;have hA:=hop66 T a b x rm k c hk.con d (by unfold Sm;omega) (by unfold Sm;omega) (hrs rm (mem_of_getElem? ha)) hk.rng kh gs (fun a ha=>by have:=hk.gapS a ha;unfold Sm;omega) hk.gapL;have hB:=mv71 T a b x rm k c hk.con hk.rng (Ho k c d gs (if rm.frm>x.time then rm.frm else x.time)) (fun h hh=>by obtain ⟨h1,a,h2,h3,h4,h5,h6,h7⟩:=L4 hh;have:=hk.gapS a h2;exact ⟨h1,by unfold Sm;omega⟩)
  refine hA.mono fun n h1 z again => ?_;have a1:=h1 (fun p240=>GJ n (fun p237=>K3 n again ([.t (tI i)],aH T a b [.box [],.box [.ptr 3 0],.box [],.box []]) p237) c.enc x.enc (rgE rm) p240);have a2:=hB n (fun p237=>K3 n again ([.t (tI i)],aH T a b [.box [],.box [.ptr 3 0],.box [],.box []]) p237);rw [Rd.Ac,RY,hg1,hg2];refine Eq.trans ?_ (a1.trans (a2.trans ?_))
  ·simp only [JV,aH,gH,spE,rgE,Bs,vv,reduceCtorEq,reduceAdd,reduceEqDiff,zh0,zh1,zh2,zh3,zh4,zh5,zh6,zo0,zo1,ha,Span.enc,hk.dur,hk.gap,encI,(show (i:Int)<rs.length by omega),(show (k:Int)<T.g.gaps.length by omega),(show (k:Int)<T.g.dur.length by omega)];rfl
  ·simp only [K3,aH,gH,vv,reduceCtorEq,reduceAdd,reduceEqDiff,zh0,zh1,zh2,zh3,zh4,zh5,zh6,zo0,zo1,AQ (show i<4611686018427387904 by omega)]
 ·simp only [JV,aH,gH,spE,vv,reduceCtorEq,reduceAdd,reduceEqDiff,zh0,zh1,zh2,zh3,zh4,zh5,zh6,zo0,zo1,lt_irrefl]
theorem eq65 (n:Nat) (y y2:List Tree) (p132:List AV×Heap) (ag:List AV×Heap→Option (List Tree)) (p:List AV×Heap) (again:List AV×Heap→Option (List Tree)) :
  TU n y y2 p132 ag p again=JV n (spE [⟨0,1099511627776⟩]) y y2 p132 ag p again:=rfl
end Ab
namespace Ab
open Go
def arK (T:Tb) (x:Lab) (k:Nat) (b:Option Int) (c:AA):Option Int:=if c.frm=x.node then (BG T.g c.to).foldl (fun b rm=>arO T b (mv1 T.g x k c rm)) b else b
def arA (T:Tb) (x:Lab):Nat→List AA→Option Int→Option Int
 |_,[],b=>b
 |k,c::l,b=>arA T x (k+1) l (arK T x k b c)
theorem Qk (T:Tb) (x:Lab) (k:Nat) (c:AA):∀(rs:List Span) (b:Option Int),rs.foldl (fun b rm=>arO T b (mv1 T.g x k c rm)) b=GD T.g b (rs.filterMap (mv1 T.g x k c))
 |[],b=>rfl
 |r::rs,b=>by
  rw [foldl_cons,Qk T x k c rs];cases h:mv1 T.g x k c r with
  |none=>rw [List.filterMap_cons_none h];rfl
  |some m=>rw [List.filterMap_cons_some h];rfl
theorem Ql (T:Tb) (x:Lab):∀(l:List AA) (k:Nat) (b:Option Int),arA T x k l b=GD T.g b (mvL T.g x k l)
 |[],k,b=>rfl
 |c::l,k,b=>by
  unfold arA mvL;rw [Ql T x l,← Qj];congr 1;unfold arK mvC;split
  ·exact Qk T x k c _ b
  ·rfl
theorem ct75 (T:Tb) (hT:TOk T) (a:ASt) (b0:Option Int) (x:Lab) (ht:0≤x.time∧x.time≤1099511627776) (p204:List AV×Heap) (h204:cL p204 3 1=T.cs.map AA.enc) (i:Nat) (hi0:vI p204 0=i) (hi:i≤100000) :
  Ev fun n=>∀z,AI (fun p again=>Hh n p204 x.enc z p again) n ([.t (tI (0:Nat))],aH T a b0 [.box [],.box [.ptr 3 0],.box []])
   = z ([.t (tI ((i+1:Nat):Int))],aH T a (GD T.g b0 (BH T.g x)) []):=by
 have hrun:∀(l:List AA) (k:Nat) (b:Option Int),A6 (fun i b c=>(.next (arK T x i b c):Rd (Option Int) (Option Int))) (fun s=>s) k l b=arA T x k l b:=fun l=>by
  induction l with
  |nil=>intro k s;rfl
  |cons c l ih=>intro k s;exact ih (k+1) _
 have hfin:A6 (fun i b c=>(.next (arK T x i b c):Rd (Option Int) (Option Int))) (fun s=>s) 0 T.cs b0=GD T.g b0 (BH T.g x):=by rw [hrun,Ql];rfl
 refine BC T.cs (fun i b=>(([.t (tI i)],aH T a b [.box [],.box [.ptr 3 0],.box []]):List AV×Heap)) (fun i b c =>.next (arK T x i b c)) (fun s=>s)
  (fun (z:List AV×Heap→Option (List Tree)) b=>z ([.t (tI ((i+1:Nat):Int))],aH T a b [])) (fun _ _=>True) b0 rfl trivial hfin
  (fun i b c ha hI => ?_) (fun _ _ _ _ _ _ _=>trivial) (fun b hI=>Ev.of fun n z again => ?_)
 ·have hi:=AJ ha;have hcl:=hT.cl;obtain ⟨d,gs,hk⟩:=hT.ct i c ha;have hto:=hT.to c (mem_of_getElem? ha);simp only [Rd.Ac];by_cases hf:c.frm=x.node
  ·by_cases hd:c.to=T.r.dst
   ·have hrm:BG T.g c.to=[⟨0,1099511627776⟩]:=by unfold BG;exact if_pos hd
    have hR:=rm73 T a b x i c d gs hk ht (aH T a b [.box [],.box [.ptr 3 0],.box []]) [⟨0,1099511627776⟩] (by simp only [length_cons,length_nil];omega) (fun a ha=>by cases mem_singleton.1 ha;unfold Sm;exact ⟨by decide,by decide⟩);refine hR.mono fun n h z again => ?_;have a1:=h (fun p134=>Hk n again ([.t (tI i)],aH T a b [.box [],.box [.ptr 3 0],.box []]) p134);have hs:arK T x i b c=[⟨0,1099511627776⟩].foldl (fun b rm=>arO T b (mv1 T.g x i c rm)) b:=by unfold arK;rw [if_pos hf,hrm]
    rw [hs];refine Eq.trans ?_ (a1.trans ?_)
    ·simp only [Hh,h204,aH,gH,eq65,vv,reduceCtorEq,reduceAdd,reduceEqDiff,zh0,zh1,zh2,zh3,zh4,zh5,zh6,zo0,zo1,ha,AA.enc,Lab.enc,hf,hd,bne_self_eq_false,beq_self_eq_true,(show (i:Int)<T.cs.length by omega)];rfl
    ·simp only [Hk,aH,gH,vv,reduceCtorEq,reduceAdd,reduceEqDiff,zh0,zh1,zh2,zh3,zh4,zh5,zh6,zo0,zo1,AQ (show i<4611686018427387904 by omega)]
   ·have hlt:c.to.toNat<T.g.Ap.length:=by omega
    have hg:T.g.Ap[c.to.toNat]? = some T.g.Ap[c.to.toNat]:=getElem?_eq_getElem hlt;have hm:=hT.room _ (mem_of_getElem? hg);have hrm:BG T.g c.to=T.g.Ap[c.to.toNat]:=by unfold BG;rw [if_neg (show ¬c.to=T.g.rq.dst from hd)];simp [List.getD,hg]
    generalize T.g.Ap[c.to.toNat]=rs at hg hm hrm;have hR:=rm73 T a b x i c d gs hk ht (aH T a b [.box [],.box [.ptr 3 0],.box []]) rs (by omega) (fun a ha=>by have:=hm.2 a ha;unfold Sm;omega);refine hR.mono fun n h z again => ?_;have a1:=h (fun p134=>Hk n again ([.t (tI i)],aH T a b [.box [],.box [.ptr 3 0],.box []]) p134);have hs:arK T x i b c=rs.foldl (fun b rm=>arO T b (mv1 T.g x i c rm)) b:=by unfold arK;rw [if_pos hf,hrm]
    rw [hs];refine Eq.trans ?_ (a1.trans ?_)
    ·have t1:okL 2 (spE rs) 0=true:=rfl;simp only [Hh,h204,aH,gH,vv,reduceCtorEq,reduceAdd,reduceEqDiff,zh0,zh1,zh2,zh3,zh4,zh5,zh6,zo0,zo1,ha,AA.enc,Lab.enc,hf,bne_self_eq_false,beq_eq_false_iff_ne.2 hd,hg,t1,hto.1,hto.2,(show (i:Int)<T.cs.length by omega)];rfl
    ·simp only [Hk,aH,gH,vv,reduceCtorEq,reduceAdd,reduceEqDiff,zh0,zh1,zh2,zh3,zh4,zh5,zh6,zo0,zo1,AQ (show i<4611686018427387904 by omega)]
  ·refine Ev.of fun n z again => ?_;have hs:arK T x i b c=b:=by unfold arK;rw [if_neg hf]
   simp only [Hh,Hk,aH,gH,h204,hs,vv,reduceCtorEq,reduceAdd,reduceEqDiff,zh0,zh1,zh2,zh3,zh4,zh5,zh6,zo0,zo1,ha,AA.enc,Lab.enc,bne_iff_ne.2 hf,AQ (show i<4611686018427387904 by omega),(show (i:Int)<T.cs.length by omega)]
 ·simp only [Hh,aH,gH,h204,hi0,vv,reduceCtorEq,reduceAdd,reduceEqDiff,zh0,zh1,zh2,zh3,zh4,zh5,zh6,zo0,zo1,lt_irrefl,AQ (show i<4611686018427387904 by omega)]
theorem ar76 (T:Tb) (hT:TOk T) (a:ASt) (hl:a.ls.length≤10000) (ht:∀x∈a.ls,0≤x.time∧x.time≤1099511627776) (p31:List AV×Heap) (h1:AM p31 7 0=a.ls.length) (h2:AL p31 7 0=a.ls.length) (h3:AP p31 7 0=0) :
  Ev fun n=>∀z,AI (fun p again=>Kt n p31 z p again) n ([.t (tI (0:Nat))],aH T a none [])
   = z ([.t (tI ((IS T.g a.ls).getD 0)),.t (.bool (IS T.g a.ls).isSome)],lH T ⟨a.ls,a.vo,[],a.jk⟩ [.box [.sref 6 a.ls.length 0 a.ls.length]]):=by
 refine BC a.ls (fun i b=>(([.t (tI i)],aH T a b []):List AV×Heap)) (fun _ b x =>.next (GD T.g b (BH T.g x))) (fun s=>s)
  (fun (z:List AV×Heap→Option (List Tree)) b=>z ([.t (tI (b.getD 0)),.t (.bool b.isSome)],lH T ⟨a.ls,a.vo,[],a.jk⟩ [.box [.sref 6 a.ls.length 0 a.ls.length]])) (fun _ _=>True) none rfl trivial (by rw [Bg];rfl)
  (fun i b x ha hI => ?_) (fun _ _ _ _ _ _ _=>trivial) (fun b hI=>Ev.of fun n z again => ?_)
 ·have hi:=AJ ha;have hct:=ct75 T hT a b x (ht x (mem_of_getElem? ha)) ([.t (tI i)],aH T a b []) (by simp only [aH,gH,vv,reduceCtorEq,reduceAdd,reduceEqDiff,zh0,zh1,zh2,zh3,zh4,zh5,zh6,zo0,zo1]) i (by simp only [vv,reduceCtorEq,reduceAdd,reduceEqDiff,zh0,zh1,zh2,zh3,zh4,zh5,zh6,zo0,zo1]) (by omega);refine hct.mono fun n h z again => ?_;refine Eq.trans ?_ (h again);simp only [Kt,aH,gH,h1,h2,h3,vv,reduceCtorEq,reduceAdd,reduceEqDiff,zh0,zh1,zh2,zh3,zh4,zh5,zh6,zo0,zo1,ha,Lab.enc,(show (i:Int)<a.ls.length by omega)];rfl
 ·simp only [Kt,aH,lH,gH,h1,h2,h3,vv,reduceCtorEq,reduceAdd,reduceEqDiff,zh0,zh1,zh2,zh3,zh4,zh5,zh6,zo0,zo1,lt_irrefl,map_nil,nil_append,length_nil]
end Ab
namespace Ab
open Go
theorem Pn (hs:List AN) (size:Int) (q:List Int) (n:Nat) (hn:n<q.length):(Ce hs size 0 q).getD n []=Ap (q.getD n 0) size (levels hs (n:Nat)):=by have:=Et hs size q 0 n;rw [getElem?_eq_getElem hn,zero_add] at this;simp only [List.getD,this,map_some,Option.getD_some,getElem?_eq_getElem hn]
theorem Ul {q:List Int} {cs:List AA} {bs:List AB} {hs:List AN} {r:Rqt} (hh:GQ q hs=0) (hl:hs.length≤10000) (hsz:1≤r.size):∀(l:List Hop) (node fr time:Int),Hn cs r node time l=0→(∀h∈l,∀x∈bs,x.contact=h.con→h.stop≤x.beg∨x.stop≤h.beg)→
  (∀a∈DI cs r 0 node fr l,Dk q a=true∧∀t,a.frm≤t→t<a.to→stored hs a.node t+a.size≤q.getD a.node.toNat 0)→Ms cs bs (Ce hs r.size 0 q) r node fr time l
 |[],_,_,_,_,_,_=>trivial
 |h::l,node,fr,time,hw,hb,hd=>by
  unfold Hn at hw;split at hw
  ·contradiction
  ·rename_i h1;have hz:Bn cs r node time h=0:=by omega
   refine ⟨hz,fun x hx => ?_,?_,Ul hh hl hsz l _ _ _ hw (fun e he=>hb e (mem_cons_of_mem _ he)) fun a ha=>hd a (by unfold DI;exact mem_cons_of_mem _ ha)⟩
   ·obtain ⟨b,b1,b2,rfl⟩:=Kb hx;have:=hb h (mem_cons_self ..) b b1 b2;simp only;omega
   ·obtain ⟨v1,v2⟩:=hd ⟨node,fr,Dj cs r h,r.size,0⟩ (by unfold DI;exact mem_cons_self ..);have hv:=Fj v1;simp only at hv v2;have hn:node.toNat<q.length:=by omega
    have hk:((node.toNat:Nat):Int)=node:=Int.toNat_of_nonneg hv.1;have hs':=FE (HJ hh) hl node;refine ⟨hv.1,?_⟩;rw [Pn hs r.size q _ hn,hk];exact VB hs'.2 (fun x hx=>(hs'.1 x hx).2.1) hv.2.2.1 hv.2.2.2.1 hv.2.2.2.2.1 fun t t1 t2=>by rw [NY (HJ hh) hl node (by omega)];have:=v2 t t1 t2;omega
theorem N6 {sb:List AB→List AB} {sh:List AN→List AN} (hsb:∀l,(sb l).Perm l) (hsh:∀l,(sh l).Perm l) {q:List Int} {cs:List AA} {bs:List AB} {hs:List AN} {r:Rqt} {l:List Hop} (h:GG sb sh q cs bs hs r l=0) :
  Bb q cs bs hs=0∧Bl q cs r=0∧Ms cs bs (Ce hs r.size 0 q) r r.src r.ready r.ready l∧∃e,l.getLast? = some e∧GX cs e.con=r.dst∧e.arr≤r.dead:=by
 unfold GG at h;split at h
 ·cases h
 ·rename_i h1;have ht:Bb q cs bs hs=0:=by omega
  split at h
  ·contradiction
  ·rename_i h2;have hr2:Bp q cs r l=0:=by omega
   split at h
   ·cases h
   ·split at h
    ·cases h
    ·rename_i h4;split at h
     ·cases h
     ·rename_i h5;unfold Bp at hr2;split at hr2
      ·cases hr2
      ·rename_i g1;split at hr2
       ·cases hr2
       ·rename_i g2;split at hr2
        ·cases hr2
        ·split at hr2
         ·contradiction
         ·rename_i g4;have hr:Bl q cs r=0:=by omega
          obtain ⟨_,_,h7⟩:=BY ht;obtain ⟨_,h8,h9⟩:=CY h7;have hA:=N7 (q:=q) (cs:=cs) (sb (l.map (Ma 0))) bs (by cases hx:HA q cs bs (sb (l.map (Ma 0))) with
           |none=>rw [hx] at h4;simp at h4
           |some _=>rfl)
          have hS:=NG (q:=q) (cs:=cs) (sh (DI cs r 0 r.src r.ready l)) hs (by simpa using h5);refine ⟨ht,hr,Ul h9 (by omega) (Bx hr).2.2.2.2.2.2.1 l _ _ _ (by omega) (fun e he x hx hc => ?_) (fun a ha=>hS a ((hsh _).mem_iff.2 ha)),?_⟩
          ·have:=(hA (Ma 0 e) ((hsb _).mem_iff.2 (mem_map.2 ⟨e,he,rfl⟩))).2 x hx hc;exact this
          ·cases hlast:l.getLast? with
           |none=>
            rw [List.getLast?_eq_none_iff] at hlast;rw [hlast] at g2;simp at g2
           |some e=>
            rw [hlast] at hr2;simp only at hr2;split at hr2
            ·cases hr2
            ·split at hr2
             ·cases hr2
             ·exact ⟨e,rfl,by omega,by omega⟩
theorem Un {cs:List AA} {bs bs':List AB} {Ap:List (List Span)} {r:Rqt}:∀(l:List Hop) (node fr time:Int),(∀h∈l,busy bs' h.con=busy bs h.con)→Ms cs bs Ap r node fr time l→Ms cs bs' Ap r node fr time l
 |[],_,_,_,_,_=>trivial
 |h::l,node,fr,time,hb,hw=>by refine ⟨hw.1,?_,hw.2.2.1,Un l _ _ _ (fun e he=>hb e (mem_cons_of_mem _ he)) hw.2.2.2⟩;rw [hb h (mem_cons_self ..)];exact hw.2.1
theorem Nx (g:AB→Bool) (b:AB) {k:Int} (hk:b.contact≠k):∀(l:List AB),busy (Fi g b l) k=busy l k
 |[]=>by simp [Fi,busy,hk]
 |x::l=>by
  unfold Fi;split
  ·simp [busy,hk]
  ·have ih:=Nx g b hk l;simp only [busy,filterMap_cons] at ih ⊢;rw [ih]
theorem MX {k j:Int} (hk:k≠j):∀(gs:List Span) (l:List AB),busy (blk k l gs) j=busy l j
 |[],l=>rfl
 |g::gs,l=>by show busy (blk k (GB l (bk k g)) gs) j=_;rw [MX hk gs,GB,Nx _ _ hk]
theorem U2 {cs:List AA} {bs:List AB} {k:Int} {c:AA} (hb:EE cs bs) (hk:0≤k∧k<cs.length) (hc:cs[k.toNat]? = some c) (hcc:AW c=0) :
  EE cs (blk k bs (BA c.stop (busy bs k) c.start))∧BA c.stop (busy (blk k bs (BA c.stop (busy bs k) c.start)) k) c.start=[]:=by
 have hG:=L9 (f:=c.start) hb hk hc hcc;rw [if_neg (lt_irrefl _)] at hG;have hB:=Qg _ _ hG;refine ⟨hB,?_⟩;have hrow:=Fo hB hc hcc;cases hL:BA c.stop (busy (blk k bs (BA c.stop (busy bs k) c.start)) k) c.start with
 |nil=>rfl
 |cons g l=>
  have hg:g∈BA c.stop (busy (blk k bs (BA c.stop (busy bs k) c.start)) k) c.start:=by rw [hL];exact mem_cons_self ..
  have hm:=D8 _ _ _ hrow (Int.le_refl _) g hg;have hf:=IG _ _ _ hrow (Int.le_refl _) g hg;by_cases hex:∃x∈busy bs k,x.frm≤g.frm∧g.frm<x.to
  ·obtain ⟨x,x1,x2,x3⟩:=hex;obtain ⟨b,b1,b2,rfl⟩:=Kb x1;have:=hf _ (MW ((O2 k _ bs b).2 (.inl b1)) b2);simp only at this x2 x3;omega
  ·obtain ⟨g2,e1,e2,e3⟩:=Ro (stop:=c.stop) (n:=1) (t:=g.frm) (Int.le_refl _) (busy bs k) c.start (by omega) (by omega) fun x hx=>by
    by_cases h1:x.to≤g.frm
    ·exact .inl h1
    ·by_cases h2:x.frm≤g.frm
     ·exact (hex ⟨x,hx,h2,by omega⟩).elim
     ·right;omega
   have:=hf ⟨g2.frm,g2.to⟩ (MW (x:=bk k g2) ((O2 k _ bs _).2 (.inr ⟨g2,e1,rfl⟩)) rfl);simp only at this;omega
structure BSt (q:List Int) (cs:List AA) (bs0 bs:List AB) (B:List Int):Prop where
 ok:Aw q cs bs=0
 nd:B.Nodup
 rng:∀k∈B,0≤k∧k<cs.length
 oth:∀k,k∉B→busy bs k=busy bs0 k
 shut:∀k∈B,∀c,cs[k.toNat]? = some c→BA c.stop (busy bs k) c.start=[]
 len:bs.length≤bs0.length+B.length*(bs0.length+1)
theorem Ny {q:List Int} {cs:List AA} {bs:List AB} (h:Aw q cs bs=0):BSt q cs bs bs []:=
 ⟨h,by simp,fun k hk=>by simp at hk,fun k _=>rfl,fun k hk=>by simp at hk,by simp⟩
theorem nodup_range {n:Nat} {B:List Int} (h:B.Nodup) (hr:∀k∈B,0≤k∧k<n):B.length≤n:=by
 have:=I1 h (b:=(List.range n).map fun i:Nat=>(i:Int)) fun k hk=>by have:=hr k hk;exact mem_map.2 ⟨k.toNat,mem_range.2 (by omega),Int.toNat_of_nonneg this.1⟩
 simpa using this
def EF (cs:List AA) (k:Int):Int:=match cs[k.toNat]? with
 |some c=>c.start
 |none=>0
theorem MY {q:List Int} {cs:List AA} {bs0 bs:List AB} {B:List Int} (h:BSt q cs bs0 bs B) (h0:bs0.length≤30) (hcs:cs.length≤10) {k:Int} (hk:0≤k∧k<cs.length) :
  Qh q cs bs k (EF cs k)=0∧∃B',BSt q cs bs0 (O3 q cs bs k (EF cs k)) B'∧∀j,j∈B'↔j∈B∨j=k:=by
 obtain ⟨hp,hl5,hb⟩:=Ch h.ok;have hkn:k.toNat<cs.length:=by omega
 have hc:cs[k.toNat]? = some cs[k.toNat]:=getElem?_eq_getElem hkn;have hcc:=(Cg hp _ (getElem_mem hkn)).1;generalize cs[k.toNat]=c at hc hcc;have hst:EF cs k=c.start:=by unfold EF;rw [hc]
 have hBl:B.length≤10:=le_trans (nodup_range h.nd h.rng) hcs;have hgl:=HT c.stop (busy bs k) c.start;have hmul:B.length*(bs0.length+1)≤10*31:=Nat.mul_le_mul hBl (by omega);have hck:=ck_of h.ok hk;have hgs:(BA c.stop (busy bs k) c.start).length≤31:=by
  by_cases hm:k∈B
  ·rw [h.shut k hm c hc];simp
  ·rw [h.oth k hm] at hgl ⊢;have:=Fp bs0 k;omega
 have hlen:=h.len;have hbc:Qh q cs bs k (EF cs k)=0:=by unfold Qh;rw [if_neg (by omega),hc,hst];simp only;rw [if_neg (lt_irrefl _),if_neg (by omega)]
 refine ⟨hbc,?_⟩;have hbl:O3 q cs bs k (EF cs k)=blk k bs (BA c.stop (busy bs k) c.start):=by unfold O3;rw [if_neg (by omega),hc,hst];simp only;rw [if_neg (lt_irrefl _)]
 rw [hbl];by_cases hm:k∈B
 ·refine ⟨B,?_,fun j=>⟨.inl,fun h=>h.elim id fun e=>by rw [e];exact hm⟩⟩;rw [h.shut k hm c hc];exact h
 ·obtain ⟨s1,s2⟩:=U2 hb hk hc hcc;have hbl2:=TL k (BA c.stop (busy bs k) c.start) bs;rw [h.oth k hm] at hgl hbl2 hgs;have hbusy:=Fp bs0 k;rw [h.oth k hm] at s1 s2 ⊢;refine ⟨k::B,⟨?_,nodup_cons.2 ⟨hm,h.nd⟩,fun j hj => ?_,fun j hj => ?_,fun j hj c' hc' => ?_,?_⟩,fun j=>by simp [or_comm]⟩
  ·exact O1 hp (by rw [hbl2];omega) s1
  ·rcases mem_cons.1 hj with rfl|hj
   ·exact hk
   ·exact h.rng j hj
  ·rw [mem_cons,not_or] at hj;rw [MX (fun e=>hj.1 e.symm)];exact h.oth j hj.2
  ·rcases mem_cons.1 hj with rfl|hj
   ·rw [hc] at hc';cases hc';exact s2
   ·rw [MX (fun e=>hm (by rw [e];exact hj))];exact h.shut j hj c' hc'
  ·rw [hbl2,length_cons,succ_mul];omega
def FX (q:List Int) (cs:List AA) (bs:List AB) (ks:List Int):List AB:=ks.foldl (fun b k=>O3 q cs b k (EF cs k)) bs
theorem Hb {q:List Int} {cs:List AA} {bs0:List AB} (h0:bs0.length≤30) (hcs:cs.length≤10):∀(ks:List Int) (bs:List AB) (B:List Int),BSt q cs bs0 bs B→(∀k∈ks,0≤k∧k<cs.length)→∃B',BSt q cs bs0 (FX q cs bs ks) B'∧∀j,j∈B'↔j∈B∨j∈ks
 |[],bs,B,h,_=>⟨B,h,fun j=>by simp⟩
 |k::ks,bs,B,h,hk=>by obtain ⟨_,B1,h1,h2⟩:=MY h h0 hcs (hk k (mem_cons_self ..));obtain ⟨B2,h3,h4⟩:=Hb h0 hcs ks _ B1 h1 fun j hj=>hk j (mem_cons_of_mem _ hj);refine ⟨B2,h3,fun j => ?_⟩;rw [h4,h2,mem_cons];exact or_assoc
def GU (g:Gr) (ls:List Lab) (to:Lab):Option (Lab×Hop):=ls.findSome? fun x=>(BH g x).findSome? fun m=>if A0 m.1 to=true∧m.1.time=to.time then some (x,m.2) else none
def Db (g:Gr) (ls:List Lab):Nat→Lab→List (Lab×Hop)
 |0,_=>[]
 |f+1,to=>match GU g ls to with
  |none=>[]
  |some p=>p::(if p.1.node=g.rq.src∧p.1.time=g.rq.ready then [] else Db g ls f p.1)
theorem Jn {g:Gr} {ls:List Lab} {to:Lab} {p:Lab×Hop} (h:GU g ls to=some p):p.1∈ls∧∃m∈BH g p.1,m.2=p.2∧De m.1=De to∧m.1.time=to.time:=by
 unfold GU at h;obtain ⟨x,hx,h1⟩:=List.exists_of_findSome?_eq_some h;obtain ⟨m,hm,h2⟩:=List.exists_of_findSome?_eq_some h1;split at h2
 ·rename_i hc;cases h2;exact ⟨hx,m,hm,rfl,EM.1 hc.1,hc.2⟩
 ·cases h2
theorem Tp {g:Gr} {ls:List Lab} {to:Lab} (h:GU g ls to=none):∀x∈ls,∀m∈BH g x,¬(De m.1=De to∧m.1.time=to.time):=fun x hx m hm hc=>by unfold GU at h;rw [List.findSome?_eq_none_iff] at h;have h1:=h x hx;rw [List.findSome?_eq_none_iff] at h1;have h2:=h1 m hm;rw [if_pos ⟨EM.2 hc.1,hc.2⟩] at h2;cases h2
def Mv (g:Gr) (h:Hop):Prop:=∃(k:Nat) (c:AA) (fr:Int),g.cs[k]? = some c∧h.con=k∧D6 (g.dur.getD k 0) fr (g.gaps.getD k [])=some h.beg∧h.stop=h.beg+g.dur.getD k 0∧h.arr=h.beg+g.dur.getD k 0+c.rng
theorem VX {g:Gr} {x:Lab} {m:Lab×Hop} (hm:m∈BH g x):Mv g m.2:=by
 obtain ⟨k,c,r,h1,h2,h3,h4⟩:=D2.1 hm;obtain ⟨b,h5,h6,h7,h8⟩:=Gn h4;clear h8;refine ⟨k,c,(if r.frm>x.time then r.frm else x.time),h1,?_,?_,?_,?_⟩
 ·rw [h6]
 ·rw [h6];exact h5
 ·rw [h6]
 ·rw [h6]
theorem start_eq {g:Gr} {x:Lab} (h:x∈Dy g):x.node=g.rq.src∧x.time=g.rq.ready:=by
 obtain ⟨r,h1,h2⟩:=mem_filterMap.1 h;split at h2
 ·cases h2;exact ⟨rfl,rfl⟩
 ·cases h2
theorem IA {g:Gr} (hg:GOk g) {x:Lab} (h:Reach g x):g.rq.ready≤x.time:=by
 induction h with
 |start h=>rw [(start_eq h).2];exact Int.le_refl _
 |step _ hm _ ih=>
  have:=(C2 hg hm).1;omega
structure SP (g:Gr) (ls:List Lab) (to:Lab) (l:List (Lab×Hop)):Prop where
 lab:∀p∈l,p.1∈ls∧p.1.time<to.time∧Mv g p.2∧p.2.arr≤to.time
 ord:l.Pairwise fun a b=>b.1.time<a.1.time∧b.2.arr≤a.2.beg
 first:∀p∈l.head?,p.2.arr=to.time
theorem JM {g:Gr} (hg:GOk g) {ls:List Lab}:∀(f:Nat) (to:Lab),SP g ls to (Db g ls f to)
 |0,to=>⟨fun p hp=>by simp [Db] at hp,by simp [Db],fun p hp=>by simp [Db] at hp⟩
 |f+1,to=>by
  unfold Db;cases h:GU g ls to with
  |none=>exact ⟨fun p hp=>by simp at hp,by simp,fun p hp=>by simp at hp⟩
  |some p=>
   obtain ⟨h1,m,h2,h3,h4,h5⟩:=Jn h;have hl:=C2 hg h2;have hgp:=VX h2;rw [h3] at hl hgp;have ih:SP g ls p.1 (if p.1.node=g.rq.src∧p.1.time=g.rq.ready then [] else Db g ls f p.1):=by
    split
    ·exact ⟨fun p hp=>by simp at hp,by simp,fun p hp=>by simp at hp⟩
    ·exact JM hg f p.1
   simp only;refine ⟨fun a ha => ?_,?_,fun a ha => ?_⟩
   ·rcases mem_cons.1 ha with rfl|ha
    ·exact ⟨h1,by omega,hgp,by omega⟩
    ·obtain ⟨a1,a2,a3,a4⟩:=ih.lab a ha;exact ⟨a1,by omega,a3,by omega⟩
   ·rw [pairwise_cons];refine ⟨fun a ha => ?_,ih.ord⟩;obtain ⟨a1,a2,a3,a4⟩:=ih.lab a ha;exact ⟨a2,by omega⟩
   ·obtain rfl:p=a:=by simpa using ha
    omega
theorem Mb {g:Gr} {ls:List Lab} {to:Lab} {l:List (Lab×Hop)} (h:SP g ls to l):l.length≤ls.length:=by
 have hnd:(l.map (·.1)).Nodup:=by rw [List.nodup_iff_pairwise_ne,List.pairwise_map];refine h.ord.imp fun {a b} hab e => ?_;rw [e] at hab;omega
 have:=I1 hnd (b:=ls) fun x hx=>by obtain ⟨p,hp,rfl⟩:=mem_map.1 hx;exact (h.lab p hp).1
 simpa using this
theorem Mc {g:Gr} (hg:GOk g) {ls:List Lab} (hp:∀x,x∈ls↔x∈labels g):∀(f f':Nat) (to:Lab),g.rq.ready≤to.time→(to.time-g.rq.ready).toNat<f→(to.time-g.rq.ready).toNat<f'→Db g ls f to=Db g ls f' to
 |0,_,to,_,h,_=>by omega
 |_,0,to,_,_,h=>by omega
 |f+1,f'+1,to,h0,h1,h2=>by
  unfold Db;cases h:GU g ls to with
  |none=>rfl
  |some p=>
   obtain ⟨h3,m,h4,h5,h6,h7⟩:=Jn h;have hl:=C2 hg h4;have ht:=IA hg ((D5 hg).reach p.1 (by simpa using (hp _).1 h3));simp only;split
   ·rfl
   ·rw [Mc hg hp f f' p.1 ht (by omega) (by omega)]
def Fl (g:Gr) (a:Int):Lab:=⟨g.rq.dst,0,1099511627776,a⟩
def CZ (g:Gr) (ls:List Lab):Option (List Hop):=(IS g ls).map fun a=>((Db g ls ((a-g.rq.ready).toNat+1) (Fl g a)).map (·.2)).reverse
theorem UF {g:Gr} {ls:List Lab} (h:CZ g ls=none):IS g ls=none:=by unfold CZ at h;simpa using h
structure EarlOk (g:Gr) (ls:List Lab) (a:Int) (l:List Hop):Prop where
 ne:l≠[]
 last:∃h,l.getLast? = some h∧h.arr=a
 gap:∀h∈l,Mv g h
 ord:l.Pairwise fun x y=>x.arr≤y.beg
 len:l.length≤ls.length
theorem TB {g:Gr} (hg:GOk g) {ls:List Lab} (hp:∀x,x∈ls↔x∈labels g) {l:List Hop} (h:CZ g ls=some l):∃a,IS g ls=some a∧EarlOk g ls a l:=by
 unfold CZ at h;cases ha:IS g ls with
 |none=>rw [ha] at h;cases h
 |some a=>
  rw [ha] at h;simp only [map_some,Option.some.injEq] at h;obtain ⟨⟨x,hx,m,hm,hmd,hmt⟩,_⟩:=J8 ha;have hb:=JM hg (ls:=ls) ((a-g.rq.ready).toNat+1) (Fl g a);have hpre:∃p,GU g ls (Fl g a)=some p:=by
   cases hpr:GU g ls (Fl g a) with
   |some p=>exact ⟨p,rfl⟩
   |none=>
    refine (Tp hpr x hx m hm ⟨?_,hmt⟩).elim;obtain ⟨k,c,r,h1,h2,h3,h4⟩:=D2.1 hm;obtain ⟨b,h5,h6,h7,h8⟩:=Gn h4;have hd:c.to=g.rq.dst:=by rw [h7] at hmd;exact hmd
    unfold BG at h3;rw [if_pos hd] at h3;cases mem_singleton.1 h3;rw [h7];simp [De,Fl,hd]
  obtain ⟨p,hpe⟩:=hpre;have hcons:∃t,Db g ls ((a-g.rq.ready).toNat+1) (Fl g a)=p::t:=by unfold Db;rw [hpe];exact ⟨_,rfl⟩
  obtain ⟨t,ht⟩:=hcons;rw [ht] at hb h;refine ⟨a,rfl,?_,?_,fun e he => ?_,?_,?_⟩
  ·rw [← h];simp
  ·refine ⟨p.2,?_,hb.first p rfl⟩;rw [← h];simp
  ·rw [← h,List.mem_reverse] at he;obtain ⟨q,hq,rfl⟩:=mem_map.1 he;exact (hb.lab q hq).2.2.1
  ·rw [← h,List.pairwise_reverse,List.pairwise_map];exact hb.ord.imp fun hab=>hab.2
  ·rw [← h];have:=Mb hb;simpa using this
def Jg (cs:List AA) (k:Int):Int:=match cs[k.toNat]? with
 |some c=>c.stop
 |none=>0
def Ci (cs:List AA) (best:Int) (h:Hop):Int:=if best<0∨Jg cs h.con<Jg cs best then h.con else best
def BQ (cs:List AA) (l:List Hop):Int:=l.foldl (Ci cs) (-1)
theorem TO (cs:List AA):∀(l:List Hop) (b:Int),l.foldl (Ci cs) b=b∨l.foldl (Ci cs) b∈l.map (·.con)
 |[],b =>.inl rfl
 |h::l,b=>by
  rw [foldl_cons,map_cons];rcases TO cs l (Ci cs b h) with h1|h1
  ·rw [h1];unfold Ci;split
   ·exact .inr (mem_cons_self ..)
   ·exact .inl rfl
  ·exact .inr (mem_cons_of_mem _ h1)
theorem GF {cs:List AA} {l:List Hop} (hl:l≠[]) (h0:∀h∈l,0≤h.con):BQ cs l∈l.map (·.con):=by
 cases l with
 |nil=>exact (hl rfl).elim
 |cons h l=>
  unfold BQ;rw [foldl_cons];have e:Ci cs (-1) h=h.con:=by unfold Ci;rw [if_pos (.inl (by omega))]
  rw [e];rcases TO cs l h.con with h1|h1
  ·rw [h1];exact mem_cons_self ..
  ·rw [map_cons];exact mem_cons_of_mem _ h1
def EO (so:List Lab→List Lab) (q:List Int) (cs:List AA) (hs:List AN) (r:Rqt) (pick:List Hop→List Int):Nat→List AB→List (List Hop)
 |0,_=>[]
 |f+1,bs=>match CZ (gOf q cs bs hs r) (so (labels (gOf q cs bs hs r))) with
  |none=>[]
  |some l=>l::EO so q cs hs r pick f (FX q cs bs (pick l))
def En (l:List Hop) (an:List Int):Bool:=l.any fun h=>an.contains h.con
def Bv (l:List Hop):Int:=match l.getLast? with
 |some h=>h.arr
 |none=>0
def KA (cs:List AA) (l:List Hop):List (List Hop)→List Int→Option (List Int)
 |[],an=>some an
 |rt::rest,an=>if rt.length=0∨(En l an=false∧Bv rt>Bv l) then none else if an.contains (BQ cs rt)=true then none else KA cs l rest (an++[BQ cs rt])
theorem Oh {q:List Int} {cs:List AA} {bs:List AB} {hs:List AN} {r:Rqt} {h:Hop} (hg:Mv (gOf q cs bs hs r) h):0≤h.con∧h.con<cs.length:=by obtain ⟨k,c,fr,h1,h2,_⟩:=hg;have:k<cs.length:=AJ h1;omega
theorem Vm {q:List Int} {cs:List AA} {bs0 bs:List AB} {hs:List AN} {r:Rqt} {B:List Int} (hB:BSt q cs bs0 bs B) {h:Hop} (hg:Mv (gOf q cs bs hs r) h):h.con∉B:=fun hm=>by obtain ⟨k,c,fr,h1,h2,h3,_⟩:=hg;have hc:cs[k]? = some c:=h1;rw [(S8 hc).1,← h2,hB.shut _ hm c (by rw [h2,toNat_natCast];exact hc)] at h3;cases h3
theorem OE {q:List Int} {cs:List AA} {bs0 bs:List AB} {hs:List AN} {B:List Int} (ht:Bb q cs bs0 hs=0) (hB:BSt q cs bs0 bs B):Bb q cs bs hs=0:=by obtain ⟨h1,h2,h3⟩:=BY ht;exact KK h1 hB.ok h3
theorem LA {l:List Hop} {an:List Int} (h:En l an=false):∀e∈l,e.con∉an:=fun e he hm=>by unfold En at h;rw [any_eq_false] at h;exact h e he (by simpa using hm)
theorem N4 {so:List Lab→List Lab} (hso:∀l,(so l).Perm l) {sb:List AB→List AB} {sh:List AN→List AN} (hsb:∀l,(sb l).Perm l) (hsh:∀l,(sh l).Perm l) {q:List Int} {cs:List AA} {bs0 bs:List AB} {hs:List AN} {r:Rqt} {l:List Hop} (ha:GG sb sh q cs bs0 hs r l=0) {B:List Int} (hB:BSt q cs bs0 bs B) (hu:∀e∈l,e.con∉B) :
  ∃a,IS (gOf q cs bs hs r) (so (labels (gOf q cs bs hs r)))=some a∧a≤Bv l:=by
 obtain ⟨ht,hr,hw,e,he,hd,hdead⟩:=N6 hsb hsh ha;have ht':=OE ht hB;have hg:=MC ht' hr;have inv:=D5 hg;have hw':=Un (bs':=bs) l _ _ _ (fun h hh=>hB.oth _ (hu h hh)) hw;have hla:Bv l=e.arr:=by unfold Bv;rw [he]
 cases l with
 |nil=>cases he
 |cons h l=>
  obtain ⟨w1,w2,⟨w3,room,r1,r2,r3⟩,w5⟩:=hw';obtain ⟨c,c1,c2,c3,c4,c5,c6,c7,c8,c9,c10⟩:=FI w1;have hcc:=Cg (Bx hr).1 c (mem_of_getElem? c2);have hdp:=G3 hcc.1 (n:=r.size) (by have:=Bx hr;omega);have hco:=A9 hcc.1;have hst:(⟨r.src,room.frm,room.to,r.ready⟩:Lab)∈Dy (gOf q cs bs hs r):=by
   unfold Dy;refine mem_filterMap.2 ⟨room,r1,?_⟩;have:r.ready<Dj cs r h:=by unfold Dj;rw [c10];split<;>omega
   rw [if_pos ⟨r2,by show r.ready<_;omega⟩];rfl
  obtain ⟨z,z1,z2,z3⟩:=inv.start _ hst;rw [append_nil] at z1;have hzr:=IB hg (inv.reach z (by simpa using z1));have hto:=SZ hg hzr (LL hg hst) z2;obtain ⟨y,y1,m,m1,m2,m3⟩:=ND ht' hr (h::l) r.src r.ready r.ready z ⟨w1,w2,⟨w3,room,r1,r2,r3⟩,w5⟩ e he hd hdead z1 (congrArg Prod.fst z2) z3 (by
   have:z.frm=room.frm:=congrArg Prod.snd z2;omega) (fun e' he'=>by
   obtain rfl:h=e':=by simpa using he'
   rw [hto];exact r3)
  cases hA:IS (gOf q cs bs hs r) (so (labels (gOf q cs bs hs r))) with
  |none=>exact (UW hA y ((hso _).mem_iff.2 y1) m m1 m2).elim
  |some a=>
   refine ⟨a,rfl,?_⟩;have:=(J8 hA).2 y ((hso _).mem_iff.2 y1) m m1 m2;rw [hla];omega
theorem N3 {so:List Lab→List Lab} (hso:∀l,(so l).Perm l) {sb:List AB→List AB} {sh:List AN→List AN} (hsb:∀l,(sb l).Perm l) (hsh:∀l,(sh l).Perm l) {q:List Int} {cs:List AA} {bs0:List AB} {hs:List AN} {r:Rqt} {l:List Hop} (ha:GG sb sh q cs bs0 hs r l=0) (h0:bs0.length≤30) (hcs:cs.length≤10) :
  ∀(f:Nat) (bs:List AB) (B an:List Int),BSt q cs bs0 bs B→(∀k,k∈an↔k∈B)→∃an',KA cs l (EO so q cs hs r (fun l=>[BQ cs l]) f bs) an=some an'∧((EO so q cs hs r (fun l=>[BQ cs l]) f bs).length=f∨En l an'=true)
 |0,bs,B,an,_,_=>⟨an,rfl,.inl rfl⟩
 |f+1,bs,B,an,hB,han=>by
  obtain ⟨ht,hr,_⟩:=N6 hsb hsh ha;have hg:=MC (OE ht hB) hr;unfold EO;cases hE:CZ (gOf q cs bs hs r) (so (labels (gOf q cs bs hs r))) with
  |none=>
   refine ⟨an,rfl,.inr ?_⟩;cases hu:En l an with
   |true=>rfl
   |false=>
    obtain ⟨a,h1,_⟩:=N4 hso hsb hsh ha hB fun e he hm=>LA hu e he ((han _).2 hm);rw [UF hE] at h1;cases h1
  |some rt=>
   obtain ⟨a,h1,hok⟩:=TB hg (fun x=>(hso _).mem_iff) hE;simp only;have hmem:=GF (cs:=cs) hok.ne fun h hh=>(Oh (hok.gap h hh)).1;obtain ⟨e,he,hee⟩:=mem_map.1 hmem;have hnot:BQ cs rt∉B:=by rw [← hee];exact Vm hB (hok.gap e he)
   obtain ⟨B',hB',hB2⟩:=Hb h0 hcs [BQ cs rt] bs B hB fun k hk=>by cases mem_singleton.1 hk;rw [← hee];exact Oh (hok.gap e he)
   obtain ⟨an',i1,i2⟩:=N3 hso hsb hsh ha h0 hcs f (FX q cs bs [BQ cs rt]) B' (an++[BQ cs rt]) hB' fun k=>by rw [hB2,mem_append,han]
   refine ⟨an',?_,?_⟩
   ·unfold KA;rw [if_neg,if_neg]
    ·exact i1
    ·simp only [List.contains_iff_mem];rw [han];exact hnot
    ·rintro (h2|⟨h2,h3⟩)
     ·exact hok.ne (eq_nil_of_length_eq_zero h2)
     ·obtain ⟨a',g1,g2⟩:=N4 hso hsb hsh ha hB fun e he hm=>LA h2 e he ((han _).2 hm);rw [h1] at g1;cases g1;obtain ⟨hl,e1,e2⟩:=hok.last;have:Bv rt=a:=by unfold Bv;rw [e1];exact e2
      omega
   ·rcases i2 with i2|i2
    ·exact .inl (by rw [length_cons,i2])
    ·exact .inr i2
end Ab
namespace Ab
open Go
structure WSt where
 vt:Nat
 to:Lab
 vw:Nat
 out:List Hop
def bH (T:Tb) (a:ASt) (W:WSt) (suf:Heap):Heap:=
 gH T T.g.gaps T.g.Ap T.g.dur (.box [.ptr 3 0] :: .box [.ptr 3 0] :: .row false a.ls.length 4 (a.ls.map Lab.enc) :: .box [.sref 6 a.ls.length 0 a.ls.length] :: .row false a.vo 4 a.jk :: .box [.sref 8 a.vo 0 0] :: .box [.sref 6 a.ls.length 0 a.ls.length] ::
  .row false W.vt 4 [W.to.enc] :: .row false W.vw 4 (W.out.map Hop.enc)::suf)
def cH (T:Tb) (a:ASt) (W:WSt) (x:Lab) (suf:Heap):Heap:=bH T a W (Bs::Bs :: .box [.t (.bool false)] :: .box (xA x)::suf)
def UB (x:Lab) (h:Hop):List AV:=[.t (tI x.node),.t (tI x.frm),.t (tI x.to),.t (tI x.time),.t (tI h.con),.t (tI h.beg),.t (tI h.stop),.t (tI h.arr),.t (.bool true)]
def fZ (T:Tb) (a:ASt) (W:WSt) (zz:List AV×Heap→Option (List Tree)) (z:Option (List Tree)):Option (Lab×Hop)→Option (List Tree)
 |none=>z
 |some p=>zz (UB p.1 p.2,bH T a W [])
theorem hop84 (T:Tb) (a:ASt) (W:WSt) (x:Lab) (rm:Span) (k:Nat) (c:AA) (hk:T.cs[k]? = some c) (d:Int) (hd:Sm d) (ht:Sm x.time) (hr:Sm rm.frm) (hc:0≤c.rng∧c.rng≤1048576) (kh:Heap)
  (gs:List Span) (hgs:∀a∈gs,Sm a.frm∧Sm a.to) (hgl:gs.length≤100000) :
  Ev fun n=>∀z,AI (fun p again=>Ks n (spE gs) (rgE rm) x.enc [tI d] ([.t (tI k)],kh) z p again) n ([.t (tI (0:Nat))],cH T a W x [.box [.ptr 3 0],.box [],.box [],.box [],Bs])
   = z (hpA (Ho k c d gs (if rm.frm>x.time then rm.frm else x.time)),cH T a W x [.box [.ptr 3 0],.box [],.box [],.box []]):=by
 refine BC gs (fun i _=>(([.t (tI i)],cH T a W x [.box [.ptr 3 0],.box [],.box [],.box [],Bs]):List AV×Heap)) (FH c k d (if rm.frm>x.time then rm.frm else x.time)) (fun _=>none)
  (fun (z:List AV×Heap→Option (List Tree)) o=>z (hpA o,cH T a W x [.box [.ptr 3 0],.box [],.box [],.box []])) (fun _ _=>True) () rfl trivial (Ko c k d _ gs 0)
  (fun i s' e ha hI=>Ev.of fun n z again => ?_) (fun _ _ _ _ _ _ _=>trivial) (fun s' hI=>Ev.of fun n z again => ?_)
 ·have hi:=AJ ha;obtain ⟨h1,h2⟩:=hgs e (mem_of_getElem? ha);have hb:Sm (CL (if rm.frm>x.time then rm.frm else x.time) e):=by unfold CL Sm at *;omega
  have e1:w64 (CL (if rm.frm>x.time then rm.frm else x.time) e+d)=CL (if rm.frm>x.time then rm.frm else x.time) e+d:=RA hb hd;have e3:w64 (CL (if rm.frm>x.time then rm.frm else x.time) e+d+c.rng)=CL (if rm.frm>x.time then rm.frm else x.time) e+d+c.rng:=by unfold Sm at hb hd;exact Ay (by omega) (by omega)
  have e4:(if (if rm.frm>x.time then rm.frm else x.time)>e.frm then (if rm.frm>x.time then rm.frm else x.time) else e.frm)=CL (if rm.frm>x.time then rm.frm else x.time) e:=rfl;simp only [gt_iff_lt] at e1 e3 e4;simp only [Ks,cH,bH,gH,spE,rgE,xA,Lab.enc,Bs,vv,reduceCtorEq,reduceAdd,reduceEqDiff,zh0,zh1,zh2,zh3,zh4,zh5,zh6,zo0,zo1,ha,Span.enc,e1,e3,e4,hk,AA.enc,(show (i:Int)<gs.length by omega),AQ (show i<4611686018427387904 by omega),FH];by_cases hc2:CL (if x.time<rm.frm then rm.frm else x.time) e+d≤e.to
  ·simp only [hc2,vv,reduceCtorEq,reduceAdd,reduceEqDiff,zh0,zh1,zh2,zh3,zh4,zh5,zh6,zo0,zo1,Rd.Ah,hpA]
  ·simp only [hc2,vv,reduceCtorEq,reduceAdd,reduceEqDiff,zh0,zh1,zh2,zh3,zh4,zh5,zh6,zo0,zo1,Rd.Ac]
 ·simp only [Ks,cH,bH,gH,spE,rgE,xA,Lab.enc,Bs,vv,reduceCtorEq,reduceAdd,reduceEqDiff,zh0,zh1,zh2,zh3,zh4,zh5,zh6,zo0,zo1,lt_irrefl,hpA]
def T8 (W:WSt) (x:Lab):Option (Lab×Hop)→Option (Lab×Hop)
 |none=>none
 |some m=>if A0 m.1 W.to=true∧m.1.time=W.to.time then some (x,m.2) else none
theorem mv88 (T:Tb) (a:ASt) (W:WSt) (x:Lab) (rm:Span) (k:Nat) (c:AA) (hk:T.cs[k]? = some c) (hc:0≤c.rng∧c.rng≤1048576) (o:Option Hop) (hh:∀h,o=some h→h.con=k∧Sm h.stop) :
  Ev fun n=>∀zz z,GI n z zz c.enc (rgE rm) W.to.enc x.enc (hpA o,cH T a W x [.box [.ptr 3 0],.box [],.box [],.box []])=fZ T a W zz (z ([],cH T a W x [.box [.ptr 3 0],.box [],.box []])) (T8 W x (mvH T x c rm o)):=by
 cases o with
 |none=>
  refine Ev.of fun n zz z => ?_;simp only [GI,FP,cH,bH,gH,xA,Bs,hpA,mvH,T8,fZ,vv,reduceCtorEq,reduceAdd,reduceEqDiff,zh0,zh1,zh2,zh3,zh4,zh5,zh6,zo0,zo1]
 |some h=>
  obtain ⟨c1,c2⟩:=hh h rfl;have e1:w64 (2*c.rng)=2*c.rng:=Ay (by omega) (by omega);have e2:w64 (h.stop+2*c.rng)=h.stop+2*c.rng:=by unfold Sm at c2;exact Ay (by omega) (by omega)
  have hA:∀n zz z,GI n z zz c.enc (rgE rm) W.to.enc x.enc (hpA (some h),cH T a W x [.box [.ptr 3 0],.box [],.box [],.box []])=
    FP n z zz (hpA (some h),cH T a W x [.box [.ptr 3 0],.box [],.box [],.box []]) c.enc (rgE rm) W.to.enc ([.t (.bool (Kg T x c rm h))],cH T a W x [.box [.ptr 3 0],.box [],.box [],.box [],.box []]):=fun n zz z=>by
   have hB:∀lv:Int,∀w,K2 n x.enc w (hpA (some h),cH T a W x [.box [.ptr 3 0],.box [],.box [],.box []]) c.enc (rgE rm) ([.t (tI lv)],cH T a W x [.box [.ptr 3 0],.box [],.box [],.box [],.box []])=
     w ([.t (.bool (decide (lv>x.to∨h.arr>T.r.dead∨(c.to≠T.r.dst∧h.arr≥rm.to))))],cH T a W x [.box [.ptr 3 0],.box [],.box [],.box [],.box []]):=fun lv w=>by
    simp only [K2,cH,bH,gH,xA,Bs,hpA,Lab.enc,rgE,AA.enc,vv,reduceCtorEq,reduceAdd,reduceEqDiff,zh0,zh1,zh2,zh3,zh4,zh5,zh6,zo0,zo1];by_cases b1:x.to<lv
    ·simp only [b1,vv,reduceCtorEq,reduceAdd,reduceEqDiff,zh0,zh1,zh2,zh3,zh4,zh5,zh6,zo0,zo1]
    ·by_cases b2:T.r.dead<h.arr
     ·simp only [b1,b2,vv,reduceCtorEq,reduceAdd,reduceEqDiff,zh0,zh1,zh2,zh3,zh4,zh5,zh6,zo0,zo1]
     ·by_cases b3:c.to=T.r.dst
      ·simp only [b1,b2,b3,bne_self_eq_false,vv,reduceCtorEq,reduceAdd,reduceEqDiff,zh0,zh1,zh2,zh3,zh4,zh5,zh6,zo0,zo1,ne_eq,not_true_eq_false]
      ·simp only [b1,b2,b3,bne_iff_ne,vv,reduceCtorEq,reduceAdd,reduceEqDiff,zh0,zh1,zh2,zh3,zh4,zh5,zh6,zo0,zo1,ne_eq,not_false_eq_true]
   have hC:GI n z zz c.enc (rgE rm) W.to.enc x.enc (hpA (some h),cH T a W x [.box [.ptr 3 0],.box [],.box [],.box []])=
     K2 n x.enc (fun p183=>FP n z zz (hpA (some h),cH T a W x [.box [.ptr 3 0],.box [],.box [],.box []]) c.enc (rgE rm) W.to.enc p183) (hpA (some h),cH T a W x [.box [.ptr 3 0],.box [],.box [],.box []]) c.enc (rgE rm) ([.t (tI (D4 T.r c h))],cH T a W x [.box [.ptr 3 0],.box [],.box [],.box [],.box []]):=by
    simp only [GI,cH,bH,gH,xA,Bs,hpA,D4,c1,hk,AA.enc,Lab.enc,e1,e2,vv,reduceCtorEq,reduceAdd,reduceEqDiff,zh0,zh1,zh2,zh3,zh4,zh5,zh6,zo0,zo1];cases T.r.cust<;>simp only [vv,reduceCtorEq,reduceAdd,reduceEqDiff,zh0,zh1,zh2,zh3,zh4,zh5,zh6,zo0,zo1]
   rw [hC,hB];rfl
  simp only [hA];cases hb:Kg T x c rm h with
  |true=>
   have hm:mvH T x c rm (some h)=none:=by simp only [Kg,decide_eq_true_eq] at hb;simp only [mvH,if_pos hb]
   refine Ev.of fun n zz z => ?_;simp only [FP,cH,bH,gH,xA,Bs,hm,T8,fZ,vv,reduceCtorEq,reduceAdd,reduceEqDiff,zh0,zh1,zh2,zh3,zh4,zh5,zh6,zo0,zo1]
  |false=>
   have hm:mvH T x c rm (some h)=some (⟨c.to,rm.frm,rm.to,h.arr⟩,h):=by simp only [Kg,decide_eq_false_iff_not] at hb;simp only [mvH,if_neg hb]
   rw [hm];simp only [T8];refine (s91 ⟨c.to,rm.frm,rm.to,h.arr⟩ W.to).mono fun n h91 zz z => ?_;simp only [Lab.enc,cons_append,nil_append] at h91;cases hS:A0 ⟨c.to,rm.frm,rm.to,h.arr⟩ W.to with
   |false=>
    rw [hS] at h91;simp only [FP,Kz,cH,bH,gH,xA,Bs,hpA,rgE,AA.enc,Lab.enc,h91,vv,reduceCtorEq,reduceAdd,reduceEqDiff,zh0,zh1,zh2,zh3,zh4,zh5,zh6,zo0,zo1,hS,false_eq_true,false_and,if_false,fZ]
   |true=>
    rw [hS] at h91;by_cases hT:h.arr=W.to.time
    ·rw [hT] at h91 hS;simp only [FP,Kz,cH,bH,gH,xA,Bs,hpA,rgE,AA.enc,Lab.enc,h91,vv,reduceCtorEq,reduceAdd,reduceEqDiff,zh0,zh1,zh2,zh3,zh4,zh5,zh6,zo0,zo1,hS,hT,beq_self_eq_true,and_self,if_true,fZ,UB]
    ·simp only [FP,Kz,cH,bH,gH,xA,Bs,hpA,rgE,AA.enc,Lab.enc,h91,vv,reduceCtorEq,reduceAdd,reduceEqDiff,zh0,zh1,zh2,zh3,zh4,zh5,zh6,zo0,zo1,hS,hT,beq_eq_false_iff_ne.2 hT,and_false,if_false,fZ]
def Oj (W:WSt) (x:Lab) (m:Lab×Hop):Option (Lab×Hop):=if A0 m.1 W.to=true∧m.1.time=W.to.time then some (x,m.2) else none
def JD {α:Type} (f:Nat→α→Option (Lab×Hop)) (i:Nat) (_:Unit) (a:α):Rd Unit (Option (Lab×Hop)):=match f i a with
 |some p =>.done (some p)
 |none =>.next ()
theorem QL {α:Type} (f:Nat→α→Option (Lab×Hop)) (i:Nat) (a:α) (T:Tb) (A:ASt) (W:WSt) (zz:List AV×Heap→Option (List Tree)) (z:Option (List Tree)) (w:Option (List Tree)) :
  (JD f i () a).go (fun _=>z) (fun o=>fZ T A W zz w o)=fZ T A W zz z (f i a):=by
 unfold JD;cases f i a<;>rfl
theorem fRun {α:Type} (f:α→Option (Lab×Hop)):∀(l:List α) (i:Nat),A6 (JD fun _=>f) (fun _=>none) i l ()=l.findSome? f
 |[],i=>rfl
 |a::l,i=>by
  have ih:=fRun f l (i+1);rw [List.findSome?_cons];unfold A6;simp only [JD];cases h:f a with
  |none=>exact ih
  |some p=>rfl
theorem S9 (W:WSt) (x:Lab) (g:Span→Option (Lab×Hop)):∀rs:List Span,rs.findSome? (fun rm=>T8 W x (g rm))=(rs.filterMap g).findSome? (Oj W x)
 |[]=>rfl
 |r::rs=>by
  rw [List.findSome?_cons,S9 W x g rs];cases h:g r with
  |none=>rw [List.filterMap_cons_none h];rfl
  |some m=>
   rw [List.filterMap_cons_some h,List.findSome?_cons];rfl
theorem rm90 (T:Tb) (a:ASt) (W:WSt) (x:Lab) (k:Nat) (c:AA) (d:Int) (gs:List Span) (hk:CtOk T k c d gs) (ht:0≤x.time∧x.time≤1099511627776) (kh:Heap)
  (rs:List Span) (hol:rs.length≤10000000) (hrs:∀a∈rs,Sm a.frm) :
  Ev fun n=>∀y:(List AV×Heap→Option (List Tree))×(List AV×Heap→Option (List Tree)),AI (fun p again=>JU n (spE rs) y.1 c.enc W.to.enc x.enc ([.t (tI k)],kh) y.2 p again) n ([.t (tI (0:Nat))],cH T a W x [.box [.ptr 3 0],.box [],.box []])
   = fZ T a W y.1 (y.2 ([],cH T a W x [.box [.ptr 3 0],.box []])) ((rs.filterMap (mv1 T.g x k c)).findSome? (Oj W x)):=by
 refine BC rs (fun i _=>(([.t (tI i)],cH T a W x [.box [.ptr 3 0],.box [],.box []]):List AV×Heap)) (JD fun _ rm=>T8 W x (mv1 T.g x k c rm)) (fun _=>none)
  (fun (y:(List AV×Heap→Option (List Tree))×(List AV×Heap→Option (List Tree))) o=>fZ T a W y.1 (y.2 ([],cH T a W x [.box [.ptr 3 0],.box []])) o) (fun i _=>True) () rfl trivial (by rw [fRun,S9])
  (fun i b rm ha hI => ?_) (fun _ _ _ _ _ _ _=>trivial) (fun b hI=>Ev.of fun n z again => ?_)
 ·have hi:=AJ ha;have hg1:T.g.dur.getD k 0=d:=by simp [List.getD,hk.dur]
  have hg2:T.g.gaps.getD k []=gs:=by simp [List.getD,hk.gap]
  have hkl:=AJ hk.gap;have hkd:=AJ hk.dur;have hS:=hk.durS;have hA:=hop84 T a W x rm k c hk.con d (by unfold Sm;omega) (by unfold Sm;omega) (hrs rm (mem_of_getElem? ha)) hk.rng kh gs (fun a ha=>by have:=hk.gapS a ha;unfold Sm;omega) hk.gapL;have hB:=mv88 T a W x rm k c hk.con hk.rng (Ho k c d gs (if rm.frm>x.time then rm.frm else x.time)) (fun h hh=>by obtain ⟨h1,a,h2,h3,h4,h5,h6,h7⟩:=L4 hh;have:=hk.gapS a h2;exact ⟨h1,by unfold Sm;omega⟩)
  refine (hA.and hB).mono fun n ⟨h1,h2⟩ y again => ?_;have a1:=h1 (fun p299=>GI n (fun p296=>Jb n again ([.t (tI i)],cH T a W x [.box [.ptr 3 0],.box [],.box []]) p296) y.1 c.enc (rgE rm) W.to.enc x.enc p299);have a2:=h2 y.1 (fun p296=>Jb n again ([.t (tI i)],cH T a W x [.box [.ptr 3 0],.box [],.box []]) p296);have a3:Jb n again ([.t (tI i)],cH T a W x [.box [.ptr 3 0],.box [],.box []]) ([],cH T a W x [.box [.ptr 3 0],.box [],.box []])=again ([.t (tI ((i+1:Nat):Int))],cH T a W x [.box [.ptr 3 0],.box [],.box []]):=by simp only [Jb,cH,bH,gH,xA,Bs,vv,reduceCtorEq,reduceAdd,reduceEqDiff,zh0,zh1,zh2,zh3,zh4,zh5,zh6,zo0,zo1,AQ (show i<4611686018427387904 by omega)]
  rw [a3] at a2;rw [QL,RY,hg1,hg2];refine Eq.trans ?_ (a1.trans a2);simp only [JU,cH,bH,gH,xA,spE,rgE,Bs,vv,reduceCtorEq,reduceAdd,reduceEqDiff,zh0,zh1,zh2,zh3,zh4,zh5,zh6,zo0,zo1,ha,Span.enc,hk.dur,hk.gap,encI,(show (i:Int)<rs.length by omega),(show (k:Int)<T.g.gaps.length by omega),(show (k:Int)<T.g.dur.length by omega)];rfl
 ·simp only [JU,cH,bH,gH,xA,spE,Bs,vv,reduceCtorEq,reduceAdd,reduceEqDiff,zh0,zh1,zh2,zh3,zh4,zh5,zh6,zo0,zo1,lt_irrefl,fZ]
theorem eq83 (n:Nat) (zz:List AV×Heap→Option (List Tree)) (y y2 y3:List Tree) (p132:List AV×Heap) (ag:List AV×Heap→Option (List Tree)) (p:List AV×Heap) (again:List AV×Heap→Option (List Tree)) :
  TS n zz y y2 y3 p132 ag p again=JU n (spE [⟨0,1099511627776⟩]) zz y y2 y3 p132 ag p again:=rfl
def ctF (T:Tb) (W:WSt) (x:Lab) (k:Nat) (c:AA):Option (Lab×Hop):=(mvC T.g x k c).findSome? (Oj W x)
theorem V6 (T:Tb) (W:WSt) (x:Lab):∀(l:List AA) (k:Nat),A6 (JD (ctF T W x)) (fun _=>none) k l ()=(mvL T.g x k l).findSome? (Oj W x)
 |[],k=>rfl
 |c::l,k=>by
  have ih:=V6 T W x l (k+1);unfold mvL;rw [List.findSome?_append];unfold A6;simp only [JD];have e:ctF T W x k c=(mvC T.g x k c).findSome? (Oj W x):=rfl;cases h:ctF T W x k c with
  |none=>
   rw [← e,h];exact ih
  |some p=>
   rw [← e,h];rfl
theorem ct92 (T:Tb) (hT:TOk T) (a:ASt) (W:WSt) (x:Lab) (ht:0≤x.time∧x.time≤1099511627776) (p264:List AV×Heap) (h264:cL p264 3 1=T.cs.map AA.enc) (i:Nat) (hi0:vI p264 0=i) (hi:i≤100000) :
  Ev fun n=>∀y:(List AV×Heap→Option (List Tree))×(List AV×Heap→Option (List Tree)),AI (fun p again=>Hg n p264 x.enc y.1 W.to.enc y.2 p again) n ([.t (tI (0:Nat))],cH T a W x [.box [.ptr 3 0],.box []])
   = fZ T a W y.1 (y.2 ([.t (tI ((i+1:Nat):Int))],bH T a W [Bs,Bs,.box [.t (.bool false)]])) ((BH T.g x).findSome? (Oj W x)):=by
 refine BC T.cs (fun i _=>(([.t (tI i)],cH T a W x [.box [.ptr 3 0],.box []]):List AV×Heap)) (JD (ctF T W x)) (fun _=>none)
  (fun (y:(List AV×Heap→Option (List Tree))×(List AV×Heap→Option (List Tree))) o=>fZ T a W y.1 (y.2 ([.t (tI ((i+1:Nat):Int))],bH T a W [Bs,Bs,.box [.t (.bool false)]])) o) (fun _ _=>True) () rfl trivial (V6 T W x T.cs 0)
  (fun i b c ha hI => ?_) (fun _ _ _ _ _ _ _=>trivial) (fun b hI=>Ev.of fun n z again => ?_)
 ·have hi:=AJ ha;have hcl:=hT.cl;obtain ⟨d,gs,hk⟩:=hT.ct i c ha;have hto:=hT.to c (mem_of_getElem? ha);by_cases hf:c.frm=x.node
  ·by_cases hd:c.to=T.r.dst
   ·have hrm:BG T.g c.to=[⟨0,1099511627776⟩]:=by unfold BG;exact if_pos hd
    have hR:=rm90 T a W x i c d gs hk ht (cH T a W x [.box [.ptr 3 0],.box []]) [⟨0,1099511627776⟩] (by simp only [length_cons,length_nil];omega) (fun a ha=>by cases mem_singleton.1 ha;unfold Sm;exact ⟨by decide,by decide⟩);refine hR.mono fun n h y again => ?_;have a1:=h (y.1,fun p134=>FO n again ([.t (tI i)],cH T a W x [.box [.ptr 3 0],.box []]) p134);have a3:FO n again ([.t (tI i)],cH T a W x [.box [.ptr 3 0],.box []]) ([],cH T a W x [.box [.ptr 3 0],.box []])=again ([.t (tI ((i+1:Nat):Int))],cH T a W x [.box [.ptr 3 0],.box []]):=by simp only [FO,cH,bH,gH,xA,Bs,vv,reduceCtorEq,reduceAdd,reduceEqDiff,zh0,zh1,zh2,zh3,zh4,zh5,zh6,zo0,zo1,AQ (show i<4611686018427387904 by omega)]
    simp only [a3] at a1;have hs:ctF T W x i c=([⟨0,1099511627776⟩].filterMap (mv1 T.g x i c)).findSome? (Oj W x):=by unfold ctF mvC;rw [if_pos hf,hrm]
    rw [QL,hs];refine Eq.trans ?_ a1;simp only [Hg,h264,cH,bH,gH,xA,Bs,eq83,vv,reduceCtorEq,reduceAdd,reduceEqDiff,zh0,zh1,zh2,zh3,zh4,zh5,zh6,zo0,zo1,ha,AA.enc,Lab.enc,hf,hd,bne_self_eq_false,beq_self_eq_true,(show (i:Int)<T.cs.length by omega)];rfl
   ·have hlt:c.to.toNat<T.g.Ap.length:=by omega
    have hg:T.g.Ap[c.to.toNat]? = some T.g.Ap[c.to.toNat]:=getElem?_eq_getElem hlt;have hm:=hT.room _ (mem_of_getElem? hg);have hrm:BG T.g c.to=T.g.Ap[c.to.toNat]:=by unfold BG;rw [if_neg (show ¬c.to=T.g.rq.dst from hd)];simp [List.getD,hg]
    generalize T.g.Ap[c.to.toNat]=rs at hg hm hrm;have hR:=rm90 T a W x i c d gs hk ht (cH T a W x [.box [.ptr 3 0],.box []]) rs (by omega) (fun a ha=>by have:=hm.2 a ha;unfold Sm;omega);refine hR.mono fun n h y again => ?_;have a1:=h (y.1,fun p134=>FO n again ([.t (tI i)],cH T a W x [.box [.ptr 3 0],.box []]) p134);have a3:FO n again ([.t (tI i)],cH T a W x [.box [.ptr 3 0],.box []]) ([],cH T a W x [.box [.ptr 3 0],.box []])=again ([.t (tI ((i+1:Nat):Int))],cH T a W x [.box [.ptr 3 0],.box []]):=by simp only [FO,cH,bH,gH,xA,Bs,vv,reduceCtorEq,reduceAdd,reduceEqDiff,zh0,zh1,zh2,zh3,zh4,zh5,zh6,zo0,zo1,AQ (show i<4611686018427387904 by omega)]
    simp only [a3] at a1;have hs:ctF T W x i c=(rs.filterMap (mv1 T.g x i c)).findSome? (Oj W x):=by unfold ctF mvC;rw [if_pos hf,hrm]
    rw [QL,hs];refine Eq.trans ?_ a1;have t1:okL 2 (spE rs) 0=true:=rfl;simp only [Hg,h264,cH,bH,gH,xA,Bs,vv,reduceCtorEq,reduceAdd,reduceEqDiff,zh0,zh1,zh2,zh3,zh4,zh5,zh6,zo0,zo1,ha,AA.enc,Lab.enc,hf,bne_self_eq_false,beq_eq_false_iff_ne.2 hd,hg,t1,hto.1,hto.2,(show (i:Int)<T.cs.length by omega)];rfl
  ·refine Ev.of fun n z again => ?_;have hs:ctF T W x i c=none:=by unfold ctF mvC;rw [if_neg hf];rfl
   rw [QL,hs];simp only [Hg,FO,cH,bH,gH,xA,Bs,h264,vv,reduceCtorEq,reduceAdd,reduceEqDiff,zh0,zh1,zh2,zh3,zh4,zh5,zh6,zo0,zo1,ha,AA.enc,Lab.enc,bne_iff_ne.2 hf,AQ (show i<4611686018427387904 by omega),(show (i:Int)<T.cs.length by omega),fZ]
 ·simp only [Hg,cH,bH,gH,xA,Bs,h264,hi0,vv,reduceCtorEq,reduceAdd,reduceEqDiff,zh0,zh1,zh2,zh3,zh4,zh5,zh6,zo0,zo1,lt_irrefl,AQ (show i<4611686018427387904 by omega),fZ]
def VU:List AV:=[.t (tI 0),.t (tI 0),.t (tI 0),.t (tI 0),.t (tI 0),.t (tI 0),.t (tI 0),.t (tI 0),.t (.bool false)]
theorem lb93 (T:Tb) (hT:TOk T) (a:ASt) (W:WSt) (hl:a.ls.length≤10000) (ht:∀x∈a.ls,0≤x.time∧x.time≤1099511627776) (p259:List AV×Heap) (h1:AM p259 10 0=a.ls.length) (h2:AL p259 10 0=a.ls.length) (h3:AP p259 10 0=0) :
  Ev fun n=>∀z,AI (fun p again=>Kr n p259 z W.to.enc p again) n ([.t (tI (0:Nat))],bH T a W [Bs,Bs,.box [.t (.bool false)]])
   = fZ T a W z (z (VU,bH T a W [])) (GU T.g a.ls W.to):=by
 refine BC a.ls (fun i _=>(([.t (tI i)],bH T a W [Bs,Bs,.box [.t (.bool false)]]):List AV×Heap)) (JD fun _ x=>(BH T.g x).findSome? (Oj W x)) (fun _=>none)
  (fun (z:List AV×Heap→Option (List Tree)) o=>fZ T a W z (z (VU,bH T a W [])) o) (fun _ _=>True) () rfl trivial (by rw [fRun];rfl)
  (fun i b x ha hI => ?_) (fun _ _ _ _ _ _ _=>trivial) (fun b hI=>Ev.of fun n z again => ?_)
 ·have hi:=AJ ha;have hct:=ct92 T hT a W x (ht x (mem_of_getElem? ha)) ([.t (tI i)],bH T a W [Bs,Bs,.box [.t (.bool false)]]) (by simp only [bH,gH,vv,reduceCtorEq,reduceAdd,reduceEqDiff,zh0,zh1,zh2,zh3,zh4,zh5,zh6,zo0,zo1]) i (by simp only [vv,reduceCtorEq,reduceAdd,reduceEqDiff,zh0,zh1,zh2,zh3,zh4,zh5,zh6,zo0,zo1]) (by omega);refine hct.mono fun n h z again => ?_;rw [QL];refine Eq.trans ?_ (h (z,again));simp only [Kr,cH,bH,gH,Bs,h1,h2,h3,vv,reduceCtorEq,reduceAdd,reduceEqDiff,zh0,zh1,zh2,zh3,zh4,zh5,zh6,zo0,zo1,ha,xA,Lab.enc,(show (i:Int)<a.ls.length by omega)];rfl
 ·simp only [Kr,bH,gH,Bs,h1,h2,h3,vv,reduceCtorEq,reduceAdd,reduceEqDiff,zh0,zh1,zh2,zh3,zh4,zh5,zh6,zo0,zo1,lt_irrefl,fZ,VU]
end Ab
namespace Ab
open Go
def WSt.app (W:WSt) (p:Lab×Hop):WSt:=⟨W.vt,p.1,W.vw+1,W.out++[p.2]⟩
def WSt.nxt (W:WSt) (p:Lab×Hop):WSt:=⟨W.vt+1,p.1,W.vw+1,W.out++[p.2]⟩
def Ib (T:Tb) (x:Lab):Prop:=x.node=T.r.src∧x.time=T.r.ready
instance (T:Tb) (x:Lab):Decidable (Ib T x):=inferInstanceAs (Decidable (_∧_))
def Jk (T:Tb) (ls:List Lab):Nat→WSt→WSt
 |0,W=>W
 |f+1,W=>match GU T.g ls W.to with
  |none=>W
  |some p=>if Ib T p.1 then W.app p else Jk T ls f (W.nxt p)
theorem LZ (T:Tb) (ls:List Lab):∀(f:Nat) (W:WSt),(Jk T ls f W).out=W.out++(Db T.g ls f W.to).map (·.2)
 |0,W=>by simp [Jk,Db]
 |f+1,W=>by
  unfold Jk Db;cases h:GU T.g ls W.to with
  |none=>simp
  |some p=>
   simp only;by_cases hs:Ib T p.1
   ·have hs2:p.1.node=T.g.rq.src∧p.1.time=T.g.rq.ready:=hs;rw [if_pos hs,if_pos hs2];rfl
   ·have hs2:¬(p.1.node=T.g.rq.src∧p.1.time=T.g.rq.ready):=hs;rw [if_neg hs,if_neg hs2,LZ T ls f];simp [WSt.nxt]
theorem Lh {T:Tb} (hg:GOk T.g) {ls:List Lab} (hp:∀x,x∈ls↔x∈labels T.g) {to:Lab} {p:Lab×Hop} (h:GU T.g ls to=some p):T.r.ready≤p.1.time∧p.1.time<to.time:=by obtain ⟨h3,m,h4,h5,h6,h7⟩:=Jn h;have hl:=C2 hg h4;have ht:=IA hg ((D5 hg).reach p.1 (by simpa using (hp _).1 h3));have hr:T.g.rq.ready=T.r.ready:=rfl;rw [hr] at ht;exact ⟨ht,by omega⟩
theorem NL {T:Tb} (hg:GOk T.g) {ls:List Lab} (hp:∀x,x∈ls↔x∈labels T.g):∀(f f':Nat) (W:WSt),(W.to.time-T.r.ready).toNat<f→(W.to.time-T.r.ready).toNat<f'→Jk T ls f W=Jk T ls f' W
 |0,_,W,h,_=>by omega
 |_,0,W,_,h=>by omega
 |f+1,f'+1,W,h1,h2=>by
  unfold Jk;cases h:GU T.g ls W.to with
  |none=>rfl
  |some p=>
   have hl:=Lh hg hp h;simp only;split
   ·rfl
   ·rw [NL hg hp f f' (W.nxt p) (by simp only [WSt.nxt];omega) (by simp only [WSt.nxt];omega)]
def O4 (T:Tb) (ls:List Lab) (W:WSt):Rd WSt WSt:=match GU T.g ls W.to with
 |none =>.done W
 |some p=>if Ib T p.1 then .done (W.app p) else .next (W.nxt p)
def wSt (T:Tb) (a:ASt) (W:WSt):List AV×Heap:=([.sref 12 W.vw 0 W.out.length,.rptr 11 W.vt 0 0],bH T a W [])
def wFn (T:Tb) (a:ASt) (W:WSt):List AV×Heap:=([.sref 12 W.vw 0 W.out.length],bH T a W [])
theorem j95n (T:Tb) (a:ASt) (W:WSt) (n:Nat) (z again:List AV×Heap→Option (List Tree)):FN n z (wSt T a W) again T.r.src T.r.ready (VU,bH T a W [])=z (wFn T a W):=by simp only [FN,wSt,wFn,VU,bH,gH,vv,reduceCtorEq,reduceAdd,reduceEqDiff,zh0,zh1,zh2,zh3,zh4,zh5,zh6,zo0,zo1]
theorem j95s (T:Tb) (a:ASt) (W:WSt) (hl:W.out.length≤10000) (p:Lab×Hop) (n:Nat) (z again:List AV×Heap→Option (List Tree)) :
  FN n z (wSt T a W) again T.r.src T.r.ready (UB p.1 p.2,bH T a W [])=if Ib T p.1 then z (wFn T a (W.app p)) else again (wSt T a (W.nxt p)):=by
 have t1:take W.out.length (W.out.map Hop.enc)=W.out.map Hop.enc:=take_of_length_le (by simp);have b1:W.out.length+1≤1073741824:=by omega
 by_cases h1:p.1.node=T.r.src
 ·by_cases h2:p.1.time=T.r.ready
  ·have hs:Ib T p.1:=⟨h1,h2⟩
   rw [if_pos hs];simp only [FN,Ky,wSt,wFn,WSt.app,UB,bH,gH,Lab.enc,vv,reduceCtorEq,reduceAdd,reduceEqDiff,zh0,zh1,zh2,zh3,zh4,zh5,zh6,zo0,zo1,t1,b1,h1,h2,beq_self_eq_true,le_refl,length_append,map_append,map_cons,map_nil,Hop.enc]<;>rfl
  ·have hs:¬Ib T p.1:=fun h=>h2 h.2;rw [if_neg hs];simp only [FN,Ky,wSt,wFn,WSt.nxt,UB,bH,gH,Lab.enc,vv,reduceCtorEq,reduceAdd,reduceEqDiff,zh0,zh1,zh2,zh3,zh4,zh5,zh6,zo0,zo1,t1,b1,h1,beq_self_eq_true,beq_eq_false_iff_ne.2 h2,le_refl,length_append,map_append,map_cons,map_nil,Hop.enc]<;>rfl
 ·have hs:¬Ib T p.1:=fun h=>h1 h.1;rw [if_neg hs];simp only [FN,Ky,wSt,wFn,WSt.nxt,UB,bH,gH,Lab.enc,vv,reduceCtorEq,reduceAdd,reduceEqDiff,zh0,zh1,zh2,zh3,zh4,zh5,zh6,zo0,zo1,t1,b1,beq_eq_false_iff_ne.2 h1,le_refl,length_append,map_append,map_cons,map_nil,Hop.enc]<;>rfl
theorem bk96 (T:Tb) (hT:TOk T) (hg:GOk T.g) (a:ASt) (hp:∀x,x∈a.ls↔x∈labels T.g) (hl:a.ls.length≤1000) (ht:∀x∈a.ls,0≤x.time∧x.time≤1099511627776) (to:Lab) (hto:T.r.ready≤to.time) :
  Ev fun n=>∀z,AI (fun p again=>PE n z T.r.src T.r.ready p again) n ([.sref 12 0 0 0,.rptr 11 0 0 0],bH T a ⟨0,to,0,[]⟩ [])
   = z (wFn T a (Jk T a.ls ((to.time-T.r.ready).toNat+1) ⟨0,to,0,[]⟩)):=by
 have hnd:∀W:WSt,True:=fun _=>trivial;refine E8 (fun (z:List AV×Heap→Option (List Tree)) W=>z (wFn T a W)) (wSt T a) (O4 T a.ls) (fun W=>W.out.length+(Db T.g a.ls ((W.to.time-T.r.ready).toNat+1) W.to).length≤1000∧T.r.ready≤W.to.time) (fun W=>(W.to.time-T.r.ready).toNat) (fun W=>Jk T a.ls ((W.to.time-T.r.ready).toNat+1) W) ⟨0,to,0,[]⟩ rfl
  ⟨by have:=Mb (JM hg (ls:=a.ls) ((to.time-T.r.ready).toNat+1) to);simp only [length_nil];omega,hto⟩ rfl
  (fun W hI => ?_) (fun W W' hI h => ?_) (fun W hI => ?_)
 ·refine (lb93 T hT a W (by omega) ht (wSt T a W) (by simp only [wSt,bH,gH,vv,reduceCtorEq,reduceAdd,reduceEqDiff,zh0,zh1,zh2,zh3,zh4,zh5,zh6,zo0,zo1]) (by simp only [wSt,bH,gH,vv,reduceCtorEq,reduceAdd,reduceEqDiff,zh0,zh1,zh2,zh3,zh4,zh5,zh6,zo0,zo1]) (by simp only [wSt,bH,gH,vv,reduceCtorEq,reduceAdd,reduceEqDiff,zh0,zh1,zh2,zh3,zh4,zh5,zh6,zo0,zo1])).mono fun n h z again => ?_;have a1:=h (fun p262=>FN n z (wSt T a W) again T.r.src T.r.ready p262);have hol:W.out.length≤10000:=by omega
  refine Eq.trans ?_ (a1.trans ?_)
  ·simp only [PE,wSt,bH,gH,Lab.enc,Bs,vv,reduceCtorEq,reduceAdd,reduceEqDiff,zh0,zh1,zh2,zh3,zh4,zh5,zh6,zo0,zo1];rfl
  ·unfold O4;cases hpr:GU T.g a.ls W.to with
   |none=>exact j95n T a W n z again
   |some p=>
    simp only [fZ];rw [j95s T a W hol p n z again];split<;>rfl
 ·unfold O4 at h;cases hpr:GU T.g a.ls W.to with
  |none=>rw [hpr] at h;cases h
  |some p=>
   rw [hpr] at h;simp only at h;split at h
   ·cases h
   ·rename_i hs;cases h;have hl2:=Lh hg hp hpr;have hs2:¬(p.1.node=T.g.rq.src∧p.1.time=T.g.rq.ready):=hs;obtain ⟨i1,i2⟩:=hI;have e:Db T.g a.ls ((W.to.time-T.r.ready).toNat+1) W.to=p::Db T.g a.ls ((W.to.time-T.r.ready).toNat) p.1:=by
     conv=>lhs;unfold Db
     rw [hpr];simp only [if_neg hs2]
    have e2:=Mc hg hp ((W.to.time-T.r.ready).toNat) ((p.1.time-T.r.ready).toNat+1) p.1 hl2.1 (show (p.1.time-T.r.ready).toNat<_ by omega) (show (p.1.time-T.r.ready).toNat<_ by omega);rw [e,e2,length_cons] at i1;refine ⟨⟨?_,hl2.1⟩,?_⟩
    ·simp only [WSt.nxt,length_append,length_cons,length_nil];omega
    ·simp only [WSt.nxt];omega
 ·unfold O4
  conv=>lhs;unfold Jk
  cases hpr:GU T.g a.ls W.to with
  |none=>rfl
  |some p=>
   simp only;have hl2:=Lh hg hp hpr;by_cases hs:Ib T p.1
   ·rw [if_pos hs,if_pos hs];rfl
   ·rw [if_neg hs,if_neg hs];exact NL hg hp _ _ _ (by simp only [WSt.nxt];omega) (by simp only [WSt.nxt];omega)
end Ab
namespace Ab
open Go
def WSt.outs (W:WSt) (l:List Hop):WSt:=⟨W.vt,W.to,W.vw,l⟩
def U9 (T:Tb) (a:ASt) (W:WSt) (s:Nat×List Hop):List AV×Heap:=([.t (tI s.1),.t (tI ((W.out.length:Int)-1-s.1))],bH T a (W.outs s.2) [])
def OK (n:Nat) (s:Nat×List Hop):Rd (Nat×List Hop) (List Hop):=
 if h:s.1+s.1+1<n∧n=s.2.length then .next (s.1+1,(s.2.set s.1 (s.2[n-1-s.1]'(by omega))).set (n-1-s.1) (s.2[s.1]'(by omega))) else .done s.2
structure RvI (L:List Hop) (s:Nat×List Hop):Prop where
 len:s.2.length=L.length
 le:s.1+s.1≤L.length+1
 get:∀k,k<L.length→s.2[k]? = if k<s.1∨L.length-1-k<s.1 then L[L.length-1-k]? else L[k]?
theorem rv_done {L:List Hop} {s:Nat×List Hop} (h:RvI L s) (hc:¬s.1+s.1+1<L.length):s.2=L.reverse:=by
 have h1:=h.len;have h2:=h.le;refine ext_getElem? fun k => ?_;by_cases hk:k<L.length
 ·rw [h.get k hk,List.getElem?_reverse hk];split
  ·rfl
  ·rename_i hn;congr 1;omega
 ·rw [getElem?_eq_none (by omega),getElem?_eq_none (by simp;omega)]
theorem rv_next {L:List Hop} {s:Nat×List Hop} (h:RvI L s) (hc:s.1+s.1+1<L.length) (h1:L.length-1-s.1<s.2.length) (h2:s.1<s.2.length):RvI L (s.1+1,(s.2.set s.1 s.2[L.length-1-s.1]).set (L.length-1-s.1) s.2[s.1]):=by
 have hl:=h.len;refine ⟨by simp only [length_set];exact hl,by simp only;omega,fun k hk => ?_⟩;have hj:=h.get (L.length-1-s.1) (by omega);have hi:=h.get s.1 (by omega);rw [if_neg (by omega)] at hj hi;rw [getElem?_eq_getElem h1] at hj;rw [getElem?_eq_getElem h2] at hi;simp only;by_cases e1:k=L.length-1-s.1
 ·subst e1;rw [getElem?_set_self (by rw [length_set];exact h1),hi,if_pos (by omega)];congr 1;omega
 ·rw [getElem?_set_ne (fun e=>e1 e.symm)];by_cases e2:k=s.1
  ·subst e2;rw [getElem?_set_self h2,hj,if_pos (by omega)]
  ·rw [getElem?_set_ne (fun e=>e2 e.symm),h.get k hk];by_cases e3:k<s.1∨L.length-1-k<s.1
   ·rw [if_pos e3,if_pos (by omega)]
   ·rw [if_neg e3,if_neg (by omega)]
theorem rv97 (T:Tb) (a:ASt) (W:WSt) (hl:W.out.length≤10000) :
  Ev fun n=>∀z,AI (fun p again=>Kq n (wFn T a W) z p again) n (U9 T a W (0,W.out))=z ([],bH T a (W.outs W.out.reverse) []):=by
 refine E8 (fun (z:List AV×Heap→Option (List Tree)) l=>z ([],bH T a (W.outs l) [])) (U9 T a W) (OK W.out.length) (RvI W.out) (fun s=>W.out.length-s.1) (fun _=>W.out.reverse) (0,W.out) rfl
  ⟨rfl,by simp,fun k hk=>by simp only [Nat.not_lt_zero,or_self,if_false]⟩ rfl
  (fun s hI=>Ev.of fun n z again => ?_) (fun s s' hI h => ?_) (fun s hI => ?_)
 ·have hlen:=hI.len;unfold OK;by_cases hc:s.1+s.1+1<W.out.length
  ·rw [dif_pos ⟨hc,hlen.symm⟩];have hj:((W.out.length:Int)-1-s.1)=((W.out.length-1-s.1:Nat):Int):=by omega
   have h1:W.out.length-1-s.1<s.2.length:=by omega
   have h2:s.1<s.2.length:=by omega
   have g1:s.2[W.out.length-1-s.1]? = some s.2[W.out.length-1-s.1]:=getElem?_eq_getElem h1;have g2:s.2[s.1]? = some s.2[s.1]:=getElem?_eq_getElem h2;have hw:w64 ((s.1:Int)+1)=((s.1+1:Nat):Int):=by rw [Ay (by omega) (by omega)];omega
   have hw2:w64 (((W.out.length-1-s.1:Nat):Int)-1)=(W.out.length:Int)-1-((s.1+1:Nat):Int):=by rw [Ay (by omega) (by omega)];omega
   have g3:((s.2.map Hop.enc).set s.1 s.2[W.out.length-1-s.1].enc)[W.out.length-1-s.1]? = some s.2[W.out.length-1-s.1].enc:=by rw [getElem?_set_ne (by omega),getElem?_map,g1];rfl
   generalize s.2[W.out.length-1-s.1]=x at g1 g3;generalize s.2[s.1]=y at g2;simp only [Hop.enc] at g3;rw [Rd.Ac];simp only [Kq,U9,wFn,WSt.outs,bH,gH,vv,reduceCtorEq,reduceAdd,reduceEqDiff,zh0,zh1,zh2,zh3,zh4,zh5,zh6,zo0,zo1,hj,g1,g2,Hop.enc,hw,hw2,(show (s.1:Int)<((W.out.length-1-s.1:Nat):Int) by omega),(show ((W.out.length-1-s.1:Nat):Int)<W.out.length by omega),(show (s.1:Int)<W.out.length by omega),le_refl,List.map_set,append_nil,List.drop_succ_cons,drop_zero,List.drop_nil,g3]
  ·rw [dif_neg fun h=>hc h.1,Rd.Ah];simp only [Kq,U9,wFn,WSt.outs,bH,gH,vv,reduceCtorEq,reduceAdd,reduceEqDiff,zh0,zh1,zh2,zh3,zh4,zh5,zh6,zo0,zo1,(show ¬(s.1:Int)<(W.out.length:Int)-1-s.1 by omega)]
 ·unfold OK at h;split at h
  ·rename_i hc;cases h;exact ⟨rv_next hI hc.1 (by omega) (by omega),by simp only;omega⟩
  ·cases h
 ·unfold OK;split
  ·rfl
  ·rename_i hc;simp only [Rd.fin];exact (rv_done hI (fun h=>hc ⟨h,hI.len.symm⟩)).symm
theorem j99 (T:Tb) (a:ASt) (W:WSt) (hl:W.out.length≤1000):Ev fun n=>Kx n (wFn T a W)=some [.sl 4 (W.out.reverse.map Hop.enc),tI 0]:=by
 refine (rv97 T a W (by omega)).mono fun n h => ?_;have a1:=h (fun p319=>PH n (wFn T a W) p319);have hw:w64 ((W.out.length:Int)-1)=(W.out.length:Int)-1-((0:Nat):Int):=by rw [Ay (by omega) (by omega)];omega
 refine Eq.trans ?_ (a1.trans ?_)
 ·simp only [Kx,U9,wFn,WSt.outs,bH,gH,vv,reduceCtorEq,reduceAdd,reduceEqDiff,zh0,zh1,zh2,zh3,zh4,zh5,zh6,zo0,zo1,hw,(show ¬(1000:Int)<W.out.length by omega)];rfl
 ·have t1:take W.out.length (W.out.reverse.map Hop.enc)=W.out.reverse.map Hop.enc:=take_of_length_le (by simp);simp only [PH,wFn,WSt.outs,bH,gH,vv,reduceCtorEq,reduceAdd,reduceEqDiff,zh0,zh1,zh2,zh3,zh4,zh5,zh6,zo0,zo1,t1]
def Fk:Option (List Hop)→List Tree
 |none=>[.sl 4 [],tI 18]
 |some l=>[.sl 4 (l.map Hop.enc),tI 0]
theorem j100 (T:Tb) (hT:TOk T) (hg:GOk T.g) (a:ASt) (hp:∀x,x∈a.ls↔x∈labels T.g) (hl:a.ls.length≤1000) (ht:∀x∈a.ls,0≤x.time∧x.time≤1099511627776) :
  Ev fun n=>HE n T.r.src T.r.ready T.r.dst ([.t (tI ((IS T.g a.ls).getD 0)),.t (.bool (IS T.g a.ls).isSome)],lH T ⟨a.ls,a.vo,[],a.jk⟩ [.box [.sref 6 a.ls.length 0 a.ls.length]])=some (Fk (CZ T.g a.ls)):=by
 cases hA:IS T.g a.ls with
 |none=>
  refine Ev.of fun n => ?_;have hE:CZ T.g a.ls=none:=by unfold CZ;rw [hA];rfl
  rw [hE];simp only [HE,isSome_none,getD_none,Fk,vv,reduceCtorEq,reduceAdd,reduceEqDiff,zh0,zh1,zh2,zh3,zh4,zh5,zh6,zo0,zo1]
 |some v=>
  have hv:T.r.ready≤v:=by obtain ⟨⟨x,hx,m,hm,hmd,hmt⟩,_⟩:=J8 hA;have h1:=IA hg ((D5 hg).reach x (by simpa using (hp x).1 hx));have h2:=C2 hg hm;have hr:T.g.rq.ready=T.r.ready:=rfl;omega
  have hE:CZ T.g a.ls=some ((Jk T a.ls ((v-T.r.ready).toNat+1) ⟨0,Fl T.g v,0,[]⟩).out.reverse):=by unfold CZ;rw [hA,LZ];rfl
  have hb:=bk96 T hT hg a hp hl ht (Fl T.g v) hv;have hbl:=Mb (JM hg (ls:=a.ls) ((v-T.r.ready).toNat+1) (Fl T.g v));have hol:(Jk T a.ls ((v-T.r.ready).toNat+1) ⟨0,Fl T.g v,0,[]⟩).out.length≤1000:=by rw [LZ];simp only [nil_append,length_map];omega
  have hdt:(Fl T.g v).time=v:=rfl;rw [hdt] at hb;rw [hE];generalize Jk T a.ls ((v-T.r.ready).toNat+1) ⟨0,Fl T.g v,0,[]⟩=W at hb hol;refine (hb.and (j99 T a W hol)).mono fun n ⟨h1,h2⟩=> ?_;have a1:=h1 (fun p257=>Kx n p257);rw [h2] at a1;refine Eq.trans ?_ a1;simp only [HE,bH,lH,gH,Fl,Lab.enc,vv,reduceCtorEq,reduceAdd,reduceEqDiff,zh0,zh1,zh2,zh3,zh4,zh5,zh6,zo0,zo1,isSome_some,Option.getD_some,map_nil,nil_append,length_nil];rfl
end Ab
namespace Ab
open Go
def V5 (e:List Tree):Lab:=⟨intOf (e.getD 0 default),intOf (e.getD 1 default),intOf (e.getD 2 default),intOf (e.getD 3 default)⟩
theorem MO (h:Lab):V5 h.enc=h:=rfl
noncomputable def soI:List Lab→List Lab:=lift Lab.enc V5 (GV (BP [3,0,1]))
theorem soI_enc (l:List Lab):(soI l).map Lab.enc=GV (BP [3,0,1]) (l.map Lab.enc):=Lv MO (fun d=>D0 (CG _) d) l
theorem FZ (l:List Lab):(soI l).Perm l:=Jr MO (fun d=>D0 (CG _) d) l
theorem P9 (l:List Lab):Ax 4 (l.map Lab.enc)=true:=by simp [Ax,Lab.enc,H0]
theorem Sr (T:Tb) (hT:TOk T) (x:Lab):∀(l:List AA) (k:Nat),(∀c∈l,c∈T.cs)→(mvL T.g x k l).length≤100*l.length
 |[],k,_=>le_refl _
 |c::l,k,hl=>by
  have ih:=Sr T hT x l (k+1) fun c hc=>hl c (mem_cons_of_mem _ hc);have h1:(mvC T.g x k c).length≤100:=by
   unfold mvC;split
   ·refine le_trans (List.length_filterMap_le _ _) ?_;unfold BG;split
    ·simp
    ·have ht:=hT.to c (hl c (mem_cons_self ..));have hlt:c.to.toNat<T.g.Ap.length:=by omega
     have hr:=hT.room T.g.Ap[c.to.toNat] (getElem_mem hlt);simp only [List.getD,getElem?_eq_getElem hlt,Option.getD_some];exact hr.1
   ·simp
  unfold mvL;simp only [length_append,length_cons];omega
theorem VV (T:Tb) (hT:TOk T) (done:List Lab) (x:Lab):(OY T.g done x).length≤1000:=by unfold OY;rw [length_map];refine le_trans (List.length_filter_le _ _) ?_;have:=Sr T hT x T.cs 0 fun c hc=>hc;have h2:=hT.cl;show (mvL T.g x 0 T.cs).length≤1000;omega
theorem NZ (T:Tb) (hT:TOk T):(DM T.g).length≤600:=by
 unfold DM;rw [List.length_flatten];have h1:∀n∈((List.range T.g.Ap.length).map fun n=>(T.g.Ap.getD n []).map fun r=>((n:Int),r.frm)).map length,n≤100:=fun n hn=>by simp only [map_map,mem_map,mem_range,Function.comp,length_map] at hn;obtain ⟨j,hj,rfl⟩:=hn;have hr:=hT.room T.g.Ap[j] (getElem_mem hj);simp only [List.getD,getElem?_eq_getElem hj,Option.getD_some];exact hr.1
 have h2:∀l:List Nat,(∀n∈l,n≤100)→l.sum≤100*l.length:=fun l=>by
  induction l with
  |nil=>intro _;simp
  |cons a l ih=>
   intro h;have e1:=h a (mem_cons_self ..);have e2:=ih fun n hn=>h n (mem_cons_of_mem _ hn);simp only [List.sum_cons,length_cons];omega
 have h3:=h2 _ h1;have h4:=hT.rl;simp only [length_map,length_range] at h3;omega
theorem Ps (T:Tb) (hT:TOk T) (hg:GOk T.g) {x:Lab} (h:Reach T.g x):0≤x.time∧x.time≤1099511627776:=by
 have hd:=hT.dead
 induction h with
 |start h=>
  unfold Dy at h;obtain ⟨r,h1,h2⟩:=mem_filterMap.1 h;split at h2
  ·cases h2;exact ⟨hd.1,Int.le_trans hd.2.1 hd.2.2⟩
  ·cases h2
 |step h1 h2 h3 ih=>
  have hl:=C2 hg h2;obtain ⟨k,c,r,m1,m2,m3,m4⟩:=D2.1 h2;obtain ⟨b,e1,e2,e3,e4⟩:=Gn m4;have hg:T.g.rq=T.r:=rfl;rw [hg] at e4;omega
structure Uh (T:Tb) (s:LSt):Prop where
 inv:Qx T.g s.done s.opn
 four:∀e∈s.jk,e.length=4
 ol:s.opn.length≤100+1000*s.done.length
theorem VZ {T:Tb} (hT:TOk T) (hg:GOk T.g) {s:LSt} (h:Uh T s):SOk s:=by have h1:=Gu hg h.inv;have h2:=NZ T hT;have h3:=h.ol;exact ⟨h.four,by omega,by omega⟩
theorem Va {T:Tb} (hT:TOk T) (hg:GOk T.g) {s:LSt} (h:Uh T s) {o:Lab} {os:List Lab} (ho:s.opn=o::os):Uh T (s.nxt T (C3 o os)):=by
 have hm:C3 o os∈s.opn:=by rw [ho];exact (Ej os o).1
 obtain ⟨h1,h2,h3⟩:=RX T s h.four (C3 o os) hm;refine ⟨?_,h3,?_⟩
 ·rw [h1,h2,ho];have:=h.inv;rw [ho] at this;exact NW hg this
 ·rw [h1,h2];have e1:=VV T hT (s.done++[C3 o os]) (C3 o os);have e2:=List.length_filter_le (fun y => !A0 (C3 o os) y) s.opn;have e3:=h.ol;simp only [length_append,length_cons,length_nil];omega
def Ew (T:Tb) (s:LSt):Rd LSt (List Lab):=match s.opn with
 |[]=>.done s.done
 |o::os =>.next (s.nxt T (C3 o os))
theorem P5 {T:Tb} {s:LSt} (h4:∀e∈s.jk,e.length=4) (hlt:s.done.length≤(DM T.g).length) {o:Lab} {os:List Lab} (ho:s.opn=o::os) :
  P7 T.g ((DM T.g).length+1-s.done.length) s.done s.opn=P7 T.g ((DM T.g).length+1-(s.nxt T (C3 o os)).done.length) (s.nxt T (C3 o os)).done (s.nxt T (C3 o os)).opn:=by
 obtain ⟨f,hf⟩:∃f,(DM T.g).length+1-s.done.length=f+1:=⟨(DM T.g).length-s.done.length,by omega⟩
 have hm:C3 o os∈s.opn:=by rw [ho];exact (Ej os o).1
 obtain ⟨e1,e2,e3⟩:=RX T s h4 (C3 o os) hm;have hf2:(DM T.g).length+1-(s.done++[C3 o os]).length=f:=by simp only [length_append,length_cons,length_nil];omega
 rw [e1,e2,hf,hf2,ho];rfl
theorem Sz {T:Tb} {s:LSt} (ho:s.opn=[]):P7 T.g ((DM T.g).length+1-s.done.length) s.done s.opn=s.done:=by rw [ho];cases h:(DM T.g).length+1-s.done.length<;>rfl
theorem lm101 (T:Tb) (hT:TOk T) (hg:GOk T.g) (s0:LSt) (h0:Uh T s0) (hd0:s0.done=[]) (hs0:s0.opn=Dy T.g) :
  Ev fun n=>AI (fun p again=>Ja n T.r.src T.r.ready T.r.dst p again) n ([],lH T s0 [])=some (Fk (CZ T.g (soI (labels T.g)))):=by
 refine GW (fun l:List Lab=>Fk (CZ T.g (soI l))) (fun s=>(([],lH T s []):List AV×Heap)) (Ew T) (fun s=>Uh T s∧P7 T.g ((DM T.g).length+1-s.done.length) s.done s.opn=labels T.g) (fun s=>(DM T.g).length+1-s.done.length) (fun s=>P7 T.g ((DM T.g).length+1-s.done.length) s.done s.opn) s0 rfl
  ⟨h0,by rw [hd0,hs0];rfl⟩ (by rw [hd0,hs0];rfl) (fun s hII => ?_) (fun s s' hII h => ?_) (fun s hII => ?_)
 ·obtain ⟨hI,hL⟩:=hII;have hS:=VZ hT hg hI;cases ho:s.opn with
  |nil=>
   have hst:Ew T s = .done s.done:=by unfold Ew;rw [ho]
   rw [hst];rw [Sz ho] at hL;have hsl:(soI s.done).length=s.done.length:=(FZ s.done).length_eq;have hdl:=hS.dl;have hls:∀x,x∈soI s.done↔x∈labels T.g:=fun x=>by rw [(FZ s.done).mem_iff,hL]
   have hlt:∀x∈soI s.done,0≤x.time∧x.time≤1099511627776:=fun x hx=>Ps T hT hg (hI.inv.reach x (mem_append_left _ ((FZ s.done).mem_iff.1 hx)));refine ((ar76 T hT ⟨soI s.done,s.vo,s.jk⟩ (by simp only;omega) hlt ([],lH T s []) (by simp only [lH,gH,vv,reduceCtorEq,reduceAdd,reduceEqDiff,zh0,zh1,zh2,zh3,zh4,zh5,zh6,zo0,zo1,hsl]) (by simp only [lH,gH,vv,reduceCtorEq,reduceAdd,reduceEqDiff,zh0,zh1,zh2,zh3,zh4,zh5,zh6,zo0,zo1,hsl]) (by simp only [lH,gH,vv,reduceCtorEq,reduceAdd,reduceEqDiff,zh0,zh1,zh2,zh3,zh4,zh5,zh6,zo0,zo1])).and (j100 T hT hg ⟨soI s.done,s.vo,s.jk⟩ hls (by simp only;omega) hlt)).mono fun n ⟨h,h2⟩ again => ?_;have a1:=h (fun p202=>HE n T.r.src T.r.ready T.r.dst p202);have t3:take s.done.length (s.done.map Lab.enc)=s.done.map Lab.enc:=take_of_length_le (by simp);have b1:s.done.length≤1073741824:=by omega
   have e1:A3 (s.done.map Lab.enc) 0 ((soI s.done).map Lab.enc)=(soI s.done).map Lab.enc:=Fz (by simp [hsl]);rw [Rd.Ah];refine Eq.trans ?_ (a1.trans h2);simp only [Ja,lH,aH,gH,ho,vv,reduceCtorEq,reduceAdd,reduceEqDiff,zh0,zh1,zh2,zh3,zh4,zh5,zh6,zo0,zo1,lt_irrefl,map_nil,nil_append,length_nil,le_refl,b1,t3,P9,← soI_enc,e1,hsl,getD_none,isSome_none,(show ¬(0:Int)<((0:Nat):Int) by decide)];rfl
  |cons o os=>
   have hst:Ew T s = .next (s.nxt T (C3 o os)):=by unfold Ew;rw [ho]
   have hm:C3 o os∈s.opn:=by rw [ho];exact (Ej os o).1
   have htm:=Ps T hT hg (hI.inv.reach _ (mem_append_right _ hm));have hol:=hS.ol;rw [hst];refine ((mn4 T s o os ho (by omega) []).and (nx57 T hT s hS (C3 o os) hm htm)).mono fun n ⟨h1,h2⟩ again => ?_;have a1:=h1 (fun p33=>K5 n again p33);have a2:=h2 again;rw [Rd.Ac];refine Eq.trans ?_ (a1.trans a2);have hlen:(0:Int)<s.opn.length:=by rw [ho];simp only [length_cons];omega
   have hg0:(s.opn.map Lab.enc++s.jk)[0]? = some [tI o.node,tI o.frm,tI o.to,tI o.time]:=by rw [ho];rfl
   simp only [Ja,lH,gH,xA,Bs,vv,reduceCtorEq,reduceAdd,reduceEqDiff,zh0,zh1,zh2,zh3,zh4,zh5,zh6,zo0,zo1,hlen,hg0,(show ¬(s.opn.length:Int)<1 by omega)];rfl
 ·obtain ⟨hI,hL⟩:=hII;have h1:=Gu hg hI.inv;cases ho:s.opn with
  |nil=>unfold Ew at h;rw [ho] at h;cases h
  |cons o os=>
   unfold Ew at h;rw [ho] at h;cases h;have hm:C3 o os∈s.opn:=by rw [ho];exact (Ej os o).1
   refine ⟨⟨Va hT hg hI ho,(P5 hI.four h1 ho).symm.trans hL⟩,?_⟩;rw [(RX T s hI.four (C3 o os) hm).1];simp only [length_append,length_cons,length_nil];omega
 ·obtain ⟨hI,hL⟩:=hII;have h1:=Gu hg hI.inv;cases ho:s.opn with
  |nil=>
   have hst:Ew T s = .done s.done:=by unfold Ew;rw [ho]
   rw [hst,← ho,Sz ho];rfl
  |cons o os=>
   have hst:Ew T s = .next (s.nxt T (C3 o os)):=by unfold Ew;rw [ho]
   rw [hst,← ho];exact P5 hI.four h1 ho
end Ab
namespace Ab
open Go
theorem IH (bs:List AB):∀(l:List AA) (k j:Nat),(FJ bs k l)[j]? = (l[j]?).map fun c=>BA c.stop (busy bs (k+j:Nat)) c.start
 |[],k,j=>by simp [FJ]
 |c::l,k,j=>by
  cases j with
  |zero=>simp [FJ]
  |succ j=>
   have:=IH bs l (k+1) j;simp only [FJ,getElem?_cons_succ,this];congr 2;funext c;rw [show k+1+j=k+(j+1) by omega]
theorem Ng (bs:List AB):∀(l:List AA) (k:Nat),(FJ bs k l).length=l.length
 |[],k=>rfl
 |c::l,k=>by simp [FJ,Ng bs l (k+1)]
theorem Tl (Q size:Int) (ls:List Lvl):(Ap Q size ls).length≤ls.length+2:=by
 have h1:∀(ls:List Lvl) (s:List Span×Int),(ls.foldl (Bk Q size) s).1.length≤s.1.length+ls.length:=fun ls=>by
  induction ls with
  |nil=>intro s;simp
  |cons x ls ih=>
   intro s;rw [foldl_cons];have e1:=ih (Bk Q size s x);have e2:=Io Q size s x;simp only [length_cons];omega
 have h2:=h1 ls (DF Q size ([],-1) 0 0);have h3:(DF Q size (([],-1):List Span×Int) 0 0).1.length=0:=by
  unfold DF Ba;split
  ·simp
  ·split<;>simp
 unfold Ap Ba;split
 ·simp only [length_append,length_cons,length_nil];omega
 ·simp only;omega
structure In (T:Tb):Prop where
 tab:Bb T.q T.cs T.bs T.hs=0
 req:Bl T.q T.cs T.r=0
 ql:T.q.length≤6
 cl:T.cs.length≤10
 hl:T.hs.length≤30
theorem Up {T:Tb} (h:In T):TOk T:=by
 obtain ⟨p1,p2,p3⟩:=BY h.tab;have hr:=Bx h.req;obtain ⟨s1,s2,s3⟩:=CY p3;have hb:=Ch p2;have hn:=Cg p1;have hrl:T.g.Ap.length=T.q.length:=Es T.hs T.r.size T.q 0;refine ⟨fun k c hc => ?_,fun c hc => ?_,fun rs hm => ?_,h.cl,by rw [hrl];exact h.ql,⟨hr.2.2.2.2.2.2.2.2.1,hr.2.2.2.2.2.2.2.2.2.1,hr.2.2.2.2.2.2.2.2.2.2.1⟩⟩
 ·have hcc:=(hn c (mem_of_getElem? hc)).1;have o:=A9 hcc;refine ⟨DJ c T.r.size,BA c.stop (busy T.bs (k:Nat)) c.start,hc,?_,?_,E1 hcc (by omega) hr.2.2.2.2.2.2.2.1,⟨by omega,by omega⟩,fun a ha => ?_,?_⟩
  ·show (T.cs.map fun c=>DJ c T.r.size)[k]? = _;rw [getElem?_map,hc];rfl
  ·show (FJ T.bs 0 T.cs)[k]? = _;rw [IH,hc];simp
  ·have hrow:=Fo hb.2.2 (k:=((k:Nat):Int)) (c:=c) (by rw [toNat_natCast];exact hc) hcc;have:=D8 _ _ _ hrow (Int.le_refl _) a ha;omega
  ·have h1:=HT c.stop (busy T.bs (k:Nat)) c.start;have h2:=Fp T.bs (k:Nat);have h3:=hb.2.1;omega
 ·have h1:=hn c hc;have o:=A9 h1.1;rw [hrl];omega
 ·have h1:=NK (q:=T.q) (hs:=T.hs) (size:=T.r.size) s3 (by omega) rs hm;refine ⟨?_,fun a ha => ?_⟩
  ·obtain ⟨j,hj,rfl⟩:=mem_iff_getElem.1 hm;have h2:=Et T.hs T.r.size T.q 0 j;have h3:(Ce T.hs T.r.size 0 T.q)[j]? = some T.g.Ap[j]:=getElem?_eq_getElem hj;rw [h3] at h2;cases hq:T.q[j]? with
   |none=>rw [hq] at h2;cases h2
   |some Q=>
    rw [hq] at h2;simp only [map_some,Option.some.injEq] at h2;rw [h2];have h4:=Tl Q T.r.size (levels T.hs (0+j:Nat));have h5:=F4 T.hs (0+j:Nat);have h6:=h.hl;omega
  ·have:=h1.2 a ha;omega
def LM (T:Tb) (s:LSt) (rm:Span):LSt:=if rm.frm≤T.r.ready∧T.r.ready<rm.to then s.push ⟨T.r.src,rm.frm,rm.to,T.r.ready⟩ else s
def staF (T:Tb) (r:Span):Option Lab:=if r.frm≤T.r.ready∧T.r.ready<r.to then some ⟨T.r.src,r.frm,r.to,T.r.ready⟩ else none
theorem Ie (T:Tb):∀(rs:List Span) (s:LSt),(rs.foldl (LM T) s).done=s.done∧(rs.foldl (LM T) s).opn=s.opn++rs.filterMap (staF T)
 |[],s=>by simp
 |r::rs,s=>by
  rw [foldl_cons];obtain ⟨h1,h2⟩:=Ie T rs (LM T s r);rw [h1,h2];unfold LM;by_cases hc:r.frm≤T.r.ready∧T.r.ready<r.to
  ·have e:staF T r=some ⟨T.r.src,r.frm,r.to,T.r.ready⟩:=if_pos hc;rw [if_pos hc,List.filterMap_cons_some e];simp [LSt.push]
  ·have e:staF T r=none:=if_neg hc;rw [if_neg hc,List.filterMap_cons_none e];exact ⟨rfl,rfl⟩
theorem Uv (T:Tb):∀(rs:List Span) (s:LSt),s.jk=[]→(rs.foldl (LM T) s).jk=[]
 |[],s,h=>h
 |r::rs,s,h=>by
  rw [foldl_cons];refine Uv T rs _ ?_;unfold LM;split
  ·rfl
  ·exact h
theorem st79 (T:Tb) (hT:TOk T) (hg:GOk T.g) (rs:List Span) (hrs:rs=T.g.Ap.getD T.r.src.toNat []) (hl:rs.length≤100) :
  Ev fun n=>AI (fun p again=>Fu n (spE rs) T.r.src T.r.ready T.r.dst p again) n ([.t (tI (0:Nat))],lH T ⟨[],0,[],[]⟩ [])=some (Fk (CZ T.g (soI (labels T.g)))):=by
 have hs0:Dy T.g=(rs.foldl (LM T) ⟨[],0,[],[]⟩).opn:=by rw [(Ie T rs _).2,hrs];exact (nil_append _).symm
 refine Ae (fun o:Option (List Hop)=>Fk o) rs (fun i s=>(([.t (tI i)],lH T s []):List AV×Heap)) (fun _ s rm =>.next (LM T s rm)) (fun _=>CZ T.g (soI (labels T.g)))
  (fun i s=>i≤rs.length∧s=(rs.take i).foldl (LM T) ⟨[],0,[],[]⟩∧s.opn.length≤i) ⟨[],0,[],[]⟩ rfl ⟨zero_le _,rfl,le_refl _⟩ ?_
  (fun i s rm ha hI=>Ev.of fun n again => ?_) (fun i s rm s' ha hI h => ?_) (fun s hI => ?_)
 ·rw [Bg]
 ·have hi:=AJ ha;have t1:take s.opn.length (s.opn.map Lab.enc++s.jk)=s.opn.map Lab.enc:=by rw [List.take_append_of_le_length (by simp)];exact take_of_length_le (by simp)
  have b1:s.opn.length+1≤1073741824:=by omega
  have b2:s.opn.length≤s.opn.length+s.jk.length:=Nat.le_add_right _ _;rw [Rd.Ac];unfold LM;by_cases c1:rm.frm≤T.r.ready
  ·by_cases c2:T.r.ready<rm.to
   ·rw [if_pos ⟨c1,c2⟩];simp only [Fu,PL,PM,lH,gH,spE,vv,reduceCtorEq,reduceAdd,reduceEqDiff,zh0,zh1,zh2,zh3,zh4,zh5,zh6,zo0,zo1,ha,Span.enc,c1,c2,(show (i:Int)<rs.length by omega),AQ (show i<4611686018427387904 by omega),t1,b1,b2,length_append,LSt.push,map_append,map_cons,map_nil,Lab.enc,append_nil]
   ·rw [if_neg fun h=>c2 h.2];simp only [Fu,PL,PM,lH,gH,spE,vv,reduceCtorEq,reduceAdd,reduceEqDiff,zh0,zh1,zh2,zh3,zh4,zh5,zh6,zo0,zo1,ha,Span.enc,c1,c2,(show (i:Int)<rs.length by omega),AQ (show i<4611686018427387904 by omega)]
  ·rw [if_neg fun h=>c1 h.1];simp only [Fu,PL,PM,lH,gH,spE,vv,reduceCtorEq,reduceAdd,reduceEqDiff,zh0,zh1,zh2,zh3,zh4,zh5,zh6,zo0,zo1,ha,Span.enc,c1,(show (i:Int)<rs.length by omega),AQ (show i<4611686018427387904 by omega)]
 ·have hi:=AJ ha;simp only [Rd.next.injEq] at h;subst h;obtain ⟨i1,i2,i3⟩:=hI;refine ⟨hi,?_,?_⟩
  ·obtain ⟨_,he⟩:=List.getElem?_eq_some_iff.1 ha;rw [List.take_succ_eq_append_getElem hi,List.foldl_append,← i2,he];rfl
  ·unfold LM;split
   ·simp only [LSt.push,length_append,length_cons,length_nil];omega
   ·omega
 ·obtain ⟨i1,i2,i3⟩:=hI;rw [take_of_length_le (le_refl _)] at i2;have hM:Uh T s:=by
   refine ⟨?_,?_,?_⟩
   ·rw [i2,(Ie T rs _).1,← hs0];exact Lu T.g
   ·rw [i2,Uv T rs _ rfl];intro e he;cases he
   ·omega
  refine (lm101 T hT hg s hM (by rw [i2,(Ie T rs _).1]) (by rw [i2];exact hs0.symm)).mono fun n h again => ?_;refine Eq.trans ?_ h;simp only [Fu,lH,gH,spE,vv,reduceCtorEq,reduceAdd,reduceEqDiff,zh0,zh1,zh2,zh3,zh4,zh5,zh6,zo0,zo1,lt_irrefl]
theorem st80 (T:Tb) (hI:In T) (ga:List (List Span)) (du:List Int) (hga:ga=T.g.gaps) (hdu:du=T.g.dur) :
  Ev fun n=>AI (fun p again=>JZ n (T.q.map encI) (T.cs.map AA.enc) (T.hs.map AN.enc) T.r.size T.r.src T.r.ready T.r.dst p again) n ([.t (tI (0:Nat))],gH T ga [] du [])=some (Fk (CZ T.g (soI (labels T.g)))):=by
 have hT:=Up hI;have hg:GOk T.g:=MC hI.tab hI.req;obtain ⟨p1,p2,p3⟩:=BY hI.tab;have hr:=Bx hI.req;have hrl:T.g.Ap.length=T.q.length:=Es T.hs T.r.size T.q 0;have hql:=hI.ql;subst hga;subst hdu;refine Ae (fun o:Option (List Hop)=>Fk o) T.q (fun i ro=>(([.t (tI i)],gH T T.g.gaps ro T.g.dur []):List AV×Heap)) (fun i ro Q =>.next (ro++[Ap Q T.r.size (levels T.hs (i:Nat))])) (fun _=>CZ T.g (soI (labels T.g)))
  (fun i ro=>i≤T.q.length∧ro=T.g.Ap.take i) [] rfl ⟨zero_le _,rfl⟩ (by
   have:∀(l:List Int) (i:Nat) (ro:List (List Span)),A6 (fun i ro Q=>(.next (ro++[Ap Q T.r.size (levels T.hs (i:Nat))]):Rd (List (List Span)) (Option (List Hop)))) (fun _=>CZ T.g (soI (labels T.g))) i l ro=CZ T.g (soI (labels T.g)):=fun l=>by
    induction l with
    |nil=>intro i ro;rfl
    |cons a l ih=>intro i ro;exact ih _ _
   exact this _ _ _)
  (fun i ro Q ha hJ => ?_) (fun i ro Q s' ha hJ h => ?_) (fun ro hJ => ?_)
 ·have hi:=AJ ha;obtain ⟨j1,j2⟩:=hJ;have hlen:ro.length=i:=by rw [j2,length_take];omega
  have b1:ro.length+1≤1073741824:=by omega
  have t1:take ro.length (ro.map spE)=ro.map spE:=take_of_length_le (by simp);refine (s85 T.q T.cs T.hs p3 i Q ha T.r.size hr.2.2.2.2.2.2.1 hr.2.2.2.2.2.2.2.1).mono fun n h again => ?_;simp only [JZ,gH,h,vv,reduceCtorEq,reduceAdd,reduceEqDiff,zh0,zh1,zh2,zh3,zh4,zh5,zh6,zo0,zo1,(show (i:Int)<T.q.length by omega),AQ (show i<4611686018427387904 by omega),t1,b1,le_refl,Rd.Ac,length_append,map_append,map_cons,map_nil,spE]
 ·have hi:=AJ ha;simp only [Rd.next.injEq] at h;subst h;obtain ⟨j1,j2⟩:=hJ;refine ⟨hi,?_⟩;have h1:T.g.Ap[i]? = some (Ap Q T.r.size (levels T.hs (i:Nat))):=by show (Ce T.hs T.r.size 0 T.q)[i]? = _;rw [Et,ha];simp
  obtain ⟨h2,h3⟩:=List.getElem?_eq_some_iff.1 h1;rw [List.take_succ_eq_append_getElem h2,← j2,h3]
 ·obtain ⟨j1,j2⟩:=hJ;have hro:ro=T.g.Ap:=by rw [j2];exact take_of_length_le (by omega)
  subst hro;have hs1:=hg.src;have hrq:T.g.rq=T.r:=rfl;rw [hrq] at hs1;have hlt:T.r.src.toNat<T.g.Ap.length:=by omega
  have hgt:T.g.Ap[T.r.src.toNat]? = some T.g.Ap[T.r.src.toNat]:=getElem?_eq_getElem hlt;have hm:=hT.room _ (mem_of_getElem? hgt);have hgd:T.g.Ap[T.r.src.toNat]=T.g.Ap.getD T.r.src.toNat []:=by simp [List.getD,hgt]
  generalize T.g.Ap[T.r.src.toNat]=rs at hgt hm hgd;refine (st79 T hT hg rs hgd hm.1).mono fun n h again => ?_;refine Eq.trans ?_ h;have t1:okL 2 (spE rs) 0=true:=rfl;simp only [JZ,lH,gH,vv,reduceCtorEq,reduceAdd,reduceEqDiff,zh0,zh1,zh2,zh3,zh4,zh5,zh6,zo0,zo1,lt_irrefl,hgt,t1,hs1.1,hs1.2.1,map_nil,length_nil,append_nil];rfl
theorem st81 (T:Tb) (hI:In T) :
  Ev fun n=>AI (fun p again=>JY n (T.cs.map AA.enc) (T.q.map encI) (T.bs.map AB.enc) T.r.size (T.hs.map AN.enc) T.r.src T.r.ready T.r.dst p again) n ([.t (tI (0:Nat))],gH T [] [] [] [])=some (Fk (CZ T.g (soI (labels T.g)))):=by
 obtain ⟨p1,p2,p3⟩:=BY hI.tab;have hr:=Bx hI.req;have hb:=Ch p2;have hgl:T.g.gaps.length=T.cs.length:=Ng T.bs T.cs 0;have hdl:T.g.dur.length=T.cs.length:=length_map ..;have hcl:=hI.cl;refine Ae (fun o:Option (List Hop)=>Fk o) T.cs (fun i (s:List (List Span)×List Int)=>(([.t (tI i)],gH T s.1 [] s.2 []):List AV×Heap)) (fun i s c =>.next (s.1++[BA c.stop (busy T.bs (i:Nat)) c.start],s.2++[DJ c T.r.size])) (fun _=>CZ T.g (soI (labels T.g)))
  (fun i s=>i≤T.cs.length∧s.1=T.g.gaps.take i∧s.2=T.g.dur.take i) ([],[]) rfl ⟨zero_le _,rfl,rfl⟩ (by
   have:∀(l:List AA) (i:Nat) (s:List (List Span)×List Int),A6 (fun i s c=>(.next (s.1++[BA c.stop (busy T.bs (i:Nat)) c.start],s.2++[DJ c T.r.size]):Rd (List (List Span)×List Int) (Option (List Hop)))) (fun _=>CZ T.g (soI (labels T.g))) i l s=CZ T.g (soI (labels T.g)):=fun l=>by
    induction l with
    |nil=>intro i s;rfl
    |cons a l ih=>intro i s;exact ih _ _
   exact this _ _ _)
  (fun i s c ha hJ => ?_) (fun i s c s' ha hJ h => ?_) (fun s hJ => ?_)
 ·have hi:=AJ ha;obtain ⟨j1,j2,j3⟩:=hJ;have hl1:s.1.length=i:=by rw [j2,length_take];omega
  have hl2:s.2.length=i:=by rw [j3,length_take];omega
  have b1:i+1≤1073741824:=by omega
  have t1:take i (s.1.map spE)=s.1.map spE:=take_of_length_le (by simp [hl1]);have t2:take i (s.2.map encI)=s.2.map encI:=take_of_length_le (by simp [hl2]);have hcc:=(Cg p1 c (mem_of_getElem? ha)).1;have hck:Cu T.q T.cs T.bs (i:Nat)=0:=by unfold Cu;rw [if_neg (by omega),if_neg (by omega)]
  have hdc:CV c T.r.size=0:=by unfold CV;rw [if_neg (by omega),if_pos ⟨hr.2.2.2.2.2.2.1,hr.2.2.2.2.2.2.2.1⟩]
  have hfr:JA T.q T.cs T.bs (i:Nat)=BA c.stop (busy T.bs (i:Nat)) c.start:=by unfold JA;rw [if_neg (by omega),toNat_natCast,ha];exact (Om _ _ (Fo hb.2.2 (by rw [toNat_natCast];exact ha) hcc)).symm
  have h83:=s83 T.q T.cs T.bs (i:Nat);rw [hfr,hck] at h83;have h84:=s84 c T.r.size;rw [hdc,if_pos rfl] at h84;refine (h83.and h84).mono fun n ⟨h,k⟩ again => ?_;simp only [AA.enc,cons_append,nil_append] at k;simp only [JY,gH,h,k,vv,reduceCtorEq,reduceAdd,reduceEqDiff,zh0,zh1,zh2,zh3,zh4,zh5,zh6,zo0,zo1,ha,AA.enc,hl1,hl2,(show (i:Int)<T.cs.length by omega),AQ (show i<4611686018427387904 by omega),t1,t2,b1,le_refl,Rd.Ac,length_append,map_append,map_cons,map_nil,spE,encI]
 ·have hi:=AJ ha;simp only [Rd.next.injEq] at h;subst h;obtain ⟨j1,j2,j3⟩:=hJ;have h1:T.g.gaps[i]? = some (BA c.stop (busy T.bs (i:Nat)) c.start):=by show (FJ T.bs 0 T.cs)[i]? = _;rw [IH,ha];simp
  have h2:T.g.dur[i]? = some (DJ c T.r.size):=by show (T.cs.map fun c=>DJ c T.r.size)[i]? = _;rw [getElem?_map,ha];rfl
  obtain ⟨g1,g2⟩:=List.getElem?_eq_some_iff.1 h1;obtain ⟨d1,d2⟩:=List.getElem?_eq_some_iff.1 h2;refine ⟨hi,?_,?_⟩
  ·rw [List.take_succ_eq_append_getElem g1,← j2,g2]
  ·rw [List.take_succ_eq_append_getElem d1,← j3,d2]
 ·obtain ⟨j1,j2,j3⟩:=hJ;have e1:s.1=T.g.gaps:=by rw [j2];exact take_of_length_le (by omega)
  have e2:s.2=T.g.dur:=by rw [j3];exact take_of_length_le (by omega)
  refine (st80 T hI s.1 s.2 e1 e2).mono fun n h again => ?_;refine Eq.trans ?_ h;simp only [JY,gH,vv,reduceCtorEq,reduceAdd,reduceEqDiff,zh0,zh1,zh2,zh3,zh4,zh5,zh6,zo0,zo1,lt_irrefl,map_nil,length_nil];rfl
theorem s133 (T:Tb) (hI:In T):Ad C 133 [.sl 1 (T.q.map encI),.sl 7 (T.cs.map AA.enc),.sl 4 (T.bs.map AB.enc),.sl 5 (T.hs.map AN.enc),tI T.r.src,tI T.r.dst,tI T.r.size,tI T.r.ready,tI T.r.dead,tI T.r.prio,.bool T.r.cust] (Fk (CZ T.g (soI (labels T.g)))):=by refine Ad.of (fun n=>e133 n _ _ _ _ _ _ _ _ _ _ _) ?_;refine ((s17 T.q T.cs T.bs T.hs).and ((s71 T.q T.cs T.r).and (st81 T hI))).mono fun n ⟨h1,h2,h3⟩=> ?_;refine Eq.trans ?_ h3;simp only [h1,h2,hI.tab,hI.req,Qz,gH,vv,reduceCtorEq,reduceAdd,reduceEqDiff,zh0,zh1,zh2,zh3,zh4,zh5,zh6,zo0,zo1,bne_self_eq_false,map_nil,length_nil];rfl
end Ab
set_option maxRecDepth 100000
namespace Ab
open Go Go.Proofs
theorem e21 (n:Nat) (a0:List (List Tree)) (a1:List (List Tree)) (a2:List (List Tree)):AK C (n+1) 21 [Tree.sl (1:Nat) a0,Tree.sl (7:Nat) a1,Tree.sl (4:Nat) a2]=
 Option.bind (AK C n (41:Nat) [Tree.sl (1:Nat) a0,Tree.sl (7:Nat) a1]) fun y3=>cnd (length y3=(1:Nat)) (cnd (okI y3 0) (cnd (((gI y3 0) != (0:Int))=true) (some [tI (0:Int),tI (1:Int)])
 (cnd ((((length a2:Nat):Int)==(0:Int))=true) (some [tI (0:Int),tI (20:Int)]) (AI (fun (p4:List AV×Heap) (again5:_→Option (List Tree))=>cnd (decide (vI p4 1<((length
 a2:Nat):Int))=true) (cnd ((4:Nat)=(4:Nat)∧(0:Int)≤vI p4 1) (Option.bind a2[toNat (vI p4 1)]? fun y6=>cnd (okI y6 0) (cnd (okI y6 1) (cnd (okI y6 2) (cnd (okI y6 3) (cnd (decide (gI y6 0
 < (0:Int))=true) (some [tI (0:Int),tI (2:Int)]) (cnd (decide (gI y6 0≥((length a1:Nat):Int))=true) (some [tI (0:Int),tI (2:Int)]) (cnd (decide (vI p4 0<(0:Int))=true) (again5 ([AV.t
 (tI (gI y6 0)),AV.t (tI (w64 ((vI p4 1)+(1:Int))))],[])) (cnd ((7:Nat)=(7:Nat)∧(0:Int)≤gI y6 0) (Option.bind a1[toNat (gI y6 0)]? fun y7=>cnd (okI y7 3) (cnd ((7:Nat)=(7:Nat)∧
 (0:Int)≤vI p4 0) (Option.bind a1[toNat (vI p4 0)]? fun y8=>cnd (okI y8 3) (cnd (decide (gI y7 3<gI y8 3)=true) (again5 ([AV.t (tI (gI y6 0)),AV.t (tI (w64 ((vI p4 1)+(1:Int))))],[]))
 (again5 ([AV.t (tI (vI p4 0)),AV.t (tI (w64 ((vI p4 1)+(1:Int))))],[]))) none) none) none) none)))) none) none) none) none) none) (some [tI (vI p4 0),tI (0:Int)])) n ([AV.t (tI (-1:Int)),AV.t
 (tI (0:Int))],[])))) none) none:=by kernel_rfl
theorem e22 (n:Nat) (a0:List (List Tree)) (a1:Int):AK C (n+1) 22 [Tree.sl (1:Nat) a0,tI a1]=
 Option.bind (AK C n (55:Nat) [Tree.sl (1:Nat) a0,tI a1]) fun y2=>cnd (length y2=(1:Nat)) (cnd (okI y2 0) (some [Tree.bool (decide (gI y2 0≥(0:Int)))]) none) none:=by kernel_rfl
theorem e180 (n:Nat) (a0:List (List Tree)) (a1:List (List Tree)) (a2:List (List Tree)) (a3:Int) (a4:Int):AK C (n+1) 180 [Tree.sl (1:Nat) a0,Tree.sl (7:Nat) a1,Tree.sl (4:Nat) a2,tI a3,tI a4]=
 Option.bind (AK C n (141:Nat) [Tree.sl (1:Nat) a0,Tree.sl (7:Nat) a1,Tree.sl (4:Nat) a2,tI a3]) fun y5=>cnd (length y5=(1:Nat)) (cnd (okI y5 0) (cnd (((gI y5 0) != (0:Int))=true)
 (some [Tree.sl (4:Nat) [],tI (gI y5 0)]) (Option.bind (AK C n (142:Nat) [Tree.sl (1:Nat) a0,Tree.sl (7:Nat) a1,Tree.sl (4:Nat) a2,tI a3,tI a4]) fun y6=>cnd (length y6=(1:Nat)) (cnd
 (okL 2 y6 0) (cnd (decide (w64 (((length a2:Nat):Int)+((length (gL y6 0):Nat):Int))>(512:Int))=true) (some [Tree.sl (4:Nat) [],tI (4:Int)]) (AI (fun (p7:List AV×Heap)
 (again8:_→Option (List Tree))=>cnd (decide (vI p7 1<((length (gL y6 0):Nat):Int))=true) (cnd ((2:Nat)=(2:Nat)∧(0:Int)≤vI p7 1) (Option.bind (gL y6 0)[toNat (vI p7 1)]? fun y9
 =>cnd (okI y9 0) (cnd (okI y9 1) (Option.bind (AK C n (40:Nat) [Tree.sl (4:Nat) (vL p7 0),tI a3,tI (gI y9 0),tI (gI y9 1),tI (0:Int)]) fun y10=>cnd (length y10=(1:Nat)) (cnd (okL 4
 y10 0) (again8 ([AV.t (Tree.sl (4:Nat) (gL y10 0)),AV.t (tI (w64 ((vI p7 1)+(1:Int))))],[])) none) none) none) none) none) (some [Tree.sl (4:Nat) (vL p7 0),tI (0:Int)])) n ([AV.t (Tree.sl (4:Nat)
 a2),AV.t (tI (0:Int))],[]))) none) none)) none) none:=by kernel_rfl
theorem e20 (n:Nat) (a0:List (List Tree)) (a1:List (List Tree)):AK C (n+1) 20 [Tree.sl (4:Nat) a0,Tree.sl (1:Nat) a1]=
 AI (fun (p2:List AV×Heap) (again3:_→Option (List Tree))=>cnd (decide (vI p2 0<((length a0:Nat):Int))=true) (cnd ((4:Nat)=(4:Nat)∧(0:Int)≤vI p2 0) (Option.bind
 a0[toNat (vI p2 0)]? fun y4=>cnd (okI y4 0) (cnd (okI y4 1) (cnd (okI y4 2) (cnd (okI y4 3) (Option.bind (AK C n (22:Nat) [Tree.sl (1:Nat) a1,tI (gI y4 0)]) fun y5=>cnd (length y5 =
 (1:Nat)) (cnd (okB y5 0) (cnd (gB y5 0=true) (some [Tree.bool (decide (vI p2 0≥(0:Int)))]) (again3 ([AV.t (tI (w64 ((vI p2 0)+(1:Int))))],[]))) none) none) none) none) none) none) none) (some
 [Tree.bool false])) n ([AV.t (tI (0:Int))],[]):=by kernel_rfl
theorem e55 (n:Nat) (a0:List (List Tree)) (a1:Int):AK C (n+1) 55 [Tree.sl (1:Nat) a0,tI a1]=
 AI (fun (p2:List AV×Heap) (again3:_→Option (List Tree))=>cnd (decide (vI p2 0<((length a0:Nat):Int))=true) (cnd ((1:Nat)=(1:Nat)∧(0:Int)≤vI p2 0) (Option.bind
 a0[toNat (vI p2 0)]? fun y4=>cnd (okI y4 0) (cnd ((a1==(gI y4 0))=true) (some [tI (vI p2 0)]) (again3 ([AV.t (tI (w64 ((vI p2 0)+(1:Int))))],[]))) none) none) (some [tI (-1:Int)])) n
 ([AV.t (tI (0:Int))],[]):=by kernel_rfl
end Ab
set_option maxRecDepth 100000
namespace Ab
open Go Go.Proofs
noncomputable def Wf (n:Nat) (again7:(List AV×Heap)→Option (List Tree)) (p6:List AV×Heap) (p9:List AV×Heap):Option (List Tree):=
 cnd (vB p9 0=true) (some [Tree.sl (1:Nat) [],Tree.sl (7:Nat) [],Tree.sl (4:Nat) [],Tree.sl (5:Nat) [],tI (2:Int)]) (again7 ([AV.t (tI (w64 ((vI p6 0)+(1:Int))))],[AE.box [AV.t (Tree.sl
 (1:Nat) (cL p9 0 0)),AV.t (Tree.sl (7:Nat) (cL p9 0 1)),AV.t (Tree.sl (4:Nat) (cL p9 0 2)),AV.t (Tree.sl (5:Nat) (cL p9 0 3))],AE.box [AV.t (Tree.sl (1:Nat) (cL p9 1 0)),AV.t (Tree.sl (7:Nat)
 (cL p9 1 1)),AV.t (Tree.sl (4:Nat) (cL p9 1 2)),AV.t (Tree.sl (5:Nat) (cL p9 1 3))]]))
noncomputable def PD (n:Nat) (a4:List (List Tree)) (p11:List AV×Heap) (again12:(List AV×Heap)→Option (List Tree)):Option (List Tree):=
 cnd (decide (vI p11 0<((length a4:Nat):Int))=true) (cnd ((1:Nat)=(1:Nat)∧(0:Int)≤vI p11 0) (Option.bind a4[toNat (vI p11 0)]? fun y13=>cnd (okI y13 0) (cnd ((7:Nat)=(7:Nat)∧
 (0:Int)≤gI y13 0) (Option.bind (cL p11 0 1)[toNat (gI y13 0)]? fun y14=>cnd (okI y14 2) (Option.bind (AK C n (180:Nat) [Tree.sl (1:Nat) (cL p11 0 0),Tree.sl (7:Nat) (cL p11 0 1),Tree.sl
 (4:Nat) (cL p11 0 2),tI (gI y13 0),tI (gI y14 2)]) fun y15=>cnd (length y15=(2:Nat)) (cnd (okL 4 y15 0) (cnd (okI y15 1) (cnd (((gI y15 1) != (0:Int))=true) (some [Tree.sl (1:Nat) [],
 Tree.sl (7:Nat) [],Tree.sl (4:Nat) [],Tree.sl (5:Nat) [],tI (gI y15 1)]) (again12 ([AV.t (tI (w64 ((vI p11 0)+(1:Int))))],[AE.box [AV.t (Tree.sl (1:Nat) (cL p11 0 0)),AV.t (Tree.sl (7:Nat)
 (cL p11 0 1)),AV.t (Tree.sl (4:Nat) (gL y15 0)),AV.t (Tree.sl (5:Nat) (cL p11 0 3))],AE.box [AV.t (Tree.sl (1:Nat) (cL p11 1 0)),AV.t (Tree.sl (7:Nat) (cL p11 1 1)),AV.t (Tree.sl (4:Nat) (cL
 p11 1 2)),AV.t (Tree.sl (5:Nat) (cL p11 1 3))]]))) none) none) none) none) none) none) none) (some [Tree.sl (1:Nat) (cL p11 0 0),Tree.sl (7:Nat) (cL p11 0 1),Tree.sl (4:Nat) (cL p11 0 2),Tree.sl
 (5:Nat) (cL p11 0 3),tI (0:Int)])
noncomputable def SN (n:Nat) (a4:List (List Tree)) (p6:List AV×Heap) (again7:(List AV×Heap)→Option (List Tree)):Option (List Tree):=
 cnd (decide (vI p6 0<((length a4:Nat):Int))=true) (cnd ((1:Nat)=(1:Nat)∧(0:Int)≤vI p6 0) (Option.bind a4[toNat (vI p6 0)]? fun y8=>cnd (okI y8 0) (join (fun (p9:List AV×Heap)
 =>Wf n again7 p6 p9) fun (again10:_→Option (List Tree))=>cnd (decide (gI y8 0<(0:Int))=true) (again10 ([AV.t (Tree.bool true)],[AE.box [AV.t (Tree.sl (1:Nat) (cL p6 0 0)),AV.t
 (Tree.sl (7:Nat) (cL p6 0 1)),AV.t (Tree.sl (4:Nat) (cL p6 0 2)),AV.t (Tree.sl (5:Nat) (cL p6 0 3))],AE.box [AV.t (Tree.sl (1:Nat) (cL p6 1 0)),AV.t (Tree.sl (7:Nat) (cL p6 1 1)),AV.t (Tree.sl
 (4:Nat) (cL p6 1 2)),AV.t (Tree.sl (5:Nat) (cL p6 1 3))]])) (again10 ([AV.t (Tree.bool (decide (gI y8 0≥((length (cL p6 0 1):Nat):Int))))],[AE.box [AV.t (Tree.sl (1:Nat) (cL p6 0 0)),AV.t
 (Tree.sl (7:Nat) (cL p6 0 1)),AV.t (Tree.sl (4:Nat) (cL p6 0 2)),AV.t (Tree.sl (5:Nat) (cL p6 0 3))],AE.box [AV.t (Tree.sl (1:Nat) (cL p6 1 0)),AV.t (Tree.sl (7:Nat) (cL p6 1 1)),AV.t (Tree.sl
 (4:Nat) (cL p6 1 2)),AV.t (Tree.sl (5:Nat) (cL p6 1 3))]]))) none) none) (AI (fun (p11:List AV×Heap) (again12:_→Option (List Tree))=>PD n a4 p11 again12) n ([AV.t (tI (0:Int))],
 [AE.box [AV.t (Tree.sl (1:Nat) (cL p6 0 0)),AV.t (Tree.sl (7:Nat) (cL p6 0 1)),AV.t (Tree.sl (4:Nat) (cL p6 0 2)),AV.t (Tree.sl (5:Nat) (cL p6 0 3))],AE.box [AV.t (Tree.sl (1:Nat) (cL p6 1
 0)),AV.t (Tree.sl (7:Nat) (cL p6 1 1)),AV.t (Tree.sl (4:Nat) (cL p6 1 2)),AV.t (Tree.sl (5:Nat) (cL p6 1 3))]]))
theorem e134 (n:Nat) (a0:List (List Tree)) (a1:List (List Tree)) (a2:List (List Tree)) (a3:List (List Tree)) (a4:List (List Tree)):AK C (n+1) 134 [Tree.sl (1:Nat) a0,Tree.sl (7:Nat) a1,Tree.sl (4:Nat) a2,Tree.sl (5:Nat) a3,Tree.sl (1:Nat) a4]=
 Option.bind (AK C n (17:Nat) [Tree.sl (1:Nat) a0,Tree.sl (7:Nat) a1,Tree.sl (4:Nat) a2,Tree.sl (5:Nat) a3]) fun y5=>cnd (length y5=(1:Nat)) (cnd (okI y5 0) (cnd (((gI y5 0) != (0:Int))
 = true) (some [Tree.sl (1:Nat) [],Tree.sl (7:Nat) [],Tree.sl (4:Nat) [],Tree.sl (5:Nat) [],tI (1:Int)]) (AI (fun (p6:List AV×Heap) (again7:_→Option (List Tree))=>SN n a4 p6
 again7) n ([AV.t (tI (0:Int))],[AE.box [AV.t (Tree.sl (1:Nat) a0),AV.t (Tree.sl (7:Nat) a1),AV.t (Tree.sl (4:Nat) a2),AV.t (Tree.sl (5:Nat) a3)],AE.box [AV.t (Tree.sl (1:Nat) []),AV.t
 (Tree.sl (7:Nat) []),AV.t (Tree.sl (4:Nat) []),AV.t (Tree.sl (5:Nat) [])]]))) none) none:=by kernel_rfl
noncomputable def J19_1 (n:Nat) (a0:List (List Tree)) (a1:List (List Tree)) (a2:List (List Tree)) (a3:List (List Tree)) (again19:(List AV×Heap)→Option (List Tree)) (y26:List Tree) (a11:Int) (p27:List AV×Heap):Option (List Tree):=
 cnd (vB p27 0=true) (Dn (AE.box [AV.func (Fn.func 52) [] [AV.eptr (4:Nat) [Tree.sl (1:Nat) a0,Tree.sl (7:Nat) a1,Tree.sl (4:Nat) a2,Tree.sl (5:Nat) a3] (0:Nat)]]) (AE.box [AV.func (Fn.func
 52) [] [AV.eptr (4:Nat) [Tree.sl (1:Nat) a0,Tree.sl (7:Nat) a1,Tree.sl (4:Nat) a2,Tree.sl (5:Nat) a3] (0:Nat)]]) (again19 ([],[AE.row false (AO p27 0) (1:Nat) (oEs p27 0),AE.box [AV.sref
 (0:Nat) (AL p27 1 0) (AP p27 1 0) (AM p27 1 0)],AE.box [AV.t (tI (cI p27 2 0))],AE.row false (AO p27 3) (1:Nat) (oEs p27 3),AE.box [AV.sref (3:Nat) (AL p27 4 0) (AP p27 4 0) (AM
 p27 4 0)],AE.box [AV.t (Tree.sl (1:Nat) (cL p27 5 0)),AV.t (Tree.sl (7:Nat) (cL p27 5 1)),AV.t (Tree.sl (4:Nat) (cL p27 5 2)),AV.t (Tree.sl (5:Nat) (cL p27 5 3))],AE.box []]))) (cnd (((gI y26
 4) != (0:Int))=true) (cnd (AO p27 0=AL p27 1 0) (cnd ((false=true∨false=false)∧AO p27 0=AL p27 1 0∧((1:Nat)=(1:Nat)∨(1:Nat)=(0:Nat))) (some [Tree.sl (1:Nat) (take
 (0:Nat) (drop (length (oEs p27 0)) (oEs p27 0))),tI (gI y26 4)]) none) none) (cnd (AO p27 3=AL p27 4 0∧((1:Nat)=(1:Nat)∨(1:Nat)=(0:Nat))∧(AP p27 4 0)+(AM p27 4 0)≤
 length (oEs p27 3)∧(AM p27 4 0)+(1:Nat)≤(1073741824:Nat)) (cnd ((AL p27 4 0)+(1:Nat)=(AL p27 4 0)+(1:Nat)) (cnd (((((AM p27 4 0)+(1:Nat):Nat):Int)==a11)=true) (Dn
 (AE.box [AV.func (Fn.func 52) [] [AV.eptr (4:Nat) [Tree.sl (1:Nat) a0,Tree.sl (7:Nat) a1,Tree.sl (4:Nat) a2,Tree.sl (5:Nat) a3] (0:Nat)]]) (AE.box [AV.func (Fn.func 52) [] [AV.eptr (4:Nat)
 [Tree.sl (1:Nat) a0,Tree.sl (7:Nat) a1,Tree.sl (4:Nat) a2,Tree.sl (5:Nat) a3] (0:Nat)]]) (again19 ([],[AE.row false (AO p27 0) (1:Nat) (oEs p27 0),AE.box [AV.sref (0:Nat) (AL p27 1 0)
 (AP p27 1 0) (AM p27 1 0)],AE.box [AV.t (tI (cI p27 2 0))],AE.row false ((AL p27 4 0)+(1:Nat)) (1:Nat) ((take (AM p27 4 0) (drop (AP p27 4 0) (oEs p27 3)))++[[Tree.sl
 (4:Nat) []]]),AE.box [AV.sref (3:Nat) ((AL p27 4 0)+(1:Nat)) (0:Nat) ((AM p27 4 0)+(1:Nat))],AE.box [AV.t (Tree.sl (1:Nat) (cL p27 5 0)),AV.t (Tree.sl (7:Nat) (cL p27 5 1)),AV.t
 (Tree.sl (4:Nat) (cL p27 5 2)),AV.t (Tree.sl (5:Nat) (cL p27 5 3))],AE.box []]))) (Dn (AE.box [AV.func (Fn.func 52) [] [AV.eptr (4:Nat) [Tree.sl (1:Nat) a0,Tree.sl (7:Nat) a1,Tree.sl (4:Nat)
 a2,Tree.sl (5:Nat) a3] (0:Nat)]]) (AE.box [AV.func (Fn.func 52) [] [AV.eptr (4:Nat) [Tree.sl (1:Nat) a0,Tree.sl (7:Nat) a1,Tree.sl (4:Nat) a2,Tree.sl (5:Nat) a3] (0:Nat)]]) (again19 ([],
 [AE.row false (AO p27 0) (1:Nat) (oEs p27 0),AE.box [AV.sref (0:Nat) (AL p27 1 0) (AP p27 1 0) (AM p27 1 0)],AE.box [AV.t (tI (cI p27 2 0))],AE.row false ((AL p27 4 0)+(1:Nat))
 (1:Nat) ((take (AM p27 4 0) (drop (AP p27 4 0) (oEs p27 3)))++[[Tree.sl (4:Nat) []]]),AE.box [AV.sref (3:Nat) ((AL p27 4 0)+(1:Nat)) (0:Nat) ((AM p27 4 0)+(1:Nat))],
 AE.box [AV.t (Tree.sl (1:Nat) (cL p27 5 0)),AV.t (Tree.sl (7:Nat) (cL p27 5 1)),AV.t (Tree.sl (4:Nat) (cL p27 5 2)),AV.t (Tree.sl (5:Nat) (cL p27 5 3))],AE.box []])))) none) none))
noncomputable def J19_2 (n:Nat) (a0:List (List Tree)) (a1:List (List Tree)) (a2:List (List Tree)) (a3:List (List Tree)) (again19:(List AV×Heap)→Option (List Tree)) (y30:List Tree) (a11:Int) (p31:List AV×Heap):Option (List Tree):=
 cnd (vB p31 0=true) (Dn (AE.box [AV.func (Fn.func 52) [] [AV.eptr (4:Nat) [Tree.sl (1:Nat) a0,Tree.sl (7:Nat) a1,Tree.sl (4:Nat) a2,Tree.sl (5:Nat) a3] (0:Nat)]]) (AE.box [AV.func (Fn.func
 52) [] [AV.eptr (4:Nat) [Tree.sl (1:Nat) a0,Tree.sl (7:Nat) a1,Tree.sl (4:Nat) a2,Tree.sl (5:Nat) a3] (0:Nat)]]) (again19 ([],[AE.row false (AO p31 0) (1:Nat) (oEs p31 0),AE.box [AV.sref
 (0:Nat) (AL p31 1 0) (AP p31 1 0) (AM p31 1 0)],AE.box [AV.t (tI (cI p31 2 0))],AE.row false (AO p31 3) (1:Nat) (oEs p31 3),AE.box [AV.sref (3:Nat) (AL p31 4 0) (AP p31 4 0) (AM
 p31 4 0)],AE.box [AV.t (Tree.sl (1:Nat) (cL p31 5 0)),AV.t (Tree.sl (7:Nat) (cL p31 5 1)),AV.t (Tree.sl (4:Nat) (cL p31 5 2)),AV.t (Tree.sl (5:Nat) (cL p31 5 3))],AE.box []]))) (cnd (((gI y30
 4) != (0:Int))=true) (cnd (AO p31 0=AL p31 1 0) (cnd ((false=true∨false=false)∧AO p31 0=AL p31 1 0∧((1:Nat)=(1:Nat)∨(1:Nat)=(0:Nat))) (some [Tree.sl (1:Nat) (take
 (0:Nat) (drop (length (oEs p31 0)) (oEs p31 0))),tI (gI y30 4)]) none) none) (cnd (AO p31 3=AL p31 4 0∧((1:Nat)=(1:Nat)∨(1:Nat)=(0:Nat))∧(AP p31 4 0)+(AM p31 4 0)≤
 length (oEs p31 3)∧(AM p31 4 0)+(1:Nat)≤(1073741824:Nat)) (cnd ((AL p31 4 0)+(1:Nat)=(AL p31 4 0)+(1:Nat)) (cnd (((((AM p31 4 0)+(1:Nat):Nat):Int)==a11)=true) (Dn
 (AE.box [AV.func (Fn.func 52) [] [AV.eptr (4:Nat) [Tree.sl (1:Nat) a0,Tree.sl (7:Nat) a1,Tree.sl (4:Nat) a2,Tree.sl (5:Nat) a3] (0:Nat)]]) (AE.box [AV.func (Fn.func 52) [] [AV.eptr (4:Nat)
 [Tree.sl (1:Nat) a0,Tree.sl (7:Nat) a1,Tree.sl (4:Nat) a2,Tree.sl (5:Nat) a3] (0:Nat)]]) (again19 ([],[AE.row false (AO p31 0) (1:Nat) (oEs p31 0),AE.box [AV.sref (0:Nat) (AL p31 1 0)
 (AP p31 1 0) (AM p31 1 0)],AE.box [AV.t (tI (cI p31 2 0))],AE.row false ((AL p31 4 0)+(1:Nat)) (1:Nat) ((take (AM p31 4 0) (drop (AP p31 4 0) (oEs p31 3)))++[[Tree.sl
 (4:Nat) []]]),AE.box [AV.sref (3:Nat) ((AL p31 4 0)+(1:Nat)) (0:Nat) ((AM p31 4 0)+(1:Nat))],AE.box [AV.t (Tree.sl (1:Nat) (cL p31 5 0)),AV.t (Tree.sl (7:Nat) (cL p31 5 1)),AV.t
 (Tree.sl (4:Nat) (cL p31 5 2)),AV.t (Tree.sl (5:Nat) (cL p31 5 3))],AE.box []]))) (Dn (AE.box [AV.func (Fn.func 52) [] [AV.eptr (4:Nat) [Tree.sl (1:Nat) a0,Tree.sl (7:Nat) a1,Tree.sl (4:Nat)
 a2,Tree.sl (5:Nat) a3] (0:Nat)]]) (AE.box [AV.func (Fn.func 52) [] [AV.eptr (4:Nat) [Tree.sl (1:Nat) a0,Tree.sl (7:Nat) a1,Tree.sl (4:Nat) a2,Tree.sl (5:Nat) a3] (0:Nat)]]) (again19 ([],
 [AE.row false (AO p31 0) (1:Nat) (oEs p31 0),AE.box [AV.sref (0:Nat) (AL p31 1 0) (AP p31 1 0) (AM p31 1 0)],AE.box [AV.t (tI (cI p31 2 0))],AE.row false ((AL p31 4 0)+(1:Nat))
 (1:Nat) ((take (AM p31 4 0) (drop (AP p31 4 0) (oEs p31 3)))++[[Tree.sl (4:Nat) []]]),AE.box [AV.sref (3:Nat) ((AL p31 4 0)+(1:Nat)) (0:Nat) ((AM p31 4 0)+(1:Nat))],
 AE.box [AV.t (Tree.sl (1:Nat) (cL p31 5 0)),AV.t (Tree.sl (7:Nat) (cL p31 5 1)),AV.t (Tree.sl (4:Nat) (cL p31 5 2)),AV.t (Tree.sl (5:Nat) (cL p31 5 3))],AE.box []])))) none) none))
noncomputable def Qy (n:Nat) (a0:List (List Tree)) (a1:List (List Tree)) (a2:List (List Tree)) (a3:List (List Tree)) (again19:(List AV×Heap)→Option (List Tree)) (y22:List Tree) (a11:Int) (again21:(List AV×Heap)→Option (List Tree)) (p23:List AV×Heap):Option (List Tree):=
 cnd (vB p23 0=true) (Dn (AE.box [AV.func (Fn.func 52) [] [AV.eptr (4:Nat) [Tree.sl (1:Nat) a0,Tree.sl (7:Nat) a1,Tree.sl (4:Nat) a2,Tree.sl (5:Nat) a3] (0:Nat)]]) (AE.box [AV.func (Fn.func
 52) [] [AV.eptr (4:Nat) [Tree.sl (1:Nat) a0,Tree.sl (7:Nat) a1,Tree.sl (4:Nat) a2,Tree.sl (5:Nat) a3] (0:Nat)]]) (again19 ([],[AE.row false (AO p23 0) (1:Nat) (oEs p23 0),AE.box [AV.sref
 (0:Nat) (AL p23 1 0) (AP p23 1 0) (AM p23 1 0)],AE.box [AV.t (tI (cI p23 2 0))],AE.row false (AO p23 3) (1:Nat) (oEs p23 3),AE.box [AV.sref (3:Nat) (AL p23 4 0) (AP p23 4 0) (AM
 p23 4 0)],AE.box [AV.t (Tree.sl (1:Nat) (cL p23 5 0)),AV.t (Tree.sl (7:Nat) (cL p23 5 1)),AV.t (Tree.sl (4:Nat) (cL p23 5 2)),AV.t (Tree.sl (5:Nat) (cL p23 5 3))],AE.box []]))) (cnd (((gI y22
 1) != (0:Int))=true) (cnd (AO p23 0=AL p23 1 0) (cnd ((false=true∨false=false)∧AO p23 0=AL p23 1 0∧((1:Nat)=(1:Nat)∨(1:Nat)=(0:Nat))) (some [Tree.sl (1:Nat) (take
 (0:Nat) (drop (length (oEs p23 0)) (oEs p23 0))),tI (gI y22 1)]) none) none) (cnd (AO p23 3=AL p23 4 0∧((1:Nat)=(1:Nat)∨(1:Nat)=(0:Nat))∧(AP p23 4 0)+(AM p23 4 0)≤
 length (oEs p23 3)∧(AM p23 4 0)+(1:Nat)≤(1073741824:Nat)) (cnd ((AL p23 4 0)+(1:Nat)=(AL p23 4 0)+(1:Nat)) (cnd (((((AM p23 4 0)+(1:Nat):Nat):Int)==a11)=true) (Dn
 (AE.box [AV.func (Fn.func 52) [] [AV.eptr (4:Nat) [Tree.sl (1:Nat) a0,Tree.sl (7:Nat) a1,Tree.sl (4:Nat) a2,Tree.sl (5:Nat) a3] (0:Nat)]]) (AE.box [AV.func (Fn.func 52) [] [AV.eptr (4:Nat)
 [Tree.sl (1:Nat) a0,Tree.sl (7:Nat) a1,Tree.sl (4:Nat) a2,Tree.sl (5:Nat) a3] (0:Nat)]]) (again19 ([],[AE.row false (AO p23 0) (1:Nat) (oEs p23 0),AE.box [AV.sref (0:Nat) (AL p23 1 0)
 (AP p23 1 0) (AM p23 1 0)],AE.box [AV.t (tI (cI p23 2 0))],AE.row false ((AL p23 4 0)+(1:Nat)) (1:Nat) ((take (AM p23 4 0) (drop (AP p23 4 0) (oEs p23 3)))++[[Tree.sl
 (4:Nat) (gL y22 0)]]),AE.box [AV.sref (3:Nat) ((AL p23 4 0)+(1:Nat)) (0:Nat) ((AM p23 4 0)+(1:Nat))],AE.box [AV.t (Tree.sl (1:Nat) (cL p23 5 0)),AV.t (Tree.sl (7:Nat) (cL p23 5 1)),
 AV.t (Tree.sl (4:Nat) (cL p23 5 2)),AV.t (Tree.sl (5:Nat) (cL p23 5 3))],AE.box []]))) (cnd (((gI y22 1) != (0:Int))=true) (Dn (AE.box [AV.func (Fn.func 52) [] [AV.eptr (4:Nat) [Tree.sl
 (1:Nat) a0,Tree.sl (7:Nat) a1,Tree.sl (4:Nat) a2,Tree.sl (5:Nat) a3] (0:Nat)]]) (AE.box [AV.func (Fn.func 52) [] [AV.eptr (4:Nat) [Tree.sl (1:Nat) a0,Tree.sl (7:Nat) a1,Tree.sl (4:Nat) a2,
 Tree.sl (5:Nat) a3] (0:Nat)]]) (again19 ([],[AE.row false (AO p23 0) (1:Nat) (oEs p23 0),AE.box [AV.sref (0:Nat) (AL p23 1 0) (AP p23 1 0) (AM p23 1 0)],AE.box [AV.t (tI (cI p23 2
 0))],AE.row false ((AL p23 4 0)+(1:Nat)) (1:Nat) ((take (AM p23 4 0) (drop (AP p23 4 0) (oEs p23 3)))++[[Tree.sl (4:Nat) (gL y22 0)]]),AE.box [AV.sref (3:Nat) ((AL p23 4 0)
 + (1:Nat)) (0:Nat) ((AM p23 4 0)+(1:Nat))],AE.box [AV.t (Tree.sl (1:Nat) (cL p23 5 0)),AV.t (Tree.sl (7:Nat) (cL p23 5 1)),AV.t (Tree.sl (4:Nat) (cL p23 5 2)),AV.t (Tree.sl (5:Nat) (cL p23 5
 3))],AE.box []]))) (both (Option.bind (AK C n (21:Nat) [Tree.sl (1:Nat) a0,Tree.sl (7:Nat) a1,Tree.sl (4:Nat) (gL y22 0)]) fun y25=>cnd (length y25=(2:Nat)) (cnd (okI y25 0) (cnd (okI
 y25 1) (Dn (AE.box [AV.yld (4:Nat),AV.t (Tree.sl (1:Nat) (cL p23 5 0)),AV.t (Tree.sl (7:Nat) (cL p23 5 1)),AV.t (Tree.sl (4:Nat) (cL p23 5 2)),AV.t (Tree.sl (5:Nat) (cL p23 5 3))]) (AE.box
 [AV.yld (4:Nat),AV.t (Tree.sl (1:Nat) (cL p23 5 0)),AV.t (Tree.sl (7:Nat) (cL p23 5 1)),AV.t (Tree.sl (4:Nat) (cL p23 5 2)),AV.t (Tree.sl (5:Nat) (cL p23 5 3))]) (Dn (AE.box [AV.yld (1:Nat),
 AV.func (Fn.func 52) [] [AV.eptr (4:Nat) [Tree.sl (1:Nat) a0,Tree.sl (7:Nat) a1,Tree.sl (4:Nat) a2,Tree.sl (5:Nat) a3] (0:Nat)]]) (AE.box [AV.yld (1:Nat),AV.func (Fn.func 52) [] [AV.eptr (4:Nat)
 [Tree.sl (1:Nat) a0,Tree.sl (7:Nat) a1,Tree.sl (4:Nat) a2,Tree.sl (5:Nat) a3] (0:Nat)]]) (Option.bind (AK C n (134:Nat) [Tree.sl (1:Nat) (cL p23 5 0),Tree.sl (7:Nat) (cL p23 5 1),Tree.sl
 (4:Nat) (cL p23 5 2),Tree.sl (5:Nat) (cL p23 5 3),Tree.sl (1:Nat) [[tI (gI y25 0)]]]) fun y26=>cnd (length y26=(5:Nat)) (cnd (okL 1 y26 0) (cnd (okL 7 y26 1) (cnd (okL 4 y26 2) (cnd (okL 5
 y26 3) (cnd (okI y26 4) (cnd (((gI y26 4) != (0:Int))=true) (join (fun (p27:List AV×Heap)=>J19_1 n a0 a1 a2 a3 again19 y26 a11 p27) fun (again28:_→Option (List Tree))=>cnd (((gI y26 4)
 == (18:Int))=true) (cnd ((AL p23 4 0)+(1:Nat)=(AL p23 4 0)+(1:Nat)) (Dn (AE.box [AV.func (Fn.func 52) [] [AV.eptr (4:Nat) [Tree.sl (1:Nat) a0,Tree.sl (7:Nat) a1,Tree.sl (4:Nat) a2,
 Tree.sl (5:Nat) a3] (0:Nat)]]) (AE.box [AV.func (Fn.func 52) [] [AV.eptr (4:Nat) [Tree.sl (1:Nat) a0,Tree.sl (7:Nat) a1,Tree.sl (4:Nat) a2,Tree.sl (5:Nat) a3] (0:Nat)]]) (again28 ([AV.t
 (Tree.bool (decide ((((AM p23 4 0)+(1:Nat):Nat):Int)>(0:Int))))],[AE.row false (AO p23 0) (1:Nat) (oEs p23 0),AE.box [AV.sref (0:Nat) (AL p23 1 0) (AP p23 1 0) (AM p23 1 0)],
 AE.box [AV.t (tI (cI p23 2 0))],AE.row false ((AL p23 4 0)+(1:Nat)) (1:Nat) ((take (AM p23 4 0) (drop (AP p23 4 0) (oEs p23 3)))++[[Tree.sl (4:Nat) (gL y22 0)]]),AE.box
 [AV.sref (3:Nat) ((AL p23 4 0)+(1:Nat)) (0:Nat) ((AM p23 4 0)+(1:Nat))],AE.box [AV.t (Tree.sl (1:Nat) (cL p23 5 0)),AV.t (Tree.sl (7:Nat) (cL p23 5 1)),AV.t (Tree.sl (4:Nat) (cL p23 5
 2)),AV.t (Tree.sl (5:Nat) (cL p23 5 3))],AE.box [],AE.box [],AE.box [AV.t (Tree.sl (1:Nat) (gL y26 0)),AV.t (Tree.sl (7:Nat) (gL y26 1)),AV.t (Tree.sl (4:Nat) (gL y26 2)),AV.t (Tree.sl
 (5:Nat) (gL y26 3))]]))) none) (Dn (AE.box [AV.func (Fn.func 52) [] [AV.eptr (4:Nat) [Tree.sl (1:Nat) a0,Tree.sl (7:Nat) a1,Tree.sl (4:Nat) a2,Tree.sl (5:Nat) a3] (0:Nat)]]) (AE.box [AV.func
 (Fn.func 52) [] [AV.eptr (4:Nat) [Tree.sl (1:Nat) a0,Tree.sl (7:Nat) a1,Tree.sl (4:Nat) a2,Tree.sl (5:Nat) a3] (0:Nat)]]) (again28 ([AV.t (Tree.bool false)],[AE.row false (AO p23 0) (1:Nat)
 (oEs p23 0),AE.box [AV.sref (0:Nat) (AL p23 1 0) (AP p23 1 0) (AM p23 1 0)],AE.box [AV.t (tI (cI p23 2 0))],AE.row false ((AL p23 4 0)+(1:Nat)) (1:Nat) ((take (AM p23 4 0)
 (drop (AP p23 4 0) (oEs p23 3)))++[[Tree.sl (4:Nat) (gL y22 0)]]),AE.box [AV.sref (3:Nat) ((AL p23 4 0)+(1:Nat)) (0:Nat) ((AM p23 4 0)+(1:Nat))],AE.box [AV.t (Tree.sl (1:Nat)
 (cL p23 5 0)),AV.t (Tree.sl (7:Nat) (cL p23 5 1)),AV.t (Tree.sl (4:Nat) (cL p23 5 2)),AV.t (Tree.sl (5:Nat) (cL p23 5 3))],AE.box [],AE.box [],AE.box [AV.t (Tree.sl (1:Nat) (gL y26 0)),
 AV.t (Tree.sl (7:Nat) (gL y26 1)),AV.t (Tree.sl (4:Nat) (gL y26 2)),AV.t (Tree.sl (5:Nat) (gL y26 3))]])))) (Dn (AE.box [AV.func (Fn.func 52) [] [AV.eptr (4:Nat) [Tree.sl (1:Nat) a0,Tree.sl
 (7:Nat) a1,Tree.sl (4:Nat) a2,Tree.sl (5:Nat) a3] (0:Nat)]]) (AE.box [AV.func (Fn.func 52) [] [AV.eptr (4:Nat) [Tree.sl (1:Nat) a0,Tree.sl (7:Nat) a1,Tree.sl (4:Nat) a2,Tree.sl (5:Nat) a3]
 (0:Nat)]]) (again21 ([],[AE.row false (AO p23 0) (1:Nat) (oEs p23 0),AE.box [AV.sref (0:Nat) (AL p23 1 0) (AP p23 1 0) (AM p23 1 0)],AE.box [AV.t (tI (cI p23 2 0))],AE.row false
 ((AL p23 4 0)+(1:Nat)) (1:Nat) ((take (AM p23 4 0) (drop (AP p23 4 0) (oEs p23 3)))++[[Tree.sl (4:Nat) (gL y22 0)]]),AE.box [AV.sref (3:Nat) ((AL p23 4 0)+(1:Nat)) (0:Nat)
 ((AM p23 4 0)+(1:Nat))],AE.box [AV.t (Tree.sl (1:Nat) (gL y26 0)),AV.t (Tree.sl (7:Nat) (gL y26 1)),AV.t (Tree.sl (4:Nat) (gL y26 2)),AV.t (Tree.sl (5:Nat) (gL y26 3))],AE.box [],
 AE.box []])))) none) none) none) none) none) none))) none) none) none) (Option.bind (AK C n (21:Nat) [Tree.sl (1:Nat) a0,Tree.sl (7:Nat) a1,Tree.sl (4:Nat) (gL y22 0)]) fun y29=>cnd
 (length y29=(2:Nat)) (cnd (okI y29 0) (cnd (okI y29 1) (Dn (AE.box [AV.yld (4:Nat),AV.t (Tree.sl (1:Nat) (cL p23 5 0)),AV.t (Tree.sl (7:Nat) (cL p23 5 1)),AV.t (Tree.sl (4:Nat) (cL p23 5
 2)),AV.t (Tree.sl (5:Nat) (cL p23 5 3))]) (AE.box [AV.yld (4:Nat),AV.t (Tree.sl (1:Nat) (cL p23 5 0)),AV.t (Tree.sl (7:Nat) (cL p23 5 1)),AV.t (Tree.sl (4:Nat) (cL p23 5 2)),AV.t (Tree.sl
 (5:Nat) (cL p23 5 3))]) (Dn (AE.box [AV.yld (1:Nat),AV.func (Fn.func 52) [] [AV.eptr (4:Nat) [Tree.sl (1:Nat) a0,Tree.sl (7:Nat) a1,Tree.sl (4:Nat) a2,Tree.sl (5:Nat) a3] (0:Nat)]]) (AE.box
 [AV.yld (1:Nat),AV.func (Fn.func 52) [] [AV.eptr (4:Nat) [Tree.sl (1:Nat) a0,Tree.sl (7:Nat) a1,Tree.sl (4:Nat) a2,Tree.sl (5:Nat) a3] (0:Nat)]]) (Option.bind (AK C n (134:Nat) [Tree.sl (1:Nat)
 (cL p23 5 0),Tree.sl (7:Nat) (cL p23 5 1),Tree.sl (4:Nat) (cL p23 5 2),Tree.sl (5:Nat) (cL p23 5 3),Tree.sl (1:Nat) [[tI (gI y29 0)]]]) fun y30=>cnd (length y30=(5:Nat)) (cnd (okL 1 y30
 0) (cnd (okL 7 y30 1) (cnd (okL 4 y30 2) (cnd (okL 5 y30 3) (cnd (okI y30 4) (cnd (((gI y30 4) != (0:Int))=true) (join (fun (p31:List AV×Heap)=>J19_2 n a0 a1 a2 a3 again19 y30 a11 p31) fun
 (again32:_→Option (List Tree))=>cnd (((gI y30 4)==(18:Int))=true) (cnd ((AL p23 4 0)+(1:Nat)=(AL p23 4 0)+(1:Nat)) (Dn (AE.box [AV.func (Fn.func 52) [] [AV.eptr (4:Nat)
 [Tree.sl (1:Nat) a0,Tree.sl (7:Nat) a1,Tree.sl (4:Nat) a2,Tree.sl (5:Nat) a3] (0:Nat)]]) (AE.box [AV.func (Fn.func 52) [] [AV.eptr (4:Nat) [Tree.sl (1:Nat) a0,Tree.sl (7:Nat) a1,Tree.sl (4:Nat)
 a2,Tree.sl (5:Nat) a3] (0:Nat)]]) (again32 ([AV.t (Tree.bool (decide ((((AM p23 4 0)+(1:Nat):Nat):Int)>(0:Int))))],[AE.row false (AO p23 0) (1:Nat) (oEs p23 0),AE.box [AV.sref (0:Nat)
 (AL p23 1 0) (AP p23 1 0) (AM p23 1 0)],AE.box [AV.t (tI (cI p23 2 0))],AE.row false ((AL p23 4 0)+(1:Nat)) (1:Nat) ((take (AM p23 4 0) (drop (AP p23 4 0) (oEs p23 3)))
 ++ [[Tree.sl (4:Nat) (gL y22 0)]]),AE.box [AV.sref (3:Nat) ((AL p23 4 0)+(1:Nat)) (0:Nat) ((AM p23 4 0)+(1:Nat))],AE.box [AV.t (Tree.sl (1:Nat) (cL p23 5 0)),AV.t (Tree.sl (7:Nat) (cL
 p23 5 1)),AV.t (Tree.sl (4:Nat) (cL p23 5 2)),AV.t (Tree.sl (5:Nat) (cL p23 5 3))],AE.box [],AE.box [],AE.box [AV.t (Tree.sl (1:Nat) (gL y30 0)),AV.t (Tree.sl (7:Nat) (gL y30 1)),AV.t
 (Tree.sl (4:Nat) (gL y30 2)),AV.t (Tree.sl (5:Nat) (gL y30 3))]]))) none) (Dn (AE.box [AV.func (Fn.func 52) [] [AV.eptr (4:Nat) [Tree.sl (1:Nat) a0,Tree.sl (7:Nat) a1,Tree.sl (4:Nat) a2,
 Tree.sl (5:Nat) a3] (0:Nat)]]) (AE.box [AV.func (Fn.func 52) [] [AV.eptr (4:Nat) [Tree.sl (1:Nat) a0,Tree.sl (7:Nat) a1,Tree.sl (4:Nat) a2,Tree.sl (5:Nat) a3] (0:Nat)]]) (again32 ([AV.t
 (Tree.bool false)],[AE.row false (AO p23 0) (1:Nat) (oEs p23 0),AE.box [AV.sref (0:Nat) (AL p23 1 0) (AP p23 1 0) (AM p23 1 0)],AE.box [AV.t (tI (cI p23 2 0))],AE.row false ((AL
 p23 4 0)+(1:Nat)) (1:Nat) ((take (AM p23 4 0) (drop (AP p23 4 0) (oEs p23 3)))++[[Tree.sl (4:Nat) (gL y22 0)]]),AE.box [AV.sref (3:Nat) ((AL p23 4 0)+(1:Nat)) (0:Nat) ((AM
 p23 4 0)+(1:Nat))],AE.box [AV.t (Tree.sl (1:Nat) (cL p23 5 0)),AV.t (Tree.sl (7:Nat) (cL p23 5 1)),AV.t (Tree.sl (4:Nat) (cL p23 5 2)),AV.t (Tree.sl (5:Nat) (cL p23 5 3))],AE.box [],
 AE.box [],AE.box [AV.t (Tree.sl (1:Nat) (gL y30 0)),AV.t (Tree.sl (7:Nat) (gL y30 1)),AV.t (Tree.sl (4:Nat) (gL y30 2)),AV.t (Tree.sl (5:Nat) (gL y30 3))]])))) (Dn (AE.box [AV.func
 (Fn.func 52) [] [AV.eptr (4:Nat) [Tree.sl (1:Nat) a0,Tree.sl (7:Nat) a1,Tree.sl (4:Nat) a2,Tree.sl (5:Nat) a3] (0:Nat)]]) (AE.box [AV.func (Fn.func 52) [] [AV.eptr (4:Nat) [Tree.sl (1:Nat) a0,
 Tree.sl (7:Nat) a1,Tree.sl (4:Nat) a2,Tree.sl (5:Nat) a3] (0:Nat)]]) (again21 ([],[AE.row false (AO p23 0) (1:Nat) (oEs p23 0),AE.box [AV.sref (0:Nat) (AL p23 1 0) (AP p23 1 0) (AM p23
 1 0)],AE.box [AV.t (tI (cI p23 2 0))],AE.row false ((AL p23 4 0)+(1:Nat)) (1:Nat) ((take (AM p23 4 0) (drop (AP p23 4 0) (oEs p23 3)))++[[Tree.sl (4:Nat) (gL y22 0)]]),
 AE.box [AV.sref (3:Nat) ((AL p23 4 0)+(1:Nat)) (0:Nat) ((AM p23 4 0)+(1:Nat))],AE.box [AV.t (Tree.sl (1:Nat) (gL y30 0)),AV.t (Tree.sl (7:Nat) (gL y30 1)),AV.t (Tree.sl (4:Nat) (gL y30
 2)),AV.t (Tree.sl (5:Nat) (gL y30 3))],AE.box [],AE.box []])))) none) none) none) none) none) none))) none) none) none)))) none) none))
noncomputable def N8 (n:Nat) (a4:Int) (a5:Int) (a6:Int) (a7:Int) (a8:Int) (a9:Int) (a10:Bool) (a0:List (List Tree)) (a1:List (List Tree)) (a2:List (List Tree)) (a3:List (List Tree)) (again19:(List AV×Heap)→Option (List Tree)) (a11:Int) (p20:List AV×Heap) (again21:(List AV×Heap)→Option (List Tree)):Option (List Tree):=
 Option.bind (AK C n (133:Nat) [Tree.sl (1:Nat) (cL p20 5 0),Tree.sl (7:Nat) (cL p20 5 1),Tree.sl (4:Nat) (cL p20 5 2),Tree.sl (5:Nat) (cL p20 5 3),tI a4,tI a5,tI a6,tI a7,tI a8,tI a9,
 Tree.bool a10]) fun y22=>cnd (length y22=(2:Nat)) (cnd (okL 4 y22 0) (cnd (okI y22 1) (join (fun (p23:List AV×Heap)=>Qy n a0 a1 a2 a3 again19 y22 a11 again21 p23) fun (again24:_→
 Option (List Tree))=>cnd (((gI y22 1)==(18:Int))=true) (cnd (AO p20 3=AL p20 4 0) (Dn (AE.box [AV.func (Fn.func 52) [] [AV.eptr (4:Nat) [Tree.sl (1:Nat) a0,Tree.sl (7:Nat) a1,Tree.sl
 (4:Nat) a2,Tree.sl (5:Nat) a3] (0:Nat)]]) (AE.box [AV.func (Fn.func 52) [] [AV.eptr (4:Nat) [Tree.sl (1:Nat) a0,Tree.sl (7:Nat) a1,Tree.sl (4:Nat) a2,Tree.sl (5:Nat) a3] (0:Nat)]]) (again24
 ([AV.t (Tree.bool (decide (((AM p20 4 0:Nat):Int)>(0:Int))))],[AE.row false (AO p20 0) (1:Nat) (oEs p20 0),AE.box [AV.sref (0:Nat) (AL p20 1 0) (AP p20 1 0) (AM p20 1 0)],AE.box
 [AV.t (tI (cI p20 2 0))],AE.row false (AO p20 3) (1:Nat) (oEs p20 3),AE.box [AV.sref (3:Nat) (AL p20 4 0) (AP p20 4 0) (AM p20 4 0)],AE.box [AV.t (Tree.sl (1:Nat) (cL p20 5 0)),AV.t
 (Tree.sl (7:Nat) (cL p20 5 1)),AV.t (Tree.sl (4:Nat) (cL p20 5 2)),AV.t (Tree.sl (5:Nat) (cL p20 5 3))],AE.box [],AE.box []]))) none) (Dn (AE.box [AV.func (Fn.func 52) [] [AV.eptr (4:Nat)
 [Tree.sl (1:Nat) a0,Tree.sl (7:Nat) a1,Tree.sl (4:Nat) a2,Tree.sl (5:Nat) a3] (0:Nat)]]) (AE.box [AV.func (Fn.func 52) [] [AV.eptr (4:Nat) [Tree.sl (1:Nat) a0,Tree.sl (7:Nat) a1,Tree.sl (4:Nat)
 a2,Tree.sl (5:Nat) a3] (0:Nat)]]) (again24 ([AV.t (Tree.bool false)],[AE.row false (AO p20 0) (1:Nat) (oEs p20 0),AE.box [AV.sref (0:Nat) (AL p20 1 0) (AP p20 1 0) (AM p20 1 0)],
 AE.box [AV.t (tI (cI p20 2 0))],AE.row false (AO p20 3) (1:Nat) (oEs p20 3),AE.box [AV.sref (3:Nat) (AL p20 4 0) (AP p20 4 0) (AM p20 4 0)],AE.box [AV.t (Tree.sl (1:Nat) (cL p20 5
 0)),AV.t (Tree.sl (7:Nat) (cL p20 5 1)),AV.t (Tree.sl (4:Nat) (cL p20 5 2)),AV.t (Tree.sl (5:Nat) (cL p20 5 3))],AE.box [],AE.box []])))) none) none) none
noncomputable def N9 (n:Nat)  (p18:List AV×Heap):Option (List Tree):=
 cnd ((false=true∨false=false)∧AO p18 3=AL p18 4 0∧((1:Nat)=(1:Nat)∨(1:Nat)=(0:Nat))) (some [Tree.sl (1:Nat) (take (AM p18 4 0) (drop (AP p18 4 0) (oEs p18 3))),tI
 (0:Int)]) none
noncomputable def J19_6 (n:Nat) (a0:List (List Tree)) (a1:List (List Tree)) (a2:List (List Tree)) (a3:List (List Tree)) (a4:Int) (a5:Int) (a6:Int) (a7:Int) (a8:Int) (a9:Int) (a10:Bool) (a11:Int) (p16:List AV×Heap):Option (List Tree):=
 cnd (vB p16 0=true) (cnd (AO p16 0=AL p16 1 0) (cnd ((false=true∨false=false)∧AO p16 0=AL p16 1 0∧((1:Nat)=(1:Nat)∨(1:Nat)=(0:Nat))) (some [Tree.sl (1:Nat) (take
 (0:Nat) (drop (length (oEs p16 0)) (oEs p16 0))),tI (2:Int)]) none) none) (join (fun (p18:List AV×Heap)=>N9 n p18) fun (again19:_→Option (List Tree))=>Dn (AE.box [AV.func
 (Fn.func 52) [] [AV.eptr (4:Nat) [Tree.sl (1:Nat) a0,Tree.sl (7:Nat) a1,Tree.sl (4:Nat) a2,Tree.sl (5:Nat) a3] (0:Nat)]]) (AE.box [AV.func (Fn.func 52) [] [AV.eptr (4:Nat) [Tree.sl (1:Nat) a0,
 Tree.sl (7:Nat) a1,Tree.sl (4:Nat) a2,Tree.sl (5:Nat) a3] (0:Nat)]]) (AI (fun (p20:List AV×Heap) (again21:_→Option (List Tree))=>N8 n a4 a5 a6 a7 a8 a9 a10 a0 a1 a2 a3 again19 a11
 p20 again21) n ([],[AE.row false (AO p16 0) (1:Nat) (oEs p16 0),AE.box [AV.sref (0:Nat) (AL p16 1 0) (AP p16 1 0) (AM p16 1 0)],AE.box [AV.t (tI (cI p16 2 0))],AE.row false (0:Nat)
 (1:Nat) [],AE.box [AV.sref (3:Nat) (0:Nat) (0:Nat) (0:Nat)],AE.box [AV.t (Tree.sl (1:Nat) a0),AV.t (Tree.sl (7:Nat) a1),AV.t (Tree.sl (4:Nat) a2),AV.t (Tree.sl (5:Nat) a3)],AE.box [],
 AE.box []])))
noncomputable def J19_7 (n:Nat) (a0:List (List Tree)) (a1:List (List Tree)) (a2:List (List Tree)) (a3:List (List Tree)) (a4:Int) (a5:Int) (a6:Int) (a7:Int) (a8:Int) (a9:Int) (a10:Bool) (a11:Int) (p12:List AV×Heap):Option (List Tree):=
 cnd (vB p12 0=true) (cnd (AO p12 0=AL p12 1 0) (cnd ((false=true∨false=false)∧AO p12 0=AL p12 1 0∧((1:Nat)=(1:Nat)∨(1:Nat)=(0:Nat))) (some [Tree.sl (1:Nat) (take
 (0:Nat) (drop (length (oEs p12 0)) (oEs p12 0))),tI (1:Int)]) none) none) (join (fun (p16:List AV×Heap)=>J19_6 n a0 a1 a2 a3 a4 a5 a6 a7 a8 a9 a10 a11 p16) fun (again17:_→Option
 (List Tree))=>cnd (decide (a11<(1:Int))=true) (again17 ([AV.t (Tree.bool true)],[AE.row false (AO p12 0) (1:Nat) (oEs p12 0),AE.box [AV.sref (0:Nat) (AL p12 1 0) (AP p12 1 0) (AM
 p12 1 0)],AE.box [AV.t (tI (cI p12 2 0))]])) (again17 ([AV.t (Tree.bool (decide (a11>(16:Int))))],[AE.row false (AO p12 0) (1:Nat) (oEs p12 0),AE.box [AV.sref (0:Nat) (AL p12 1 0) (AP
 p12 1 0) (AM p12 1 0)],AE.box [AV.t (tI (cI p12 2 0))]])))
theorem e19 (n:Nat) (a0:List (List Tree)) (a1:List (List Tree)) (a2:List (List Tree)) (a3:List (List Tree)) (a4:Int) (a5:Int) (a6:Int) (a7:Int) (a8:Int) (a9:Int) (a10:Bool) (a11:Int):AK C (n+1) 19 [Tree.sl (1:Nat) a0,Tree.sl (7:Nat) a1,Tree.sl (4:Nat) a2,Tree.sl (5:Nat) a3,tI a4,tI a5,tI a6,tI a7,tI a8,tI a9,Tree.bool a10,tI a11]=
 join (fun (p12:List AV×Heap)=>J19_7 n a0 a1 a2 a3 a4 a5 a6 a7 a8 a9 a10 a11 p12) fun (again13:_→Option (List Tree))=>Option.bind (AK C n (17:Nat) [Tree.sl (1:Nat) a0,Tree.sl (7:Nat)
 a1,Tree.sl (4:Nat) a2,Tree.sl (5:Nat) a3]) fun y14=>cnd (length y14=(1:Nat)) (cnd (okI y14 0) (cnd (((gI y14 0) != (0:Int))=true) (again13 ([AV.t (Tree.bool true)],[AE.row false
 (0:Nat) (1:Nat) [],AE.box [AV.sref (0:Nat) (0:Nat) (0:Nat) (0:Nat)],AE.box [AV.t (tI (0:Int))]])) (Option.bind (AK C n (71:Nat) [Tree.sl (1:Nat) a0,Tree.sl (7:Nat) a1,tI a4,tI a5,tI a6,
 tI a7,tI a8,tI a9,Tree.bool a10]) fun y15=>cnd (length y15=(1:Nat)) (cnd (okI y15 0) (again13 ([AV.t (Tree.bool ((gI y15 0) != (0:Int)))],[AE.row false (0:Nat) (1:Nat) [],AE.box
 [AV.sref (0:Nat) (0:Nat) (0:Nat) (0:Nat)],AE.box [AV.t (tI (0:Int))]])) none) none)) none) none:=by kernel_rfl
noncomputable def J5_1 (n:Nat) (p17:List AV×Heap) (again18:(List AV×Heap)→Option (List Tree)) (y25:List Tree) (p26:List AV×Heap):Option (List Tree):=
 cnd (vB p26 0=true) (some [Tree.bool false]) (cnd (AO p26 0=Bu p17 0∧((1:Nat)=(1:Nat)∨(1:Nat)=(0:Nat))∧(C8 p17 0)+(Av p17 0)≤length (oEs p26 0)∧(Av p17 0)+(1:Nat)
 ≤(1073741824:Nat)) (again18 ([AV.sref (0:Nat) ((Bu p17 0)+(1:Nat)) (0:Nat) ((Av p17 0)+(1:Nat)),AV.t (tI (w64 ((vI p17 1)+(1:Int))))],[AE.row false ((Bu p17 0)+(1:Nat)) (1:Nat)
 ((take (Av p17 0) (drop (C8 p17 0) (oEs p26 0)))++[[tI (gI y25 0)]])])) none)
noncomputable def We (n:Nat) (a0:List (List Tree)) (a1:List (List Tree)) (y19:List Tree) (p17:List AV×Heap) (again18:(List AV×Heap)→Option (List Tree)) (p20:List AV×Heap):Option (List Tree):=
 cnd (vB p20 0=true) (some [Tree.bool false]) (Option.bind (AK C n (21:Nat) [Tree.sl (1:Nat) a0,Tree.sl (7:Nat) a1,Tree.sl (4:Nat) (gL y19 0)]) fun y25=>cnd (length y25=(2:Nat)) (cnd
 (okI y25 0) (cnd (okI y25 1) (join (fun (p26:List AV×Heap)=>J5_1 n p17 again18 y25 p26) fun (again27:_→Option (List Tree))=>cnd (((gI y25 1) != (0:Int))=true) (again27 ([AV.t (Tree.bool
 true)],[AE.row false (AO p20 0) (1:Nat) (oEs p20 0)])) (cnd ((false=true∨false=false)∧AO p20 0=Bu p17 0∧((1:Nat)=(1:Nat)∨(1:Nat)=(0:Nat))) (Option.bind (AK C n (22:Nat)
 [Tree.sl (1:Nat) (take (Av p17 0) (drop (C8 p17 0) (oEs p20 0))),tI (gI y25 0)]) fun y28=>cnd (length y28=(1:Nat)) (cnd (okB y28 0) (again27 ([AV.t (Tree.bool (gB y28 0))],
 [AE.row false (AO p20 0) (1:Nat) (oEs p20 0)])) none) none) none)) none) none) none)
noncomputable def Ui (n:Nat) (y16:List Tree) (a0:List (List Tree)) (a1:List (List Tree)) (a11:List (List Tree)) (p17:List AV×Heap) (again18:(List AV×Heap)→Option (List Tree)):Option (List Tree):=
 cnd (decide (vI p17 1<((length (gL y16 0):Nat):Int))=true) (cnd ((1:Nat)=(1:Nat)∧(0:Int)≤vI p17 1) (Option.bind (gL y16 0)[toNat (vI p17 1)]? fun y19=>cnd (okL 4 y19 0) (join (fun
 (p20:List AV×Heap)=>We n a0 a1 y19 p17 again18 p20) fun (again21:_→Option (List Tree))=>cnd ((((length (gL y19 0):Nat):Int)==(0:Int))=true) (again21 ([AV.t (Tree.bool true)],
 [AE.row false (AO p17 0) (1:Nat) (oEs p17 0)])) (cnd ((false=true∨false=false)∧AO p17 0=Bu p17 0∧((1:Nat)=(1:Nat)∨(1:Nat)=(0:Nat))) (Option.bind (AK C n (20:Nat) [Tree.sl
 (4:Nat) a11,Tree.sl (1:Nat) (take (Av p17 0) (drop (C8 p17 0) (oEs p17 0)))]) fun y22=>cnd (length y22=(1:Nat)) (cnd (okB y22 0) (cnd ((!(gB y22 0))=true) (cnd ((4:Nat)=
 (4:Nat)∧(0:Int)≤w64 (((length (gL y19 0):Nat):Int)-(1:Int))) (Option.bind (gL y19 0)[toNat (w64 (((length (gL y19 0):Nat):Int)-(1:Int)))]? fun y23=>cnd (okI y23 3) (cnd
 ((4:Nat)=(4:Nat)∧(0:Int)≤w64 (((length a11:Nat):Int)-(1:Int))) (Option.bind a11[toNat (w64 (((length a11:Nat):Int)-(1:Int)))]? fun y24=>cnd (okI y24 3) (again21 ([AV.t
 (Tree.bool (decide (gI y23 3>gI y24 3)))],[AE.row false (AO p17 0) (1:Nat) (oEs p17 0)])) none) none) none) none) (again21 ([AV.t (Tree.bool false)],[AE.row false (AO p17 0) (1:Nat) (oEs
 p17 0)]))) none) none) none)) none) none) (cnd ((((length (gL y16 0):Nat):Int)==(16:Int))=true) (some [Tree.bool true]) (cnd ((false=true∨false=false)∧AO p17 0=Bu p17 0∧
 ((1:Nat)=(1:Nat)∨(1:Nat)=(0:Nat))) (Option.bind (AK C n (20:Nat) [Tree.sl (4:Nat) a11,Tree.sl (1:Nat) (take (Av p17 0) (drop (C8 p17 0) (oEs p17 0)))]) fun y31=>cnd
 (length y31=(1:Nat)) (cnd (okB y31 0) (cnd (gB y31 0=true) (some [Tree.bool true]) (some [Tree.bool false])) none) none) none))
noncomputable def Uj (n:Nat) (a0:List (List Tree)) (a1:List (List Tree)) (a2:List (List Tree)) (a3:List (List Tree)) (a4:Int) (a5:Int) (a6:Int) (a7:Int) (a8:Int) (a9:Int) (a10:Bool) (a11:List (List Tree)) (p12:List AV×Heap):Option (List Tree):=
 cnd (vB p12 0=true) (some [Tree.bool true]) (Option.bind (AK C n (19:Nat) [Tree.sl (1:Nat) a0,Tree.sl (7:Nat) a1,Tree.sl (4:Nat) a2,Tree.sl (5:Nat) a3,tI a4,tI a5,tI a6,tI a7,tI a8,tI
 a9,Tree.bool a10,tI (16:Int)]) fun y16=>cnd (length y16=(2:Nat)) (cnd (okL 1 y16 0) (cnd (okI y16 1) (cnd (((gI y16 1) != (0:Int))=true) (some [Tree.bool false]) (AI (fun (p17 :
 List AV×Heap) (again18:_→Option (List Tree))=>Ui n y16 a0 a1 a11 p17 again18) n ([AV.sref (0:Nat) (0:Nat) (0:Nat) (0:Nat),AV.t (tI (0:Int))],[AE.row false (0:Nat) (1:Nat) []]))) none)
 none) none)
theorem e5 (n:Nat) (a0:List (List Tree)) (a1:List (List Tree)) (a2:List (List Tree)) (a3:List (List Tree)) (a4:Int) (a5:Int) (a6:Int) (a7:Int) (a8:Int) (a9:Int) (a10:Bool) (a11:List (List Tree)):AK C (n+1) 5 [Tree.sl (1:Nat) a0,Tree.sl (7:Nat) a1,Tree.sl (4:Nat) a2,Tree.sl (5:Nat) a3,tI a4,tI a5,tI a6,tI a7,tI a8,tI a9,Tree.bool a10,Tree.sl (4:Nat) a11]=
 join (fun (p12:List AV×Heap)=>Uj n a0 a1 a2 a3 a4 a5 a6 a7 a8 a9 a10 a11 p12) fun (again13:_→Option (List Tree))=>Option.bind (AK C n (6:Nat) [Tree.sl (1:Nat) a0,Tree.sl (7:Nat) a1,
 Tree.sl (4:Nat) a2,Tree.sl (5:Nat) a3,tI a4,tI a5,tI a6,tI a7,tI a8,tI a9,Tree.bool a10]) fun y14=>cnd (length y14=(1:Nat)) (cnd (okB y14 0) (cnd ((!(gB y14 0))=true) (again13
 ([AV.t (Tree.bool true)],[])) (cnd ((((length a11:Nat):Int)==(0:Int))=true) (again13 ([AV.t (Tree.bool true)],[])) (cnd (decide (((length a11:Nat):Int)>(12:Int))=true) (again13
 ([AV.t (Tree.bool true)],[])) (Option.bind (AK C n (18:Nat) [Tree.sl (1:Nat) a0,Tree.sl (7:Nat) a1,Tree.sl (4:Nat) a2,Tree.sl (5:Nat) a3,tI a4,tI a5,tI a6,tI a7,tI a8,tI a9,Tree.bool
 a10,Tree.sl (4:Nat) a11]) fun y15=>cnd (length y15=(1:Nat)) (cnd (okI y15 0) (again13 ([AV.t (Tree.bool ((gI y15 0) != (0:Int)))],[])) none) none)))) none) none:=by kernel_rfl
end Ab
namespace Ab
open Go
theorem s55 (l:List Int) (k:Int) (hl:l.length≤1000000):Ad C 55 [.sl 1 (l.map encI),tI k] [tI (idx (fun x=>k==x) l)]:=by
 refine Ad.of (fun n=>e55 n _ _) ?_;refine Ae (fun r:Int=>[tI r]) l (fun i (_:Unit)=>(([.t (tI i)],[]):List AV×Heap)) (fun i _ x=>if (k==x)=true then .done (i:Int) else .next ()) (fun _ => -1) (fun _ _=>True) () rfl trivial (Jy _ l)
  (fun i s x hx hI=>Ev.of fun n again => ?_) (fun _ _ _ _ _ _ _=>trivial) (fun s hI=>Ev.of fun n again => ?_)
 ·have hi:=AJ hx;simp only [vv,reduceCtorEq,reduceAdd,reduceEqDiff,zh0,zh1,zh2,zh3,zh4,zh5,zh6,zo0,zo1,hx,encI,(show (i:Int)<l.length by omega),AQ (show i<4611686018427387904 by omega)];by_cases c1:k=x
  ·simp [c1,AF,Rd.Ah]
  ·simp [c1,AF,Rd.Ac]
 ·simp only [vv,reduceCtorEq,reduceAdd,reduceEqDiff,zh0,zh1,zh2,zh3,zh4,zh5,zh6,zo0,zo1,lt_irrefl]
theorem s22 (l:List Int) (k:Int) (hl:l.length≤1000000):Ad C 22 [.sl 1 (l.map encI),tI k] [.bool (l.contains k)]:=by
 refine Ad.of (fun n=>e22 n _ _) ?_;refine (s55 l k hl).mono fun n h => ?_;have h2:=L2 (fun x=>k==x) l;have h3:l.any (fun x=>k==x)=l.contains k:=by rw [List.contains_eq_any_beq]
 rw [h3] at h2;have h4:decide (idx (fun x=>k==x) l≥0)=l.contains k:=by rw [Bool.eq_iff_iff,decide_eq_true_eq];exact h2
 simp only [h,vv,reduceCtorEq,reduceAdd,reduceEqDiff,zh0,zh1,zh2,zh3,zh4,zh5,zh6,zo0,zo1];rw [h4]
theorem s20 (l:List Hop) (an:List Int) (hl:l.length≤1000000) (ha:an.length≤1000000):Ad C 20 [.sl 4 (l.map Hop.enc),.sl 1 (an.map encI)] [.bool (En l an)]:=by
 refine Ad.of (fun n=>e20 n _ _) ?_;refine Ae (fun r:Bool=>[Tree.bool r]) l (fun i (_:Unit)=>(([.t (tI i)],[]):List AV×Heap)) (fun i _ x=>if (an.contains x.con)=true then .done true else .next ()) (fun _=>false) (fun _ _=>True) () rfl trivial (Gf (fun h:Hop=>an.contains h.con) 0 l)
  (fun i s x hx hI => ?_) (fun _ _ _ _ _ _ _=>trivial) (fun s hI=>Ev.of fun n again => ?_)
 ·have hi:=AJ hx;refine (s22 an x.con ha).mono fun n h again => ?_;simp only [vv,reduceCtorEq,reduceAdd,reduceEqDiff,zh0,zh1,zh2,zh3,zh4,zh5,zh6,zo0,zo1,hx,Hop.enc,h,(show (i:Int)<l.length by omega),AQ (show i<4611686018427387904 by omega),(show (i:Int)≥0 by omega)];cases an.contains x.con<;>simp [AF,Rd.Ah,Rd.Ac]
 ·simp only [vv,reduceCtorEq,reduceAdd,reduceEqDiff,zh0,zh1,zh2,zh3,zh4,zh5,zh6,zo0,zo1,lt_irrefl]
theorem s21 (q:List Int) (cs:List AA) (l:List Hop) (hp:AY q cs=0) (hne:l≠[]) (hl:l.length≤1000000) (hr:∀h∈l,0≤h.con∧h.con<cs.length) :
  Ad C 21 [.sl 1 (q.map encI),.sl 7 (cs.map AA.enc),.sl 4 (l.map Hop.enc)] [tI (BQ cs l),tI 0]:=by
 refine Ad.of (fun n=>e21 n _ _ _) ?_;refine Ev.rw (T' := ?TT) (s41 q cs) (fun n h => ?g1) ?g2
 case g1=>
  have hl0:((l.length:Int)==0)=false:=beq_eq_false_iff_ne.2 (by have:=length_pos_iff.2 hne;omega);simp only [h,hp,vv,reduceCtorEq,reduceAdd,reduceEqDiff,zh0,zh1,zh2,zh3,zh4,zh5,zh6,zo0,zo1,hl0,bne_self_eq_false];rfl
 case g2=>
  refine Ae (fun r:Int=>[tI r,tI 0]) l (fun i (b:Int)=>(([.t (tI b),.t (tI i)],[]):List AV×Heap)) (fun i b x =>.next (Ci cs b x)) (fun b=>b) (fun i b=>b<0∨(0≤b∧b<cs.length)) (-1) rfl (.inl (by omega)) (by rw [Bg];rfl)
   (fun i b x hx hI=>Ev.of fun n again => ?_) (fun i b x s' hx hI h => ?_) (fun s hI=>Ev.of fun n again => ?_)
  ·have hi:=AJ hx;have hrx:=hr x (mem_of_getElem? hx);have hc1:cs[x.con.toNat]? = some cs[x.con.toNat]:=getElem?_eq_getElem (by omega);generalize cs[x.con.toNat]'(by omega)=c1 at hc1;have hS1:Jg cs x.con=c1.stop:=by unfold Jg;rw [hc1]
   rw [Rd.Ac];by_cases hb:b<0
   ·have e:Ci cs b x=x.con:=by unfold Ci;rw [if_pos (.inl hb)]
    rw [e];simp only [vv,reduceCtorEq,reduceAdd,reduceEqDiff,zh0,zh1,zh2,zh3,zh4,zh5,zh6,zo0,zo1,hx,Hop.enc,hb,(show (i:Int)<l.length by omega),AQ (show i<4611686018427387904 by omega),(show ¬x.con<0 by omega),(show ¬(cs.length:Int)≤x.con by omega)]
   ·have hI2:0≤b∧b<cs.length:=hI.resolve_left hb;have hc2:cs[b.toNat]? = some cs[b.toNat]:=getElem?_eq_getElem (by omega);generalize cs[b.toNat]'(by omega)=c2 at hc2;have hS2:Jg cs b=c2.stop:=by unfold Jg;rw [hc2]
    by_cases hs:c1.stop<c2.stop
    ·have e:Ci cs b x=x.con:=by unfold Ci;rw [if_pos (.inr (by rw [hS1,hS2];exact hs))]
     rw [e];simp only [vv,reduceCtorEq,reduceAdd,reduceEqDiff,zh0,zh1,zh2,zh3,zh4,zh5,zh6,zo0,zo1,hx,Hop.enc,hb,hc1,hc2,AA.enc,hs,hrx.1,hI2.1,(show (i:Int)<l.length by omega),AQ (show i<4611686018427387904 by omega),(show ¬x.con<0 by omega),(show ¬(cs.length:Int)≤x.con by omega)]
    ·have e:Ci cs b x=b:=by unfold Ci;rw [if_neg (by rw [hS1,hS2];omega)]
     rw [e];simp only [vv,reduceCtorEq,reduceAdd,reduceEqDiff,zh0,zh1,zh2,zh3,zh4,zh5,zh6,zo0,zo1,hx,Hop.enc,hb,hc1,hc2,AA.enc,hs,hrx.1,hI2.1,(show (i:Int)<l.length by omega),AQ (show i<4611686018427387904 by omega),(show ¬x.con<0 by omega),(show ¬(cs.length:Int)≤x.con by omega)]
  ·simp only [Rd.next.injEq] at h;subst h;have hrx:=hr x (mem_of_getElem? hx);unfold Ci;split
   ·exact .inr hrx
   ·exact hI
  ·simp only [vv,reduceCtorEq,reduceAdd,reduceEqDiff,zh0,zh1,zh2,zh3,zh4,zh5,zh6,zo0,zo1,lt_irrefl]
theorem s180 (q:List Int) (cs:List AA) (l:List AB) (k f:Int) :
  Ad C 180 [.sl 1 (q.map encI),.sl 7 (cs.map AA.enc),.sl 4 (l.map AB.enc),tI k,tI f] [.sl 4 ((O3 q cs l k f).map AB.enc),tI (Qh q cs l k f)]:=by
 refine Ad.of (fun n=>e180 n _ _ _ _ _) ?_;by_cases h0:Cu q cs l k=0
 ·obtain ⟨c,hc,hk0,hk1,hcc,hbo,hlen⟩:=ck_ok h0;have hgi:=L9 (f:=f) hbo ⟨hk0,hk1⟩ hc hcc;have hgl:=HT c.stop (busy l k) (if c.start<f then f else c.start);have hbl:=Fp l k;have S142:=s142 q cs l k f c hk0 hc (by omega);have eC:Qh q cs l k f=if l.length+(BA c.stop (busy l k) (if c.start<f then f else c.start)).length>512 then 4 else 0:=by simp [Qh,h0,hc]
  have eL:O3 q cs l k f=if l.length+(BA c.stop (busy l k) (if c.start<f then f else c.start)).length>512 then [] else blk k l (BA c.stop (busy l k) (if c.start<f then f else c.start)):=by
   unfold O3;rw [eC,hc];dsimp only;generalize BA c.stop (busy l k) (if c.start<f then f else c.start)=gs;by_cases h:l.length+gs.length>512
   ·simp [h]
   ·simp [h]
  rw [eC,eL];generalize BA c.stop (busy l k) (if c.start<f then f else c.start)=gs at *;have hw:w64 ((l.length:Int)+(gs.length:Int))=((l.length+gs.length:Nat):Int):=by rw [Ay (by omega) (by omega)];omega
  by_cases hbig:l.length+gs.length>512
  ·refine ((U6 q cs l k).and S142).mono fun n h => ?_;simp only [h.1,h.2,vv,reduceCtorEq,reduceAdd,reduceEqDiff,zh0,zh1,zh2,zh3,zh4,zh5,zh6,zo0,zo1,h0,bne_self_eq_false,hw,hbig,(show (512:Int)<((l.length+gs.length:Nat):Int) by omega),map_nil]
  ·simp only [hbig,if_false];refine Ev.rw (T' := ?TT) ((U6 q cs l k).and S142) (fun n h => ?g1) ?g2
   case g1=>
    simp only [h.1,h.2,vv,reduceCtorEq,reduceAdd,reduceEqDiff,zh0,zh1,zh2,zh3,zh4,zh5,zh6,zo0,zo1,h0,bne_self_eq_false,hw,(show ¬(512:Int)<((l.length+gs.length:Nat):Int) by omega)];rfl
   case g2=>
    refine Ae (fun (r:List AB)=>[Tree.sl 4 (r.map AB.enc),tI 0]) gs (fun i (s:List AB)=>(([.t (.sl 4 (s.map AB.enc)),.t (tI i)],[]):List AV×Heap)) (fun _ s g =>.next (GB s (bk k g))) id (fun i s=>Uk cs k s (gs.drop i)∧s.length=l.length+i) l rfl ⟨by simpa using hgi,by simp⟩ (Bg (fun s g=>GB s (bk k g)) id 0 gs l)
     (fun i s g hx hI => ?_) (fun i s g s' hx hI hs' => ?_) (fun s hI=>Ev.of fun n again => ?_)
    ·have hi:=AJ hx;refine (s40 s (bk k g) (TC hI.1.1 _) (by omega)).mono fun n h again => ?_;simp only [bk] at h;simp only [vv,reduceCtorEq,reduceAdd,reduceEqDiff,zh0,zh1,zh2,zh3,zh4,zh5,zh6,zo0,zo1,hx,Span.enc,h,(show (i:Int)<gs.length by omega),AQ (show i<4611686018427387904 by omega),Rd.Ac,GB,bk]
    ·have hi:=AJ hx;simp only [Rd.next.injEq] at hs';subst hs';have hd:gs.drop i=g::gs.drop (i+1):=by rw [List.drop_eq_getElem_cons hi];rw [getElem?_eq_getElem hi] at hx;rw [Option.some.inj hx]
     rw [hd] at hI;exact ⟨hI.1.step,by rw [GB,I8,hI.2];omega⟩
    ·simp only [vv,reduceCtorEq,reduceAdd,reduceEqDiff,zh0,zh1,zh2,zh3,zh4,zh5,zh6,zo0,zo1,lt_irrefl,id]
 ·refine (U6 q cs l k).mono fun n h => ?_;simp only [h,vv,reduceCtorEq,reduceAdd,reduceEqDiff,zh0,zh1,zh2,zh3,zh4,zh5,zh6,zo0,zo1];rw [DC (by simp [h0])];simp [O3,Qh,h0]
def tH (q:List Int) (cs:List AA) (bs:List AB) (hs:List AN):Heap:=[.box [.t (.sl 1 (q.map encI)),.t (.sl 7 (cs.map AA.enc)),.t (.sl 4 (bs.map AB.enc)),.t (.sl 5 (hs.map AN.enc))],.box [.t (.sl 1 []),.t (.sl 7 []),.t (.sl 4 []),.t (.sl 5 [])]]
def tR (q:List Int) (cs:List AA) (bs:List AB) (hs:List AN):List Tree:=[.sl 1 (q.map encI),.sl 7 (cs.map AA.enc),.sl 4 (bs.map AB.enc),.sl 5 (hs.map AN.enc),tI 0]
theorem av2 {q:List Int} {cs:List AA} {bs0:List AB} {hs:List AN} (h0:bs0.length≤30) (hcs:cs.length≤10) (ks:List Int) (hkl:ks.length≤100000) (hk:∀k∈ks,0≤k∧k<cs.length) (bs:List AB) (B:List Int) (hB:BSt q cs bs0 bs B) :
  Ev fun n=>AI (fun p again=>PD n (ks.map encI) p again) n ([.t (tI (0:Nat))],tH q cs bs hs)=some (tR q cs (FX q cs bs ks) hs):=by
 refine Ae (fun b:List AB=>tR q cs b hs) ks (fun i b=>(([.t (tI i)],tH q cs b hs):List AV×Heap)) (fun _ b k =>.next (O3 q cs b k (EF cs k))) (fun b=>b) (fun _ b=>∃B,BSt q cs bs0 b B) bs rfl ⟨B,hB⟩ (by rw [Bg];rfl)
  (fun i b k hx hI => ?_) (fun i b k s' hx hI h => ?_) (fun s hI=>Ev.of fun n again => ?_)
 ·have hi:=AJ hx;obtain ⟨B1,hB1⟩:=hI;have hkr:=hk k (mem_of_getElem? hx);have hst:=(MY hB1 h0 hcs hkr).1;have hc:cs[k.toNat]? = some cs[k.toNat]:=getElem?_eq_getElem (by omega);generalize cs[k.toNat]'(by omega)=c at hc;have hS:EF cs k=c.start:=by unfold EF;rw [hc]
  rw [hS] at hst;have h180:=s180 q cs b k c.start;rw [hst] at h180;refine h180.mono fun n h again => ?_;simp only [PD,tH,vv,reduceCtorEq,reduceAdd,reduceEqDiff,zh0,zh1,zh2,zh3,zh4,zh5,zh6,zo0,zo1,hx,encI,hc,AA.enc,h,hkr.1,(show (i:Int)<ks.length by omega),AQ (show i<4611686018427387904 by omega),Rd.Ac,hS,bne_self_eq_false]
 ·simp only [Rd.next.injEq] at h;subst h;obtain ⟨B1,hB1⟩:=hI;obtain ⟨_,B2,hB2,_⟩:=MY hB1 h0 hcs (hk k (mem_of_getElem? hx));exact ⟨B2,hB2⟩
 ·simp only [PD,tH,tR,vv,reduceCtorEq,reduceAdd,reduceEqDiff,zh0,zh1,zh2,zh3,zh4,zh5,zh6,zo0,zo1,lt_irrefl]
theorem s134 {q:List Int} {cs:List AA} {bs0:List AB} {hs:List AN} (h0:bs0.length≤30) (hcs:cs.length≤10) (ks:List Int) (hkl:ks.length≤100000) (hk:∀k∈ks,0≤k∧k<cs.length) (bs:List AB) (B:List Int) (hB:BSt q cs bs0 bs B) (ht:Bb q cs bs hs=0) :
  Ad C 134 [.sl 1 (q.map encI),.sl 7 (cs.map AA.enc),.sl 4 (bs.map AB.enc),.sl 5 (hs.map AN.enc),.sl 1 (ks.map encI)] (tR q cs (FX q cs bs ks) hs):=by
 refine Ad.of (fun n=>e134 n _ _ _ _ _) ?_;refine Ev.rw (T' := ?TT) (s17 q cs bs hs) (fun n h => ?g1) ?g2
 case g1=>
  simp only [h,ht,vv,reduceCtorEq,reduceAdd,reduceEqDiff,zh0,zh1,zh2,zh3,zh4,zh5,zh6,zo0,zo1,bne_self_eq_false];rfl
 case g2=>
  refine Ae (fun b:List AB=>tR q cs b hs) ks (fun i (_:Unit)=>(([.t (tI i)],tH q cs bs hs):List AV×Heap)) (fun _ _ k =>.next ()) (fun _=>FX q cs bs ks) (fun _ _=>True) () rfl trivial (by rw [Bg])
   (fun i b k hx hI=>Ev.of fun n again => ?_) (fun _ _ _ _ _ _ _=>trivial) (fun s hI => ?_)
  ·have hi:=AJ hx;have hkr:=hk k (mem_of_getElem? hx);simp only [SN,Wf,tH,vv,reduceCtorEq,reduceAdd,reduceEqDiff,zh0,zh1,zh2,zh3,zh4,zh5,zh6,zo0,zo1,hx,encI,(show ¬k<0 by omega),(show ¬(cs.length:Int)≤k by omega),(show (i:Int)<ks.length by omega),AQ (show i<4611686018427387904 by omega),Rd.Ac]
  ·refine (av2 (hs:=hs) h0 hcs ks hkl hk bs B hB).mono fun n h again => ?_;refine Eq.trans ?_ h;simp only [SN,tH,vv,reduceCtorEq,reduceAdd,reduceEqDiff,zh0,zh1,zh2,zh3,zh4,zh5,zh6,zo0,zo1,lt_irrefl];rfl
end Ab
namespace Ab
open Go
def rtE (l:List Hop):List Tree:=[.sl 4 (l.map Hop.enc)]
def QH:List (List Hop)→List Tree
 |[]=>[.sl 1 [],tI 18]
 |l=>[.sl 1 (l.map rtE),tI 0]
theorem MF {l:List (List Hop)} (h:l≠[]):QH l=[.sl 1 (l.map rtE),tI 0]:=by
 cases l with
 |nil=>exact (h rfl).elim
 |cons a l=>rfl
def Rq (q:List Int) (cs:List AA) (hs:List AN) (s:List AB×List (List Hop)):List AV×Heap:=
 ([],[.row false 0 1 [],.box [.sref 0 0 0 0],.box [.t (tI 0)],.row false s.2.length 1 (s.2.map rtE),.box [.sref 3 s.2.length 0 s.2.length],.box [.t (.sl 1 (q.map encI)),.t (.sl 7 (cs.map AA.enc)),.t (.sl 4 (s.1.map AB.enc)),.t (.sl 5 (hs.map AN.enc))],.box [],.box []])
noncomputable def JG (q:List Int) (cs:List AA) (hs:List AN) (r:Rqt) (bs:List AB):Option (List Hop):=CZ (gOf q cs bs hs r) (soI (labels (gOf q cs bs hs r)))
noncomputable def ME (q:List Int) (cs:List AA) (hs:List AN) (r:Rqt) (pick:List Hop→List Int) (s:List AB×List (List Hop)):Rd (List AB×List (List Hop)) (List (List Hop)):=
 match JG q cs hs r s.1 with
 |none =>.done s.2
 |some l=>if s.2.length+1=16 then .done (s.2++[l]) else .next (FX q cs s.1 (pick l),s.2++[l])
theorem fn_res (q:List Int) (cs:List AA) (hs:List AN) (r:Rqt) (pick:List Hop→List Int) (s:List AB×List (List Hop)) (h:s.2.length<16) :
  s.2++EO soI q cs hs r pick (16-s.2.length) s.1=(ME q cs hs r pick s).fin fun s=>s.2++EO soI q cs hs r pick (16-s.2.length) s.1:=by
 obtain ⟨f,hf⟩:∃f,16-s.2.length=f+1:=⟨15-s.2.length,by omega⟩
 rw [hf,show EO soI q cs hs r pick (f+1) s.1=(match JG q cs hs r s.1 with
  |none=>[]
  |some l=>l::EO soI q cs hs r pick f (FX q cs s.1 (pick l))) from rfl]
 unfold ME;cases hE:JG q cs hs r s.1 with
 |none=>simp only [append_nil];rfl
 |some l=>
  simp only;by_cases h16:s.2.length+1=16
  ·rw [if_pos h16];obtain rfl:f=0:=by omega
   rfl
  ·rw [if_neg h16];simp only [Rd.fin,length_append,length_cons,length_nil,append_assoc,cons_append,nil_append];rw [show 16-(s.2.length+(0+1))=f by omega]
theorem Rj {q:List Int} {cs:List AA} {bs0 bs:List AB} {hs:List AN} {r:Rqt} {B:List Int} (h:In ⟨q,cs,bs0,hs,r⟩) (hB:BSt q cs bs0 bs B):In ⟨q,cs,bs,hs,r⟩:=
 ⟨OE h.tab hB,h.req,h.ql,h.cl,h.hl⟩
theorem MK {q:List Int} {cs:List AA} {bs:List AB} {hs:List AN} {r:Rqt} (h:In ⟨q,cs,bs,hs,r⟩) {l:List Hop} (hE:JG q cs hs r bs=some l):l≠[]∧(∀e∈l,0≤e.con∧e.con<cs.length)∧l.length≤1000:=by have hg:=MC h.tab h.req;obtain ⟨a,h1,hok⟩:=TB hg (fun x=>(FZ _).mem_iff) hE;refine ⟨hok.ne,fun e he=>Oh (hok.gap e he),?_⟩;have h2:l.length≤(soI (labels (gOf q cs bs hs r))).length:=hok.len;rw [(FZ _).length_eq] at h2;have h3:(labels (gOf q cs bs hs r)).length≤(DM (gOf q cs bs hs r)).length:=Gu hg (D5 hg);have h4:=NZ ⟨q,cs,bs,hs,r⟩ (Up h);have h5:(DM (gOf q cs bs hs r)).length≤600:=h4;omega
theorem fn19 {q:List Int} {cs:List AA} {bs0:List AB} {hs:List AN} {r:Rqt} (hI:In ⟨q,cs,bs0,hs,r⟩) (h0:bs0.length≤30) :
  Ev fun n=>AI (fun p again=>N8 n r.src r.dst r.size r.ready r.dead r.prio r.cust (q.map encI) (cs.map AA.enc) (bs0.map AB.enc) (hs.map AN.enc) (fun p18=>N9 n p18) 16 p again) n (Rq q cs hs (bs0,[]))=some (QH (EO soI q cs hs r (fun l=>[BQ cs l]) 16 bs0)):=by
 refine GW QH (Rq q cs hs) (ME q cs hs r fun l=>[BQ cs l]) (fun s=>(∃B,BSt q cs bs0 s.1 B)∧s.2.length<16) (fun s=>16-s.2.length) (fun s=>s.2++EO soI q cs hs r (fun l=>[BQ cs l]) (16-s.2.length) s.1) (bs0,[]) rfl
  ⟨⟨[],Ny (BY hI.tab).2.1⟩,by simp⟩ rfl (fun s hJ => ?_) (fun s s' hJ h => ?_) (fun s hJ=>fn_res q cs hs r _ s hJ.2)
 ·obtain ⟨⟨B,hB⟩,hlt⟩:=hJ;obtain ⟨bs,out⟩:=s;simp only at hB hlt;have hI':=Rj hI hB;have h133:=s133 ⟨q,cs,bs,hs,r⟩ hI';have hEe:CZ (Tb.g ⟨q,cs,bs,hs,r⟩) (soI (labels (Tb.g ⟨q,cs,bs,hs,r⟩)))=JG q cs hs r bs:=rfl;rw [hEe] at h133;unfold ME;cases hE:JG q cs hs r bs with
  |none=>
   rw [hE] at h133;refine h133.mono fun n h again => ?_;simp only [Fk] at h;simp only [hE,Rd.Ah];cases out with
   |nil=>simp only [N8,Qy,N9,Rq,h,vv,reduceCtorEq,reduceAdd,reduceEqDiff,zh0,zh1,zh2,zh3,zh4,zh5,zh6,zo0,zo1,beq_self_eq_true,QH,length_nil,lt_irrefl,El,map_nil,take_zero];rfl
   |cons o os=>
    have hp:(0:Int)<((o::os).length:Int):=by simp only [length_cons];omega
    have t1:take (o::os).length ((o::os).map rtE)=(o::os).map rtE:=take_of_length_le (by simp);rw [MF (by simp)];generalize o::os=out at hp t1;simp only [N8,Qy,N9,Rq,h,vv,reduceCtorEq,reduceAdd,reduceEqDiff,zh0,zh1,zh2,zh3,zh4,zh5,zh6,zo0,zo1,beq_self_eq_true,hp,El,t1]
  |some l=>
   obtain ⟨hne,hrng,hll⟩:=MK hI' hE;rw [hE] at h133;have hmem:=GF (cs:=cs) hne fun h hh=>(hrng h hh).1;obtain ⟨e,he,hee⟩:=mem_map.1 hmem;have har:=hrng e he;rw [hee] at har;have h21:=s21 q cs l (BY hI.tab).1 hne (by omega) hrng;have h134:=s134 (hs:=hs) h0 hI.cl [BQ cs l] (by simp) (fun k hk=>by cases mem_singleton.1 hk;exact har) bs B hB hI'.tab;have t1:take out.length (out.map rtE)=out.map rtE:=take_of_length_le (by simp);have b1:out.length+1≤1073741824:=by omega
   refine (h133.and (h21.and h134)).mono fun n ⟨h,k1,k2⟩ again => ?_;simp only [Fk] at h;simp only [map_cons,map_nil,encI,tR] at k2;simp only [hE];by_cases h16:out.length+1=16
   ·have h16':(((out.length+1:Nat):Int)==16)=true:=by rw [beq_iff_eq];omega
    rw [if_pos h16,Rd.Ah,MF (by simp)];have t2:take (out.length+1) (out.map rtE++[rtE l])=out.map rtE++[rtE l]:=take_of_length_le (by simp);simp only [rtE] at t2;simp only [N8,Qy,N9,Rq,h,k1,k2,vv,reduceCtorEq,reduceAdd,reduceEqDiff,zh0,zh1,zh2,zh3,zh4,zh5,zh6,zo0,zo1,El,t1,b1,h16',t2,rtE,le_refl,bne_self_eq_false,map_append,map_cons,map_nil];simp [t2,AF]
   ·have h16':(((out.length+1:Nat):Int)==16)=false:=beq_eq_false_iff_ne.2 (by omega);rw [if_neg h16,Rd.Ac];simp only [N8,Qy,N9,Rq,h,k1,k2,vv,reduceCtorEq,reduceAdd,reduceEqDiff,zh0,zh1,zh2,zh3,zh4,zh5,zh6,zo0,zo1,El,t1,b1,h16',rtE,le_refl,bne_self_eq_false,map_append,map_cons,map_nil,length_append,length_cons,length_nil,J6,(show ((0:Int)==18)=false from rfl),cons_append,nil_append]
 ·obtain ⟨⟨B,hB⟩,hlt⟩:=hJ;unfold ME at h;cases hE:JG q cs hs r s.1 with
  |none=>rw [hE] at h;cases h
  |some l=>
   rw [hE] at h;simp only at h;split at h
   ·cases h
   ·rename_i h16;cases h;have hI':=Rj hI hB;obtain ⟨hne,hrng,hll⟩:=MK hI' hE;have hmem:=GF (cs:=cs) hne fun h hh=>(hrng h hh).1;obtain ⟨e,he,hee⟩:=mem_map.1 hmem;have har:=hrng e he;rw [hee] at har;obtain ⟨B2,hB2,_⟩:=Hb h0 hI.cl [BQ cs l] s.1 B hB fun k hk=>by cases mem_singleton.1 hk;exact har
    refine ⟨⟨⟨B2,hB2⟩,?_⟩,?_⟩
    ·simp only [length_append,length_cons,length_nil];omega
    ·simp only [length_append,length_cons,length_nil];omega
end Ab
namespace Ab
open Go
structure WZ (cs:List AA) (rt:List Hop):Prop where
 ne:rt≠[]
 rng:∀e∈rt,0≤e.con∧e.con<cs.length
 len:rt.length≤1000
theorem fm_ok {q:List Int} {cs:List AA} {bs0:List AB} {hs:List AN} {r:Rqt} (hI:In ⟨q,cs,bs0,hs,r⟩) (h0:bs0.length≤30) (pick:List Hop→List Int) (hp:∀rt,WZ cs rt→∀k∈pick rt,0≤k∧k<cs.length) :
  ∀(f:Nat) (bs:List AB) (B:List Int),BSt q cs bs0 bs B→(EO soI q cs hs r pick f bs).length≤f∧∀rt∈EO soI q cs hs r pick f bs,WZ cs rt
 |0,bs,B,_=>⟨le_refl _,fun rt h=>by simp [EO] at h⟩
 |f+1,bs,B,hB=>by
  have hI':=Rj hI hB;rw [show EO soI q cs hs r pick (f+1) bs=(match JG q cs hs r bs with
  |none=>[]
  |some l=>l::EO soI q cs hs r pick f (FX q cs bs (pick l))) from rfl]
  cases hE:JG q cs hs r bs with
  |none=>exact ⟨by simp,fun rt h=>by simp at h⟩
  |some l=>
   obtain ⟨hne,hrng,hll⟩:=MK hI' hE;have hok:WZ cs l:=⟨hne,hrng,hll⟩
   obtain ⟨B2,hB2,_⟩:=Hb h0 hI.cl (pick l) bs B hB (hp l hok);obtain ⟨i1,i2⟩:=fm_ok hI h0 pick hp f (FX q cs bs (pick l)) B2 hB2;simp only;refine ⟨by rw [length_cons];omega,fun rt h => ?_⟩;rcases mem_cons.1 h with rfl|h
   ·exact hok
   ·exact i2 rt h
theorem Pv {cs:List AA} {rt:List Hop} (h:WZ cs rt):∀k∈[BQ cs rt],0≤k∧k<cs.length:=fun k hk=>by cases mem_singleton.1 hk;have hmem:=GF (cs:=cs) h.ne fun h' hh=>(h.rng h' hh).1;obtain ⟨e,he,hee⟩:=mem_map.1 hmem;have:=h.rng e he;rwa [hee] at this
def Kh (an:List Int) (i:Nat):List AV×Heap:=([.sref 0 an.length 0 an.length,.t (tI i)],[.row false an.length 1 (an.map encI)])
def KD (cs:List AA) (l:List Hop) (an:List Int) (rt:List Hop):Rd (List Int) (Option (List Int)):=
 if rt.length=0∨(En l an=false∧Bv rt>Bv l) then .done none else if an.contains (BQ cs rt)=true then .done none else .next (an++[BQ cs rt])
theorem WS (cs:List AA) (l:List Hop):∀(rs:List (List Hop)) (i:Nat) (an:List Int),A6 (fun _ an rt=>KD cs l an rt) some i rs an=KA cs l rs an
 |[],i,an=>rfl
 |rt::rs,i,an=>by
  unfold A6 KA KD;by_cases h1:rt.length=0∨(En l an=false∧Bv rt>Bv l)
  ·simp only [if_pos h1]
  ·simp only [if_neg h1];by_cases h2:an.contains (BQ cs rt)=true
   ·simp only [if_pos h2]
   ·simp only [if_neg h2];exact WS cs l rs (i+1) _
def alR (rs:List (List Hop)) (l:List Hop):Option (List Int)→List Tree
 |none=>[.bool false]
 |some an=>[.bool (decide (rs.length=16)||En l an)]
theorem P3 {l:List Hop} (h:l≠[]):∃e,l[l.length-1]? = some e∧Bv l=e.arr∧w64 ((l.length:Int)-1)=((l.length-1:Nat):Int)∨l.length>100000:=by
 by_cases hl:l.length>100000
 ·exact ⟨⟨0,0,0,0⟩,.inr hl⟩
 have hp:=length_pos_iff.2 h;have hi:l.length-1<l.length:=by omega
 refine ⟨l[l.length-1],.inl ⟨getElem?_eq_getElem hi,?_,?_⟩⟩
 ·unfold Bv;rw [List.getLast?_eq_getElem?,getElem?_eq_getElem hi]
 ·rw [Ay (by omega) (by omega)];omega
theorem al3 (q:List Int) (cs:List AA) (hp:AY q cs=0) (l:List Hop) (hne:l≠[]) (hl:l.length≤12) (rs:List (List Hop)) (hrs:rs.length≤16) (hok:∀rt∈rs,WZ cs rt) (y:Tree) :
  Ev fun n=>AI (fun p again=>Ui n [.sl 1 (rs.map rtE),y] (q.map encI) (cs.map AA.enc) (l.map Hop.enc) p again) n (Kh [] 0)=some (alR rs l (KA cs l rs [])):=by
 refine Ae (alR rs l) rs (fun i an=>Kh an i) (fun _ an rt=>KD cs l an rt) some (fun i an=>an.length=i) [] rfl rfl (WS cs l rs 0 [])
  (fun i an rt hx hI => ?_) (fun i an rt s' hx hI h => ?_) (fun an hI => ?_)
 ·have hi:=AJ hx;have hr:=hok rt (mem_of_getElem? hx);have hrl:=hr.len;have h20:=s20 l an (by omega) (by omega);have h21:=s21 q cs rt hp hr.ne (by omega) hr.rng;have h22:=s22 an (BQ cs rt) (by omega);obtain ⟨e1,g1⟩:=P3 hr.ne;obtain ⟨g1,g2,g3⟩:=g1.resolve_right (by omega);obtain ⟨e2,k1⟩:=P3 hne;obtain ⟨k1,k2,k3⟩:=k1.resolve_right (by omega);have hx':(rs.map rtE)[i]? = some (rtE rt):=by rw [getElem?_map,hx];rfl
  have hz:((rt.length:Int)==0)=false:=beq_eq_false_iff_ne.2 (by have:=length_pos_iff.2 hr.ne;omega);have t1:take an.length (an.map encI)=an.map encI:=take_of_length_le (by simp);have b1:an.length+1≤1073741824:=by omega
  have hrz:¬rt.length=0:=by have:=length_pos_iff.2 hr.ne;omega
  refine (h20.and (h21.and h22)).mono fun n ⟨m1,m2,m3⟩ again => ?_;have hlast:We n (q.map encI) (cs.map AA.enc) (rtE rt) (Kh an i) again ([.t (.bool (!En l an&&decide (Bv rt>Bv l)))],[.row false an.length 1 (an.map encI)])=
    (KD cs l an rt).go (fun s'=>again (Kh s' (i+1))) (fun q=>some (alR rs l q)):=by
   unfold KD;by_cases c1:En l an=false∧Bv rt>Bv l
   ·rw [if_pos (.inr c1)];simp only [We,Kh,rtE,vv,reduceCtorEq,reduceAdd,reduceEqDiff,zh0,zh1,zh2,zh3,zh4,zh5,zh6,zo0,zo1,c1.1,decide_eq_true c1.2,Bool.not_false,Bool.and_self,Rd.Ah,alR]
   ·rw [if_neg fun h=>h.elim hrz c1];have hc:(!En l an&&decide (Bv rt>Bv l))=false:=by rw [Bool.eq_false_iff];intro h;rw [and_eq_true,not_eq_true',decide_eq_true_eq] at h;exact c1 h
    rw [hc];cases hcn:an.contains (BQ cs rt) with
    |true=>
     rw [hcn] at m3;simp only [We,J5_1,Kh,rtE,vv,reduceCtorEq,reduceAdd,reduceEqDiff,zh0,zh1,zh2,zh3,zh4,zh5,zh6,zo0,zo1,m2,m3,t1,if_true,Rd.Ah,alR,bne_self_eq_false]
    |false=>
     rw [hcn] at m3;simp only [We,J5_1,Kh,rtE,vv,reduceCtorEq,reduceAdd,reduceEqDiff,zh0,zh1,zh2,zh3,zh4,zh5,zh6,zo0,zo1,m2,m3,t1,b1,false_eq_true,if_false,Rd.Ac,le_refl,bne_self_eq_false,length_append,length_cons,length_nil,map_append,map_cons,map_nil,encI,AQ (show i<4611686018427387904 by omega)]
  refine Eq.trans ?_ hlast;cases hu:En l an with
  |true=>
   rw [hu] at m1;simp only [Ui,Kh,rtE,vv,reduceCtorEq,reduceAdd,reduceEqDiff,zh0,zh1,zh2,zh3,zh4,zh5,zh6,zo0,zo1,hx',hz,t1,m1,(show (i:Int)<rs.length by omega),Bool.not_true,Bool.false_and]
  |false=>
   rw [hu] at m1;simp only [Ui,Kh,rtE,vv,reduceCtorEq,reduceAdd,reduceEqDiff,zh0,zh1,zh2,zh3,zh4,zh5,zh6,zo0,zo1,hx',hz,t1,m1,g1,g2,g3,k1,k2,k3,Hop.enc,(show (i:Int)<rs.length by omega),Bool.not_false,Bool.true_and]
 ·unfold KD at h;split at h
  ·cases h
  ·split at h
   ·cases h
   ·cases h;simp only [length_append,length_cons,length_nil,hI]
 ·have h20:=s20 l an (by omega) (by omega);have t1:take an.length (an.map encI)=an.map encI:=take_of_length_le (by simp);refine h20.mono fun n h again => ?_;by_cases h16:rs.length=16
  ·simp only [Ui,Kh,vv,reduceCtorEq,reduceAdd,reduceEqDiff,zh0,zh1,zh2,zh3,zh4,zh5,zh6,zo0,zo1,h16,alR,decide_true,Bool.true_or,beq_self_eq_true,lt_irrefl,length_map];rfl
  ·have hb:((rs.length:Int)==16)=false:=beq_eq_false_iff_ne.2 (by omega);simp only [Ui,Kh,vv,reduceCtorEq,reduceAdd,reduceEqDiff,zh0,zh1,zh2,zh3,zh4,zh5,zh6,zo0,zo1,hb,alR,decide_eq_false h16,Bool.false_or,lt_irrefl,length_map,t1,h];cases En l an<;>simp [AF]
theorem l5 (q:List Int) (cs:List AA) (bs:List AB) (hs:List AN) (r:Rqt) (l:List Hop) :
  Ad C 5 [.sl 1 (q.map encI),.sl 7 (cs.map AA.enc),.sl 4 (bs.map AB.enc),.sl 5 (hs.map AN.enc),tI r.src,tI r.dst,tI r.size,tI r.ready,tI r.dead,tI r.prio,.bool r.cust,.sl 4 (l.map Hop.enc)] [.bool true]:=by
 refine Ad.of (fun n=>e5 n _ _ _ _ _ _ _ _ _ _ _ _) ?_;cases hf:TA q cs bs hs r with
 |false=>
  refine (s6 q cs bs hs r).mono fun n h => ?_;simp only [h,hf,Uj,vv,reduceCtorEq,reduceAdd,reduceEqDiff,zh0,zh1,zh2,zh3,zh4,zh5,zh6,zo0,zo1]
 |true=>
  by_cases h0:l=[]
  ·subst h0;refine (s6 q cs bs hs r).mono fun n h => ?_;simp only [h,hf,Uj,vv,reduceCtorEq,reduceAdd,reduceEqDiff,zh0,zh1,zh2,zh3,zh4,zh5,zh6,zo0,zo1,map_nil,length_nil];rfl
  have hlp:=length_pos_iff.2 h0;have e0:((l.length:Int)==0)=false:=beq_eq_false_iff_ne.2 (by omega);by_cases h12:l.length>12
  ·refine (s6 q cs bs hs r).mono fun n h => ?_;simp only [h,hf,Uj,e0,vv,reduceCtorEq,reduceAdd,reduceEqDiff,zh0,zh1,zh2,zh3,zh4,zh5,zh6,zo0,zo1,(show (12:Int)<l.length by omega)]
  have h18:=s18 q cs bs hs r l (by omega);by_cases hA:GG sbI shI q cs bs hs r l=0
  ·have hf0:=hf;unfold TA L7 L8 at hf;simp only [and_eq_true,not_eq_true',or_eq_false_iff,decide_eq_false_iff_not,decide_eq_true_eq] at hf;obtain ⟨⟨⟨⟨f1,f2⟩,f3⟩,f4⟩,f5⟩:=hf;have ht:=PV f4;have hI:In ⟨q,cs,bs,hs,r⟩:=⟨ht,f5,by simp only;omega,by simp only;omega,by simp only;omega⟩
   have hbs:bs.length≤30:=by omega
   have hB0:=Ny (BY ht).2.1;obtain ⟨an',a1,a2⟩:=N3 (so:=soI) FZ Ij Ih hA hbs hI.cl 16 bs [] [] hB0 fun k=>Iff.rfl;obtain ⟨m1,m2⟩:=fm_ok hI hbs (fun l=>[BQ cs l]) (fun rt h=>Pv h) 16 bs [] hB0;have h19:Ad C 19 [.sl 1 (q.map encI),.sl 7 (cs.map AA.enc),.sl 4 (bs.map AB.enc),.sl 5 (hs.map AN.enc),tI r.src,tI r.dst,tI r.size,tI r.ready,tI r.dead,tI r.prio,.bool r.cust,tI 16] (QH (EO soI q cs hs r (fun l=>[BQ cs l]) 16 bs)):=by refine Ad.of (fun n=>e19 n _ _ _ _ _ _ _ _ _ _ _ _) ?_;refine ((s17 q cs bs hs).and ((s71 q cs r).and (fn19 hI hbs))).mono fun n ⟨h1,h2,h3⟩=> ?_;refine Eq.trans ?_ h3;simp only [h1,h2,ht,f5,J19_7,J19_6,Rq,vv,reduceCtorEq,reduceAdd,reduceEqDiff,zh0,zh1,zh2,zh3,zh4,zh5,zh6,zo0,zo1,bne_self_eq_false,El,map_nil,length_nil];rfl
   generalize EO soI q cs hs r (fun l=>[BQ cs l]) 16 bs=rs at a1 a2 m1 m2 h19;have hrne:rs≠[]:=fun e=>by
    subst e;cases a1;rcases a2 with a2|a2
    ·simp at a2
    ·unfold En at a2;simp at a2
   rw [MF hrne] at h19;have h3:=al3 q cs (BY ht).1 l h0 (by omega) rs m1 m2 (tI 0);rw [a1] at h3;refine ((s6 q cs bs hs r).and (h18.and (h19.and h3))).mono fun n ⟨g1,g2,g3,g4⟩=> ?_;have hres:alR rs l (some an')=[.bool true]:=by
    rcases a2 with a2|a2
    ·simp only [alR,a2,decide_true,Bool.true_or]
    ·simp only [alR,a2,Bool.or_true]
   rw [hres] at g4;refine Eq.trans ?_ g4;simp only [g1,hf0,g2,hA,g3,Uj,e0,Kh,vv,reduceCtorEq,reduceAdd,reduceEqDiff,zh0,zh1,zh2,zh3,zh4,zh5,zh6,zo0,zo1,(show ¬(12:Int)<l.length by omega),bne_self_eq_false,map_nil,length_nil];rfl
  ·refine ((s6 q cs bs hs r).and h18).mono fun n ⟨g1,g2⟩=> ?_;simp only [g1,hf,g2,Uj,e0,vv,reduceCtorEq,reduceAdd,reduceEqDiff,zh0,zh1,zh2,zh3,zh4,zh5,zh6,zo0,zo1,(show ¬(12:Int)<l.length by omega),bne_iff_ne.2 hA]
end Ab
