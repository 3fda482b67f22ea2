/- A part of the proof: see the last text. -/
import Derived.Test.YtabheiodkaljcaaGreatDoorM3
open Bool (false_eq_true not_eq_true' or_eq_true true_eq_false)
open ByteArray (size_extract)
open Classical (not_forall not_not)
open Int (emod_lt_of_pos emod_nonneg lt_irrefl natCast_zero tdiv tmod toNat toNat_natCast)
open List (all_cons all_eq_true append_assoc append_nil cons_append countP_cons drop dropWhile_cons drop_succ_cons drop_zero eq_nil_of_length_eq_zero ext_getElem? foldl_cons getD_eq_getElem?_getD getElem?_append_right getElem?_cons_zero getElem?_drop getElem?_eq_getElem getElem?_eq_none getElem?_map getElem?_take getElem_mem getElem_of_mem getLast?_concat head?_cons head?_nil length length_append length_cons length_drop length_eq_zero_iff length_map length_nil length_pos_iff length_tail length_take map_append map_cons map_drop map_map map_nil map_take mem_append mem_cons mem_cons_of_mem mem_flatMap mem_map mem_of_getElem? mem_singleton nil_append pairwise_cons replicate singleton_append take take_length take_of_length_le)
open Nat (add_assoc add_comm add_sub_cancel add_zero le_refl le_trans lt_or_ge min_def reduceAdd reduceEqDiff zero_add zero_le)
open Option (bind_none getD_none isSome_none isSome_some map_none map_some)
set_option linter.unusedVariables false
set_option linter.unusedSimpArgs false
namespace Ab
open Go
def HH (g v:Nat) (es:List Span) (ins:Bool) (p q:List Span) (pi:Nat) (pb:Bool) (qi:Nat) (qb:Bool):Heap:=[.box [.func (.func g) [] []],.row false v 2 (es.map Span.enc),.box [.sref 1 v 0 es.length],.box [.t (.bool ins)],.box [],.box [.t (.sl 2 (p.map Span.enc)),.t (tI pi),.t (.bool pb)],.box [.t (.sl 2 (q.map Span.enc)),.t (tI qi),.t (.bool qb)]]
def nx (a:List Span) (i:Nat) (xi:Bool):Option Int:=match a[i]? with
 |none=>none
 |some x=>some (if xi then x.to else x.fro)
def nv (o:Option Int):Int:=o.getD 0
def fin (es:List Span):List Tree:=if 1000<es.length then [.sl 2 [],tI 4] else [.sl 2 (es.map Span.enc),tI 0]
def pi_ (a:List Span) (i:Nat) (xi:Bool) (t:Int):Nat:=if nx a i xi=some t∧xi=true then i+1 else i
def pb (a:List Span) (i:Nat) (xi:Bool) (t:Int):Bool:=if nx a i xi=some t then !xi else xi
def opn (cl:List Span) (o:Option Int):List Span:=match o with
 |none=>cl
 |some s=>cl++[⟨s,0⟩]
def ncl (cl:List Span) (o:Option Int) (t:Int) (now:Bool):List Span:=match o,now with
 |some s,false=>cl++[⟨s,t⟩]
 |_,_=>cl
def nop (o:Option Int) (t:Int) (now:Bool):Option Int:=if now then some (o.getD t) else none
theorem J7 {α:Type} (l:List α) (x y:α) (k:Nat) (h:k=l.length):(l++[x]).set k y=l++[y]:=by
 subst h
 induction l with
 |nil=>rfl
 |cons z l ih=>simp [ih]
def NQ (v:Nat) (o:Option Int) (now:Bool):Nat:=match o,now with
 |none,true=>v+1
 |_,_=>v
theorem q1_67_1 (F n:Nat) (ag:(List AV×Heap)→Option (List Tree)) (v:Nat) (es:List Span) (ins:Bool) (a b:List Span) (i j:Nat) (xi yi:Bool) (hi:i≤a.length) :
  I7 F n (([],(HH F v es ins a b i xi j yi)):List AV×Heap) ag=K4 F n ag (([.t (tI (nv (nx a i xi))),.t (.bool (nx a i xi).isSome)],(HH F v es ins a b i xi j yi)):List AV×Heap):=by
 unfold nx nv;by_cases h:i=a.length
 ·subst h;have hx:a[a.length]? = none:=getElem?_eq_none (le_refl _);simp only [I7,HH,vv,vf,reduceCtorEq,reduceAdd,reduceEqDiff,hx,beq_self_eq_true,isSome_none,getD_none]
 ·obtain ⟨x,hx⟩:∃x,a[i]? = some x:=⟨a[i]'(by omega),getElem?_eq_getElem (by omega)⟩
  have h':¬((i:Int)=(a.length:Int)):=by omega
  cases xi<;>simp only [I7,HH,vv,vf,reduceCtorEq,reduceAdd,reduceEqDiff,hx,h',beq_iff_eq,Span.enc,isSome_some,Option.getD_some]
theorem q2_67_1 (F n:Nat) (ag:(List AV×Heap)→Option (List Tree)) (m:Int) (fx:Bool) (v:Nat) (es:List Span) (ins:Bool) (a b:List Span) (i j:Nat) (xi yi:Bool) (hj:j≤b.length) :
  K4 F n ag (([.t (tI m),.t (.bool fx)],(HH F v es ins a b i xi j yi)):List AV×Heap)=HC F n ag (([.t (tI m),.t (.bool fx)],(HH F v es ins a b i xi j yi)):List AV×Heap) (([.t (tI (nv (nx b j yi))),.t (.bool (nx b j yi).isSome)],(HH F v es ins a b i xi j yi)):List AV×Heap):=by
 unfold nx nv;by_cases h:j=b.length
 ·subst h;have hx:b[b.length]? = none:=getElem?_eq_none (le_refl _);simp only [K4,HH,vv,vf,reduceCtorEq,reduceAdd,reduceEqDiff,hx,beq_self_eq_true,isSome_none,getD_none]
 ·obtain ⟨x,hx⟩:∃x,b[j]? = some x:=⟨b[j]'(by omega),getElem?_eq_getElem (by omega)⟩
  have h':¬((j:Int)=(b.length:Int)):=by omega
  cases yi<;>simp only [K4,HH,vv,vf,reduceCtorEq,reduceAdd,reduceEqDiff,hx,h',beq_iff_eq,Span.enc,isSome_some,Option.getD_some]
theorem q3_67_1 (F n:Nat) (ag:(List AV×Heap)→Option (List Tree)) (ox oy:Option Int) (v:Nat) (es:List Span) (ins:Bool) (a b:List Span) (i j:Nat) (xi yi:Bool) :
  HC F n ag (([.t (tI (nv ox)),.t (.bool ox.isSome)],(HH F v es ins a b i xi j yi)):List AV×Heap) (([.t (tI (nv oy)),.t (.bool oy.isSome)],(HH F v es ins a b i xi j yi)):List AV×Heap)=match E6 ox oy with
   |none=>some (fin es)
   |some t=>JA F n ag (([.t (tI t)],(HH F v es ins a b i xi j yi)):List AV×Heap):=by
 have hl:∀l:List Span,take l.length (List.map Span.enc l)=List.map Span.enc l:=fun l=>by rw [take_of_length_le (by simp)]
 cases ox with
 |none=>cases oy with
  |none=>
   simp only [HC,K5,HH,vv,vf,reduceCtorEq,reduceAdd,reduceEqDiff,E6,nv,isSome_none,getD_none,fin];by_cases h:1000<es.length
   ·simp only [h,(show (1000:Int)<(es.length:Int) by omega),vv,vf,reduceCtorEq,reduceAdd,reduceEqDiff]
   ·simp only [h,(show ¬(1000:Int)<(es.length:Int) by omega),vv,vf,reduceCtorEq,reduceAdd,reduceEqDiff,hl]
  |some m=>simp only [HC,K5,Mk,HH,vv,vf,reduceCtorEq,reduceAdd,reduceEqDiff,E6,nv,isSome_none,isSome_some,getD_none,Option.getD_some]
 |some k=>cases oy with
  |none=>simp only [HC,K5,Mk,HH,vv,vf,reduceCtorEq,reduceAdd,reduceEqDiff,E6,nv,isSome_none,isSome_some,getD_none,Option.getD_some]
  |some m=>
   simp only [HC,K5,Mk,HH,vv,vf,reduceCtorEq,reduceAdd,reduceEqDiff,E6,nv,isSome_none,isSome_some,getD_none,Option.getD_some];by_cases h:m<k<;>simp only [h,vv,vf,reduceCtorEq,reduceAdd,reduceEqDiff]
theorem q4_67_1 (F n:Nat) (ag:(List AV×Heap)→Option (List Tree)) (t:Int) (v:Nat) (es:List Span) (ins:Bool) (a b:List Span) (i j:Nat) (xi yi:Bool) (hi:i≤a.length) (hl:a.length≤1000) :
  JA F n ag (([.t (tI t)],(HH F v es ins a b i xi j yi)):List AV×Heap)=JB F n ag (([.t (tI t)],(HH F v es ins a b i xi j yi)):List AV×Heap) (([],(HH F v es ins a b (pi_ a i xi t) (pb a i xi t) j yi)):List AV×Heap):=by
 unfold pi_ pb nx;by_cases h:i=a.length
 ·subst h;have hx:a[a.length]? = none:=getElem?_eq_none (le_refl _);simp only [JA,Ib,Ju,Jv,HH,vv,vf,reduceCtorEq,reduceAdd,reduceEqDiff,hx,beq_self_eq_true]
 ·obtain ⟨x,hx⟩:∃x,a[i]? = some x:=⟨a[i]'(by omega),getElem?_eq_getElem (by omega)⟩
  have h':¬((i:Int)=(a.length:Int)):=by omega
  cases xi
  ·by_cases hq:x.fro=t<;>simp only [JA,Ib,Ju,Jv,HH,vv,vf,reduceCtorEq,reduceAdd,reduceEqDiff,hx,h',hq,beq_iff_eq,Span.enc,bne_iff_ne,ne_eq,not_true_eq_false,not_false_eq_true,Option.some.injEq]
  ·by_cases hq:x.to=t<;>simp only [JA,Ib,Ju,Jv,HH,vv,vf,reduceCtorEq,reduceAdd,reduceEqDiff,hx,h',hq,beq_iff_eq,Span.enc,bne_iff_ne,ne_eq,not_true_eq_false,not_false_eq_true,Option.some.injEq,AS (show i<4611686018427387904 by omega),Int.natCast_add,nc1]
theorem q5_67_1 (F n:Nat) (ag:(List AV×Heap)→Option (List Tree)) (t:Int) (Hp:Heap) (v:Nat) (es:List Span) (ins:Bool) (a b:List Span) (i j:Nat) (xi yi:Bool) (hj:j≤b.length) (hl:b.length≤1000) :
  JB F n ag (([.t (tI t)],Hp):List AV×Heap) (([],(HH F v es ins a b i xi j yi)):List AV×Heap)=HD F n ag (([.t (tI t)],Hp):List AV×Heap) (([],(HH F v es ins a b i xi (pi_ b j yi t) (pb b j yi t))):List AV×Heap):=by
 unfold pi_ pb nx;by_cases h:j=b.length
 ·subst h;have hx:b[b.length]? = none:=getElem?_eq_none (le_refl _);simp only [JB,Ia,Js,Jt,HH,vv,vf,reduceCtorEq,reduceAdd,reduceEqDiff,hx,beq_self_eq_true]
 ·obtain ⟨x,hx⟩:∃x,b[j]? = some x:=⟨b[j]'(by omega),getElem?_eq_getElem (by omega)⟩
  have h':¬((j:Int)=(b.length:Int)):=by omega
  cases yi
  ·by_cases hq:x.fro=t<;>simp only [JB,Ia,Js,Jt,HH,vv,vf,reduceCtorEq,reduceAdd,reduceEqDiff,hx,h',hq,beq_iff_eq,Span.enc,bne_iff_ne,ne_eq,not_true_eq_false,not_false_eq_true,Option.some.injEq]
  ·by_cases hq:x.to=t<;>simp only [JB,Ia,Js,Jt,HH,vv,vf,reduceCtorEq,reduceAdd,reduceEqDiff,hx,h',hq,beq_iff_eq,Span.enc,bne_iff_ne,ne_eq,not_true_eq_false,not_false_eq_true,Option.some.injEq,AS (show j<4611686018427387904 by omega),Int.natCast_add,nc1]
theorem q6_67_1 (F n:Nat) (ag:(List AV×Heap)→Option (List Tree)) (t:Int) (Hp:Heap) (cl:List Span) (o:Option Int) (v:Nat) (a b:List Span) (i j:Nat) (xi yi now:Bool) (hl:cl.length≤1000000)
  (hf:AA C n F [Tree.bool xi,Tree.bool yi]=some [Tree.bool now]) :
  HD F n ag (([.t (tI t)],Hp):List AV×Heap) (([],(HH F v (opn cl o) o.isSome a b i xi j yi)):List AV×Heap)=
   ag (([],(HH F (NQ v o now) (opn (ncl cl o t now) (nop o t now)) (nop o t now).isSome a b i xi j yi)):List AV×Heap):=by
 have hm:∀l:List Span,take l.length (List.map Span.enc l)=List.map Span.enc l:=fun l=>by rw [take_of_length_le (by simp)]
 cases o with
 |none=>
  cases now with
  |true=>simp only [HD,K6,Of,GJ,G9,HH,vv,vf,reduceCtorEq,reduceAdd,reduceEqDiff,hf,opn,ncl,nop,NQ,isSome_none,isSome_some,Bool.not_false,append_nil,hm,map_append,map_cons,map_nil,Span.enc,(show cl.length+1≤1073741824 by omega),getD_none,length_append,le_refl]
  |false=>simp only [HD,K6,Of,GJ,G9,HH,vv,vf,reduceCtorEq,reduceAdd,reduceEqDiff,hf,opn,ncl,nop,NQ,isSome_none,isSome_some,Bool.not_false,append_nil]
 |some s=>
  cases now with
  |true=>simp only [HD,K6,Of,GJ,G9,HH,vv,vf,reduceCtorEq,reduceAdd,reduceEqDiff,hf,opn,ncl,nop,NQ,isSome_none,isSome_some,Bool.not_true,Option.getD_some]
  |false=>
   have e1:w64 (((cl.length+1:Nat):Int)-1)=(cl.length:Int):=by rw [AP (by omega) (by omega)];omega
   have e2:(List.map Span.enc cl++[[tI s,tI 0]])[cl.length]? = some [tI s,tI 0]:=by rw [getElem?_append_right (by simp)];simp
   have e3:(List.map Span.enc cl++[[tI s,tI 0]]).set cl.length [tI s,tI t]=List.map Span.enc cl++[[tI s,tI t]]:=J7 _ _ _ cl.length (by simp);simp only [HD,K6,Of,GJ,G9,HH,vv,vf,reduceCtorEq,reduceAdd,reduceEqDiff,hf,opn,ncl,nop,NQ,isSome_none,isSome_some,Bool.not_true,append_nil,map_append,map_cons,map_nil,Span.enc,length_append,e1,e2,e3,take,drop,cons_append,nil_append,(show (cl.length:Int)<((cl.length+1:Nat):Int) by omega),le_refl]
theorem q1_67_2 (F n:Nat) (ag:(List AV×Heap)→Option (List Tree)) (v:Nat) (es:List Span) (ins:Bool) (a b:List Span) (i j:Nat) (xi yi:Bool) (hi:i≤a.length) :
  I6 F n (([],(HH F v es ins b a j yi i xi)):List AV×Heap) ag=Ky F n ag (([.t (tI (nv (nx a i xi))),.t (.bool (nx a i xi).isSome)],(HH F v es ins b a j yi i xi)):List AV×Heap):=by
 unfold nx nv;by_cases h:i=a.length
 ·subst h;have hx:a[a.length]? = none:=getElem?_eq_none (le_refl _);simp only [I6,HH,vv,vf,reduceCtorEq,reduceAdd,reduceEqDiff,hx,beq_self_eq_true,isSome_none,getD_none]
 ·obtain ⟨x,hx⟩:∃x,a[i]? = some x:=⟨a[i]'(by omega),getElem?_eq_getElem (by omega)⟩
  have h':¬((i:Int)=(a.length:Int)):=by omega
  cases xi<;>simp only [I6,HH,vv,vf,reduceCtorEq,reduceAdd,reduceEqDiff,hx,h',beq_iff_eq,Span.enc,isSome_some,Option.getD_some]
theorem q2_67_2 (F n:Nat) (ag:(List AV×Heap)→Option (List Tree)) (m:Int) (fx:Bool) (v:Nat) (es:List Span) (ins:Bool) (a b:List Span) (i j:Nat) (xi yi:Bool) (hj:j≤b.length) :
  Ky F n ag (([.t (tI m),.t (.bool fx)],(HH F v es ins b a j yi i xi)):List AV×Heap)=HA F n ag (([.t (tI m),.t (.bool fx)],(HH F v es ins b a j yi i xi)):List AV×Heap) (([.t (tI (nv (nx b j yi))),.t (.bool (nx b j yi).isSome)],(HH F v es ins b a j yi i xi)):List AV×Heap):=by
 unfold nx nv;by_cases h:j=b.length
 ·subst h;have hx:b[b.length]? = none:=getElem?_eq_none (le_refl _);simp only [Ky,HH,vv,vf,reduceCtorEq,reduceAdd,reduceEqDiff,hx,beq_self_eq_true,isSome_none,getD_none]
 ·obtain ⟨x,hx⟩:∃x,b[j]? = some x:=⟨b[j]'(by omega),getElem?_eq_getElem (by omega)⟩
  have h':¬((j:Int)=(b.length:Int)):=by omega
  cases yi<;>simp only [Ky,HH,vv,vf,reduceCtorEq,reduceAdd,reduceEqDiff,hx,h',beq_iff_eq,Span.enc,isSome_some,Option.getD_some]
theorem q3_67_2 (F n:Nat) (ag:(List AV×Heap)→Option (List Tree)) (ox oy:Option Int) (v:Nat) (es:List Span) (ins:Bool) (a b:List Span) (i j:Nat) (xi yi:Bool) :
  HA F n ag (([.t (tI (nv ox)),.t (.bool ox.isSome)],(HH F v es ins b a j yi i xi)):List AV×Heap) (([.t (tI (nv oy)),.t (.bool oy.isSome)],(HH F v es ins b a j yi i xi)):List AV×Heap)=match E6 ox oy with
   |none=>some (fin es)
   |some t=>I8 F n ag (([.t (tI t)],(HH F v es ins b a j yi i xi)):List AV×Heap):=by
 have hl:∀l:List Span,take l.length (List.map Span.enc l)=List.map Span.enc l:=fun l=>by rw [take_of_length_le (by simp)]
 cases ox with
 |none=>cases oy with
  |none=>
   simp only [HA,Kz,HH,vv,vf,reduceCtorEq,reduceAdd,reduceEqDiff,E6,nv,isSome_none,getD_none,fin];by_cases h:1000<es.length
   ·simp only [h,(show (1000:Int)<(es.length:Int) by omega),vv,vf,reduceCtorEq,reduceAdd,reduceEqDiff]
   ·simp only [h,(show ¬(1000:Int)<(es.length:Int) by omega),vv,vf,reduceCtorEq,reduceAdd,reduceEqDiff,hl]
  |some m=>simp only [HA,Kz,Mj,HH,vv,vf,reduceCtorEq,reduceAdd,reduceEqDiff,E6,nv,isSome_none,isSome_some,getD_none,Option.getD_some]
 |some k=>cases oy with
  |none=>simp only [HA,Kz,Mj,HH,vv,vf,reduceCtorEq,reduceAdd,reduceEqDiff,E6,nv,isSome_none,isSome_some,getD_none,Option.getD_some]
  |some m=>
   simp only [HA,Kz,Mj,HH,vv,vf,reduceCtorEq,reduceAdd,reduceEqDiff,E6,nv,isSome_none,isSome_some,getD_none,Option.getD_some];by_cases h:m<k<;>simp only [h,vv,vf,reduceCtorEq,reduceAdd,reduceEqDiff]
theorem q4_67_2 (F n:Nat) (ag:(List AV×Heap)→Option (List Tree)) (t:Int) (v:Nat) (es:List Span) (ins:Bool) (a b:List Span) (i j:Nat) (xi yi:Bool) (hi:i≤a.length) (hl:a.length≤1000) :
  I8 F n ag (([.t (tI t)],(HH F v es ins b a j yi i xi)):List AV×Heap)=I9 F n ag (([.t (tI t)],(HH F v es ins b a j yi i xi)):List AV×Heap) (([],(HH F v es ins b a j yi (pi_ a i xi t) (pb a i xi t))):List AV×Heap):=by
 unfold pi_ pb nx;by_cases h:i=a.length
 ·subst h;have hx:a[a.length]? = none:=getElem?_eq_none (le_refl _);simp only [I8,Ia,Js,Jt,HH,vv,vf,reduceCtorEq,reduceAdd,reduceEqDiff,hx,beq_self_eq_true]
 ·obtain ⟨x,hx⟩:∃x,a[i]? = some x:=⟨a[i]'(by omega),getElem?_eq_getElem (by omega)⟩
  have h':¬((i:Int)=(a.length:Int)):=by omega
  cases xi
  ·by_cases hq:x.fro=t<;>simp only [I8,Ia,Js,Jt,HH,vv,vf,reduceCtorEq,reduceAdd,reduceEqDiff,hx,h',hq,beq_iff_eq,Span.enc,bne_iff_ne,ne_eq,not_true_eq_false,not_false_eq_true,Option.some.injEq]
  ·by_cases hq:x.to=t<;>simp only [I8,Ia,Js,Jt,HH,vv,vf,reduceCtorEq,reduceAdd,reduceEqDiff,hx,h',hq,beq_iff_eq,Span.enc,bne_iff_ne,ne_eq,not_true_eq_false,not_false_eq_true,Option.some.injEq,AS (show i<4611686018427387904 by omega),Int.natCast_add,nc1]
theorem q5_67_2 (F n:Nat) (ag:(List AV×Heap)→Option (List Tree)) (t:Int) (Hp:Heap) (v:Nat) (es:List Span) (ins:Bool) (a b:List Span) (i j:Nat) (xi yi:Bool) (hj:j≤b.length) (hl:b.length≤1000) :
  I9 F n ag (([.t (tI t)],Hp):List AV×Heap) (([],(HH F v es ins b a j yi i xi)):List AV×Heap)=HB F n ag (([.t (tI t)],Hp):List AV×Heap) (([],(HH F v es ins b a (pi_ b j yi t) (pb b j yi t) i xi)):List AV×Heap):=by
 unfold pi_ pb nx;by_cases h:j=b.length
 ·subst h;have hx:b[b.length]? = none:=getElem?_eq_none (le_refl _);simp only [I9,Ib,Ju,Jv,HH,vv,vf,reduceCtorEq,reduceAdd,reduceEqDiff,hx,beq_self_eq_true]
 ·obtain ⟨x,hx⟩:∃x,b[j]? = some x:=⟨b[j]'(by omega),getElem?_eq_getElem (by omega)⟩
  have h':¬((j:Int)=(b.length:Int)):=by omega
  cases yi
  ·by_cases hq:x.fro=t<;>simp only [I9,Ib,Ju,Jv,HH,vv,vf,reduceCtorEq,reduceAdd,reduceEqDiff,hx,h',hq,beq_iff_eq,Span.enc,bne_iff_ne,ne_eq,not_true_eq_false,not_false_eq_true,Option.some.injEq]
  ·by_cases hq:x.to=t<;>simp only [I9,Ib,Ju,Jv,HH,vv,vf,reduceCtorEq,reduceAdd,reduceEqDiff,hx,h',hq,beq_iff_eq,Span.enc,bne_iff_ne,ne_eq,not_true_eq_false,not_false_eq_true,Option.some.injEq,AS (show j<4611686018427387904 by omega),Int.natCast_add,nc1]
theorem q6_67_2 (F n:Nat) (ag:(List AV×Heap)→Option (List Tree)) (t:Int) (Hp:Heap) (cl:List Span) (o:Option Int) (v:Nat) (a b:List Span) (i j:Nat) (xi yi now:Bool) (hl:cl.length≤1000000)
  (hf:AA C n F [Tree.bool xi,Tree.bool yi]=some [Tree.bool now]) :
  HB F n ag (([.t (tI t)],Hp):List AV×Heap) (([],(HH F v (opn cl o) o.isSome b a j yi i xi)):List AV×Heap)=
   ag (([],(HH F (NQ v o now) (opn (ncl cl o t now) (nop o t now)) (nop o t now).isSome b a j yi i xi)):List AV×Heap):=by
 have hm:∀l:List Span,take l.length (List.map Span.enc l)=List.map Span.enc l:=fun l=>by rw [take_of_length_le (by simp)]
 cases o with
 |none=>
  cases now with
  |true=>simp only [HB,K2,K3,GJ,G9,HH,vv,vf,reduceCtorEq,reduceAdd,reduceEqDiff,hf,opn,ncl,nop,NQ,isSome_none,isSome_some,Bool.not_false,append_nil,hm,map_append,map_cons,map_nil,Span.enc,(show cl.length+1≤1073741824 by omega),getD_none,length_append,le_refl]
  |false=>simp only [HB,K2,K3,GJ,G9,HH,vv,vf,reduceCtorEq,reduceAdd,reduceEqDiff,hf,opn,ncl,nop,NQ,isSome_none,isSome_some,Bool.not_false,append_nil]
 |some s=>
  cases now with
  |true=>simp only [HB,K2,K3,GJ,G9,HH,vv,vf,reduceCtorEq,reduceAdd,reduceEqDiff,hf,opn,ncl,nop,NQ,isSome_none,isSome_some,Bool.not_true,Option.getD_some]
  |false=>
   have e1:w64 (((cl.length+1:Nat):Int)-1)=(cl.length:Int):=by rw [AP (by omega) (by omega)];omega
   have e2:(List.map Span.enc cl++[[tI s,tI 0]])[cl.length]? = some [tI s,tI 0]:=by rw [getElem?_append_right (by simp)];simp
   have e3:(List.map Span.enc cl++[[tI s,tI 0]]).set cl.length [tI s,tI t]=List.map Span.enc cl++[[tI s,tI t]]:=J7 _ _ _ cl.length (by simp);simp only [HB,K2,K3,GJ,G9,HH,vv,vf,reduceCtorEq,reduceAdd,reduceEqDiff,hf,opn,ncl,nop,NQ,isSome_none,isSome_some,Bool.not_true,append_nil,map_append,map_cons,map_nil,Span.enc,length_append,e1,e2,e3,take,drop,cons_append,nil_append,(show (cl.length:Int)<((cl.length+1:Nat):Int) by omega),le_refl]
end Ab
set_option linter.unusedVariables false
set_option linter.unusedSimpArgs false
namespace Ab
open Go
theorem QO (a:List Span) (i:Nat) (xi:Bool):(⟨a.drop i,xi⟩:Sd).next=nx a i xi:=by
 unfold Sd.next nx;have:(a.drop i)[0]? = a[i]? :=by rw [getElem?_drop];simp
 cases h:a.drop i with
 |nil=>
  rw [h] at this;have hx:a[i]? = none:=this.symm;rw [hx]
 |cons x l=>
  rw [h] at this;have hx:a[i]? = some x:=this.symm;rw [hx]
theorem U3 (a:List Span) (i:Nat) (xi:Bool) (t:Int):(⟨a.drop i,xi⟩:Sd).pass t=⟨a.drop (pi_ a i xi t),pb a i xi t⟩:=by
 unfold Sd.pass pi_ pb;rw [QO];by_cases h:nx a i xi=some t
 ·cases xi<;>simp [h,List.drop_drop]
 ·simp [h]
theorem nx_lt {a:List Span} {i:Nat} {xi:Bool} {t:Int} (h:nx a i xi=some t):i<a.length:=by
 unfold nx at h;split at h
 ·cases h
 ·rename_i x hx;exact AM hx
theorem VV {a:List Span} {i:Nat} {xi:Bool} (h:nx a i xi=none):a.length≤i:=by
 unfold nx at h;split at h
 ·rename_i hx;exact List.getElem?_eq_none_iff.1 hx
 ·cases h
theorem pi_le {a:List Span} {i:Nat} {xi:Bool} {t:Int} (hi:i≤a.length) (he:i=a.length→xi=false):pi_ a i xi t≤a.length∧(pi_ a i xi t=a.length→pb a i xi t=false):=by
 unfold pi_ pb;by_cases h:nx a i xi=some t
 ·have:=nx_lt h;cases xi
  ·simp [h];omega
  ·simp [h];omega
 ·simp [h];exact ⟨hi,he⟩
theorem Mu (f:Bool→Bool→Bool) (hff:f false false=false) (a b:List Span) (Hs:Nat→List Span→Bool→Nat→Bool→Nat→Bool→Heap) (body:(List AV×Heap)→((List AV×Heap)→Option (List Tree))→Option (List Tree))
  (hstep:∀ag v cl o i xi j yi,i≤a.length→j≤b.length→cl.length≤1000000→body (([],Hs v (opn cl o) o.isSome i xi j yi):List AV×Heap) ag=match E6 (nx a i xi) (nx b j yi) with
   |none=>some (fin (opn cl o))
   |some t=>ag (([],Hs (NQ v o (f (pb a i xi t) (pb b j yi t))) (opn (ncl cl o t (f (pb a i xi t) (pb b j yi t))) (nop o t (f (pb a i xi t) (pb b j yi t)))) (nop o t (f (pb a i xi t) (pb b j yi t))).isSome (pi_ a i xi t) (pb a i xi t) (pi_ b j yi t) (pb b j yi t)):List AV×Heap)) :
  ∀k v cl o i xi j yi,i≤a.length→j≤b.length→(i=a.length→xi=false)→(j=b.length→yi=false)→o.isSome=f xi yi→cl.length+(Sd.sz ⟨a.drop i,xi⟩+Sd.sz ⟨b.drop j,yi⟩)≤1000000→Sd.sz ⟨a.drop i,xi⟩+Sd.sz ⟨b.drop j,yi⟩<k→
   AH body k (([],Hs v (opn cl o) o.isSome i xi j yi):List AV×Heap)=some (fin (cl++go f ⟨a.drop i,xi⟩ ⟨b.drop j,yi⟩ o)):=by
 intro k
 induction k with
 |zero=>intro v cl o i xi j yi h1 h2 h3 h4 h5 h6 h7;omega
 |succ k ih=>
  intro v cl o i xi j yi h1 h2 h3 h4 h5 h6 h7;show body _ (AH body k)=_;rw [hstep _ v cl o i xi j yi h1 h2 (by omega)];have e1:=QO a i xi;have e2:=QO b j yi;cases h:E6 (nx a i xi) (nx b j yi) with
  |none=>
   obtain ⟨g1,g2⟩:=O7 h;have:=VV g1;have:=VV g2;rw [h3 (by omega),h4 (by omega),hff] at h5;obtain rfl:o=none:=by cases o<;>simp at h5 ⊢
   rw [Vj (by rw [e1,e2];exact h)];simp [opn]
  |some t=>
   have h':E6 (Sd.next ⟨a.drop i,xi⟩) (Sd.next ⟨b.drop j,yi⟩)=some t:=by rw [e1,e2];exact h
   have p1:=U3 a i xi t;have p2:=U3 b j yi t;obtain ⟨m1,_,_⟩:=Ih h';have z1:=Sd.Il ⟨a.drop i,xi⟩ t;have z2:=Sd.Il ⟨b.drop j,yi⟩ t;rw [p1] at z1;rw [p2] at z2;have hsz:Sd.sz ⟨a.drop (pi_ a i xi t),pb a i xi t⟩+Sd.sz ⟨b.drop (pi_ b j yi t),pb b j yi t⟩<Sd.sz ⟨a.drop i,xi⟩+Sd.sz ⟨b.drop j,yi⟩:=by
    rcases m1 with m|m
    ·have:=z1.2 m;omega
    ·have:=z2.2 m;omega
   have hcl:(ncl cl o t (f (pb a i xi t) (pb b j yi t))).length≤cl.length+1:=by unfold ncl;split<;>simp
   have hno:(nop o t (f (pb a i xi t) (pb b j yi t))).isSome=f (pb a i xi t) (pb b j yi t):=by unfold nop;split<;>simp_all
   simp only;obtain ⟨b1,b2⟩:=pi_le (t:=t) h1 h3;obtain ⟨b3,b4⟩:=pi_le (t:=t) h2 h4;rw [ih _ _ _ _ _ _ _ b1 b3 b2 b4 hno (by omega) (by omega)];rw [Vi h',p1,p2];simp only;congr 2;cases hnow:f (pb a i xi t) (pb b j yi t) with
   |true=>cases o<;>simp [ncl,nop]
   |false=>cases o<;>simp [ncl,nop]
theorem Uz (F n:Nat) (op:Bool→Bool→Bool) (h0:op false false=false) (a b:List Span) (ha:a.length≤1000) (hb:b.length≤1000) (hf:∀xi yi,AA C n F [Tree.bool xi,Tree.bool yi]=some [Tree.bool (op xi yi)]) (hn:5000≤n) :
  AH (fun (p:List AV×Heap) again=>I7 F n p again) n (([],HH F 0 [] false a b 0 false 0 false):List AV×Heap)=some (fin (go op ⟨a,false⟩ ⟨b,false⟩ none)):=by
 have:=Mu op h0 a b (fun v es ins i xi j yi=>HH F v es ins a b i xi j yi) (fun (p:List AV×Heap) again=>I7 F n p again) (fun ag v cl o i xi j yi hi hj hc=>by
  rw [q1_67_1 F n ag v (opn cl o) o.isSome a b i j xi yi hi,q2_67_1 F n ag _ _ v (opn cl o) o.isSome a b i j xi yi hj,q3_67_1 F n ag (nx a i xi) (nx b j yi) v (opn cl o) o.isSome a b i j xi yi];cases htm:E6 (nx a i xi) (nx b j yi) with
  |none=>rfl
  |some t=>
   simp only;rw [q4_67_1 F n ag t v (opn cl o) o.isSome a b i j xi yi hi ha,q5_67_1 F n ag t _ v (opn cl o) o.isSome a b _ j _ yi hj hb,q6_67_1 F n ag t _ cl o v a b _ _ _ _ _ hc (hf _ _)]) n 0 [] none 0 false 0 false (zero_le _) (zero_le _) (fun _=>rfl) (fun _=>rfl) h0.symm (by simp only [Sd.sz,drop_zero,length_nil,false_eq_true,if_false];omega) (by simp only [Sd.sz,drop_zero,false_eq_true,if_false];omega)
 simpa [opn] using this
theorem Uy (F n:Nat) (op:Bool→Bool→Bool) (h0:op false false=false) (a b:List Span) (ha:a.length≤1000) (hb:b.length≤1000) (hf:∀xi yi,AA C n F [Tree.bool xi,Tree.bool yi]=some [Tree.bool (op xi yi)]) (hn:5000≤n) :
  AH (fun (p:List AV×Heap) again=>I6 F n p again) n (([],HH F 0 [] false b a 0 false 0 false):List AV×Heap)=some (fin (go op ⟨a,false⟩ ⟨b,false⟩ none)):=by
 have:=Mu op h0 a b (fun v es ins i xi j yi=>HH F v es ins b a j yi i xi) (fun (p:List AV×Heap) again=>I6 F n p again) (fun ag v cl o i xi j yi hi hj hc=>by
  rw [q1_67_2 F n ag v (opn cl o) o.isSome a b i j xi yi hi,q2_67_2 F n ag _ _ v (opn cl o) o.isSome a b i j xi yi hj,q3_67_2 F n ag (nx a i xi) (nx b j yi) v (opn cl o) o.isSome a b i j xi yi];cases htm:E6 (nx a i xi) (nx b j yi) with
  |none=>rfl
  |some t=>
   simp only;rw [q4_67_2 F n ag t v (opn cl o) o.isSome a b i j xi yi hi ha,q5_67_2 F n ag t _ v (opn cl o) o.isSome a b _ j _ yi hj hb,q6_67_2 F n ag t _ cl o v a b _ _ _ _ _ hc (hf _ _)]) n 0 [] none 0 false 0 false (zero_le _) (zero_le _) (fun _=>rfl) (fun _=>rfl) h0.symm (by simp only [Sd.sz,drop_zero,length_nil,false_eq_true,if_false];omega) (by simp only [Sd.sz,drop_zero,false_eq_true,if_false];omega)
 simpa [opn] using this
theorem s212 (p q:Bool):AL C 212 [.bool p,.bool q] [.bool (p||q)]:=AL.of (fun n=>e212 n _ _) (Ev.of fun n=>by cases p<;>simp [AB])
theorem s155 (p q:Bool):AL C 155 [.bool p,.bool q] [.bool (p && !q)]:=AL.of (fun n=>e155 n _ _) (Ev.of fun n=>by cases p<;>simp [AB])
theorem P5 {P:Nat→Bool→Bool→Prop} (h:∀p q,Ev fun n=>P n p q):Ev fun n=>∀p q,P n p q:=
 ((h false false).and ((h false true).and ((h true false).and (h true true)))).mono fun n x p q=>by
  cases p<;>cases q
  ·exact x.1
  ·exact x.2.1
  ·exact x.2.2.1
  ·exact x.2.2.2
def LA (a b:List Span):List Tree:=if A8 a=0∧A8 b=0 then fin (uni a b) else [.sl 2 [],tI 1]
def LV (a b:List Span):List Tree:=if A8 a=0∧A8 b=0 then fin (min_ a b) else [.sl 2 [],tI 1]
theorem s183 (a b:List Span):AL C 183 [.sl 2 (a.map Span.enc),.sl 2 (b.map Span.enc)] (LA a b):=by
 refine AL.of (fun n=>e183 n _ _) ?_;refine ((s67 a).and ((s67 b).and ((P5 s212).and (Ev.ge 5000)))).mono fun n h => ?_;obtain ⟨h1,h2,h3,h4⟩:=h;simp only [h1,h2,vv,vf,reduceCtorEq,reduceAdd,reduceEqDiff,LA];by_cases ha:A8 a=0
 ·by_cases hb:A8 b=0
  ·have k1:=Uz 212 n (fun xi yi=>xi||yi) rfl a b (BC ha) (BC hb) h3 h4;have k2:=Uy 212 n (fun xi yi=>xi||yi) rfl a b (BC ha) (BC hb) h3 h4;simp only [HH,map_nil,length_nil] at k1 k2;simp only [ha,hb,bne_self_eq_false,F0,vv,vf,reduceCtorEq,reduceAdd,reduceEqDiff];simp only [natCast_zero] at k1 k2;rw [k1,k2,AF];rfl
  ·simp [ha,hb,AB,F0,O1,AE,BH]
 ·simp [ha,AB,F0,O1,AE,BH]
theorem s141 (a b:List Span):AL C 141 [.sl 2 (a.map Span.enc),.sl 2 (b.map Span.enc)] (LV a b):=by
 refine AL.of (fun n=>e141 n _ _) ?_;refine ((s67 a).and ((s67 b).and ((P5 s155).and (Ev.ge 5000)))).mono fun n h => ?_;obtain ⟨h1,h2,h3,h4⟩:=h;simp only [h1,h2,vv,vf,reduceCtorEq,reduceAdd,reduceEqDiff,LV];by_cases ha:A8 a=0
 ·by_cases hb:A8 b=0
  ·have k1:=Uz 155 n (fun xi yi=>xi && !yi) rfl a b (BC ha) (BC hb) h3 h4;have k2:=Uy 155 n (fun xi yi=>xi && !yi) rfl a b (BC ha) (BC hb) h3 h4;simp only [HH,map_nil,length_nil] at k1 k2;simp only [ha,hb,bne_self_eq_false,F0,vv,vf,reduceCtorEq,reduceAdd,reduceEqDiff];simp only [natCast_zero] at k1 k2;rw [k1,k2,AF];rfl
  ·simp [ha,hb,AB,F0,O1,AE,BH]
 ·simp [ha,AB,F0,O1,AE,BH]
end Ab
set_option linter.unusedVariables false
set_option linter.unusedSimpArgs false
namespace Ab
open Go
theorem s133 (l:List Span):AL C 133 [.sl 2 (l.map Span.enc)] (fin l):=by
 refine AL.of (fun n=>e133 n _) (Ev.of fun n => ?_);unfold fin;by_cases h:1000<l.length
 ·simp only [vv,vf,reduceCtorEq,reduceAdd,reduceEqDiff,h,(show (1000:Int)<(l.length:Int) by omega)]
 ·simp only [vv,vf,reduceCtorEq,reduceAdd,reduceEqDiff,h,(show ¬(1000:Int)<(l.length:Int) by omega)]
theorem s132 (a b:List Span):AL C 132 [.sl 2 (a.map Span.enc),.sl 2 (b.map Span.enc)] [.bool (decide (¬(A8 a=0∧A8 b=0)))]:=by
 refine AL.of (fun n=>e132 n _ _) ?_;refine ((s31 a).and (s31 b)).mono fun n h => ?_;simp only [h.1,h.2,vv,vf,reduceCtorEq,reduceAdd,reduceEqDiff];by_cases ha:A8 a=0
 ·by_cases hb:A8 b=0<;>simp [ha,hb,AB]
 ·simp [ha,AB]
def mg (x y:Span):Span:=⟨if y.fro<x.fro then y.fro else x.fro,if y.to>x.to then y.to else x.to⟩
theorem Cm (l:List Span):take l.length (List.map Span.enc l)=List.map Span.enc l:=by rw [take_of_length_le (by simp)]
theorem Pb (l:List Span) (i:Nat) (hi:i≤l.length) (hl:l.length≤1000000) (x:Span) (p3:List AV×Heap) (h1:A3 p3 0=i) (h2:Bz p3 0=0) (h3:Ak p3 0=i) :
  Ev fun n=>AH (fun (p9:List AV×Heap) again=>Er n (l.map Span.enc) p3 p9 again) n (([.t (tI i)],[.box [.t (tI x.fro),.t (tI x.to)],.row false i 2 ((l.take i).map Span.enc)]):List AV×Heap)=some [.sl 2 ((l.take i++DL x (l.drop i)).map Span.enc)]:=by
 have key:=Ad (R:=List Tree) (B:=fun n p again=>Er n (l.map Span.enc) p3 p again) (s:=(([.t (tI i)],[.box [.t (tI x.fro),.t (tI x.to)],.row false i 2 ((l.take i).map Span.enc)]):List AV×Heap))
  (fun (q:List Span)=>[Tree.sl 2 ((l.take i++q).map Span.enc)]) (l.drop i) (fun j (s:Span)=>(([.t (tI ((i+j:Nat):Int))],[.box [.t (tI s.fro),.t (tI s.to)],.row false i 2 ((l.take i).map Span.enc)]):List AV×Heap))
  (fun j s y=>if y.fro≤s.to then .next (mg s y) else .done (s::l.drop (i+j))) (fun s=>[s]) (fun _ _=>True) x rfl trivial (r:=DL x (l.drop i)) ?_ (fun j s y hy hI=>Ev.of fun n again => ?_) (fun _ _ _ _ _ _ _=>trivial) (fun s hI=>Ev.of fun n again => ?_)
 ·exact key
 ·have:∀(k:Nat) (m:List Span) (s:Span),m=l.drop (i+k)→Bd (fun j s y=>if y.fro≤s.to then (.next (mg s y):Rd Span (List Span)) else .done (s::l.drop (i+j))) (fun s=>[s]) k m s=DL s m:=by
   intro k m
   induction m generalizing k with
   |nil=>intro s _;rfl
   |cons y m ih=>
    intro s hm;have hm':m=l.drop (i+(k+1)):=by have:=congrArg List.tail hm;simpa [List.tail_drop,add_assoc] using this
    unfold DL;simp only [Bd];split
    ·rename_i s' hs;split at hs
     ·rename_i hq;cases hs;rw [if_pos hq];exact ih (k+1) _ hm'
     ·cases hs
    ·rename_i r hs;split at hs
     ·cases hs
     ·rename_i hq;cases hs;rw [if_neg hq,← hm]
  exact this 0 _ x rfl
 ·have hj:=AM hy;rw [length_drop] at hj;have hy':l[i+j]? = some y:=by rw [getElem?_drop] at hy;exact hy
  have ek:((l.take i).length)=i:=by simp;omega
  have e1:((i+j:Nat):Int)<(l.length:Int):=by omega
  have e2:((i+j:Nat):Int)≤(l.length:Int):=by omega
  have e3:take i (List.map Span.enc (take i l))=List.map Span.enc (take i l):=by rw [take_of_length_le (by simp;omega)]
  have e4:(i+1)≤1073741824:=by omega
  have e5:¬(length (drop (i+j) (take l.length (List.map Span.enc l)))=0∧i+1<length (List.map Span.enc (take i l))+1):=by simp;omega
  by_cases hq:y.fro≤s.to
  ·simp only [Er,HG,vv,vf,reduceCtorEq,reduceAdd,reduceEqDiff,hy',e1,Span.enc,hq,mg,AS (show i+j<4611686018427387904 by omega),Rd.AT,add_assoc]
  ·simp only [Er,HG,vv,vf,reduceCtorEq,reduceAdd,reduceEqDiff,hy',e1,e2,Span.enc,hq,h1,h2,h3,e3,e4,ek,Rd.Ar,le_refl];simp only [AB];have e6:(List.map Span.enc (take i l)).length=i:=by simp;omega
   have e7:take (l.length) (List.map Span.enc l)=List.map Span.enc l:=Cm l;simp [e6,e7,Span.enc];have eA:(take i (List.map Span.enc l)).length=i:=by simp;omega
   rw [if_neg (by omega),if_pos ⟨by omega,by omega⟩,take_of_length_le (l:=take i (List.map Span.enc l)++[[tI s.fro,tI s.to]]) (by simp;omega),take_of_length_le (by simp;omega)];simp
 ·have ej:i+(l.drop i).length=l.length:=by rw [length_drop];omega
  simp only [ej,Er,HG,vv,vf,reduceCtorEq,reduceAdd,reduceEqDiff,lt_irrefl,h1,h2,h3];simp only [AB];have ek:((l.take i).length)=i:=by simp;omega
  have e3:take i (List.map Span.enc (take i l))=List.map Span.enc (take i l):=by rw [take_of_length_le (by simp;omega)]
  have ed:drop l.length (take l.length (List.map Span.enc l))=[]:=by simp
  rw [e3,ed];rw [if_pos ⟨by omega,by omega⟩,if_pos (Int.le_refl _),if_neg (by simp;omega),if_pos ⟨by simp;omega,by simp;omega⟩];rw [append_nil,take_of_length_le (l:=List.map Span.enc (take i l)++[[tI s.fro,tI s.to]]) (by simp;omega),take_of_length_le (by simp;omega)];simp [Span.enc]
theorem Xu (l:List Span) (x:Span) (hl:l.length≤1000000):AL C 1000030 [.sl 2 (l.map Span.enc),tI x.fro,tI x.to] [.sl 2 ((HW x l).map Span.enc)]:=by
 refine AL.of (fun n=>Yz n _ _ _) ?_;refine Ad (fun (q:List Span)=>[Tree.sl 2 (q.map Span.enc)]) l (fun i (_:Unit)=>(([.sref 1 i 0 i,.t (tI i)],[.box [.t (tI x.fro),.t (tI x.to)],.row false i 2 ((l.take i).map Span.enc)]):List AV×Heap))
  (fun i _ y=>if y.to<x.fro then .next () else .done (l.take i++DL x (l.drop i))) (fun _=>l++DL x []) (fun _ _=>True) () rfl trivial ?_ (fun i s y hy hI => ?_) (fun _ _ _ _ _ _ _=>trivial) (fun s hI => ?_)
 ·have:∀(m pre:List Span),l=pre++m→Bd (fun i (_:Unit) y=>if y.to<x.fro then (.next ():Rd Unit (List Span)) else .done (l.take i++DL x (l.drop i))) (fun _=>l++DL x []) pre.length m ()=pre++HW x m:=by
   intro m
   induction m with
   |nil=>intro pre h;simp [Bd,HW,h]
   |cons y m ih=>
    intro pre h;unfold HW;simp only [Bd];have:=ih (pre++[y]) (by simp [h]);simp only [length_append,length_cons,length_nil,zero_add] at this;split
    ·rename_i s' hs;split at hs
     ·rename_i hq;rw [if_pos hq];rw [this];simp
     ·cases hs
    ·rename_i r hs;split at hs
     ·cases hs
     ·rename_i hq;cases hs;rw [if_neg hq];have e1:l.take pre.length=pre:=by rw [h];simp
      have e2:l.drop pre.length=y::m:=by rw [h];simp
      rw [e1,e2]
  exact this l [] rfl
 ·have hi:=AM hy;have k2:=Pb l i (by omega) hl x (([.sref 1 i 0 i,.t (tI i)],[.box [.t (tI x.fro),.t (tI x.to)],.row false i 2 ((l.take i).map Span.enc)]):List AV×Heap) rfl rfl rfl;refine k2.mono fun n h2 again => ?_;have e1:(i:Int)<(l.length:Int):=by omega
  have ek:((l.take i).length)=i:=by simp;omega
  have e3:take i (List.map Span.enc (take i l))=List.map Span.enc (take i l):=by rw [take_of_length_le (by simp;omega)]
  have e4:take (i+1) l=take i l++[y]:=by rw [List.take_add_one,hy];rfl
  by_cases hq:y.to<x.fro
  ·simp only [G6,HE,vv,vf,reduceCtorEq,reduceAdd,reduceEqDiff,hy,e1,Span.enc,hq,AS (show i<4611686018427387904 by omega),Rd.AT,ek,e3,(show i+1≤1073741824 by omega),le_refl];rw [e4,map_append];rfl
  ·simp only [G6,HE,vv,vf,reduceCtorEq,reduceAdd,reduceEqDiff,hy,e1,Span.enc,hq,Rd.Ar];exact h2
 ·have k2:=Pb l l.length (le_refl _) hl x (([.sref 1 l.length 0 l.length,.t (tI l.length)],[.box [.t (tI x.fro),.t (tI x.to)],.row false l.length 2 ((l.take l.length).map Span.enc)]):List AV×Heap) rfl rfl rfl;refine k2.mono fun n h2 again => ?_;simp only [G6,HE,vv,vf,reduceCtorEq,reduceAdd,reduceEqDiff,lt_irrefl];simpa using h2
theorem Ni (x:Span):∀l,(HW x l).length≤l.length+1
 |[]=>by simp [HW,DL]
 |y::l=>by
  unfold HW;split
  ·simp;exact Ni x l
  ·have:∀(m:List Span) (z:Span),(DL z m).length≤m.length+1:=by
    intro m
    induction m with
    |nil=>intro z;simp [DL]
    |cons w m ih=>
     intro z;unfold DL;split
     ·have:=ih ⟨if w.fro<z.fro then w.fro else z.fro,if w.to>z.to then w.to else z.to⟩;simp only [length_cons];omega
     ·simp
   exact this _ _
theorem s108 (a b:List Span):AL C 108 [.sl 2 (a.map Span.enc),.sl 2 (b.map Span.enc)] (LA a b):=by
 refine AL.of (fun n=>e108 n _ _) ?_;unfold LA;by_cases hc:A8 a=0∧A8 b=0
 ·rw [if_pos hc];have la:=BC hc.1;have lb:=BC hc.2;have hu:GX a b=uni a b:=XO ((Aj a).1 hc.1).2.1 ((Aj b).1 hc.2).2.1;refine Ev.rw (s132 a b) (T' := ?TT) (fun n h => ?g1) ?g2
  case g1=>
   simp only [h,hc,vv,vf,reduceCtorEq,reduceAdd,reduceEqDiff,not_true_eq_false,(show a.length≤1073741824 by omega)];rfl
  case g2=>
   rw [← hu];refine Ad (R:=List Tree) (Q:=List Span) fin b (fun i (m:List Span)=>(([.sref 0 i 0 m.length,.t (tI i)],[.row false i 2 (m.map Span.enc)]):List AV×Heap))
    (fun i m x =>.next (HW x m)) (fun m=>m) (fun i m=>m.length≤1000+i) a rfl (by omega) ?_ (fun i m x hx hI => ?_) (fun i m x m' hx hI he => ?_) (fun m hI => ?_)
   ·have:∀(k:Nat) (m a:List Span),Bd (fun i m x=>(Rd.next (HW x m):Rd (List Span) (List Span))) (fun m=>m) k m a=GX a m:=by
     intro k m
     induction m generalizing k with
     |nil=>intro a;rfl
     |cons x m ih=>intro a;exact ih _ _
    exact this 0 b a
   ·have hi:=AM hx;refine (Xu m x (by omega)).mono fun n h again => ?_;simp only [UT,vv,vf,reduceCtorEq,reduceAdd,reduceEqDiff,hx,(show (i:Int)<(b.length:Int) by omega),Span.enc,Cm,h,AS (show i<4611686018427387904 by omega),Rd.AT]
   ·cases he;have:=Ni x m;omega
   ·refine (s133 m).mono fun n h again => ?_;simp only [UT,vv,vf,reduceCtorEq,reduceAdd,reduceEqDiff,lt_irrefl,Cm,h,fin];split<;>simp only [vv,vf,reduceCtorEq,reduceAdd,reduceEqDiff]
 ·rw [if_neg hc];refine (s132 a b).mono fun n h => ?_;simp only [h,hc,vv,vf,reduceCtorEq,reduceAdd,reduceEqDiff,not_false_eq_true]
end Ab
set_option linter.unusedVariables false
set_option linter.unusedSimpArgs false
namespace Ab
open Go
structure OS where
 v:Nat
 f:Int
 out:List Span
theorem s151 (l:List Span) (hl:l.length≤1000):AL C 151 [.sl 2 (l.map Span.enc)] [.sl 2 ((HV (-1152921504606846976) l).map Span.enc)]:=by
 refine AL.of (fun n=>e151 n _) ?_;refine Ad (R:=List Tree) (fun (q:List Span)=>[Tree.sl 2 (q.map Span.enc)]) l (fun i (s:OS)=>(([.sref 0 s.v 0 s.out.length,.t (tI s.f),.t (tI i)],[.row false s.v 2 (s.out.map Span.enc)]):List AV×Heap))
  (fun i s x=>if s.f<x.fro then .next ⟨s.v+1,x.to,s.out++[⟨s.f,x.fro⟩]⟩ else .next ⟨s.v,x.to,s.out⟩) (fun s=>if s.f<1152921504606846976 then s.out++[⟨s.f,1152921504606846976⟩] else s.out) (fun i s=>s.out.length≤i) ⟨0,-1152921504606846976,[]⟩ rfl (le_refl _) ?_ (fun i s x hx hI=>Ev.of fun n again => ?_) (fun i s x s' hx hI he => ?_) (fun s hI=>Ev.of fun n again => ?_)
 ·have:∀(m:List Span) (k:Nat) (s:OS),Bd (fun i s x=>if s.f<x.fro then (.next ⟨s.v+1,x.to,s.out++[⟨s.f,x.fro⟩]⟩:Rd OS (List Span)) else .next ⟨s.v,x.to,s.out⟩) (fun s=>if s.f<1152921504606846976 then s.out++[⟨s.f,1152921504606846976⟩] else s.out) k m s=s.out++HV s.f m:=by
   intro m
   induction m with
   |nil=>
    intro k s;simp only [Bd,HV];split<;>simp
   |cons x m ih=>
    intro k s;simp only [Bd,HV];by_cases h:s.f<x.fro
    ·simp only [h,if_true];rw [ih];simp
    ·simp only [h,if_false];rw [ih]
  simpa using this l 0 ⟨0,-1152921504606846976,[]⟩
 ·have hi:=AM hx;by_cases hq:s.f<x.fro
  ·simp only [OT,vv,vf,reduceCtorEq,reduceAdd,reduceEqDiff,hx,(show (i:Int)<(l.length:Int) by omega),Span.enc,Cm,AS (show i<4611686018427387904 by omega),hq,Rd.AT,le_refl,(show s.out.length+1≤1073741824 by omega),map_append,map_cons,map_nil,length_append]
  ·simp only [OT,vv,vf,reduceCtorEq,reduceAdd,reduceEqDiff,hx,(show (i:Int)<(l.length:Int) by omega),Span.enc,AS (show i<4611686018427387904 by omega),hq,Rd.AT]
 ·split at he
  ·cases he;simp;omega
  ·cases he;simp only;omega
 ·by_cases hq:s.f<1152921504606846976
  ·have e1:take (s.out.length+1) (List.map Span.enc s.out++[[tI s.f,tI 1152921504606846976]])=List.map Span.enc s.out++[[tI s.f,tI 1152921504606846976]]:=by rw [take_of_length_le (by simp)]
   simp only [OT,vv,vf,reduceCtorEq,reduceAdd,reduceEqDiff,lt_irrefl,Cm,hq,le_refl,(show s.out.length+1≤1073741824 by omega),e1,map_append,map_cons,map_nil,Span.enc]
  ·simp only [OT,vv,vf,reduceCtorEq,reduceAdd,reduceEqDiff,lt_irrefl,Cm,hq]
structure BS where
 v:Nat
 out:List Span
def inner (x:Span) (s:BS):List Span→BS
 |[]=>s
 |y::o=>match piece x y with
  |some z=>inner x ⟨s.v+1,s.out++[z]⟩ o
  |none=>inner x s o
theorem It (x:Span):∀(o:List Span) (s:BS),(inner x s o).out=s.out++o.filterMap (piece x)
 |[],s=>by simp [inner]
 |y::o,s=>by
  unfold inner;cases h:piece x y with
  |none=>rw [List.filterMap_cons_none h];exact It x o s
  |some z=>rw [List.filterMap_cons_some h,It x o];simp
theorem s150 (a o:List Span) (ha:a.length≤1000) (ho:o.length≤2000):AL C 150 [.sl 2 (a.map Span.enc),.sl 2 (o.map Span.enc)] [.sl 2 ((HP a o).map Span.enc)]:=by
 refine AL.of (fun n=>e150 n _ _) ?_;refine Ad (R:=List Tree) (fun (q:List Span)=>[Tree.sl 2 (q.map Span.enc)]) a (fun i (s:BS)=>(([.sref 0 s.v 0 s.out.length,.t (tI i)],[.row false s.v 2 (s.out.map Span.enc)]):List AV×Heap))
  (fun i s x =>.next (inner x s o)) (fun s=>s.out) (fun i s=>s.out.length≤2000*i) ⟨0,[]⟩ rfl (le_refl _) ?_ (fun i s x hx hI => ?_) (fun i s x s' hx hI he => ?_) (fun s hI=>Ev.of fun n again => ?_)
 ·have:∀(m:List Span) (k:Nat) (s:BS),Bd (fun i s x=>(.next (inner x s o):Rd BS (List Span))) (fun s=>s.out) k m s=s.out++HP m o:=by
   intro m
   induction m with
   |nil=>intro k s;simp [Bd,HP]
   |cons x m ih=>
    intro k s;simp only [Bd];rw [ih,It];simp [HP]
  simpa using this a 0 ⟨0,[]⟩
 ·have hi:=AM hx;have key:=Fg (R:=List Tree) (Z:=List AV×Heap→Option (List Tree)) (B:=fun n z p again=>OU n (o.map Span.enc) (([.sref 0 s.v 0 s.out.length,.t (tI i)],[.row false s.v 2 (s.out.map Span.enc)]):List AV×Heap) (a.map Span.enc) z p again)
   (s:=(([.sref 0 s.v 0 s.out.length,.t (tI 0)],[.row false s.v 2 (s.out.map Span.enc)]):List AV×Heap)) o (fun j (u:BS)=>(([.sref 0 u.v 0 u.out.length,.t (tI j)],[.row false u.v 2 (u.out.map Span.enc)]):List AV×Heap))
   (fun j u y=>match piece x y with
    |some z =>.next ⟨u.v+1,u.out++[z]⟩
    |none =>.next u) (fun u=>u) (fun z (u:BS)=>z (([.sref 0 u.v 0 u.out.length,.t (tI ((i+1:Nat):Int))],[.row false u.v 2 (u.out.map Span.enc)]):List AV×Heap)) (fun j u=>u.out.length≤2000*i+j) s rfl (by omega) (r:=inner x s o) ?_
   (fun j u y hy hJ=>Ev.of fun n z again => ?_) (fun j u y u' hy hJ he => ?_) (fun u hJ=>Ev.of fun n z again => ?_)
  ·refine key.mono fun n h again => ?_;simp only [US,vv,vf,reduceCtorEq,reduceAdd,reduceEqDiff,(show (i:Int)<(a.length:Int) by omega),Rd.AT];exact h again
  ·have:∀(m:List Span) (k:Nat) (u:BS),Bd (fun j u y=>match piece x y with
    |some z=>(.next ⟨u.v+1,u.out++[z]⟩:Rd BS BS)
    |none =>.next u) (fun u=>u) k m u=inner x u m:=by
    intro m
    induction m with
    |nil=>intro k u;rfl
    |cons y m ih=>
     intro k u;simp only [Bd,inner];cases h:piece x y with
     |none=>exact ih _ _
     |some z=>exact ih _ _
   exact this o 0 s
  ·have hj:=AM hy;unfold piece mxI mnI;by_cases hq:(if y.fro>x.fro then y.fro else x.fro)<(if y.to<x.to then y.to else x.to)
   ·rw [if_pos hq];simp only [gt_iff_lt] at hq;simp only [OU,vv,vf,reduceCtorEq,reduceAdd,reduceEqDiff,hx,hy,(show (j:Int)<(o.length:Int) by omega),Span.enc,Cm,AS (show j<4611686018427387904 by omega),hq,Rd.AT,le_refl,(show u.out.length+1≤1073741824 by omega),map_append,map_cons,map_nil,length_append]
   ·rw [if_neg hq];simp only [gt_iff_lt] at hq;simp only [OU,vv,vf,reduceCtorEq,reduceAdd,reduceEqDiff,hx,hy,(show (j:Int)<(o.length:Int) by omega),Span.enc,AS (show j<4611686018427387904 by omega),hq,Rd.AT]
  ·split at he
   ·cases he;simp;omega
   ·cases he;omega
  ·simp only [OU,vv,vf,reduceCtorEq,reduceAdd,reduceEqDiff,lt_irrefl,AS (show i<4611686018427387904 by omega)]
 ·cases he;rw [It];have:=List.length_filterMap_le (piece x) o;simp only [length_append];omega
 ·simp only [US,vv,vf,reduceCtorEq,reduceAdd,reduceEqDiff,lt_irrefl,Cm]
theorem NN:∀(l:List Span) (f:Int),(HV f l).length≤l.length+1
 |[],f=>by unfold HV;split<;>simp
 |x::l,f=>by
  have:=NN l x.to;unfold HV;split
  ·simp;omega
  ·simp;omega
theorem s134 (a b:List Span):AL C 134 [.sl 2 (a.map Span.enc),.sl 2 (b.map Span.enc)] (LV a b):=by
 refine AL.of (fun n=>e134 n _ _) ?_;unfold LV;by_cases hc:A8 a=0∧A8 b=0
 ·rw [if_pos hc];have la:=BC hc.1;have lb:=BC hc.2;have hu:Qd a b=min_ a b:=min_eq ((Aj a).1 hc.1).2.1 ((Aj b).1 hc.2).2.1 ((Aj a).1 hc.1).2.2 ((Aj b).1 hc.2).2.2;have lo:=NN b (-1152921504606846976);refine ((s132 a b).and ((s151 b lb).and ((s150 a (HV (-1152921504606846976) b) la (by omega)).and (s133 (HP a (HV (-1152921504606846976) b)))))).mono fun n h => ?_;obtain ⟨h1,h2,h3,h4⟩:=h;rw [← hu];unfold Qd;simp only [fin] at h4 ⊢;by_cases hq:1000<(HP a (HV (-1152921504606846976) b)).length
  ·simp only [hq,if_true] at h4 ⊢;simp only [h1,hc,vv,vf,reduceCtorEq,reduceAdd,reduceEqDiff,not_true_eq_false,h2,h3,h4]
  ·simp only [hq,if_false] at h4 ⊢;simp only [h1,hc,vv,vf,reduceCtorEq,reduceAdd,reduceEqDiff,not_true_eq_false,h2,h3,h4]
 ·rw [if_neg hc];refine (s132 a b).mono fun n h => ?_;simp only [h,hc,vv,vf,reduceCtorEq,reduceAdd,reduceEqDiff,not_false_eq_true]
end Ab
set_option linter.unusedVariables false
set_option linter.unusedSimpArgs false
namespace Ab
open Go
def Qe (a b:List Span):List Span:=if A8 a=0∧A8 b=0 then (if 1000<(min_ a b).length then [] else min_ a b) else []
def Yd (a b:List Span):Int:=if A8 a=0∧A8 b=0 then (if 1000<(min_ a b).length then 4 else 0) else 1
theorem PR (a b:List Span):LV a b=[.sl 2 ((Qe a b).map Span.enc),tI (Yd a b)]:=by
 unfold LV Qe Yd fin;split
 ·split<;>rfl
 ·rfl
def DA (a b:List Span):List Span:=if A8 a=0∧A8 b=0 then (if 1000<(uni a b).length then [] else uni a b) else []
def DB (a b:List Span):Int:=if A8 a=0∧A8 b=0 then (if 1000<(uni a b).length then 4 else 0) else 1
theorem Eb (a b:List Span):LA a b=[.sl 2 ((DA a b).map Span.enc),tI (DB a b)]:=by
 unfold LA DA DB fin;split
 ·split<;>rfl
 ·rfl
def Aa (d:ByteArray):List Span:=[⟨0,d.size⟩]
def DU (s:Snd):List Span:=Qe (Aa s.data) s.acked
theorem s142 (d:ByteArray):AL C 142 [.str d] [.sl 2 ((Aa d).map Span.enc)]:=AL.of (fun n=>e142 n _) (Ev.of fun n=>rfl)
theorem s119 (s:Snd):AL C 119 s.enc [.sl 2 ((DU s).map Span.enc)]:=by refine AL.of (fun n=>e119 n _ _ _ _ _ _ _ _ _ _ _ _ _ _ _) ?_;refine ((s142 s.data).and (s141 (Aa s.data) s.acked)).mono fun n h => ?_;obtain ⟨h1,h2⟩:=h;rw [PR] at h2;simp only [h1,h2,vv,vf,reduceCtorEq,reduceAdd,reduceEqDiff];rfl
theorem Xr (s:Snd):AL C 111 s.enc [.sl 2 ((DU s).map Span.enc)]:=by refine AL.of (fun n=>e111 n _ _ _ _ _ _ _ _ _ _ _ _ _ _ _) ?_;refine (s134 (Aa s.data) s.acked).mono fun n h2 => ?_;rw [PR] at h2;simp only [Aa,map_cons,map_nil,Span.enc] at h2;simp only [h2,vv,vf,reduceCtorEq,reduceAdd,reduceEqDiff];rfl
def complete (s:Snd):Bool:=decide (s.acked=Aa s.data)
theorem s185 (s:Snd) (hl:s.acked.length≤1000):AL C 185 s.enc [.bool (complete s)]:=by refine AL.of (fun n=>e185 n _ _ _ _ _ _ _ _ _ _ _ _ _ _ _) ?_;refine ((s142 s.data).and (s213 s.acked (Aa s.data) (by omega))).mono fun n h => ?_;simp only [h.1,h.2,vv,vf,reduceCtorEq,reduceAdd,reduceEqDiff,complete]
def T3 (s:Snd):Int:=s.busy+2*s.c.rng+1
theorem s117 (s:Snd) (h : -4611686018427387904≤s.busy∧s.busy≤2305843009213693952∧0≤s.c.rng∧s.c.rng≤1048576):AL C 117 s.enc [tI (T3 s)]:=by refine AL.of (fun n=>e117 n _ _ _ _ _ _ _ _ _ _ _ _ _ _ _) (Ev.of fun n => ?_);rw [AP (x:=2*s.c.rng) (by omega) (by omega),AP (x:=s.busy+2*s.c.rng) (by omega) (by omega),AP (by omega) (by omega)];rfl
theorem s116 (s:Snd):AL C 116 s.enc (Snd.enc {s with due:=0,st:=3}):=AL.of (fun n=>e116 n _ _ _ _ _ _ _ _ _ _ _ _ _ _ _) (Ev.of fun n=>rfl)
def Cu (s:Snd):Prop:=(0≤s.ses∧s.ses≤1099511627776)∧(1≤s.data.size∧s.data.size≤65536)∧(s.c.start≤s.busy∧s.busy≤s.fin)∧s.fin≤s.c.fin∧(1≤s.ser∧s.ser≤1099511627776)
instance (s:Snd):Decidable (Cu s):=by unfold Cu;exact inferInstance
def Ma (s:Snd):Prop:=A8 s.acked=0∧(s.acked=[]∨0≤EP s.acked∧Ei s.acked≤s.data.size)
instance (s:Snd):Decidable (Ma s):=by unfold Ma;exact inferInstance
def FT (s:Snd):Int:=if HX s.c≠0 then 1 else if ¬Cu s then 2 else if ¬Ma s then 1 else 0
theorem s184 (s:Snd):AL C 184 s.enc [tI (FT s)]:=by
 refine AL.of (fun n=>e184 n _ _ _ _ _ _ _ _ _ _ _ _ _ _ _) ?_;refine ((s55 s.c).and ((s92 s.ses 0 1099511627776).and ((s92 (s.data.size:Int) 1 65536).and ((s92 s.busy s.c.start s.fin).and ((s92 s.ser 1 1099511627776).and (s67 s.acked)))))).mono fun n h => ?_;obtain ⟨h1,h2,h3,h4,h5,h6⟩:=h;simp only [Con.enc] at h1;unfold FT;by_cases hc:HX s.c=0
 ·have hJ:∀(hp:Heap),Ua n (s.acked.map Span.enc) s.data (([.t (.bool (decide (¬Cu s)))],hp):List AV×Heap)=some [tI (if ¬Cu s then 2 else if ¬Ma s then 1 else 0)]:=by
   intro hp;simp only [Ua,vv,vf,reduceCtorEq,reduceAdd,reduceEqDiff,h6,Span.enc];by_cases hr:Cu s
   ·simp only [hr,vv,vf,reduceCtorEq,reduceAdd,reduceEqDiff,not_true_eq_false,Ma];by_cases ha:A8 s.acked=0
    ·by_cases hl:s.acked=[]
     ·simp [hl,ha,AB];simp [A8,Bd]
     ·obtain ⟨g1,g2⟩:=Iw hl;obtain ⟨g3,g4⟩:=Iq hl;have hp:=length_pos_iff.2 hl;have hm:=BC ha;rw [AP (x:=(s.acked.length:Int)-1) (by omega) (by omega)];simp only [ha,bne_self_eq_false,vv,vf,reduceCtorEq,reduceAdd,reduceEqDiff,(show (0:Int)<(s.acked.length:Int) by omega),g1,g2,g4,(show ((s.acked.length:Int)-1).toNat=s.acked.length-1 by omega),g3,Span.enc,(show (0:Int)≤(s.acked.length:Int)-1 by omega),hl];simp only [AB]
      (repeat' split)<;>first|rfl|(exfalso;omega)
    ·simp [ha,AB]
   ·simp [hr,AB]
  simp only [h1,h2,h3,h4,h5,hc,vv,vf,reduceCtorEq,reduceAdd,reduceEqDiff,bne_self_eq_false,wi,ne_eq,not_true_eq_false];have hT:(decide (¬Cu s))=true↔¬Cu s:=decide_eq_true_iff;by_cases q1:0≤s.ses∧s.ses≤1099511627776
  ·by_cases q2:1≤s.data.size∧s.data.size≤65536
   ·have q2':(1:Int)≤(s.data.size:Int)∧(s.data.size:Int)≤65536:=by omega
    by_cases q3:s.c.start≤s.busy∧s.busy≤s.fin
    ·by_cases q4:s.c.fin<s.fin
     ·have:(true:Bool)=decide (¬Cu s):=by symm;rw [decide_eq_true_eq];unfold Cu;omega
      simp only [q1,q2',q3,q4,vv,vf,reduceCtorEq,reduceAdd,reduceEqDiff];rw [this];exact hJ _
     ·have:(!decide (1≤s.ser∧s.ser≤1099511627776))=decide (¬Cu s):=by
       rw [Bool.eq_iff_iff,decide_eq_true_eq,not_eq_true',decide_eq_false_iff_not];unfold Cu;constructor
       ·intro h h2;exact h h2.2.2.2.2
       ·intro h h2;exact h ⟨q1,q2,q3,by omega,h2⟩
      simp only [q1,q2',q3,q4,vv,vf,reduceCtorEq,reduceAdd,reduceEqDiff];rw [this];exact hJ _
    ·have:(true:Bool)=decide (¬Cu s):=by symm;rw [decide_eq_true_eq];unfold Cu;omega
     simp only [q1,q2',q3,vv,vf,reduceCtorEq,reduceAdd,reduceEqDiff];rw [this];exact hJ _
   ·have q2':¬((1:Int)≤(s.data.size:Int)∧(s.data.size:Int)≤65536):=by omega
    have:(true:Bool)=decide (¬Cu s):=by symm;rw [decide_eq_true_eq];unfold Cu;omega
    simp only [q1,q2',vv,vf,reduceCtorEq,reduceAdd,reduceEqDiff];rw [this];exact hJ _
  ·have:(true:Bool)=decide (¬Cu s):=by symm;rw [decide_eq_true_eq];unfold Cu;omega
   simp only [q1,vv,vf,reduceCtorEq,reduceAdd,reduceEqDiff];rw [this];exact hJ _
 ·simp [h1,hc,AB,vv,vf,reduceCtorEq,reduceAdd,reduceEqDiff]
end Ab
set_option linter.unusedVariables false
set_option linter.unusedSimpArgs false
namespace Ab
open Go
def fits (s:Snd):Bool:=decide ((s.st=1∧complete s=false∧s.due=T3 s)∨(s.st=2∧complete s=true∧s.due=0)∨(s.st=3∧s.due=0))
def Fj (s:Snd):Int:=if FT s≠0 then FT s else if fits s=true then 0 else 19
theorem DJ {s:Snd} (h:FT s=0):HX s.c=0∧Cu s∧Ma s:=by
 unfold FT at h;split at h
 ·cases h
 ·rename_i h1;split at h
  ·cases h
  ·rename_i h2;split at h
   ·cases h
   ·rename_i h3;exact ⟨by omega,not_not.1 h2,not_not.1 h3⟩
theorem ED {c:Con} (h:HX c=0):F1 c∧0≤c.start∧c.start<c.fin∧c.fin≤1099511627776-2*c.rng:=by
 unfold HX at h;split at h
 ·cases h
 ·rename_i h1;split at h
  ·cases h
  ·split at h
   ·cases h
   ·rename_i h3;exact ⟨not_not.1 h1,by omega⟩
theorem due_ok {s:Snd} (h:FT s=0) : -4611686018427387904≤s.busy∧s.busy≤2305843009213693952∧0≤s.c.rng∧s.c.rng≤1048576:=by obtain ⟨h1,h2,h3⟩:=DJ h;obtain ⟨c1,c2⟩:=ED h1;unfold F1 at c1;unfold Cu at h2;omega
theorem TV (s:Snd):AL C 164 s.enc [tI (Fj s)]:=by
 refine AL.of (fun n=>e164 n _ _ _ _ _ _ _ _ _ _ _ _ _ _ _) ?_;unfold Fj;by_cases hc:FT s=0
 ·have hl:=BC (DJ hc).2.2.1;refine ((s184 s).and ((s185 s hl).and (s117 s (due_ok hc)))).mono fun n h => ?_;obtain ⟨h1,h2,h3⟩:=h;simp only [Snd.enc] at h1 h2 h3;simp only [h1,h2,h3,hc,vv,vf,reduceCtorEq,reduceAdd,reduceEqDiff,bne_self_eq_false,Zh,IX,ne_eq,not_true_eq_false,fits];simp only [AB,beq_iff_eq,not_eq_true',decide_eq_false_iff_not];by_cases k1:s.st=1
  ·cases complete s<;>simp [k1];by_cases k2:s.due=T3 s<;>simp [k2]
  ·by_cases k2:s.st=2
   ·cases complete s<;>simp [k1,k2];by_cases k3:s.due=0<;>simp [k3]
   ·by_cases k3:s.st=3
    ·simp [k1,k2,k3];by_cases k4:s.due=0<;>simp [k4]
    ·simp [k1,k2,k3]
 ·refine (s184 s).mono fun n h1 => ?_;simp only [Snd.enc] at h1;simp [h1,hc,AB,vv,vf,reduceCtorEq,reduceAdd,reduceEqDiff]
theorem Qy {l:List Span} {b:Int} (h:Canon b l) (hl:l≠[]):∀x∈l,EP l≤x.fro∧x.to≤Ei l:=by
 induction l generalizing b with
 |nil=>exact (hl rfl).elim
 |cons y l ih=>
  intro x hx;cases l with
  |nil=>
   simp only [mem_singleton] at hx;subst hx;exact ⟨Int.le_refl _,Int.le_refl _⟩
  |cons z l=>
   have e:Ei (y::z::l)=Ei (z::l):=by unfold Ei;rw [List.getLast?_cons_cons]
   rw [e];have k:=ih h.2.2 (by simp);have hz:EP (z::l)=z.fro:=rfl;have hy:EP (y::z::l)=y.fro:=rfl;have h1:=h.2.1;have h2:=h.2.2.1;rw [hy];rcases mem_cons.1 hx with rfl|hx
   ·have:=k z (by simp);have:=h.2.2.2.1;omega
   ·have:=k x hx;omega
theorem head_mem {l:List Span} (hl:l≠[]):∃x∈l,EP l=x.fro:=⟨l.head hl,List.head_mem hl,(Iw hl).2⟩
theorem Yk {l:List Span} (hl:l≠[]):∃x∈l,Ei l=x.to:=⟨l.getLast hl,List.getLast_mem hl,(Iq hl).2⟩
def BZ (l:List Span) (n:Int):Prop:=∀x∈l,0≤x.fro∧x.to≤n
instance (l:List Span) (n:Int):Decidable (BZ l n):=by unfold BZ;exact inferInstance
theorem B4 {l:List Span} {n:Int} (h:A8 l=0):(l=[]∨0≤EP l∧Ei l≤n)↔BZ l n:=by
 have hc:=((Aj l).1 h).2.1;by_cases hl:l=[]
 ·subst hl;simp [BZ]
 ·constructor
  ·rintro (h|h)
   ·exact (hl h).elim
   ·intro x hx;have:=Qy hc hl x hx;omega
  ·intro hw;obtain ⟨x,hx,e1⟩:=head_mem hl;obtain ⟨y,hy,e2⟩:=Yk hl;have:=hw x hx;have:=hw y hy;omega
theorem Ea {l:List Span} {n t:Int} (h:BZ l n) (m:Ac t l):0≤t∧t<n:=by
 induction l with
 |nil=>exact m.elim
 |cons x l ih=>
  rcases m with m|m
  ·have:=h x (by simp);omega
  ·exact ih (fun y hy=>h y (by simp [hy])) m
theorem Gn {l:List Span} {b n:Int} (h:Canon b l) (hm:∀t,Ac t l→0≤t∧t<n):BZ l n:=by
 induction l generalizing b with
 |nil=>intro x hx;cases hx
 |cons x l ih=>
  intro y hy;rcases mem_cons.1 hy with rfl|hy
  ·have:=h.2.1;have:=hm y.fro (.inl ⟨by omega,by omega⟩);have:=hm (y.to-1) (.inl ⟨by omega,by omega⟩);omega
  ·exact ih h.2.2 (fun t m=>hm t (.inr m)) y hy
theorem FW {d:ByteArray} (h:1≤d.size∧d.size≤65536):A8 (Aa d)=0:=by rw [Aj];refine ⟨by simp [Aa],⟨by simp only;omega,by simp only;omega,trivial⟩,fun x hx => ?_⟩;simp only [Aa,mem_singleton] at hx;subst hx;simp only;omega
theorem W6 {l:List Span}:∀{b n:Int},Canon b l→b<n→(∀x∈l,x.to≤n)→(l.length:Int)≤n-b:=by
 induction l with
 |nil=>intro b n _ h _;simp;omega
 |cons x l ih=>
  intro b n h hb ht;have h1:=h.1;have h2:=h.2.1;by_cases he:x.to<n
  ·have:=ih h.2.2 he (fun y hy=>ht y (by simp [hy]));simp only [length_cons];omega
  ·cases l with
   |nil=>simp;omega
   |cons y l=>
    have:=h.2.2.1;have:=h.2.2.2.1;have:=ht y (by simp);omega
theorem Ip {d:ByteArray} {a:List Span} (hd:1≤d.size∧d.size≤65536) (ha:A8 a=0) (hw:BZ a d.size) :
  Canon (-1152921504606846977) (min_ (Aa d) a)∧BZ (min_ (Aa d) a) d.size∧∀t,Ac t (min_ (Aa d) a)↔(0≤t∧t<d.size)∧¬Ac t a:=by
 obtain ⟨k1,k2⟩:=SK ((Aj _).1 (FW hd)).2.1 ((Aj _).1 ha).2.1;have hm:∀t,Ac t (min_ (Aa d) a)↔(0≤t∧t<d.size)∧¬Ac t a:=fun t=>by rw [k2 t];simp [Aa,Ac]
 exact ⟨k1,Gn k1 fun t m=>((hm t).1 m).1,hm⟩
theorem H6 {d:ByteArray} {a:List Span} (hd:1≤d.size∧d.size≤65536) (ha:A8 a=0) (hw:BZ a d.size):min_ (Aa d) a=[]↔a=Aa d:=by
 obtain ⟨k1,k2,k3⟩:=Ip hd ha hw;constructor
 ·intro h;rw [h] at k3;refine Dk ((Aj _).1 ha).2.1 ((Aj _).1 (FW hd)).2.1 fun t => ?_;have:=k3 t;simp only [Ac,false_iff] at this;simp only [Aa,Ac,or_false];constructor
  ·exact fun m=>Ea hw m
  ·intro h;exact not_not.1 fun hn=>this ⟨h,hn⟩
 ·intro h;cases hm:min_ (Aa d) a with
  |nil=>rfl
  |cons x l=>
   rw [hm] at k1 k3;have:=(k3 x.fro).1 (.inl ⟨Int.le_refl _,k1.2.1⟩);rw [h] at this;exact (this.2 (by simp only [Aa,Ac];exact .inl this.1)).elim
end Ab
set_option linter.unusedVariables false
set_option linter.unusedSimpArgs false
namespace Ab
open Go
theorem VY {d:ByteArray} {a:List Span} (hd:1≤d.size∧d.size≤65536) (ha:A8 a=0):(min_ (Aa d) a).length≤a.length+1:=by
 have h1:=(Aj _).1 (FW hd);have h2:=(Aj _).1 ha;rw [← min_eq h1.2.1 h2.2.1 h1.2.2 h2.2.2];have e:Qd (Aa d) a=(HV (-1152921504606846976) a).filterMap (piece ⟨0,d.size⟩):=by show List.flatMap _ [_]=_;simp
 rw [e];exact le_trans (List.length_filterMap_le _ _) (NN _ _)
theorem QH {a b:List Span} (ha:A8 a=0) (hb:A8 b=0):(uni a b).length≤a.length+b.length:=by
 rw [← XO ((Aj _).1 ha).2.1 ((Aj _).1 hb).2.1];clear ha hb
 induction b generalizing a with
 |nil=>simp [GX]
 |cons x b ih=>
  have h1:=ih (a:=HW x a);have h2:=Ni x a;show (GX (HW x a) b).length≤_;simp only [length_cons];omega
theorem left_eq {s:Snd} (hd:1≤s.data.size∧s.data.size≤65536) (ha:A8 s.acked=0) (hk:s.acked.length≤900):DU s=min_ (Aa s.data) s.acked:=by have:=VY hd ha;unfold DU Qe;rw [if_pos ⟨FW hd,ha⟩,if_neg (by omega)]
theorem SL {s:Snd} (hd:1≤s.data.size∧s.data.size≤65536) (ha:A8 s.acked=0) (hw:BZ s.acked s.data.size) (hk:s.acked.length≤900):(DU s).length=0↔complete s=true:=by rw [left_eq hd ha hk,length_eq_zero_iff,H6 hd ha hw];unfold complete;rw [decide_eq_true_eq]
def Kt (n:Int) (i:Nat) (_:Unit) (x:Span):Rd Unit Bool:=if 0≤x.fro∧x.to≤n then .next () else .done false
theorem Vz (n:Int):∀(l:List Span) (i:Nat),Bd (Kt n) (fun _=>true) i l ()=decide (BZ l n)
 |[],i=>by simp [Bd,BZ]
 |x::l,i=>by
  have:=Vz n l (i+1);simp only [Bd,Kt];by_cases h:0≤x.fro∧x.to≤n
  ·rw [if_pos h];simp only;rw [this,Bool.eq_iff_iff,decide_eq_true_eq,decide_eq_true_eq];unfold BZ;simp [h]
  ·rw [if_neg h];simp only;symm;rw [decide_eq_false_iff_not];exact fun hw=>h (hw x (by simp))
theorem Rk (s:Snd) (hk:s.acked.length≤900):AL C 110 s.enc [tI (Fj s)]:=by
 refine AL.of (fun n=>e110 n _ _ _ _ _ _ _ _ _ _ _ _ _ _ _) ?_;unfold Fj;by_cases hc:HX s.c=0
 ·
  have hJ:Ev fun n=>L2 n (s.acked.map Span.enc) s.data s.c.frm s.c.dst s.c.start s.c.fin s.c.rate s.c.rng s.c.loss s.ses s.fin s.busy s.ser s.due s.st (([.t (.bool (decide (¬Cu s)))],[]):List AV×Heap)=some [tI (if FT s≠0 then FT s else if fits s=true then 0 else 19)]:=by
   unfold FT;by_cases hr:Cu s
   ·by_cases ha:A8 s.acked=0
    ·have hla:=BC ha;have hin:=B4 (n:=s.data.size) ha;have key:Ev fun n=>AH (fun (p19:List AV×Heap) again=>RA n (s.acked.map Span.enc) s.data s.c.frm s.c.dst s.c.start s.c.fin s.c.rate s.c.rng s.c.loss s.ses s.fin s.busy s.ser s.due s.st p19 again) n (([.t (tI 0)],[]):List AV×Heap)=some [tI (if decide (BZ s.acked s.data.size)=true then (if fits s=true then 0 else 19) else 1)]:=by
      refine Ad (fun (b:Bool)=>[tI (if b=true then (if fits s=true then 0 else 19) else 1)]) s.acked (fun i (_:Unit)=>(([.t (tI i)],[]):List AV×Heap)) (Kt s.data.size) (fun _=>true) (fun i _=>∀(j:Nat) x,j<i→s.acked[j]? = some x→0≤x.fro∧x.to≤s.data.size) () rfl (fun j x hj=>by omega) (r:=decide (BZ s.acked s.data.size)) (Vz _ _ 0) ?_ ?_ ?_
      ·intro i u x hx hI;refine Ev.of fun n again => ?_;have hi:=AM hx;simp only [RA,vv,vf,reduceCtorEq,reduceAdd,reduceEqDiff,hx,(show (i:Int)<(s.acked.length:Int) by omega),Span.enc,AS (show i<4611686018427387904 by omega),Kt];by_cases h1:x.fro<0
       ·simp [h1,(show ¬0≤x.fro by omega),AB,Rd.Ar]
       ·by_cases h2:(s.data.size:Int)<x.to
        ·simp [h1,h2,(show ¬x.to≤(s.data.size:Int) by omega),AB,Rd.Ar]
        ·simp [h1,h2,(show 0≤x.fro by omega),(show x.to≤(s.data.size:Int) by omega),AB,Rd.AT]
      ·intro i u x u' hx hI he j y hj hy;unfold Kt at he;split at he
       ·rename_i hq;rcases lt_or_ge j i with h|h
        ·exact hI j y h hy
        ·obtain rfl:j=i:=by omega
         rw [hx] at hy;cases hy;exact hq
       ·cases he
      ·intro u hI;have hw:BZ s.acked s.data.size:=fun x hx=>by obtain ⟨j,hj,rfl⟩:=List.mem_iff_getElem.1 hx;exact hI j _ hj (getElem?_eq_getElem hj)
       have hl:=SL hr.2.1 ha hw hk;have hd:w64 (w64 (s.busy+w64 (2*s.c.rng))+1)=T3 s:=by have hr':=hr;have hcc:=ED hc;unfold Cu at hr';unfold F1 at hcc;rw [AP (x:=2*s.c.rng) (by omega) (by omega),AP (x:=s.busy+2*s.c.rng) (by omega) (by omega),AP (by omega) (by omega)];rfl
       refine (Xr s).mono fun n h again => ?_;simp only [Snd.enc] at h;simp only [RA,vv,vf,reduceCtorEq,reduceAdd,reduceEqDiff,lt_irrefl,h,Zs,fits,hd];have hl':((DU s).length:Int)=0↔complete s=true:=by rw [← hl];omega
       simp only [AB,beq_iff_eq,not_eq_true',hl',beq_eq_false_iff_ne,ne_eq];by_cases k1:s.st=1
       ·cases complete s<;>simp [k1];by_cases k2:s.due=T3 s<;>simp [k2]
       ·by_cases k2:s.st=2
        ·cases complete s<;>simp [k1,k2];by_cases k3:s.due=0<;>simp [k3]
        ·by_cases k3:s.st=3
         ·simp [k1,k2,k3];by_cases k4:s.due=0<;>simp [k4]
         ·simp [k1,k2,k3]
     refine ((s31 s.acked).and key).mono fun n h => ?_;obtain ⟨h1,h2⟩:=h;have hA:Ma s↔BZ s.acked s.data.size:=by unfold Ma;rw [← hin];exact ⟨fun h=>h.2,fun h=>⟨ha,h⟩⟩
     simp only [L2,vv,vf,reduceCtorEq,reduceAdd,reduceEqDiff,hr,not_true_eq_false,h1,ha,bne_self_eq_false,h2,hc,ne_eq,hA];by_cases hw:BZ s.acked s.data.size<;>simp [hw]
    ·have hA:¬Ma s:=fun h=>ha h.1;refine (s31 s.acked).mono fun n h1 => ?_;simp [L2,vv,vf,reduceCtorEq,reduceAdd,reduceEqDiff,hr,h1,ha,hc,hA,AB]
   ·refine Ev.of fun n => ?_;simp [L2,vv,vf,reduceCtorEq,reduceAdd,reduceEqDiff,hr,hc,AB]
  refine ((s72 s.c).and hJ).mono fun n h => ?_;obtain ⟨h1,h2⟩:=h;simp only [Con.enc] at h1;simp only [h1,hc,vv,vf,reduceCtorEq,reduceAdd,reduceEqDiff,bne_self_eq_false];have hb:∀b:Bool,b=decide (¬Cu s)→L2 n (s.acked.map Span.enc) s.data s.c.frm s.c.dst s.c.start s.c.fin s.c.rate s.c.rng s.c.loss s.ses s.fin s.busy s.ser s.due s.st (([.t (.bool b)],[]):List AV×Heap)=some [tI (if FT s≠0 then FT s else if fits s=true then 0 else 19)]:=fun b e=>by rw [e];exact h2
  have hT:∀p:Prop,¬Cu s→true=decide (¬Cu s):=fun p h=>by symm;rw [decide_eq_true_eq];exact h
  by_cases q1:s.ses<0
  ·rw [BK q1];exact hb _ (hT True (by unfold Cu;omega))
  rw [D3 q1];by_cases q2:1099511627776<s.ses
  ·rw [BK q2];exact hb _ (hT True (by unfold Cu;omega))
  rw [D3 q2];by_cases q3:(s.data.size:Int)<1
  ·rw [BK q3];exact hb _ (hT True (by unfold Cu;omega))
  rw [D3 q3];by_cases q4:65536<(s.data.size:Int)
  ·rw [BK q4];exact hb _ (hT True (by unfold Cu;omega))
  rw [D3 q4];by_cases q5:s.busy<s.c.start
  ·rw [BK q5];exact hb _ (hT True (by unfold Cu;omega))
  rw [D3 q5];by_cases q6:s.fin<s.busy
  ·rw [BK q6];exact hb _ (hT True (by unfold Cu;omega))
  rw [D3 q6];by_cases q7:s.c.fin<s.fin
  ·rw [BK q7];exact hb _ (hT True (by unfold Cu;omega))
  rw [D3 q7];by_cases q8:s.ser<1
  ·rw [BK q8];exact hb _ (hT True (by unfold Cu;omega))
  rw [D3 q8];refine hb _ ?_;rw [Bool.eq_iff_iff,decide_eq_true_eq,decide_eq_true_eq];unfold Cu;omega
 ·refine (s72 s.c).mono fun n h1 => ?_;simp only [Con.enc] at h1;simp [h1,hc,AB,vv,vf,reduceCtorEq,reduceAdd,reduceEqDiff,FT]
end Ab
set_option linter.unusedVariables false
set_option linter.unusedSimpArgs false
namespace Ab
open Go
def F8 (a b:Int):Int:=if (a / 16+1)*16<b then (a / 16+1)*16 else b
theorem I2 {a b:Int} (h:a<b):a<F8 a b∧F8 a b≤b:=by unfold F8;split<;>omega
def cut (a b:Int):List (Int×Int):=if h:a<b then (a,F8 a b)::cut (F8 a b) b else []
termination_by (b-a).toNat
decreasing_by have:=I2 h;omega
theorem Kk {a b:Int} (h:a<b):cut a b=(a,F8 a b)::cut (F8 a b) b:=by rw [cut,dif_pos h]
theorem Qr {a b:Int} (h:¬a<b):cut a b=[]:=by rw [cut,dif_neg h]
def raw (d:ByteArray) (ses:Int) (p:Int×Int):Seg:=⟨1,ses,0,p.1,d.size,false,d.extract p.1.toNat p.2.toNat,[]⟩
def GM (d:ByteArray) (ses:Int) (l:List Span):List Seg:=l.flatMap fun x=>(cut x.fro x.to).map (raw d ses)
def EN (ser:Int) (l:List Seg):List Seg:=match l.getLast? with
 |some x=>l.dropLast++[{x with ser:=ser,chk:=true}]
 |none=>[]
structure MS where
 v:Nat
 at_:Int
 out:List Seg
structure NS where
 v:Nat
 out:List Seg
def Gm (d:ByteArray) (ses b:Int) (s:MS):NS:=⟨s.v+(cut s.at_ b).length,s.out++(cut s.at_ b).map (raw d ses)⟩
def ME (d:ByteArray) (ses b:Int) (s:MS):Rd MS NS:=if s.at_<b then .next ⟨s.v+1,F8 s.at_ b,s.out++[raw d ses (s.at_,F8 s.at_ b)]⟩ else .done ⟨s.v,s.out⟩
def UM (b:Int) (K:Int) (s:MS):Prop:=0≤s.at_∧s.at_≤b∧(s.out.length:Int)≤K+s.at_
theorem PN {d:ByteArray} {ses b K:Int} {s s':MS} (h:UM b K s) (he:ME d ses b s = .next s'):UM b K s'∧(b-s'.at_).toNat<(b-s.at_).toNat:=by
 unfold ME at he;split at he
 ·rename_i hq;cases he;have:=I2 hq;unfold UM at h ⊢;simp only [length_append,length_cons,length_nil];omega
 ·cases he
theorem PO {d:ByteArray} {ses b:Int} (s:MS):Gm d ses b s=(ME d ses b s).fin (Gm d ses b):=by
 unfold ME;split
 ·rename_i hq;simp only [Rd.fin,Gm,Kk hq,length_cons,map_cons,append_assoc,cons_append,nil_append];congr 1;omega
 ·rename_i hq;simp [Rd.fin,Gm,Qr hq]
theorem Pk (l:List Seg):take l.length (List.map Seg.enc l)=List.map Seg.enc l:=by rw [take_of_length_le (by simp)]
theorem Yn (d:ByteArray) (ses:Int) (x:Span) (i:Nat) (v:Nat) (out:List Seg) (K:Int) (hx:0≤x.fro∧x.fro<x.to∧x.to≤d.size) (hd:d.size≤65536) (ho:(out.length:Int)≤K+x.fro) (hK:K≤65536000) (hi:i≤1000) (y11:List Tree) (hy:y11=x.enc) (H0:Heap) :
  Ev fun n=>∀z:(List AV×Heap)→Option (List Tree),AH (fun (p12:List AV×Heap) again=>OX n y11 d ses z (([.t (tI i)],H0):List AV×Heap) p12 again) n (([.t (tI x.fro)],[.row false v 8 (out.map Seg.enc),.box [.sref 0 v 0 out.length],.box [],.box []]):List AV×Heap)=
   z (([.t (tI ((i+1:Nat):Int))],[.row false (Gm d ses x.to ⟨v,x.fro,out⟩).v 8 ((Gm d ses x.to ⟨v,x.fro,out⟩).out.map Seg.enc),.box [.sref 0 (Gm d ses x.to ⟨v,x.fro,out⟩).v 0 (Gm d ses x.to ⟨v,x.fro,out⟩).out.length],.box []]):List AV×Heap):=by
 subst hy;refine CB (R:=List Tree) (Z:=(List AV×Heap)→Option (List Tree)) (B:=fun n z p again=>OX n x.enc d ses z (([.t (tI i)],H0):List AV×Heap) p again)
  (fun z (u:NS)=>z (([.t (tI ((i+1:Nat):Int))],[.row false u.v 8 (u.out.map Seg.enc),.box [.sref 0 u.v 0 u.out.length],.box []]):List AV×Heap))
  (fun (s:MS)=>(([.t (tI s.at_)],[.row false s.v 8 (s.out.map Seg.enc),.box [.sref 0 s.v 0 s.out.length],.box [],.box []]):List AV×Heap)) (ME d ses x.to) (UM x.to K) (fun s=>(x.to-s.at_).toNat) (Gm d ses x.to) ⟨v,x.fro,out⟩ rfl ⟨hx.1,by simp only;omega,ho⟩ rfl (fun s hI=>Ev.of fun n z again => ?_) (fun s s' hI he=>PN hI he) (fun s _=>PO s)
 unfold UM at hI;have e0:w64 (w64 (w64 (tdiv s.at_ 16)+1)*16)=(s.at_ / 16+1)*16:=by rw [Ux hI.1,AP (x:=s.at_ / 16) (by omega) (by omega),AP (x:=s.at_ / 16+1) (by omega) (by omega),AP (by omega) (by omega)]
 unfold ME;by_cases hq:s.at_<x.to
 ·have hc:=I2 hq;have e1:(if (s.at_ / 16+1)*16<x.to then (s.at_ / 16+1)*16 else x.to)=F8 s.at_ x.to:=rfl;rw [if_pos hq];simp only [OX,vv,vf,reduceCtorEq,reduceAdd,reduceEqDiff,Span.enc,hq,e0,e1,Pk,(show 0≤F8 s.at_ x.to by omega),(show F8 s.at_ x.to≤(d.size:Int) by omega),hI.1,(show s.at_≤((F8 s.at_ x.to).toNat:Int) by omega),le_refl,(show s.out.length+1≤1073741824 by omega),Rd.AT,map_append,map_cons,map_nil,raw,Seg.enc,length_append]
 ·rw [if_neg hq];simp only [OX,vv,vf,reduceCtorEq,reduceAdd,reduceEqDiff,Span.enc,hq,Rd.Ar,AS (show i<4611686018427387904 by omega)]
theorem inner73 (d:ByteArray) (ses:Int) (l:List Span) (x:Span) (i:Nat) (hxi:l[i]? = some x) (v:Nat) (out:List Seg) (K:Int) (hx:0≤x.fro∧x.fro<x.to∧x.to≤d.size) (hd:d.size≤65536) (ho:(out.length:Int)≤K+x.fro) (hK:K≤65536000) (hi:i≤1000) (H0:Heap) (r0:AV) :
  Ev fun n=>∀z:(List AV×Heap)→Option (List Tree),AH (fun (p12:List AV×Heap) again=>TC n (([r0,.t (tI i)],H0):List AV×Heap) (l.map Span.enc) d ses z p12 again) n (([.sref 0 v 0 out.length,.t (tI x.fro)],[.row false v 8 (out.map Seg.enc)]):List AV×Heap)=
   z (([.sref 0 (Gm d ses x.to ⟨v,x.fro,out⟩).v 0 (Gm d ses x.to ⟨v,x.fro,out⟩).out.length,.t (tI ((i+1:Nat):Int))],[.row false (Gm d ses x.to ⟨v,x.fro,out⟩).v 8 ((Gm d ses x.to ⟨v,x.fro,out⟩).out.map Seg.enc)]):List AV×Heap):=by
 refine CB (R:=List Tree) (Z:=(List AV×Heap)→Option (List Tree)) (B:=fun n z p again=>TC n (([r0,.t (tI i)],H0):List AV×Heap) (l.map Span.enc) d ses z p again)
  (fun z (u:NS)=>z (([.sref 0 u.v 0 u.out.length,.t (tI ((i+1:Nat):Int))],[.row false u.v 8 (u.out.map Seg.enc)]):List AV×Heap))
  (fun (s:MS)=>(([.sref 0 s.v 0 s.out.length,.t (tI s.at_)],[.row false s.v 8 (s.out.map Seg.enc)]):List AV×Heap)) (ME d ses x.to) (UM x.to K) (fun s=>(x.to-s.at_).toNat) (Gm d ses x.to) ⟨v,x.fro,out⟩ rfl ⟨hx.1,by simp only;omega,ho⟩ rfl (fun s hI=>Ev.of fun n z again => ?_) (fun s s' hI he=>PN hI he) (fun s _=>PO s)
 unfold UM at hI;have e0:w64 (w64 (s.at_-tmod s.at_ 16)+16)=(s.at_ / 16+1)*16:=by rw [Int.tmod_eq_emod_of_nonneg hI.1,AP (x:=s.at_-s.at_ % 16) (by omega) (by omega),AP (by omega) (by omega)];omega
 unfold ME;by_cases hq:s.at_<x.to
 ·have hc:=I2 hq;have e1:(if (s.at_ / 16+1)*16<x.to then (s.at_ / 16+1)*16 else x.to)=F8 s.at_ x.to:=rfl;rw [if_pos hq];simp only [TC,vv,vf,reduceCtorEq,reduceAdd,reduceEqDiff,hxi,Span.enc,hq,e0,e1,Pk,(show 0≤F8 s.at_ x.to by omega),(show F8 s.at_ x.to≤(d.size:Int) by omega),hI.1,(show s.at_≤((F8 s.at_ x.to).toNat:Int) by omega),le_refl,(show s.out.length+1≤1073741824 by omega),Rd.AT,map_append,map_cons,map_nil,raw,Seg.enc,length_append]
 ·rw [if_neg hq];simp only [TC,vv,vf,reduceCtorEq,reduceAdd,reduceEqDiff,hxi,Span.enc,hq,Rd.Ar,AS (show i<4611686018427387904 by omega)]
end Ab
set_option linter.unusedVariables false
set_option linter.unusedSimpArgs false
namespace Ab
open Go
theorem Qt:∀(k:Nat) (a b:Int),(b-a).toNat≤k→((cut a b).length:Int)≤if a<b then b-a else 0
 |k,a,b,h=>by
  by_cases hq:a<b
  ·rw [Kk hq,if_pos hq];have hc:=I2 hq;cases k with
   |zero=>omega
   |succ k=>
    have:=Qt k (F8 a b) b (by omega);simp only [length_cons];split at this<;>omega
  ·rw [Qr hq,if_neg hq];simp
theorem Ya (d:ByteArray) (ses b:Int) (s:MS) (h:s.at_≤b):((Gm d ses b s).out.length:Int)≤s.out.length+(b-s.at_):=by have:=Qt _ s.at_ b (le_refl _);simp only [Gm,length_append,length_map];split at this<;>omega
def Ls (l:List Span) (n:Int):Prop:=∀x∈l,0≤x.fro∧x.fro<x.to∧x.to≤n
def NP (d:ByteArray) (ses:Int) (_:Nat) (s:NS) (x:Span):Rd NS (List Seg):=.next (Gm d ses x.to ⟨s.v,x.fro,s.out⟩)
theorem YY (d:ByteArray) (ses ser:Int):∀(l:List Span) (i:Nat) (s:NS),Bd (NP d ses) (fun s=>EN ser s.out) i l s=EN ser (s.out++GM d ses l)
 |[],i,s=>by simp [Bd,GM]
 |x::l,i,s=>by simp only [Bd,NP];rw [YY d ses ser l];simp [Gm,GM]
def OInv (i:Nat) (s:NS):Prop:=(s.out.length:Int)≤65536*i∧(i≠0→s.out≠[])
theorem PL {d:ByteArray} {ses:Int} {x:Span} {i:Nat} {s s':NS} (hd:d.size≤65536) (hx:0≤x.fro∧x.fro<x.to∧x.to≤d.size) (h:OInv i s) (he:NP d ses i s x = .next s'):OInv (i+1) s':=by cases he;have:=Ya d ses x.to ⟨s.v,x.fro,s.out⟩ (by simp only;omega);simp only at this;refine ⟨by have:=h.1;omega,fun _ => ?_⟩;simp [Gm,Kk hx.2.1]
theorem SN (pre:List Seg) (x:Seg):List.map Seg.enc (pre++[x])=List.map Seg.enc pre++[x.enc]:=by simp
theorem Nq (l:List (List Tree)) (y:List Tree) (k:Nat) (h:k=l.length):(l++[y])[k]? = some y:=by subst h;rw [getElem?_append_right (le_refl _)];simp
theorem Re (l:List (List Tree)) (y:List Tree) (k:Nat) (h:k=l.length+1):take k (l++[y])=l++[y]:=by subst h;rw [take_of_length_le (by simp)]
theorem Fv (ser:Int) (pre:List Seg) (x:Seg):EN ser (pre++[x])=pre++[{x with ser:=ser,chk:=true}]:=by unfold EN;simp
theorem YU (d:ByteArray) (ses ser:Int) (l:List Span) (hl:l≠[]) (hl2:l.length≤1000) (hd:d.size≤65536) (hs:Ls l d.size) :
  Ev fun n=>AH (fun (p9:List AV×Heap) again=>Q9 n (l.map Span.enc) d ses ser p9 again) n (([.t (tI 0)],[.row false 0 8 [],.box [.sref 0 0 0 0],.box []]):List AV×Heap)=some [.sl 8 ((EN ser (GM d ses l)).map Seg.enc),tI 0]:=by
 refine Ad (R:=List Tree) (fun (q:List Seg)=>[Tree.sl 8 (q.map Seg.enc),tI 0]) l (fun i (s:NS)=>(([.t (tI i)],[.row false s.v 8 (s.out.map Seg.enc),.box [.sref 0 s.v 0 s.out.length],.box []]):List AV×Heap)) (NP d ses) (fun s=>EN ser s.out) OInv ⟨0,[]⟩ rfl ⟨by simp,fun h=>(h rfl).elim⟩ (by rw [YY];rfl)
  (fun i s x hx hI => ?_) (fun i s x s' hx hI he=>PL hd (hs x (mem_of_getElem? hx)) hI he) (fun s hI=>Ev.of fun n again => ?_)
 ·have hi:=AM hx;have hb:=hs x (mem_of_getElem? hx);have key:=Yn d ses x i s.v s.out ((s.out.length:Int)-x.fro) hb hd (by omega) (by have:=hI.1;omega) (by omega) x.enc rfl [.row false s.v 8 (s.out.map Seg.enc),.box [.sref 0 s.v 0 s.out.length],.box []];refine key.mono fun n h again => ?_;have h':=h again;simp only [Span.enc] at h';simp only [Q9,vv,vf,reduceCtorEq,reduceAdd,reduceEqDiff,(show (i:Int)<(l.length:Int) by omega),hx,Span.enc,h',NP,Rd.AT]
 ·have hne:s.out≠[]:=hI.2 (by intro h;exact hl (eq_nil_of_length_eq_zero h));obtain ⟨pre,x,hpx⟩:∃pre x,s.out=pre++[x]:=⟨s.out.dropLast,s.out.getLast hne,(List.dropLast_concat_getLast hne).symm⟩
  have hlen:=hI.1;rw [hpx] at hlen;simp only [length_append,length_cons,length_nil,zero_add] at hlen;have e0:s.out.length=pre.length+1:=by rw [hpx];simp
  have e1:w64 (((pre.length+1:Nat):Int)-1)=(pre.length:Int):=by rw [AP (by omega) (by omega)];omega
  rw [hpx,Fv];simp only [Q9,vv,vf,reduceCtorEq,reduceAdd,reduceEqDiff,lt_irrefl,SN,length_append,e1,(show (pre.length:Int)<((pre.length+1:Nat):Int) by omega),le_refl,Nq (List.map Seg.enc pre) _ pre.length (by simp),J7 (List.map Seg.enc pre) _ _ pre.length (by simp),Re (List.map Seg.enc pre) _ (pre.length+1) (by simp),Seg.enc,take,drop,cons_append,nil_append,Nat.reduceLeDiff]
theorem outer73 (d:ByteArray) (ses ser:Int) (l:List Span) (hl:l≠[]) (hl2:l.length≤1000) (hd:d.size≤65536) (hs:Ls l d.size) :
  Ev fun n=>AH (fun (p9:List AV×Heap) again=>V6 n (l.map Span.enc) d ses ser p9 again) n (([.sref 0 0 0 0,.t (tI 0)],[.row false 0 8 []]):List AV×Heap)=some [.sl 8 ((EN ser (GM d ses l)).map Seg.enc),tI 0]:=by
 refine Ad (R:=List Tree) (fun (q:List Seg)=>[Tree.sl 8 (q.map Seg.enc),tI 0]) l (fun i (s:NS)=>(([.sref 0 s.v 0 s.out.length,.t (tI i)],[.row false s.v 8 (s.out.map Seg.enc)]):List AV×Heap)) (NP d ses) (fun s=>EN ser s.out) OInv ⟨0,[]⟩ rfl ⟨by simp,fun h=>(h rfl).elim⟩ (by rw [YY];rfl)
  (fun i s x hx hI => ?_) (fun i s x s' hx hI he=>PL hd (hs x (mem_of_getElem? hx)) hI he) (fun s hI=>Ev.of fun n again => ?_)
 ·have hi:=AM hx;have hb:=hs x (mem_of_getElem? hx);have key:=inner73 d ses l x i hx s.v s.out ((s.out.length:Int)-x.fro) hb hd (by omega) (by have:=hI.1;omega) (by omega) [.row false s.v 8 (s.out.map Seg.enc)] (.sref 0 s.v 0 s.out.length);refine key.mono fun n h again => ?_;have h':=h again;simp only [V6,vv,vf,reduceCtorEq,reduceAdd,reduceEqDiff,(show (i:Int)<(l.length:Int) by omega),hx,Span.enc,h',NP,Rd.AT]
 ·have hne:s.out≠[]:=hI.2 (by intro h;exact hl (eq_nil_of_length_eq_zero h));obtain ⟨pre,x,hpx⟩:∃pre x,s.out=pre++[x]:=⟨s.out.dropLast,s.out.getLast hne,(List.dropLast_concat_getLast hne).symm⟩
  have hlen:=hI.1;rw [hpx] at hlen;simp only [length_append,length_cons,length_nil,zero_add] at hlen;have e0:s.out.length=pre.length+1:=by rw [hpx];simp
  have e1:w64 (((pre.length+1:Nat):Int)-1)=(pre.length:Int):=by rw [AP (by omega) (by omega)];omega
  rw [hpx,Fv];simp only [V6,vv,vf,reduceCtorEq,reduceAdd,reduceEqDiff,lt_irrefl,SN,length_append,e1,(show (pre.length:Int)<((pre.length+1:Nat):Int) by omega),le_refl,Nq (List.map Seg.enc pre) _ pre.length (by simp),J7 (List.map Seg.enc pre) _ _ pre.length (by simp),Re (List.map Seg.enc pre) _ (pre.length+1) (by simp),Seg.enc,take,drop,cons_append,nil_append,Nat.reduceLeDiff]
def HY (ses ser:Int) (d:ByteArray) (l:List Span):Int:=if ¬((0≤ses∧ses≤1099511627776)∧(1≤ser∧ser≤1099511627776)) then 2 else if d.size=0 then 20 else if 65536<d.size then 4 else if inside l d.size=false then 1 else if l=[] then 20 else 0
def CY (ses ser:Int) (d:ByteArray) (l:List Span):List Seg:=if HY ses ser d l=0 then EN ser (GM d ses l) else []
theorem Is {l:List Span} {n:Int} (h:inside l n=true):Ls l n∧l.length≤1000:=by unfold inside at h;have h:=of_decide_eq_true h;have hw:=(B4 h.1).1 h.2;have hc:=((Aj l).1 h.1).2.1;exact ⟨fun x hx=>by have:=hw x hx;have:=Kl hc x hx;omega,BC h.1⟩
theorem s118 (ses ser:Int) (d:ByteArray) (l:List Span):AL C 118 [tI ses,tI ser,.str d,.sl 2 (l.map Span.enc)] [.sl 8 ((CY ses ser d l).map Seg.enc),tI (HY ses ser d l)]:=by
 refine AL.of (fun n=>e118 n _ _ _ _) ?_;have hJ:Ev fun n=>Ic n d (l.map Span.enc) ses ser (([.t (.bool (decide (¬((0≤ses∧ses≤1099511627776)∧(1≤ser∧ser≤1099511627776)))))],[]):List AV×Heap)=some [.sl 8 ((CY ses ser d l).map Seg.enc),tI (HY ses ser d l)]:=by
  unfold CY HY;by_cases h1:(0≤ses∧ses≤1099511627776)∧(1≤ser∧ser≤1099511627776)
  ·by_cases h2:d.size=0
   ·exact Ev.of fun n=>by simp [Ic,vv,vf,reduceCtorEq,reduceAdd,reduceEqDiff,h1,h2,AB,Cc]
   ·by_cases h3:65536<d.size
    ·exact Ev.of fun n=>by simp [Ic,vv,vf,reduceCtorEq,reduceAdd,reduceEqDiff,h1,h2,h3,AB,Cc,(show (65536:Int)<(d.size:Int) by omega)]
    ·by_cases h4:inside l d.size=false
     ·refine (s139 l d.size).mono fun n g => ?_;simp [Ic,vv,vf,reduceCtorEq,reduceAdd,reduceEqDiff,h1,h2,h3,g,h4,AB,Cc,(show ¬(65536:Int)<(d.size:Int) by omega)]
     ·have h4':inside l d.size=true:=by simpa using h4
      by_cases h5:l=[]
      ·refine (s139 l d.size).mono fun n g => ?_;subst h5;rw [h4'] at g;simp only [map_nil] at g;simp [Ic,vv,vf,reduceCtorEq,reduceAdd,reduceEqDiff,h1,h2,h3,g,h4',AB,Cc,(show ¬(65536:Int)<(d.size:Int) by omega)]
      ·obtain ⟨g1,g2⟩:=Is h4';refine ((s139 l d.size).and (YU d ses ser l h5 g2 (by omega) g1)).mono fun n g => ?_;have hp:=length_pos_iff.2 h5;simp only [Ic,vv,vf,reduceCtorEq,reduceAdd,reduceEqDiff,h1,not_true_eq_false,Cc,h2,h3,g.1,g.2,h4',h5,(show ¬(65536:Int)<(d.size:Int) by omega),(show ¬((l.length:Int)=0) by omega),beq_iff_eq]
  ·exact Ev.of fun n=>by simp only [Ic,vv,vf,reduceCtorEq,reduceAdd,reduceEqDiff,h1,not_false_eq_true];simp
 refine ((E9 ses 0 1099511627776).and ((E9 ser 1 1099511627776).and hJ)).mono fun n h => ?_;obtain ⟨h1,h2,h3⟩:=h;simp only [h1,h2,vv,vf,reduceCtorEq,reduceAdd,reduceEqDiff,wi];by_cases q1:0≤ses∧ses≤1099511627776
 ·have:(!decide (1≤ser∧ser≤1099511627776))=decide (¬((0≤ses∧ses≤1099511627776)∧(1≤ser∧ser≤1099511627776))):=by rw [Bool.eq_iff_iff,decide_eq_true_eq,not_eq_true',decide_eq_false_iff_not];simp only [q1,true_and,and_self]
  simp only [q1,vv,vf,reduceCtorEq,reduceAdd,reduceEqDiff];rw [this];exact h3
 ·have:(true:Bool)=decide (¬((0≤ses∧ses≤1099511627776)∧(1≤ser∧ser≤1099511627776))):=by symm;rw [decide_eq_true_eq];exact fun h=>q1 h.1
  simp only [q1,vv,vf,reduceCtorEq,reduceAdd,reduceEqDiff];rw [this];exact h3
theorem s73 (ses ser:Int) (d:ByteArray) (l:List Span):AL C 73 [tI ses,tI ser,.str d,.sl 2 (l.map Span.enc)] [.sl 8 ((CY ses ser d l).map Seg.enc),tI (HY ses ser d l)]:=by
 refine AL.of (fun n=>e73 n _ _ _ _) ?_;have hJ:Ev fun n=>MV n d (l.map Span.enc) ses ser (([.t (.bool (decide (¬((0≤ses∧ses≤1099511627776)∧(1≤ser∧ser≤1099511627776)))))],[]):List AV×Heap)=some [.sl 8 ((CY ses ser d l).map Seg.enc),tI (HY ses ser d l)]:=by
  unfold CY HY;by_cases h1:(0≤ses∧ses≤1099511627776)∧(1≤ser∧ser≤1099511627776)
  ·by_cases h2:d.size=0
   ·exact Ev.of fun n=>by simp [MV,vv,vf,reduceCtorEq,reduceAdd,reduceEqDiff,h1,h2,AB]
   ·by_cases h3:65536<d.size
    ·exact Ev.of fun n=>by simp [MV,vv,vf,reduceCtorEq,reduceAdd,reduceEqDiff,h1,h2,h3,AB,(show (65536:Int)<(d.size:Int) by omega)]
    ·by_cases h4:inside l d.size=false
     ·refine (s99 l d.size).mono fun n g => ?_;simp [MV,vv,vf,reduceCtorEq,reduceAdd,reduceEqDiff,h1,h2,h3,g,h4,AB,(show ¬(65536:Int)<(d.size:Int) by omega)]
     ·have h4':inside l d.size=true:=by simpa using h4
      by_cases h5:l=[]
      ·refine (s99 l d.size).mono fun n g => ?_;subst h5;rw [h4'] at g;simp only [map_nil] at g;simp [MV,vv,vf,reduceCtorEq,reduceAdd,reduceEqDiff,h1,h2,h3,g,h4',AB,(show ¬(65536:Int)<(d.size:Int) by omega)]
      ·obtain ⟨g1,g2⟩:=Is h4';refine ((s99 l d.size).and (outer73 d ses ser l h5 g2 (by omega) g1)).mono fun n g => ?_;have hp:=length_pos_iff.2 h5;simp only [MV,vv,vf,reduceCtorEq,reduceAdd,reduceEqDiff,h1,not_true_eq_false,h2,h3,g.1,g.2,h4',h5,(show ¬(65536:Int)<(d.size:Int) by omega),(show ¬((l.length:Int)=0) by omega),(show ¬((d.size:Int)=0) by omega),beq_iff_eq]
  ·exact Ev.of fun n=>by simp only [MV,vv,vf,reduceCtorEq,reduceAdd,reduceEqDiff,h1,not_false_eq_true];simp
 refine ((s98 ses 0 1099511627776).and ((s98 ser 1 1099511627776).and hJ)).mono fun n h => ?_;obtain ⟨h1,h2,h3⟩:=h;simp only [h1,h2,vv,vf,reduceCtorEq,reduceAdd,reduceEqDiff,wi];by_cases q1:0≤ses∧ses≤1099511627776
 ·have:(!decide (1≤ser∧ser≤1099511627776))=decide (¬((0≤ses∧ses≤1099511627776)∧(1≤ser∧ser≤1099511627776))):=by rw [Bool.eq_iff_iff,decide_eq_true_eq,not_eq_true',decide_eq_false_iff_not];simp only [q1,true_and,and_self]
  simp only [q1,vv,vf,reduceCtorEq,reduceAdd,reduceEqDiff];rw [this];exact h3
 ·have:(true:Bool)=decide (¬((0≤ses∧ses≤1099511627776)∧(1≤ser∧ser≤1099511627776))):=by symm;rw [decide_eq_true_eq];exact fun h=>q1 h.1
  simp only [q1,vv,vf,reduceCtorEq,reduceAdd,reduceEqDiff];rw [this];exact h3
end Ab
set_option linter.unusedVariables false
set_option linter.unusedSimpArgs false
namespace Ab
open Go
def Ae (s:Snd):List Seg:=CY s.ses (s.ser+1) s.data (DU s)
theorem s94 (s:Snd) (h : -4611686018427387904≤s.ser∧s.ser≤4611686018427387904):AL C 94 s.enc [.sl 8 ((Ae s).map Seg.enc)]:=by refine AL.of (fun n=>e94 n _ _ _ _ _ _ _ _ _ _ _ _ _ _ _) ?_;refine ((s119 s).and (s118 s.ses (s.ser+1) s.data (DU s))).mono fun n g => ?_;obtain ⟨g1,g2⟩:=g;simp only [Snd.enc] at g1;rw [AP (x:=s.ser+1) (by omega) (by omega)];simp only [g1,g2,vv,vf,reduceCtorEq,reduceAdd,reduceEqDiff,Ae]
def Bq (r:Int):Int→List Seg→List Out
 |_,[]=>[]
 |t,x::l=>⟨t+Cv r x,x⟩::Bq r (t+Cv r x) l
def A4 (r:Int):Int→List Seg→Int
 |t,[]=>t
 |t,x::l=>A4 r (t+Cv r x) l
theorem Di (r:Int):∀(l:List Seg) (t:Int),(Bq r t l).length=l.length
 |[],t=>rfl
 |x::l,t=>by simp [Bq,Di r l]
theorem Eg (r:Int):∀(l:List Seg) (t:Int) (x:Seg),(Bq r t (l++[x]))=Bq r t l++[⟨A4 r t (l++[x]),x⟩]
 |[],t,x=>rfl
 |y::l,t,x=>by show _::Bq r _ (l++[x])=_;rw [Eg r l];rfl
end Ab
set_option linter.unusedVariables false
set_option linter.unusedSimpArgs false
namespace Ab
open Go
structure TS where
 v:Nat
 at_:Int
 out:List Out
theorem t_run {Q:Type} (r:Int) (fin:TS→Q):∀(l:List Seg) (i:Nat) (s:TS),Bd (fun i s x=>(Rd.next ⟨s.v+1,s.at_+Cv r x,s.out++[⟨s.at_+Cv r x,x⟩]⟩:Rd TS Q)) fin i l s=fin ⟨s.v+l.length,A4 r s.at_ l,s.out++Bq r s.at_ l⟩
 |[],i,s=>by simp [Bd,A4,Bq]
 |x::l,i,s=>by simp only [Bd];rw [t_run r fin l];simp [A4,Bq,add_assoc,add_comm 1]
def CJ (s:Snd):Snd:={s with due:=0,st:=3}
def BU (s:Snd) (t ser:Int):Snd:={s with busy:=t,ser:=ser,due:=t+2*s.c.rng+1,st:=1}
def QK (s:Snd) (l:List Seg) (t:Int):List Tree:=if s.fin<A4 s.c.rate t l then (CJ s).enc++[.sl 9 []] else match l.getLast? with
 |some x=>(BU s (A4 s.c.rate t l) x.ser).enc++[.sl 9 ((Bq s.c.rate t l).map Out.enc)]
 |none=>[]
theorem Kg (r:Int):∀(l:List Seg) (t:Int),t≤A4 r t l∧A4 r t l≤t+1000*l.length
 |[],t=>by simp [A4]
 |x::l,t=>by have h1:=J4 r x;have h2:=Kg r l (t+Cv r x);simp only [A4,length_cons];omega
theorem A2 (l:List Out):take l.length (List.map Out.enc l)=List.map Out.enc l:=by rw [take_of_length_le (by simp)]
def Fp:AI :=.box [.t (tI 0),.t (tI 0),.t (tI 0),.t (tI 0),.t (tI 0),.t (tI 0),.t (tI 0),.t (tI 0),.t (.str (ByteArray.mk #[])),.t (tI 0),.t (tI 0),.t (tI 0),.t (.sl 2 []),.t (tI 0),.t (tI 0)]
def Hh (s:Snd):AI :=.box [.t (tI s.c.frm),.t (tI s.c.dst),.t (tI s.c.start),.t (tI s.c.fin),.t (tI s.c.rate),.t (tI s.c.rng),.t (tI s.c.loss),.t (tI s.ses),.t (.str s.data),.t (tI s.fin),.t (tI s.busy),.t (tI s.ser),.t (.sl 2 (s.acked.map Span.enc)),.t (tI s.due),.t (tI s.st)]
theorem M7 (s:Snd) (l:List Seg) (t:Int) (hl:l≠[]) (hl2:l.length≤100000000) (ht:0≤t∧t≤4398046511104) (hr:0≤s.c.rng∧s.c.rng≤1048576):AL C 2004751 (s.enc++[.sl 8 (l.map Seg.enc),tI t]) (QK s l t):=by
 refine AL.of (fun n=>Yv n _ _ _ _ _ _ _ _ _ _ _ _ _ _ _ _ _) ?_;obtain ⟨x,hx⟩:∃x,l.getLast? = some x:=⟨l.getLast hl,List.getLast?_eq_some_getLast hl⟩
 refine Ad (R:=List Tree) (Q:=List Tree) (fun q=>q) l (fun i (u:TS)=>(([.t (tI u.at_),.sref 2 u.v 0 u.out.length,.t (tI i)],[Hh s,Fp,.row false u.v 9 (u.out.map Out.enc)]):List AV×Heap))
  (fun i u x =>.next ⟨u.v+1,u.at_+Cv s.c.rate x,u.out++[⟨u.at_+Cv s.c.rate x,x⟩]⟩) (fun u=>if s.fin<u.at_ then (CJ s).enc++[.sl 9 []] else (BU s u.at_ x.ser).enc++[.sl 9 (u.out.map Out.enc)])
  (fun i u=>u.out.length=i∧0≤u.at_∧u.at_≤4398046511104+1000*i) ⟨0,t,[]⟩ rfl ⟨rfl,ht.1,by simp only;omega⟩ ?_ (fun i u y hy hI => ?_) (fun i u y u' hy hI he => ?_) (fun u hI=>Ev.of fun n again => ?_)
 ·rw [t_run];unfold QK;rw [hx];simp
 ·have hi:=AM hy;have hb:=J4 s.c.rate y;refine (s100 s.c.rate y).mono fun n h again => ?_;simp only [Seg.enc] at h;simp only [G4,Hh,Fp,vv,vf,reduceCtorEq,reduceAdd,reduceEqDiff,hy,(show (i:Int)<(l.length:Int) by omega),Seg.enc,h,AP (x:=u.at_+Cv s.c.rate y) (by omega) (by omega),AS (show i<4611686018427387904 by omega),A2,Rd.AT,le_refl,(show u.out.length+1≤1073741824 by omega),map_append,map_cons,map_nil,Out.enc,length_append]
 ·cases he;have hb:=J4 s.c.rate y;refine ⟨by simp;omega,by simp only;omega,by simp only;omega⟩
 ·have hp:=length_pos_iff.2 hl;have hx':l[l.length-1]? = some x:=by rw [← List.getLast?_eq_getElem?];exact hx
  have hI':=hI.2;by_cases hq:s.fin<u.at_
  ·simp only [G4,Hh,Fp,vv,vf,reduceCtorEq,reduceAdd,reduceEqDiff,lt_irrefl,hq,CJ,Snd.enc,cons_append,nil_append]
  ·simp only [G4,Hh,Fp,vv,vf,reduceCtorEq,reduceAdd,reduceEqDiff,lt_irrefl,hq,AP (x:=(l.length:Int)-1) (by omega) (by omega),(show (0:Int)≤(l.length:Int)-1 by omega),(show ((l.length:Int)-1).toNat=l.length-1 by omega),hx',Seg.enc,A2,AP (x:=2*s.c.rng) (by omega) (by omega),AP (x:=u.at_+2*s.c.rng) (by omega) (by omega),AP (x:=u.at_+2*s.c.rng+1) (by omega) (by omega),BU,Snd.enc,cons_append,nil_append]
end Ab
set_option linter.unusedVariables false
set_option linter.unusedSimpArgs false
namespace Ab
open Go
theorem loop_at {S R α:Type} {B:Nat→S→(S→Option R)→Option R} {s:S} {out:R} (l:List α) (st:Nat→S) (hs:s=st 0)
  (hstep:∀i x,l[i]? = some x→Ev fun n=>∀again,B n (st i) again=again (st (i+1)))
  (hend:Ev fun n=>∀again,B n (st l.length) again=some out):Ev fun n=>AH (B n) n s=some out:=by
 refine Ad (Q:=R) (σ:=Unit) (fun q=>q) l (fun i _=>st i) (fun _ _ _ =>.next ()) (fun _=>out) (fun _ _=>True) () hs trivial ?_ (fun i _ x hx _ => ?_) (fun _ _ _ _ _ _ _=>trivial) (fun _ _=>hend)
 ·have:∀(l:List α) (i:Nat),Bd (fun (_:Nat) (_:Unit) (_:α)=>(Rd.next ():Rd Unit R)) (fun _=>out) i l ()=out:=by
   intro l
   induction l with
   |nil=>intro i;rfl
   |cons x l ih=>intro i;exact ih (i+1)
  exact this l 0
 ·exact (hstep i x hx).mono fun n h again=>by rw [h];rfl
theorem J5 {α:Type} {l:List α} {i:Nat} {x:α} (h:l[i]? = some x):l.take (i+1)=l.take i++[x]:=by rw [List.take_add_one,h];rfl
theorem Pj (r:Int):∀(l:List Seg) (t:Int) (x:Seg),A4 r t (l++[x])=A4 r t l+Cv r x
 |[],t,x=>rfl
 |y::l,t,x=>by simp only [cons_append,A4];exact Pj r l _ x
def BX (s:Snd) (t:Int) (l:List Seg):Snd×List Out:=
 match l.getLast? with
 |none=>(CJ s,[])
 |some x=>if s.fin<A4 s.c.rate t l∨1099511627776<x.ser then (CJ s,[]) else (BU s (A4 s.c.rate t l) x.ser,Bq s.c.rate t l)
def Fe (p:Snd×List Out):List Tree:=p.1.enc++[.sl 9 (p.2.map Out.enc)]
theorem M6 (s:Snd) (t:Int) (l:List Seg) (hl2:l.length≤100000000) (ht:0≤t∧t≤4398046511104) (hr:0≤s.c.rng∧s.c.rng≤1048576):AL C 2005967 (s.enc++[tI t,.sl 8 (l.map Seg.enc)]) (Fe (BX s t l)):=by
 refine AL.of (fun n=>Yu n _ _ _ _ _ _ _ _ _ _ _ _ _ _ _ _ _) ?_;refine loop_at l (fun i=>(([.t (tI i)],[Hh s,Fp,.box [.t (tI (A4 s.c.rate t (l.take i)))],.row false i 9 ((Bq s.c.rate t (l.take i)).map Out.enc),.box [.sref 3 i 0 i],.box []]):List AV×Heap)) rfl (fun i x hx => ?_) ?_
 ·have hi:=AM hx;have hb:=J4 s.c.rate x;have hE:=Kg s.c.rate (l.take i) t;have hL:(l.take i).length=i:=by rw [length_take];omega
  have hO:=Di s.c.rate (l.take i) t;rw [hL] at hE hO;refine (s137 s.c.rate x).mono fun n h again => ?_;simp only [Seg.enc] at h;have e9:take i (List.map Out.enc (Bq s.c.rate t (l.take i)))=List.map Out.enc (Bq s.c.rate t (l.take i)):=by rw [take_of_length_le (by simp [hO])]
  rw [J5 hx,Eg,Pj];simp only [G3,Hh,Fp,vv,vf,reduceCtorEq,reduceAdd,reduceEqDiff,hx,(show (i:Int)<(l.length:Int) by omega),Seg.enc,h,AP (x:=A4 s.c.rate t (l.take i)+Cv s.c.rate x) (by omega) (by omega),AS (show i<4611686018427387904 by omega),e9,hO,le_refl,(show i+1≤1073741824 by omega),map_append,map_cons,map_nil,Out.enc,Nat.add_eq]
 ·rw [take_length];cases hx:l.getLast? with
  |none=>
   rw [List.getLast?_eq_none_iff] at hx;subst hx;refine (s116 s).mono fun n h again => ?_;simp only [Snd.enc] at h;simp only [G3,Hh,Fp,vv,vf,reduceCtorEq,reduceAdd,reduceEqDiff,lt_irrefl,h,Bq,map_nil];simp [AB,Fe,BX,CJ,Snd.enc,h,vv,vf,reduceCtorEq,reduceAdd,reduceEqDiff]
  |some x=>
   obtain ⟨pre,rfl⟩:∃pre,l=pre++[x]:=by rw [List.getLast?_eq_some_iff] at hx;exact hx
   have hE:=Kg s.c.rate (pre++[x]) t;have hO:=Di s.c.rate pre t;have hlen:(pre++[x]).length=pre.length+1:=by simp
   rw [hlen] at hE hl2 ⊢;refine ((s116 s).and (s117 {s with busy:=A4 s.c.rate t (pre++[x]),ser:=x.ser,st:=1} (by simp only;omega))).mono fun n h again => ?_;obtain ⟨h1,h2⟩:=h;simp only [Snd.enc,T3] at h1 h2;have hb:((Bq s.c.rate t pre).map Out.enc++[Out.enc ⟨A4 s.c.rate t (pre++[x]),x⟩])[pre.length]? = some (Out.enc ⟨A4 s.c.rate t (pre++[x]),x⟩):=by rw [getElem?_append_right (by simp [hO])];simp [hO]
   have e1:w64 (((pre.length+1:Nat):Int)-1)=(pre.length:Int):=by rw [AP (by omega) (by omega)];omega
   have e2:¬(((pre.length+1:Nat):Int)=0):=by omega
   have e3:take (pre.length+1) ((Bq s.c.rate t pre).map Out.enc++[Out.enc ⟨A4 s.c.rate t (pre++[x]),x⟩])=(Bq s.c.rate t pre).map Out.enc++[Out.enc ⟨A4 s.c.rate t (pre++[x]),x⟩]:=by rw [take_of_length_le (by simp [hO])]
   rw [Eg];simp only [G3,Hh,Fp,vv,vf,reduceCtorEq,reduceAdd,reduceEqDiff,lt_irrefl,hlen,length_append,map_append,map_cons,map_nil,e1,beq_iff_eq,e2,hb,(show (pre.length:Int)<((pre.length+1:Nat):Int) by omega)];simp only [Out.enc] at e3;simp only [Out.enc,vv,vf,reduceCtorEq,reduceAdd,reduceEqDiff];by_cases q1:s.fin<A4 s.c.rate t (pre++[x])
   ·simp only [G7,q1,vv,vf,reduceCtorEq,reduceAdd,reduceEqDiff,h1,Fe,BX,getLast?_concat,CJ,Snd.enc,map_nil,cons_append,nil_append]
   ·by_cases q2:1099511627776<x.ser
    ·simp only [G7,q1,q2,vv,vf,reduceCtorEq,reduceAdd,reduceEqDiff,h1,Fe,BX,getLast?_concat,CJ,Snd.enc,map_nil,cons_append,nil_append]
    ·simp only [G7,q1,q2,vv,vf,reduceCtorEq,reduceAdd,reduceEqDiff,h2,e3,Fe,BX,getLast?_concat,BU,Snd.enc,Eg,map_append,map_cons,map_nil,Out.enc,cons_append,nil_append]
end Ab
set_option linter.unusedVariables false
set_option linter.unusedSimpArgs false
namespace Ab
open Go
theorem Qs:∀(k:Nat) (a b:Int),(b-a).toNat≤k→∀p∈cut a b,a≤p.1∧p.1<p.2∧p.2≤b∧p.2≤p.1+16
 |k,a,b,h,p,hp=>by
  by_cases hq:a<b
  ·rw [Kk hq] at hp;have hc:=I2 hq;rcases mem_cons.1 hp with rfl|hp
   ·have:F8 a b≤a+16:=by unfold F8;split<;>omega
    exact ⟨Int.le_refl _,hc.1,hc.2,this⟩
   ·cases k with
    |zero=>omega
    |succ k=>
     have:=Qs k (F8 a b) b (by omega) p hp;omega
  ·rw [Qr hq] at hp;cases hp
theorem cut_ne {a b:Int} (h:a<b):cut a b≠[]:=by rw [Kk h];simp
structure Piece (d:ByteArray) (ses:Int) (x:Seg):Prop where
 kind:x.kind=1
 ses_:x.ses=ses
 ser:x.ser=0
 tot:x.tot=d.size
 chk:x.chk=false
 cl:x.AZ=[]
 off:0≤x.off∧x.off<d.size
 sz:1≤x.data.size∧x.data.size≤16
 fit:(x.data.size:Int)≤d.size-x.off
theorem WW {d:ByteArray} {ses:Int} {p:Int×Int} (h:0≤p.1∧p.1<p.2∧p.2≤d.size∧p.2≤p.1+16):Piece d ses (raw d ses p):=by
 have hs:(raw d ses p).data.size=p.2.toNat-p.1.toNat:=by simp only [raw,size_extract];omega
 exact ⟨rfl,rfl,rfl,rfl,rfl,rfl,⟨h.1,by simp only [raw];omega⟩,by omega,by rw [hs];simp only [raw];omega⟩
theorem YP {d:ByteArray} {ses:Int} {x:Seg} (h:Piece d ses x) (hs:0≤ses∧ses≤1099511627776) (hd:1≤d.size∧d.size≤65536):B5 x=0:=by
 have k:=h.kind;have n:Bp x:=by unfold Bp;have:=h.ses_;have:=h.tot;have:=h.off;refine ⟨by omega,by omega,by omega,fun _=>⟨by omega,by omega,fun hc => ?_,fun _=>h.ser⟩⟩;rw [h.chk] at hc;cases hc
 have c:CM x:=by unfold CM;have:=h.tot;have:=h.fit;exact ⟨by omega,by omega,fun _=>⟨h.sz,by omega,h.cl⟩⟩
 unfold B5;rw [if_neg (by omega),if_neg (fun f=>f n),if_neg (fun f=>f c)]
theorem NH {d:ByteArray} {ses:Int} {l:List Span} (h:Ls l d.size):∀x∈GM d ses l,Piece d ses x:=by intro x hx;unfold GM at hx;obtain ⟨y,hy,hx⟩:=mem_flatMap.1 hx;obtain ⟨p,hp,rfl⟩:=mem_map.1 hx;have h1:=h y hy;have h2:=Qs _ y.fro y.to (le_refl _) p hp;exact WW (by omega)
theorem VS {d:ByteArray} {ses:Int} {l:List Span} (h:Ls l d.size) (hl:l≠[]):GM d ses l≠[]:=by
 cases l with
 |nil=>exact absurd rfl hl
 |cons y l=>
  have h1:=h y (by simp);have h2:=cut_ne h1.2.1;unfold GM;rw [List.flatMap_cons];intro e;exact h2 (List.map_eq_nil_iff.1 (List.append_eq_nil_iff.1 e).1)
theorem Ry {d:ByteArray} {ses:Int}:∀{l:List Span} {b n:Int},Canon b l→b<n→(∀x∈l,x.to≤n)→((GM d ses l).length:Int)≤n-b
 |[],b,n,_,h,_=>by simp [GM];omega
 |x::l,b,n,h,hb,ht=>by
  have h1:=h.1;have h2:=h.2.1;have h3:=ht x (by simp);have h4:=Qt _ x.fro x.to (le_refl _);rw [if_pos h2] at h4;have e:(GM d ses (x::l)).length=(cut x.fro x.to).length+(GM d ses l).length:=by unfold GM;rw [List.flatMap_cons,length_append,length_map]
  rw [e];by_cases he:x.to<n
  ·have:=Ry (d:=d) (ses:=ses) h.2.2 he (fun y hy=>ht y (by simp [hy]));omega
  ·cases l with
   |nil=>
    simp only [GM,List.flatMap_nil,length_nil];omega
   |cons y l=>
    have:=h.2.2.1;have:=h.2.2.2.1;have:=ht y (by simp);omega
theorem N5 {l:List Span} {b n:Int} (h:Canon b l) (hw:BZ l n):Canon (-1) l:=by
 cases l with
 |nil=>trivial
 |cons x l=>exact ⟨by have:=hw x (by simp);omega,h.2⟩
structure Bat (d:ByteArray) (ses ser:Int) (l:List Seg):Prop where
 ex:∃pre x,l=pre++[{x with ser:=ser,chk:=true}]∧Piece d ses x∧∀y∈pre,Piece d ses y
 len:(l.length:Int)≤d.size+1
theorem PZ {l:List Span} {n:Int} (h:A8 l=0) (hw:BZ l n):inside l n=true:=by unfold inside;exact decide_eq_true ⟨h,(B4 h).2 hw⟩
theorem Pz {ses ser:Int} {d:ByteArray} {l:List Span} (hs:0≤ses∧ses≤1099511627776) (hr:1≤ser∧ser≤1099511627776) (hd:1≤d.size∧d.size≤65536) (hi:inside l d.size=true) (hl:l≠[]):HY ses ser d l=0:=by unfold HY;rw [if_neg (fun f=>f ⟨hs,hr⟩),if_neg (by omega),if_neg (by omega),if_neg (by rw [hi];simp),if_neg hl]
theorem IF {ses ser:Int} {d:ByteArray} {l:List Span} (h:HY ses ser d l=0):Bat d ses ser (CY ses ser d l):=by
 have h0:=h;unfold HY at h0;split at h0
 ·cases h0
 split at h0
 ·cases h0
 split at h0
 ·cases h0
 split at h0
 ·cases h0
 split at h0
 ·cases h0
 rename_i k1 k2 k3 k4 k5;have k4:inside l d.size=true:=by simpa using k4
 obtain ⟨g1,g2⟩:=Is k4;have hn:=VS (ses:=ses) g1 k5;obtain ⟨pre,x,hx⟩:∃pre x,GM d ses l=pre++[x]:=⟨_,_,(List.dropLast_concat_getLast hn).symm⟩
 have hp:=NH (ses:=ses) g1;rw [hx] at hp;have e:CY ses ser d l=pre++[{x with ser:=ser,chk:=true}]:=by unfold CY;rw [if_pos h,hx,Fv]
 refine ⟨⟨pre,x,e,hp x (by simp),fun y hy=>hp y (by simp [hy])⟩,?_⟩;unfold inside at k4;have k4:=of_decide_eq_true k4;have hw:=(B4 k4.1).1 k4.2;have:=Ry (d:=d) (ses:=ses) (n:=d.size) (N5 ((Aj _).1 k4.1).2.1 hw) (by omega) (fun x hx=>(hw x hx).2);rw [hx] at this;rw [e];simp only [length_append,length_cons,length_nil] at this ⊢;omega
structure FOk (s:Snd):Prop where
 f:FT s=0
 few:s.acked.length≤900
theorem FOk.dat {s:Snd} (h:FOk s):1≤s.data.size∧s.data.size≤65536:=(DJ h.f).2.1.2.1
theorem FOk.ack {s:Snd} (h:FOk s):A8 s.acked=0:=(DJ h.f).2.2.1
theorem FOk.win {s:Snd} (h:FOk s):BZ s.acked s.data.size:=(B4 h.ack).1 (DJ h.f).2.2.2
theorem FOk.left {s:Snd} (h:FOk s):DU s=min_ (Aa s.data) s.acked:=left_eq h.dat h.ack h.few
theorem FOk.H6 {s:Snd} (h:FOk s):DU s=[]↔complete s=true:=by rw [← SL h.dat h.ack h.win h.few,length_eq_zero_iff]
theorem FOk.Yj {s:Snd} (h:FOk s):A8 (DU s)=0:=by rw [h.left];obtain ⟨k1,k2,k3⟩:=Ip h.dat h.ack h.win;have:=VY h.dat h.ack;have:=h.few;have:=h.dat;rw [Aj];exact ⟨by omega,k1,fun x hx=>by have:=k2 x hx;omega⟩
theorem FOk.Yi {s:Snd} (h:FOk s):BZ (DU s) s.data.size:=by rw [h.left];exact (Ip h.dat h.ack h.win).2.1
theorem FOk.rng {s:Snd} (h:FOk s):1≤s.c.rng∧s.c.rng≤1048576∧1≤s.c.rate∧s.c.rate≤1000∧0≤s.c.start∧s.c.fin≤1099511627776-2*s.c.rng:=by obtain ⟨c1,c2⟩:=ED (DJ h.f).1;unfold F1 at c1;omega
theorem FOk.num {s:Snd} (h:FOk s):(0≤s.ses∧s.ses≤1099511627776)∧(s.c.start≤s.busy∧s.busy≤s.fin)∧s.fin≤s.c.fin∧(1≤s.ser∧s.ser≤1099511627776):=by have:=(DJ h.f).2.1;unfold Cu at this;omega
theorem FOk.bat {s:Snd} (h:FOk s) (hc:complete s=false) (hr:s.ser<1099511627776):HY s.ses (s.ser+1) s.data (DU s)=0:=by have:=h.num;refine Pz this.1 (by omega) h.dat (PZ h.Yj h.Yi) fun e => ?_;rw [h.H6.1 e] at hc;cases hc
theorem W9 {s:Snd} (hr:s.ser=1099511627776):Ae s=[]:=by unfold Ae CY;rw [if_neg];unfold HY;rw [if_pos (by omega)];omega
end Ab
set_option linter.unusedVariables false
set_option linter.unusedSimpArgs false
namespace Ab
open Go
def CN:Snd:=⟨⟨0,0,0,0,0,0,0⟩,0,ByteArray.mk #[],0,0,0,[],0,0⟩
def BR (p:Snd×List Out×Int):List Tree:=p.1.enc++[.sl 9 (p.2.1.map Out.enc),tI p.2.2]
def Bg (e:Int):Snd×List Out×Int:=(CN,[],e)
theorem JS {s:Snd} {t:Int} {l:List Seg} {x:Seg} (hx:l.getLast? = some x) (hs:x.ser≤1099511627776):QK s l t=Fe (BX s t l):=by
 unfold QK BX;rw [hx];by_cases hq:s.fin<A4 s.c.rate t l
 ·simp [hq,Fe]
 ·simp [hq,Fe,(show ¬1099511627776<x.ser by omega)]
def BM (c:Con) (ses:Int) (d:ByteArray) (e:Int):Snd:=⟨c,ses,d,e,0,0,[],0,0⟩
def Aq (c:Con) (ses:Int) (d:ByteArray) (b e:Int):Snd×List Out×Int:=
 if HX c≠0 then Bg 1 else if ¬(0≤ses∧ses≤1099511627776) then Bg 2 else if d.size=0 then Bg 20 else if 65536<d.size then Bg 4
 else if b<c.start∨e<b∨c.fin<e then Bg 2
 else if (BX (BM c ses d e) b (CY ses 1 d (Aa d))).1.st=3 then Bg 16
 else ((BX (BM c ses d e) b (CY ses 1 d (Aa d))).1,(BX (BM c ses d e) b (CY ses 1 d (Aa d))).2,0)
theorem Qv:A8 []=0:=by simp [A8,Bd]
theorem Tq {d:ByteArray} (hd:1≤d.size∧d.size≤65536) (s:Snd) (h1:s.data=d) (h2:s.acked=[]):DU s=Aa d:=by
 have e:DU s=min_ (Aa d) []:=by have:=left_eq (s:=s) (by rw [h1];exact hd) (by rw [h2];exact Qv) (by rw [h2];simp);rw [this,h1,h2]
 rw [e];obtain ⟨k1,k2,k3⟩:=Ip (a:=[]) hd Qv (fun x hx=>by cases hx);exact Dk k1 ((Aj _).1 (FW hd)).2.1 fun t=>by rw [k3];simp [Ac,Aa]
theorem XM {d:ByteArray} (hd:1≤d.size∧d.size≤65536):inside (Aa d) d.size=true:=PZ (FW hd) fun x hx=>by simp only [Aa,mem_singleton] at hx;subst hx;exact ⟨Int.le_refl _,Int.le_refl _⟩
theorem LD {ses:Int} {d:ByteArray} (hs:0≤ses∧ses≤1099511627776) (hd:1≤d.size∧d.size≤65536):HY ses 1 d (Aa d)=0:=Pz hs (by omega) hd (XM hd) (by simp [Aa])
theorem Bat.len2 {d:ByteArray} {ses ser:Int} {l:List Seg} (h:Bat d ses ser l) (hd:d.size≤65536):l.length≤100000000:=by have:=h.len;omega
theorem Ri (c:Con) (ses:Int) (d:ByteArray) (b e:Int):AL C 2004367 (c.enc++[tI ses,.str d,tI b,tI e]) (BR (Aq c ses d b e)):=by
 refine AL.of (fun n=>Yw n _ _ _ _ _ _ _ _ _ _ _) ?_;by_cases h1:HX c=0
 ·by_cases h2:0≤ses∧ses≤1099511627776
  ·by_cases h3:d.size=0
   ·refine ((s55 c).and (s92 ses 0 1099511627776)).mono fun n g => ?_;obtain ⟨g1,g2⟩:=g;simp only [Con.enc] at g1;simp only [g1,g2,AF,A2,vv,vf,reduceCtorEq,reduceAdd,reduceEqDiff,wi,h1,h2,bne_self_eq_false,Cc,h3,Aq,ne_eq,not_true_eq_false,BR,Bg,CN,Snd.enc,map_nil,cons_append,nil_append]
   ·by_cases h4:65536<d.size
    ·refine ((s55 c).and (s92 ses 0 1099511627776)).mono fun n g => ?_;obtain ⟨g1,g2⟩:=g;simp only [Con.enc] at g1;simp only [g1,g2,AF,A2,vv,vf,reduceCtorEq,reduceAdd,reduceEqDiff,wi,h1,h2,bne_self_eq_false,Cc,h3,h4,(show (65536:Int)<(d.size:Int) by omega),Aq,ne_eq,not_true_eq_false,BR,Bg,CN,Snd.enc,map_nil,cons_append,nil_append]
    ·by_cases h5:b<c.start∨e<b∨c.fin<e
     ·refine ((s55 c).and (s92 ses 0 1099511627776)).mono fun n g => ?_;obtain ⟨g1,g2⟩:=g;simp only [Con.enc] at g1;have r:BR (Aq c ses d b e)=BR (Bg 2):=by simp only [Aq,h1,h2,h3,h4,h5,ne_eq,not_true_eq_false,if_false,if_true,and_self]
      rw [r];simp only [g1,g2,AF,A2,vv,vf,reduceCtorEq,reduceAdd,reduceEqDiff,wi,h1,h2,bne_self_eq_false,Cc,h3,h4,(show ¬(65536:Int)<(d.size:Int) by omega)];by_cases q1:b<c.start
      ·simp only [TE,q1,AF,A2,vv,vf,reduceCtorEq,reduceAdd,reduceEqDiff,BR,Bg,CN,Snd.enc,map_nil,cons_append,nil_append]
      ·by_cases q2:e<b
       ·simp only [TE,q1,q2,AF,A2,vv,vf,reduceCtorEq,reduceAdd,reduceEqDiff,BR,Bg,CN,Snd.enc,map_nil,cons_append,nil_append]
       ·have q3:c.fin<e:=by omega
        simp only [TE,q1,q2,q3,AF,A2,vv,vf,reduceCtorEq,reduceAdd,reduceEqDiff,BR,Bg,CN,Snd.enc,map_nil,cons_append,nil_append]
     ·have hd:1≤d.size∧d.size≤65536:=by omega
      obtain ⟨c1,c2⟩:=ED h1;unfold F1 at c1;have hb:=LD h2 hd;have hl:=(IF hb).len2 hd.2;have e94:Ae ⟨⟨0,0,0,0,0,0,0⟩,ses,d,0,0,0,[],0,0⟩=CY ses 1 d (Aa d):=by unfold Ae;rw [Tq hd _ rfl rfl];rfl
      have t37:=s94 ⟨⟨0,0,0,0,0,0,0⟩,ses,d,0,0,0,[],0,0⟩ (by simp);rw [e94] at t37;refine ((s55 c).and ((s92 ses 0 1099511627776).and (t37.and (M6 (BM c ses d e) b _ hl (by omega) (by simp only [BM];omega))))).mono fun n g => ?_;obtain ⟨g1,g2,g3,g4⟩:=g;simp only [Con.enc] at g1;have r:Aq c ses d b e=if (BX (BM c ses d e) b (CY ses 1 d (Aa d))).1.st=3 then Bg 16 else ((BX (BM c ses d e) b (CY ses 1 d (Aa d))).1,(BX (BM c ses d e) b (CY ses 1 d (Aa d))).2,0):=by simp only [Aq,h1,h2,h3,h4,h5,ne_eq,not_true_eq_false,if_false,if_true,and_self]
      rw [r];generalize BX (BM c ses d e) b (CY ses 1 d (Aa d))=p at g4;obtain ⟨p,o⟩:=p;simp only [Snd.enc,BM,Fe,cons_append,nil_append,map_nil] at g3 g4;have q1:¬b<c.start:=by omega
      have q2:¬e<b:=by omega
      have q3:¬c.fin<e:=by omega
      simp only [g1,g2,AF,A2,vv,vf,reduceCtorEq,reduceAdd,reduceEqDiff,wi,h1,h2,bne_self_eq_false,Cc,h3,h4,(show ¬(65536:Int)<(d.size:Int) by omega),TE,q1,q2,q3,g3,g4,beq_iff_eq];by_cases hp:p.st=3
      ·simp only [hp,AF,A2,vv,vf,reduceCtorEq,reduceAdd,reduceEqDiff,BR,Bg,CN,Snd.enc,map_nil,cons_append,nil_append]
      ·simp only [hp,AF,A2,vv,vf,reduceCtorEq,reduceAdd,reduceEqDiff,BR,Snd.enc,cons_append,nil_append]
  ·refine ((s55 c).and (s92 ses 0 1099511627776)).mono fun n g => ?_;obtain ⟨g1,g2⟩:=g;simp only [Con.enc] at g1;simp only [g1,g2,AF,A2,vv,vf,reduceCtorEq,reduceAdd,reduceEqDiff,wi,h1,h2,bne_self_eq_false,Aq,ne_eq,not_true_eq_false,not_false_eq_true,BR,Bg,CN,Snd.enc,map_nil,cons_append,nil_append]
 ·refine (s55 c).mono fun n g1 => ?_;simp only [Con.enc] at g1;simp only [g1,AF,A2,vv,vf,reduceCtorEq,reduceAdd,reduceEqDiff,h1,bne_iff_ne,ne_eq,not_false_eq_true,Aq,BR,Bg,CN,Snd.enc,map_nil,cons_append,nil_append]
theorem Bat.last {d:ByteArray} {ses ser:Int} {l:List Seg} (h:Bat d ses ser l):∃x,l.getLast? = some x∧x.ser=ser∧l≠[]:=by obtain ⟨pre,x,rfl,_⟩:=h.ex;exact ⟨_,getLast?_concat ..,rfl,by simp⟩
theorem Rj (c:Con) (ses:Int) (d:ByteArray) (b e:Int):AL C 2003023 (c.enc++[tI ses,.str d,tI b,tI e]) (BR (Aq c ses d b e)):=by
 refine AL.of (fun n=>Yx n _ _ _ _ _ _ _ _ _ _ _) ?_;by_cases h1:HX c=0
 ·by_cases h2:0≤ses∧ses≤1099511627776
  ·have w1:¬ses<0:=by omega
   have w2:¬1099511627776<ses:=by omega
   by_cases h3:d.size=0
   ·refine (s72 c).mono fun n g1 => ?_;simp only [Con.enc] at g1;simp only [g1,AF,A2,vv,vf,reduceCtorEq,reduceAdd,reduceEqDiff,h1,bne_self_eq_false,w1,w2,EA,h2,h3,Aq,ne_eq,not_true_eq_false,BR,Bg,CN,Snd.enc,map_nil,cons_append,nil_append,nc0,beq_self_eq_true]
   ·by_cases h4:65536<d.size
    ·refine (s72 c).mono fun n g1 => ?_;simp only [Con.enc] at g1;simp only [g1,AF,A2,vv,vf,reduceCtorEq,reduceAdd,reduceEqDiff,h1,bne_self_eq_false,w1,w2,EA,h2,h3,h4,(show (65536:Int)<(d.size:Int) by omega),beq_iff_eq,(show ¬((d.size:Int)=0) by omega),Aq,ne_eq,not_true_eq_false,BR,Bg,CN,Snd.enc,map_nil,cons_append,nil_append]
    ·by_cases h5:b<c.start∨e<b∨c.fin<e
     ·refine (s72 c).mono fun n g1 => ?_;simp only [Con.enc] at g1;have r:BR (Aq c ses d b e)=BR (Bg 2):=by simp only [Aq,h1,h2,h3,h4,h5,ne_eq,not_true_eq_false,if_false,if_true,and_self]
      rw [r];simp only [g1,AF,A2,vv,vf,reduceCtorEq,reduceAdd,reduceEqDiff,h1,bne_self_eq_false,w1,w2,EA,h2,h3,h4,(show ¬(65536:Int)<(d.size:Int) by omega),beq_iff_eq,(show ¬((d.size:Int)=0) by omega)];by_cases q1:b<c.start
      ·simp only [TF,q1,AF,A2,vv,vf,reduceCtorEq,reduceAdd,reduceEqDiff,BR,Bg,CN,Snd.enc,map_nil,cons_append,nil_append]
      ·by_cases q2:e<b
       ·simp only [TF,q1,q2,AF,A2,vv,vf,reduceCtorEq,reduceAdd,reduceEqDiff,BR,Bg,CN,Snd.enc,map_nil,cons_append,nil_append]
       ·have q3:c.fin<e:=by omega
        simp only [TF,q1,q2,q3,AF,A2,vv,vf,reduceCtorEq,reduceAdd,reduceEqDiff,BR,Bg,CN,Snd.enc,map_nil,cons_append,nil_append]
     ·have hd:1≤d.size∧d.size≤65536:=by omega
      obtain ⟨c1,c2⟩:=ED h1;unfold F1 at c1;have hb:=LD h2 hd;have hl:=(IF hb).len2 hd.2;obtain ⟨x,hx,hxs,hne⟩:=(IF hb).last;have t40:=M7 (BM c ses d e) _ b hne hl (by omega) (by simp only [BM];omega);rw [JS hx (by omega)] at t40;have t39:=s73 ses 1 d (Aa d);rw [hb] at t39;refine ((s72 c).and (t39.and t40)).mono fun n g => ?_;obtain ⟨g1,g3,g4⟩:=g;simp only [Con.enc] at g1;have r:Aq c ses d b e=if (BX (BM c ses d e) b (CY ses 1 d (Aa d))).1.st=3 then Bg 16 else ((BX (BM c ses d e) b (CY ses 1 d (Aa d))).1,(BX (BM c ses d e) b (CY ses 1 d (Aa d))).2,0):=by simp only [Aq,h1,h2,h3,h4,h5,ne_eq,not_true_eq_false,if_false,if_true,and_self]
      rw [r];generalize BX (BM c ses d e) b (CY ses 1 d (Aa d))=p at g4;obtain ⟨p,o⟩:=p;simp only [Snd.enc,BM,Fe,Aa,Span.enc,cons_append,nil_append,map_nil,map_cons] at g3 g4;have q1:¬b<c.start:=by omega
      have q2:¬e<b:=by omega
      have q3:¬c.fin<e:=by omega
      simp only [g1,AF,A2,vv,vf,reduceCtorEq,reduceAdd,reduceEqDiff,h1,bne_self_eq_false,w1,w2,EA,h2,h3,h4,(show ¬(65536:Int)<(d.size:Int) by omega),(show ¬((d.size:Int)=0) by omega),TF,q1,q2,q3,g3,Aa,g4,beq_iff_eq];by_cases hp:p.st=3
      ·simp only [hp,AF,A2,vv,vf,reduceCtorEq,reduceAdd,reduceEqDiff,BR,Bg,CN,Snd.enc,map_nil,cons_append,nil_append]
      ·simp only [hp,AF,A2,vv,vf,reduceCtorEq,reduceAdd,reduceEqDiff,BR,Snd.enc,cons_append,nil_append]
  ·refine (s72 c).mono fun n g1 => ?_;simp only [Con.enc] at g1;have r:BR (Aq c ses d b e)=BR (Bg 2):=by simp only [Aq,h1,h2,ne_eq,not_true_eq_false,not_false_eq_true,if_false,if_true]
   rw [r];by_cases w1:ses<0
   ·simp only [g1,AF,A2,vv,vf,reduceCtorEq,reduceAdd,reduceEqDiff,h1,bne_self_eq_false,w1,EA,BR,Bg,CN,Snd.enc,map_nil,cons_append,nil_append]
   ·have w2:1099511627776<ses:=by omega
    simp only [g1,AF,A2,vv,vf,reduceCtorEq,reduceAdd,reduceEqDiff,h1,bne_self_eq_false,w1,w2,EA,BR,Bg,CN,Snd.enc,map_nil,cons_append,nil_append]
 ·refine (s72 c).mono fun n g1 => ?_;simp only [Con.enc] at g1;simp only [g1,AF,A2,vv,vf,reduceCtorEq,reduceAdd,reduceEqDiff,h1,bne_iff_ne,ne_eq,not_false_eq_true,Aq,BR,Bg,CN,Snd.enc,map_nil,cons_append,nil_append]
end Ab
set_option linter.unusedVariables false
set_option linter.unusedSimpArgs false
namespace Ab
open Go
def A7 (s:Snd) (x:Seg):Snd:={s with acked:=uni s.acked x.AZ}
def Ee (s:Snd) (t:Int) (x:Seg):Snd×List Out:=
 if x.ser≠s.ser∨x.tot≠s.data.size then (s,[]) else if complete (A7 s x)=true then ({A7 s x with due:=0,st:=2},[]) else BX (A7 s x) t (Ae (A7 s x))
def Ay (s:Snd) (t:Int) (x:Seg):Snd×List Out×Int:=
 if Fj s≠0∨B5 x≠0 then Bg 1 else if ¬(s.busy≤t∧t≤2199023255552) then Bg 2
 else if s.st≠1∨x.ses≠s.ses∨x.kind=1 then (s,[],0) else if x.kind=3 then (CJ s,[],0)
 else ((Ee s t x).1,(Ee s t x).2,0)
def Bo (l:List Seg):List Seg:=l.drop (l.length-1)
def By (s:Snd) (t:Int):Snd×List Out×Int:=
 if Fj s≠0 then Bg 1 else if s.st≠1 then Bg 19 else if ¬(s.due≤t∧t≤2199023255552) then Bg 2
 else ((BX s t (Bo (Ae s))).1,(BX s t (Bo (Ae s))).2,0)
theorem Lj {s:Snd} (h:Fj s=0):FT s=0∧fits s=true:=by
 unfold Fj at h;split at h
 ·rename_i h1;exact absurd h h1
 ·rename_i h1;split at h
  ·rename_i h2;exact ⟨by omega,h2⟩
  ·cases h
theorem FOk.batch {s:Snd} (h:FOk s) (hc:complete s=false):s.ser=1099511627776∧Ae s=[]∨s.ser<1099511627776∧Bat s.data s.ses (s.ser+1) (Ae s):=by
 have:=h.num;by_cases hr:s.ser=1099511627776
 ·exact .inl ⟨hr,W9 hr⟩
 ·have hr:s.ser<1099511627776:=by omega
  exact .inr ⟨hr,IF (h.bat hc hr)⟩
theorem FOk.Py {s:Snd} (h:FOk s) (hc:complete s=false):(Ae s).length≤65537:=by
 have:=h.dat;rcases h.batch hc with ⟨_,e⟩|⟨_,b⟩
 ·rw [e];simp
 ·have:=b.len;omega
theorem Nb (l:List Seg):(Bo l).length≤1:=by unfold Bo;rw [length_drop];omega
theorem F5 (pre:List Seg) (x:Seg):Bo (pre++[x])=[x]:=by unfold Bo;simp
structure GOk (x:Seg):Prop where
 g:B5 x=0
 few:x.AZ.length≤100
theorem EC {x:Seg} (h:B5 x=0):(1≤x.kind∧x.kind≤3)∧Bp x∧CM x:=by
 unfold B5 at h;split at h
 ·cases h
 ·rename_i h1;split at h
  ·cases h
  ·rename_i h2;split at h
   ·cases h
   ·rename_i h3;exact ⟨not_not.1 h1,not_not.1 h2,not_not.1 h3⟩
theorem GOk.cl {x:Seg} (h:GOk x) (hk:x.kind=2):A8 x.AZ=0∧BZ x.AZ x.tot:=by have:=(EC h.g).2.2.2.1 hk;have k4:=this.2.2;unfold inside at k4;have k4:=of_decide_eq_true k4;exact ⟨k4.1,(B4 k4.1).1 k4.2⟩
theorem XN {a b:List Span} {n:Int} (ha:A8 a=0) (hb:A8 b=0) (wa:BZ a n) (wb:BZ b n) (hl:a.length+b.length≤1000) (hn:n≤65536):A8 (uni a b)=0∧BZ (uni a b) n∧∀t,Ac t (uni a b)↔Ac t a∨Ac t b:=by
 obtain ⟨k1,k2⟩:=Jz ((Aj _).1 ha).2.1 ((Aj _).1 hb).2.1;have hw:BZ (uni a b) n:=Gn k1 fun t m=>by
  rcases (k2 t).1 m with m|m
  ·exact Ea wa m
  ·exact Ea wb m
 have:=QH ha hb;refine ⟨(Aj _).2 ⟨by omega,k1,fun x hx=>by have:=hw x hx;omega⟩,hw,k2⟩
theorem Q2 {s:Snd} {x:Seg} (h:FOk s) (hs:s.acked.length≤100) (g:GOk x) (hk:x.kind=2) (ht:x.tot=s.data.size):FOk (A7 s x):=by
 obtain ⟨k1,k2⟩:=g.cl hk;rw [ht] at k2;have hd:=h.dat;have:=g.few;obtain ⟨u1,u2,u3⟩:=XN h.ack k1 h.win k2 (by omega) (by omega);refine ⟨?_,?_⟩
 ·obtain ⟨c1,c2,c3⟩:=DJ h.f;unfold FT;have a1:Cu (A7 s x):=c2;have a2:Ma (A7 s x):=⟨u1,(B4 u1).2 u2⟩
  have a0:HX (A7 s x).c=0:=c1;rw [if_neg (fun f=>f a0),if_neg (fun f=>f a1),if_neg (fun f=>f a2)]
 ·have:=QH h.ack k1;have e:(A7 s x).acked=uni s.acked x.AZ:=rfl;rw [e];omega
theorem RW {a b:List Span} (ha:A8 a=0) (hb:A8 b=0) (hl:a.length+b.length≤1000):DA a b=uni a b∧DB a b=0:=by have:=QH ha hb;unfold DA DB;simp [ha,hb,(show ¬1000<(uni a b).length by omega)]
theorem s186 (s:Snd) (t:Int) (x:Seg) (h:FOk s) (hs:s.acked.length≤100) (g:GOk x) (hk:x.kind=2) (ht:s.busy≤t∧t≤2199023255552):AL C 186 (s.enc++[tI t]++x.enc) (Fe (Ee s t x)):=by
 refine AL.of (fun n=>e186 n _ _ _ _ _ _ _ _ _ _ _ _ _ _ _ _ _ _ _ _ _ _ _ _) ?_;obtain ⟨k1,k2⟩:=g.cl hk;have hcl:=g.few;obtain ⟨u1,u2⟩:=RW h.ack k1 (by omega);have t67:=s183 s.acked x.AZ;rw [Eb,u1,u2] at t67;have hrng:=h.rng;have hnum:=h.num;by_cases q1:x.ser=s.ser
 ·by_cases q2:x.tot=s.data.size
  ·have hA:=Q2 h hs g hk q2;by_cases q3:complete (A7 s x)=true
   ·refine (t67.and (s185 (A7 s x) (by have:=hA.few;omega))).mono fun n y => ?_;obtain ⟨y1,y2⟩:=y;simp only [Snd.enc,A7] at y2;have r:Ee s t x=({A7 s x with due:=0,st:=2},[]):=by unfold Ee;rw [if_neg (by omega),if_pos q3]
    rw [r];unfold A7 at q3;simp only [y1,y2,AF,A2,vv,vf,reduceCtorEq,reduceAdd,reduceEqDiff,q1,q2,q3,bne_self_eq_false,Oc,Fe,A7,Snd.enc,map_nil,cons_append,nil_append]
   ·have q3':complete (A7 s x)=false:=by simpa using q3
    have hbl:=hA.Py q3';refine (t67.and ((s185 (A7 s x) (by have:=hA.few;omega)).and ((s94 (A7 s x) (by have:=hA.num;omega)).and (M6 (A7 s x) t (Ae (A7 s x)) (by omega) (by omega) (by simp only [A7];omega))))).mono fun n y => ?_;obtain ⟨y1,y2,y3,y4⟩:=y;have r:Ee s t x=BX (A7 s x) t (Ae (A7 s x)):=by unfold Ee;rw [if_neg (by omega),if_neg q3]
    rw [r];rw [q3'] at y2;generalize BX (A7 s x) t (Ae (A7 s x))=p at y4;obtain ⟨p,o⟩:=p;generalize Ae (A7 s x)=bb at y3 y4;simp only [Snd.enc,A7,Fe,cons_append,nil_append] at y2 y3 y4;simp only [y1,y2,y3,y4,AF,A2,vv,vf,reduceCtorEq,reduceAdd,reduceEqDiff,q1,q2,bne_self_eq_false,Oc,Fe,Snd.enc,cons_append,nil_append]
  ·refine t67.mono fun n y1 => ?_;have r:Ee s t x=(s,[]):=by unfold Ee;rw [if_pos (by omega)]
   rw [r];simp only [y1,AF,A2,vv,vf,reduceCtorEq,reduceAdd,reduceEqDiff,q1,q2,bne_self_eq_false,bne_iff_ne,ne_eq,not_false_eq_true,Oc,Fe,Snd.enc,map_nil,cons_append,nil_append]
 ·refine t67.mono fun n y1 => ?_;have r:Ee s t x=(s,[]):=by unfold Ee;rw [if_pos (by omega)]
  rw [r];simp only [y1,AF,A2,vv,vf,reduceCtorEq,reduceAdd,reduceEqDiff,q1,bne_iff_ne,ne_eq,not_false_eq_true,Oc,Fe,Snd.enc,map_nil,cons_append,nil_append]
theorem s187 (s:Snd) (t:Int) (x:Seg):AL C 187 (s.enc++[tI t]++x.enc) (Fe (CJ s,[])):=by refine AL.of (fun n=>e187 n _ _ _ _ _ _ _ _ _ _ _ _ _ _ _ _ _ _ _ _ _ _ _ _) ?_;refine (s116 s).mono fun n y => ?_;simp only [Snd.enc] at y;simp only [y,AF,A2,vv,vf,reduceCtorEq,reduceAdd,reduceEqDiff,Fe,CJ,Snd.enc,map_nil,cons_append,nil_append]
theorem Qk {s:Snd} (h:Fj s=0) (hs:s.acked.length≤100):FOk s:=⟨(Lj h).1,by omega⟩
theorem Yr {x:Seg} (h:B5 x=0) (hx:x.AZ.length≤100∨1000<x.AZ.length):GOk x:=by
 refine ⟨h,?_⟩;obtain ⟨k1,k2,k3⟩:=EC h;have hkk:x.kind=1∨x.kind=2∨x.kind=3:=by omega
 rcases hkk with hk|hk|hk
 ·rw [(k3.2.2 hk).2.2];simp
 ·have:=(k3.2.1 hk).2.2;unfold inside at this;have:=BC (of_decide_eq_true this).1;omega
 ·rw [(k3.1 hk).2.2];simp
theorem s148 (s:Snd) (t:Int) (x:Seg) (hs:s.acked.length≤100) (hx:x.AZ.length≤100∨1000<x.AZ.length):AL C 148 (s.enc++[tI t]++x.enc) (BR (Ay s t x)):=by
 refine AL.of (fun n=>e148 n _ _ _ _ _ _ _ _ _ _ _ _ _ _ _ _ _ _ _ _ _ _ _ _) ?_;by_cases h1:Fj s=0
 ·by_cases h2:B5 x=0
  ·have hF:=Qk h1 hs;have hG:=Yr h2 hx;have hk:=(EC h2).1;have hb:Ev fun n=>AA C n 164 s.enc=some [tI 0]∧AA C n 152 x.enc=some [tI 0]∧AA C n 92 [tI t,tI s.busy,tI 2199023255552]=some [.bool (wi t s.busy 2199023255552)]:=by have a:=TV s;have b:=Xq x;rw [h1] at a;rw [h2] at b;exact a.and (b.and (s92 t s.busy 2199023255552))
   by_cases h3:s.busy≤t∧t≤2199023255552
   ·by_cases h4:s.st=1
    ·by_cases h5:x.ses=s.ses
     ·by_cases k1:x.kind=1
      ·refine hb.mono fun n g => ?_;obtain ⟨g1,g2,g3⟩:=g;simp only [Snd.enc,Seg.enc,wi] at g1 g2 g3;rw [k1] at g2;have r:Ay s t x=(s,[],0):=by unfold Ay;rw [if_neg (by omega),if_neg (by omega),if_pos (.inr (.inr k1))]
       rw [r];simp only [k1,g1,g2,g3,AF,A2,vv,vf,reduceCtorEq,reduceAdd,reduceEqDiff,G8,bne_self_eq_false,h3,Int.reduceEq,BR,Snd.enc,map_nil,cons_append,nil_append]
      ·by_cases k3:x.kind=3
       ·refine (hb.and (s187 s t x)).mono fun n g => ?_;obtain ⟨⟨g1,g2,g3⟩,g4⟩:=g;simp only [Snd.enc,Seg.enc,wi,Fe,CJ,map_nil,cons_append,nil_append] at g1 g2 g3 g4;rw [k3] at g2 g4;have r:Ay s t x=(CJ s,[],0):=by unfold Ay;rw [if_neg (by omega),if_neg (by omega),if_neg (by omega),if_pos k3]
        rw [r];simp only [k3,h4,h5] at g1 g2 g3 g4 ⊢;simp only [k3,g1,g2,g3,g4,AF,A2,vv,vf,reduceCtorEq,reduceAdd,reduceEqDiff,G8,RL,bne_self_eq_false,h3,h4,h5,Int.reduceEq,BR,CJ,Snd.enc,map_nil,cons_append,nil_append]
       ·have k2:x.kind=2:=by omega
        refine (hb.and (s186 s t x hF hs hG k2 h3)).mono fun n g => ?_;obtain ⟨⟨g1,g2,g3⟩,g4⟩:=g;have r:Ay s t x=((Ee s t x).1,(Ee s t x).2,0):=by unfold Ay;rw [if_neg (by omega),if_neg (by omega),if_neg (by omega),if_neg k3]
        rw [r];generalize Ee s t x=p at g4;obtain ⟨p,o⟩:=p;simp only [Snd.enc,Seg.enc,wi,Fe,cons_append,nil_append] at g1 g2 g3 g4;simp only [k2,h4,h5] at g1 g2 g3 g4 ⊢;simp only [k2,g1,g2,g3,g4,AF,A2,vv,vf,reduceCtorEq,reduceAdd,reduceEqDiff,G8,RM,bne_self_eq_false,h3,h4,h5,Int.reduceEq,BR,Snd.enc,cons_append,nil_append]
     ·refine hb.mono fun n g => ?_;obtain ⟨g1,g2,g3⟩:=g;simp only [Snd.enc,Seg.enc,wi,h4] at g1 g2 g3;have r:Ay s t x=(s,[],0):=by unfold Ay;rw [if_neg (by omega),if_neg (by omega),if_pos (.inr (.inl h5))]
      rw [r];have hkk:x.kind=1∨x.kind=2∨x.kind=3:=by omega
      rcases hkk with k|k|k<;>rw [k] at g2<;>simp only [k,g1,g2,g3,AF,A2,vv,vf,reduceCtorEq,reduceAdd,reduceEqDiff,G8,RL,RM,bne_self_eq_false,h3,h4,h5,bne_iff_ne,ne_eq,not_false_eq_true,not_true_eq_false,Int.reduceEq,BR,Snd.enc,map_nil,cons_append,nil_append]
    ·refine hb.mono fun n g => ?_;obtain ⟨g1,g2,g3⟩:=g;simp only [Snd.enc,Seg.enc,wi] at g1 g2 g3;have r:Ay s t x=(s,[],0):=by unfold Ay;rw [if_neg (by omega),if_neg (by omega),if_pos (.inl h4)]
     rw [r];have hkk:x.kind=1∨x.kind=2∨x.kind=3:=by omega
     rcases hkk with k|k|k<;>rw [k] at g2<;>simp only [k,g1,g2,g3,AF,A2,vv,vf,reduceCtorEq,reduceAdd,reduceEqDiff,G8,RL,RM,bne_self_eq_false,h3,h4,bne_iff_ne,ne_eq,not_false_eq_true,not_true_eq_false,Int.reduceEq,BR,Snd.enc,map_nil,cons_append,nil_append]
   ·refine hb.mono fun n g => ?_;obtain ⟨g1,g2,g3⟩:=g;simp only [Snd.enc,Seg.enc,wi] at g1 g2 g3;have r:Ay s t x=Bg 2:=by unfold Ay;rw [if_neg (by omega),if_pos h3]
    rw [r];simp only [g1,g2,g3,AF,A2,vv,vf,reduceCtorEq,reduceAdd,reduceEqDiff,G8,bne_self_eq_false,h3,BR,Bg,CN,Snd.enc,map_nil,cons_append,nil_append]
  ·have r:Ay s t x=Bg 1:=by unfold Ay;rw [if_pos (.inr h2)]
   refine ((TV s).and (Xq x)).mono fun n g => ?_;obtain ⟨g1,g2⟩:=g;rw [h1] at g1;simp only [Snd.enc,Seg.enc] at g1 g2;rw [r];simp only [g1,g2,AF,A2,vv,vf,reduceCtorEq,reduceAdd,reduceEqDiff,G8,bne_self_eq_false,bne_iff_ne,ne_eq,not_false_eq_true,not_true_eq_false,h2,BR,Bg,CN,Snd.enc,map_nil,cons_append,nil_append]
 ·have r:Ay s t x=Bg 1:=by unfold Ay;rw [if_pos (.inl h1)]
  refine (TV s).mono fun n g1 => ?_;simp only [Snd.enc] at g1;rw [r];simp only [g1,AF,A2,vv,vf,reduceCtorEq,reduceAdd,reduceEqDiff,G8,bne_iff_ne,ne_eq,not_false_eq_true,h1,BR,Bg,CN,Snd.enc,map_nil,cons_append,nil_append]
end Ab
set_option linter.unusedVariables false
set_option linter.unusedSimpArgs false
namespace Ab
open Go
theorem s83 (s:Snd) (t:Int) (x:Seg) (hs:s.acked.length≤100) (hx:x.AZ.length≤100∨1000<x.AZ.length):AL C 83 (s.enc++[tI t]++x.enc) (BR (Ay s t x)):=by
 refine AL.of (fun n=>e83 n _ _ _ _ _ _ _ _ _ _ _ _ _ _ _ _ _ _ _ _ _ _ _ _) ?_;by_cases h1:Fj s=0
 ·by_cases h2:B5 x=0
  ·have hF:=Qk h1 hs;have hG:=Yr h2 hx;have hk:=(EC h2).1;have hnum:=hF.num;have hrng:=hF.rng;have hb:Ev fun n=>AA C n 110 s.enc=some [tI 0]∧AA C n 106 x.enc=some [tI 0]:=by have a:=Rk s hF.few;have b:=Xs x;rw [h1] at a;rw [h2] at b;exact a.and b
   by_cases h3:s.busy≤t∧t≤2199023255552
   ·have w1:¬t<s.busy:=by omega
    have w2:¬2199023255552<t:=by omega
    by_cases h4:s.st=1
    ·by_cases h5:x.ses=s.ses
     ·by_cases k3:x.kind=3
      ·refine hb.mono fun n g => ?_;obtain ⟨g1,g2⟩:=g;have r:Ay s t x=(CJ s,[],0):=by unfold Ay;rw [if_neg (by omega),if_neg (by omega),if_neg (by omega),if_pos k3]
       rw [r];simp only [Snd.enc,Seg.enc] at g1 g2;simp only [h4,h5,k3] at g1 g2 ⊢;simp only [g1,g2,AF,A2,vv,vf,reduceCtorEq,reduceAdd,reduceEqDiff,Fz,HS,JR,bne_self_eq_false,w1,w2,beq_self_eq_true,BR,CJ,Snd.enc,map_nil,cons_append,nil_append]
      ·by_cases k2:x.kind=2
       ·obtain ⟨k1,kw⟩:=hG.cl k2;have hcl:=hG.few;obtain ⟨u1,u2⟩:=RW hF.ack k1 (by omega);have t44:=s108 s.acked x.AZ;rw [Eb,u1,u2] at t44;have r:Ay s t x=((Ee s t x).1,(Ee s t x).2,0):=by unfold Ay;rw [if_neg (by omega),if_neg (by omega),if_neg (by omega),if_neg k3]
        rw [r];by_cases q1:x.ser=s.ser
        ·by_cases q2:x.tot=s.data.size
         ·have hA:=Q2 hF hs hG k2 q2;by_cases q3:complete (A7 s x)=true
          ·refine (hb.and (t44.and (Xr (A7 s x)))).mono fun n g => ?_;obtain ⟨⟨g1,g2⟩,g3,g4⟩:=g;have r:Ee s t x=({A7 s x with due:=0,st:=2},[]):=by unfold Ee;rw [if_neg (by omega),if_pos q3]
           rw [r];rw [hA.H6.2 q3] at g4;simp only [Snd.enc,Seg.enc,A7,map_nil] at g1 g2 g4;simp only [h4,h5,k2,q1,q2] at g1 g2 g3 g4 ⊢;simp only [g1,g2,g3,g4,AF,A2,vv,vf,reduceCtorEq,reduceAdd,reduceEqDiff,Fz,HS,JR,OY,bne_self_eq_false,w1,w2,Int.reduceBEq,BR,A7,Snd.enc,map_nil,cons_append,nil_append,nc0,beq_self_eq_true]
          ·have q3':complete (A7 s x)=false:=by simpa using q3
           have hne:¬((DU (A7 s x)).length:Int)=0:=by intro e;refine q3 (hA.H6.1 (eq_nil_of_length_eq_zero (by omega)))
           have r:Ee s t x=BX (A7 s x) t (Ae (A7 s x)):=by unfold Ee;rw [if_neg (by omega),if_neg q3]
           rw [r];rcases hA.batch q3' with ⟨b1,b2⟩|⟨b1,b2⟩
           ·refine (hb.and (t44.and (Xr (A7 s x)))).mono fun n g => ?_;obtain ⟨⟨g1,g2⟩,g3,g4⟩:=g;have b1:s.ser=1099511627776:=b1;have r:BX (A7 s x) t (Ae (A7 s x))=(CJ (A7 s x),[]):=by rw [b2];rfl
            rw [r];generalize DU (A7 s x)=ll at g4 hne;simp only [Snd.enc,Seg.enc,A7] at g1 g2 g4;simp only [h4,h5,k2,q1,q2] at g1 g2 g3 g4 ⊢;rw [b1] at g1 g2 g4;simp only [b1,g1,g2,g3,g4,AF,A2,vv,vf,reduceCtorEq,reduceAdd,reduceEqDiff,Fz,HS,JR,OY,bne_self_eq_false,w1,w2,Int.reduceBEq,beq_iff_eq,hne,BR,CJ,A7,Snd.enc,map_nil,cons_append,nil_append]
           ·have b1:s.ser<1099511627776:=b1;obtain ⟨z,hz,hzs,hzn⟩:=b2.last;have hl:=b2.len2 hA.dat.2;have t39:=s73 s.ses (s.ser+1) s.data (DU (A7 s x));have e0:HY s.ses (s.ser+1) s.data (DU (A7 s x))=0:=hA.bat q3' b1;rw [e0] at t39;have t39:AL C 73 [tI s.ses,tI (s.ser+1),.str s.data,.sl 2 ((DU (A7 s x)).map Span.enc)] [.sl 8 ((Ae (A7 s x)).map Seg.enc),tI 0]:=t39;have t40:=M7 (A7 s x) (Ae (A7 s x)) t hzn hl (by omega) (by simp only [A7];omega);rw [JS hz (by simp only [A7] at hzs;omega)] at t40;refine (hb.and (t44.and ((Xr (A7 s x)).and (t39.and t40)))).mono fun n g => ?_;obtain ⟨⟨g1,g2⟩,g3,g4,g5,g6⟩:=g;generalize BX (A7 s x) t (Ae (A7 s x))=p at g6;obtain ⟨p,o⟩:=p;generalize Ae (A7 s x)=bb at g5 g6;generalize DU (A7 s x)=ll at g4 g5 hne;have nn:¬s.ser=1099511627776:=by omega
            simp only [Snd.enc,Seg.enc,A7,Fe,cons_append,nil_append] at g1 g2 g4 g6;simp only [h4,h5,k2,q1,q2] at g1 g2 g3 g4 g5 g6 ⊢;simp only [g1,g2,g3,g4,g5,g6,AF,A2,vv,vf,reduceCtorEq,reduceAdd,reduceEqDiff,Fz,HS,JR,OY,bne_self_eq_false,w1,w2,Int.reduceBEq,beq_iff_eq,hne,nn,AP (x:=s.ser+1) (by omega) (by omega),BR,Snd.enc,cons_append,nil_append]
         ·refine hb.mono fun n g => ?_;obtain ⟨g1,g2⟩:=g;have r:Ee s t x=(s,[]):=by unfold Ee;rw [if_pos (by omega)]
          rw [r];simp only [Snd.enc,Seg.enc] at g1 g2;simp only [h4,h5,k2,q1] at g1 g2 ⊢;simp only [g1,g2,AF,A2,vv,vf,reduceCtorEq,reduceAdd,reduceEqDiff,Fz,HS,JR,OY,bne_self_eq_false,w1,w2,Int.reduceBEq,bne_iff_ne,ne_eq,q2,not_false_eq_true,not_true_eq_false,h4,BR,Snd.enc,map_nil,cons_append,nil_append]
        ·refine hb.mono fun n g => ?_;obtain ⟨g1,g2⟩:=g;have r:Ee s t x=(s,[]):=by unfold Ee;rw [if_pos (by omega)]
         rw [r];simp only [Snd.enc,Seg.enc] at g1 g2;simp only [h4,h5,k2] at g1 g2 ⊢;simp only [g1,g2,AF,A2,vv,vf,reduceCtorEq,reduceAdd,reduceEqDiff,Fz,HS,JR,OY,bne_self_eq_false,w1,w2,Int.reduceBEq,bne_iff_ne,ne_eq,q1,not_false_eq_true,not_true_eq_false,h4,BR,Snd.enc,map_nil,cons_append,nil_append]
       ·have k1:x.kind=1:=by omega
        refine hb.mono fun n g => ?_;obtain ⟨g1,g2⟩:=g;have r:Ay s t x=(s,[],0):=by unfold Ay;rw [if_neg (by omega),if_neg (by omega),if_pos (.inr (.inr k1))]
        rw [r];simp only [Snd.enc,Seg.enc] at g1 g2;simp only [h4,h5,k1] at g1 g2 ⊢;simp only [g1,g2,AF,A2,vv,vf,reduceCtorEq,reduceAdd,reduceEqDiff,Fz,HS,JR,OY,bne_self_eq_false,w1,w2,Int.reduceBEq,Int.reduceBNe,h4,BR,Snd.enc,map_nil,cons_append,nil_append]
     ·refine hb.mono fun n g => ?_;obtain ⟨g1,g2⟩:=g;have r:Ay s t x=(s,[],0):=by unfold Ay;rw [if_neg (by omega),if_neg (by omega),if_pos (.inr (.inl h5))]
      rw [r];simp only [Snd.enc,Seg.enc] at g1 g2;simp only [h4] at g1 g2 ⊢;simp only [g1,g2,AF,A2,vv,vf,reduceCtorEq,reduceAdd,reduceEqDiff,Fz,HS,JR,bne_self_eq_false,w1,w2,bne_iff_ne,ne_eq,h5,not_false_eq_true,not_true_eq_false,h4,BR,Snd.enc,map_nil,cons_append,nil_append]
    ·refine hb.mono fun n g => ?_;obtain ⟨g1,g2⟩:=g;have r:Ay s t x=(s,[],0):=by unfold Ay;rw [if_neg (by omega),if_neg (by omega),if_pos (.inl h4)]
     rw [r];simp only [Snd.enc,Seg.enc] at g1 g2;simp only [g1,g2,AF,A2,vv,vf,reduceCtorEq,reduceAdd,reduceEqDiff,Fz,HS,JR,bne_self_eq_false,w1,w2,bne_iff_ne,ne_eq,h4,not_false_eq_true,not_true_eq_false,BR,Snd.enc,map_nil,cons_append,nil_append]
   ·refine hb.mono fun n g => ?_;obtain ⟨g1,g2⟩:=g;simp only [Snd.enc,Seg.enc] at g1 g2;have r:Ay s t x=Bg 2:=by unfold Ay;rw [if_neg (by omega),if_pos h3]
    rw [r];by_cases w1:t<s.busy
    ·simp only [g1,g2,AF,A2,vv,vf,reduceCtorEq,reduceAdd,reduceEqDiff,Fz,HS,bne_self_eq_false,w1,BR,Bg,CN,Snd.enc,map_nil,cons_append,nil_append]
    ·have w2:2199023255552<t:=by omega
     simp only [g1,g2,AF,A2,vv,vf,reduceCtorEq,reduceAdd,reduceEqDiff,Fz,HS,bne_self_eq_false,w1,w2,BR,Bg,CN,Snd.enc,map_nil,cons_append,nil_append]
  ·have r:Ay s t x=Bg 1:=by unfold Ay;rw [if_pos (.inr h2)]
   refine ((Rk s (by omega)).and (Xs x)).mono fun n g => ?_;obtain ⟨g1,g2⟩:=g;rw [h1] at g1;simp only [Snd.enc,Seg.enc] at g1 g2;rw [r];simp only [g1,g2,AF,A2,vv,vf,reduceCtorEq,reduceAdd,reduceEqDiff,Fz,bne_self_eq_false,bne_iff_ne,ne_eq,not_false_eq_true,not_true_eq_false,h2,BR,Bg,CN,Snd.enc,map_nil,cons_append,nil_append]
 ·have r:Ay s t x=Bg 1:=by unfold Ay;rw [if_pos (.inl h1)]
  refine (Rk s (by omega)).mono fun n g1 => ?_;simp only [Snd.enc] at g1;rw [r];simp only [g1,AF,A2,vv,vf,reduceCtorEq,reduceAdd,reduceEqDiff,Fz,bne_iff_ne,ne_eq,not_false_eq_true,h1,BR,Bg,CN,Snd.enc,map_nil,cons_append,nil_append]
theorem JP (l:List Seg):List.map Seg.enc (Bo l)=drop (l.length-1) (List.map Seg.enc l):=by unfold Bo;rw [map_drop]
theorem Lf {s:Snd} (h:Fj s=0) (h4:s.st=1):complete s=false∧s.due=s.busy+2*s.c.rng+1:=by
 have:=(Lj h).2;unfold fits at this;have:=of_decide_eq_true this;have e:T3 s=s.busy+2*s.c.rng+1:=rfl;rcases this with k|k|k
 ·exact ⟨k.2.1,by rw [k.2.2,e]⟩
 ·omega
 ·omega
theorem s149 (s:Snd) (t:Int) (hs:s.acked.length≤100):AL C 149 (s.enc++[tI t]) (BR (By s t)):=by
 refine AL.of (fun n=>e149 n _ _ _ _ _ _ _ _ _ _ _ _ _ _ _ _) ?_;by_cases h1:Fj s=0
 ·have hF:=Qk h1 hs;have hnum:=hF.num;have hrng:=hF.rng;by_cases h4:s.st=1
  ·obtain ⟨hc,hd⟩:=Lf h1 h4;by_cases h3:s.due≤t∧t≤2199023255552
   ·have hl:=hF.Py hc;refine ((TV s).and ((s92 t s.due 2199023255552).and ((s94 s (by omega)).and (M6 s t (Bo (Ae s)) (by have:=Nb (Ae s);omega) (by omega) (by omega))))).mono fun n g => ?_;obtain ⟨g1,g2,g3,g4⟩:=g;have r:By s t=((BX s t (Bo (Ae s))).1,(BX s t (Bo (Ae s))).2,0):=by unfold By;rw [if_neg (by omega),if_neg (by omega),if_neg (by omega)]
    rw [r];rw [JP] at g4;generalize BX s t (Bo (Ae s))=p at g4;obtain ⟨p,o⟩:=p;rw [h1] at g1;generalize Ae s=bb at g3 g4 hl;simp only [Snd.enc,wi,Fe,cons_append,nil_append] at g1 g2 g3 g4;simp only [h4] at g1 g3 g4 ⊢;have e1:(if w64 ((bb.length:Int)-1)>0 then w64 ((bb.length:Int)-1) else 0)=((bb.length-1:Nat):Int):=by rw [AP (by omega) (by omega)];split<;>omega
    have e2:take bb.length (List.map Seg.enc bb)=List.map Seg.enc bb:=take_of_length_le (by simp);simp only [gt_iff_lt] at e1;simp only [g1,g2,g3,AF,A2,vv,vf,reduceCtorEq,reduceAdd,reduceEqDiff,bne_self_eq_false,h3,e1,e2,g4,(show ((bb.length-1:Nat):Int)≤(bb.length:Int) by omega),BR,Snd.enc,cons_append,nil_append]
   ·refine ((TV s).and (s92 t s.due 2199023255552)).mono fun n g => ?_;obtain ⟨g1,g2⟩:=g;have r:By s t=Bg 2:=by unfold By;rw [if_neg (by omega),if_neg (by omega),if_pos h3]
    rw [r];rw [h1] at g1;simp only [Snd.enc,wi] at g1 g2;simp only [h4] at g1 ⊢;simp only [g1,g2,AF,A2,vv,vf,reduceCtorEq,reduceAdd,reduceEqDiff,bne_self_eq_false,h3,BR,Bg,CN,Snd.enc,map_nil,cons_append,nil_append]
  ·refine (TV s).mono fun n g1 => ?_;have r:By s t=Bg 19:=by unfold By;rw [if_neg (by omega),if_pos h4]
   rw [r];rw [h1] at g1;simp only [Snd.enc] at g1;simp only [g1,AF,A2,vv,vf,reduceCtorEq,reduceAdd,reduceEqDiff,bne_self_eq_false,bne_iff_ne,ne_eq,not_false_eq_true,not_true_eq_false,h4,BR,Bg,CN,Snd.enc,map_nil,cons_append,nil_append]
 ·have r:By s t=Bg 1:=by unfold By;rw [if_pos h1]
  refine (TV s).mono fun n g1 => ?_;simp only [Snd.enc] at g1;rw [r];simp only [g1,AF,A2,vv,vf,reduceCtorEq,reduceAdd,reduceEqDiff,bne_iff_ne,ne_eq,not_false_eq_true,h1,BR,Bg,CN,Snd.enc,map_nil,cons_append,nil_append]
theorem s84 (s:Snd) (t:Int) (hs:s.acked.length≤100):AL C 84 (s.enc++[tI t]) (BR (By s t)):=by
 refine AL.of (fun n=>e84 n _ _ _ _ _ _ _ _ _ _ _ _ _ _ _ _) ?_;by_cases h1:Fj s=0
 ·have hF:=Qk h1 hs;have hnum:=hF.num;have hrng:=hF.rng;by_cases h4:s.st=1
  ·obtain ⟨hc,hd⟩:=Lf h1 h4;by_cases h3:s.due≤t∧t≤2199023255552
   ·have w1:¬t<s.due:=by omega
    have w2:¬2199023255552<t:=by omega
    have r:By s t=((BX s t (Bo (Ae s))).1,(BX s t (Bo (Ae s))).2,0):=by unfold By;rw [if_neg (by omega),if_neg (by omega),if_neg (by omega)]
    rw [r];rcases hF.batch hc with ⟨b1,b2⟩|⟨b1,b2⟩
    ·refine (Rk s hF.few).mono fun n g1 => ?_;have r:BX s t (Bo (Ae s))=(CJ s,[]):=by rw [b2];rfl
     rw [r];rw [h1] at g1;simp only [Snd.enc] at g1;simp only [h4,b1] at g1 ⊢;simp only [b1,g1,AF,A2,vv,vf,reduceCtorEq,reduceAdd,reduceEqDiff,bne_self_eq_false,w1,w2,TD,beq_self_eq_true,BR,CJ,Snd.enc,map_nil,cons_append,nil_append]
    ·have hl:=b2.len2 hF.dat.2;obtain ⟨pre,z,hz,_⟩:=b2.ex;have t39:=s73 s.ses (s.ser+1) s.data (DU s);have e0:HY s.ses (s.ser+1) s.data (DU s)=0:=hF.bat hc b1;rw [e0] at t39;have t39:AL C 73 [tI s.ses,tI (s.ser+1),.str s.data,.sl 2 ((DU s).map Span.enc)] [.sl 8 ((Ae s).map Seg.enc),tI 0]:=t39;have hlo:Bo (Ae s)=[{z with ser:=s.ser+1,chk:=true}]:=by rw [hz,F5]
     have t40:=M7 s (Bo (Ae s)) t (by rw [hlo];simp) (by have:=Nb (Ae s);omega) (by omega) (by omega);rw [JS (x:={z with ser:=s.ser+1,chk:=true}) (by rw [hlo];rfl) (by simp only;omega),JP] at t40;have hp:1≤(Ae s).length:=by rw [hz];simp
     refine ((Rk s hF.few).and ((Xr s).and (t39.and t40))).mono fun n g => ?_;obtain ⟨g1,g2,g3,g4⟩:=g;generalize BX s t (Bo (Ae s))=p at g4;obtain ⟨p,o⟩:=p;rw [h1] at g1;generalize Ae s=bb at g3 g4 hl hp;have nn:¬s.ser=1099511627776:=by omega
     simp only [Snd.enc,Fe,cons_append,nil_append] at g1 g2 g3 g4;simp only [h4] at g1 g2 g4 ⊢;have e1:w64 ((bb.length:Int)-1)=((bb.length-1:Nat):Int):=by rw [AP (by omega) (by omega)];omega
     have e2:take bb.length (List.map Seg.enc bb)=List.map Seg.enc bb:=take_of_length_le (by simp);simp only [g1,AF,A2,vv,vf,reduceCtorEq,reduceAdd,reduceEqDiff,bne_self_eq_false,w1,w2,TD,beq_iff_eq,nn,g2,AP (x:=s.ser+1) (by omega) (by omega),g3,e1,e2,g4,(show ((bb.length-1:Nat):Int)≤(bb.length:Int) by omega),BR,Snd.enc,cons_append,nil_append]
   ·refine (Rk s hF.few).mono fun n g1 => ?_;have r:By s t=Bg 2:=by unfold By;rw [if_neg (by omega),if_neg (by omega),if_pos h3]
    rw [r];rw [h1] at g1;simp only [Snd.enc] at g1;simp only [h4] at g1 ⊢;by_cases w1:t<s.due
    ·simp only [g1,AF,A2,vv,vf,reduceCtorEq,reduceAdd,reduceEqDiff,bne_self_eq_false,w1,TD,BR,Bg,CN,Snd.enc,map_nil,cons_append,nil_append]
    ·have w2:2199023255552<t:=by omega
     simp only [g1,AF,A2,vv,vf,reduceCtorEq,reduceAdd,reduceEqDiff,bne_self_eq_false,w1,w2,TD,BR,Bg,CN,Snd.enc,map_nil,cons_append,nil_append]
  ·refine (Rk s hF.few).mono fun n g1 => ?_;have r:By s t=Bg 19:=by unfold By;rw [if_neg (by omega),if_pos h4]
   rw [r];rw [h1] at g1;simp only [Snd.enc] at g1;simp only [g1,AF,A2,vv,vf,reduceCtorEq,reduceAdd,reduceEqDiff,bne_self_eq_false,bne_iff_ne,ne_eq,not_false_eq_true,not_true_eq_false,h4,BR,Bg,CN,Snd.enc,map_nil,cons_append,nil_append]
 ·have r:By s t=Bg 1:=by unfold By;rw [if_pos h1]
  refine (Rk s (by omega)).mono fun n g1 => ?_;simp only [Snd.enc] at g1;rw [r];simp only [g1,AF,A2,vv,vf,reduceCtorEq,reduceAdd,reduceEqDiff,bne_iff_ne,ne_eq,not_false_eq_true,h1,BR,Bg,CN,Snd.enc,map_nil,cons_append,nil_append]
end Ab
set_option linter.unusedVariables false
set_option linter.unusedSimpArgs false
namespace Ab
open Go
def tb (b:UInt8):List Tree:=[.int .u8 (b.toNat:Int)]
def bl (s:ByteArray):List UInt8:=s.data.toList
def mkB (l:List UInt8):ByteArray:=⟨l.toArray⟩
theorem Yb (s:ByteArray):mkB (bl s)=s:=by obtain ⟨a⟩:=s;simp [mkB,bl]
theorem MT (l:List UInt8):bl (mkB l)=l:=by simp [mkB,bl]
theorem A6 (s:ByteArray):(bl s).length=s.size:=by obtain ⟨a⟩:=s;simp [bl,ByteArray.size]
theorem Io (l:List UInt8):(mkB l).size=l.length:=by rw [← A6,MT]
theorem N8 {a b:ByteArray} (h:bl a=bl b):a=b:=by rw [← Yb a,← Yb b,h]
theorem O8 (s:ByteArray):DK s=(bl s).map tb:=rfl
theorem FX (s:ByteArray) (i:Nat):Dp s i=(((bl s).getD i 0).toNat:Int):=by
 obtain ⟨⟨l⟩⟩:=s;unfold Dp bl;by_cases h:i<l.length
 ·have h1:(ByteArray.mk ⟨l⟩)[i]? = some l[i]:=getElem?_pos (ByteArray.mk ⟨l⟩) i h;rw [h1];simp [List.getD,h]
 ·have h1:(ByteArray.mk ⟨l⟩)[i]? = none:=getElem?_neg (ByteArray.mk ⟨l⟩) i h;rw [h1];simp [List.getD,h]
theorem JZ (l:List UInt8):KR (l.map tb)=true:=by unfold KR;rw [List.all_map,all_eq_true];exact fun x _=>rfl
theorem ZB (b:UInt8):Ss (tb b)=b:=by simp [Ss,tb]
theorem WZ (l:List UInt8) (s:ByteArray):bl (l.foldl ByteArray.push s)=bl s++l:=by
 induction l generalizing s with
 |nil=>simp
 |cons b l ih=>rw [foldl_cons,ih];simp [bl,ByteArray.push]
theorem Jk (l:List UInt8):bytesOf (l.map tb)=mkB l:=by unfold bytesOf;rw [map_map,show Ss ∘ tb=id from funext ZB,List.map_id];apply N8;rw [WZ,MT];rfl
def Ds (l:List UInt8) (p:Nat) (m:List UInt8):List UInt8:=l.take p++m++l.drop (p+m.length)
theorem LL (l:List UInt8) (p:Nat) (m:List UInt8):BV (l.map tb) p (m.map tb)=(Ds l p m).map tb:=by simp [BV,Ds,map_take,map_drop]
theorem YJ (k:Nat):replicate k ([Tree.int IntKind.u8 0]:List Tree)=(replicate k (0:UInt8)).map tb:=by rw [List.map_replicate];rfl
theorem set_tb (l:List UInt8) (k:Nat) (b:UInt8):List.set (l.map tb) k (tb b)=(l.set k b).map tb:=by rw [List.map_set]
theorem get_tb (l:List UInt8) (k:Nat):(l.map tb)[k]? = l[k]?.map tb:=by rw [getElem?_map]
theorem El (s:ByteArray) (i j:Nat):bl (s.extract i j)=((bl s).drop i).take (j-i):=by unfold bl;rw [ByteArray.data_extract];simp [List.extract_eq_take_drop]
theorem DY (l:List UInt8) (p:Nat) (m:List UInt8) (h:p+m.length≤l.length):(Ds l p m).length=l.length:=by simp only [Ds,length_append,length_take,length_drop];omega
theorem J8 (l:List UInt8) (p:Nat) (m:List UInt8) (h:p+m.length≤l.length) (i:Nat) :
  (Ds l p m).getD i 0=if p≤i∧i<p+m.length then m.getD (i-p) 0 else l.getD i 0:=by
 simp only [Ds,getD_eq_getElem?_getD,List.getElem?_append,length_take,length_append,getElem?_take,getElem?_drop];have e:min p l.length=p:=by omega
 simp only [e];by_cases h1:i<p
 ·rw [if_pos (by omega),if_pos h1,if_pos h1,if_neg (by omega)]
 ·rw [if_neg (c:=i<p) h1];by_cases h2:i<p+m.length
  ·rw [if_pos h2,if_pos ⟨by omega,h2⟩]
  ·rw [if_neg h2,if_neg (by omega),show p+m.length+(i-(p+m.length))=i by omega]
theorem WT (l:List UInt8) (p:Nat) (m:List UInt8) (i:Nat) (hi:i<m.length) (h:p+m.length≤l.length) :
  (Ds l p (m.take i)).set (p+i) (m.getD i 0)=Ds l p (m.take (i+1)):=by
 have h1:(m.take i).length=i:=by simp;omega
 have h2:(m.take (i+1)).length=i+1:=by simp;omega
 apply ext_getElem?;intro k;have hl1:(Ds l p (m.take i)).length=l.length:=DY _ _ _ (by omega);have hl2:(Ds l p (m.take (i+1))).length=l.length:=DY _ _ _ (by omega);by_cases hk:k<l.length
 ·have e1:∀q:List UInt8,q.length=l.length→q[k]? = some (q.getD k 0):=fun q hq=>by simp [List.getD,hq,hk]
  rw [e1 _ (by simpa using hl1),e1 _ hl2];congr 1;have hs:((Ds l p (m.take i)).set (p+i) (m.getD i 0)).getD k 0=if p+i=k then m.getD i 0 else (Ds l p (m.take i)).getD k 0:=by
   simp only [getD_eq_getElem?_getD,List.getElem?_set,hl1];by_cases hpk:p+i=k
   ·subst hpk;simp [hk]
   ·simp [hpk]
  rw [hs,J8 _ _ _ (by omega),J8 _ _ _ (by omega),h1,h2];have ht:∀a b:Nat,a<b→b≤m.length→(m.take b).getD a 0=m.getD a 0:=fun a b hab hb=>by simp [getD_eq_getElem?_getD,getElem?_take,hab]
  by_cases hpk:p+i=k
  ·subst hpk;rw [if_pos rfl,if_pos ⟨by omega,by omega⟩,show p+i-p=i by omega,ht i (i+1) (by omega) (by omega)]
  ·rw [if_neg hpk];by_cases hr:p≤k∧k<p+i
   ·rw [if_pos hr,if_pos ⟨hr.1,by omega⟩,ht _ _ (by omega) (by omega),ht _ _ (by omega) (by omega)]
   ·rw [if_neg hr,if_neg (by omega)]
 ·rw [getElem?_eq_none (by simp;omega),getElem?_eq_none (by omega)]
end Ab
set_option linter.unusedVariables false
set_option linter.unusedSimpArgs false
namespace Ab
open Go
structure Rcv where
 ses:Int
 tot:Int
 known:List Span
 data:ByteArray
 deriving DecidableEq
def Rcv.enc (r:Rcv):List Tree:=[tI r.ses,tI r.tot,.sl 2 (r.known.map Span.enc),.str r.data]
theorem Pv (l:List UInt8) (i:Nat):Dp (mkB l) i=((l.getD i 0).toNat:Int):=by rw [FX,MT]
theorem extract_mk (l:List UInt8) (i j:Nat):(mkB l).extract i j=mkB ((l.drop i).take (j-i)):=N8 (by rw [El,MT,MT])
theorem I4 (l:List UInt8):(mkB l==ByteArray.mk #[])=decide (l=[]):=by rw [Cc,Io];cases l<;>simp
theorem s205 (l:List UInt8) (hl:l.length≤1000000):AL C 205 [.str (mkB l),.int .u8 0] [.str (mkB (l.dropWhile (· == 0)))]:=by
 refine AL.of (fun n=>e205 n _ _) ?_;refine HZ (fun (r:List UInt8)=>[Tree.str (mkB r)]) (fun (s:List UInt8)=>(([.t (.str (mkB s))],[]):List AV×Heap)) (fun s=>match s with
  |[]=>.done []
  |b::s=>if b=0 then .next s else .done (b::s)) (fun s=>s.length≤1000000) (fun s=>s.length) (fun s=>s.dropWhile (· == 0)) l rfl hl rfl
  (fun s hs=>Ev.of fun n again => ?_) (fun s s' hI h => ?_) (fun s hI => ?_)
 ·cases s with
  |nil=>simp [UO,vv,Io,AB,Rd.Ar]
  |cons b s=>
   simp only [UO,vv,vf,reduceCtorEq,reduceAdd,reduceEqDiff,Io,Pv,extract_mk];simp only [length_cons,List.getD_cons_zero,drop_succ_cons,drop_zero,add_sub_cancel,take_length,AB];by_cases hb:b=0
   ·subst hb;simp [Rd.AT];intro h;omega
   ·have hbn:¬(b.toNat=0):=fun h=>hb (UInt8.toNat_inj.1 (by simpa using h));simp [hb,hbn,Rd.Ar]
 ·cases s with
  |nil=>simp at h
  |cons b s=>
   simp only at h;split at h
   ·simp only [Rd.next.injEq] at h;subst h;simp at hI ⊢;omega
   ·simp at h
 ·cases s with
  |nil=>rfl
  |cons b s=>by_cases hb:b=0<;>simp [hb,Rd.fin,dropWhile_cons]
def Fq (l:List UInt8):List UInt8:=(l.reverse.dropWhile (· == 0)).reverse
theorem Mt (l:List UInt8) (b:UInt8):Fq (l++[b])=if b=0 then Fq l else l++[b]:=by unfold Fq;rw [List.reverse_append];simp only [List.reverse_cons,List.reverse_nil,nil_append,singleton_append,dropWhile_cons];by_cases hb:b=0<;>simp [hb]
theorem JT (l:List UInt8):l=[]∨∃s b,l=s++[b]:=by
 by_cases h:l=[]
 ·exact .inl h
 ·exact .inr ⟨_,_,(List.dropLast_concat_getLast h).symm⟩
theorem s206 (l:List UInt8) (hl:l.length≤1000000):AL C 206 [.str (mkB l),.int .u8 0] [.str (mkB (Fq l))]:=by
 refine AL.of (fun n=>e206 n _ _) ?_;refine HZ (fun (r:List UInt8)=>[Tree.str (mkB r)]) (fun (s:List UInt8)=>(([.t (.str (mkB s))],[]):List AV×Heap)) (fun s=>if s.getLast? = some 0 then .next s.dropLast else .done s)
  (fun s=>s.length≤1000000) (fun s=>s.length) Fq l rfl hl rfl
  (fun s hs=>Ev.of fun n again => ?_) (fun s s' hI h => ?_) (fun s hI => ?_)
 ·rcases JT s with rfl|⟨s,b,rfl⟩
  ·simp [UN,UZ,vv,Io,AB,Rd.Ar]
  ·have hs':s.length+1≤1000000:=by simpa using hs
   have e:w64 (((s.length+1:Nat):Int)-1)=(s.length:Int):=by rw [Ha (by omega) (by omega)];simp
   simp only [UN,UZ,vv,vf,reduceCtorEq,reduceAdd,reduceEqDiff,Io,Pv,extract_mk,length_append,length_cons,length_nil,e];simp only [AB,getLast?_concat,Option.some.injEq,List.dropLast_concat,drop_zero,toNat_natCast,Nat.sub_zero,List.take_left];have e2:(s++[b]).getD s.length 0=b:=by simp [List.getD]
   rw [e2];by_cases hb:b=0
   ·subst hb;simp [Rd.AT]
    first|omega|(rw [if_pos (by omega),if_pos (by omega)])
   ·have hbn:¬(b.toNat=0):=fun h=>hb (UInt8.toNat_inj.1 (by simpa using h));simp [hb,hbn,Rd.Ar]
    try omega
 ·split at h
  ·rename_i hg;simp only [Rd.next.injEq] at h;subst h;have:s≠[]:=fun e=>by simp [e] at hg
   have h2:s.length≠0:=fun e=>this (eq_nil_of_length_eq_zero e);simp only [List.length_dropLast];omega
  ·simp at h
 ·rcases JT s with rfl|⟨s,b,rfl⟩
  ·simp [Rd.fin,Fq]
  ·rw [Mt];by_cases hb:b=0<;>simp [hb,Rd.fin]
def IK (l:List UInt8):Bool:=l.all (· == 0)
theorem Pm:∀(l:List UInt8),l.dropWhile (· == 0)=[]↔IK l=true
 |[]=>by simp [IK]
 |b::l=>by
  have:=Pm l;by_cases hb:b=0
  ·simp only [hb,dropWhile_cons,beq_self_eq_true,if_true,this,IK,all_cons,Bool.true_and]
  ·simp [hb,dropWhile_cons,IK]
theorem TL (l:List UInt8):(Fq l).dropWhile (· == 0)=[]↔IK l=true:=by
 rw [Pm];have h:∀k:Nat,∀l:List UInt8,l.length≤k→(IK (Fq l)=true↔IK l=true):=by
  intro k
  induction k with
  |zero=>intro l hl;have:l=[]:=eq_nil_of_length_eq_zero (by omega);subst this;simp [Fq]
  |succ k ih=>
   intro l hl;rcases JT l with rfl|⟨l,b,rfl⟩
   ·simp [Fq]
   ·rw [Mt];by_cases hb:b=0
    ·rw [if_pos hb,ih l (by simp at hl;omega)];simp [IK,hb]
    ·rw [if_neg hb]
 exact h _ l (le_refl _)
theorem Se (p:UInt8→Bool):∀l:List UInt8,(l.dropWhile p).length≤l.length
 |[]=>le_refl _
 |b::l=>by rw [dropWhile_cons];have:=Se p l;split<;>simp only [length_cons]<;>omega
theorem J48t (n:Nat) (s:ByteArray):Od n s ([.t (.bool true)],[])=some [.str s]:=by unfold Od;exact BK rfl _ _
theorem J48f (n:Nat) (s t u:ByteArray) (h1:AA C n 206 [.str s,.int .u8 0]=some [.str t]) (h2:AA C n 205 [.str t,.int .u8 0]=some [.str u]):Od n s ([.t (.bool false)],[])=some [.str u]:=by
 have e1:Dp (ByteArray.mk #[0]) 0=0:=by decide
 unfold Od;rw [D3 (show ¬(vB ([AV.t (Tree.bool false)],[]) 0=true) from Bool.false_ne_true),e1,h1];simp only [vv,vf,reduceCtorEq,reduceAdd,reduceEqDiff,h2]
theorem s178 (l:List UInt8) (hl:l.length≤1000000):∃t:List UInt8,(t=[]↔IK l=true)∧AL C 178 [.str (mkB l),.str (ByteArray.mk #[0])] [.str (mkB t)]:=by
 by_cases h:l=[]
 ·subst h;refine ⟨[],by simp [IK],AL.of (fun n=>e178 n _) (Ev.of fun n => ?_)⟩;have h1:∀X Y:Option (List Tree),cnd ((mkB []==ByteArray.mk #[])=true) X Y=X:=fun X Y=>BK (by rw [I4];exact decide_eq_true rfl) X Y;rw [join_eq,h1];exact J48t n (mkB [])
 ·refine ⟨(Fq l).dropWhile (· == 0),TL l,AL.of (fun n=>e178 n _) ?_⟩;have hlen:(Fq l).length≤l.length:=by unfold Fq;rw [List.length_reverse];refine le_trans (Se _ _) (by rw [List.length_reverse];exact le_refl _)
  refine ((s206 l hl).and (s205 (Fq l) (by omega))).mono fun n hh => ?_;have h1:∀X Y:Option (List Tree),cnd ((mkB l==ByteArray.mk #[])=true) X Y=Y:=fun X Y=>D3 (by rw [I4,decide_eq_false h];exact Bool.false_ne_true) X Y;have h2:(ByteArray.mk #[0]==ByteArray.mk #[])=false:=by decide
  rw [join_eq,h1,h2];exact J48f n _ _ _ hh.1 hh.2
end Ab
set_option linter.unusedVariables false
set_option linter.unusedSimpArgs false
namespace Ab
open Go
def Oy (r:Rcv):Prop:=(0≤r.ses∧r.ses≤1099511627776)∧(r.tot = -1∨1≤r.tot∧r.tot≤65536)
def KnR (r:Rcv):Prop:=A8 r.known=0∧(r.known=[]↔r.tot = -1)∧(r.known=[]∨0≤EP r.known∧Ei r.known≤r.tot)
def ON (r:Rcv):Prop:=∀i,i<r.data.size→(bl r.data).getD i 0≠0→Ac i r.known
instance (r:Rcv):Decidable (Oy r):=by unfold Oy;exact inferInstance
instance (r:Rcv):Decidable (KnR r):=by unfold KnR;exact inferInstance
instance (r:Rcv):Decidable (ON r):=by unfold ON;exact inferInstance
def HT (t:Int):Int:=if 0>t then 0 else t
def DI (r:Rcv):Int:=if ¬Oy r then 2 else if ¬KnR r then 1 else if (r.data.size:Int)≠HT r.tot then 10 else if ON r then 0 else 24
theorem NV (t:Int):∀(l:List Span),Ac t l↔l.any (fun x=>decide (x.fro≤t∧t<x.to))=true
 |[]=>by simp [Ac]
 |x::l=>by simp only [Ac,NV t l,List.any_cons,or_eq_true,decide_eq_true_eq]
theorem Xt (l:List Span) (t:Int):AL C 103 [.sl 2 (l.map Span.enc),tI t] [.bool (decide (A8 l=0∧Ac t l))]:=by
 refine AL.of (fun n=>e103 n _ _) ?_;refine Ev.rw (s31 l) (fun n h=>by simp only [h,vv,vf,reduceCtorEq,reduceAdd,reduceEqDiff];rfl) ?_;by_cases hc:A8 l=0
 ·have hl:=BC hc;have e:decide (A8 l=0∧Ac t l)=l.any (fun x=>decide (x.fro≤t∧t<x.to)):=by rw [Bool.eq_iff_iff,decide_eq_true_eq,← NV];simp [hc]
  rw [e];simp only [hc,bne_self_eq_false,vv,vf,reduceCtorEq,reduceAdd,reduceEqDiff];refine Ad (fun (r:Bool)=>[Tree.bool r]) l (fun i (_:Unit)=>(([.t (tI i)],[]):List AV×Heap)) (fun _ (_:Unit) x=>if (fun x:Span=>decide (x.fro≤t∧t<x.to)) x=true then .done true else .next ()) (fun _=>false) (fun _ _=>True) () rfl trivial
   (M8 _ 0 l) (fun i s x hx hI=>Ev.of fun n again => ?_) (fun _ _ _ _ _ _ _=>trivial) (fun s hI=>Ev.of fun n again => ?_)
  ·have hi:=AM hx;simp only [UW,vv,vf,reduceCtorEq,reduceAdd,reduceEqDiff,hx,Span.enc,(show (i:Int)<l.length by omega),AS (show i<4611686018427387904 by omega)];by_cases h1:x.fro≤t<;>by_cases h2:t<x.to<;>simp [h1,h2,AB,Rd.AT,Rd.Ar]
  ·simp only [UW,vv,vf,reduceCtorEq,reduceAdd,reduceEqDiff,lt_irrefl]
 ·refine Ev.of fun n => ?_;have:(A8 l != 0)=true:=by simpa using hc
  simp [hc,this,AB]
theorem s129 (r:Rcv) (hr:Oy r):AL C 129 r.enc [.bool (decide (KnR r))]:=by
 refine AL.of (fun n=>e129 n _ _ _ _) ?_;refine (s31 r.known).mono fun n h => ?_;simp only [h,vv,vf,reduceCtorEq,reduceAdd,reduceEqDiff];unfold KnR;by_cases h0:r.tot<0
 ·have ht:r.tot = -1:=by rcases hr.2 with h|h<;>omega
  simp only [h0,vv,vf,reduceCtorEq,reduceAdd,reduceEqDiff];by_cases hl:r.known=[]
  ·have:A8 ([]:List Span)=0:=by decide
   simp [hl,ht,AB,this]
  ·have:r.known.length≠0:=fun e=>hl (eq_nil_of_length_eq_zero e);have h2:¬((r.known.length:Int)=0):=by omega
   simp [hl,ht,AB,h2]
 ·have ht:r.tot ≠ -1:=by omega
  simp only [h0,vv,vf,reduceCtorEq,reduceAdd,reduceEqDiff];by_cases hl:r.known=[]
  ·simp [hl,ht,AB]
  ·obtain ⟨e1,e2⟩:=Iw hl;obtain ⟨e3,e4⟩:=Iq hl;have hlen:r.known.length≠0:=fun e=>hl (eq_nil_of_length_eq_zero e);by_cases hc:A8 r.known=0
   ·have hk:=BC hc;simp only [(show (0:Int)<r.known.length by omega),hc,beq_self_eq_true,vv,vf,reduceCtorEq,reduceAdd,reduceEqDiff,e1,e2,e4,Span.enc,Ha (show r.known.length<4611686018427387904 by omega) (by omega),e3];simp only [hl,ht,false_or,iff_false,not_false_eq_true,true_and,vv,vf,reduceCtorEq,reduceAdd,reduceEqDiff,AB];by_cases h3:0≤(r.known.head hl).fro<;>simp [h3]
   ·have:(A8 r.known==0)=false:=by simpa using hc
    simp only [(show (0:Int)<r.known.length by omega),this,vv,vf,reduceCtorEq,reduceAdd,reduceEqDiff];simp [hc,AB]
theorem LI {α Q:Type} (p:Nat→α→Bool) (a b:Q):∀(l:List α) (i:Nat),(∀k x,l[k]? = some x→p (i+k) x=true)→Bd (fun i (_:Unit) x=>if p i x=true then .next () else .done a) (fun _=>b) i l ()=b
 |[],i,_=>rfl
 |x::l,i,h=>by have h0:=h 0 x rfl;simp only [add_zero] at h0;simp only [Bd,h0,if_true];refine LI p a b l (i+1) fun k y hy => ?_;have:=h (k+1) y (by simpa using hy);rwa [show i+(k+1)=i+1+k by omega] at this
theorem LJ {α Q:Type} (p:Nat→α→Bool) (a b:Q):∀(l:List α) (i k:Nat) (x:α),l[k]? = some x→p (i+k) x=false→Bd (fun i (_:Unit) x=>if p i x=true then .next () else .done a) (fun _=>b) i l ()=a
 |[],i,k,x,hx,_=>by simp at hx
 |y::l,i,k,x,hx,h=>by
  by_cases hp:p i y=true
  ·simp only [Bd,hp,if_true];cases k with
   |zero=>simp at hx;subst hx;simp [hp] at h
   |succ k=>exact LJ p a b l (i+1) k x (by simpa using hx) (by rwa [show i+1+k=i+(k+1) by omega])
  ·simp only [Bd,hp,if_false,false_eq_true]
theorem E1 {l:List UInt8} {k:Nat} {x:UInt8} (h:l[k]? = some x):l.getD k 0=x:=by simp [List.getD,h]
theorem s105 (r:Rcv):AL C 105 r.enc [tI (DI r)]:=by
 refine AL.of (fun n=>e105 n _ _ _ _) ?_;unfold DI;by_cases hr:Oy r
 ·have hr':=hr;obtain ⟨⟨h1,h2⟩,h3⟩:=hr;have hj:∀(J:List AV×Heap→Option (List Tree)),(cnd (decide (r.ses<0)=true) (J ([AV.t (Tree.bool true)],[])) (cnd (decide (r.ses>1099511627776)=true) (J ([AV.t (Tree.bool true)],[])) (cnd ((r.tot != -1)=true) (cnd (decide (r.tot<1)=true) (J ([AV.t (Tree.bool true)],[])) (J ([AV.t (Tree.bool (decide (r.tot>65536)))],[]))) (J ([AV.t (Tree.bool false)],[])))))=J ([AV.t (Tree.bool false)],[]):=fun J=>by
   simp only [AB,decide_eq_true_eq,bne_iff_ne];rw [if_neg (by omega),if_neg (by omega)];split
   ·rw [if_neg (by omega),decide_eq_false (by omega)]
   ·rfl
  simp only [join_eq];refine Ev.conv' (fun n h=>(hj _).trans h) ?_;simp only [Uf,vv,vf,reduceCtorEq,reduceAdd,reduceEqDiff];refine Ev.rw (s129 r hr') (fun n h=>by simp only [Rcv.enc] at h;simp only [h,vv,vf,reduceCtorEq,reduceAdd,reduceEqDiff];rfl) ?_;rw [if_neg (not_not_intro hr')];by_cases hk:KnR r
  ·simp only [hk,decide_true,Bool.not_true,vv,vf,reduceCtorEq,reduceAdd,reduceEqDiff];rw [if_neg (not_not_intro trivial)];by_cases hs:(r.data.size:Int)=HT r.tot
   ·have hb:((r.data.size:Int) != if 0>r.tot then 0 else r.tot)=false:=by simpa [HT] using hs
    have hsz:r.data.size≤65536:=by unfold HT at hs;split at hs<;>omega
    rw [if_neg (not_not_intro hs)];simp only [hb,vv,vf,reduceCtorEq,reduceAdd,reduceEqDiff];refine Ad (fun (r:Int)=>[tI r]) (bl r.data) (fun i (_:Unit)=>(([.t (tI i)],[]):List AV×Heap)) (fun i (_:Unit) x=>if (fun (i:Nat) (x:UInt8)=>decide (x≠0→Ac i r.known)) i x=true then .next () else .done 24) (fun _=>0) (fun _ _=>True) () rfl trivial
     ?_ (fun i s x hx hI => ?_) (fun _ _ _ _ _ _ _=>trivial) (fun s hI=>Ev.of fun n again => ?_)
    ·by_cases hz:ON r
     ·rw [if_pos hz];refine LI _ _ _ _ _ fun k x hx => ?_;simp only [zero_add,decide_eq_true_eq];intro hx0;refine hz k (by rw [← A6];exact AM hx) ?_;rw [E1 hx];exact hx0
     ·rw [if_neg hz];unfold ON at hz;simp only [not_forall] at hz;obtain ⟨k,hk1,hk2,hk3⟩:=hz;obtain ⟨x,hx⟩:∃x,(bl r.data)[k]? = some x:=⟨(bl r.data)[k]'(by rw [A6];exact hk1),getElem?_eq_getElem _⟩
      rw [E1 hx] at hk2;refine LJ _ _ _ _ _ k x hx ?_;simp only [zero_add,decide_eq_false_iff_not];exact fun h=>hk3 (h hk2)
    ·have hi:=AM hx;rw [A6] at hi;refine (Xt r.known i).mono fun n h again => ?_;simp only [UU,vv,vf,reduceCtorEq,reduceAdd,reduceEqDiff,h,FX,E1 hx,(show (i:Int)<r.data.size by omega),AS (show i<4611686018427387904 by omega),hk.1];by_cases hx0:x=0
     ·subst hx0;simp [AB,Rd.AT]
     ·have hx1:¬(x.toNat=0):=fun h=>hx0 (UInt8.toNat_inj.1 (by simpa using h));by_cases hm:Ac i r.known
      ·simp [AB,hx0,hx1,hm,Rd.AT]
      ·simp [AB,hx0,hx1,hm,Rd.Ar]
    ·simp only [UU,vv,vf,reduceCtorEq,reduceAdd,reduceEqDiff,A6,lt_irrefl]
   ·have hb:((r.data.size:Int) != if 0>r.tot then 0 else r.tot)=true:=by simpa [HT] using hs
    rw [if_pos hs];simp only [hb,vv,vf,reduceCtorEq,reduceAdd,reduceEqDiff];exact Ev.of fun n=>by first|rfl|trivial
  ·simp only [hk,decide_false,Bool.not_false,vv,vf,reduceCtorEq,reduceAdd,reduceEqDiff];exact Ev.of fun n=>by first|rfl|trivial
 ·rw [if_pos hr];refine Ev.of fun n => ?_;unfold Oy at hr;simp only [join_eq,Uf,vv,vf,reduceCtorEq,reduceAdd,reduceEqDiff,AB,bne_iff_ne];by_cases h1:r.ses<0
  ·simp [h1]
  ·by_cases h2:1099511627776<r.ses
   ·simp [h1,h2]
   ·have h3:r.tot ≠ -1:=by omega
    simp only [h1,h2,if_false,h3,ne_eq,not_false_eq_true,if_true];by_cases h4:r.tot<1
    ·simp [h4]
    ·simp [h4,show 65536<r.tot by omega]
end Ab
set_option linter.unusedVariables false
set_option linter.unusedSimpArgs false
namespace Ab
open Go
def Gs (D:List UInt8) (_:Nat) (a:Int) (x:Span):Rd Int Int:=if IK ((D.drop a.toNat).take (x.fro.toNat-a.toNat))=true then .next x.to else .done 24
def Nt (D:List UInt8) (a:Int):Int:=if IK (D.drop a.toNat)=true then 0 else 24
theorem ZI (l:List UInt8):IK l=true↔∀k,k<l.length→l.getD k 0=0:=by
 unfold IK;rw [all_eq_true];constructor
 ·intro h k hk;have:l.getD k 0=l[k]:=by simp [List.getD,hk]
  rw [this];simpa using h _ (getElem_mem hk)
 ·intro h x hx;obtain ⟨k,hk,rfl⟩:=getElem_of_mem hx;have:=h k hk;have e:l.getD k 0=l[k]:=by simp [List.getD,hk]
  rw [e] at this;simp [this]
theorem P6 (D:List UInt8) (a b:Nat) (hb:b≤D.length):IK ((D.drop a).take (b-a))=true↔∀k,a≤k→k<b→D.getD k 0=0:=by
 rw [ZI];have hg:∀k,k<b-a→((D.drop a).take (b-a)).getD k 0=D.getD (a+k) 0:=fun k hk=>by simp [getD_eq_getElem?_getD,getElem?_take,hk,getElem?_drop]
 constructor
 ·intro h k h1 h2;have:=h (k-a) (by simp;omega);rw [hg _ (by omega),show a+(k-a)=k by omega] at this;exact this
 ·intro h k hk;simp at hk;rw [hg k (by omega)];exact h _ (by omega) (by omega)
theorem Vk (D:List UInt8):∀(l:List Span) (i:Nat) (a:Int),Canon (a-1) l→BZ l D.length→0≤a→a≤D.length→
  (Bd (Gs D) (Nt D) i l a=0∧(∀k:Nat,a≤k→k<D.length→D.getD k 0≠0→Ac k l))∨(Bd (Gs D) (Nt D) i l a=24∧∃k:Nat,a≤k∧k<D.length∧D.getD k 0≠0∧¬Ac k l)
 |[],i,a,hc,hw,h0,h1=>by
  simp only [Bd,Nt];have key:=P6 D a.toNat D.length (le_refl _);rw [take_of_length_le (by simp)] at key;by_cases h:IK (D.drop a.toNat)=true
  ·rw [if_pos h];exact .inl ⟨rfl,fun k h2 h3 h4=>(h4 (key.1 h k (by omega) h3)).elim⟩
  ·rw [if_neg h];refine .inr ⟨rfl,?_⟩;have h5:¬∀k,a.toNat≤k→k<D.length→D.getD k 0=0:=fun hh=>h (key.2 hh);simp only [not_forall] at h5;obtain ⟨k,h6,h7,h8⟩:=h5;exact ⟨k,by omega,h7,h8,fun h=>h⟩
 |x::l,i,a,hc,hw,h0,h1=>by
  obtain ⟨c1,c2,c3⟩:=hc;have hx:=hw x (List.mem_cons_self);have key:=P6 D a.toNat x.fro.toNat (by omega);simp only [Bd];by_cases h:IK ((D.drop a.toNat).take (x.fro.toNat-a.toNat))=true
  ·simp only [Gs,h,if_true];have ih:=Vk D l (i+1) x.to (D7 c3 (by omega)) (fun y hy=>hw y (mem_cons_of_mem _ hy)) (by omega) (by omega);have hz:=key.1 h;rcases ih with ⟨e,ih⟩|⟨e,k,k1,k2,k3,k4⟩
   ·refine .inl ⟨e,fun k k1 k2 k3 => ?_⟩;by_cases hk:(k:Int)<x.fro
    ·exact (k3 (hz k (by omega) (by omega))).elim
    ·by_cases hk2:(k:Int)<x.to
     ·exact .inl ⟨by omega,hk2⟩
     ·exact .inr (ih k (by omega) k2 k3)
   ·refine .inr ⟨e,k,by omega,k2,k3,fun hm => ?_⟩;rcases hm with hm|hm
    ·omega
    ·exact k4 hm
  ·simp only [Gs,h,if_false,false_eq_true];refine .inr ⟨trivial,?_⟩;have h5:¬∀k,a.toNat≤k→k<x.fro.toNat→D.getD k 0=0:=fun hh=>h (key.2 hh);simp only [not_forall] at h5;obtain ⟨k,h6,h7,h8⟩:=h5;refine ⟨k,by omega,by omega,h8,fun hm => ?_⟩;rcases hm with hm|hm
   ·omega
   ·have:=CF c3 hm;omega
theorem s159 (r:Rcv):AL C 159 r.enc [tI (DI r)]:=by
 refine AL.of (fun n=>e159 n _ _ _ _) ?_;unfold DI;by_cases hr:Oy r
 ·have hr':=hr;obtain ⟨⟨h1,h2⟩,h3⟩:=hr;have hj:∀(J:List AV×Heap→Option (List Tree)),(cnd (decide (r.ses<0)=true) (J ([AV.t (Tree.bool true)],[])) (cnd (decide (r.ses>1099511627776)=true) (J ([AV.t (Tree.bool true)],[])) (cnd ((r.tot != -1)=true) (cnd (decide (r.tot<1)=true) (J ([AV.t (Tree.bool true)],[])) (J ([AV.t (Tree.bool (decide (r.tot>65536)))],[]))) (J ([AV.t (Tree.bool false)],[])))))=J ([AV.t (Tree.bool false)],[]):=fun J=>by
   simp only [AB,decide_eq_true_eq,bne_iff_ne];rw [if_neg (by omega),if_neg (by omega)];split
   ·rw [if_neg (by omega),decide_eq_false (by omega)]
   ·rfl
  simp only [join_eq];refine Ev.conv' (fun n h=>(hj _).trans h) ?_;simp only [Ub,vv,vf,reduceCtorEq,reduceAdd,reduceEqDiff];refine Ev.rw (s67 r.known) (fun n h=>by simp only [h,vv,vf,reduceCtorEq,reduceAdd,reduceEqDiff];rfl) ?_;rw [if_neg (not_not_intro hr')];have el:(r.known.length:Int)=0↔r.known=[]:=by rw [← length_eq_zero_iff];omega
  have eb:((r.known.length:Int)==0)=decide (r.known=[]):=by rw [Bool.eq_iff_iff,beq_iff_eq,decide_eq_true_eq,el]
  have eb2:(r.tot == -1)=decide (r.tot = -1):=by rw [Bool.eq_iff_iff,beq_iff_eq,decide_eq_true_eq]
  simp only [eb,eb2];by_cases hc:A8 r.known=0
  ·simp only [hc,bne_self_eq_false,vv,vf,reduceCtorEq,reduceAdd,reduceEqDiff,Uc];by_cases he:(r.known=[]↔r.tot = -1)
   ·have e1:(! (decide (r.known=[])==decide (r.tot = -1)))=false:=by
     by_cases hx:r.known=[]
     ·simp [hx,he.1 hx]
     ·have hy:¬r.tot = -1:=fun h=>hx (he.2 h);simp [hx,hy]
    simp only [e1,vv,vf,reduceCtorEq,reduceAdd,reduceEqDiff];have hkn:KnR r↔(r.known=[]∨0≤EP r.known∧Ei r.known≤r.tot):=⟨fun h=>h.2.2,fun h=>⟨hc,he,h⟩⟩
    have hstep:∀(J:List AV×Heap→Option (List Tree)),(cnd (0<(r.known.length:Int)) (Option.bind (Option.map Span.enc r.known[0]?) fun y11=>cnd (okI y11 0) (cnd (gI y11 0<0) (J ([AV.t (Tree.bool true)],[])) (cnd (0≤w64 ((r.known.length:Int)-1)) (Option.bind (Option.map Span.enc r.known[(w64 ((r.known.length:Int)-1)).toNat]?) fun y12=>cnd (okI y12 1) (J ([AV.t (Tree.bool (decide (r.tot<gI y12 1)))],[])) none) none)) none) (J ([AV.t (Tree.bool false)],[])))=J ([AV.t (Tree.bool (decide (¬KnR r)))],[]):=fun J=>by
     by_cases hl:r.known=[]
     ·have:KnR r:=hkn.2 (.inl hl);simp [hl,AB,this]
     ·obtain ⟨e1,e2⟩:=Iw hl;obtain ⟨e3,e4⟩:=Iq hl;have hk:=BC hc;have hlen:r.known.length≠0:=fun e=>hl (eq_nil_of_length_eq_zero e);simp only [(show (0:Int)<r.known.length by omega),vv,vf,reduceCtorEq,reduceAdd,reduceEqDiff,e1,Ha (show r.known.length<4611686018427387904 by omega) (by omega),e3,Span.enc];rw [← e2,← e4];by_cases h3:EP r.known<0
      ·have:¬KnR r:=fun h=>by rcases hkn.1 h with h|h;exact hl h;omega
       simp [h3,this,AB]
      ·by_cases h4:r.tot<Ei r.known
       ·have:¬KnR r:=fun h=>by rcases hkn.1 h with h|h;exact hl h;omega
        simp [h3,h4,this,AB]
       ·have:KnR r:=hkn.2 (.inr ⟨by omega,by omega⟩);simp [h3,h4,this,AB]
    refine Ev.conv' (fun n h=>(hstep _).trans h) ?_;simp only [Zj,vv,vf,reduceCtorEq,reduceAdd,reduceEqDiff];by_cases hk:KnR r
    ·simp only [hk,not_true_eq_false,vv,vf,reduceCtorEq,reduceAdd,reduceEqDiff];by_cases hs:(r.data.size:Int)=HT r.tot
     ·have hb:((r.data.size:Int) != if 0>r.tot then 0 else r.tot)=false:=by simpa [HT] using hs
      have hsz:r.data.size≤65536:=by unfold HT at hs;split at hs<;>omega
      rw [if_neg (not_not_intro hs)];simp only [gt_iff_lt] at hb;simp only [hb,vv,vf,reduceCtorEq,reduceAdd,reduceEqDiff];have hW:BZ r.known (bl r.data).length:=by
       have hw:=(B4 hc).1 hk.2.2;rw [A6,hs];intro x hx;have:=hw x hx;unfold HT;split
       ·have ht:r.tot = -1:=by omega
        have:=he.2 ht;rw [this] at hx;cases hx
       ·exact this
      have hC:Canon (0-1) r.known:=by
       have h:=((Aj r.known).1 hc).2.1;cases hkk:r.known with
       |nil=>trivial
       |cons x l=>
        rw [hkk] at h;refine ⟨?_,h.2.1,h.2.2⟩;have:=hW x (by rw [hkk];exact List.mem_cons_self);omega
      have hlen:=BC hc;have hd:r.data=mkB (bl r.data):=(Yb _).symm;refine Ad (fun (r:Int)=>[tI r]) r.known (fun i (a:Int)=>(([.t (tI i)],[.box [.t (tI a)]]):List AV×Heap)) (Gs (bl r.data)) (Nt (bl r.data)) (fun i a=>Canon (a-1) (r.known.drop i)∧0≤a∧a≤r.data.size) 0 rfl ⟨by simpa using hC,by omega,by omega⟩
       ?_ (fun i a x hx hI => ?_) (fun i a x a' hx hI h => ?_) (fun a hI => ?_)
      ·rcases Vk (bl r.data) r.known 0 0 hC hW (by omega) (by omega) with ⟨e,h⟩|⟨e,k,k1,k2,k3,k4⟩
       ·rw [e,if_pos];intro i hi hi2;exact h i (by omega) (by rw [A6];exact hi) hi2
       ·rw [e,if_neg];intro h;exact k4 (h k (by rw [A6] at k2;exact k2) k3)
      ·have hi:=AM hx;have hdr:r.known.drop i=x::r.known.drop (i+1):=by rw [List.drop_eq_getElem_cons hi];congr 1;rw [getElem?_eq_getElem hi] at hx;exact Option.some.inj hx
       obtain ⟨c1,c2,c3⟩:=hI;rw [hdr] at c1;have hx2:=hW x (mem_of_getElem? hx);rw [A6] at hx2;obtain ⟨t,ht,h48⟩:=s178 (((bl r.data).drop a.toNat).take (x.fro.toNat-a.toNat)) (by simp;rw [A6];omega);refine h48.mono fun n h again => ?_;have hxc:=c1.1;have he:r.data.extract a.toNat x.fro.toNat=mkB (((bl r.data).drop a.toNat).take (x.fro.toNat-a.toNat)):=by apply N8;rw [El,MT]
       simp only [UQ,vv,vf,reduceCtorEq,reduceAdd,reduceEqDiff,hx,Span.enc,(show (i:Int)<r.known.length by omega),AS (show i<4611686018427387904 by omega)];rw [BK (by have:=c1.2.1;omega),BK (by omega),he,h];simp only [vv,vf,reduceCtorEq,reduceAdd,reduceEqDiff,I4,Gs,← ht];by_cases htt:t=[]<;>simp [htt,AB,Rd.AT,Rd.Ar]
      ·have hi:=AM hx;have hdr:r.known.drop i=x::r.known.drop (i+1):=by rw [List.drop_eq_getElem_cons hi];congr 1;rw [getElem?_eq_getElem hi] at hx;exact Option.some.inj hx
       obtain ⟨c1,c2,c3⟩:=hI;rw [hdr] at c1;have hx2:=hW x (mem_of_getElem? hx);rw [A6] at hx2;unfold Gs at h;split at h
       ·simp only [Rd.next.injEq] at h;subst h;have:=c1.2.1;have:=c1.1;exact ⟨D7 c1.2.2 (by omega),by omega,by omega⟩
       ·cases h
      ·obtain ⟨c1,c2,c3⟩:=hI;obtain ⟨t,ht,h48⟩:=s178 ((bl r.data).drop a.toNat) (by simp;rw [A6];omega);refine h48.mono fun n h again => ?_;have he:r.data.extract a.toNat r.data.size=mkB ((bl r.data).drop a.toNat):=by apply N8;rw [El,MT,take_of_length_le (by simp;rw [A6];omega)]
       simp only [UQ,vv,vf,reduceCtorEq,reduceAdd,reduceEqDiff,lt_irrefl];rw [BK (by omega),BK (by omega),he,h];simp only [vv,vf,reduceCtorEq,reduceAdd,reduceEqDiff,I4,Nt,← ht];by_cases htt:t=[]<;>simp [htt,AB]
     ·have hb:((r.data.size:Int) != if 0>r.tot then 0 else r.tot)=true:=by simpa [HT] using hs
      rw [if_pos hs];simp only [gt_iff_lt] at hb;simp only [hb,vv,vf,reduceCtorEq,reduceAdd,reduceEqDiff];exact Ev.of fun n=>by first|rfl|trivial
    ·simp only [hk,not_false_eq_true,vv,vf,reduceCtorEq,reduceAdd,reduceEqDiff];exact Ev.of fun n=>by first|rfl|trivial
   ·have e1:(! (decide (r.known=[])==decide (r.tot = -1)))=true:=by by_cases hx:r.known=[]<;>by_cases hy:r.tot = -1<;>simp_all
    have:¬KnR r:=fun h=>he h.2.1;simp only [e1,this,not_false_eq_true,vv,vf,reduceCtorEq,reduceAdd,reduceEqDiff];exact Ev.of fun n=>by first|rfl|trivial
  ·have:(A8 r.known != 0)=true:=by simpa using hc
   have h2:¬KnR r:=fun h=>hc h.1;simp only [this,h2,Uc,not_false_eq_true,vv,vf,reduceCtorEq,reduceAdd,reduceEqDiff];exact Ev.of fun n=>by first|rfl|trivial
 ·rw [if_pos hr];refine Ev.of fun n => ?_;unfold Oy at hr;simp only [join_eq,Ub,vv,vf,reduceCtorEq,reduceAdd,reduceEqDiff,AB,bne_iff_ne];by_cases h1:r.ses<0
  ·simp [h1]
  ·by_cases h2:1099511627776<r.ses
   ·simp [h1,h2]
   ·have h3:r.tot ≠ -1:=by omega
    simp only [h1,h2,if_false,h3,ne_eq,not_false_eq_true,if_true];by_cases h4:r.tot<1
    ·simp [h4]
    ·simp [h4,show 65536<r.tot by omega]
end Ab
set_option linter.unusedVariables false
set_option linter.unusedSimpArgs false
namespace Ab
open Go
def sp (x:Seg):Span:=⟨x.off,x.off+x.data.size⟩
theorem M4 {x:Seg} (h:B5 x=0):0≤x.off∧x.off≤65536∧x.data.size≤16∧0≤x.tot∧x.tot≤65536:=by
 obtain ⟨hk,hn,hc⟩:=EC h;unfold Bp at hn;unfold CM at hc;by_cases h1:x.kind=1
 ·grind
 ·by_cases h2:x.kind=2
  ·grind
  ·have:x.kind=3:=by omega
   grind
theorem Cx {x:Seg} (h:B5 x=0) (h1:x.kind=1):1≤x.tot∧x.tot≤65536∧0≤x.off∧1≤x.data.size∧x.data.size≤16∧x.off+x.data.size≤x.tot∧x.AZ=[]∧(x.chk=true→1≤x.ser∧x.ser≤1099511627776)∧0≤x.ses∧x.ses≤1099511627776:=by obtain ⟨hk,hn,hc⟩:=EC h;unfold Bp at hn;unfold CM at hc;grind
theorem s161 (r:Rcv) (x:Seg) (hx:B5 x=0):AL C 161 (r.enc++x.enc) [.sl 2 ((DA r.known [sp x]).map Span.enc),tI (DB r.known [sp x])]:=by obtain ⟨h1,h2,h3,_⟩:=M4 hx;refine AL.of (fun n=>e161 n _ _ _ _ _ _ _ _ _ _ _ _) ?_;refine (s183 r.known [sp x]).mono fun n h => ?_;rw [Eb] at h;simp only [map_cons,map_nil,sp,Span.enc] at h;rw [AP (x:=x.off+(x.data.size:Int)) (by omega) (by omega)];simp only [h,vv,vf,reduceCtorEq,reduceAdd,reduceEqDiff];rfl
theorem Qg {a b:List UInt8} (h:a.length=b.length):a=b↔∀k,k<a.length→a.getD k 0=b.getD k 0:=by
 constructor
 ·intro e k _;rw [e]
 ·intro hk;apply List.ext_getElem h;intro i h1 h2;have:=hk i h1;simpa [List.getD,h1,h2] using this
theorem KM (D:List UInt8) (a b k:Nat) (hb:b≤D.length) (hk:k<b-a):((D.drop a).take (b-a)).getD k 0=D.getD (a+k) 0:=by simp [getD_eq_getElem?_getD,getElem?_take,hk,getElem?_drop]
theorem part_eq (D E:List UInt8) (f t o:Nat) (h1:f<t) (h2:t≤D.length) (h3:o≤f) (h4:t-o≤E.length) :
  ((D.drop f).take (t-f)=(E.drop (f-o)).take ((t-o)-(f-o))↔∀k,f≤k→k<t→D.getD k 0=E.getD (k-o) 0):=by
 rw [Qg (by simp;omega)];constructor
 ·intro h k k1 k2;have:=h (k-f) (by simp;omega);rw [KM D f t _ h2 (by omega),KM E (f-o) (t-o) _ h4 (by omega),show f+(k-f)=k by omega,show f-o+(k-f)=k-o by omega] at this;exact this
 ·intro h k hk;simp at hk;rw [KM D f t _ h2 (by omega),KM E (f-o) (t-o) _ h4 (by omega),show f-o+k=f+k-o by omega];exact h _ (by omega) (by omega)
def agree (r:Rcv) (x:Seg):Prop:=∀i,i<x.data.size→Ac (x.off+i) r.known→(bl r.data).getD (x.off.toNat+i) 0=(bl x.data).getD i 0
def Gc (r:Rcv) (x:Seg) (k:Span):Prop:=∀i,i<x.data.size→k.fro≤x.off+i→x.off+i<k.to→(bl r.data).getD (x.off.toNat+i) 0=(bl x.data).getD i 0
instance (r:Rcv) (x:Seg):Decidable (agree r x):=by unfold agree;exact inferInstance
instance (r:Rcv) (x:Seg) (k:Span):Decidable (Gc r x k):=by unfold Gc;exact inferInstance
def DP (r:Rcv) (x:Seg):Bool:=decide (x.kind=1∧x.ses=r.ses∧(r.tot = -1∨x.tot=r.tot)∧agree r x∧DB r.known [sp x]=0)
theorem XE (r:Rcv) (x:Seg):agree r x↔r.known.all (fun k=>decide (Gc r x k))=true:=by
 have hm:∀(t:Int) (l:List Span),Ac t l↔∃k∈l,k.fro≤t∧t<k.to:=by
  intro t l
  induction l with
  |nil=>simp [Ac]
  |cons y l ih=>simp only [Ac,ih,mem_cons,exists_eq_or_imp]
 rw [all_eq_true];simp only [decide_eq_true_eq];unfold agree Gc;constructor
 ·intro h k hk i hi h1 h2;exact h i hi ((hm _ _).2 ⟨k,hk,h1,h2⟩)
 ·intro h i hi hmem;obtain ⟨k,hk,h1,h2⟩:=(hm _ _).1 hmem;exact h k hk i hi h1 h2
theorem Cj {r:Rcv} (h:DI r=0):Oy r∧KnR r∧(r.data.size:Int)=HT r.tot∧ON r:=by
 unfold DI at h;split at h
 ·omega
 ·rename_i h1;split at h
  ·omega
  ·rename_i h2;split at h
   ·omega
   ·rename_i h3;split at h
    ·rename_i h4;exact ⟨not_not.1 h1,not_not.1 h2,not_not.1 h3,h4⟩
    ·omega
theorem Gi {r:Rcv} (h:DI r=0):BZ r.known r.data.size:=by
 obtain ⟨h1,h2,h3,h4⟩:=Cj h;have hw:=(B4 h2.1).1 h2.2.2;rw [h3];intro x hx;have:=hw x hx;unfold HT;split
 ·have ht:r.tot = -1:=by rcases h1.2 with h|h<;>omega
  have:=h2.2.1.2 ht;rw [this] at hx;cases hx
 ·exact this
theorem W5 {l:List Span} {b:Int} (h:Canon b l):∀y∈l,y.fro<y.to:=fun y hy=>(Kl h y hy).2
theorem Ym (r:Rcv) (x:Seg) (hr:DI r=0) (hx:B5 x=0) (hk:x.kind=1):Ev fun n=>∀z:List AV×Heap→Option (List Tree),AH (fun p again=>Q6 n (r.known.map Span.enc) x.kind x.ses x.ser x.off x.tot x.chk x.data (x.AZ.map Span.enc) r.ses r.tot r.data z p again) n ([.t (tI 0)],[.box []])=z ([.t (.bool (decide (agree r x)))],[.box []]):=by
 obtain ⟨c1,c2,c3,c4⟩:=Cj hr;have hW:=Gi hr;have hlen:=BC c2.1;obtain ⟨g1,g2,g3,g4,g5,g6,g7⟩:=Cx hx hk;have hcan:=W5 ((Aj r.known).1 c2.1).2.1;have hsz:r.data.size≤65536:=by have:=c1.2;unfold HT at c3;split at c3<;>omega
 refine Fg r.known (fun i (_:Unit)=>(([.t (tI i)],[.box []]):List AV×Heap)) (fun _ (_:Unit) k=>if (fun k=>decide (Gc r x k)) k=true then .next () else .done false) (fun _=>true) (fun (z:List AV×Heap→Option (List Tree)) (q:Bool)=>z ([AV.t (Tree.bool q)],[AI.box []])) (fun _ _=>True) () rfl trivial ?_
  (fun i s k hk' hI=>Ev.of fun n z again => ?_) (fun _ _ _ _ _ _ _=>trivial) (fun s hI=>Ev.of fun n z again => ?_)
 ·rw [Rp];rw [Bool.eq_iff_iff,decide_eq_true_eq,XE];by_cases h:r.known.all (fun k=>decide (Gc r x k))=true<;>simp [h]
 ·have hi:=AM hk';have hkw:=hW k (mem_of_getElem? hk');have hkc:=hcan k (mem_of_getElem? hk');simp only [Q6,vv,vf,reduceCtorEq,reduceAdd,reduceEqDiff,hk',Span.enc,(show (i:Int)<r.known.length by omega),AS (show i<4611686018427387904 by omega),AP (show -9223372036854775808≤x.off+(x.data.size:Int) by omega) (by omega),Zi,AR];have ef:(if x.off>k.fro then x.off else k.fro)=((if x.off>k.fro then x.off else k.fro).toNat:Int):=by split<;>omega
  generalize hf:(if x.off>k.fro then x.off else k.fro)=f at *;generalize ht:(if x.off+(x.data.size:Int)<k.to then x.off+(x.data.size:Int) else k.to)=t at *;have hf2:f=max x.off k.fro:=by rw [← hf];simp only [Int.max_def];split<;>split<;>omega
  have ht2:t=min (x.off+(x.data.size:Int)) k.to:=by rw [← ht];simp only [Int.min_def];split<;>split<;>omega
  by_cases hft:f<t
  ·have hok:Gc r x k↔(r.data.extract f.toNat t.toNat=x.data.extract (f-x.off).toNat (t-x.off).toNat):=by
    have key:=part_eq (bl r.data) (bl x.data) f.toNat t.toNat x.off.toNat (by omega) (by rw [A6];omega) (by omega) (by rw [A6];omega);have e1:(r.data.extract f.toNat t.toNat=x.data.extract (f-x.off).toNat (t-x.off).toNat)↔((bl r.data).drop f.toNat).take (t.toNat-f.toNat)=((bl x.data).drop (f.toNat-x.off.toNat)).take ((t.toNat-x.off.toNat)-(f.toNat-x.off.toNat)):=by rw [show (f-x.off).toNat=f.toNat-x.off.toNat by omega,show (t-x.off).toNat=t.toNat-x.off.toNat by omega,← El,← El];exact ⟨fun h=>by rw [h],fun h=>N8 h⟩
    rw [e1,key];unfold Gc;constructor
    ·intro h q h1 h2;have:=h (q-x.off.toNat) (by omega) (by omega) (by omega);rw [show x.off.toNat+(q-x.off.toNat)=q by omega] at this;exact this
    ·intro h i h1 h2 h3;have:=h (x.off.toNat+i) (by omega) (by omega);rw [show x.off.toNat+i-x.off.toNat=i by omega] at this;exact this
   rw [AP (x:=t-x.off) (by omega) (by omega),AP (x:=f-x.off) (by omega) (by omega)];rw [BK (show f<t from hft),BK (by omega),BK (by omega),BK (by omega),BK (by omega)];simp only [hok,bne,Px];by_cases he:r.data.extract f.toNat t.toNat=x.data.extract (f-x.off).toNat (t-x.off).toNat<;>simp [he,AB,Rd.AT,Rd.Ar]
  ·have hok:Gc r x k:=by intro i h1 h2 h3;omega
   rw [D3 (show ¬f<t from hft)];simp [hok,AB,Rd.AT]
 ·simp only [Q6,vv,vf,reduceCtorEq,reduceAdd,reduceEqDiff,lt_irrefl,AR]
theorem s160 (r:Rcv) (x:Seg) (hr:DI r=0) (hx:B5 x=0):AL C 160 (r.enc++x.enc) [.bool (DP r x)]:=by
 refine AL.of (fun n=>e160 n _ _ _ _ _ _ _ _ _ _ _ _) ?_;simp only [AR];refine Ad (fun (b:Bool)=>[Tree.bool b]) [0,1,2,3] (fun i (_:Unit)=>(([.t (tI i)],[.box []]):List AV×Heap)) (fun i (_:Unit) (_:Nat)=>if (match i with
  |0=>decide (x.kind=1∧x.ses=r.ses)
  |1=>decide (r.tot = -1∨x.tot=r.tot)
  |2=>decide (agree r x)
  |_=>decide (DB r.known [sp x]=0))=true then .next () else .done false) (fun _=>true) (fun i _=>0<i→x.kind=1) () rfl (fun h=>by omega) ?_
  (fun i s k hk hI => ?_) (fun i s k s' hk hI h h0 => ?_) (fun s hI=>Ev.of fun n again => ?_)
 ·unfold DP;simp only [Bd];by_cases h1:x.kind=1<;>by_cases h2:x.ses=r.ses<;>by_cases h3:(r.tot = -1∨x.tot=r.tot)<;>by_cases h4:agree r x<;>by_cases h5:DB r.known [sp x]=0<;>simp [h1,h2,h3,h4,h5]
 ·have hi:i<4:=AM hk;have h40:=s161 r x hx;rcases (show i=0∨i=1∨i=2∨i=3 by omega) with rfl|rfl|rfl|rfl
  ·refine Ev.of fun n again => ?_;simp only [Lw,RG,L0,vv,vf,reduceCtorEq,reduceAdd,reduceEqDiff,AR];by_cases h1:x.kind=1<;>by_cases h2:x.ses=r.ses<;>simp [h1,h2,AB,Rd.AT,Rd.Ar,vv,w64,wrap64]
  ·refine Ev.of fun n again => ?_;simp only [Lw,RG,L0,vv,vf,reduceCtorEq,reduceAdd,reduceEqDiff,AR];by_cases h1:r.tot = -1<;>by_cases h2:x.tot=r.tot<;>simp [h1,h2,AB,Rd.AT,Rd.Ar,vv,w64,wrap64]
  ·refine (Ym r x hr hx (hI (by omega))).mono fun n h again => ?_;simp only [Lw,L0,vv,vf,reduceCtorEq,reduceAdd,reduceEqDiff,AR,h];by_cases h1:agree r x<;>simp [h1,AB,Rd.AT,Rd.Ar,vv,w64,wrap64]
  ·refine h40.mono fun n h again => ?_;simp only [Rcv.enc,Seg.enc,cons_append,nil_append] at h;simp only [Lw,vv,vf,reduceCtorEq,reduceAdd,reduceEqDiff,AR,h];by_cases h1:DB r.known [sp x]=0<;>simp [h1,AB,Rd.AT,Rd.Ar,vv,w64,wrap64]
 ·rcases (show i=0∨0<i by omega) with rfl|h1
  ·simp only at h;split at h
   ·rename_i h2;simp only [decide_eq_true_eq] at h2;exact h2.1
   ·cases h
  ·exact hI h1
 ·simp only [Lw,vv,vf,reduceCtorEq,reduceAdd,reduceEqDiff];simp [AB,vv]
end Ab
set_option linter.unusedVariables false
set_option linter.unusedSimpArgs false
namespace Ab
open Go
theorem P7 (r:Rcv) (x:Seg):Bd (fun i (_:Unit) (b:UInt8)=>if (fun (i:Nat) (b:UInt8)=>decide (Ac (x.off+i) r.known→(bl r.data).getD (x.off.toNat+i) 0=b)) i b=true then .next () else .done false) (fun _=>decide (DB r.known [sp x]=0)) 0 (bl x.data) ()=decide (agree r x∧DB r.known [sp x]=0):=by
 by_cases h:agree r x
 ·simp only [h,true_and];refine LI _ _ _ _ _ fun k b hb => ?_;simp only [zero_add,decide_eq_true_eq];intro hm;have:=h k (by rw [← A6];exact AM hb) hm;rw [this,E1 hb]
 ·simp only [h,false_and,decide_false];unfold agree at h;simp only [not_forall] at h;obtain ⟨k,k1,k2,k3⟩:=h;obtain ⟨b,hb⟩:∃b,(bl x.data)[k]? = some b:=⟨(bl x.data)[k]'(by rw [A6];exact k1),getElem?_eq_getElem _⟩
  refine LJ _ _ _ _ _ k b hb ?_;rw [E1 hb] at k3;simp only [zero_add,decide_eq_false_iff_not];exact fun h=>k3 (h k2)
theorem Yh (r:Rcv) (x:Seg) (hr:DI r=0) (hx:B5 x=0) (hk:x.kind=1):Ev fun n=>AH (fun p again=>IP n x.data (r.known.map Span.enc) x.off r.data p again) n ([.t (tI 0)],[])=some [.bool (decide (agree r x∧DB r.known [sp x]=0))]:=by
 obtain ⟨c1,c2,c3,c4⟩:=Cj hr;have hW:=Gi hr;obtain ⟨g1,g2,g3,g4,g5,g6,g7⟩:=Cx hx hk;refine Ad (fun (b:Bool)=>[Tree.bool b]) (bl x.data) (fun i (_:Unit)=>(([.t (tI i)],[]):List AV×Heap)) (fun i (_:Unit) (b:UInt8)=>if (fun (i:Nat) (b:UInt8)=>decide (Ac (x.off+i) r.known→(bl r.data).getD (x.off.toNat+i) 0=b)) i b=true then .next () else .done false) (fun _=>decide (DB r.known [sp x]=0)) (fun _ _=>True) () rfl trivial
  (P7 r x) (fun i s b hb hI => ?_) (fun _ _ _ _ _ _ _=>trivial) (fun s hI => ?_)
 ·have hi:=AM hb;rw [A6] at hi;refine (Xt r.known (x.off+i)).mono fun n h again => ?_;simp only [IP,vv,vf,reduceCtorEq,reduceAdd,reduceEqDiff,AP (show -9223372036854775808≤x.off+(i:Int) by omega) (by omega),h,c2.1,(show (i:Int)<x.data.size by omega),AS (show i<4611686018427387904 by omega),FX,E1 hb];by_cases hm:Ac (x.off+i) r.known
  ·have:=Ea hW hm;simp only [hm,vv,vf,reduceCtorEq,reduceAdd,reduceEqDiff];rw [BK (by omega),show (x.off+(i:Int)).toNat=x.off.toNat+i by omega];by_cases he:(bl r.data).getD (x.off.toNat+i) 0=b
   ·simp only [he];simp [AB,Rd.AT]
   ·have he2:¬(((bl r.data).getD (x.off.toNat+i) 0).toNat=b.toNat):=fun h=>he (UInt8.toNat_inj.1 h);simp only [he,false_iff];simp [AB,Rd.Ar,he2];intro h;have h':=Int.ofNat_inj.1 h;exact absurd (by simpa [getD_eq_getElem?_getD] using h') he2
  ·simp [hm,AB,Rd.AT,vv]
 ·refine (s108 r.known [sp x]).mono fun n h again => ?_;rw [Eb] at h;simp only [map_cons,map_nil,sp,Span.enc] at h;simp only [IP,vv,vf,reduceCtorEq,reduceAdd,reduceEqDiff,A6,lt_irrefl,AP (show -9223372036854775808≤x.off+(x.data.size:Int) by omega) (by omega),h];simp only [sp];congr 1
theorem Yg (r:Rcv) (x:Seg) (hr:DI r=0) (hx:B5 x=0) (hk:x.kind=1):Ev fun n=>AH (fun p again=>IP n x.data (r.known.map Span.enc) x.off r.data p again) n ([.t (tI 0)],[])=some [.bool (decide (agree r x∧DB r.known [sp x]=0))]:=by
 obtain ⟨c1,c2,c3,c4⟩:=Cj hr;have hW:=Gi hr;obtain ⟨g1,g2,g3,g4,g5,g6,g7⟩:=Cx hx hk;refine Ad (fun (b:Bool)=>[Tree.bool b]) (bl x.data) (fun i (_:Unit)=>(([.t (tI i)],[]):List AV×Heap)) (fun i (_:Unit) (b:UInt8)=>if (fun (i:Nat) (b:UInt8)=>decide (Ac (x.off+i) r.known→(bl r.data).getD (x.off.toNat+i) 0=b)) i b=true then .next () else .done false) (fun _=>decide (DB r.known [sp x]=0)) (fun _ _=>True) () rfl trivial
  (P7 r x) (fun i s b hb hI => ?_) (fun _ _ _ _ _ _ _=>trivial) (fun s hI => ?_)
 ·have hi:=AM hb;rw [A6] at hi;refine (Xt r.known (x.off+i)).mono fun n h again => ?_;simp only [IP,vv,vf,reduceCtorEq,reduceAdd,reduceEqDiff,AP (show -9223372036854775808≤x.off+(i:Int) by omega) (by omega),h,c2.1,(show (i:Int)<x.data.size by omega),AS (show i<4611686018427387904 by omega),FX,E1 hb];by_cases hm:Ac (x.off+i) r.known
  ·have:=Ea hW hm;simp only [hm,vv,vf,reduceCtorEq,reduceAdd,reduceEqDiff];rw [BK (by omega),show (x.off+(i:Int)).toNat=x.off.toNat+i by omega];by_cases he:(bl r.data).getD (x.off.toNat+i) 0=b
   ·simp only [he];simp [AB,Rd.AT]
   ·have he2:¬(((bl r.data).getD (x.off.toNat+i) 0).toNat=b.toNat):=fun h=>he (UInt8.toNat_inj.1 h);simp only [he,false_iff];simp [AB,Rd.Ar,he2];intro h;have h':=Int.ofNat_inj.1 h;exact absurd (by simpa [getD_eq_getElem?_getD] using h') he2
  ·simp [hm,AB,Rd.AT,vv]
 ·refine (s108 r.known [sp x]).mono fun n h again => ?_;rw [Eb] at h;simp only [map_cons,map_nil,sp,Span.enc] at h;simp only [IP,vv,vf,reduceCtorEq,reduceAdd,reduceEqDiff,A6,lt_irrefl,AP (show -9223372036854775808≤x.off+(x.data.size:Int) by omega) (by omega),h];simp only [sp];congr 1
theorem s107 (r:Rcv) (x:Seg) (hr:DI r=0) (hx:B5 x=0):AL C 107 (r.enc++x.enc) [.bool (DP r x)]:=by
 refine AL.of (fun n=>e107 n _ _ _ _ _ _ _ _ _ _ _ _) ?_;obtain ⟨c1,c2,c3,c4⟩:=Cj hr;unfold DP;by_cases h1:x.kind=1
 ·by_cases h2:x.ses=r.ses
  ·simp only [h1,h2,bne_self_eq_false,vv,vf,reduceCtorEq,reduceAdd,reduceEqDiff];by_cases h3:0≤r.tot
   ·have h3':r.tot ≠ -1:=by omega
    by_cases h4:x.tot=r.tot
    ·simp only [h3,h3',h4,bne_self_eq_false,vv,vf,reduceCtorEq,reduceAdd,reduceEqDiff,or_true];exact Yh r x hr hx h1
    ·have h5:(x.tot != r.tot)=true:=by simpa using h4
     simp only [h3,h3',h4,h5,vv,vf,reduceCtorEq,reduceAdd,reduceEqDiff,or_false];exact Ev.of fun n=>by first|rfl|trivial
   ·have h3':r.tot = -1:=by rcases c1.2 with h|h<;>omega
    simp only [h3,h3',vv,vf,reduceCtorEq,reduceAdd,reduceEqDiff,true_or];have h6:¬(0:Int)≤ -1:=by decide
    simp only [h6,vv,vf,reduceCtorEq,reduceAdd,reduceEqDiff];exact Yg r x hr hx h1
  ·have h5:(x.ses != r.ses)=true:=by simpa using h2
   simp only [h1,h2,h5,bne_self_eq_false,vv,vf,reduceCtorEq,reduceAdd,reduceEqDiff];exact Ev.of fun n=>by first|rfl|trivial
 ·have h5:(x.kind != 1)=true:=by simpa using h1
  simp only [h1,h5,vv,vf,reduceCtorEq,reduceAdd,reduceEqDiff];exact Ev.of fun n=>by first|rfl|trivial
end Ab
set_option linter.unusedVariables false
set_option linter.unusedSimpArgs false
namespace Ab
open Go
theorem s163 (es:List (List Tree)) (hl:es.length≤1073741824):AL C 163 [.sl 2 es] [.sl 2 es]:=by
 refine AL.of (fun n=>e163 n _) (Ev.of fun n => ?_);by_cases h:es.length=0
 ·have:es=[]:=eq_nil_of_length_eq_zero h;subst this;simp [AB,AF]
 ·rw [BK h,BK hl,take_of_length_le (le_refl _)]
def Bw (k:Nat):List UInt8:=replicate k 0
def Co (r:Rcv) (x:Seg):List UInt8:=Ds (Ds (Bw x.tot.toNat) 0 (bl r.data)) x.off.toNat (bl x.data)
def CG (r:Rcv) (x:Seg):Seg:=⟨2,r.ses,x.ser,0,x.tot,false,ByteArray.mk #[],DA r.known [sp x]⟩
def CW (r:Rcv) (x:Seg):Rcv:=⟨r.ses,x.tot,DA r.known [sp x],mkB (Co r x)⟩
def zeroR:Rcv:=⟨0,0,[],ByteArray.mk #[]⟩
def DZ (r:Rcv) (x:Seg):Rcv×List Seg×Int:=
 if ¬(DI r=0∧B5 x=0) then (zeroR,[],1) else if DP r x=false then (r,[],0) else (CW r x,if x.chk=true then [CG r x] else [],0)
def ML (q:Rcv×List Seg×Int):List Tree:=[tI q.1.ses,tI q.1.tot,.sl 2 (q.1.known.map Span.enc),.str q.1.data,.sl 8 (q.2.1.map Seg.enc),tI q.2.2]
theorem Hb {a b:List Span} (h:DB a b=0):A8 a=0∧A8 b=0∧DA a b=uni a b∧A8 (DA a b)=0∧∀t,Ac t (DA a b)↔Ac t a∨Ac t b:=by
 unfold DB at h;split at h
 ·rename_i hc;split at h
  ·omega
  ·rename_i hl;obtain ⟨h1,h2⟩:=Jz ((Aj _).1 hc.1).2.1 ((Aj _).1 hc.2).2.1;have e:DA a b=uni a b:=by unfold DA;rw [if_pos hc,if_neg hl]
   refine ⟨hc.1,hc.2,e,?_,by rw [e];exact h2⟩;rw [e,Aj];refine ⟨by omega,h1,mem_top h1 fun t m => ?_⟩;rcases (h2 t).1 m with m|m
   ·exact QL ((Aj _).1 hc.1).2.2 ((Aj _).1 hc.1).2.1 m
   ·exact QL ((Aj _).1 hc.2).2.2 ((Aj _).1 hc.2).2.1 m
 ·omega
theorem Cw {r:Rcv} {x:Seg}:DP r x=true↔x.kind=1∧x.ses=r.ses∧(r.tot = -1∨x.tot=r.tot)∧agree r x∧DB r.known [sp x]=0:=by unfold DP;rw [decide_eq_true_eq]
theorem MD {r:Rcv} {x:Seg} (hr:DI r=0) (hx:B5 x=0) (hs:DP r x=true):BZ (DA r.known [sp x]) x.tot∧DA r.known [sp x]≠[]:=by
 obtain ⟨h1,h2,h3,h4,h5⟩:=Cw.1 hs;obtain ⟨g1,g2,g3,g4,g5,g6,g7⟩:=Cx hx h1;obtain ⟨c1,c2,c3,c4⟩:=Cj hr;obtain ⟨u1,u2,u3,u4,u5⟩:=Hb h5;have hW:=Gi hr;have hm:Ac x.off (DA r.known [sp x]):=(u5 _).2 (.inr (.inl ⟨Int.le_refl _,by show x.off<x.off+x.data.size;omega⟩));refine ⟨Gn ((Aj _).1 u4).2.1 fun t m => ?_,fun e=>by rw [e] at hm;exact hm⟩;rcases (u5 t).1 m with m|m
 ·have:=Ea hW m;have h0:r.tot ≠ -1:=fun h0=>by have:=c2.2.1.2 h0;rw [this] at m;exact m
  have:x.tot=r.tot:=by rcases h3 with h|h;exact (h0 h).elim;exact h
  have:(r.data.size:Int)=r.tot:=by rw [c3];unfold HT;rw [if_neg];rcases c1.2 with h|h<;>omega
  omega
 ·rcases m with m|m
  ·have m1:x.off≤t:=m.1;have m2:t<x.off+x.data.size:=m.2;omega
  ·exact m.elim
theorem N3 {r:Rcv} {x:Seg} (hr:DI r=0) (hx:B5 x=0) (hs:DP r x=true) (hc:x.chk=true):B5 (CG r x)=0:=by
 obtain ⟨h1,h2,h3,h4,h5⟩:=Cw.1 hs;obtain ⟨g1,g2,g3,g4,g5,g6,g7,g8,g9⟩:=Cx hx h1;obtain ⟨c1,c2,c3,c4⟩:=Cj hr;obtain ⟨u1,u2,u3,u4,u5⟩:=Hb h5;have hn:Bp (CG r x):=by unfold Bp CG;simp only;have:=c1.1;have:=g8 hc;grind
 have hk:CM (CG r x):=by
  have:inside (DA r.known [sp x]) x.tot=true:=by unfold inside;rw [decide_eq_true_eq];exact ⟨u4,(B4 u4).2 (MD hr hx hs).1⟩
  unfold CM CG;simp only [this];simp;rfl
 unfold B5;rw [if_neg (not_not_intro (by simp [CG])),if_neg (not_not_intro hn),if_neg (not_not_intro hk)]
theorem size_le {r:Rcv} {x:Seg} (hr:DI r=0) (hx:B5 x=0) (hs:DP r x=true):r.data.size≤x.tot.toNat∧(r.data.size=0∨r.data.size=x.tot.toNat):=by
 obtain ⟨h1,h2,h3,h4,h5⟩:=Cw.1 hs;obtain ⟨g1,g2,g3,g4,g5,g6,g7,g8⟩:=Cx hx h1;obtain ⟨c1,c2,c3,c4⟩:=Cj hr;unfold HT at c3;rcases c1.2 with h|h
 ·rw [if_pos (by omega)] at c3;omega
 ·rw [if_neg (by omega)] at c3;have:x.tot=r.tot:=by rcases h3 with h|h<;>omega
  omega
theorem s146 (r:Rcv) (x:Seg):AL C 146 (r.enc++x.enc) (ML (DZ r x)):=by
 refine AL.of (fun n=>e146 n _ _ _ _ _ _ _ _ _ _ _ _) ?_;simp only [join_eq];refine Ev.rw (s159 r) (fun n h=>by simp only [Rcv.enc] at h;simp only [h,vv,vf,reduceCtorEq,reduceAdd,reduceEqDiff];rfl) ?_;unfold DZ;by_cases hr:DI r=0
 ·simp only [hr,bne_self_eq_false,vv,vf,reduceCtorEq,reduceAdd,reduceEqDiff];refine Ev.rw (Xq x) (fun n h=>by simp only [Seg.enc] at h;simp only [h,vv,vf,reduceCtorEq,reduceAdd,reduceEqDiff];rfl) ?_;by_cases hx:B5 x=0
  ·simp only [hx,bne_self_eq_false,RN,vv,vf,reduceCtorEq,reduceAdd,reduceEqDiff,not_true_eq_false];refine Ev.rw (s160 r x hr hx) (fun n h=>by simp only [Rcv.enc,Seg.enc,cons_append,nil_append] at h;simp only [h,vv,vf,reduceCtorEq,reduceAdd,reduceEqDiff];rfl) ?_;by_cases hs:DP r x=true
   ·simp only [hs,vv,vf,reduceCtorEq,reduceAdd,reduceEqDiff];obtain ⟨h1,h2,h3,h4,h5⟩:=Cw.1 hs;obtain ⟨g1,g2,g3,g4,g5,g6,g7,g8⟩:=Cx hx h1;have hsz:=(size_le hr hx hs).1;refine Ev.rw (s161 r x hx) (fun n h=>by simp only [Rcv.enc,Seg.enc,cons_append,nil_append] at h;simp only [h,vv,vf,reduceCtorEq,reduceAdd,reduceEqDiff];rfl) ?_;have hz:(Bw x.tot.toNat).length=x.tot.toNat:=by simp [Bw]
    have l1:(Ds (Bw x.tot.toNat) 0 (bl r.data)).length=x.tot.toNat:=by rw [DY _ _ _ (by rw [A6,hz];omega),hz]
    have l2:(Co r x).length=x.tot.toNat:=by unfold Co;rw [DY _ _ _ (by rw [A6,l1];omega),l1]
    have r1:take x.tot.toNat (DK r.data)=(bl r.data).map tb:=by rw [O8,take_of_length_le (by rw [length_map,A6];exact hsz)]
    have r2:take (x.tot.toNat-x.off.toNat) (DK x.data)=(bl x.data).map tb:=by rw [O8,take_of_length_le (by rw [length_map,A6];omega)]
    have r0:replicate x.tot.toNat ([Tree.int IntKind.u8 0]:List Tree)=(Bw x.tot.toNat).map tb:=YJ _;have r3:BV (BV ((Bw x.tot.toNat).map tb) 0 ((bl r.data).map tb)) (0+x.off.toNat) ((bl x.data).map tb)=(Co r x).map tb:=by rw [LL,zero_add,LL];rfl
    have r4:take x.tot.toNat ((Co r x).map tb)=(Co r x).map tb:=by rw [take_of_length_le (by rw [length_map,l2];exact le_refl _)]
    have r5:(BV ((Bw x.tot.toNat).map tb) 0 ((bl r.data).map tb)).length=x.tot.toNat:=by rw [LL,length_map,l1]
    simp only [zero_add] at r3;simp only [r0,r1,r2,r3,r4,r5,zero_add,JZ,Jk,vv,vf,reduceCtorEq,reduceAdd,reduceEqDiff];have k1:(0:Int)≤x.tot:=by omega
    have k2:x.tot≤1073741824:=by omega
    have k3:x.off≤(x.tot.toNat:Int):=by omega
    have k4:x.off.toNat<x.tot.toNat∨x.off.toNat=0 :=.inl (by omega);simp only [k1,k2,k3,k4,g3,vv,vf,reduceCtorEq,reduceAdd,reduceEqDiff];by_cases hc:x.chk=true
    ·simp only [hc,vv,vf,reduceCtorEq,reduceAdd,reduceEqDiff];refine Ev.rw (s163 ((DA r.known [sp x]).map Span.enc) (by have:=BC (Hb h5).2.2.2.1;rw [length_map];omega)) (fun n h=>by simp only [h,vv,vf,reduceCtorEq,reduceAdd,reduceEqDiff];rfl) ?_;have hcl:=N3 hr hx hs hc;refine (s162 r.ses x.ser x.tot (DA r.known [sp x])).mono fun n h => ?_;unfold CG at hcl;rw [if_pos hcl] at h;simp only [Seg.enc,cons_append,nil_append] at h;simp only [h,bne_self_eq_false,vv,vf,reduceCtorEq,reduceAdd,reduceEqDiff];rfl
    ·have hc':x.chk=false:=by simpa using hc
     simp only [hc',vv,vf,reduceCtorEq,reduceAdd,reduceEqDiff];exact Ev.of fun n=>rfl
   ·have hs':DP r x=false:=by simpa using hs
    simp only [hs',vv,vf,reduceCtorEq,reduceAdd,reduceEqDiff];exact Ev.of fun n=>rfl
  ·have hb:(B5 x != 0)=true:=by simpa using hx
   simp only [hb,hx,RN,vv,vf,reduceCtorEq,reduceAdd,reduceEqDiff,not_false_eq_true];exact Ev.of fun n=>rfl
 ·have hb:(DI r != 0)=true:=by simpa using hr
  simp only [hb,hr,RN,vv,vf,reduceCtorEq,reduceAdd,reduceEqDiff,not_false_eq_true];exact Ev.of fun n=>rfl
theorem s109 (ses ser tot:Int) (l:List Span):AL C 109 [tI ses,tI ser,tI tot,.sl 2 (l.map Span.enc)] (if B5 ⟨2,ses,ser,0,tot,false,ByteArray.mk #[],l⟩=0 then (Seg.enc ⟨2,ses,ser,0,tot,false,ByteArray.mk #[],l⟩)++[tI 0] else (Seg.enc ⟨0,0,0,0,0,false,ByteArray.mk #[],[]⟩)++[tI (B5 ⟨2,ses,ser,0,tot,false,ByteArray.mk #[],l⟩)]):=by
 refine AL.of (fun n=>e109 n _ _ _ _) ?_;refine (Xs ⟨2,ses,ser,0,tot,false,ByteArray.mk #[],l⟩).mono fun n h => ?_;simp only [Seg.enc] at h;simp only [h,vv,vf,reduceCtorEq,reduceAdd,reduceEqDiff];by_cases hc:B5 ⟨2,ses,ser,0,tot,false,ByteArray.mk #[],l⟩=0
 ·simp [hc,AB,Seg.enc]
 ·simp [hc,AB,Seg.enc,bne]
theorem VJ (l:List UInt8) (p:Nat) (m:List UInt8) (i:Nat) (b:UInt8) (hb:m[i]? = some b) (h:p+m.length≤l.length) (y:List Tree) (hy:((Ds l p (m.take i)).map tb)[p+i]? = some y) :
  List.set ((Ds l p (m.take i)).map tb) (p+i) ([Tree.int IntKind.u8 (b.toNat:Int)]++drop 1 y)=(Ds l p (m.take (i+1))).map tb:=by
 have hi:=AM hb;rw [get_tb] at hy;obtain ⟨c,hc,rfl⟩:=Option.map_eq_some_iff.1 hy;have e:[Tree.int IntKind.u8 (b.toNat:Int)]++drop 1 (tb c)=tb b:=rfl;rw [e,set_tb,← E1 hb,WT l p m i hi h]
theorem PB (l:List UInt8) (p:Nat):Ds l p []=l:=by simp [Ds]
theorem Rs (l:List UInt8) (k:Nat) (h:k<l.length):∃y,(l.map tb)[k]? = some y:=⟨_,getElem?_eq_getElem (by rw [length_map];exact h)⟩
theorem Yp (r:Rcv) (x:Seg) (b0 b1:Int) (b2:List (List Tree)) (b3:ByteArray) (hr:DI r=0) (hx:B5 x=0) (hs:DP r x=true) :
  Ev fun n=>AH (fun p again=>TB n x.data x.off x.tot (r.known.map Span.enc) x.chk r.ses x.ser p again) n ([.t (tI 0)],[.box [.t (tI b0),.t (tI b1),.t (.sl 2 b2),.t (.str b3)],.row false 0 1 ((Ds (Bw x.tot.toNat) 0 (bl r.data)).map tb)])=some (ML (CW r x,if x.chk=true then [CG r x] else [],0)):=by
 obtain ⟨h1,h2,h3,h4,h5⟩:=Cw.1 hs;obtain ⟨g1,g2,g3,g4,g5,g6,g7,g8⟩:=Cx hx h1;have hsz:=(size_le hr hx hs).1;have hz:(Bw x.tot.toNat).length=x.tot.toNat:=by simp [Bw]
 have l1:(Ds (Bw x.tot.toNat) 0 (bl r.data)).length=x.tot.toNat:=by rw [DY _ _ _ (by rw [A6,hz];omega),hz]
 have l2:(Co r x).length=x.tot.toNat:=by unfold Co;rw [DY _ _ _ (by rw [A6,l1];omega),l1]
 refine Ad (fun (q:List Tree)=>q) (bl x.data) (fun i (_:Unit)=>(([.t (tI i)],[.box [.t (tI b0),.t (tI b1),.t (.sl 2 b2),.t (.str b3)],.row false 0 1 ((Ds (Ds (Bw x.tot.toNat) 0 (bl r.data)) x.off.toNat ((bl x.data).take i)).map tb)]):List AV×Heap)) (fun i (_:Unit) (b:UInt8)=>.next ()) (fun _=>ML (CW r x,if x.chk=true then [CG r x] else [],0)) (fun _ _=>True) () ?_ trivial
  ?_ (fun i s b hb hI=>Ev.of fun n again => ?_) (fun _ _ _ _ _ _ _=>trivial) (fun s hI => ?_)
 ·simp [PB]
 ·rw [CP]
 ·have hi:=AM hb;rw [A6] at hi;obtain ⟨y,hy⟩:=Rs (Ds (Ds (Bw x.tot.toNat) 0 (bl r.data)) x.off.toNat ((bl x.data).take i)) (x.off.toNat+i) (by rw [DY _ _ _ (by rw [l1,length_take,A6];omega),l1];omega);have hset:=VJ _ _ _ i b hb (by rw [A6,l1];omega) y hy;have ew:=AP (show -9223372036854775808≤x.off+(i:Int) by omega) (by omega);have et:(x.off+(i:Int)).toNat=x.off.toNat+i:=by omega
  simp only [TB,vv,vf,reduceCtorEq,reduceAdd,reduceEqDiff,ew,et,zero_add,hy,FX,E1 hb,(show (i:Int)<x.data.size by omega),AS (show i<4611686018427387904 by omega),Rd.AT,le_refl];rw [BK (by omega),hset]
 ·have e1:(bl x.data).take (bl x.data).length=bl x.data:=take_length;have r4:take x.tot.toNat ((Co r x).map tb)=(Co r x).map tb:=by rw [take_of_length_le (by rw [length_map,l2];exact le_refl _)]
  have hu:=s108 r.known [sp x];have e2:Ds (Ds (Bw x.tot.toNat) 0 (bl r.data)) x.off.toNat (bl x.data)=Co r x:=rfl;have ew:=AP (show -9223372036854775808≤x.off+(x.data.size:Int) by omega) (by omega);by_cases hc:x.chk=true
  ·have hb:=s109 r.ses x.ser x.tot (DA r.known [sp x]);have hcl:=N3 hr hx hs hc;unfold CG at hcl;rw [if_pos hcl] at hb;refine (hu.and hb).mono fun n h again => ?_;obtain ⟨h,hb⟩:=h;rw [Eb] at h;simp only [map_cons,map_nil,sp,Span.enc] at h;simp only [Seg.enc,cons_append,nil_append,sp] at hb;simp only [e1,e2];simp only [TB,vv,vf,reduceCtorEq,reduceAdd,reduceEqDiff,r4,JZ,Jk,A6,lt_irrefl,ew,h,hc,hb];rfl
  ·have hc':x.chk=false:=by simpa using hc
   refine hu.mono fun n h again => ?_;rw [Eb] at h;simp only [map_cons,map_nil,sp,Span.enc] at h;simp only [e1,e2];simp only [TB,vv,vf,reduceCtorEq,reduceAdd,reduceEqDiff,r4,JZ,Jk,A6,lt_irrefl,ew,h,hc'];rfl
theorem Yo (r:Rcv) (x:Seg) (b0 b1:Int) (b2:List (List Tree)) (b3:ByteArray) (hr:DI r=0) (hx:B5 x=0) (hs:DP r x=true) :
  Ev fun n=>AH (fun p again=>V5 n r.data x.tot x.data x.off (r.known.map Span.enc) x.chk r.ses x.ser p again) n ([.t (tI 0)],[.box [.t (tI b0),.t (tI b1),.t (.sl 2 b2),.t (.str b3)],.row false 0 1 ((Bw x.tot.toNat).map tb)])=some (ML (CW r x,if x.chk=true then [CG r x] else [],0)):=by
 have hsz:=(size_le hr hx hs).1;have hbd:=M4 hx;have hz:(Bw x.tot.toNat).length=x.tot.toNat:=by simp [Bw]
 refine Ad (fun (q:List Tree)=>q) (bl r.data) (fun i (_:Unit)=>(([.t (tI i)],[.box [.t (tI b0),.t (tI b1),.t (.sl 2 b2),.t (.str b3)],.row false 0 1 ((Ds (Bw x.tot.toNat) 0 ((bl r.data).take i)).map tb)]):List AV×Heap)) (fun i (_:Unit) (b:UInt8)=>.next ()) (fun _=>ML (CW r x,if x.chk=true then [CG r x] else [],0)) (fun _ _=>True) () ?_ trivial
  ?_ (fun i s b hb hI=>Ev.of fun n again => ?_) (fun _ _ _ _ _ _ _=>trivial) (fun s hI => ?_)
 ·simp only [List.take_zero,PB];rfl
 ·rw [CP]
 ·have hi:=AM hb;rw [A6] at hi;obtain ⟨y,hy⟩:=Rs (Ds (Bw x.tot.toNat) 0 ((bl r.data).take i)) (0+i) (by rw [DY _ _ _ (by rw [hz,length_take,A6];omega),hz];omega);have hset:=VJ _ 0 _ i b hb (by rw [A6,hz];omega) y hy;simp only [zero_add] at hy hset;simp only [V5,vv,vf,reduceCtorEq,reduceAdd,reduceEqDiff,zero_add,hy,FX,E1 hb,(show (i:Int)<r.data.size by omega),AS (show i<4611686018427387904 by omega),Rd.AT,le_refl];rw [BK (by omega),hset]
 ·refine (Yp r x b0 b1 b2 b3 hr hx hs).mono fun n h again => ?_;have e1:(bl r.data).take (bl r.data).length=bl r.data:=take_length;simp only [e1];simp only [V5,vv,vf,reduceCtorEq,reduceAdd,reduceEqDiff,A6,lt_irrefl];exact h
theorem s82 (r:Rcv) (x:Seg):AL C 82 (r.enc++x.enc) (ML (DZ r x)):=by
 refine AL.of (fun n=>e82 n _ _ _ _ _ _ _ _ _ _ _ _) ?_;simp only [join_eq];refine Ev.rw (s105 r) (fun n h=>by simp only [Rcv.enc] at h;simp only [h,vv,vf,reduceCtorEq,reduceAdd,reduceEqDiff];rfl) ?_;unfold DZ;by_cases hr:DI r=0
 ·simp only [hr,bne_self_eq_false,vv,vf,reduceCtorEq,reduceAdd,reduceEqDiff];refine Ev.rw (Xs x) (fun n h=>by simp only [Seg.enc] at h;simp only [h,vv,vf,reduceCtorEq,reduceAdd,reduceEqDiff];rfl) ?_;by_cases hx:B5 x=0
  ·simp only [hx,bne_self_eq_false,V8,vv,vf,reduceCtorEq,reduceAdd,reduceEqDiff,not_true_eq_false];refine Ev.rw (s107 r x hr hx) (fun n h=>by simp only [Rcv.enc,Seg.enc,cons_append,nil_append] at h;simp only [h,vv,vf,reduceCtorEq,reduceAdd,reduceEqDiff];rfl) ?_;by_cases hs:DP r x=true
   ·simp only [hs,vv,vf,reduceCtorEq,reduceAdd,reduceEqDiff];obtain ⟨h1,h2,h3,h4,h5⟩:=Cw.1 hs;obtain ⟨g1,g2,g3,g4,g5,g6,g7,g8⟩:=Cx hx h1;have hsz:=(size_le hr hx hs).1;have hz:(Bw x.tot.toNat).length=x.tot.toNat:=by simp [Bw]
    have r0:replicate x.tot.toNat ([Tree.int IntKind.u8 0]:List Tree)=(Bw x.tot.toNat).map tb:=YJ _;have k1:(0:Int)≤x.tot:=by omega
    have k2:x.tot≤1073741824:=by omega
    simp only [k1,k2,r0,vv,vf,reduceCtorEq,reduceAdd,reduceEqDiff];exact Yo r x _ _ _ _ hr hx hs
   ·have hs':DP r x=false:=by simpa using hs
    simp only [hs',vv,vf,reduceCtorEq,reduceAdd,reduceEqDiff];exact Ev.of fun n=>rfl
  ·have hb:(B5 x != 0)=true:=by simpa using hx
   simp only [hb,hx,V8,vv,vf,reduceCtorEq,reduceAdd,reduceEqDiff,not_false_eq_true];exact Ev.of fun n=>rfl
 ·have hb:(DI r != 0)=true:=by simpa using hr
  simp only [hb,hr,V8,vv,vf,reduceCtorEq,reduceAdd,reduceEqDiff,not_false_eq_true];exact Ev.of fun n=>rfl
end Ab
set_option linter.unusedVariables false
set_option linter.unusedSimpArgs false
namespace Ab
open Go
def A1 (r:Rcv):Bool:=decide (DI r=0∧r.known=[⟨0,r.tot⟩])
theorem R5 {l:List Span}:l.length=1↔∃x,l=[x]:=by
 constructor
 ·intro h
  match l,h with
  |[x],_=>exact ⟨x,rfl⟩
 ·rintro ⟨x,rfl⟩;rfl
theorem s147 (r:Rcv):AL C 147 r.enc [.bool (A1 r)]:=by
 refine AL.of (fun n=>e147 n _ _ _ _) ?_;refine (s159 r).mono fun n h => ?_;simp only [Rcv.enc] at h;simp only [h,vv,vf,reduceCtorEq,reduceAdd,reduceEqDiff];unfold A1;by_cases hr:DI r=0
 ·simp only [hr,beq_self_eq_true,vv,vf,reduceCtorEq,reduceAdd,reduceEqDiff];by_cases hl:r.known.length=1
  ·obtain ⟨x,hx⟩:=R5.1 hl;simp only [hx,vv,vf,reduceCtorEq,reduceAdd,reduceEqDiff,getElem?_cons_zero,Span.enc];obtain ⟨a,b⟩:=x;simp only [AB,List.cons.injEq,and_true,Span.mk.injEq];by_cases h1:a=0<;>by_cases h2:b=r.tot<;>simp [h1,h2]
  ·have h1:((r.known.length:Int)==1)=false:=by simpa using fun h=>hl (by omega)
   have h2:¬r.known=[⟨0,r.tot⟩]:=fun h=>hl (by rw [h];rfl);simp only [h1,h2,vv,vf,reduceCtorEq,reduceAdd,reduceEqDiff]
 ·have h1:(DI r==0)=false:=by simpa using hr
  simp only [h1,hr,vv,vf,reduceCtorEq,reduceAdd,reduceEqDiff]
theorem s81 (r:Rcv):AL C 81 r.enc [.bool (A1 r)]:=by
 refine AL.of (fun n=>e81 n _ _ _ _) ?_;refine (s105 r).mono fun n h => ?_;simp only [Rcv.enc] at h;simp only [h,vv,vf,reduceCtorEq,reduceAdd,reduceEqDiff];unfold A1;by_cases hr:DI r=0
 ·simp only [hr,beq_self_eq_true,vv,vf,reduceCtorEq,reduceAdd,reduceEqDiff];by_cases hl:r.known.length=1
  ·obtain ⟨x,hx⟩:=R5.1 hl;simp only [hx,vv,vf,reduceCtorEq,reduceAdd,reduceEqDiff,getElem?_cons_zero,Span.enc];obtain ⟨a,b⟩:=x;simp only [AB,List.cons.injEq,and_true,Span.mk.injEq];by_cases h1:a=0<;>by_cases h2:b=r.tot<;>simp [h1,h2]
  ·have h1:((r.known.length:Int)==1)=false:=by simpa using fun h=>hl (by omega)
   have h2:¬r.known=[⟨0,r.tot⟩]:=fun h=>hl (by rw [h];rfl);simp only [h1,h2,vv,vf,reduceCtorEq,reduceAdd,reduceEqDiff]
 ·have h1:(DI r==0)=false:=by simpa using hr
  simp only [h1,hr,vv,vf,reduceCtorEq,reduceAdd,reduceEqDiff]
def SH (n:Int):Rcv×Int:=if 0≤n∧n≤1099511627776 then (⟨n,-1,[],ByteArray.mk #[]⟩,0) else (zeroR,2)
theorem s70 (n:Int):AL C 70 [tI n] ((SH n).1.enc++[tI (SH n).2]):=by
 refine AL.of (fun m=>e70 m _) (Ev.of fun m => ?_);unfold SH;simp only [AB,decide_eq_true_eq];by_cases h1:n<0
 ·rw [if_pos h1,if_neg (by omega)];rfl
 ·by_cases h2:n>1099511627776
  ·rw [if_neg h1,if_pos h2,if_neg (by omega)];rfl
  ·rw [if_neg h1,if_neg h2,if_pos (by omega)];rfl
theorem s48 (n:Int):AL C 48 [tI n] ((SH n).1.enc++[tI (SH n).2]):=by
 refine AL.of (fun m=>e48 m _) (Ev.of fun m => ?_);unfold SH;simp only [AB,decide_eq_true_eq];by_cases h1:n<0
 ·rw [if_pos h1,if_neg (by omega)];rfl
 ·by_cases h2:n>1099511627776
  ·rw [if_neg h1,if_pos h2,if_neg (by omega)];rfl
  ·rw [if_neg h1,if_neg h2,if_pos (by omega)];rfl
end Ab
set_option linter.unusedVariables false
set_option linter.unusedSimpArgs false
namespace Ab
open Go
def Az (n:Int):List Tree:=[tI n]
theorem s200 (l:List Int) (e:Int) (hl:l.length≤1000000):AL C 200 [.sl 1 (l.map Az),tI e] [tI (idx (fun x=>decide (x=e)) l)]:=by
 refine AL.of (fun n=>e200 n _ _) ?_;refine Ad (fun r=>[tI r]) l (fun i _=>(([.t (tI i)],[]):List AV×Heap)) (fun i _ x=>if decide (x=e)=true then .done (i:Int) else .next ()) (fun _ => -1) (fun _ _=>True) () rfl trivial (Ws _ l)
  (fun i s x hx hI=>Ev.of fun n again => ?_) (fun _ _ _ _ _ _ _=>trivial) (fun s hI=>Ev.of fun n again => ?_)
 ·have hi:=AM hx;simp only [UP,vv,vf,reduceCtorEq,reduceAdd,reduceEqDiff,hx,Az,AS (show i<4611686018427387904 by omega),(show (i:Int)<l.length by omega)];simp only [AB];grind [Rd.AT,Rd.Ar]
 ·simp only [UP,vv,vf,reduceCtorEq,reduceAdd,reduceEqDiff,lt_irrefl]
theorem s174 (l:List Int) (e:Int) (hl:l.length≤1000000):AL C 174 [.sl 1 (l.map Az),tI e] [.bool (decide (e∈l))]:=by refine AL.of (fun n=>e174 n _ _) ?_;refine (s200 l e hl).mono fun n h => ?_;simp only [h,vv,vf,reduceCtorEq,reduceAdd,reduceEqDiff];congr 3;rw [Bool.eq_iff_iff];simp only [decide_eq_true_eq,Tv];simp
theorem s95 (a:Int):AL C 95 [tI a] [.bool (decide (1≤a∧a≤1048576))]:=by refine AL.of (fun n=>e95 n _) (Ev.of fun n => ?_);simp only [F2,vv,vf,reduceCtorEq,reduceAdd,reduceEqDiff];congr 3;rw [Bool.eq_iff_iff];split<;>simp<;>omega
theorem s203 (a b:Int) (ha : -9223372036854775808≤a∧a≤9223372036854775807) (hb:1≤b∧b≤1048576):AL C 203 [tI a,tI b] [tI (a / b),tI (a % b)]:=by
 refine AL.of (fun n=>e203 n _ _) (Ev.of fun n => ?_);have hb0:¬b=0:=by omega
 have hb1:(0:Int)<b:=by omega
 have hq : -9223372036854775808≤a / b∧a / b≤9223372036854775807:=by
  constructor
  ·rw [Int.le_ediv_iff_mul_le hb1];have : -9223372036854775808*b≤ -9223372036854775808*1:=Int.mul_le_mul_of_nonpos_left (by omega) (by omega);omega
  ·have:a / b≤if 0≤a then a else 0:=by
    split
    ·exact Int.ediv_le_self b (by omega)
    ·have:=Int.ediv_lt_of_lt_mul hb1 (show a<0*b by omega);omega
   split at this<;>omega
 have hm:=emod_nonneg a hb0;have hml:=emod_lt_of_pos a hb1;have hdm:=Int.mul_ediv_add_emod a b;have ht:tmod a b=if 0≤a∨a % b=0 then a % b else a % b-b:=by
  rw [Int.tmod_eq_emod];have:(↑b.natAbs:Int)=b:=by omega
  have hdv:b∣a↔a % b=0:=Int.dvd_iff_emod_eq_zero;simp only [hdv,this];split<;>omega
 have htd:tdiv a b=if 0≤a∨a % b=0 then a / b else a / b+1:=by rw [Int.tdiv_eq_ediv];have hdv:b∣a↔a % b=0:=Int.dvd_iff_emod_eq_zero;have hs:b.sign=1:=Int.sign_eq_one_of_pos hb1;simp only [hdv,hs];split<;>omega
 by_cases h:0≤a∨a % b=0
 ·simp only [ht,htd,h,if_true,vv,vf,reduceCtorEq,reduceAdd,reduceEqDiff,hb0,(show ¬a % b<0 by omega),AP (show -9223372036854775808≤a / b by omega) (by omega)]
 ·have hneg:a / b<0:=Int.ediv_lt_of_lt_mul hb1 (by omega);simp only [ht,htd,h,if_false,vv,vf,reduceCtorEq,reduceAdd,reduceEqDiff,hb0,(show a % b-b<0 by omega)];rw [AP (x:=a / b+1) (by omega) (by omega),AP (x:=a / b+1-1) (by omega) (by omega),AP (by omega) (by omega)];simp
def BP (n r:Int):List Int:=if n % 8<4 then [r] else if n % 8<6 then [r,r+1+n / 8 % r] else if n % 8=6 then [r+1+n / 8 % r] else []
theorem s176 (n r:Int) (hn : -9223372036854775808≤n∧n≤9223372036854775807) (hr:1≤r∧r≤1048576):AL C 176 [tI n,tI r] [.sl 1 ((BP n r).map Az),tI 0]:=by
 refine AL.of (fun n=>e176 n _ _) ?_;have hm:=emod_nonneg (n / 8) (show r≠0 by omega);have hml:=emod_lt_of_pos (n / 8) (show 0<r by omega);have h19:AL C 216 [tI r,tI (n / 8 % r)] [.sl 1 [[tI r]]]:=AL.of (fun n=>e216 n _ _) (Ev.of fun n=>rfl);have hw:w64 (w64 (r+1)+n / 8 % r)=r+1+n / 8 % r:=by rw [AP (x:=r+1) (by omega) (by omega),AP (by omega) (by omega)]
 have h20:AL C 217 [tI r,tI (n / 8 % r)] [.sl 1 [[tI r],[tI (r+1+n / 8 % r)]]]:=AL.of (fun n=>e217 n _ _) (Ev.of fun n=>by rw [hw]);have h21:AL C 218 [tI r,tI (n / 8 % r)] [.sl 1 [[tI (r+1+n / 8 % r)]]]:=AL.of (fun n=>e218 n _ _) (Ev.of fun n=>by rw [hw]);have h22:AL C 219 [tI r,tI (n / 8 % r)] [.sl 1 []]:=AL.of (fun n=>e219 n _ _) (Ev.of fun n=>rfl);refine ((s95 r).and ((s203 n 8 hn (by omega)).and ((s203 (n / 8) r (by omega) hr).and (h19.and (h20.and (h21.and h22)))))).mono fun m h => ?_;obtain ⟨k1,k2,k3,k4,k5,k6,k7⟩:=h;have h8:0≤n % 8∧n % 8<8:=by omega
 simp only [k1,k2,k3,k4,k5,k6,k7,vv,vf,reduceCtorEq,reduceAdd,reduceEqDiff,hr,h8,and_self];unfold BP;rcases (show n % 8=0∨n % 8=1∨n % 8=2∨n % 8=3∨n % 8=4∨n % 8=5∨n % 8=6∨n % 8=7 by omega) with e|e|e|e|e|e|e|e<;>simp [e,AB,Az]
end Ab
set_option linter.unusedVariables false
set_option linter.unusedSimpArgs false
namespace Ab
open Go
structure Frame where
 arr:Int
 num:Int
 seg:Seg
 deriving DecidableEq
def Frame.enc (f:Frame):List Tree:=[tI f.arr,tI f.num,tI f.seg.kind,tI f.seg.ses,tI f.seg.ser,tI f.seg.off,tI f.seg.tot,.bool f.seg.chk,.str f.seg.data,.sl 2 (f.seg.AZ.map Span.enc)]
structure BL where
 rng:Int
 frames:List Frame
 sent:Int
 lost:Int
def BL.enc (c:BL):List Tree:=[tI c.rng,.sl 10 (c.frames.map Frame.enc),tI c.sent,tI c.lost]
structure Bs (c:BL):Prop where
 rng:1≤c.rng∧c.rng≤1048576
 lost:0≤c.lost∧c.lost≤c.sent
 sent:c.sent≤1152921504606846976
 len:c.frames.length≤10000
 frm:∀f∈c.frames,0≤f.arr∧f.arr≤2199023255552∧0≤f.num∧f.num<c.sent
 srt:c.frames.Pairwise fun a b=>a.arr≤b.arr
theorem Rm (es:List (List Tree)) (hl:es.length≤1073741824):AL C 1000170 [.sl 10 es] [.sl 10 es]:=by
 refine AL.of (fun n=>Yy n _) (Ev.of fun n => ?_);by_cases h:es.length=0
 ·have:es=[]:=eq_nil_of_length_eq_zero h;subst this;simp [AB,AF]
 ·rw [BK h,BK hl,take_of_length_le (le_refl _)]
theorem s143 (c:BL) (hc:Bs c):AL C 143 c.enc [tI 0]:=by
 refine AL.of (fun n=>e143 n _ _ _ _) ?_;have h1:=hc.rng;have h2:=hc.lost;have h3:=hc.len;refine Ev.rw (T' := ?TT) (s95 c.rng) (fun n h => ?g1) ?g2
 case g1=>
  simp only [h,vv,vf,reduceCtorEq,reduceAdd,reduceEqDiff,h1,and_self,(show ¬c.sent<0 by omega),(show ¬c.lost<0 by omega),(show ¬c.sent<c.lost by omega),(show ¬(10000:Int)<(c.frames.length:Int) by omega)];rfl
 case g2=>
  refine Ad (fun (r:Int)=>[tI r]) c.frames (fun i (_:Unit)=>(([.t (tI i)],[]):List AV×Heap)) (fun _ _ _ =>.next ()) (fun _=>0) (fun _ _=>True) () rfl trivial (CP (fun _ _=>()) (fun _=>0) 0 _ ())
   (fun i s f hx hI=>Ev.of fun n again => ?_) (fun _ _ _ _ _ _ _=>trivial) (fun s hI=>Ev.of fun n again => ?_)
  ·have hi:=AM hx;have hf:=hc.frm f (mem_of_getElem? hx);by_cases hi0:i=0
   ·subst hi0;simp only [IQ,Og,vv,vf,reduceCtorEq,reduceAdd,reduceEqDiff,hx,Frame.enc,(show ((0:Nat):Int)<c.frames.length by omega),(show ¬f.arr<0 by omega),(show ¬(2199023255552:Int)<f.arr by omega),(show ¬f.num<0 by omega),(show ¬c.sent≤f.num by omega),(show ¬(0:Int)<((0:Nat):Int) by omega),AS (show 0<4611686018427387904 by omega),Rd.AT]
   ·have hp:c.frames[i-1]? = some c.frames[i-1]:=getElem?_eq_getElem (by omega);have hs:=List.pairwise_iff_getElem.1 hc.srt (i-1) i (by omega) hi (by omega);rw [getElem?_eq_getElem hi] at hx;have hx2:=Option.some.inj hx;rw [hx2] at hs;rw [← getElem?_eq_getElem hi] at hx;simp only [IQ,Og,vv,vf,reduceCtorEq,reduceAdd,reduceEqDiff,hx,hp,Frame.enc,(show (i:Int)<c.frames.length by omega),(show ¬f.arr<0 by omega),(show ¬(2199023255552:Int)<f.arr by omega),(show ¬f.num<0 by omega),(show ¬c.sent≤f.num by omega),(show (0:Int)<(i:Int) by omega),AS (show i<4611686018427387904 by omega),Ha (show i<4611686018427387904 by omega) (by omega),(show ¬f.arr<(c.frames[i-1]).arr by omega),Rd.AT]
  ·simp only [IQ,vv,vf,reduceCtorEq,reduceAdd,reduceEqDiff,lt_irrefl]
theorem s69 (r:Int) (hr:1≤r∧r≤1048576):AL C 69 [tI r] [tI r,.sl 10 [],tI 0,tI 0,tI 0]:=by refine AL.of (fun n=>e69 n _) ?_;refine (s95 r).mono fun n h => ?_;simp only [h,vv,vf,reduceCtorEq,reduceAdd,reduceEqDiff,hr,and_self]
theorem s158 (c:BL) (hc:Bs c) (f:Frame) (rest:List Frame) (hf:c.frames=f::rest) :
  AL C 158 c.enc [tI c.rng,.sl 10 (rest.map Frame.enc),tI c.sent,tI c.lost,tI f.arr,tI f.num,tI f.seg.kind,tI f.seg.ses,tI f.seg.ser,tI f.seg.off,tI f.seg.tot,.bool f.seg.chk,.str f.seg.data,.sl 2 (f.seg.AZ.map Span.enc),tI 0]:=by
 refine AL.of (fun n=>e158 n _ _ _ _) ?_;have hlen:=hc.len;rw [hf] at hlen;simp only [length_cons] at hlen;refine ((s143 c hc).and (Rm (rest.map Frame.enc) (by simp;omega))).mono fun n h => ?_;obtain ⟨h1,h2⟩:=h;have e1:take rest.length (List.map Frame.enc rest)=List.map Frame.enc rest:=take_of_length_le (by simp);simp only [BL.enc,hf,map_cons,Frame.enc] at h1;simp only [hf,map_cons,Frame.enc,h1,vv,vf,reduceCtorEq,reduceAdd,reduceEqDiff,bne_self_eq_false,(show (((rest.length+1:Nat):Int)==0)=false by simp;omega),getElem?_cons_zero,(show (0:Int)≤1 by omega),(show (1:Int)≤((rest.length+1:Nat):Int) by omega),List.take_succ_cons,drop_succ_cons,e1,h2]
def Jb (at_ num:Int) (ser:Seg) (fs:List Frame) (d:Int):List Frame:=GQ (fun x=>decide (x.arr>at_+d)) ⟨at_+d,num,ser⟩ fs
def MW (at_ num:Int) (ser:Seg) (ds:List Int) (fs:List Frame):List Frame:=ds.foldl (Jb at_ num ser) fs
def H5 (c:BL) (ds:List Int):Int:=if c.rng∈ds then 0 else 1
def CO (c:BL) (at_:Int) (ser:Seg) (ds:List Int):BL:=⟨c.rng,MW at_ c.sent ser ds c.frames,c.sent+1,c.lost+H5 c ds⟩
theorem Kb (at_ num:Int) (ser:Seg) (fs:List Frame) (d:Int):(Jb at_ num ser fs d).length=fs.length+1:=SU _ _ _
theorem SS {at_ num:Int} {ser:Seg} {fs:List Frame} {d:Int} (h:fs.Pairwise fun a b=>a.arr≤b.arr):(Jb at_ num ser fs d).Pairwise fun a b=>a.arr≤b.arr:=by
 unfold Jb;refine JM h (fun x _ hg => ?_) (fun x _ hg => ?_) (fun x _ y _ hr hg => ?_)
 ·simp only [decide_eq_true_eq] at hg;simp only;omega
 ·simp only [decide_eq_false_iff_not] at hg;simp only;omega
 ·simp only [decide_eq_true_eq] at *;omega
theorem Sf {fs:List Frame} (t:Int) (h:fs.Pairwise fun a b=>a.arr≤b.arr):Down (fun x:Frame=>decide (x.arr≤t)) fs:=by
 intro i j x y hij hx hy hlt;rcases lt_or_ge i j with hl|hl
 ·have h1:=AM hx;have h2:=AM hy;have:=List.pairwise_iff_getElem.1 h i j h1 h2 hl;rw [getElem?_eq_getElem h1] at hx;rw [getElem?_eq_getElem h2] at hy;cases hx;cases hy;simp only [decide_eq_true_eq] at *;omega
 ·obtain rfl:i=j:=by omega
  rw [hx] at hy;cases hy;exact hlt
theorem s156 (c:BL) (hc:Bs c) (at_:Int) (ser:Seg) (ha:0≤at_∧at_≤1099511627776) (ds:List Int) (hd:∀d∈ds,c.rng≤d∧d≤2*c.rng) (hl:c.frames.length+ds.length≤10000) :
  AL C 156 (c.enc++[tI at_,tI ser.kind,tI ser.ses,tI ser.ser,tI ser.off,tI ser.tot,.bool ser.chk,.str ser.data,.sl 2 (ser.AZ.map Span.enc),.sl 1 (ds.map Az)]) ((CO c at_ ser ds).enc++[tI 0]):=by
 refine AL.of (fun n=>e156 n _ _ _ _ _ _ _ _ _ _ _ _ _ _) ?_;have h1:=hc.rng;have hsent:=hc.sent;have hlost:=hc.lost;have hw2:w64 (2*c.rng)=2*c.rng:=AP (by omega) (by omega);refine Ev.rw (T' := ?TT) (s143 c hc) (fun n h => ?g1) ?g2
 case g1=>
  simp only [BL.enc] at h;simp only [h,vv,vf,reduceCtorEq,reduceAdd,reduceEqDiff,bne_self_eq_false,(show ¬at_<0 by omega),(show ¬(1099511627776:Int)<at_ by omega)];rfl
 case g2=>
  refine Ad (fun (r:List Tree)=>r) ds (fun i (_:Unit)=>(([.t (tI i)],[.box [.t (tI c.rng),.t (.sl 10 (c.frames.map Frame.enc)),.t (tI c.sent),.t (tI c.lost)],.row false 0 10 [],.box [.t (tI 0),.sref 1 0 0 0,.t (tI 0),.t (tI 0)]]):List AV×Heap)) (fun _ _ _ =>.next ()) (fun _=>(CO c at_ ser ds).enc++[tI 0]) (fun _ _=>True) () rfl trivial (CP (fun _ _=>()) (fun _=>(CO c at_ ser ds).enc++[tI 0]) 0 ds ())
   (fun i s d hx hI=>Ev.of fun n again => ?_) (fun _ _ _ _ _ _ _=>trivial) (fun s hI => ?_)
  ·have hi:=AM hx;have hdd:=hd d (mem_of_getElem? hx);simp only [UR,Zm,RH,vv,vf,reduceCtorEq,reduceAdd,reduceEqDiff,hx,Az,(show (i:Int)<ds.length by omega),(show ¬d<c.rng by omega),hw2,(show ¬2*c.rng<d by omega),AS (show i<4611686018427387904 by omega),Rd.AT]
  ·have hwl:w64 ((c.frames.length:Int)+(ds.length:Int))=((c.frames.length+ds.length:Nat):Int):=by rw [AP (by omega) (by omega)];omega
   simp only [UR,Zl,RH,WD,vv,vf,reduceCtorEq,reduceAdd,reduceEqDiff,lt_irrefl,(show ¬(0:Int)≤ -1 by omega),hwl,(show ¬(10000:Int)<((c.frames.length+ds.length:Nat):Int) by omega)];refine Ph (Ev.rw (T' := ?TT2) (Rm (c.frames.map Frame.enc) (by simp;omega)) (fun n h => ?g3) ?g4)
   case g3=>
    simp only [h,vv,vf,reduceCtorEq,reduceAdd,reduceEqDiff];rfl
   case g4=>
    refine Ad (fun (fs:List Frame)=>(⟨c.rng,fs,c.sent+1,c.lost+H5 c ds⟩:BL).enc++[tI 0]) ds (fun i (s:Nat×List Frame)=>(([.t (tI i)],[.box [.t (tI c.rng),.t (.sl 10 (c.frames.map Frame.enc)),.t (tI c.sent),.t (tI c.lost)],.row false 0 10 [],.box [.t (tI 0),.sref 1 0 0 0,.t (tI 0),.t (tI 0)],.row false s.1 10 (s.2.map Frame.enc),.row false 0 10 [],.box [.sref 3 s.1 0 s.2.length]]):List AV×Heap))
     (fun _ s d =>.next (s.1+1,Jb at_ c.sent ser s.2 d)) (fun s=>s.2) (fun i s=>s.2.Pairwise (fun a b=>a.arr≤b.arr)∧s.2.length=c.frames.length+i) (0,c.frames) (by simp) ⟨hc.srt,by simp⟩ ?_
     (fun i s d hx hI => ?_) (fun i s d s' hx hI hs' => ?_) (fun s hI => ?_)
    ·rw [CP];have:∀(ds:List Int) (s:Nat×List Frame),(ds.foldl (fun (s:Nat×List Frame) d=>(s.1+1,Jb at_ c.sent ser s.2 d)) s).2=MW at_ c.sent ser ds s.2:=by
      intro ds
      induction ds with
      |nil=>intro s;rfl
      |cons d ds ih=>intro s;exact ih _
     exact this ds (0,c.frames)
    ·have hi:=AM hx;have hdd:=hd d (mem_of_getElem? hx);obtain ⟨v,fs⟩:=s;obtain ⟨hsr,hfl⟩:=hI;simp only at hsr hfl;have hwd:w64 (at_+d)=at_+d:=AP (by omega) (by omega);have hins:Jb at_ c.sent ser fs d=fs.take (fs.countP fun x=>decide (x.arr≤at_+d))++⟨at_+d,c.sent,ser⟩::fs.drop (fs.countP fun x=>decide (x.arr≤at_+d)):=by
      unfold Jb;rw [Vf];obtain ⟨h1,h2⟩:=MP (Sf (at_+d) hsr);rw [h1,h2];have hf:(fun x:Frame => !decide (x.arr>at_+d))=fun x=>decide (x.arr≤at_+d):=by funext x;rw [Bool.eq_iff_iff];simp
      rw [hf]
     have key:=ZC (R:=List Tree) (Z:=List AV×Heap→Option (List Tree))
      (B:=fun n z p again=>Q8 n at_ [tI d] (fun p32=>Ud n z (([.t (tI i)],[.box [.t (tI c.rng),.t (.sl 10 (c.frames.map Frame.enc)),.t (tI c.sent),.t (tI c.lost)],.row false 0 10 [],.box [.t (tI 0),.sref 1 0 0 0,.t (tI 0),.t (tI 0)],.row false v 10 (fs.map Frame.enc),.row false 0 10 [],.box [.sref 3 v 0 fs.length]]):List AV×Heap) at_ [tI d] ser.kind ser.ses ser.ser ser.off ser.tot ser.chk ser.data (ser.AZ.map Span.enc) p32) p again)
      (fun z (k:Nat)=>z ([.t (tI ((i+1:Nat):Int))],[.box [.t (tI c.rng),.t (.sl 10 (c.frames.map Frame.enc)),.t (tI c.sent),.t (tI c.lost)],.row false 0 10 [],.box [.t (tI 0),.sref 1 0 0 0,.t (tI 0),.t (tI 0)],.row false (v+1) 10 (((fs.map Frame.enc).take k++[(⟨at_+d,c.sent,ser⟩:Frame).enc])++(fs.map Frame.enc).drop k),.row false 0 10 [],.box [.sref 3 (v+1) 0 (fs.length+1)]]))
      (fun x:Frame=>decide (x.arr≤at_+d)) fs id (fun s=>(([.t (tI s.1),.t (tI s.2)],[.box [.t (tI c.rng),.t (.sl 10 (c.frames.map Frame.enc)),.t (tI c.sent),.t (tI c.lost)],.row false 0 10 [],.box [.t (tI 0),.sref 1 0 0 0,.t (tI 0),.t (tI 0)],.row false v 10 (fs.map Frame.enc),.row false 0 10 [],.box [.sref 3 v 0 fs.length],.box []]):List AV×Heap)) (Sf _ hsr) rfl
      (fun s a1 a2 a3=>Ev.of fun n z again=>by
       obtain ⟨a,b⟩:=s;simp only at a1 a2 a3;by_cases hab:a<b
       ·have hm:fs[(a+b) / 2]? = some fs[(a+b) / 2]:=getElem?_eq_getElem (by omega);simp only [Q8,Zk,vv,vf,reduceCtorEq,reduceAdd,reduceEqDiff,halfU a b (by omega),hm,Frame.enc,(show (a:Int)<(b:Int) by omega),Lm,if_pos hab,(show (((a+b) / 2:Nat):Int)<(fs.length:Int) by omega),AS (show (a+b) / 2<4611686018427387904 by omega),hwd];by_cases hx:(fs[(a+b) / 2]).arr≤at_+d
        ·simp only [hx,(show ¬at_+d<(fs[(a+b) / 2]).arr by omega),vv,vf,reduceCtorEq,reduceAdd,reduceEqDiff,Rd.AT]
        ·simp only [hx,(show at_+d<(fs[(a+b) / 2]).arr by omega),vv,vf,reduceCtorEq,reduceAdd,reduceEqDiff,Rd.AT]
       ·obtain rfl:a=b:=by omega
        simp only [Q8,Ud,vv,vf,reduceCtorEq,reduceAdd,reduceEqDiff,lt_irrefl,Lm,Nat.lt_irrefl,Rd.Ar,id,hwd,Frame.enc,AS (show i<4611686018427387904 by omega),(show fs.length+1≤1073741824 by omega),(show (a:Int)≤(fs.length:Int) by omega)])
     have hkl:fs.countP (fun x:Frame=>decide (x.arr≤at_+d))≤fs.length:=List.countP_le_length;refine key.mono fun n h again => ?_;have h:=h again;simp only [Q7,vv,vf,reduceCtorEq,reduceAdd,reduceEqDiff,hx,Az,(show (i:Int)<ds.length by omega),Rd.AT];refine h.trans ?_;simp only [vv,vf,reduceCtorEq,reduceAdd,reduceEqDiff,id];have hil:=Kb at_ c.sent ser fs d;rw [hil,hins];simp [Frame.enc,map_take,map_drop]
    ·have hi:=AM hx;simp only [Rd.next.injEq] at hs';subst hs';exact ⟨SS hI.1,by rw [Kb,hI.2];omega⟩
    ·obtain ⟨v,fs⟩:=s;simp only at hI;refine (s174 ds c.rng (by omega)).mono fun n h again => ?_;have e1:take fs.length (List.map Frame.enc fs)=List.map Frame.enc fs:=take_of_length_le (by simp);have w1:w64 (c.sent+1)=c.sent+1:=AP (by omega) (by omega);have w2:w64 (c.lost+1)=c.lost+1:=AP (by omega) (by omega);by_cases hm:c.rng∈ds
     ·simp only [Q7,vv,vf,reduceCtorEq,reduceAdd,reduceEqDiff,lt_irrefl,h,hm,e1,w1,w2,H5,BL.enc];simp
     ·simp only [Q7,vv,vf,reduceCtorEq,reduceAdd,reduceEqDiff,lt_irrefl,h,hm,e1,w1,w2,H5,BL.enc];simp
end Ab
set_option linter.unusedVariables false
set_option linter.unusedSimpArgs false
namespace Ab
open Go
def A0 (c:BL):Option Int:=c.frames.head?.map (·.arr)
def DX:Option Int→List Tree
 |none=>[tI 0,.bool false]
 |some t=>[tI t,.bool true]
theorem Hn (c:BL) (hc:Bs c):AL C 122 c.enc (DX (A0 c)):=by
 refine AL.of (fun n=>e122 n _ _ _ _) ?_;refine (s143 c hc).mono fun n h => ?_;cases hf:c.frames with
 |nil=>
  simp only [BL.enc,hf,map_nil] at h;simp only [hf,map_nil,h,vv,vf,reduceCtorEq,reduceAdd,reduceEqDiff,bne_self_eq_false,(show (((0:Nat):Int)==0)=true from rfl),A0,head?_nil,DX]
 |cons f rest=>
  simp only [BL.enc,hf,map_cons,Frame.enc] at h;simp only [hf,map_cons,Frame.enc,h,vv,vf,reduceCtorEq,reduceAdd,reduceEqDiff,bne_self_eq_false,(show (((rest.length+1:Nat):Int)==0)=false by simp;omega),getElem?_cons_zero,Frame.enc,A0,head?_cons,DX]
theorem s75 (a:Int):AL C 75 [tI a] [.bool (decide (1≤a∧a≤1048576))]:=by refine AL.of (fun n=>e75 n _) (Ev.of fun n => ?_);simp only [F2,vv,vf,reduceCtorEq,reduceAdd,reduceEqDiff];congr 3;rw [Bool.eq_iff_iff];split<;>simp<;>omega
theorem s49 (r:Int) (hr:1≤r∧r≤1048576):AL C 49 [tI r] [tI r,.sl 10 [],tI 0,tI 0,tI 0]:=by refine AL.of (fun n=>e49 n _) ?_;refine (s75 r).mono fun n h => ?_;simp only [h,vv,vf,reduceCtorEq,reduceAdd,reduceEqDiff,hr,and_self]
theorem s128 (a b:Int) (ha : -9223372036854775808≤a∧a≤9223372036854775807) (hb:1≤b∧b≤1048576):AL C 128 [tI a,tI b] [tI (a / b),tI (a % b)]:=by
 refine AL.of (fun n=>e128 n _ _) (Ev.of fun n => ?_);have hb0:¬b=0:=by omega
 have hb1:(0:Int)<b:=by omega
 have hq : -9223372036854775808≤a / b∧a / b≤9223372036854775807:=by
  constructor
  ·rw [Int.le_ediv_iff_mul_le hb1];have : -9223372036854775808*b≤ -9223372036854775808*1:=Int.mul_le_mul_of_nonpos_left (by omega) (by omega);omega
  ·have:a / b≤if 0≤a then a else 0:=by
    split
    ·exact Int.ediv_le_self b (by omega)
    ·have:=Int.ediv_lt_of_lt_mul hb1 (show a<0*b by omega);omega
   split at this<;>omega
 have hm:=emod_nonneg a hb0;have hml:=emod_lt_of_pos a hb1;have hdm:=Int.mul_ediv_add_emod a b;have ht:tmod a b=if 0≤a∨a % b=0 then a % b else a % b-b:=by
  rw [Int.tmod_eq_emod];have:(↑b.natAbs:Int)=b:=by omega
  have hdv:b∣a↔a % b=0:=Int.dvd_iff_emod_eq_zero;simp only [hdv,this];split<;>omega
 have htd:tdiv a b=if 0≤a∨a % b=0 then a / b else a / b+1:=by rw [Int.tdiv_eq_ediv];have hdv:b∣a↔a % b=0:=Int.dvd_iff_emod_eq_zero;have hs:b.sign=1:=Int.sign_eq_one_of_pos hb1;simp only [hdv,hs];split<;>omega
 by_cases h:0≤a∨a % b=0
 ·simp only [ht,htd,h,if_true,vv,vf,reduceCtorEq,reduceAdd,reduceEqDiff,hb0,(show ¬a % b<0 by omega),AP (show -9223372036854775808≤a / b by omega) (by omega)]
 ·have hneg:a / b<0:=Int.ediv_lt_of_lt_mul hb1 (by omega);simp only [ht,htd,h,if_false,vv,vf,reduceCtorEq,reduceAdd,reduceEqDiff,hb0,(show a % b-b<0 by omega)];rw [AP (x:=a / b+1) (by omega) (by omega),AP (x:=a / b+1-1) (by omega) (by omega),AP (by omega) (by omega)];simp
theorem s104 (n r:Int) (hn : -9223372036854775808≤n∧n≤9223372036854775807) (hr:1≤r∧r≤1048576):AL C 104 [tI n,tI r] [.sl 1 ((BP n r).map Az),tI 0]:=by
 refine AL.of (fun n=>e104 n _ _) ?_;have hm:=emod_nonneg (n / 8) (show r≠0 by omega);have hml:=emod_lt_of_pos (n / 8) (show 0<r by omega);have hw:w64 (w64 (r+1)+n / 8 % r)=r+1+n / 8 % r:=by rw [AP (x:=r+1) (by omega) (by omega),AP (by omega) (by omega)]
 refine ((s75 r).and ((s128 n 8 hn (by omega)).and (s128 (n / 8) r (by omega) hr))).mono fun m h => ?_;obtain ⟨k1,k2,k3⟩:=h;have h8:0≤n % 8∧n % 8<8:=by omega
 simp only [k1,k2,k3,vv,vf,reduceCtorEq,reduceAdd,reduceEqDiff,hr,h8,and_self,hw];unfold BP;rcases (show n % 8=0∨n % 8=1∨n % 8=2∨n % 8=3∨n % 8=4∨n % 8=5∨n % 8=6∨n % 8=7 by omega) with e|e|e|e|e|e|e|e<;>simp [e,AB,Az]
theorem s101 (c:BL) (hc:Bs c):AL C 101 c.enc [tI 0]:=by
 refine AL.of (fun n=>e101 n _ _ _ _) ?_;have h1:=hc.rng;have h2:=hc.lost;have h3:=hc.len;refine Ev.rw (T' := ?TT) (s75 c.rng) (fun n h => ?g1) ?g2
 case g1=>
  simp only [h,vv,vf,reduceCtorEq,reduceAdd,reduceEqDiff,h1,and_self,(show ¬c.sent<0 by omega),(show ¬c.lost<0 by omega),(show ¬c.sent<c.lost by omega),(show ¬(10000:Int)<(c.frames.length:Int) by omega)];rfl
 case g2=>
  refine Ad (fun (r:Int)=>[tI r]) c.frames (fun i (_:Unit)=>(([.t (tI i)],[]):List AV×Heap)) (fun _ _ _ =>.next ()) (fun _=>0) (fun _ _=>True) () rfl trivial (CP (fun _ _=>()) (fun _=>0) 0 _ ())
   (fun i s f hx hI=>Ev.of fun n again => ?_) (fun _ _ _ _ _ _ _=>trivial) (fun s hI=>Ev.of fun n again => ?_)
  ·have hi:=AM hx;have hf:=hc.frm f (mem_of_getElem? hx);by_cases hi0:i=0
   ·subst hi0;simp only [IQ,Og,vv,vf,reduceCtorEq,reduceAdd,reduceEqDiff,hx,Frame.enc,(show ((0:Nat):Int)<c.frames.length by omega),(show ¬f.arr<0 by omega),(show ¬(2199023255552:Int)<f.arr by omega),(show ¬f.num<0 by omega),(show ¬c.sent≤f.num by omega),(show ¬(0:Int)<((0:Nat):Int) by omega),AS (show 0<4611686018427387904 by omega),Rd.AT]
   ·have hp:c.frames[i-1]? = some c.frames[i-1]:=getElem?_eq_getElem (by omega);have hs:=List.pairwise_iff_getElem.1 hc.srt (i-1) i (by omega) hi (by omega);rw [getElem?_eq_getElem hi] at hx;have hx2:=Option.some.inj hx;rw [hx2] at hs;rw [← getElem?_eq_getElem hi] at hx;simp only [IQ,Og,vv,vf,reduceCtorEq,reduceAdd,reduceEqDiff,hx,hp,Frame.enc,(show (i:Int)<c.frames.length by omega),(show ¬f.arr<0 by omega),(show ¬(2199023255552:Int)<f.arr by omega),(show ¬f.num<0 by omega),(show ¬c.sent≤f.num by omega),(show (0:Int)<(i:Int) by omega),AS (show i<4611686018427387904 by omega),Ha (show i<4611686018427387904 by omega) (by omega),(show ¬f.arr<(c.frames[i-1]).arr by omega),Rd.AT]
  ·simp only [IQ,vv,vf,reduceCtorEq,reduceAdd,reduceEqDiff,lt_irrefl]
theorem s76 (c:BL) (hc:Bs c):AL C 76 c.enc (DX (A0 c)):=by
 refine AL.of (fun n=>e76 n _ _ _ _) ?_;refine (s101 c hc).mono fun n h => ?_;cases hf:c.frames with
 |nil=>
  simp only [BL.enc,hf,map_nil] at h;simp only [hf,map_nil,h,vv,vf,reduceCtorEq,reduceAdd,reduceEqDiff,bne_self_eq_false,(show (((0:Nat):Int)==0)=true from rfl),A0,head?_nil,DX]
 |cons f rest=>
  simp only [BL.enc,hf,map_cons,Frame.enc] at h;simp only [hf,map_cons,Frame.enc,h,vv,vf,reduceCtorEq,reduceAdd,reduceEqDiff,bne_self_eq_false,(show (((rest.length+1:Nat):Int)==0)=false by simp;omega),getElem?_cons_zero,Frame.enc,A0,head?_cons,DX]
theorem s80 (c:BL) (hc:Bs c) (f:Frame) (rest:List Frame) (hf:c.frames=f::rest) :
  AL C 80 c.enc [tI c.rng,.sl 10 (rest.map Frame.enc),tI c.sent,tI c.lost,tI f.arr,tI f.num,tI f.seg.kind,tI f.seg.ses,tI f.seg.ser,tI f.seg.off,tI f.seg.tot,.bool f.seg.chk,.str f.seg.data,.sl 2 (f.seg.AZ.map Span.enc),tI 0]:=by
 refine AL.of (fun n=>e80 n _ _ _ _) ?_;have hlen:=hc.len;rw [hf] at hlen;simp only [length_cons] at hlen;refine (s101 c hc).mono fun n h1 => ?_;have e1:take rest.length (List.map Frame.enc rest)=List.map Frame.enc rest:=take_of_length_le (by simp);simp only [BL.enc,hf,map_cons,Frame.enc] at h1;simp only [hf,map_cons,Frame.enc,h1,vv,vf,reduceCtorEq,reduceAdd,reduceEqDiff,bne_self_eq_false,(show (((rest.length+1:Nat):Int)==0)=false by simp;omega),getElem?_cons_zero,(show (0:Int)≤1 by omega),(show (1:Int)≤((rest.length+1:Nat):Int) by omega),List.take_succ_cons,drop_succ_cons,e1]
end Ab
set_option linter.unusedVariables false
set_option linter.unusedSimpArgs false
namespace Ab
open Go
theorem s102 (l:List Frame) (b:Frame) (hl:l.length≤1000000):AL C 102 [.sl 10 (l.map Frame.enc),tI b.arr,tI b.num,tI b.seg.kind,tI b.seg.ses,tI b.seg.ser,tI b.seg.off,tI b.seg.tot,.bool b.seg.chk,.str b.seg.data,.sl 2 (b.seg.AZ.map Span.enc)] [.sl 10 ((GQ (fun x=>decide (x.arr>b.arr)) b l).map Frame.enc)]:=by
 refine AL.of (fun n=>e102 n _ _ _ _ _ _ _ _ _ _ _) ?_;refine Ad (fun (r:List Frame)=>[Tree.sl 10 (r.map Frame.enc)]) l (fun i (s:Nat×List Frame×Bool)=>(([.sref 0 s.1 0 s.2.1.length,.t (.bool s.2.2),.t (tI i)],[.row false s.1 10 (s.2.1.map Frame.enc)]):List AV×Heap)) (fun _ s x =>.next (EO (fun x=>decide (x.arr>b.arr)) b s x)) (LY b) (fun i s=>s.2.1.length≤2*i) (0,[],false) rfl (by simp) ?_
  (fun i s x hx hI => ?_) (fun i s x s' hx hI hs' => ?_) (fun s hI=>Ev.of fun n again => ?_)
 ·rw [CP,MI];rfl
 ·have hi:=AM hx;obtain ⟨v,out,d⟩:=s;simp only at hI;have ho:out.length+1≤1073741824:=by omega
  have ho2:out.length+1+1≤1073741824:=by omega
  have e1:take out.length (List.map Frame.enc out)=List.map Frame.enc out:=take_of_length_le (by simp);have e2:∀y:List Tree,take (out.length+1) (List.map Frame.enc out++[y])=List.map Frame.enc out++[y]:=fun y=>take_of_length_le (by simp);refine Ev.of fun n again => ?_;cases d with
  |true=>
   simp only [Lx,RO,RP,vv,vf,reduceCtorEq,reduceAdd,reduceEqDiff,hx,Frame.enc,(show (i:Int)<l.length by omega),AS (show i<4611686018427387904 by omega),Rd.AT,EO,ho,le_refl,e1,map_append,map_cons,map_nil,length_append,true_eq_false]
  |false=>
   by_cases h1:b.arr<x.arr
   ·simp only [Lx,RO,RP,vv,vf,reduceCtorEq,reduceAdd,reduceEqDiff,hx,Frame.enc,(show (i:Int)<l.length by omega),AS (show i<4611686018427387904 by omega),Rd.AT,EO,ho,ho2,le_refl,e1,e2,h1,length_append,map_append,map_cons,map_nil,append_assoc,cons_append,nil_append]
   ·simp only [Lx,RO,RP,vv,vf,reduceCtorEq,reduceAdd,reduceEqDiff,hx,Frame.enc,(show (i:Int)<l.length by omega),AS (show i<4611686018427387904 by omega),Rd.AT,EO,ho,ho2,le_refl,e1,e2,h1,length_append,map_append,map_cons,map_nil]
 ·simp only [Rd.next.injEq] at hs';subst hs';exact Tt _ b s x hI
 ·obtain ⟨v,out,d⟩:=s;simp only at hI;have ho:out.length+1≤1073741824:=by omega
  have e1:take out.length (List.map Frame.enc out)=List.map Frame.enc out:=take_of_length_le (by simp);have e2:∀y:List Tree,take (out.length+1) (List.map Frame.enc out++[y])=List.map Frame.enc out++[y]:=fun y=>take_of_length_le (by simp);cases d with
  |true=>simp only [Lx,vv,vf,reduceCtorEq,reduceAdd,reduceEqDiff,lt_irrefl,ho,LY,e1,true_eq_false]
  |false=>simp only [Lx,vv,vf,reduceCtorEq,reduceAdd,reduceEqDiff,lt_irrefl,ho,LY,e1,e2,le_refl,Frame.enc,map_append,map_cons,map_nil]
def PV (r:Int) (s:Int) (d:Int):Int:=if d=r then 0 else s
theorem NX (r:Int):∀(ds:List Int) (s:Int),ds.foldl (PV r) s=if r∈ds then 0 else s
 |[],s=>by simp
 |d::ds,s=>by
  rw [foldl_cons,NX r ds];unfold PV;by_cases h:d=r
  ·subst h;simp
  ·have h':¬r=d:=fun e=>h e.symm;simp [h,h']
theorem s78 (c:BL) (hc:Bs c) (at_:Int) (ser:Seg) (ha:0≤at_∧at_≤1099511627776) (ds:List Int) (hd:∀d∈ds,c.rng≤d∧d≤2*c.rng) (hl:c.frames.length+ds.length≤10000) :
  AL C 78 (c.enc++[tI at_,tI ser.kind,tI ser.ses,tI ser.ser,tI ser.off,tI ser.tot,.bool ser.chk,.str ser.data,.sl 2 (ser.AZ.map Span.enc),.sl 1 (ds.map Az)]) ((CO c at_ ser ds).enc++[tI 0]):=by
 refine AL.of (fun n=>e78 n _ _ _ _ _ _ _ _ _ _ _ _ _ _) ?_;have h1:=hc.rng;have hsent:=hc.sent;have hlost:=hc.lost;have hw2:w64 (2*c.rng)=2*c.rng:=AP (by omega) (by omega);refine Ev.rw (T' := ?TT) (s101 c hc) (fun n h => ?g1) ?g2
 case g1=>
  simp only [BL.enc] at h;simp only [h,J78_5,vv,vf,reduceCtorEq,reduceAdd,reduceEqDiff,bne_self_eq_false,(show ¬at_<0 by omega),(show ¬(1099511627776:Int)<at_ by omega)];rfl
 case g2=>
  refine Ad (fun (r:List Tree)=>r) ds (fun i (s:Int)=>(([.t (tI s),.t (tI i)],[.box [.t (tI c.rng),.t (.sl 10 (c.frames.map Frame.enc)),.t (tI c.sent),.t (tI c.lost)],.box [.t (tI 0),.t (.sl 10 []),.t (tI 0),.t (tI 0)]]):List AV×Heap)) (fun _ s d =>.next (PV c.rng s d)) (fun _=>(CO c at_ ser ds).enc++[tI 0]) (fun i s=>s=(ds.take i).foldl (PV c.rng) 1) 1 rfl rfl (CP (PV c.rng) (fun _=>(CO c at_ ser ds).enc++[tI 0]) 0 ds 1)
   (fun i s d hx hI=>Ev.of fun n again => ?_) (fun i s d s' hx hI hs' => ?_) (fun s hI => ?_)
  ·have hi:=AM hx;have hdd:=hd d (mem_of_getElem? hx);simp only [ZX,J78_2,J78_1,vv,vf,reduceCtorEq,reduceAdd,reduceEqDiff,hx,Az,(show (i:Int)<ds.length by omega),(show ¬d<c.rng by omega),hw2,(show ¬2*c.rng<d by omega),AS (show i<4611686018427387904 by omega),Rd.AT,PV,beq_iff_eq];by_cases hq:d=c.rng<;>simp [hq,AB]
  ·cases hs';rw [J5 hx,List.foldl_append,← hI];rfl
  ·have hwl:w64 ((c.frames.length:Int)+(ds.length:Int))=((c.frames.length+ds.length:Nat):Int):=by rw [AP (by omega) (by omega)];omega
   rw [take_length,NX] at hI;have hs:0≤s∧s≤1:=by rw [hI];split<;>omega
   have hS:=hI;simp only [ZX,vv,vf,reduceCtorEq,reduceAdd,reduceEqDiff,lt_irrefl,hwl,(show ¬(10000:Int)<((c.frames.length+ds.length:Nat):Int) by omega)];refine Ph (Ad (fun (fs:List Frame)=>(⟨c.rng,fs,c.sent+1,c.lost+H5 c ds⟩:BL).enc++[tI 0]) ds (fun i (fs:List Frame)=>(([.t (tI i)],[.box [.t (tI c.rng),.t (.sl 10 (fs.map Frame.enc)),.t (tI c.sent),.t (tI c.lost)],.box [.t (tI 0),.t (.sl 10 []),.t (tI 0),.t (tI 0)]]):List AV×Heap))
     (fun _ fs d =>.next (Jb at_ c.sent ser fs d)) (fun s=>s) (fun i fs=>fs.length=c.frames.length+i) c.frames rfl (by simp) ?_
     (fun i fs d hx hI => ?_) (fun i fs d s' hx hI hs' => ?_) (fun fs hI=>Ev.of fun n again => ?_))
   ·rw [CP];rfl
   ·have hi:=AM hx;have hdd:=hd d (mem_of_getElem? hx);have hwd:w64 (at_+d)=at_+d:=AP (by omega) (by omega);refine (s102 fs ⟨at_+d,c.sent,ser⟩ (by omega)).mono fun n h again => ?_;simp only at h;simp only [ZY,vv,vf,reduceCtorEq,reduceAdd,reduceEqDiff,hx,Az,(show (i:Int)<ds.length by omega),hwd,h,AS (show i<4611686018427387904 by omega),Rd.AT,Jb]
   ·have hi:=AM hx;cases hs';rw [Kb,hI];omega
   ·have w1:w64 (c.sent+1)=c.sent+1:=AP (by omega) (by omega);have w2:w64 (c.lost+s)=c.lost+s:=AP (by omega) (by omega);simp only [ZY,vv,vf,reduceCtorEq,reduceAdd,reduceEqDiff,lt_irrefl,w1,w2,H5,BL.enc,cons_append,nil_append];rw [hS]
end Ab
namespace Ab
open Go
inductive Sh where
 |i
 |k (k:IntKind)
 |b
 |s
 |l (n:Nat)
 |r (o:Nat)
 |c (v:AV)
def rcell (p:List AV×Heap) (k j:Nat):Sh→AV
 | .i =>.t (tI (cI p k j))
 | .k q =>.t (.int q (cI p k j))
 | .b =>.t (.bool (cB p k j))
 | .s =>.t (.str (cS p k j))
 | .l n =>.t (.sl n (cL p k j))
 | .r o =>.sref o (AK p k j) (AO p k j) (AJ p k j)
 | .c v=>v
def rb (p:List AV×Heap) (k:Nat):Nat→List Sh→List AV
 |_,[]=>[]
 |j,x::l=>rcell p k j x::rb p k (j+1) l
inductive OSh where
 |row (z:Nat)
 |frz (z:Nat)
 |box (l:List Sh)
def robj (p:List AV×Heap) (k:Nat):OSh→AI
 | .row z =>.row false (AD p k) z (oEs p k)
 | .frz z =>.row true (AD p k) z (oEs p k)
 | .box l =>.box (rb p k 0 l)
def rh (p:List AV×Heap):Nat→List OSh→Heap
 |_,[]=>[]
 |k,s::l=>robj p k s::rh p (k+1) l
def upd {α:Type}:List α→List (Nat×α)→List α
 |l,[]=>l
 |l,(j,x)::c=>upd (l.set j x) c
noncomputable def Fo (C:Cfg) (pc:BT) (n:Nat) (ff:Nat→Rec) (S:List FuncId):Nat→Rec
 |0=>fun _ _ _ _=>none
 |d+1=>fun R r h K=>match r with
  | .fn g avs=>match S.contains g with
   |true=>ff (d+1) R (.fn g avs) h K
   |false=>Dc C (Fo C pc n ff S d) pc n g avs h K
  | .yield i args=>NA C (Fo C pc n ff S d) pc n i args h K
noncomputable def fI (C:Cfg) (n:Nat):Nat→Rec:=inl C (pcx C (AA C n)) n
theorem Iu (C:Cfg) (n:Nat) (S:List FuncId):∀d,Fo C (pcx C (AA C n)) n (fI C n) S d=inl C (pcx C (AA C n)) n d
 |0=>rfl
 |d+1=>by
  funext R r h K;cases r with
  |fn g avs=>
   show (match S.contains g with
    |true=>fI C n (d+1) R (.fn g avs) h K
    |false=>Dc C (Fo C (pcx C (AA C n)) n (fI C n) S d) (pcx C (AA C n)) n g avs h K)=_
   cases S.contains g with
   |true=>rfl
   |false=>rw [Iu C n S d];rfl
  |yield i args=>
   show NA C (Fo C (pcx C (AA C n)) n (fI C n) S d) (pcx C (AA C n)) n i args h K=_;rw [Iu C n S d];rfl
theorem GU (C:Cfg) (n:Nat) (S:List FuncId) (d:Nat) (R:Type) (g:FuncId) (avs:List AV) (h:Heap) (K:List AV→Heap→Option R) :
  fI C n (d+1) R (.fn g avs) h K=Dc C (Fo C (pcx C (AA C n)) n (fI C n) S d) (pcx C (AA C n)) n g avs h K:=by
 rw [Iu];rfl
theorem pureO (C:Cfg) (n:Nat) (S:List FuncId) (g:FuncId) (xs:List Tree):KH C (Fo C (pcx C (AA C n)) n (fI C n) S C.depth) (pcx C (AA C n)) n g xs=KH C (inl C (pcx C (AA C n)) n C.depth) (pcx C (AA C n)) n g xs:=by rw [Iu]
theorem OB (C:Cfg) (n:Nat) (g:FuncId) (xs:List Tree) (hg:g<OWN) (he:C.ext g xs=none):AA C (n+1) g xs=KH C (inl C (pcx C (AA C n)) n C.depth) (pcx C (AA C n)) n g xs:=by
 show (if g<OWN then _ else _)=_;rw [if_pos hg];show (match C.ext g xs with
  |some ys=>some ys
  |none=>KH C (inl C (pcx C (AA C n)) n C.depth) (pcx C (AA C n)) n g xs)=_
 rw [he]
end Ab
set_option linter.unusedVariables false
set_option linter.unusedSimpArgs false
namespace Ab
open Go
def LZ (l:List Span) (t:Int):Bool:=decide (A8 l=0∧Ac t l)
theorem Ol (l:List Span) (t:Int):AL C 175 [.sl 2 (l.map Span.enc),tI t] [.bool (LZ l t)]:=by
 refine AL.of (fun n=>e175 n _ _) ?_;unfold LZ;by_cases hc:A8 l=0
 ·refine Ev.rw (T' := ?TT) (s67 l) (fun n h => ?g1) ?g2
  case g1=>
   simp only [h,vv,vf,reduceCtorEq,reduceAdd,reduceEqDiff,hc,beq_self_eq_true];rfl
  case g2=>
   have hlen:=BC hc;have hm:decide (A8 l=0∧Ac t l)=l.any (fun x=>decide (x.fro≤t∧t<x.to)):=by rw [Bool.eq_iff_iff,decide_eq_true_eq];simp only [hc,true_and];exact NV t l
   have key:=Ad (R:=List Tree) (B:=fun n p again=>Lv n (l.map Span.enc) (fun p7=>Ly n (fun p5=>IX n (fun p2=>Jr n p2) p5) p7) t p again) (fun (q:Bool)=>[Tree.bool q]) l (fun i (_:Unit)=>(([.t (tI i)],[]):List AV×Heap))
    (fun _ _ x=>if (fun x:Span=>decide (x.fro≤t∧t<x.to)) x=true then .done true else .next ()) (fun _=>false) (fun _ _=>True) () (s:=(([.t (tI 0)],[]):List AV×Heap)) rfl trivial (M8 (fun x:Span=>decide (x.fro≤t∧t<x.to)) 0 l)
    (fun i s x hx hI=>Ev.of fun n again => ?_) (fun _ _ _ _ _ _ _=>trivial) (fun s hI=>Ev.of fun n again => ?_)
   ·refine key.mono fun n h => ?_;rw [hm];simpa only [hc,true_and] using h
   ·have hi:=AM hx;by_cases h1:x.fro≤t
    ·by_cases h2:t<x.to
     ·simp only [Lv,Oe,Ly,IX,Jr,vv,vf,reduceCtorEq,reduceAdd,reduceEqDiff,hx,Span.enc,(show (i:Int)<l.length by omega),h1,h2,Rd.Ar,and_self]
     ·simp only [Lv,Oe,Ly,IX,Jr,vv,vf,reduceCtorEq,reduceAdd,reduceEqDiff,hx,Span.enc,(show (i:Int)<l.length by omega),h1,h2,Rd.AT,and_self,AS (show i<4611686018427387904 by omega)]
    ·simp only [Lv,Oe,Ly,IX,Jr,vv,vf,reduceCtorEq,reduceAdd,reduceEqDiff,hx,Span.enc,(show (i:Int)<l.length by omega),h1,Rd.AT,AS (show i<4611686018427387904 by omega)]
   ·simp only [Lv,Oe,Ly,IX,Jr,vv,vf,reduceCtorEq,reduceAdd,reduceEqDiff,lt_irrefl,(show ¬(0:Int)≤ -1 by omega)]
 ·refine (s67 l).mono fun n h => ?_;have hc':(A8 l==0)=false:=by simpa using hc
  simp only [h,Jr,vv,vf,reduceCtorEq,reduceAdd,reduceEqDiff,hc,hc']
structure Gh where
 v0:Nat
 v4:Nat
 v5:Nat
 pre:List (List Tree)
abbrev E0:AI :=.box []
structure Ses where
 dat:BL
 rep:BL
 picks:List Int
 limit:Int
 dark:List Span
 entered:Int
 dist:Int
 sent:List Out
 told:List Out
 now:Int
 snd:Snd
 rcv:Rcv
 pend:List Out
 rcvd:Bool
 arrive:Int
 kno:Bool
 knoAt:Int
def DD (s:Ses) (R:Int):List Int×Int:=
 if LZ s.dark s.now=true then ([],s.dist)
 else if s.picks=[] then ([R],s.dist)
 else if (BP (s.picks.getD (s.entered % s.picks.length).toNat 0) R).head? = some R then (BP (s.picks.getD (s.entered % s.picks.length).toNat 0) R,s.dist)
 else if 0≤s.limit∧s.limit≤s.dist then ([R],s.dist)
 else (BP (s.picks.getD (s.entered % s.picks.length).toNat 0) R,s.dist+1)
def EX (s:Ses) (x:Seg):Ses:={s with dat:=CO s.dat s.now x (DD s s.dat.rng).1,dist:=(DD s s.dat.rng).2,entered:=s.entered+1,sent:=s.sent++[⟨s.now,x⟩]}
def CQ (s:Ses) (x:Seg):Ses:={s with rep:=CO s.rep s.now x (DD s s.rep.rng).1,dist:=(DD s s.rep.rng).2,entered:=s.entered+1,told:=s.told++[⟨s.now,x⟩]}
def txS:Nat→Ses→Ses
 |0,s=>s
 |k+1,s=>match s.pend with
  |[]=>s
  |o::l=>if o.at_=s.now then txS k {EX s o.seg with pend:=l} else s
def BF (s:Ses):Ses:={s with dat:={s.dat with frames:=s.dat.frames.tail}}
def B8 (s:Ses):Ses:={s with rep:={s.rep with frames:=s.rep.frames.tail}}
def rxH (s:Ses) (x:Seg):Ses:=(DZ s.rcv x).2.1.foldl CQ {s with rcv:=(DZ s.rcv x).1}
def rxF (s:Ses):Ses:=if s.rcvd=false∧A1 s.rcv=true then {s with rcvd:=true,arrive:=s.now} else s
def rxX (s:Ses) (x:Seg):Ses:=rxF (rxH s x)
def rxS:Nat→Ses→Ses
 |0,s=>s
 |k+1,s=>match s.dat.frames with
  |[]=>s
  |f::_=>if f.arr=s.now then rxS k (rxX (BF s) f.seg) else s
def lsF (s:Ses):Ses:=if s.kno=false∧s.snd.st=2 then {s with kno:=true,knoAt:=s.now} else s
def lsX (s:Ses) (x:Seg):Ses:=if s.now<s.snd.busy then s else lsF {s with snd:=(Ay s.snd s.now x).1,pend:=s.pend++(Ay s.snd s.now x).2.1}
def lsS:Nat→Ses→Ses
 |0,s=>s
 |k+1,s=>match s.rep.frames with
  |[]=>s
  |f::_=>if f.arr=s.now then lsS k (lsX (B8 s) f.seg) else s
def exS (s:Ses):Ses:=if s.snd.st=1∧s.snd.due=s.now then {s with snd:=(By s.snd s.now).1,pend:=s.pend++(By s.snd s.now).2.1} else s
def C5:Option Int→Option Int→Option Int
 |none,o=>o
 |some a,none=>some a
 |some a,some b=>some (if b<a then b else a)
def nxS (s:Ses):Option Int:=C5 (C5 (C5 (s.pend.head?.map (·.at_)) (A0 s.dat)) (A0 s.rep)) (if s.snd.st=1 then some s.snd.due else none)
def ph1 (s:Ses) (t:Int):Ses:=txS s.pend.length {s with now:=t}
def ph2 (s:Ses) (t:Int):Ses:=rxS (ph1 s t).dat.frames.length (ph1 s t)
def ph3 (s:Ses) (t:Int):Ses:=lsS (ph2 s t).rep.frames.length (ph2 s t)
def stS (s:Ses) (t:Int):Ses:=exS (ph3 s t)
def Hr:Nat→Ses→Ses
 |0,s=>s
 |k+1,s=>match nxS s with
  |none=>s
  |some t=>Hr k (stS s t)
end Ab
set_option linter.unusedVariables false
set_option linter.unusedSimpArgs false
namespace Ab
open Go
theorem vv2 :
  (∀(e:List AV) (h:Heap) (k:Nat),vI (e,h) k=intOf (AE (List.getD e k AV.undef)))∧
  (∀(e:List AV) (h:Heap) (k:Nat),vB (e,h) k=BH (AE (List.getD e k AV.undef)))∧
  (∀(e:List AV) (h:Heap) (k:Nat),vS (e,h) k=strOf (AE (List.getD e k AV.undef)))∧
  (∀(e:List AV) (h:Heap) (k:Nat),vL (e,h) k=CD (AE (List.getD e k AV.undef)))∧
  (∀(e:List AV) (h:Heap) (k:Nat),A3 (e,h) k=E7 (List.getD e k AV.undef))∧
  (∀(e:List AV) (h:Heap) (k:Nat),Bz (e,h) k=HJ (List.getD e k AV.undef))∧
  (∀(e:List AV) (h:Heap) (k:Nat),Ak (e,h) k=HK (List.getD e k AV.undef))∧
  (∀(x:Tree) (l:List Tree),gI (x::l) (0:Nat)=intOf x)∧
  (∀(x:Tree) (l:List Tree) (k:Nat),gI (x::l) (k+(1:Nat))=gI l k)∧
  (∀(x:Tree) (l:List Tree),gB (x::l) (0:Nat)=BH x)∧
  (∀(x:Tree) (l:List Tree) (k:Nat),gB (x::l) (k+(1:Nat))=gB l k)∧
  (∀(x:Tree) (l:List Tree),gS (x::l) (0:Nat)=strOf x)∧
  (∀(x:Tree) (l:List Tree) (k:Nat),gS (x::l) (k+(1:Nat))=gS l k)∧
  (∀(x:Tree) (l:List Tree),gL (x::l) (0:Nat)=CD x)∧
  (∀(x:Tree) (l:List Tree) (k:Nat),gL (x::l) (k+(1:Nat))=gL l k)∧
  (∀(x:Tree) (l:List Tree),okI (x::l) (0:Nat)=(FF IntKind.i64 x=true))∧
  (∀(x:Tree) (l:List Tree) (k:Nat),okI (x::l) (k+(1:Nat))=okI l k)∧
  (∀(x:Tree) (l:List Tree),okB (x::l) (0:Nat)=(D1 x=true))∧
  (∀(x:Tree) (l:List Tree) (k:Nat),okB (x::l) (k+(1:Nat))=okB l k)∧
  (∀(x:Tree) (l:List Tree),okS (x::l) (0:Nat)=(FE x=true))∧
  (∀(x:Tree) (l:List Tree) (k:Nat),okS (x::l) (k+(1:Nat))=okS l k)∧
  (∀(z:Nat) (x:Tree) (l:List Tree),okL z (x::l) (0:Nat)=(FL z x=true))∧
  (∀(z:Nat) (x:Tree) (l:List Tree) (k:Nat),okL z (x::l) (k+(1:Nat))=okL z l k)∧
  (∀(k:IntKind) (n:Int),FF k (Tree.int k n)=true)∧
  (∀(b:Bool),D1 (Tree.bool b)=true)∧
  (∀(b:ByteArray),FE (Tree.str b)=true)∧
  (∀(z:Nat) (es:List (List Tree)),FL z (Tree.sl z es)=true)∧
  (∀(k:IntKind) (n:Int),intOf (Tree.int k n)=n)∧
  (∀(b:Bool),BH (Tree.bool b)=b)∧
  (∀(b:ByteArray),strOf (Tree.str b)=b)∧
  (∀(z:Nat) (es:List (List Tree)),CD (Tree.sl z es)=es)∧
  (∀(x:Tree),AE (AV.t x)=x)∧
  (∀(i v o l:Nat),E7 (AV.sref i v o l)=v)∧
  (∀(i v k o:Nat),E7 (AV.rptr i v k o)=v)∧
  (∀(i v o l:Nat),HJ (AV.sref i v o l)=o)∧
  (∀(i v o l:Nat),HK (AV.sref i v o l)=l)∧
  (∀(f:Bool) (v z:Nat) (es:List (List Tree)),AI.ver (AI.row f v z es)=v)∧
  (∀(f:Bool) (v z:Nat) (es:List (List Tree)),Bj (AI.row f v z es)=es)∧
  (∀(cs:List AV) (j:Nat),cellOf (AI.box cs) j=List.getD cs j AV.undef)∧
  (∀(e:List AV) (h:Heap) (k j:Nat),aI (e,h) k j=intOf (AE (List.getD (Dl (List.getD e k AV.undef)) j AV.undef)))∧
  (∀(e:List AV) (h:Heap) (k j:Nat),aB (e,h) k j=BH (AE (List.getD (Dl (List.getD e k AV.undef)) j AV.undef)))∧
  (∀(e:List AV) (h:Heap) (k j:Nat),aS (e,h) k j=strOf (AE (List.getD (Dl (List.getD e k AV.undef)) j AV.undef)))∧
  (∀(e:List AV) (h:Heap) (k j:Nat),aL (e,h) k j=CD (AE (List.getD (Dl (List.getD e k AV.undef)) j AV.undef)))∧
  (∀(cs:List AV),Dl (AV.agg cs)=cs)∧
  (∀{R S:Type} (J:S→Option R) (f:(S→Option R)→Option R),join J f=f J)∧
  (∀{α:Type} {x:α} {xs:List α} {d:α},List.getD (x::xs) (0:Nat) d=x)∧
  (∀{α:Type} {x:α} {xs:List α} {n:Nat} {d:α},List.getD (x::xs) (n+(1:Nat)) d=List.getD xs n d)∧
  (∀(h:Decidable True),@decide True h=true)∧
  (∀(h:Decidable False),@decide False h=false)∧
  (∀{R:Type} {i:Decidable True} (a b:Option R),@cnd R True i a b=a)∧
  (∀{R:Type} {i:Decidable False} (a b:Option R),@cnd R False i a b=b)∧
  (∀(p:Prop),(True∧p)=p)∧
  (∀(p:Prop),(p∧True)=p)∧
  (∀(p:Prop),(False∧p)=False)∧
  (∀(p:Prop),(p∧False)=False)∧
  (∀{α β:Type} (a:α) (f:α→Option β),Option.bind (some a) f=f a)∧
  (∀{α β:Type} (f:α→Option β),Option.bind (none:Option α) f=none)∧
  (∀{α:Type} {a:α} {l:List α},length (a::l)=length l+(1:Nat))∧
  (∀{α:Type},length ([]:List α)=(0:Nat))∧
  (∀{α β:Type} {l:List α} (f:α→β),length (List.map f l)=length l)∧
  (∀{α β:Type} {f:α→β} {l:List α} {i:Nat},(List.map f l)[i]? = Option.map f l[i]?)∧
  (∀{α β:Type} (a:α) (f:α→β),Option.map f (some a)=some (f a))∧
  (∀{α β:Type} (f:α→β),Option.map f (none:Option α)=none)∧
  (∀(n:Nat),toNat (n:Int)=n)∧
  (∀{α:Type} (a:α),(a=a)=True)∧
  (∀{α:Type} {x:Decidable True} (t e:α),@ite α True x t e=t)∧
  (∀{α:Type} {x:Decidable False} (t e:α),@ite α False x t e=e)∧
  (∀(n:Nat),(0:Nat)+n=n)∧
  (∀(n:Nat),(0:Int)≤(n:Int))∧
  (∀{α:Type} {l:List α},drop (0:Nat) l=l)∧
  (∀(p:Prop),(p∨True)=True)∧
  (∀(p:Prop),(True∨p)=True)∧
  (∀(p:Prop),(p∨False)=p)∧
  (∀(p:Prop),(False∨p)=p)∧
  ((!true)=false)∧
  ((!false)=true)∧
  ((false=true)=False)∧
  (∀{p:Prop} [inst:Decidable p],(decide p=true)=p)∧
  (∀{α:Type} [inst:LE α] {x y:α},x≥y↔y≤x)∧
  (∀{α:Type} [inst:LT α] {x y:α},x>y↔y<x):=
 ⟨@vI_mk,@O1,@vS_mk,@vL_mk,@U4,@U5,@U6,@Vp,@Vq,@Vr,@Vs,@Vl,@Vm,@Vn,@Vo,@SA,@SB,@SC,@SD,@R6,@R7,@R8,@R9,@Ng,@Ka,@Nf,@SP,@intOf_int,@MR,@O9,@U0,@Rb,@Mx,@My,@Mz,@M0,@Jy,@IC,@N4,@aI_mk,@aB_mk,@aS_mk,@aL_mk,@P8,@join_eq,@List.getD_cons_zero,@List.getD_cons_succ,@decide_true,@decide_false,@Sn,@Ps,@true_and,@and_true,@false_and,@and_false,@Option.bind_some,@bind_none,@length_cons,@length_nil,@length_map,@getElem?_map,@map_some,@map_none,@toNat_natCast,@eq_self,@if_true,@if_false,@zero_add,@Int.natCast_nonneg,@drop_zero,@or_true,@true_or,@or_false,@false_or,@Bool.not_true,@Bool.not_false,@false_eq_true,@decide_eq_true_eq,@ge_iff_le,@gt_iff_lt⟩
theorem GS (n r:Int):(BP n r).length≤2:=by
 unfold BP
 repeat' split
 all_goals simp
theorem GR {n r d:Int} (hr:1≤r) (h:d∈BP n r):r≤d∧d≤2*r:=by
 have hm:=emod_nonneg (n / 8) (show r≠0 by omega);have hml:=emod_lt_of_pos (n / 8) (show 0<r by omega);unfold BP at h
 repeat' split at h
 all_goals simp at h
 all_goals omega
def DR (x:Seg):List AV:=[.t (tI x.kind),.t (tI x.ses),.t (tI x.ser),.t (tI x.off),.t (tI x.tot),.t (.bool x.chk),.t (.str x.data),.t (.sl 2 (x.AZ.map Span.enc))]
structure EOk (s:Ses) (c:BL):Prop where
 gc:Bs c
 now:0≤s.now∧s.now≤1099511627776
 pk:∀p∈s.picks,-9223372036854775808≤p∧p≤9223372036854775807
 ent:0≤s.entered∧s.entered<10000
 len:c.frames.length+2≤10000
 dst:0≤s.dist∧s.dist≤10000
 sl:s.sent.length<1000000∧s.told.length<1000000
 pl:s.picks.length≤1000
theorem E3 (s:Ses) (x:Seg) (ds:List Int) (u:Int) (h:DD s s.dat.rng=(ds,u)):EX s x={s with dat:=CO s.dat s.now x ds,dist:=u,entered:=s.entered+1,sent:=s.sent++[⟨s.now,x⟩]}:=by unfold EX;rw [h]
theorem E2 (s:Ses) (x:Seg) (ds:List Int) (u:Int) (h:DD s s.rep.rng=(ds,u)):CQ s x={s with rep:=CO s.rep s.now x ds,dist:=u,entered:=s.entered+1,told:=s.told++[⟨s.now,x⟩]}:=by unfold CQ;rw [h]
def boO (o:Option Int):Heap:=[.box [.t (tI (o.getD 0))],.box [.t (.bool o.isSome)]]
def DT (o:Option Int):List AV:=[.t (tI (o.getD 0)),.t (.bool o.isSome)]
def exG (g:Gh) (s:Ses):Gh:=if s.snd.st=1∧s.snd.due=s.now then {g with v0:=g.v0+1,pre:=[]} else g
def Jx:Seg:=⟨0,0,0,0,0,false,ByteArray.mk #[],[]⟩
def DN (s:Ses):Ses×Option Seg:=
 match s.rep.frames with
 |[]=>(s,none)
 |f::_=>if f.arr=s.now then (B8 s,some f.seg) else (s,none)
def DO (s:Ses):Ses×Option Seg:=
 match s.dat.frames with
 |[]=>(s,none)
 |f::_=>if f.arr=s.now then (BF s,some f.seg) else (s,none)
theorem Ej {c:BL} (hc:Bs c):Bs {c with frames:=c.frames.tail}:=by
 refine ⟨hc.rng,hc.lost,hc.sent,?_,fun f hf=>hc.frm f (List.mem_of_mem_tail hf),?_⟩
 ·have:=hc.len;simp;omega
 ·have:=hc.srt;cases h:c.frames with
  |nil=>simp
  |cons f l=>rw [h] at this;exact (pairwise_cons.1 this).2
def gP (g:Gh):Gh:={g with v0:=g.v0+1,pre:=[]}
def lsG (g:Gh) (s:Ses):Gh:=if s.now<s.snd.busy then g else gP g
structure LsP (P:Ses→Prop):Prop where
 rep:∀s,P s→Bs s.rep
 ack:∀s,P s→s.snd.acked.length≤100∧s.pend.length≤1000000
 DZ:∀s f l,P s→s.rep.frames=f::l→f.arr=s.now→(f.seg.AZ.length≤100∨1000<f.seg.AZ.length)∧(¬s.now<s.snd.busy→(Ay s.snd s.now f.seg).2.2=0∧(Ay s.snd s.now f.seg).2.1.length≤1000000)∧P (lsX (B8 s) f.seg)
def lsT:Nat→Gh×Ses→Gh×Ses
 |0,q=>q
 |k+1,q=>match q.2.rep.frames with
  |[]=>q
  |f::_=>if f.arr=q.2.now then lsT k (lsG q.1 (B8 q.2),lsX (B8 q.2) f.seg) else q
theorem Qf:∀(k:Nat) (q:Gh×Ses),(lsT k q).2=lsS k q.2
 |0,q=>rfl
 |k+1,q=>by
  unfold lsT lsS;cases q.2.rep.frames with
  |nil=>rfl
  |cons f l=>
   simp only;split
   ·exact Qf k _
   ·rfl
theorem Gq (s:Ses) (x:Seg):(lsX s x).rep=s.rep:=by
 unfold lsX lsF;split
 ·rfl
 ·split<;>rfl
theorem Va (s:Ses) (x:Seg):(lsX s x).now=s.now:=by
 unfold lsX lsF;split
 ·rfl
 ·split<;>rfl
structure LS where
 g:Gh
 s:Ses
 v:Nat
 o:Option Seg
def LS.step (q:LS):Rd LS (Gh×Ses):=match q.o with
 |none =>.done (q.g,q.s)
 |some x =>.next ⟨lsG q.g q.s,(DN (lsX q.s x)).1,q.v+1,(DN (lsX q.s x)).2⟩
def LS.res (q:LS):Gh×Ses:=match q.o with
 |none=>(q.g,q.s)
 |some x=>lsT q.s.rep.frames.length (lsG q.g q.s,lsX q.s x)
def LS.inv (P:Ses→Prop) (q:LS):Prop:=Bs q.s.rep∧match q.o with
 |none=>True
 |some x=>(q.s.snd.acked.length≤100∧q.s.pend.length≤1000000)∧(x.AZ.length≤100∨1000<x.AZ.length)∧(¬q.s.now<q.s.snd.busy→(Ay q.s.snd q.s.now x).2.2=0∧(Ay q.s.snd q.s.now x).2.1.length≤1000000)∧P (lsX q.s x)
theorem LS.take {P:Ses→Prop} (hP:LsP P) {s:Ses} (h:P s) (g:Gh) (v:Nat):LS.inv P ⟨g,(DN s).1,v,(DN s).2⟩∧LS.res ⟨g,(DN s).1,v,(DN s).2⟩=lsT s.rep.frames.length (g,s):=by
 have hg:=hP.rep s h;unfold DN;cases hf:s.rep.frames with
 |nil=>exact ⟨⟨hg,trivial⟩,by simp [LS.res,lsT]⟩
 |cons f l=>
  simp only;split
  ·rename_i ha;obtain ⟨h1,h2,h3⟩:=hP.DZ s f l h hf ha;refine ⟨⟨Ej hg,hP.ack s h,h1,h2,h3⟩,?_⟩;simp only [LS.res,length_cons,lsT,hf,ha,if_true];have:(B8 s).rep.frames.length=l.length:=by simp [B8,hf]
   rw [this]
  ·rename_i ha;refine ⟨⟨hg,trivial⟩,?_⟩;simp only [LS.res,length_cons,lsT,hf,ha,if_false]
theorem LS.sound {P:Ses→Prop} (hP:LsP P) (q q':LS) (h:q.inv P) (hs:q.step = .next q'):q'.inv P∧(q'.s.rep.frames.length+(if q'.o.isSome then 1 else 0)<q.s.rep.frames.length+(if q.o.isSome then 1 else 0)):=by
 obtain ⟨g,s,v,o⟩:=q;unfold LS.step at hs;cases o with
 |none=>cases hs
 |some x=>
  cases hs;refine ⟨(LS.take hP h.2.2.2.2 _ _).1,?_⟩;simp only [DN,Gq];cases hf:s.rep.frames with
  |nil=>simp [Gq,hf]
  |cons f l=>
   simp only;split
   ·simp [B8,Gq,hf]
   ·simp [Gq,hf]
theorem LS.fin {P:Ses→Prop} (hP:LsP P) (q:LS) (h:q.inv P):q.res=q.step.fin LS.res:=by
 obtain ⟨g,s,v,o⟩:=q;cases o with
 |none=>rfl
 |some x=>
  simp only [LS.step,Rd.fin];rw [(LS.take hP h.2.2.2.2 _ _).2,Gq];rfl
end Ab
set_option linter.unusedVariables false
set_option linter.unusedSimpArgs false
namespace Ab
open Go
structure Bud (k:Nat) (s:Ses):Prop where
 gd:Bs s.dat
 gr:Bs s.rep
 now:0≤s.now∧(0<k→s.now≤1099511627776)
 pk:∀p∈s.picks,-9223372036854775808≤p∧p≤9223372036854775807
 ent:0≤s.entered∧s.entered+k≤5000
 ld:(s.dat.frames.length:Int)≤2*s.entered
 lr:(s.rep.frames.length:Int)≤2*s.entered
 sd:s.dat.sent≤s.entered
 sr:s.rep.sent≤s.entered
 dst:0≤s.dist∧s.dist≤s.entered
 sl:(s.sent.length:Int)≤s.entered
 tl:(s.told.length:Int)≤s.entered
 pl:s.picks.length≤1000
theorem Bud.mono {k k':Nat} {s:Ses} (h:Bud k s) (hk:k'≤k):Bud k' s:={h with ent:=by have:=h.ent;omega,now:=⟨h.now.1,fun q=>h.now.2 (by omega)⟩}
theorem Bud.eD {k:Nat} {s:Ses} (h:Bud (k+1) s):EOk s s.dat:=by have:=h.ent;have:=h.ld;have:=h.dst;have:=h.sl;have:=h.tl;exact ⟨h.gd,⟨h.now.1,h.now.2 (by omega)⟩,h.pk,by omega,by omega,by omega,by omega,h.pl⟩
theorem Bud.eR {k:Nat} {s:Ses} (h:Bud (k+1) s):EOk s s.rep:=by have:=h.ent;have:=h.lr;have:=h.dst;have:=h.sl;have:=h.tl;exact ⟨h.gr,⟨h.now.1,h.now.2 (by omega)⟩,h.pk,by omega,by omega,by omega,by omega,h.pl⟩
theorem GO (t num:Int) (x:Seg):∀(ds:List Int) (fs:List Frame),(MW t num x ds fs).length=fs.length+ds.length
 |[],fs=>by simp [MW]
 |d::ds,fs=>by show (MW t num x ds (Jb t num x fs d)).length=_;rw [GO t num x ds,Kb];simp;omega
theorem KG {t num:Int} {x:Seg} {f:Frame}:∀{ds:List Int} {fs:List Frame},f∈MW t num x ds fs↔f∈fs∨∃d∈ds,f=⟨t+d,num,x⟩
 |[],fs=>by simp [MW]
 |d::ds,fs=>by
  show f∈MW t num x ds (Jb t num x fs d)↔_;rw [KG];unfold Jb;rw [Nj];simp only [mem_cons,exists_eq_or_imp];constructor
  ·rintro ((h|h)|h)
   ·exact .inr (.inl h)
   ·exact .inl h
   ·exact .inr (.inr h)
  ·rintro (h|h|h)
   ·exact .inl (.inr h)
   ·exact .inl (.inl h)
   ·exact .inr h
theorem R3 {t num:Int} {x:Seg}:∀{ds:List Int} {fs:List Frame},fs.Pairwise (fun a b=>a.arr≤b.arr)→(MW t num x ds fs).Pairwise fun a b=>a.arr≤b.arr
 |[],fs,h=>h
 |d::ds,fs,h=>R3 (ds:=ds) (SS h)
theorem Qq {s:Ses} {R:Int} (hR:1≤R):(∀d∈(DD s R).1,R≤d∧d≤2*R)∧(DD s R).1.length≤2∧s.dist≤(DD s R).2∧(DD s R).2≤s.dist+1:=by
 unfold DD;split
 ·simp;omega
 ·split
  ·simp;omega
  ·split
   ·exact ⟨fun d hd=>GR hR hd,GS _ _,by simp,by simp only;omega⟩
   ·split
    ·simp;omega
    ·exact ⟨fun d hd=>GR hR hd,GS _ _,by simp only;omega,by simp⟩
theorem Np {c:BL} {t:Int} {x:Seg} {ds:List Int} (hc:Bs c) (ht:0≤t∧t≤1099511627776) (hd:∀d∈ds,c.rng≤d∧d≤2*c.rng) (hl:c.frames.length+ds.length≤10000) (hs:c.sent<1152921504606846976):Bs (CO c t x ds):=by
 have h1:=hc.rng;have h2:=hc.lost;refine ⟨h1,?_,?_,?_,fun f hf => ?_,R3 hc.srt⟩
 ·simp only [CO,H5];split<;>omega
 ·simp only [CO];omega
 ·simp only [CO,GO];exact hl
 ·simp only [CO] at hf;rcases KG.1 hf with hf|⟨d,hdd,rfl⟩
  ·have:=hc.frm f hf;simp only [CO];omega
  ·have:=hd d hdd;simp only [CO];omega
theorem Bud.EX {k:Nat} {s:Ses} (h:Bud (k+1) s) (x:Seg):Bud k (EX s x):=by
 have he:=h.eD;have hr:=h.gd.rng;obtain ⟨d1,d2,d3,d4⟩:=Qq (s:=s) hr.1;have:=h.ent;have:=h.ld;have:=h.lr;have:=h.dst;have:=h.sl;have:=h.tl;have:=h.sd;have:=h.sr;refine ⟨Np h.gd he.now d1 (by omega) (by omega),h.gr,⟨h.now.1,fun _=>h.now.2 (by omega)⟩,h.pk,?_,?_,?_,?_,?_,?_,?_,?_,h.pl⟩
 all_goals simp only [Ab.EX,CO,GO,length_append,length_cons,length_nil]
 all_goals omega
theorem Bud.CQ {k:Nat} {s:Ses} (h:Bud (k+1) s) (x:Seg):Bud k (CQ s x):=by
 have he:=h.eR;have hr:=h.gr.rng;obtain ⟨d1,d2,d3,d4⟩:=Qq (s:=s) hr.1;have:=h.ent;have:=h.ld;have:=h.lr;have:=h.dst;have:=h.sl;have:=h.tl;have:=h.sd;have:=h.sr;refine ⟨h.gd,Np h.gr he.now d1 (by omega) (by omega),⟨h.now.1,fun _=>h.now.2 (by omega)⟩,h.pk,?_,?_,?_,?_,?_,?_,?_,?_,h.pl⟩
 all_goals simp only [Ab.CQ,CO,GO,length_append,length_cons,length_nil]
 all_goals omega
theorem Bud.BF {k:Nat} {s:Ses} (h:Bud k s):Bud k (BF s):={h with gd:=Ej h.gd,ld:=by have:=h.ld;simp only [Ab.BF,length_tail];omega}
theorem Bud.B8 {k:Nat} {s:Ses} (h:Bud k s):Bud k (B8 s):={h with gr:=Ej h.gr,lr:=by have:=h.lr;simp only [Ab.B8,length_tail];omega}
theorem Bud.of {k:Nat} {s s':Ses} (h:Bud k s) (h1:s'.dat=s.dat) (h2:s'.rep=s.rep) (h3:s'.now=s.now) (h4:s'.picks=s.picks) (h5:s'.entered=s.entered) (h6:s'.dist=s.dist) (h7:s'.sent=s.sent) (h8:s'.told=s.told):Bud k s':=
 ⟨h1 ▸ h.gd,h2 ▸ h.gr,h3 ▸ h.now,h4 ▸ h.pk,h5 ▸ h.ent,by rw [h1,h5];exact h.ld,by rw [h2,h5];exact h.lr,by rw [h1,h5];exact h.sd,by rw [h2,h5];exact h.sr,by rw [h6,h5];exact h.dst,by rw [h7,h5];exact h.sl,by rw [h8,h5];exact h.tl,h4 ▸ h.pl⟩
theorem Lc:∀(l:List Seg) (s:Ses),(l.foldl CQ s).dat=s.dat
 |[],s=>rfl
 |x::l,s=>by rw [foldl_cons,Lc l];rfl
theorem Lb:∀(l:List Seg) (s:Ses),(l.foldl CQ s).now=s.now
 |[],s=>rfl
 |x::l,s=>by rw [foldl_cons,Lb l];rfl
def rxG (g:Gh) (s:Ses) (x:Seg):Gh:={g with v5:=g.v5+(DZ s.rcv x).2.1.length}
structure RxP (P:Ses→Prop):Prop where
 dat:∀s,P s→Bs s.dat
 DZ:∀s f l,P s→s.dat.frames=f::l→f.arr=s.now→(DZ s.rcv f.seg).2.2=0∧Bud (DZ s.rcv f.seg).2.1.length (BF s)∧P (rxX (BF s) f.seg)
def rxT:Nat→Gh×Ses→Gh×Ses
 |0,q=>q
 |k+1,q=>match q.2.dat.frames with
  |[]=>q
  |f::_=>if f.arr=q.2.now then rxT k (rxG q.1 (BF q.2) f.seg,rxX (BF q.2) f.seg) else q
theorem QQ:∀(k:Nat) (q:Gh×Ses),(rxT k q).2=rxS k q.2
 |0,q=>rfl
 |k+1,q=>by
  unfold rxT rxS;cases q.2.dat.frames with
  |nil=>rfl
  |cons f l=>
   simp only;split
   ·exact QQ k _
   ·rfl
theorem Ey (s:Ses) (x:Seg):(rxX s x).dat=s.dat:=by
 unfold rxX rxF rxH;split
 ·show (List.foldl CQ _ _).dat=_;rw [Lc]
 ·rw [Lc]
theorem KA (s:Ses) (x:Seg):(rxX s x).now=s.now:=by
 unfold rxX rxF rxH;split
 ·show (List.foldl CQ _ _).now=_;rw [Lb]
 ·rw [Lb]
structure RS where
 g:Gh
 s:Ses
 v:Nat
 o:Option Seg
def RS.step (q:RS):Rd RS (Gh×Ses):=match q.o with
 |none =>.done (q.g,q.s)
 |some x =>.next ⟨rxG q.g q.s x,(DO (rxX q.s x)).1,q.v+1,(DO (rxX q.s x)).2⟩
def RS.res (q:RS):Gh×Ses:=match q.o with
 |none=>(q.g,q.s)
 |some x=>rxT q.s.dat.frames.length (rxG q.g q.s x,rxX q.s x)
def RS.inv (P:Ses→Prop) (q:RS):Prop:=Bs q.s.dat∧match q.o with
 |none=>True
 |some x=>(Ab.DZ q.s.rcv x).2.2=0∧Bud (Ab.DZ q.s.rcv x).2.1.length q.s∧P (rxX q.s x)
theorem RS.take {P:Ses→Prop} (hP:RxP P) {s:Ses} (h:P s) (g:Gh) (v:Nat):RS.inv P ⟨g,(DO s).1,v,(DO s).2⟩∧RS.res ⟨g,(DO s).1,v,(DO s).2⟩=rxT s.dat.frames.length (g,s):=by
 have hg:=hP.dat s h;unfold DO;cases hf:s.dat.frames with
 |nil=>exact ⟨⟨hg,trivial⟩,by simp [RS.res,rxT]⟩
 |cons f l=>
  simp only;split
  ·rename_i ha;obtain ⟨h1,h2,h3⟩:=hP.DZ s f l h hf ha;refine ⟨⟨Ej hg,h1,h2,h3⟩,?_⟩;simp only [RS.res,length_cons,rxT,hf,ha,if_true];have:(BF s).dat.frames.length=l.length:=by simp [BF,hf]
   rw [this]
  ·rename_i ha;refine ⟨⟨hg,trivial⟩,?_⟩;simp only [RS.res,length_cons,rxT,hf,ha,if_false]
theorem RS.sound {P:Ses→Prop} (hP:RxP P) (q q':RS) (h:q.inv P) (hs:q.step = .next q'):q'.inv P∧(q'.s.dat.frames.length+(if q'.o.isSome then 1 else 0)<q.s.dat.frames.length+(if q.o.isSome then 1 else 0)):=by
 obtain ⟨g,s,v,o⟩:=q;unfold RS.step at hs;cases o with
 |none=>cases hs
 |some x=>
  cases hs;refine ⟨(RS.take hP h.2.2.2 _ _).1,?_⟩;simp only [DO,Ey];cases hf:s.dat.frames with
  |nil=>simp [Ey,hf]
  |cons f l=>
   simp only;split
   ·simp [BF,Ey,hf]
   ·simp [Ey,hf]
theorem RS.fin {P:Ses→Prop} (hP:RxP P) (q:RS) (h:q.inv P):q.res=q.step.fin RS.res:=by
 obtain ⟨g,s,v,o⟩:=q;cases o with
 |none=>rfl
 |some x=>
  simp only [RS.step,Rd.fin];rw [(RS.take hP h.2.2.2 _ _).2,Ey];rfl
def FB (r:Rcv):AI :=.box [.t (tI r.ses),.t (tI r.tot),.t (.sl 2 (r.known.map Span.enc)),.t (.str r.data)]
theorem T0:∀(l:List Seg) (g:Gh) (s:Ses),l.foldl (fun (q:Gh×Ses) y=>({q.1 with v5:=q.1.v5+1},CQ q.2 y)) (g,s)=({g with v5:=g.v5+l.length},l.foldl CQ s)
 |[],g,s=>rfl
 |x::l,g,s=>by rw [foldl_cons,T0 l];simp only [length_cons,foldl_cons,add_assoc,add_comm 1]
def txT:Nat→Gh×Ses→Gh×Ses
 |0,q=>q
 |k+1,q=>match q.2.pend with
  |[]=>q
  |o::l=>if o.at_=q.2.now then txT k ({q.1 with v4:=q.1.v4+1,pre:=q.1.pre++[o.enc]},{EX q.2 o.seg with pend:=l}) else q
theorem QJ:∀(k:Nat) (q:Gh×Ses),(txT k q).2=txS k q.2
 |0,q=>rfl
 |k+1,q=>by
  unfold txT txS;cases q.2.pend with
  |nil=>rfl
  |cons o l=>
   simp only;split
   ·exact QJ k _
   ·rfl
structure ExOk (s:Ses):Prop where
 ent:s.entered<10000
 ack:s.snd.acked.length≤100
 pl:s.pend.length≤1000000
 w:s.snd.st=1→s.snd.due=s.now→(By s.snd s.now).2.2=0∧(By s.snd s.now).2.1.length≤1000000
structure XK (W P1 P2:Ses→Prop) (μ:Ses→Nat):Prop where
 rx:RxP P1
 ls:LsP P2
 nx:∀s,W s→s.entered<10000∧Bs s.dat∧Bs s.rep
 tx:∀s t,W s→nxS s=some t→Bud s.pend.length {s with now:=t}
 p1:∀s t,W s→nxS s=some t→P1 (ph1 s t)
 p2:∀s t,W s→nxS s=some t→P2 (ph2 s t)
 ex:∀s t,W s→nxS s=some t→ExOk (ph3 s t)
 st:∀s t,W s→nxS s=some t→W (stS s t)∧μ (stS s t)<μ s
def g1T (g:Gh) (s:Ses) (t:Int):Gh:=(txT s.pend.length (g,{s with now:=t})).1
def g2T (g:Gh) (s:Ses) (t:Int):Gh:=(rxT (ph1 s t).dat.frames.length (g1T g s t,ph1 s t)).1
def g3T (g:Gh) (s:Ses) (t:Int):Gh:=(lsT (ph2 s t).rep.frames.length (g2T g s t,ph2 s t)).1
def stT (q:Gh×Ses) (t:Int):Gh×Ses:=(exG (g3T q.1 q.2 t) (ph3 q.2 t),stS q.2 t)
def rnT:Nat→Gh×Ses→Gh×Ses
 |0,q=>q
 |k+1,q=>match nxS q.2 with
  |none=>q
  |some t=>rnT k (stT q t)
theorem QR:∀(k:Nat) (q:Gh×Ses),(rnT k q).2=Hr k q.2
 |0,q=>rfl
 |k+1,q=>by
  unfold rnT Hr;cases nxS q.2 with
  |none=>rfl
  |some t=>exact QR k _
theorem Gf {W P1 P2:Ses→Prop} {μ:Ses→Nat} (hR:XK W P1 P2 μ):∀(k:Nat) (q:Gh×Ses),W q.2→μ q.2≤k→rnT k q=rnT (μ q.2) q
 |0,q,h,hk=>by rw [show μ q.2=0 by omega]
 |k+1,q,h,hk=>by
  cases hn:nxS q.2 with
  |none=>
   cases hm:μ q.2 with
   |zero=>simp only [rnT,hn]
   |succ m=>simp only [rnT,hn]
  |some t=>
   obtain ⟨h1,h2⟩:=hR.st q.2 t h hn;cases hm:μ q.2 with
   |zero=>omega
   |succ m=>
    simp only [rnT,hn];rw [Gf hR k (stT q t) h1 (by simp only [stT];omega),← Gf hR m (stT q t) h1 (by simp only [stT];omega)]
theorem Tn {S R:Type} (B:S→(S→Option R)→Option R) (s0 s1 s2 s3 s4:S) (r:Option R) (n:Nat) (hn:5≤n) (h0:∀ag,B s0 ag=ag s1) (h1:∀ag,B s1 ag=ag s2) (h2:∀ag,B s2 ag=ag s3) (h3:∀ag,B s3 ag=ag s4) (h4:∀ag,B s4 ag=r):AH B n s0=r:=by
 obtain ⟨m,rfl⟩:∃m,n=m+5:=⟨n-5,by omega⟩
 show B s0 (AH B (m+4))=r;rw [h0];show B s1 (AH B (m+3))=r;rw [h1];show B s2 (AH B (m+2))=r;rw [h2];show B s3 (AH B (m+1))=r;rw [h3];show B s4 (AH B m)=r;rw [h4]
def ini (c:Con) (b e:Int) (d:ByteArray) (ps:List Int) (lim:Int) (dk:List Span):Ses:=
 ⟨⟨c.rng,[],0,0⟩,⟨c.rng,[],0,0⟩,ps,lim,dk,0,0,[],[],0,(Aq c 0 d b e).1,⟨0,-1,[],ByteArray.mk #[]⟩,(Aq c 0 d b e).2.1,false,0,false,0⟩
def Kf (c:Con) (b e:Int) (d:ByteArray) (ps:List Int) (lim:Int) (dk:List Span):Int:=
 if 1000<ps.length then 4 else if lim < -1 then 2 else if A8 dk≠0 then 1 else (Aq c 0 d b e).2.2
def IH (c:Con) (b e:Int) (d:ByteArray) (ps:List Int) (lim:Int) (dk:List Span):List Tree:=c.enc++[tI b,tI e,.str d,.sl 1 (ps.map Az),tI lim,.sl 2 (dk.map Span.enc)]
theorem PA {c:Con} {b e:Int} {d:ByteArray} (h:(Aq c 0 d b e).2.2=0):1≤c.rng∧c.rng≤1048576:=by
 unfold Aq at h;split at h
 ·simp [Bg] at h
 ·rename_i h1;have h1:HX c=0:=by simpa using h1
  obtain ⟨c1,c2⟩:=ED h1;unfold F1 at c1;omega
def Th (s:Ses):List Tree:=[.bool s.rcvd,tI s.arrive,.bool s.kno,tI s.knoAt,tI s.snd.busy,tI s.entered,tI (s.dat.lost+s.rep.lost),tI 0]
end Ab
set_option linter.unusedVariables false
set_option linter.unusedSimpArgs false
namespace Ab
open Go
structure Rw where
 snd:Snd
 rcv:Rcv
 dat:BL
 rep:BL
 v0:Nat
 p1:Nat
 p2:Nat
 picks:List Int
 limit:Int
 dark:List Span
 entered:Int
 dist:Int
 rcvd:Bool
 arrive:Int
 kno:Bool
 knoAt:Int
 v4:Nat
 n4:Nat
 v5:Nat
 n5:Nat
def rwO (g:Gh) (s:Ses):Rw:=⟨s.snd,s.rcv,s.dat,s.rep,g.v0,g.pre.length,s.pend.length,s.picks,s.limit,s.dark,s.entered,s.dist,s.rcvd,s.arrive,s.kno,s.knoAt,g.v4,s.sent.length,g.v5,s.told.length⟩
def Tk (l:List Int):Option Int:=l.foldl (fun o x=>C5 o (some x)) none
def F4:Option Int→List Int
 |none=>[]
 |some a=>[a]
theorem minL_nx (a b c d:Option Int):Tk (((F4 a++F4 b)++F4 c)++F4 d)=C5 (C5 (C5 a b) c) d:=by cases a<;>cases b<;>cases c<;>cases d<;>rfl
def chB (c:BL):AI :=.box [.t (tI c.rng),.t (.sl 10 (c.frames.map Frame.enc)),.t (tI c.sent),.t (tI c.lost)]
theorem Xx (s:Ses) (x:Seg):rxF (CQ s x)=CQ (rxF s) x:=by
 unfold rxF;by_cases h:s.rcvd=false∧A1 s.rcv=true
 ·rw [if_pos h,if_pos (by exact h)];rfl
 ·rw [if_neg h,if_neg (by exact h)]
theorem Ro:∀(l:List Seg) (s:Ses),rxF (l.foldl CQ s)=l.foldl CQ (rxF s)
 |[],s=>rfl
 |x::l,s=>by rw [foldl_cons,Ro l,foldl_cons,Xx]
theorem Xv (s:Ses) (x:Seg):rxX s x=(DZ s.rcv x).2.1.foldl CQ (rxF {s with rcv:=(DZ s.rcv x).1}):=by unfold rxX rxH;rw [Ro]
structure RxQ (P:Ses→Prop):Prop where
 p:RxP P
 rv:∀s,P s→s.rcvd=A1 s.rcv∧s.snd.c.rng=s.rep.rng
def rx1 (q:Gh×Ses):Rd (Gh×Ses) (Gh×Ses):=
 match q.2.dat.frames with
 |[]=>.done q
 |f::_=>if f.arr=q.2.now then .next (rxG q.1 (BF q.2) f.seg,rxX (BF q.2) f.seg) else .done q
theorem rx1_ok {P:Ses→Prop} (hP:RxQ P) {t:Int} {q q':Gh×Ses} (h:P q.2∧q.2.now=t) (hs:rx1 q = .next q'):(P q'.2∧q'.2.now=t)∧q'.2.dat.frames.length<q.2.dat.frames.length:=by
 unfold rx1 at hs;cases hf:q.2.dat.frames with
 |nil=>rw [hf] at hs;cases hs
 |cons f l=>
  rw [hf] at hs;simp only at hs;split at hs
  ·rename_i ha;cases hs;refine ⟨⟨(hP.p.DZ q.2 f l h.1 hf ha).2.2,(KA _ _).trans h.2⟩,?_⟩;simp only [Ey];simp [BF,hf]
  ·cases hs
theorem rx1_fin (q:Gh×Ses):rxT q.2.dat.frames.length q=(rx1 q).fin fun q=>rxT q.2.dat.frames.length q:=by
 unfold rx1;cases hf:q.2.dat.frames with
 |nil=>simp [rxT,Rd.fin]
 |cons f l=>
  simp only [length_cons,rxT,hf];split
  ·simp only [Rd.fin,Ey];have:(BF q.2).dat.frames.length=l.length:=by simp [BF,hf]
   rw [this]
  ·simp [Rd.fin,rxT,hf, *]
structure LsQ (P:Ses→Prop):Prop where
 p:LsP P
 kn:∀s f l,P s→s.rep.frames=f::l→f.arr=s.now→¬s.now<s.snd.busy→((s.kno=false∧(Ay s.snd s.now f.seg).1.st=2)↔(s.snd.st=1∧(Ay s.snd s.now f.seg).1.st=2))
def ls1 (q:Gh×Ses):Rd (Gh×Ses) (Gh×Ses):=
 match q.2.rep.frames with
 |[]=>.done q
 |f::_=>if f.arr=q.2.now then .next (lsG q.1 (B8 q.2),lsX (B8 q.2) f.seg) else .done q
theorem ls1_ok {P:Ses→Prop} (hP:LsQ P) {t:Int} {q q':Gh×Ses} (h:P q.2∧q.2.now=t) (hs:ls1 q = .next q'):(P q'.2∧q'.2.now=t)∧q'.2.rep.frames.length<q.2.rep.frames.length:=by
 unfold ls1 at hs;cases hf:q.2.rep.frames with
 |nil=>rw [hf] at hs;cases hs
 |cons f l=>
  rw [hf] at hs;simp only at hs;split at hs
  ·rename_i ha;cases hs;refine ⟨⟨(hP.p.DZ q.2 f l h.1 hf ha).2.2,(Va _ _).trans h.2⟩,?_⟩;simp only [Gq];simp [B8,hf]
  ·cases hs
theorem ls1_fin (q:Gh×Ses):lsT q.2.rep.frames.length q=(ls1 q).fin fun q=>lsT q.2.rep.frames.length q:=by
 unfold ls1;cases hf:q.2.rep.frames with
 |nil=>simp [lsT,Rd.fin]
 |cons f l=>
  simp only [length_cons,lsT,hf];split
  ·simp only [Rd.fin,Gq];have:(B8 q.2).rep.frames.length=l.length:=by simp [B8,hf]
   rw [this]
  ·simp [Rd.fin,lsT,hf, *]
theorem Uu:∀(k:Nat) (s:Ses),(txS k s).now=s.now
 |0,s=>rfl
 |k+1,s=>by
  unfold txS;cases s.pend with
  |nil=>rfl
  |cons o l=>
   simp only;split
   ·rw [Uu k];rfl
   ·rfl
theorem U7:∀(k:Nat) (s:Ses),(rxS k s).now=s.now
 |0,s=>rfl
 |k+1,s=>by
  unfold rxS;cases s.dat.frames with
  |nil=>rfl
  |cons f l=>
   simp only;split
   ·rw [U7 k,KA];rfl
   ·rfl
theorem Vb:∀(k:Nat) (s:Ses),(lsS k s).now=s.now
 |0,s=>rfl
 |k+1,s=>by
  unfold lsS;cases s.rep.frames with
  |nil=>rfl
  |cons f l=>
   simp only;split
   ·rw [Vb k,Va];rfl
   ·rfl
structure ZT (W P1 P2:Ses→Prop) (μ:Ses→Nat):Prop where
 p:XK W P1 P2 μ
 rx:RxQ P1
 ls:LsQ P2
 tx:∀s,W s→s.snd.c.rng=s.dat.rng
def Tg (s:Ses):List Tree:=[.bool s.rcvd,tI s.arrive,.bool s.kno,tI s.knoAt,tI s.snd.busy,tI s.entered,tI (w64 (s.dat.lost+s.rep.lost)),tI 0]
end Ab
set_option linter.unusedVariables false
set_option linter.unusedSimpArgs false
namespace Ab
open Go
theorem Bat.Bo {d:ByteArray} {ses ser:Int} {l:List Seg} (h:Bat d ses ser l):Bat d ses ser (Bo l):=by obtain ⟨pre,x,rfl,h1,h2⟩:=h.ex;rw [F5];exact ⟨⟨[],x,rfl,h1,fun y hy=>by cases hy⟩,by simp;omega⟩
theorem Bat.AZ {d:ByteArray} {ses ser:Int} {l:List Seg} (h:Bat d ses ser l):∀x∈l,x.AZ=[]:=by
 obtain ⟨pre,x,rfl,h1,h2⟩:=h.ex;intro y hy;rcases mem_append.1 hy with hy|hy
 ·exact (h2 y hy).cl
 ·rw [mem_singleton] at hy;subst hy;exact h1.cl
theorem PJ (r:Int):∀(l:List Seg) (t:Int),(Bq r t l).map Out.seg=l
 |[],t=>rfl
 |x::l,t=>by simp only [Bq,map_cons,PJ r l]
def FewO (o:List Out):Prop:=o.length≤1000000∧∀x∈o,x.seg.AZ.length≤1000000
theorem Qw {s:Snd} (h:FT s=0) (hf:fits s=true):Fj s=0:=by unfold Fj;rw [if_neg (fun f=>f h),if_pos hf]
theorem Vu {s:Snd} (h:FT s=0):Fj (CJ s)=0:=by refine Qw h ?_;unfold fits CJ;simp
theorem U1 {s:Snd} {t ser:Int} (h:FT s=0) (hc:complete s=false) (ht:s.c.start≤t∧t≤s.fin) (hr:1≤ser∧ser≤1099511627776):Fj (BU s t ser)=0:=by
 refine Qw ?_ ?_
 ·obtain ⟨c1,c2,c3⟩:=DJ h;unfold Cu at c2;have a1:Cu (BU s t ser):=by unfold Cu BU;simp only;omega
  have a2:Ma (BU s t ser):=c3;have a0:HX (BU s t ser).c=0:=c1;unfold FT;rw [if_neg (fun f=>f a0),if_neg (fun f=>f a1),if_neg (fun f=>f a2)]
 ·unfold fits;refine decide_eq_true (.inl ⟨rfl,hc,rfl⟩)
theorem done_ok {s:Snd} (h:FT s=0) (hc:complete s=true):Fj {s with due:=0,st:=2}=0:=by refine Qw h ?_;unfold fits;exact decide_eq_true (.inr (.inl ⟨rfl,hc,rfl⟩))
structure Step (s p:Snd) (o:List Out):Prop where
 ok:Fj p=0
 few:p.acked.length≤s.acked.length+100
 data:p.data=s.data
 acc:∀t,Ac t s.acked→Ac t p.acked
 ser:s.ser≤p.ser
 busy:s.busy≤p.busy
 still:s.st=1∨o=[]∧p=s
 next:o=[]∨p.ser=s.ser+1
 fewO:FewO o
end Ab
set_option linter.unusedVariables false
set_option linter.unusedSimpArgs false
namespace Ab
open Go
theorem FY (k:Nat):(Bw k).length=k:=by simp [Bw]
theorem Nr {l:List UInt8} {i:Nat} (h:l.length≤i):l.getD i 0=0:=by simp [List.getD,getElem?_eq_none h]
theorem TK (k i:Nat):(Bw k).getD i 0=0:=by
 by_cases h:i<k
 ·simp [Bw,List.getD,List.getElem?_replicate,h]
 ·exact Nr (by simp [Bw];omega)
theorem SI {r:Rcv} {x:Seg} (h1:r.data.size≤x.tot.toNat) (h2:x.off.toNat+x.data.size≤x.tot.toNat):(Co r x).length=x.tot.toNat:=by
 have l1:(Ds (Bw x.tot.toNat) 0 (bl r.data)).length=x.tot.toNat:=by rw [DY _ _ _ (by rw [A6,FY];omega),FY]
 unfold Co;rw [DY _ _ _ (by rw [A6,l1];omega),l1]
theorem SJ {r:Rcv} {x:Seg} (h1:r.data.size≤x.tot.toNat) (h2:x.off.toNat+x.data.size≤x.tot.toNat) (i:Nat) :
  (Co r x).getD i 0=if x.off.toNat≤i∧i<x.off.toNat+x.data.size then (bl x.data).getD (i-x.off.toNat) 0 else (bl r.data).getD i 0:=by
 have l1:(Ds (Bw x.tot.toNat) 0 (bl r.data)).length=x.tot.toNat:=by rw [DY _ _ _ (by rw [A6,FY];omega),FY]
 unfold Co;rw [J8 _ _ _ (by rw [A6,l1];omega),J8 _ _ _ (by rw [A6,FY];omega),A6,A6];split
 ·rfl
 ·split
  ·rw [Nat.sub_zero]
  ·rw [TK,Nr (by rw [A6];omega)]
theorem Vt {r:Rcv} {x:Seg} (hr:DI r=0) (hx:B5 x=0) (hs:DP r x=true):r.data.size≤x.tot.toNat∧x.off.toNat+x.data.size≤x.tot.toNat:=by obtain ⟨g1,g2,g3,g4,g5,g6,g7⟩:=Cx hx (Cw.1 hs).1;exact ⟨(size_le hr hx hs).1,by omega⟩
theorem Ye {x:Seg} {t:Int}:Ac t [sp x]↔x.off≤t∧t<x.off+x.data.size:=by simp only [Ac,or_false];rfl
theorem KU {r:Rcv} {x:Seg} (hs:DP r x=true) (t:Int):Ac t (CW r x).known↔Ac t r.known∨(x.off≤t∧t<x.off+x.data.size):=by rw [← Ye];exact (Hb (Cw.1 hs).2.2.2.2).2.2.2.2 t
theorem SG {r:Rcv} {x:Seg} (hr:DI r=0) (hx:B5 x=0) (hs:DP r x=true) (i:Nat) :
  (bl (CW r x).data).getD i 0=if x.off.toNat≤i∧i<x.off.toNat+x.data.size then (bl x.data).getD (i-x.off.toNat) 0 else (bl r.data).getD i 0:=by
 show (bl (mkB (Co r x))).getD i 0=_;rw [MT];exact SJ (Vt hr hx hs).1 (Vt hr hx hs).2 i
theorem Wi {r:Rcv} {x:Seg} (hr:DI r=0) (hx:B5 x=0) (hs:DP r x=true):(CW r x).data.size=x.tot.toNat:=by show (mkB (Co r x)).size=_;rw [Io];exact SI (Vt hr hx hs).1 (Vt hr hx hs).2
theorem NR {r:Rcv} {x:Seg} (hr:DI r=0) (hx:B5 x=0) (hs:DP r x=true):DI (CW r x)=0:=by
 obtain ⟨h1,h2,h3,h4,h5⟩:=Cw.1 hs;obtain ⟨g1,g2,g3,g4,g5,g6,g7⟩:=Cx hx h1;obtain ⟨c1,c2,c3,c4⟩:=Cj hr;obtain ⟨w1,w2⟩:=MD hr hx hs;obtain ⟨u1,u2,u3,u4,u5⟩:=Hb h5;have a1:Oy (CW r x):=⟨c1.1,.inr ⟨g1,g2⟩⟩
 have a2:KnR (CW r x):=by refine ⟨u4,⟨fun h=>(w2 h).elim,fun h => ?_⟩,(B4 u4).2 w1⟩;have:x.tot = -1:=h;omega
 have a3:((CW r x).data.size:Int)=HT (CW r x).tot:=by rw [Wi hr hx hs];show ((x.tot.toNat:Nat):Int)=HT x.tot;unfold HT;rw [if_neg (by omega)];omega
 have a4:ON (CW r x):=by
  intro i hi hi0;rw [SG hr hx hs] at hi0;rw [KU hs];split at hi0
  ·right;omega
  ·left;refine c4 i ?_ hi0;rw [← A6];rcases lt_or_ge i (bl r.data).length with h|h
   ·exact h
   ·exact (hi0 (Nr h)).elim
 unfold DI;rw [if_neg (not_not_intro a1),if_neg (not_not_intro a2),if_neg (not_not_intro a3),if_pos a4]
theorem Qi {r:Rcv} {x:Seg} (hr:DI r=0) (hx:B5 x=0):DZ r x=if DP r x=true then (CW r x,if x.chk=true then [CG r x] else [],0) else (r,[],0):=by
 unfold DZ;rw [if_neg (not_not_intro ⟨hr,hx⟩)];by_cases hs:DP r x=true
 ·rw [if_neg (by rw [hs];decide),if_pos hs]
 ·rw [if_pos (by simpa using hs),if_neg hs]
theorem Tx {r:Rcv} {x:Seg} (hr:DI r=0) (hx:B5 x=0):DI (DZ r x).1=0:=by
 rw [Qi hr hx];split
 ·rename_i hs;exact NR hr hx hs
 ·exact hr
theorem Nd {r:Rcv} {x:Seg} (hr:DI r=0) (hx:B5 x=0) (hc:A1 r=true):A1 (DZ r x).1=true:=by
 have hv:=Tx hr hx;unfold A1 at hc ⊢;rw [decide_eq_true_eq] at hc ⊢;refine ⟨hv,?_⟩;rw [Qi hr hx] at hv ⊢;split
 ·rename_i hs;rw [if_pos hs] at hv;obtain ⟨h1,h2,h3,h4,h5⟩:=Cw.1 hs;obtain ⟨g1,g2,g3,g4,g5,g6,g7⟩:=Cx hx h1;obtain ⟨c1,c2,c3,c4⟩:=Cj hr;obtain ⟨d1,d2,d3,d4⟩:=Cj hv;have ht:r.tot ≠ -1:=fun h=>by have:=c2.2.1.2 h;rw [this] at hc;cases hc.2
  have htt:x.tot=r.tot:=by rcases h3 with h|h;exact (ht h).elim;exact h
  show (CW r x).known=[⟨0,x.tot⟩];refine Dk ((Aj _).1 d2.1).2.1 (b' := -1) ⟨by show (-1:Int)<0;decide,by show (0:Int)<x.tot;omega,trivial⟩ fun t => ?_;rw [KU hs,hc.2];simp only [Ac,or_false];omega
 ·exact hc.2
end Ab
set_option linter.unusedVariables false
set_option linter.unusedSimpArgs false
namespace Ab
open Go
def EW (D:ByteArray) (x:Seg):Prop:=B5 x=0∧x.kind=1∧x.ses=0∧x.tot=D.size∧∀i,i<x.data.size→(bl x.data).getD i 0=(bl D).getD (x.off.toNat+i) 0
def Cov (l:List Seg) (t:Int):Prop:=∃x∈l,x.off≤t∧t<x.off+x.data.size
def R0:Rcv:=⟨0,-1,[],ByteArray.mk #[]⟩
structure Hd (D:ByteArray) (r:Rcv) (l:List Seg):Prop where
 ok:DI r=0
 ses:r.ses=0
 tot:r.tot=if l=[] then -1 else (D.size:Int)
 mem:∀t,Ac t r.known↔Cov l t
 get:∀i:Nat,Cov l (i:Int)→(bl r.data).getD i 0=(bl D).getD i 0
theorem Xh (D:ByteArray):Hd D R0 []:=⟨by decide,rfl,rfl,fun t=>⟨fun h=>h.elim,fun ⟨x,h,_⟩=>by cases h⟩,fun i ⟨x,h,_⟩=>by cases h⟩
theorem Sm {l:List Seg} {x:Seg} {t:Int}:Cov (l++[x]) t↔Cov l t∨(x.off≤t∧t<x.off+x.data.size):=by
 unfold Cov;constructor
 ·rintro ⟨y,hy,h⟩
  rcases mem_append.1 hy with hy|hy
  ·exact .inl ⟨y,hy,h⟩
  ·simp only [mem_singleton] at hy;subst hy;exact .inr h
 ·rintro (⟨y,hy,h⟩|h)
  ·exact ⟨y,List.mem_append_left _ hy,h⟩
  ·exact ⟨x,by simp,h⟩
theorem Gk {D:ByteArray} {x:Seg} (hx:EW D x):0≤x.off∧1≤x.data.size∧x.off+x.data.size≤D.size∧x.data.size≤16:=by obtain ⟨g1,g2,g3,g4,g5,g6,g7⟩:=Cx hx.1 hx.2.1;have:=hx.2.2.2.1;omega
theorem cov_in {D:ByteArray} {l:List Seg} (hl:∀x∈l,EW D x) {t:Int} (h:Cov l t):0≤t∧t<D.size:=by obtain ⟨x,hx,h1,h2⟩:=h;have:=Gk (hl x hx);omega
theorem Mv {D:ByteArray} {r:Rcv} {l:List Seg} {x:Seg} (h:Hd D r l) (hl:∀x∈l,EW D x) (hx:EW D x) (hD:D.size≤900):DP r x=true:=by
 obtain ⟨c1,c2,c3,c4⟩:=Cj h.ok;obtain ⟨b1,b2,b3,b4⟩:=Gk hx;refine Cw.2 ⟨hx.2.1,by rw [hx.2.2.1,h.ses],?_,fun i hi hm => ?_,?_⟩
 ·rw [h.tot,hx.2.2.2.1];by_cases hn:l=[]
  ·left;rw [if_pos hn]
  ·right;rw [if_neg hn]
 ·have:=h.get (x.off.toNat+i) (by rw [show ((x.off.toNat+i:Nat):Int)=x.off+(i:Int) by omega];exact (h.mem _).1 hm);rw [this,hx.2.2.2.2 i hi]
 ·have hs:A8 [sp x]=0:=by
   rw [Aj];refine ⟨by simp,⟨?_,?_,trivial⟩,fun y hy => ?_⟩
   ·show -1152921504606846977<x.off;omega
   ·show x.off<x.off+x.data.size;omega
   ·simp only [mem_singleton] at hy;subst hy;show x.off+x.data.size≤_;omega
  obtain ⟨u1,u2⟩:=Jz ((Aj _).1 c2.1).2.1 ((Aj _).1 hs).2.1;have hin:∀t,Ac t (uni r.known [sp x])→0≤t∧t<D.size:=fun t m=>by
   rcases (u2 t).1 m with m|m
   ·exact cov_in hl ((h.mem t).1 m)
   ·rw [Ye] at m;omega
  have hw:=Gn u1 hin;have hlen:((uni r.known [sp x]).length:Int)≤D.size-(-1):=by
   refine W6 (b := -1) ?_ (by omega) (fun y hy=>(hw y hy).2);cases hu:uni r.known [sp x] with
   |nil=>trivial
   |cons y l'=>
    rw [hu] at u1 hw;exact ⟨by have:=(hw y List.mem_cons_self).1;omega,u1.2.1,u1.2.2⟩
  unfold DB;rw [if_pos ⟨c2.1,hs⟩,if_neg (by omega)]
theorem st_next {D:ByteArray} {r:Rcv} {l:List Seg} {x:Seg} (h:Hd D r l) (hl:∀x∈l,EW D x) (hx:EW D x) (hD:D.size≤900):Hd D (CW r x) (l++[x]):=by
 have hs:=Mv h hl hx hD;obtain ⟨b1,b2,b3,b4⟩:=Gk hx;refine ⟨NR h.ok hx.1 hs,h.ses,?_,fun t => ?_,fun i hi => ?_⟩
 ·rw [if_neg (by simp)];exact hx.2.2.2.1
 ·rw [KU hs,h.mem,Sm]
 ·rw [SG h.ok hx.1 hs];split
  ·rename_i hr;rw [hx.2.2.2.2 _ (by omega),show x.off.toNat+(i-x.off.toNat)=i by omega]
  ·rename_i hr;rcases Sm.1 hi with hc|hc
   ·exact h.get i hc
   ·omega
theorem st_hear {D:ByteArray} {r:Rcv} {l:List Seg} {x:Seg} (h:Hd D r l) (hl:∀x∈l,EW D x) (hx:EW D x) (hD:D.size≤900):DZ r x=(CW r x,if x.chk=true then [CG r x] else [],0):=by rw [Qi h.ok hx.1,if_pos (Mv h hl hx hD)]
end Ab
set_option linter.unusedVariables false
set_option linter.unusedSimpArgs false
namespace Ab
open Go
theorem WX {d:ByteArray} {p:Int×Int} (h:0≤p.1∧p.1<p.2∧p.2≤d.size) (i:Nat) (hi:i<(raw d 0 p).data.size):(bl (raw d 0 p).data).getD i 0=(bl d).getD ((raw d 0 p).off.toNat+i) 0:=by
 have hs:(raw d 0 p).data.size=p.2.toNat-p.1.toNat:=by simp only [raw,size_extract];omega
 rw [hs] at hi;show (bl (d.extract p.1.toNat p.2.toNat)).getD i 0=(bl d).getD (p.1.toNat+i) 0;rw [El];simp [getD_eq_getElem?_getD,getElem?_take,hi,getElem?_drop]
structure OO (d:ByteArray) (x:Seg):Prop where
 pc:EW d x
 sr:x.chk=false→x.ser=0
 cl:x.AZ=[]
theorem WV {d:ByteArray} {l:List Span} (h:Ls l d.size) (hd:1≤d.size∧d.size≤65536):∀x∈GM d 0 l,OO d x∧x.chk=false:=by intro x hx;have hp:=NH (ses:=0) h x hx;unfold GM at hx;obtain ⟨y,hy,hx⟩:=mem_flatMap.1 hx;obtain ⟨p,hpm,rfl⟩:=mem_map.1 hx;have h1:=h y hy;have h2:=Qs _ y.fro y.to (le_refl _) p hpm;exact ⟨⟨⟨YP hp (by omega) hd,hp.kind,hp.ses_,hp.tot,fun i hi=>WX (by omega) i hi⟩,fun _=>rfl,rfl⟩,rfl⟩
theorem Wk {d:ByteArray} {x:Seg} {ser:Int} (h:OO d x) (hc:x.chk=false) (hr:1≤ser∧ser≤1099511627776):OO d {x with ser:=ser,chk:=true}:=by
 obtain ⟨⟨h1,h2,h3,h4,h5⟩,h6,h7⟩:=h;obtain ⟨k1,k2,k3⟩:=EC h1;refine ⟨⟨?_,h2,h3,h4,h5⟩,fun f=>(by cases f),h7⟩;have n:Bp {x with ser:=ser,chk:=true}:=by unfold Bp at k2 ⊢;have q:=k2.2.2.2 h2;exact ⟨k2.1,fun f=>absurd (h2.symm.trans f) (by decide),fun f=>absurd (h2.symm.trans f) (by decide),fun _=>⟨q.1,q.2.1,fun _=>hr,fun f=>by cases f⟩⟩
 have c:CM {x with ser:=ser,chk:=true}:=by unfold CM at k3 ⊢;exact ⟨fun f=>absurd (h2.symm.trans f) (by decide),fun f=>absurd (h2.symm.trans f) (by decide),fun _=>k3.2.2 h2⟩
 unfold B5;rw [if_neg (fun f=>f k1),if_neg (fun f=>f n),if_neg (fun f=>f c)]
structure K9 (d:ByteArray) (ser:Int) (l:List Seg):Prop where
 ex:∃pre x,l=pre++[x]∧x.chk=true∧x.ser=ser∧∀y∈pre,y.chk=false
 pc:∀x∈l,OO d x
 len:(l.length:Int)≤d.size+1
theorem batP {ser:Int} {d:ByteArray} {l:List Span} (h:HY 0 ser d l=0):K9 d ser (CY 0 ser d l):=by
 have hb:=IF h;have h0:=h;unfold HY at h0;split at h0
 ·cases h0
 split at h0
 ·cases h0
 split at h0
 ·cases h0
 split at h0
 ·cases h0
 split at h0
 ·cases h0
 rename_i k1 k2 k3 k4 k5;have k4:inside l d.size=true:=by simpa using k4
 obtain ⟨g1,g2⟩:=Is k4;have hn:=VS (ses:=0) g1 k5;obtain ⟨pre,x,hx⟩:∃pre x,GM d 0 l=pre++[x]:=⟨_,_,(List.dropLast_concat_getLast hn).symm⟩
 have hp:=WV g1 (by omega);rw [hx] at hp;have e:CY 0 ser d l=pre++[{x with ser:=ser,chk:=true}]:=by unfold CY;rw [if_pos h,hx,Fv]
 have hx2:=hp x (by simp);refine ⟨⟨pre,_,e,rfl,rfl,fun y hy=>(hp y (by simp [hy])).2⟩,?_,hb.len⟩;rw [e];intro y hy;rcases mem_append.1 hy with hy|hy
 ·exact (hp y (by simp [hy])).1
 ·rw [mem_singleton] at hy;subst hy;exact Wk hx2.1 hx2.2 (by omega)
theorem K9.last {d:ByteArray} {ser:Int} {l:List Seg} (h:K9 d ser l):K9 d ser (Bo l):=by obtain ⟨⟨pre,x,rfl,h1,h2,h3⟩,h4,h5⟩:=h;rw [F5];exact ⟨⟨[],x,rfl,h1,h2,fun y hy=>by cases hy⟩,fun y hy=>h4 y (by simp at hy;simp [hy]),by simp;omega⟩
theorem OO.Cv {d:ByteArray} {x:Seg} (h:OO d x) {r:Int} (hr:1≤r∧r≤1000):Cv r x=((x.data.size:Int)+7+r) / r∧1≤Cv r x:=by
 have h1:=h.pc.1;have h2:=h.pc.2.1;have e:Ab.Cv r x=((x.data.size:Int)+7+r) / r:=by unfold Ab.Cv;rw [if_pos ⟨h1,hr.1,hr.2,h2⟩]
 refine ⟨e,?_⟩;rw [e,Int.le_ediv_iff_mul_le (by omega)];omega
theorem PI {r:Int}:∀(l:List Seg) (t:Int),(∀x∈l,1≤Cv r x)→
  (Bq r t l).Pairwise (fun a b=>a.at_<b.at_)∧(∀o∈Bq r t l,t<o.at_∧o.at_≤A4 r t l∧o.seg∈l)∧t+(l.length:Int)≤A4 r t l
 |[],t,h=>⟨List.Pairwise.nil,(fun o ho=>by cases ho),by simp [A4]⟩
 |x::l,t,h=>by
  have hx:=h x (by simp);obtain ⟨h1,h2,h3⟩:=PI l (t+Cv r x) (fun y hy=>h y (by simp [hy]));refine ⟨?_,?_,?_⟩
  ·simp only [Bq,pairwise_cons];exact ⟨fun o ho=>(h2 o ho).1,h1⟩
  ·intro o ho;simp only [Bq,mem_cons] at ho;have hE:=Kg r l (t+Cv r x);rcases ho with rfl|ho
   ·exact ⟨by simp only;omega,by simp only [A4];omega,by simp⟩
   ·have:=h2 o ho;exact ⟨by omega,by simp only [A4];omega,by simp [this.2.2]⟩
  ·simp only [A4,length_cons];omega
end Ab
set_option linter.unusedVariables false
set_option linter.unusedSimpArgs false
namespace Ab
open Go
theorem UF {l:List Span}:∀{b n:Int},Canon b l→b<n→(∀x∈l,x.to≤n)→2*(l.length:Int)≤n-b:=by
 induction l with
 |nil=>intro b n _ h _;simp;omega
 |cons x l ih=>
  intro b n h hb ht;have h1:=h.1;have h2:=h.2.1;have h3:=ht x (by simp);simp only [length_cons];by_cases he:x.to<n
  ·have:=ih h.2.2 he (fun y hy=>ht y (by simp [hy]));omega
  ·cases l with
   |nil=>simp;omega
   |cons y l=>
    have:=h.2.2.1;have:=h.2.2.2.1;have:=ht y (by simp);omega
theorem Ny {l:List Span} {n:Int} (h:A8 l=0) (hw:BZ l n) (hn:0≤n∧n≤120):l.length≤60:=by have hc:=((Aj _).1 h).2.1;have:=UF (n:=n) (N5 hc hw) (by omega) (fun x hx=>(hw x hx).2);omega
structure Par where
 c:Con
 b:Int
 e:Int
 d:ByteArray
 ps:List Int
 lim:Int
 dk:List Span
structure POk (p:Par):Prop where
 con:HX p.c=0
 t:p.c.start≤p.b∧p.b≤p.e∧p.e≤p.c.fin
 sz:1≤p.d.size∧p.d.size≤120
 pk:∀x∈p.ps,-9223372036854775808≤x∧x≤9223372036854775807
 pl:p.ps.length≤1000
 bud:∀k:Int,1≤k→p.b+1+(k-1)*(2*p.c.rng+1)≤p.e→(((p.d.size:Int)+1)*k+2*k≤4990∨(p.e-p.b)+2*k≤4990)
theorem POk.rng {p:Par} (h:POk p):1≤p.c.rng∧p.c.rng≤1048576∧1≤p.c.rate∧p.c.rate≤1000∧0≤p.b∧p.b≤p.e∧p.e≤1099511627776-2*p.c.rng∧0≤p.c.loss∧p.c.loss≤16:=by obtain ⟨c1,c2⟩:=ED h.con;unfold F1 at c1;have:=h.t;omega
structure Kv (d:ByteArray) (x:Seg):Prop where
 g:B5 x=0
 kind:x.kind=2
 ses:x.ses=0
 tot:x.tot=d.size
theorem Kv.cl {d:ByteArray} {x:Seg} (h:Kv d x):A8 x.AZ=0∧BZ x.AZ d.size:=by obtain ⟨k1,k2,k3⟩:=EC h.g;unfold CM at k3;have hi:=(k3.2.1 h.kind).2.2;unfold inside at hi;have hi:=of_decide_eq_true hi;exact ⟨hi.1,h.tot ▸ (B4 hi.1).1 hi.2⟩
theorem Kv.few {d:ByteArray} {x:Seg} (h:Kv d x) (hd:d.size≤120):x.AZ.length≤60:=Ny h.cl.1 h.cl.2 (by omega)
structure Lt (p:Par) (s:Snd):Prop where
 c:s.c=p.c
 ses:s.ses=0
 data:s.data=p.d
 fin:s.fin=p.e
 ok:Fj s=0
 t:p.b+1+(s.ser-1)*(2*p.c.rng+1)≤s.busy
theorem Lt.fo {p:Par} {s:Snd} (hp:POk p) (h:Lt p s):FOk s∧s.acked.length≤60:=by have hf:=(Lj h.ok).1;obtain ⟨c1,c2,c3⟩:=DJ hf;have hw:=(B4 c3.1).1 c3.2;have hsz:=hp.sz;have:=Ny c3.1 hw (by rw [h.data];omega);exact ⟨⟨hf,by omega⟩,this⟩
theorem Lt.num {p:Par} {s:Snd} (hp:POk p) (h:Lt p s):p.c.start≤s.busy∧s.busy≤p.e∧1≤s.ser∧s.ser<1099511627776∧p.b+1≤s.busy∧(s.ser-1)≤s.busy-p.b-1:=by have hn:=(h.fo hp).1.num;have hr:=hp.rng;have ht:=h.t;have hc:=h.c;have hfin:=h.fin;rw [hc] at hn;have h0:(s.ser-1)*1≤(s.ser-1)*(2*p.c.rng+1):=Int.mul_le_mul_of_nonneg_left (by omega) (by omega);omega
structure Inv (p:Par) (s:Ses):Prop where
 rd:s.dat.rng=p.c.rng
 rr:s.rep.rng=p.c.rng
 ps:s.picks=p.ps
 lim:s.limit=p.lim
 dk:s.dark=p.dk
 gd:Bs s.dat
 gr:Bs s.rep
 now:0≤s.now
 sn:Lt p s.snd
 rc:∃hl,Hd p.d s.rcv hl∧∀x∈hl,EW p.d x
 fd:∀f∈s.dat.frames,OO p.d f.seg∧f.seg.ser≤s.snd.ser∧s.now≤f.arr∧f.arr≤p.e+2*p.c.rng∧(f.seg.chk=true→f.seg.ser=s.snd.ser→s.snd.busy+p.c.rng≤f.arr)
 fr:∀f∈s.rep.frames,Kv p.d f.seg∧f.seg.ser≤s.snd.ser∧s.now≤f.arr∧f.arr≤p.e+4*p.c.rng∧(f.seg.ser=s.snd.ser→s.snd.busy+2*p.c.rng≤f.arr)
 pd:∀o∈s.pend,OO p.d o.seg∧s.now≤o.at_∧o.at_≤s.snd.busy∧o.seg.ser≤s.snd.ser∧(o.seg.chk=true→o.at_=s.snd.busy)
 po:s.pend.Pairwise (fun a b=>a.at_<b.at_)
 du:s.snd.st=1→s.now≤s.snd.due
 c1:s.entered=s.dat.sent+s.rep.sent
 c2:s.dat.sent=s.sent.length
 c3:s.rep.sent=s.told.length
 c4:(s.sent.length:Int)+s.pend.length≤s.snd.busy-p.b
 c5:(s.sent.length:Int)+s.pend.length≤((p.d.size:Int)+1)*s.snd.ser
 c6:(s.told.length:Int)+s.dat.frames.countP (fun f=>f.seg.chk)+2*s.pend.countP (fun o=>o.seg.chk)≤2*s.snd.ser
 l1:(s.dat.frames.length:Int)≤2*s.dat.sent
 l2:(s.rep.frames.length:Int)≤2*s.rep.sent
 ds:0≤s.dist∧s.dist≤s.entered
 kn:s.kno=true↔s.snd.st=2
 rv:s.rcvd=A1 s.rcv
def PGt (s:Ses):Prop:=∀o∈s.pend,s.now<o.at_
def DGt (s:Ses):Prop:=∀f∈s.dat.frames,s.now<f.arr
def RGt (s:Ses):Prop:=∀f∈s.rep.frames,s.now<f.arr
def UGt (s:Ses):Prop:=s.snd.st=1→s.now<s.snd.due
theorem Inv.bud {p:Par} {s:Ses} (hp:POk p) (h:Inv p s) {k:Nat} (hk:(k:Int)≤s.pend.length+s.dat.frames.countP (fun f=>f.seg.chk)) (hn:0<k→s.now≤1099511627776):Bud k s:=by
 have hs:=h.sn.num hp;have hb:=hp.bud s.snd.ser (by omega) (by have:=h.sn.t;omega);have:=h.c1;have:=h.c2;have:=h.c3;have:=h.c4;have:=h.c5;have:=h.c6;have:=h.l1;have:=h.l2;have:=h.gd.lost;have:=h.gr.lost;refine ⟨h.gd,h.gr,⟨h.now,hn⟩,by rw [h.ps];exact hp.pk,?_,?_,?_,?_,?_,?_,?_,?_,by rw [h.ps];exact hp.pl⟩
 ·refine ⟨by omega,?_⟩;rcases hb with hb|hb<;>omega
 all_goals have:=h.ds;omega
end Ab
set_option linter.unusedVariables false
set_option linter.unusedSimpArgs false
namespace Ab
open Go
theorem MK {α:Type} (g:α→Bool) (b:α) (q:α→Bool):∀l:List α,(GQ g b l).countP q=l.countP q+(if q b=true then 1 else 0)
 |[]=>by simp [GQ,countP_cons]
 |x::l=>by
  unfold GQ;split
  ·simp only [countP_cons]
  ·simp only [countP_cons,MK g b q l];omega
theorem MC (t num:Int) (x:Seg):∀(ds:List Int) (fs:List Frame),(MW t num x ds fs).countP (fun f=>f.seg.chk)=fs.countP (fun f=>f.seg.chk)+(if x.chk=true then ds.length else 0)
 |[],fs=>by simp [MW]
 |d::ds,fs=>by show (MW t num x ds (Jb t num x fs d)).countP _=_;rw [MC t num x ds];unfold Jb;rw [MK];simp only [length_cons];split<;>omega
theorem Inv.del {p:Par} {s:Ses} (hp:POk p) (h:Inv p s):(∀d∈(DD s p.c.rng).1,p.c.rng≤d∧d≤2*p.c.rng)∧(DD s p.c.rng).1.length≤2∧s.dist≤(DD s p.c.rng).2∧(DD s p.c.rng).2≤s.dist+1:=Qq hp.rng.1
theorem Inv.tx {p:Par} {s:Ses} (hp:POk p) (h:Inv p s) {o:Out} {l:List Out} (hpd:s.pend=o::l) (ho:o.at_=s.now):Inv p {EX s o.seg with pend:=l}:=by
 have hr:=hp.rng;have hn:=h.sn.num hp;obtain ⟨o1,o2,o3,o4,o5⟩:=h.pd o (by rw [hpd];simp);obtain ⟨d1,d2,d3,d4⟩:=h.del hp;have hb:=h.bud hp (k:=0+1) (by rw [hpd];simp;omega) (fun _=>by omega);have hB:=hb.EX o.seg;have c1:=h.c1;have c2:=h.c2;have c3:=h.c3;have c4:=h.c4;have c5:=h.c5;have c6:=h.c6;have l1:=h.l1;have l2:=h.l2;have hds:=h.ds;rw [hpd] at c4 c5 c6;simp only [length_cons,countP_cons] at c4 c5 c6;have hrd:=h.rd;refine ⟨h.rd,h.rr,h.ps,h.lim,h.dk,hB.gd,hB.gr,h.now,h.sn,h.rc,fun f hf => ?_,h.fr,fun x hx=>h.pd x (by rw [hpd];simp [hx]),?_,h.du,?_,?_,h.c3,?_,?_,?_,?_,h.l2,?_,h.kn,h.rv⟩
 ·simp only [EX,CO] at hf;rcases KG.1 hf with hf|⟨d,hd,rfl⟩
  ·exact h.fd f hf
  ·rw [hrd] at hd;have:=d1 d hd;refine ⟨o1,o4,?_,?_,fun hc hs => ?_⟩
   ·simp only [EX];omega
   ·simp only;omega
   ·have:=o5 hc;simp only [EX];omega
 ·have:=h.po;rw [hpd] at this;exact (pairwise_cons.1 this).2
 ·simp only [EX,CO];omega
 ·simp only [EX,CO,length_append,length_cons,length_nil];omega
 ·simp only [EX,length_append,length_cons,length_nil];omega
 ·simp only [EX,length_append,length_cons,length_nil];omega
 ·simp only [EX,CO,MC,hrd];split
  ·rename_i hc;rw [if_pos hc] at c6;omega
  ·rename_i hc;rw [if_neg hc] at c6;omega
 ·simp only [EX,CO,GO,hrd];omega
 ·simp only [EX,hrd];omega
theorem Inv.Vg {p:Par} {s:Ses} (hp:POk p) (h:Inv p s) {x:Seg} (hx:OO p.d x):DZ s.rcv x=(CW s.rcv x,if x.chk=true then [CG s.rcv x] else [],0)∧(∃hl,Hd p.d (CW s.rcv x) hl∧∀y∈hl,EW p.d y)∧(x.chk=true→Kv p.d (CG s.rcv x))∧(∀t,Ac t (CW s.rcv x).known↔Ac t s.rcv.known∨(x.off≤t∧t<x.off+x.data.size))∧(A1 s.rcv=true→A1 (CW s.rcv x)=true)∧(CG s.rcv x).AZ=(CW s.rcv x).known:=by
 obtain ⟨hl,h1,h2⟩:=h.rc;have hsz:=hp.sz;have hs:=Mv h1 h2 hx.pc (by omega);have he:=st_hear h1 h2 hx.pc (by omega);refine ⟨he,⟨hl++[x],st_next h1 h2 hx.pc (by omega),fun y hy => ?_⟩,fun hc=>⟨N3 h1.ok hx.pc.1 hs hc,rfl,h1.ses,hx.pc.2.2.2.1⟩,KU hs,fun hc => ?_,rfl⟩
 ·rcases mem_append.1 hy with hy|hy
  ·exact h2 y hy
  ·rw [mem_singleton] at hy;subst hy;exact hx.pc
 ·have:=Nd h1.ok hx.pc.1 hc;rw [he] at this;exact this
theorem U8 {p:Par} {s:Ses} (h:Inv p {s with rcvd:=A1 s.rcv}) (hr:s.rcvd=true→A1 s.rcv=true):Inv p (rxF s):=by
 unfold rxF;split
 ·rename_i hc;rw [hc.2] at h;exact {h with}
 ·rename_i hc;have e:s.rcvd=A1 s.rcv:=by
   cases h1:s.rcvd with
   |true=>exact (hr h1).symm
   |false=>
    cases h2:A1 s.rcv with
    |false=>rfl
    |true=>exact (hc ⟨h1,h2⟩).elim
  rw [← e] at h;exact h
theorem Inv.rx {p:Par} {s:Ses} (hp:POk p) (h:Inv p s) {f:Frame} {l:List Frame} (hf:s.dat.frames=f::l) (ha:f.arr=s.now):Inv p (rxX (BF s) f.seg):=by
 have hr:=hp.rng;have hn:=h.sn.num hp;obtain ⟨f1,f2,f3,f4,f5⟩:=h.fd f (by rw [hf];simp);obtain ⟨e1,e2,e3,e4,e5,e6⟩:=h.Vg hp f1;have c1:=h.c1;have c2:=h.c2;have c3:=h.c3;have c4:=h.c4;have c5:=h.c5;have c6:=h.c6;have l1:=h.l1;have l2:=h.l2;have hds:=h.ds;have hrr:=h.rr;have hpop:(BF s).rcv=s.rcv:=rfl;unfold rxX rxH;rw [hpop,e1];simp only;have hfr:s.dat.frames.tail=l:=by rw [hf];rfl
 rw [hf] at c6 l1;simp only [length_cons,countP_cons] at c6 l1;by_cases hc:f.seg.chk=true
 ·rw [if_pos hc];simp only [foldl_cons,List.foldl_nil];rw [if_pos hc] at c6;have hrep:=e3 hc;have hb:=h.bud hp (k:=0+1) (by rw [hf];simp only [countP_cons,hc,if_true];omega) (fun _=>by omega);have hb2:Bud (0+1) {BF s with rcv:=CW s.rcv f.seg}:=hb.BF.of rfl rfl rfl rfl rfl rfl rfl rfl;have hB:=hb2.CQ (CG s.rcv f.seg);obtain ⟨d1,d2,d3,d4⟩:=Qq (s:={BF s with rcv:=CW s.rcv f.seg}) (R:=p.c.rng) hr.1;refine U8 ⟨h.rd,h.rr,h.ps,h.lim,h.dk,hB.gd,hB.gr,h.now,h.sn,e2,fun x hx=>h.fd x (by rw [hf];simp only [CQ,BF,hfr] at hx;simp [hx]),fun x hx => ?_,h.pd,h.po,h.du,?_,h.c2,?_,h.c4,h.c5,?_,?_,?_,?_,h.kn,rfl⟩ (fun hq=>e5 (by rw [← h.rv];exact hq))
  ·simp only [CQ,CO,BF] at hx;rcases KG.1 hx with hx|⟨d,hd,rfl⟩
   ·exact h.fr x hx
   ·have:=d1 d (by simpa only [BF,hrr] using hd);have hser:(CG s.rcv f.seg).ser=f.seg.ser:=rfl;refine ⟨hrep,by rw [hser];exact f2,?_,?_,fun hs => ?_⟩
    ·simp only [CQ,BF];omega
    ·simp only;omega
    ·have:=f5 hc (by rw [← hser];exact hs);simp only [CQ,BF];omega
  ·simp only [CQ,CO,BF];omega
  ·simp only [CQ,CO,BF,length_append,length_cons,length_nil];omega
  ·simp only [CQ,CO,BF,hfr,length_append,length_cons,length_nil];omega
  ·simp only [CQ,BF,hfr];omega
  ·simp only [CQ,CO,BF,GO,hrr];simp only [BF] at d2;omega
  ·simp only [CQ,BF,hrr];simp only [BF] at d3 d4;omega
 ·rw [if_neg hc];simp only [List.foldl_nil];rw [if_neg hc] at c6;refine U8 ⟨h.rd,h.rr,h.ps,h.lim,h.dk,Ej h.gd,h.gr,h.now,h.sn,e2,fun x hx=>h.fd x (by rw [hf];simp only [BF,hfr] at hx;simp [hx]),h.fr,h.pd,h.po,h.du,h.c1,h.c2,h.c3,h.c4,h.c5,?_,?_,h.l2,h.ds,h.kn,rfl⟩ (fun hq=>e5 (by rw [← h.rv];exact hq))
  ·simp only [BF,hfr];omega
  ·simp only [BF,hfr];omega
end Ab
