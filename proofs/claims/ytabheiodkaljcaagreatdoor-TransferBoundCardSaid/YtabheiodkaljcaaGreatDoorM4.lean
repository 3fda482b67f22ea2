/- A part of the proof: see the last text. -/
import Derived.Test.YtabheiodkaljcaaGreatDoorM3
set_option linter.unusedVariables false
set_option linter.unusedSimpArgs false
namespace Ab
open Go
def HH (g v:Nat) (es:List Span) (ins:Bool) (p q:List Span) (pi:Nat) (pb:Bool) (qi:Nat) (qb:Bool):Heap:=[.box [.func (.func g) [] []],.row false v 2 (es.map Span.enc),.box [.sref 1 v 0 es.length],.box [.t (.bool ins)],.box [],.box [.t (.sl 2 (p.map Span.enc)),.t (tI pi),.t (.bool pb)],.box [.t (.sl 2 (q.map Span.enc)),.t (tI qi),.t (.bool qb)]]
def nx (a:List Span) (i:Nat) (xi:Bool):Option Int:=match a[i]? with
 |none=>none
 |some x=>some (if xi then x.to else x.fro)
def nv (o:Option Int):Int:=o.getD 0
def fin (es:List Span):List Tree:=if 1000<es.length then [.sl 2 [],tI 4] else [.sl 2 (es.map Span.enc),tI 0]
def pi_ (a:List Span) (i:Nat) (xi:Bool) (t:Int):Nat:=if nx a i xi=some t∧xi=true then i+1 else i
def pb (a:List Span) (i:Nat) (xi:Bool) (t:Int):Bool:=if nx a i xi=some t then !xi else xi
def opn (cl:List Span) (o:Option Int):List Span:=match o with
 |none=>cl
 |some s=>cl++[⟨s,0⟩]
def ncl (cl:List Span) (o:Option Int) (t:Int) (now:Bool):List Span:=match o,now with
 |some s,false=>cl++[⟨s,t⟩]
 |_,_=>cl
def nop (o:Option Int) (t:Int) (now:Bool):Option Int:=if now then some (o.getD t) else none
theorem Lm {α:Type} (l:List α) (x y:α) (k:Nat) (h:k=l.length):(l++[x]).set k y=l++[y]:=by
 subst h
 induction l with
 |nil=>rfl
 |cons z l ih=>simp [ih]
def MB (v:Nat) (o:Option Int) (now:Bool):Nat:=match o,now with
 |none,true=>v+1
 |_,_=>v
theorem q1_67_1 (F n:Nat) (ag:(List AV×Heap)→Option (List Tree)) (v:Nat) (es:List Span) (ins:Bool) (a b:List Span) (i j:Nat) (xi yi:Bool) (hi:i≤a.length) :
  H4 F n (([],(HH F v es ins a b i xi j yi)):List AV×Heap) ag=Jx F n ag (([.t (tI (nv (nx a i xi))),.t (.bool (nx a i xi).isSome)],(HH F v es ins a b i xi j yi)):List AV×Heap):=by
 unfold nx nv
 by_cases h:i=a.length
 ·subst h
  have hx:a[a.length]? = none:=List.getElem?_eq_none (Nat.le_refl _)
  simp only [H4,HH,vv,vf,reduceCtorEq,Nat.reduceAdd,Nat.reduceEqDiff,hx,beq_self_eq_true,Option.isSome_none,Option.getD_none]
 ·obtain ⟨x,hx⟩:∃x,a[i]? = some x:=⟨a[i]'(by omega),List.getElem?_eq_getElem (by omega)⟩
  have h':¬((i:Int)=(a.length:Int)):=by omega
  cases xi<;>simp only [H4,HH,vv,vf,reduceCtorEq,Nat.reduceAdd,Nat.reduceEqDiff,hx,h',beq_iff_eq,Span.enc,Option.isSome_some,Option.getD_some]
theorem q2_67_1 (F n:Nat) (ag:(List AV×Heap)→Option (List Tree)) (m:Int) (fx:Bool) (v:Nat) (es:List Span) (ins:Bool) (a b:List Span) (i j:Nat) (xi yi:Bool) (hj:j≤b.length) :
  Jx F n ag (([.t (tI m),.t (.bool fx)],(HH F v es ins a b i xi j yi)):List AV×Heap)=GZ F n ag (([.t (tI m),.t (.bool fx)],(HH F v es ins a b i xi j yi)):List AV×Heap) (([.t (tI (nv (nx b j yi))),.t (.bool (nx b j yi).isSome)],(HH F v es ins a b i xi j yi)):List AV×Heap):=by
 unfold nx nv
 by_cases h:j=b.length
 ·subst h
  have hx:b[b.length]? = none:=List.getElem?_eq_none (Nat.le_refl _)
  simp only [Jx,HH,vv,vf,reduceCtorEq,Nat.reduceAdd,Nat.reduceEqDiff,hx,beq_self_eq_true,Option.isSome_none,Option.getD_none]
 ·obtain ⟨x,hx⟩:∃x,b[j]? = some x:=⟨b[j]'(by omega),List.getElem?_eq_getElem (by omega)⟩
  have h':¬((j:Int)=(b.length:Int)):=by omega
  cases yi<;>simp only [Jx,HH,vv,vf,reduceCtorEq,Nat.reduceAdd,Nat.reduceEqDiff,hx,h',beq_iff_eq,Span.enc,Option.isSome_some,Option.getD_some]
theorem q3_67_1 (F n:Nat) (ag:(List AV×Heap)→Option (List Tree)) (ox oy:Option Int) (v:Nat) (es:List Span) (ins:Bool) (a b:List Span) (i j:Nat) (xi yi:Bool) :
  GZ F n ag (([.t (tI (nv ox)),.t (.bool ox.isSome)],(HH F v es ins a b i xi j yi)):List AV×Heap) (([.t (tI (nv oy)),.t (.bool oy.isSome)],(HH F v es ins a b i xi j yi)):List AV×Heap)=match Ea ox oy with
   |none=>some (fin es)
   |some t=>H7 F n ag (([.t (tI t)],(HH F v es ins a b i xi j yi)):List AV×Heap):=by
 have hl:∀l:List Span,List.take l.length (List.map Span.enc l)=List.map Span.enc l:=fun l=>by rw [List.take_of_length_le (by simp)]
 cases ox with
 |none=>cases oy with
  |none=>
   simp only [GZ,Jy,HH,vv,vf,reduceCtorEq,Nat.reduceAdd,Nat.reduceEqDiff,Ea,nv,Option.isSome_none,Option.getD_none,fin]
   by_cases h:1000<es.length
   ·simp only [h,(show (1000:Int)<(es.length:Int) by omega),vv,vf,reduceCtorEq,Nat.reduceAdd,Nat.reduceEqDiff]
   ·simp only [h,(show ¬(1000:Int)<(es.length:Int) by omega),vv,vf,reduceCtorEq,Nat.reduceAdd,Nat.reduceEqDiff,hl]
  |some m=>simp only [GZ,Jy,LX,HH,vv,vf,reduceCtorEq,Nat.reduceAdd,Nat.reduceEqDiff,Ea,nv,Option.isSome_none,Option.isSome_some,Option.getD_none,Option.getD_some]
 |some k=>cases oy with
  |none=>simp only [GZ,Jy,LX,HH,vv,vf,reduceCtorEq,Nat.reduceAdd,Nat.reduceEqDiff,Ea,nv,Option.isSome_none,Option.isSome_some,Option.getD_none,Option.getD_some]
  |some m=>
   simp only [GZ,Jy,LX,HH,vv,vf,reduceCtorEq,Nat.reduceAdd,Nat.reduceEqDiff,Ea,nv,Option.isSome_none,Option.isSome_some,Option.getD_none,Option.getD_some]
   by_cases h:m<k<;>simp only [h,vv,vf,reduceCtorEq,Nat.reduceAdd,Nat.reduceEqDiff]
theorem q4_67_1 (F n:Nat) (ag:(List AV×Heap)→Option (List Tree)) (t:Int) (v:Nat) (es:List Span) (ins:Bool) (a b:List Span) (i j:Nat) (xi yi:Bool) (hi:i≤a.length) (hl:a.length≤1000) :
  H7 F n ag (([.t (tI t)],(HH F v es ins a b i xi j yi)):List AV×Heap)=H8 F n ag (([.t (tI t)],(HH F v es ins a b i xi j yi)):List AV×Heap) (([],(HH F v es ins a b (pi_ a i xi t) (pb a i xi t) j yi)):List AV×Heap):=by
 unfold pi_ pb nx
 by_cases h:i=a.length
 ·subst h
  have hx:a[a.length]? = none:=List.getElem?_eq_none (Nat.le_refl _)
  simp only [H7,Ha,Ir,Is,HH,vv,vf,reduceCtorEq,Nat.reduceAdd,Nat.reduceEqDiff,hx,beq_self_eq_true]
 ·obtain ⟨x,hx⟩:∃x,a[i]? = some x:=⟨a[i]'(by omega),List.getElem?_eq_getElem (by omega)⟩
  have h':¬((i:Int)=(a.length:Int)):=by omega
  cases xi
  ·by_cases hq:x.fro=t<;>simp only [H7,Ha,Ir,Is,HH,vv,vf,reduceCtorEq,Nat.reduceAdd,Nat.reduceEqDiff,hx,h',hq,beq_iff_eq,Span.enc,bne_iff_ne,ne_eq,not_true_eq_false,not_false_eq_true,Option.some.injEq]
  ·by_cases hq:x.to=t<;>simp only [H7,Ha,Ir,Is,HH,vv,vf,reduceCtorEq,Nat.reduceAdd,Nat.reduceEqDiff,hx,h',hq,beq_iff_eq,Span.enc,bne_iff_ne,ne_eq,not_true_eq_false,not_false_eq_true,Option.some.injEq,BV (show i<4611686018427387904 by omega),Int.natCast_add,nc1]
theorem q5_67_1 (F n:Nat) (ag:(List AV×Heap)→Option (List Tree)) (t:Int) (Hp:Heap) (v:Nat) (es:List Span) (ins:Bool) (a b:List Span) (i j:Nat) (xi yi:Bool) (hj:j≤b.length) (hl:b.length≤1000) :
  H8 F n ag (([.t (tI t)],Hp):List AV×Heap) (([],(HH F v es ins a b i xi j yi)):List AV×Heap)=Ga F n ag (([.t (tI t)],Hp):List AV×Heap) (([],(HH F v es ins a b i xi (pi_ b j yi t) (pb b j yi t))):List AV×Heap):=by
 unfold pi_ pb nx
 by_cases h:j=b.length
 ·subst h
  have hx:b[b.length]? = none:=List.getElem?_eq_none (Nat.le_refl _)
  simp only [H8,HZ,Ip,Iq,HH,vv,vf,reduceCtorEq,Nat.reduceAdd,Nat.reduceEqDiff,hx,beq_self_eq_true]
 ·obtain ⟨x,hx⟩:∃x,b[j]? = some x:=⟨b[j]'(by omega),List.getElem?_eq_getElem (by omega)⟩
  have h':¬((j:Int)=(b.length:Int)):=by omega
  cases yi
  ·by_cases hq:x.fro=t<;>simp only [H8,HZ,Ip,Iq,HH,vv,vf,reduceCtorEq,Nat.reduceAdd,Nat.reduceEqDiff,hx,h',hq,beq_iff_eq,Span.enc,bne_iff_ne,ne_eq,not_true_eq_false,not_false_eq_true,Option.some.injEq]
  ·by_cases hq:x.to=t<;>simp only [H8,HZ,Ip,Iq,HH,vv,vf,reduceCtorEq,Nat.reduceAdd,Nat.reduceEqDiff,hx,h',hq,beq_iff_eq,Span.enc,bne_iff_ne,ne_eq,not_true_eq_false,not_false_eq_true,Option.some.injEq,BV (show j<4611686018427387904 by omega),Int.natCast_add,nc1]
theorem q6_67_1 (F n:Nat) (ag:(List AV×Heap)→Option (List Tree)) (t:Int) (Hp:Heap) (cl:List Span) (o:Option Int) (v:Nat) (a b:List Span) (i j:Nat) (xi yi now:Bool) (hl:cl.length≤1000000)
  (hf:AA C n F [Tree.bool xi,Tree.bool yi]=some [Tree.bool now]) :
  Ga F n ag (([.t (tI t)],Hp):List AV×Heap) (([],(HH F v (opn cl o) o.isSome a b i xi j yi)):List AV×Heap)=
   ag (([],(HH F (MB v o now) (opn (ncl cl o t now) (nop o t now)) (nop o t now).isSome a b i xi j yi)):List AV×Heap):=by
 have hm:∀l:List Span,List.take l.length (List.map Span.enc l)=List.map Span.enc l:=fun l=>by rw [List.take_of_length_le (by simp)]
 cases o with
 |none=>
  cases now with
  |true=>simp only [Ga,Jz,NJ,Fk,GW,HH,vv,vf,reduceCtorEq,Nat.reduceAdd,Nat.reduceEqDiff,hf,opn,ncl,nop,MB,Option.isSome_none,Option.isSome_some,Bool.not_false,List.append_nil,hm,List.map_append,List.map_cons,List.map_nil,Span.enc,(show cl.length+1≤1073741824 by omega),Option.getD_none,List.length_append,Nat.le_refl]
  |false=>simp only [Ga,Jz,NJ,Fk,GW,HH,vv,vf,reduceCtorEq,Nat.reduceAdd,Nat.reduceEqDiff,hf,opn,ncl,nop,MB,Option.isSome_none,Option.isSome_some,Bool.not_false,List.append_nil]
 |some s=>
  cases now with
  |true=>simp only [Ga,Jz,NJ,Fk,GW,HH,vv,vf,reduceCtorEq,Nat.reduceAdd,Nat.reduceEqDiff,hf,opn,ncl,nop,MB,Option.isSome_none,Option.isSome_some,Bool.not_true,Option.getD_some]
  |false=>
   have e1:w64 (((cl.length+1:Nat):Int)-1)=(cl.length:Int):=by rw [AS (by omega) (by omega)];omega
   have e2:(List.map Span.enc cl++[[tI s,tI 0]])[cl.length]? = some [tI s,tI 0]:=by rw [List.getElem?_append_right (by simp)];simp
   have e3:(List.map Span.enc cl++[[tI s,tI 0]]).set cl.length [tI s,tI t]=List.map Span.enc cl++[[tI s,tI t]]:=Lm _ _ _ cl.length (by simp)
   simp only [Ga,Jz,NJ,Fk,GW,HH,vv,vf,reduceCtorEq,Nat.reduceAdd,Nat.reduceEqDiff,hf,opn,ncl,nop,MB,Option.isSome_none,Option.isSome_some,Bool.not_true,List.append_nil,List.map_append,List.map_cons,List.map_nil,Span.enc,List.length_append,e1,e2,e3,List.take,List.drop,List.cons_append,List.nil_append,(show (cl.length:Int)<((cl.length+1:Nat):Int) by omega),Nat.le_refl]
theorem q1_67_2 (F n:Nat) (ag:(List AV×Heap)→Option (List Tree)) (v:Nat) (es:List Span) (ins:Bool) (a b:List Span) (i j:Nat) (xi yi:Bool) (hi:i≤a.length) :
  H3 F n (([],(HH F v es ins b a j yi i xi)):List AV×Heap) ag=Jt F n ag (([.t (tI (nv (nx a i xi))),.t (.bool (nx a i xi).isSome)],(HH F v es ins b a j yi i xi)):List AV×Heap):=by
 unfold nx nv
 by_cases h:i=a.length
 ·subst h
  have hx:a[a.length]? = none:=List.getElem?_eq_none (Nat.le_refl _)
  simp only [H3,HH,vv,vf,reduceCtorEq,Nat.reduceAdd,Nat.reduceEqDiff,hx,beq_self_eq_true,Option.isSome_none,Option.getD_none]
 ·obtain ⟨x,hx⟩:∃x,a[i]? = some x:=⟨a[i]'(by omega),List.getElem?_eq_getElem (by omega)⟩
  have h':¬((i:Int)=(a.length:Int)):=by omega
  cases xi<;>simp only [H3,HH,vv,vf,reduceCtorEq,Nat.reduceAdd,Nat.reduceEqDiff,hx,h',beq_iff_eq,Span.enc,Option.isSome_some,Option.getD_some]
theorem q2_67_2 (F n:Nat) (ag:(List AV×Heap)→Option (List Tree)) (m:Int) (fx:Bool) (v:Nat) (es:List Span) (ins:Bool) (a b:List Span) (i j:Nat) (xi yi:Bool) (hj:j≤b.length) :
  Jt F n ag (([.t (tI m),.t (.bool fx)],(HH F v es ins b a j yi i xi)):List AV×Heap)=GX F n ag (([.t (tI m),.t (.bool fx)],(HH F v es ins b a j yi i xi)):List AV×Heap) (([.t (tI (nv (nx b j yi))),.t (.bool (nx b j yi).isSome)],(HH F v es ins b a j yi i xi)):List AV×Heap):=by
 unfold nx nv
 by_cases h:j=b.length
 ·subst h
  have hx:b[b.length]? = none:=List.getElem?_eq_none (Nat.le_refl _)
  simp only [Jt,HH,vv,vf,reduceCtorEq,Nat.reduceAdd,Nat.reduceEqDiff,hx,beq_self_eq_true,Option.isSome_none,Option.getD_none]
 ·obtain ⟨x,hx⟩:∃x,b[j]? = some x:=⟨b[j]'(by omega),List.getElem?_eq_getElem (by omega)⟩
  have h':¬((j:Int)=(b.length:Int)):=by omega
  cases yi<;>simp only [Jt,HH,vv,vf,reduceCtorEq,Nat.reduceAdd,Nat.reduceEqDiff,hx,h',beq_iff_eq,Span.enc,Option.isSome_some,Option.getD_some]
theorem q3_67_2 (F n:Nat) (ag:(List AV×Heap)→Option (List Tree)) (ox oy:Option Int) (v:Nat) (es:List Span) (ins:Bool) (a b:List Span) (i j:Nat) (xi yi:Bool) :
  GX F n ag (([.t (tI (nv ox)),.t (.bool ox.isSome)],(HH F v es ins b a j yi i xi)):List AV×Heap) (([.t (tI (nv oy)),.t (.bool oy.isSome)],(HH F v es ins b a j yi i xi)):List AV×Heap)=match Ea ox oy with
   |none=>some (fin es)
   |some t=>H5 F n ag (([.t (tI t)],(HH F v es ins b a j yi i xi)):List AV×Heap):=by
 have hl:∀l:List Span,List.take l.length (List.map Span.enc l)=List.map Span.enc l:=fun l=>by rw [List.take_of_length_le (by simp)]
 cases ox with
 |none=>cases oy with
  |none=>
   simp only [GX,Ju,HH,vv,vf,reduceCtorEq,Nat.reduceAdd,Nat.reduceEqDiff,Ea,nv,Option.isSome_none,Option.getD_none,fin]
   by_cases h:1000<es.length
   ·simp only [h,(show (1000:Int)<(es.length:Int) by omega),vv,vf,reduceCtorEq,Nat.reduceAdd,Nat.reduceEqDiff]
   ·simp only [h,(show ¬(1000:Int)<(es.length:Int) by omega),vv,vf,reduceCtorEq,Nat.reduceAdd,Nat.reduceEqDiff,hl]
  |some m=>simp only [GX,Ju,LW,HH,vv,vf,reduceCtorEq,Nat.reduceAdd,Nat.reduceEqDiff,Ea,nv,Option.isSome_none,Option.isSome_some,Option.getD_none,Option.getD_some]
 |some k=>cases oy with
  |none=>simp only [GX,Ju,LW,HH,vv,vf,reduceCtorEq,Nat.reduceAdd,Nat.reduceEqDiff,Ea,nv,Option.isSome_none,Option.isSome_some,Option.getD_none,Option.getD_some]
  |some m=>
   simp only [GX,Ju,LW,HH,vv,vf,reduceCtorEq,Nat.reduceAdd,Nat.reduceEqDiff,Ea,nv,Option.isSome_none,Option.isSome_some,Option.getD_none,Option.getD_some]
   by_cases h:m<k<;>simp only [h,vv,vf,reduceCtorEq,Nat.reduceAdd,Nat.reduceEqDiff]
theorem q4_67_2 (F n:Nat) (ag:(List AV×Heap)→Option (List Tree)) (t:Int) (v:Nat) (es:List Span) (ins:Bool) (a b:List Span) (i j:Nat) (xi yi:Bool) (hi:i≤a.length) (hl:a.length≤1000) :
  H5 F n ag (([.t (tI t)],(HH F v es ins b a j yi i xi)):List AV×Heap)=H6 F n ag (([.t (tI t)],(HH F v es ins b a j yi i xi)):List AV×Heap) (([],(HH F v es ins b a j yi (pi_ a i xi t) (pb a i xi t))):List AV×Heap):=by
 unfold pi_ pb nx
 by_cases h:i=a.length
 ·subst h
  have hx:a[a.length]? = none:=List.getElem?_eq_none (Nat.le_refl _)
  simp only [H5,HZ,Ip,Iq,HH,vv,vf,reduceCtorEq,Nat.reduceAdd,Nat.reduceEqDiff,hx,beq_self_eq_true]
 ·obtain ⟨x,hx⟩:∃x,a[i]? = some x:=⟨a[i]'(by omega),List.getElem?_eq_getElem (by omega)⟩
  have h':¬((i:Int)=(a.length:Int)):=by omega
  cases xi
  ·by_cases hq:x.fro=t<;>simp only [H5,HZ,Ip,Iq,HH,vv,vf,reduceCtorEq,Nat.reduceAdd,Nat.reduceEqDiff,hx,h',hq,beq_iff_eq,Span.enc,bne_iff_ne,ne_eq,not_true_eq_false,not_false_eq_true,Option.some.injEq]
  ·by_cases hq:x.to=t<;>simp only [H5,HZ,Ip,Iq,HH,vv,vf,reduceCtorEq,Nat.reduceAdd,Nat.reduceEqDiff,hx,h',hq,beq_iff_eq,Span.enc,bne_iff_ne,ne_eq,not_true_eq_false,not_false_eq_true,Option.some.injEq,BV (show i<4611686018427387904 by omega),Int.natCast_add,nc1]
theorem q5_67_2 (F n:Nat) (ag:(List AV×Heap)→Option (List Tree)) (t:Int) (Hp:Heap) (v:Nat) (es:List Span) (ins:Bool) (a b:List Span) (i j:Nat) (xi yi:Bool) (hj:j≤b.length) (hl:b.length≤1000) :
  H6 F n ag (([.t (tI t)],Hp):List AV×Heap) (([],(HH F v es ins b a j yi i xi)):List AV×Heap)=GY F n ag (([.t (tI t)],Hp):List AV×Heap) (([],(HH F v es ins b a (pi_ b j yi t) (pb b j yi t) i xi)):List AV×Heap):=by
 unfold pi_ pb nx
 by_cases h:j=b.length
 ·subst h
  have hx:b[b.length]? = none:=List.getElem?_eq_none (Nat.le_refl _)
  simp only [H6,Ha,Ir,Is,HH,vv,vf,reduceCtorEq,Nat.reduceAdd,Nat.reduceEqDiff,hx,beq_self_eq_true]
 ·obtain ⟨x,hx⟩:∃x,b[j]? = some x:=⟨b[j]'(by omega),List.getElem?_eq_getElem (by omega)⟩
  have h':¬((j:Int)=(b.length:Int)):=by omega
  cases yi
  ·by_cases hq:x.fro=t<;>simp only [H6,Ha,Ir,Is,HH,vv,vf,reduceCtorEq,Nat.reduceAdd,Nat.reduceEqDiff,hx,h',hq,beq_iff_eq,Span.enc,bne_iff_ne,ne_eq,not_true_eq_false,not_false_eq_true,Option.some.injEq]
  ·by_cases hq:x.to=t<;>simp only [H6,Ha,Ir,Is,HH,vv,vf,reduceCtorEq,Nat.reduceAdd,Nat.reduceEqDiff,hx,h',hq,beq_iff_eq,Span.enc,bne_iff_ne,ne_eq,not_true_eq_false,not_false_eq_true,Option.some.injEq,BV (show j<4611686018427387904 by omega),Int.natCast_add,nc1]
theorem q6_67_2 (F n:Nat) (ag:(List AV×Heap)→Option (List Tree)) (t:Int) (Hp:Heap) (cl:List Span) (o:Option Int) (v:Nat) (a b:List Span) (i j:Nat) (xi yi now:Bool) (hl:cl.length≤1000000)
  (hf:AA C n F [Tree.bool xi,Tree.bool yi]=some [Tree.bool now]) :
  GY F n ag (([.t (tI t)],Hp):List AV×Heap) (([],(HH F v (opn cl o) o.isSome b a j yi i xi)):List AV×Heap)=
   ag (([],(HH F (MB v o now) (opn (ncl cl o t now) (nop o t now)) (nop o t now).isSome b a j yi i xi)):List AV×Heap):=by
 have hm:∀l:List Span,List.take l.length (List.map Span.enc l)=List.map Span.enc l:=fun l=>by rw [List.take_of_length_le (by simp)]
 cases o with
 |none=>
  cases now with
  |true=>simp only [GY,Jv,Jw,Fk,GW,HH,vv,vf,reduceCtorEq,Nat.reduceAdd,Nat.reduceEqDiff,hf,opn,ncl,nop,MB,Option.isSome_none,Option.isSome_some,Bool.not_false,List.append_nil,hm,List.map_append,List.map_cons,List.map_nil,Span.enc,(show cl.length+1≤1073741824 by omega),Option.getD_none,List.length_append,Nat.le_refl]
  |false=>simp only [GY,Jv,Jw,Fk,GW,HH,vv,vf,reduceCtorEq,Nat.reduceAdd,Nat.reduceEqDiff,hf,opn,ncl,nop,MB,Option.isSome_none,Option.isSome_some,Bool.not_false,List.append_nil]
 |some s=>
  cases now with
  |true=>simp only [GY,Jv,Jw,Fk,GW,HH,vv,vf,reduceCtorEq,Nat.reduceAdd,Nat.reduceEqDiff,hf,opn,ncl,nop,MB,Option.isSome_none,Option.isSome_some,Bool.not_true,Option.getD_some]
  |false=>
   have e1:w64 (((cl.length+1:Nat):Int)-1)=(cl.length:Int):=by rw [AS (by omega) (by omega)];omega
   have e2:(List.map Span.enc cl++[[tI s,tI 0]])[cl.length]? = some [tI s,tI 0]:=by rw [List.getElem?_append_right (by simp)];simp
   have e3:(List.map Span.enc cl++[[tI s,tI 0]]).set cl.length [tI s,tI t]=List.map Span.enc cl++[[tI s,tI t]]:=Lm _ _ _ cl.length (by simp)
   simp only [GY,Jv,Jw,Fk,GW,HH,vv,vf,reduceCtorEq,Nat.reduceAdd,Nat.reduceEqDiff,hf,opn,ncl,nop,MB,Option.isSome_none,Option.isSome_some,Bool.not_true,List.append_nil,List.map_append,List.map_cons,List.map_nil,Span.enc,List.length_append,e1,e2,e3,List.take,List.drop,List.cons_append,List.nil_append,(show (cl.length:Int)<((cl.length+1:Nat):Int) by omega),Nat.le_refl]
end Ab
set_option linter.unusedVariables false
set_option linter.unusedSimpArgs false
namespace Ab
open Go
theorem Ok (a:List Span) (i:Nat) (xi:Bool):(⟨a.drop i,xi⟩:Sd).next=nx a i xi:=by
 unfold Sd.next nx
 have:(a.drop i)[0]? = a[i]? :=by rw [List.getElem?_drop];simp
 cases h:a.drop i with
 |nil=>
  rw [h] at this
  have hx:a[i]? = none:=this.symm
  rw [hx]
 |cons x l=>
  rw [h] at this
  have hx:a[i]? = some x:=this.symm
  rw [hx]
theorem TI (a:List Span) (i:Nat) (xi:Bool) (t:Int):(⟨a.drop i,xi⟩:Sd).pass t=⟨a.drop (pi_ a i xi t),pb a i xi t⟩:=by
 unfold Sd.pass pi_ pb
 rw [Ok]
 by_cases h:nx a i xi=some t
 ·cases xi<;>simp [h,List.drop_drop]
 ·simp [h]
theorem nx_lt {a:List Span} {i:Nat} {xi:Bool} {t:Int} (h:nx a i xi=some t):i<a.length:=by
 unfold nx at h
 split at h
 ·cases h
 ·rename_i x hx;exact Ap hx
theorem Th {a:List Span} {i:Nat} {xi:Bool} (h:nx a i xi=none):a.length≤i:=by
 unfold nx at h
 split at h
 ·rename_i hx;exact List.getElem?_eq_none_iff.1 hx
 ·cases h
theorem pi_le {a:List Span} {i:Nat} {xi:Bool} {t:Int} (hi:i≤a.length) (he:i=a.length→xi=false):pi_ a i xi t≤a.length∧(pi_ a i xi t=a.length→pb a i xi t=false):=by
 unfold pi_ pb
 by_cases h:nx a i xi=some t
 ·have:=nx_lt h
  cases xi
  ·simp [h];omega
  ·simp [h];omega
 ·simp [h];exact ⟨hi,he⟩
theorem Le (f:Bool→Bool→Bool) (hff:f false false=false) (a b:List Span) (Hs:Nat→List Span→Bool→Nat→Bool→Nat→Bool→Heap) (body:(List AV×Heap)→((List AV×Heap)→Option (List Tree))→Option (List Tree))
  (hstep:∀ag v cl o i xi j yi,i≤a.length→j≤b.length→cl.length≤1000000→body (([],Hs v (opn cl o) o.isSome i xi j yi):List AV×Heap) ag=match Ea (nx a i xi) (nx b j yi) with
   |none=>some (fin (opn cl o))
   |some t=>ag (([],Hs (MB v o (f (pb a i xi t) (pb b j yi t))) (opn (ncl cl o t (f (pb a i xi t) (pb b j yi t))) (nop o t (f (pb a i xi t) (pb b j yi t)))) (nop o t (f (pb a i xi t) (pb b j yi t))).isSome (pi_ a i xi t) (pb a i xi t) (pi_ b j yi t) (pb b j yi t)):List AV×Heap)) :
  ∀k v cl o i xi j yi,i≤a.length→j≤b.length→(i=a.length→xi=false)→(j=b.length→yi=false)→o.isSome=f xi yi→cl.length+(Sd.sz ⟨a.drop i,xi⟩+Sd.sz ⟨b.drop j,yi⟩)≤1000000→Sd.sz ⟨a.drop i,xi⟩+Sd.sz ⟨b.drop j,yi⟩<k→
   AJ body k (([],Hs v (opn cl o) o.isSome i xi j yi):List AV×Heap)=some (fin (cl++go f ⟨a.drop i,xi⟩ ⟨b.drop j,yi⟩ o)):=by
 intro k
 induction k with
 |zero=>intro v cl o i xi j yi h1 h2 h3 h4 h5 h6 h7;omega
 |succ k ih=>
  intro v cl o i xi j yi h1 h2 h3 h4 h5 h6 h7
  show body _ (AJ body k)=_
  rw [hstep _ v cl o i xi j yi h1 h2 (by omega)]
  have e1:=Ok a i xi
  have e2:=Ok b j yi
  cases h:Ea (nx a i xi) (nx b j yi) with
  |none=>
   obtain ⟨g1,g2⟩:=Ni h
   have:=Th g1
   have:=Th g2
   rw [h3 (by omega),h4 (by omega),hff] at h5
   obtain rfl:o=none:=by cases o<;>simp at h5 ⊢
   rw [Tv (by rw [e1,e2];exact h)]
   simp [opn]
  |some t=>
   have h':Ea (Sd.next ⟨a.drop i,xi⟩) (Sd.next ⟨b.drop j,yi⟩)=some t:=by rw [e1,e2];exact h
   have p1:=TI a i xi t
   have p2:=TI b j yi t
   obtain ⟨m1,_,_⟩:=Hf h'
   have z1:=Sd.Hj ⟨a.drop i,xi⟩ t
   have z2:=Sd.Hj ⟨b.drop j,yi⟩ t
   rw [p1] at z1
   rw [p2] at z2
   have hsz:Sd.sz ⟨a.drop (pi_ a i xi t),pb a i xi t⟩+Sd.sz ⟨b.drop (pi_ b j yi t),pb b j yi t⟩<Sd.sz ⟨a.drop i,xi⟩+Sd.sz ⟨b.drop j,yi⟩:=by
    rcases m1 with m|m
    ·have:=z1.2 m;omega
    ·have:=z2.2 m;omega
   have hcl:(ncl cl o t (f (pb a i xi t) (pb b j yi t))).length≤cl.length+1:=by
    unfold ncl
    split<;>simp
   have hno:(nop o t (f (pb a i xi t) (pb b j yi t))).isSome=f (pb a i xi t) (pb b j yi t):=by
    unfold nop
    split<;>simp_all
   simp only
   obtain ⟨b1,b2⟩:=pi_le (t:=t) h1 h3
   obtain ⟨b3,b4⟩:=pi_le (t:=t) h2 h4
   rw [ih _ _ _ _ _ _ _ b1 b3 b2 b4 hno (by omega) (by omega)]
   rw [Tu h',p1,p2]
   simp only
   congr 2
   cases hnow:f (pb a i xi t) (pb b j yi t) with
   |true=>cases o<;>simp [ncl,nop]
   |false=>cases o<;>simp [ncl,nop]
theorem TE (F n:Nat) (op:Bool→Bool→Bool) (h0:op false false=false) (a b:List Span) (ha:a.length≤1000) (hb:b.length≤1000) (hf:∀xi yi,AA C n F [Tree.bool xi,Tree.bool yi]=some [Tree.bool (op xi yi)]) (hn:5000≤n) :
  AJ (fun (p:List AV×Heap) again=>H4 F n p again) n (([],HH F 0 [] false a b 0 false 0 false):List AV×Heap)=some (fin (go op ⟨a,false⟩ ⟨b,false⟩ none)):=by
 have:=Le op h0 a b (fun v es ins i xi j yi=>HH F v es ins a b i xi j yi) (fun (p:List AV×Heap) again=>H4 F n p again) (fun ag v cl o i xi j yi hi hj hc=>by
  rw [q1_67_1 F n ag v (opn cl o) o.isSome a b i j xi yi hi,q2_67_1 F n ag _ _ v (opn cl o) o.isSome a b i j xi yi hj,q3_67_1 F n ag (nx a i xi) (nx b j yi) v (opn cl o) o.isSome a b i j xi yi]
  cases htm:Ea (nx a i xi) (nx b j yi) with
  |none=>rfl
  |some t=>
   simp only
   rw [q4_67_1 F n ag t v (opn cl o) o.isSome a b i j xi yi hi ha,q5_67_1 F n ag t _ v (opn cl o) o.isSome a b _ j _ yi hj hb,q6_67_1 F n ag t _ cl o v a b _ _ _ _ _ hc (hf _ _)]) n 0 [] none 0 false 0 false (Nat.zero_le _) (Nat.zero_le _) (fun _=>rfl) (fun _=>rfl) h0.symm (by simp only [Sd.sz,List.drop_zero,List.length_nil,Bool.false_eq_true,if_false];omega) (by simp only [Sd.sz,List.drop_zero,Bool.false_eq_true,if_false];omega)
 simpa [opn] using this
theorem TD (F n:Nat) (op:Bool→Bool→Bool) (h0:op false false=false) (a b:List Span) (ha:a.length≤1000) (hb:b.length≤1000) (hf:∀xi yi,AA C n F [Tree.bool xi,Tree.bool yi]=some [Tree.bool (op xi yi)]) (hn:5000≤n) :
  AJ (fun (p:List AV×Heap) again=>H3 F n p again) n (([],HH F 0 [] false b a 0 false 0 false):List AV×Heap)=some (fin (go op ⟨a,false⟩ ⟨b,false⟩ none)):=by
 have:=Le op h0 a b (fun v es ins i xi j yi=>HH F v es ins b a j yi i xi) (fun (p:List AV×Heap) again=>H3 F n p again) (fun ag v cl o i xi j yi hi hj hc=>by
  rw [q1_67_2 F n ag v (opn cl o) o.isSome a b i j xi yi hi,q2_67_2 F n ag _ _ v (opn cl o) o.isSome a b i j xi yi hj,q3_67_2 F n ag (nx a i xi) (nx b j yi) v (opn cl o) o.isSome a b i j xi yi]
  cases htm:Ea (nx a i xi) (nx b j yi) with
  |none=>rfl
  |some t=>
   simp only
   rw [q4_67_2 F n ag t v (opn cl o) o.isSome a b i j xi yi hi ha,q5_67_2 F n ag t _ v (opn cl o) o.isSome a b _ j _ yi hj hb,q6_67_2 F n ag t _ cl o v a b _ _ _ _ _ hc (hf _ _)]) n 0 [] none 0 false 0 false (Nat.zero_le _) (Nat.zero_le _) (fun _=>rfl) (fun _=>rfl) h0.symm (by simp only [Sd.sz,List.drop_zero,List.length_nil,Bool.false_eq_true,if_false];omega) (by simp only [Sd.sz,List.drop_zero,Bool.false_eq_true,if_false];omega)
 simpa [opn] using this
theorem s212 (p q:Bool):AP C 212 [.bool p,.bool q] [.bool (p||q)]:=AP.of (fun n=>e212 n _ _) (Ev.of fun n=>by cases p<;>simp [AB])
theorem s155 (p q:Bool):AP C 155 [.bool p,.bool q] [.bool (p && !q)]:=AP.of (fun n=>e155 n _ _) (Ev.of fun n=>by cases p<;>simp [AB])
theorem OT {P:Nat→Bool→Bool→Prop} (h:∀p q,Ev fun n=>P n p q):Ev fun n=>∀p q,P n p q:=
 ((h false false).and ((h false true).and ((h true false).and (h true true)))).mono fun n x p q=>by
  cases p<;>cases q
  ·exact x.1
  ·exact x.2.1
  ·exact x.2.2.1
  ·exact x.2.2.2
def Oc (a b:List Span):List Tree:=if BB a=0∧BB b=0 then fin (uni a b) else [.sl 2 [],tI 1]
def O2 (a b:List Span):List Tree:=if BB a=0∧BB b=0 then fin (min_ a b) else [.sl 2 [],tI 1]
theorem s183 (a b:List Span):AP C 183 [.sl 2 (a.map Span.enc),.sl 2 (b.map Span.enc)] (Oc a b):=by
 refine AP.of (fun n=>e183 n _ _) ?_
 refine ((s67 a).and ((s67 b).and ((OT s212).and (Ev.ge 5000)))).mono fun n h => ?_
 obtain ⟨h1,h2,h3,h4⟩:=h
 simp only [h1,h2,vv,vf,reduceCtorEq,Nat.reduceAdd,Nat.reduceEqDiff,Oc]
 by_cases ha:BB a=0
 ·by_cases hb:BB b=0
  ·have k1:=TE 212 n (fun xi yi=>xi||yi) rfl a b (Bf ha) (Bf hb) h3 h4
   have k2:=TD 212 n (fun xi yi=>xi||yi) rfl a b (Bf ha) (Bf hb) h3 h4
   simp only [HH,List.map_nil,List.length_nil] at k1 k2
   simp only [ha,hb,bne_self_eq_false,FZ,vv,vf,reduceCtorEq,Nat.reduceAdd,Nat.reduceEqDiff]
   simp only [Int.natCast_zero] at k1 k2
   rw [k1,k2,AN]
   rfl
  ·simp [ha,hb,AB,FZ,Nd,AF,A0]
 ·simp [ha,AB,FZ,Nd,AF,A0]
theorem s141 (a b:List Span):AP C 141 [.sl 2 (a.map Span.enc),.sl 2 (b.map Span.enc)] (O2 a b):=by
 refine AP.of (fun n=>e141 n _ _) ?_
 refine ((s67 a).and ((s67 b).and ((OT s155).and (Ev.ge 5000)))).mono fun n h => ?_
 obtain ⟨h1,h2,h3,h4⟩:=h
 simp only [h1,h2,vv,vf,reduceCtorEq,Nat.reduceAdd,Nat.reduceEqDiff,O2]
 by_cases ha:BB a=0
 ·by_cases hb:BB b=0
  ·have k1:=TE 155 n (fun xi yi=>xi && !yi) rfl a b (Bf ha) (Bf hb) h3 h4
   have k2:=TD 155 n (fun xi yi=>xi && !yi) rfl a b (Bf ha) (Bf hb) h3 h4
   simp only [HH,List.map_nil,List.length_nil] at k1 k2
   simp only [ha,hb,bne_self_eq_false,FZ,vv,vf,reduceCtorEq,Nat.reduceAdd,Nat.reduceEqDiff]
   simp only [Int.natCast_zero] at k1 k2
   rw [k1,k2,AN]
   rfl
  ·simp [ha,hb,AB,FZ,Nd,AF,A0]
 ·simp [ha,AB,FZ,Nd,AF,A0]
end Ab
set_option linter.unusedVariables false
set_option linter.unusedSimpArgs false
namespace Ab
open Go
theorem Qu (x:Span):∀l,(LB x l).length≤l.length+1
 |[]=>by simp [LB,Fe]
 |y::l=>by
  unfold LB
  split
  ·simp;exact Qu x l
  ·have:∀(m:List Span) (z:Span),(Fe z m).length≤m.length+1:=by
    intro m
    induction m with
    |nil=>intro z;simp [Fe]
    |cons w m ih=>
     intro z
     unfold Fe
     split
     ·have:=ih ⟨if w.fro<z.fro then w.fro else z.fro,if w.to>z.to then w.to else z.to⟩
      simp only [List.length_cons]
      omega
     ·simp
   exact this _ _
end Ab
set_option linter.unusedVariables false
set_option linter.unusedSimpArgs false
namespace Ab
open Go
structure OS where
 v:Nat
 f:Int
 out:List Span
structure BS where
 v:Nat
 out:List Span
theorem QT:∀(l:List Span) (f:Int),(L8 f l).length≤l.length+1
 |[],f=>by unfold L8;split<;>simp
 |x::l,f=>by
  have:=QT l x.to
  unfold L8
  split
  ·simp;omega
  ·simp;omega
end Ab
set_option linter.unusedVariables false
set_option linter.unusedSimpArgs false
namespace Ab
open Go
def O3 (a b:List Span):List Span:=if BB a=0∧BB b=0 then (if 1000<(min_ a b).length then [] else min_ a b) else []
def WQ (a b:List Span):Int:=if BB a=0∧BB b=0 then (if 1000<(min_ a b).length then 4 else 0) else 1
theorem Uo (a b:List Span):O2 a b=[.sl 2 ((O3 a b).map Span.enc),tI (WQ a b)]:=by
 unfold O2 O3 WQ fin
 split
 ·split<;>rfl
 ·rfl
def C3 (a b:List Span):List Span:=if BB a=0∧BB b=0 then (if 1000<(uni a b).length then [] else uni a b) else []
def EC (a b:List Span):Int:=if BB a=0∧BB b=0 then (if 1000<(uni a b).length then 4 else 0) else 1
theorem Nf (a b:List Span):Oc a b=[.sl 2 ((C3 a b).map Span.enc),tI (EC a b)]:=by
 unfold Oc C3 EC fin
 split
 ·split<;>rfl
 ·rfl
def AK (d:ByteArray):List Span:=[⟨0,d.size⟩]
def DB (s:Snd):List Span:=O3 (AK s.data) s.acked
theorem s142 (d:ByteArray):AP C 142 [.str d] [.sl 2 ((AK d).map Span.enc)]:=AP.of (fun n=>e142 n _) (Ev.of fun n=>rfl)
theorem s119 (s:Snd):AP C 119 s.enc [.sl 2 ((DB s).map Span.enc)]:=by
 refine AP.of (fun n=>e119 n _ _ _ _ _ _ _ _ _ _ _ _ _ _ _) ?_
 refine ((s142 s.data).and (s141 (AK s.data) s.acked)).mono fun n h => ?_
 obtain ⟨h1,h2⟩:=h
 rw [Uo] at h2
 simp only [h1,h2,vv,vf,reduceCtorEq,Nat.reduceAdd,Nat.reduceEqDiff]
 rfl
def complete (s:Snd):Bool:=decide (s.acked=AK s.data)
theorem s185 (s:Snd) (hl:s.acked.length≤1000):AP C 185 s.enc [.bool (complete s)]:=by
 refine AP.of (fun n=>e185 n _ _ _ _ _ _ _ _ _ _ _ _ _ _ _) ?_
 refine ((s142 s.data).and (s213 s.acked (AK s.data) (by omega))).mono fun n h => ?_
 simp only [h.1,h.2,vv,vf,reduceCtorEq,Nat.reduceAdd,Nat.reduceEqDiff,complete]
def Wk (s:Snd):Int:=s.busy+2*s.c.rng+1
theorem s117 (s:Snd) (h : -4611686018427387904≤s.busy∧s.busy≤2305843009213693952∧0≤s.c.rng∧s.c.rng≤1048576):AP C 117 s.enc [tI (Wk s)]:=by
 refine AP.of (fun n=>e117 n _ _ _ _ _ _ _ _ _ _ _ _ _ _ _) (Ev.of fun n => ?_)
 rw [AS (x:=2*s.c.rng) (by omega) (by omega),AS (x:=s.busy+2*s.c.rng) (by omega) (by omega),AS (by omega) (by omega)]
 rfl
theorem s116 (s:Snd):AP C 116 s.enc (Snd.enc {s with due:=0,st:=3}):=AP.of (fun n=>e116 n _ _ _ _ _ _ _ _ _ _ _ _ _ _ _) (Ev.of fun n=>rfl)
def EU (s:Snd):Prop:=(0≤s.ses∧s.ses≤1099511627776)∧(1≤s.data.size∧s.data.size≤65536)∧(s.c.start≤s.busy∧s.busy≤s.fin)∧s.fin≤s.c.fin∧(1≤s.ser∧s.ser≤1099511627776)
instance (s:Snd):Decidable (EU s):=by unfold EU;exact inferInstance
def Pq (s:Snd):Prop:=BB s.acked=0∧(s.acked=[]∨0≤D0 s.acked∧EJ s.acked≤s.data.size)
instance (s:Snd):Decidable (Pq s):=by unfold Pq;exact inferInstance
def Gm (s:Snd):Int:=if Ee s.c≠0 then 1 else if ¬EU s then 2 else if ¬Pq s then 1 else 0
theorem s184 (s:Snd):AP C 184 s.enc [tI (Gm s)]:=by
 refine AP.of (fun n=>e184 n _ _ _ _ _ _ _ _ _ _ _ _ _ _ _) ?_
 refine ((s55 s.c).and ((s92 s.ses 0 1099511627776).and ((s92 (s.data.size:Int) 1 65536).and ((s92 s.busy s.c.start s.fin).and ((s92 s.ser 1 1099511627776).and (s67 s.acked)))))).mono fun n h => ?_
 obtain ⟨h1,h2,h3,h4,h5,h6⟩:=h
 simp only [Con.enc] at h1
 unfold Gm
 by_cases hc:Ee s.c=0
 ·have hJ:∀(hp:Heap),Sw n (s.acked.map Span.enc) s.data (([.t (.bool (decide (¬EU s)))],hp):List AV×Heap)=some [tI (if ¬EU s then 2 else if ¬Pq s then 1 else 0)]:=by
   intro hp
   simp only [Sw,vv,vf,reduceCtorEq,Nat.reduceAdd,Nat.reduceEqDiff,h6,Span.enc]
   by_cases hr:EU s
   ·simp only [hr,vv,vf,reduceCtorEq,Nat.reduceAdd,Nat.reduceEqDiff,not_true_eq_false,Pq]
    by_cases ha:BB s.acked=0
    ·by_cases hl:s.acked=[]
     ·simp [hl,ha,AB]
      simp [BB,Cr]
     ·obtain ⟨g1,g2⟩:=LU hl
      obtain ⟨g3,g4⟩:=LQ hl
      have hp:=List.length_pos_iff.2 hl
      have hm:=Bf ha
      rw [AS (x:=(s.acked.length:Int)-1) (by omega) (by omega)]
      simp only [ha,bne_self_eq_false,vv,vf,reduceCtorEq,Nat.reduceAdd,Nat.reduceEqDiff,(show (0:Int)<(s.acked.length:Int) by omega),g1,g2,g4,(show ((s.acked.length:Int)-1).toNat=s.acked.length-1 by omega),g3,Span.enc,(show (0:Int)≤(s.acked.length:Int)-1 by omega),hl]
      simp only [AB]
      (repeat' split)<;>first|rfl|(exfalso;omega)
    ·simp [ha,AB]
   ·simp [hr,AB]
  simp only [h1,h2,h3,h4,h5,hc,vv,vf,reduceCtorEq,Nat.reduceAdd,Nat.reduceEqDiff,bne_self_eq_false,wi,ne_eq,not_true_eq_false]
  have hT:(decide (¬EU s))=true↔¬EU s:=decide_eq_true_iff
  by_cases q1:0≤s.ses∧s.ses≤1099511627776
  ·by_cases q2:1≤s.data.size∧s.data.size≤65536
   ·have q2':(1:Int)≤(s.data.size:Int)∧(s.data.size:Int)≤65536:=by omega
    by_cases q3:s.c.start≤s.busy∧s.busy≤s.fin
    ·by_cases q4:s.c.fin<s.fin
     ·have:(true:Bool)=decide (¬EU s):=by symm;rw [decide_eq_true_eq];unfold EU;omega
      simp only [q1,q2',q3,q4,vv,vf,reduceCtorEq,Nat.reduceAdd,Nat.reduceEqDiff]
      rw [this]
      exact hJ _
     ·have:(!decide (1≤s.ser∧s.ser≤1099511627776))=decide (¬EU s):=by
       rw [Bool.eq_iff_iff,decide_eq_true_eq,Bool.not_eq_true',decide_eq_false_iff_not]
       unfold EU
       constructor
       ·intro h h2;exact h h2.2.2.2.2
       ·intro h h2;exact h ⟨q1,q2,q3,by omega,h2⟩
      simp only [q1,q2',q3,q4,vv,vf,reduceCtorEq,Nat.reduceAdd,Nat.reduceEqDiff]
      rw [this]
      exact hJ _
    ·have:(true:Bool)=decide (¬EU s):=by symm;rw [decide_eq_true_eq];unfold EU;omega
     simp only [q1,q2',q3,vv,vf,reduceCtorEq,Nat.reduceAdd,Nat.reduceEqDiff]
     rw [this]
     exact hJ _
   ·have q2':¬((1:Int)≤(s.data.size:Int)∧(s.data.size:Int)≤65536):=by omega
    have:(true:Bool)=decide (¬EU s):=by symm;rw [decide_eq_true_eq];unfold EU;omega
    simp only [q1,q2',vv,vf,reduceCtorEq,Nat.reduceAdd,Nat.reduceEqDiff]
    rw [this]
    exact hJ _
  ·have:(true:Bool)=decide (¬EU s):=by symm;rw [decide_eq_true_eq];unfold EU;omega
   simp only [q1,vv,vf,reduceCtorEq,Nat.reduceAdd,Nat.reduceEqDiff]
   rw [this]
   exact hJ _
 ·simp [h1,hc,AB,vv,vf,reduceCtorEq,Nat.reduceAdd,Nat.reduceEqDiff]
end Ab
set_option linter.unusedVariables false
set_option linter.unusedSimpArgs false
namespace Ab
open Go
def fits (s:Snd):Bool:=decide ((s.st=1∧complete s=false∧s.due=Wk s)∨(s.st=2∧complete s=true∧s.due=0)∨(s.st=3∧s.due=0))
def GM (s:Snd):Int:=if Gm s≠0 then Gm s else if fits s=true then 0 else 19
theorem C2 {s:Snd} (h:Gm s=0):Ee s.c=0∧EU s∧Pq s:=by
 unfold Gm at h
 split at h
 ·cases h
 ·rename_i h1
  split at h
  ·cases h
  ·rename_i h2
   split at h
   ·cases h
   ·rename_i h3
    exact ⟨by omega,Classical.not_not.1 h2,Classical.not_not.1 h3⟩
theorem Dp {c:Con} (h:Ee c=0):F0 c∧0≤c.start∧c.start<c.fin∧c.fin≤1099511627776-2*c.rng:=by
 unfold Ee at h
 split at h
 ·cases h
 ·rename_i h1
  split at h
  ·cases h
  ·split at h
   ·cases h
   ·rename_i h3
    exact ⟨Classical.not_not.1 h1,by omega⟩
theorem due_ok {s:Snd} (h:Gm s=0) : -4611686018427387904≤s.busy∧s.busy≤2305843009213693952∧0≤s.c.rng∧s.c.rng≤1048576:=by
 obtain ⟨h1,h2,h3⟩:=C2 h
 obtain ⟨c1,c2⟩:=Dp h1
 unfold F0 at c1
 unfold EU at h2
 omega
theorem Ru (s:Snd):AP C 164 s.enc [tI (GM s)]:=by
 refine AP.of (fun n=>e164 n _ _ _ _ _ _ _ _ _ _ _ _ _ _ _) ?_
 unfold GM
 by_cases hc:Gm s=0
 ·have hl:=Bf (C2 hc).2.2.1
  refine ((s184 s).and ((s185 s hl).and (s117 s (due_ok hc)))).mono fun n h => ?_
  obtain ⟨h1,h2,h3⟩:=h
  simp only [Snd.enc] at h1 h2 h3
  simp only [h1,h2,h3,hc,vv,vf,reduceCtorEq,Nat.reduceAdd,Nat.reduceEqDiff,bne_self_eq_false,XT,HY,ne_eq,not_true_eq_false,fits]
  simp only [AB,beq_iff_eq,Bool.not_eq_true',decide_eq_false_iff_not]
  by_cases k1:s.st=1
  ·cases complete s<;>simp [k1]
   by_cases k2:s.due=Wk s<;>simp [k2]
  ·by_cases k2:s.st=2
   ·cases complete s<;>simp [k1,k2]
    by_cases k3:s.due=0<;>simp [k3]
   ·by_cases k3:s.st=3
    ·simp [k1,k2,k3]
     by_cases k4:s.due=0<;>simp [k4]
    ·simp [k1,k2,k3]
 ·refine (s184 s).mono fun n h1 => ?_
  simp only [Snd.enc] at h1
  simp [h1,hc,AB,vv,vf,reduceCtorEq,Nat.reduceAdd,Nat.reduceEqDiff]
theorem PO {l:List Span} {b:Int} (h:Canon b l) (hl:l≠[]):∀x∈l,D0 l≤x.fro∧x.to≤EJ l:=by
 induction l generalizing b with
 |nil=>exact (hl rfl).elim
 |cons y l ih=>
  intro x hx
  cases l with
  |nil=>
   simp only [List.mem_singleton] at hx
   subst hx
   exact ⟨Int.le_refl _,Int.le_refl _⟩
  |cons z l=>
   have e:EJ (y::z::l)=EJ (z::l):=by unfold EJ;rw [List.getLast?_cons_cons]
   rw [e]
   have k:=ih h.2.2 (by simp)
   have hz:D0 (z::l)=z.fro:=rfl
   have hy:D0 (y::z::l)=y.fro:=rfl
   have h1:=h.2.1
   have h2:=h.2.2.1
   rw [hy]
   rcases List.mem_cons.1 hx with rfl|hx
   ·have:=k z (by simp)
    have:=h.2.2.2.1
    omega
   ·have:=k x hx
    omega
theorem head_mem {l:List Span} (hl:l≠[]):∃x∈l,D0 l=x.fro:=⟨l.head hl,List.head_mem hl,(LU hl).2⟩
theorem WV {l:List Span} (hl:l≠[]):∃x∈l,EJ l=x.to:=⟨l.getLast hl,List.getLast_mem hl,(LQ hl).2⟩
def Bo (l:List Span) (n:Int):Prop:=∀x∈l,0≤x.fro∧x.to≤n
instance (l:List Span) (n:Int):Decidable (Bo l n):=by unfold Bo;exact inferInstance
theorem Bx {l:List Span} {n:Int} (h:BB l=0):(l=[]∨0≤D0 l∧EJ l≤n)↔Bo l n:=by
 have hc:=((Ai l).1 h).2.1
 by_cases hl:l=[]
 ·subst hl
  simp [Bo]
 ·constructor
  ·rintro (h|h)
   ·exact (hl h).elim
   ·intro x hx
    have:=PO hc hl x hx
    omega
  ·intro hw
   obtain ⟨x,hx,e1⟩:=head_mem hl
   obtain ⟨y,hy,e2⟩:=WV hl
   have:=hw x hx
   have:=hw y hy
   omega
theorem FD {l:List Span} {n t:Int} (h:Bo l n) (m:AO t l):0≤t∧t<n:=by
 induction l with
 |nil=>exact m.elim
 |cons x l ih=>
  rcases m with m|m
  ·have:=h x (by simp);omega
  ·exact ih (fun y hy=>h y (by simp [hy])) m
theorem GD {l:List Span} {b n:Int} (h:Canon b l) (hm:∀t,AO t l→0≤t∧t<n):Bo l n:=by
 induction l generalizing b with
 |nil=>intro x hx;cases hx
 |cons x l ih=>
  intro y hy
  rcases List.mem_cons.1 hy with rfl|hy
  ·have:=h.2.1
   have:=hm y.fro (.inl ⟨by omega,by omega⟩)
   have:=hm (y.to-1) (.inl ⟨by omega,by omega⟩)
   omega
  ·exact ih h.2.2 (fun t m=>hm t (.inr m)) y hy
theorem FA {d:ByteArray} (h:1≤d.size∧d.size≤65536):BB (AK d)=0:=by
 rw [Ai]
 refine ⟨by simp [AK],⟨by simp only;omega,by simp only;omega,trivial⟩,fun x hx => ?_⟩
 simp only [AK,List.mem_singleton] at hx
 subst hx
 simp only
 omega
theorem VC {l:List Span}:∀{b n:Int},Canon b l→b<n→(∀x∈l,x.to≤n)→(l.length:Int)≤n-b:=by
 induction l with
 |nil=>intro b n _ h _;simp;omega
 |cons x l ih=>
  intro b n h hb ht
  have h1:=h.1
  have h2:=h.2.1
  by_cases he:x.to<n
  ·have:=ih h.2.2 he (fun y hy=>ht y (by simp [hy]))
   simp only [List.length_cons]
   omega
  ·cases l with
   |nil=>simp;omega
   |cons y l=>
    have:=h.2.2.1
    have:=h.2.2.2.1
    have:=ht y (by simp)
    omega
theorem Ft {d:ByteArray} {a:List Span} (hd:1≤d.size∧d.size≤65536) (ha:BB a=0) (hw:Bo a d.size) :
  Canon (-1152921504606846977) (min_ (AK d) a)∧Bo (min_ (AK d) a) d.size∧∀t,AO t (min_ (AK d) a)↔(0≤t∧t<d.size)∧¬AO t a:=by
 obtain ⟨k1,k2⟩:=Qj ((Ai _).1 (FA hd)).2.1 ((Ai _).1 ha).2.1
 have hm:∀t,AO t (min_ (AK d) a)↔(0≤t∧t<d.size)∧¬AO t a:=fun t=>by
  rw [k2 t]
  simp [AK,AO]
 exact ⟨k1,GD k1 fun t m=>((hm t).1 m).1,hm⟩
theorem ML {d:ByteArray} {a:List Span} (hd:1≤d.size∧d.size≤65536) (ha:BB a=0) (hw:Bo a d.size):min_ (AK d) a=[]↔a=AK d:=by
 obtain ⟨k1,k2,k3⟩:=Ft hd ha hw
 constructor
 ·intro h
  rw [h] at k3
  refine Cw ((Ai _).1 ha).2.1 ((Ai _).1 (FA hd)).2.1 fun t => ?_
  have:=k3 t
  simp only [AO,false_iff] at this
  simp only [AK,AO,or_false]
  constructor
  ·exact fun m=>FD hw m
  ·intro h
   exact Classical.not_not.1 fun hn=>this ⟨h,hn⟩
 ·intro h
  cases hm:min_ (AK d) a with
  |nil=>rfl
  |cons x l=>
   rw [hm] at k1 k3
   have:=(k3 x.fro).1 (.inl ⟨Int.le_refl _,k1.2.1⟩)
   rw [h] at this
   exact (this.2 (by simp only [AK,AO];exact .inl this.1)).elim
end Ab
set_option linter.unusedVariables false
set_option linter.unusedSimpArgs false
namespace Ab
open Go
theorem Tj {d:ByteArray} {a:List Span} (hd:1≤d.size∧d.size≤65536) (ha:BB a=0):(min_ (AK d) a).length≤a.length+1:=by
 have h1:=(Ai _).1 (FA hd)
 have h2:=(Ai _).1 ha
 rw [← min_eq h1.2.1 h2.2.1 h1.2.2 h2.2.2]
 have e:WO (AK d) a=(L8 (-1152921504606846976) a).filterMap (piece ⟨0,d.size⟩):=by
  show List.flatMap _ [_]=_
  simp
 rw [e]
 exact Nat.le_trans (List.length_filterMap_le _ _) (QT _ _)
theorem Od {a b:List Span} (ha:BB a=0) (hb:BB b=0):(uni a b).length≤a.length+b.length:=by
 rw [← uni_eq ((Ai _).1 ha).2.1 ((Ai _).1 hb).2.1]
 clear ha hb
 induction b generalizing a with
 |nil=>simp [IJ]
 |cons x b ih=>
  have h1:=ih (a:=LB x a)
  have h2:=Qu x a
  show (IJ (LB x a) b).length≤_
  simp only [List.length_cons]
  omega
theorem left_eq {s:Snd} (hd:1≤s.data.size∧s.data.size≤65536) (ha:BB s.acked=0) (hk:s.acked.length≤900):DB s=min_ (AK s.data) s.acked:=by
 have:=Tj hd ha
 unfold DB O3
 rw [if_pos ⟨FA hd,ha⟩,if_neg (by omega)]
theorem WU {s:Snd} (hd:1≤s.data.size∧s.data.size≤65536) (ha:BB s.acked=0) (hw:Bo s.acked s.data.size) (hk:s.acked.length≤900):(DB s).length=0↔complete s=true:=by
 rw [left_eq hd ha hk,List.length_eq_zero_iff,ML hd ha hw]
 unfold complete
 rw [decide_eq_true_eq]
end Ab
set_option linter.unusedVariables false
set_option linter.unusedSimpArgs false
namespace Ab
open Go
def D2 (a b:Int):Int:=if (a / 16+1)*16<b then (a / 16+1)*16 else b
theorem FY {a b:Int} (h:a<b):a<D2 a b∧D2 a b≤b:=by
 unfold D2
 split<;>omega
def cut (a b:Int):List (Int×Int):=if h:a<b then (a,D2 a b)::cut (D2 a b) b else []
termination_by (b-a).toNat
decreasing_by have:=FY h;omega
theorem E2 {a b:Int} (h:a<b):cut a b=(a,D2 a b)::cut (D2 a b) b:=by rw [cut,dif_pos h]
theorem E3 {a b:Int} (h:¬a<b):cut a b=[]:=by rw [cut,dif_neg h]
def raw (d:ByteArray) (ses:Int) (p:Int×Int):Seg:=⟨1,ses,0,p.1,d.size,false,d.extract p.1.toNat p.2.toNat,[]⟩
def CD (d:ByteArray) (ses:Int) (l:List Span):List Seg:=l.flatMap fun x=>(cut x.fro x.to).map (raw d ses)
def DH (ser:Int) (l:List Seg):List Seg:=match l.getLast? with
 |some x=>l.dropLast++[{x with ser:=ser,chk:=true}]
 |none=>[]
structure MS where
 v:Nat
 at_:Int
 out:List Seg
structure NS where
 v:Nat
 out:List Seg
def JJ (d:ByteArray) (ses b:Int) (s:MS):NS:=⟨s.v+(cut s.at_ b).length,s.out++(cut s.at_ b).map (raw d ses)⟩
def Nu (d:ByteArray) (ses b:Int) (s:MS):Rd MS NS:=if s.at_<b then .next ⟨s.v+1,D2 s.at_ b,s.out++[raw d ses (s.at_,D2 s.at_ b)]⟩ else .done ⟨s.v,s.out⟩
def XK (b:Int) (K:Int) (s:MS):Prop:=0≤s.at_∧s.at_≤b∧(s.out.length:Int)≤K+s.at_
theorem Um {d:ByteArray} {ses b K:Int} {s s':MS} (h:XK b K s) (he:Nu d ses b s = .next s'):XK b K s'∧(b-s'.at_).toNat<(b-s.at_).toNat:=by
 unfold Nu at he
 split at he
 ·rename_i hq
  cases he
  have:=FY hq
  unfold XK at h ⊢
  simp only [List.length_append,List.length_cons,List.length_nil]
  omega
 ·cases he
theorem Un {d:ByteArray} {ses b:Int} (s:MS):JJ d ses b s=(Nu d ses b s).fin (JJ d ses b):=by
 unfold Nu
 split
 ·rename_i hq
  simp only [Rd.fin,JJ,E2 hq,List.length_cons,List.map_cons,List.append_assoc,List.cons_append,List.nil_append]
  congr 1
  omega
 ·rename_i hq
  simp [Rd.fin,JJ,E3 hq]
theorem U0 (l:List Seg):List.take l.length (List.map Seg.enc l)=List.map Seg.enc l:=by rw [List.take_of_length_le (by simp)]
theorem WZ (d:ByteArray) (ses:Int) (x:Span) (i:Nat) (v:Nat) (out:List Seg) (K:Int) (hx:0≤x.fro∧x.fro<x.to∧x.to≤d.size) (hd:d.size≤65536) (ho:(out.length:Int)≤K+x.fro) (hK:K≤65536000) (hi:i≤1000) (y11:List Tree) (hy:y11=x.enc) (H0:Heap) :
  Ev fun n=>∀z:(List AV×Heap)→Option (List Tree),AJ (fun (p12:List AV×Heap) again=>NB n y11 d ses z (([.t (tI i)],H0):List AV×Heap) p12 again) n (([.t (tI x.fro)],[.row false v 8 (out.map Seg.enc),.box [.sref 0 v 0 out.length],.box [],.box []]):List AV×Heap)=
   z (([.t (tI ((i+1:Nat):Int))],[.row false (JJ d ses x.to ⟨v,x.fro,out⟩).v 8 ((JJ d ses x.to ⟨v,x.fro,out⟩).out.map Seg.enc),.box [.sref 0 (JJ d ses x.to ⟨v,x.fro,out⟩).v 0 (JJ d ses x.to ⟨v,x.fro,out⟩).out.length],.box []]):List AV×Heap):=by
 subst hy
 refine DF (R:=List Tree) (Z:=(List AV×Heap)→Option (List Tree)) (B:=fun n z p again=>NB n x.enc d ses z (([.t (tI i)],H0):List AV×Heap) p again)
  (fun z (u:NS)=>z (([.t (tI ((i+1:Nat):Int))],[.row false u.v 8 (u.out.map Seg.enc),.box [.sref 0 u.v 0 u.out.length],.box []]):List AV×Heap))
  (fun (s:MS)=>(([.t (tI s.at_)],[.row false s.v 8 (s.out.map Seg.enc),.box [.sref 0 s.v 0 s.out.length],.box [],.box []]):List AV×Heap)) (Nu d ses x.to) (XK x.to K) (fun s=>(x.to-s.at_).toNat) (JJ d ses x.to) ⟨v,x.fro,out⟩ rfl ⟨hx.1,by simp only;omega,ho⟩ rfl (fun s hI=>Ev.of fun n z again => ?_) (fun s s' hI he=>Um hI he) (fun s _=>Un s)
 unfold XK at hI
 have e0:w64 (w64 (w64 (Int.tdiv s.at_ 16)+1)*16)=(s.at_ / 16+1)*16:=by
  rw [TC hI.1,AS (x:=s.at_ / 16) (by omega) (by omega),AS (x:=s.at_ / 16+1) (by omega) (by omega),AS (by omega) (by omega)]
 unfold Nu
 by_cases hq:s.at_<x.to
 ·have hc:=FY hq
  have e1:(if (s.at_ / 16+1)*16<x.to then (s.at_ / 16+1)*16 else x.to)=D2 s.at_ x.to:=rfl
  rw [if_pos hq]
  simp only [NB,vv,vf,reduceCtorEq,Nat.reduceAdd,Nat.reduceEqDiff,Span.enc,hq,e0,e1,U0,(show 0≤D2 s.at_ x.to by omega),(show D2 s.at_ x.to≤(d.size:Int) by omega),hI.1,(show s.at_≤((D2 s.at_ x.to).toNat:Int) by omega),Nat.le_refl,(show s.out.length+1≤1073741824 by omega),Rd.Ax,List.map_append,List.map_cons,List.map_nil,raw,Seg.enc,List.length_append]
 ·rw [if_neg hq]
  simp only [NB,vv,vf,reduceCtorEq,Nat.reduceAdd,Nat.reduceEqDiff,Span.enc,hq,Rd.BR,BV (show i<4611686018427387904 by omega)]
end Ab
set_option linter.unusedVariables false
set_option linter.unusedSimpArgs false
namespace Ab
open Go
theorem PI:∀(k:Nat) (a b:Int),(b-a).toNat≤k→((cut a b).length:Int)≤if a<b then b-a else 0
 |k,a,b,h=>by
  by_cases hq:a<b
  ·rw [E2 hq,if_pos hq]
   have hc:=FY hq
   cases k with
   |zero=>omega
   |succ k=>
    have:=PI k (D2 a b) b (by omega)
    simp only [List.length_cons]
    split at this<;>omega
  ·rw [E3 hq,if_neg hq]
   simp
theorem WL (d:ByteArray) (ses b:Int) (s:MS) (h:s.at_≤b):((JJ d ses b s).out.length:Int)≤s.out.length+(b-s.at_):=by
 have:=PI _ s.at_ b (Nat.le_refl _)
 simp only [JJ,List.length_append,List.length_map]
 split at this<;>omega
def M7 (l:List Span) (n:Int):Prop:=∀x∈l,0≤x.fro∧x.fro<x.to∧x.to≤n
def Qc (d:ByteArray) (ses:Int) (_:Nat) (s:NS) (x:Span):Rd NS (List Seg):=.next (JJ d ses x.to ⟨s.v,x.fro,s.out⟩)
theorem o_run (d:ByteArray) (ses ser:Int):∀(l:List Span) (i:Nat) (s:NS),Cr (Qc d ses) (fun s=>DH ser s.out) i l s=DH ser (s.out++CD d ses l)
 |[],i,s=>by simp [Cr,CD]
 |x::l,i,s=>by
  simp only [Cr,Qc]
  rw [o_run d ses ser l]
  simp [JJ,CD]
def OInv (i:Nat) (s:NS):Prop:=(s.out.length:Int)≤65536*i∧(i≠0→s.out≠[])
theorem Uj {d:ByteArray} {ses:Int} {x:Span} {i:Nat} {s s':NS} (hd:d.size≤65536) (hx:0≤x.fro∧x.fro<x.to∧x.to≤d.size) (h:OInv i s) (he:Qc d ses i s x = .next s'):OInv (i+1) s':=by
 cases he
 have:=WL d ses x.to ⟨s.v,x.fro,s.out⟩ (by simp only;omega)
 simp only at this
 refine ⟨by have:=h.1;omega,fun _ => ?_⟩
 simp [JJ,E2 hx.2.1]
theorem WW (pre:List Seg) (x:Seg):List.map Seg.enc (pre++[x])=List.map Seg.enc pre++[x.enc]:=by simp
theorem SL (l:List (List Tree)) (y:List Tree) (k:Nat) (h:k=l.length):(l++[y])[k]? = some y:=by
 subst h
 rw [List.getElem?_append_right (Nat.le_refl _)]
 simp
theorem Vg (l:List (List Tree)) (y:List Tree) (k:Nat) (h:k=l.length+1):List.take k (l++[y])=l++[y]:=by
 subst h
 rw [List.take_of_length_le (by simp)]
theorem Dm (ser:Int) (pre:List Seg) (x:Seg):DH ser (pre++[x])=pre++[{x with ser:=ser,chk:=true}]:=by
 unfold DH
 simp
theorem WE (d:ByteArray) (ses ser:Int) (l:List Span) (hl:l≠[]) (hl2:l.length≤1000) (hd:d.size≤65536) (hs:M7 l d.size) :
  Ev fun n=>AJ (fun (p9:List AV×Heap) again=>PZ n (l.map Span.enc) d ses ser p9 again) n (([.t (tI 0)],[.row false 0 8 [],.box [.sref 0 0 0 0],.box []]):List AV×Heap)=some [.sl 8 ((DH ser (CD d ses l)).map Seg.enc),tI 0]:=by
 refine CB (R:=List Tree) (fun (q:List Seg)=>[Tree.sl 8 (q.map Seg.enc),tI 0]) l (fun i (s:NS)=>(([.t (tI i)],[.row false s.v 8 (s.out.map Seg.enc),.box [.sref 0 s.v 0 s.out.length],.box []]):List AV×Heap)) (Qc d ses) (fun s=>DH ser s.out) OInv ⟨0,[]⟩ rfl ⟨by simp,fun h=>(h rfl).elim⟩ (by rw [o_run];rfl)
  (fun i s x hx hI => ?_) (fun i s x s' hx hI he=>Uj hd (hs x (List.mem_of_getElem? hx)) hI he) (fun s hI=>Ev.of fun n again => ?_)
 ·have hi:=Ap hx
  have hb:=hs x (List.mem_of_getElem? hx)
  have key:=WZ d ses x i s.v s.out ((s.out.length:Int)-x.fro) hb hd (by omega) (by have:=hI.1;omega) (by omega) x.enc rfl [.row false s.v 8 (s.out.map Seg.enc),.box [.sref 0 s.v 0 s.out.length],.box []]
  refine key.mono fun n h again => ?_
  have h':=h again
  simp only [Span.enc] at h'
  simp only [PZ,vv,vf,reduceCtorEq,Nat.reduceAdd,Nat.reduceEqDiff,(show (i:Int)<(l.length:Int) by omega),hx,Span.enc,h',Qc,Rd.Ax]
 ·have hne:s.out≠[]:=hI.2 (by intro h;exact hl (List.eq_nil_of_length_eq_zero h))
  obtain ⟨pre,x,hpx⟩:∃pre x,s.out=pre++[x]:=⟨s.out.dropLast,s.out.getLast hne,(List.dropLast_concat_getLast hne).symm⟩
  have hlen:=hI.1
  rw [hpx] at hlen
  simp only [List.length_append,List.length_cons,List.length_nil,Nat.zero_add] at hlen
  have e0:s.out.length=pre.length+1:=by rw [hpx];simp
  have e1:w64 (((pre.length+1:Nat):Int)-1)=(pre.length:Int):=by rw [AS (by omega) (by omega)];omega
  rw [hpx,Dm]
  simp only [PZ,vv,vf,reduceCtorEq,Nat.reduceAdd,Nat.reduceEqDiff,Int.lt_irrefl,WW,List.length_append,e1,(show (pre.length:Int)<((pre.length+1:Nat):Int) by omega),Nat.le_refl,SL (List.map Seg.enc pre) _ pre.length (by simp),Lm (List.map Seg.enc pre) _ _ pre.length (by simp),Vg (List.map Seg.enc pre) _ (pre.length+1) (by simp),Seg.enc,List.take,List.drop,List.cons_append,List.nil_append,Nat.reduceLeDiff]
def KZ (ses ser:Int) (d:ByteArray) (l:List Span):Int:=if ¬((0≤ses∧ses≤1099511627776)∧(1≤ser∧ser≤1099511627776)) then 2 else if d.size=0 then 20 else if 65536<d.size then 4 else if inside l d.size=false then 1 else if l=[] then 20 else 0
def BC (ses ser:Int) (d:ByteArray) (l:List Span):List Seg:=if KZ ses ser d l=0 then DH ser (CD d ses l) else []
theorem KH {l:List Span} {n:Int} (h:inside l n=true):M7 l n∧l.length≤1000:=by
 unfold inside at h
 have h:=of_decide_eq_true h
 have hw:=(Bx h.1).1 h.2
 have hc:=((Ai l).1 h.1).2.1
 exact ⟨fun x hx=>by have:=hw x hx;have:=Fx hc x hx;omega,Bf h.1⟩
theorem s118 (ses ser:Int) (d:ByteArray) (l:List Span):AP C 118 [tI ses,tI ser,.str d,.sl 2 (l.map Span.enc)] [.sl 8 ((BC ses ser d l).map Seg.enc),tI (KZ ses ser d l)]:=by
 refine AP.of (fun n=>e118 n _ _ _ _) ?_
 have hJ:Ev fun n=>Hb n d (l.map Span.enc) ses ser (([.t (.bool (decide (¬((0≤ses∧ses≤1099511627776)∧(1≤ser∧ser≤1099511627776)))))],[]):List AV×Heap)=some [.sl 8 ((BC ses ser d l).map Seg.enc),tI (KZ ses ser d l)]:=by
  unfold BC KZ
  by_cases h1:(0≤ses∧ses≤1099511627776)∧(1≤ser∧ser≤1099511627776)
  ·by_cases h2:d.size=0
   ·exact Ev.of fun n=>by simp [Hb,vv,vf,reduceCtorEq,Nat.reduceAdd,Nat.reduceEqDiff,h1,h2,AB,CI]
   ·by_cases h3:65536<d.size
    ·exact Ev.of fun n=>by simp [Hb,vv,vf,reduceCtorEq,Nat.reduceAdd,Nat.reduceEqDiff,h1,h2,h3,AB,CI,(show (65536:Int)<(d.size:Int) by omega)]
    ·by_cases h4:inside l d.size=false
     ·refine (s139 l d.size).mono fun n g => ?_
      simp [Hb,vv,vf,reduceCtorEq,Nat.reduceAdd,Nat.reduceEqDiff,h1,h2,h3,g,h4,AB,CI,(show ¬(65536:Int)<(d.size:Int) by omega)]
     ·have h4':inside l d.size=true:=by simpa using h4
      by_cases h5:l=[]
      ·refine (s139 l d.size).mono fun n g => ?_
       subst h5
       rw [h4'] at g
       simp only [List.map_nil] at g
       simp [Hb,vv,vf,reduceCtorEq,Nat.reduceAdd,Nat.reduceEqDiff,h1,h2,h3,g,h4',AB,CI,(show ¬(65536:Int)<(d.size:Int) by omega)]
      ·obtain ⟨g1,g2⟩:=KH h4'
       refine ((s139 l d.size).and (WE d ses ser l h5 g2 (by omega) g1)).mono fun n g => ?_
       have hp:=List.length_pos_iff.2 h5
       simp only [Hb,vv,vf,reduceCtorEq,Nat.reduceAdd,Nat.reduceEqDiff,h1,not_true_eq_false,CI,h2,h3,g.1,g.2,h4',h5,(show ¬(65536:Int)<(d.size:Int) by omega),(show ¬((l.length:Int)=0) by omega),beq_iff_eq]
  ·exact Ev.of fun n=>by simp only [Hb,vv,vf,reduceCtorEq,Nat.reduceAdd,Nat.reduceEqDiff,h1,not_false_eq_true];simp
 refine ((Eg ses 0 1099511627776).and ((Eg ser 1 1099511627776).and hJ)).mono fun n h => ?_
 obtain ⟨h1,h2,h3⟩:=h
 simp only [h1,h2,vv,vf,reduceCtorEq,Nat.reduceAdd,Nat.reduceEqDiff,wi]
 by_cases q1:0≤ses∧ses≤1099511627776
 ·have:(!decide (1≤ser∧ser≤1099511627776))=decide (¬((0≤ses∧ses≤1099511627776)∧(1≤ser∧ser≤1099511627776))):=by
   rw [Bool.eq_iff_iff,decide_eq_true_eq,Bool.not_eq_true',decide_eq_false_iff_not]
   simp only [q1,true_and,and_self]
  simp only [q1,vv,vf,reduceCtorEq,Nat.reduceAdd,Nat.reduceEqDiff]
  rw [this]
  exact h3
 ·have:(true:Bool)=decide (¬((0≤ses∧ses≤1099511627776)∧(1≤ser∧ser≤1099511627776))):=by symm;rw [decide_eq_true_eq];exact fun h=>q1 h.1
  simp only [q1,vv,vf,reduceCtorEq,Nat.reduceAdd,Nat.reduceEqDiff]
  rw [this]
  exact h3
end Ab
set_option linter.unusedVariables false
set_option linter.unusedSimpArgs false
namespace Ab
open Go
def AY (s:Snd):List Seg:=BC s.ses (s.ser+1) s.data (DB s)
theorem s94 (s:Snd) (h : -4611686018427387904≤s.ser∧s.ser≤4611686018427387904):AP C 94 s.enc [.sl 8 ((AY s).map Seg.enc)]:=by
 refine AP.of (fun n=>e94 n _ _ _ _ _ _ _ _ _ _ _ _ _ _ _) ?_
 refine ((s119 s).and (s118 s.ses (s.ser+1) s.data (DB s))).mono fun n g => ?_
 obtain ⟨g1,g2⟩:=g
 simp only [Snd.enc] at g1
 rw [AS (x:=s.ser+1) (by omega) (by omega)]
 simp only [g1,g2,vv,vf,reduceCtorEq,Nat.reduceAdd,Nat.reduceEqDiff,AY]
def Ar (r:Int):Int→List Seg→List Out
 |_,[]=>[]
 |t,x::l=>⟨t+B6 r x,x⟩::Ar r (t+B6 r x) l
def AZ (r:Int):Int→List Seg→Int
 |t,[]=>t
 |t,x::l=>AZ r (t+B6 r x) l
theorem Cf (r:Int):∀(l:List Seg) (t:Int),(Ar r t l).length=l.length
 |[],t=>rfl
 |x::l,t=>by simp [Ar,Cf r l]
theorem Ct (r:Int):∀(l:List Seg) (t:Int) (x:Seg),(Ar r t (l++[x]))=Ar r t l++[⟨AZ r t (l++[x]),x⟩]
 |[],t,x=>rfl
 |y::l,t,x=>by
  show _::Ar r _ (l++[x])=_
  rw [Ct r l]
  rfl
end Ab
set_option linter.unusedVariables false
set_option linter.unusedSimpArgs false
namespace Ab
open Go
structure TS where
 v:Nat
 at_:Int
 out:List Out
def DC (s:Snd):Snd:={s with due:=0,st:=3}
def Aw (s:Snd) (t ser:Int):Snd:={s with busy:=t,ser:=ser,due:=t+2*s.c.rng+1,st:=1}
theorem JZ (r:Int):∀(l:List Seg) (t:Int),t≤AZ r t l∧AZ r t l≤t+1000*l.length
 |[],t=>by simp [AZ]
 |x::l,t=>by
  have h1:=Py r x
  have h2:=JZ r l (t+B6 r x)
  simp only [AZ,List.length_cons]
  omega
theorem Cb (l:List Out):List.take l.length (List.map Out.enc l)=List.map Out.enc l:=by rw [List.take_of_length_le (by simp)]
def LH:AG :=.box [.t (tI 0),.t (tI 0),.t (tI 0),.t (tI 0),.t (tI 0),.t (tI 0),.t (tI 0),.t (tI 0),.t (.str (ByteArray.mk #[])),.t (tI 0),.t (tI 0),.t (tI 0),.t (.sl 2 []),.t (tI 0),.t (tI 0)]
def Oi (s:Snd):AG :=.box [.t (tI s.c.frm),.t (tI s.c.dst),.t (tI s.c.start),.t (tI s.c.fin),.t (tI s.c.rate),.t (tI s.c.rng),.t (tI s.c.loss),.t (tI s.ses),.t (.str s.data),.t (tI s.fin),.t (tI s.busy),.t (tI s.ser),.t (.sl 2 (s.acked.map Span.enc)),.t (tI s.due),.t (tI s.st)]
end Ab
set_option linter.unusedVariables false
set_option linter.unusedSimpArgs false
namespace Ab
open Go
theorem loop_at {S R α:Type} {B:Nat→S→(S→Option R)→Option R} {s:S} {out:R} (l:List α) (st:Nat→S) (hs:s=st 0)
  (hstep:∀i x,l[i]? = some x→Ev fun n=>∀again,B n (st i) again=again (st (i+1)))
  (hend:Ev fun n=>∀again,B n (st l.length) again=some out):Ev fun n=>AJ (B n) n s=some out:=by
 refine CB (Q:=R) (σ:=Unit) (fun q=>q) l (fun i _=>st i) (fun _ _ _ =>.next ()) (fun _=>out) (fun _ _=>True) () hs trivial ?_ (fun i _ x hx _ => ?_) (fun _ _ _ _ _ _ _=>trivial) (fun _ _=>hend)
 ·have:∀(l:List α) (i:Nat),Cr (fun (_:Nat) (_:Unit) (_:α)=>(Rd.next ():Rd Unit R)) (fun _=>out) i l ()=out:=by
   intro l
   induction l with
   |nil=>intro i;rfl
   |cons x l ih=>intro i;exact ih (i+1)
  exact this l 0
 ·exact (hstep i x hx).mono fun n h again=>by rw [h];rfl
theorem Oh {α:Type} {l:List α} {i:Nat} {x:α} (h:l[i]? = some x):l.take (i+1)=l.take i++[x]:=by
 rw [List.take_add_one,h];rfl
theorem Fv (r:Int):∀(l:List Seg) (t:Int) (x:Seg),AZ r t (l++[x])=AZ r t l+B6 r x
 |[],t,x=>rfl
 |y::l,t,x=>by simp only [List.cons_append,AZ];exact Fv r l _ x
def Bv (s:Snd) (t:Int) (l:List Seg):Snd×List Out:=
 match l.getLast? with
 |none=>(DC s,[])
 |some x=>if s.fin<AZ s.c.rate t l∨1099511627776<x.ser then (DC s,[]) else (Aw s (AZ s.c.rate t l) x.ser,Ar s.c.rate t l)
def Gz (p:Snd×List Out):List Tree:=p.1.enc++[.sl 9 (p.2.map Out.enc)]
theorem Lq (s:Snd) (t:Int) (l:List Seg) (hl2:l.length≤100000000) (ht:0≤t∧t≤4398046511104) (hr:0≤s.c.rng∧s.c.rng≤1048576):AP C 2005967 (s.enc++[tI t,.sl 8 (l.map Seg.enc)]) (Gz (Bv s t l)):=by
 refine AP.of (fun n=>Wh n _ _ _ _ _ _ _ _ _ _ _ _ _ _ _ _ _) ?_
 refine loop_at l (fun i=>(([.t (tI i)],[Oi s,LH,.box [.t (tI (AZ s.c.rate t (l.take i)))],.row false i 9 ((Ar s.c.rate t (l.take i)).map Out.enc),.box [.sref 3 i 0 i],.box []]):List AV×Heap)) rfl (fun i x hx => ?_) ?_
 ·have hi:=Ap hx
  have hb:=Py s.c.rate x
  have hE:=JZ s.c.rate (l.take i) t
  have hL:(l.take i).length=i:=by rw [List.length_take];omega
  have hO:=Cf s.c.rate (l.take i) t
  rw [hL] at hE hO
  refine (s137 s.c.rate x).mono fun n h again => ?_
  simp only [Seg.enc] at h
  have e9:List.take i (List.map Out.enc (Ar s.c.rate t (l.take i)))=List.map Out.enc (Ar s.c.rate t (l.take i)):=by rw [List.take_of_length_le (by simp [hO])]
  rw [Oh hx,Ct,Fv]
  simp only [GS,Oi,LH,vv,vf,reduceCtorEq,Nat.reduceAdd,Nat.reduceEqDiff,hx,(show (i:Int)<(l.length:Int) by omega),Seg.enc,h,AS (x:=AZ s.c.rate t (l.take i)+B6 s.c.rate x) (by omega) (by omega),BV (show i<4611686018427387904 by omega),e9,hO,Nat.le_refl,(show i+1≤1073741824 by omega),List.map_append,List.map_cons,List.map_nil,Out.enc,Nat.add_eq]
 ·rw [List.take_length]
  cases hx:l.getLast? with
  |none=>
   rw [List.getLast?_eq_none_iff] at hx
   subst hx
   refine (s116 s).mono fun n h again => ?_
   simp only [Snd.enc] at h
   simp only [GS,Oi,LH,vv,vf,reduceCtorEq,Nat.reduceAdd,Nat.reduceEqDiff,Int.lt_irrefl,h,Ar,List.map_nil]
   simp [AB,Gz,Bv,DC,Snd.enc,h,vv,vf,reduceCtorEq,Nat.reduceAdd,Nat.reduceEqDiff]
  |some x=>
   obtain ⟨pre,rfl⟩:∃pre,l=pre++[x]:=by
    rw [List.getLast?_eq_some_iff] at hx
    exact hx
   have hE:=JZ s.c.rate (pre++[x]) t
   have hO:=Cf s.c.rate pre t
   have hlen:(pre++[x]).length=pre.length+1:=by simp
   rw [hlen] at hE hl2 ⊢
   refine ((s116 s).and (s117 {s with busy:=AZ s.c.rate t (pre++[x]),ser:=x.ser,st:=1} (by simp only;omega))).mono fun n h again => ?_
   obtain ⟨h1,h2⟩:=h
   simp only [Snd.enc,Wk] at h1 h2
   have hb:((Ar s.c.rate t pre).map Out.enc++[Out.enc ⟨AZ s.c.rate t (pre++[x]),x⟩])[pre.length]? = some (Out.enc ⟨AZ s.c.rate t (pre++[x]),x⟩):=by
    rw [List.getElem?_append_right (by simp [hO])]
    simp [hO]
   have e1:w64 (((pre.length+1:Nat):Int)-1)=(pre.length:Int):=by rw [AS (by omega) (by omega)];omega
   have e2:¬(((pre.length+1:Nat):Int)=0):=by omega
   have e3:List.take (pre.length+1) ((Ar s.c.rate t pre).map Out.enc++[Out.enc ⟨AZ s.c.rate t (pre++[x]),x⟩])=(Ar s.c.rate t pre).map Out.enc++[Out.enc ⟨AZ s.c.rate t (pre++[x]),x⟩]:=by rw [List.take_of_length_le (by simp [hO])]
   rw [Ct]
   simp only [GS,Oi,LH,vv,vf,reduceCtorEq,Nat.reduceAdd,Nat.reduceEqDiff,Int.lt_irrefl,hlen,List.length_append,List.map_append,List.map_cons,List.map_nil,e1,beq_iff_eq,e2,hb,(show (pre.length:Int)<((pre.length+1:Nat):Int) by omega)]
   simp only [Out.enc] at e3
   simp only [Out.enc,vv,vf,reduceCtorEq,Nat.reduceAdd,Nat.reduceEqDiff]
   by_cases q1:s.fin<AZ s.c.rate t (pre++[x])
   ·simp only [GU,q1,vv,vf,reduceCtorEq,Nat.reduceAdd,Nat.reduceEqDiff,h1,Gz,Bv,List.getLast?_concat,DC,Snd.enc,List.map_nil,List.cons_append,List.nil_append]
   ·by_cases q2:1099511627776<x.ser
    ·simp only [GU,q1,q2,vv,vf,reduceCtorEq,Nat.reduceAdd,Nat.reduceEqDiff,h1,Gz,Bv,List.getLast?_concat,DC,Snd.enc,List.map_nil,List.cons_append,List.nil_append]
    ·simp only [GU,q1,q2,vv,vf,reduceCtorEq,Nat.reduceAdd,Nat.reduceEqDiff,h2,e3,Gz,Bv,List.getLast?_concat,Aw,Snd.enc,Ct,List.map_append,List.map_cons,List.map_nil,Out.enc,List.cons_append,List.nil_append]
end Ab
set_option linter.unusedVariables false
set_option linter.unusedSimpArgs false
namespace Ab
open Go
theorem E4:∀(k:Nat) (a b:Int),(b-a).toNat≤k→∀p∈cut a b,a≤p.1∧p.1<p.2∧p.2≤b∧p.2≤p.1+16
 |k,a,b,h,p,hp=>by
  by_cases hq:a<b
  ·rw [E2 hq] at hp
   have hc:=FY hq
   rcases List.mem_cons.1 hp with rfl|hp
   ·have:D2 a b≤a+16:=by unfold D2;split<;>omega
    exact ⟨Int.le_refl _,hc.1,hc.2,this⟩
   ·cases k with
    |zero=>omega
    |succ k=>
     have:=E4 k (D2 a b) b (by omega) p hp
     omega
  ·rw [E3 hq] at hp
   cases hp
theorem Wv {a b:Int} (h:a<b):cut a b≠[]:=by rw [E2 h];simp
structure Piece (d:ByteArray) (ses:Int) (x:Seg):Prop where
 kind:x.kind=1
 ses_:x.ses=ses
 ser:x.ser=0
 tot:x.tot=d.size
 chk:x.chk=false
 cl:x.AX=[]
 off:0≤x.off∧x.off<d.size
 sz:1≤x.data.size∧x.data.size≤16
 fit:(x.data.size:Int)≤d.size-x.off
theorem UY {d:ByteArray} {ses:Int} {p:Int×Int} (h:0≤p.1∧p.1<p.2∧p.2≤d.size∧p.2≤p.1+16):Piece d ses (raw d ses p):=by
 have hs:(raw d ses p).data.size=p.2.toNat-p.1.toNat:=by
  simp only [raw,ByteArray.size_extract]
  omega
 exact ⟨rfl,rfl,rfl,rfl,rfl,rfl,⟨h.1,by simp only [raw];omega⟩,by omega,by rw [hs];simp only [raw];omega⟩
theorem V9 {d:ByteArray} {ses:Int} {x:Seg} (h:Piece d ses x) (hs:0≤ses∧ses≤1099511627776) (hd:1≤d.size∧d.size≤65536):Cj x=0:=by
 have k:=h.kind
 have n:B5 x:=by
  unfold B5
  have:=h.ses_
  have:=h.tot
  have:=h.off
  refine ⟨by omega,by omega,by omega,fun _=>⟨by omega,by omega,fun hc => ?_,fun _=>h.ser⟩⟩
  rw [h.chk] at hc
  cases hc
 have c:Cl x:=by
  unfold Cl
  have:=h.tot
  have:=h.fit
  exact ⟨by omega,by omega,fun _=>⟨h.sz,by omega,h.cl⟩⟩
 unfold Cj
 rw [if_neg (by omega),if_neg (fun f=>f n),if_neg (fun f=>f c)]
theorem L0 {d:ByteArray} {ses:Int} {l:List Span} (h:M7 l d.size):∀x∈CD d ses l,Piece d ses x:=by
 intro x hx
 unfold CD at hx
 obtain ⟨y,hy,hx⟩:=List.mem_flatMap.1 hx
 obtain ⟨p,hp,rfl⟩:=List.mem_map.1 hx
 have h1:=h y hy
 have h2:=E4 _ y.fro y.to (Nat.le_refl _) p hp
 exact UY (by omega)
theorem Te {d:ByteArray} {ses:Int} {l:List Span} (h:M7 l d.size) (hl:l≠[]):CD d ses l≠[]:=by
 cases l with
 |nil=>exact absurd rfl hl
 |cons y l=>
  have h1:=h y (by simp)
  have h2:=Wv h1.2.1
  unfold CD
  rw [List.flatMap_cons]
  intro e
  exact h2 (List.map_eq_nil_iff.1 (List.append_eq_nil_iff.1 e).1)
theorem QL {d:ByteArray} {ses:Int}:∀{l:List Span} {b n:Int},Canon b l→b<n→(∀x∈l,x.to≤n)→((CD d ses l).length:Int)≤n-b
 |[],b,n,_,h,_=>by simp [CD];omega
 |x::l,b,n,h,hb,ht=>by
  have h1:=h.1
  have h2:=h.2.1
  have h3:=ht x (by simp)
  have h4:=PI _ x.fro x.to (Nat.le_refl _)
  rw [if_pos h2] at h4
  have e:(CD d ses (x::l)).length=(cut x.fro x.to).length+(CD d ses l).length:=by
   unfold CD
   rw [List.flatMap_cons,List.length_append,List.length_map]
  rw [e]
  by_cases he:x.to<n
  ·have:=QL (d:=d) (ses:=ses) h.2.2 he (fun y hy=>ht y (by simp [hy]))
   omega
  ·cases l with
   |nil=>
    simp only [CD,List.flatMap_nil,List.length_nil]
    omega
   |cons y l=>
    have:=h.2.2.1
    have:=h.2.2.2.1
    have:=ht y (by simp)
    omega
theorem Ih {l:List Span} {b n:Int} (h:Canon b l) (hw:Bo l n):Canon (-1) l:=by
 cases l with
 |nil=>trivial
 |cons x l=>exact ⟨by have:=hw x (by simp);omega,h.2⟩
structure Bat (d:ByteArray) (ses ser:Int) (l:List Seg):Prop where
 ex:∃pre x,l=pre++[{x with ser:=ser,chk:=true}]∧Piece d ses x∧∀y∈pre,Piece d ses y
 len:(l.length:Int)≤d.size+1
theorem N2 {l:List Span} {n:Int} (h:BB l=0) (hw:Bo l n):inside l n=true:=by
 unfold inside
 exact decide_eq_true ⟨h,(Bx h).2 hw⟩
theorem OO {ses ser:Int} {d:ByteArray} {l:List Span} (hs:0≤ses∧ses≤1099511627776) (hr:1≤ser∧ser≤1099511627776) (hd:1≤d.size∧d.size≤65536) (hi:inside l d.size=true) (hl:l≠[]):KZ ses ser d l=0:=by
 unfold KZ
 rw [if_neg (fun f=>f ⟨hs,hr⟩),if_neg (by omega),if_neg (by omega),if_neg (by rw [hi];simp),if_neg hl]
theorem Ms {ses ser:Int} {d:ByteArray} {l:List Span} (h:KZ ses ser d l=0):Bat d ses ser (BC ses ser d l):=by
 have h0:=h
 unfold KZ at h0
 split at h0
 ·cases h0
 split at h0
 ·cases h0
 split at h0
 ·cases h0
 split at h0
 ·cases h0
 split at h0
 ·cases h0
 rename_i k1 k2 k3 k4 k5
 have k4:inside l d.size=true:=by simpa using k4
 obtain ⟨g1,g2⟩:=KH k4
 have hn:=Te (ses:=ses) g1 k5
 obtain ⟨pre,x,hx⟩:∃pre x,CD d ses l=pre++[x]:=⟨_,_,(List.dropLast_concat_getLast hn).symm⟩
 have hp:=L0 (ses:=ses) g1
 rw [hx] at hp
 have e:BC ses ser d l=pre++[{x with ser:=ser,chk:=true}]:=by
  unfold BC
  rw [if_pos h,hx,Dm]
 refine ⟨⟨pre,x,e,hp x (by simp),fun y hy=>hp y (by simp [hy])⟩,?_⟩
 unfold inside at k4
 have k4:=of_decide_eq_true k4
 have hw:=(Bx k4.1).1 k4.2
 have:=QL (d:=d) (ses:=ses) (n:=d.size) (Ih ((Ai _).1 k4.1).2.1 hw) (by omega) (fun x hx=>(hw x hx).2)
 rw [hx] at this
 rw [e]
 simp only [List.length_append,List.length_cons,List.length_nil] at this ⊢
 omega
structure FOk (s:Snd):Prop where
 f:Gm s=0
 few:s.acked.length≤900
theorem FOk.dat {s:Snd} (h:FOk s):1≤s.data.size∧s.data.size≤65536:=(C2 h.f).2.1.2.1
theorem FOk.ack {s:Snd} (h:FOk s):BB s.acked=0:=(C2 h.f).2.2.1
theorem FOk.win {s:Snd} (h:FOk s):Bo s.acked s.data.size:=(Bx h.ack).1 (C2 h.f).2.2.2
theorem FOk.left {s:Snd} (h:FOk s):DB s=min_ (AK s.data) s.acked:=left_eq h.dat h.ack h.few
theorem FOk.ML {s:Snd} (h:FOk s):DB s=[]↔complete s=true:=by
 rw [← WU h.dat h.ack h.win h.few,List.length_eq_zero_iff]
theorem FOk.WT {s:Snd} (h:FOk s) (t:Int):AO t (DB s)↔(0≤t∧t<s.data.size)∧¬AO t s.acked:=by
 rw [h.left]
 exact (Ft h.dat h.ack h.win).2.2 t
theorem FOk.Qn {s:Snd} (h:FOk s):BB (DB s)=0:=by
 rw [h.left]
 obtain ⟨k1,k2,k3⟩:=Ft h.dat h.ack h.win
 have:=Tj h.dat h.ack
 have:=h.few
 have:=h.dat
 rw [Ai]
 exact ⟨by omega,k1,fun x hx=>by have:=k2 x hx;omega⟩
theorem FOk.Qm {s:Snd} (h:FOk s):Bo (DB s) s.data.size:=by
 rw [h.left]
 exact (Ft h.dat h.ack h.win).2.1
theorem FOk.rng {s:Snd} (h:FOk s):1≤s.c.rng∧s.c.rng≤1048576∧1≤s.c.rate∧s.c.rate≤1000∧0≤s.c.start∧s.c.fin≤1099511627776-2*s.c.rng:=by
 obtain ⟨c1,c2⟩:=Dp (C2 h.f).1
 unfold F0 at c1
 omega
theorem FOk.num {s:Snd} (h:FOk s):(0≤s.ses∧s.ses≤1099511627776)∧(s.c.start≤s.busy∧s.busy≤s.fin)∧s.fin≤s.c.fin∧(1≤s.ser∧s.ser≤1099511627776):=by
 have:=(C2 h.f).2.1
 unfold EU at this
 omega
theorem FOk.bat {s:Snd} (h:FOk s) (hc:complete s=false) (hr:s.ser<1099511627776):KZ s.ses (s.ser+1) s.data (DB s)=0:=by
 have:=h.num
 refine OO this.1 (by omega) h.dat (N2 h.Qn h.Qm) fun e => ?_
 rw [h.ML.1 e] at hc
 cases hc
theorem VG {s:Snd} (hr:s.ser=1099511627776):AY s=[]:=by
 unfold AY BC
 rw [if_neg]
 unfold KZ
 rw [if_pos (by omega)]
 omega
end Ab
set_option linter.unusedVariables false
set_option linter.unusedSimpArgs false
namespace Ab
open Go
def FC:Snd:=⟨⟨0,0,0,0,0,0,0⟩,0,ByteArray.mk #[],0,0,0,[],0,0⟩
def Ds (p:Snd×List Out×Int):List Tree:=p.1.enc++[.sl 9 (p.2.1.map Out.enc),tI p.2.2]
def Cu (e:Int):Snd×List Out×Int:=(FC,[],e)
def BE (c:Con) (ses:Int) (d:ByteArray) (e:Int):Snd:=⟨c,ses,d,e,0,0,[],0,0⟩
def A7 (c:Con) (ses:Int) (d:ByteArray) (b e:Int):Snd×List Out×Int:=
 if Ee c≠0 then Cu 1 else if ¬(0≤ses∧ses≤1099511627776) then Cu 2 else if d.size=0 then Cu 20 else if 65536<d.size then Cu 4
 else if b<c.start∨e<b∨c.fin<e then Cu 2
 else if (Bv (BE c ses d e) b (BC ses 1 d (AK d))).1.st=3 then Cu 16
 else ((Bv (BE c ses d e) b (BC ses 1 d (AK d))).1,(Bv (BE c ses d e) b (BC ses 1 d (AK d))).2,0)
theorem PL:BB []=0:=by simp [BB,Cr]
theorem MK {d:ByteArray} (hd:1≤d.size∧d.size≤65536) (s:Snd) (h1:s.data=d) (h2:s.acked=[]):DB s=AK d:=by
 have e:DB s=min_ (AK d) []:=by
  have:=left_eq (s:=s) (by rw [h1];exact hd) (by rw [h2];exact PL) (by rw [h2];simp)
  rw [this,h1,h2]
 rw [e]
 obtain ⟨k1,k2,k3⟩:=Ft (a:=[]) hd PL (fun x hx=>by cases hx)
 exact Cw k1 ((Ai _).1 (FA hd)).2.1 fun t=>by rw [k3];simp [AO,AK]
theorem VT {d:ByteArray} (hd:1≤d.size∧d.size≤65536):inside (AK d) d.size=true:=N2 (FA hd) fun x hx=>by
 simp only [AK,List.mem_singleton] at hx
 subst hx
 exact ⟨Int.le_refl _,Int.le_refl _⟩
theorem E6 {ses:Int} {d:ByteArray} (hs:0≤ses∧ses≤1099511627776) (hd:1≤d.size∧d.size≤65536):KZ ses 1 d (AK d)=0:=OO hs (by omega) hd (VT hd) (by simp [AK])
theorem Bat.len2 {d:ByteArray} {ses ser:Int} {l:List Seg} (h:Bat d ses ser l) (hd:d.size≤65536):l.length≤100000000:=by
 have:=h.len
 omega
theorem P5 (c:Con) (ses:Int) (d:ByteArray) (b e:Int):AP C 2004367 (c.enc++[tI ses,.str d,tI b,tI e]) (Ds (A7 c ses d b e)):=by
 refine AP.of (fun n=>Wi n _ _ _ _ _ _ _ _ _ _ _) ?_
 by_cases h1:Ee c=0
 ·by_cases h2:0≤ses∧ses≤1099511627776
  ·by_cases h3:d.size=0
   ·refine ((s55 c).and (s92 ses 0 1099511627776)).mono fun n g => ?_
    obtain ⟨g1,g2⟩:=g
    simp only [Con.enc] at g1
    simp only [g1,g2,AN,Cb,vv,vf,reduceCtorEq,Nat.reduceAdd,Nat.reduceEqDiff,wi,h1,h2,bne_self_eq_false,CI,h3,A7,ne_eq,not_true_eq_false,Ds,Cu,FC,Snd.enc,List.map_nil,List.cons_append,List.nil_append]
   ·by_cases h4:65536<d.size
    ·refine ((s55 c).and (s92 ses 0 1099511627776)).mono fun n g => ?_
     obtain ⟨g1,g2⟩:=g
     simp only [Con.enc] at g1
     simp only [g1,g2,AN,Cb,vv,vf,reduceCtorEq,Nat.reduceAdd,Nat.reduceEqDiff,wi,h1,h2,bne_self_eq_false,CI,h3,h4,(show (65536:Int)<(d.size:Int) by omega),A7,ne_eq,not_true_eq_false,Ds,Cu,FC,Snd.enc,List.map_nil,List.cons_append,List.nil_append]
    ·by_cases h5:b<c.start∨e<b∨c.fin<e
     ·refine ((s55 c).and (s92 ses 0 1099511627776)).mono fun n g => ?_
      obtain ⟨g1,g2⟩:=g
      simp only [Con.enc] at g1
      have r:Ds (A7 c ses d b e)=Ds (Cu 2):=by simp only [A7,h1,h2,h3,h4,h5,ne_eq,not_true_eq_false,if_false,if_true,and_self]
      rw [r]
      simp only [g1,g2,AN,Cb,vv,vf,reduceCtorEq,Nat.reduceAdd,Nat.reduceEqDiff,wi,h1,h2,bne_self_eq_false,CI,h3,h4,(show ¬(65536:Int)<(d.size:Int) by omega)]
      by_cases q1:b<c.start
      ·simp only [Rg,q1,AN,Cb,vv,vf,reduceCtorEq,Nat.reduceAdd,Nat.reduceEqDiff,Ds,Cu,FC,Snd.enc,List.map_nil,List.cons_append,List.nil_append]
      ·by_cases q2:e<b
       ·simp only [Rg,q1,q2,AN,Cb,vv,vf,reduceCtorEq,Nat.reduceAdd,Nat.reduceEqDiff,Ds,Cu,FC,Snd.enc,List.map_nil,List.cons_append,List.nil_append]
       ·have q3:c.fin<e:=by omega
        simp only [Rg,q1,q2,q3,AN,Cb,vv,vf,reduceCtorEq,Nat.reduceAdd,Nat.reduceEqDiff,Ds,Cu,FC,Snd.enc,List.map_nil,List.cons_append,List.nil_append]
     ·have hd:1≤d.size∧d.size≤65536:=by omega
      obtain ⟨c1,c2⟩:=Dp h1
      unfold F0 at c1
      have hb:=E6 h2 hd
      have hl:=(Ms hb).len2 hd.2
      have e94:AY ⟨⟨0,0,0,0,0,0,0⟩,ses,d,0,0,0,[],0,0⟩=BC ses 1 d (AK d):=by
       unfold AY
       rw [MK hd _ rfl rfl]
       rfl
      have t37:=s94 ⟨⟨0,0,0,0,0,0,0⟩,ses,d,0,0,0,[],0,0⟩ (by simp)
      rw [e94] at t37
      refine ((s55 c).and ((s92 ses 0 1099511627776).and (t37.and (Lq (BE c ses d e) b _ hl (by omega) (by simp only [BE];omega))))).mono fun n g => ?_
      obtain ⟨g1,g2,g3,g4⟩:=g
      simp only [Con.enc] at g1
      have r:A7 c ses d b e=if (Bv (BE c ses d e) b (BC ses 1 d (AK d))).1.st=3 then Cu 16 else ((Bv (BE c ses d e) b (BC ses 1 d (AK d))).1,(Bv (BE c ses d e) b (BC ses 1 d (AK d))).2,0):=by
       simp only [A7,h1,h2,h3,h4,h5,ne_eq,not_true_eq_false,if_false,if_true,and_self]
      rw [r]
      generalize Bv (BE c ses d e) b (BC ses 1 d (AK d))=p at g4
      obtain ⟨p,o⟩:=p
      simp only [Snd.enc,BE,Gz,List.cons_append,List.nil_append,List.map_nil] at g3 g4
      have q1:¬b<c.start:=by omega
      have q2:¬e<b:=by omega
      have q3:¬c.fin<e:=by omega
      simp only [g1,g2,AN,Cb,vv,vf,reduceCtorEq,Nat.reduceAdd,Nat.reduceEqDiff,wi,h1,h2,bne_self_eq_false,CI,h3,h4,(show ¬(65536:Int)<(d.size:Int) by omega),Rg,q1,q2,q3,g3,g4,beq_iff_eq]
      by_cases hp:p.st=3
      ·simp only [hp,AN,Cb,vv,vf,reduceCtorEq,Nat.reduceAdd,Nat.reduceEqDiff,Ds,Cu,FC,Snd.enc,List.map_nil,List.cons_append,List.nil_append]
      ·simp only [hp,AN,Cb,vv,vf,reduceCtorEq,Nat.reduceAdd,Nat.reduceEqDiff,Ds,Snd.enc,List.cons_append,List.nil_append]
  ·refine ((s55 c).and (s92 ses 0 1099511627776)).mono fun n g => ?_
   obtain ⟨g1,g2⟩:=g
   simp only [Con.enc] at g1
   simp only [g1,g2,AN,Cb,vv,vf,reduceCtorEq,Nat.reduceAdd,Nat.reduceEqDiff,wi,h1,h2,bne_self_eq_false,A7,ne_eq,not_true_eq_false,not_false_eq_true,Ds,Cu,FC,Snd.enc,List.map_nil,List.cons_append,List.nil_append]
 ·refine (s55 c).mono fun n g1 => ?_
  simp only [Con.enc] at g1
  simp only [g1,AN,Cb,vv,vf,reduceCtorEq,Nat.reduceAdd,Nat.reduceEqDiff,h1,bne_iff_ne,ne_eq,not_false_eq_true,A7,Ds,Cu,FC,Snd.enc,List.map_nil,List.cons_append,List.nil_append]
theorem Bat.last {d:ByteArray} {ses ser:Int} {l:List Seg} (h:Bat d ses ser l):∃x,l.getLast? = some x∧x.ser=ser∧l≠[]:=by
 obtain ⟨pre,x,rfl,_⟩:=h.ex
 exact ⟨_,List.getLast?_concat ..,rfl,by simp⟩
end Ab
set_option linter.unusedVariables false
set_option linter.unusedSimpArgs false
namespace Ab
open Go
def Az (s:Snd) (x:Seg):Snd:={s with acked:=uni s.acked x.AX}
def G4 (s:Snd) (t:Int) (x:Seg):Snd×List Out:=
 if x.ser≠s.ser∨x.tot≠s.data.size then (s,[]) else if complete (Az s x)=true then ({Az s x with due:=0,st:=2},[]) else Bv (Az s x) t (AY (Az s x))
def Bb (s:Snd) (t:Int) (x:Seg):Snd×List Out×Int:=
 if GM s≠0∨Cj x≠0 then Cu 1 else if ¬(s.busy≤t∧t≤2199023255552) then Cu 2
 else if s.st≠1∨x.ses≠s.ses∨x.kind=1 then (s,[],0) else if x.kind=3 then (DC s,[],0)
 else ((G4 s t x).1,(G4 s t x).2,0)
def BL (l:List Seg):List Seg:=l.drop (l.length-1)
def C5 (s:Snd) (t:Int):Snd×List Out×Int:=
 if GM s≠0 then Cu 1 else if s.st≠1 then Cu 19 else if ¬(s.due≤t∧t≤2199023255552) then Cu 2
 else ((Bv s t (BL (AY s))).1,(Bv s t (BL (AY s))).2,0)
theorem KU {s:Snd} (h:GM s=0):Gm s=0∧fits s=true:=by
 unfold GM at h
 split at h
 ·rename_i h1;exact absurd h h1
 ·rename_i h1
  split at h
  ·rename_i h2;exact ⟨by omega,h2⟩
  ·cases h
theorem FOk.batch {s:Snd} (h:FOk s) (hc:complete s=false):s.ser=1099511627776∧AY s=[]∨s.ser<1099511627776∧Bat s.data s.ses (s.ser+1) (AY s):=by
 have:=h.num
 by_cases hr:s.ser=1099511627776
 ·exact .inl ⟨hr,VG hr⟩
 ·have hr:s.ser<1099511627776:=by omega
  exact .inr ⟨hr,Ms (h.bat hc hr)⟩
theorem FOk.ON {s:Snd} (h:FOk s) (hc:complete s=false):(AY s).length≤65537:=by
 have:=h.dat
 rcases h.batch hc with ⟨_,e⟩|⟨_,b⟩
 ·rw [e];simp
 ·have:=b.len
  omega
theorem SF (l:List Seg):(BL l).length≤1:=by
 unfold BL
 rw [List.length_drop]
 omega
theorem Ff (pre:List Seg) (x:Seg):BL (pre++[x])=[x]:=by
 unfold BL
 simp
structure GOk (x:Seg):Prop where
 g:Cj x=0
 few:x.AX.length≤100
theorem EN {x:Seg} (h:Cj x=0):(1≤x.kind∧x.kind≤3)∧B5 x∧Cl x:=by
 unfold Cj at h
 split at h
 ·cases h
 ·rename_i h1
  split at h
  ·cases h
  ·rename_i h2
   split at h
   ·cases h
   ·rename_i h3
    exact ⟨Classical.not_not.1 h1,Classical.not_not.1 h2,Classical.not_not.1 h3⟩
theorem GOk.cl {x:Seg} (h:GOk x) (hk:x.kind=2):BB x.AX=0∧Bo x.AX x.tot:=by
 have:=(EN h.g).2.2.2.1 hk
 have k4:=this.2.2
 unfold inside at k4
 have k4:=of_decide_eq_true k4
 exact ⟨k4.1,(Bx k4.1).1 k4.2⟩
theorem VV {a b:List Span} {n:Int} (ha:BB a=0) (hb:BB b=0) (wa:Bo a n) (wb:Bo b n) (hl:a.length+b.length≤1000) (hn:n≤65536):BB (uni a b)=0∧Bo (uni a b) n∧∀t,AO t (uni a b)↔AO t a∨AO t b:=by
 obtain ⟨k1,k2⟩:=Iw ((Ai _).1 ha).2.1 ((Ai _).1 hb).2.1
 have hw:Bo (uni a b) n:=GD k1 fun t m=>by
  rcases (k2 t).1 m with m|m
  ·exact FD wa m
  ·exact FD wb m
 have:=Od ha hb
 refine ⟨(Ai _).2 ⟨by omega,k1,fun x hx=>by have:=hw x hx;omega⟩,hw,k2⟩
theorem UD {s:Snd} {x:Seg} (h:FOk s) (hs:s.acked.length≤100) (g:GOk x) (hk:x.kind=2) (ht:x.tot=s.data.size):FOk (Az s x):=by
 obtain ⟨k1,k2⟩:=g.cl hk
 rw [ht] at k2
 have hd:=h.dat
 have:=g.few
 obtain ⟨u1,u2,u3⟩:=VV h.ack k1 h.win k2 (by omega) (by omega)
 refine ⟨?_,?_⟩
 ·obtain ⟨c1,c2,c3⟩:=C2 h.f
  unfold Gm
  have a1:EU (Az s x):=c2
  have a2:Pq (Az s x):=⟨u1,(Bx u1).2 u2⟩
  have a0:Ee (Az s x).c=0:=c1
  rw [if_neg (fun f=>f a0),if_neg (fun f=>f a1),if_neg (fun f=>f a2)]
 ·have:=Od h.ack k1
  have e:(Az s x).acked=uni s.acked x.AX:=rfl
  rw [e]
  omega
theorem VU {a b:List Span} (ha:BB a=0) (hb:BB b=0) (hl:a.length+b.length≤1000):C3 a b=uni a b∧EC a b=0:=by
 have:=Od ha hb
 unfold C3 EC
 simp [ha,hb,(show ¬1000<(uni a b).length by omega)]
theorem s186 (s:Snd) (t:Int) (x:Seg) (h:FOk s) (hs:s.acked.length≤100) (g:GOk x) (hk:x.kind=2) (ht:s.busy≤t∧t≤2199023255552):AP C 186 (s.enc++[tI t]++x.enc) (Gz (G4 s t x)):=by
 refine AP.of (fun n=>e186 n _ _ _ _ _ _ _ _ _ _ _ _ _ _ _ _ _ _ _ _ _ _ _ _) ?_
 obtain ⟨k1,k2⟩:=g.cl hk
 have hcl:=g.few
 obtain ⟨u1,u2⟩:=VU h.ack k1 (by omega)
 have t67:=s183 s.acked x.AX
 rw [Nf,u1,u2] at t67
 have hrng:=h.rng
 have hnum:=h.num
 by_cases q1:x.ser=s.ser
 ·by_cases q2:x.tot=s.data.size
  ·have hA:=UD h hs g hk q2
   by_cases q3:complete (Az s x)=true
   ·refine (t67.and (s185 (Az s x) (by have:=hA.few;omega))).mono fun n y => ?_
    obtain ⟨y1,y2⟩:=y
    simp only [Snd.enc,Az] at y2
    have r:G4 s t x=({Az s x with due:=0,st:=2},[]):=by unfold G4;rw [if_neg (by omega),if_pos q3]
    rw [r]
    unfold Az at q3
    simp only [y1,y2,AN,Cb,vv,vf,reduceCtorEq,Nat.reduceAdd,Nat.reduceEqDiff,q1,q2,q3,bne_self_eq_false,NG,Gz,Az,Snd.enc,List.map_nil,List.cons_append,List.nil_append]
   ·have q3':complete (Az s x)=false:=by simpa using q3
    have hbl:=hA.ON q3'
    refine (t67.and ((s185 (Az s x) (by have:=hA.few;omega)).and ((s94 (Az s x) (by have:=hA.num;omega)).and (Lq (Az s x) t (AY (Az s x)) (by omega) (by omega) (by simp only [Az];omega))))).mono fun n y => ?_
    obtain ⟨y1,y2,y3,y4⟩:=y
    have r:G4 s t x=Bv (Az s x) t (AY (Az s x)):=by unfold G4;rw [if_neg (by omega),if_neg q3]
    rw [r]
    rw [q3'] at y2
    generalize Bv (Az s x) t (AY (Az s x))=p at y4
    obtain ⟨p,o⟩:=p
    generalize AY (Az s x)=bb at y3 y4
    simp only [Snd.enc,Az,Gz,List.cons_append,List.nil_append] at y2 y3 y4
    simp only [y1,y2,y3,y4,AN,Cb,vv,vf,reduceCtorEq,Nat.reduceAdd,Nat.reduceEqDiff,q1,q2,bne_self_eq_false,NG,Gz,Snd.enc,List.cons_append,List.nil_append]
  ·refine t67.mono fun n y1 => ?_
   have r:G4 s t x=(s,[]):=by unfold G4;rw [if_pos (by omega)]
   rw [r]
   simp only [y1,AN,Cb,vv,vf,reduceCtorEq,Nat.reduceAdd,Nat.reduceEqDiff,q1,q2,bne_self_eq_false,bne_iff_ne,ne_eq,not_false_eq_true,NG,Gz,Snd.enc,List.map_nil,List.cons_append,List.nil_append]
 ·refine t67.mono fun n y1 => ?_
  have r:G4 s t x=(s,[]):=by unfold G4;rw [if_pos (by omega)]
  rw [r]
  simp only [y1,AN,Cb,vv,vf,reduceCtorEq,Nat.reduceAdd,Nat.reduceEqDiff,q1,bne_iff_ne,ne_eq,not_false_eq_true,NG,Gz,Snd.enc,List.map_nil,List.cons_append,List.nil_append]
theorem s187 (s:Snd) (t:Int) (x:Seg):AP C 187 (s.enc++[tI t]++x.enc) (Gz (DC s,[])):=by
 refine AP.of (fun n=>e187 n _ _ _ _ _ _ _ _ _ _ _ _ _ _ _ _ _ _ _ _ _ _ _ _) ?_
 refine (s116 s).mono fun n y => ?_
 simp only [Snd.enc] at y
 simp only [y,AN,Cb,vv,vf,reduceCtorEq,Nat.reduceAdd,Nat.reduceEqDiff,Gz,DC,Snd.enc,List.map_nil,List.cons_append,List.nil_append]
theorem We {s:Snd} (h:GM s=0) (hs:s.acked.length≤100):FOk s:=⟨(KU h).1,by omega⟩
theorem gok_of {x:Seg} (h:Cj x=0) (hx:x.AX.length≤100∨1000<x.AX.length):GOk x:=by
 refine ⟨h,?_⟩
 obtain ⟨k1,k2,k3⟩:=EN h
 have hkk:x.kind=1∨x.kind=2∨x.kind=3:=by omega
 rcases hkk with hk|hk|hk
 ·rw [(k3.2.2 hk).2.2];simp
 ·have:=(k3.2.1 hk).2.2
  unfold inside at this
  have:=Bf (of_decide_eq_true this).1
  omega
 ·rw [(k3.1 hk).2.2];simp
theorem s148 (s:Snd) (t:Int) (x:Seg) (hs:s.acked.length≤100) (hx:x.AX.length≤100∨1000<x.AX.length):AP C 148 (s.enc++[tI t]++x.enc) (Ds (Bb s t x)):=by
 refine AP.of (fun n=>e148 n _ _ _ _ _ _ _ _ _ _ _ _ _ _ _ _ _ _ _ _ _ _ _ _) ?_
 by_cases h1:GM s=0
 ·by_cases h2:Cj x=0
  ·have hF:=We h1 hs
   have hG:=gok_of h2 hx
   have hk:=(EN h2).1
   have hb:Ev fun n=>AA C n 164 s.enc=some [tI 0]∧AA C n 152 x.enc=some [tI 0]∧AA C n 92 [tI t,tI s.busy,tI 2199023255552]=some [.bool (wi t s.busy 2199023255552)]:=by
    have a:=Ru s
    have b:=Vt x
    rw [h1] at a
    rw [h2] at b
    exact a.and (b.and (s92 t s.busy 2199023255552))
   by_cases h3:s.busy≤t∧t≤2199023255552
   ·by_cases h4:s.st=1
    ·by_cases h5:x.ses=s.ses
     ·by_cases k1:x.kind=1
      ·refine hb.mono fun n g => ?_
       obtain ⟨g1,g2,g3⟩:=g
       simp only [Snd.enc,Seg.enc,wi] at g1 g2 g3
       rw [k1] at g2
       have r:Bb s t x=(s,[],0):=by unfold Bb;rw [if_neg (by omega),if_neg (by omega),if_pos (.inr (.inr k1))]
       rw [r]
       simp only [k1,g1,g2,g3,AN,Cb,vv,vf,reduceCtorEq,Nat.reduceAdd,Nat.reduceEqDiff,GV,bne_self_eq_false,h3,Int.reduceEq,Ds,Snd.enc,List.map_nil,List.cons_append,List.nil_append]
      ·by_cases k3:x.kind=3
       ·refine (hb.and (s187 s t x)).mono fun n g => ?_
        obtain ⟨⟨g1,g2,g3⟩,g4⟩:=g
        simp only [Snd.enc,Seg.enc,wi,Gz,DC,List.map_nil,List.cons_append,List.nil_append] at g1 g2 g3 g4
        rw [k3] at g2 g4
        have r:Bb s t x=(DC s,[],0):=by unfold Bb;rw [if_neg (by omega),if_neg (by omega),if_neg (by omega),if_pos k3]
        rw [r]
        simp only [k3,h4,h5] at g1 g2 g3 g4 ⊢
        simp only [k3,g1,g2,g3,g4,AN,Cb,vv,vf,reduceCtorEq,Nat.reduceAdd,Nat.reduceEqDiff,GV,Pk,bne_self_eq_false,h3,h4,h5,Int.reduceEq,Ds,DC,Snd.enc,List.map_nil,List.cons_append,List.nil_append]
       ·have k2:x.kind=2:=by omega
        refine (hb.and (s186 s t x hF hs hG k2 h3)).mono fun n g => ?_
        obtain ⟨⟨g1,g2,g3⟩,g4⟩:=g
        have r:Bb s t x=((G4 s t x).1,(G4 s t x).2,0):=by unfold Bb;rw [if_neg (by omega),if_neg (by omega),if_neg (by omega),if_neg k3]
        rw [r]
        generalize G4 s t x=p at g4
        obtain ⟨p,o⟩:=p
        simp only [Snd.enc,Seg.enc,wi,Gz,List.cons_append,List.nil_append] at g1 g2 g3 g4
        simp only [k2,h4,h5] at g1 g2 g3 g4 ⊢
        simp only [k2,g1,g2,g3,g4,AN,Cb,vv,vf,reduceCtorEq,Nat.reduceAdd,Nat.reduceEqDiff,GV,Pm,bne_self_eq_false,h3,h4,h5,Int.reduceEq,Ds,Snd.enc,List.cons_append,List.nil_append]
     ·refine hb.mono fun n g => ?_
      obtain ⟨g1,g2,g3⟩:=g
      simp only [Snd.enc,Seg.enc,wi,h4] at g1 g2 g3
      have r:Bb s t x=(s,[],0):=by unfold Bb;rw [if_neg (by omega),if_neg (by omega),if_pos (.inr (.inl h5))]
      rw [r]
      have hkk:x.kind=1∨x.kind=2∨x.kind=3:=by omega
      rcases hkk with k|k|k<;>rw [k] at g2<;>simp only [k,g1,g2,g3,AN,Cb,vv,vf,reduceCtorEq,Nat.reduceAdd,Nat.reduceEqDiff,GV,Pk,Pm,bne_self_eq_false,h3,h4,h5,bne_iff_ne,ne_eq,not_false_eq_true,not_true_eq_false,Int.reduceEq,Ds,Snd.enc,List.map_nil,List.cons_append,List.nil_append]
    ·refine hb.mono fun n g => ?_
     obtain ⟨g1,g2,g3⟩:=g
     simp only [Snd.enc,Seg.enc,wi] at g1 g2 g3
     have r:Bb s t x=(s,[],0):=by unfold Bb;rw [if_neg (by omega),if_neg (by omega),if_pos (.inl h4)]
     rw [r]
     have hkk:x.kind=1∨x.kind=2∨x.kind=3:=by omega
     rcases hkk with k|k|k<;>rw [k] at g2<;>simp only [k,g1,g2,g3,AN,Cb,vv,vf,reduceCtorEq,Nat.reduceAdd,Nat.reduceEqDiff,GV,Pk,Pm,bne_self_eq_false,h3,h4,bne_iff_ne,ne_eq,not_false_eq_true,not_true_eq_false,Int.reduceEq,Ds,Snd.enc,List.map_nil,List.cons_append,List.nil_append]
   ·refine hb.mono fun n g => ?_
    obtain ⟨g1,g2,g3⟩:=g
    simp only [Snd.enc,Seg.enc,wi] at g1 g2 g3
    have r:Bb s t x=Cu 2:=by unfold Bb;rw [if_neg (by omega),if_pos h3]
    rw [r]
    simp only [g1,g2,g3,AN,Cb,vv,vf,reduceCtorEq,Nat.reduceAdd,Nat.reduceEqDiff,GV,bne_self_eq_false,h3,Ds,Cu,FC,Snd.enc,List.map_nil,List.cons_append,List.nil_append]
  ·have r:Bb s t x=Cu 1:=by unfold Bb;rw [if_pos (.inr h2)]
   refine ((Ru s).and (Vt x)).mono fun n g => ?_
   obtain ⟨g1,g2⟩:=g
   rw [h1] at g1
   simp only [Snd.enc,Seg.enc] at g1 g2
   rw [r]
   simp only [g1,g2,AN,Cb,vv,vf,reduceCtorEq,Nat.reduceAdd,Nat.reduceEqDiff,GV,bne_self_eq_false,bne_iff_ne,ne_eq,not_false_eq_true,not_true_eq_false,h2,Ds,Cu,FC,Snd.enc,List.map_nil,List.cons_append,List.nil_append]
 ·have r:Bb s t x=Cu 1:=by unfold Bb;rw [if_pos (.inl h1)]
  refine (Ru s).mono fun n g1 => ?_
  simp only [Snd.enc] at g1
  rw [r]
  simp only [g1,AN,Cb,vv,vf,reduceCtorEq,Nat.reduceAdd,Nat.reduceEqDiff,GV,bne_iff_ne,ne_eq,not_false_eq_true,h1,Ds,Cu,FC,Snd.enc,List.map_nil,List.cons_append,List.nil_append]
end Ab
set_option linter.unusedVariables false
set_option linter.unusedSimpArgs false
namespace Ab
open Go
theorem NX (l:List Seg):List.map Seg.enc (BL l)=List.drop (l.length-1) (List.map Seg.enc l):=by
 unfold BL
 rw [List.map_drop]
theorem N6 {s:Snd} (h:GM s=0) (h4:s.st=1):complete s=false∧s.due=s.busy+2*s.c.rng+1:=by
 have:=(KU h).2
 unfold fits at this
 have:=of_decide_eq_true this
 have e:Wk s=s.busy+2*s.c.rng+1:=rfl
 rcases this with k|k|k
 ·exact ⟨k.2.1,by rw [k.2.2,e]⟩
 ·omega
 ·omega
theorem s149 (s:Snd) (t:Int) (hs:s.acked.length≤100):AP C 149 (s.enc++[tI t]) (Ds (C5 s t)):=by
 refine AP.of (fun n=>e149 n _ _ _ _ _ _ _ _ _ _ _ _ _ _ _ _) ?_
 by_cases h1:GM s=0
 ·have hF:=We h1 hs
  have hnum:=hF.num
  have hrng:=hF.rng
  by_cases h4:s.st=1
  ·obtain ⟨hc,hd⟩:=N6 h1 h4
   by_cases h3:s.due≤t∧t≤2199023255552
   ·have hl:=hF.ON hc
    refine ((Ru s).and ((s92 t s.due 2199023255552).and ((s94 s (by omega)).and (Lq s t (BL (AY s)) (by have:=SF (AY s);omega) (by omega) (by omega))))).mono fun n g => ?_
    obtain ⟨g1,g2,g3,g4⟩:=g
    have r:C5 s t=((Bv s t (BL (AY s))).1,(Bv s t (BL (AY s))).2,0):=by unfold C5;rw [if_neg (by omega),if_neg (by omega),if_neg (by omega)]
    rw [r]
    rw [NX] at g4
    generalize Bv s t (BL (AY s))=p at g4
    obtain ⟨p,o⟩:=p
    rw [h1] at g1
    generalize AY s=bb at g3 g4 hl
    simp only [Snd.enc,wi,Gz,List.cons_append,List.nil_append] at g1 g2 g3 g4
    simp only [h4] at g1 g3 g4 ⊢
    have e1:(if w64 ((bb.length:Int)-1)>0 then w64 ((bb.length:Int)-1) else 0)=((bb.length-1:Nat):Int):=by
     rw [AS (by omega) (by omega)]
     split<;>omega
    have e2:List.take bb.length (List.map Seg.enc bb)=List.map Seg.enc bb:=List.take_of_length_le (by simp)
    simp only [gt_iff_lt] at e1
    simp only [g1,g2,g3,AN,Cb,vv,vf,reduceCtorEq,Nat.reduceAdd,Nat.reduceEqDiff,bne_self_eq_false,h3,e1,e2,g4,(show ((bb.length-1:Nat):Int)≤(bb.length:Int) by omega),Ds,Snd.enc,List.cons_append,List.nil_append]
   ·refine ((Ru s).and (s92 t s.due 2199023255552)).mono fun n g => ?_
    obtain ⟨g1,g2⟩:=g
    have r:C5 s t=Cu 2:=by unfold C5;rw [if_neg (by omega),if_neg (by omega),if_pos h3]
    rw [r]
    rw [h1] at g1
    simp only [Snd.enc,wi] at g1 g2
    simp only [h4] at g1 ⊢
    simp only [g1,g2,AN,Cb,vv,vf,reduceCtorEq,Nat.reduceAdd,Nat.reduceEqDiff,bne_self_eq_false,h3,Ds,Cu,FC,Snd.enc,List.map_nil,List.cons_append,List.nil_append]
  ·refine (Ru s).mono fun n g1 => ?_
   have r:C5 s t=Cu 19:=by unfold C5;rw [if_neg (by omega),if_pos h4]
   rw [r]
   rw [h1] at g1
   simp only [Snd.enc] at g1
   simp only [g1,AN,Cb,vv,vf,reduceCtorEq,Nat.reduceAdd,Nat.reduceEqDiff,bne_self_eq_false,bne_iff_ne,ne_eq,not_false_eq_true,not_true_eq_false,h4,Ds,Cu,FC,Snd.enc,List.map_nil,List.cons_append,List.nil_append]
 ·have r:C5 s t=Cu 1:=by unfold C5;rw [if_pos h1]
  refine (Ru s).mono fun n g1 => ?_
  simp only [Snd.enc] at g1
  rw [r]
  simp only [g1,AN,Cb,vv,vf,reduceCtorEq,Nat.reduceAdd,Nat.reduceEqDiff,bne_iff_ne,ne_eq,not_false_eq_true,h1,Ds,Cu,FC,Snd.enc,List.map_nil,List.cons_append,List.nil_append]
end Ab
set_option linter.unusedVariables false
set_option linter.unusedSimpArgs false
namespace Ab
open Go
def tb (b:UInt8):List Tree:=[.int .u8 (b.toNat:Int)]
def bl (s:ByteArray):List UInt8:=s.data.toList
def mkB (l:List UInt8):ByteArray:=⟨l.toArray⟩
theorem WM (s:ByteArray):mkB (bl s)=s:=by
 obtain ⟨a⟩:=s
 simp [mkB,bl]
theorem K8 (l:List UInt8):bl (mkB l)=l:=by simp [mkB,bl]
theorem B4 (s:ByteArray):(bl s).length=s.size:=by
 obtain ⟨a⟩:=s
 simp [bl,ByteArray.size]
theorem Hl (l:List UInt8):(mkB l).size=l.length:=by rw [← B4,K8]
theorem Mr {a b:ByteArray} (h:bl a=bl b):a=b:=by rw [← WM a,← WM b,h]
theorem Nj (s:ByteArray):C4 s=(bl s).map tb:=rfl
theorem VE (s:ByteArray) (i:Nat):FL s i=(((bl s).getD i 0).toNat:Int):=by
 obtain ⟨⟨l⟩⟩:=s
 unfold FL bl
 by_cases h:i<l.length
 ·have h1:(ByteArray.mk ⟨l⟩)[i]? = some l[i]:=getElem?_pos (ByteArray.mk ⟨l⟩) i h
  rw [h1]
  simp [List.getD,h]
 ·have h1:(ByteArray.mk ⟨l⟩)[i]? = none:=getElem?_neg (ByteArray.mk ⟨l⟩) i h
  rw [h1]
  simp [List.getD,h]
theorem R8 (l:List UInt8):LO (l.map tb)=true:=by
 unfold LO
 rw [List.all_map,List.all_eq_true]
 exact fun x _=>rfl
theorem W0 (b:UInt8):RL (tb b)=b:=by
 simp [RL,tb]
theorem Ub (l:List UInt8) (s:ByteArray):bl (l.foldl ByteArray.push s)=bl s++l:=by
 induction l generalizing s with
 |nil=>simp
 |cons b l ih=>rw [List.foldl_cons,ih];simp [bl,ByteArray.push]
theorem Se (l:List UInt8):bytesOf (l.map tb)=mkB l:=by
 unfold bytesOf
 rw [List.map_map,show RL ∘ tb=id from funext W0,List.map_id]
 apply Mr
 rw [Ub,K8]
 rfl
def Lo (l:List UInt8) (p:Nat) (m:List UInt8):List UInt8:=l.take p++m++l.drop (p+m.length)
theorem J8 (l:List UInt8) (p:Nat) (m:List UInt8):A8 (l.map tb) p (m.map tb)=(Lo l p m).map tb:=by
 simp [A8,Lo,List.map_take,List.map_drop]
theorem rep_tb (k:Nat):List.replicate k ([Tree.int IntKind.u8 0]:List Tree)=(List.replicate k (0:UInt8)).map tb:=by
 rw [List.map_replicate];rfl
theorem EO (s:ByteArray) (i j:Nat):bl (s.extract i j)=((bl s).drop i).take (j-i):=by
 unfold bl
 rw [ByteArray.data_extract]
 simp [List.extract_eq_take_drop]
theorem Gs (l:List UInt8) (p:Nat) (m:List UInt8) (h:p+m.length≤l.length):(Lo l p m).length=l.length:=by
 simp only [Lo,List.length_append,List.length_take,List.length_drop]
 omega
theorem P3 (l:List UInt8) (p:Nat) (m:List UInt8) (h:p+m.length≤l.length) (i:Nat) :
  (Lo l p m).getD i 0=if p≤i∧i<p+m.length then m.getD (i-p) 0 else l.getD i 0:=by
 simp only [Lo,List.getD_eq_getElem?_getD,List.getElem?_append,List.length_take,List.length_append,List.getElem?_take,List.getElem?_drop]
 have e:min p l.length=p:=by omega
 simp only [e]
 by_cases h1:i<p
 ·rw [if_pos (by omega),if_pos h1,if_pos h1,if_neg (by omega)]
 ·rw [if_neg (c:=i<p) h1]
  by_cases h2:i<p+m.length
  ·rw [if_pos h2,if_pos ⟨by omega,h2⟩]
  ·rw [if_neg h2,if_neg (by omega),show p+m.length+(i-(p+m.length))=i by omega]
end Ab
set_option linter.unusedVariables false
set_option linter.unusedSimpArgs false
namespace Ab
open Go
structure Rcv where
 ses:Int
 tot:Int
 known:List Span
 data:ByteArray
 deriving DecidableEq
def Rcv.enc (r:Rcv):List Tree:=[tI r.ses,tI r.tot,.sl 2 (r.known.map Span.enc),.str r.data]
theorem OJ (l:List UInt8) (i:Nat):FL (mkB l) i=((l.getD i 0).toNat:Int):=by rw [VE,K8]
theorem extract_mk (l:List UInt8) (i j:Nat):(mkB l).extract i j=mkB ((l.drop i).take (j-i)):=Mr (by rw [EO,K8,K8])
theorem Hz (l:List UInt8):(mkB l==ByteArray.mk #[])=decide (l=[]):=by
 rw [CI,Hl]
 cases l<;>simp
theorem s205 (l:List UInt8) (hl:l.length≤1000000):AP C 205 [.str (mkB l),.int .u8 0] [.str (mkB (l.dropWhile (· == 0)))]:=by
 refine AP.of (fun n=>e205 n _ _) ?_
 refine Gn (fun (r:List UInt8)=>[Tree.str (mkB r)]) (fun (s:List UInt8)=>(([.t (.str (mkB s))],[]):List AV×Heap)) (fun s=>match s with
  |[]=>.done []
  |b::s=>if b=0 then .next s else .done (b::s)) (fun s=>s.length≤1000000) (fun s=>s.length) (fun s=>s.dropWhile (· == 0)) l rfl hl rfl
  (fun s hs=>Ev.of fun n again => ?_) (fun s s' hI h => ?_) (fun s hI => ?_)
 ·cases s with
  |nil=>simp [So,vv,Hl,AB,Rd.BR]
  |cons b s=>
   simp only [So,vv,vf,reduceCtorEq,Nat.reduceAdd,Nat.reduceEqDiff,Hl,OJ,extract_mk]
   simp only [List.length_cons,List.getD_cons_zero,List.drop_succ_cons,List.drop_zero,Nat.add_sub_cancel,List.take_length,AB]
   by_cases hb:b=0
   ·subst hb
    simp [Rd.Ax]
    intro h;omega
   ·have hbn:¬(b.toNat=0):=fun h=>hb (UInt8.toNat_inj.1 (by simpa using h))
    simp [hb,hbn,Rd.BR]
 ·cases s with
  |nil=>simp at h
  |cons b s=>
   simp only at h
   split at h
   ·simp only [Rd.next.injEq] at h
    subst h
    simp at hI ⊢
    omega
   ·simp at h
 ·cases s with
  |nil=>rfl
  |cons b s=>by_cases hb:b=0<;>simp [hb,Rd.fin,List.dropWhile_cons]
def FP (l:List UInt8):List UInt8:=(l.reverse.dropWhile (· == 0)).reverse
theorem Ld (l:List UInt8) (b:UInt8):FP (l++[b])=if b=0 then FP l else l++[b]:=by
 unfold FP
 rw [List.reverse_append]
 simp only [List.reverse_cons,List.reverse_nil,List.nil_append,List.singleton_append,List.dropWhile_cons]
 by_cases hb:b=0<;>simp [hb]
theorem IL (l:List UInt8):l=[]∨∃s b,l=s++[b]:=by
 by_cases h:l=[]
 ·exact .inl h
 ·exact .inr ⟨_,_,(List.dropLast_concat_getLast h).symm⟩
theorem s206 (l:List UInt8) (hl:l.length≤1000000):AP C 206 [.str (mkB l),.int .u8 0] [.str (mkB (FP l))]:=by
 refine AP.of (fun n=>e206 n _ _) ?_
 refine Gn (fun (r:List UInt8)=>[Tree.str (mkB r)]) (fun (s:List UInt8)=>(([.t (.str (mkB s))],[]):List AV×Heap)) (fun s=>if s.getLast? = some 0 then .next s.dropLast else .done s)
  (fun s=>s.length≤1000000) (fun s=>s.length) FP l rfl hl rfl
  (fun s hs=>Ev.of fun n again => ?_) (fun s s' hI h => ?_) (fun s hI => ?_)
 ·rcases IL s with rfl|⟨s,b,rfl⟩
  ·simp [Sn,Sv,vv,Hl,AB,Rd.BR]
  ·have hs':s.length+1≤1000000:=by simpa using hs
   have e:w64 (((s.length+1:Nat):Int)-1)=(s.length:Int):=by rw [LZ (by omega) (by omega)];simp
   simp only [Sn,Sv,vv,vf,reduceCtorEq,Nat.reduceAdd,Nat.reduceEqDiff,Hl,OJ,extract_mk,List.length_append,List.length_cons,List.length_nil,e]
   simp only [AB,List.getLast?_concat,Option.some.injEq,List.dropLast_concat,List.drop_zero,Int.toNat_natCast,Nat.sub_zero,List.take_left]
   have e2:(s++[b]).getD s.length 0=b:=by simp [List.getD]
   rw [e2]
   by_cases hb:b=0
   ·subst hb
    simp [Rd.Ax]
    first|omega|(rw [if_pos (by omega),if_pos (by omega)])
   ·have hbn:¬(b.toNat=0):=fun h=>hb (UInt8.toNat_inj.1 (by simpa using h))
    simp [hb,hbn,Rd.BR]
    try omega
 ·split at h
  ·rename_i hg
   simp only [Rd.next.injEq] at h
   subst h
   have:s≠[]:=fun e=>by simp [e] at hg
   have h2:s.length≠0:=fun e=>this (List.eq_nil_of_length_eq_zero e)
   simp only [List.length_dropLast]
   omega
  ·simp at h
 ·rcases IL s with rfl|⟨s,b,rfl⟩
  ·simp [Rd.fin,FP]
  ·rw [Ld]
   by_cases hb:b=0<;>simp [hb,Rd.fin]
def HP (l:List UInt8):Bool:=l.all (· == 0)
theorem N9:∀(l:List UInt8),l.dropWhile (· == 0)=[]↔HP l=true
 |[]=>by simp [HP]
 |b::l=>by
  have:=N9 l
  by_cases hb:b=0
  ·simp only [hb,List.dropWhile_cons,beq_self_eq_true,if_true,this,HP,List.all_cons,Bool.true_and]
  ·simp [hb,List.dropWhile_cons,HP]
theorem Rk (l:List UInt8):(FP l).dropWhile (· == 0)=[]↔HP l=true:=by
 rw [N9]
 have h:∀k:Nat,∀l:List UInt8,l.length≤k→(HP (FP l)=true↔HP l=true):=by
  intro k
  induction k with
  |zero=>intro l hl;have:l=[]:=List.eq_nil_of_length_eq_zero (by omega);subst this;simp [FP]
  |succ k ih=>
   intro l hl
   rcases IL l with rfl|⟨l,b,rfl⟩
   ·simp [FP]
   ·rw [Ld]
    by_cases hb:b=0
    ·rw [if_pos hb,ih l (by simp at hl;omega)]
     simp [HP,hb]
    ·rw [if_neg hb]
 exact h _ l (Nat.le_refl _)
theorem Q7 (p:UInt8→Bool):∀l:List UInt8,(l.dropWhile p).length≤l.length
 |[]=>Nat.le_refl _
 |b::l=>by
  rw [List.dropWhile_cons]
  have:=Q7 p l
  split<;>simp only [List.length_cons]<;>omega
theorem J48t (n:Nat) (s:ByteArray):NH n s ([.t (.bool true)],[])=some [.str s]:=by
 unfold NH
 exact CU rfl _ _
theorem J48f (n:Nat) (s t u:ByteArray) (h1:AA C n 206 [.str s,.int .u8 0]=some [.str t]) (h2:AA C n 205 [.str t,.int .u8 0]=some [.str u]):NH n s ([.t (.bool false)],[])=some [.str u]:=by
 have e1:FL (ByteArray.mk #[0]) 0=0:=by decide
 unfold NH
 rw [Je (show ¬(vB ([AV.t (Tree.bool false)],[]) 0=true) from Bool.false_ne_true),e1,h1]
 simp only [vv,vf,reduceCtorEq,Nat.reduceAdd,Nat.reduceEqDiff,h2]
theorem s178 (l:List UInt8) (hl:l.length≤1000000):∃t:List UInt8,(t=[]↔HP l=true)∧AP C 178 [.str (mkB l),.str (ByteArray.mk #[0])] [.str (mkB t)]:=by
 by_cases h:l=[]
 ·subst h
  refine ⟨[],by simp [HP],AP.of (fun n=>e178 n _) (Ev.of fun n => ?_)⟩
  have h1:∀X Y:Option (List Tree),cnd ((mkB []==ByteArray.mk #[])=true) X Y=X:=fun X Y=>CU (by rw [Hz];exact decide_eq_true rfl) X Y
  rw [join_eq,h1]
  exact J48t n (mkB [])
 ·refine ⟨(FP l).dropWhile (· == 0),Rk l,AP.of (fun n=>e178 n _) ?_⟩
  have hlen:(FP l).length≤l.length:=by
   unfold FP
   rw [List.length_reverse]
   refine Nat.le_trans (Q7 _ _) (by rw [List.length_reverse];exact Nat.le_refl _)
  refine ((s206 l hl).and (s205 (FP l) (by omega))).mono fun n hh => ?_
  have h1:∀X Y:Option (List Tree),cnd ((mkB l==ByteArray.mk #[])=true) X Y=Y:=fun X Y=>Je (by rw [Hz,decide_eq_false h];exact Bool.false_ne_true) X Y
  have h2:(ByteArray.mk #[0]==ByteArray.mk #[])=false:=by decide
  rw [join_eq,h1,h2]
  exact J48f n _ _ _ hh.1 hh.2
end Ab
set_option linter.unusedVariables false
set_option linter.unusedSimpArgs false
namespace Ab
open Go
def Sk (r:Rcv):Prop:=(0≤r.ses∧r.ses≤1099511627776)∧(r.tot = -1∨1≤r.tot∧r.tot≤65536)
def KnR (r:Rcv):Prop:=BB r.known=0∧(r.known=[]↔r.tot = -1)∧(r.known=[]∨0≤D0 r.known∧EJ r.known≤r.tot)
def Rb (r:Rcv):Prop:=∀i,i<r.data.size→(bl r.data).getD i 0≠0→AO i r.known
instance (r:Rcv):Decidable (Sk r):=by unfold Sk;exact inferInstance
instance (r:Rcv):Decidable (KnR r):=by unfold KnR;exact inferInstance
instance (r:Rcv):Decidable (Rb r):=by unfold Rb;exact inferInstance
def I3 (t:Int):Int:=if 0>t then 0 else t
def EM (r:Rcv):Int:=if ¬Sk r then 2 else if ¬KnR r then 1 else if (r.data.size:Int)≠I3 r.tot then 10 else if Rb r then 0 else 24
theorem Qk (t:Int):∀(l:List Span),AO t l↔l.any (fun x=>decide (x.fro≤t∧t<x.to))=true
 |[]=>by simp [AO]
 |x::l=>by
  simp only [AO,Qk t l,List.any_cons,Bool.or_eq_true,decide_eq_true_eq]
end Ab
set_option linter.unusedVariables false
set_option linter.unusedSimpArgs false
namespace Ab
open Go
def GH (D:List UInt8) (_:Nat) (a:Int) (x:Span):Rd Int Int:=if HP ((D.drop a.toNat).take (x.fro.toNat-a.toNat))=true then .next x.to else .done 24
def Mc (D:List UInt8) (a:Int):Int:=if HP (D.drop a.toNat)=true then 0 else 24
theorem W8 (l:List UInt8):HP l=true↔∀k,k<l.length→l.getD k 0=0:=by
 unfold HP
 rw [List.all_eq_true]
 constructor
 ·intro h k hk
  have:l.getD k 0=l[k]:=by simp [List.getD,hk]
  rw [this]
  simpa using h _ (List.getElem_mem hk)
 ·intro h x hx
  obtain ⟨k,hk,rfl⟩:=List.getElem_of_mem hx
  have:=h k hk
  have e:l.getD k 0=l[k]:=by simp [List.getD,hk]
  rw [e] at this
  simp [this]
theorem OU (D:List UInt8) (a b:Nat) (hb:b≤D.length):HP ((D.drop a).take (b-a))=true↔∀k,a≤k→k<b→D.getD k 0=0:=by
 rw [W8]
 have hg:∀k,k<b-a→((D.drop a).take (b-a)).getD k 0=D.getD (a+k) 0:=fun k hk=>by
  simp [List.getD_eq_getElem?_getD,List.getElem?_take,hk,List.getElem?_drop]
 constructor
 ·intro h k h1 h2
  have:=h (k-a) (by simp;omega)
  rw [hg _ (by omega),show a+(k-a)=k by omega] at this
  exact this
 ·intro h k hk
  simp at hk
  rw [hg k (by omega)]
  exact h _ (by omega) (by omega)
theorem Tw (D:List UInt8):∀(l:List Span) (i:Nat) (a:Int),Canon (a-1) l→Bo l D.length→0≤a→a≤D.length→
  (Cr (GH D) (Mc D) i l a=0∧(∀k:Nat,a≤k→k<D.length→D.getD k 0≠0→AO k l))∨(Cr (GH D) (Mc D) i l a=24∧∃k:Nat,a≤k∧k<D.length∧D.getD k 0≠0∧¬AO k l)
 |[],i,a,hc,hw,h0,h1=>by
  simp only [Cr,Mc]
  have key:=OU D a.toNat D.length (Nat.le_refl _)
  rw [List.take_of_length_le (by simp)] at key
  by_cases h:HP (D.drop a.toNat)=true
  ·rw [if_pos h]
   exact .inl ⟨rfl,fun k h2 h3 h4=>(h4 (key.1 h k (by omega) h3)).elim⟩
  ·rw [if_neg h]
   refine .inr ⟨rfl,?_⟩
   have h5:¬∀k,a.toNat≤k→k<D.length→D.getD k 0=0:=fun hh=>h (key.2 hh)
   simp only [Classical.not_forall] at h5
   obtain ⟨k,h6,h7,h8⟩:=h5
   exact ⟨k,by omega,h7,h8,fun h=>h⟩
 |x::l,i,a,hc,hw,h0,h1=>by
  obtain ⟨c1,c2,c3⟩:=hc
  have hx:=hw x (List.mem_cons_self)
  have key:=OU D a.toNat x.fro.toNat (by omega)
  simp only [Cr]
  by_cases h:HP ((D.drop a.toNat).take (x.fro.toNat-a.toNat))=true
  ·simp only [GH,h,if_true]
   have ih:=Tw D l (i+1) x.to (Dk c3 (by omega)) (fun y hy=>hw y (List.mem_cons_of_mem _ hy)) (by omega) (by omega)
   have hz:=key.1 h
   rcases ih with ⟨e,ih⟩|⟨e,k,k1,k2,k3,k4⟩
   ·refine .inl ⟨e,fun k k1 k2 k3 => ?_⟩
    by_cases hk:(k:Int)<x.fro
    ·exact (k3 (hz k (by omega) (by omega))).elim
    ·by_cases hk2:(k:Int)<x.to
     ·exact .inl ⟨by omega,hk2⟩
     ·exact .inr (ih k (by omega) k2 k3)
   ·refine .inr ⟨e,k,by omega,k2,k3,fun hm => ?_⟩
    rcases hm with hm|hm
    ·omega
    ·exact k4 hm
  ·simp only [GH,h,if_false,Bool.false_eq_true]
   refine .inr ⟨trivial,?_⟩
   have h5:¬∀k,a.toNat≤k→k<x.fro.toNat→D.getD k 0=0:=fun hh=>h (key.2 hh)
   simp only [Classical.not_forall] at h5
   obtain ⟨k,h6,h7,h8⟩:=h5
   refine ⟨k,by omega,by omega,h8,fun hm => ?_⟩
   rcases hm with hm|hm
   ·omega
   ·have:=Bh c3 hm
    omega
theorem s159 (r:Rcv):AP C 159 r.enc [tI (EM r)]:=by
 refine AP.of (fun n=>e159 n _ _ _ _) ?_
 unfold EM
 by_cases hr:Sk r
 ·have hr':=hr
  obtain ⟨⟨h1,h2⟩,h3⟩:=hr
  have hj:∀(J:List AV×Heap→Option (List Tree)),(cnd (decide (r.ses<0)=true) (J ([AV.t (Tree.bool true)],[])) (cnd (decide (r.ses>1099511627776)=true) (J ([AV.t (Tree.bool true)],[])) (cnd ((r.tot != -1)=true) (cnd (decide (r.tot<1)=true) (J ([AV.t (Tree.bool true)],[])) (J ([AV.t (Tree.bool (decide (r.tot>65536)))],[]))) (J ([AV.t (Tree.bool false)],[])))))=J ([AV.t (Tree.bool false)],[]):=fun J=>by
   simp only [AB,decide_eq_true_eq,bne_iff_ne]
   rw [if_neg (by omega),if_neg (by omega)]
   split
   ·rw [if_neg (by omega),decide_eq_false (by omega)]
   ·rfl
  simp only [join_eq]
  refine Ev.conv' (fun n h=>(hj _).trans h) ?_
  simp only [Sx,vv,vf,reduceCtorEq,Nat.reduceAdd,Nat.reduceEqDiff]
  refine Ev.rw (s67 r.known) (fun n h=>by simp only [h,vv,vf,reduceCtorEq,Nat.reduceAdd,Nat.reduceEqDiff];rfl) ?_
  rw [if_neg (not_not_intro hr')]
  have el:(r.known.length:Int)=0↔r.known=[]:=by
   rw [← List.length_eq_zero_iff];omega
  have eb:((r.known.length:Int)==0)=decide (r.known=[]):=by
   rw [Bool.eq_iff_iff,beq_iff_eq,decide_eq_true_eq,el]
  have eb2:(r.tot == -1)=decide (r.tot = -1):=by rw [Bool.eq_iff_iff,beq_iff_eq,decide_eq_true_eq]
  simp only [eb,eb2]
  by_cases hc:BB r.known=0
  ·simp only [hc,bne_self_eq_false,vv,vf,reduceCtorEq,Nat.reduceAdd,Nat.reduceEqDiff,Sy]
   by_cases he:(r.known=[]↔r.tot = -1)
   ·have e1:(! (decide (r.known=[])==decide (r.tot = -1)))=false:=by
     by_cases hx:r.known=[]
     ·simp [hx,he.1 hx]
     ·have hy:¬r.tot = -1:=fun h=>hx (he.2 h)
      simp [hx,hy]
    simp only [e1,vv,vf,reduceCtorEq,Nat.reduceAdd,Nat.reduceEqDiff]
    have hkn:KnR r↔(r.known=[]∨0≤D0 r.known∧EJ r.known≤r.tot):=⟨fun h=>h.2.2,fun h=>⟨hc,he,h⟩⟩
    have hstep:∀(J:List AV×Heap→Option (List Tree)),(cnd (0<(r.known.length:Int)) (Option.bind (Option.map Span.enc r.known[0]?) fun y11=>cnd (okI y11 0) (cnd (gI y11 0<0) (J ([AV.t (Tree.bool true)],[])) (cnd (0≤w64 ((r.known.length:Int)-1)) (Option.bind (Option.map Span.enc r.known[(w64 ((r.known.length:Int)-1)).toNat]?) fun y12=>cnd (okI y12 1) (J ([AV.t (Tree.bool (decide (r.tot<gI y12 1)))],[])) none) none)) none) (J ([AV.t (Tree.bool false)],[])))=J ([AV.t (Tree.bool (decide (¬KnR r)))],[]):=fun J=>by
     by_cases hl:r.known=[]
     ·have:KnR r:=hkn.2 (.inl hl)
      simp [hl,AB,this]
     ·obtain ⟨e1,e2⟩:=LU hl
      obtain ⟨e3,e4⟩:=LQ hl
      have hk:=Bf hc
      have hlen:r.known.length≠0:=fun e=>hl (List.eq_nil_of_length_eq_zero e)
      simp only [(show (0:Int)<r.known.length by omega),vv,vf,reduceCtorEq,Nat.reduceAdd,Nat.reduceEqDiff,e1,LZ (show r.known.length<4611686018427387904 by omega) (by omega),e3,Span.enc]
      rw [← e2,← e4]
      by_cases h3:D0 r.known<0
      ·have:¬KnR r:=fun h=>by rcases hkn.1 h with h|h;exact hl h;omega
       simp [h3,this,AB]
      ·by_cases h4:r.tot<EJ r.known
       ·have:¬KnR r:=fun h=>by rcases hkn.1 h with h|h;exact hl h;omega
        simp [h3,h4,this,AB]
       ·have:KnR r:=hkn.2 (.inr ⟨by omega,by omega⟩)
        simp [h3,h4,this,AB]
    refine Ev.conv' (fun n h=>(hstep _).trans h) ?_
    simp only [XV,vv,vf,reduceCtorEq,Nat.reduceAdd,Nat.reduceEqDiff]
    by_cases hk:KnR r
    ·simp only [hk,not_true_eq_false,vv,vf,reduceCtorEq,Nat.reduceAdd,Nat.reduceEqDiff]
     by_cases hs:(r.data.size:Int)=I3 r.tot
     ·have hb:((r.data.size:Int) != if 0>r.tot then 0 else r.tot)=false:=by simpa [I3] using hs
      have hsz:r.data.size≤65536:=by unfold I3 at hs;split at hs<;>omega
      rw [if_neg (not_not_intro hs)]
      simp only [gt_iff_lt] at hb
      simp only [hb,vv,vf,reduceCtorEq,Nat.reduceAdd,Nat.reduceEqDiff]
      have hW:Bo r.known (bl r.data).length:=by
       have hw:=(Bx hc).1 hk.2.2
       rw [B4,hs]
       intro x hx
       have:=hw x hx
       unfold I3
       split
       ·have ht:r.tot = -1:=by omega
        have:=he.2 ht
        rw [this] at hx
        cases hx
       ·exact this
      have hC:Canon (0-1) r.known:=by
       have h:=((Ai r.known).1 hc).2.1
       cases hkk:r.known with
       |nil=>trivial
       |cons x l=>
        rw [hkk] at h
        refine ⟨?_,h.2.1,h.2.2⟩
        have:=hW x (by rw [hkk];exact List.mem_cons_self)
        omega
      have hlen:=Bf hc
      have hd:r.data=mkB (bl r.data):=(WM _).symm
      refine CB (fun (r:Int)=>[tI r]) r.known (fun i (a:Int)=>(([.t (tI i)],[.box [.t (tI a)]]):List AV×Heap)) (GH (bl r.data)) (Mc (bl r.data)) (fun i a=>Canon (a-1) (r.known.drop i)∧0≤a∧a≤r.data.size) 0 rfl ⟨by simpa using hC,by omega,by omega⟩
       ?_ (fun i a x hx hI => ?_) (fun i a x a' hx hI h => ?_) (fun a hI => ?_)
      ·rcases Tw (bl r.data) r.known 0 0 hC hW (by omega) (by omega) with ⟨e,h⟩|⟨e,k,k1,k2,k3,k4⟩
       ·rw [e,if_pos]
        intro i hi hi2
        exact h i (by omega) (by rw [B4];exact hi) hi2
       ·rw [e,if_neg]
        intro h
        exact k4 (h k (by rw [B4] at k2;exact k2) k3)
      ·have hi:=Ap hx
       have hdr:r.known.drop i=x::r.known.drop (i+1):=by rw [List.drop_eq_getElem_cons hi];congr 1;rw [List.getElem?_eq_getElem hi] at hx;exact Option.some.inj hx
       obtain ⟨c1,c2,c3⟩:=hI
       rw [hdr] at c1
       have hx2:=hW x (List.mem_of_getElem? hx)
       rw [B4] at hx2
       obtain ⟨t,ht,h48⟩:=s178 (((bl r.data).drop a.toNat).take (x.fro.toNat-a.toNat)) (by simp;rw [B4];omega)
       refine h48.mono fun n h again => ?_
       have hxc:=c1.1
       have he:r.data.extract a.toNat x.fro.toNat=mkB (((bl r.data).drop a.toNat).take (x.fro.toNat-a.toNat)):=by
        apply Mr;rw [EO,K8]
       simp only [Sq,vv,vf,reduceCtorEq,Nat.reduceAdd,Nat.reduceEqDiff,hx,Span.enc,(show (i:Int)<r.known.length by omega),BV (show i<4611686018427387904 by omega)]
       rw [CU (by have:=c1.2.1;omega),CU (by omega),he,h]
       simp only [vv,vf,reduceCtorEq,Nat.reduceAdd,Nat.reduceEqDiff,Hz,GH,← ht]
       by_cases htt:t=[]<;>simp [htt,AB,Rd.Ax,Rd.BR]
      ·have hi:=Ap hx
       have hdr:r.known.drop i=x::r.known.drop (i+1):=by rw [List.drop_eq_getElem_cons hi];congr 1;rw [List.getElem?_eq_getElem hi] at hx;exact Option.some.inj hx
       obtain ⟨c1,c2,c3⟩:=hI
       rw [hdr] at c1
       have hx2:=hW x (List.mem_of_getElem? hx)
       rw [B4] at hx2
       unfold GH at h
       split at h
       ·simp only [Rd.next.injEq] at h
        subst h
        have:=c1.2.1
        have:=c1.1
        exact ⟨Dk c1.2.2 (by omega),by omega,by omega⟩
       ·cases h
      ·obtain ⟨c1,c2,c3⟩:=hI
       obtain ⟨t,ht,h48⟩:=s178 ((bl r.data).drop a.toNat) (by simp;rw [B4];omega)
       refine h48.mono fun n h again => ?_
       have he:r.data.extract a.toNat r.data.size=mkB ((bl r.data).drop a.toNat):=by
        apply Mr;rw [EO,K8,List.take_of_length_le (by simp;rw [B4];omega)]
       simp only [Sq,vv,vf,reduceCtorEq,Nat.reduceAdd,Nat.reduceEqDiff,Int.lt_irrefl]
       rw [CU (by omega),CU (by omega),he,h]
       simp only [vv,vf,reduceCtorEq,Nat.reduceAdd,Nat.reduceEqDiff,Hz,Mc,← ht]
       by_cases htt:t=[]<;>simp [htt,AB]
     ·have hb:((r.data.size:Int) != if 0>r.tot then 0 else r.tot)=true:=by simpa [I3] using hs
      rw [if_pos hs]
      simp only [gt_iff_lt] at hb
      simp only [hb,vv,vf,reduceCtorEq,Nat.reduceAdd,Nat.reduceEqDiff]
      exact Ev.of fun n=>by first|rfl|trivial
    ·simp only [hk,not_false_eq_true,vv,vf,reduceCtorEq,Nat.reduceAdd,Nat.reduceEqDiff]
     exact Ev.of fun n=>by first|rfl|trivial
   ·have e1:(! (decide (r.known=[])==decide (r.tot = -1)))=true:=by
     by_cases hx:r.known=[]<;>by_cases hy:r.tot = -1<;>simp_all
    have:¬KnR r:=fun h=>he h.2.1
    simp only [e1,this,not_false_eq_true,vv,vf,reduceCtorEq,Nat.reduceAdd,Nat.reduceEqDiff]
    exact Ev.of fun n=>by first|rfl|trivial
  ·have:(BB r.known != 0)=true:=by simpa using hc
   have h2:¬KnR r:=fun h=>hc h.1
   simp only [this,h2,Sy,not_false_eq_true,vv,vf,reduceCtorEq,Nat.reduceAdd,Nat.reduceEqDiff]
   exact Ev.of fun n=>by first|rfl|trivial
 ·rw [if_pos hr]
  refine Ev.of fun n => ?_
  unfold Sk at hr
  simp only [join_eq,Sx,vv,vf,reduceCtorEq,Nat.reduceAdd,Nat.reduceEqDiff,AB,bne_iff_ne]
  by_cases h1:r.ses<0
  ·simp [h1]
  ·by_cases h2:1099511627776<r.ses
   ·simp [h1,h2]
   ·have h3:r.tot ≠ -1:=by omega
    simp only [h1,h2,if_false,h3,ne_eq,not_false_eq_true,if_true]
    by_cases h4:r.tot<1
    ·simp [h4]
    ·simp [h4,show 65536<r.tot by omega]
end Ab
set_option linter.unusedVariables false
set_option linter.unusedSimpArgs false
namespace Ab
open Go
def sp (x:Seg):Span:=⟨x.off,x.off+x.data.size⟩
theorem Rq {x:Seg} (h:Cj x=0):0≤x.off∧x.off≤65536∧x.data.size≤16∧0≤x.tot∧x.tot≤65536:=by
 obtain ⟨hk,hn,hc⟩:=EN h
 unfold B5 at hn
 unfold Cl at hc
 by_cases h1:x.kind=1
 ·grind
 ·by_cases h2:x.kind=2
  ·grind
  ·have:x.kind=3:=by omega
   grind
theorem Dx {x:Seg} (h:Cj x=0) (h1:x.kind=1):1≤x.tot∧x.tot≤65536∧0≤x.off∧1≤x.data.size∧x.data.size≤16∧x.off+x.data.size≤x.tot∧x.AX=[]∧(x.chk=true→1≤x.ser∧x.ser≤1099511627776)∧0≤x.ses∧x.ses≤1099511627776:=by
 obtain ⟨hk,hn,hc⟩:=EN h
 unfold B5 at hn
 unfold Cl at hc
 grind
theorem s161 (r:Rcv) (x:Seg) (hx:Cj x=0):AP C 161 (r.enc++x.enc) [.sl 2 ((C3 r.known [sp x]).map Span.enc),tI (EC r.known [sp x])]:=by
 obtain ⟨h1,h2,h3,_⟩:=Rq hx
 refine AP.of (fun n=>e161 n _ _ _ _ _ _ _ _ _ _ _ _) ?_
 refine (s183 r.known [sp x]).mono fun n h => ?_
 rw [Nf] at h
 simp only [List.map_cons,List.map_nil,sp,Span.enc] at h
 rw [AS (x:=x.off+(x.data.size:Int)) (by omega) (by omega)]
 simp only [h,vv,vf,reduceCtorEq,Nat.reduceAdd,Nat.reduceEqDiff]
 rfl
theorem O4 {a b:List UInt8} (h:a.length=b.length):a=b↔∀k,k<a.length→a.getD k 0=b.getD k 0:=by
 constructor
 ·intro e k _;rw [e]
 ·intro hk
  apply List.ext_getElem h
  intro i h1 h2
  have:=hk i h1
  simpa [List.getD,h1,h2] using this
theorem JD (D:List UInt8) (a b k:Nat) (hb:b≤D.length) (hk:k<b-a):((D.drop a).take (b-a)).getD k 0=D.getD (a+k) 0:=by
 simp [List.getD_eq_getElem?_getD,List.getElem?_take,hk,List.getElem?_drop]
theorem part_eq (D E:List UInt8) (f t o:Nat) (h1:f<t) (h2:t≤D.length) (h3:o≤f) (h4:t-o≤E.length) :
  ((D.drop f).take (t-f)=(E.drop (f-o)).take ((t-o)-(f-o))↔∀k,f≤k→k<t→D.getD k 0=E.getD (k-o) 0):=by
 rw [O4 (by simp;omega)]
 constructor
 ·intro h k k1 k2
  have:=h (k-f) (by simp;omega)
  rw [JD D f t _ h2 (by omega),JD E (f-o) (t-o) _ h4 (by omega),show f+(k-f)=k by omega,show f-o+(k-f)=k-o by omega] at this
  exact this
 ·intro h k hk
  simp at hk
  rw [JD D f t _ h2 (by omega),JD E (f-o) (t-o) _ h4 (by omega),show f-o+k=f+k-o by omega]
  exact h _ (by omega) (by omega)
def agree (r:Rcv) (x:Seg):Prop:=∀i,i<x.data.size→AO (x.off+i) r.known→(bl r.data).getD (x.off.toNat+i) 0=(bl x.data).getD i 0
def F6 (r:Rcv) (x:Seg) (k:Span):Prop:=∀i,i<x.data.size→k.fro≤x.off+i→x.off+i<k.to→(bl r.data).getD (x.off.toNat+i) 0=(bl x.data).getD i 0
instance (r:Rcv) (x:Seg):Decidable (agree r x):=by unfold agree;exact inferInstance
instance (r:Rcv) (x:Seg) (k:Span):Decidable (F6 r x k):=by unfold F6;exact inferInstance
def D9 (r:Rcv) (x:Seg):Bool:=decide (x.kind=1∧x.ses=r.ses∧(r.tot = -1∨x.tot=r.tot)∧agree r x∧EC r.known [sp x]=0)
theorem VM (r:Rcv) (x:Seg):agree r x↔r.known.all (fun k=>decide (F6 r x k))=true:=by
 have hm:∀(t:Int) (l:List Span),AO t l↔∃k∈l,k.fro≤t∧t<k.to:=by
  intro t l
  induction l with
  |nil=>simp [AO]
  |cons y l ih=>simp only [AO,ih,List.mem_cons,exists_eq_or_imp]
 rw [List.all_eq_true]
 simp only [decide_eq_true_eq]
 unfold agree F6
 constructor
 ·intro h k hk i hi h1 h2
  exact h i hi ((hm _ _).2 ⟨k,hk,h1,h2⟩)
 ·intro h i hi hmem
  obtain ⟨k,hk,h1,h2⟩:=(hm _ _).1 hmem
  exact h k hk i hi h1 h2
theorem C1 {r:Rcv} (h:EM r=0):Sk r∧KnR r∧(r.data.size:Int)=I3 r.tot∧Rb r:=by
 unfold EM at h
 split at h
 ·omega
 ·rename_i h1
  split at h
  ·omega
  ·rename_i h2
   split at h
   ·omega
   ·rename_i h3
    split at h
    ·rename_i h4
     exact ⟨Classical.not_not.1 h1,Classical.not_not.1 h2,Classical.not_not.1 h3,h4⟩
    ·omega
theorem Ly {r:Rcv} (h:EM r=0):Bo r.known r.data.size:=by
 obtain ⟨h1,h2,h3,h4⟩:=C1 h
 have hw:=(Bx h2.1).1 h2.2.2
 rw [h3]
 intro x hx
 have:=hw x hx
 unfold I3
 split
 ·have ht:r.tot = -1:=by rcases h1.2 with h|h<;>omega
  have:=h2.2.1.2 ht
  rw [this] at hx
  cases hx
 ·exact this
theorem VA {l:List Span} {b:Int} (h:Canon b l):∀y∈l,y.fro<y.to:=fun y hy=>(Fx h y hy).2
theorem WY (r:Rcv) (x:Seg) (hr:EM r=0) (hx:Cj x=0) (hk:x.kind=1):Ev fun n=>∀z:List AV×Heap→Option (List Tree),AJ (fun p again=>PW n (r.known.map Span.enc) x.kind x.ses x.ser x.off x.tot x.chk x.data (x.AX.map Span.enc) r.ses r.tot r.data z p again) n ([.t (tI 0)],[.box []])=z ([.t (.bool (decide (agree r x)))],[.box []]):=by
 obtain ⟨c1,c2,c3,c4⟩:=C1 hr
 have hW:=Ly hr
 have hlen:=Bf c2.1
 obtain ⟨g1,g2,g3,g4,g5,g6,g7⟩:=Dx hx hk
 have hcan:=VA ((Ai r.known).1 c2.1).2.1
 have hsz:r.data.size≤65536:=by
  have:=c1.2
  unfold I3 at c3
  split at c3<;>omega
 refine MI r.known (fun i (_:Unit)=>(([.t (tI i)],[.box []]):List AV×Heap)) (fun _ (_:Unit) k=>if (fun k=>decide (F6 r x k)) k=true then .next () else .done false) (fun _=>true) (fun (z:List AV×Heap→Option (List Tree)) (q:Bool)=>z ([AV.t (Tree.bool q)],[AG.box []])) (fun _ _=>True) () rfl trivial ?_
  (fun i s k hk' hI=>Ev.of fun n z again => ?_) (fun _ _ _ _ _ _ _=>trivial) (fun s hI=>Ev.of fun n z again => ?_)
 ·rw [QD]
  rw [Bool.eq_iff_iff,decide_eq_true_eq,VM]
  by_cases h:r.known.all (fun k=>decide (F6 r x k))=true<;>simp [h]
 ·have hi:=Ap hk'
  have hkw:=hW k (List.mem_of_getElem? hk')
  have hkc:=hcan k (List.mem_of_getElem? hk')
  simp only [PW,vv,vf,reduceCtorEq,Nat.reduceAdd,Nat.reduceEqDiff,hk',Span.enc,(show (i:Int)<r.known.length by omega),BV (show i<4611686018427387904 by omega),AS (show -9223372036854775808≤x.off+(x.data.size:Int) by omega) (by omega),XU,Ae]
  have ef:(if x.off>k.fro then x.off else k.fro)=((if x.off>k.fro then x.off else k.fro).toNat:Int):=by split<;>omega
  generalize hf:(if x.off>k.fro then x.off else k.fro)=f at *
  generalize ht:(if x.off+(x.data.size:Int)<k.to then x.off+(x.data.size:Int) else k.to)=t at *
  have hf2:f=max x.off k.fro:=by rw [← hf];simp only [Int.max_def];split<;>split<;>omega
  have ht2:t=min (x.off+(x.data.size:Int)) k.to:=by rw [← ht];simp only [Int.min_def];split<;>split<;>omega
  by_cases hft:f<t
  ·have hok:F6 r x k↔(r.data.extract f.toNat t.toNat=x.data.extract (f-x.off).toNat (t-x.off).toNat):=by
    have key:=part_eq (bl r.data) (bl x.data) f.toNat t.toNat x.off.toNat (by omega) (by rw [B4];omega) (by omega) (by rw [B4];omega)
    have e1:(r.data.extract f.toNat t.toNat=x.data.extract (f-x.off).toNat (t-x.off).toNat)↔((bl r.data).drop f.toNat).take (t.toNat-f.toNat)=((bl x.data).drop (f.toNat-x.off.toNat)).take ((t.toNat-x.off.toNat)-(f.toNat-x.off.toNat)):=by
     rw [show (f-x.off).toNat=f.toNat-x.off.toNat by omega,show (t-x.off).toNat=t.toNat-x.off.toNat by omega,← EO,← EO]
     exact ⟨fun h=>by rw [h],fun h=>Mr h⟩
    rw [e1,key]
    unfold F6
    constructor
    ·intro h q h1 h2
     have:=h (q-x.off.toNat) (by omega) (by omega) (by omega)
     rw [show x.off.toNat+(q-x.off.toNat)=q by omega] at this
     exact this
    ·intro h i h1 h2 h3
     have:=h (x.off.toNat+i) (by omega) (by omega)
     rw [show x.off.toNat+i-x.off.toNat=i by omega] at this
     exact this
   rw [AS (x:=t-x.off) (by omega) (by omega),AS (x:=f-x.off) (by omega) (by omega)]
   rw [CU (show f<t from hft),CU (by omega),CU (by omega),CU (by omega),CU (by omega)]
   simp only [hok,bne,OM]
   by_cases he:r.data.extract f.toNat t.toNat=x.data.extract (f-x.off).toNat (t-x.off).toNat<;>simp [he,AB,Rd.Ax,Rd.BR]
  ·have hok:F6 r x k:=by
    intro i h1 h2 h3
    omega
   rw [Je (show ¬f<t from hft)]
   simp [hok,AB,Rd.Ax]
 ·simp only [PW,vv,vf,reduceCtorEq,Nat.reduceAdd,Nat.reduceEqDiff,Int.lt_irrefl,Ae]
theorem s160 (r:Rcv) (x:Seg) (hr:EM r=0) (hx:Cj x=0):AP C 160 (r.enc++x.enc) [.bool (D9 r x)]:=by
 refine AP.of (fun n=>e160 n _ _ _ _ _ _ _ _ _ _ _ _) ?_
 simp only [Ae]
 refine CB (fun (b:Bool)=>[Tree.bool b]) [0,1,2,3] (fun i (_:Unit)=>(([.t (tI i)],[.box []]):List AV×Heap)) (fun i (_:Unit) (_:Nat)=>if (match i with
  |0=>decide (x.kind=1∧x.ses=r.ses)
  |1=>decide (r.tot = -1∨x.tot=r.tot)
  |2=>decide (agree r x)
  |_=>decide (EC r.known [sp x]=0))=true then .next () else .done false) (fun _=>true) (fun i _=>0<i→x.kind=1) () rfl (fun h=>by omega) ?_
  (fun i s k hk hI => ?_) (fun i s k s' hk hI h h0 => ?_) (fun s hI=>Ev.of fun n again => ?_)
 ·unfold D9
  simp only [Cr]
  by_cases h1:x.kind=1<;>by_cases h2:x.ses=r.ses<;>by_cases h3:(r.tot = -1∨x.tot=r.tot)<;>by_cases h4:agree r x<;>by_cases h5:EC r.known [sp x]=0<;>simp [h1,h2,h3,h4,h5]
 ·have hi:i<4:=Ap hk
  have h40:=s161 r x hx
  rcases (show i=0∨i=1∨i=2∨i=3 by omega) with rfl|rfl|rfl|rfl
  ·refine Ev.of fun n again => ?_
   simp only [Kh,Ph,Kj,vv,vf,reduceCtorEq,Nat.reduceAdd,Nat.reduceEqDiff,Ae]
   by_cases h1:x.kind=1<;>by_cases h2:x.ses=r.ses<;>simp [h1,h2,AB,Rd.Ax,Rd.BR,vv,w64,wrap64]
  ·refine Ev.of fun n again => ?_
   simp only [Kh,Ph,Kj,vv,vf,reduceCtorEq,Nat.reduceAdd,Nat.reduceEqDiff,Ae]
   by_cases h1:r.tot = -1<;>by_cases h2:x.tot=r.tot<;>simp [h1,h2,AB,Rd.Ax,Rd.BR,vv,w64,wrap64]
  ·refine (WY r x hr hx (hI (by omega))).mono fun n h again => ?_
   simp only [Kh,Kj,vv,vf,reduceCtorEq,Nat.reduceAdd,Nat.reduceEqDiff,Ae,h]
   by_cases h1:agree r x<;>simp [h1,AB,Rd.Ax,Rd.BR,vv,w64,wrap64]
  ·refine h40.mono fun n h again => ?_
   simp only [Rcv.enc,Seg.enc,List.cons_append,List.nil_append] at h
   simp only [Kh,vv,vf,reduceCtorEq,Nat.reduceAdd,Nat.reduceEqDiff,Ae,h]
   by_cases h1:EC r.known [sp x]=0<;>simp [h1,AB,Rd.Ax,Rd.BR,vv,w64,wrap64]
 ·rcases (show i=0∨0<i by omega) with rfl|h1
  ·simp only at h
   split at h
   ·rename_i h2;simp only [decide_eq_true_eq] at h2;exact h2.1
   ·cases h
  ·exact hI h1
 ·simp only [Kh,vv,vf,reduceCtorEq,Nat.reduceAdd,Nat.reduceEqDiff]
  simp [AB,vv]
end Ab
set_option linter.unusedVariables false
set_option linter.unusedSimpArgs false
namespace Ab
open Go
end Ab
set_option linter.unusedVariables false
set_option linter.unusedSimpArgs false
namespace Ab
open Go
theorem s163 (es:List (List Tree)) (hl:es.length≤1073741824):AP C 163 [.sl 2 es] [.sl 2 es]:=by
 refine AP.of (fun n=>e163 n _) (Ev.of fun n => ?_)
 by_cases h:es.length=0
 ·have:es=[]:=List.eq_nil_of_length_eq_zero h
  subst this
  simp [AB,AN]
 ·rw [CU h,CU hl,List.take_of_length_le (Nat.le_refl _)]
def Dt (k:Nat):List UInt8:=List.replicate k 0
def De (r:Rcv) (x:Seg):List UInt8:=Lo (Lo (Dt x.tot.toNat) 0 (bl r.data)) x.off.toNat (bl x.data)
def Bn (r:Rcv) (x:Seg):Seg:=⟨2,r.ses,x.ser,0,x.tot,false,ByteArray.mk #[],C3 r.known [sp x]⟩
def Cg (r:Rcv) (x:Seg):Rcv:=⟨r.ses,x.tot,C3 r.known [sp x],mkB (De r x)⟩
def zeroR:Rcv:=⟨0,0,[],ByteArray.mk #[]⟩
def Ez (r:Rcv) (x:Seg):Rcv×List Seg×Int:=
 if ¬(EM r=0∧Cj x=0) then (zeroR,[],1) else if D9 r x=false then (r,[],0) else (Cg r x,if x.chk=true then [Bn r x] else [],0)
def hearT (q:Rcv×List Seg×Int):List Tree:=[tI q.1.ses,tI q.1.tot,.sl 2 (q.1.known.map Span.enc),.str q.1.data,.sl 8 (q.2.1.map Seg.enc),tI q.2.2]
theorem Gp {a b:List Span} (h:EC a b=0):BB a=0∧BB b=0∧C3 a b=uni a b∧BB (C3 a b)=0∧∀t,AO t (C3 a b)↔AO t a∨AO t b:=by
 unfold EC at h
 split at h
 ·rename_i hc
  split at h
  ·omega
  ·rename_i hl
   obtain ⟨h1,h2⟩:=Iw ((Ai _).1 hc.1).2.1 ((Ai _).1 hc.2).2.1
   have e:C3 a b=uni a b:=by unfold C3;rw [if_pos hc,if_neg hl]
   refine ⟨hc.1,hc.2,e,?_,by rw [e];exact h2⟩
   rw [e,Ai]
   refine ⟨by omega,h1,mem_top h1 fun t m => ?_⟩
   rcases (h2 t).1 m with m|m
   ·exact Of ((Ai _).1 hc.1).2.2 ((Ai _).1 hc.1).2.1 m
   ·exact Of ((Ai _).1 hc.2).2.2 ((Ai _).1 hc.2).2.1 m
 ·omega
theorem DL {r:Rcv} {x:Seg}:D9 r x=true↔x.kind=1∧x.ses=r.ses∧(r.tot = -1∨x.tot=r.tot)∧agree r x∧EC r.known [sp x]=0:=by unfold D9;rw [decide_eq_true_eq]
theorem Ku {r:Rcv} {x:Seg} (hr:EM r=0) (hx:Cj x=0) (hs:D9 r x=true):Bo (C3 r.known [sp x]) x.tot∧C3 r.known [sp x]≠[]:=by
 obtain ⟨h1,h2,h3,h4,h5⟩:=DL.1 hs
 obtain ⟨g1,g2,g3,g4,g5,g6,g7⟩:=Dx hx h1
 obtain ⟨c1,c2,c3,c4⟩:=C1 hr
 obtain ⟨u1,u2,u3,u4,u5⟩:=Gp h5
 have hW:=Ly hr
 have hm:AO x.off (C3 r.known [sp x]):=(u5 _).2 (.inr (.inl ⟨Int.le_refl _,by show x.off<x.off+x.data.size;omega⟩))
 refine ⟨GD ((Ai _).1 u4).2.1 fun t m => ?_,fun e=>by rw [e] at hm;exact hm⟩
 rcases (u5 t).1 m with m|m
 ·have:=FD hW m
  have h0:r.tot ≠ -1:=fun h0=>by
   have:=c2.2.1.2 h0
   rw [this] at m
   exact m
  have:x.tot=r.tot:=by rcases h3 with h|h;exact (h0 h).elim;exact h
  have:(r.data.size:Int)=r.tot:=by rw [c3];unfold I3;rw [if_neg];rcases c1.2 with h|h<;>omega
  omega
 ·rcases m with m|m
  ·have m1:x.off≤t:=m.1
   have m2:t<x.off+x.data.size:=m.2
   omega
  ·exact m.elim
theorem RI {r:Rcv} {x:Seg} (hr:EM r=0) (hx:Cj x=0) (hs:D9 r x=true) (hc:x.chk=true):Cj (Bn r x)=0:=by
 obtain ⟨h1,h2,h3,h4,h5⟩:=DL.1 hs
 obtain ⟨g1,g2,g3,g4,g5,g6,g7,g8,g9⟩:=Dx hx h1
 obtain ⟨c1,c2,c3,c4⟩:=C1 hr
 obtain ⟨u1,u2,u3,u4,u5⟩:=Gp h5
 have hn:B5 (Bn r x):=by
  unfold B5 Bn
  simp only
  have:=c1.1
  have:=g8 hc
  grind
 have hk:Cl (Bn r x):=by
  have:inside (C3 r.known [sp x]) x.tot=true:=by
   unfold inside
   rw [decide_eq_true_eq]
   exact ⟨u4,(Bx u4).2 (Ku hr hx hs).1⟩
  unfold Cl Bn
  simp only [this]
  simp
  rfl
 unfold Cj
 rw [if_neg (not_not_intro (by simp [Bn])),if_neg (not_not_intro hn),if_neg (not_not_intro hk)]
theorem size_le {r:Rcv} {x:Seg} (hr:EM r=0) (hx:Cj x=0) (hs:D9 r x=true):r.data.size≤x.tot.toNat∧(r.data.size=0∨r.data.size=x.tot.toNat):=by
 obtain ⟨h1,h2,h3,h4,h5⟩:=DL.1 hs
 obtain ⟨g1,g2,g3,g4,g5,g6,g7,g8⟩:=Dx hx h1
 obtain ⟨c1,c2,c3,c4⟩:=C1 hr
 unfold I3 at c3
 rcases c1.2 with h|h
 ·rw [if_pos (by omega)] at c3;omega
 ·rw [if_neg (by omega)] at c3
  have:x.tot=r.tot:=by rcases h3 with h|h<;>omega
  omega
theorem s146 (r:Rcv) (x:Seg):AP C 146 (r.enc++x.enc) (hearT (Ez r x)):=by
 refine AP.of (fun n=>e146 n _ _ _ _ _ _ _ _ _ _ _ _) ?_
 simp only [join_eq]
 refine Ev.rw (s159 r) (fun n h=>by simp only [Rcv.enc] at h;simp only [h,vv,vf,reduceCtorEq,Nat.reduceAdd,Nat.reduceEqDiff];rfl) ?_
 unfold Ez
 by_cases hr:EM r=0
 ·simp only [hr,bne_self_eq_false,vv,vf,reduceCtorEq,Nat.reduceAdd,Nat.reduceEqDiff]
  refine Ev.rw (Vt x) (fun n h=>by simp only [Seg.enc] at h;simp only [h,vv,vf,reduceCtorEq,Nat.reduceAdd,Nat.reduceEqDiff];rfl) ?_
  by_cases hx:Cj x=0
  ·simp only [hx,bne_self_eq_false,Pn,vv,vf,reduceCtorEq,Nat.reduceAdd,Nat.reduceEqDiff,not_true_eq_false]
   refine Ev.rw (s160 r x hr hx) (fun n h=>by simp only [Rcv.enc,Seg.enc,List.cons_append,List.nil_append] at h;simp only [h,vv,vf,reduceCtorEq,Nat.reduceAdd,Nat.reduceEqDiff];rfl) ?_
   by_cases hs:D9 r x=true
   ·simp only [hs,vv,vf,reduceCtorEq,Nat.reduceAdd,Nat.reduceEqDiff]
    obtain ⟨h1,h2,h3,h4,h5⟩:=DL.1 hs
    obtain ⟨g1,g2,g3,g4,g5,g6,g7,g8⟩:=Dx hx h1
    have hsz:=(size_le hr hx hs).1
    refine Ev.rw (s161 r x hx) (fun n h=>by simp only [Rcv.enc,Seg.enc,List.cons_append,List.nil_append] at h;simp only [h,vv,vf,reduceCtorEq,Nat.reduceAdd,Nat.reduceEqDiff];rfl) ?_
    have hz:(Dt x.tot.toNat).length=x.tot.toNat:=by simp [Dt]
    have l1:(Lo (Dt x.tot.toNat) 0 (bl r.data)).length=x.tot.toNat:=by rw [Gs _ _ _ (by rw [B4,hz];omega),hz]
    have l2:(De r x).length=x.tot.toNat:=by unfold De;rw [Gs _ _ _ (by rw [B4,l1];omega),l1]
    have r1:List.take x.tot.toNat (C4 r.data)=(bl r.data).map tb:=by rw [Nj,List.take_of_length_le (by rw [List.length_map,B4];exact hsz)]
    have r2:List.take (x.tot.toNat-x.off.toNat) (C4 x.data)=(bl x.data).map tb:=by rw [Nj,List.take_of_length_le (by rw [List.length_map,B4];omega)]
    have r0:List.replicate x.tot.toNat ([Tree.int IntKind.u8 0]:List Tree)=(Dt x.tot.toNat).map tb:=rep_tb _
    have r3:A8 (A8 ((Dt x.tot.toNat).map tb) 0 ((bl r.data).map tb)) (0+x.off.toNat) ((bl x.data).map tb)=(De r x).map tb:=by
     rw [J8,Nat.zero_add,J8];rfl
    have r4:List.take x.tot.toNat ((De r x).map tb)=(De r x).map tb:=by rw [List.take_of_length_le (by rw [List.length_map,l2];exact Nat.le_refl _)]
    have r5:(A8 ((Dt x.tot.toNat).map tb) 0 ((bl r.data).map tb)).length=x.tot.toNat:=by rw [J8,List.length_map,l1]
    simp only [Nat.zero_add] at r3
    simp only [r0,r1,r2,r3,r4,r5,Nat.zero_add,R8,Se,vv,vf,reduceCtorEq,Nat.reduceAdd,Nat.reduceEqDiff]
    have k1:(0:Int)≤x.tot:=by omega
    have k2:x.tot≤1073741824:=by omega
    have k3:x.off≤(x.tot.toNat:Int):=by omega
    have k4:x.off.toNat<x.tot.toNat∨x.off.toNat=0 :=.inl (by omega)
    simp only [k1,k2,k3,k4,g3,vv,vf,reduceCtorEq,Nat.reduceAdd,Nat.reduceEqDiff]
    by_cases hc:x.chk=true
    ·simp only [hc,vv,vf,reduceCtorEq,Nat.reduceAdd,Nat.reduceEqDiff]
     refine Ev.rw (s163 ((C3 r.known [sp x]).map Span.enc) (by have:=Bf (Gp h5).2.2.2.1;rw [List.length_map];omega)) (fun n h=>by simp only [h,vv,vf,reduceCtorEq,Nat.reduceAdd,Nat.reduceEqDiff];rfl) ?_
     have hcl:=RI hr hx hs hc
     refine (s162 r.ses x.ser x.tot (C3 r.known [sp x])).mono fun n h => ?_
     unfold Bn at hcl
     rw [if_pos hcl] at h
     simp only [Seg.enc,List.cons_append,List.nil_append] at h
     simp only [h,bne_self_eq_false,vv,vf,reduceCtorEq,Nat.reduceAdd,Nat.reduceEqDiff]
     rfl
    ·have hc':x.chk=false:=by simpa using hc
     simp only [hc',vv,vf,reduceCtorEq,Nat.reduceAdd,Nat.reduceEqDiff]
     exact Ev.of fun n=>rfl
   ·have hs':D9 r x=false:=by simpa using hs
    simp only [hs',vv,vf,reduceCtorEq,Nat.reduceAdd,Nat.reduceEqDiff]
    exact Ev.of fun n=>rfl
  ·have hb:(Cj x != 0)=true:=by simpa using hx
   simp only [hb,hx,Pn,vv,vf,reduceCtorEq,Nat.reduceAdd,Nat.reduceEqDiff,not_false_eq_true]
   exact Ev.of fun n=>rfl
 ·have hb:(EM r != 0)=true:=by simpa using hr
  simp only [hb,hr,Pn,vv,vf,reduceCtorEq,Nat.reduceAdd,Nat.reduceEqDiff,not_false_eq_true]
  exact Ev.of fun n=>rfl
end Ab
set_option linter.unusedVariables false
set_option linter.unusedSimpArgs false
namespace Ab
open Go
def A3 (r:Rcv):Bool:=decide (EM r=0∧r.known=[⟨0,r.tot⟩])
theorem WI {l:List Span}:l.length=1↔∃x,l=[x]:=by
 constructor
 ·intro h
  match l,h with
  |[x],_=>exact ⟨x,rfl⟩
 ·rintro ⟨x,rfl⟩;rfl
theorem s147 (r:Rcv):AP C 147 r.enc [.bool (A3 r)]:=by
 refine AP.of (fun n=>e147 n _ _ _ _) ?_
 refine (s159 r).mono fun n h => ?_
 simp only [Rcv.enc] at h
 simp only [h,vv,vf,reduceCtorEq,Nat.reduceAdd,Nat.reduceEqDiff]
 unfold A3
 by_cases hr:EM r=0
 ·simp only [hr,beq_self_eq_true,vv,vf,reduceCtorEq,Nat.reduceAdd,Nat.reduceEqDiff]
  by_cases hl:r.known.length=1
  ·obtain ⟨x,hx⟩:=WI.1 hl
   simp only [hx,vv,vf,reduceCtorEq,Nat.reduceAdd,Nat.reduceEqDiff,List.getElem?_cons_zero,Span.enc]
   obtain ⟨a,b⟩:=x
   simp only [AB,List.cons.injEq,and_true,Span.mk.injEq]
   by_cases h1:a=0<;>by_cases h2:b=r.tot<;>simp [h1,h2]
  ·have h1:((r.known.length:Int)==1)=false:=by simpa using fun h=>hl (by omega)
   have h2:¬r.known=[⟨0,r.tot⟩]:=fun h=>hl (by rw [h];rfl)
   simp only [h1,h2,vv,vf,reduceCtorEq,Nat.reduceAdd,Nat.reduceEqDiff]
 ·have h1:(EM r==0)=false:=by simpa using hr
  simp only [h1,hr,vv,vf,reduceCtorEq,Nat.reduceAdd,Nat.reduceEqDiff]
def newR (n:Int):Rcv×Int:=if 0≤n∧n≤1099511627776 then (⟨n,-1,[],ByteArray.mk #[]⟩,0) else (zeroR,2)
theorem s70 (n:Int):AP C 70 [tI n] ((newR n).1.enc++[tI (newR n).2]):=by
 refine AP.of (fun m=>e70 m _) (Ev.of fun m => ?_)
 unfold newR
 simp only [AB,decide_eq_true_eq]
 by_cases h1:n<0
 ·rw [if_pos h1,if_neg (by omega)];rfl
 ·by_cases h2:n>1099511627776
  ·rw [if_neg h1,if_pos h2,if_neg (by omega)];rfl
  ·rw [if_neg h1,if_neg h2,if_pos (by omega)];rfl
end Ab
set_option linter.unusedVariables false
set_option linter.unusedSimpArgs false
namespace Ab
open Go
def Cz (n:Int):List Tree:=[tI n]
theorem s200 (l:List Int) (e:Int) (hl:l.length≤1000000):AP C 200 [.sl 1 (l.map Cz),tI e] [tI (idx (fun x=>decide (x=e)) l)]:=by
 refine AP.of (fun n=>e200 n _ _) ?_
 refine CB (fun r=>[tI r]) l (fun i _=>(([.t (tI i)],[]):List AV×Heap)) (fun i _ x=>if decide (x=e)=true then .done (i:Int) else .next ()) (fun _ => -1) (fun _ _=>True) () rfl trivial (Ux _ l)
  (fun i s x hx hI=>Ev.of fun n again => ?_) (fun _ _ _ _ _ _ _=>trivial) (fun s hI=>Ev.of fun n again => ?_)
 ·have hi:=Ap hx
  simp only [Sp,vv,vf,reduceCtorEq,Nat.reduceAdd,Nat.reduceEqDiff,hx,Cz,BV (show i<4611686018427387904 by omega),(show (i:Int)<l.length by omega)]
  simp only [AB]
  grind [Rd.Ax,Rd.BR]
 ·simp only [Sp,vv,vf,reduceCtorEq,Nat.reduceAdd,Nat.reduceEqDiff,Int.lt_irrefl]
theorem s174 (l:List Int) (e:Int) (hl:l.length≤1000000):AP C 174 [.sl 1 (l.map Cz),tI e] [.bool (decide (e∈l))]:=by
 refine AP.of (fun n=>e174 n _ _) ?_
 refine (s200 l e hl).mono fun n h => ?_
 simp only [h,vv,vf,reduceCtorEq,Nat.reduceAdd,Nat.reduceEqDiff]
 congr 3
 rw [Bool.eq_iff_iff]
 simp only [decide_eq_true_eq,SI]
 simp
theorem s95 (a:Int):AP C 95 [tI a] [.bool (decide (1≤a∧a≤1048576))]:=by
 refine AP.of (fun n=>e95 n _) (Ev.of fun n => ?_)
 simp only [IK,vv,vf,reduceCtorEq,Nat.reduceAdd,Nat.reduceEqDiff]
 congr 3
 rw [Bool.eq_iff_iff]
 split<;>simp<;>omega
theorem s203 (a b:Int) (ha : -9223372036854775808≤a∧a≤9223372036854775807) (hb:1≤b∧b≤1048576):AP C 203 [tI a,tI b] [tI (a / b),tI (a % b)]:=by
 refine AP.of (fun n=>e203 n _ _) (Ev.of fun n => ?_)
 have hb0:¬b=0:=by omega
 have hb1:(0:Int)<b:=by omega
 have hq : -9223372036854775808≤a / b∧a / b≤9223372036854775807:=by
  constructor
  ·rw [Int.le_ediv_iff_mul_le hb1]
   have : -9223372036854775808*b≤ -9223372036854775808*1:=Int.mul_le_mul_of_nonpos_left (by omega) (by omega)
   omega
  ·have:a / b≤if 0≤a then a else 0:=by
    split
    ·exact Int.ediv_le_self b (by omega)
    ·have:=Int.ediv_lt_of_lt_mul hb1 (show a<0*b by omega)
     omega
   split at this<;>omega
 have hm:=Int.emod_nonneg a hb0
 have hml:=Int.emod_lt_of_pos a hb1
 have hdm:=Int.mul_ediv_add_emod a b
 have ht:Int.tmod a b=if 0≤a∨a % b=0 then a % b else a % b-b:=by
  rw [Int.tmod_eq_emod]
  have:(↑b.natAbs:Int)=b:=by omega
  have hdv:b∣a↔a % b=0:=Int.dvd_iff_emod_eq_zero
  simp only [hdv,this]
  split<;>omega
 have htd:Int.tdiv a b=if 0≤a∨a % b=0 then a / b else a / b+1:=by
  rw [Int.tdiv_eq_ediv]
  have hdv:b∣a↔a % b=0:=Int.dvd_iff_emod_eq_zero
  have hs:b.sign=1:=Int.sign_eq_one_of_pos hb1
  simp only [hdv,hs]
  split<;>omega
 by_cases h:0≤a∨a % b=0
 ·simp only [ht,htd,h,if_true,vv,vf,reduceCtorEq,Nat.reduceAdd,Nat.reduceEqDiff,hb0,(show ¬a % b<0 by omega),AS (show -9223372036854775808≤a / b by omega) (by omega)]
 ·have hneg:a / b<0:=Int.ediv_lt_of_lt_mul hb1 (by omega)
  simp only [ht,htd,h,if_false,vv,vf,reduceCtorEq,Nat.reduceAdd,Nat.reduceEqDiff,hb0,(show a % b-b<0 by omega)]
  rw [AS (x:=a / b+1) (by omega) (by omega),AS (x:=a / b+1-1) (by omega) (by omega),AS (by omega) (by omega)]
  simp
def Cc (n r:Int):List Int:=if n % 8<4 then [r] else if n % 8<6 then [r,r+1+n / 8 % r] else if n % 8=6 then [r+1+n / 8 % r] else []
theorem s176 (n r:Int) (hn : -9223372036854775808≤n∧n≤9223372036854775807) (hr:1≤r∧r≤1048576):AP C 176 [tI n,tI r] [.sl 1 ((Cc n r).map Cz),tI 0]:=by
 refine AP.of (fun n=>e176 n _ _) ?_
 have hm:=Int.emod_nonneg (n / 8) (show r≠0 by omega)
 have hml:=Int.emod_lt_of_pos (n / 8) (show 0<r by omega)
 have h19:AP C 216 [tI r,tI (n / 8 % r)] [.sl 1 [[tI r]]]:=AP.of (fun n=>e216 n _ _) (Ev.of fun n=>rfl)
 have hw:w64 (w64 (r+1)+n / 8 % r)=r+1+n / 8 % r:=by
  rw [AS (x:=r+1) (by omega) (by omega),AS (by omega) (by omega)]
 have h20:AP C 217 [tI r,tI (n / 8 % r)] [.sl 1 [[tI r],[tI (r+1+n / 8 % r)]]]:=AP.of (fun n=>e217 n _ _) (Ev.of fun n=>by rw [hw])
 have h21:AP C 218 [tI r,tI (n / 8 % r)] [.sl 1 [[tI (r+1+n / 8 % r)]]]:=AP.of (fun n=>e218 n _ _) (Ev.of fun n=>by rw [hw])
 have h22:AP C 219 [tI r,tI (n / 8 % r)] [.sl 1 []]:=AP.of (fun n=>e219 n _ _) (Ev.of fun n=>rfl)
 refine ((s95 r).and ((s203 n 8 hn (by omega)).and ((s203 (n / 8) r (by omega) hr).and (h19.and (h20.and (h21.and h22)))))).mono fun m h => ?_
 obtain ⟨k1,k2,k3,k4,k5,k6,k7⟩:=h
 have h8:0≤n % 8∧n % 8<8:=by omega
 simp only [k1,k2,k3,k4,k5,k6,k7,vv,vf,reduceCtorEq,Nat.reduceAdd,Nat.reduceEqDiff,hr,h8,and_self]
 unfold Cc
 rcases (show n % 8=0∨n % 8=1∨n % 8=2∨n % 8=3∨n % 8=4∨n % 8=5∨n % 8=6∨n % 8=7 by omega) with e|e|e|e|e|e|e|e<;>simp [e,AB,Cz]
end Ab
set_option linter.unusedVariables false
set_option linter.unusedSimpArgs false
namespace Ab
open Go
structure Frame where
 arr:Int
 num:Int
 seg:Seg
 deriving DecidableEq
def Frame.enc (f:Frame):List Tree:=[tI f.arr,tI f.num,tI f.seg.kind,tI f.seg.ses,tI f.seg.ser,tI f.seg.off,tI f.seg.tot,.bool f.seg.chk,.str f.seg.data,.sl 2 (f.seg.AX.map Span.enc)]
structure CC where
 rng:Int
 frames:List Frame
 sent:Int
 lost:Int
def CC.enc (c:CC):List Tree:=[tI c.rng,.sl 10 (c.frames.map Frame.enc),tI c.sent,tI c.lost]
structure CW (c:CC):Prop where
 rng:1≤c.rng∧c.rng≤1048576
 lost:0≤c.lost∧c.lost≤c.sent
 sent:c.sent≤1152921504606846976
 len:c.frames.length≤10000
 frm:∀f∈c.frames,0≤f.arr∧f.arr≤2199023255552∧0≤f.num∧f.num<c.sent
 srt:c.frames.Pairwise fun a b=>a.arr≤b.arr
theorem P6 (es:List (List Tree)) (hl:es.length≤1073741824):AP C 1000170 [.sl 10 es] [.sl 10 es]:=by
 refine AP.of (fun n=>Wj n _) (Ev.of fun n => ?_)
 by_cases h:es.length=0
 ·have:es=[]:=List.eq_nil_of_length_eq_zero h
  subst this
  simp [AB,AN]
 ·rw [CU h,CU hl,List.take_of_length_le (Nat.le_refl _)]
theorem s143 (c:CC) (hc:CW c):AP C 143 c.enc [tI 0]:=by
 refine AP.of (fun n=>e143 n _ _ _ _) ?_
 have h1:=hc.rng
 have h2:=hc.lost
 have h3:=hc.len
 refine Ev.rw (T' := ?TT) (s95 c.rng) (fun n h => ?g1) ?g2
 case g1=>
  simp only [h,vv,vf,reduceCtorEq,Nat.reduceAdd,Nat.reduceEqDiff,h1,and_self,(show ¬c.sent<0 by omega),(show ¬c.lost<0 by omega),(show ¬c.sent<c.lost by omega),(show ¬(10000:Int)<(c.frames.length:Int) by omega)]
  rfl
 case g2=>
  refine CB (fun (r:Int)=>[tI r]) c.frames (fun i (_:Unit)=>(([.t (tI i)],[]):List AV×Heap)) (fun _ _ _ =>.next ()) (fun _=>0) (fun _ _=>True) () rfl trivial (Fm (fun _ _=>()) (fun _=>0) 0 _ ())
   (fun i s f hx hI=>Ev.of fun n again => ?_) (fun _ _ _ _ _ _ _=>trivial) (fun s hI=>Ev.of fun n again => ?_)
  ·have hi:=Ap hx
   have hf:=hc.frm f (List.mem_of_getElem? hx)
   by_cases hi0:i=0
   ·subst hi0
    simp only [Pb,S0,vv,vf,reduceCtorEq,Nat.reduceAdd,Nat.reduceEqDiff,hx,Frame.enc,(show ((0:Nat):Int)<c.frames.length by omega),(show ¬f.arr<0 by omega),(show ¬(2199023255552:Int)<f.arr by omega),(show ¬f.num<0 by omega),(show ¬c.sent≤f.num by omega),(show ¬(0:Int)<((0:Nat):Int) by omega),BV (show 0<4611686018427387904 by omega),Rd.Ax]
   ·have hp:c.frames[i-1]? = some c.frames[i-1]:=List.getElem?_eq_getElem (by omega)
    have hs:=List.pairwise_iff_getElem.1 hc.srt (i-1) i (by omega) hi (by omega)
    rw [List.getElem?_eq_getElem hi] at hx
    have hx2:=Option.some.inj hx
    rw [hx2] at hs
    rw [← List.getElem?_eq_getElem hi] at hx
    simp only [Pb,S0,vv,vf,reduceCtorEq,Nat.reduceAdd,Nat.reduceEqDiff,hx,hp,Frame.enc,(show (i:Int)<c.frames.length by omega),(show ¬f.arr<0 by omega),(show ¬(2199023255552:Int)<f.arr by omega),(show ¬f.num<0 by omega),(show ¬c.sent≤f.num by omega),(show (0:Int)<(i:Int) by omega),BV (show i<4611686018427387904 by omega),LZ (show i<4611686018427387904 by omega) (by omega),(show ¬f.arr<(c.frames[i-1]).arr by omega),Rd.Ax]
  ·simp only [Pb,vv,vf,reduceCtorEq,Nat.reduceAdd,Nat.reduceEqDiff,Int.lt_irrefl]
theorem s69 (r:Int) (hr:1≤r∧r≤1048576):AP C 69 [tI r] [tI r,.sl 10 [],tI 0,tI 0,tI 0]:=by
 refine AP.of (fun n=>e69 n _) ?_
 refine (s95 r).mono fun n h => ?_
 simp only [h,vv,vf,reduceCtorEq,Nat.reduceAdd,Nat.reduceEqDiff,hr,and_self]
theorem s158 (c:CC) (hc:CW c) (f:Frame) (rest:List Frame) (hf:c.frames=f::rest) :
  AP C 158 c.enc [tI c.rng,.sl 10 (rest.map Frame.enc),tI c.sent,tI c.lost,tI f.arr,tI f.num,tI f.seg.kind,tI f.seg.ses,tI f.seg.ser,tI f.seg.off,tI f.seg.tot,.bool f.seg.chk,.str f.seg.data,.sl 2 (f.seg.AX.map Span.enc),tI 0]:=by
 refine AP.of (fun n=>e158 n _ _ _ _) ?_
 have hlen:=hc.len
 rw [hf] at hlen
 simp only [List.length_cons] at hlen
 refine ((s143 c hc).and (P6 (rest.map Frame.enc) (by simp;omega))).mono fun n h => ?_
 obtain ⟨h1,h2⟩:=h
 have e1:List.take rest.length (List.map Frame.enc rest)=List.map Frame.enc rest:=List.take_of_length_le (by simp)
 simp only [CC.enc,hf,List.map_cons,Frame.enc] at h1
 simp only [hf,List.map_cons,Frame.enc,h1,vv,vf,reduceCtorEq,Nat.reduceAdd,Nat.reduceEqDiff,bne_self_eq_false,(show (((rest.length+1:Nat):Int)==0)=false by simp;omega),List.getElem?_cons_zero,(show (0:Int)≤1 by omega),(show (1:Int)≤((rest.length+1:Nat):Int) by omega),List.take_succ_cons,List.drop_succ_cons,e1,h2]
def KI (at_ num:Int) (ser:Seg) (fs:List Frame) (d:Int):List Frame:=IW (fun x=>decide (x.arr>at_+d)) ⟨at_+d,num,ser⟩ fs
def KB (at_ num:Int) (ser:Seg) (ds:List Int) (fs:List Frame):List Frame:=ds.foldl (KI at_ num ser) fs
def HB (c:CC) (ds:List Int):Int:=if c.rng∈ds then 0 else 1
def Bi (c:CC) (at_:Int) (ser:Seg) (ds:List Int):CC:=⟨c.rng,KB at_ c.sent ser ds c.frames,c.sent+1,c.lost+HB c ds⟩
theorem MT (at_ num:Int) (ser:Seg) (fs:List Frame) (d:Int):(KI at_ num ser fs d).length=fs.length+1:=Qw _ _ _
theorem Qv {at_ num:Int} {ser:Seg} {fs:List Frame} {d:Int} (h:fs.Pairwise fun a b=>a.arr≤b.arr):(KI at_ num ser fs d).Pairwise fun a b=>a.arr≤b.arr:=by
 unfold KI
 refine IF h (fun x _ hg => ?_) (fun x _ hg => ?_) (fun x _ y _ hr hg => ?_)
 ·simp only [decide_eq_true_eq] at hg;simp only;omega
 ·simp only [decide_eq_false_iff_not] at hg;simp only;omega
 ·simp only [decide_eq_true_eq] at *;omega
theorem Q8 {fs:List Frame} (t:Int) (h:fs.Pairwise fun a b=>a.arr≤b.arr):Down (fun x:Frame=>decide (x.arr≤t)) fs:=by
 intro i j x y hij hx hy hlt
 rcases Nat.lt_or_ge i j with hl|hl
 ·have h1:=Ap hx
  have h2:=Ap hy
  have:=List.pairwise_iff_getElem.1 h i j h1 h2 hl
  rw [List.getElem?_eq_getElem h1] at hx
  rw [List.getElem?_eq_getElem h2] at hy
  cases hx;cases hy
  simp only [decide_eq_true_eq] at *
  omega
 ·obtain rfl:i=j:=by omega
  rw [hx] at hy
  cases hy
  exact hlt
theorem s156 (c:CC) (hc:CW c) (at_:Int) (ser:Seg) (ha:0≤at_∧at_≤1099511627776) (ds:List Int) (hd:∀d∈ds,c.rng≤d∧d≤2*c.rng) (hl:c.frames.length+ds.length≤10000) :
  AP C 156 (c.enc++[tI at_,tI ser.kind,tI ser.ses,tI ser.ser,tI ser.off,tI ser.tot,.bool ser.chk,.str ser.data,.sl 2 (ser.AX.map Span.enc),.sl 1 (ds.map Cz)]) ((Bi c at_ ser ds).enc++[tI 0]):=by
 refine AP.of (fun n=>e156 n _ _ _ _ _ _ _ _ _ _ _ _ _ _) ?_
 have h1:=hc.rng
 have hsent:=hc.sent
 have hlost:=hc.lost
 have hw2:w64 (2*c.rng)=2*c.rng:=AS (by omega) (by omega)
 refine Ev.rw (T' := ?TT) (s143 c hc) (fun n h => ?g1) ?g2
 case g1=>
  simp only [CC.enc] at h
  simp only [h,vv,vf,reduceCtorEq,Nat.reduceAdd,Nat.reduceEqDiff,bne_self_eq_false,(show ¬at_<0 by omega),(show ¬(1099511627776:Int)<at_ by omega)]
  rfl
 case g2=>
  refine CB (fun (r:List Tree)=>r) ds (fun i (_:Unit)=>(([.t (tI i)],[.box [.t (tI c.rng),.t (.sl 10 (c.frames.map Frame.enc)),.t (tI c.sent),.t (tI c.lost)],.row false 0 10 [],.box [.t (tI 0),.sref 1 0 0 0,.t (tI 0),.t (tI 0)]]):List AV×Heap)) (fun _ _ _ =>.next ()) (fun _=>(Bi c at_ ser ds).enc++[tI 0]) (fun _ _=>True) () rfl trivial (Fm (fun _ _=>()) (fun _=>(Bi c at_ ser ds).enc++[tI 0]) 0 ds ())
   (fun i s d hx hI=>Ev.of fun n again => ?_) (fun _ _ _ _ _ _ _=>trivial) (fun s hI => ?_)
  ·have hi:=Ap hx
   have hdd:=hd d (List.mem_of_getElem? hx)
   simp only [Sr,XY,Pj,vv,vf,reduceCtorEq,Nat.reduceAdd,Nat.reduceEqDiff,hx,Cz,(show (i:Int)<ds.length by omega),(show ¬d<c.rng by omega),hw2,(show ¬2*c.rng<d by omega),BV (show i<4611686018427387904 by omega),Rd.Ax]
  ·have hwl:w64 ((c.frames.length:Int)+(ds.length:Int))=((c.frames.length+ds.length:Nat):Int):=by rw [AS (by omega) (by omega)];omega
   simp only [Sr,XX,Pj,UM,vv,vf,reduceCtorEq,Nat.reduceAdd,Nat.reduceEqDiff,Int.lt_irrefl,(show ¬(0:Int)≤ -1 by omega),hwl,(show ¬(10000:Int)<((c.frames.length+ds.length:Nat):Int) by omega)]
   refine Uz (Ev.rw (T' := ?TT2) (P6 (c.frames.map Frame.enc) (by simp;omega)) (fun n h => ?g3) ?g4)
   case g3=>
    simp only [h,vv,vf,reduceCtorEq,Nat.reduceAdd,Nat.reduceEqDiff]
    rfl
   case g4=>
    refine CB (fun (fs:List Frame)=>(⟨c.rng,fs,c.sent+1,c.lost+HB c ds⟩:CC).enc++[tI 0]) ds (fun i (s:Nat×List Frame)=>(([.t (tI i)],[.box [.t (tI c.rng),.t (.sl 10 (c.frames.map Frame.enc)),.t (tI c.sent),.t (tI c.lost)],.row false 0 10 [],.box [.t (tI 0),.sref 1 0 0 0,.t (tI 0),.t (tI 0)],.row false s.1 10 (s.2.map Frame.enc),.row false 0 10 [],.box [.sref 3 s.1 0 s.2.length]]):List AV×Heap))
     (fun _ s d =>.next (s.1+1,KI at_ c.sent ser s.2 d)) (fun s=>s.2) (fun i s=>s.2.Pairwise (fun a b=>a.arr≤b.arr)∧s.2.length=c.frames.length+i) (0,c.frames) (by simp) ⟨hc.srt,by simp⟩ ?_
     (fun i s d hx hI => ?_) (fun i s d s' hx hI hs' => ?_) (fun s hI => ?_)
    ·rw [Fm]
     have:∀(ds:List Int) (s:Nat×List Frame),(ds.foldl (fun (s:Nat×List Frame) d=>(s.1+1,KI at_ c.sent ser s.2 d)) s).2=KB at_ c.sent ser ds s.2:=by
      intro ds
      induction ds with
      |nil=>intro s;rfl
      |cons d ds ih=>intro s;exact ih _
     exact this ds (0,c.frames)
    ·have hi:=Ap hx
     have hdd:=hd d (List.mem_of_getElem? hx)
     obtain ⟨v,fs⟩:=s
     obtain ⟨hsr,hfl⟩:=hI
     simp only at hsr hfl
     have hwd:w64 (at_+d)=at_+d:=AS (by omega) (by omega)
     have hins:KI at_ c.sent ser fs d=fs.take (fs.countP fun x=>decide (x.arr≤at_+d))++⟨at_+d,c.sent,ser⟩::fs.drop (fs.countP fun x=>decide (x.arr≤at_+d)):=by
      unfold KI
      rw [Tq]
      obtain ⟨h1,h2⟩:=K5 (Q8 (at_+d) hsr)
      rw [h1,h2]
      have hf:(fun x:Frame => !decide (x.arr>at_+d))=fun x=>decide (x.arr≤at_+d):=by
       funext x
       rw [Bool.eq_iff_iff]
       simp
      rw [hf]
     have key:=W2 (R:=List Tree) (Z:=List AV×Heap→Option (List Tree))
      (B:=fun n z p again=>PY n at_ [tI d] (fun p32=>Sz n z (([.t (tI i)],[.box [.t (tI c.rng),.t (.sl 10 (c.frames.map Frame.enc)),.t (tI c.sent),.t (tI c.lost)],.row false 0 10 [],.box [.t (tI 0),.sref 1 0 0 0,.t (tI 0),.t (tI 0)],.row false v 10 (fs.map Frame.enc),.row false 0 10 [],.box [.sref 3 v 0 fs.length]]):List AV×Heap) at_ [tI d] ser.kind ser.ses ser.ser ser.off ser.tot ser.chk ser.data (ser.AX.map Span.enc) p32) p again)
      (fun z (k:Nat)=>z ([.t (tI ((i+1:Nat):Int))],[.box [.t (tI c.rng),.t (.sl 10 (c.frames.map Frame.enc)),.t (tI c.sent),.t (tI c.lost)],.row false 0 10 [],.box [.t (tI 0),.sref 1 0 0 0,.t (tI 0),.t (tI 0)],.row false (v+1) 10 (((fs.map Frame.enc).take k++[(⟨at_+d,c.sent,ser⟩:Frame).enc])++(fs.map Frame.enc).drop k),.row false 0 10 [],.box [.sref 3 (v+1) 0 (fs.length+1)]]))
      (fun x:Frame=>decide (x.arr≤at_+d)) fs id (fun s=>(([.t (tI s.1),.t (tI s.2)],[.box [.t (tI c.rng),.t (.sl 10 (c.frames.map Frame.enc)),.t (tI c.sent),.t (tI c.lost)],.row false 0 10 [],.box [.t (tI 0),.sref 1 0 0 0,.t (tI 0),.t (tI 0)],.row false v 10 (fs.map Frame.enc),.row false 0 10 [],.box [.sref 3 v 0 fs.length],.box []]):List AV×Heap)) (Q8 _ hsr) rfl
      (fun s a1 a2 a3=>Ev.of fun n z again=>by
       obtain ⟨a,b⟩:=s
       simp only at a1 a2 a3
       by_cases hab:a<b
       ·have hm:fs[(a+b) / 2]? = some fs[(a+b) / 2]:=List.getElem?_eq_getElem (by omega)
        simp only [PY,XW,vv,vf,reduceCtorEq,Nat.reduceAdd,Nat.reduceEqDiff,halfU a b (by omega),hm,Frame.enc,(show (a:Int)<(b:Int) by omega),KX,if_pos hab,(show (((a+b) / 2:Nat):Int)<(fs.length:Int) by omega),BV (show (a+b) / 2<4611686018427387904 by omega),hwd]
        by_cases hx:(fs[(a+b) / 2]).arr≤at_+d
        ·simp only [hx,(show ¬at_+d<(fs[(a+b) / 2]).arr by omega),vv,vf,reduceCtorEq,Nat.reduceAdd,Nat.reduceEqDiff,Rd.Ax]
        ·simp only [hx,(show at_+d<(fs[(a+b) / 2]).arr by omega),vv,vf,reduceCtorEq,Nat.reduceAdd,Nat.reduceEqDiff,Rd.Ax]
       ·obtain rfl:a=b:=by omega
        simp only [PY,Sz,vv,vf,reduceCtorEq,Nat.reduceAdd,Nat.reduceEqDiff,Int.lt_irrefl,KX,Nat.lt_irrefl,Rd.BR,id,hwd,Frame.enc,BV (show i<4611686018427387904 by omega),(show fs.length+1≤1073741824 by omega),(show (a:Int)≤(fs.length:Int) by omega)])
     have hkl:fs.countP (fun x:Frame=>decide (x.arr≤at_+d))≤fs.length:=List.countP_le_length
     refine key.mono fun n h again => ?_
     have h:=h again
     simp only [PX,vv,vf,reduceCtorEq,Nat.reduceAdd,Nat.reduceEqDiff,hx,Cz,(show (i:Int)<ds.length by omega),Rd.Ax]
     refine h.trans ?_
     simp only [vv,vf,reduceCtorEq,Nat.reduceAdd,Nat.reduceEqDiff,id]
     have hil:=MT at_ c.sent ser fs d
     rw [hil,hins]
     simp [Frame.enc,List.map_take,List.map_drop]
    ·have hi:=Ap hx
     simp only [Rd.next.injEq] at hs'
     subst hs'
     exact ⟨Qv hI.1,by rw [MT,hI.2];omega⟩
    ·obtain ⟨v,fs⟩:=s
     simp only at hI
     refine (s174 ds c.rng (by omega)).mono fun n h again => ?_
     have e1:List.take fs.length (List.map Frame.enc fs)=List.map Frame.enc fs:=List.take_of_length_le (by simp)
     have w1:w64 (c.sent+1)=c.sent+1:=AS (by omega) (by omega)
     have w2:w64 (c.lost+1)=c.lost+1:=AS (by omega) (by omega)
     by_cases hm:c.rng∈ds
     ·simp only [PX,vv,vf,reduceCtorEq,Nat.reduceAdd,Nat.reduceEqDiff,Int.lt_irrefl,h,hm,e1,w1,w2,HB,CC.enc]
      simp
     ·simp only [PX,vv,vf,reduceCtorEq,Nat.reduceAdd,Nat.reduceEqDiff,Int.lt_irrefl,h,hm,e1,w1,w2,HB,CC.enc]
      simp
end Ab
set_option linter.unusedVariables false
set_option linter.unusedSimpArgs false
namespace Ab
open Go
def BK (c:CC):Option Int:=c.frames.head?.map (·.arr)
def Fc:Option Int→List Tree
 |none=>[tI 0,.bool false]
 |some t=>[tI t,.bool true]
theorem Gw (c:CC) (hc:CW c):AP C 122 c.enc (Fc (BK c)):=by
 refine AP.of (fun n=>e122 n _ _ _ _) ?_
 refine (s143 c hc).mono fun n h => ?_
 cases hf:c.frames with
 |nil=>
  simp only [CC.enc,hf,List.map_nil] at h
  simp only [hf,List.map_nil,h,vv,vf,reduceCtorEq,Nat.reduceAdd,Nat.reduceEqDiff,bne_self_eq_false,(show (((0:Nat):Int)==0)=true from rfl),BK,List.head?_nil,Fc]
 |cons f rest=>
  simp only [CC.enc,hf,List.map_cons,Frame.enc] at h
  simp only [hf,List.map_cons,Frame.enc,h,vv,vf,reduceCtorEq,Nat.reduceAdd,Nat.reduceEqDiff,bne_self_eq_false,(show (((rest.length+1:Nat):Int)==0)=false by simp;omega),List.getElem?_cons_zero,Frame.enc,BK,List.head?_cons,Fc]
end Ab
set_option linter.unusedVariables false
set_option linter.unusedSimpArgs false
namespace Ab
open Go
end Ab
namespace Ab
open Go
inductive Sh where
 |i
 |k (k:IntKind)
 |b
 |s
 |l (n:Nat)
 |r (o:Nat)
 |c (v:AV)
def rcell (p:List AV×Heap) (k j:Nat):Sh→AV
 | .i =>.t (tI (cI p k j))
 | .k q =>.t (.int q (cI p k j))
 | .b =>.t (.bool (cB p k j))
 | .s =>.t (.str (cS p k j))
 | .l n =>.t (.sl n (cL p k j))
 | .r o =>.sref o (AI p k j) (AR p k j) (AH p k j)
 | .c v=>v
def rb (p:List AV×Heap) (k:Nat):Nat→List Sh→List AV
 |_,[]=>[]
 |j,x::l=>rcell p k j x::rb p k (j+1) l
inductive OSh where
 |row (z:Nat)
 |frz (z:Nat)
 |box (l:List Sh)
def robj (p:List AV×Heap) (k:Nat):OSh→AG
 | .row z =>.row false (AE p k) z (oEs p k)
 | .frz z =>.row true (AE p k) z (oEs p k)
 | .box l =>.box (rb p k 0 l)
def rh (p:List AV×Heap):Nat→List OSh→Heap
 |_,[]=>[]
 |k,s::l=>robj p k s::rh p (k+1) l
def upd {α:Type}:List α→List (Nat×α)→List α
 |l,[]=>l
 |l,(j,x)::c=>upd (l.set j x) c
noncomputable def IA (C:Cfg) (pc:A6) (n:Nat) (ff:Nat→Rec) (S:List FuncId):Nat→Rec
 |0=>fun _ _ _ _=>none
 |d+1=>fun R r h K=>match r with
  | .fn g avs=>match S.contains g with
   |true=>ff (d+1) R (.fn g avs) h K
   |false=>EA C (IA C pc n ff S d) pc n g avs h K
  | .yield i args=>Ls C (IA C pc n ff S d) pc n i args h K
noncomputable def fI (C:Cfg) (n:Nat):Nat→Rec:=inl C (pcx C (AA C n)) n
theorem Ho (C:Cfg) (n:Nat) (S:List FuncId):∀d,IA C (pcx C (AA C n)) n (fI C n) S d=inl C (pcx C (AA C n)) n d
 |0=>rfl
 |d+1=>by
  funext R r h K
  cases r with
  |fn g avs=>
   show (match S.contains g with
    |true=>fI C n (d+1) R (.fn g avs) h K
    |false=>EA C (IA C (pcx C (AA C n)) n (fI C n) S d) (pcx C (AA C n)) n g avs h K)=_
   cases S.contains g with
   |true=>rfl
   |false=>rw [Ho C n S d];rfl
  |yield i args=>
   show Ls C (IA C (pcx C (AA C n)) n (fI C n) S d) (pcx C (AA C n)) n i args h K=_
   rw [Ho C n S d];rfl
theorem K2 (C:Cfg) (n:Nat) (S:List FuncId) (d:Nat) (R:Type) (g:FuncId) (avs:List AV) (h:Heap) (K:List AV→Heap→Option R) :
  fI C n (d+1) R (.fn g avs) h K=EA C (IA C (pcx C (AA C n)) n (fI C n) S d) (pcx C (AA C n)) n g avs h K:=by
 rw [Ho];rfl
theorem pureO (C:Cfg) (n:Nat) (S:List FuncId) (g:FuncId) (xs:List Tree):Kt C (IA C (pcx C (AA C n)) n (fI C n) S C.depth) (pcx C (AA C n)) n g xs=Kt C (inl C (pcx C (AA C n)) n C.depth) (pcx C (AA C n)) n g xs:=by
 rw [Ho]
theorem Sg (C:Cfg) (n:Nat) (g:FuncId) (xs:List Tree) (hg:g<OWN) (he:C.ext g xs=none):AA C (n+1) g xs=Kt C (inl C (pcx C (AA C n)) n C.depth) (pcx C (AA C n)) n g xs:=by
 show (if g<OWN then _ else _)=_
 rw [if_pos hg]
 show (match C.ext g xs with
  |some ys=>some ys
  |none=>Kt C (inl C (pcx C (AA C n)) n C.depth) (pcx C (AA C n)) n g xs)=_
 rw [he]
end Ab
set_option linter.unusedVariables false
set_option linter.unusedSimpArgs false
namespace Ab
open Go
def NU (l:List Span) (t:Int):Bool:=decide (BB l=0∧AO t l)
theorem NN (l:List Span) (t:Int):AP C 175 [.sl 2 (l.map Span.enc),tI t] [.bool (NU l t)]:=by
 refine AP.of (fun n=>e175 n _ _) ?_
 unfold NU
 by_cases hc:BB l=0
 ·refine Ev.rw (T' := ?TT) (s67 l) (fun n h => ?g1) ?g2
  case g1=>
   simp only [h,vv,vf,reduceCtorEq,Nat.reduceAdd,Nat.reduceEqDiff,hc,beq_self_eq_true]
   rfl
  case g2=>
   have hlen:=Bf hc
   have hm:decide (BB l=0∧AO t l)=l.any (fun x=>decide (x.fro≤t∧t<x.to)):=by
    rw [Bool.eq_iff_iff,decide_eq_true_eq]
    simp only [hc,true_and]
    exact Qk t l
   have key:=CB (R:=List Tree) (B:=fun n p again=>Kg n (l.map Span.enc) (fun p7=>Ki n (fun p5=>HY n (fun p2=>Io n p2) p5) p7) t p again) (fun (q:Bool)=>[Tree.bool q]) l (fun i (_:Unit)=>(([.t (tI i)],[]):List AV×Heap))
    (fun _ _ x=>if (fun x:Span=>decide (x.fro≤t∧t<x.to)) x=true then .done true else .next ()) (fun _=>false) (fun _ _=>True) () (s:=(([.t (tI 0)],[]):List AV×Heap)) rfl trivial (P9 (fun x:Span=>decide (x.fro≤t∧t<x.to)) 0 l)
    (fun i s x hx hI=>Ev.of fun n again => ?_) (fun _ _ _ _ _ _ _=>trivial) (fun s hI=>Ev.of fun n again => ?_)
   ·refine key.mono fun n h => ?_
    rw [hm]
    simpa only [hc,true_and] using h
   ·have hi:=Ap hx
    by_cases h1:x.fro≤t
    ·by_cases h2:t<x.to
     ·simp only [Kg,NI,Ki,HY,Io,vv,vf,reduceCtorEq,Nat.reduceAdd,Nat.reduceEqDiff,hx,Span.enc,(show (i:Int)<l.length by omega),h1,h2,Rd.BR,and_self]
     ·simp only [Kg,NI,Ki,HY,Io,vv,vf,reduceCtorEq,Nat.reduceAdd,Nat.reduceEqDiff,hx,Span.enc,(show (i:Int)<l.length by omega),h1,h2,Rd.Ax,and_self,BV (show i<4611686018427387904 by omega)]
    ·simp only [Kg,NI,Ki,HY,Io,vv,vf,reduceCtorEq,Nat.reduceAdd,Nat.reduceEqDiff,hx,Span.enc,(show (i:Int)<l.length by omega),h1,Rd.Ax,BV (show i<4611686018427387904 by omega)]
   ·simp only [Kg,NI,Ki,HY,Io,vv,vf,reduceCtorEq,Nat.reduceAdd,Nat.reduceEqDiff,Int.lt_irrefl,(show ¬(0:Int)≤ -1 by omega)]
 ·refine (s67 l).mono fun n h => ?_
  have hc':(BB l==0)=false:=by simpa using hc
  simp only [h,Io,vv,vf,reduceCtorEq,Nat.reduceAdd,Nat.reduceEqDiff,hc,hc']
structure Gh where
 v0:Nat
 v4:Nat
 v5:Nat
 pre:List (List Tree)
abbrev E0:AG :=.box []
structure Ses where
 dat:CC
 rep:CC
 picks:List Int
 limit:Int
 dark:List Span
 entered:Int
 dist:Int
 sent:List Out
 told:List Out
 now:Int
 snd:Snd
 rcv:Rcv
 pend:List Out
 rcvd:Bool
 arrive:Int
 kno:Bool
 knoAt:Int
def CE (s:Ses) (R:Int):List Int×Int:=
 if NU s.dark s.now=true then ([],s.dist)
 else if s.picks=[] then ([R],s.dist)
 else if (Cc (s.picks.getD (s.entered % s.picks.length).toNat 0) R).head? = some R then (Cc (s.picks.getD (s.entered % s.picks.length).toNat 0) R,s.dist)
 else if 0≤s.limit∧s.limit≤s.dist then ([R],s.dist)
 else (Cc (s.picks.getD (s.entered % s.picks.length).toNat 0) R,s.dist+1)
def Cv (s:Ses) (x:Seg):Ses:={s with dat:=Bi s.dat s.now x (CE s s.dat.rng).1,dist:=(CE s s.dat.rng).2,entered:=s.entered+1,sent:=s.sent++[⟨s.now,x⟩]}
def Cy (s:Ses) (x:Seg):Ses:={s with rep:=Bi s.rep s.now x (CE s s.rep.rng).1,dist:=(CE s s.rep.rng).2,entered:=s.entered+1,told:=s.told++[⟨s.now,x⟩]}
def txS:Nat→Ses→Ses
 |0,s=>s
 |k+1,s=>match s.pend with
  |[]=>s
  |o::l=>if o.at_=s.now then txS k {Cv s o.seg with pend:=l} else s
def BJ (s:Ses):Ses:={s with dat:={s.dat with frames:=s.dat.frames.tail}}
def BZ (s:Ses):Ses:={s with rep:={s.rep with frames:=s.rep.frames.tail}}
def rxH (s:Ses) (x:Seg):Ses:=(Ez s.rcv x).2.1.foldl Cy {s with rcv:=(Ez s.rcv x).1}
def rxF (s:Ses):Ses:=if s.rcvd=false∧A3 s.rcv=true then {s with rcvd:=true,arrive:=s.now} else s
def rxX (s:Ses) (x:Seg):Ses:=rxF (rxH s x)
def rxS:Nat→Ses→Ses
 |0,s=>s
 |k+1,s=>match s.dat.frames with
  |[]=>s
  |f::_=>if f.arr=s.now then rxS k (rxX (BJ s) f.seg) else s
def lsF (s:Ses):Ses:=if s.kno=false∧s.snd.st=2 then {s with kno:=true,knoAt:=s.now} else s
def lsX (s:Ses) (x:Seg):Ses:=if s.now<s.snd.busy then s else lsF {s with snd:=(Bb s.snd s.now x).1,pend:=s.pend++(Bb s.snd s.now x).2.1}
def lsS:Nat→Ses→Ses
 |0,s=>s
 |k+1,s=>match s.rep.frames with
  |[]=>s
  |f::_=>if f.arr=s.now then lsS k (lsX (BZ s) f.seg) else s
def exS (s:Ses):Ses:=if s.snd.st=1∧s.snd.due=s.now then {s with snd:=(C5 s.snd s.now).1,pend:=s.pend++(C5 s.snd s.now).2.1} else s
def DG:Option Int→Option Int→Option Int
 |none,o=>o
 |some a,none=>some a
 |some a,some b=>some (if b<a then b else a)
def nxS (s:Ses):Option Int:=DG (DG (DG (s.pend.head?.map (·.at_)) (BK s.dat)) (BK s.rep)) (if s.snd.st=1 then some s.snd.due else none)
def ph1 (s:Ses) (t:Int):Ses:=txS s.pend.length {s with now:=t}
def ph2 (s:Ses) (t:Int):Ses:=rxS (ph1 s t).dat.frames.length (ph1 s t)
def ph3 (s:Ses) (t:Int):Ses:=lsS (ph2 s t).rep.frames.length (ph2 s t)
def stS (s:Ses) (t:Int):Ses:=exS (ph3 s t)
def IP:Nat→Ses→Ses
 |0,s=>s
 |k+1,s=>match nxS s with
  |none=>s
  |some t=>IP k (stS s t)
end Ab
set_option linter.unusedVariables false
set_option linter.unusedSimpArgs false
namespace Ab
open Go
theorem vv2 :
  (∀(e:List AV) (h:Heap) (k:Nat),vI (e,h) k=intOf (AF (List.getD e k AV.undef)))∧
  (∀(e:List AV) (h:Heap) (k:Nat),vB (e,h) k=A0 (AF (List.getD e k AV.undef)))∧
  (∀(e:List AV) (h:Heap) (k:Nat),vS (e,h) k=strOf (AF (List.getD e k AV.undef)))∧
  (∀(e:List AV) (h:Heap) (k:Nat),vL (e,h) k=CX (AF (List.getD e k AV.undef)))∧
  (∀(e:List AV) (h:Heap) (k:Nat),LA (e,h) k=Eb (List.getD e k AV.undef))∧
  (∀(e:List AV) (h:Heap) (k:Nat),Rt (e,h) k=Gc (List.getD e k AV.undef))∧
  (∀(e:List AV) (h:Heap) (k:Nat),Eu (e,h) k=Gd (List.getD e k AV.undef))∧
  (∀(x:Tree) (l:List Tree),gI (x::l) (0:Nat)=intOf x)∧
  (∀(x:Tree) (l:List Tree) (k:Nat),gI (x::l) (k+(1:Nat))=gI l k)∧
  (∀(x:Tree) (l:List Tree),gB (x::l) (0:Nat)=A0 x)∧
  (∀(x:Tree) (l:List Tree) (k:Nat),gB (x::l) (k+(1:Nat))=gB l k)∧
  (∀(x:Tree) (l:List Tree),gS (x::l) (0:Nat)=strOf x)∧
  (∀(x:Tree) (l:List Tree) (k:Nat),gS (x::l) (k+(1:Nat))=gS l k)∧
  (∀(x:Tree) (l:List Tree),gL (x::l) (0:Nat)=CX x)∧
  (∀(x:Tree) (l:List Tree) (k:Nat),gL (x::l) (k+(1:Nat))=gL l k)∧
  (∀(x:Tree) (l:List Tree),okI (x::l) (0:Nat)=(El IntKind.i64 x=true))∧
  (∀(x:Tree) (l:List Tree) (k:Nat),okI (x::l) (k+(1:Nat))=okI l k)∧
  (∀(x:Tree) (l:List Tree),okB (x::l) (0:Nat)=(Df x=true))∧
  (∀(x:Tree) (l:List Tree) (k:Nat),okB (x::l) (k+(1:Nat))=okB l k)∧
  (∀(x:Tree) (l:List Tree),okS (x::l) (0:Nat)=(Ek x=true))∧
  (∀(x:Tree) (l:List Tree) (k:Nat),okS (x::l) (k+(1:Nat))=okS l k)∧
  (∀(z:Nat) (x:Tree) (l:List Tree),okL z (x::l) (0:Nat)=(Es z x=true))∧
  (∀(z:Nat) (x:Tree) (l:List Tree) (k:Nat),okL z (x::l) (k+(1:Nat))=okL z l k)∧
  (∀(k:IntKind) (n:Int),El k (Tree.int k n)=true)∧
  (∀(b:Bool),Df (Tree.bool b)=true)∧
  (∀(b:ByteArray),Ek (Tree.str b)=true)∧
  (∀(z:Nat) (es:List (List Tree)),Es z (Tree.sl z es)=true)∧
  (∀(k:IntKind) (n:Int),intOf (Tree.int k n)=n)∧
  (∀(b:Bool),A0 (Tree.bool b)=b)∧
  (∀(b:ByteArray),strOf (Tree.str b)=b)∧
  (∀(z:Nat) (es:List (List Tree)),CX (Tree.sl z es)=es)∧
  (∀(x:Tree),AF (AV.t x)=x)∧
  (∀(i v o l:Nat),Eb (AV.sref i v o l)=v)∧
  (∀(i v k o:Nat),Eb (AV.rptr i v k o)=v)∧
  (∀(i v o l:Nat),Gc (AV.sref i v o l)=o)∧
  (∀(i v o l:Nat),Gd (AV.sref i v o l)=l)∧
  (∀(f:Bool) (v z:Nat) (es:List (List Tree)),AG.ver (AG.row f v z es)=v)∧
  (∀(f:Bool) (v z:Nat) (es:List (List Tree)),Bk (AG.row f v z es)=es)∧
  (∀(cs:List AV) (j:Nat),cellOf (AG.box cs) j=List.getD cs j AV.undef)∧
  (∀(e:List AV) (h:Heap) (k j:Nat),aI (e,h) k j=intOf (AF (List.getD (DQ (List.getD e k AV.undef)) j AV.undef)))∧
  (∀(e:List AV) (h:Heap) (k j:Nat),aB (e,h) k j=A0 (AF (List.getD (DQ (List.getD e k AV.undef)) j AV.undef)))∧
  (∀(e:List AV) (h:Heap) (k j:Nat),aS (e,h) k j=strOf (AF (List.getD (DQ (List.getD e k AV.undef)) j AV.undef)))∧
  (∀(e:List AV) (h:Heap) (k j:Nat),aL (e,h) k j=CX (AF (List.getD (DQ (List.getD e k AV.undef)) j AV.undef)))∧
  (∀(cs:List AV),DQ (AV.agg cs)=cs)∧
  (∀{R S:Type} (J:S→Option R) (f:(S→Option R)→Option R),join J f=f J)∧
  (∀{α:Type} {x:α} {xs:List α} {d:α},List.getD (x::xs) (0:Nat) d=x)∧
  (∀{α:Type} {x:α} {xs:List α} {n:Nat} {d:α},List.getD (x::xs) (n+(1:Nat)) d=List.getD xs n d)∧
  (∀(h:Decidable True),@decide True h=true)∧
  (∀(h:Decidable False),@decide False h=false)∧
  (∀{R:Type} {i:Decidable True} (a b:Option R),@cnd R True i a b=a)∧
  (∀{R:Type} {i:Decidable False} (a b:Option R),@cnd R False i a b=b)∧
  (∀(p:Prop),(True∧p)=p)∧
  (∀(p:Prop),(p∧True)=p)∧
  (∀(p:Prop),(False∧p)=False)∧
  (∀(p:Prop),(p∧False)=False)∧
  (∀{α β:Type} (a:α) (f:α→Option β),Option.bind (some a) f=f a)∧
  (∀{α β:Type} (f:α→Option β),Option.bind (none:Option α) f=none)∧
  (∀{α:Type} {a:α} {l:List α},List.length (a::l)=List.length l+(1:Nat))∧
  (∀{α:Type},List.length ([]:List α)=(0:Nat))∧
  (∀{α β:Type} {l:List α} (f:α→β),List.length (List.map f l)=List.length l)∧
  (∀{α β:Type} {f:α→β} {l:List α} {i:Nat},(List.map f l)[i]? = Option.map f l[i]?)∧
  (∀{α β:Type} (a:α) (f:α→β),Option.map f (some a)=some (f a))∧
  (∀{α β:Type} (f:α→β),Option.map f (none:Option α)=none)∧
  (∀(n:Nat),Int.toNat (n:Int)=n)∧
  (∀{α:Type} (a:α),(a=a)=True)∧
  (∀{α:Type} {x:Decidable True} (t e:α),@ite α True x t e=t)∧
  (∀{α:Type} {x:Decidable False} (t e:α),@ite α False x t e=e)∧
  (∀(n:Nat),(0:Nat)+n=n)∧
  (∀(n:Nat),(0:Int)≤(n:Int))∧
  (∀{α:Type} {l:List α},List.drop (0:Nat) l=l)∧
  (∀(p:Prop),(p∨True)=True)∧
  (∀(p:Prop),(True∨p)=True)∧
  (∀(p:Prop),(p∨False)=p)∧
  (∀(p:Prop),(False∨p)=p)∧
  ((!true)=false)∧
  ((!false)=true)∧
  ((false=true)=False)∧
  (∀{p:Prop} [inst:Decidable p],(decide p=true)=p)∧
  (∀{α:Type} [inst:LE α] {x y:α},x≥y↔y≤x)∧
  (∀{α:Type} [inst:LT α] {x y:α},x>y↔y<x):=
 ⟨@vI_mk,@Nd,@vS_mk,@vL_mk,@TJ,@TK,@TL,@T2,@T3,@T4,@T5,@Tx,@Tz,@T0,@T1,@QY,@QZ,@Qa,@Qb,@QU,@QV,@QW,@QX,@MQ,@JR,@MP,@Qq,@intOf_int,@K7,@Nk,@TF,@Pw,@Lh,@Li,@Lj,@Lk,@Iv,@HJ,@Mo,@aI_mk,@aB_mk,@aS_mk,@aL_mk,@OV,@join_eq,@List.getD_cons_zero,@List.getD_cons_succ,@decide_true,@decide_false,@RF,@OG,@true_and,@and_true,@false_and,@and_false,@Option.bind_some,@Option.bind_none,@List.length_cons,@List.length_nil,@List.length_map,@List.getElem?_map,@Option.map_some,@Option.map_none,@Int.toNat_natCast,@eq_self,@if_true,@if_false,@Nat.zero_add,@Int.natCast_nonneg,@List.drop_zero,@or_true,@true_or,@or_false,@false_or,@Bool.not_true,@Bool.not_false,@Bool.false_eq_true,@decide_eq_true_eq,@ge_iff_le,@gt_iff_lt⟩
theorem JV (n r:Int):(Cc n r).length≤2:=by
 unfold Cc
 repeat' split
 all_goals simp
theorem JU {n r d:Int} (hr:1≤r) (h:d∈Cc n r):r≤d∧d≤2*r:=by
 have hm:=Int.emod_nonneg (n / 8) (show r≠0 by omega)
 have hml:=Int.emod_lt_of_pos (n / 8) (show 0<r by omega)
 unfold Cc at h
 repeat' split at h
 all_goals simp at h
 all_goals omega
def DA (x:Seg):List AV:=[.t (tI x.kind),.t (tI x.ses),.t (tI x.ser),.t (tI x.off),.t (tI x.tot),.t (.bool x.chk),.t (.str x.data),.t (.sl 2 (x.AX.map Span.enc))]
structure EOk (s:Ses) (c:CC):Prop where
 gc:CW c
 now:0≤s.now∧s.now≤1099511627776
 pk:∀p∈s.picks,-9223372036854775808≤p∧p≤9223372036854775807
 ent:0≤s.entered∧s.entered<10000
 len:c.frames.length+2≤10000
 dst:0≤s.dist∧s.dist≤10000
 sl:s.sent.length<1000000∧s.told.length<1000000
 pl:s.picks.length≤1000
theorem JY (s:Ses) (x:Seg) (ds:List Int) (u:Int) (h:CE s s.dat.rng=(ds,u)):Cv s x={s with dat:=Bi s.dat s.now x ds,dist:=u,entered:=s.entered+1,sent:=s.sent++[⟨s.now,x⟩]}:=by
 unfold Cv
 rw [h]
theorem JX (s:Ses) (x:Seg) (ds:List Int) (u:Int) (h:CE s s.rep.rng=(ds,u)):Cy s x={s with rep:=Bi s.rep s.now x ds,dist:=u,entered:=s.entered+1,told:=s.told++[⟨s.now,x⟩]}:=by
 unfold Cy
 rw [h]
def boO (o:Option Int):Heap:=[.box [.t (tI (o.getD 0))],.box [.t (.bool o.isSome)]]
def Er (o:Option Int):List AV:=[.t (tI (o.getD 0)),.t (.bool o.isSome)]
def exG (g:Gh) (s:Ses):Gh:=if s.snd.st=1∧s.snd.due=s.now then {g with v0:=g.v0+1,pre:=[]} else g
def Iu:Seg:=⟨0,0,0,0,0,false,ByteArray.mk #[],[]⟩
def C7 (s:Ses):Ses×Option Seg:=
 match s.rep.frames with
 |[]=>(s,none)
 |f::_=>if f.arr=s.now then (BZ s,some f.seg) else (s,none)
def C8 (s:Ses):Ses×Option Seg:=
 match s.dat.frames with
 |[]=>(s,none)
 |f::_=>if f.arr=s.now then (BJ s,some f.seg) else (s,none)
theorem EK {c:CC} (hc:CW c):CW {c with frames:=c.frames.tail}:=by
 refine ⟨hc.rng,hc.lost,hc.sent,?_,fun f hf=>hc.frm f (List.mem_of_mem_tail hf),?_⟩
 ·have:=hc.len;simp;omega
 ·have:=hc.srt
  cases h:c.frames with
  |nil=>simp
  |cons f l=>rw [h] at this;exact (List.pairwise_cons.1 this).2
def gP (g:Gh):Gh:={g with v0:=g.v0+1,pre:=[]}
def lsG (g:Gh) (s:Ses):Gh:=if s.now<s.snd.busy then g else gP g
structure LsP (P:Ses→Prop):Prop where
 rep:∀s,P s→CW s.rep
 ack:∀s,P s→s.snd.acked.length≤100∧s.pend.length≤1000000
 Ez:∀s f l,P s→s.rep.frames=f::l→f.arr=s.now→(f.seg.AX.length≤100∨1000<f.seg.AX.length)∧(¬s.now<s.snd.busy→(Bb s.snd s.now f.seg).2.2=0∧(Bb s.snd s.now f.seg).2.1.length≤1000000)∧P (lsX (BZ s) f.seg)
def lsT:Nat→Gh×Ses→Gh×Ses
 |0,q=>q
 |k+1,q=>match q.2.rep.frames with
  |[]=>q
  |f::_=>if f.arr=q.2.now then lsT k (lsG q.1 (BZ q.2),lsX (BZ q.2) f.seg) else q
theorem Tl:∀(k:Nat) (q:Gh×Ses),(lsT k q).2=lsS k q.2
 |0,q=>rfl
 |k+1,q=>by
  unfold lsT lsS
  cases q.2.rep.frames with
  |nil=>rfl
  |cons f l=>
   simp only
   split
   ·exact Tl k _
   ·rfl
theorem JN (s:Ses) (x:Seg):(lsX s x).rep=s.rep:=by
 unfold lsX lsF
 split
 ·rfl
 ·split<;>rfl
structure LS where
 g:Gh
 s:Ses
 v:Nat
 o:Option Seg
def LS.step (q:LS):Rd LS (Gh×Ses):=match q.o with
 |none =>.done (q.g,q.s)
 |some x =>.next ⟨lsG q.g q.s,(C7 (lsX q.s x)).1,q.v+1,(C7 (lsX q.s x)).2⟩
def LS.res (q:LS):Gh×Ses:=match q.o with
 |none=>(q.g,q.s)
 |some x=>lsT q.s.rep.frames.length (lsG q.g q.s,lsX q.s x)
def LS.inv (P:Ses→Prop) (q:LS):Prop:=CW q.s.rep∧match q.o with
 |none=>True
 |some x=>(q.s.snd.acked.length≤100∧q.s.pend.length≤1000000)∧(x.AX.length≤100∨1000<x.AX.length)∧(¬q.s.now<q.s.snd.busy→(Bb q.s.snd q.s.now x).2.2=0∧(Bb q.s.snd q.s.now x).2.1.length≤1000000)∧P (lsX q.s x)
theorem LS.take {P:Ses→Prop} (hP:LsP P) {s:Ses} (h:P s) (g:Gh) (v:Nat):LS.inv P ⟨g,(C7 s).1,v,(C7 s).2⟩∧LS.res ⟨g,(C7 s).1,v,(C7 s).2⟩=lsT s.rep.frames.length (g,s):=by
 have hg:=hP.rep s h
 unfold C7
 cases hf:s.rep.frames with
 |nil=>exact ⟨⟨hg,trivial⟩,by simp [LS.res,lsT]⟩
 |cons f l=>
  simp only
  split
  ·rename_i ha
   obtain ⟨h1,h2,h3⟩:=hP.Ez s f l h hf ha
   refine ⟨⟨EK hg,hP.ack s h,h1,h2,h3⟩,?_⟩
   simp only [LS.res,List.length_cons,lsT,hf,ha,if_true]
   have:(BZ s).rep.frames.length=l.length:=by simp [BZ,hf]
   rw [this]
  ·rename_i ha
   refine ⟨⟨hg,trivial⟩,?_⟩
   simp only [LS.res,List.length_cons,lsT,hf,ha,if_false]
theorem LS.sound {P:Ses→Prop} (hP:LsP P) (q q':LS) (h:q.inv P) (hs:q.step = .next q'):q'.inv P∧(q'.s.rep.frames.length+(if q'.o.isSome then 1 else 0)<q.s.rep.frames.length+(if q.o.isSome then 1 else 0)):=by
 obtain ⟨g,s,v,o⟩:=q
 unfold LS.step at hs
 cases o with
 |none=>cases hs
 |some x=>
  cases hs
  refine ⟨(LS.take hP h.2.2.2.2 _ _).1,?_⟩
  simp only [C7,JN]
  cases hf:s.rep.frames with
  |nil=>simp [JN,hf]
  |cons f l=>
   simp only
   split
   ·simp [BZ,JN,hf]
   ·simp [JN,hf]
theorem LS.fin {P:Ses→Prop} (hP:LsP P) (q:LS) (h:q.inv P):q.res=q.step.fin LS.res:=by
 obtain ⟨g,s,v,o⟩:=q
 cases o with
 |none=>rfl
 |some x=>
  simp only [LS.step,Rd.fin]
  rw [(LS.take hP h.2.2.2.2 _ _).2,JN]
  rfl
end Ab
set_option linter.unusedVariables false
set_option linter.unusedSimpArgs false
namespace Ab
open Go
structure Bud (k:Nat) (s:Ses):Prop where
 gd:CW s.dat
 gr:CW s.rep
 now:0≤s.now∧(0<k→s.now≤1099511627776)
 pk:∀p∈s.picks,-9223372036854775808≤p∧p≤9223372036854775807
 ent:0≤s.entered∧s.entered+k≤5000
 ld:(s.dat.frames.length:Int)≤2*s.entered
 lr:(s.rep.frames.length:Int)≤2*s.entered
 sd:s.dat.sent≤s.entered
 sr:s.rep.sent≤s.entered
 dst:0≤s.dist∧s.dist≤s.entered
 sl:(s.sent.length:Int)≤s.entered
 tl:(s.told.length:Int)≤s.entered
 pl:s.picks.length≤1000
theorem Bud.mono {k k':Nat} {s:Ses} (h:Bud k s) (hk:k'≤k):Bud k' s:={h with ent:=by have:=h.ent;omega,now:=⟨h.now.1,fun q=>h.now.2 (by omega)⟩}
theorem Bud.eD {k:Nat} {s:Ses} (h:Bud (k+1) s):EOk s s.dat:=by
 have:=h.ent;have:=h.ld;have:=h.dst;have:=h.sl;have:=h.tl
 exact ⟨h.gd,⟨h.now.1,h.now.2 (by omega)⟩,h.pk,by omega,by omega,by omega,by omega,h.pl⟩
theorem Bud.eR {k:Nat} {s:Ses} (h:Bud (k+1) s):EOk s s.rep:=by
 have:=h.ent;have:=h.lr;have:=h.dst;have:=h.sl;have:=h.tl
 exact ⟨h.gr,⟨h.now.1,h.now.2 (by omega)⟩,h.pk,by omega,by omega,by omega,by omega,h.pl⟩
theorem Fp (t num:Int) (x:Seg):∀(ds:List Int) (fs:List Frame),(KB t num x ds fs).length=fs.length+ds.length
 |[],fs=>by simp [KB]
 |d::ds,fs=>by
  show (KB t num x ds (KI t num x fs d)).length=_
  rw [Fp t num x ds,MT]
  simp;omega
theorem CA {t num:Int} {x:Seg} {f:Frame}:∀{ds:List Int} {fs:List Frame},f∈KB t num x ds fs↔f∈fs∨∃d∈ds,f=⟨t+d,num,x⟩
 |[],fs=>by simp [KB]
 |d::ds,fs=>by
  show f∈KB t num x ds (KI t num x fs d)↔_
  rw [CA]
  unfold KI
  rw [MU]
  simp only [List.mem_cons,exists_eq_or_imp]
  constructor
  ·rintro ((h|h)|h)
   ·exact .inr (.inl h)
   ·exact .inl h
   ·exact .inr (.inr h)
  ·rintro (h|h|h)
   ·exact .inl (.inr h)
   ·exact .inl (.inl h)
   ·exact .inr h
theorem QQ {t num:Int} {x:Seg}:∀{ds:List Int} {fs:List Frame},fs.Pairwise (fun a b=>a.arr≤b.arr)→(KB t num x ds fs).Pairwise fun a b=>a.arr≤b.arr
 |[],fs,h=>h
 |d::ds,fs,h=>QQ (ds:=ds) (Qv h)
theorem PH {s:Ses} {R:Int} (hR:1≤R):(∀d∈(CE s R).1,R≤d∧d≤2*R)∧(CE s R).1.length≤2∧s.dist≤(CE s R).2∧(CE s R).2≤s.dist+1:=by
 unfold CE
 split
 ·simp;omega
 ·split
  ·simp;omega
  ·split
   ·exact ⟨fun d hd=>JU hR hd,JV _ _,by simp,by simp only;omega⟩
   ·split
    ·simp;omega
    ·exact ⟨fun d hd=>JU hR hd,JV _ _,by simp only;omega,by simp⟩
theorem MZ {c:CC} {t:Int} {x:Seg} {ds:List Int} (hc:CW c) (ht:0≤t∧t≤1099511627776) (hd:∀d∈ds,c.rng≤d∧d≤2*c.rng) (hl:c.frames.length+ds.length≤10000) (hs:c.sent<1152921504606846976):CW (Bi c t x ds):=by
 have h1:=hc.rng
 have h2:=hc.lost
 refine ⟨h1,?_,?_,?_,fun f hf => ?_,QQ hc.srt⟩
 ·simp only [Bi,HB]
  split<;>omega
 ·simp only [Bi];omega
 ·simp only [Bi,Fp];exact hl
 ·simp only [Bi] at hf
  rcases CA.1 hf with hf|⟨d,hdd,rfl⟩
  ·have:=hc.frm f hf
   simp only [Bi]
   omega
  ·have:=hd d hdd
   simp only [Bi]
   omega
theorem Bud.Cv {k:Nat} {s:Ses} (h:Bud (k+1) s) (x:Seg):Bud k (Cv s x):=by
 have he:=h.eD
 have hr:=h.gd.rng
 obtain ⟨d1,d2,d3,d4⟩:=PH (s:=s) hr.1
 have:=h.ent;have:=h.ld;have:=h.lr;have:=h.dst;have:=h.sl;have:=h.tl;have:=h.sd;have:=h.sr
 refine ⟨MZ h.gd he.now d1 (by omega) (by omega),h.gr,⟨h.now.1,fun _=>h.now.2 (by omega)⟩,h.pk,?_,?_,?_,?_,?_,?_,?_,?_,h.pl⟩
 all_goals simp only [Ab.Cv,Bi,Fp,List.length_append,List.length_cons,List.length_nil]
 all_goals omega
theorem Bud.Cy {k:Nat} {s:Ses} (h:Bud (k+1) s) (x:Seg):Bud k (Cy s x):=by
 have he:=h.eR
 have hr:=h.gr.rng
 obtain ⟨d1,d2,d3,d4⟩:=PH (s:=s) hr.1
 have:=h.ent;have:=h.ld;have:=h.lr;have:=h.dst;have:=h.sl;have:=h.tl;have:=h.sd;have:=h.sr
 refine ⟨h.gd,MZ h.gr he.now d1 (by omega) (by omega),⟨h.now.1,fun _=>h.now.2 (by omega)⟩,h.pk,?_,?_,?_,?_,?_,?_,?_,?_,h.pl⟩
 all_goals simp only [Ab.Cy,Bi,Fp,List.length_append,List.length_cons,List.length_nil]
 all_goals omega
theorem Bud.BJ {k:Nat} {s:Ses} (h:Bud k s):Bud k (BJ s):={h with gd:=EK h.gd,ld:=by have:=h.ld;simp only [Ab.BJ,List.length_tail];omega}
theorem Bud.BZ {k:Nat} {s:Ses} (h:Bud k s):Bud k (BZ s):={h with gr:=EK h.gr,lr:=by have:=h.lr;simp only [Ab.BZ,List.length_tail];omega}
theorem Bud.of {k:Nat} {s s':Ses} (h:Bud k s) (h1:s'.dat=s.dat) (h2:s'.rep=s.rep) (h3:s'.now=s.now) (h4:s'.picks=s.picks) (h5:s'.entered=s.entered) (h6:s'.dist=s.dist) (h7:s'.sent=s.sent) (h8:s'.told=s.told):Bud k s':=
 ⟨h1 ▸ h.gd,h2 ▸ h.gr,h3 ▸ h.now,h4 ▸ h.pk,h5 ▸ h.ent,by rw [h1,h5];exact h.ld,by rw [h2,h5];exact h.lr,by rw [h1,h5];exact h.sd,by rw [h2,h5];exact h.sr,by rw [h6,h5];exact h.dst,by rw [h7,h5];exact h.sl,by rw [h8,h5];exact h.tl,h4 ▸ h.pl⟩
theorem KL:∀(l:List Seg) (s:Ses),(l.foldl Cy s).dat=s.dat
 |[],s=>rfl
 |x::l,s=>by rw [List.foldl_cons,KL l];rfl
theorem KK:∀(l:List Seg) (s:Ses),(l.foldl Cy s).now=s.now
 |[],s=>rfl
 |x::l,s=>by rw [List.foldl_cons,KK l];rfl
def rxG (g:Gh) (s:Ses) (x:Seg):Gh:={g with v5:=g.v5+(Ez s.rcv x).2.1.length}
structure RxP (P:Ses→Prop):Prop where
 dat:∀s,P s→CW s.dat
 Ez:∀s f l,P s→s.dat.frames=f::l→f.arr=s.now→(Ez s.rcv f.seg).2.2=0∧Bud (Ez s.rcv f.seg).2.1.length (BJ s)∧P (rxX (BJ s) f.seg)
def rxT:Nat→Gh×Ses→Gh×Ses
 |0,q=>q
 |k+1,q=>match q.2.dat.frames with
  |[]=>q
  |f::_=>if f.arr=q.2.now then rxT k (rxG q.1 (BJ q.2) f.seg,rxX (BJ q.2) f.seg) else q
theorem TM:∀(k:Nat) (q:Gh×Ses),(rxT k q).2=rxS k q.2
 |0,q=>rfl
 |k+1,q=>by
  unfold rxT rxS
  cases q.2.dat.frames with
  |nil=>rfl
  |cons f l=>
   simp only
   split
   ·exact TM k _
   ·rfl
theorem FQ (s:Ses) (x:Seg):(rxX s x).dat=s.dat:=by
 unfold rxX rxF rxH
 split
 ·show (List.foldl Cy _ _).dat=_;rw [KL]
 ·rw [KL]
theorem Om (s:Ses) (x:Seg):(rxX s x).now=s.now:=by
 unfold rxX rxF rxH
 split
 ·show (List.foldl Cy _ _).now=_;rw [KK]
 ·rw [KK]
structure RS where
 g:Gh
 s:Ses
 v:Nat
 o:Option Seg
def RS.step (q:RS):Rd RS (Gh×Ses):=match q.o with
 |none =>.done (q.g,q.s)
 |some x =>.next ⟨rxG q.g q.s x,(C8 (rxX q.s x)).1,q.v+1,(C8 (rxX q.s x)).2⟩
def RS.res (q:RS):Gh×Ses:=match q.o with
 |none=>(q.g,q.s)
 |some x=>rxT q.s.dat.frames.length (rxG q.g q.s x,rxX q.s x)
def RS.inv (P:Ses→Prop) (q:RS):Prop:=CW q.s.dat∧match q.o with
 |none=>True
 |some x=>(Ab.Ez q.s.rcv x).2.2=0∧Bud (Ab.Ez q.s.rcv x).2.1.length q.s∧P (rxX q.s x)
theorem RS.take {P:Ses→Prop} (hP:RxP P) {s:Ses} (h:P s) (g:Gh) (v:Nat):RS.inv P ⟨g,(C8 s).1,v,(C8 s).2⟩∧RS.res ⟨g,(C8 s).1,v,(C8 s).2⟩=rxT s.dat.frames.length (g,s):=by
 have hg:=hP.dat s h
 unfold C8
 cases hf:s.dat.frames with
 |nil=>exact ⟨⟨hg,trivial⟩,by simp [RS.res,rxT]⟩
 |cons f l=>
  simp only
  split
  ·rename_i ha
   obtain ⟨h1,h2,h3⟩:=hP.Ez s f l h hf ha
   refine ⟨⟨EK hg,h1,h2,h3⟩,?_⟩
   simp only [RS.res,List.length_cons,rxT,hf,ha,if_true]
   have:(BJ s).dat.frames.length=l.length:=by simp [BJ,hf]
   rw [this]
  ·rename_i ha
   refine ⟨⟨hg,trivial⟩,?_⟩
   simp only [RS.res,List.length_cons,rxT,hf,ha,if_false]
theorem RS.sound {P:Ses→Prop} (hP:RxP P) (q q':RS) (h:q.inv P) (hs:q.step = .next q'):q'.inv P∧(q'.s.dat.frames.length+(if q'.o.isSome then 1 else 0)<q.s.dat.frames.length+(if q.o.isSome then 1 else 0)):=by
 obtain ⟨g,s,v,o⟩:=q
 unfold RS.step at hs
 cases o with
 |none=>cases hs
 |some x=>
  cases hs
  refine ⟨(RS.take hP h.2.2.2 _ _).1,?_⟩
  simp only [C8,FQ]
  cases hf:s.dat.frames with
  |nil=>simp [FQ,hf]
  |cons f l=>
   simp only
   split
   ·simp [BJ,FQ,hf]
   ·simp [FQ,hf]
theorem RS.fin {P:Ses→Prop} (hP:RxP P) (q:RS) (h:q.inv P):q.res=q.step.fin RS.res:=by
 obtain ⟨g,s,v,o⟩:=q
 cases o with
 |none=>rfl
 |some x=>
  simp only [RS.step,Rd.fin]
  rw [(RS.take hP h.2.2.2 _ _).2,FQ]
  rfl
def QJ (r:Rcv):AG :=.box [.t (tI r.ses),.t (tI r.tot),.t (.sl 2 (r.known.map Span.enc)),.t (.str r.data)]
theorem Wc:∀(l:List Seg) (g:Gh) (s:Ses),l.foldl (fun (q:Gh×Ses) y=>({q.1 with v5:=q.1.v5+1},Cy q.2 y)) (g,s)=({g with v5:=g.v5+l.length},l.foldl Cy s)
 |[],g,s=>rfl
 |x::l,g,s=>by
  rw [List.foldl_cons,Wc l]
  simp only [List.length_cons,List.foldl_cons,Nat.add_assoc,Nat.add_comm 1]
def txT:Nat→Gh×Ses→Gh×Ses
 |0,q=>q
 |k+1,q=>match q.2.pend with
  |[]=>q
  |o::l=>if o.at_=q.2.now then txT k ({q.1 with v4:=q.1.v4+1,pre:=q.1.pre++[o.enc]},{Cv q.2 o.seg with pend:=l}) else q
theorem TA:∀(k:Nat) (q:Gh×Ses),(txT k q).2=txS k q.2
 |0,q=>rfl
 |k+1,q=>by
  unfold txT txS
  cases q.2.pend with
  |nil=>rfl
  |cons o l=>
   simp only
   split
   ·exact TA k _
   ·rfl
structure ExOk (s:Ses):Prop where
 ent:s.entered<10000
 ack:s.snd.acked.length≤100
 pl:s.pend.length≤1000000
 w:s.snd.st=1→s.snd.due=s.now→(C5 s.snd s.now).2.2=0∧(C5 s.snd s.now).2.1.length≤1000000
structure XG (W P1 P2:Ses→Prop) (μ:Ses→Nat):Prop where
 rx:RxP P1
 ls:LsP P2
 nx:∀s,W s→s.entered<10000∧CW s.dat∧CW s.rep
 tx:∀s t,W s→nxS s=some t→Bud s.pend.length {s with now:=t}
 p1:∀s t,W s→nxS s=some t→P1 (ph1 s t)
 p2:∀s t,W s→nxS s=some t→P2 (ph2 s t)
 ex:∀s t,W s→nxS s=some t→ExOk (ph3 s t)
 st:∀s t,W s→nxS s=some t→W (stS s t)∧μ (stS s t)<μ s
def g1T (g:Gh) (s:Ses) (t:Int):Gh:=(txT s.pend.length (g,{s with now:=t})).1
def g2T (g:Gh) (s:Ses) (t:Int):Gh:=(rxT (ph1 s t).dat.frames.length (g1T g s t,ph1 s t)).1
def g3T (g:Gh) (s:Ses) (t:Int):Gh:=(lsT (ph2 s t).rep.frames.length (g2T g s t,ph2 s t)).1
def stT (q:Gh×Ses) (t:Int):Gh×Ses:=(exG (g3T q.1 q.2 t) (ph3 q.2 t),stS q.2 t)
def rnT:Nat→Gh×Ses→Gh×Ses
 |0,q=>q
 |k+1,q=>match nxS q.2 with
  |none=>q
  |some t=>rnT k (stT q t)
theorem TW:∀(k:Nat) (q:Gh×Ses),(rnT k q).2=IP k q.2
 |0,q=>rfl
 |k+1,q=>by
  unfold rnT IP
  cases nxS q.2 with
  |none=>rfl
  |some t=>exact TW k _
theorem IQ {W P1 P2:Ses→Prop} {μ:Ses→Nat} (hR:XG W P1 P2 μ):∀(k:Nat) (q:Gh×Ses),W q.2→μ q.2≤k→rnT k q=rnT (μ q.2) q
 |0,q,h,hk=>by rw [show μ q.2=0 by omega]
 |k+1,q,h,hk=>by
  cases hn:nxS q.2 with
  |none=>
   cases hm:μ q.2 with
   |zero=>simp only [rnT,hn]
   |succ m=>simp only [rnT,hn]
  |some t=>
   obtain ⟨h1,h2⟩:=hR.st q.2 t h hn
   cases hm:μ q.2 with
   |zero=>omega
   |succ m=>
    simp only [rnT,hn]
    rw [IQ hR k (stT q t) h1 (by simp only [stT];omega),← IQ hR m (stT q t) h1 (by simp only [stT];omega)]
theorem SC {S R:Type} (B:S→(S→Option R)→Option R) (s0 s1 s2 s3 s4:S) (r:Option R) (n:Nat) (hn:5≤n) (h0:∀ag,B s0 ag=ag s1) (h1:∀ag,B s1 ag=ag s2) (h2:∀ag,B s2 ag=ag s3) (h3:∀ag,B s3 ag=ag s4) (h4:∀ag,B s4 ag=r):AJ B n s0=r:=by
 obtain ⟨m,rfl⟩:∃m,n=m+5:=⟨n-5,by omega⟩
 show B s0 (AJ B (m+4))=r
 rw [h0]
 show B s1 (AJ B (m+3))=r
 rw [h1]
 show B s2 (AJ B (m+2))=r
 rw [h2]
 show B s3 (AJ B (m+1))=r
 rw [h3]
 show B s4 (AJ B m)=r
 rw [h4]
def ini (c:Con) (b e:Int) (d:ByteArray) (ps:List Int) (lim:Int) (dk:List Span):Ses:=
 ⟨⟨c.rng,[],0,0⟩,⟨c.rng,[],0,0⟩,ps,lim,dk,0,0,[],[],0,(A7 c 0 d b e).1,⟨0,-1,[],ByteArray.mk #[]⟩,(A7 c 0 d b e).2.1,false,0,false,0⟩
def PA (c:Con) (b e:Int) (d:ByteArray) (ps:List Int) (lim:Int) (dk:List Span):Int:=
 if 1000<ps.length then 4 else if lim < -1 then 2 else if BB dk≠0 then 1 else (A7 c 0 d b e).2.2
def Gj (c:Con) (b e:Int) (d:ByteArray) (ps:List Int) (lim:Int) (dk:List Span):List Tree:=c.enc++[tI b,tI e,.str d,.sl 1 (ps.map Cz),tI lim,.sl 2 (dk.map Span.enc)]
theorem UT {c:Con} {b e:Int} {d:ByteArray} (h:(A7 c 0 d b e).2.2=0):1≤c.rng∧c.rng≤1048576:=by
 unfold A7 at h
 split at h
 ·simp [Cu] at h
 ·rename_i h1
  have h1:Ee c=0:=by simpa using h1
  obtain ⟨c1,c2⟩:=Dp h1
  unfold F0 at c1
  omega
def Ox (s:Ses):List Tree:=[.bool s.rcvd,tI s.arrive,.bool s.kno,tI s.knoAt,tI s.snd.busy,tI s.entered,tI (s.dat.lost+s.rep.lost),tI 0]
end Ab
set_option linter.unusedVariables false
set_option linter.unusedSimpArgs false
namespace Ab
open Go
theorem Bat.BL {d:ByteArray} {ses ser:Int} {l:List Seg} (h:Bat d ses ser l):Bat d ses ser (BL l):=by
 obtain ⟨pre,x,rfl,h1,h2⟩:=h.ex
 rw [Ff]
 exact ⟨⟨[],x,rfl,h1,fun y hy=>by cases hy⟩,by simp;omega⟩
theorem Bat.AX {d:ByteArray} {ses ser:Int} {l:List Seg} (h:Bat d ses ser l):∀x∈l,x.AX=[]:=by
 obtain ⟨pre,x,rfl,h1,h2⟩:=h.ex
 intro y hy
 rcases List.mem_append.1 hy with hy|hy
 ·exact (h2 y hy).cl
 ·rw [List.mem_singleton] at hy
  subst hy
  exact h1.cl
theorem EH (r:Int):∀(l:List Seg) (t:Int),(Ar r t l).map Out.seg=l
 |[],t=>rfl
 |x::l,t=>by simp only [Ar,List.map_cons,EH r l]
def FewO (o:List Out):Prop:=o.length≤1000000∧∀x∈o,x.seg.AX.length≤1000000
theorem PM {s:Snd} (h:Gm s=0) (hf:fits s=true):GM s=0:=by
 unfold GM
 rw [if_neg (fun f=>f h),if_pos hf]
theorem T7 {s:Snd} (h:Gm s=0):GM (DC s)=0:=by
 refine PM h ?_
 unfold fits DC
 simp
theorem TG {s:Snd} {t ser:Int} (h:Gm s=0) (hc:complete s=false) (ht:s.c.start≤t∧t≤s.fin) (hr:1≤ser∧ser≤1099511627776):GM (Aw s t ser)=0:=by
 refine PM ?_ ?_
 ·obtain ⟨c1,c2,c3⟩:=C2 h
  unfold EU at c2
  have a1:EU (Aw s t ser):=by
   unfold EU Aw
   simp only
   omega
  have a2:Pq (Aw s t ser):=c3
  have a0:Ee (Aw s t ser).c=0:=c1
  unfold Gm
  rw [if_neg (fun f=>f a0),if_neg (fun f=>f a1),if_neg (fun f=>f a2)]
 ·unfold fits
  refine decide_eq_true (.inl ⟨rfl,hc,rfl⟩)
theorem done_ok {s:Snd} (h:Gm s=0) (hc:complete s=true):GM {s with due:=0,st:=2}=0:=by
 refine PM h ?_
 unfold fits
 exact decide_eq_true (.inr (.inl ⟨rfl,hc,rfl⟩))
structure Step (s p:Snd) (o:List Out):Prop where
 ok:GM p=0
 few:p.acked.length≤s.acked.length+100
 data:p.data=s.data
 acc:∀t,AO t s.acked→AO t p.acked
 ser:s.ser≤p.ser
 busy:s.busy≤p.busy
 still:s.st=1∨o=[]∧p=s
 next:o=[]∨p.ser=s.ser+1
 fewO:FewO o
end Ab
set_option linter.unusedVariables false
set_option linter.unusedSimpArgs false
namespace Ab
open Go
theorem FB (k:Nat):(Dt k).length=k:=by simp [Dt]
theorem Ma {l:List UInt8} {i:Nat} (h:l.length≤i):l.getD i 0=0:=by simp [List.getD,List.getElem?_eq_none h]
theorem Rj (k i:Nat):(Dt k).getD i 0=0:=by
 by_cases h:i<k
 ·simp [Dt,List.getD,List.getElem?_replicate,h]
 ·exact Ma (by simp [Dt];omega)
theorem Qh {r:Rcv} {x:Seg} (h1:r.data.size≤x.tot.toNat) (h2:x.off.toNat+x.data.size≤x.tot.toNat):(De r x).length=x.tot.toNat:=by
 have l1:(Lo (Dt x.tot.toNat) 0 (bl r.data)).length=x.tot.toNat:=by rw [Gs _ _ _ (by rw [B4,FB];omega),FB]
 unfold De
 rw [Gs _ _ _ (by rw [B4,l1];omega),l1]
theorem Qi {r:Rcv} {x:Seg} (h1:r.data.size≤x.tot.toNat) (h2:x.off.toNat+x.data.size≤x.tot.toNat) (i:Nat) :
  (De r x).getD i 0=if x.off.toNat≤i∧i<x.off.toNat+x.data.size then (bl x.data).getD (i-x.off.toNat) 0 else (bl r.data).getD i 0:=by
 have l1:(Lo (Dt x.tot.toNat) 0 (bl r.data)).length=x.tot.toNat:=by rw [Gs _ _ _ (by rw [B4,FB];omega),FB]
 unfold De
 rw [P3 _ _ _ (by rw [B4,l1];omega),P3 _ _ _ (by rw [B4,FB];omega),B4,B4]
 split
 ·rfl
 ·split
  ·rw [Nat.sub_zero]
  ·rw [Rj,Ma (by rw [B4];omega)]
theorem T6 {r:Rcv} {x:Seg} (hr:EM r=0) (hx:Cj x=0) (hs:D9 r x=true):r.data.size≤x.tot.toNat∧x.off.toNat+x.data.size≤x.tot.toNat:=by
 obtain ⟨g1,g2,g3,g4,g5,g6,g7⟩:=Dx hx (DL.1 hs).1
 exact ⟨(size_le hr hx hs).1,by omega⟩
theorem WR {x:Seg} {t:Int}:AO t [sp x]↔x.off≤t∧t<x.off+x.data.size:=by
 simp only [AO,or_false]
 rfl
theorem JI {r:Rcv} {x:Seg} (hs:D9 r x=true) (t:Int):AO t (Cg r x).known↔AO t r.known∨(x.off≤t∧t<x.off+x.data.size):=by
 rw [← WR]
 exact (Gp (DL.1 hs).2.2.2.2).2.2.2.2 t
theorem Qg {r:Rcv} {x:Seg} (hr:EM r=0) (hx:Cj x=0) (hs:D9 r x=true) (i:Nat) :
  (bl (Cg r x).data).getD i 0=if x.off.toNat≤i∧i<x.off.toNat+x.data.size then (bl x.data).getD (i-x.off.toNat) 0 else (bl r.data).getD i 0:=by
 show (bl (mkB (De r x))).getD i 0=_
 rw [K8]
 exact Qi (T6 hr hx hs).1 (T6 hr hx hs).2 i
theorem Ul {r:Rcv} {x:Seg} (hr:EM r=0) (hx:Cj x=0) (hs:D9 r x=true):(Cg r x).data.size=x.tot.toNat:=by
 show (mkB (De r x)).size=_
 rw [Hl]
 exact Qh (T6 hr hx hs).1 (T6 hr hx hs).2
theorem MC {r:Rcv} {x:Seg} (hr:EM r=0) (hx:Cj x=0) (hs:D9 r x=true):EM (Cg r x)=0:=by
 obtain ⟨h1,h2,h3,h4,h5⟩:=DL.1 hs
 obtain ⟨g1,g2,g3,g4,g5,g6,g7⟩:=Dx hx h1
 obtain ⟨c1,c2,c3,c4⟩:=C1 hr
 obtain ⟨w1,w2⟩:=Ku hr hx hs
 obtain ⟨u1,u2,u3,u4,u5⟩:=Gp h5
 have a1:Sk (Cg r x):=⟨c1.1,.inr ⟨g1,g2⟩⟩
 have a2:KnR (Cg r x):=by
  refine ⟨u4,⟨fun h=>(w2 h).elim,fun h => ?_⟩,(Bx u4).2 w1⟩
  have:x.tot = -1:=h
  omega
 have a3:((Cg r x).data.size:Int)=I3 (Cg r x).tot:=by
  rw [Ul hr hx hs]
  show ((x.tot.toNat:Nat):Int)=I3 x.tot
  unfold I3
  rw [if_neg (by omega)]
  omega
 have a4:Rb (Cg r x):=by
  intro i hi hi0
  rw [Qg hr hx hs] at hi0
  rw [JI hs]
  split at hi0
  ·right;omega
  ·left
   refine c4 i ?_ hi0
   rw [← B4]
   rcases Nat.lt_or_ge i (bl r.data).length with h|h
   ·exact h
   ·exact (hi0 (Ma h)).elim
 unfold EM
 rw [if_neg (not_not_intro a1),if_neg (not_not_intro a2),if_neg (not_not_intro a3),if_pos a4]
theorem O7 {r:Rcv} {x:Seg} (hr:EM r=0) (hx:Cj x=0):Ez r x=if D9 r x=true then (Cg r x,if x.chk=true then [Bn r x] else [],0) else (r,[],0):=by
 unfold Ez
 rw [if_neg (not_not_intro ⟨hr,hx⟩)]
 by_cases hs:D9 r x=true
 ·rw [if_neg (by rw [hs];decide),if_pos hs]
 ·rw [if_pos (by simpa using hs),if_neg hs]
theorem SK {r:Rcv} {x:Seg} (hr:EM r=0) (hx:Cj x=0):EM (Ez r x).1=0:=by
 rw [O7 hr hx]
 split
 ·rename_i hs;exact MC hr hx hs
 ·exact hr
theorem MO {r:Rcv} {x:Seg} (hr:EM r=0) (hx:Cj x=0) (hc:A3 r=true):A3 (Ez r x).1=true:=by
 have hv:=SK hr hx
 unfold A3 at hc ⊢
 rw [decide_eq_true_eq] at hc ⊢
 refine ⟨hv,?_⟩
 rw [O7 hr hx] at hv ⊢
 split
 ·rename_i hs
  rw [if_pos hs] at hv
  obtain ⟨h1,h2,h3,h4,h5⟩:=DL.1 hs
  obtain ⟨g1,g2,g3,g4,g5,g6,g7⟩:=Dx hx h1
  obtain ⟨c1,c2,c3,c4⟩:=C1 hr
  obtain ⟨d1,d2,d3,d4⟩:=C1 hv
  have ht:r.tot ≠ -1:=fun h=>by
   have:=c2.2.1.2 h
   rw [this] at hc
   cases hc.2
  have htt:x.tot=r.tot:=by rcases h3 with h|h;exact (ht h).elim;exact h
  show (Cg r x).known=[⟨0,x.tot⟩]
  refine Cw ((Ai _).1 d2.1).2.1 (b' := -1) ⟨by show (-1:Int)<0;decide,by show (0:Int)<x.tot;omega,trivial⟩ fun t => ?_
  rw [JI hs,hc.2]
  simp only [AO,or_false]
  omega
 ·exact hc.2
end Ab
set_option linter.unusedVariables false
set_option linter.unusedSimpArgs false
namespace Ab
open Go
def D7 (D:ByteArray) (x:Seg):Prop:=Cj x=0∧x.kind=1∧x.ses=0∧x.tot=D.size∧∀i,i<x.data.size→(bl x.data).getD i 0=(bl D).getD (x.off.toNat+i) 0
def Cov (l:List Seg) (t:Int):Prop:=∃x∈l,x.off≤t∧t<x.off+x.data.size
def R0:Rcv:=⟨0,-1,[],ByteArray.mk #[]⟩
structure Hd (D:ByteArray) (r:Rcv) (l:List Seg):Prop where
 ok:EM r=0
 ses:r.ses=0
 tot:r.tot=if l=[] then -1 else (D.size:Int)
 mem:∀t,AO t r.known↔Cov l t
 get:∀i:Nat,Cov l (i:Int)→(bl r.data).getD i 0=(bl D).getD i 0
theorem Vk (D:ByteArray):Hd D R0 []:=⟨by decide,rfl,rfl,fun t=>⟨fun h=>h.elim,fun ⟨x,h,_⟩=>by cases h⟩,fun i ⟨x,h,_⟩=>by cases h⟩
theorem RE {l:List Seg} {x:Seg} {t:Int}:Cov (l++[x]) t↔Cov l t∨(x.off≤t∧t<x.off+x.data.size):=by
 unfold Cov
 constructor
 ·rintro ⟨y,hy,h⟩
  rcases List.mem_append.1 hy with hy|hy
  ·exact .inl ⟨y,hy,h⟩
  ·simp only [List.mem_singleton] at hy
   subst hy
   exact .inr h
 ·rintro (⟨y,hy,h⟩|h)
  ·exact ⟨y,List.mem_append_left _ hy,h⟩
  ·exact ⟨x,by simp,h⟩
theorem GB {D:ByteArray} {x:Seg} (hx:D7 D x):0≤x.off∧1≤x.data.size∧x.off+x.data.size≤D.size∧x.data.size≤16:=by
 obtain ⟨g1,g2,g3,g4,g5,g6,g7⟩:=Dx hx.1 hx.2.1
 have:=hx.2.2.2.1
 omega
theorem Ww {D:ByteArray} {l:List Seg} (hl:∀x∈l,D7 D x) {t:Int} (h:Cov l t):0≤t∧t<D.size:=by
 obtain ⟨x,hx,h1,h2⟩:=h
 have:=GB (hl x hx)
 omega
theorem Lf {D:ByteArray} {r:Rcv} {l:List Seg} {x:Seg} (h:Hd D r l) (hl:∀x∈l,D7 D x) (hx:D7 D x) (hD:D.size≤900):D9 r x=true:=by
 obtain ⟨c1,c2,c3,c4⟩:=C1 h.ok
 obtain ⟨b1,b2,b3,b4⟩:=GB hx
 refine DL.2 ⟨hx.2.1,by rw [hx.2.2.1,h.ses],?_,fun i hi hm => ?_,?_⟩
 ·rw [h.tot,hx.2.2.2.1]
  by_cases hn:l=[]
  ·left;rw [if_pos hn]
  ·right;rw [if_neg hn]
 ·have:=h.get (x.off.toNat+i) (by rw [show ((x.off.toNat+i:Nat):Int)=x.off+(i:Int) by omega];exact (h.mem _).1 hm)
  rw [this,hx.2.2.2.2 i hi]
 ·have hs:BB [sp x]=0:=by
   rw [Ai]
   refine ⟨by simp,⟨?_,?_,trivial⟩,fun y hy => ?_⟩
   ·show -1152921504606846977<x.off;omega
   ·show x.off<x.off+x.data.size;omega
   ·simp only [List.mem_singleton] at hy
    subst hy
    show x.off+x.data.size≤_
    omega
  obtain ⟨u1,u2⟩:=Iw ((Ai _).1 c2.1).2.1 ((Ai _).1 hs).2.1
  have hin:∀t,AO t (uni r.known [sp x])→0≤t∧t<D.size:=fun t m=>by
   rcases (u2 t).1 m with m|m
   ·exact Ww hl ((h.mem t).1 m)
   ·rw [WR] at m;omega
  have hw:=GD u1 hin
  have hlen:((uni r.known [sp x]).length:Int)≤D.size-(-1):=by
   refine VC (b := -1) ?_ (by omega) (fun y hy=>(hw y hy).2)
   cases hu:uni r.known [sp x] with
   |nil=>trivial
   |cons y l'=>
    rw [hu] at u1 hw
    exact ⟨by have:=(hw y List.mem_cons_self).1;omega,u1.2.1,u1.2.2⟩
  unfold EC
  rw [if_pos ⟨c2.1,hs⟩,if_neg (by omega)]
theorem st_next {D:ByteArray} {r:Rcv} {l:List Seg} {x:Seg} (h:Hd D r l) (hl:∀x∈l,D7 D x) (hx:D7 D x) (hD:D.size≤900):Hd D (Cg r x) (l++[x]):=by
 have hs:=Lf h hl hx hD
 obtain ⟨b1,b2,b3,b4⟩:=GB hx
 refine ⟨MC h.ok hx.1 hs,h.ses,?_,fun t => ?_,fun i hi => ?_⟩
 ·rw [if_neg (by simp)]
  exact hx.2.2.2.1
 ·rw [JI hs,h.mem,RE]
 ·rw [Qg h.ok hx.1 hs]
  split
  ·rename_i hr
   rw [hx.2.2.2.2 _ (by omega),show x.off.toNat+(i-x.off.toNat)=i by omega]
  ·rename_i hr
   rcases RE.1 hi with hc|hc
   ·exact h.get i hc
   ·omega
theorem st_hear {D:ByteArray} {r:Rcv} {l:List Seg} {x:Seg} (h:Hd D r l) (hl:∀x∈l,D7 D x) (hx:D7 D x) (hD:D.size≤900):Ez r x=(Cg r x,if x.chk=true then [Bn r x] else [],0):=by
 rw [O7 h.ok hx.1,if_pos (Lf h hl hx hD)]
end Ab
set_option linter.unusedVariables false
set_option linter.unusedSimpArgs false
namespace Ab
open Go
theorem UZ {d:ByteArray} {p:Int×Int} (h:0≤p.1∧p.1<p.2∧p.2≤d.size) (i:Nat) (hi:i<(raw d 0 p).data.size):(bl (raw d 0 p).data).getD i 0=(bl d).getD ((raw d 0 p).off.toNat+i) 0:=by
 have hs:(raw d 0 p).data.size=p.2.toNat-p.1.toNat:=by
  simp only [raw,ByteArray.size_extract]
  omega
 rw [hs] at hi
 show (bl (d.extract p.1.toNat p.2.toNat)).getD i 0=(bl d).getD (p.1.toNat+i) 0
 rw [EO]
 simp [List.getD_eq_getElem?_getD,List.getElem?_take,hi,List.getElem?_drop]
structure Ke (d:ByteArray) (x:Seg):Prop where
 pc:D7 d x
 sr:x.chk=false→x.ser=0
 cl:x.AX=[]
theorem UX {d:ByteArray} {l:List Span} (h:M7 l d.size) (hd:1≤d.size∧d.size≤65536):∀x∈CD d 0 l,Ke d x∧x.chk=false:=by
 intro x hx
 have hp:=L0 (ses:=0) h x hx
 unfold CD at hx
 obtain ⟨y,hy,hx⟩:=List.mem_flatMap.1 hx
 obtain ⟨p,hpm,rfl⟩:=List.mem_map.1 hx
 have h1:=h y hy
 have h2:=E4 _ y.fro y.to (Nat.le_refl _) p hpm
 exact ⟨⟨⟨V9 hp (by omega) hd,hp.kind,hp.ses_,hp.tot,fun i hi=>UZ (by omega) i hi⟩,fun _=>rfl,rfl⟩,rfl⟩
theorem Uq {d:ByteArray} {x:Seg} {ser:Int} (h:Ke d x) (hc:x.chk=false) (hr:1≤ser∧ser≤1099511627776):Ke d {x with ser:=ser,chk:=true}:=by
 obtain ⟨⟨h1,h2,h3,h4,h5⟩,h6,h7⟩:=h
 obtain ⟨k1,k2,k3⟩:=EN h1
 refine ⟨⟨?_,h2,h3,h4,h5⟩,fun f=>(by cases f),h7⟩
 have n:B5 {x with ser:=ser,chk:=true}:=by
  unfold B5 at k2 ⊢
  have q:=k2.2.2.2 h2
  exact ⟨k2.1,fun f=>absurd (h2.symm.trans f) (by decide),fun f=>absurd (h2.symm.trans f) (by decide),fun _=>⟨q.1,q.2.1,fun _=>hr,fun f=>by cases f⟩⟩
 have c:Cl {x with ser:=ser,chk:=true}:=by
  unfold Cl at k3 ⊢
  exact ⟨fun f=>absurd (h2.symm.trans f) (by decide),fun f=>absurd (h2.symm.trans f) (by decide),fun _=>k3.2.2 h2⟩
 unfold Cj
 rw [if_neg (fun f=>f k1),if_neg (fun f=>f n),if_neg (fun f=>f c)]
structure Hc (d:ByteArray) (ser:Int) (l:List Seg):Prop where
 ex:∃pre x,l=pre++[x]∧x.chk=true∧x.ser=ser∧∀y∈pre,y.chk=false
 pc:∀x∈l,Ke d x
 len:(l.length:Int)≤d.size+1
theorem batP {ser:Int} {d:ByteArray} {l:List Span} (h:KZ 0 ser d l=0):Hc d ser (BC 0 ser d l):=by
 have hb:=Ms h
 have h0:=h
 unfold KZ at h0
 split at h0
 ·cases h0
 split at h0
 ·cases h0
 split at h0
 ·cases h0
 split at h0
 ·cases h0
 split at h0
 ·cases h0
 rename_i k1 k2 k3 k4 k5
 have k4:inside l d.size=true:=by simpa using k4
 obtain ⟨g1,g2⟩:=KH k4
 have hn:=Te (ses:=0) g1 k5
 obtain ⟨pre,x,hx⟩:∃pre x,CD d 0 l=pre++[x]:=⟨_,_,(List.dropLast_concat_getLast hn).symm⟩
 have hp:=UX g1 (by omega)
 rw [hx] at hp
 have e:BC 0 ser d l=pre++[{x with ser:=ser,chk:=true}]:=by
  unfold BC
  rw [if_pos h,hx,Dm]
 have hx2:=hp x (by simp)
 refine ⟨⟨pre,_,e,rfl,rfl,fun y hy=>(hp y (by simp [hy])).2⟩,?_,hb.len⟩
 rw [e]
 intro y hy
 rcases List.mem_append.1 hy with hy|hy
 ·exact (hp y (by simp [hy])).1
 ·rw [List.mem_singleton] at hy
  subst hy
  exact Uq hx2.1 hx2.2 (by omega)
theorem Hc.last {d:ByteArray} {ser:Int} {l:List Seg} (h:Hc d ser l):Hc d ser (BL l):=by
 obtain ⟨⟨pre,x,rfl,h1,h2,h3⟩,h4,h5⟩:=h
 rw [Ff]
 exact ⟨⟨[],x,rfl,h1,h2,fun y hy=>by cases hy⟩,fun y hy=>h4 y (by simp at hy;simp [hy]),by simp;omega⟩
theorem Ke.B6 {d:ByteArray} {x:Seg} (h:Ke d x) {r:Int} (hr:1≤r∧r≤1000):B6 r x=((x.data.size:Int)+7+r) / r∧1≤B6 r x:=by
 have h1:=h.pc.1
 have h2:=h.pc.2.1
 have e:Ab.B6 r x=((x.data.size:Int)+7+r) / r:=by
  unfold Ab.B6
  rw [if_pos ⟨h1,hr.1,hr.2,h2⟩]
 refine ⟨e,?_⟩
 rw [e,Int.le_ediv_iff_mul_le (by omega)]
 omega
theorem Fs {r:Int}:∀(l:List Seg) (t:Int),(∀x∈l,1≤B6 r x)→
  (Ar r t l).Pairwise (fun a b=>a.at_<b.at_)∧(∀o∈Ar r t l,t<o.at_∧o.at_≤AZ r t l∧o.seg∈l)∧t+(l.length:Int)≤AZ r t l
 |[],t,h=>⟨List.Pairwise.nil,(fun o ho=>by cases ho),by simp [AZ]⟩
 |x::l,t,h=>by
  have hx:=h x (by simp)
  obtain ⟨h1,h2,h3⟩:=Fs l (t+B6 r x) (fun y hy=>h y (by simp [hy]))
  refine ⟨?_,?_,?_⟩
  ·simp only [Ar,List.pairwise_cons]
   exact ⟨fun o ho=>(h2 o ho).1,h1⟩
  ·intro o ho
   simp only [Ar,List.mem_cons] at ho
   have hE:=JZ r l (t+B6 r x)
   rcases ho with rfl|ho
   ·exact ⟨by simp only;omega,by simp only [AZ];omega,by simp⟩
   ·have:=h2 o ho
    exact ⟨by omega,by simp only [AZ];omega,by simp [this.2.2]⟩
  ·simp only [AZ,List.length_cons]
   omega
end Ab
set_option linter.unusedVariables false
set_option linter.unusedSimpArgs false
namespace Ab
open Go
theorem Sb {l:List Span}:∀{b n:Int},Canon b l→b<n→(∀x∈l,x.to≤n)→2*(l.length:Int)≤n-b:=by
 induction l with
 |nil=>intro b n _ h _;simp;omega
 |cons x l ih=>
  intro b n h hb ht
  have h1:=h.1
  have h2:=h.2.1
  have h3:=ht x (by simp)
  simp only [List.length_cons]
  by_cases he:x.to<n
  ·have:=ih h.2.2 he (fun y hy=>ht y (by simp [hy]))
   omega
  ·cases l with
   |nil=>simp;omega
   |cons y l=>
    have:=h.2.2.1
    have:=h.2.2.2.1
    have:=ht y (by simp)
    omega
theorem Mh {l:List Span} {n:Int} (h:BB l=0) (hw:Bo l n) (hn:0≤n∧n≤120):l.length≤60:=by
 have hc:=((Ai _).1 h).2.1
 have:=Sb (n:=n) (Ih hc hw) (by omega) (fun x hx=>(hw x hx).2)
 omega
structure Par where
 c:Con
 b:Int
 e:Int
 d:ByteArray
 ps:List Int
 lim:Int
 dk:List Span
structure POk (p:Par):Prop where
 con:Ee p.c=0
 t:p.c.start≤p.b∧p.b≤p.e∧p.e≤p.c.fin
 sz:1≤p.d.size∧p.d.size≤120
 pk:∀x∈p.ps,-9223372036854775808≤x∧x≤9223372036854775807
 pl:p.ps.length≤1000
 bud:∀k:Int,1≤k→p.b+1+(k-1)*(2*p.c.rng+1)≤p.e→(((p.d.size:Int)+1)*k+2*k≤4990∨(p.e-p.b)+2*k≤4990)
theorem POk.rng {p:Par} (h:POk p):1≤p.c.rng∧p.c.rng≤1048576∧1≤p.c.rate∧p.c.rate≤1000∧0≤p.b∧p.b≤p.e∧p.e≤1099511627776-2*p.c.rng∧0≤p.c.loss∧p.c.loss≤16:=by
 obtain ⟨c1,c2⟩:=Dp h.con
 unfold F0 at c1
 have:=h.t
 omega
structure Jp (d:ByteArray) (x:Seg):Prop where
 g:Cj x=0
 kind:x.kind=2
 ses:x.ses=0
 tot:x.tot=d.size
theorem Jp.cl {d:ByteArray} {x:Seg} (h:Jp d x):BB x.AX=0∧Bo x.AX d.size:=by
 obtain ⟨k1,k2,k3⟩:=EN h.g
 unfold Cl at k3
 have hi:=(k3.2.1 h.kind).2.2
 unfold inside at hi
 have hi:=of_decide_eq_true hi
 exact ⟨hi.1,h.tot ▸ (Bx hi.1).1 hi.2⟩
theorem Jp.few {d:ByteArray} {x:Seg} (h:Jp d x) (hd:d.size≤120):x.AX.length≤60:=Mh h.cl.1 h.cl.2 (by omega)
structure Jn (p:Par) (s:Snd):Prop where
 c:s.c=p.c
 ses:s.ses=0
 data:s.data=p.d
 fin:s.fin=p.e
 ok:GM s=0
 t:p.b+1+(s.ser-1)*(2*p.c.rng+1)≤s.busy
theorem Jn.fo {p:Par} {s:Snd} (hp:POk p) (h:Jn p s):FOk s∧s.acked.length≤60:=by
 have hf:=(KU h.ok).1
 obtain ⟨c1,c2,c3⟩:=C2 hf
 have hw:=(Bx c3.1).1 c3.2
 have hsz:=hp.sz
 have:=Mh c3.1 hw (by rw [h.data];omega)
 exact ⟨⟨hf,by omega⟩,this⟩
theorem Jn.num {p:Par} {s:Snd} (hp:POk p) (h:Jn p s):p.c.start≤s.busy∧s.busy≤p.e∧1≤s.ser∧s.ser<1099511627776∧p.b+1≤s.busy∧(s.ser-1)≤s.busy-p.b-1:=by
 have hn:=(h.fo hp).1.num
 have hr:=hp.rng
 have ht:=h.t
 have hc:=h.c
 have hfin:=h.fin
 rw [hc] at hn
 have h0:(s.ser-1)*1≤(s.ser-1)*(2*p.c.rng+1):=Int.mul_le_mul_of_nonneg_left (by omega) (by omega)
 omega
structure Inv (p:Par) (s:Ses):Prop where
 rd:s.dat.rng=p.c.rng
 rr:s.rep.rng=p.c.rng
 ps:s.picks=p.ps
 lim:s.limit=p.lim
 dk:s.dark=p.dk
 gd:CW s.dat
 gr:CW s.rep
 now:0≤s.now
 sn:Jn p s.snd
 rc:∃hl,Hd p.d s.rcv hl∧∀x∈hl,D7 p.d x
 fd:∀f∈s.dat.frames,Ke p.d f.seg∧f.seg.ser≤s.snd.ser∧s.now≤f.arr∧f.arr≤p.e+2*p.c.rng∧(f.seg.chk=true→f.seg.ser=s.snd.ser→s.snd.busy+p.c.rng≤f.arr)
 fr:∀f∈s.rep.frames,Jp p.d f.seg∧f.seg.ser≤s.snd.ser∧s.now≤f.arr∧f.arr≤p.e+4*p.c.rng∧(f.seg.ser=s.snd.ser→s.snd.busy+2*p.c.rng≤f.arr)
 pd:∀o∈s.pend,Ke p.d o.seg∧s.now≤o.at_∧o.at_≤s.snd.busy∧o.seg.ser≤s.snd.ser∧(o.seg.chk=true→o.at_=s.snd.busy)
 po:s.pend.Pairwise (fun a b=>a.at_<b.at_)
 du:s.snd.st=1→s.now≤s.snd.due
 c1:s.entered=s.dat.sent+s.rep.sent
 c2:s.dat.sent=s.sent.length
 c3:s.rep.sent=s.told.length
 c4:(s.sent.length:Int)+s.pend.length≤s.snd.busy-p.b
 c5:(s.sent.length:Int)+s.pend.length≤((p.d.size:Int)+1)*s.snd.ser
 c6:(s.told.length:Int)+s.dat.frames.countP (fun f=>f.seg.chk)+2*s.pend.countP (fun o=>o.seg.chk)≤2*s.snd.ser
 l1:(s.dat.frames.length:Int)≤2*s.dat.sent
 l2:(s.rep.frames.length:Int)≤2*s.rep.sent
 ds:0≤s.dist∧s.dist≤s.entered
 kn:s.kno=true↔s.snd.st=2
 rv:s.rcvd=A3 s.rcv
def PGt (s:Ses):Prop:=∀o∈s.pend,s.now<o.at_
def DGt (s:Ses):Prop:=∀f∈s.dat.frames,s.now<f.arr
def RGt (s:Ses):Prop:=∀f∈s.rep.frames,s.now<f.arr
def UGt (s:Ses):Prop:=s.snd.st=1→s.now<s.snd.due
theorem Inv.bud {p:Par} {s:Ses} (hp:POk p) (h:Inv p s) {k:Nat} (hk:(k:Int)≤s.pend.length+s.dat.frames.countP (fun f=>f.seg.chk)) (hn:0<k→s.now≤1099511627776):Bud k s:=by
 have hs:=h.sn.num hp
 have hb:=hp.bud s.snd.ser (by omega) (by have:=h.sn.t;omega)
 have:=h.c1;have:=h.c2;have:=h.c3;have:=h.c4;have:=h.c5;have:=h.c6;have:=h.l1;have:=h.l2;have:=h.gd.lost;have:=h.gr.lost
 refine ⟨h.gd,h.gr,⟨h.now,hn⟩,by rw [h.ps];exact hp.pk,?_,?_,?_,?_,?_,?_,?_,?_,by rw [h.ps];exact hp.pl⟩
 ·refine ⟨by omega,?_⟩
  rcases hb with hb|hb<;>omega
 all_goals have:=h.ds;omega
end Ab
set_option linter.unusedVariables false
set_option linter.unusedSimpArgs false
namespace Ab
open Go
theorem Ky {α:Type} (g:α→Bool) (b:α) (q:α→Bool):∀l:List α,(IW g b l).countP q=l.countP q+(if q b=true then 1 else 0)
 |[]=>by simp [IW,List.countP_cons]
 |x::l=>by
  unfold IW
  split
  ·simp only [List.countP_cons]
  ·simp only [List.countP_cons,Ky g b q l]
   omega
theorem G6 (t num:Int) (x:Seg):∀(ds:List Int) (fs:List Frame),(KB t num x ds fs).countP (fun f=>f.seg.chk)=fs.countP (fun f=>f.seg.chk)+(if x.chk=true then ds.length else 0)
 |[],fs=>by simp [KB]
 |d::ds,fs=>by
  show (KB t num x ds (KI t num x fs d)).countP _=_
  rw [G6 t num x ds]
  unfold KI
  rw [Ky]
  simp only [List.length_cons]
  split<;>omega
theorem Inv.del {p:Par} {s:Ses} (hp:POk p) (h:Inv p s):(∀d∈(CE s p.c.rng).1,p.c.rng≤d∧d≤2*p.c.rng)∧(CE s p.c.rng).1.length≤2∧s.dist≤(CE s p.c.rng).2∧(CE s p.c.rng).2≤s.dist+1:=PH hp.rng.1
theorem Inv.tx {p:Par} {s:Ses} (hp:POk p) (h:Inv p s) {o:Out} {l:List Out} (hpd:s.pend=o::l) (ho:o.at_=s.now):Inv p {Cv s o.seg with pend:=l}:=by
 have hr:=hp.rng
 have hn:=h.sn.num hp
 obtain ⟨o1,o2,o3,o4,o5⟩:=h.pd o (by rw [hpd];simp)
 obtain ⟨d1,d2,d3,d4⟩:=h.del hp
 have hb:=h.bud hp (k:=0+1) (by rw [hpd];simp;omega) (fun _=>by omega)
 have hB:=hb.Cv o.seg
 have c1:=h.c1;have c2:=h.c2;have c3:=h.c3;have c4:=h.c4;have c5:=h.c5;have c6:=h.c6;have l1:=h.l1;have l2:=h.l2;have hds:=h.ds
 rw [hpd] at c4 c5 c6
 simp only [List.length_cons,List.countP_cons] at c4 c5 c6
 have hrd:=h.rd
 refine ⟨h.rd,h.rr,h.ps,h.lim,h.dk,hB.gd,hB.gr,h.now,h.sn,h.rc,fun f hf => ?_,h.fr,fun x hx=>h.pd x (by rw [hpd];simp [hx]),?_,h.du,?_,?_,h.c3,?_,?_,?_,?_,h.l2,?_,h.kn,h.rv⟩
 ·simp only [Cv,Bi] at hf
  rcases CA.1 hf with hf|⟨d,hd,rfl⟩
  ·exact h.fd f hf
  ·rw [hrd] at hd
   have:=d1 d hd
   refine ⟨o1,o4,?_,?_,fun hc hs => ?_⟩
   ·simp only [Cv];omega
   ·simp only;omega
   ·have:=o5 hc
    simp only [Cv]
    omega
 ·have:=h.po
  rw [hpd] at this
  exact (List.pairwise_cons.1 this).2
 ·simp only [Cv,Bi];omega
 ·simp only [Cv,Bi,List.length_append,List.length_cons,List.length_nil];omega
 ·simp only [Cv,List.length_append,List.length_cons,List.length_nil];omega
 ·simp only [Cv,List.length_append,List.length_cons,List.length_nil];omega
 ·simp only [Cv,Bi,G6,hrd]
  split
  ·rename_i hc;rw [if_pos hc] at c6;omega
  ·rename_i hc;rw [if_neg hc] at c6;omega
 ·simp only [Cv,Bi,Fp,hrd];omega
 ·simp only [Cv,hrd];omega
theorem Inv.Ts {p:Par} {s:Ses} (hp:POk p) (h:Inv p s) {x:Seg} (hx:Ke p.d x):Ez s.rcv x=(Cg s.rcv x,if x.chk=true then [Bn s.rcv x] else [],0)∧(∃hl,Hd p.d (Cg s.rcv x) hl∧∀y∈hl,D7 p.d y)∧(x.chk=true→Jp p.d (Bn s.rcv x))∧(∀t,AO t (Cg s.rcv x).known↔AO t s.rcv.known∨(x.off≤t∧t<x.off+x.data.size))∧(A3 s.rcv=true→A3 (Cg s.rcv x)=true)∧(Bn s.rcv x).AX=(Cg s.rcv x).known:=by
 obtain ⟨hl,h1,h2⟩:=h.rc
 have hsz:=hp.sz
 have hs:=Lf h1 h2 hx.pc (by omega)
 have he:=st_hear h1 h2 hx.pc (by omega)
 refine ⟨he,⟨hl++[x],st_next h1 h2 hx.pc (by omega),fun y hy => ?_⟩,fun hc=>⟨RI h1.ok hx.pc.1 hs hc,rfl,h1.ses,hx.pc.2.2.2.1⟩,JI hs,fun hc => ?_,rfl⟩
 ·rcases List.mem_append.1 hy with hy|hy
  ·exact h2 y hy
  ·rw [List.mem_singleton] at hy;subst hy;exact hx.pc
 ·have:=MO h1.ok hx.pc.1 hc
  rw [he] at this
  exact this
theorem TN {p:Par} {s:Ses} (h:Inv p {s with rcvd:=A3 s.rcv}) (hr:s.rcvd=true→A3 s.rcv=true):Inv p (rxF s):=by
 unfold rxF
 split
 ·rename_i hc
  rw [hc.2] at h
  exact {h with}
 ·rename_i hc
  have e:s.rcvd=A3 s.rcv:=by
   cases h1:s.rcvd with
   |true=>exact (hr h1).symm
   |false=>
    cases h2:A3 s.rcv with
    |false=>rfl
    |true=>exact (hc ⟨h1,h2⟩).elim
  rw [← e] at h
  exact h
theorem Inv.rx {p:Par} {s:Ses} (hp:POk p) (h:Inv p s) {f:Frame} {l:List Frame} (hf:s.dat.frames=f::l) (ha:f.arr=s.now):Inv p (rxX (BJ s) f.seg):=by
 have hr:=hp.rng
 have hn:=h.sn.num hp
 obtain ⟨f1,f2,f3,f4,f5⟩:=h.fd f (by rw [hf];simp)
 obtain ⟨e1,e2,e3,e4,e5,e6⟩:=h.Ts hp f1
 have c1:=h.c1;have c2:=h.c2;have c3:=h.c3;have c4:=h.c4;have c5:=h.c5;have c6:=h.c6;have l1:=h.l1;have l2:=h.l2;have hds:=h.ds
 have hrr:=h.rr
 have hpop:(BJ s).rcv=s.rcv:=rfl
 unfold rxX rxH
 rw [hpop,e1]
 simp only
 have hfr:s.dat.frames.tail=l:=by rw [hf];rfl
 rw [hf] at c6 l1
 simp only [List.length_cons,List.countP_cons] at c6 l1
 by_cases hc:f.seg.chk=true
 ·rw [if_pos hc]
  simp only [List.foldl_cons,List.foldl_nil]
  rw [if_pos hc] at c6
  have hrep:=e3 hc
  have hb:=h.bud hp (k:=0+1) (by rw [hf];simp only [List.countP_cons,hc,if_true];omega) (fun _=>by omega)
  have hb2:Bud (0+1) {BJ s with rcv:=Cg s.rcv f.seg}:=hb.BJ.of rfl rfl rfl rfl rfl rfl rfl rfl
  have hB:=hb2.Cy (Bn s.rcv f.seg)
  obtain ⟨d1,d2,d3,d4⟩:=PH (s:={BJ s with rcv:=Cg s.rcv f.seg}) (R:=p.c.rng) hr.1
  refine TN ⟨h.rd,h.rr,h.ps,h.lim,h.dk,hB.gd,hB.gr,h.now,h.sn,e2,fun x hx=>h.fd x (by rw [hf];simp only [Cy,BJ,hfr] at hx;simp [hx]),fun x hx => ?_,h.pd,h.po,h.du,?_,h.c2,?_,h.c4,h.c5,?_,?_,?_,?_,h.kn,rfl⟩ (fun hq=>e5 (by rw [← h.rv];exact hq))
  ·simp only [Cy,Bi,BJ] at hx
   rcases CA.1 hx with hx|⟨d,hd,rfl⟩
   ·exact h.fr x hx
   ·have:=d1 d (by simpa only [BJ,hrr] using hd)
    have hser:(Bn s.rcv f.seg).ser=f.seg.ser:=rfl
    refine ⟨hrep,by rw [hser];exact f2,?_,?_,fun hs => ?_⟩
    ·simp only [Cy,BJ];omega
    ·simp only;omega
    ·have:=f5 hc (by rw [← hser];exact hs)
     simp only [Cy,BJ]
     omega
  ·simp only [Cy,Bi,BJ];omega
  ·simp only [Cy,Bi,BJ,List.length_append,List.length_cons,List.length_nil];omega
  ·simp only [Cy,Bi,BJ,hfr,List.length_append,List.length_cons,List.length_nil];omega
  ·simp only [Cy,BJ,hfr];omega
  ·simp only [Cy,Bi,BJ,Fp,hrr]
   simp only [BJ] at d2
   omega
  ·simp only [Cy,BJ,hrr]
   simp only [BJ] at d3 d4
   omega
 ·rw [if_neg hc]
  simp only [List.foldl_nil]
  rw [if_neg hc] at c6
  refine TN ⟨h.rd,h.rr,h.ps,h.lim,h.dk,EK h.gd,h.gr,h.now,h.sn,e2,fun x hx=>h.fd x (by rw [hf];simp only [BJ,hfr] at hx;simp [hx]),h.fr,h.pd,h.po,h.du,h.c1,h.c2,h.c3,h.c4,h.c5,?_,?_,h.l2,h.ds,h.kn,rfl⟩ (fun hq=>e5 (by rw [← h.rv];exact hq))
  ·simp only [BJ,hfr];omega
  ·simp only [BJ,hfr];omega
end Ab
set_option linter.unusedVariables false
set_option linter.unusedSimpArgs false
namespace Ab
open Go
structure LG (p:Par) (s q:Snd):Prop where
 fo:FOk q
 c:q.c=p.c
 ses:q.ses=0
 data:q.data=p.d
 fin:q.fin=p.e
 ser:q.ser=s.ser
 busy:q.busy=s.busy
theorem Jn.ack {p:Par} {s:Snd} {x:Seg} (hp:POk p) (h:Jn p s) (hx:Jp p.d x):LG p s (Az s x)∧(∀t,AO t (Az s x).acked↔AO t s.acked∨AO t x.AX):=by
 obtain ⟨h1,h2⟩:=h.fo hp
 have hd:=hp.sz
 have hf:=hx.few hd.2
 have hk:=UD h1 (by omega) ⟨hx.g,by omega⟩ hx.kind (by rw [hx.tot,h.data])
 have hw:=h1.win
 rw [h.data] at hw
 obtain ⟨u1,u2,u3⟩:=VV h1.ack hx.cl.1 hw hx.cl.2 (by omega) (by omega)
 exact ⟨⟨hk,h.c,h.ses,h.data,h.fin,rfl,rfl⟩,u3⟩
theorem LG.bat {p:Par} {s q:Snd} (hp:POk p) (h:Jn p s) (hq:LG p s q) (hc:complete q=false):Hc p.d (s.ser+1) (AY q):=by
 have hn:=h.num hp
 have hb:=hq.fo.bat hc (by rw [hq.ser];omega)
 unfold AY
 rw [hq.ses,hq.data,hq.ser] at *
 exact batP hb
theorem LG.send {p:Par} {s q:Snd} {l:List Seg} {t:Int} (hp:POk p) (h:Jn p s) (hq:LG p s q) (hc:complete q=false) (hl:Hc p.d (s.ser+1) l) :
  (p.e<AZ p.c.rate t l∧Bv q t l=(DC q,[]))∨(AZ p.c.rate t l≤p.e∧Bv q t l=(Aw q (AZ p.c.rate t l) (s.ser+1),Ar p.c.rate t l)):=by
 have hn:=h.num hp
 obtain ⟨pre,x,e,h1,h2,h3⟩:=hl.ex
 have hlast:l.getLast? = some x:=by rw [e];exact List.getLast?_concat ..
 unfold Bv
 rw [hlast]
 simp only
 rw [hq.fin,hq.c,h2]
 by_cases hb:p.e<AZ p.c.rate t l
 ·exact .inl ⟨hb,by rw [if_pos (.inl hb)]⟩
 ·exact .inr ⟨by omega,by rw [if_neg (by omega)]⟩
inductive LsR (p:Par) (s:Ses) (x:Seg):Ses→Prop
 |busy:s.now<s.snd.busy→LsR p s x s
 |same:¬s.now<s.snd.busy→s.snd.st≠1∨x.ser≠s.snd.ser→LsR p s x s
 |done:¬s.now<s.snd.busy→s.snd.st=1→x.ser=s.snd.ser→complete (Az s.snd x)=true→LsR p s x {s with snd:={Az s.snd x with due:=0,st:=2},kno:=true,knoAt:=s.now}
 |fail:¬s.now<s.snd.busy→s.snd.st=1→x.ser=s.snd.ser→complete (Az s.snd x)=false→p.e<AZ p.c.rate s.now (AY (Az s.snd x))→LsR p s x {s with snd:=DC (Az s.snd x)}
 |send:¬s.now<s.snd.busy→s.snd.st=1→x.ser=s.snd.ser→complete (Az s.snd x)=false→AZ p.c.rate s.now (AY (Az s.snd x))≤p.e→
   LsR p s x {s with snd:=Aw (Az s.snd x) (AZ p.c.rate s.now (AY (Az s.snd x))) (s.snd.ser+1),pend:=Ar p.c.rate s.now (AY (Az s.snd x))}
theorem Jn.Bb {p:Par} {s:Snd} {x:Seg} {t:Int} (hp:POk p) (h:Jn p s) (hx:Jp p.d x) (ht:s.busy≤t∧t≤2199023255552) :
  ((s.st≠1∨x.ser≠s.ser)→Bb s t x=(s,[],0))∧(s.st=1→x.ser=s.ser→complete (Az s x)=true→Bb s t x=({Az s x with due:=0,st:=2},[],0))∧
  (s.st=1→x.ser=s.ser→complete (Az s x)=false→Bb s t x=((Bv (Az s x) t (AY (Az s x))).1,(Bv (Az s x) t (AY (Az s x))).2,0)):=by
 have hk:=hx.kind
 have hses:x.ses=s.ses:=by rw [hx.ses,h.ses]
 have htot:x.tot=s.data.size:=by rw [hx.tot,h.data]
 have hg:=hx.g
 have hok:=h.ok
 refine ⟨fun hq => ?_,fun h1 h2 h3 => ?_,fun h1 h2 h3 => ?_⟩
 ·unfold Ab.Bb
  rw [if_neg (by omega),if_neg (by omega)]
  rcases hq with hq|hq
  ·rw [if_pos (.inl hq)]
  ·by_cases hst:s.st=1
   ·rw [if_neg (by omega),if_neg (by omega)]
    unfold G4
    rw [if_pos (.inl hq)]
   ·rw [if_pos (.inl hst)]
 ·unfold Ab.Bb
  rw [if_neg (by omega),if_neg (by omega),if_neg (by omega),if_neg (by omega)]
  unfold G4
  rw [if_neg (by omega),if_pos h3]
 ·unfold Ab.Bb
  rw [if_neg (by omega),if_neg (by omega),if_neg (by omega),if_neg (by omega)]
  unfold G4
  rw [if_neg (by omega),if_neg (by rw [h3];simp)]
theorem Ec {p:Par} {s:Ses} (h:Inv p s) (hg:PGt s) (hb:¬s.now<s.snd.busy):s.pend=[]:=by
 cases hp:s.pend with
 |nil=>rfl
 |cons o l=>
  have h1:=h.pd o (by rw [hp];simp)
  have h2:=hg o (by rw [hp];simp)
  omega
theorem Inv.lsR {p:Par} {s:Ses} (hp:POk p) (h:Inv p s) (hg:PGt s) {f:Frame} {l:List Frame} (hf:s.rep.frames=f::l) (ha:f.arr=s.now) :
  LsR p (BZ s) f.seg (lsX (BZ s) f.seg)∧(¬s.now<s.snd.busy→(Bb s.snd s.now f.seg).2.2=0∧(Bb s.snd s.now f.seg).2.1.length≤1000000):=by
 have hr:=hp.rng
 obtain ⟨f1,f2,f3,f4,f5⟩:=h.fr f (by rw [hf];simp)
 by_cases hb:s.now<s.snd.busy
 ·refine ⟨?_,fun q=>(q hb).elim⟩
  have e:lsX (BZ s) f.seg=BZ s:=if_pos hb
  rw [e]
  exact .busy hb
 ·have hpn:=Ec h hg hb
  obtain ⟨k1,k2,k3⟩:=h.sn.Bb hp f1 (t:=s.now) (by omega)
  have e:lsX (BZ s) f.seg=lsF {BZ s with snd:=(Bb s.snd s.now f.seg).1,pend:=s.pend++(Bb s.snd s.now f.seg).2.1}:=if_neg hb
  rw [e,hpn]
  by_cases hq:s.snd.st≠1∨f.seg.ser≠s.snd.ser
  ·rw [k1 hq]
   refine ⟨?_,fun _=>⟨rfl,by simp⟩⟩
   have e2:lsF {BZ s with snd:=s.snd,pend:=[]++[]}=BZ s:=by
    unfold lsF
    rw [if_neg]
    ·simp only [BZ,hpn,List.append_nil]
    ·rintro ⟨q1,q2⟩
     have:=h.kn.2 q2
     rw [show (BZ s).kno=s.kno from rfl] at q1
     rw [q1] at this
     cases this
   simp only
   rw [e2]
   exact .same hb hq
  ·have hst:s.snd.st=1:=by omega
   have hser:f.seg.ser=s.snd.ser:=by omega
   have hk:s.kno=false:=by
    cases hkk:s.kno with
    |false=>rfl
    |true=>have:=h.kn.1 hkk;omega
   cases hc:complete (Az s.snd f.seg) with
   |true=>
    rw [k2 hst hser hc]
    refine ⟨?_,fun _=>⟨rfl,by simp⟩⟩
    have e2:lsF {BZ s with snd:={Az s.snd f.seg with due:=0,st:=2},pend:=[]++[]}={BZ s with snd:={Az s.snd f.seg with due:=0,st:=2},kno:=true,knoAt:=s.now}:=by
     unfold lsF
     rw [if_pos ⟨hk,rfl⟩]
     simp only [BZ,hpn,List.append_nil]
    simp only
    rw [e2]
    exact .done hb hst hser hc
   |false=>
    rw [k3 hst hser hc]
    obtain ⟨hQ,_⟩:=h.sn.ack hp f1
    have hB:=hQ.bat hp h.sn hc
    have hlen:=hB.len
    have hsz:=hp.sz
    rcases hQ.send (t:=s.now) hp h.sn hc hB with ⟨g1,g2⟩|⟨g1,g2⟩
    ·rw [g2]
     refine ⟨?_,fun _=>⟨rfl,by simp⟩⟩
     have e2:lsF {BZ s with snd:=DC (Az s.snd f.seg),pend:=[]++[]}={BZ s with snd:=DC (Az s.snd f.seg)}:=by
      unfold lsF
      rw [if_neg (by simp [DC])]
      simp only [BZ,hpn,List.append_nil]
     simp only
     rw [e2]
     exact .fail hb hst hser hc g1
    ·rw [g2]
     refine ⟨?_,fun _=>⟨rfl,by simp only [Cf];omega⟩⟩
     have e2:lsF {BZ s with snd:=Aw (Az s.snd f.seg) (AZ p.c.rate s.now (AY (Az s.snd f.seg))) (s.snd.ser+1),pend:=[]++Ar p.c.rate s.now (AY (Az s.snd f.seg))}={BZ s with snd:=Aw (Az s.snd f.seg) (AZ p.c.rate s.now (AY (Az s.snd f.seg))) (s.snd.ser+1),pend:=Ar p.c.rate s.now (AY (Az s.snd f.seg))}:=by
      unfold lsF
      rw [if_neg (by simp [Aw]),List.nil_append]
     simp only
     rw [e2]
     exact .send hb hst hser hc g1
end Ab
set_option linter.unusedVariables false
set_option linter.unusedSimpArgs false
namespace Ab
open Go
theorem Hc.outs {d:ByteArray} {ser r t:Int} {l:List Seg} (h:Hc d ser l) (hr:1≤r∧r≤1000) (hs:0≤ser) :
  (Ar r t l).Pairwise (fun a b=>a.at_<b.at_)∧(∀o∈Ar r t l,Ke d o.seg∧t<o.at_∧o.at_≤AZ r t l∧o.seg.ser≤ser∧(o.seg.chk=true→o.at_=AZ r t l∧o.seg.ser=ser))∧t+(l.length:Int)≤AZ r t l∧(Ar r t l).countP (fun o=>o.seg.chk)=1∧1≤l.length:=by
 obtain ⟨h1,h2,h3⟩:=Fs (r:=r) l t (fun x hx=>((h.pc x hx).B6 hr).2)
 obtain ⟨pre,x,e,e1,e2,e3⟩:=h.ex
 have hc:∀o∈Ar r t pre,o.seg.chk=false:=fun o ho=>by
  have:o.seg∈(Ar r t pre).map Out.seg:=List.mem_map_of_mem ho
  rw [EH] at this
  exact e3 _ this
 refine ⟨h1,fun o ho => ?_,h3,?_,by rw [e];simp⟩
 ·obtain ⟨k1,k2,k3⟩:=h2 o ho
  have hsp:=h.pc _ k3
  rw [e,Ct] at ho
  rcases List.mem_append.1 ho with ho|ho
  ·have:=hc o ho
   refine ⟨hsp,k1,k2,?_,fun q=>by rw [this] at q;cases q⟩
   rw [hsp.sr this];exact hs
  ·rw [List.mem_singleton] at ho
   subst ho
   refine ⟨hsp,k1,k2,by simp only;omega,fun _=>⟨by rw [e],e2⟩⟩
 ·rw [e,Ct,List.countP_append,List.countP_eq_zero.2 (fun o ho=>by rw [hc o ho];simp)]
  simp [e1]
theorem Inv.BZ {p:Par} {s:Ses} (h:Inv p s):Inv p (BZ s):=
 {h with
  gr:=EK h.gr
  fr:=fun f hf=>h.fr f (List.mem_of_mem_tail hf)
  l2:=by have:=h.l2;simp only [Ab.BZ,List.length_tail];omega}
theorem Inv.send {p:Par} {s:Ses} (hp:POk p) (h:Inv p s) {q:Snd} {l:List Seg} (hpn:s.pend=[]) (hq:LG p s.snd q) (hc:complete q=false) (hl:Hc p.d (s.snd.ser+1) l) (hst:s.snd.st=1) (hnow:s.snd.busy+2*p.c.rng≤s.now) (he:AZ p.c.rate s.now l≤p.e) :
  Inv p {s with snd:=Aw q (AZ p.c.rate s.now l) (s.snd.ser+1),pend:=Ar p.c.rate s.now l}:=by
 have hr:=hp.rng
 have hn:=h.sn.num hp
 obtain ⟨o1,o2,o3,o4,o5⟩:=hl.outs (t:=s.now) ⟨hr.2.2.1,hr.2.2.2.1⟩ (by omega)
 have hsz:=hp.sz
 have hlen:=hl.len
 have c4:=h.c4;have c5:=h.c5;have c6:=h.c6
 rw [hpn] at c4 c5 c6
 simp only [List.length_nil,List.countP_nil,Int.natCast_zero,Int.add_zero,Int.mul_zero] at c4 c5 c6
 have ht:=h.sn.t
 have hcs:=hp.t
 have hm1:(s.snd.ser+1-1)*(2*p.c.rng+1)=(s.snd.ser-1)*(2*p.c.rng+1)+(2*p.c.rng+1):=by
  rw [show s.snd.ser+1-1=(s.snd.ser-1)+1 by omega,Int.add_mul,Int.one_mul]
 have hm2:((p.d.size:Int)+1)*(s.snd.ser+1)=((p.d.size:Int)+1)*s.snd.ser+((p.d.size:Int)+1):=by rw [Int.mul_add,Int.mul_one]
 have hk:s.kno=false:=by
  cases hkk:s.kno with
  |false=>rfl
  |true=>have:=h.kn.1 hkk;omega
 have hqf:=hq.fo.f
 have hok:GM (Aw q (AZ p.c.rate s.now l) (s.snd.ser+1))=0:=TG hqf hc (by rw [hq.c,hq.fin];omega) (by omega)
 refine ⟨h.rd,h.rr,h.ps,h.lim,h.dk,h.gd,h.gr,h.now,⟨hq.c,hq.ses,hq.data,hq.fin,hok,?_⟩,h.rc,fun f hf => ?_,fun f hf => ?_,fun o ho => ?_,o1,fun _ => ?_,h.c1,h.c2,h.c3,?_,?_,?_,h.l1,h.l2,h.ds,?_,h.rv⟩
 ·simp only [Aw];omega
 ·obtain ⟨f1,f2,f3,f4,f5⟩:=h.fd f hf
  exact ⟨f1,by simp only [Aw];omega,f3,f4,fun _ hs=>by simp only [Aw] at hs;omega⟩
 ·obtain ⟨f1,f2,f3,f4,f5⟩:=h.fr f hf
  exact ⟨f1,by simp only [Aw];omega,f3,f4,fun hs=>by simp only [Aw] at hs;omega⟩
 ·obtain ⟨k1,k2,k3,k4,k5⟩:=o2 o ho
  exact ⟨k1,by simp only;omega,by simp only [Aw];omega,by simp only [Aw];omega,fun hcc=>(k5 hcc).1⟩
 ·simp only [Aw,hq.c];omega
 ·simp only [Aw,Cf];omega
 ·simp only [Aw,Cf];omega
 ·simp only [Aw,o4];omega
 ·simp only [Aw,hk];simp
theorem Inv.turn {p:Par} {s:Ses} (h:Inv p s) {q:Snd} (hq:LG p s.snd q) (st due:Int) (hst:st≠1) (hok:GM {q with due:=due,st:=st}=0) (kno:Bool) (t:Int) (hk:kno=true↔st=2) :
  Inv p {s with snd:={q with due:=due,st:=st},kno:=kno,knoAt:=t}:=by
 refine ⟨h.rd,h.rr,h.ps,h.lim,h.dk,h.gd,h.gr,h.now,⟨hq.c,hq.ses,hq.data,hq.fin,hok,?_⟩,h.rc,fun f hf => ?_,fun f hf => ?_,fun o ho => ?_,h.po,fun q=>(hst q).elim,h.c1,h.c2,h.c3,?_,?_,?_,h.l1,h.l2,h.ds,hk,h.rv⟩
 ·simp only [hq.ser,hq.busy];exact h.sn.t
 ·simp only [hq.ser,hq.busy];exact h.fd f hf
 ·simp only [hq.ser,hq.busy];exact h.fr f hf
 ·simp only [hq.ser,hq.busy];exact h.pd o ho
 ·simp only [hq.busy];exact h.c4
 ·simp only [hq.ser];exact h.c5
 ·simp only [hq.ser];exact h.c6
theorem Inv.ls {p:Par} {s s':Ses} (hp:POk p) (h:Inv p s) (hg:PGt s) {f:Frame} {l:List Frame} (hf:s.rep.frames=f::l) (ha:f.arr=s.now) (hs:LsR p (Ab.BZ s) f.seg s'):Inv p s':=by
 have hI:=h.BZ
 obtain ⟨f1,f2,f3,f4,f5⟩:=h.fr f (by rw [hf];simp)
 obtain ⟨hQ,_⟩:=h.sn.ack hp f1
 have hkf:s.snd.st=1→s.kno=false:=fun q=>by
  cases hkk:s.kno with
  |false=>rfl
  |true=>have:=h.kn.1 hkk;omega
 cases hs with
 |busy _=>exact hI
 |same _ _=>exact hI
 |done h1 h2 h3 h4=>exact hI.turn hQ 2 0 (by decide) (done_ok hQ.fo.f h4) true s.now (by simp)
 |fail h1 h2 h3 h4 h5=>
  have:=hI.turn hQ 3 0 (by decide) (T7 hQ.fo.f) s.kno s.knoAt (by rw [hkf h2];simp)
  exact this
 |send h1 h2 h3 h4 h5=>
  have hb:=f5 h3
  have hpn0:=Ec (s:=s) h hg h1
  have hpn:(Ab.BZ s).pend=[]:=hpn0
  exact hI.send hp hpn hQ h4 (hQ.bat hp h.sn h4) h2 (by show s.snd.busy+2*p.c.rng≤s.now;omega) h5
inductive ExR (p:Par) (s:Ses):Ses→Prop
 |same:¬(s.snd.st=1∧s.snd.due=s.now)→ExR p s s
 |fail:s.snd.st=1→s.snd.due=s.now→p.e<AZ p.c.rate s.now (BL (AY s.snd))→ExR p s {s with snd:=DC s.snd}
 |send:s.snd.st=1→s.snd.due=s.now→complete s.snd=false→AZ p.c.rate s.now (BL (AY s.snd))≤p.e→
   ExR p s {s with snd:=Aw s.snd (AZ p.c.rate s.now (BL (AY s.snd))) (s.snd.ser+1),pend:=Ar p.c.rate s.now (BL (AY s.snd))}
theorem Jn.q {p:Par} {s:Snd} (hp:POk p) (h:Jn p s):LG p s s:=⟨(h.fo hp).1,h.c,h.ses,h.data,h.fin,rfl,rfl⟩
theorem Inv.due {p:Par} {s:Ses} (h:Inv p s) (h1:s.snd.st=1):complete s.snd=false∧s.snd.due=s.snd.busy+2*p.c.rng+1:=by
 have:=N6 h.sn.ok h1
 rw [h.sn.c] at this
 exact this
theorem Inv.exR {p:Par} {s:Ses} (hp:POk p) (h:Inv p s) (hg:PGt s):ExR p s (exS s)∧(s.snd.st=1→s.snd.due=s.now→(C5 s.snd s.now).2.2=0∧(C5 s.snd s.now).2.1.length≤1000000):=by
 by_cases hq:s.snd.st=1∧s.snd.due=s.now
 ·obtain ⟨h1,h2⟩:=hq
  obtain ⟨d1,d2⟩:=h.due h1
  have hr:=hp.rng
  have hn:=h.sn.num hp
  have hsz:=hp.sz
  have hpn:=Ec h hg (by omega)
  have hQ:=h.sn.q hp
  have hB:=(hQ.bat hp h.sn d1).last
  have hw:C5 s.snd s.now=((Bv s.snd s.now (BL (AY s.snd))).1,(Bv s.snd s.now (BL (AY s.snd))).2,0):=by
   unfold C5
   rw [if_neg (by have:=h.sn.ok;omega),if_neg (by omega),if_neg (by omega)]
  have e:exS s={s with snd:=(C5 s.snd s.now).1,pend:=s.pend++(C5 s.snd s.now).2.1}:=if_pos ⟨h1,h2⟩
  have hlen:=hB.len
  rw [e,hw,hpn]
  rcases hQ.send (t:=s.now) hp h.sn d1 hB with ⟨g1,g2⟩|⟨g1,g2⟩
  ·rw [g2]
   refine ⟨?_,fun _ _=>⟨rfl,by simp⟩⟩
   have e2:{s with snd:=DC s.snd,pend:=[]++[]}={s with snd:=DC s.snd}:=by simp only [hpn,List.append_nil]
   simp only
   rw [e2]
   exact .fail h1 h2 g1
  ·rw [g2]
   refine ⟨?_,fun _ _=>⟨rfl,by simp only [Cf];omega⟩⟩
   simp only [List.nil_append]
   exact .send h1 h2 d1 g1
 ·have e:exS s=s:=if_neg hq
  rw [e]
  exact ⟨.same hq,fun a b=>(hq ⟨a,b⟩).elim⟩
theorem Inv.ex {p:Par} {s s':Ses} (hp:POk p) (h:Inv p s) (hg:PGt s) (hs:ExR p s s'):Inv p s':=by
 have hQ:=h.sn.q hp
 have hkf:s.snd.st=1→s.kno=false:=fun q=>by
  cases hkk:s.kno with
  |false=>rfl
  |true=>have:=h.kn.1 hkk;omega
 cases hs with
 |same _=>exact h
 |fail h1 h2 h3=>
  have:=h.turn hQ 3 0 (by decide) (T7 hQ.fo.f) s.kno s.knoAt (by rw [hkf h1];simp)
  exact this
 |send h1 h2 h3 h4=>
  obtain ⟨d1,d2⟩:=h.due h1
  have hr:=hp.rng
  exact h.send hp (Ec h hg (by omega)) hQ h3 (hQ.bat hp h.sn h3).last h1 (by omega) h4
end Ab
set_option linter.unusedVariables false
set_option linter.unusedSimpArgs false
namespace Ab
open Go
inductive Mic (p:Par):Ses→Ses→Prop
 |time (s:Ses) (t:Int):Inv p s→PGt s→DGt s→RGt s→UGt s→nxS s=some t→Mic p s {s with now:=t}
 |tx (s:Ses) (o:Out) (l:List Out):Inv p s→s.pend=o::l→o.at_=s.now→Mic p s {Cv s o.seg with pend:=l}
 |rx (s:Ses) (f:Frame) (l:List Frame):Inv p s→PGt s→s.dat.frames=f::l→f.arr=s.now→Mic p s (rxX (BJ s) f.seg)
 |ls (s s':Ses) (f:Frame) (l:List Frame):Inv p s→PGt s→DGt s→s.rep.frames=f::l→f.arr=s.now→LsR p (BZ s) f.seg s'→Mic p s s'
 |ex (s s':Ses):Inv p s→PGt s→DGt s→RGt s→ExR p s s'→Mic p s s'
inductive Reach (p:Par) (s:Ses):Ses→Prop
 |refl:Reach p s s
 |step {t u:Ses}:Reach p s t→Mic p t u→Reach p s u
theorem Reach.trans {p:Par} {a b c:Ses} (h:Reach p a b) (k:Reach p b c):Reach p a c:=by
 induction k with
 |refl=>exact h
 |step _ m ih=>exact ih.step m
theorem Reach.one {p:Par} {a b:Ses} (m:Mic p a b):Reach p a b:=Reach.refl.step m
theorem JK {a b:Option Int} {t:Int} (h:DG a b=some t):(∀x,a=some x→t≤x)∧(∀x,b=some x→t≤x)∧(a=some t∨b=some t):=by
 cases a with
 |none=>
  simp only [DG] at h
  subst h
  exact ⟨fun x hx=>(by cases hx),fun x hx=>(by cases hx;omega),.inr rfl⟩
 |some a=>
  cases b with
  |none=>
   simp only [DG] at h
   cases h
   exact ⟨fun x hx=>(by cases hx;omega),fun x hx=>(by cases hx),.inl rfl⟩
  |some b=>
   simp only [DG,Option.some.injEq] at h
   split at h
   ·subst h
    exact ⟨fun x hx=>(by cases hx;omega),fun x hx=>(by cases hx;omega),.inr rfl⟩
   ·subst h
    exact ⟨fun x hx=>(by cases hx;omega),fun x hx=>(by cases hx;omega),.inl rfl⟩
theorem E7 {a b:Option Int} (h:DG a b=none):a=none∧b=none:=by
 cases a with
 |none=>cases b with
  |none=>exact ⟨rfl,rfl⟩
  |some b=>simp [DG] at h
 |some a=>cases b<;>simp [DG] at h
theorem WK {p:Par} {s:Ses} {t:Int} (h:Inv p s) (ht:nxS s=some t) :
  (∀o∈s.pend,t≤o.at_)∧(∀f∈s.dat.frames,t≤f.arr)∧(∀f∈s.rep.frames,t≤f.arr)∧(s.snd.st=1→t≤s.snd.due)∧
  ((∃o∈s.pend,o.at_=t)∨(∃f∈s.dat.frames,f.arr=t)∨(∃f∈s.rep.frames,f.arr=t)∨(s.snd.st=1∧s.snd.due=t)):=by
 unfold nxS at ht
 obtain ⟨a1,a2,a3⟩:=JK ht
 have hp:∀x,s.pend.head?.map (·.at_)=some x→(∀o∈s.pend,x≤o.at_)∧∃o∈s.pend,o.at_=x:=by
  intro x hx
  have hs:=h.po
  cases hpd:s.pend with
  |nil=>rw [hpd] at hx;cases hx
  |cons o l=>
   rw [hpd] at hx hs
   simp only [List.head?_cons,Option.map_some,Option.some.injEq] at hx
   subst hx
   rw [List.pairwise_cons] at hs
   refine ⟨fun y hy => ?_,o,by simp,rfl⟩
   rcases List.mem_cons.1 hy with rfl|hy
   ·omega
   ·have:=hs.1 y hy;omega
 have hc:∀(c:CC) x,c.frames.Pairwise (fun a b=>a.arr≤b.arr)→BK c=some x→(∀f∈c.frames,x≤f.arr)∧∃f∈c.frames,f.arr=x:=by
  intro c x hs hx
  unfold BK at hx
  cases hpd:c.frames with
  |nil=>rw [hpd] at hx;cases hx
  |cons o l=>
   rw [hpd] at hx hs
   simp only [List.head?_cons,Option.map_some,Option.some.injEq] at hx
   subst hx
   rw [List.pairwise_cons] at hs
   refine ⟨fun y hy => ?_,o,by simp,rfl⟩
   rcases List.mem_cons.1 hy with rfl|hy
   ·omega
   ·exact hs.1 y hy
 have key:∀{a b:Option Int} {t:Int},DG a b=some t→(∀x,a=some x→t≤x)∧(∀x,b=some x→t≤x):=fun h=>⟨(JK h).1,(JK h).2.1⟩
 have h3:∀x,DG (DG (s.pend.head?.map (·.at_)) (BK s.dat)) (BK s.rep)=some x→(∀o∈s.pend,x≤o.at_)∧(∀f∈s.dat.frames,x≤f.arr)∧(∀f∈s.rep.frames,x≤f.arr)∧((∃o∈s.pend,o.at_=x)∨(∃f∈s.dat.frames,f.arr=x)∨∃f∈s.rep.frames,f.arr=x):=by
  intro x hx
  obtain ⟨b1,b2,b3⟩:=JK hx
  have hr:∀f∈s.rep.frames,x≤f.arr:=by
   intro f hf
   cases hn:BK s.rep with
   |none=>
    unfold BK at hn
    cases hff:s.rep.frames with
    |nil=>rw [hff] at hf;cases hf
    |cons a l=>rw [hff] at hn;cases hn
   |some y=>have:=(hc s.rep y h.gr.srt hn).1 f hf;have:=b2 y hn;omega
  have h2:∀y,DG (s.pend.head?.map (·.at_)) (BK s.dat)=some y→(∀o∈s.pend,y≤o.at_)∧(∀f∈s.dat.frames,y≤f.arr)∧((∃o∈s.pend,o.at_=y)∨∃f∈s.dat.frames,f.arr=y):=by
   intro y hy
   obtain ⟨d1,d2,d3⟩:=JK hy
   refine ⟨fun o ho => ?_,fun f hf => ?_,?_⟩
   ·cases hn:s.pend.head?.map (·.at_) with
    |none=>
     cases hff:s.pend with
     |nil=>rw [hff] at ho;cases ho
     |cons a l=>rw [hff] at hn;cases hn
    |some z=>have:=(hp z hn).1 o ho;have:=d1 z hn;omega
   ·cases hn:BK s.dat with
    |none=>
     unfold BK at hn
     cases hff:s.dat.frames with
     |nil=>rw [hff] at hf;cases hf
     |cons a l=>rw [hff] at hn;cases hn
    |some z=>have:=(hc s.dat z h.gd.srt hn).1 f hf;have:=d2 z hn;omega
   ·rcases d3 with d3|d3
    ·exact .inl (hp y d3).2
    ·exact .inr (hc s.dat y h.gd.srt d3).2
  cases hm:DG (s.pend.head?.map (·.at_)) (BK s.dat) with
  |none=>
   obtain ⟨e1,e2⟩:=E7 hm
   have hpe:s.pend=[]:=by cases hff:s.pend with|nil=>rfl|cons a l=>rw [hff] at e1;cases e1
   have hde:s.dat.frames=[]:=by unfold BK at e2;cases hff:s.dat.frames with|nil=>rfl|cons a l=>rw [hff] at e2;cases e2
   rw [hm] at b3
   rcases b3 with b3|b3
   ·cases b3
   ·exact ⟨by rw [hpe];simp,by rw [hde];simp,hr,.inr (.inr (hc s.rep x h.gr.srt b3).2)⟩
  |some y=>
   obtain ⟨q1,q2,q3⟩:=h2 y hm
   have hxy:=b1 y hm
   refine ⟨fun o ho=>by have:=q1 o ho;omega,fun f hf=>by have:=q2 f hf;omega,hr,?_⟩
   rcases b3 with b3|b3
   ·rw [hm] at b3
    cases b3
    rcases q3 with q3|q3
    ·exact .inl q3
    ·exact .inr (.inl q3)
   ·exact .inr (.inr (hc s.rep x h.gr.srt b3).2)
 have hdue:s.snd.st=1→t≤s.snd.due:=fun q=>a2 _ (by rw [if_pos q])
 cases hm:DG (DG (s.pend.head?.map (·.at_)) (BK s.dat)) (BK s.rep) with
 |none=>
  obtain ⟨e0,e3⟩:=E7 hm
  obtain ⟨e1,e2⟩:=E7 e0
  have hpe:s.pend=[]:=by cases hff:s.pend with|nil=>rfl|cons a l=>rw [hff] at e1;cases e1
  have hde:s.dat.frames=[]:=by unfold BK at e2;cases hff:s.dat.frames with|nil=>rfl|cons a l=>rw [hff] at e2;cases e2
  have hre:s.rep.frames=[]:=by unfold BK at e3;cases hff:s.rep.frames with|nil=>rfl|cons a l=>rw [hff] at e3;cases e3
  refine ⟨by rw [hpe];simp,by rw [hde];simp,by rw [hre];simp,hdue,?_⟩
  rw [hm] at a3
  rcases a3 with a3|a3
  ·cases a3
  ·by_cases q:s.snd.st=1
   ·rw [if_pos q] at a3;cases a3;exact .inr (.inr (.inr ⟨q,rfl⟩))
   ·rw [if_neg q] at a3;cases a3
 |some y=>
  obtain ⟨q1,q2,q3,q4⟩:=h3 y hm
  have hty:=a1 y hm
  refine ⟨fun o ho=>by have:=q1 o ho;omega,fun f hf=>by have:=q2 f hf;omega,fun f hf=>by have:=q3 f hf;omega,hdue,?_⟩
  rcases a3 with a3|a3
  ·rw [hm] at a3
   cases a3
   rcases q4 with q|q|q
   ·exact .inl q
   ·exact .inr (.inl q)
   ·exact .inr (.inr (.inl q))
  ·by_cases q:s.snd.st=1
   ·rw [if_pos q] at a3;cases a3;exact .inr (.inr (.inr ⟨q,rfl⟩))
   ·rw [if_neg q] at a3;cases a3
theorem Qd {s:Ses} (h:nxS s=none):s.pend=[]∧s.dat.frames=[]∧s.rep.frames=[]∧s.snd.st≠1:=by
 unfold nxS at h
 obtain ⟨e0,e4⟩:=E7 h
 obtain ⟨e0,e3⟩:=E7 e0
 obtain ⟨e1,e2⟩:=E7 e0
 refine ⟨(by cases hff:s.pend with|nil=>rfl|cons a l=>rw [hff] at e1;cases e1),(by unfold BK at e2;cases hff:s.dat.frames with|nil=>rfl|cons a l=>rw [hff] at e2;cases e2),(by unfold BK at e3;cases hff:s.rep.frames with|nil=>rfl|cons a l=>rw [hff] at e3;cases e3),fun q => ?_⟩
 rw [if_pos q] at e4
 cases e4
theorem Inv.at {p:Par} {s:Ses} {t:Int} (h:Inv p s) (ht0:0≤t) (ht:nxS s=some t):Inv p {s with now:=t}:=by
 obtain ⟨n1,n2,n3,n4,n5⟩:=WK h ht
 exact {h with
  now:=ht0
  fd:=fun f hf=>by obtain ⟨f1,f2,f3,f4,f5⟩:=h.fd f hf;exact ⟨f1,f2,n2 f hf,f4,f5⟩
  fr:=fun f hf=>by obtain ⟨f1,f2,f3,f4,f5⟩:=h.fr f hf;exact ⟨f1,f2,n3 f hf,f4,f5⟩
  pd:=fun o ho=>by obtain ⟨f1,f2,f3,f4,f5⟩:=h.pd o ho;exact ⟨f1,n1 o ho,f3,f4,f5⟩
  du:=n4}
structure Wt (p:Par) (s:Ses):Prop where
 i:Inv p s
 pg:PGt s
 dg:DGt s
 rg:RGt s
 ug:UGt s
theorem Wt.nx {p:Par} {s:Ses} {t:Int} (hp:POk p) (h:Wt p s) (ht:nxS s=some t):s.now<t∧t≤p.e+4*p.c.rng+2:=by
 have hr:=hp.rng
 have hn:=h.i.sn.num hp
 rcases (WK h.i ht).2.2.2.2 with ⟨o,ho,rfl⟩|⟨f,hf,rfl⟩|⟨f,hf,rfl⟩|⟨h1,rfl⟩
 ·have:=h.pg o ho;have:=h.i.pd o ho;omega
 ·have:=h.dg f hf;have:=h.i.fd f hf;omega
 ·have:=h.rg f hf;have:=h.i.fr f hf;omega
 ·have:=h.ug h1
  have:=(h.i.due h1).2
  omega
theorem Mic.inv {p:Par} {s s':Ses} (hp:POk p) (m:Mic p s s'):Inv p s':=by
 cases m with
 |time t h1 h2 h3 h4 h5 h6=>exact h1.at (by have:=(Wt.nx hp ⟨h1,h2,h3,h4,h5⟩ h6).1;have:=h1.now;omega) h6
 |tx o l h1 h2 h3=>exact h1.tx hp h2 h3
 |rx f l h1 h2 h3 h4=>exact h1.rx hp h3 h4
 |ls _ f l h1 h2 h3 h4 h5 h6=>exact h1.ls hp h2 h4 h5 h6
 |ex _ h1 h2 h3 h4 h5=>exact h1.ex hp h2 h5
end Ab
set_option linter.unusedVariables false
set_option linter.unusedSimpArgs false
namespace Ab
open Go
theorem tx_gt {p:Par} {s:Ses} {o:Out} {l:List Out} (h:Inv p s) (hp:s.pend=o::l) (ho:o.at_≠s.now):PGt s:=by
 have h0:=(h.pd o (by rw [hp];simp)).2.1
 have hs:=h.po
 rw [hp,List.pairwise_cons] at hs
 intro x hx
 rw [hp] at hx
 rcases List.mem_cons.1 hx with rfl|hx
 ·omega
 ·have:=hs.1 x hx;omega
theorem Ve {p:Par} (hp:POk p):∀(k:Nat) (s:Ses),Inv p s→s.pend.length≤k→Reach p s (txS k s)∧Inv p (txS k s)∧PGt (txS k s)∧(txS k s).now=s.now
 |0,s,h,hk=>⟨.refl,h,(fun o ho=>by
   have e:s.pend=[]:=List.length_eq_zero_iff.1 (by omega)
   change o∈s.pend at ho
   rw [e] at ho;cases ho),rfl⟩
 |k+1,s,h,hk=>by
  unfold txS
  cases hpd:s.pend with
  |nil=>exact ⟨.refl,h,fun o ho=>(by simp only [hpd] at ho;cases ho),rfl⟩
  |cons o l=>
   simp only
   split
   ·rename_i ha
    have hI:=h.tx hp hpd ha
    obtain ⟨i1,i2,i3,i4⟩:=Ve hp k _ hI (by rw [hpd] at hk;simpa using hk)
    exact ⟨(Reach.one (.tx s o l h hpd ha)).trans i1,i2,i3,i4⟩
   ·rename_i ha
    exact ⟨.refl,h,tx_gt h hpd ha,rfl⟩
theorem Me:∀(l:List Seg) (s:Ses),(l.foldl Cy s).pend=s.pend∧(l.foldl Cy s).snd=s.snd∧(l.foldl Cy s).sent=s.sent∧(l.foldl Cy s).rcv=s.rcv∧(l.foldl Cy s).kno=s.kno∧(l.foldl Cy s).knoAt=s.knoAt∧(l.foldl Cy s).rcvd=s.rcvd∧(l.foldl Cy s).arrive=s.arrive
 |[],s=>⟨rfl,rfl,rfl,rfl,rfl,rfl,rfl,rfl⟩
 |x::l,s=>by rw [List.foldl_cons];exact Me l _
theorem P7 (s:Ses) (x:Seg):(rxX s x).pend=s.pend∧(rxX s x).snd=s.snd∧(rxX s x).sent=s.sent∧(rxX s x).kno=s.kno∧(rxX s x).knoAt=s.knoAt:=by
 obtain ⟨a1,a2,a3,a4,a5,a6,a7⟩:=Me (Ez s.rcv x).2.1 {s with rcv:=(Ez s.rcv x).1}
 unfold rxX rxF rxH
 split
 ·exact ⟨a1,a2,a3,a5,a6⟩
 ·exact ⟨a1,a2,a3,a5,a6⟩
theorem Inv.rxG {p:Par} {s:Ses} (h:PGt s) {x:Seg}:PGt (rxX (BJ s) x):=by
 intro o ho
 rw [(P7 _ _).1] at ho
 rw [Om]
 exact h o ho
theorem Vu {p:Par} (hp:POk p):∀(k:Nat) (s:Ses),Inv p s→PGt s→s.dat.frames.length≤k→Reach p s (rxS k s)∧Inv p (rxS k s)∧PGt (rxS k s)∧DGt (rxS k s)∧(rxS k s).now=s.now
 |0,s,h,hg,hk=>⟨.refl,h,hg,(fun o ho=>by
   have e:s.dat.frames=[]:=List.length_eq_zero_iff.1 (by omega)
   change o∈s.dat.frames at ho
   rw [e] at ho;cases ho),rfl⟩
 |k+1,s,h,hg,hk=>by
  unfold rxS
  cases hpd:s.dat.frames with
  |nil=>exact ⟨.refl,h,hg,fun o ho=>(by rw [hpd] at ho;cases ho),rfl⟩
  |cons f l=>
   simp only
   split
   ·rename_i ha
    have hI:=h.rx hp hpd ha
    obtain ⟨i1,i2,i3,i4,i5⟩:=Vu hp k _ hI (Inv.rxG (p:=p) hg) (by rw [FQ];simp only [BJ,List.length_tail];omega)
    exact ⟨(Reach.one (.rx s f l h hg hpd ha)).trans i1,i2,i3,i4,by rw [i5,Om];rfl⟩
   ·rename_i ha
    refine ⟨.refl,h,hg,?_,rfl⟩
    have h0:=(h.fd f (by rw [hpd];simp)).2.2.1
    have hs:=h.gd.srt
    rw [hpd,List.pairwise_cons] at hs
    intro x hx
    rw [hpd] at hx
    rcases List.mem_cons.1 hx with rfl|hx
    ·omega
    ·have:=hs.1 x hx;omega
theorem Hc.gt {p:Par} {s:Ses} {q:Snd} {l:List Seg} (hp:POk p) (hl:Hc p.d (s.snd.ser+1) l) (hs:0≤s.snd.ser+1) {o:Out} (ho:o∈Ar p.c.rate s.now l):s.now<o.at_:=by
 have hr:=hp.rng
 exact ((hl.outs (t:=s.now) ⟨hr.2.2.1,hr.2.2.2.1⟩ hs).2.1 o ho).2.1
theorem Mic.lsG {p:Par} {s s':Ses} (hp:POk p) (h:Inv p s) (hg:PGt s) (hd:DGt s) {f:Frame} {l:List Frame} (hf:s.rep.frames=f::l) (ha:f.arr=s.now) (hs:LsR p (BZ s) f.seg s'):PGt s'∧DGt s'∧s'.now=s.now∧s'.rep.frames=l:=by
 obtain ⟨f1,f2,f3,f4,f5⟩:=h.fr f (by rw [hf];simp)
 have hl:(BZ s).rep.frames=l:=by simp [BZ,hf]
 cases hs with
 |busy _=>exact ⟨hg,hd,rfl,hl⟩
 |same _ _=>exact ⟨hg,hd,rfl,hl⟩
 |done h1 h2 h3 h4=>exact ⟨hg,hd,rfl,hl⟩
 |fail h1 h2 h3 h4 h5=>exact ⟨hg,hd,rfl,hl⟩
 |send h1 h2 h3 h4 h5=>
  obtain ⟨hQ,_⟩:=h.sn.ack hp f1
  have hn:=h.sn.num hp
  have hB:=hQ.bat hp h.sn h4
  exact ⟨fun o ho=>Hc.gt (s:=s) (q:=s.snd) hp hB (by omega) ho,hd,rfl,hl⟩
theorem WS {p:Par} (hp:POk p):∀(k:Nat) (s:Ses),Inv p s→PGt s→DGt s→s.rep.frames.length≤k→Reach p s (lsS k s)∧Inv p (lsS k s)∧PGt (lsS k s)∧DGt (lsS k s)∧RGt (lsS k s)∧(lsS k s).now=s.now
 |0,s,h,hg,hd,hk=>⟨.refl,h,hg,hd,(fun o ho=>by
   have e:s.rep.frames=[]:=List.length_eq_zero_iff.1 (by omega)
   change o∈s.rep.frames at ho
   rw [e] at ho;cases ho),rfl⟩
 |k+1,s,h,hg,hd,hk=>by
  unfold lsS
  cases hpd:s.rep.frames with
  |nil=>exact ⟨.refl,h,hg,hd,fun o ho=>(by rw [hpd] at ho;cases ho),rfl⟩
  |cons f l=>
   simp only
   split
   ·rename_i ha
    have hR:=(h.lsR hp hg hpd ha).1
    have hI:=h.ls hp hg hpd ha hR
    obtain ⟨g1,g2,g3,g4⟩:=Mic.lsG hp h hg hd hpd ha hR
    obtain ⟨i1,i2,i3,i4,i5,i6⟩:=WS hp k _ hI g1 g2 (by rw [g4];rw [hpd] at hk;simpa using hk)
    exact ⟨(Reach.one (.ls s _ f l h hg hd hpd ha hR)).trans i1,i2,i3,i4,i5,by rw [i6,g3]⟩
   ·rename_i ha
    refine ⟨.refl,h,hg,hd,?_,rfl⟩
    have h0:=(h.fr f (by rw [hpd];simp)).2.2.1
    have hs:=h.gr.srt
    rw [hpd,List.pairwise_cons] at hs
    intro x hx
    rw [hpd] at hx
    rcases List.mem_cons.1 hx with rfl|hx
    ·omega
    ·have:=hs.1 x hx;omega
theorem exR_ok {p:Par} {s s':Ses} (hp:POk p) (h:Inv p s) (hg:PGt s) (hd:DGt s) (hr:RGt s) (hR:ExR p s s'):Wt p s'∧s'.now=s.now:=by
 have hI:=h.ex hp hg hR
 cases hR with
 |same hn=>exact ⟨⟨h,hg,hd,hr,fun h1=>by have:=h.du h1;have:=fun q=>hn ⟨h1,q⟩;omega⟩,rfl⟩
 |fail h1 h2 h3=>exact ⟨⟨hI,hg,hd,hr,fun q=>by simp [DC] at q⟩,rfl⟩
 |send h1 h2 h3 h4=>
  have hQ:=h.sn.q hp
  have hB:=(hQ.bat hp h.sn h3).last
  have hn:=h.sn.num hp
  have hrr:=hp.rng
  have ho:=hB.outs (t:=s.now) ⟨hrr.2.2.1,hrr.2.2.2.1⟩ (by omega)
  refine ⟨⟨hI,fun o ho=>Hc.gt (s:=s) (q:=s.snd) hp hB (by omega) ho,hd,hr,fun q => ?_⟩,rfl⟩
  have:=(hI.due q).2
  have e:({s with snd:=Aw s.snd (AZ p.c.rate s.now (BL (AY s.snd))) (s.snd.ser+1),pend:=Ar p.c.rate s.now (BL (AY s.snd))}:Ses).snd.busy=AZ p.c.rate s.now (BL (AY s.snd)):=rfl
  rw [e] at this
  show s.now<_
  omega
theorem WC {p:Par} {s:Ses} {t:Int} (hp:POk p) (h:Wt p s) (ht:nxS s=some t):Reach p s (ph1 s t)∧Inv p (ph1 s t)∧PGt (ph1 s t)∧(ph1 s t).now=t:=by
 have hI:=h.i.at (t:=t) (by have:=(h.nx hp ht).1;have:=h.i.now;omega) ht
 obtain ⟨a1,a2,a3,a4⟩:=Ve hp s.pend.length _ hI (Nat.le_refl _)
 exact ⟨(Reach.one (.time s t h.i h.pg h.dg h.rg h.ug ht)).trans a1,a2,a3,a4⟩
theorem WB {p:Par} {s:Ses} {t:Int} (hp:POk p) (h:Wt p s) (ht:nxS s=some t):Reach p s (ph2 s t)∧Inv p (ph2 s t)∧PGt (ph2 s t)∧DGt (ph2 s t)∧(ph2 s t).now=t:=by
 obtain ⟨a1,a2,a3,a4⟩:=WC hp h ht
 obtain ⟨b1,b2,b3,b4,b5⟩:=Vu hp _ _ a2 a3 (Nat.le_refl _)
 exact ⟨a1.trans b1,b2,b3,b4,by unfold ph2;rw [b5,a4]⟩
theorem WA {p:Par} {s:Ses} {t:Int} (hp:POk p) (h:Wt p s) (ht:nxS s=some t):Reach p s (ph3 s t)∧Inv p (ph3 s t)∧PGt (ph3 s t)∧DGt (ph3 s t)∧RGt (ph3 s t)∧(ph3 s t).now=t:=by
 obtain ⟨a1,a2,a3,a4,a5⟩:=WB hp h ht
 obtain ⟨b1,b2,b3,b4,b5,b6⟩:=WS hp _ _ a2 a3 a4 (Nat.le_refl _)
 exact ⟨a1.trans b1,b2,b3,b4,b5,by unfold ph3;rw [b6,a5]⟩
theorem Vl {p:Par} {s:Ses} {t:Int} (hp:POk p) (h:Wt p s) (ht:nxS s=some t):Reach p s (stS s t)∧Wt p (stS s t)∧(stS s t).now=t:=by
 obtain ⟨a1,a2,a3,a4,a5,a6⟩:=WA hp h ht
 have hR:=(a2.exR hp a3).1
 obtain ⟨b1,b2⟩:=exR_ok hp a2 a3 a4 a5 hR
 exact ⟨a1.trans (Reach.one (.ex _ _ a2 a3 a4 a5 hR)),b1,by unfold stS;rw [b2,a6]⟩
def muS (p:Par) (s:Ses):Nat:=(p.e+4*p.c.rng+3-s.now).toNat
theorem Inv.small {p:Par} {s:Ses} (hp:POk p) (h:Inv p s):s.entered≤5000∧s.pend.length≤5000:=by
 have hB:=h.bud hp (k:=0) (by omega) (fun q=>by omega)
 have:=hB.ent
 have hs:=h.sn.num hp
 have hb:=hp.bud s.snd.ser (by omega) (by have:=h.sn.t;omega)
 have:=h.c4;have:=h.c5;have:=h.sn.t
 have hz:(s.snd.ser-1)*1≤(s.snd.ser-1)*(2*p.c.rng+1):=Int.mul_le_mul_of_nonneg_left (by have:=hp.rng;omega) (by omega)
 refine ⟨by omega,?_⟩
 rcases hb with hb|hb<;>omega
theorem runP {p:Par} (hp:POk p):XG (Wt p) (fun s=>Inv p s∧PGt s) (fun s=>Inv p s∧PGt s∧DGt s) (muS p):=by
 refine ⟨⟨fun s h=>h.1.gd,fun s f l h hf ha => ?_⟩,⟨fun s h=>h.1.gr,fun s h => ?_,fun s f l h hf ha => ?_⟩,fun s h => ?_,fun s t h ht => ?_,fun s t h ht => ?_,fun s t h ht => ?_,fun s t h ht => ?_,fun s t h ht => ?_⟩
 ·obtain ⟨hI,hg⟩:=h
  obtain ⟨f1,f2,f3,f4,f5⟩:=hI.fd f (by rw [hf];simp)
  have hn:=hI.sn.num hp
  have hr:=hp.rng
  refine ⟨by rw [(hI.Ts hp f1).1],?_,hI.rx hp hf ha,Inv.rxG (p:=p) hg⟩
  rw [(hI.Ts hp f1).1]
  refine (hI.bud hp ?_ (fun _=>by omega)).BJ
  rw [hf]
  simp only [List.countP_cons]
  split
  ·simp only [List.length_cons,List.length_nil];omega
  ·simp only [List.length_nil];omega
 ·have:=(h.1.sn.fo hp).2
  have:=(h.1.small hp).2
  omega
 ·obtain ⟨hI,hg,hd⟩:=h
  obtain ⟨f1,f2,f3,f4,f5⟩:=hI.fr f (by rw [hf];simp)
  obtain ⟨r1,r2⟩:=hI.lsR hp hg hf ha
  obtain ⟨g1,g2,g3,g4⟩:=Mic.lsG hp hI hg hd hf ha r1
  have:=f1.few hp.sz.2
  exact ⟨.inl (by omega),r2,hI.ls hp hg hf ha r1,g1,g2⟩
 ·have:=(h.i.small hp).1
  exact ⟨by omega,h.i.gd,h.i.gr⟩
 ·have hI:=h.i.at (t:=t) (by have:=(h.nx hp ht).1;have:=h.i.now;omega) ht
  refine hI.bud hp (show (s.pend.length:Int)≤s.pend.length+(s.dat.frames.countP (fun f=>f.seg.chk):Nat) by omega) (fun hk => ?_)
  obtain ⟨n1,n2⟩:=WK h.i ht
  cases hpd:s.pend with
  |nil=>rw [hpd] at hk;simp at hk
  |cons o l=>
   have h1:=n1 o (by rw [hpd];simp)
   have h2:=h.i.pd o (by rw [hpd];simp)
   have hn:=h.i.sn.num hp
   have hr:=hp.rng
   show t≤_
   omega
 ·have:=WC hp h ht;exact ⟨this.2.1,this.2.2.1⟩
 ·have:=WB hp h ht;exact ⟨this.2.1,this.2.2.1,this.2.2.2.1⟩
 ·obtain ⟨a1,a2,a3,a4,a5,a6⟩:=WA hp h ht
  have:=(a2.small hp)
  have:=(a2.sn.fo hp).2
  exact ⟨by omega,by omega,by omega,(a2.exR hp a3).2⟩
 ·obtain ⟨a1,a2,a3⟩:=Vl hp h ht
  have:=h.nx hp ht
  refine ⟨a2,?_⟩
  unfold muS
  rw [a3]
  omega
theorem TO {p:Par} (hp:POk p):∀(k:Nat) (s:Ses),Wt p s→muS p s≤k→Reach p s (IP k s)∧Wt p (IP k s)∧nxS (IP k s)=none
 |0,s,h,hk=>by
  refine ⟨.refl,h,?_⟩
  cases hn:nxS s with
  |none=>exact hn
  |some t=>
   have:=h.nx hp hn
   unfold muS at hk
   omega
 |k+1,s,h,hk=>by
  unfold IP
  cases hn:nxS s with
  |none=>exact ⟨.refl,h,hn⟩
  |some t=>
   simp only
   obtain ⟨a1,a2,a3⟩:=Vl hp h hn
   have:=h.nx hp hn
   obtain ⟨b1,b2,b3⟩:=TO hp k _ a2 (by unfold muS at hk ⊢;rw [a3];omega)
   exact ⟨a1.trans b1,b2,b3⟩
theorem I2 {p:Par} (hp:POk p) (h:(A7 p.c 0 p.d p.b p.e).2.2=0) :
  Hc p.d 1 (BC 0 1 p.d (AK p.d))∧AZ p.c.rate p.b (BC 0 1 p.d (AK p.d))≤p.e∧
  (A7 p.c 0 p.d p.b p.e).1=Aw (BE p.c 0 p.d p.e) (AZ p.c.rate p.b (BC 0 1 p.d (AK p.d))) 1∧(A7 p.c 0 p.d p.b p.e).2.1=Ar p.c.rate p.b (BC 0 1 p.d (AK p.d)):=by
 have hd:=hp.sz
 have hB:=batP (E6 (ses:=0) (d:=p.d) ⟨by omega,by omega⟩ ⟨by omega,by omega⟩)
 obtain ⟨pre,x,e,h1,h2,h3⟩:=hB.ex
 have hlast:(BC 0 1 p.d (AK p.d)).getLast? = some x:=by rw [e];exact List.getLast?_concat ..
 have ht:=hp.t
 have e0:A7 p.c 0 p.d p.b p.e=if (Bv (BE p.c 0 p.d p.e) p.b (BC 0 1 p.d (AK p.d))).1.st=3 then Cu 16 else ((Bv (BE p.c 0 p.d p.e) p.b (BC 0 1 p.d (AK p.d))).1,(Bv (BE p.c 0 p.d p.e) p.b (BC 0 1 p.d (AK p.d))).2,0):=by
  unfold A7
  rw [if_neg (by have:=hp.con;omega),if_neg (by omega),if_neg (by omega),if_neg (by omega),if_neg (by omega)]
 have e1:Bv (BE p.c 0 p.d p.e) p.b (BC 0 1 p.d (AK p.d))=if p.e<AZ p.c.rate p.b (BC 0 1 p.d (AK p.d))∨1099511627776<x.ser then (DC (BE p.c 0 p.d p.e),[]) else (Aw (BE p.c 0 p.d p.e) (AZ p.c.rate p.b (BC 0 1 p.d (AK p.d))) x.ser,Ar p.c.rate p.b (BC 0 1 p.d (AK p.d))):=by
  unfold Bv
  rw [hlast]
  rfl
 by_cases hb:p.e<AZ p.c.rate p.b (BC 0 1 p.d (AK p.d))
 ·exfalso
  rw [e0,e1,if_pos (Or.inl hb)] at h
  simp [Cu,DC] at h
 ·rw [if_neg (by omega),h2] at e1
  rw [e0,e1,if_neg (by simp [Aw])]
  exact ⟨hB,by omega,rfl,rfl⟩
def D8 (p:Par):Ses:=ini p.c p.b p.e p.d p.ps p.lim p.dk
theorem Wa {p:Par} (hp:POk p) (h:(A7 p.c 0 p.d p.b p.e).2.2=0):Wt p (D8 p):=by
 obtain ⟨hB,he,e1,e2⟩:=I2 hp h
 have hr:=hp.rng
 have hd:=hp.sz
 have ht:=hp.t
 obtain ⟨o1,o2,o3,o4,o5⟩:=hB.outs (t:=p.b) ⟨hr.2.2.1,hr.2.2.2.1⟩ (by omega)
 have hlen:=hB.len
 let q:Snd:={BE p.c 0 p.d p.e with busy:=AZ p.c.rate p.b (BC 0 1 p.d (AK p.d)),ser:=1}
 have hq:Gm q=0:=by
  unfold Gm
  have a1:EU q:=by unfold EU;simp only [q,BE];omega
  have a2:Pq q:=⟨PL,.inl rfl⟩
  rw [if_neg (fun f=>f hp.con),if_neg (fun f=>f a1),if_neg (fun f=>f a2)]
 have hc0:complete q=false:=by simp [complete,q,BE,AK]
 have hok:=TG (t:=AZ p.c.rate p.b (BC 0 1 p.d (AK p.d))) (ser:=1) hq hc0 (by simp only [q,BE];omega) (by omega)
 have e3:Aw q (AZ p.c.rate p.b (BC 0 1 p.d (AK p.d))) 1=Aw (BE p.c 0 p.d p.e) (AZ p.c.rate p.b (BC 0 1 p.d (AK p.d))) 1:=rfl
 rw [e3] at hok
 have ei:D8 p=⟨⟨p.c.rng,[],0,0⟩,⟨p.c.rng,[],0,0⟩,p.ps,p.lim,p.dk,0,0,[],[],0,Aw (BE p.c 0 p.d p.e) (AZ p.c.rate p.b (BC 0 1 p.d (AK p.d))) 1,R0,Ar p.c.rate p.b (BC 0 1 p.d (AK p.d)),false,0,false,0⟩:=by
  unfold D8 ini
  rw [e1,e2]
  rfl
 rw [ei]
 have hgc:CW ⟨p.c.rng,[],0,0⟩:=⟨by simp only;omega,by simp,by simp,by simp,(fun f hf=>by cases hf),List.Pairwise.nil⟩
 refine ⟨⟨rfl,rfl,rfl,rfl,rfl,hgc,hgc,Int.le_refl _,⟨rfl,rfl,rfl,rfl,hok,?_⟩,⟨[],Vk _,fun x hx=>by cases hx⟩,(fun f hf=>by cases hf),(fun f hf=>by cases hf),fun o ho => ?_,o1,fun _ => ?_,rfl,rfl,rfl,?_,?_,?_,?_,?_,?_,?_,(show false=A3 R0 by decide)⟩,fun o ho => ?_,(fun f hf=>by cases hf),(fun f hf=>by cases hf),fun _ => ?_⟩
 ·simp only [Aw,BE];omega
 ·obtain ⟨k1,k2,k3,k4,k5⟩:=o2 o ho
  exact ⟨k1,by simp only;omega,by simp only [Aw];omega,by simp only [Aw];omega,fun hcc=>(k5 hcc).1⟩
 ·simp only [Aw,BE];omega
 ·simp only [Aw,BE,Cf,List.length_nil];omega
 ·simp only [Aw,BE,Cf,List.length_nil];omega
 ·simp only [Aw,BE,o4,List.length_nil,List.countP_nil];omega
 ·simp
 ·simp
 ·simp
 ·simp [Aw]
 ·have:=o2 o ho;simp only;omega
 ·simp only [Aw,BE];omega
end Ab
set_option linter.unusedVariables false
set_option linter.unusedSimpArgs false
namespace Ab
open Go
theorem Pt {l:List Span} {n:Int} (h:BB l=0) (hn:0<n) (hm:∀t,AO t l↔0≤t∧t<n):l=[⟨0,n⟩]:=
 Cw (b' := -1) ((Ai _).1 h).2.1 ⟨by simp only;omega,by simp only;omega,trivial⟩ fun t=>by rw [hm];simp [AO]
theorem Inv.full {p:Par} {s:Ses} (hp:POk p) (h:Inv p s):A3 s.rcv=true↔∀t,AO t s.rcv.known↔0≤t∧t<p.d.size:=by
 obtain ⟨hl,h1,h2⟩:=h.rc
 have hd:=hp.sz
 have hc:=(C1 h1.ok).2.1.1
 unfold A3
 rw [decide_eq_true_eq]
 constructor
 ·rintro ⟨_,e⟩ t
  by_cases hn:hl=[]
  ·exfalso
   have hcc:=((Ai _).1 hc).2.1
   rw [e,h1.tot,if_pos hn] at hcc
   have:=hcc.2.1
   simp only at this
   omega
  ·rw [e,h1.tot,if_neg hn]
   simp [AO]
 ·intro hm
  refine ⟨h1.ok,?_⟩
  have hn:hl≠[]:=by
   rintro rfl
   obtain ⟨x,hx,_⟩:=(h1.mem 0).1 ((hm 0).2 (by omega))
   cases hx
  rw [h1.tot,if_neg hn]
  exact Pt hc (by omega) hm
theorem Inv.kin {p:Par} {s:Ses} (h:Inv p s) {t:Int} (ht:AO t s.rcv.known):0≤t∧t<p.d.size:=by
 obtain ⟨hl,h1,h2⟩:=h.rc
 exact Ww h2 ((h1.mem t).1 ht)
structure RxF (p:Par) (s s':Ses) (f:Frame) (l:List Frame):Prop where
 sp:Ke p.d f.seg
 rcv:s'.rcv=Cg s.rcv f.seg
 mem:∀t,AO t s'.rcv.known↔AO t s.rcv.known∨(f.seg.off≤t∧t<f.seg.off+f.seg.data.size)
 dat:s'.dat={s.dat with frames:=l}
 snd:s'.snd=s.snd
 pend:s'.pend=s.pend
 sent:s'.sent=s.sent
 now:s'.now=s.now
 kno:s'.kno=s.kno
 knoAt:s'.knoAt=s.knoAt
 rcvd:s'.rcvd=A3 s'.rcv
 arr:s'.arrive=if s.rcvd=false∧s'.rcvd=true then s.now else s.arrive
 cl:(Bn s.rcv f.seg).AX=s'.rcv.known
 no:f.seg.chk=false→s'.rep=s.rep∧s'.told=s.told∧s'.entered=s.entered∧s'.dist=s.dist
 yes:f.seg.chk=true→Jp p.d (Bn s.rcv f.seg)∧s'.rep=Bi s.rep s.now (Bn s.rcv f.seg) (CE s p.c.rng).1∧s'.told=s.told++[⟨s.now,Bn s.rcv f.seg⟩]∧s'.entered=s.entered+1∧s'.dist=(CE s p.c.rng).2
 mono:s.rcvd=true→s'.rcvd=true
theorem rxF_f (s:Ses):(rxF s).rcv=s.rcv∧(rxF s).rep=s.rep∧(rxF s).told=s.told∧(rxF s).entered=s.entered∧(rxF s).dist=s.dist∧(rxF s).arrive=if s.rcvd=false∧A3 s.rcv=true then s.now else s.arrive:=by
 unfold rxF
 by_cases h:s.rcvd=false∧A3 s.rcv=true
 ·rw [if_pos h,if_pos h];exact ⟨rfl,rfl,rfl,rfl,rfl,rfl⟩
 ·rw [if_neg h,if_neg h];exact ⟨rfl,rfl,rfl,rfl,rfl,rfl⟩
theorem Inv.P8 {p:Par} {s:Ses} (hp:POk p) (h:Inv p s) {f:Frame} {l:List Frame} (hf:s.dat.frames=f::l) (ha:f.arr=s.now):RxF p s (rxX (BJ s) f.seg) f l:=by
 obtain ⟨f1,f2,f3,f4,f5⟩:=h.fd f (by rw [hf];simp)
 obtain ⟨e1,e2,e3,e4,e5,e6⟩:=h.Ts hp f1
 have hI:=h.rx hp hf ha
 have hfr:s.dat.frames.tail=l:=by rw [hf];rfl
 have hrr:(BJ s).rep.rng=p.c.rng:=h.rr
 have hpop:(BJ s).rcv=s.rcv:=rfl
 have hH:rxH (BJ s) f.seg=if f.seg.chk=true then Cy {BJ s with rcv:=Cg s.rcv f.seg} (Bn s.rcv f.seg) else {BJ s with rcv:=Cg s.rcv f.seg}:=by
  unfold rxH
  rw [hpop,e1]
  split<;>rfl
 obtain ⟨q1,q2,q3,q4,q5,q6⟩:=rxF_f (rxH (BJ s) f.seg)
 have e0:rxX (BJ s) f.seg=rxF (rxH (BJ s) f.seg):=rfl
 rw [← e0] at q1 q2 q3 q4 q5 q6
 have hrv:(rxX (BJ s) f.seg).rcv=Cg s.rcv f.seg:=by
  rw [q1,hH]
  split<;>rfl
 obtain ⟨p1,p2,p3,p4,p5⟩:=P7 (BJ s) f.seg
 have hrc:(rxX (BJ s) f.seg).rcvd=A3 (Cg s.rcv f.seg):=by rw [hI.rv,hrv]
 refine ⟨f1,hrv,by rw [hrv];exact e4,by rw [FQ];simp [BJ,hfr],p2,p1,p3,by rw [Om];rfl,p4,p5,hI.rv,?_,by rw [hrv];exact e6,fun hc => ?_,fun hc=>⟨e3 hc,?_⟩,fun q=>by rw [hrc];exact e5 (by rw [← h.rv];exact q)⟩
 ·rw [hrc,q6,hH]
  split<;>rfl
 ·rw [q2,q3,q4,q5,hH,if_neg (by simp [hc])]
  exact ⟨rfl,rfl,rfl,rfl⟩
 ·rw [q2,q3,q4,q5,hH,if_pos hc]
  have e:(CE {BJ s with rcv:=Cg s.rcv f.seg} p.c.rng)=CE s p.c.rng:=rfl
  simp only [Cy]
  rw [hrr,e]
  exact ⟨rfl,rfl,rfl,rfl⟩
theorem DN {c:CC} {t:Int} {x:Seg} {ds:List Int} {f:Frame} (h:f∈(Bi c t x ds).frames):f∈c.frames∨∃d∈ds,f=⟨t+d,c.sent,x⟩:=CA.1 h
structure Knw (p:Par) (kt:Int→Int) (s:Ses):Prop where
 pd:∀o∈s.pend,p.b<o.at_
 fd:∀f∈s.dat.frames,p.b+p.c.rng<f.arr
 k1:∀t,AO t s.rcv.known→p.b+p.c.rng<kt t∧kt t≤s.now
 k2:∀t,AO t s.snd.acked→AO t s.rcv.known∧kt t+p.c.rng≤s.now
 k3:∀f∈s.rep.frames,∀t,AO t f.seg.AX→AO t s.rcv.known∧kt t+p.c.rng≤f.arr
 k4:s.rcvd=true→(∀t,AO t s.rcv.known→kt t≤s.arrive)∧∃t,AO t s.rcv.known∧kt t=s.arrive
 k5:s.rcvd=false→s.arrive=0
 k6:s.kno=false→s.knoAt=0
 k7:s.kno=true→s.rcvd=true∧s.arrive+p.c.rng≤s.knoAt
theorem Knw.mic {p:Par} {s s':Ses} {kt:Int→Int} (hp:POk p) (h:Knw p kt s) (m:Mic p s s'):∃kt',Knw p kt' s':=by
 have hr:=hp.rng
 have hI':=m.inv hp
 cases m with
 |time t h1 h2 h3 h4 h5 h6=>
  have hlt:=(Wt.nx hp ⟨h1,h2,h3,h4,h5⟩ h6).1
  exact ⟨kt,h.pd,h.fd,fun t ht=>by have:=h.k1 t ht;simp only;omega,fun t ht=>by have:=h.k2 t ht;refine ⟨this.1,?_⟩;simp only;omega,h.k3,h.k4,h.k5,h.k6,h.k7⟩
 |tx o l h1 h2 h3=>
  refine ⟨kt,fun x hx=>h.pd x (by rw [h2];simp [hx]),fun f hf => ?_,h.k1,h.k2,h.k3,h.k4,h.k5,h.k6,h.k7⟩
  rcases DN hf with hf|⟨d,hd,rfl⟩
  ·exact h.fd f hf
  ·have hd:=(h1.del hp).1 d (by rw [← h1.rd];exact hd)
   have:=h.pd o (by rw [h2];simp)
   simp only
   omega
 |rx f l h1 h2 h3 h4=>
  have hF:=h1.P8 hp h3 h4
  refine ⟨fun t=>open Classical in if AO t s.rcv.known then kt t else s.now,?_,?_,?_,?_,?_,?_,?_,?_,?_⟩
  ·rw [hF.pend];exact h.pd
  ·rw [hF.dat];exact fun x hx=>h.fd x (by rw [h3];exact List.mem_cons_of_mem _ hx)
  ·intro t ht
   rw [hF.now]
   split
   ·rename_i hk;exact h.k1 t hk
   ·have:=h.fd f (by rw [h3];simp);omega
  ·intro t ht
   rw [hF.snd] at ht
   obtain ⟨k1,k2⟩:=h.k2 t ht
   rw [hF.now]
   rw [if_pos k1]
   exact ⟨(hF.mem t).2 (.inl k1),k2⟩
  ·have old:∀x∈s.rep.frames,∀t,AO t x.seg.AX→AO t (rxX (BJ s) f.seg).rcv.known∧(open Classical in if AO t s.rcv.known then kt t else s.now)+p.c.rng≤x.arr:=by
    intro x hx t ht
    obtain ⟨k1,k2⟩:=h.k3 x hx t ht
    rw [if_pos k1]
    exact ⟨(hF.mem t).2 (.inl k1),k2⟩
   cases hc:f.seg.chk with
   |false=>rw [(hF.no hc).1];exact old
   |true=>
    rw [(hF.yes hc).2.1]
    intro x hx t ht
    rcases DN hx with hx|⟨d,hd,rfl⟩
    ·exact old x hx t ht
    ·have hd:=(h1.del hp).1 d hd
     rw [hF.cl] at ht
     refine ⟨ht,?_⟩
     split
     ·rename_i hk;have:=(h.k1 t hk).2;show _≤s.now+d;omega
     ·show _≤s.now+d;omega
  ·intro hq
   have hI:=hI'
   have hful:=(hI.full hp).1 (by rw [← hF.rcvd];exact hq)
   rw [hF.arr]
   cases ho:s.rcvd with
   |true=>
    rw [if_neg (by simp)]
    obtain ⟨k1,t,k2,k3⟩:=h.k4 ho
    have hfo:=(h1.full hp).1 (by rw [← h1.rv];exact ho)
    refine ⟨fun t ht => ?_,t,(hF.mem t).2 (.inl k2),?_⟩
    ·have hk:=(hfo t).2 ((hful t).1 ht)
     rw [if_pos hk]
     exact k1 t hk
    ·rw [if_pos k2]
     exact k3
   |false=>
    rw [if_pos ⟨rfl,hq⟩]
    refine ⟨fun t ht => ?_,?_⟩
    ·split
     ·rename_i hk;exact (h.k1 t hk).2
     ·exact Int.le_refl _
    ·have hno:¬∀t,AO t s.rcv.known↔0≤t∧t<p.d.size:=fun q=>by
      have:=(h1.full hp).2 q
      rw [← h1.rv,ho] at this
      cases this
     obtain ⟨t,ht⟩:=Classical.not_forall.1 hno
     have hn:¬AO t s.rcv.known:=fun q=>ht ⟨fun _=>h1.kin q,fun _=>q⟩
     have hin:0≤t∧t<p.d.size:=Classical.byContradiction fun q=>ht ⟨fun m=>(hn m).elim,fun m=>(q m).elim⟩
     exact ⟨t,(hful t).2 hin,by rw [if_neg hn]⟩
  ·intro hq
   rw [hF.arr]
   have ho:s.rcvd=false:=by
    cases hs:s.rcvd with
    |false=>rfl
    |true=>rw [hF.mono hs] at hq;cases hq
   rw [if_neg (by rw [hq];simp)]
   exact h.k5 ho
  ·rw [hF.kno,hF.knoAt];exact h.k6
  ·intro hq
   rw [hF.kno] at hq
   obtain ⟨k1,k2⟩:=h.k7 hq
   rw [hF.knoAt,hF.arr,k1,if_neg (by simp)]
   exact ⟨hF.mono k1,k2⟩
 |ls _ f l h1 h2 h3 h4 h5 h6=>
  obtain ⟨f1,f2,f3,f4,f5⟩:=h1.fr f (by rw [h4];simp)
  obtain ⟨hQ,hack⟩:=h1.sn.ack hp f1
  have hk3:∀x∈l,∀t,AO t x.seg.AX→AO t s.rcv.known∧kt t+p.c.rng≤x.arr:=fun x hx=>h.k3 x (by rw [h4];simp [hx])
  have hl:(BZ s).rep.frames=l:=by simp [BZ,h4]
  have hk3':∀x∈(BZ s).rep.frames,∀t,AO t x.seg.AX→AO t s.rcv.known∧kt t+p.c.rng≤x.arr:=by rw [hl];exact hk3
  have ha:∀t,AO t (Az s.snd f.seg).acked→AO t s.rcv.known∧kt t+p.c.rng≤s.now:=fun t ht=>by
   rcases (hack t).1 ht with ht|ht
   ·exact h.k2 t ht
   ·have:=h.k3 f (by rw [h4];simp) t ht
    exact ⟨this.1,by omega⟩
  refine ⟨kt,?_⟩
  cases h6 with
  |busy q1=>exact ⟨h.pd,h.fd,h.k1,h.k2,hk3',h.k4,h.k5,h.k6,h.k7⟩
  |same q1 q2=>exact ⟨h.pd,h.fd,h.k1,h.k2,hk3',h.k4,h.k5,h.k6,h.k7⟩
  |done q1 q2 q3 q4=>
   refine ⟨h.pd,h.fd,h.k1,ha,hk3',h.k4,h.k5,fun q=>(by cases q),fun _ => ?_⟩
   have hw:(Az s.snd f.seg).acked=AK p.d:=by
    have:=of_decide_eq_true (show decide ((Az s.snd f.seg).acked=AK (Az s.snd f.seg).data)=true from q4)
    rw [this,hQ.data]
   have hall:∀t,AO t s.rcv.known↔0≤t∧t<p.d.size:=fun t=>⟨fun m=>h1.kin m,fun m=>(ha t (by rw [hw];simpa [AO,AK] using m)).1⟩
   have hrc:s.rcvd=true:=by rw [h1.rv];exact (h1.full hp).2 hall
   obtain ⟨k1,t,k2,k3⟩:=h.k4 hrc
   have:=(ha t (by rw [hw];have:=(hall t).1 k2;simpa [AO,AK] using this)).2
   exact ⟨hrc,by show s.arrive+p.c.rng≤s.now;omega⟩
  |fail q1 q2 q3 q4 q5=>exact ⟨h.pd,h.fd,h.k1,ha,hk3',h.k4,h.k5,h.k6,h.k7⟩
  |send q1 q2 q3 q4 q5=>
   have hn:=h1.sn.num hp
   refine ⟨fun o ho => ?_,h.fd,h.k1,ha,hk3',h.k4,h.k5,h.k6,h.k7⟩
   have:=Hc.gt (s:=s) (q:=s.snd) hp (hQ.bat hp h1.sn q4) (by omega) ho
   have:¬s.now<s.snd.busy:=q1
   omega
 |ex _ h1 h2 h3 h4 h5=>
  refine ⟨kt,?_⟩
  cases h5 with
  |same q=>exact h
  |fail q1 q2 q3=>exact ⟨h.pd,h.fd,h.k1,h.k2,h.k3,h.k4,h.k5,h.k6,h.k7⟩
  |send q1 q2 q3 q4=>
   have hn:=h1.sn.num hp
   have hdu:=(h1.due q1).2
   refine ⟨fun o ho => ?_,h.fd,h.k1,h.k2,h.k3,h.k4,h.k5,h.k6,h.k7⟩
   have:=Hc.gt (s:=s) (q:=s.snd) hp (((h1.sn.q hp).bat hp h1.sn q3).last) (by omega) ho
   omega
theorem Reach.ind {p:Par} {a b:Ses} (P:Ses→Prop) (h:Reach p a b) (h0:P a) (hs:∀s s',P s→Mic p s s'→P s'):P b:=by
 induction h with
 |refl=>exact h0
 |step _ m ih=>exact hs _ _ ih m
theorem Tm {p:Par} (hp:POk p) (h:(A7 p.c 0 p.d p.b p.e).2.2=0):∃kt,Knw p kt (D8 p):=by
 obtain ⟨hB,he,e1,e2⟩:=I2 hp h
 have hr:=hp.rng
 have ho:=hB.outs (t:=p.b) ⟨hr.2.2.1,hr.2.2.2.1⟩ (by omega)
 have ee1:(D8 p).pend=Ar p.c.rate p.b (BC 0 1 p.d (AK p.d)):=e2
 have ee2:(D8 p).snd.acked=[]:=by show (A7 p.c 0 p.d p.b p.e).1.acked=[];rw [e1];rfl
 refine ⟨fun _=>0,fun o ho' => ?_,(fun f hf=>by cases hf),(fun t ht=>by cases ht),fun t ht => ?_,(fun f hf=>by cases hf),(fun q=>by cases q),fun _=>rfl,fun _=>rfl,(fun q=>by cases q)⟩
 ·rw [ee1] at ho'
  exact (ho.2.1 o ho').2.1
 ·rw [ee2] at ht;cases ht
def Bj (p:Par):Ses:=IP (muS p (D8 p)) (D8 p)
theorem KO {p:Par} (hp:POk p) (h:(A7 p.c 0 p.d p.b p.e).2.2=0):Reach p (D8 p) (Bj p)∧Wt p (Bj p)∧nxS (Bj p)=none:=TO hp _ _ (Wa hp h) (Nat.le_refl _)
theorem knw_fin {p:Par} (hp:POk p) (h:(A7 p.c 0 p.d p.b p.e).2.2=0):∃kt,Knw p kt (Bj p):=
 (KO hp h).1.ind (fun s=>∃kt,Knw p kt s) (Tm hp h) fun s s' ⟨kt,hk⟩ m=>hk.mic hp m
end Ab
set_option linter.unusedVariables false
set_option linter.unusedSimpArgs false
namespace Ab
open Go
def cov (x:Seg) (t:Int):Prop:=x.off≤t∧t<x.off+x.data.size
theorem KR:∀(k:Nat) (a b:Int),(b-a).toNat≤k→∀t,a≤t→t<b→∃q∈cut a b,q.1≤t∧t<q.2
 |0,a,b,hk,t,h1,h2=>by omega
 |k+1,a,b,hk,t,h1,h2=>by
  have hq:a<b:=by omega
  have hc:=FY hq
  rw [E2 hq]
  by_cases h:t<D2 a b
  ·exact ⟨(a,D2 a b),by simp,h1,h⟩
  ·obtain ⟨q,q1,q2⟩:=KR k (D2 a b) b (by omega) t (by omega) h2
   exact ⟨q,by simp [q1],q2⟩
theorem Mn:∀(k:Nat) (a b:Int),(b-a).toNat≤k→(cut a b).Pairwise fun q r=>q.2≤r.1
 |0,a,b,hk=>by rw [E3 (by omega)];exact List.Pairwise.nil
 |k+1,a,b,hk=>by
  by_cases hq:a<b
  ·have hc:=FY hq
   rw [E2 hq,List.pairwise_cons]
   exact ⟨fun r hr=>(E4 _ _ _ (Nat.le_refl _) r hr).1,Mn k (D2 a b) b (by omega)⟩
  ·rw [E3 hq];exact List.Pairwise.nil
theorem VH {d:ByteArray} (hd:1≤d.size∧d.size≤65536):∃pre ck,BC 0 1 d (AK d)=pre++[ck]∧ck.chk=true∧ck.ser=1∧1≤ck.data.size∧0≤ck.off∧ck.off+(ck.data.size:Int)≤(d.size:Int)∧
  (∀y∈pre,y.chk=false∧y.off+(y.data.size:Int)≤ck.off)∧∀t:Int,0≤t→t<d.size→cov ck t∨∃y∈pre,cov y t:=by
 have hb:=E6 (ses:=0) (d:=d) ⟨by omega,by omega⟩ hd
 have hr:CD d 0 (AK d)=(cut 0 d.size).map (raw d 0):=by simp [CD,AK]
 have hne:cut 0 (d.size:Int)≠[]:=Wv (by omega)
 obtain ⟨pr,q,hq⟩:∃pr q,cut 0 (d.size:Int)=pr++[q]:=⟨_,_,(List.dropLast_concat_getLast hne).symm⟩
 have hm:=E4 _ 0 (d.size:Int) (Nat.le_refl _)
 have hp:=Mn _ 0 (d.size:Int) (Nat.le_refl _)
 have hc:=KR _ 0 (d.size:Int) (Nat.le_refl _)
 rw [hq] at hm hp hc
 have hs:∀r∈pr++[q],((raw d 0 r).data.size:Int)=r.2-r.1∧(raw d 0 r).off=r.1:=fun r hr=>by
  have:=hm r hr
  refine ⟨?_,rfl⟩
  simp only [raw,ByteArray.size_extract]
  omega
 have e:BC 0 1 d (AK d)=pr.map (raw d 0)++[{raw d 0 q with ser:=1,chk:=true}]:=by
  unfold BC
  rw [if_pos hb,hr,hq,List.map_append]
  exact Dm ..
 have hq2:=hm q (by simp)
 have hq3:=hs q (by simp)
 rw [List.pairwise_append] at hp
 refine ⟨_,_,e,rfl,rfl,?_,?_,?_,fun y hy => ?_,fun t h0 h1 => ?_⟩
 ·simp only;omega
 ·simp only;omega
 ·simp only;omega
 ·obtain ⟨r,hr,rfl⟩:=List.mem_map.1 hy
  have h2:=hs r (by simp [hr])
  have h3:=hp.2.2 r hr q (by simp)
  refine ⟨rfl,?_⟩
  show (raw d 0 r).off+((raw d 0 r).data.size:Int)≤(raw d 0 q).off
  omega
 ·obtain ⟨r,hr,h2⟩:=hc t h0 h1
  have h3:=hs r hr
  have hcv:cov (raw d 0 r) t:=by unfold cov;omega
  rcases List.mem_append.1 hr with hr|hr
  ·exact .inr ⟨_,List.mem_map_of_mem hr,hcv⟩
  ·rw [List.mem_singleton] at hr
   subst hr
   exact .inl hcv
structure QA (p:Par) (B:Int) (ck:Seg) (s:Ses):Prop where
 st:s.snd.st=1
 ser:s.snd.ser=1
 bu:s.snd.busy=B
 hck:ck.chk=true∧ck.ser=1∧1≤ck.data.size∧0≤ck.off∧ck.off+(ck.data.size:Int)≤(p.d.size:Int)
 all:∀t:Int,0≤t→t<p.d.size→AO t s.rcv.known∨cov ck t∨(∃o∈s.pend,o.seg.chk=false∧cov o.seg t)∨∃f∈s.dat.frames,cov f.seg t∧f.arr<B+p.c.rng
 dj:∀t,cov ck t→¬AO t s.rcv.known∧(∀o∈s.pend,o.seg.chk=false→¬cov o.seg t)∧∀f∈s.dat.frames,f.seg.chk=false→¬cov f.seg t
 pn:∀o∈s.pend,(o.seg.chk=false→o.at_<B)∧(o.seg.chk=true→o.seg=ck∧o.at_=B)
 fn:∀f∈s.dat.frames,f.seg.chk=true→f.seg=ck∧B+p.c.rng≤f.arr
 ex:(∃o∈s.pend,o.seg=ck)∨((∃f∈s.dat.frames,f.seg=ck∧f.arr=B+p.c.rng)∧∀o∈s.pend,o.seg.chk=false)
 rp:s.rep.frames=[]
 kn:s.kno=false
 rc:s.rcvd=false
structure QB (p:Par) (B:Int) (s:Ses):Prop where
 st:s.snd.st=1
 ser:s.snd.ser=1
 bu:s.snd.busy=B
 rc:s.rcvd=true
 ar:s.arrive=B+p.c.rng
 nw:B+p.c.rng≤s.now
 pn:s.pend=[]
 kn:s.kno=false
 wh:∀f∈s.rep.frames,∀t:Int,0≤t→t<p.d.size→AO t f.seg.AX
 ex:∃f∈s.rep.frames,f.seg.ser=1∧f.arr=B+2*p.c.rng
structure QC (p:Par) (B:Int) (s:Ses):Prop where
 st:s.snd.st=2
 bu:s.snd.busy=B
 rc:s.rcvd=true
 ar:s.arrive=B+p.c.rng
 kn:s.kno=true
 ka:s.knoAt=B+2*p.c.rng
def Q (p:Par) (B:Int) (s:Ses):Prop:=(∃ck,QA p B ck s)∨QB p B s∨QC p B s
theorem Hm {c:CC} {t:Int} {x:Seg} {ds:List Int} (h0:0≤c.lost) (h:(Bi c t x ds).lost=0):c.lost=0∧c.rng∈ds:=by
 simp only [Bi,HB] at h
 by_cases hm:c.rng∈ds
 ·rw [if_pos hm] at h;exact ⟨by omega,hm⟩
 ·rw [if_neg hm] at h;omega
theorem Wy {p:Par} {s q:Snd} (hp:POk p) (hq:LG p s q) (h:∀t:Int,0≤t→t<p.d.size→AO t q.acked):complete q=true:=by
 have hd:=hp.sz
 unfold complete
 refine decide_eq_true ?_
 have hw:=hq.fo.win
 rw [hq.data] at hw ⊢
 exact Pt hq.fo.ack (by omega) fun t=>⟨fun m=>FD hw m,fun m=>h t m.1 m.2⟩
theorem Mic.lost {p:Par} {s s':Ses} (hp:POk p) (m:Mic p s s') (h1:s'.dat.lost=0) (h2:s'.rep.lost=0):s.dat.lost=0∧s.rep.lost=0:=by
 cases m with
 |time t q1 q2 q3 q4 q5 q6=>exact ⟨h1,h2⟩
 |tx o l q1 q2 q3=>exact ⟨(Hm q1.gd.lost.1 h1).1,h2⟩
 |rx f l q1 q2 q3 q4=>
  have hF:=q1.P8 hp q3 q4
  refine ⟨by rw [hF.dat] at h1;exact h1,?_⟩
  cases hc:f.seg.chk with
  |false=>rw [(hF.no hc).1] at h2;exact h2
  |true=>rw [(hF.yes hc).2.1] at h2;exact (Hm q1.gr.lost.1 h2).1
 |ls _ f l q1 q2 q3 q4 q5 q6=>cases q6<;>exact ⟨h1,h2⟩
 |ex _ q1 q2 q3 q4 q5=>cases q5<;>exact ⟨h1,h2⟩
theorem QA.mic {p:Par} {s s':Ses} {B:Int} {ck:Seg} (hp:POk p) (h:QA p B ck s) (m:Mic p s s') (z1:s'.dat.lost=0) (z2:s'.rep.lost=0):Q p B s':=by
 have hr:=hp.rng
 have hI':=m.inv hp
 have hbu:=h.bu
 cases m with
 |time t q1 q2 q3 q4 q5 q6=>exact .inl ⟨ck,{h with}⟩
 |tx o l q1 q2 q3=>
  have hd:=(Hm q1.gd.lost.1 z1).2
  have hrd:=q1.rd
  have hg:(⟨s.now+p.c.rng,s.dat.sent,o.seg⟩:Frame)∈(Cv s o.seg).dat.frames:=CA.2 (.inr ⟨p.c.rng,by rw [← hrd];exact hd,rfl⟩)
  have hold:∀f∈s.dat.frames,f∈(Cv s o.seg).dat.frames:=fun f hf=>CA.2 (.inl hf)
  have hpo:=q1.po
  have hpn:=h.pn
  have hdj:=h.dj
  rw [q2] at hpo hpn hdj
  rw [List.pairwise_cons] at hpo
  refine .inl ⟨ck,⟨h.st,h.ser,h.bu,h.hck,fun t h0 h1 => ?_,fun t ht => ?_,fun x hx=>hpn x (by simp [hx]),fun f hf hc => ?_,?_,h.rp,h.kn,h.rc⟩⟩
  ·rcases h.all t h0 h1 with a|a|⟨x,hx,a⟩|⟨f,hf,a⟩
   ·exact .inl a
   ·exact .inr (.inl a)
   ·rw [q2] at hx
    rcases List.mem_cons.1 hx with rfl|hx
    ·have:=(hpn x (by simp)).1 a.1
     exact .inr (.inr (.inr ⟨_,hg,a.2,by show s.now+p.c.rng<_;omega⟩))
    ·exact .inr (.inr (.inl ⟨x,hx,a⟩))
   ·exact .inr (.inr (.inr ⟨f,hold f hf,a⟩))
  ·obtain ⟨k1,k2,k3⟩:=hdj t ht
   refine ⟨k1,fun x hx=>k2 x (by simp [hx]),fun f hf hc => ?_⟩
   rcases DN hf with hf|⟨d,hdd,rfl⟩
   ·exact k3 f hf hc
   ·exact k2 o (by simp) hc
  ·rcases DN hf with hf|⟨d,hdd,rfl⟩
   ·exact h.fn f hf hc
   ·have h1:=(hpn o (by simp)).2 hc
    have h2:=(q1.del hp).1 d (by rw [← hrd];exact hdd)
    exact ⟨h1.1,by show _≤s.now+d;omega⟩
  ·rcases h.ex with ⟨x,hx,a⟩|⟨⟨f,hf,a⟩,b⟩
   ·rw [q2] at hx
    rcases List.mem_cons.1 hx with rfl|hx
    ·have h1:=(hpn x (by simp)).2 (by rw [a];exact h.hck.1)
     refine .inr ⟨⟨_,hg,a,by show s.now+p.c.rng=_;omega⟩,fun y hy => ?_⟩
     have h2:=hpo.1 y hy
     cases hc:y.seg.chk with
     |false=>rfl
     |true=>have:=((hpn y (by simp [hy])).2 hc).2;omega
    ·exact .inl ⟨x,hx,a⟩
   ·exact .inr ⟨⟨f,hold f hf,a⟩,fun y hy=>b y (by rw [q2];simp [hy])⟩
 |rx f l q1 q2 q3 q4=>
  have hF:=q1.P8 hp q3 q4
  have hall:=h.all
  have hdj:=h.dj
  have hfn:=h.fn
  have hex:=h.ex
  rw [q3] at hall hdj hfn hex
  cases hc:f.seg.chk with
  |false=>
   obtain ⟨r1,r2,r3,r4⟩:=hF.no hc
   have hnk:∀t,cov ck t→¬AO t (rxX (BJ s) f.seg).rcv.known:=fun t ht hm=>by
    obtain ⟨k1,k2,k3⟩:=hdj t ht
    rcases (hF.mem t).1 hm with hm|hm
    ·exact k1 hm
    ·exact k3 f (by simp) hc hm
   refine .inl ⟨ck,⟨by rw [hF.snd];exact h.st,by rw [hF.snd];exact h.ser,by rw [hF.snd];exact h.bu,h.hck,fun t h0 h1 => ?_,fun t ht => ?_,by rw [hF.pend];exact h.pn,?_,?_,by rw [r1];exact h.rp,by rw [hF.kno];exact h.kn,?_⟩⟩
   ·rw [hF.mem,hF.pend,hF.dat]
    rcases hall t h0 h1 with a|a|a|⟨g,hg,a⟩
    ·exact .inl (.inl a)
    ·exact .inr (.inl a)
    ·exact .inr (.inr (.inl a))
    ·rcases List.mem_cons.1 hg with rfl|hg
     ·exact .inl (.inr a.1)
     ·exact .inr (.inr (.inr ⟨g,hg,a⟩))
   ·rw [hF.pend,hF.dat]
    obtain ⟨k1,k2,k3⟩:=hdj t ht
    exact ⟨hnk t ht,k2,fun g hg=>k3 g (by simp only at hg;simp [hg])⟩
   ·rw [hF.dat]
    exact fun g hg=>hfn g (by simp only at hg;simp [hg])
   ·rw [hF.pend,hF.dat]
    rcases hex with a|⟨⟨g,hg,a⟩,b⟩
    ·exact .inl a
    ·refine .inr ⟨⟨g,?_,a⟩,b⟩
     rcases List.mem_cons.1 hg with rfl|hg
     ·rw [a.1,h.hck.1] at hc;cases hc
     ·exact hg
   ·cases hq:(rxX (BJ s) f.seg).rcvd with
    |false=>rfl
    |true=>
     exfalso
     have hful:=(hI'.full hp).1 (by rw [← hF.rcvd];exact hq)
     have hk:=h.hck
     exact hnk ck.off ⟨Int.le_refl _,by omega⟩ ((hful ck.off).2 (by omega))
  |true=>
   obtain ⟨y1,y2,y3,y4,y5⟩:=hF.yes hc
   obtain ⟨f1,f2⟩:=hfn f (by simp) hc
   have hfd:=q1.fd
   rw [q3] at hfd
   have hnow:s.now=B+p.c.rng:=by
    rcases hex with ⟨o,ho,a⟩|⟨⟨g,hg,a⟩,b⟩
    ·have h1:=(h.pn o ho).2 (by rw [a];exact h.hck.1)
     have h2:=(q1.pd o ho).2.1
     omega
    ·have:=(hfd g hg).2.2.1
     omega
   have hpe:s.pend=[]:=by
    cases hpd:s.pend with
    |nil=>rfl
    |cons o l'=>
     have h1:=h.pn o (by rw [hpd];simp)
     have h2:=(q1.pd o (by rw [hpd];simp)).2.1
     cases hcc:o.seg.chk with
     |false=>have:=h1.1 hcc;omega
     |true=>have:=(h1.2 hcc).2;omega
   have hful:∀t,AO t (rxX (BJ s) f.seg).rcv.known↔0≤t∧t<p.d.size:=fun t=>⟨fun m=>hI'.kin m,fun ⟨h0,h1⟩=>by
    rw [hF.mem]
    rcases hall t h0 h1 with a|a|⟨o,ho,_⟩|⟨g,hg,a⟩
    ·exact .inl a
    ·rw [f1];exact .inr a
    ·rw [hpe] at ho;cases ho
    ·have:=(hfd g hg).2.2.1;omega⟩
   have hrc:(rxX (BJ s) f.seg).rcvd=true:=by rw [hF.rcvd];exact (hI'.full hp).2 hful
   have z3:=z2
   rw [y2] at z3
   have hd:=(Hm q1.gr.lost.1 z3).2
   rw [q1.rr] at hd
   have hrf:(rxX (BJ s) f.seg).rep.frames=KB s.now s.rep.sent (Bn s.rcv f.seg) (CE s p.c.rng).1 s.rep.frames:=by rw [y2];rfl
   refine .inr (.inl ⟨by rw [hF.snd];exact h.st,by rw [hF.snd];exact h.ser,by rw [hF.snd];exact h.bu,hrc,?_,by rw [hF.now];omega,by rw [hF.pend];exact hpe,by rw [hF.kno];exact h.kn,fun g hg t h0 h1 => ?_,⟨⟨s.now+p.c.rng,s.rep.sent,Bn s.rcv f.seg⟩,?_,?_,by show s.now+_=_;omega⟩⟩)
   ·rw [hF.arr,if_pos ⟨h.rc,hrc⟩,hnow]
   ·rw [hrf,h.rp] at hg
    rcases CA.1 hg with hg|⟨d,hdd,rfl⟩
    ·cases hg
    ·rw [hF.cl];exact (hful t).2 ⟨h0,h1⟩
   ·rw [hrf];exact CA.2 (.inr ⟨_,hd,rfl⟩)
   ·show f.seg.ser=1;rw [f1];exact h.hck.2.1
 |ls _ f l q1 q2 q3 q4 q5 q6=>rw [h.rp] at q4;cases q4
 |ex _ q1 q2 q3 q4 q5=>
  have hdu:=(q1.due h.st).2
  have hlt:s.now≤B+p.c.rng:=by
   rcases h.ex with ⟨o,ho,a⟩|⟨⟨g,hg,a⟩,b⟩
   ·have h1:=(h.pn o ho).2 (by rw [a];exact h.hck.1)
    have h2:=(q1.pd o ho).2.1
    omega
   ·have:=(q1.fd g hg).2.2.1
    omega
  cases q5 with
  |same _=>exact .inl ⟨ck,h⟩
  |fail a1 a2 a3=>omega
  |send a1 a2 a3 a4=>omega
theorem QB.mic {p:Par} {s s':Ses} {B:Int} (hp:POk p) (h:QB p B s) (m:Mic p s s'):Q p B s':=by
 have hr:=hp.rng
 have hI':=m.inv hp
 have hbu:=h.bu
 obtain ⟨g,hg,g1,g2⟩:=h.ex
 cases m with
 |time t q1 q2 q3 q4 q5 q6=>
  have hlt:=(Wt.nx hp ⟨q1,q2,q3,q4,q5⟩ q6).1
  exact .inr (.inl {h with nw:=by have:=h.nw;simp only;omega})
 |tx o l q1 q2 q3=>rw [h.pn] at q2;cases q2
 |rx f l q1 q2 q3 q4=>
  have hF:=q1.P8 hp q3 q4
  have hrc:=hF.mono h.rc
  have hful:=(hI'.full hp).1 (by rw [← hF.rcvd];exact hrc)
  refine .inr (.inl ⟨by rw [hF.snd];exact h.st,by rw [hF.snd];exact h.ser,by rw [hF.snd];exact h.bu,hrc,?_,by rw [hF.now];exact h.nw,by rw [hF.pend];exact h.pn,by rw [hF.kno];exact h.kn,?_,?_⟩)
  ·rw [hF.arr,if_neg (by rw [h.rc];simp)];exact h.ar
  ·cases hc:f.seg.chk with
   |false=>rw [(hF.no hc).1];exact h.wh
   |true=>
    rw [(hF.yes hc).2.1]
    intro x hx t h0 h1
    rcases DN hx with hx|⟨d,hd,rfl⟩
    ·exact h.wh x hx t h0 h1
    ·rw [hF.cl];exact (hful t).2 ⟨h0,h1⟩
  ·cases hc:f.seg.chk with
   |false=>rw [(hF.no hc).1];exact ⟨g,hg,g1,g2⟩
   |true=>rw [(hF.yes hc).2.1];exact ⟨g,CA.2 (.inl hg),g1,g2⟩
 |ls _ f l q1 q2 q3 q4 q5 q6=>
  obtain ⟨f1,f2,f3,f4,f5⟩:=q1.fr f (by rw [q4];simp)
  have hfw:=h.wh f (by rw [q4];simp)
  obtain ⟨hQ,hack⟩:=q1.sn.ack hp f1
  have hcm:complete (Az s.snd f.seg)=true:=Wy hp hQ fun t h0 h1=>(hack t).2 (.inr (hfw t h0 h1))
  have hnow:=(q1.fr g hg).2.2.1
  have hl:(BZ s).rep.frames=l:=by simp [BZ,q4]
  have hnw:=h.nw
  cases q6 with
  |busy a1=>have:s.now<s.snd.busy:=a1;omega
  |same a1 a2=>
   have a2:s.snd.st≠1∨f.seg.ser≠s.snd.ser:=a2
   have h1:=h.st;have h2:=h.ser
   have hfg:g≠f:=by rintro rfl;omega
   rw [q4] at hg
   refine .inr (.inl ⟨h.st,h.ser,h.bu,h.rc,h.ar,h.nw,h.pn,h.kn,by rw [hl];exact fun x hx=>h.wh x (by rw [q4];simp [hx]),⟨g,?_,g1,g2⟩⟩)
   rw [hl]
   rcases List.mem_cons.1 hg with e|hg
   ·exact (hfg e).elim
   ·exact hg
  |done a1 a2 a3 a4=>
   have:=f5 a3
   exact .inr (.inr ⟨rfl,h.bu,h.rc,h.ar,rfl,by show s.now=_;omega⟩)
  |fail a1 a2 a3 a4 a5=>
   have a4:complete (Az s.snd f.seg)=false:=a4
   rw [hcm] at a4;cases a4
  |send a1 a2 a3 a4 a5=>
   have a4:complete (Az s.snd f.seg)=false:=a4
   rw [hcm] at a4;cases a4
 |ex _ q1 q2 q3 q4 q5=>
  have hdu:=(q1.due h.st).2
  have hnow:=(q1.fr g hg).2.2.1
  cases q5 with
  |same _=>exact .inr (.inl h)
  |fail a1 a2 a3=>omega
  |send a1 a2 a3 a4=>omega
theorem QC.mic {p:Par} {s s':Ses} {B:Int} (hp:POk p) (h:QC p B s) (m:Mic p s s'):Q p B s':=by
 cases m with
 |time t q1 q2 q3 q4 q5 q6=>exact .inr (.inr {h with})
 |tx o l q1 q2 q3=>exact .inr (.inr {h with})
 |rx f l q1 q2 q3 q4=>
  have hF:=q1.P8 hp q3 q4
  exact .inr (.inr ⟨by rw [hF.snd];exact h.st,by rw [hF.snd];exact h.bu,hF.mono h.rc,by rw [hF.arr,if_neg (by rw [h.rc];simp)];exact h.ar,by rw [hF.kno];exact h.kn,by rw [hF.knoAt];exact h.ka⟩)
 |ls _ f l q1 q2 q3 q4 q5 q6=>
  have hst:=h.st
  cases q6 with
  |busy a1=>exact .inr (.inr ⟨h.st,h.bu,h.rc,h.ar,h.kn,h.ka⟩)
  |same a1 a2=>exact .inr (.inr ⟨h.st,h.bu,h.rc,h.ar,h.kn,h.ka⟩)
  |done a1 a2 a3 a4=>have:s.snd.st=1:=a2;omega
  |fail a1 a2 a3 a4 a5=>have:s.snd.st=1:=a2;omega
  |send a1 a2 a3 a4 a5=>have:s.snd.st=1:=a2;omega
 |ex _ q1 q2 q3 q4 q5=>
  have hst:=h.st
  cases q5 with
  |same _=>exact .inr (.inr h)
  |fail a1 a2 a3=>omega
  |send a1 a2 a3 a4=>omega
theorem Q.mic {p:Par} {s s':Ses} {B:Int} (hp:POk p) (h:Q p B s) (m:Mic p s s') (z1:s'.dat.lost=0) (z2:s'.rep.lost=0):Q p B s':=by
 rcases h with ⟨ck,h⟩|h|h
 ·exact h.mic hp m z1 z2
 ·exact h.mic hp m
 ·exact h.mic hp m
theorem q_ini {p:Par} (hp:POk p) (h:(A7 p.c 0 p.d p.b p.e).2.2=0):Q p (D8 p).snd.busy (D8 p):=by
 obtain ⟨hB,he,e1,e2⟩:=I2 hp h
 have hr:=hp.rng
 have hd:=hp.sz
 obtain ⟨pre,ck,b1,b2,b3,b4,b5,b6,b7,b8⟩:=VH (d:=p.d) ⟨by omega,by omega⟩
 have ee1:(D8 p).pend=Ar p.c.rate p.b (BC 0 1 p.d (AK p.d)):=e2
 have ee2:(D8 p).snd=Aw (BE p.c 0 p.d p.e) (AZ p.c.rate p.b (BC 0 1 p.d (AK p.d))) 1:=e1
 have ee3:(D8 p).snd.busy=AZ p.c.rate p.b (BC 0 1 p.d (AK p.d)):=by rw [ee2];rfl
 have eo:(D8 p).pend=Ar p.c.rate p.b pre++[⟨AZ p.c.rate p.b (BC 0 1 p.d (AK p.d)),ck⟩]:=by rw [ee1,b1,Ct]
 have ht:=(hB.pc ck (by rw [b1];simp)).B6 (r:=p.c.rate) ⟨by omega,by omega⟩
 have hend:AZ p.c.rate p.b (BC 0 1 p.d (AK p.d))=AZ p.c.rate p.b pre+B6 p.c.rate ck:=by rw [b1,Fv]
 have hpre:∀o∈Ar p.c.rate p.b pre,o.at_≤AZ p.c.rate p.b pre∧o.seg∈pre:=fun o ho=>by
  have:=(Fs (r:=p.c.rate) pre p.b fun x hx=>((hB.pc x (by rw [b1];simp [hx])).B6 ⟨by omega,by omega⟩).2).2.1 o ho
  exact ⟨this.2.1,this.2.2⟩
 rw [ee3]
 refine .inl ⟨ck,⟨by rw [ee2];rfl,by rw [ee2];rfl,ee3,⟨b2,b3,b4,b5,b6⟩,fun t h0 h1 => ?_,fun t ht=>⟨fun f=>f.elim,fun o ho hc hcv => ?_,fun f hf=>by cases hf⟩,fun o ho => ?_,(fun f hf=>by cases hf),.inl ⟨_,by rw [eo];simp;right;rfl,rfl⟩,rfl,rfl,rfl⟩⟩
 ·rcases b8 t h0 h1 with a|⟨y,hy,a⟩
  ·exact .inr (.inl a)
  ·have:y∈(Ar p.c.rate p.b pre).map Out.seg:=by rw [EH];exact hy
   obtain ⟨o,ho,rfl⟩:=List.mem_map.1 this
   exact .inr (.inr (.inl ⟨o,by rw [eo];simp [ho],(b7 _ hy).1,a⟩))
 ·rw [eo] at ho
  rcases List.mem_append.1 ho with ho|ho
  ·have:=(b7 _ (hpre o ho).2).2
   unfold cov at ht hcv
   omega
  ·rw [List.mem_singleton] at ho
   subst ho
   rw [b2] at hc
   cases hc
 ·rw [eo] at ho
  rcases List.mem_append.1 ho with ho|ho
  ·obtain ⟨k1,k2⟩:=hpre o ho
   have:=(b7 _ k2).1
   exact ⟨fun _=>by omega,fun q=>by rw [this] at q;cases q⟩
  ·rw [List.mem_singleton] at ho
   subst ho
   exact ⟨fun q=>(by rw [b2] at q;cases q),fun _=>⟨rfl,rfl⟩⟩
theorem q_fin {p:Par} (hp:POk p) (h:(A7 p.c 0 p.d p.b p.e).2.2=0) (z1:(Bj p).dat.lost=0) (z2:(Bj p).rep.lost=0):QC p (D8 p).snd.busy (Bj p):=by
 obtain ⟨f1,f2,f3⟩:=KO hp h
 have:=f1.ind (fun s=>s.dat.lost=0→s.rep.lost=0→Q p (D8 p).snd.busy s) (fun _ _=>q_ini hp h) fun s s' k m a b=>by
  obtain ⟨c1,c2⟩:=m.lost hp a b
  exact (k c1 c2).mic hp m a b
 have hn:=(Qd f3).2.2.2
 rcases this z1 z2 with ⟨ck,k⟩|k|k
 ·exact (hn k.st).elim
 ·exact (hn k.st).elim
 ·exact k
end Ab
set_option linter.unusedVariables false
set_option linter.unusedSimpArgs false
namespace Ab
open Go
def tk (r n:Int):Int:=(n+7+r) / r
def Pv (r:Int):List Int→Int
 |[]=>0
 |x::l=>tk r x+Pv r l
def DP (r n:Int):Int:=(n / 16)*tk r 16+if 0<n % 16 then tk r (n % 16) else 0
theorem Q6 {d:ByteArray} {r:Int} (hr:1≤r∧r≤1000):∀(l:List Seg) (t:Int),(∀x∈l,Ke d x)→AZ r t l=t+Pv r (l.map fun x=>(x.data.size:Int))
 |[],t,h=>by simp [AZ,Pv]
 |x::l,t,h=>by
  have h1:=((h x (by simp)).B6 hr).1
  simp only [AZ,List.map_cons,Pv]
  rw [Q6 hr l _ fun y hy=>h y (by simp [hy]),h1]
  unfold tk
  omega
theorem OE {r:Int}:∀(k:Nat) (a b:Int),(b-a).toNat≤k→0≤a→a≤b→a % 16=0→Pv r ((cut a b).map fun q=>q.2-q.1)=DP r (b-a)∧((cut a b).length:Int)=(b-a+15) / 16
 |k,a,b,hk,h0,h1,h2=>by
  by_cases hq:a<b
  ·rw [E2 hq]
   by_cases hc:a+16<b
   ·have e:D2 a b=a+16:=by
     unfold D2
     rw [show (a / 16+1)*16=a+16 by omega,if_pos hc]
    cases k with
    |zero=>omega
    |succ k=>
     obtain ⟨i1,i2⟩:=OE (r:=r) k (a+16) b (by omega) (by omega) (by omega) (by omega)
     rw [e]
     simp only [List.map_cons,Pv,List.length_cons]
     rw [i1]
     refine ⟨?_,by omega⟩
     unfold DP
     rw [show (b-a) / 16=(b-(a+16)) / 16+1 by omega,show (b-a) % 16=(b-(a+16)) % 16 by omega,Int.add_mul,show a+16-a=16 by omega]
     omega
   ·have e:D2 a b=b:=by
     unfold D2
     rw [show (a / 16+1)*16=a+16 by omega,if_neg hc]
    rw [e,E3 (by omega)]
    simp only [List.map_cons,List.map_nil,Pv,List.length_cons,List.length_nil]
    refine ⟨?_,by omega⟩
    unfold DP
    by_cases h16:b-a=16
    ·rw [h16];simp
    ·rw [show (b-a) / 16=0 by omega,show (b-a) % 16=b-a by omega,if_pos (by omega)];omega
  ·have:b-a=0:=by omega
   rw [E3 hq,this]
   simp [Pv,DP]
theorem R9 (ser:Int) (l:List Seg):(DH ser l).map (fun x=>(x.data.size:Int))=l.map fun x=>(x.data.size:Int):=by
 cases h:l.getLast? with
 |none=>rw [List.getLast?_eq_none_iff.1 h];rfl
 |some x=>
  obtain ⟨pre,rfl⟩:∃pre,l=pre++[x]:=by
   cases l with
   |nil=>cases h
   |cons y l=>
    have:=List.dropLast_concat_getLast (List.cons_ne_nil y l)
    rw [List.getLast?_eq_some_getLast (List.cons_ne_nil y l),Option.some.injEq] at h
    rw [h] at this
    exact ⟨_,this.symm⟩
  rw [Dm]
  simp
theorem RN {d:ByteArray} {r t:Int} (hr:1≤r∧r≤1000) (hd:1≤d.size∧d.size≤65536):AZ r t (BC 0 1 d (AK d))=t+DP r d.size∧((BC 0 1 d (AK d)).length:Int)=((d.size:Int)+15) / 16:=by
 have hb:=E6 (ses:=0) (d:=d) ⟨by omega,by omega⟩ hd
 have hB:=batP hb
 have hw:CD d 0 (AK d)=(cut 0 d.size).map (raw d 0):=by simp [CD,AK]
 obtain ⟨c1,c2⟩:=OE (r:=r) _ 0 (d.size:Int) (Nat.le_refl _) (Int.le_refl _) (by omega) (by omega)
 have hm:=E4 _ 0 (d.size:Int) (Nat.le_refl _)
 have hsz:(BC 0 1 d (AK d)).map (fun x=>(x.data.size:Int))=(cut 0 d.size).map fun q=>q.2-q.1:=by
  unfold BC
  rw [if_pos hb,R9,hw,List.map_map]
  refine List.map_congr_left fun q hq => ?_
  have:=hm q hq
  simp only [Function.comp,raw,ByteArray.size_extract]
  omega
 refine ⟨?_,?_⟩
 ·rw [Q6 hr _ _ hB.pc,hsz,c1];simp
 ·have:=congrArg List.length hsz
  simp only [List.length_map] at this
  rw [this,c2];simp
theorem Mm {s:Ses} {R:Int} (h1:s.picks=[]) (h2:s.dark=[]):CE s R=([R],s.dist):=by
 unfold CE
 rw [h1,h2]
 simp [NU,AO]
structure Qt (m:Nat) (s:Ses):Prop where
 a:s.sent.length+s.pend.length=m
 b:s.told.length+s.dat.frames.countP (fun f=>f.seg.chk)+s.pend.countP (fun o=>o.seg.chk)=1
 z1:s.dat.lost=0
 z2:s.rep.lost=0
theorem MG {c:CC} {t:Int} {x:Seg}:(Bi c t x [c.rng]).lost=c.lost:=by simp [Bi,HB]
theorem Q.once {p:Par} {B:Int} {s:Ses} (h:Q p B s) (h1:s.snd.st=1):s.snd.ser=1:=by
 rcases h with ⟨ck,h⟩|h|h
 ·exact h.ser
 ·exact h.ser
 ·have:=h.st;omega
theorem Qt.mic {p:Par} {s s':Ses} {B:Int} {m:Nat} (hp:POk p) (e1:p.ps=[]) (e2:p.dk=[]) (h:Qt m s∧Q p B s) (mi:Mic p s s'):Qt m s'∧Q p B s':=by
 obtain ⟨⟨a,b,z1,z2⟩,hq⟩:=h
 have hI:=mi.inv hp
 cases mi with
 |time t q1 q2 q3 q4 q5 q6=>exact ⟨⟨a,b,z1,z2⟩,hq.mic hp (.time s t q1 q2 q3 q4 q5 q6) z1 z2⟩
 |tx o l q1 q2 q3=>
  have hd:CE s s.dat.rng=([s.dat.rng],s.dist):=Mm (by rw [q1.ps,e1]) (by rw [q1.dk,e2])
  have y1:({Cv s o.seg with pend:=l}:Ses).dat.lost=0:=by
   simp only [Cv,hd,MG,z1]
  refine ⟨⟨?_,?_,y1,z2⟩,hq.mic hp (.tx s o l q1 q2 q3) y1 z2⟩
  ·rw [q2] at a
   simp only [Cv,List.length_append,List.length_cons,List.length_nil] at a ⊢
   omega
  ·rw [q2] at b
   simp only [Cv,hd,Bi,G6,List.countP_cons,List.length_cons,List.length_nil] at b ⊢
   split at b<;>split<;>simp_all<;>omega
 |rx f l q1 q2 q3 q4=>
  have hF:=q1.P8 hp q3 q4
  have hd:CE s p.c.rng=([p.c.rng],s.dist):=Mm (by rw [q1.ps,e1]) (by rw [q1.dk,e2])
  have y1:(rxX (BJ s) f.seg).dat.lost=0:=by rw [hF.dat];exact z1
  have y2:(rxX (BJ s) f.seg).rep.lost=0:=by
   cases hc:f.seg.chk with
   |false=>rw [(hF.no hc).1];exact z2
   |true=>rw [(hF.yes hc).2.1,hd,← q1.rr];simp only [MG];exact z2
  refine ⟨⟨by rw [hF.sent,hF.pend];exact a,?_,y1,y2⟩,hq.mic hp (.rx s f l q1 q2 q3 q4) y1 y2⟩
  rw [hF.pend,hF.dat]
  rw [q3] at b
  simp only [List.countP_cons] at b
  cases hc:f.seg.chk with
  |false=>rw [(hF.no hc).2.1];simp only [hc] at b ⊢;simpa using b
  |true=>
   rw [(hF.yes hc).2.2.1]
   simp only [hc,if_true,List.length_append,List.length_cons,List.length_nil] at b ⊢
   omega
 |ls _ f l q1 q2 q3 q4 q5 q6=>
  have hQ:∀y1 y2,Q p B s':=fun y1 y2=>hq.mic hp (.ls s s' f l q1 q2 q3 q4 q5 q6) y1 y2
  cases q6 with
  |busy a1=>exact ⟨⟨a,b,z1,z2⟩,hQ z1 z2⟩
  |same a1 a2=>exact ⟨⟨a,b,z1,z2⟩,hQ z1 z2⟩
  |done a1 a2 a3 a4=>exact ⟨⟨a,b,z1,z2⟩,hQ z1 z2⟩
  |fail a1 a2 a3 a4 a5=>exact ⟨⟨a,b,z1,z2⟩,hQ z1 z2⟩
  |send a1 a2 a3 a4 a5=>
   have h1:s.snd.ser=1:=hq.once a2
   have h2:s.snd.ser+1=1:=(hQ z1 z2).once rfl
   omega
 |ex _ q1 q2 q3 q4 q5=>
  have hQ:∀y1 y2,Q p B s':=fun y1 y2=>hq.mic hp (.ex s s' q1 q2 q3 q4 q5) y1 y2
  cases q5 with
  |same a1=>exact ⟨⟨a,b,z1,z2⟩,hQ z1 z2⟩
  |fail a1 a2 a3=>exact ⟨⟨a,b,z1,z2⟩,hQ z1 z2⟩
  |send a1 a2 a3 a4=>
   have h1:s.snd.ser=1:=hq.once a1
   have h2:s.snd.ser+1=1:=(hQ z1 z2).once rfl
   omega
end Ab
