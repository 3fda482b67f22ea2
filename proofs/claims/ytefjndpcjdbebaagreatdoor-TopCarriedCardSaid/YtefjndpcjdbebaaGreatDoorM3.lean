/- A part of the proof: see the last text. -/
import Derived.Test.YtefjndpcjdbebaaGreatDoorM2
import Derived.RangeFuncNested
import Derived.OpenShut
import Derived.RowKit
import Derived.ChangeSame
import Derived.WideShapes
import Derived.ChangeShapes
import Derived.Deep.Slices
import Derived.Below
import Derived.CallsIn
import Derived.Test.YtefjndpcjdbebaaGreatDoorProg
import Derived.Deep.LoopGhost
import Derived.Deep.WholeRow
import Derived.Laws.ResultCell
import Derived.WalkKit
import Derived.Lib.Walk
import Derived.Shelf.Strings.Builder1
import Derived.Lib.Builder
import Derived.KernelRfl
set_option linter.unusedVariables false
set_option linter.unusedSimpArgs false
open Array (eq_empty_of_size_eq_zero getElem?_push getElem?_push_lt getElem?_toList toArray_toList)
open Bool (and_eq_true false_eq_true not_eq_true' or_eq_true)
open Int (lt_irrefl natCast_nonneg tdiv tmod toNat toNat_natCast)
open List (all_cons all_eq_true append_nil drop drop_drop drop_eq_getElem_cons drop_zero ext_getElem? getElem?_append_left getElem?_append_right getElem?_cons_succ getElem?_drop getElem?_eq_getElem getElem?_eq_none getElem?_map getElem?_range getElem?_take getElem?_take_of_lt getElem_mem getElem_of_mem length length_cons length_map length_nil mapM_cons map_cons mem_append mem_append_left mem_cons mem_map mem_of_getElem? mem_range nodup_cons nodup_nil replicate take)
open Nat (add_assoc add_mul le_refl le_trans lt_or_ge ne_of_lt not_lt pos_of_ne_zero zero_add zero_le)
open Option (map_none map_some)
namespace Ab
open Go
variable {R:Type} {B:Nat→Prop} {κ:Ay} {h:Heap} {w:World} {N:Nat} {env:Env} {a:Act} {ro:Option Nat} {base:Nat}
theorem SL (hr:Rel B N κ env h a w) {w1:World} {l d:Nat} {fn f:FuncId} {params:Array Tmp} {assign body:Code} {LR:Ca} (hLR:LR={fn,size:=N,env,params:=params.toList,assign,body,busy:=false,pending:=none,ended:=false,hl:=h.length}) (h1:w1.os=w.os) (h2:w1.tape=w.tape) (h3:w1.output=w.output) (h4:w.heap.size≤w1.heap.size)
  (h5:∀b,b<w.heap.size→w1.heap[b]? = w.heap[b]?) (hl:w.heap.size≤l) (hl1:l<w1.heap.size) (hld:d≠l) (hd:w1.heap[d]? = some (.deferred (some []))) (hnd:¬Ex κ h d)
  (hlo:w1.heap[l]? = some (.loop {state :=.ready,pending:=none,fn:=f,tmps:=a.tmps,params,assign,body,defers:=d})) :
  Af B (κ++[some (l,d)]) (h++[.loop LR]) w1∧
  Ext κ h w (κ++[some (l,d)]) (h++[.loop LR]) w1:=by
 have x:Ext κ h w (κ++[some (l,d)]) (h++[.loop LR]) w1:=
  BP hr.heap h1 h2 h3 h4 h5 (fun b bs e=>by cases e;exact hl)
 refine ⟨BC hr.heap h5 x (fun b bs e=>by cases e;exact ⟨hl,hl1⟩) ?_,x⟩;subst hLR;refine ⟨f,a.tmps,?_,hr.size,fun i=>(hr.slot i).ext x,fun i=>(hr.slot i).refs,hd,?_⟩
 ·simpa using hlo
 ·rintro ⟨i,bs,o,k1,k2,k3⟩
  rcases Bh κ _ i k1 with ⟨_,k1⟩|⟨rfl,e⟩
  ·rcases Bh h _ i k2 with ⟨_,k2⟩|⟨rfl,e⟩
   ·exact hnd ⟨i,bs,o,k1,k2,k3⟩
   ·have:=AO k1;rw [hr.heap.len] at this;omega
  ·cases e;exact hld rfl
theorem K6 (hh:Af B κ h w) {i b d:Nat} {l l':Ca} (hi:h[i]? = some (.loop l)) (hk:κ[i]? = some (some (b,d))) (hrec:(AQ.loop l').rec? = (AQ.loop l).rec?) :
  ∃(f:FuncId) (tmps:Array Value) (r:Loop),w.heap[b]? = some (.loop r)∧r={state:=if l.ended then .exhausted else if l.busy then .busy else if l.pending.isSome then .done else .ready,pending:=l.pending,fn:=f,tmps,params:=l.params.toArray,assign:=l.assign,body:=l.body,defers:=d}∧
   tmps.size=l.size∧(∀j,AM B κ h w (l.env j) (tmps.getD j undef))∧w.heap[d]? = some (.deferred (some []))∧
   ∀(o:Obj),o = .loop {r with state:=if l'.ended then .exhausted else if l'.busy then .busy else if l'.pending.isSome then .done else .ready,pending:=l'.pending}→
    Af B κ (h.set i (.loop l')) (w.putObj b o)∧Ext κ h w κ (h.set i (.loop l')) (w.putObj b o):=by
 have ho:=hh.obj i _ _ hi hk;obtain ⟨f,tmps,h1,h2,h3,h4,h5,h6⟩:=ho;refine ⟨f,tmps,_,h1,rfl,h2,h3,h5,?_⟩;intro o ho;have hlt:=Cp h1;have hset:κ.set i (some (b,d))=κ:=by
  apply ext_getElem?;intro j;by_cases hij:j=i
  ·rw [hij,An hk,hk]
  ·rw [CY hij]
 have hne:∀b',b'<w.heap.size→(∀bs,(some (b,d):Option (Nat×Nat))≠some (b',bs))→(w.putObj b o).heap[b']? = w.heap[b']? :=fun b' _ hn=>World.putObj_heap_other fun e=>hn d (by rw [e]);have x:Ext κ h w κ (h.set i (.loop l')) (w.putObj b o):=by
  have x':Ext κ h w (κ.set i (some (b,d))) (h.set i (.loop l')) (w.putObj b o):=
   CH (o :=.loop l) (o' :=.loop l') (k:=some (b,d)) hh hi rfl ⟨rfl,le_refl _,fun _=>⟨rfl,rfl⟩,fun e=>(by cases e),fun e=>(by cases e),hrec⟩ hk rfl rfl rfl (by simp) hne (fun b' bs e =>.inl ⟨bs,e⟩)
    (fun _=>⟨rfl,fun b' bs e cells elem fr hc=>by cases e;rw [World.putObj_heap_same hlt] at hc;rw [ho] at hc;cases hc⟩)
  rw [hset] at x';exact x'
 refine ⟨?_,x⟩;have hbd:d≠b:=fun e=>by rw [e] at h5;rw [h1] at h5;cases h5
 have hre:=hrec;simp only [AQ.rec?,Option.some.injEq] at hre;have hr1:l'.size=l.size:=by have:=congrArg Ca.size hre;exact this
 have hr2:l'.env=l.env:=by have:=congrArg Ca.env hre;exact this
 have hr3:l'.params=l.params:=by have:=congrArg Ca.params hre;exact this
 have hr4:l'.assign=l.assign:=by have:=congrArg Ca.assign hre;exact this
 have hr5:l'.body=l.body:=by have:=congrArg Ca.body hre;exact this
 have hr6:l'.hl=l.hl:=by have:=congrArg Ca.hl hre;exact this
 have hh':Af B (κ.set i (some (b,d))) (h.set i (.loop l')) (w.putObj b o):=
  Bg hh hi hk hne (fun b' bs e=>⟨.inl ⟨bs,e⟩,by cases e;simpa using hlt⟩) (by rw [hset];exact x) (by
   rw [hset];refine ⟨f,tmps,?_,h2.trans hr1.symm,fun j=>by rw [hr2];exact (h3 j).ext x,fun j=>by rw [hr2,hr6];exact h4 j,(World.putObj_heap_other hbd).trans h5,fun he => ?_⟩
   ·rw [World.putObj_heap_same hlt,ho,hr3,hr4,hr5]
   ·rcases x.ex d he with y|y
    ·exact h6 y
    ·have:=Cp h5;omega)
 rw [hset] at hh';exact hh'
theorem take_set {α:Type} {l:List α} {m i:Nat} {x:α} (hi:m≤i):(l.set i x).take m=l.take m:=by
 apply ext_getElem?;intro j;rcases lt_or_ge j m with hj|hj
 ·rw [getElem?_take_of_lt hj,getElem?_take_of_lt hj,CY (by omega)]
 ·simp [getElem?_take,not_lt.2 hj]
theorem Ic:∀{xs ys:List Nat},xs.map mark=ys.map mark→xs=ys
 |[],[],_=>rfl
 |[],y::ys,h=>by simp at h
 |x::xs,[],h=>by simp at h
 |x::xs,y::ys,h=>by
  simp only [map_cons,List.cons.injEq] at h;have h1:x=y:=by have:=congrArg Deferred.target h.1;simpa [mark] using this
  rw [h1,Ic h.2]
theorem Ks {C:Cfg} {fn:FuncId} {rec:Rec} (hrec:DL C.P rec):Rk C fn N rec:=by
 intro R B ro base n f params assign body env h K r κ a w hk hs;split at hk
 ·rename_i g first captured hfv
  split at hk
  ·cases hk
  ·rename_i hent;have hent':enters C.P g=true:=by simpa using hent
   obtain ⟨LR,hLR⟩:∃LR:Ca,LR={fn,size:=N,env,params:=params.toList,assign,body,busy:=false,pending:=none,ended:=false,hl:=h.length}:=⟨_,rfl⟩
   rw [← hLR] at hk;have hcall:=hrec _ _ _ _ _ hk;dsimp only at hcall;have hval:=A2 hs.rel f;rw [hfv] at hval;generalize hav:a.eval f=fv at hval;cases hval with
   |func _ _ _ fs cs q1 q2 q3 q4=>
    have go:∀(fn0:FuncId) (l d:Nat) (mk:List Deferred) (w1:World),(Instr.enterLoop fn0 a.tmps params assign body ro).run C.P w = .ok (l,mk) w1→w1.os=w.os→w1.tape=w.tape→w1.output=w.output→w.heap.size≤w1.heap.size→
      (∀b,b<w.heap.size→w1.heap[b]? = w.heap[b]?)→w.heap.size≤l→l<w1.heap.size→d≠l→w1.heap[d]? = some (.deferred (some []))→¬Ex κ h d→
      w1.heap[l]? = some (.loop {state :=.ready,pending:=none,fn:=fn0,tmps:=a.tmps,params,assign,body,defers:=d})→
      (∀κ4 h4 w4,Ext κ h w κ4 h4 w4→w4.heap[d]? = some (.deferred (some []))→¬Ex κ4 h4 d→Marks base κ4 h4 w4 (mk++a.defers))→
      ∃(l:Nat) (mark:List Deferred) (w₁:World) (d:Deferred) (w₁':World) (f':FuncId) (args:Array Value) (w₂:World),
       (Instr.enterLoop fn0 a.tmps params assign body (Fr ro).round).run C.P w = .ok (l,mark) w₁∧
       (resolve a.eval (rangeCall f l) 0).run C.P w₁ = .ok d w₁'∧
       (∀f',Target.leads C.P w₁' d.target d.args=some f'→(Fr ro).fn f')∧
       (invoke d.target d.args).run C.P w₁' = .ok (.enter f' args) w₂∧
       ((Fr ro).depth.isSome=true→1≤n)∧
       CallsIn (Fr ro) (n-1) C.P f' args w₂ (rangePost (Fr ro) n C.P l (HO B N ro base κ env h w [] K r) {a with defers:=mark++a.defers}):=by
     intro fn0 l d mk w1 he o1 o2 o3 o4 o5 o6 o7 o8 o9 o10 o11 hmarks;obtain ⟨hh1,x1⟩:=SL hs.rel hLR o1 o2 o3 o4 o5 o6 o7 o8 o9 o10 o11;have hyl:AM B (κ++[some (l,d)]) (h++[.loop LR]) w1 (.yld h.length) (.func (.yield l) #[] #[]):=
      .yld _ l d (by rw [← hs.rel.heap.len];exact Ae κ _) ⟨_,Ae h _⟩
     have hc:AU B (κ++[some (l,d)]) (h++[.loop LR]) w1 (first++[.yld h.length]++captured) (fs ++ #[.func (.yield l) #[] #[]]++cs):=
      DC (DC ⟨q1,fun j x hx=>(q3 j x hx).ext x1⟩ ⟨rfl,fun j x hx=>by
       cases j with
       |zero=>cases hx;exact hyl
       |succ j=>simp at hx⟩) ⟨q2,fun j x hx=>(q4 j x hx).ext x1⟩
     have hcl:=hcall B _ w1 _ (n-1) hh1 hc;refine ⟨l,mk,w1,{target :=.fn (.func g) cs,args:=fs ++ #[.func (.yield l) #[] #[]]},w1,g,fs ++ #[.func (.yield l) #[] #[]]++cs,w1,he,?_,fun _ _=>trivial,?_,fun e=>(by simp [Fr] at e),?_⟩
     ·have e1:a.eval (.const (.func (.yield l) #[] #[]))= .func (.yield l) #[] #[]:=rfl;simp [resolve,hav,e1,Deferred.ofValue]
     ·simp [invoke,FY hent']
     ·refine (CallsIn.fr hcl).mono ?_
      rintro e w3 ⟨v,rv,κ3,rs,h2,rfl,hK,hm,hv,hh3,x3⟩
      obtain ⟨j,hj,hk2⟩:=bind_some hK;unfold QL at hj;split at hj
      ·rename_i l2 hl2;split at hj
       ·cases hj
       ·rename_i hbe;simp only [or_eq_true,not_or,Bool.not_eq_true] at hbe;cases hj;obtain ⟨k3,k1⟩:=AE hk2;have hk3:κ3[h.length]? = some (some (l,d)):=(x3.kap h.length _ _ (Ae h _) hl2 rfl).trans (by rw [← hs.rel.heap.len];exact Ae κ _);obtain ⟨f3,tmps3,r3,g1,g2,g3,g4,g5,g6⟩:=K6 (l':={l2 with ended:=true}) hh3 hl2 hk3 rfl;have hst:r3.state ≠ .busy:=by rw [g2,hbe.1,hbe.2];simp only [false_eq_true,if_false];split<;>simp
        have hpe:r3.pending=l2.pending:=by rw [g2]
        obtain ⟨hh4,x4⟩:=g6 (.loop {r3 with state :=.exhausted}) (by rw [g2];simp);have x5:=(x1.trans x3).trans x4;have htk:(h2.set h.length (.loop {l2 with ended:=true})).take h.length=h2.take h.length:=take_set (le_refl _);have x6:=x5.DQ (m:=h.length) (le_refl _);rw [htk] at x6;have hh6:=hh4.DQ (m:=h.length) (by rw [htk];exact k3);rw [htk] at hh6;have hlo4:=hh4.obj h.length _ _ (An hl2) hk3;obtain ⟨_,_,_,_,_,_,d1,d2⟩:=hlo4;have hst6:St B N ro base (κ3.take h.length) env (h2.take h.length) {a with defers:=mk++a.defers} (w3.putObj l (.loop {r3 with state :=.exhausted})):=by
         refine ⟨⟨hh6,hs.rel.size,fun i => ?_⟩,hmarks _ _ _ x6 d1 fun he=>d2 ?_,hs.round.ext x6,le_trans hs.bsz x6.size⟩
         ·have:=((hs.rel.slot i).ext x5).DQ (m:=h.length) (hs.rel.slot i).refs;rw [htk] at this;exact this
         ·rw [← htk] at he;exact he.take
        refine ⟨l2.pending,w3.putObj l (.loop {r3 with state :=.exhausted}),(run_endLoop g1 hst).trans (congrArg (fun z=>Result.ok z (w3.putObj l (.loop {r3 with state :=.exhausted}))) hpe),?_⟩;cases hpd:l2.pending with
        |none=>
         rw [hpd] at k1;exact ⟨_,_,_,k1,hst6,x6,fun _ _=>rfl⟩
        |some c=>
         rw [hpd] at k1;obtain ⟨e,he2,k1⟩:=bind_some k1;cases c<;>simp only [QW] at he2<;>first|cases he2|skip
         ·exact wpIn_exit ⟨_,_,_,k1,hst6,x6,fun _ _=>rfl⟩
         ·exact wpIn_ret ⟨_,_,_,k1,hst6,x6,fun _ _=>rfl⟩
      ·cases hj
    refine wpIn_rangeFunc fun fn0 _ => ?_;cases ro with
    |none=>
     refine go fn0 (w.heap.size+1) w.heap.size _ _ (run_enterLoop_outer fn0 a.tmps params assign body) rfl rfl rfl (by simp [World.size_alloc];omega) (fun b hb => ?_) (by omega) (by simp [World.size_alloc]) (by omega) ?_ ?_ ?_ ?_
     ·rw [Ag _ _ (by simp;omega),Ag _ _ hb]
     ·rw [Ag _ _ (by simp)];exact World.alloc_heap_new _ _
     ·rintro ⟨i,bs,o,y1,y2,y3⟩
      have:=hs.rel.heap.lt i _ _ y1;omega
     ·have:=World.alloc_heap_new (w.alloc (.deferred (some []))) (.loop {state :=.ready,pending:=none,fn:=fn0,tmps:=a.tmps,params:=params,assign:=assign,body:=body,defers:=w.heap.size});rw [World.size_alloc] at this;exact this
     ·intro κ4 h4 w4 x y1 y2;obtain ⟨rs4,z1,z2,z3⟩:=hs.marks.ext x;obtain ⟨rs5,z4,z5,z6⟩:=hs.marks;refine ⟨w.heap.size::rs5,by rw [z4];rfl,?_,fun q hq => ?_⟩
      ·refine nodup_cons.2 ⟨fun hm => ?_,z5⟩;have:=Cp (z6 _ hm).2.1;omega
      ·rcases mem_cons.1 hq with rfl|hq
       ·exact ⟨hs.bsz,y1,y2⟩
       ·have e:rs5=rs4:=by have e1:rs5.map mark=rs4.map mark:=z4.symm.trans z1;exact Ic e1
        rw [e] at hq;exact z3 q hq
    |some b0=>
     obtain ⟨i,d,l0,r1,r2⟩:=hs.round b0 rfl;obtain ⟨f0,t0,e1,e2,e3,e4,e5,e6⟩:=hs.rel.heap.obj i _ _ r2 r1;refine go fn0 w.heap.size d _ _ (run_enterLoop_inner e1 fn0 a.tmps params assign body) rfl rfl rfl (by simp [World.size_alloc]) (fun b hb => ?_) (le_refl _) (by simp [World.size_alloc]) ?_ ?_ e6 ?_ ?_
     ·exact Ag _ _ hb
     ·have:=Cp e5;omega
     ·rw [Ag _ _ (Cp e5)];exact e5
     ·exact World.alloc_heap_new _ _
     ·intro κ4 h4 w4 x _ _;exact hs.marks.ext x
 ·cases hk
end Ab
namespace Ab
open Go
variable {R:Type} {P:Program} {B:Nat→Prop} {κ:Ay} {h:Heap} {w:World} {N:Nat} {env:Env} {a:Act} {ro:Option Nat} {base:Nat}
theorem MO:∀(ps:List Tmp) (args:List AV) (us:List Value) (env:Env) (tmps:Array Value),args.length=ps.length→us.length=ps.length→(∀t∈ps,t<tmps.size)→(∀j x,args[j]? = some x→AM B κ h w x (us.getD j undef))→
  (∀i,AM B κ h w (env i) (tmps.getD i undef))→((ps.zip us).foldl (fun (tmps:Array Value) (p:Tmp×Value)=>tmps.setIfInBounds p.1 p.2) tmps).size=tmps.size∧∀i,AM B κ h w (Kv env ps args i) (((ps.zip us).foldl (fun (tmps:Array Value) (p:Tmp×Value)=>tmps.setIfInBounds p.1 p.2) tmps).getD i undef)
 |[],[],[],env,tmps,_,_,_,_,hv=>⟨rfl,hv⟩
 |[],x::args,us,env,tmps,h1,_,_,_,_=>by simp at h1
 |[],[],u::us,env,tmps,_,h2,_,_,_=>by simp at h2
 |p::ps,[],us,env,tmps,h1,_,_,_,_=>by simp at h1
 |p::ps,x::args,[],env,tmps,_,h2,_,_,_=>by simp at h2
 |p::ps,x::args,u::us,env,tmps,h1,h2,hlt,ha,hv=>by
  have hp:p<tmps.size:=hlt p (by simp);obtain ⟨e1,e2⟩:=MO ps args us (env.put (some p) x) (tmps.setIfInBounds p u) (by simpa using h1) (by simpa using h2) (fun t ht=>by simpa using hlt t (by simp [ht]))
   (fun j y hy=>by simpa using ha (j+1) y (by simpa using hy)) (fun i=>by
    simp only [Env.put];by_cases hi:i=p
    ·subst hi;rw [if_pos rfl];have:(tmps.setIfInBounds i u).getD i undef=u:=by simp [Array.getD,hp]
     rw [this];simpa using ha 0 x rfl
    ·rw [if_neg hi];have:(tmps.setIfInBounds p u).getD i undef=tmps.getD i undef:=by simp only [Array.getD_eq_getD_getElem?];rw [Array.getElem?_setIfInBounds_ne (Ne.symm hi)]
     rw [this];exact hv i)
  refine ⟨by simpa using e1,fun i => ?_⟩;simpa [Kv] using e2 i
theorem Kh {i:Nat} {l:Ca} (hi:h[i]? = some (.loop l)) (bz:Bool) (pd:Option Code):FX h i bz pd=h.set i (.loop {l with busy:=bz,pending:=pd}):=by unfold FX;rw [hi]
theorem MT {i:Nat} (ho:NO h i=true):∃l,h[i]? = some (.loop l)∧l.ended=false:=by
 unfold NO at ho;split at ho
 ·rename_i l hl;exact ⟨l,hl,by simpa using ho⟩
 ·cases ho
theorem P6 {i:Nat} (ho:NJ h i=true):∃l,h[i]? = some (.loop l)∧l.ended=false∧l.busy=false∧l.pending=none:=by
 unfold NJ at ho;split at ho
 ·rename_i l hl;simp only [and_eq_true,not_eq_true',Option.isNone_iff_eq_none] at ho;exact ⟨l,hl,ho.1.1,ho.1.2,ho.2⟩
 ·cases ho
theorem JY {i b d:Nat} (hh:Af B κ h w) (ho:NO h i=true) (hk:κ[i]? = some (some (b,d))) (jump:Option Code) :
  ∃w',(Instr.endRound b jump).run P w = .ok (.bool jump.isNone) w'∧Af B κ (FX h i false jump) w'∧Ext κ h w κ (FX h i false jump) w':=by
 obtain ⟨l,hl,he⟩:=MT ho;obtain ⟨f3,tmps3,r3,g1,g2,g3,g4,g5,g6⟩:=K6 (l':={l with busy:=false,pending:=jump}) hh hl hk rfl;obtain ⟨hh4,x4⟩:=g6 (.loop {r3 with state:=if jump.isNone then .ready else .done,pending:=jump}) (by cases jump<;>simp [he])
 rw [Kh hl];exact ⟨_,run_endRound jump g1,hh4,x4⟩
theorem TZ {C:Cfg} {rec:Rec} {pc:A4} (hrec:DL C.P rec) (hpc:Bn C.P pc) (hmix:C.P.follows .mixedOrders=true) {m i:Nat} {args:List AV} {K:List AV→Heap→Option R} {res:R} (hk:P1 C rec pc m i args h K=some res):Ri C.P i args h K res:=by
 intro B κ w vs b d n hh hc hki;unfold P1 at hk
 try simp only [AD] at hk
 split at hk
 ·rename_i l hi;obtain ⟨⟨hb,he,hp,hal,hpl⟩,hk1⟩:=AE hk;obtain ⟨f,tmps,h1,h2,h3,h4,h5,h6⟩:=hh.obj i _ _ hi hki;have hpn:l.pending=none:=by simpa using hp
  have h1':w.heap[b]? = some (.loop {state :=.ready,pending:=none,fn:=f,tmps,params:=l.params.toArray,assign:=l.assign,body:=l.body,defers:=d}):=by rw [h1,he,hb,hpn];rfl
  have hsz:vs.size=l.params.length:=hc.1.trans hal;have hfold:(l.params.toArray.zip vs).foldl (fun tmps (t,a)=>tmps.setIfInBounds t a) tmps=(l.params.zip vs.toList).foldl (fun (tmps:Array Value) (p:Tmp×Value)=>tmps.setIfInBounds p.1 p.2) tmps:=by obtain ⟨us⟩:=vs;have e:l.params.toArray.zip ({toList:=us}:Array Value)=(l.params.zip us).toArray:=List.zip_toArray ..;rw [e];simp
  obtain ⟨p1,p2⟩:=MO l.params args vs.toList l.env tmps hal (by simpa using hsz) (fun t ht=>by
    rw [h2];have:=all_eq_true.1 hpl t ht;simpa using this) (fun j x hx=>by
    have:=hc.2 j x hx;rw [← toArray_toList (xs:=vs),BI] at this;exact this) h3
  refine ⟨f,_,l.assign,l.body,run_yield h1' (by simpa using hsz),?_⟩;rw [hfold];refine roundIn_of_wpIn trivial ?_;have hs:St B l.size (some b) w.heap.size κ (Kv l.env l.params args) h {tmps:=(l.params.zip vs.toList).foldl (fun (tmps:Array Value) (p:Tmp×Value)=>tmps.setIfInBounds p.1 p.2) tmps,defers:=[]} w:=
   ⟨⟨hh,p1.trans h2,p2⟩,⟨[],rfl,nodup_nil,fun r hr=>by simp at hr⟩,fun b' hb'=>by cases hb';exact ⟨i,d,l,hki,hi⟩,le_refl _⟩
  refine wpIn_mono (Lk (C:=C.at l.fn) hrec hpc hmix (Ks hrec) n l.assign hk1 hs) fun e a1 w1 hp1 => ?_;obtain ⟨env1,ha,κ1,j1,j2,j3,j4⟩:=hp1;cases e with
  |normal=>
   dsimp only at j1;obtain ⟨hrd,j1⟩:=AE j1;obtain ⟨l1,hl1,r1,r2,r3⟩:=P6 hrd;have hk1':κ1[i]? = some (some (b,d)):=(j3.kap i _ _ hi hl1 rfl).trans hki;obtain ⟨f3,tmps3,rr,g1,g2,g3,g4,g5,g6⟩:=K6 (l':={l1 with busy:=true,pending:=none}) j2.rel.heap hl1 hk1' rfl;obtain ⟨hh4,x4⟩:=g6 (.loop {rr with state :=.busy}) (by rw [g2];simp [r1,r3]);rw [Kh hl1] at j1;refine ⟨_,run_beginRound g1 (by rw [g2];simp [r1,r2,r3]),?_⟩;have hs4:St B l.size (some b) w.heap.size κ1 env1 (ha.set i (.loop {l1 with busy:=true,pending:=none})) a1 (w1.putObj b (.loop {rr with state :=.busy})):=
    j2.next ⟨hh4,j2.rel.size,fun j=>(j2.rel.slot j).ext x4⟩ x4 rfl
   refine wpIn_mono (Lk (C:=C.at l.fn) hrec hpc hmix (Ks hrec) n l.body j1 hs4) fun e a2 w2 hp2 => ?_;obtain ⟨env2,hb2,κ2,q1,q2,q3,q4⟩:=hp2;obtain ⟨hop,q1⟩:=AE q1;obtain ⟨l5,hl5,_⟩:=MT hop;have hk2':κ2[i]? = some (some (b,d)):=(q3.kap i _ _ (An hl1) hl5 rfl).trans hk1';cases e with
   |normal=>
    obtain ⟨w6,e1,e2,e3⟩:=JY (P:=C.P) q2.rel.heap hop hk2' none;exact ⟨_,w6,e1,_,κ2,_,_,rfl,q1,.t _ _ (.bool _),e2,((j3.trans x4).trans q3).trans e3⟩
   |ret=>
    obtain ⟨w6,e1,e2,e3⟩:=JY (P:=C.P) q2.rel.heap hop hk2' (some .ret);exact ⟨_,w6,e1,_,κ2,_,_,rfl,q1,.t _ _ (.bool _),e2,((j3.trans x4).trans q3).trans e3⟩
   |exit id=>
    obtain ⟨w6,e1,e2,e3⟩:=JY (P:=C.P) q2.rel.heap hop hk2' (some (.exit id));exact ⟨_,w6,e1,_,κ2,_,_,rfl,q1,.t _ _ (.bool _),e2,((j3.trans x4).trans q3).trans e3⟩
   |goto t=>cases q1
   |panic ch=>cases q1
   |outgrown=>cases q1
  |exit id=>cases j1
  |goto t=>cases j1
  |ret=>cases j1
  |panic ch=>cases j1
  |outgrown=>cases j1
 ·cases hk
structure Jn (w w':World):Prop where
 size:w'.heap.size=w.heap.size
 blk:∀(b:Nat) cells elem fr,w'.heap[b]? = some (.cells cells elem fr)↔w.heap[b]? = some (.cells cells elem fr)
 mp:∀(b:Nat) es clock,w.heap[b]? = some (.map es clock)→w'.heap[b]? = some (.map es clock)
theorem Jn.cell {w':World} (c:Jn w w') (x:Addr):w'.cell? x=w.cell? x:=by
 unfold World.cell?;cases h1:w'.heap[x.block]? with
 |none=>
  cases h2:w.heap[x.block]? with
  |none=>rfl
  |some o=>
   cases o with
   |cells cs e f=>rw [(c.blk _ cs e f).2 h2] at h1;cases h1
   |_=>rfl
 |some o=>
  cases o with
  |cells cs e f=>rw [(c.blk _ cs e f).1 h1]
  |_=>
   cases h2:w.heap[x.block]? with
   |none=>rfl
   |some o'=>
    cases o' with
    |cells cs e f=>rw [(c.blk _ cs e f).2 h2] at h1;cases h1
    |_=>rfl
theorem BH.H2 {w':World} (c:Jn w w') {A:Nat→Prop} {x:Tree} {v:Value} (hx:BH w A x v):BH w' A x v:=by
 induction hx with
 |int k n=>exact .int k n
 |bool b=>exact .bool b
 |str s=>exact .str s
 |const v h=>exact .const v h
 |mp k m b es clock h1 h2 h3 h4=>exact .mp k m b es clock (by rw [c.size];exact h1) h2 (c.mp _ _ _ h3) h4
 |nil size cap a=>exact .nil size cap a
 |sl size es b off cap u h1 h2 h3 h4 h5 _ ih=>exact .sl size es b off cap u h1 (by rw [c.size];exact h2) h3 h4 (fun j e cc x he hx=>(c.cell _).trans (h5 j e cc x he hx)) ih
theorem AM.H2 {w':World} (c:Jn w w') {x:AV} {v:Value} (hx:AM B κ h w x v):AM B κ h w' x v:=by
 induction hx with
 |undef v=>exact .undef v
 |t y v ht=>exact .t y v (ht.H2 c)
 |nilsl a=>exact .nilsl a
 |ptr i off b base hk hb=>exact .ptr _ _ _ _ hk hb
 |rptr i ver k off v h1 hex hv=>exact .rptr _ _ _ _ _ h1 hex hv
 |eptr size cells off b base u h1 h2 h3 h4 h5=>exact .eptr _ _ _ _ _ u h1 (by rw [c.size];exact h2) h3 (fun j y hy=>(c.cell _).trans (h4 j y hy)) fun j y hy=>(h5 j y hy).H2 c
 |sref i ver off len v h1 hex hs=>
  refine .sref _ _ _ _ _ h1 hex fun k o hk ho he => ?_;obtain ⟨e1,e2,e3⟩:=hs k o hk ho he;refine ⟨e1,e2,?_⟩;rcases e3 with e3|⟨b,bs,rfl,cap,f1,f2,f3⟩
  ·exact .inl e3
  ·exact .inr ⟨b,bs,rfl,cap,f1,f2,fun cells elem fr hc=>f3 cells elem fr ((c.blk _ _ _ _).1 hc)⟩
 |bsl i off len size cap b hk hb hl=>exact .bsl _ _ _ _ _ _ hk hb hl
 |yld i b base hk hb=>exact .yld _ _ _ hk hb
 |mref i b hk hb=>exact .mref _ _ hk hb
 |func fn first captured fs cs h1 h2 _ _ i1 i2=>exact .func _ _ _ _ _ h1 h2 i1 i2
 |agg xs vs h1 _ ih=>exact .agg _ _ h1 ih
 |tuple xs vs h1 _ ih=>exact .tuple _ _ h1 ih
def Qz (κ:Ay) (h:Heap) (r:Nat):Prop:=∀(i b d:Nat) (l:Ca),κ[i]? = some (some (b,d))→h[i]? = some (.loop l)→d≠r
theorem F9 {r:Nat} {x:Option (List Deferred)} {y:Option (List Deferred)} (hr:w.heap[r]? = some (.deferred x)):Jn w (w.putObj r (.deferred y)):=by
 refine ⟨by simp,fun b cells elem fr => ?_,fun b es clock h => ?_⟩;rotate_left
 ·by_cases hb:b=r
  ·subst hb;rw [hr] at h;cases h
  ·rw [World.putObj_heap_other hb];exact h
 by_cases hb:b=r
 ·subst hb;rw [World.putObj_heap_same (Cp hr),hr];simp
 ·rw [World.putObj_heap_other hb]
theorem R4 {r:Nat} {x y:Option (List Deferred)} (hh:Af B κ h w) (hr:w.heap[r]? = some (.deferred x)) (hn:Qz κ h r):Af B κ h (w.putObj r (.deferred y)):=by
 have c:Jn w (w.putObj r (.deferred y)):=F9 hr;refine ⟨hh.len,hh.inj,hh.notB,fun i b bs hi=>by rw [c.size];exact hh.lt i b bs hi,fun b hb=>by rw [c.size];exact hh.ltB b hb,fun i o k ho hk => ?_⟩;have hob:=hh.obj i o k ho hk;cases k with
 |none=>cases o<;>exact hob
 |some p=>
  obtain ⟨b,bs⟩:=p;cases o with
  |box cs=>
   obtain ⟨h0,cells,elem,hc,hs,hv⟩:=hob;exact ⟨h0,cells,elem,(c.blk _ _ _ _).2 hc,hs,fun j y hy=>(hv j y hy).H2 c⟩
  |row f v s es=>
   obtain ⟨hz,cells,elem,fr,hc,hth,hs,hl,hv⟩:=hob;exact ⟨hz,cells,elem,fr,(c.blk _ _ _ _).2 hc,hth,hs,hl,fun j e cc y he hy=>(hv j e cc y he hy).H2 c⟩
  |mapo k ke es=>
   obtain ⟨h0,en,clock,hc,hs⟩:=hob;exact ⟨h0,en,clock,c.mp _ _ _ hc,hs⟩
  |loop l=>
   obtain ⟨f,tmps,hc,hs,hv,hrf,hd,hnx⟩:=hob;have hbr:b≠r:=fun e=>by rw [e,hr] at hc;cases hc
   have hdr:bs≠r:=hn i b bs l hk ho;exact ⟨f,tmps,(World.putObj_heap_other hbr).trans hc,hs,fun j=>(hv j).H2 c,hrf,(World.putObj_heap_other hdr).trans hd,hnx⟩
theorem TR {κ':Ay} {h':Heap} {w':World} {r:Nat} {x y:Option (List Deferred)} (e:Ext κ h w κ' h' w') (hr:w'.heap[r]? = some (.deferred x)) (hb:w.heap.size≤r):Ext κ h w κ' h' (w'.putObj r (.deferred y)) where
 os:=e.os
 tape:=e.tape
 output:=e.output
 size:=by simpa using e.size
 keep:=fun b hlt hn=>(World.putObj_heap_other (by omega)).trans (e.keep b hlt hn)
 ex:=e.ex
 obj:=e.obj
 kap:=e.kap
 cells:=fun i o o' ho ho' hv b bs hk cells elem fr hc=>e.cells i o o' ho ho' hv b bs hk cells elem fr (((F9 (y:=y) hr).blk _ _ _ _).1 hc)
end Ab
namespace Ab
open Go
variable {R:Type} {P:Program} {B:Nat→Prop} {κ:Ay} {h:Heap} {w:World} {N:Nat} {env:Env} {a:Act} {ro:Option Nat} {base:Nat}
def Ta (tmps:Array Value):ResultVar→Sem Value
 | .tmp t=>pure (tmps.getD t undef)
 | .cell a t=>do loadVar t (← asAddr (tmps.getD a undef))
theorem P3 (fn:Func) (tmps:Array Value):results fn tmps=(do let vs ← fn.results.mapM (Ta tmps);pure (JM vs)):=rfl
theorem QI {t:TypeId} {v val:Value} (hl:(Instr.loadAt t v).run P w = .ok val w):(do loadVar t (← asAddr v):Sem Value).run P w = .ok val w:=by
 unfold Instr.loadAt at hl;cases v with
 |pointer p=>
  cases p with
  |some x=>exact hl
  |none=>simp [Instr.sureAddr] at hl
 |_=>simp [Instr.sureAddr] at hl
theorem P4 (hr:Rel B N κ env h a w):∀{rv:List ResultVar} {K:List AV→Option R} {r:R},P5 P env h rv K=some r→
  ∃(avs:List AV) (us:List Value),K avs=some r∧(rv.mapM (Ta a.tmps)).run P w = .ok us w∧AU B κ h w avs us.toArray
 |[],K,r,hk=>⟨[],[],hk,by simp,rfl,fun j x hx=>by simp at hx⟩
 | .tmp t::rv,K,r,hk=>by simp only [P5] at hk;obtain ⟨avs,us,h1,h2,h3⟩:=P4 hr hk;refine ⟨_,_::us,h1,?_,B6 (hr.slot t) h3⟩;simp only [mapM_cons,Ta,Sem.run_bind,Sem.run_pure,Result.andThen_ok,h2]
 | .cell x t::rv,K,r,hk=>by simp only [P5] at hk;obtain ⟨v,val,h4,h5,h6⟩:=PJ (P:=P) hk hr.heap (hr.slot x);obtain ⟨avs,us,h1,h2,h3⟩:=P4 hr h4;refine ⟨_,val::us,h1,?_,B6 h6 h3⟩;have h7:=QI h5;rw [mapM_cons,Sem.run_bind];have h8:(Ta a.tmps (.cell x t)).run P w = .ok val w:=h7;rw [h8,Result.andThen_ok,Sem.run_bind,h2,Result.andThen_ok,Sem.run_pure]
theorem OP {fn:Func} {tmps:Array Value} {us:List Value} (hm:(fn.results.toList.mapM (Ta tmps)).run P w = .ok us w):(results fn tmps).run P w = .ok (JM us.toArray) w:=by rw [P3,Array.mapM_eq_mapM_toList];simp only [Sem.run_bind,map_eq_pure_bind,hm,Result.andThen_ok,Sem.run_pure]
theorem Jw {fn:Func} {n:Nat} {κ0:Ay} {h0:Heap} {w0:World} {Q:Ending→World→Prop} (hb:w0.heap.size≤base)
  (fin:∀w,Rel B N κ env h a w→Ext κ0 h0 w0 κ h w→∃v,(results fn a.tmps).run P w = .ok v w∧Q (.returned v) w) :
  ∀(rs:List Nat) (w:World),rs.Nodup→(∀r∈rs,base≤r∧w.heap[r]? = some (.deferred (some []))∧Qz κ h r)→Rel B N κ env h a w→Ext κ0 h0 w0 κ h w→LeavesInM (Fr none) n P fn a.tmps Q (rs.map mark) .returning w
 |[],w,_,_,hr,hx=>fin w hr hx
 |r::rs,w,hnd,hall,hr,hx=>by obtain ⟨h1,h2,h3⟩:=hall r (by simp);refine ⟨by simp,.inl ⟨r,w.putObj r (.deferred none),rfl,run_takeDeferred h2,?_⟩⟩;refine Jw hb fin rs _ (nodup_cons.1 hnd).2 (fun q hq => ?_) ⟨R4 hr.heap h2 h3,hr.size,fun i=>(hr.slot i).H2 (F9 h2)⟩ (TR hx h2 (le_trans hb h1));obtain ⟨h4,h5,h6⟩:=hall q (by simp [hq]);have hne:q≠r:=fun e=>(nodup_cons.1 hnd).1 (e ▸ hq);exact ⟨h4,(World.putObj_heap_other hne).trans h5,h6⟩
theorem SF {κ':Ay} {h':Heap} {w':World} (hh:Af B κ h w) (x:Ext κ h w κ' h' w') (hd:(h'.drop h.length).all NT=true) {r:Nat} (hr:w.heap.size≤r):Qz κ' h' r:=by
 intro i b d l hk hi he;rcases lt_or_ge i h.length with hl|hl
 ·have hg:h[i]? = some h[i]:=getElem?_eq_getElem hl;obtain ⟨o',h1,h2⟩:=x.obj i _ hg;rw [hi] at h1;cases h1;have hkd:=h2.1;cases ho:h[i] with
  |box cs=>rw [ho] at hkd;cases hkd
  |row a b c d=>rw [ho] at hkd;cases hkd
  |mapo a b c=>rw [ho] at hkd;cases hkd
  |loop l0=>
   rw [ho] at hg;have hk0:=(x.kap i _ _ hg hi rfl).symm.trans hk;obtain ⟨_,_,_,_,_,_,h5,_⟩:=hh.obj i _ _ hg hk0;have:=Cp h5;omega
 ·have:(h'.drop h.length)[i-h.length]? = some (.loop l):=by rw [getElem?_drop,show h.length+(i-h.length)=i from by omega];exact hi
  have:=D1 hd this;cases this
theorem Uf {vs:Array Value} {avs:List AV} (hh:Af B κ h w) (hc:AU B κ h w avs vs) {M:Nat} (hM:avs.length≤M):Rel B M κ (fun i=>avs.getD i .undef) h {tmps:=vs++Array.replicate (M-vs.size) undef,defers:=[]} w:=by
 have hsz:=hc.1;refine ⟨hh,by simp;omega,fun i => ?_⟩;rcases lt_or_ge i avs.length with hi|hi
 ·have hg:avs[i]? = some avs[i]:=getElem?_eq_getElem hi;have:=hc.2 i _ hg;have e:avs.getD i .undef=avs[i]:=by simp [List.getD,hg]
  rw [e];have e2:(vs++Array.replicate (M-vs.size) undef).getD i undef=vs.getD i undef:=by simp only [Array.getD_eq_getD_getElem?];rw [Array.getElem?_append_left (by omega)]
  rw [e2];exact this
 ·have e:avs.getD i .undef = .undef:=by simp [List.getD,getElem?_eq_none hi]
  rw [e];exact .undef _
theorem KJ {C:Cfg} {rec:Rec} {pc:A4} (hrec:DL C.P rec) (hpc:Bn C.P pc) (hmix:C.P.follows .mixedOrders=true) {m:Nat} {g:FuncId} {avs:List AV} {K:List AV→Heap→Option R} {r:R} (hk:LX C rec pc m g avs h K=some r)
  {vs:Array Value} (n:Nat) (hh:Af B κ h w) (hc:AU B κ h w avs vs) (Q:Ending→World→Prop)
  (fin:∀(ls:List AV) (us:List Value) (h':Heap) (κ':Ay) (w':World) (res:Value),K ls h'=some r→AU B κ' h' w' ls us.toArray→Af B κ' h' w'→Ext κ h w κ' h' w'→
   (∀(B2:Nat→Prop) (κ2:Ay) (h2:Heap) (w2:World) (leaf:Nat→AV),(∀j u,us[j]? = some u→AM B2 κ2 h2 w2 (leaf j) u)→∃rv,Br C.P g leaf=some rv∧AM B2 κ2 h2 w2 rv res)→Q (.returned res) w') :
  CallsIn (Fr none) n C.P g vs w Q:=by
 unfold LX at hk
 try simp only [AD] at hk
 split at hk
 ·rename_i fn hf;split at hk
  ·rename_i c hb;obtain ⟨hN,hk1⟩:=AE hk;refine callsIn_of_wp_marks hf hb trivial ?_;have hs:St B fn.ntmps none w.heap.size κ (fun i=>avs.getD i .undef) h {tmps:=vs++Array.replicate (fn.ntmps-vs.size) undef,defers:=[]} w:=
    ⟨Uf hh hc hN,⟨[],rfl,nodup_nil,fun r hr=>by simp at hr⟩,fun b' hb'=>(by cases hb'),le_refl _⟩
   refine wpIn_mono (Lk (C:=C.at g) hrec hpc hmix (Ks hrec) n c hk1 hs) fun e a1 w1 hp1 => ?_;obtain ⟨env1,h1,κ1,j1,j2,j3,j4⟩:=hp1;have go:(if ((h1.drop h.length).all NT)=true then P5 C.P env1 h1 fn.results.toList fun vs=>C0 C.P fn.resultTypes.toList vs fun rs=>K rs h1 else none)=some r→LeavesInM (Fr none) n C.P fn a1.tmps Q a1.defers .returning w1:=by
    intro j1;obtain ⟨hnl,j1⟩:=AE j1;obtain ⟨rs,m1,m2,m3⟩:=j2.marks;rw [m1];refine Jw (base:=w.heap.size) (le_refl _) ?_ rs w1 m2 (fun q hq=>⟨(m3 q hq).1,(m3 q hq).2.1,SF hh j3 hnl (m3 q hq).1⟩) j2.rel j3;intro w2 hr2 x2;obtain ⟨avs2,us2,k1,k2,k3⟩:=P4 (P:=C.P) hr2 j1;obtain ⟨ls,us,f1,f2,f3⟩:=Il k1 k3;refine ⟨_,OP k2,fin ls us h1 κ1 w2 _ f1 f2 hr2.heap x2 fun B2 κ2 h2 w2 leaf hl => ?_⟩;obtain ⟨avs',e1,e2⟩:=f3 B2 κ2 h2 w2 leaf 0 fun j u hu=>by rw [zero_add];exact hl j u hu
    exact Tz hf e1 e2
   cases e with
   |normal=>exact go j1
   |ret=>exact go j1
   |exit id=>cases j1
   |goto t=>cases j1
   |panic ch=>cases j1
   |outgrown=>cases j1
  ·cases hk
 ·cases hk
theorem call_ok {C:Cfg} {rec:Rec} {pc:A4} (hrec:DL C.P rec) (hpc:Bn C.P pc) (hmix:C.P.follows .mixedOrders=true) {m:Nat} {g:FuncId} {avs:List AV} {K:List AV→Heap→Option R} {res:R} (hk:LX C rec pc m g avs h K=some res):Vt C.P g avs h K res:=by
 intro B κ w vs n hh hc;refine KJ hrec hpc hmix hk n hh hc _ fun ls us h1 κ' w' rv0 k1 k2 k3 k4 k5 => ?_;obtain ⟨rv,e1,e2⟩:=k5 B κ' h1 w' (fun i=>ls.getD i .undef) fun j u hu=>by
  have hj:j<ls.length:=by have:=AO hu;have h2:=k2.1;simp at h2;omega
  have hg:ls[j]? = some ls[j]:=getElem?_eq_getElem hj;have:=k2.2 j _ hg;rw [BI] at this;simp only [List.getD,hg,hu,Option.getD_some] at this ⊢;exact this
 exact ⟨rv0,rv,κ',ls,h1,rfl,k1,e1,e2,k3,k4⟩
theorem RH {C:Cfg} {rec:Rec} {pc:A4} (hrec:DL C.P rec) (hpc:Bn C.P pc) (hmix:C.P.follows .mixedOrders=true) {m:Nat} {g:FuncId} {xs ys:List Tree} (hk:RI C rec pc m g xs=some ys):Du C.P g xs ys:=by
 unfold RI at hk
 try simp only [AD] at hk
 split at hk
 ·rename_i avs hm;intro B w avs' vs n hm' hB hc;rw [hm] at hm';cases hm';rw [show dqLT=dqAny (List Tree) from UL _ _] at hk;refine KJ hrec hpc hmix hk n (Hr hB) hc _ fun ls us h1 κ' w' res k1 k2 k3 k4 k5 => ?_;have hlen:us.length=ls.length:=by simpa using k2.1
  obtain ⟨zs,c1,c2,c3,c4⟩:=CO (P:=C.P) k1 k3 (vs:=us) hlen (fun j x v hx hv=>by have:=k2.2 j x hx;rw [BI] at this;simp only [List.getD,hv,Option.getD_some] at this;exact this)
  obtain ⟨hsc,c1⟩:=AE c1;cases c1;obtain ⟨rv,e1,e2⟩:=k5 B [] [] w' (fun i =>.t (ys.getD i default)) fun j u hu=>by
   have hj:j<ys.length:=by have:=AO hu;omega
   have hg:ys[j]? = some ys[j]:=getElem?_eq_getElem hj;have:=c4 j _ u hg hu;have e:ys.getD j default=ys[j]:=by simp [List.getD,hg]
   rw [e];exact .t _ _ (this.less fun b hb=>by
    rcases hb with hb|hb
    ·exact .inl hb
    ·exact (C3 hb).elim)
  exact ⟨res,rv,rfl,e1,e2,⟨k4.os,k4.tape,k4.output,k4.size,fun b hb=>k4.keep b hb fun he=>C3 he⟩,hsc⟩
 ·cases hk
theorem R9 {P:Program} {g:FuncId} (hp:Kw P g=true) (leaf:Nat→AV):Br P g leaf=some (leaf 0):=by
 unfold Kw at hp;unfold Br;split at hp
 ·rename_i fn hf
  try rw [hf]
  split at hp
  ·rename_i t ht;have ha:Av P t=some false:=by simpa using hp
   try dsimp only
   rw [ht];cases hs:BO P t<;>simp [Bt,GR,ha,hs]
  ·cases hp
 ·cases hp
theorem Tg {C:Cfg} {rec:Rec} {pc:A4} (hrec:DL C.P rec) (hpc:Bn C.P pc) (hmix:C.P.follows .mixedOrders=true) {m:Nat} {g:FuncId} {xs ys:List Tree} (hk:IW C rec pc m g xs=some ys):Us C.P g xs ys:=by
 unfold IW at hk
 try simp only [AD] at hk
 split at hk
 ·rename_i avs t hm ht;obtain ⟨z,hz,hk⟩:=bind_some hk;obtain ⟨hplain,hk⟩:=AE hk;intro B w avs' vs n hm' hB hc;rw [hm] at hm';cases hm';rw [show dqLT=dqAny (List Tree) from UL _ _] at hk;refine KJ hrec hpc hmix hk n (Hr hB) hc _ fun ls us h1 κ' w' res k1 k2 k3 k4 k5 => ?_;have hgrow:MF w w':=⟨k4.os,k4.tape,k4.output,k4.size,fun b hb=>k4.keep b hb fun he=>C3 he⟩
  have hlen:us.length=ls.length:=by simpa using k2.1
  obtain ⟨rv,e1,e2⟩:=k5 B κ' h1 w' (fun i=>ls.getD i .undef) fun j u hu=>by
   have hj:j<ls.length:=by have:=AO hu;omega
   have hg:ls[j]? = some ls[j]:=getElem?_eq_getElem hj;have:=k2.2 j _ hg;rw [BI] at this;simp only [List.getD,hg,hu,Option.getD_some] at this ⊢;exact this
  rw [R9 hplain] at e1;cases e1;split at k1
  ·cases k1;have e3:AM B κ' h1 w' .nilsl res:=e2;cases e3 with
   |nilsl a0=>exact ⟨_,z,[],rfl,rfl,hgrow,.inl ⟨rfl,a0,rfl⟩⟩
  ·rename_i i ver off len;split at k1
   ·rename_i ver' size es hi;obtain ⟨hvs,k1'⟩:=AE k1;clear k1;obtain ⟨rfl,rfl⟩:=hvs;cases k1';have e3:AM B κ' h1 w' (.sref i ver' off len) res:=e2;refine ⟨res,size,_,rfl,rfl,hgrow,?_⟩;cases e3 with
    |sref _ _ _ _ _ _ _ hsr=>
     obtain ⟨kk,hkk⟩:=Ba k3 hi;obtain ⟨_,hle,hmm⟩:=hsr kk _ hkk hi rfl;simp only [AQ.len] at hle;have ho:=k3.obj i _ _ hi hkk;rcases hmm with ⟨rfl,hof,a0,rfl⟩|⟨b,base,rfl,cap,rfl,hcap',hcs⟩
     ·exact .inl ⟨by simp,a0,rfl⟩
     ·skip
      have hcap:len≤cap:=by simp only [AQ.len] at hcap';omega
      obtain ⟨hz0,cells,elem,fr,hb,hth,hbs,hel,hT⟩:=ho;have hex:Ex κ' h1 b:=⟨i,base,_,hkk,hi,rfl⟩
      have hnew:w.heap.size≤b:=by
       rcases k4.ex b hex with h|h
       ·exact (C3 h).elim
       ·exact h
      have hcsz:=hcs cells elem _ hb;have hlen2:((es.drop off).take len).length=len:=by simp;omega
      have hget:∀(j:Nat) (e:List Tree),((es.drop off).take len)[j]? = some e→es[off+j]? = some e:=fun j e he=>by have:=BU he;rw [getElem?_drop] at this;exact this.2
      refine .inr ⟨b,base+off*size,cap,cells,elem,fr,by simp only [AQ.size];rw [hlen2],by rw [hlen2];exact hcap,hnew,k3.lt i b base hkk,hz0,hb,hth,?_,fun j e he=>hel _ e (hget j e he),fun j e c x he hx => ?_⟩
      ·have:base+(off+cap)*size≤cells.size:=hcsz;rw [add_mul] at this;omega
      ·have h8:=hT (off+j) e c x (hget j e he) hx;rw [show base+off*size+(j*size+c)=base+((off+j)*size+c) by rw [add_mul];omega];exact h8.less fun b' hb'=>by
        rcases hb' with hb'|rfl
        ·exact .inl hb'
        ·exact .inr hex
   ·cases k1
  ·cases k1
 ·cases hk
theorem RK {C:Cfg} {rec:Rec} {pc:A4} (hrec:DL C.P rec) (hpc:Bn C.P pc) (hmix:C.P.follows .mixedOrders=true) {m j:Nat} {g:FuncId} {xs ys:List Tree} (hk:Gx C rec pc m j g xs=some ys):Qy C.P j g xs ys:=by
 unfold Gx at hk
 try simp only [AD] at hk
 split at hk
 ·rename_i avs t hm ht;obtain ⟨z,hz,hk⟩:=bind_some hk;intro B w avs' vs n hm' hB hc;rw [hm] at hm';cases hm';rw [show dqLT=dqAny (List Tree) from UL _ _] at hk;refine KJ hrec hpc hmix hk n (Hr hB) hc _ fun ls us h1 κ' w' res k1 k2 k3 k4 k5 => ?_;have hgrow:MF w w':=⟨k4.os,k4.tape,k4.output,k4.size,fun b hb=>k4.keep b hb fun he=>C3 he⟩
  have hlen:us.length=ls.length:=by simpa using k2.1
  have hleaf:∀(i:Nat) (x:AV) (u:Value),ls[i]? = some x→us[i]? = some u→AM B κ' h1 w' x u:=fun i x u hx hu=>by have:=k2.2 i x hx;rw [BI] at this;simp only [List.getD,hu,Option.getD_some] at this;exact this
  have hend:∀(x:Tree) (u:Value),us[j]? = some u→KG C.P h1 (Cw C.P g) ls j x=some ys→us.length=ys.length∧ys[j]? = some x∧
    ∀(i:Nat) (y:Tree) (v:Value),i≠j→ys[i]? = some y→us[i]? = some v→BH w' (fun b=>B b∨Ex κ' h1 b) y v:=fun x u hu he=>by
   unfold KG at he
   try simp only [AD] at he
   obtain ⟨hts,he⟩:=AE he;have hjl:j<ls.length:=by rw [← hlen];exact AO hu
   obtain ⟨pa,he1,l1,_,t1⟩:=CO (P:=C.P) he k3 (vs:=us.take j) (by simp [hlen]) (fun i x v hx hv=>hleaf i x v (by rw [getElem?_take] at hx;split at hx;exact hx;cases hx) (by rw [getElem?_take] at hv;split at hv;exact hv;cases hv));obtain ⟨pb,he2,l2,_,t2⟩:=CO (P:=C.P) he1 k3 (vs:=us.drop (j+1)) (by simp [hlen]) (fun i x v hx hv=>hleaf (j+1+i) x v (by rw [getElem?_drop] at hx;exact hx) (by rw [getElem?_drop] at hv;exact hv));cases he2;have la:pa.length=j:=by rw [l1];simp;omega
   have lb:pb.length=ls.length-(j+1):=by rw [l2];simp
   refine ⟨by simp [la,lb];omega,by rw [getElem?_append_right (by omega),la];simp,fun i y v hij hy hv => ?_⟩;rcases lt_or_ge i j with hi|hi
   ·rw [getElem?_append_left (by omega)] at hy;exact (t1 i y v hy (by rw [getElem?_take_of_lt hi];exact hv)).less fun b hb=>hb.imp id fun e=>⟨rfl,e⟩
   ·rw [getElem?_append_right (by omega),la,show i-j=(i-j-1)+1 by omega,getElem?_cons_succ] at hy;exact (t2 (i-j-1) y v hy (by rw [getElem?_drop,show j+1+(i-j-1)=i by omega];exact hv)).less fun b hb=>hb.imp id fun e=>⟨rfl,e⟩
  have hbld:∀(B2:Nat→Prop) (κ2:Ay) (h2:Heap) (w2:World) (leaf:Nat→AV),(∀i x,us[i]? = some x→AM B2 κ2 h2 w2 (leaf i) x)→∃rv,Br C.P g leaf=some rv∧AM B2 κ2 h2 w2 rv res:=fun B2 κ2 h2 w2 leaf hl=>k5 B2 κ2 h2 w2 leaf hl;split at k1
  ·rename_i hj;obtain ⟨u,hu⟩:∃u,us[j]? = some u:=⟨us[j]'(by rw [hlen];exact AO hj),getElem?_eq_getElem _⟩
   obtain ⟨e1,e2,e3⟩:=hend _ u hu k1;have hv:=hleaf j _ u hj hu;cases hv with
   |nilsl a0=>exact ⟨res,us,z,[],_,rfl,hgrow,e2,e1,hu,.inl ⟨rfl,a0,rfl⟩,(fun i y v hij hy hv=>(e3 i y v hij hy hv).less fun b hb=>hb.imp id fun ⟨o,nn,cc,e,hc⟩=>by injection e with e1 e2 e3;omega),hbld⟩
  ·rename_i i ver off len hj;obtain ⟨u,hu⟩:∃u,us[j]? = some u:=⟨us[j]'(by rw [hlen];exact AO hj),getElem?_eq_getElem _⟩
   split at k1
   ·rename_i ver' size es hi;obtain ⟨hvs,k1'⟩:=AE k1;clear k1;obtain ⟨rfl,rfl⟩:=hvs;obtain ⟨e1,e2,e3⟩:=hend _ u hu k1';have hv:=hleaf j _ u hj hu;cases hv with
    |sref _ _ _ _ _ _ _ hsr=>
     obtain ⟨kk,hkk⟩:=Ba k3 hi;obtain ⟨_,hle,hmm⟩:=hsr kk _ hkk hi rfl;simp only [AQ.len] at hle;have ho:=k3.obj i _ _ hi hkk;rcases hmm with ⟨rfl,hof,a0,rfl⟩|⟨b,base,rfl,cap,rfl,hcap',hcs⟩
     ·exact ⟨res,us,size,_,_,rfl,hgrow,e2,e1,hu,.inl ⟨by simp,a0,rfl⟩,(fun i y v hij hy hv=>(e3 i y v hij hy hv).less fun b hb=>hb.imp id fun ⟨o,nn,cc,e,hc⟩=>by injection e with e1 e2 e3;omega),hbld⟩
     ·have hcap:len≤cap:=by simp only [AQ.len] at hcap';omega
      obtain ⟨hz0,cells,elem,fr,hb,hth,hbs,hel,hT⟩:=ho;have hex:Ex κ' h1 b:=⟨i,base,_,hkk,hi,rfl⟩
      have hnew:w.heap.size≤b:=by
       rcases k4.ex b hex with h|h
       ·exact (C3 h).elim
       ·exact h
      have hcsz:=hcs cells elem _ hb;have hlen2:((es.drop off).take len).length=len:=by simp;omega
      have hget:∀(j:Nat) (e:List Tree),((es.drop off).take len)[j]? = some e→es[off+j]? = some e:=fun j e he=>by have:=BU he;rw [getElem?_drop] at this;exact this.2
      refine ⟨res,us,size,_,_,rfl,hgrow,e2,e1,hu,.inr ⟨b,base+off*size,cap,cells,elem,fr,by simp only [AQ.size];rw [hlen2],by rw [hlen2];exact hcap,hnew,k3.lt i b base hkk,hz0,hb,hth,?_,fun j e he=>hel _ e (hget j e he),fun j e c x he hx => ?_⟩,(fun i2 y v hij hy hv=>(e3 i2 y v hij hy hv).less fun b2 hb2=>hb2.imp id fun ⟨o,nn,cc,e,hc⟩=> ?_),hbld⟩
      ·have:base+(off+cap)*size≤cells.size:=hcsz;rw [add_mul] at this;omega
      ·have h8:=hT (off+j) e c x (hget j e he) hx;rw [show base+off*size+(j*size+c)=base+((off+j)*size+c) by rw [add_mul];omega];exact h8.less fun b' hb'=>by
        rcases hb' with hb'|rfl
        ·exact .inl hb'
        ·exact .inr hex
      ·injection e with e4 e5 e6;injection e4 with e4;injection e4 with e7;rw [← e7];exact hex
   ·cases k1
  ·cases k1
 ·cases hk
theorem GW {C:Cfg} (hmix:C.P.follows .mixedOrders=true) {pc:A4} (hpc:Bn C.P pc) (n:Nat):∀d,DL C.P (inl C pc n d)
 |0=>fun R r h K res hk=>(by cases hk)
 |d+1=>fun R r h K res hk=>by
  cases r with
  |fn g avs=>exact call_ok (GW hmix hpc n d) hpc hmix hk
  |yield i args=>exact TZ (GW hmix hpc n d) hpc hmix hk
def JE (C:Cfg):Prop:=∀g xs ys,g<OWN→C.ext g xs=some ys→Du C.P g xs ys
theorem Hn {C:Cfg} {pc:A4} (hext:JE C) (hpc:Bn C.P pc):Bn C.P (pcx C pc):=fun g xs ys hk=>by
 unfold pcx at hk;split at hk
 ·split at hk
  ·rename_i hg;split at hk
   ·rename_i he;cases hk;rw [if_pos hg];exact hext g [] _ hg he
   ·exact hpc g _ _ hk
  ·exact hpc g _ _ hk
 ·exact hpc g _ _ hk
theorem Dr {C:Cfg} (hmix:C.P.follows .mixedOrders=true) (hext:JE C):∀n,Bn C.P (AB C n)
 |0=>fun g xs ys hk=>(by cases hk)
 |n+1=>fun g xs ys hk=>by
  unfold AB at hk;by_cases hg:g<OWN
  ·rw [if_pos hg] at hk ⊢;split at hk
   ·rename_i ys' he;cases hk;exact hext g xs _ hg he
   exact RH (GW hmix (Hn hext (Dr hmix hext n)) n C.depth) (Hn hext (Dr hmix hext n)) hmix hk
  ·rw [if_neg hg] at hk ⊢;by_cases hg2:g<D8
   ·rw [if_pos hg2] at hk ⊢;exact Tg (GW hmix (Hn hext (Dr hmix hext n)) n C.depth) (Hn hext (Dr hmix hext n)) hmix hk
   ·rw [if_neg hg2] at hk ⊢;exact RK (GW hmix (Hn hext (Dr hmix hext n)) n C.depth) (Hn hext (Dr hmix hext n)) hmix hk
theorem Iy {C:Cfg} (hmix:C.P.follows .mixedOrders=true) (hext:JE C) {n:Nat} {g:FuncId} {xs ys:List Tree} (hg:g<OWN) (hk:AB C n g xs=some ys):Du C.P g xs ys:=by have:=Dr hmix hext n g xs ys hk;rwa [if_pos hg] at this
#print axioms Iy
end Ab
namespace Ab
open Go
variable {P:Program} {w w':World} {H:Type} {enc:TypeId×Value→H} {base:Nat} {held:Bool}
def cover (P:Program):List Field→Nat→Option Nat
 |[],off=>some off
 |f::fs,off=>if f.offset=off then cover P fs (off+P.cellsOf f.type) else none
def L7 (P:Program):Nat→TypeId→Bool
 |0,_=>false
 |d+1,t=>match P.underlying t with
  |some .bool|some (.int _)|some .string=>true
  |some (.slice e)=>P.cellsOf e != 0&&L7 P d e
  |some (.struct fs)=>cover P fs.toList 0==some (P.cellsOf t)&&fs.toList.all fun f=>L7 P d f.type
  |_=>false
def Ek (Ty:TypeId→List Tree→Prop):List TypeId→List Tree→Prop
 |[],ts=>ts=[]
 |t::l,ts=>∃a b,ts=a++b∧Ty t a∧Ek Ty l b
def Typed (P:Program):Nat→TypeId→List Tree→Prop
 |0,_,_=>False
 |d+1,t,ts=>match P.underlying t with
  |some .bool=>∃b,ts=[.bool b]
  |some (.int k)=>∃n,ts=[.int k n]∧(Lit.int k n).wf=true
  |some .string=>∃s:ByteArray,ts=[.str s]∧s.size≤maxLen
  |some (.slice e)=>∃es,ts=[.sl (P.cellsOf e) es]∧es.length≤maxLen∧∀x∈es,Typed P d e x
  |some (.struct fs)=>Ek (Typed P d) (fs.toList.map (·.type)) ts
  |_=>False
def Cells (w:World) (ts:List Tree) (cs:List Value):Prop:=ts.length=cs.length∧∀(j:Nat) y v,ts[j]? = some y→cs[j]? = some v→BH w (fun _=>False) y v
theorem Cells.append {ts ts':List Tree} {cs cs':List Value} (h1:Cells w ts cs) (h2:Cells w ts' cs'):Cells w (ts++ts') (cs++cs'):=by
 refine ⟨by simp [h1.1,h2.1],fun j y v hy hv => ?_⟩;rcases lt_or_ge j ts.length with hj|hj
 ·rw [getElem?_append_left hj] at hy;rw [getElem?_append_left (by rw [← h1.1];exact hj)] at hv;exact h1.2 j y v hy hv
 ·rw [getElem?_append_right hj] at hy;rw [getElem?_append_right (by rw [← h1.1];exact hj),← h1.1] at hv;exact h2.2 _ y v hy hv
theorem Cells.one {y:Tree} {v:Value} (h:BH w (fun _=>False) y v):Cells w [y] [v]:=by
 refine ⟨rfl,fun j z u hz hu => ?_⟩;cases j with
 |zero=>cases hz;cases hu;exact h
 |succ j=>simp at hz
theorem J3 {α:Type} {p:Nat→α→Prop}:∀(len:Nat),(∀i,i<len→∃x,p i x)→∃l:List α,l.length=len∧∀i x,l[i]? = some x→p i x
 |0,_=>⟨[],rfl,fun i x hx=>by simp at hx⟩
 |n+1,h=>by
  obtain ⟨l,h1,h2⟩:=J3 n fun i hi=>h i (by omega);obtain ⟨x,hx⟩:=h n (by omega);refine ⟨l++[x],by simp [h1],fun i y hy => ?_⟩;rcases lt_or_ge i n with hi|hi
  ·rw [getElem?_append_left (by omega)] at hy;exact h2 i y hy
  ·rw [getElem?_append_right (by omega)] at hy;have:=AO hy;simp at this;have e:i=n:=by omega
   subst e;rw [h1] at hy;simp at hy;subst hy;exact hx
theorem K4 {α β:Type} {f:α→Option β}:∀{l:List α} {ys:List β},l.mapM f=some ys→ys.length=l.length∧∀(i:Nat) x,l[i]? = some x→∃y,ys[i]? = some y∧f x=some y
 |[],ys,h=>by simp at h;subst h;exact ⟨rfl,fun i x hx=>by simp at hx⟩
 |a::l,ys,h=>by
  rw [mapM_cons] at h;cases ha:f a with
  |none=>rw [ha] at h;cases h
  |some b=>
   rw [ha] at h;cases hl:l.mapM f with
   |none=>rw [hl] at h;cases h
   |some bs=>
    rw [hl] at h;cases h;obtain ⟨h1,h2⟩:=K4 hl;refine ⟨by simp [h1],fun i x hx => ?_⟩;cases i with
    |zero=>simp at hx;subst hx;exact ⟨b,rfl,ha⟩
    |succ i=>simpa using h2 i x (by simpa using hx)
theorem mapM_congr {α β:Type} {f g:α→Option β}:∀{l:List α},(∀x∈l,g x=f x)→l.mapM g=l.mapM f
 |[],_=>by simp
 |a::l,h=>by rw [mapM_cons,mapM_cons,h a (by simp),mapM_congr fun x hx=>h x (by simp [hx])]
theorem KI {α β:Type} {f:α→Option β}:∀{l:List α} (ys:List β),ys.length=l.length→(∀(i:Nat) x,l[i]? = some x→∃y,ys[i]? = some y∧f x=some y)→l.mapM f=some ys
 |[],[],_,_=>by simp
 |[],y::ys,h,_=>by simp at h
 |a::l,[],h,_=>by simp at h
 |a::l,y::ys,h,hf=>by
  obtain ⟨z,h1,h2⟩:=hf 0 a rfl;cases h1;have ih:=KI ys (by simpa using h) fun i x hx=>by simpa using hf (i+1) x (by simpa using hx)
  rw [mapM_cons,h2,ih];rfl
theorem Gu {n i:Nat} (h:i<n):(List.range n)[i]? = some i:=by simp [h]
theorem Mw {a:Addr} {n:Nat} {cs:List Value} (h:w.cells? base a n=some cs):base≤a.block∧cs.length=n∧∀i v,cs[i]? = some v→w.cell? (a.add i)=some v:=by
 unfold World.cells? at h;obtain ⟨hb,h⟩:=AE h;obtain ⟨h1,h2⟩:=K4 h;have h1':cs.length=n:=by simpa using h1
 refine ⟨hb,h1',fun i v hv => ?_⟩;have hi:i<n:=by have:=AO hv;omega
 obtain ⟨y,hy,hc⟩:=h2 i i (Gu hi);rw [hv] at hy;cases hy;exact hc
theorem Jc {a:Addr} {v:Value} (h:w.cell? a=some v):a.spot=none∧a.block<w.heap.size:=by
 unfold World.cell? at h;split at h
 ·rename_i c e f hb;split at h
  ·cases h
  ·rename_i hs;exact ⟨by simpa using hs,Cp hb⟩
 ·cases h
theorem PO (b o i:Nat):(⟨b,o,none⟩:Addr).add i=⟨b,o+i,none⟩:=by
 simp only [Addr.add];split
 ·rename_i h;simp [h]
 ·rfl
theorem IE {cs:List Value} (Ty:TypeId→List Tree→Prop):∀(fs:List Field) (off m:Nat),cover P fs off=some m→m≤cs.length→(∀f∈fs,∃ts,Ty f.type ts∧Cells w ts ((cs.drop f.offset).take (P.cellsOf f.type)))→
  off≤m∧∃ts,Ek Ty (fs.map (·.type)) ts∧Cells w ts ((cs.drop off).take (m-off))
 |[],off,m,hc,hm,_=>by cases hc;exact ⟨le_refl _,[],rfl,by simp,fun j y v hy=>by simp at hy⟩
 |f::fs,off,m,hc,hm,hall=>by
  simp only [cover] at hc;obtain ⟨ho,hc⟩:=AE hc;obtain ⟨h1,ts,h2,h3⟩:=IE Ty fs _ m hc hm fun g hg=>hall g (by simp [hg]);obtain ⟨ts0,h4,h5⟩:=hall f (by simp);refine ⟨by omega,ts0++ts,⟨ts0,ts,rfl,h4,h2⟩,?_⟩;have e:(cs.drop off).take (m-off)=(cs.drop f.offset).take (P.cellsOf f.type)++(cs.drop (off+P.cellsOf f.type)).take (m-(off+P.cellsOf f.type)):=by rw [ho,show m-off=P.cellsOf f.type+(m-(off+P.cellsOf f.type)) from by omega,List.take_add,drop_drop]
  rw [e];exact h5.append h3
theorem L2 {spare:Nat→Bool}:∀(d:Nat) {t:TypeId} {fuel:Nat} {cs:List Value} {x:DataW H×List MemPlace},L7 P d t=true→DataW.trod enc P w base spare held fuel t cs=some x→∃ts,Typed P d t ts∧Cells w ts cs:=by
 intro d
 induction d with
 |zero=>intro t fuel cs x ho;cases ho
 |succ d ih=>
  intro t fuel cs x ho h;unfold L7 at ho;unfold Typed;cases hu:P.underlying t with
  |none=>rw [hu] at ho;cases ho
  |some u=>
   rw [hu] at ho;cases u with
   |bool=>
    obtain ⟨b,rfl,_⟩:=DataW.trod_bool hu h;exact ⟨_,⟨b,rfl⟩,Cells.one (.bool b)⟩
   |int k=>
    obtain ⟨n,rfl,_,hw⟩:=DataW.trod_int hu h;exact ⟨_,⟨n,rfl,hw⟩,Cells.one (.int k n)⟩
   |string=>
    obtain ⟨n,rfl,_,hw⟩:=DataW.trod_string hu h;exact ⟨_,⟨n,rfl,hw⟩,Cells.one (.str n)⟩
   |slice e=>
    simp only [and_eq_true,bne_iff_ne,ne_eq] at ho;rcases Go.Deep.open_slice hu h with ⟨rfl,_⟩|⟨a,len,cap,m,n,D,Pl,rfl,hb,hl,hm,hmm,_,hi⟩
    ·exact ⟨_,⟨[],rfl,zero_le _,fun x hx=>by cases hx⟩,Cells.one (.nil _ _ _)⟩
    ·have hlm:len≤m:=by rw [hmm];split<;>omega
     obtain ⟨es,he1,he2⟩:=J3 (p:=fun i ts=>Typed P d e ts∧∃cs',w.cells? base (a.add (i*P.cellsOf e)) (P.cellsOf e)=some cs'∧Cells w ts cs') len fun i him=>by obtain ⟨cs',h1,h2⟩:=hi i (by omega);obtain ⟨ts,h3,h4⟩:=ih ho.2 h2;exact ⟨ts,h3,cs',h1,h4⟩
     refine ⟨_,⟨es,rfl,by omega,fun x hx => ?_⟩,?_⟩
     ·obtain ⟨i,hi2,hx2⟩:=getElem_of_mem hx;exact (he2 i x (by rw [getElem?_eq_getElem hi2,hx2])).1
     ·cases hes:es with
      |nil=>
       rw [hes] at he1;obtain rfl:len=0:=he1.symm;exact Cells.one (.nil _ _ _)
      |cons e0 es0=>
       have hsp:a.spot=none:=by
        have h0:es[0]? = some e0:=by rw [hes];rfl
        obtain ⟨_,cs',hc,hcl⟩:=he2 0 e0 h0;obtain ⟨_,hlen,hget⟩:=Mw hc;have hcc:0<cs'.length:=by rw [hlen];exact pos_of_ne_zero ho.1
        have hg:=hget 0 cs'[0] (getElem?_eq_getElem hcc);have:=(Jc hg).1;simpa [Addr.add] using this
       obtain ⟨ab,ao,asp⟩:=a;dsimp only at hsp;subst hsp;have key:∀(j:Nat) (el:List Tree),es[j]? = some el→el.length=P.cellsOf e∧∀(c:Nat) (y:Tree),el[c]? = some y→∃v,w.cell? ⟨ab,ao+(j*P.cellsOf e+c),none⟩=some v∧ab<w.heap.size∧BH w (fun _=>False) y v:=by
        intro j el hj;obtain ⟨_,cs',hc,hcl⟩:=he2 j el hj;obtain ⟨_,hlen,hget⟩:=Mw hc;refine ⟨hcl.1.trans hlen,fun c y hy => ?_⟩;have hcc:c<cs'.length:=by rw [← hcl.1];exact AO hy
        have hg:=hget c cs'[c] (getElem?_eq_getElem hcc);rw [PO,PO,add_assoc] at hg;exact ⟨cs'[c],hg,(Jc hg).2,hcl.2 c y _ hy (getElem?_eq_getElem hcc)⟩
       have h0:es[0]? = some e0:=by rw [hes];rfl
       obtain ⟨hl0,hc0⟩:=key 0 e0 h0;have hne:0<e0.length:=by rw [hl0];exact pos_of_ne_zero ho.1
       obtain ⟨v0,_,hbl,_⟩:=hc0 0 e0[0] (getElem?_eq_getElem hne);rw [← hes,← he1];refine Cells.one (.sl _ es ab ao cap (fun j c=>(w.cell? ⟨ab,ao+(j*P.cellsOf e+c),none⟩).getD undef) (by omega) hbl (fun hf=>hf) (fun j el hj=>(key j el hj).1) (fun j el c y hj hy => ?_) (fun j el c y hj hy => ?_))
       ·obtain ⟨v,h1,_⟩:=(key j el hj).2 c y hy;rw [h1];rfl
       ·obtain ⟨v,h1,_,h4⟩:=(key j el hj).2 c y hy;rw [h1];exact h4
   |struct fs=>
    simp only [and_eq_true,beq_iff_eq] at ho;obtain ⟨xs,n,_,_,hlen,hxl,hf⟩:=DataW.trod_struct hu h;obtain ⟨_,ts,h1,h2⟩:=IE (w:=w) (cs:=cs) (Typed P d) fs.toList 0 _ ho.1 (by omega) fun f hfm=>by
     obtain ⟨i,hi,he⟩:=getElem_of_mem hfm;have hg:fs[i]? = some f:=by rw [← getElem?_toList,getElem?_eq_getElem hi,he]
     have:=hf i f hg;have hil:i<xs.length:=by rw [hxl];simpa using hi
     rw [getElem?_eq_getElem hil] at this;exact ih (all_eq_true.1 ho.2 f hfm) this
    refine ⟨ts,h1,?_⟩;simpa [← hlen] using h2
   |_=>cases ho
theorem Qk {a:Addr} {n:Nat} {cs:List Value} (hk:∀b,b<w.heap.size→w'.heap[b]? = w.heap[b]?) (h:w.cells? base a n=some cs):w'.cells? base a n=some cs:=by
 rw [← h];unfold World.cells? at h ⊢;obtain ⟨hb,h⟩:=AE h;rw [if_pos hb,if_pos hb];obtain ⟨h1,h2⟩:=K4 h;refine mapM_congr fun i hi => ?_;have hin:i<n:=by simpa using hi
 obtain ⟨y,_,hc⟩:=h2 i i (Gu hin);unfold World.cell? at hc ⊢;rw [hk];have:=Jc (w:=w) (a:=a.add i) (v:=y) hc;exact this.2
theorem Ry {sp:Nat→Bool} (hk:∀b,b<w.heap.size→w'.heap[b]? = w.heap[b]?):∀(d:Nat) {t:TypeId} {fuel:Nat} {cs:List Value} {x:DataW H×List MemPlace},L7 P d t=true→DataW.trod enc P w base (fun _=>true) held fuel t cs=some x→
  (∀p∈x.2,sp p.block=true)→DataW.trod enc P w' base sp held fuel t cs=some x:=by
 intro d
 induction d with
 |zero=>intro t fuel cs x ho;cases ho
 |succ d ih=>
  intro t fuel cs x ho h hp;unfold L7 at ho;cases hu:P.underlying t with
  |none=>rw [hu] at ho;cases ho
  |some u=>
   rw [hu] at ho;cases u with
   |bool=>
    cases fuel with
    |zero=>cases h
    |succ n=>
     obtain ⟨b,rfl,rfl⟩:=DataW.trod_bool hu h;simp [DataW.trod,hu]
   |int k=>
    cases fuel with
    |zero=>cases h
    |succ n=>
     obtain ⟨b,rfl,rfl,hw⟩:=DataW.trod_int hu h;simp [DataW.trod,hu,hw]
   |string=>
    cases fuel with
    |zero=>cases h
    |succ n=>
     obtain ⟨b,rfl,rfl,hw⟩:=DataW.trod_string hu h;simp [DataW.trod,hu,hw]
   |slice e=>
    simp only [and_eq_true,bne_iff_ne,ne_eq] at ho;rcases DataW.trod_slice hu h with ⟨rfl,rfl⟩|⟨a,len,cap,elems,rest,n,rfl,rfl,hx,hb,hl,hm,hel,he,hr,_⟩
    ·cases fuel with
     |zero=>cases h
     |succ n=>simp [DataW.trod,hu]
    ·obtain ⟨hrl,hr⟩:=hr rfl;have hmem:∀y∈elems++rest,∀p∈y.2,sp p.block=true:=fun y hy p hpy=>hp p (by rw [hx];exact List.mem_append_right _ (List.mem_flatMap.2 ⟨y,hy,hpy⟩));have step:∀(i:Nat) (y:DataW H×List MemPlace),y∈elems++rest→(w.cells? base (a.add (i*P.cellsOf e)) (P.cellsOf e)).bind (DataW.trod enc P w base (fun _=>true) held n e)=some y→
       (w'.cells? base (a.add (i*P.cellsOf e)) (P.cellsOf e)).bind (DataW.trod enc P w' base sp held n e)=some y:=by
      intro i y hy hi;obtain ⟨cs',h1,h2⟩:=bind_some hi;rw [Qk hk h1];exact ih ho.2 h2 (hmem y hy)
     have e1:(List.range len).mapM (fun i=>(w'.cells? base (a.add (i*P.cellsOf e)) (P.cellsOf e)).bind (DataW.trod enc P w' base sp held n e))=some elems:=KI elems (by simp [hel]) fun i j hij=>by
      have hil:i<len:=by have:=AO hij;simpa using this
      have:j=i:=by rw [Gu hil] at hij;cases hij;rfl
      subst this;have hj:=he j hil;have hjl:j<elems.length:=by omega
      rw [getElem?_eq_getElem hjl] at hj;exact ⟨_,getElem?_eq_getElem hjl,step j _ (mem_append_left _ (getElem_mem hjl)) hj⟩
     have e2:(if sp a.block=true then (List.range (cap-len)).mapM (fun j=>(w'.cells? base (a.add ((len+j)*P.cellsOf e)) (P.cellsOf e)).bind (DataW.trod enc P w' base sp held n e)) else some [])=some rest:=by
      by_cases hsp:sp a.block=true
      ·rw [if_pos hsp];refine KI rest (by simp [hrl]) fun i j hij => ?_;have hil:i<cap-len:=by have:=AO hij;simpa using this
       have:j=i:=by rw [Gu hil] at hij;cases hij;rfl
       subst this;have hj:=hr j hil;have hjl:j<rest.length:=by omega
       rw [getElem?_eq_getElem hjl] at hj;exact ⟨_,getElem?_eq_getElem hjl,step (len+j) _ (List.mem_append_right _ (getElem_mem hjl)) hj⟩
      ·rw [if_neg hsp];cases hre:rest with
       |nil=>rfl
       |cons y ys=>
        exfalso;refine hsp (hp (.cell a.block (a.off+0)) ?_);rw [hx];refine mem_append_left _ (mem_map.2 ⟨0,mem_range.2 ?_,rfl⟩);rw [hre];exact Nat.mul_pos (by simp;omega) (pos_of_ne_zero ho.1)
     unfold DataW.trod;rw [hu];dsimp only;rw [if_pos ⟨hb,hl,hm⟩,e1];simp only [Option.bind_some];rw [e2,hx];rfl
   |struct fs=>
    simp only [and_eq_true,beq_iff_eq] at ho;obtain ⟨xs,n,rfl,hx,hlen,hxl,hf⟩:=DataW.trod_struct hu h;have e1:(fs.toList.mapM fun f=>DataW.trod enc P w' base sp held n f.type ((cs.drop f.offset).take (P.cellsOf f.type)))=some xs:=KI xs (by simpa using hxl) fun i f hif=>by
     have hg:fs[i]? = some f:=by rw [← getElem?_toList];exact hif
     have hil:i<xs.length:=by rw [hxl];have:=AO hif;simpa using this
     have hj:=hf i f hg;rw [getElem?_eq_getElem hil] at hj;refine ⟨_,getElem?_eq_getElem hil,ih (all_eq_true.1 ho.2 f (mem_of_getElem? hif)) hj fun p hpy=>hp p ?_⟩;rw [hx];exact List.mem_flatMap.2 ⟨_,getElem_mem hil,hpy⟩
    unfold DataW.trod;rw [hu];split<;>simp_all
   |_=>cases ho
end Ab
namespace Ab
open Go Go.RowKit Go.WideShapes Go.ChangeShapes
variable {P:Program} {w w':World} {H:Type} {enc:TypeId×Value→H} {base:Nat} {held:Bool}
theorem MF.below (g:MF w w'):Below w.heap.size w w':=⟨g.os,g.tape,g.output,g.size,fun b hb=>g.block b hb⟩
theorem Pr {t:TypeId} {n:Nat} (h:BO P t=some n):P.cellsOf t=n:=by unfold BO at h;unfold Program.cellsOf;rw [h];rfl
theorem Ix {d:Nat} {spare:Nat→Bool} {b0:Nat}:∀{ts:List TypeId} {vs:List Value} {ds:List (DataW H)} {p:List MemPlace},ts.all (L7 P d)=true→(ts.all fun t=>(BO P t).isSome)=true→
  (∀(j:Nat) t v,ts[j]? = some t→vs[j]? = some v→Value.okWide P w .any b0 t v)→DataW.TrodAll enc P w base spare held ts vs ds p→
  ∃xs,Ek (Typed P d) ts xs∧∀(leaf:Nat→AV) (off:Nat),(∀j x,xs[j]? = some x→leaf (off+j)= .t x)→∃avs,Bt P leaf ts off=some avs∧AU (fun _=>False) [] [] w avs vs.toArray
 |[],vs,ds,p,_,_,_,h=>by obtain ⟨rfl,rfl,rfl⟩:=trodAll_nil h;exact ⟨[],rfl,fun leaf off _=>⟨[],rfl,rfl,fun j x hx=>by simp at hx⟩⟩
 |t::ts,vs,ds,p,hok,hsz,hval,h=>by
  obtain ⟨v,vs',d1,ds',p1,q,rfl,rfl,rfl,h1,h2⟩:=trodAll_cons h;simp only [all_cons,and_eq_true] at hok hsz;obtain ⟨xs,h3,h4⟩:=Ix hok.2 hsz.2 (fun j t' v' ht hv=>hval (j+1) t' v' (by simpa using ht) (by simpa using hv)) h2;obtain ⟨fuel,h1⟩:=h1;obtain ⟨ys,h5,h6⟩:=L2 d hok.1 h1;have hv:=hval 0 t v rfl rfl;obtain ⟨n,hn⟩:=Option.isSome_iff_exists.1 hsz.1;have hc:=Pr hn;refine ⟨ys++xs,⟨ys,xs,rfl,h5,h3⟩,fun leaf off hl => ?_⟩;obtain ⟨avs,e1,e2⟩:=h4 leaf (off+ys.length) fun j x hx=>by have:=hl (ys.length+j) x (by rw [getElem?_append_right (by omega)];simpa using hx);rwa [← add_assoc] at this
  have hT:∀j v',v.cells.toList[j]? = some v'→AM (fun _=>False) [] [] w (leaf (off+j)) v':=fun j v' hv'=>by
   have hj:j<ys.length:=by rw [h6.1];exact AO hv'
   have hg:ys[j]? = some ys[j]:=getElem?_eq_getElem hj;rw [hl j ys[j] (by rw [getElem?_append_left hj];exact hg)];exact .t _ _ ((h6.2 j _ v' hg hv').less fun b hb=>by
    rcases hb with hb|hb
    ·exact hb
    ·exact (C3 hb).elim)
  have leafCase:Av P t=some false→v.cells = #[v]→∃avs,Bt P leaf (t::ts) off=some avs∧AU (fun _=>False) [] [] w avs (v::vs').toArray:=by
   intro ha hcv;have hl1:ys.length=1:=by rw [h6.1,hcv];rfl
   refine ⟨leaf off::avs,?_,B6 (by simpa using hT 0 v (by rw [hcv];rfl)) e2⟩;rw [hl1] at e1;cases hs:BO P t<;>simp only [Bt,GR,ha,hs,e1,map_some]
  have hok1:=hok.1;cases d with
  |zero=>cases hok1
  |succ d=>
   unfold L7 at hok1;cases hu:P.underlying t with
   |none=>rw [hu] at hok1;cases hok1
   |some u=>
    rw [hu] at hok1;cases u with
    |bool=>obtain ⟨b,rfl⟩:=okWide_bool hu hv;exact leafCase (by simp [Av,hu]) rfl
    |int k=>obtain ⟨b,rfl⟩:=okWide_int hu hv;exact leafCase (by simp [Av,hu]) rfl
    |string=>obtain ⟨b,rfl⟩:=okWide_string hu hv;exact leafCase (by simp [Av,hu]) rfl
    |slice e=>obtain ⟨a,len,cap,rfl⟩:=okWide_slice hu hv;exact leafCase (by simp [Av,hu]) rfl
    |struct fs=>
     obtain ⟨cs,rfl,hcs⟩:=okWide_struct hu hv;have ha:Av P t=some true:=by simp [Av,hu]
     have hl1:ys.length=n:=by rw [h6.1];simp [Value.cells,hcs,hc]
     refine ⟨.agg (Az leaf off n)::avs,?_,B6 (.agg _ _ (by simp [Az,hcs,hc]) fun j y hy => ?_) e2⟩
     ·rw [hl1] at e1;simp only [Bt,GR,ha,hn,e1,map_some]
     ·have hj:j<n:=by have:=AO hy;simpa [Az] using this
      rw [Dx leaf off _ _ hj] at hy;cases hy;have hj2:j<cs.size:=by omega
      exact hT j _ (by simp [Value.cells,Array.getD,hj2])
    |_=>cases hok1
theorem Jr {spare:Nat→Bool}:∀{ts:List TypeId} {vs:List Value} {ds:List (DataW H)} {p:List MemPlace},DataW.TrodAll enc P w base spare held ts vs ds p→ds.length=ts.length
 |[],vs,ds,p,h=>by obtain ⟨rfl,rfl,rfl⟩:=trodAll_nil h;rfl
 |t::ts,vs,ds,p,h=>by obtain ⟨v,vs',d1,ds',p1,q,rfl,rfl,rfl,h1,h2⟩:=trodAll_cons h;simp [Jr h2]
theorem IC {sp:Nat→Bool} (hk:∀b,b<w.heap.size→w'.heap[b]? = w.heap[b]?) {d:Nat}:∀{ts:List TypeId} {vs:List Value} {ds:List (DataW H)} {p:List MemPlace},ts.all (L7 P d)=true→
  DataW.TrodAll enc P w base (fun _=>true) held ts vs ds p→(∀x∈p,sp x.block=true)→DataW.TrodAll enc P w' base sp held ts vs ds p
 |[],vs,ds,p,_,h,_=>by obtain ⟨rfl,rfl,rfl⟩:=trodAll_nil h;exact rfl
 |t::ts,vs,ds,p,hok,h,hp=>by obtain ⟨v,vs',d1,ds',p1,q,rfl,rfl,rfl,h1,h2⟩:=trodAll_cons h;simp only [all_cons,and_eq_true] at hok;obtain ⟨fuel,h1⟩:=h1;exact trodAll_cons_mk ⟨fuel,Ry hk d hok.1 h1 fun x hx=>hp x (mem_append_left _ hx)⟩ (IC hk hok.2 h2 fun x hx=>hp x (List.mem_append_right _ hx))
theorem L6 {f:Func} {s:ChangeSpec} {apart fresh handsOn again:Bool} {W W':World} {args:Array Value} {v:Value} {ds gs:List (DataW H)} {before pa pv:List MemPlace}
  (hW:DataW.Whole enc P f.params.toList s.vars apart W args.toList ds gs before)
  (hres:∀(b:Nat) (sp:Nat→Bool) (hd:Bool),DataW.TrodAll enc P W' b sp hd f.resultTypes.toList (v.resultList f.resultTypes.size) (s.fn H (ds++gs)).results [])
  (hargs:∀sp:Nat→Bool,(∀p∈before,sp p.block=true)→DataW.TrodAll enc P W' 0 sp true f.params.toList args.toList (s.fn H (ds++gs)).args pa)
  (hvars:∀sp:Nat→Bool,(∀p∈before,sp p.block=true)→DataW.TrodVars enc P W' sp s.vars (s.fn H (ds++gs)).vars pv)
  (hps:before=pa++pv) (hb:Below W.heap.size W W')
  (hok:∀(j:Nat) (t:TypeId) (r:Value),f.resultTypes[j]? = some t→(v.resultList f.resultTypes.size)[j]? = some r→Value.okWide P W' .any 0 t r) :
  s.post enc P f apart fresh handsOn again W args v W':=by
 have hlt:∀p∈before,p.block<W.heap.size:=fun p hp=>hW.lt p hp;have hold:∀p∈before,(fun b=>decide (b<W.heap.size)) p.block=true:=fun p hp=>by simpa using hlt p hp
 refine ⟨ds,gs,before,[],pa,pv,hW,hres _ _ _,hargs _ hold,hvars _ hold,World.keptBut_mono (fun p hp=>⟨hp,?_⟩) (hb.frame (· ∈before)),fun _ => ?_⟩
 ·rw [hps,mem_append] at hp;exact Or.inr hp
 ·obtain ⟨_,_,_,_,_,hz,hn⟩:=hW;refine ⟨hok,_,_,([]++pa)++pv,⟨[]++pa,pv,trodAll_append (hargs _ (fun _ _=>rfl)) (hres _ _ _),hvars _ (fun _ _=>rfl),rfl,?_,?_⟩,?_⟩
  ·intro b off hp;have hin:MemPlace.cell b off∈before:=by rw [hps];simpa using hp
   rw [hb.frozen (hlt _ hin)];exact hz b off hin
  ·intro ha;have:=hn ha;rw [hps] at this;simpa using this
  ·intro p hp _;rw [hps];simpa using hp
theorem Ig {C:Cfg} (hmix:C.P.follows .mixedOrders=true) (hext:JE C) {f:FuncId} {fn:Func} {s:ChangeSpec} {bt:TypeId} {d:Nat} (hlt:f<OWN) (hf:C.P.funcs[f]? = some fn) (hvars:s.vars=[]) (hps:fn.params.toList.all (L7 C.P d)=true) (hsz:(fn.params.toList.all fun t=>(BO C.P t).isSome)=true)
  (hrt:fn.resultTypes = #[bt]) (hbt:C.P.underlying bt=some .bool)
  (hspec:∀(H:Type) (ds:List (DataW H)),ds.length=fn.params.size→(s.fn H ds).results=[.lit (.bool true)]∧(s.fn H ds).args=ds∧(s.fn H ds).vars=[])
  (law:∀xs,Ek (Typed C.P d) fn.params.toList xs→∃n,AB C n f xs=some [.bool true])
  {apart fresh handsOn again:Bool} (W:World) (b0:Nat) (args:Array Value) (ds gs:List (DataW H)) (before:List MemPlace)
  (hval:∀(j:Nat) t v,fn.params[j]? = some t→args[j]? = some v→Value.okWide C.P W .any b0 t v)
  (hW:DataW.Whole enc C.P fn.params.toList s.vars apart W args.toList ds gs before) :
  Calls C.P f args W fun e W'=>∃v,e = .returned v∧s.post enc C.P fn apart fresh handsOn again W args v W':=by
 have hW':=hW;obtain ⟨p,q,hA,hV,hbf,hfz,hnd⟩:=hW;rw [hvars] at hV;obtain ⟨rfl,rfl⟩:=trodVars_none hV;have hlen:ds.length=fn.params.size:=by have:=Jr hA;simpa using this
 obtain ⟨s1,s2,s3⟩:=hspec H (ds++[]) (by simpa using hlen);obtain ⟨xs,h1,h2⟩:=Ix (b0:=b0) hps hsz (fun j t v ht hv=>hval j t v (by rw [← getElem?_toList];exact ht) (by rw [← getElem?_toList];exact hv)) hA;obtain ⟨n,hn⟩:=law xs h1;obtain ⟨avs,h3,h4⟩:=h2 (fun i =>.t (xs.getD i default)) 0 fun j x hx=>by rw [zero_add];simp [List.getD,hx]
 have hm:CU C.P f (fun i =>.t (xs.getD i default))=some avs:=by unfold CU;rw [hf];exact h3
 have h4':AU (fun _=>False) [] [] W avs args:=by simpa using h4
 have hpure:=Iy hmix hext hlt hn (fun _=>False) W avs args 0 hm (fun b hb=>hb.elim) h4';refine (callsIn_wide (n:=0)).1 (CallsIn.mono hpure ?_)
 rintro e W' ⟨v,r,rfl,hr,hv,hg,_⟩
 have hbv:v = .bool true:=by
  unfold Br at hr;rw [hf] at hr;simp only [hrt] at hr;have:Av C.P bt=some false:=by simp [Av,hbt]
  cases hs:BO C.P bt<;>simp [Bt,GR,this,hs] at hr<;>subst hr<;>(cases hv with|t _ _ ht=>cases ht;rfl)
 subst hbv;refine ⟨_,rfl,?_⟩;simp only [append_nil] at hbf;subst hbf;refine L6 (pa:=before) (pv:=[]) hW' (fun b sp hd => ?_) (fun sp hsp => ?_) (fun sp _ => ?_) (by simp) hg.below ?_
 ·rw [s1,hrt];exact trodAll_cons_mk (shut_bool hbt _) trodAll_mk0
 ·rw [s2,append_nil];exact IC hg.block hps hA hsp
 ·rw [hvars,s3];rfl
 ·exact ok_one hrt rfl (okWide_bool_mk hbt _)
#print axioms Ig
end Ab
namespace Ab
open Go
def hk (l:List (Nat×List Nat)) (i:Nat):List Nat:=(l.lookup i).getD []
def kinds:List IntKind:=[.i8,.i16,.i32,.i64,.u8,.u16,.u32,.u64]
def tmOf:Option Nat→AV
 |none =>.undef
 |some 0 =>.t (.bool false)
 |some (n+1)=>if n<8 then .t (.int (kinds.getD n .i64) 0) else if n=19 then .t (.str ByteArray.empty) else if 99≤n then .t (.sl (n-99) []) else .undef
abbrev HTab:=List (Nat×List (Nat×List Nat)×List (Nat×List Nat)×List (Nat×List Nat)×List (Nat×List Nat)×List (Nat×Nat)×List Nat×List Nat×List Nat×List Nat×List (Nat×Nat))
def TL (tab:HTab) (f:Nat):Hints:=
 match tab.lookup f with
 |some (a,b,c,d,r,t,i,j,k,m)=>{loop:=hk a,block:=hk b,cond:=hk c,reg:=hk d,rowsz:=fun x=>(r.lookup x).getD 0,tree:=t.contains,imm:=i.contains,immT:=j.contains,nilT:=k.contains,tm:=fun x=>tmOf (m.lookup x),split:=fun x=>(hk c x).contains 999999,only:=fun x=>if (hk c x).contains 999998 then 1 else if (hk c x).contains 999997 then 2 else 0}
 |none=>{loop:=fun _=>[],block:=fun _=>[],cond:=fun _=>[],reg:=fun _=>[],rowsz:=fun _=>0,tree:=fun _=>false,imm:=fun _=>false,immT:=fun _=>false,nilT:=fun _=>false,tm:=fun _ =>.undef}
end Ab
namespace Ab
open Go
def OJ (r:Int):Int:=if r.tmod 2=1 then Ck .u32 (IntKind.u32.wrap (r.tdiv 2)) 2197175160 else IntKind.u32.wrap (r.tdiv 2)
def steps:Nat→Int→Int
 |0,r=>r
 |k+1,r=>steps k (OJ r)
theorem Kb (k:Nat) (r:Int):steps (k+1) r=OJ (steps k r):=by
 induction k generalizing r with
 |zero=>rfl
 |succ k ih=>rw [steps,ih (OJ r)];rfl
def Ah (i:Nat):Array Value:=((List.range 256).map fun j=>if j<i then Value.int .u32 (steps 8 j) else .int .u32 0).toArray
theorem Ch (i:Nat):(Ah i).size=256:=by simp [Ah]
theorem O3:Ah 0=Array.replicate 256 (.int .u32 0):=by
 apply Array.ext
 ·simp [Ah]
 ·intro j h1 h2;simp [Ah]
theorem O4 (i:Nat) (hi:i<256):Ah (i+1)=(Ah i).setIfInBounds i (.int .u32 (steps 8 i)):=by
 apply Array.ext
 ·simp [Ah]
 ·intro j h1 h2;have hj:j<256:=by rw [Ch] at h1;exact h1
  rw [Array.getElem_setIfInBounds]
  ·simp only [Ah,List.getElem_toArray,List.getElem_map,List.getElem_range];by_cases h:i=j
   ·subst h;simp
   ·by_cases h2:j<i
    ·simp [h,h2,show j<i+1 by omega]
    ·simp [h,h2,show ¬j<i+1 by omega]
  ·rw [Ch];exact hj
theorem Ql (i:Nat):(Ah i).all (·.oneCell')=true:=by rw [Array.all_eq_true_iff_forall_mem];intro v hv;simp only [Ah,List.mem_toArray,mem_map,mem_range] at hv;obtain ⟨j,_,rfl⟩:=hv;split<;>rfl
theorem LS (i j:Nat) (hj:j<256):(Ah i)[j]? = some (if j<i then Value.int .u32 (steps 8 j) else .int .u32 0):=by simp [Ah,hj]
def ID:List Tree:=(List.range 256).map fun j =>.int .u32 (steps 8 (j:Nat))
end Ab
namespace Ab
open Go Go.Proofs Go.RowKit Go.Lib
set_option maxRecDepth 100000
set_option maxHeartbeats 4000000
theorem KT {P:Program} {o:Oper} {a:Act} {w:World} {K:Act→World→Prop} {Q:Exit→Act→World→Prop} {t:TypeId} {x:Operand} {v:Value} (ho:o.op = .load t x) (h:(Instr.loadAt t (a.eval x)).run P w = .ok v w) (hk:K (a.put o.dst v) w):o.wp P a w K Q:=by
 have:(execOp a.eval o).run P w = .ok (.value v) w:=by unfold execOp;rw [ho];simp [h]
 unfold Oper.wp;rw [this,Oper.upon_value];exact hk
theorem OD {P:Program} {o:Oper} {a:Act} {w w':World} {K:Act→World→Prop} {Q:Exit→Act→World→Prop} {t:TypeId} {x y:Operand} (ho:o.op = .store t x y) (h:(Instr.storeAt t (a.eval x) (a.eval y)).run P w = .ok () w') (hk:K (a.put o.dst undef) w'):o.wp P a w K Q:=by
 have:(execOp a.eval o).run P w = .ok .skip w':=by unfold execOp;rw [ho];simp [h]
 unfold Oper.wp;rw [this,Oper.upon_skip];exact hk
theorem Kc (r:Int) (w:World):Calls Tryz.prog 260 #[.int .u32 r] w fun e w'=>e = .returned (.int .u32 (steps 8 r))∧w'=w:=by
 go_enter Tryz.func260,Tryz.ntmps260
 go_wp2
 go_loopg [0,3] 8 (fun g s0 s3 wx=>∃i:Nat,i+g=8∧s0 = .int .u32 (steps i r)∧s3 = .int .i64 i∧wx=w)
 case atStart=>exact ⟨0,rfl,rfl,rfl,rfl⟩
 case round=>
  obtain ⟨i,hig,rfl,rfl,rfl⟩:=hrel;generalize hx:steps i r=x;cases gk with
  |zero=>
   obtain rfl:i=8:=by omega
   have hiz:¬(((8:Nat):Int)<(8:Int)):=by omega
   go_wp2
   go_ret
   exact ⟨rfl,rfl⟩
  |succ g=>
   have hiz:(i:Int)<(8:Int):=by omega
   have Hx:Aside (steps i r=x):=hx;clear hx;by_cases hodd:x.tmod 2=1
   ·have Hs:Aside (steps (i+1) r=Ck .u32 (IntKind.u32.wrap (x.tdiv 2)) 2197175160):=by show steps (i+1) r=_;rw [Kb,Hx.out,OJ,if_pos hodd]
    go_wp2
    go_roundg g
    case measure=>omega
    case rel=>exact ⟨i+1,by omega,by rw [Hs.out];rfl,by first|rfl|simp,rfl⟩
   ·have Hs:Aside (steps (i+1) r=IntKind.u32.wrap (x.tdiv 2)):=by show steps (i+1) r=_;rw [Kb,Hx.out,OJ,if_neg hodd]
    go_wp2
    go_roundg g
    case measure=>omega
    case rel=>exact ⟨i+1,by omega,by rw [Hs.out];rfl,by first|rfl|simp,rfl⟩
theorem OH (w:World):Calls Tryz.prog 234 #[] w fun e w'=>e = .returned (.agg (Ah 256))∧w'=(w.alloc (.cells (Ah 256) 352)).alloc (.cells (Ah 256) 352):=by
 go_enter Tryz.func234,Tryz.ntmps234
 have e1:(zeroValue 352).run Tryz.prog w = .ok (.agg (Array.replicate 256 (.int .u32 0))) w:=Tryz.zeroValue352 w
 go_wp2
 rw [← O3]
 go_loopg [2,3] 256 (fun g s2 s3 wx=>∃i:Nat,i+g=256∧s3 = .int .i64 i∧wx=(w.alloc (.cells (Ah 0) 352)).alloc (.cells (Ah i) 352))
 case atStart=>exact ⟨0,rfl,rfl,rfl⟩
 case round=>
  obtain ⟨i,hig,rfl,rfl⟩:=hrel;cases gk with
  |zero=>
   obtain rfl:i=256:=by omega
   have hiz:¬(((256:Nat):Int)<(256:Int)):=by omega
   have hsz:(w.alloc (.cells (Ah 0) 352)).heap.size=w.heap.size+1:=by simp
   have hld:=run_loadAt_new (P:=Tryz.prog) (w.alloc (.cells (Ah 0) 352)) 352 (Ah 256) 256 303 (by kernel_rfl) (by rw [Ch];kernel_rfl);rw [hsz] at hld;have h0:((w.alloc (.cells (Ah 0) 352)).alloc (.cells (Ah 256) 352)).heap[w.heap.size]? = some (.cells (Ah 0) 352):=by show ((w.heap.push _).push _)[w.heap.size]? = _;rw [getElem?_push_lt (by simp)];simp
   have hW:((w.alloc (.cells (Ah 0) 352)).alloc (.cells (Ah 256) 352)).setRow w.heap.size (Ah 256)=(w.alloc (.cells (Ah 256) 352)).alloc (.cells (Ah 256) 352):=by
    simp only [World.setRow,World.alloc];congr 1;apply Array.ext_getElem?;intro i;rw [Array.getElem?_modify];by_cases h:w.heap.size=i
    ·subst h;rw [getElem?_push_lt (by simp),getElem?_push_lt (by simp)];simp
    ·simp only [h,if_false,getElem?_push];simp [Ne.symm h]
   have Hld:Aside _:=hld;have hst2:(storeCells ⟨w.heap.size,0,none⟩ (Ah 256).toList 0).run Tryz.prog ((w.alloc (.cells (Ah 0) 352)).alloc (.cells (Ah 256) 352))= .ok () ((w.alloc (.cells (Ah 256) 352)).alloc (.cells (Ah 256) 352)):=by
    have h9:=run_storeCells_at Tryz.prog w.heap.size 0 352 (Ah 256).toList 0 (Ah 0) ((w.alloc (.cells (Ah 0) 352)).alloc (.cells (Ah 256) 352)) h0 (by simp [Ch]) (fun v hv=>by have:=Ql 256;rw [Array.all_eq_true_iff_forall_mem] at this;exact this v (by simpa using hv))
    have h10:((Ah 0).toList.take (0+0)++(Ah 256).toList++(Ah 0).toList.drop (0+0+(Ah 256).toList.length)).toArray=Ah 256:=by rw [List.drop_of_length_le (by simp [Ch])];simp
    rw [h10,hW] at h9;exact h9
   have Hst:Aside _:=hst2;have h1:((w.alloc (.cells (Ah 256) 352)).alloc (.cells (Ah 256) 352)).heap[w.heap.size]? = some (.cells (Ah 256) 352):=by show ((w.heap.push _).push _)[w.heap.size]? = _;rw [getElem?_push_lt (by simp)];simp
   have hu352:Tryz.prog.underlying 352=some (.array 256 303):=by kernel_rfl
   have hl2:=run_loadVar_row (P:=Tryz.prog) ((w.alloc (.cells (Ah 256) 352)).alloc (.cells (Ah 256) 352)) w.heap.size 352 352 (Ah 256) (0,0) _ h1 hu352 rfl (by rw [Ch];kernel_rfl);have Hl2:Aside _:=hl2;clear hld hst2 hsz h0 h1 hW hl2 hu352
   go_wp2
   refine KT (v :=.agg (Ah 256)) rfl Hld.out ?_
   go_wp2
   rw [Hst.out];simp only [Result.andThen];rw [Oper.upon_skip]
   go_wp2
   (try simp only [Exit.inBlock,Exit.then])
   refine bodyPost_ret (v :=.agg (Ah 256)) ?_ rfl ⟨rfl,rfl⟩;simp [results,asAddr,Result.andThen,Act.put,Hl2.out]
  |succ g=>
   have hiz:(i:Int)<(256:Int):=by omega
   have hw:IntKind.u32.wrap (i:Int)=i:=by simp only [IntKind.wrap,IntKind.signed,IntKind.bits];simp;omega
   have Hi:Aside (i<256):=by show i<256;omega
   go_wp2_with (go_at_fn 260;refine (Kc _ _).mono ?_)
   refine (Kc _ _).mono ?_
   rintro e w1 ⟨rfl,rfl⟩
   have hcell:(Ah i)[i]? = some (.int .u32 0):=by rw [LS i i Hi.out,if_neg (Nat.lt_irrefl i)]
   go_wp2
   go_roundg g
   case measure=>omega
   case rel=>exact ⟨i+1,by omega,by first|rfl|simp,by rw [O4 i Hi.out]⟩
theorem TJ:Du Tryz.prog 234 [] ID:=by
 intro B w avs vs n hm hB hc;have e:avs=[]:=by
  have:CU Tryz.prog 234 (fun i =>.t ((List.getD [] i default:Tree)))=some []:=by kernel_rfl
  rw [this] at hm;exact (Option.some.inj hm).symm
 subst e;obtain rfl:vs = #[]:=eq_empty_of_size_eq_zero (by simpa using hc.1);refine (callsIn_wide (n:=n)).2 (OH w) |>.mono ?_
 rintro e w' ⟨rfl,rfl⟩
 have hg:MF w ((w.alloc (.cells (Ah 256) 352)).alloc (.cells (Ah 256) 352)):=⟨rfl,rfl,rfl,by simp;omega,fun b hb=>by show ((w.heap.push _).push _)[b]? = _;rw [getElem?_push,if_neg (by simp;omega),getElem?_push,if_neg (ne_of_lt hb)]⟩
 have hr:Br Tryz.prog 234 (fun i =>.t (ID.getD i default))=some (.agg (Az (fun i =>.t (ID.getD i default)) 0 256)):=by
  have h1:Av Tryz.prog 352=some true:=by kernel_rfl
  have h2:BO Tryz.prog 352=some 256:=by kernel_rfl
  have h3:Tryz.prog.funcs[234]? = some Tryz.f234:=Tryz.func234;have h4:Tryz.f234.resultTypes.toList=[352]:=by kernel_rfl
  simp only [Br,h3,h4,Bt,GR,h1,h2,map_some]
 refine ⟨_,_,rfl,hr,.agg _ _ (by rw [Ch];simp [Az]) fun j x hx => ?_,hg,fun h => ?_⟩
 ·have hj:j<256:=by have:=AO hx;simpa [Az] using this
  have h1:=LS 256 j hj;rw [if_pos hj] at h1;have h2:(Ah 256).getD j undef = .int .u32 (steps 8 j):=by rw [Array.getD_eq_getD_getElem?,h1];rfl
  rw [h2];simp only [Az,getElem?_map,getElem?_range hj,map_some,Option.some.injEq,zero_add] at hx;subst hx;have h3:ID.getD j default = .int .u32 (steps 8 j):=by simp [ID,hj]
  rw [h3];exact .t _ _ (.int _ _)
 ·show ID.all Tree.scalar=true;rw [all_eq_true];intro x hx;simp only [ID,mem_map] at hx;obtain ⟨j,_,rfl⟩:=hx;rfl
end Ab
namespace Go.Proofs
open Go.Shelf
def Tryz.Og:Go.Shelf.Ren:=⟨fun|170=>55|n=>n,fun|70=>133|3=>3|0=>0|72=>135|37=>29|5=>5|n=>n,fun|n=>n⟩
theorem Tryz.lays170:Go.Proofs.Lays.n170 Tryz.prog Tryz.Og:={
 mixed:=by kernel_rfl
 f170:=Tryz.func55.trans (congrArg some (by kernel_rfl))
 t0:=Tryz.underlying0
 a0:=Tryz.isAgg0
 z0:=Tryz.sizeOf0
 v0:=Tryz.zeroValue0
 t3:=Tryz.underlying3
 a3:=Tryz.isAgg3
 z3:=Tryz.sizeOf3
 v3:=Tryz.zeroValue3
 t37:=Tryz.underlying29
 a37:=Tryz.isAgg29
 z37:=Tryz.sizeOf29
 v37:=Tryz.zeroValue29
 t70:=Tryz.underlying133
 a70:=Tryz.isAgg133
 z70:=Tryz.sizeOf133
 v70:=Tryz.zeroValue133
 t72:=Tryz.underlying135
 a72:=Tryz.isAgg135
 z72:=Tryz.sizeOf135
 v72:=Tryz.zeroValue135}
open Go.RowKit in
theorem Tryz.Builder_Len (B b:Nat) (bs:List Value) (w:World) (h:Lib.IsBuilder 135 5 B b bs w) :
  Calls Tryz.prog 55 #[.pointer (some ⟨b,0,none⟩)] w fun e w'=>e = .returned (.int .i64 bs.length)∧w'=w:=Any.Builder_Len Tryz.lays170 B b bs w h
def Tryz.J0:Go.Shelf.Ren:=⟨fun|169=>56|n=>n,fun|70=>133|9=>9|0=>0|72=>135|37=>29|127=>204|3=>3|5=>5|n=>n,fun|n=>n⟩
theorem Tryz.lays169:Go.Proofs.Lays.n169 Tryz.prog Tryz.J0:={
 mixed:=by kernel_rfl
 f169:=Tryz.func56.trans (congrArg some (by kernel_rfl))
 t0:=Tryz.underlying0
 a0:=Tryz.isAgg0
 z0:=Tryz.sizeOf0
 v0:=Tryz.zeroValue0
 t3:=Tryz.underlying3
 a3:=Tryz.isAgg3
 z3:=Tryz.sizeOf3
 v3:=Tryz.zeroValue3
 t9:=Tryz.underlying9
 a9:=Tryz.isAgg9
 z9:=Tryz.sizeOf9
 v9:=Tryz.zeroValue9
 t37:=Tryz.underlying29
 a37:=Tryz.isAgg29
 z37:=Tryz.sizeOf29
 v37:=Tryz.zeroValue29
 t70:=Tryz.underlying133
 a70:=Tryz.isAgg133
 z70:=Tryz.sizeOf133
 v70:=Tryz.zeroValue133
 t72:=Tryz.underlying135
 a72:=Tryz.isAgg135
 z72:=Tryz.sizeOf135
 v72:=Tryz.zeroValue135
 t127:=Tryz.underlying204
 a127:=Tryz.isAgg204
 z127:=Tryz.sizeOf204
 v127:=Tryz.zeroValue204}
theorem Tryz.B4:Builder.Extra Tryz.prog Tryz.J0:={
 sizeBuilder:=by kernel_rfl
 liesBuilder:=by kernel_rfl
 t5:=Tryz.underlying5
 a5:=Tryz.isAgg5
 z5:=Tryz.sizeOf5
 v5:=Tryz.zeroValue5
 infoByte:=by kernel_rfl
 cellsByte:=by kernel_rfl
 sizeByte:=by kernel_rfl
 neB5:=by decide}
open Go.RowKit in
open Go.RowKit in
open Go.RowKit in
theorem Tryz.Builder_String_any (B b:Nat) (l:List UInt8) (w:World) (h:Lib.IsBuilder 135 5 B b (Lib.byteCells l) w) (hBw:B≤w.heap.size) :
  Calls Tryz.prog 56 #[.pointer (some ⟨b,0,none⟩)] w fun e w'=>e = .returned (.string ⟨l.toArray⟩)∧Below B w w':=Any.Builder_String_any Tryz.lays169 Tryz.B4 B b l w h hBw
end Go.Proofs
namespace Ab
open Go Go.Proofs Go.RowKit Go.Lib Go.Shelf
set_option maxRecDepth 100000
set_option maxHeartbeats 4000000
theorem Qj (b:Nat) (w:World) (h0:w.cell? ⟨b,0,none⟩=some (.pointer (some ⟨b,0,none⟩))) :
  Calls Tryz.prog 94 #[.pointer (some ⟨b,0,none⟩)] w fun e w'=>e = .returned (.tuple #[])∧w'=w:=by
 obtain ⟨j,hj,_⟩:=Option.map_eq_some_iff.1 Tryz.B4.sizeBuilder;have ht:Tryz.prog.underlying 133=some (.pointer 135):=by kernel_rfl
 go_enter Tryz.func94,Tryz.ntmps94
 go_wp2
 rw [Lib.run_neq_ptr_same w _ ht hj]
 go_wp2
 go_end0
 exact ⟨rfl,rfl⟩
theorem O2 (b:Nat) (w:World) (h0:w.cell? ⟨b,0,none⟩=some (.pointer none)) (hsh:w.shape? b=some (135,2)) (hfz:w.frozen? ⟨b,0,none⟩=false) :
  Calls Tryz.prog 94 #[.pointer (some ⟨b,0,none⟩)] w fun e w'=>e = .returned (.tuple #[])∧w'=w.setCell ⟨b,0,none⟩ (.pointer (some ⟨b,0,none⟩)):=by
 obtain ⟨j,hj,hjs⟩:=Option.map_eq_some_iff.1 Tryz.B4.sizeBuilder;have ht:Tryz.prog.underlying 133=some (.pointer 135):=by kernel_rfl
 have hu:Tryz.prog.underlying 266=some .unsafePointer:=by kernel_rfl
 have hl:=Tryz.B4.liesBuilder
 go_enter Tryz.func94,Tryz.ntmps94
 go_wp2
 rw [Lib.run_to_unsafe w ⟨b,0,none⟩ ht hu hj (by rw [hjs];decide) hsh (Nat.zero_lt_succ 1)];simp only [Result.andThen];rw [Oper.upon_value]
 go_wp2
 rw [run_callFunc_extern Tryz.func154 (by kernel_rfl) (by kernel_rfl) (by kernel_rfl) (e:=Extern.AbiNoEscape.same) (by kernel_rfl)];rw [Lib.run_noEscape];simp only [Result.andThen];rw [Oper.upon_value]
 go_wp2
 rw [Lib.run_from_unsafe w ⟨b,0,none⟩ hu ht hj hsh hl];simp only [Result.andThen];rw [Oper.upon_value]
 go_wp2
 go_end0
 exact ⟨rfl,rfl⟩
theorem Mv (B b:Nat) (bs:List Value) (w:World) (h:Lib.IsBuilder 135 5 B b bs w) :
  Calls Tryz.prog 94 #[.pointer (some ⟨b,0,none⟩)] w fun e w'=>e = .returned (.tuple #[])∧(Lib.BuilderAt 135 5 B b (.pointer (some ⟨b,0,none⟩)) bs w'∧Below B w w'):=by
 rcases h with h|h
 ·refine (O2 b w h.cell0 h.shape h.frozen0).mono ?_
  rintro e w' ⟨rfl,rfl⟩
  exact ⟨rfl,h.used _,(Below.refl B w).setCell (p:=⟨b,0,none⟩) h.1 _⟩
 ·refine (Qj b w h.cell0).mono ?_
  rintro e w' ⟨rfl,rfl⟩
  exact ⟨rfl,h,Below.refl B _⟩
end Ab
namespace Ab
open Go Go.Proofs Go.RowKit Go.Lib Go.Shelf
set_option maxRecDepth 100000
set_option maxHeartbeats 4000000
theorem Cl (B b:Nat) (bs:List Value) (s:ByteArray) (w:World) (h:Lib.IsBuilder 135 5 B b bs w) (hlen:bs.length+s.size≤140737488355328) (hBw:B≤w.heap.size) :
  Calls Tryz.prog 53 #[.pointer (some ⟨b,0,none⟩),.string s] w fun e w'=>e = .returned (.tuple #[.int .i64 s.size,.nilIface])∧(Lib.BuilderAt 135 5 B b (.pointer (some ⟨b,0,none⟩)) (bs++Lib.strCells s) w'∧Below B w w'):=by
 obtain ⟨i0,hi,hz0,hz1,hz2⟩:=info_parts Tryz.B4.infoByte;have t29:Tryz.prog.underlying 29=some (.slice 5):=by kernel_rfl
 have t9:Tryz.prog.underlying 9=some .string:=by kernel_rfl
 go_enter Tryz.func53,Tryz.ntmps53
 go_wp2_with (go_at_fn 94;refine (Mv B b bs _ h).mono ?_)
 refine (Mv B b bs _ h).mono ?_
 rintro e w1 ⟨rfl,h1,hb1⟩
 obtain ⟨hB,v,hbk,hown,hne⟩:=h1;have c0:w1.cell? ⟨b,0,none⟩=some (.pointer (some ⟨b,0,none⟩)):=by rw [Lib.cell_of_heap hbk];rfl
 have c1:w1.cell? ⟨b,1,none⟩=some v:=by rw [Lib.cell_of_heap hbk];rfl
 go_wp2_with (at_builtin;refine Lib.wpList_append_own_string _ rfl _ _ 29 9 rfl B 5 i0 t29 t9 hi hz0 hz1 hz2 _ _ _ rfl hown s rfl ?c3 ?c4 ?c5 ?_)
 case c3=>unfold maxLen;omega
 case c4=>omega
 case c5=>have:=hb1.size;omega
 intro v' w2 hown' hgrow _;have hlt:b<w1.heap.size:=by
  rcases lt_or_ge b w1.heap.size with h'|h'
  ·exact h'
  ·simp [Array.getElem?_eq_none h'] at hbk
 have hb2:w2.heap[b]? = some (.cells #[.pointer (some ⟨b,0,none⟩),v] 135 (0,0)):=by rw [hgrow.block b hlt (fun e=>hne e.symm)];exact hbk
 have d0:w2.cell? ⟨b,0,none⟩=some (.pointer (some ⟨b,0,none⟩)):=by rw [Lib.cell_of_heap hb2];rfl
 have d1:w2.cell? ⟨b,1,none⟩=some v:=by rw [Lib.cell_of_heap hb2];rfl
 have f1:w2.frozen? ⟨b,1,none⟩=false:=Lib.frozen_of_heap hb2 1;obtain ⟨ao,n',cap,rfl⟩:∃ao n' cap,v' = .slice ao n' cap:=by
  rcases hown'.2 with ⟨hv,_⟩|⟨g,cap,cur,hv,_⟩
  ·exact ⟨_,_,_,hv⟩
  ·exact ⟨_,_,_,hv⟩
 go_wp2
 go_ret2
 refine ⟨rfl,?_,?_⟩
 ·exact Lib.BuilderAt.put (T:=135) (e:=5) hB hb2 (bs':=bs++Lib.strCells s) (by simpa [Lib.strCells_length] using hown') (by decide)
 ·exact (hb1.grown hgrow (by have:=hb1.size;omega) (fun k hk=>(hown.lt k hk).1)).setCell (p:=⟨b,1,none⟩) hB _
end Ab
namespace Ab
open Go
def Ev (p:Nat→Prop):Prop:=∃N,∀n,N≤n→p n
theorem Ev.of {p:Nat→Prop} (h:∀n,p n):Ev p:=⟨0,fun n _=>h n⟩
theorem Ev.mono {p q:Nat→Prop} (h:∀n,p n→q n):Ev p→Ev q
 |⟨N,hN⟩=>⟨N,fun n hn=>h n (hN n hn)⟩
theorem Ev.and {p q:Nat→Prop}:Ev p→Ev q→Ev fun n=>p n∧q n
 |⟨N,hN⟩,⟨M,hM⟩=>⟨max N M,fun n hn=>⟨hN n (by omega),hM n (by omega)⟩⟩
theorem Ev.rw {R:Type} {H:Nat→Prop} {T T':Nat→R} {r:R} (hH:Ev H) (h:∀n,H n→T n=T' n) (k:Ev fun n=>T' n=r):Ev fun n=>T n=r:=
 (hH.and k).mono fun n x=>(h n x.1).trans x.2
theorem Ev.conv' {P Q:Nat→Prop} (h:∀n,Q n→P n) (k:Ev Q):Ev P:=k.mono h
theorem Ev.succ {p:Nat→Prop}:(Ev fun n=>p (n+1))→Ev p
 |⟨N,hN⟩=>⟨N+1,fun n hn=>by
  obtain ⟨m,rfl⟩:∃m,n=m+1:=⟨n-1,by omega⟩
  exact hN m (by omega)⟩
theorem Ev.ge (k:Nat):Ev fun n=>k≤n:=⟨k,fun _ h=>h⟩
def AL (C:Cfg) (f:FuncId) (xs ys:List Tree):Prop:=Ev fun n=>AB C n f xs=some ys
theorem AL.of {C:Cfg} {f:FuncId} {xs ys:List Tree} {g:Nat→Option (List Tree)} (h:∀n,AB C (n+1) f xs=g n) (k:Ev fun n=>g n=some ys):AL C f xs ys:=
 Ev.succ (k.mono fun n e=>(h n).trans e)
variable {R S α σ:Type}
theorem AZ {c:Prop} [Decidable c] (h:c) (a b:Option R):cnd c a b=a:=by rw [AD,if_pos h]
theorem Aw {c:Prop} [Decidable c] (h:¬c) (a b:Option R):cnd c a b=b:=by rw [AD,if_neg h]
inductive Rd (σ Q:Type) where
 |next (s:σ)
 |done (r:Q)
def Rd.go {Q:Type} (again:σ→Option R) (out:Q→Option R):Rd σ Q→Option R
 | .next s=>again s
 | .done r=>out r
def Rd.fin {Q:Type} (res:σ→Q):Rd σ Q→Q
 | .next s=>res s
 | .done r=>r
theorem Rd.As {Q:Type} (again:σ→Option R) (out:Q→Option R) (s:σ):(Rd.next s:Rd σ Q).go again out=again s:=rfl
theorem Rd.BX {Q:Type} (again:σ→Option R) (out:Q→Option R) (r:Q):(Rd.done r:Rd σ Q).go again out=out r:=rfl
def B9 {Q:Type} (step:Nat→σ→α→Rd σ Q) (fin:σ→Q):Nat→List α→σ→Q
 |_,[],s=>fin s
 |i,x::l,s=>match step i s x with
  | .next s'=>B9 step fin (i+1) l s'
  | .done r=>r
theorem Ma {Z Q:Type} {B:Nat→Z→S→(S→Option R)→Option R} (l:List α) (st:Nat→σ→S) (step:Nat→σ→α→Rd σ Q) (fin:σ→Q) (out:Z→Q→Option R) (Inv:Nat→σ→Prop)
  (hstep:∀i s x,l[i]? = some x→Inv i s→Ev fun n=>∀z again,B n z (st i s) again=(step i s x).go (fun s'=>again (st (i+1) s')) (out z))
  (hinv:∀i s x s',l[i]? = some x→Inv i s→step i s x = .next s'→Inv (i+1) s')
  (hend:∀s,Inv l.length s→Ev fun n=>∀z again,B n z (st l.length s) again=out z (fin s)) :
  ∀(k i:Nat) (s:σ),i+k=l.length→Inv i s→Ev fun n=>∀z m,k<m→AH (B n z) m (st i s)=out z (B9 step fin i (l.drop i) s)
 |0,i,s,hi,hI=>by
  obtain rfl:i=l.length:=by omega
  refine (hend s hI).mono fun n h z m hm => ?_;obtain ⟨m,rfl⟩:∃q,m=q+1:=⟨m-1,by omega⟩
  show B n z _ _=_;rw [h];simp [B9]
 |k+1,i,s,hi,hI=>by
  have hlt:i<l.length:=by omega
  have hx:l[i]? = some l[i]:=getElem?_eq_getElem hlt;have hd:l.drop i=l[i]::l.drop (i+1):=drop_eq_getElem_cons hlt;cases hs:step i s l[i] with
  |next s'=>
   have ih:=Ma l st step fin out Inv hstep hinv hend k (i+1) s' (by omega) (hinv i s _ s' hx hI hs);refine ((hstep i s _ hx hI).and ih).mono fun n h z m hm => ?_;obtain ⟨m,rfl⟩:∃q,m=q+1:=⟨m-1,by omega⟩
   show B n z _ (AH (B n z) m)=_;rw [h.1,hs,hd];simp only [Rd.As,B9,hs];exact h.2 z m (by omega)
  |done r=>
   refine (hstep i s _ hx hI).mono fun n h z m hm => ?_;obtain ⟨m,rfl⟩:∃q,m=q+1:=⟨m-1,by omega⟩
   show B n z _ (AH (B n z) m)=_;rw [h,hs,hd];simp only [Rd.BX,B9,hs]
theorem Oo {Z Q:Type} {B:Nat→Z→S→(S→Option R)→Option R} (l:List α) (st:Nat→σ→S) (step:Nat→σ→α→Rd σ Q) (fin:σ→Q) (out:Z→Q→Option R) (Inv:Nat→σ→Prop) (s0:σ) (h0:Inv 0 s0)
  (hstep:∀i s x,l[i]? = some x→Inv i s→Ev fun n=>∀z again,B n z (st i s) again=(step i s x).go (fun s'=>again (st (i+1) s')) (out z))
  (hinv:∀i s x s',l[i]? = some x→Inv i s→step i s x = .next s'→Inv (i+1) s')
  (hend:∀s,Inv l.length s→Ev fun n=>∀z again,B n z (st l.length s) again=out z (fin s)) :
  Ev fun n=>∀z,AH (B n z) n (st 0 s0)=out z (B9 step fin 0 l s0):=by
 have h:=Ma l st step fin out Inv hstep hinv hend l.length 0 s0 (by omega) h0;refine (h.and (Ev.ge (l.length+1))).mono fun n x z => ?_;have:=x.1 z n (by omega);simpa using this
theorem KU {Z Q:Type} {B:Nat→Z→S→(S→Option R)→Option R} (st:σ→S) (step:σ→Rd σ Q) (out:Z→Q→Option R) (Inv:σ→Prop) (μ:σ→Nat)
  (hstep:∀s,Inv s→Ev fun n=>∀z again,B n z (st s) again=(step s).go (fun s'=>again (st s')) (out z))
  (hinv:∀s s',Inv s→step s = .next s'→Inv s'∧μ s'<μ s) (res:σ→Q) (hres:∀s,Inv s→res s=(step s).fin res) :
  ∀(k:Nat) (s:σ),μ s≤k→Inv s→Ev fun n=>∀z m,k<m→AH (B n z) m (st s)=out z (res s)
 |k,s,hk,hI=>by
  cases hs:step s with
  |next s'=>
   obtain ⟨h1,h2⟩:=hinv s s' hI hs;obtain ⟨k,rfl⟩:∃q,k=q+1:=⟨k-1,by omega⟩
   have ih:=KU st step out Inv μ hstep hinv res hres k s' (by omega) h1;refine ((hstep s hI).and ih).mono fun n h z m hm => ?_;obtain ⟨m,rfl⟩:∃q,m=q+1:=⟨m-1,by omega⟩
   show B n z _ (AH (B n z) m)=_;rw [h.1,hs,Rd.As,hres s hI,hs];show _=out z (res s');exact h.2 z m (by omega)
  |done r=>
   refine (hstep s hI).mono fun n h z m hm => ?_;obtain ⟨m,rfl⟩:∃q,m=q+1:=⟨m-1,by omega⟩
   show B n z _ (AH (B n z) m)=_;rw [h,hs,Rd.BX,hres s hI,hs];rfl
theorem SU {Z Q:Type} {B:Nat→Z→S→(S→Option R)→Option R} (st:σ→S) (step:σ→Rd σ Q) (out:Z→Q→Option R) (Inv:σ→Prop) (μ:σ→Nat) (s0:σ) (h0:Inv s0)
  (hstep:∀s,Inv s→Ev fun n=>∀z again,B n z (st s) again=(step s).go (fun s'=>again (st s')) (out z))
  (hinv:∀s s',Inv s→step s = .next s'→Inv s'∧μ s'<μ s) (res:σ→Q) (hres:∀s,Inv s→res s=(step s).fin res) :
  Ev fun n=>∀z,AH (B n z) n (st s0)=out z (res s0):=by
 have h:=KU st step out Inv μ hstep hinv res hres (μ s0) s0 (le_refl _) h0;exact (h.and (Ev.ge (μ s0+1))).mono fun n x z=>x.1 z n (by omega)
theorem Fg {Z Q:Type} {B:Nat→Z→S→(S→Option R)→Option R} {s:S} {r:Q} (l:List α) (st:Nat→σ→S) (step:Nat→σ→α→Rd σ Q) (fin:σ→Q) (out:Z→Q→Option R) (Inv:Nat→σ→Prop) (s0:σ) (hs:s=st 0 s0) (h0:Inv 0 s0) (hr:B9 step fin 0 l s0=r)
  (hstep:∀i s x,l[i]? = some x→Inv i s→Ev fun n=>∀z again,B n z (st i s) again=(step i s x).go (fun s'=>again (st (i+1) s')) (out z))
  (hinv:∀i s x s',l[i]? = some x→Inv i s→step i s x = .next s'→Inv (i+1) s')
  (hend:∀s,Inv l.length s→Ev fun n=>∀z again,B n z (st l.length s) again=out z (fin s)) :
  Ev fun n=>∀z,AH (B n z) n s=out z r:=by
 subst hs;subst hr;exact Oo l st step fin out Inv s0 h0 hstep hinv hend
theorem UY {i:Decidable True} (a b:Option R):cnd True a b=a:=AZ trivial a b
theorem Se {i:Decidable False} (a b:Option R):cnd False a b=b:=Aw id a b
theorem wrap64 (x:Int):IntKind.wrap .i64 x=(x+9223372036854775808) % 18446744073709551616-9223372036854775808:=by simp only [IntKind.wrap,IntKind.signed,IntKind.bits];simp;omega
theorem wrap_id {x:Int} (h1 : -9223372036854775808≤x) (h2:x<9223372036854775808):IntKind.wrap .i64 x=x:=by rw [wrap64];omega
abbrev tI (n:Int):Tree :=.int .i64 n
abbrev w64 (n:Int):Int:=IntKind.wrap .i64 n
def vI (p:List AV×Heap) (k:Nat):Int:=intOf (Au (p.1.getD k .undef))
def vB (p:List AV×Heap) (k:Nat):Bool:=Bu (Au (p.1.getD k .undef))
def vS (p:List AV×Heap) (k:Nat):ByteArray:=strOf (Au (p.1.getD k .undef))
def vL (p:List AV×Heap) (k:Nat):List (List Tree):=FK (Au (p.1.getD k .undef))
def Ar (p:List AV×Heap) (k:Nat):Nat:=En (p.1.getD k .undef)
def A1 (p:List AV×Heap) (k:Nat):Nat:=HR (p.1.getD k .undef)
def AR (p:List AV×Heap) (k:Nat):Nat:=HS (p.1.getD k .undef)
def AF (p:List AV×Heap) (k:Nat):Nat:=AQ.ver (p.2.getD k default)
def oEs (p:List AV×Heap) (k:Nat):List (List Tree):=QX (p.2.getD k default)
def cI (p:List AV×Heap) (k j:Nat):Int:=intOf (Au (cellOf (p.2.getD k default) j))
def cB (p:List AV×Heap) (k j:Nat):Bool:=Bu (Au (cellOf (p.2.getD k default) j))
def cS (p:List AV×Heap) (k j:Nat):ByteArray:=strOf (Au (cellOf (p.2.getD k default) j))
def cL (p:List AV×Heap) (k j:Nat):List (List Tree):=FK (Au (cellOf (p.2.getD k default) j))
def AJ (p:List AV×Heap) (k j:Nat):Nat:=En (cellOf (p.2.getD k default) j)
def AK (p:List AV×Heap) (k j:Nat):Nat:=HR (cellOf (p.2.getD k default) j)
def AI (p:List AV×Heap) (k j:Nat):Nat:=HS (cellOf (p.2.getD k default) j)
def aI (p:List AV×Heap) (k j:Nat):Int:=intOf (Au (cellOf (.box (D7 (p.1.getD k .undef))) j))
def aB (p:List AV×Heap) (k j:Nat):Bool:=Bu (Au (cellOf (.box (D7 (p.1.getD k .undef))) j))
def aS (p:List AV×Heap) (k j:Nat):ByteArray:=strOf (Au (cellOf (.box (D7 (p.1.getD k .undef))) j))
def aL (p:List AV×Heap) (k j:Nat):List (List Tree):=FK (Au (cellOf (.box (D7 (p.1.getD k .undef))) j))
def gI (y:List Tree) (k:Nat):Int:=intOf (y.getD k default)
def gB (y:List Tree) (k:Nat):Bool:=Bu (y.getD k default)
def gS (y:List Tree) (k:Nat):ByteArray:=strOf (y.getD k default)
def gL (y:List Tree) (k:Nat):List (List Tree):=FK (y.getD k default)
def okI (y:List Tree) (k:Nat):Prop:=Ce .i64 (y.getD k default)=true
def okB (y:List Tree) (k:Nat):Prop:=C9 (y.getD k default)=true
def okS (y:List Tree) (k:Nat):Prop:=FD (y.getD k default)=true
def okL (z:Nat) (y:List Tree) (k:Nat):Prop:=Et z (y.getD k default)=true
instance (y:List Tree) (k:Nat):Decidable (okI y k):=inferInstanceAs (Decidable (_=true))
instance (y:List Tree) (k:Nat):Decidable (okB y k):=inferInstanceAs (Decidable (_=true))
instance (y:List Tree) (k:Nat):Decidable (okS y k):=inferInstanceAs (Decidable (_=true))
instance (z:Nat) (y:List Tree) (k:Nat):Decidable (okL z y k):=inferInstanceAs (Decidable (_=true))
theorem BL {i:Nat} (h:i<4611686018427387904):w64 ((i:Int)+1)=((i+1:Nat):Int):=by show IntKind.wrap .i64 _=_;rw [wrap64];omega
theorem OE {i:Nat} (h:i<4611686018427387904) (h0:0<i):w64 ((i:Int)-1)=((i-1:Nat):Int):=by show IntKind.wrap .i64 _=_;rw [wrap64];omega
theorem AX {x:Int} (h1 : -9223372036854775808≤x) (h2:x<9223372036854775808):w64 x=x:=wrap_id h1 h2
theorem CQ {Q:Type} (f:σ→α→σ) (fin:σ→Q):∀(i:Nat) (l:List α) (s:σ),B9 (fun _ s x =>.next (f s x)) fin i l s=fin (l.foldl f s)
 |_,[],_=>rfl
 |i,x::l,s=>by show B9 (fun _ s x =>.next (f s x)) fin (i+1) l (f s x)=_;rw [CQ f fin (i+1) l];rfl
theorem AY {l:List α} {i:Nat} {x:α} (h:l[i]? = some x):i<l.length:=(List.getElem?_eq_some_iff.1 h).1
theorem He (c:Prop) [Decidable c] (a b:Bool):cnd c (some [Tree.bool a]) (some [Tree.bool b])=some [Tree.bool (if c then a else b)]:=by rw [AD];split<;>rfl
theorem Ao {Q:Type} {B:Nat→S→(S→Option R)→Option R} {s:S} (out:Q→R) (l:List α) (st:Nat→σ→S) (step:Nat→σ→α→Rd σ Q) (fin:σ→Q) (Inv:Nat→σ→Prop) (s0:σ) (hs:s=st 0 s0) (h0:Inv 0 s0) {r:Q} (hr:B9 step fin 0 l s0=r)
  (hstep:∀i s x,l[i]? = some x→Inv i s→Ev fun n=>∀again,B n (st i s) again=(step i s x).go (fun s'=>again (st (i+1) s')) (fun q=>some (out q)))
  (hinv:∀i s x s',l[i]? = some x→Inv i s→step i s x = .next s'→Inv (i+1) s')
  (hend:∀s,Inv l.length s→Ev fun n=>∀again,B n (st l.length s) again=some (out (fin s))) :
  Ev fun n=>AH (B n) n s=some (out r):=by
 subst hs;subst hr;exact (Oo (Z:=Unit) (B:=fun n _=>B n) l st step fin (fun _ q=>some (out q)) Inv s0 h0 (fun i s x hx hI=>(hstep i s x hx hI).mono fun n h _=>h) hinv fun s hI=>(hend s hI).mono fun n h _=>h).mono fun n h=>h ()
theorem Jo {Z Q:Type} {B:Nat→Z→S→(S→Option R)→Option R} {s:S} {r:Q} (out:Z→Q→Option R) (st:σ→S) (step:σ→Rd σ Q) (Inv:σ→Prop) (μ:σ→Nat) (res:σ→Q) (s0:σ) (hs:s=st s0) (h0:Inv s0) (hr:res s0=r)
  (hstep:∀s,Inv s→Ev fun n=>∀z again,B n z (st s) again=(step s).go (fun s'=>again (st s')) (out z))
  (hinv:∀s s',Inv s→step s = .next s'→Inv s'∧μ s'<μ s) (hres:∀s,Inv s→res s=(step s).fin res) :
  Ev fun n=>∀z,AH (B n z) n s=out z r:=by
 subst hs;subst hr;exact SU st step out Inv μ s0 h0 hstep hinv res hres
theorem Jp {Q:Type} {B:Nat→S→(S→Option R)→Option R} {s:S} {r:Q} (out:Q→R) (st:σ→S) (step:σ→Rd σ Q) (Inv:σ→Prop) (μ:σ→Nat) (res:σ→Q) (s0:σ) (hs:s=st s0) (h0:Inv s0) (hr:res s0=r)
  (hstep:∀s,Inv s→Ev fun n=>∀again,B n (st s) again=(step s).go (fun s'=>again (st s')) (fun q=>some (out q)))
  (hinv:∀s s',Inv s→step s = .next s'→Inv s'∧μ s'<μ s) (hres:∀s,Inv s→res s=(step s).fin res) :
  Ev fun n=>AH (B n) n s=some (out r):=
 (Jo (Z:=Unit) (B:=fun n _=>B n) (fun _ q=>some (out q)) st step Inv μ res s0 hs h0 hr (fun s hI=>(hstep s hI).mono fun n h _=>h) hinv hres).mono fun n h=>h ()
theorem OO {Q:Type} (p:α→Bool) (a b:Q):∀(i:Nat) (l:List α),B9 (fun _ (_:Unit) x=>if p x=true then .next () else .done a) (fun _=>b) i l ()=if l.all p=true then b else a
 |_,[]=>rfl
 |i,x::l=>by
  by_cases h:p x=true
  ·simp [B9,h,OO p a b (i+1) l]
  ·simp [B9,h]
def Ng [DecidableEq α] (b:List α) (i:Nat) (_:Unit) (x:α):Rd Unit Bool:=if b[i]? = some x then .next () else .done false
theorem UI [DecidableEq α] (b:List α):∀(a:List α) (i:Nat),i+a.length=b.length→B9 (Ng b) (fun _=>true) i a ()=decide (a=b.drop i)
 |[],i,h=>by have:b.drop i=[]:=List.drop_eq_nil_of_le (by simp at h;omega);simp [B9,this]
 |x::a,i,h=>by
  have hi:i<b.length:=by simp at h;omega
  have hd:b.drop i=b[i]::b.drop (i+1):=drop_eq_getElem_cons hi;have hb:b[i]? = some b[i]:=getElem?_eq_getElem hi;have ih:=UI b a (i+1) (by simp at h;omega);simp only [B9,Ng,hb,hd];by_cases hx:b[i]=x
  ·simp only [hx,if_true];exact ih.trans (by simp)
  ·have hx2:¬x=b[i]:=fun e=>hx e.symm;simp only [Option.some.injEq,hx,if_false,List.cons.injEq,hx2,false_and,decide_false]
theorem vI_mk (e:List AV) (h:Heap) (k:Nat):vI (e,h) k=intOf (Au (e.getD k .undef)):=id rfl
theorem TF (e:List AV) (h:Heap) (k:Nat):vB (e,h) k=Bu (Au (e.getD k .undef)):=id rfl
theorem vS_mk (e:List AV) (h:Heap) (k:Nat):vS (e,h) k=strOf (Au (e.getD k .undef)):=id rfl
theorem vL_mk (e:List AV) (h:Heap) (k:Nat):vL (e,h) k=FK (Au (e.getD k .undef)):=id rfl
theorem sVer_mk (e:List AV) (h:Heap) (k:Nat):Ar (e,h) k=En (e.getD k .undef):=id rfl
theorem sOff_mk (e:List AV) (h:Heap) (k:Nat):A1 (e,h) k=HR (e.getD k .undef):=id rfl
theorem sLen_mk (e:List AV) (h:Heap) (k:Nat):AR (e,h) k=HS (e.getD k .undef):=id rfl
theorem oVer_mk (e:List AV) (h:Heap) (k:Nat):AF (e,h) k=AQ.ver (h.getD k default):=id rfl
theorem oEs_mk (e:List AV) (h:Heap) (k:Nat):oEs (e,h) k=QX (h.getD k default):=id rfl
theorem cI_mk (e:List AV) (h:Heap) (k j:Nat):cI (e,h) k j=intOf (Au (cellOf (h.getD k default) j)):=id rfl
theorem cB_mk (e:List AV) (h:Heap) (k j:Nat):cB (e,h) k j=Bu (Au (cellOf (h.getD k default) j)):=id rfl
theorem cS_mk (e:List AV) (h:Heap) (k j:Nat):cS (e,h) k j=strOf (Au (cellOf (h.getD k default) j)):=id rfl
theorem cL_mk (e:List AV) (h:Heap) (k j:Nat):cL (e,h) k j=FK (Au (cellOf (h.getD k default) j)):=id rfl
theorem cVer_mk (e:List AV) (h:Heap) (k j:Nat):AJ (e,h) k j=En (cellOf (h.getD k default) j):=id rfl
theorem cOff_mk (e:List AV) (h:Heap) (k j:Nat):AK (e,h) k j=HR (cellOf (h.getD k default) j):=id rfl
theorem cLen_mk (e:List AV) (h:Heap) (k j:Nat):AI (e,h) k j=HS (cellOf (h.getD k default) j):=id rfl
theorem aI_mk (e:List AV) (h:Heap) (k j:Nat):aI (e,h) k j=intOf (Au ((D7 (e.getD k .undef)).getD j .undef)):=id rfl
theorem aB_mk (e:List AV) (h:Heap) (k j:Nat):aB (e,h) k j=Bu (Au ((D7 (e.getD k .undef)).getD j .undef)):=id rfl
theorem aS_mk (e:List AV) (h:Heap) (k j:Nat):aS (e,h) k j=strOf (Au ((D7 (e.getD k .undef)).getD j .undef)):=id rfl
theorem aL_mk (e:List AV) (h:Heap) (k j:Nat):aL (e,h) k j=FK (Au ((D7 (e.getD k .undef)).getD j .undef)):=id rfl
theorem Sx (cs:List AV):D7 (.agg cs)=cs:=id rfl
theorem join_eq {S:Type} (J:S→Option R) (f:(S→Option R)→Option R):join J f=f J:=id rfl
theorem gI_zero (x:Tree) (l:List Tree):gI (x::l) 0=intOf x:=id rfl
theorem gI_succ (x:Tree) (l:List Tree) (k:Nat):gI (x::l) (k+1)=gI l k:=id rfl
theorem gB_zero (x:Tree) (l:List Tree):gB (x::l) 0=Bu x:=id rfl
theorem gB_succ (x:Tree) (l:List Tree) (k:Nat):gB (x::l) (k+1)=gB l k:=id rfl
theorem gS_zero (x:Tree) (l:List Tree):gS (x::l) 0=strOf x:=id rfl
theorem gS_succ (x:Tree) (l:List Tree) (k:Nat):gS (x::l) (k+1)=gS l k:=id rfl
theorem gL_zero (x:Tree) (l:List Tree):gL (x::l) 0=FK x:=id rfl
theorem gL_succ (x:Tree) (l:List Tree) (k:Nat):gL (x::l) (k+1)=gL l k:=id rfl
theorem Tp (x:Tree) (l:List Tree):okI (x::l) 0=(Ce .i64 x=true):=id rfl
theorem Tq (x:Tree) (l:List Tree) (k:Nat):okI (x::l) (k+1)=okI l k:=id rfl
theorem Tr (x:Tree) (l:List Tree):okB (x::l) 0=(C9 x=true):=id rfl
theorem Ts (x:Tree) (l:List Tree) (k:Nat):okB (x::l) (k+1)=okB l k:=id rfl
theorem Tl (x:Tree) (l:List Tree):okS (x::l) 0=(FD x=true):=id rfl
theorem Tm (x:Tree) (l:List Tree) (k:Nat):okS (x::l) (k+1)=okS l k:=id rfl
theorem Tn (z:Nat) (x:Tree) (l:List Tree):okL z (x::l) 0=(Et z x=true):=id rfl
theorem To (z:Nat) (x:Tree) (l:List Tree) (k:Nat):okL z (x::l) (k+1)=okL z l k:=id rfl
theorem QN (k:IntKind) (n:Int):Ce k (.int k n)=true:=decide_eq_true rfl
theorem NX (b:Bool):C9 (.bool b)=true:=id rfl
theorem QM (b:ByteArray):FD (.str b)=true:=id rfl
theorem T9 (z:Nat) (es:List (List Tree)):Et z (.sl z es)=true:=by simp [Et]
theorem intOf_int (k:IntKind) (n:Int):intOf (.int k n)=n:=id rfl
theorem PA (b:Bool):Bu (.bool b)=b:=id rfl
theorem R0 (b:ByteArray):strOf (.str b)=b:=id rfl
theorem slOf_sl (z:Nat) (es:List (List Tree)):FK (.sl z es)=es:=id rfl
theorem TH (x:Tree):Au (.t x)=x:=id rfl
theorem Pt (i v o l:Nat):En (.sref i v o l)=v:=id rfl
theorem Pu (i v k o:Nat):En (.rptr i v k o)=v:=id rfl
theorem Pv (i v o l:Nat):HR (.sref i v o l)=o:=id rfl
theorem Pw (i v o l:Nat):HS (.sref i v o l)=l:=id rfl
theorem ver_row (f:Bool) (v z:Nat) (es:List (List Tree)):AQ.ver (.row f v z es)=v:=id rfl
theorem UH (f:Bool) (v z:Nat) (es:List (List Tree)):QX (.row f v z es)=es:=id rfl
theorem Qm (cs:List AV) (j:Nat):cellOf (.box cs) j=cs.getD j .undef:=id rfl
end Ab
namespace Ab
open Go
variable {R S α σ Q:Type}
def idx (p:α→Bool) (l:List α):Int:=((l.findIdx? p).map fun j=>((j:Nat):Int)).getD (-1)
end Ab
namespace Ab
open Go
theorem vv :
  (∀(e:List AV) (h:Heap) (k:Nat),vI (e,h) k=intOf (Au (List.getD e k AV.undef)))∧
  (∀(e:List AV) (h:Heap) (k:Nat),vB (e,h) k=Bu (Au (List.getD e k AV.undef)))∧
  (∀(e:List AV) (h:Heap) (k:Nat),vS (e,h) k=strOf (Au (List.getD e k AV.undef)))∧
  (∀(e:List AV) (h:Heap) (k:Nat),vL (e,h) k=FK (Au (List.getD e k AV.undef)))∧
  (∀(e:List AV) (h:Heap) (k:Nat),Ar (e,h) k=En (List.getD e k AV.undef))∧
  (∀(e:List AV) (h:Heap) (k:Nat),A1 (e,h) k=HR (List.getD e k AV.undef))∧
  (∀(e:List AV) (h:Heap) (k:Nat),AR (e,h) k=HS (List.getD e k AV.undef))∧
  (∀(e:List AV) (h:Heap) (k:Nat),AF (e,h) k=AQ.ver (List.getD h k default))∧
  (∀(e:List AV) (h:Heap) (k:Nat),oEs (e,h) k=QX (List.getD h k default))∧
  (∀(e:List AV) (h:Heap) (k j:Nat),cI (e,h) k j=intOf (Au (cellOf (List.getD h k default) j)))∧
  (∀(e:List AV) (h:Heap) (k j:Nat),cB (e,h) k j=Bu (Au (cellOf (List.getD h k default) j)))∧
  (∀(e:List AV) (h:Heap) (k j:Nat),cS (e,h) k j=strOf (Au (cellOf (List.getD h k default) j)))∧
  (∀(e:List AV) (h:Heap) (k j:Nat),cL (e,h) k j=FK (Au (cellOf (List.getD h k default) j)))∧
  (∀(e:List AV) (h:Heap) (k j:Nat),AJ (e,h) k j=En (cellOf (List.getD h k default) j))∧
  (∀(e:List AV) (h:Heap) (k j:Nat),AK (e,h) k j=HR (cellOf (List.getD h k default) j))∧
  (∀(e:List AV) (h:Heap) (k j:Nat),AI (e,h) k j=HS (cellOf (List.getD h k default) j))∧
  (∀(x:Tree) (l:List Tree),gI (x::l) (0:Nat)=intOf x)∧
  (∀(x:Tree) (l:List Tree) (k:Nat),gI (x::l) (k+(1:Nat))=gI l k)∧
  (∀(x:Tree) (l:List Tree),gB (x::l) (0:Nat)=Bu x)∧
  (∀(x:Tree) (l:List Tree) (k:Nat),gB (x::l) (k+(1:Nat))=gB l k)∧
  (∀(x:Tree) (l:List Tree),gS (x::l) (0:Nat)=strOf x)∧
  (∀(x:Tree) (l:List Tree) (k:Nat),gS (x::l) (k+(1:Nat))=gS l k)∧
  (∀(x:Tree) (l:List Tree),gL (x::l) (0:Nat)=FK x)∧
  (∀(x:Tree) (l:List Tree) (k:Nat),gL (x::l) (k+(1:Nat))=gL l k)∧
  (∀(x:Tree) (l:List Tree),okI (x::l) (0:Nat)=(Ce IntKind.i64 x=true))∧
  (∀(x:Tree) (l:List Tree) (k:Nat),okI (x::l) (k+(1:Nat))=okI l k)∧
  (∀(x:Tree) (l:List Tree),okB (x::l) (0:Nat)=(C9 x=true))∧
  (∀(x:Tree) (l:List Tree) (k:Nat),okB (x::l) (k+(1:Nat))=okB l k)∧
  (∀(x:Tree) (l:List Tree),okS (x::l) (0:Nat)=(FD x=true))∧
  (∀(x:Tree) (l:List Tree) (k:Nat),okS (x::l) (k+(1:Nat))=okS l k)∧
  (∀(z:Nat) (x:Tree) (l:List Tree),okL z (x::l) (0:Nat)=(Et z x=true))∧
  (∀(z:Nat) (x:Tree) (l:List Tree) (k:Nat),okL z (x::l) (k+(1:Nat))=okL z l k)∧
  (∀(k:IntKind) (n:Int),Ce k (Tree.int k n)=true)∧
  (∀(b:Bool),C9 (Tree.bool b)=true)∧
  (∀(b:ByteArray),FD (Tree.str b)=true)∧
  (∀(z:Nat) (es:List (List Tree)),Et z (Tree.sl z es)=true)∧
  (∀(k:IntKind) (n:Int),intOf (Tree.int k n)=n)∧
  (∀(b:Bool),Bu (Tree.bool b)=b)∧
  (∀(b:ByteArray),strOf (Tree.str b)=b)∧
  (∀(z:Nat) (es:List (List Tree)),FK (Tree.sl z es)=es)∧
  (∀(x:Tree),Au (AV.t x)=x)∧
  (∀(i v o l:Nat),En (AV.sref i v o l)=v)∧
  (∀(i v k o:Nat),En (AV.rptr i v k o)=v)∧
  (∀(i v o l:Nat),HR (AV.sref i v o l)=o)∧
  (∀(i v o l:Nat),HS (AV.sref i v o l)=l)∧
  (∀(f:Bool) (v z:Nat) (es:List (List Tree)),AQ.ver (AQ.row f v z es)=v)∧
  (∀(f:Bool) (v z:Nat) (es:List (List Tree)),QX (AQ.row f v z es)=es)∧
  (∀(cs:List AV) (j:Nat),cellOf (AQ.box cs) j=List.getD cs j AV.undef)∧
  (∀(e:List AV) (h:Heap) (k j:Nat),aI (e,h) k j=intOf (Au (List.getD (D7 (List.getD e k AV.undef)) j AV.undef)))∧
  (∀(e:List AV) (h:Heap) (k j:Nat),aB (e,h) k j=Bu (Au (List.getD (D7 (List.getD e k AV.undef)) j AV.undef)))∧
  (∀(e:List AV) (h:Heap) (k j:Nat),aS (e,h) k j=strOf (Au (List.getD (D7 (List.getD e k AV.undef)) j AV.undef)))∧
  (∀(e:List AV) (h:Heap) (k j:Nat),aL (e,h) k j=FK (Au (List.getD (D7 (List.getD e k AV.undef)) j AV.undef)))∧
  (∀(cs:List AV),D7 (AV.agg cs)=cs)∧
  (∀{R S:Type} (J:S→Option R) (f:(S→Option R)→Option R),join J f=f J)∧
  (∀{α:Type} {x:α} {xs:List α} {d:α},List.getD (x::xs) (0:Nat) d=x)∧
  (∀{α:Type} {x:α} {xs:List α} {n:Nat} {d:α},List.getD (x::xs) (n+(1:Nat)) d=List.getD xs n d)∧
  (∀(h:Decidable True),@decide True h=true)∧
  (∀(h:Decidable False),@decide False h=false)∧
  (∀{R:Type} {i:Decidable True} (a b:Option R),@cnd R True i a b=a)∧
  (∀{R:Type} {i:Decidable False} (a b:Option R),@cnd R False i a b=b)∧
  (∀(p:Prop),(True∧p)=p)∧
  (∀(p:Prop),(p∧True)=p)∧
  (∀(p:Prop),(False∧p)=False)∧
  (∀(p:Prop),(p∧False)=False)∧
  (∀{α β:Type} (a:α) (f:α→Option β),Option.bind (some a) f=f a)∧
  (∀{α β:Type} (f:α→Option β),Option.bind (none:Option α) f=none)∧
  (∀{α:Type} {a:α} {l:List α},length (a::l)=length l+(1:Nat))∧
  (∀{α:Type},length ([]:List α)=(0:Nat))∧
  (∀{α β:Type} {l:List α} (f:α→β),length (List.map f l)=length l)∧
  (∀{α β:Type} {f:α→β} {l:List α} {i:Nat},(List.map f l)[i]? = Option.map f l[i]?)∧
  (∀{α β:Type} (a:α) (f:α→β),Option.map f (some a)=some (f a))∧
  (∀{α β:Type} (f:α→β),Option.map f (none:Option α)=none)∧
  (∀(n:Nat),toNat (n:Int)=n)∧
  (∀{α:Type} (a:α),(a=a)=True)∧
  (∀{α:Type} {x:Decidable True} (t e:α),@ite α True x t e=t)∧
  (∀{α:Type} {x:Decidable False} (t e:α),@ite α False x t e=e)∧
  (∀(n:Nat),(0:Nat)+n=n)∧
  (∀(n:Nat),(0:Int)≤(n:Int))∧
  (∀{α:Type} {l:List α},drop (0:Nat) l=l)∧
  (∀(p:Prop),(p∨True)=True)∧
  (∀(p:Prop),(True∨p)=True)∧
  (∀(p:Prop),(p∨False)=p)∧
  (∀(p:Prop),(False∨p)=p)∧
  ((!true)=false)∧
  ((!false)=true)∧
  ((false=true)=False)∧
  (∀{p:Prop} [inst:Decidable p],(decide p=true)=p)∧
  (∀{α:Type} [inst:LE α] {x y:α},x≥y↔y≤x)∧
  (∀{α:Type} [inst:LT α] {x y:α},x>y↔y<x):=
 ⟨@vI_mk,@TF,@vS_mk,@vL_mk,@sVer_mk,@sOff_mk,@sLen_mk,@oVer_mk,@oEs_mk,@cI_mk,@cB_mk,@cS_mk,@cL_mk,@cVer_mk,@cOff_mk,@cLen_mk,@gI_zero,@gI_succ,@gB_zero,@gB_succ,@gS_zero,@gS_succ,@gL_zero,@gL_succ,@Tp,@Tq,@Tr,@Ts,@Tl,@Tm,@Tn,@To,@QN,@NX,@QM,@T9,@intOf_int,@PA,@R0,@slOf_sl,@TH,@Pt,@Pu,@Pv,@Pw,@ver_row,@UH,@Qm,@aI_mk,@aB_mk,@aS_mk,@aL_mk,@Sx,@join_eq,@List.getD_cons_zero,@List.getD_cons_succ,@decide_true,@decide_false,@UY,@Se,@true_and,@and_true,@false_and,@and_false,@Option.bind_some,@Option.bind_none,@length_cons,@length_nil,@length_map,@getElem?_map,@map_some,@map_none,@toNat_natCast,@eq_self,@if_true,@if_false,@zero_add,@natCast_nonneg,@drop_zero,@or_true,@true_or,@or_false,@false_or,@Bool.not_true,@Bool.not_false,@false_eq_true,@decide_eq_true_eq,@ge_iff_le,@gt_iff_lt⟩
end Ab
set_option maxRecDepth 100000
namespace Ab
open Go Go.Proofs
def htab:HTab:=
[(3,[(13,[11,84])],[(1,[11]),(0,[11])],[(44,[]),(56,[]),(59,[]),(76,[]),(85,[]),(108,[]),(138,[]),(130,[]),(145,[]),(181,[]),(226,[])],[(1,[44]),(4,[56]),(9,[76]),(17,[108]),(23,[138]),(33,[181]),(39,[226]),(42,[6])],[(11,8)],[],[0],[45,51,60,69],[26,41,67],[(6,0),(44,0),(56,0),(76,0),(108,0),(138,0),(181,0),(226,0)]),
 (4,[(4,[3])],[(1,[]),(0,[])],[(25,[]),(30,[]),(60,[])],[(1,[25]),(6,[60])],[],[],[0],[],[26],[(25,0),(60,0)]),
 (5,[],[],[(8,[]),(13,[]),(26,[]),(34,[]),(37,[]),(42,[]),(47,[]),(70,[])],[(6,[26]),(8,[34]),(17,[70])],[],[],[0],[],[26],[(26,0),(34,0),(70,0)]),
 (6,[],[],[],[(7,[0])],[],[],[],[28,88,94],[26,78,82,85,86],[(0,0)]),
 (7,[(7,[7,28])],[(1,[7]),(0,[7])],[(19,[]),(29,[])],[],[(7,1)],[],[],[],[],[]),
 (8,[],[(0,[8,9]),(2,[]),(1,[])],[(35,[8,9]),(29,[8,9]),(25,[8,9]),(22,[8,9]),(13,[8,9])],[(1,[13])],[(8,8)],[8],[0,2],[40],[],[(8,108),(9,4),(13,0)]),
 (9,[],[],[(4,[])],[],[],[],[],[],[],[]),
 (10,[(3,[3,6])],[(1,[3]),(0,[3])],[(7,[])],[],[(3,1)],[],[],[],[],[]),
 (11,[(6,[5,37]),(14,[12,59])],[(1,[5]),(0,[5]),(3,[12]),(2,[12])],[(20,[]),(38,[]),(60,[])],[],[(12,1)],[],[0],[40],[41],[(5,20)]),
 (12,[],[],[(16,[]),(31,[999997])],[(5,[31])],[],[],[],[],[41],[(31,0)]),
 (13,[],[],[],[(1,[4])],[],[],[0,1],[],[41],[(4,0)]),
 (14,[(3,[5,14])],[(1,[5]),(0,[5])],[(15,[]),(19,[])],[],[],[],[],[45],[41],[(5,4)]),
 (15,[],[],[(6,[]),(9,[])],[],[],[],[0],[],[41],[]),
 (16,[(9,[36])],[(1,[]),(0,[])],[(18,[999997]),(33,[999997]),(37,[]),(65,[999997])],[(6,[33]),(15,[65])],[],[],[],[],[],[(33,0),(65,0)]),
 (17,[],[],[],[(1,[4])],[],[],[0,1],[],[26],[(4,0)]),
 (18,[],[],[(5,[])],[],[],[],[0],[],[26],[]),
 (19,[(4,[15])],[(1,[]),(0,[])],[(16,[]),(25,[]),(31,[])],[],[],[],[],[63],[],[]),
 (20,[(5,[5,6])],[(1,[5,6]),(0,[2,3,4])],[(12,[999997]),(22,[])],[],[(2,19),(5,19)],[],[],[63],[],[(3,4),(4,4),(6,4)]),
 (21,[(6,[14])],[(1,[]),(0,[])],[(9,[]),(15,[])],[],[],[],[],[63],[67],[]),
 (22,[],[],[(22,[]),(25,[])],[(1,[22]),(5,[2])],[],[],[0],[],[],[(2,0),(22,0)]),
 (23,[],[],[(10,[]),(33,[])],[(1,[10]),(3,[33])],[],[],[0],[],[],[(10,0),(33,0)]),
 (24,[],[],[(20,[])],[(1,[20]),(3,[2])],[],[],[0],[],[26],[(2,0),(20,0)]),
 (25,[(4,[3]),(10,[5])],[(1,[]),(0,[]),(3,[]),(2,[])],[(8,[]),(12,[]),(21,[]),(26,[]),(40,[])],[],[],[],[],[],[],[]),
 (26,[],[],[],[],[],[],[],[],[],[]),
 (27,[],[],[(17,[]),(26,[])],[],[],[],[0,1],[],[78,82,85,86],[]),
 (28,[],[],[(30,[])],[],[],[],[0],[],[],[]),
 (29,[],[],[(11,[]),(17,[]),(30,[]),(34,[]),(38,[]),(44,[])],[(7,[30])],[],[],[0],[],[26],[(30,0)]),
 (30,[],[],[(8,[])],[],[],[],[],[],[],[]),
 (31,[],[],[],[],[],[],[],[],[],[]),
 (32,[],[(1,[]),(0,[])],[(9,[2,3]),(16,[5])],[],[],[],[],[],[],[(2,20),(3,4),(5,5)]),
 (33,[(5,[4,21])],[(1,[4]),(0,[4])],[(12,[]),(22,[]),(32,[]),(46,[])],[(10,[46])],[],[],[],[74],[],[(4,20),(46,0)]),
 (34,[],[],[(12,[])],[],[],[],[],[],[],[]),
 (35,[],[],[],[(1,[6])],[],[],[],[],[],[(6,0)]),
 (36,[],[],[],[(1,[4])],[],[],[],[],[],[(4,0)]),
 (37,[],[],[],[],[],[],[0],[],[41],[]),
 (38,[],[],[(8,[]),(30,[]),(35,[])],[(5,[30])],[],[],[0],[185],[41],[(30,0)]),
 (39,[],[],[(3,[])],[],[],[],[],[],[],[]),
 (40,[(6,[6,24])],[(1,[6]),(0,[6])],[(13,[]),(25,[]),(34,[])],[],[(6,1)],[],[],[],[],[]),
 (41,[],[(0,[])],[(33,[]),(25,[]),(18,[]),(14,[])],[(4,[18])],[],[],[],[],[],[(18,0)]),
 (42,[(3,[0,16]),(19,[15])],[(1,[0]),(0,[0]),(3,[]),(2,[])],[(17,[]),(26,[999997]),(62,[999997]),(89,[999997]),(94,[])],[(12,[62]),(16,[89])],[],[],[],[],[],[(0,20),(62,0),(89,0)]),
 (43,[(4,[5])],[(1,[]),(0,[])],[(10,[]),(14,[]),(25,[])],[],[],[],[],[],[],[]),
 (44,[],[],[(9,[])],[(1,[9])],[],[],[],[],[41],[(9,0)]),
 (45,[],[],[(19,[]),(24,[]),(56,[]),(71,[])],[(1,[19])],[],[],[1],[45],[41],[(19,0)]),
 (46,[(12,[81])],[(1,[]),(0,[])],[(29,[]),(43,[]),(69,[]),(76,[]),(82,[]),(89,[]),(98,[])],[(1,[29]),(3,[43]),(5,[69])],[],[],[0],[40],[41],[(29,0),(43,0),(69,0)]),
 (47,[],[],[],[(1,[2])],[],[],[0],[],[41],[(2,0)]),
 (48,[],[],[],[],[],[],[],[],[],[]),
 (49,[],[],[],[],[],[],[],[],[],[]),
 (50,[],[],[],[],[],[],[],[],[],[]),
 (51,[],[],[],[],[],[],[],[],[],[]),
 (52,[(4,[5])],[(1,[]),(0,[])],[(10,[]),(14,[]),(25,[])],[],[],[],[],[],[],[]),
 (53,[],[],[],[],[],[],[],[],[],[]),
 (54,[],[(0,[5])],[(15,[]),(53,[999998]),(46,[5]),(59,[7]),(67,[]),(53,[999998]),(104,[])],[],[],[],[0],[60],[],[(5,20),(7,4),(53,0)]),
 (55,[],[],[],[],[],[],[],[],[],[]),
 (56,[],[],[],[],[],[],[],[],[],[]),
 (57,[],[],[(17,[]),(39,[999997])],[(6,[39])],[],[],[],[],[],[(39,0)]),
 (58,[],[],[],[],[],[],[],[],[],[]),
 (59,[],[],[],[],[],[],[0],[],[],[]),
 (60,[],[],[(7,[]),(11,[]),(24,[]),(34,[]),(19,[]),(49,[]),(63,[])],[(5,[19]),(9,[34]),(12,[49]),(14,[63])],[],[],[0],[],[],[(19,0),(34,0),(49,0),(63,0)]),
 (61,[],[],[],[],[],[],[],[],[],[]),
 (62,[],[],[],[(1,[2])],[],[],[],[],[],[(2,0)]),
 (63,[],[],[],[],[],[],[],[],[],[]),
 (64,[],[],[(10,[]),(18,[]),(22,[])],[(1,[10]),(3,[18])],[],[],[0],[],[],[(10,0),(18,0)]),
 (65,[(5,[34]),(12,[80])],[(1,[]),(0,[]),(3,[]),(2,[])],[(25,[]),(35,[]),(81,[])],[(1,[25])],[],[],[0,1],[80],[],[(25,0)]),
 (66,[(3,[13])],[(3,[]),(2,[]),(1,[]),(0,[])],[(14,[]),(40,[])],[(7,[40])],[],[],[],[227,234],[],[(40,0)]),
 (67,[(3,[21]),(8,[])],[(1,[]),(0,[]),(5,[]),(4,[]),(3,[]),(2,[])],[(22,[]),(42,[]),(64,[]),(92,[])],[(5,[42]),(14,[92])],[],[],[],[40,227,234],[],[(42,0),(92,0)]),
 (68,[],[(0,[])],[(31,[]),(28,[]),(24,[]),(45,[])],[],[],[],[0],[51,164,170],[],[]),
 (69,[],[],[(18,[]),(26,[]),(39,[])],[(1,[18]),(3,[26]),(5,[39])],[],[],[0],[],[],[(18,0),(26,0),(39,0)]),
 (70,[],[(0,[3])],[(8,[3]),(6,[3]),(18,[])],[(7,[18])],[],[],[0],[],[],[(3,4),(18,0)]),
 (71,[],[],[],[(1,[6])],[],[],[],[],[],[(6,0)]),
 (72,[],[],[(30,[])],[(1,[30])],[],[],[0],[],[26],[(30,0)]),
 (73,[(4,[12]),(11,[6])],[(1,[]),(0,[]),(3,[]),(2,[])],[(9,[]),(13,[]),(19,[]),(25,[]),(39,[])],[],[],[],[],[74],[],[]),
 (74,[],[],[(8,[]),(24,[])],[(4,[24])],[],[],[0],[],[26],[(24,0)]),
 (75,[],[],[],[(1,[2])],[],[],[],[],[],[(2,0)]),
 (76,[],[],[],[],[],[],[0],[],[],[]),
 (77,[],[],[(4,[])],[],[],[],[],[],[],[]),
 (78,[],[],[(14,[])],[],[],[],[0],[],[],[]),
 (79,[],[],[],[],[],[],[],[],[],[]),
 (80,[(4,[10])],[(1,[]),(0,[])],[(7,[]),(11,[]),(17,[]),(30,[])],[(8,[30])],[],[],[],[40],[],[(30,0)]),
 (81,[(4,[5]),(1,[9])],[(3,[5]),(2,[]),(1,[]),(0,[])],[(10,[]),(18,[]),(31,[])],[],[],[],[],[40],[],[(5,4)]),
 (82,[],[],[],[],[],[],[],[],[],[]),
 (83,[],[],[(17,[])],[],[],[],[],[],[],[]),
 (84,[],[],[(18,[999997]),(25,[999997])],[],[],[],[],[],[],[]),
 (85,[(5,[7,8])],[(1,[7]),(0,[7])],[(24,[]),(36,[999997])],[(5,[24])],[(7,1)],[],[],[],[],[(24,0)]),
 (86,[(2,[13])],[(1,[]),(0,[])],[(14,[]),(19,[])],[],[],[],[0,1],[],[41],[]),
 (87,[],[],[],[],[],[],[0,1],[],[41],[]),
 (88,[],[],[(20,[])],[],[],[],[],[],[41],[]),
 (89,[],[],[(4,[])],[],[],[],[],[],[],[]),
 (90,[],[],[],[],[],[],[],[],[],[]),
 (91,[],[],[(12,[]),(21,[]),(34,[])],[(1,[12]),(3,[21])],[],[],[],[259],[],[(12,0),(21,0)]),
 (92,[],[],[(21,[999998])],[(0,[])],[],[],[],[],[],[]),
 (93,[(8,[8,6,28])],[(1,[8,6]),(0,[8,6])],[(19,[999997]),(26,[999997]),(29,[]),(39,[999997]),(55,[999997])],[(4,[26]),(12,[55])],[(8,3)],[],[],[74],[],[(6,4),(26,0),(55,0)]),
 (94,[],[],[(19,[]),(6,[])],[],[],[],[],[],[],[]),
 (95,[(3,[10])],[(1,[]),(0,[])],[(11,[])],[],[],[],[],[],[],[]),
 (96,[],[],[(24,[999998]),(52,[999997]),(91,[999997]),(57,[999998])],[(4,[5]),(15,[91])],[],[],[],[],[],[(5,0),(91,0)]),
 (97,[(2,[8])],[(1,[]),(0,[])],[(9,[]),(16,[])],[],[],[],[],[],[],[]),
 (98,[],[],[],[(1,[6])],[],[],[],[],[],[(6,0)]),
 (99,[],[],[(30,[]),(35,[])],[(1,[30])],[],[],[0],[],[],[(30,0)]),
 (100,[],[],[(18,[])],[(1,[18]),(3,[2])],[],[],[0],[],[],[(2,0),(18,0)]),
 (101,[],[],[],[],[],[],[1],[],[67],[]),
 (102,[],[],[(9,[])],[],[],[],[1],[],[],[]),
 (103,[],[],[],[],[],[],[1],[],[],[]),
 (104,[],[],[],[],[],[],[],[],[],[]),
 (105,[],[],[],[],[],[],[0,1],[],[67],[]),
 (106,[],[],[],[],[],[],[1],[],[67],[]),
 (107,[],[],[(12,[999997])],[],[],[],[1],[],[],[]),
 (108,[],[],[],[],[],[],[1],[],[],[]),
 (109,[],[],[(4,[])],[],[],[],[],[],[],[]),
 (110,[],[],[(9,[]),(17,[])],[],[],[],[0],[],[78,82,85,86],[]),
 (111,[],[(0,[])],[(66,[]),(40,[]),(34,[]),(13,[]),(9,[])],[(4,[13]),(8,[40]),(10,[66])],[],[],[0,1],[],[78,82],[(13,0),(40,0),(66,0)]),
 (112,[],[],[(14,[])],[],[],[],[0],[],[78,82],[]),
 (113,[],[],[(11,[])],[],[],[],[0],[],[],[]),
 (114,[(11,[45])],[(1,[]),(0,[])],[(19,[]),(36,[]),(46,[]),(51,[])],[(3,[36])],[],[],[0,2,3],[284],[78,82],[(36,0)]),
 (115,[],[],[],[],[],[],[1],[],[],[]),
 (116,[(5,[6])],[(1,[]),(0,[])],[(9,[]),(17,[]),(27,[])],[],[],[],[],[],[],[]),
 (117,[],[],[],[],[],[],[0,1],[],[],[]),
 (118,[(5,[5,6])],[(1,[5]),(0,[5])],[(12,[]),(19,[]),(29,[5])],[],[],[],[],[],[],[(5,4)]),
 (119,[],[],[],[],[],[],[0],[],[],[]),
 (120,[],[],[],[(1,[4])],[],[],[0,1],[],[],[(4,0)]),
 (121,[],[],[],[],[],[],[],[],[],[]),
 (122,[],[],[],[],[],[],[0],[],[],[]),
 (123,[],[],[],[],[],[],[],[],[],[]),
 (124,[],[],[(17,[]),(21,[]),(24,[]),(28,[]),(44,[]),(62,[])],[(9,[44])],[],[],[0],[],[41],[(44,0)]),
 (125,[],[],[(6,[])],[],[],[],[],[],[162],[]),
 (126,[(5,[22]),(1,[2,3])],[(3,[]),(2,[]),(1,[]),(0,[])],[(11,[]),(23,[])],[],[],[],[],[],[],[]),
 (127,[],[(0,[])],[(21,[]),(12,[]),(3,[])],[(1,[3]),(3,[12])],[],[],[0],[],[],[(3,0),(12,0)]),
 (128,[(1,[3]),(3,[3])],[(1,[3]),(0,[3]),(3,[]),(2,[])],[(7,[]),(11,[]),(23,[])],[],[],[],[],[],[],[(3,4)]),
 (129,[],[],[],[],[],[],[],[],[],[]),
 (130,[],[],[],[(1,[2])],[],[],[0],[],[],[(2,0)]),
 (131,[],[],[],[(1,[2])],[],[],[0],[],[41],[(2,0)]),
 (132,[],[],[],[(1,[2])],[],[],[0],[],[41],[(2,0)]),
 (133,[],[],[],[(1,[2])],[],[],[0],[],[41],[(2,0)]),
 (134,[],[],[],[(1,[2])],[],[],[0],[],[41],[(2,0)]),
 (135,[],[],[],[(1,[2])],[],[],[0],[],[41],[(2,0)]),
 (136,[],[],[],[(1,[2])],[],[],[0],[],[41],[(2,0)]),
 (137,[(5,[3,5,4])],[(1,[3,5]),(0,[3,4])],[(12,[]),(14,[]),(18,[]),(26,[]),(61,[]),(68,[7]),(78,[])],[(21,[78])],[],[],[],[],[],[(3,4),(4,4),(5,0),(7,4),(78,0)]),
 (138,[],[],[(11,[999997])],[(2,[11])],[],[],[],[],[],[(11,0)]),
 (139,[],[],[],[],[],[],[],[],[],[]),
 (140,[],[],[(8,[])],[],[],[],[],[],[],[]),
 (141,[],[],[],[(1,[2])],[],[],[],[],[],[(2,0)]),
 (142,[],[],[],[(1,[2])],[],[],[],[],[],[(2,0)]),
 (143,[(2,[10])],[(1,[]),(0,[])],[(11,[]),(49,[])],[(5,[49])],[],[],[],[40],[],[(49,0)]),
 (144,[],[],[],[],[],[],[],[],[],[]),
 (145,[],[],[],[],[],[],[],[],[],[]),
 (146,[(1,[0])],[(1,[0]),(0,[0])],[(13,[])],[(1,[13])],[],[],[],[],[],[(0,20),(13,0)]),
 (147,[(1,[0])],[(1,[0]),(0,[0])],[(16,[])],[(1,[16])],[],[],[],[],[],[(0,20),(16,0)]),
 (148,[(2,[4])],[(1,[]),(0,[])],[(9,[]),(16,[])],[],[],[],[],[],[],[]),
 (149,[(1,[0])],[(1,[0]),(0,[0])],[(7,[]),(12,[])],[],[],[],[],[],[],[(0,20)]),
 (150,[(1,[0])],[(1,[0]),(0,[0])],[(7,[]),(15,[])],[],[],[],[],[],[],[(0,20)]),
 (151,[(1,[0])],[(1,[0]),(0,[0])],[(9,[]),(18,[])],[],[],[],[],[],[],[(0,20)]),
 (152,[(1,[0])],[(1,[0]),(0,[0])],[(9,[]),(17,[5,6]),(26,[])],[],[],[],[],[],[],[(0,20),(5,3),(6,4)]),
 (153,[],[],[(18,[999997]),(52,[999997])],[(8,[52])],[],[],[],[],[],[(52,0)]),
 (155,[(1,[11])],[(1,[]),(0,[])],[(12,[]),(31,[999997])],[(4,[31])],[],[],[],[],[],[(31,0)]),
 (156,[],[(1,[]),(0,[])],[],[],[],[],[],[60],[],[]),
 (157,[(1,[8])],[(1,[]),(0,[])],[(9,[]),(21,[])],[(3,[21])],[],[],[],[60],[],[(21,0)]),
 (158,[(2,[8])],[(1,[]),(0,[])],[(9,[]),(16,[])],[],[],[],[],[],[],[]),
 (159,[],[],[],[],[],[],[0],[],[],[]),
 (160,[(5,[27]),(11,[41])],[(1,[]),(0,[]),(3,[]),(2,[])],[(23,[]),(28,[]),(36,[]),(42,[]),(49,[]),(60,[]),(66,[])],[(2,[23]),(7,[36]),(16,[60])],[],[],[0],[80],[78,82],[(23,0),(36,0),(60,0)]),
 (161,[(6,[15])],[(1,[]),(0,[])],[(9,[]),(12,[]),(16,[]),(23,[]),(25,[]),(33,[]),(53,[])],[(13,[53])],[],[],[0],[320],[78,82],[(53,0)]),
 (162,[(6,[17]),(14,[42])],[(1,[]),(0,[]),(3,[]),(2,[])],[(11,[]),(14,[]),(18,[]),(25,[]),(37,[]),(43,[]),(52,[])],[(10,[37])],[],[],[0],[324],[78,82],[(37,0)]),
 (163,[],[],[(10,[]),(19,[])],[(3,[19])],[],[],[0],[],[78,82],[(19,0)]),
 (164,[(6,[29])],[(1,[]),(0,[])],[(30,[])],[],[],[],[0],[40,80],[78,82],[]),
 (165,[],[],[(7,[]),(10,[])],[],[],[],[0],[],[],[]),
 (166,[],[],[],[],[],[],[0],[],[],[]),
 (167,[],[],[(10,[])],[(0,[10])],[],[],[],[],[],[(10,0)]),
 (168,[],[],[(22,[]),(17,[])],[],[],[],[],[],[],[]),
 (169,[(5,[18]),(15,[11,10,44])],[(1,[]),(0,[]),(3,[11,10]),(2,[10])],[(19,[]),(25,[]),(45,[]),(51,[])],[],[(10,2)],[],[],[324],[],[(11,4)]),
 (170,[(5,[32]),(1,[17])],[(3,[]),(2,[]),(1,[]),(0,[])],[(18,[]),(26,[]),(33,[]),(83,[]),(97,[])],[(8,[83])],[],[],[],[40,80,232],[],[(83,0)]),
 (171,[],[],[(11,[])],[],[],[],[],[],[],[]),
 (172,[(3,[28])],[(1,[]),(0,[])],[(29,[]),(41,[])],[],[],[],[],[40],[],[]),
 (173,[],[],[(9,[])],[],[],[],[1],[],[],[]),
 (174,[(3,[8])],[(1,[]),(0,[])],[(9,[]),(14,[])],[],[],[],[],[],[],[]),
 (175,[],[],[(12,[]),(11,[]),(13,[]),(16,[]),(19,[])],[],[],[],[],[],[],[]),
 (176,[(2,[8])],[(1,[]),(0,[])],[(9,[]),(16,[])],[],[],[],[],[],[],[]),
 (177,[(2,[3,1,11,10,2])],[(1,[3,1,11,10,2]),(0,[])],[(25,[]),(32,[]),(39,[3]),(56,[13,14]),(80,[]),(75,[]),(97,[1]),(125,[10,1,2])],[(15,[75]),(17,[97])],[],[],[],[],[],[(1,4),(2,4),(3,4),(10,0),(11,0),(13,4),(14,4),(75,0),(97,0)]),
 (178,[],[],[(0,[])],[],[],[],[],[],[],[]),
 (179,[],[],[(30,[]),(35,[]),(54,[])],[(1,[30]),(5,[54])],[],[],[0],[],[],[(30,0),(54,0)]),
 (180,[],[],[],[(1,[6])],[],[],[],[],[],[(6,0)]),
 (181,[],[],[(19,[]),(38,[])],[(5,[38])],[],[],[],[343],[41],[(38,0)]),
 (182,[],[],[],[],[],[],[0],[],[41],[]),
 (183,[],[],[],[(1,[2])],[],[],[],[],[],[(2,0)]),
 (184,[],[],[(11,[]),(20,[])],[],[],[],[],[],[],[]),
 (185,[],[],[],[],[],[],[],[],[],[]),
 (186,[],[(1,[]),(0,[])],[],[],[],[],[],[352],[],[]),
 (187,[],[(2,[]),(1,[]),(0,[])],[(20,[6,7]),(43,[]),(32,[]),(59,[])],[(1,[20]),(9,[32]),(11,[43])],[(6,2)],[6],[],[],[],[(6,102),(7,4),(20,0),(32,0),(43,0)]),
 (188,[],[],[],[(1,[4])],[],[],[],[],[],[(4,0)]),
 (189,[],[],[],[],[],[],[],[],[],[]),
 (190,[],[],[(10,[2,3])],[(1,[10])],[],[],[],[],[],[(2,3),(3,4),(10,0)]),
 (191,[],[],[],[],[],[],[],[],[],[]),
 (192,[(10,[5])],[(1,[]),(0,[5])],[(10,[]),(18,[]),(27,[]),(33,[]),(35,[5]),(48,[2,3])],[],[],[],[],[],[],[(2,3),(3,4),(5,4)]),
 (193,[],[],[],[],[],[],[],[],[],[]),
 (194,[],[],[],[],[],[],[],[],[],[]),
 (195,[],[],[],[],[],[],[],[],[],[]),
 (196,[],[],[],[],[],[],[0],[],[],[]),
 (197,[],[],[(26,[])],[(1,[26])],[],[],[0,1],[],[],[(26,0)]),
 (198,[],[],[(26,[])],[(1,[26]),(4,[4])],[],[],[0,1],[80],[78,82],[(4,0),(26,0)]),
 (199,[],[],[],[],[],[],[0,1],[],[],[]),
 (200,[],[],[],[(1,[4])],[],[],[0,1],[],[78,82],[(4,0)]),
 (201,[],[],[],[],[],[],[0,1],[],[],[]),
 (202,[(3,[3,8])],[(1,[3]),(0,[3])],[(9,[])],[],[],[],[],[284],[],[(3,4)]),
 (203,[],[],[(6,[])],[],[],[],[],[],[],[]),
 (204,[(3,[5,10])],[(1,[5]),(0,[5])],[(11,[]),(17,[5])],[],[(5,2)],[],[],[320],[],[]),
 (205,[],[],[],[(1,[6])],[],[],[],[],[],[(6,0)]),
 (206,[],[(1,[]),(0,[])],[],[],[],[],[0],[],[],[]),
 (207,[],[],[],[],[],[],[0],[],[],[]),
 (208,[],[],[(15,[])],[],[],[],[],[],[],[]),
 (209,[],[],[],[],[],[],[],[],[],[]),
 (210,[],[],[],[],[],[],[],[],[],[]),
 (211,[(4,[9]),(1,[8])],[(3,[]),(2,[]),(1,[]),(0,[])],[(14,[]),(34,[])],[(4,[34])],[],[],[],[],[],[(34,0)]),
 (212,[(4,[11]),(8,[12])],[(1,[]),(0,[]),(3,[]),(2,[])],[(21,[]),(33,[])],[],[],[],[],[],[],[]),
 (213,[(5,[11])],[(1,[]),(0,[])],[(35,[]),(45,[12]),(17,[])],[],[],[],[],[369],[],[(12,4)]),
 (214,[],[(0,[8,9])],[(36,[12,13,14]),(34,[13]),(60,[8,9]),(57,[8,9])],[],[],[],[],[],[],[(8,4),(9,4),(12,4),(13,4),(14,4)]),
 (215,[(2,[8,9])],[(1,[8,9]),(0,[])],[(15,[])],[],[],[],[],[],[],[(8,4),(9,4)]),
 (216,[(5,[9]),(14,[11]),(20,[12]),(3,[9,10])],[(3,[9]),(2,[9]),(5,[]),(4,[]),(7,[]),(6,[]),(1,[9]),(0,[])],[(16,[]),(36,[]),(41,[]),(45,[]),(69,[]),(84,[]),(65,[]),(109,[]),(124,[]),(104,[])],[(5,[36])],[],[],[],[],[],[(9,4),(36,0)]),
 (217,[(3,[11]),(5,[12]),(3,[11,12])],[(3,[11]),(2,[11]),(5,[12]),(4,[12]),(1,[11,12]),(0,[11])],[(47,[]),(65,[]),(70,[])],[(3,[47]),(5,[65])],[],[],[],[],[],[(11,4),(12,4),(47,0),(65,0)]),
 (218,[(3,[12]),(5,[13]),(13,[12]),(15,[13]),(13,[12,13])],[(1,[12]),(0,[12]),(3,[13]),(2,[13]),(7,[12]),(6,[12]),(9,[13]),(8,[13]),(5,[12,13]),(4,[13])],[(47,[]),(66,[]),(71,[]),(120,[]),(139,[]),(144,[])],[(3,[47]),(5,[66]),(13,[120]),(15,[139])],[],[],[],[],[],[(12,4),(13,4),(47,0),(66,0),(120,0),(139,0)]),
 (219,[],[],[(4,[0,2]),(8,[0,2])],[],[],[],[],[],[],[(0,7),(2,4)]),
 (220,[],[],[(4,[0,2]),(8,[0,2]),(14,[0,2])],[],[],[],[],[],[],[(0,8),(2,4)]),
 (221,[],[],[],[],[],[],[],[],[],[]),
 (222,[],[],[],[],[],[],[0,2],[],[36],[]),
 (223,[],[],[],[],[],[],[],[],[41],[]),
 (224,[],[],[],[],[],[],[0],[],[41],[]),
 (225,[],[],[],[],[],[],[0],[],[41],[]),
 (226,[],[],[(15,[])],[(0,[15])],[],[],[],[],[],[(15,0)]),
 (227,[],[],[],[],[],[],[],[],[],[]),
 (228,[],[],[(12,[])],[(1,[12])],[],[],[0],[],[162],[(12,0)]),
 (229,[],[],[],[(1,[2])],[],[],[],[],[],[(2,0)]),
 (230,[(0,[])],[(1,[]),(0,[])],[(21,[])],[(0,[21])],[],[],[],[],[],[(21,0)]),
 (231,[(7,[46]),(1,[2,3])],[(3,[]),(2,[]),(1,[]),(0,[])],[(18,[]),(39,[]),(47,[]),(75,[])],[(11,[75])],[],[],[],[],[41],[(75,0)]),
 (232,[(1,[2,3])],[(1,[]),(0,[])],[(16,[]),(35,[]),(51,[]),(77,[])],[(8,[77])],[],[],[],[],[41],[(77,0)]),
 (233,[],[],[(19,[]),(34,[])],[(0,[19])],[],[],[],[],[41],[(19,0)]),
 (234,[(3,[3])],[(1,[]),(0,[])],[(4,[])],[],[],[],[],[],[],[]),
 (235,[],[],[],[],[],[],[0],[],[],[]),
 (236,[],[],[],[],[],[],[0,1],[],[41],[]),
 (237,[],[],[(16,[]),(23,[]),(45,[]),(57,[]),(59,[]),(75,[]),(77,[]),(98,[])],[(14,[57]),(19,[75]),(24,[98])],[],[],[],[394],[],[(57,0),(75,0),(98,0)]),
 (238,[(12,[12]),(5,[9]),(29,[16]),(25,[9]),(38,[])],[(4,[]),(3,[]),(2,[9]),(1,[]),(8,[]),(7,[]),(6,[]),(5,[]),(10,[]),(9,[]),(0,[4])],[(26,[]),(43,[]),(33,[9]),(51,[]),(64,[]),(98,[]),(124,[]),(143,[]),(156,[]),(139,[]),(108,[]),(0,[]),(183,[4]),(177,[]),(181,[]),(171,[4]),(160,[4])],[(34,[160]),(18,[98]),(27,[139])],[],[],[],[],[],[(4,4),(9,4),(98,0),(139,0),(160,0)]),
 (239,[],[],[],[],[],[],[],[],[],[]),
 (240,[],[],[(13,[999997]),(31,[999997])],[],[],[],[],[],[],[]),
 (241,[],[],[(13,[999997]),(31,[999997])],[],[],[],[],[],[],[]),
 (242,[(2,[8])],[(1,[]),(0,[])],[(9,[]),(16,[])],[],[],[],[],[],[],[]),
 (243,[],[],[],[],[],[],[0],[],[],[]),
 (244,[(2,[3,1,9,8,2])],[(1,[3,1,9,8,2]),(0,[])],[(23,[]),(29,[]),(35,[3]),(50,[11,12]),(72,[]),(68,[]),(87,[1]),(113,[8,1,2])],[(15,[68]),(17,[87])],[],[],[],[],[],[(1,4),(2,4),(3,4),(8,0),(9,0),(11,4),(12,4),(68,0),(87,0)]),
 (245,[(1,[10])],[(1,[10]),(0,[])],[(18,[]),(40,[11]),(58,[])],[(3,[40])],[],[],[],[],[],[(10,4),(11,4),(40,0)]),
 (246,[],[],[],[],[],[],[],[],[],[]),
 (247,[],[],[],[],[],[],[],[],[],[]),
 (248,[],[],[],[],[],[],[],[],[],[]),
 (249,[],[],[],[],[],[],[],[],[],[]),
 (250,[],[(1,[]),(0,[])],[],[],[],[],[],[343],[41],[]),
 (251,[(1,[11])],[(1,[]),(0,[])],[(12,[]),(29,[])],[],[],[],[],[45],[41],[]),
 (252,[],[],[(8,[]),(11,[]),(14,[])],[],[],[],[1],[],[41],[]),
 (253,[],[],[],[],[],[],[],[],[],[]),
 (254,[],[],[],[],[],[],[],[],[],[]),
 (255,[(6,[33])],[(1,[]),(0,[])],[(25,[]),(29,[]),(34,[]),(57,[]),(71,[])],[(1,[25]),(8,[57]),(10,[71])],[],[],[0],[381],[41,162],[(25,0),(57,0),(71,0)]),
 (256,[],[],[(13,[]),(31,[])],[],[],[],[4],[],[41,162],[]),
 (257,[],[],[(27,[])],[(2,[27])],[],[],[],[381],[41,162],[(27,0)]),
 (258,[],[],[(20,[]),(26,[]),(48,[])],[(1,[20]),(6,[48])],[],[],[0,2],[],[41],[(20,0),(48,0)]),
 (259,[],[],[(12,[]),(16,[]),(22,[])],[],[],[],[0],[],[41],[]),
 (260,[(2,[0,3])],[(1,[0]),(0,[0])],[(4,[]),(7,[0])],[],[],[],[],[],[],[(0,7)]),
 (261,[(1,[6])],[(1,[]),(0,[])],[(7,[]),(14,[])],[],[],[],[],[],[],[]),
 (262,[(1,[])],[(1,[]),(0,[])],[(32,[]),(43,[10]),(63,[])],[(3,[32]),(5,[43])],[],[],[],[],[],[(10,4),(32,0),(43,0)]),
 (263,[],[(0,[])],[(15,[]),(4,[])],[],[],[],[],[],[],[]),
 (264,[],[],[(17,[]),(21,[])],[(1,[17])],[],[],[],[],[],[(17,0)]),
 (265,[],[],[],[],[],[],[],[],[],[]),
 (266,[],[(0,[])],[(10,[]),(3,[])],[(1,[3]),(3,[10])],[],[],[],[],[],[(3,0),(10,0)]),
 (267,[],[],[],[],[],[],[],[],[],[]),
 (269,[(1,[3])],[(1,[]),(0,[])],[(6,[]),(13,[])],[],[],[],[],[],[],[]),
 (270,[(4,[7]),(1,[6])],[(3,[]),(2,[]),(1,[]),(0,[])],[(12,[]),(30,[])],[(4,[30])],[],[],[],[],[],[(30,0)]),
 (271,[(4,[9]),(8,[10])],[(1,[]),(0,[]),(3,[]),(2,[])],[(19,[]),(30,[])],[],[],[],[],[],[],[]),
 (272,[(5,[9])],[(1,[]),(0,[])],[(33,[]),(43,[10]),(15,[])],[],[],[],[],[369],[],[(10,4)]),
 (273,[],[(0,[6,7])],[(34,[10,11,12]),(32,[11]),(54,[6,7]),(51,[6,7])],[],[],[],[],[],[],[(6,4),(7,4),(10,4),(11,4),(12,4)]),
 (274,[(2,[6,7])],[(1,[6,7]),(0,[])],[(13,[])],[],[],[],[],[],[],[(6,4),(7,4)]),
 (275,[(5,[7]),(14,[9]),(20,[10]),(3,[7,8])],[(3,[7]),(2,[7]),(5,[]),(4,[]),(7,[]),(6,[]),(1,[7]),(0,[])],[(14,[]),(32,[]),(37,[]),(41,[]),(65,[]),(78,[]),(61,[]),(103,[]),(116,[]),(98,[])],[(5,[32])],[],[],[],[],[],[(7,4),(32,0)]),
 (276,[],[],[],[(1,[4])],[],[],[],[],[],[(4,0)]),
 (277,[(3,[9]),(5,[10]),(3,[9,10])],[(3,[9]),(2,[9]),(5,[10]),(4,[10]),(1,[9,10]),(0,[9])],[(43,[]),(59,[]),(64,[])],[(3,[43]),(5,[59])],[],[],[],[],[],[(9,4),(10,4),(43,0),(59,0)]),
 (278,[(3,[10]),(5,[11]),(13,[10]),(15,[11]),(13,[10,11])],[(1,[10]),(0,[10]),(3,[11]),(2,[11]),(7,[10]),(6,[10]),(9,[11]),(8,[11]),(5,[10,11]),(4,[11])],[(43,[]),(60,[]),(65,[]),(112,[]),(129,[]),(134,[])],[(3,[43]),(5,[60]),(13,[112]),(15,[129])],[],[],[],[],[],[(10,4),(11,4),(43,0),(60,0),(112,0),(129,0)]),
 (279,[],[],[(22,[])],[],[],[],[],[],[],[]),
 (280,[],[],[],[(1,[4])],[],[],[],[],[],[(4,0)]),
 (281,[(9,[44])],[(1,[]),(0,[])],[(17,[]),(29,[]),(37,[]),(45,[]),(75,[])],[(3,[29])],[],[],[2],[381],[41],[(29,0)]),
 (282,[],[],[(14,[]),(20,[]),(53,[]),(70,[])],[(6,[53]),(8,[70])],[],[],[],[],[],[(53,0),(70,0)]),
 (283,[],[],[(8,[]),(14,[])],[],[],[],[],[],[41],[]),
 (284,[],[(0,[4])],[(8,[]),(33,[4]),(24,[4]),(12,[4]),(39,[])],[(9,[4]),(7,[4])],[],[],[0],[],[41],[(4,0)]),
 (285,[],[],[],[],[],[],[],[],[],[]),
 (286,[],[],[],[],[],[],[],[],[],[]),
 (287,[(1,[8])],[(1,[8]),(0,[])],[(16,[]),(36,[9]),(52,[])],[(3,[36])],[],[],[],[],[],[(8,4),(9,4),(36,0)]),
 (288,[],[],[],[],[],[],[],[],[],[]),
 (289,[],[],[],[],[],[],[],[],[],[]),
 (290,[],[],[],[],[],[],[],[],[],[]),
 (291,[],[],[],[(1,[3])],[],[],[],[],[],[(3,0)]),
 (292,[],[],[(4,[])],[],[],[],[],[],[],[]),
 (293,[(2,[5,6])],[(1,[5,6]),(0,[5])],[(11,[]),(21,[5,6])],[],[],[],[],[],[],[(5,4),(6,4)]),
 (294,[],[],[],[],[],[],[],[],[],[]),
 (295,[],[],[(16,[]),(22,[]),(31,[]),(68,[])],[],[],[],[],[],[],[]),
 (296,[],[],[],[],[],[],[],[],[],[]),
 (297,[],[],[],[(1,[4])],[],[],[1],[],[],[(4,0)]),
 (298,[],[],[(13,[])],[],[],[],[],[],[],[]),
 (299,[],[],[(8,[]),(42,[]),(75,[])],[(4,[42]),(6,[75])],[],[],[0],[80],[41],[(42,0),(75,0)]),
 (300,[],[],[],[],[],[],[0],[],[41],[]),
 (301,[],[],[(34,[]),(39,[])],[(2,[34])],[],[],[2],[],[41],[(34,0)]),
 (302,[],[],[],[],[],[],[0,2],[],[41],[]),
 (304,[],[],[(18,[])],[],[],[],[],[],[],[]),
 (305,[(2,[8])],[(1,[]),(0,[])],[(9,[]),(16,[])],[],[],[],[],[],[],[]),
 (307,[],[],[],[],[],[],[],[],[],[]),
 (308,[(2,[8])],[(1,[]),(0,[])],[(9,[]),(16,[])],[],[],[],[],[],[],[]),
 (309,[],[],[],[],[],[],[],[],[],[]),
 (310,[],[],[],[(1,[3])],[],[],[0],[],[],[(3,0)]),
 (311,[],[],[(12,[6]),(22,[7])],[],[],[],[],[],[],[(6,4),(7,4)]),
 (312,[],[],[],[],[],[],[],[434],[],[]),
 (313,[(4,[13])],[(1,[]),(0,[])],[(10,[]),(14,[]),(24,[])],[],[],[],[],[],[],[]),
 (314,[],[],[],[],[],[],[],[],[],[]),
 (315,[(2,[8])],[(1,[]),(0,[])],[(9,[]),(16,[])],[],[],[],[],[],[],[]),
 (316,[],[],[],[],[],[],[],[],[],[]),
 (317,[],[],[],[],[],[],[],[],[],[]),
 (318,[],[],[],[],[],[],[],[],[],[]),
 (319,[],[],[],[],[],[],[],[],[],[]),
 (320,[(1,[2,3])],[(1,[]),(0,[])],[(9,[])],[],[],[],[],[],[],[])]
def ρ295:Go.Shelf.Ren:=⟨fun x=>if x=22 then 295 else if x=29 then 306 else if x=30 then 307 else 0,fun x=>if x=24 then 162 else if x=9 then 381 else if x=3 then 3 else if x=4 then 4 else 0,fun x=>x⟩
theorem lay295:Fx Tryz.prog ρ295 10 where
 mixed:=by kernel_rfl
 f22 := ⟨"slices.Insert[[]mailboat/api.Frame,mailboat/api.Frame]", by decide, by kernel_rfl⟩
 f29:=⟨_,rfl,by kernel_rfl,by kernel_rfl,by kernel_rfl,by kernel_rfl⟩
 t3:=by kernel_rfl
 a3:=fun w=>by kernel_rfl
 z3:=fun w=>by kernel_rfl
 v3:=fun w=>by kernel_rfl
 t4:=by kernel_rfl
 a4:=fun w=>by kernel_rfl
 z4:=fun w=>by kernel_rfl
 v4:=fun w=>by kernel_rfl
 z9:=fun w=>by kernel_rfl
 t24:=by kernel_rfl
 a24:=fun w=>by kernel_rfl
 z24:=fun w=>by kernel_rfl
 v24:=fun w=>by kernel_rfl
 i9:=⟨_,_,rfl,rfl,rfl,rfl,by decide⟩
 pos:=by decide
def NM (g:Nat):Option Prim:=if g=295 then some (.ins 10) else none
theorem P9 (g:Nat) (p:Prim) (h:NM g=some p):Qx Tryz.prog g p:=by
 unfold NM at h;split at h
 ·rename_i e;cases h;exact ⟨ρ295,e.symm ▸ rfl,lay295⟩
 cases h
def QT (g:Nat) (xs:List Tree):Option (List Tree):=
 if g=234 then (match xs with
  |[]=>some ID
  |_=>none) else if g=285 then (match xs with
  |[]=>some [.mp .i64 [(2,301),(3,302)]]
  |_=>none) else none
noncomputable def C:Cfg:={P:=Tryz.prog,heapful:=fun g=>[31,37,48,49,50,51,53,55,56,58,61,65,66,67,68,76,81,82,90,92,94,96,97,104,105,115,116,118,119,121,122,123,126,128,137,138,139,140,141,142,143,144,149,150,155,156,157,158,159,167,168,170,171,172,173,176,177,184,185,187,189,193,194,195,196,203,208,211,212,213,214,215,216,217,218,221,222,226,227,229,230,231,232,233,235,236,240,241,242,243,245,247,248,249,250,251,256,257,261,262,263,264,269,279,282,288,289,290,291,293,294,295,304,305,307,309,310,312,314,315,320].contains g,own:=fun g=>[9,109,124,181,292].contains g,reuse:=fun g=>[].contains g,joinc:=fun g=>[48,49,51,55,56,58,66,81,90,92,94,96,97,116,119,121,122,123,126,128,137,138,139,140,141,142,143,144,149,150,155,157,158,159,167,168,170,172,173,176,177,184,189,193,194,195,196,203,208,211,212,213,214,215,216,217,218,226,227,229,230,231,232,233,240,241,242,245,247,248,249,251,256,261,262,263,264,269,279,288,289,290,291,293,294,304,305,307,309,310,314,315,320].contains g,prim:=NM,primOk:=P9,cur:=fun _=>false,curT:=fun _=>false,curN:=fun _=>false,depth:=12,hints:=TL htab,ext:=QT,fnTy:=fun t=>[255,315].contains t,own2:=fun g=>if g=124 then some 15 else if g=181 then some 15 else none,renT:=fun g t=>([((231,45),(2,86)),((232,45),(2,88))]:List ((Nat×Nat)×(Nat×Nat))).lookup (g,t)}
theorem mix:C.P.follows .mixedOrders=true:=by kernel_rfl
end Ab
