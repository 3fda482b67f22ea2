/- A part of the proof: see the last text. -/
import Derived.Test.YtehmfejagbcnbaaGreatDoorM2
import Derived.LoopNIn
import Derived.RangeFuncNested
import Derived.OpenShut
import Derived.RowKit
import Derived.ChangeSame
import Derived.WideShapes
import Derived.ChangeShapes
import Derived.Deep.Slices
import Derived.Below
import Derived.CallsIn
import Derived.Shelf.SlSortCmp.WholeK
import Derived.Shelf.SlSortCmp.NoneTotal
import Derived.Shelf.Sort.Plain
import Derived.Shelf.Slices.In.SortNone
import Derived.Test.YtehmfejagbcnbaaGreatDoorProg
import Derived.Deep.LoopGhost
import Derived.StillTailTactics
import Derived.Deep.RegionWith
import Derived.WalkKit
import Derived.KernelRfl
import Derived.Shelf.SlLaysF0
import Derived.Shelf.SlSortCmp.InsertionK
set_option linter.unusedVariables false
set_option linter.unusedSimpArgs false
open Array (getElem?_modify getElem?_toList length_toList size_append toArray_toList)
open Bool (and_eq_true false_eq_true not_eq_true' or_eq_false_iff or_eq_true)
open List (all_cons all_eq_true any_cons any_eq_true append_assoc append_nil append_of_mem cons_append drop drop_zero ext_getElem? filterMap_cons filter_append filter_cons_of_neg filter_cons_of_pos filter_eq_self find?_cons foldlM_append foldlM_cons foldl_cons getD_eq_getElem?_getD getElem?_append_left getElem?_append_right getElem?_cons_succ getElem?_drop getElem?_eq_getElem getElem?_eq_none getElem?_map getElem?_range getElem?_set_ne getElem?_set_self getElem?_take getElem?_take_of_lt getElem_mem length length_append length_map length_range mapM_cons map_congr_left map_cons mem_append mem_append_left mem_append_right mem_cons mem_cons_of_mem mem_filter mem_filterMap mem_map mem_of_getElem? mem_of_mem_drop mem_range nil_append nodup_append nodup_cons nodup_nil pairwise_append pairwise_cons replicate size_toArray take take_zero)
open Nat (add_assoc add_mul le_refl le_trans lt_or_ge mod_lt mul_comm not_lt pos_of_ne_zero zero_add zero_le)
open Option (bind_assoc map_none map_some)
namespace Ab
open Go
variable {R:Type} {P:Program} {B:Nat→Prop} {κ:A1} {h:Heap} {w:World} {N:Nat} {env:Env} {a:Act}
theorem Ir (hr:Rel B N κ env h a w):Rel B N κ env h a {w with drawn:=w.drawn+1}:=
 ⟨HS hr.heap (G4 hr.heap) fun _ _=>rfl,hr.size,fun i=>(hr.slot i).ext (G4 hr.heap)⟩
theorem Ar {ops:Array Oper} {i:Nat} (hi:i<ops.size):ops[i]? = some (ops.getD i default):=by simp only [Array.getD,hi,dif_pos];exact Array.getElem?_eq_getElem hi
theorem Ra {R:Type} (C:Cfg) (rec:Rec) (pc:BF) {env env':Env} {op:Op} (hl:Ag C op=true) (hE:∀x∈op.operands,ev env x=ev env' x) (K:AV→Heap→Option R) :
  Af C rec pc false env h op K=Af C rec pc false env' h op K:=by
 by_cases hh:Au op=true
 case neg=>
  have hw:(∃g args argTypes,op = .call {callee :=.value (.func g),args,argTypes})∨(∃t len parts,op = .buildSlice t len parts)∨∃src dst x,op = .convert src dst x:=by unfold Ag at hl;split at hl<;>first|(exact absurd rfl hh)|(exact .inl ⟨_,_,_,rfl⟩)|(exact .inr (.inl ⟨_,_,_,rfl⟩))|(exact .inr (.inr ⟨_,_,_,rfl⟩))|cases hl
  rcases hw with ⟨g,args,argTypes,rfl⟩|⟨t,len,parts,rfl⟩|⟨src,dst,x,rfl⟩
  case inr.inr=>
   have hf:Mz C.P src dst=true:=hl;have hx:=hE x (by simp [Op.operands]);simp only [Af,Au,false_eq_true,if_false,hf,if_true,hx]
  case inr.inl=>
   have hf:C.fnTy t=true:=hl;have hparts:parts.toList.map (fun p=>(p.1,ev env p.2))=parts.toList.map (fun p=>(p.1,ev env' p.2)):=
    map_congr_left fun p hm=>by rw [hE p.2 (by simp [Op.operands];exact ⟨p.1,by simpa using hm⟩)]
   simp only [Af,Au,false_eq_true,if_false,hf,if_true,hparts]
  have hh':Au (.call {callee :=.value (.func g),args,argTypes})=false:=by simpa using hh
  have hm:args.toList.map (ev env)=args.toList.map (ev env'):=map_congr_left fun y hy=>hE y (by simp [Op.operands,Call.operands];right;simpa using hy);unfold Af;simp only [hh',false_eq_true,if_false,hm];rfl
 unfold Af;simp only [hh,if_true,false_eq_true,if_false];cases op with
 |alloc t=>
  have hrn:C.ren t=none:=by simpa [Ag] using hl
  simp only [Bq,hrn];by_cases hc:C.curT t=true<;>simp [hc,hop]
 |box t x=>
  have h1:=hE x (by simp [Op.operands]);simp only [Bq];by_cases hc:C.cur (DS x)=true<;>simp [hc,hop,h1]
 |store t a x=>
  have h1:=hE a (by simp [Op.operands]);have h2:=hE x (by simp [Op.operands]);simp only [Bq];by_cases hc:C.curT t=true<;>simp [hc,hop,h1,h2]
 |call c=>
  obtain ⟨callee,args,argTypes⟩:=c;cases callee with
  |builtin b=>
   cases b<;>first|(simp [Ag] at hl;done)|skip
   ·simp only [Bq,hop];split
    ·rename_i s x t t' hx _;have hm:∀y∈args.toList,ev env y=ev env' y:=fun y hy=>hE y (by simp [Op.operands,Call.operands];simpa using hy);rw [hm s (by rw [hx];simp),hm x (by rw [hx];simp)]
    ·rfl
   ·simp only [Bq,hop];split
    ·rename_i x t hx _;have hm:∀y∈args.toList,ev env y=ev env' y:=fun y hy=>hE y (by simp [Op.operands,Call.operands];simpa using hy);rw [hm x (by rw [hx];simp)]
    ·rfl
   ·simp only [Bq,hop];split
    ·rename_i d x t _ hx _;have hm:∀y∈args.toList,ev env y=ev env' y:=fun y hy=>hE y (by simp [Op.operands,Call.operands];simpa using hy);rw [hm d (by rw [hx];simp),hm x (by rw [hx];simp)]
    ·rfl
  |_=>simp [Au] at hh
 |makeSlice t n c=>
  have h1:=hE n (by simp [Op.operands]);have h2:=hE c (by simp [Op.operands]);simp [Bq,hop,h1,h2]
 |makeMap t r=>
  cases r with
  |none=>simp [Bq,hop]
  |some r=>simp [Ag] at hl
 |mapUpdate t m x v=>
  have h1:=hE m (by simp [Op.operands]);have h2:=hE x (by simp [Op.operands]);have h3:=hE v (by simp [Op.operands]);simp [Bq,hop,h1,h2,h3]
 |_=>first|(simp [Ag] at hl;done)|(simp [Au] at hh;done)
noncomputable def Ot (C:Cfg) (rec:Rec) (pc:BF) (env:Env) (h:Heap) (op:Op):Option (AV×Heap):=Af C rec pc (!Ag C op) env h op fun v h'=>some (v,h')
theorem dval_eq {R:Type} (C:Cfg) (rec:Rec) (pc:BF) (env:Env) (op:Op) (K:AV→Heap→Option R):Af C rec pc (!Ag C op) env h op K=(Ot C rec pc env h op).bind fun p=>K p.1 p.2:=by
 unfold Ot;cases hl:Ag C op with
 |false=>
  simp only [Bool.not_false,step_eq];cases GS C rec pc h env op<;>rfl
 |true=>
  simp only [Bool.not_true];rcases Vu (h:=h) C rec pc env op hl with ⟨p,hp⟩|hn
  ·rw [show Af C rec pc false env h op K=K p.1 p.2 from hp R fun q=>K q.1 q.2,show (Af C rec pc false env h op fun v h'=>some (v,h'))=some p from hp (AV×Heap) some];rfl
  ·rw [show Af C rec pc false env h op K=none from hn R fun q=>K q.1 q.2,show (Af C rec pc false env h op fun v h'=>some (v,h'))=none from hn (AV×Heap) some];rfl
def Fv (C:Cfg) (N:Nat) (S:List Nat) (nf:Bool) (o:Oper) (env:Env) (h:Heap):Prop:=JH N o=true∧(nf=true→F6 C.P S env o.op=true)∧BJ S h=true∧(Ag C o.op=true→IT C.P S env o.op=true)
instance (C:Cfg) (N:Nat) (S:List Nat) (nf:Bool) (o:Oper) (env:Env) (h:Heap):Decidable (Fv C N S nf o env h):=by unfold Fv;infer_instance
noncomputable def Ef (C:Cfg) (rec:Rec) (pc:BF) (N:Nat) (ops:Array Oper) (S:List Nat) (nf:Bool) (o:Oper) (env:Env) (h:Heap):Option (AV×Heap):=
 if Fv C N S nf o env h then (M6 ops o env).bind fun b=>if b then Ot C rec pc env h o.op else some (.tuple [],h) else none
noncomputable def Ao (C:Cfg) (rec:Rec) (pc:BF) (N:Nat) (ops:Array Oper) (S:List Nat) (nf:Nat→Bool) (i:Nat) (s:Env×Heap):Option (Env×Heap):=
 match ops[i]? with
 |some o=>(Ef C rec pc N ops S (nf i) o s.1 s.2).map fun p=>(s.1.put o.dst p.1,p.2)
 |none=>none
theorem A5 {R:Type} (C:Cfg) (rec:Rec) (pc:BF) (N:Nat) (ops:Array Oper) (S:List Nat) (nf:Nat→Bool):∀(l:List Nat) (env:Env) (h:Heap) (K:Env→Heap→Option R),
  Bf C rec pc N ops S nf l env h K=(l.foldlM (fun s i=>Ao C rec pc N ops S nf i s) (env,h)).bind fun s=>K s.1 s.2
 |[],env,h,K=>rfl
 |i::l,env,h,K=>by
  simp only [Bf,foldlM_cons,Ao];cases ho:ops[i]? with
  |none=>rfl
  |some o=>
   simp only [Ef,AF];by_cases hd:Fv C N S (nf i) o env h
   ·rw [if_pos (show _∧_ from hd),if_pos hd,QD];cases M6 ops o env with
    |none=>rfl
    |some b=>
     cases b with
     |true=>
      simp only [Option.bind_some,if_true,dval_eq];cases Ot C rec pc env h o.op with
      |none=>rfl
      |some p=>simp only [Option.bind_some,map_some,A5 C rec pc N ops S nf l];rfl
     |false=>simp only [Option.bind_some,false_eq_true,if_false,A5 C rec pc N ops S nf l];rfl
   ·rw [if_neg (show ¬(_∧_) from hd),if_neg hd];rfl
theorem RS {P:Program} {S:List Nat} {env env':Env} {op:Op} (hE:∀x∈op.operands,ev env x=ev env' x):partAt P S env op=partAt P S env' op:=by
 cases op with
 |load t a=>simp only [partAt,hE a (by simp [Op.operands])]
 |fieldAddr t a f=>simp only [partAt,hE a (by simp [Op.operands])]
 |_=>rfl
theorem Rp {P:Program} {S:List Nat} {env env':Env} {op:Op} (hE:∀x∈op.operands,ev env x=ev env' x):F6 P S env op=F6 P S env' op:=by
 unfold F6;rw [RS hE];cases GA op with
 |true=>rfl
 |false=>
  simp only [Bool.false_or];congr 1;rw [Bool.eq_iff_iff,all_eq_true,all_eq_true];constructor
  ·intro hh x hx;rw [← hE x (by simpa using hx)];exact hh x hx
  ·intro hh x hx;rw [hE x (by simpa using hx)];exact hh x hx
theorem PS {env env':Env} {op:Op} (hE:∀x∈op.operands,ev env x=ev env' x):Ea env op=Ea env' op:=by
 cases op with
 |store t a x=>
  have h1:=hE a (by simp [Op.operands]);simp only [Ea,h1]
 |mapUpdate t m x v=>
  have h1:=hE m (by simp [Op.operands]);simp only [Ea,h1]
 |call c=>
  obtain ⟨callee,args,argTypes⟩:=c;cases callee with
  |builtin b=>
   simp only [Ea];split
   ·rename_i s rest hx;have hm:∀y∈args.toList,ev env y=ev env' y:=fun y hy=>hE y (by simp [Op.operands,Call.operands];simpa using hy);rw [hm s (by rw [hx];simp)]
   ·rfl
  |value f=>
   have hm:∀y∈args.toList,ev env y=ev env' y:=fun y hy=>hE y (by simp [Op.operands,Call.operands];right;simpa using hy);simp only [Ea];congr 1;exact map_congr_left fun y hy=>by rw [hm y hy]
  |_=>rfl
 |_=>rfl
theorem O7 {P:Program} {S:List Nat} {env env':Env} {op:Op} (hE:∀x∈op.operands,ev env x=ev env' x):IT P S env op=IT P S env' op:=by
 unfold IT;rw [PS hE];congr 1;cases op with
 |store t a x=>
  have h1:=hE a (by simp [Op.operands]);simp only [h1]
 |_=>rfl
theorem Kc (C:Cfg) (N:Nat) (S:List Nat) (nf:Bool) (o:Oper) {env env':Env} (hE:∀x∈o.op.operands,ev env x=ev env' x):Fv C N S nf o env h↔Fv C N S nf o env' h:=by unfold Fv;rw [Rp hE,O7 hE]
theorem E2 (C:Cfg) (rec:Rec) (pc:BF) (N:Nat) (ops:Array Oper) (S:List Nat) (nf:Bool) (o:Oper) {env env':Env} (hE:∀t∈o.looksAt ops,env t=env' t):Ef C rec pc N ops S nf o env h=Ef C rec pc N ops S nf o env' h:=by
 have h1:=Lt ops o hE;unfold Ef;rw [L6 ops o hE];have:Ot C rec pc env h o.op=Ot C rec pc env' h o.op:=by
  unfold Ot;cases hl:Ag C o.op with
  |true=>exact Ra C rec pc hl h1 _
  |false=>
   simp only [Bool.not_false,step_eq];rw [RM C rec pc o.op h1]
 rw [this];by_cases hd:Fv C N S nf o env h
 ·rw [if_pos hd,if_pos ((Kc C N S nf o h1).1 hd)]
 ·rw [if_neg hd,if_neg fun hd'=>hd ((Kc C N S nf o h1).2 hd')]
noncomputable def Ff (C:Cfg) (rec:Rec) (pc:BF) (N:Nat) (ops:Array Oper) (S:List Nat) (nf:Bool) (o:Oper) (env:Env) (h:Heap):Option AV:=
 if Fv C N S nf o env h then (M6 ops o env).bind fun b=>if b then GS C rec pc h env o.op else some (.tuple []) else none
theorem D9 (C:Cfg) (rec:Rec) (pc:BF) (N:Nat) (ops:Array Oper) (S:List Nat) (nf:Bool) (o:Oper) (env:Env) (hl:Ag C o.op=false):Ef C rec pc N ops S nf o env h=(Ff C rec pc N ops S nf o env h).map fun v=>(v,h):=by
 unfold Ef Ff Ot;rw [hl];simp only [Bool.not_false,step_eq];split
 ·cases M6 ops o env with
  |none=>rfl
  |some b=>
   cases b
   ·rfl
   ·simp only [Option.bind_some,if_true];cases GS C rec pc h env o.op<;>rfl
 ·rfl
theorem Le (C:Cfg) (rec:Rec) (pc:BF) (N:Nat) (ops:Array Oper) (S:List Nat) (o:Oper) (env:Env) {h h':Heap} (hin:BJ S h=true) (hin':BJ S h'=true) (hag:∀i∈S,At h i=At h' i):Ff C rec pc N ops S true o env h=Ff C rec pc N ops S true o env h':=by
 unfold Ff;have hiff:Fv C N S true o env h↔Fv C N S true o env h':=by unfold Fv;rw [hin,hin']
 by_cases hd:Fv C N S true o env h
 ·rw [if_pos hd,if_pos (hiff.1 hd),To hag (hd.2.1 rfl)]
 ·rw [if_neg hd,if_neg fun hd'=>hd (hiff.2 hd')]
theorem at_of {h h':Heap} {c:Nat} (he:h'[ob c]? = h[ob c]?):At h' c=At h c:=by
 unfold At;unfold ob at he;by_cases hc:c<1024
 ·rw [if_pos hc] at he;rw [if_pos hc,if_pos hc,he]
 ·rw [if_neg hc] at he;rw [if_neg hc,if_neg hc,he]
theorem WK {h:Heap} {c:Nat} {o:AE} (he:At h c=some o):ob c<h.length:=by
 unfold At at he;unfold ob;by_cases hc:c<1024
 ·rw [if_pos hc] at he;rw [if_pos hc];exact (List.getElem?_eq_some_iff.1 he).1
 ·rw [if_neg hc] at he;rw [if_neg hc];cases h1:h[c % 1024]? with
  |none=>rw [h1] at he;cases he
  |some o'=>exact (List.getElem?_eq_some_iff.1 h1).1
theorem at_some {h:Heap} {c:Nat} (hi:ob c<h.length):∃o,At h c=some o:=by
 unfold ob at hi;unfold At;by_cases hc:c<1024
 ·rw [if_pos hc] at hi;rw [if_pos hc];exact ⟨_,getElem?_eq_getElem hi⟩
 ·rw [if_neg hc] at hi;rw [if_neg hc,getElem?_eq_getElem hi];exact ⟨_,rfl⟩
theorem Nz {h h':Heap} {c:Nat} (he:At h' c=At h c) (hi:ob c<h'.length):ob c<h.length:=by obtain ⟨o,ho⟩:=at_some hi;exact WK (he.symm.trans ho)
theorem Oe {S T:List Nat} {h h':Heap} (hin:BJ S h=true) (hk:B9 T h h'):BJ S h'=true:=by unfold BJ at *;rw [all_eq_true] at *;intro i hi;have:=hin i hi;simp only [decide_eq_true_eq] at *;have:=hk.1;omega
theorem Qt {S T:List Nat} {h h':Heap} (hin:BJ S h=true) (hap:SD S T=true) (hk:B9 T h h'):∀i∈S,At h' i=At h i:=by intro i hi;unfold BJ at hin;rw [all_eq_true] at hin;refine at_of (hk.2 (ob i) (by simpa using hin i hi) fun hT => ?_);unfold SD at hap;rw [all_eq_true] at hap;have:=hap i hi;simp at this;exact this hT
theorem Rn {cs vs:List AV} {off j:Nat} (hle:off+vs.length≤cs.length) (hj:j<off∨off+vs.length≤j):(setAt cs off vs).getD j .undef=cs.getD j .undef:=by obtain ⟨_,hg⟩:=Fb cs vs off hle;rw [getD_eq_getElem?_getD,getD_eq_getElem?_getD,hg j,if_neg (by omega)]
theorem Ut {h h1:Heap} {i off:Nat} {cs vs:List AV} (hi:h[i]? = some (.box cs)) (hle:off+vs.length≤cs.length) (hk:B9 [] h h1) {c:Nat} (hc:ob c<h.length) (hd:ob c≠i∨Gl c off vs.length=true) :
  At (h1.set i (.box (setAt cs off vs))) c=At h c:=by
 have hil:=AU hi;have h1i:h1[i]? = some (.box cs):=(hk.2 i hil (by simp)).trans hi;by_cases hne:ob c=i
 ·have hd:Gl c off vs.length=true:=by
   rcases hd with hd|hd
   ·exact absurd hne hd
   ·exact hd
  unfold Gl at hd;simp only [and_eq_true,or_eq_true,decide_eq_true_eq] at hd;have hci:c % 1024=i:=by unfold ob at hne;rw [if_neg (by omega)] at hne;exact hne
  unfold At;rw [if_neg (by omega),if_neg (by omega),hci,hi,getElem?_set_self (AU h1i)];simp only [map_some,IY,Option.some.injEq,AE.box.injEq,List.cons.injEq,AV.yld.injEq];refine ⟨(Fb cs vs off hle).1,map_congr_left fun j hj => ?_⟩;have hj:=mem_range.1 hj;exact Rn hle (by omega)
 ·refine at_of ?_;rw [getElem?_set_ne (Ne.symm hne)];exact hk.2 _ hc (by simp)
theorem H9 {P:Program} {R:Type}:∀(vs:List AV) (ts:List TypeId) (h:Heap) {K:List AV→Heap→Option R} {r:R},C1 P ts vs h K=some r→∃vs' h',K vs' h'=some r∧vs'.length=vs.length∧B9 [] h h'
 |[],ts,h,K,r,hr=>⟨[],h,by simpa [C1] using hr,rfl,.refl _ _⟩
 |v::vs,ts,h,K,r,hr=>by
  cases v with
  |nilsl=>
   simp only [C1] at hr;obtain ⟨vs',h',h1,h2,h3⟩:=H9 vs _ _ hr;exact ⟨_,h',h1,by simp [h2],(B9.push [] h _).trans h3⟩
  |_=>
   simp only [C1] at hr;obtain ⟨vs',h',h1,h2,h3⟩:=H9 vs _ _ hr;exact ⟨_,h',h1,by simp [h2],h3⟩
theorem La {h:Heap} {R:Type}:∀(os vs:List AV) {K:List AV→Option R} {r:R},Cp h os vs K=some r→∃vs',K vs'=some r∧vs'.length=vs.length
 |_,[],K,r,hr=>⟨[],by cases ‹List AV› <;>simpa [Cp] using hr,rfl⟩
 |[],v::vs,K,r,hr=>⟨v::vs,by simpa [Cp] using hr,rfl⟩
 |o::os,v::vs,K,r,hr=>by
  have plain:∀x:AV,(Cp h os vs fun vs'=>K (x::vs'))=some r→∃vs',K vs'=some r∧vs'.length=(v::vs).length:=fun x hx=>by obtain ⟨vs',h1,h2⟩:=La os vs hx;exact ⟨_,h1,by simp [h2]⟩
  unfold Cp at hr;split at hr
  ·split at hr
   ·rw [AF] at hr;exact plain _ (AH hr).2
   ·exact plain _ hr
  ·exact plain _ hr
theorem O5 {P:Program} {R:Type} {t:TypeId} {i off n:Nat} {h:Heap} {v:AV} {K:Heap→Option R} {r:R} (hr:E5 P t h (.ptr i off) v K=some r) (hn:BZ P t=some n) :
  ∃h',K h'=some r∧∀c,ob c<h.length→(ob c≠i∨Gl c off n=true)→At h' c=At h c:=by
 unfold E5 at hr;simp only [AF,hn] at hr;split at hr
 ·rename_i vs n' hvs hn';cases hn';obtain ⟨⟨hl,_⟩,hr⟩:=AH hr;split at hr
  ·rename_i cs hi;obtain ⟨hle,hr⟩:=AH hr;obtain ⟨vs1,hr,l1⟩:=La _ _ hr;obtain ⟨vs2,h1,hr,l2,hk⟩:=H9 _ _ _ hr;have l3:vs2.length=n:=by omega
   exact ⟨_,hr,fun c hc hd=>Ut hi (by omega) hk hc (by rw [l3];exact hd)⟩
  ·cases hr
 ·cases hr
theorem WV {C:Cfg} {rec:Rec} {pc:BF} {S:List Nat} {env:Env} {h h':Heap} {op:Op} {v:AV} (hl:Ag C op=true) (hin:BJ S h=true) (hap:IT C.P S env op=true) (hv:Af C rec pc false env h op (fun v h'=>some (v,h'))=some (v,h')):∀c∈S,At h' c=At h c:=by
 unfold IT at hap;rw [or_eq_true] at hap;rcases hap with hap|hap
 ·obtain ⟨v',h'',e,hk⟩:=Lr hl hv;cases e;exact Qt hin hap hk
 ·split at hap
  ·rename_i t a x;split at hap
   ·rename_i i off n ha hn;have key:∀(y:AV) (K:Heap→Option (AV×Heap)),E5 C.P t h (ev env a) y K=some (v,h')→(∀h'',K h''=some (.undef,h''))→∀c∈S,At h' c=At h c:=fun y K hs hK c hc=>by rw [ha] at hs;obtain ⟨h2,e,hat⟩:=O5 hs hn;rw [hK] at e;cases e;unfold BJ at hin;rw [all_eq_true] at hin hap;have h1:=hap c hc;simp only [or_eq_true,decide_eq_true_eq] at h1;exact hat c (by simpa using hin c hc) h1
    unfold Af at hv;simp only [Au,if_true,false_eq_true,if_false,Bq] at hv;by_cases hc:C.curT t=true
    ·simp only [hc,if_true] at hv;exact key _ _ hv fun h''=>by rw [ha];rfl
    ·simp only [hc,false_eq_true,if_false,hop] at hv;exact key _ _ hv fun h''=>rfl
   ·cases hap
  ·cases hap
theorem UG {C:Cfg} {rec:Rec} {pc:BF} {N:Nat} {ops:Array Oper} {S:List Nat} {nf:Bool} {o:Oper} {env:Env} {h:Heap} {p:AV×Heap} (hl:Ag C o.op=true) (hd:Ef C rec pc N ops S nf o env h=some p):BJ S h=true∧BJ S p.2=true∧∀i∈S,At p.2 i=At h i:=by
 unfold Ef at hd;obtain ⟨ha,hd⟩:=AH hd;have hin:=ha.2.2.1;obtain ⟨b,_,hd⟩:=bind_some hd;cases b with
 |false=>
  simp only [false_eq_true,if_false,Option.some.injEq] at hd;subst hd;exact ⟨hin,hin,fun _ _=>rfl⟩
 |true=>
  simp only [if_true] at hd;unfold Ot at hd;rw [hl] at hd;simp only [Bool.not_true] at hd;obtain ⟨v,h',hv,hk⟩:=Lr hl hd;cases hv;exact ⟨hin,Oe hin hk,WV hl hin (ha.2.2.2 hl) hd⟩
theorem Da (C:Cfg) (rec:Rec) (pc:BF) (N:Nat) (ops:Array Oper) (S:List Nat) (nf:Nat→Bool) {i j:Nat} {a b:Oper} (hi:ops[i]? = some a) (hj:ops[j]? = some b) (h1:∀d,a.dst=some d→d∉b.looksAt ops) (h2:∀d,a.dst=some d→b.dst≠some d) (h3:∀d,b.dst=some d→d∉a.looksAt ops)
  (ha:Ag C a.op=true) (hb:Ag C b.op=false) (hnf:nf j=true) (s:Env×Heap):(Ao C rec pc N ops S nf i s).bind (Ao C rec pc N ops S nf j)=(Ao C rec pc N ops S nf j s).bind (Ao C rec pc N ops S nf i):=by
 obtain ⟨env,h⟩:=s;have hA:∀v,Ef C rec pc N ops S (nf i) a (env.put b.dst v) h=Ef C rec pc N ops S (nf i) a env h:=fun v=>E2 C rec pc N ops S _ a fun t ht=>CP fun d hd e=>h3 d hd (e ▸ ht);have hB:∀v h',BJ S h=true→BJ S h'=true→(∀i∈S,At h' i=At h i)→Ef C rec pc N ops S (nf j) b (env.put a.dst v) h'=(Ff C rec pc N ops S true b env h).map fun u=>(u,h'):=fun v h' hi1 hi2 hag=>by rw [E2 (env':=env) C rec pc N ops S _ b fun t ht=>CP fun d hd e=>h1 d hd (e ▸ ht),hnf,D9 C rec pc N ops S true b env hb,Le C rec pc N ops S b env hi2 hi1 hag]
 have hB0:Ef C rec pc N ops S (nf j) b env h=(Ff C rec pc N ops S true b env h).map fun u=>(u,h):=by rw [hnf,D9 C rec pc N ops S true b env hb]
 have fi:Ao C rec pc N ops S nf i=fun s=>(Ef C rec pc N ops S (nf i) a s.1 s.2).map fun p=>(s.1.put a.dst p.1,p.2):=by funext s;simp only [Ao,hi]
 have fj:Ao C rec pc N ops S nf j=fun s=>(Ef C rec pc N ops S (nf j) b s.1 s.2).map fun p=>(s.1.put b.dst p.1,p.2):=by funext s;simp only [Ao,hj]
 simp only [fi,fj];cases hd:Ef C rec pc N ops S (nf i) a env h with
 |none=>
  rw [hB0];cases Ff C rec pc N ops S true b env h with
  |none=>rfl
  |some u=>simp [hA,hd]
 |some p=>
  obtain ⟨hi1,hi2,hag⟩:=UG ha hd;simp only [map_some,Option.bind_some,hB _ _ hi1 hi2 hag,hB0];cases Ff C rec pc N ops S true b env h with
  |none=>rfl
  |some u=>
   simp only [map_some,Option.bind_some,hA,hd];rw [put_comm h2]
theorem F1 (C:Cfg) (rec:Rec) (pc:BF) (N:Nat) (ops:Array Oper) (S:List Nat) (nf:Nat→Bool) {i j:Nat} {a b:Oper} (hi:ops[i]? = some a) (hj:ops[j]? = some b) (h1:∀d,a.dst=some d→d∉b.looksAt ops) (h2:∀d,a.dst=some d→b.dst≠some d) (h3:∀d,b.dst=some d→d∉a.looksAt ops)
  (ha:Ag C a.op=false) (hb:Ag C b.op=false) (s:Env×Heap):(Ao C rec pc N ops S nf i s).bind (Ao C rec pc N ops S nf j)=(Ao C rec pc N ops S nf j s).bind (Ao C rec pc N ops S nf i):=by
 obtain ⟨env,h⟩:=s;have hA:∀v,Ef C rec pc N ops S (nf i) a (env.put b.dst v) h=Ef C rec pc N ops S (nf i) a env h:=fun v=>E2 C rec pc N ops S _ a fun t ht=>CP fun d hd e=>h3 d hd (e ▸ ht);have hB:∀v,Ef C rec pc N ops S (nf j) b (env.put a.dst v) h=Ef C rec pc N ops S (nf j) b env h:=fun v=>E2 C rec pc N ops S _ b fun t ht=>CP fun d hd e=>h1 d hd (e ▸ ht);have qa:=D9 (h:=h) C rec pc N ops S (nf i) a env ha;have qb:=D9 (h:=h) C rec pc N ops S (nf j) b env hb;have fi:Ao C rec pc N ops S nf i=fun s=>(Ef C rec pc N ops S (nf i) a s.1 s.2).map fun p=>(s.1.put a.dst p.1,p.2):=by funext s;simp only [Ao,hi]
 have fj:Ao C rec pc N ops S nf j=fun s=>(Ef C rec pc N ops S (nf j) b s.1 s.2).map fun p=>(s.1.put b.dst p.1,p.2):=by funext s;simp only [Ao,hj]
 simp only [fi,fj];cases hqa:Ff C rec pc N ops S (nf i) a env h with
 |none=>
  rw [hqa] at qa;rw [qa];cases hqb:Ff C rec pc N ops S (nf j) b env h with
  |none=>rw [hqb] at qb;rw [qb];rfl
  |some u=>rw [hqb] at qb;rw [qb];simp [hA,qa]
 |some v=>
  rw [hqa] at qa;rw [qa];cases hqb:Ff C rec pc N ops S (nf j) b env h with
  |none=>rw [hqb] at qb;simp [hB,qb]
  |some u=>
   rw [hqb] at qb;simp only [map_some,Option.bind_some,hA,hB,qa,qb];rw [put_comm h2]
theorem CW {C:Cfg} {rec:Rec} {pc:BF} (hrec:Dd C.P rec) (hpc:B7 C.P pc) (ops:Array Oper) (S:List Nat) (nf:Nat→Bool) (Q:Exit→Act→World→Prop) (n:Nat) (ro:Option Nat) (rest:List Nat) :
  ∀(l:List Nat) {K:Env→Heap→Option R} {r:R} {env:Env} {h:Heap} {κ:A1} {a:Act} {w:World},
   Bf C rec pc N ops S nf l env h K=some r→Rel B N κ env h a w→JT B N κ h w false (l.map fun i=>ops.getD i default) env a K r (wpOpsIn (Fr ro) n C.P ops Q rest)→wpOpsIn (Fr ro) n C.P ops Q (l++rest) a w
 |[],K,r,env,h,κ,a,w,hk,hr,hn=>hn env h κ a w hk hr (Ext.refl _ _ _) (fun _ _=>rfl) rfl fun e=>by cases e
 |i::l,K,r,env,h,κ,a,w,hk,hr,hn=>by
  simp only [Bf,AF] at hk;split at hk
  ·rename_i o ho;obtain ⟨⟨hd,_⟩,hk⟩:=AH hk;have hgo:ops.getD i default=o:=by have hlt:i<ops.size:=(Array.getElem?_eq_some_iff.1 ho).1;have:=Ar hlt;rw [ho] at this;exact (Option.some.inj this).symm
   simp only [cons_append,wpOpsIn,ho];simp only [map_cons,hgo] at hn;have hput:∀(v:AV) (t:Tmp),t∉(o::l.map fun i=>ops.getD i default).filterMap (·.dst)→(env.put o.dst v) t=env t:=fun v t hni=>by
    cases hdst:o.dst with
    |none=>rfl
    |some d=>
     simp only [Env.put];rw [if_neg fun e=>hni (by simp [hdst,e])]
   have hpd:∀val,(a.put o.dst val).defers=a.defers:=fun val=>by cases o.dst<;>rfl
   have hsub:∀t,t∉(o::l.map fun i=>ops.getD i default).filterMap (·.dst)→t∉(l.map fun i=>ops.getD i default).filterMap (·.dst):=fun t hni hm=>hni (by
    simp only [filterMap_cons];split
    ·exact hm
    ·exact mem_cons_of_mem _ hm)
   rcases Gy hk hr with ⟨hw,hk1⟩|⟨hw,hk1⟩
   ·simp only [hw,if_true];refine Ic hrec hpc o hk1 hr _ Q n ro fun v h' κ' val w' h1 h2 h3 h4 h5 => ?_;refine CW hrec hpc ops S nf Q n ro rest l h1 (Ed hr h3 h4 h2 o hd) fun env2 h2 κ2 a2 w2 k1 k2 k3 k4 k5 k6 => ?_;exact hn env2 h2 κ2 a2 w2 k1 k2 (h4.trans k3) (fun t hni=>(k4 t (hsub t hni)).trans (hput v t hni)) (k5.trans (hpd _)) fun e=>by cases e
   ·simp only [hw,false_eq_true,if_false];refine ⟨fun _ _=>trivial,?_⟩;refine CW hrec hpc ops S nf Q n ro rest l hk1 (Ed hr hr.heap (Ext.refl _ _ _) (.tuple _ _ rfl fun j x hx=>by simp at hx) o hd) fun env2 h2 κ2 a2 w2 k1 k2 k3 k4 k5 k6 => ?_;exact hn env2 h2 κ2 a2 w2 k1 k2 k3 (fun t hni=>(k4 t (hsub t hni)).trans (hput _ t hni)) (k5.trans (hpd _)) fun e=>by cases e
  ·cases hk
theorem Gc:∀(xs ys:List AV),Ep xs ys=true→xs=ys
 |[],[],_=>rfl
 |x::xs,y::ys,hs=>by
  cases x<;>cases y<;>simp only [Ep,and_eq_true,beq_iff_eq] at hs<;>first|(cases hs;done)|skip
  ·obtain ⟨⟨rfl,rfl⟩,h3⟩:=hs;rw [Gc xs ys h3]
  ·obtain ⟨rfl,h3⟩:=hs;rw [Gc xs ys h3]
 |[],_::_,hs=>by simp [Ep] at hs
 |x::_,[],hs=>by cases x<;>simp [Ep] at hs
theorem Jh {h h':Heap} {i:Nat} (hs:sameAt h h' i=true):At h' i=At h i∧ob i<h'.length:=by
 unfold sameAt at hs;split at hs
 ·rename_i xs ys h1 h2;rw [Gc _ _ hs] at h1;exact ⟨h2.trans h1.symm,WK h2⟩
 ·cases hs
theorem SA {R:Type} (C:Cfg) (rec:Rec) (pc:BF) {env env':Env} {op:Op} (hl:CK C op=true) (hE:∀x∈op.operands,ev env x=ev env' x) (K:AV→Heap→Option R) :
  Af C rec pc false env h op K=Af C rec pc false env' h op K:=by
 obtain ⟨g,args,argTypes,rfl⟩:∃g args argTypes,op = .call {callee :=.value (.func g),args,argTypes}:=by
  unfold CK at hl;split at hl
  ·exact ⟨_,_,_,rfl⟩
  ·cases hl
 have hh':Au (.call {callee :=.value (.func g),args,argTypes})=false:=rfl;have hm:args.toList.map (ev env)=args.toList.map (ev env'):=map_congr_left fun y hy=>hE y (by simp [Op.operands,Call.operands];right;simpa using hy);unfold Af;simp only [hh',false_eq_true,if_false,hm];rfl
theorem Ka {R:Type} (C:Cfg) (rec:Rec) (pc:BF) {env env':Env} {op:Op} (hl:I7 op=true) (hE:∀x∈op.operands,ev env x=ev env' x) (K:AV→Heap→Option R) :
  Af C rec pc false env h op K=Af C rec pc false env' h op K:=by
 obtain ⟨f,args,argTypes,rfl⟩:∃f args argTypes,op = .call {callee :=.value f,args,argTypes}:=by
  unfold I7 at hl;split at hl
  ·exact ⟨_,_,_,rfl⟩
  ·cases hl
 have hh':Au (.call {callee :=.value f,args,argTypes})=false:=rfl;have hm:args.toList.map (ev env)=args.toList.map (ev env'):=map_congr_left fun y hy=>hE y (by simp [Op.operands,Call.operands];right;simpa using hy);have hf:ev env f=ev env' f:=hE f (by simp [Op.operands,Call.operands]);unfold Af;simp only [hh',false_eq_true,if_false,hm,hf]
theorem IC (C:Cfg) (rec:Rec) (pc:BF) (N:Nat) (ops:Array Oper) (S:List Nat) (nf:Nat→Bool) (o:Oper):∀(l:List Nat) (env:Env) (h:Heap) (s2:Env×Heap),
  (∀y∈l,∃o',ops[y]? = some o'∧Ag C o'.op=false∧nf y=true∧(∀d,o.dst=some d→d∉o'.looksAt ops)∧(∀d,o.dst=some d→o'.dst≠some d)∧∀d,o'.dst=some d→d∉o.looksAt ops)→
  l.foldlM (fun s i=>Ao C rec pc N ops S nf i s) (env,h)=some s2→s2.2=h∧(∀t∈o.looksAt ops,s2.1 t=env t)∧∀v h',BJ S h'=true→BJ S h=true→(∀i∈S,At h' i=At h i)→
   l.foldlM (fun s i=>Ao C rec pc N ops S nf i s) (env.put o.dst v,h')=some (s2.1.put o.dst v,h')
 |[],env,h,s2,_,hf=>by simp only [List.foldlM_nil] at hf;cases hf;exact ⟨rfl,fun _ _=>rfl,fun v h' _ _ _=>rfl⟩
 |y::l,env,h,s2,hq,hf=>by
  obtain ⟨o',ho',hl,hnf,q1,q2,q3⟩:=hq y (by simp);have fy:∀s,Ao C rec pc N ops S nf y s=(Ef C rec pc N ops S (nf y) o' s.1 s.2).map fun p=>(s.1.put o'.dst p.1,p.2):=fun s=>by simp only [Ao,ho']
  rw [foldlM_cons,fy,hnf,D9 C rec pc N ops S true o' env hl] at hf;cases hu:Ff C rec pc N ops S true o' env h with
  |none=>rw [hu] at hf;cases hf
  |some u=>
   rw [hu] at hf;have hf':l.foldlM (fun s i=>Ao C rec pc N ops S nf i s) (env.put o'.dst u,h)=some s2:=hf;obtain ⟨e1,e2,e3⟩:=IC C rec pc N ops S nf o l (env.put o'.dst u) h s2 (fun z hz=>hq z (by simp [hz])) hf';refine ⟨e1,fun t ht=>(e2 t ht).trans (CP fun d hd e=>q3 d hd (e ▸ ht)),fun v h' hi' hi hag => ?_⟩;have h1:Ef C rec pc N ops S true o' (env.put o.dst v) h'=some (u,h'):=by rw [E2 (env':=env) C rec pc N ops S true o' fun t ht=>CP fun d hd e=>q1 d hd (e ▸ ht),D9 C rec pc N ops S true o' env hl,Le C rec pc N ops S o' env hi' hi hag,hu];rfl
   rw [foldlM_cons,fy,hnf];simp only [h1,map_some];rw [put_comm q2];exact e3 v h' hi' hi hag
theorem T4 {C:Cfg} {rec:Rec} {pc:BF} {N:Nat} {ops:Array Oper} {S:List Nat} {nf:Nat→Bool} {o:Oper} {l1 l2:List Nat} {env:Env} {h:Heap} {K:Env→Heap→Option R} {r:R} (hcg:∀(env' env1:Env) (h1:Heap) (K1:AV→Heap→Option R),(∀x∈o.op.operands,ev env1 x=ev env' x)→Af C rec pc false env1 h1 o.op K1=Af C rec pc false env' h1 o.op K1)
  (hq:∀y∈l2,∃o',ops[y]? = some o'∧Ag C o'.op=false∧nf y=true∧(∀d,o.dst=some d→d∉o'.looksAt ops)∧(∀d,o.dst=some d→o'.dst≠some d)∧∀d,o'.dst=some d→d∉o.looksAt ops)
  (hk:Bf C rec pc N ops S nf (l1++l2) env h (fun env' h'=>P4 C rec pc N S o env' h' K)=some r) :
  JH N o=true∧o.guard=none∧Bf C rec pc N ops S nf l1 env h (fun env1 h1=>Af C rec pc false env1 h1 o.op fun v h'=>cnd (S.all (sameAt h1 h')=true) (Bf C rec pc N ops S nf l2 (env1.put o.dst v) h' K) none)=some r:=by
 rw [A5,foldlM_append] at hk;rw [A5];cases h1:l1.foldlM (fun s i=>Ao C rec pc N ops S nf i s) (env,h) with
 |none=>rw [h1] at hk;cases hk
 |some s1=>
  rw [h1] at hk;have hk:(l2.foldlM (fun s i=>Ao C rec pc N ops S nf i s) s1).bind (fun s=>P4 C rec pc N S o s.1 s.2 K)=some r:=hk;cases h2:l2.foldlM (fun s i=>Ao C rec pc N ops S nf i s) s1 with
  |none=>rw [h2] at hk;cases hk
  |some s2=>
   rw [h2] at hk;simp only [Option.bind_some] at hk;obtain ⟨e1,e2,e3⟩:=IC C rec pc N ops S nf o l2 s1.1 s1.2 s2 hq h2;unfold P4 at hk;simp only [AF] at hk;obtain ⟨⟨hd,hg⟩,hk⟩:=AH hk;refine ⟨hd,hg,?_⟩;simp only [Option.bind_some];rw [e1,hcg s1.1 s2.1 _ _ (Lt ops o e2)] at hk;rw [← hk];congr 1;funext v h';simp only [AF];by_cases hs:S.all (sameAt s1.2 h')=true
   ·rw [if_pos hs,if_pos hs,A5];have hall:=all_eq_true.1 hs;have hi':BJ S h'=true:=by unfold BJ;rw [all_eq_true];intro i hi;simpa using (Jh (hall i hi)).2
    have hi:BJ S s1.2=true:=by unfold BJ;rw [all_eq_true];intro i hi;have h3:=Jh (hall i hi);simpa using Nz h3.1 h3.2
    rw [e3 v h' hi' hi fun i hi=>(Jh (hall i hi)).1];rfl
   ·rw [if_neg hs,if_neg hs]
theorem Pt {Q:Nat→Nat→Prop}:∀(l:List Nat),(∀a x b y,l=a++x::b→y∈b→Q x y)→l.Pairwise Q
 |[],_ =>.nil
 |z::l,hh=>pairwise_cons.2 ⟨fun y hy=>hh [] z l y rfl hy,Pt l fun a x b y e hy=>hh (z::a) x b y (by rw [e];rfl) hy⟩
theorem Gk {Q:Nat→Nat→Prop} {l a b:List Nat} {x y:Nat} (hp:l.Pairwise Q) (e:l=a++x::b) (hy:y∈b):Q x y:=by subst e;rw [pairwise_append] at hp;exact (pairwise_cons.1 hp.2.1).1 y hy
theorem sort_to {σ:Type} (f:Nat→σ→Option σ) (m:Nat) (T l:List Nat) (hT:T.Perm (List.range m)) (hn:l.Nodup) (hm:∀i,i∈l↔i<m)
  (hc:∀l1 x l2 y,l=l1++x::l2→y∈l2→T.idxOf y<T.idxOf x→∀s,(f x s).bind (f y)=(f y s).bind (f x)) (s:σ) :
  l.foldlM (fun s i=>f i s) s=T.foldlM (fun s i=>f i s) s:=by
 have hTn:T.Nodup:=hT.nodup_iff.2 List.nodup_range;have hTl:T.length=m:=by rw [hT.length_eq,length_range]
 have hTm:∀i,i∈T↔i<m:=fun i=>by rw [hT.mem_iff,mem_range]
 have hget:∀x,x<m→T.getD (T.idxOf x) 0=x:=fun x hx=>by have hlt:=List.idxOf_lt_length_of_mem ((hTm x).2 hx);rw [getD_eq_getElem?_getD,getElem?_eq_getElem hlt,Option.getD_some];exact List.getElem_idxOf hlt
 have hidx:∀k,k<m→T.idxOf (T.getD k 0)=k:=fun k hk=>by rw [getD_eq_getElem?_getD,getElem?_eq_getElem (by omega),Option.getD_some];exact hTn.idxOf_getElem k (by omega)
 have key:=FY (fun k=>f (T.getD k 0)) m (l.map T.idxOf) ?_ ?_ ?_ s
 ·rw [List.foldlM_map] at key;have e1:∀(q:List Nat),(∀i∈q,i<m)→∀s,q.foldlM (fun s i=>f (T.getD (T.idxOf i) 0) s) s=q.foldlM (fun s i=>f i s) s:=by
   intro q
   induction q with
   |nil=>intro _ s;rfl
   |cons x q ih=>
    intro hq s;rw [foldlM_cons,foldlM_cons,hget x (hq x (by simp))];congr 1;funext s';exact ih (fun i hi=>hq i (by simp [hi])) s'
  rw [e1 l (fun i hi=>(hm i).1 hi)] at key;rw [key];have e2:T=(List.range m).map fun k=>T.getD k 0:=by
   apply ext_getElem?;intro k;rw [getElem?_map];by_cases hk:k<m
   ·rw [getElem?_range hk,getElem?_eq_getElem (by omega),map_some,getD_eq_getElem?_getD,getElem?_eq_getElem (by omega),Option.getD_some]
   ·rw [getElem?_eq_none (by omega),getElem?_eq_none (by simp;omega),map_none]
  conv=>rhs;rw [e2]
  rw [List.foldlM_map]
 ·rw [List.nodup_iff_pairwise_ne,List.pairwise_map];refine (List.nodup_iff_pairwise_ne.1 hn).imp_of_mem fun {a b} ha hb hab e=>hab ?_;rw [← hget a ((hm a).1 ha),← hget b ((hm b).1 hb),e]
 ·intro k;rw [mem_map];constructor
  ·rintro ⟨x,hx,rfl⟩
   have:=List.idxOf_lt_length_of_mem ((hTm x).2 ((hm x).1 hx));omega
  ·intro hk;refine ⟨T.getD k 0,(hm _).2 ((hTm _).1 ?_),hidx k hk⟩;rw [getD_eq_getElem?_getD,getElem?_eq_getElem (by omega),Option.getD_some];exact getElem_mem _
 ·intro l1 x l2 y e hy hlt s;obtain ⟨a1,a2,rfl,rfl,e2⟩:=List.map_eq_append_iff.1 e;obtain ⟨z,b2,rfl,rfl,rfl⟩:=List.map_eq_cons_iff.1 e2;obtain ⟨w,hw,rfl⟩:=mem_map.1 hy;have hz:=(hm z).1 (by simp);have hwm:=(hm w).1 (by simp [hw]);simp only [hget z hz,hget w hwm];exact hc a1 z b2 w rfl hw hlt s
theorem VI {b:List Nat}:∀{T:List Nat} {x y:Nat},Si b T=true→x∈T→y∈T→T.idxOf y<T.idxOf x→¬(b.getD y 0).testBit x=true
 |[],_,_,_,hx,_,_=>by cases hx
 |z::T,x,y,ho,hx,hy,hlt=>by
  simp only [Si,and_eq_true,all_eq_true,not_eq_true'] at ho;by_cases hyz:z=y
  ·subst hyz;rcases mem_cons.1 hx with rfl|hx
   ·omega
   ·rw [ho.1 x hx];exact Bool.false_ne_true
  ·by_cases hxz:z=x
   ·subst hxz;rw [List.idxOf_cons_self] at hlt;omega
   ·have e1:(z::T).idxOf y=T.idxOf y+1:=by rw [List.idxOf_cons,beq_false_of_ne hyz];rfl
    have e2:(z::T).idxOf x=T.idxOf x+1:=by rw [List.idxOf_cons,beq_false_of_ne hxz];rfl
    rw [e1,e2] at hlt;refine VI ho.2 ?_ ?_ (by omega)
    ·exact (mem_cons.1 hx).resolve_left fun e=>hxz e.symm
    ·exact (mem_cons.1 hy).resolve_left fun e=>hyz e.symm
theorem L3 {l l1 l2:List Nat} {x y:Nat} (e:l=l1++x::l2) (hn:l.Nodup) (hy:y∈l2):l.idxOf x<l.idxOf y:=by
 subst e;rw [nodup_append,nodup_cons] at hn;obtain ⟨n1,⟨n2,n3⟩,n4⟩:=hn;have hx1:x∉l1:=fun h=>n4 x h x (by simp) rfl;have hy1:y∉l1:=fun h=>n4 y h y (by simp [hy]) rfl;have hxy:x≠y:=fun h=>n2 (h ▸ hy);have e1:(x::l2).idxOf y=l2.idxOf y+1:=by rw [List.idxOf_cons,beq_false_of_ne hxy];rfl
 rw [List.idxOf_append,List.idxOf_append,if_neg hx1,if_neg hy1,List.idxOf_cons_self,e1];omega
theorem Lc {C:Cfg} {rec:Rec} {pc:BF} (hrec:Dd C.P rec) (hpc:B7 C.P pc) (hmix:C.P.follows .mixedOrders=true) {id:Nat} {ops:Array Oper} {K:Env→Heap→Option R} {r:R} {S:List Nat} {m i0 j0:Nat}
  (hp:RT C ops (AS ops) m i0 j0=true) (hff:DW (AS ops) ops.size m=true) (hed:F8 ops=true) (hle:m≤ops.size)
  (hA:Bf C rec pc N ops S (An C ops (AS ops) m) (List.range m) env h (fun env' h'=>Dr C rec pc N false ops (ops.toList.drop m) env' h' K)=some r)
  (hB:Bf C rec pc N ops S (An C ops (AS ops) m) (order2 (AS ops) m i0 j0) env h (fun env' h'=>Dr C rec pc N false ops (ops.toList.drop m) env' h' K)=some r)
  (hr:Rel B N κ env h a w) (Q:Exit→Act→World→Prop) (n:Nat) (ro:Option Nat)
  (hn:JT B N κ h w false ops.toList env a K r fun a' w'=>Q .normal a' w'):(Code.region id ops true).wpIn (Fr ro) n C.P Q a w:=by
 unfold RT at hp;simp only [and_eq_true,decide_eq_true_eq] at hp;obtain ⟨hdo,hperm,hord,hidx⟩:=hp;have hT:=List.isPerm_iff.1 hperm;generalize order2 (AS ops) m i0 j0=T at *;refine wpIn_region_draw fun t => ?_;have hsch:Region.schedule (C.P.follows .mixedOrders) ops t=Region.linearise .any ops t:=by simp only [Region.schedule,hmix,Bool.true_or,if_true]
 rw [hsch];obtain ⟨p1,p2,p3,p4⟩:=Gb hed (EW ops t) (fun i hi=>by cases hi);obtain ⟨lp,hL,hlpn,hlpm⟩:=FK (n:=m) (ops.size-m) (Region.linearise .any ops t) p1 (fun i=>by
  constructor
  ·intro hi;have:=(p2 i hi).2;omega
  ·intro hi;exact (p3 i (by omega)).resolve_left (by simp)) (fun l1 x l2 e hx y hy=>by
   have hxs:x<ops.size:=(p2 x (by rw [e];simp)).2;have h1:=(all_eq_true.1 hff) x (mem_range.2 hxs);have h2:(AS ops).getD x 0=2 ^ x-1:=by simp only [or_eq_true,decide_eq_true_eq,beq_iff_eq] at h1;exact h1.resolve_left (by omega)
   refine (p4 l1 x l2 e y ?_).resolve_left (by simp);rw [h2,Nat.testBit_two_pow_sub_one];simpa using hy)
 rw [hL];let g:Nat→Oper:=fun i=>ops.getD i default;have hlt:∀i∈lp,i<ops.size:=fun i hi=>by have:=(hlpm i).1 hi;omega
 have hpair:∀x y,x<m→y<x→¬((AS ops).getD x 0).testBit y=true→¬(y=i0∧x=j0)→
   (BI C ops y&&BI C ops x)=false∧(∀d,(g y).dst=some d→d∉(g x).looksAt ops)∧(∀d,(g y).dst=some d→(g x).dst≠some d)∧(∀d,(g x).dst=some d→d∉(g y).looksAt ops)∧
   (BI C ops x=true→An C ops (AS ops) m y=true)∧(BI C ops y=true→An C ops (AS ops) m x=true):=fun x y hx hlt2 h2 hne=>by
  have h1:=(all_eq_true.1 ((all_eq_true.1 hdo) x (mem_range.2 hx))) y (mem_range.2 hlt2);have ex:=Ar (show x<ops.size by omega);have ey:=Ar (show y<ops.size by omega);rw [ex,ey] at h1;simp only [or_eq_true,and_eq_true,not_eq_true',beq_iff_eq] at h1;obtain ⟨hnl,hap⟩:=h1.resolve_left (fun h=>h.elim h2 hne);obtain ⟨q1,q2,q3⟩:=Oper.apart_spec hap;have hun:Df (AS ops) x y=true:=by unfold Df;rw [if_neg (by omega)];simpa using h2
  have hun':Df (AS ops) y x=true:=by unfold Df;rw [if_pos hlt2];simpa using h2
  refine ⟨hnl,q1,q2,q3,fun hlx => ?_,fun hly => ?_⟩
  ·unfold An;refine any_eq_true.2 ⟨x,mem_range.2 hx,?_⟩;simp only [and_eq_true,bne_iff_ne];exact ⟨⟨hlx,by omega⟩,hun'⟩
  ·unfold An;refine any_eq_true.2 ⟨y,mem_range.2 (by omega),?_⟩;simp only [and_eq_true,bne_iff_ne];exact ⟨⟨hly,by omega⟩,hun⟩
 have hopen:lp.Pairwise fun x y=>y<x→¬((AS ops).getD x 0).testBit y=true:=Pt lp fun l1 x l2 y e hy hlt2 hb=>by have:=(p4 l1 x (l2++List.range' m (ops.size-m)) (by rw [hL,e];simp) y hb).resolve_left (by simp);rw [e,nodup_append] at hlpn;exact hlpn.2.2 y this y (by simp [hy]) rfl
 have hcom:∀x y,x<m→y<x→¬((AS ops).getD x 0).testBit y=true→¬(y=i0∧x=j0)→∀s:Env×Heap,(Ao C rec pc N ops S (An C ops (AS ops) m) x s).bind (Ao C rec pc N ops S (An C ops (AS ops) m) y)=(Ao C rec pc N ops S (An C ops (AS ops) m) y s).bind (Ao C rec pc N ops S (An C ops (AS ops) m) x):=fun x y hx hlt2 h2 hne s=>by
  obtain ⟨hnl,q1,q2,q3,n1,n2⟩:=hpair x y hx hlt2 h2 hne;have ex:=Ar (show x<ops.size by omega);have ey:=Ar (show y<ops.size by omega);have lx:BI C ops x=(Ag C (g x).op||CK C (g x).op):=by unfold BI;rw [ex]
  have ly:BI C ops y=(Ag C (g y).op||CK C (g y).op):=by unfold BI;rw [ey]
  cases hlx:Ag C (g x).op with
  |true=>
   have hlx':BI C ops x=true:=by rw [lx,hlx];rfl
   have hly:Ag C (g y).op=false:=by rw [hlx',Bool.and_true,ly,or_eq_false_iff] at hnl;exact hnl.1
   exact Da C rec pc N ops S _ ex ey q3 (fun d hd hd2=>q2 d hd2 hd) q1 hlx hly (n1 hlx') s
  |false=>
   cases hly:Ag C (g y).op with
   |true=>exact (Da C rec pc N ops S _ ey ex q1 q2 q3 hly hlx (n2 (by rw [ly,hly];rfl)) s).symm
   |false=>exact (F1 C rec pc N ops S _ ey ex q1 q2 q3 hly hlx s).symm
 have hsub:∀(l:List Nat),(∀i∈l,i<ops.size)→∀i,i∉ops.toList.filterMap (·.dst)→i∉(l.map g).filterMap (·.dst):=fun l hl i hni hm=>hni (by rw [mem_filterMap] at hm ⊢;obtain ⟨o,ho,hd⟩:=hm;obtain ⟨x,hx,rfl⟩:=mem_map.1 ho;refine ⟨g x,?_,hd⟩;have:=Ar (hl x hx);exact mem_of_getElem? (i:=x) (by rw [getElem?_toList];exact this))
 have hrest:∀env1 h1 κ1 a1 w1,Dr C rec pc N false ops (ops.toList.drop m) env1 h1 K=some r→Rel B N κ1 env1 h1 a1 w1→Ext κ h w κ1 h1 w1→(∀i,i∉ops.toList.filterMap (·.dst)→env1 i=env i)→a1.defers=a.defers→
   wpOpsIn (Fr ro) n C.P ops Q (List.range' m (ops.size-m)) a1 w1:=fun env1 h1 κ1 a1 w1 k1 k2 k3 k4 k5=>by
  have:=He hrec hpc ops Q n ro [] (ops.toList.drop m) (List.range' m (ops.size-m)) (by simp) (fun j i o hj ho=>by
   have hjl:j<ops.size-m:=by simpa using AU hj
   rw [List.getElem?_range' hjl] at hj;cases hj;rw [getElem?_drop] at ho;simpa using ho) k1 k2 (fun env2 h2 κ2 a2 w2 j1 j2 j3 j4 j5 j6=>by
    refine hn env2 h2 κ2 a2 w2 j1 j2 (k3.trans j3) (fun i hni => ?_) (j5.trans k5) (fun e=>by cases e);have hsub1:i∉(ops.toList.drop m).filterMap (·.dst):=fun hm=>hni (by rw [mem_filterMap] at hm ⊢;obtain ⟨o,ho,hd⟩:=hm;exact ⟨o,mem_of_mem_drop ho,hd⟩)
    exact (j4 i hsub1).trans (k4 i hni))
  simpa using this
 have hx0:=G4 hr.heap;have hfinish:Bf C rec pc N ops S (An C ops (AS ops) m) lp env h (fun env' h'=>Dr C rec pc N false ops (ops.toList.drop m) env' h' K)=some r→wpOpsIn (Fr ro) n C.P ops Q (lp++List.range' m (ops.size-m)) a {w with drawn:=w.drawn+1}:=fun hk2=>by refine CW hrec hpc ops S _ Q n ro (List.range' m (ops.size-m)) lp hk2 (Ir hr) fun env1 h1 κ1 a1 w1 k1 k2 k3 k4 k5 k6 => ?_;exact hrest env1 h1 κ1 a1 w1 k1 k2 (hx0.trans k3) (fun i hni=>k4 i (hsub lp hlt i hni)) k5
 by_cases hcls:lp.idxOf i0<lp.idxOf j0
 ·have hrun:∀s:Env×Heap,lp.foldlM (fun s i=>Ao C rec pc N ops S (An C ops (AS ops) m) i s) s=(List.range m).foldlM (fun s i=>Ao C rec pc N ops S (An C ops (AS ops) m) i s) s:=fun s=>
   FY (fun i s=>Ao C rec pc N ops S (An C ops (AS ops) m) i s) m lp hlpn hlpm (fun b1 x b2 y e2 hy hlt2 s=>
    hcom x y ((hlpm x).1 (by rw [e2];simp)) hlt2 (Gk hopen e2 hy hlt2) (fun hh=>by have:=L3 e2 hlpn hy;rw [hh.1,hh.2] at this;omega) s) s
  refine hfinish ?_;rw [A5] at hA ⊢;rw [hrun];exact hA
 ·have hrun:∀s:Env×Heap,lp.foldlM (fun s i=>Ao C rec pc N ops S (An C ops (AS ops) m) i s) s=T.foldlM (fun s i=>Ao C rec pc N ops S (An C ops (AS ops) m) i s) s:=fun s=>
   sort_to (fun i s=>Ao C rec pc N ops S (An C ops (AS ops) m) i s) m T lp hT hlpn hlpm (fun b1 x b2 y e2 hy hlt2 s=>by
    have hx:=(hlpm x).1 (by rw [e2];simp);have hy':=(hlpm y).1 (by rw [e2];simp [hy]);have hib:=L3 e2 hlpn hy;rcases Nat.lt_trichotomy y x with hyx|hyx|hyx
    ·exact hcom x y hx hyx (Gk hopen e2 hy hyx) (fun hh=>by rw [hh.1,hh.2] at hlt2;omega) s
    ·subst hyx;rfl
    ·refine (hcom y x hy' hyx (VI hord (hT.mem_iff.2 (mem_range.2 hx)) (hT.mem_iff.2 (mem_range.2 hy')) hlt2) (fun hh => ?_) s).symm;rw [hh.1,hh.2] at hib;exact hcls hib) s
  refine hfinish ?_;rw [A5] at hB ⊢;rw [hrun];exact hB
theorem FL {σ:Type} (f:Nat→σ→Option σ) (p:Nat→Bool):∀(l:List Nat) (s:σ),l.foldlM (fun s i=>if p i=true then f i s else some s) s=(l.filter p).foldlM (fun s i=>f i s) s
 |[],s=>rfl
 |x::l,s=>by
  by_cases hx:p x=true
  ·rw [filter_cons_of_pos hx,foldlM_cons,foldlM_cons,if_pos hx];congr 1;funext s';exact FL f p l s'
  ·rw [filter_cons_of_neg hx,foldlM_cons,if_neg hx];exact FL f p l s
theorem Ii {σ:Type} (f:Nat→σ→Option σ) (p:Nat→Bool) (lo hi:Nat) (lp:List Nat) (hn:lp.Nodup) (hm:∀i,i∈lp↔lo≤i∧i<hi) (hle:lo≤hi) (hp:∀i,p i=true→lo≤i)
  (hcom:lp.Pairwise fun x y=>y<x→p x=true→p y=true→∀s,(f x s).bind (f y)=(f y s).bind (f x)) (s:σ) :
  (lp.filter p).foldlM (fun s i=>f i s) s=((List.range hi).filter p).foldlM (fun s i=>f i s) s:=by
 have hf0:(List.range lo).filter p=[]:=by rw [List.filter_eq_nil_iff];intro i hi;have:=mem_range.1 hi;intro h;have:=hp i h;omega
 have e:lp.filter p=(List.range lo++lp).filter p:=by rw [filter_append,hf0,nil_append]
 rw [e,← FL,← FL];have hpw:(List.range lo++lp).Pairwise fun x y=>y<x→∀s,(if p x=true then f x s else some s).bind (fun s=>if p y=true then f y s else some s)=(if p y=true then f y s else some s).bind (fun s=>if p x=true then f x s else some s):=by
  have htriv:∀x y,¬(p x=true∧p y=true)→∀s,(if p x=true then f x s else some s).bind (fun s=>if p y=true then f y s else some s)=(if p y=true then f y s else some s).bind (fun s=>if p x=true then f x s else some s):=fun x y h s=>by
   by_cases hx:p x=true
   ·by_cases hy:p y=true
    ·exact absurd ⟨hx,hy⟩ h
    ·simp only [hx,hy,if_true,false_eq_true,if_false,Option.bind_some];cases f x s<;>rfl
   ·simp only [hx,false_eq_true,if_false,Option.bind_some];cases (if p y=true then f y s else some s)<;>rfl
  rw [pairwise_append];refine ⟨?_,?_,?_⟩
  ·refine List.Pairwise.imp_of_mem (R:=fun _ _=>True) (fun {x y} hx hy _ _=>htriv x y fun h => ?_) (List.pairwise_of_forall fun _ _=>trivial);have:=hp x h.1;have:=mem_range.1 hx;omega
  ·refine hcom.imp fun {x y} h hlt => ?_;by_cases hb:p x=true∧p y=true
   ·intro s;have:=h hlt hb.1 hb.2 s;simp only [hb.1,hb.2,if_true];exact this
   ·exact htriv x y hb
  ·intro x hx y hy _;refine htriv x y fun h => ?_;have:=hp x h.1;have:=mem_range.1 hx;omega
 refine FY (fun i s=>if p i=true then f i s else some s) hi (List.range lo++lp) ?_ ?_ (fun l1 x l2 y e hy hlt s=>Gk hpw e hy hlt s) s
 ·rw [nodup_append];refine ⟨List.nodup_range,hn,fun x hx y hy h => ?_⟩;have:=mem_range.1 hx;have:=(hm y).1 hy;omega
 ·intro i;rw [mem_append,mem_range,hm];omega
theorem UO {R:Type} {x y:AE} {a:Option R} {r:R} (h:Dn x y a=some r):x=y∧a=some r:=by
 unfold Dn at h;by_cases hxy:x=y
 ·rw [if_pos hxy] at h;exact ⟨hxy,h⟩
 ·rw [if_neg hxy] at h;cases h
theorem El {R:Type} (x:AE) (a:Option R):Dn x x a=a:=by unfold Dn;exact if_pos rfl
theorem RC {R:Type} {h h':Heap} {i:Nat} {a:Option R} {r:R} (hs:NI h h' i a=some r):(At h' i=At h i∧ob i<h'.length)∧a=some r∧∀b:Option R,NI h h' i b=b:=by
 unfold NI at hs;split at hs
 ·rename_i x y h1 h2;obtain ⟨e,h3⟩:=UO hs;subst e;refine ⟨⟨h2.trans h1.symm,WK h2⟩,h3,fun b => ?_⟩;unfold NI;rw [h1,h2];exact El x b
 ·cases hs
theorem Dh {R:Type} {h h':Heap}:∀{S:List Nat} {a:Option R} {r:R},EH h h' S a=some r→(∀i∈S,At h' i=At h i∧ob i<h'.length)∧a=some r∧∀b:Option R,EH h h' S b=b
 |[],a,r,hs=>⟨fun _ hi=>(by cases hi),hs,fun _=>rfl⟩
 |i::S,a,r,hs=>by
  obtain ⟨h1,h2,h3⟩:=RC hs;obtain ⟨k1,k2,k3⟩:=Dh h2;refine ⟨fun j hj => ?_,k2,fun b => ?_⟩
  ·rcases mem_cons.1 hj with rfl|hj
   ·exact h1
   ·exact k1 j hj
  ·show NI h h' i (EH h h' S b)=b;rw [k3,h3]
theorem Ly {C:Cfg} {rec:Rec} {pc:BF} {N:Nat} {ops:Array Oper} {S:List Nat} {nf:Nat→Bool} {o:Oper} {l1 l2:List Nat} {env:Env} {h:Heap} {K:Env→Heap→Option R} {r:R} (hcg:∀(env' env1:Env) (h1:Heap) (K1:AV→Heap→Option R),(∀x∈o.op.operands,ev env1 x=ev env' x)→Af C rec pc false env1 h1 o.op K1=Af C rec pc false env' h1 o.op K1)
  (hq:∀y∈l2,∃o',ops[y]? = some o'∧Ag C o'.op=false∧nf y=true∧(∀d,o.dst=some d→d∉o'.looksAt ops)∧(∀d,o.dst=some d→o'.dst≠some d)∧∀d,o'.dst=some d→d∉o.looksAt ops)
  (hk:Bf C rec pc N ops S nf (l1++l2) env h (fun env' h'=>L0 C rec pc N ops S o env' h' K)=some r) :
  JH N o=true∧Bf C rec pc N ops S nf l1 env h (fun env1 h1=>FV ops o env1 (fun env1=>Af C rec pc false env1 h1 o.op fun v h'=>EH h1 h' S (Bf C rec pc N ops S nf l2 (env1.put o.dst v) h' K))
   (fun env1=>cnd (BJ S h1=true) (Bf C rec pc N ops S nf l2 (env1.put o.dst (.tuple [])) h1 K) none))=some r:=by
 rw [A5,foldlM_append] at hk;rw [A5];cases h1:l1.foldlM (fun s i=>Ao C rec pc N ops S nf i s) (env,h) with
 |none=>rw [h1] at hk;cases hk
 |some s1=>
  rw [h1] at hk;have hk:(l2.foldlM (fun s i=>Ao C rec pc N ops S nf i s) s1).bind (fun s=>L0 C rec pc N ops S o s.1 s.2 K)=some r:=hk;cases h2:l2.foldlM (fun s i=>Ao C rec pc N ops S nf i s) s1 with
  |none=>rw [h2] at hk;cases hk
  |some s2=>
   rw [h2] at hk;simp only [Option.bind_some] at hk;obtain ⟨e1,e2,e3⟩:=IC C rec pc N ops S nf o l2 s1.1 s1.2 s2 hq h2;unfold L0 at hk;simp only [AF] at hk;obtain ⟨hd,hk⟩:=AH hk;refine ⟨hd,?_⟩;simp only [Option.bind_some];rw [QD] at hk ⊢;rw [L6 ops o e2] at hk;cases hgv:M6 ops o s1.1 with
   |none=>rw [hgv] at hk;cases hk
   |some bb=>
    rw [hgv] at hk;cases bb with
    |true=>
     simp only [Option.bind_some,if_true] at hk ⊢;rw [e1,hcg s1.1 s2.1 _ _ (Lt ops o e2)] at hk;rw [← hk];congr 1;funext v h';have key:∀q,EH s1.2 h' S (Bf C rec pc N ops S nf l2 (s1.1.put o.dst v) h' K)=some q↔EH s1.2 h' S (K (s2.1.put o.dst v) h')=some q:=by
      have hback:(∀i∈S,At h' i=At s1.2 i∧ob i<h'.length)→Bf C rec pc N ops S nf l2 (s1.1.put o.dst v) h' K=K (s2.1.put o.dst v) h':=fun hall=>by
       have hi':BJ S h'=true:=by unfold BJ;rw [all_eq_true];intro i hi;simpa using (hall i hi).2
       have hi:BJ S s1.2=true:=by unfold BJ;rw [all_eq_true];intro i hi;have h3:=hall i hi;simpa using Nz h3.1 h3.2
       rw [A5,e3 v h' hi' hi fun i hi=>(hall i hi).1];rfl
      intro q;constructor
      ·intro hs;obtain ⟨k1,k2,k3⟩:=Dh hs;rw [k3,← hback k1];exact k2
      ·intro hs;obtain ⟨k1,k2,k3⟩:=Dh hs;rw [k3,hback k1];exact k2
     cases hA:EH s1.2 h' S (Bf C rec pc N ops S nf l2 (s1.1.put o.dst v) h' K) with
     |some q=>exact ((key q).1 hA).symm
     |none=>
      cases hB:EH s1.2 h' S (K (s2.1.put o.dst v) h') with
      |none=>rfl
      |some q=>rw [(key q).2 hB] at hA;cases hA
    |false=>
     simp only [Option.bind_some,false_eq_true,if_false,AF] at hk ⊢;obtain ⟨hin,hk⟩:=AH hk;rw [e1] at hin hk;rw [if_pos hin,A5,e3 (.tuple []) s1.2 hin hin fun _ _=>rfl];exact hk
theorem Jo {σ:Type} (f:Nat→σ→Option σ) (p:Nat→Bool):∀(l:List Nat),(l.Pairwise fun x y=>p x=false→p y=true→∀s,(f x s).bind (f y)=(f y s).bind (f x))→∀s,
  (l.filter p++l.filter fun i => !p i).foldlM (fun s i=>f i s) s=l.foldlM (fun s i=>f i s) s
 |[],_,s=>rfl
 |x::l,hp,s=>by
  obtain ⟨h1,h2⟩:=pairwise_cons.1 hp;cases hx:p x with
  |true=>
   rw [filter_cons_of_pos hx,filter_cons_of_neg (by simp [hx]),cons_append,foldlM_cons,foldlM_cons];congr 1;funext s';exact Jo f p l h2 s'
  |false=>
   rw [filter_cons_of_neg (by simp [hx]),filter_cons_of_pos (by simp [hx]),foldlM_cons];have e0:(f x s).bind (fun s'=>l.foldlM (fun s i=>f i s) s')=(f x s).bind fun s'=>(l.filter p++l.filter fun i => !p i).foldlM (fun s i=>f i s) s':=by congr 1;funext s';exact (Jo f p l h2 s').symm
   show _=(f x s).bind fun s'=>l.foldlM (fun s i=>f i s) s';rw [e0];have key:∀(q:List Nat),(∀y∈q,∀s,(f x s).bind (f y)=(f y s).bind (f x))→∀(t:List Nat) s,(q++x::t).foldlM (fun s i=>f i s) s=(f x s).bind fun s'=>(q++t).foldlM (fun s i=>f i s) s':=by
    intro q
    induction q with
    |nil=>intro _ t s;rfl
    |cons y q ih=>
     intro hq t s;rw [cons_append,foldlM_cons];have e1:(f x s).bind (fun s'=>(y::q++t).foldlM (fun s i=>f i s) s')=((f x s).bind (f y)).bind fun s'=>(q++t).foldlM (fun s i=>f i s) s':=by rw [bind_assoc];rfl
     rw [e1,hq y (by simp),bind_assoc];show (f y s).bind _=(f y s).bind _;congr 1;funext s';exact ih (fun z hz=>hq z (by simp [hz])) t s'
   refine key _ (fun y hy s => ?_) _ s;rw [mem_filter] at hy;exact h1 y hy.1 hx hy.2 s
theorem VH {C:Cfg} {rec:Rec} {pc:BF} (hrec:Dd C.P rec) (hpc:B7 C.P pc) {ops:Array Oper} {K:Env→Heap→Option R} {r:R} {lo hi m:Nat} {u:Option Nat} {S:List Nat} {o:Oper} (hle:hi≤ops.size) (hlo:lo≤hi) (ho:ops[m]? = some o)
  (lp:List Nat) (hlpn:lp.Nodup) (hlpm:∀i,i∈lp↔lo≤i∧i<hi) (hopen:lp.Pairwise fun x y=>y<x→¬((AS ops).getD x 0).testBit y=true)
  (hso:RU C ops (AS ops) lo hi m u=true) (hcv:I7 o.op=true)
  (hkA:RV C rec pc N ops (AS ops) lo hi m none S (nf3 C ops (AS ops) lo hi (some m)) o env h K=some r)
  (hkB:∀u',u=some u'→RV C rec pc N ops (AS ops) lo hi m (some u') S (nf3 C ops (AS ops) lo hi (some m)) o env h K=some r)
  (hr:Rel B N κ env h a w) (Q:Exit→Act→World→Prop) (n:Nat) (ro:Option Nat) (rest:List Nat)
  (hcont:∀env1 h1 κ1 a1 w1,K env1 h1=some r→Rel B N κ1 env1 h1 a1 w1→Ext κ h w κ1 h1 w1→(∀i,i∉ops.toList.filterMap (·.dst)→env1 i=env i)→a1.defers=a.defers→wpOpsIn (Fr ro) n C.P ops Q rest a1 w1) :
  wpOpsIn (Fr ro) n C.P ops Q (lp++rest) a w:=by
 let g:Nat→Oper:=fun i=>ops.getD i default;have hlt:∀i∈lp,i<ops.size:=fun i hi=>by have:=(hlpm i).1 hi;omega
 have hsub:∀(l:List Nat),(∀i∈l,i<ops.size)→∀i,i∉ops.toList.filterMap (·.dst)→i∉(l.map g).filterMap (·.dst):=fun l hl i hni hm=>hni (by rw [mem_filterMap] at hm ⊢;obtain ⟨o,ho,hd⟩:=hm;obtain ⟨x,hx,rfl⟩:=mem_map.1 ho;refine ⟨g x,?_,hd⟩;have:=Ar (hl x hx);exact mem_of_getElem? (i:=x) (by rw [getElem?_toList];exact this))
 unfold RU at hso;simp only [and_eq_true,decide_eq_true_eq] at hso;obtain ⟨hps,⟨hm1,hm2⟩,hbits,hdn,hdu⟩:=hso;have hbitm:∀i,i<hi→i≤m→¬((AS ops).getD i 0).testBit m=true:=fun i hi1 him=>by have:=(all_eq_true.1 hbits) i (mem_range.2 hi1);simp only [and_eq_true,or_eq_true,decide_eq_true_eq] at this;simpa using this.1.resolve_left (by omega)
 have hbitu:∀u',u=some u'→∀i,i<hi→i≤u'→¬((AS ops).getD i 0).testBit u'=true:=fun u' hu i hi1 hiu=>by have:=(all_eq_true.1 hbits) i (mem_range.2 hi1);rw [hu] at this;simp only [and_eq_true,or_eq_true,decide_eq_true_eq] at this;simpa using this.2.resolve_left (by omega)
 have hpair:∀x y,x<hi→lo≤y→y<x→¬((AS ops).getD x 0).testBit y=true→Js m u y x=false→
   (CR C ops (some m) y&&CR C ops (some m) x)=false∧(∀d,(g y).dst=some d→d∉(g x).looksAt ops)∧(∀d,(g y).dst=some d→(g x).dst≠some d)∧(∀d,(g x).dst=some d→d∉(g y).looksAt ops)∧
   (CR C ops (some m) x=true→nf3 C ops (AS ops) lo hi (some m) y=true)∧(CR C ops (some m) y=true→nf3 C ops (AS ops) lo hi (some m) x=true):=fun x y hx hloy hlt2 h2 hip=>by
  have h0:=(all_eq_true.1 hps) x (mem_range.2 hx);rw [or_eq_true] at h0;have h1:=h0.resolve_left (by simp;omega);have h1:=(all_eq_true.1 h1) y (mem_range.2 hlt2);have ex:=Ar (show x<ops.size by omega);have ey:=Ar (show y<ops.size by omega);rw [ex,ey,hip] at h1;simp only [or_eq_true,and_eq_true,not_eq_true',decide_eq_true_eq,false_eq_true,false_or] at h1;obtain ⟨hnl,hap⟩:=(h1.resolve_left (by omega)).resolve_left h2;obtain ⟨q1,q2,q3⟩:=Oper.apart_spec hap;have hun:Df (AS ops) x y=true:=by unfold Df;rw [if_neg (by omega)];simpa using h2
  have hun':Df (AS ops) y x=true:=by unfold Df;rw [if_pos hlt2];simpa using h2
  refine ⟨hnl,q1,q2,q3,fun hlx => ?_,fun hly => ?_⟩
  ·unfold nf3;refine any_eq_true.2 ⟨x,mem_range.2 hx,?_⟩;simp only [and_eq_true,bne_iff_ne,decide_eq_true_eq];exact ⟨by omega,⟨hlx,by omega⟩,hun'⟩
  ·unfold nf3;refine any_eq_true.2 ⟨y,mem_range.2 (by omega),?_⟩;simp only [and_eq_true,bne_iff_ne,decide_eq_true_eq];exact ⟨by omega,⟨hly,by omega⟩,hun⟩
 generalize hnf:nf3 C ops (AS ops) lo hi (some m)=nf at *;have hcom:∀x y,x<hi→lo≤y→y<x→¬((AS ops).getD x 0).testBit y=true→x≠m→y≠m→∀s:Env×Heap,(Ao C rec pc N ops S nf x s).bind (Ao C rec pc N ops S nf y)=(Ao C rec pc N ops S nf y s).bind (Ao C rec pc N ops S nf x):=fun x y hx hloy hlt2 h2 hxm hym s=>by
  obtain ⟨hnl,q1,q2,q3,n1,n2⟩:=hpair x y hx hloy hlt2 h2 (by
   unfold Js;cases u with
   |none=>rfl
   |some u=>simp [hxm,hym])
  have ex:=Ar (show x<ops.size by omega);have ey:=Ar (show y<ops.size by omega);have l3:∀z,z<ops.size→Ag C (g z).op=true→CR C ops (some m) z=true:=fun z hz hl=>by unfold CR BI;rw [Ar hz];have hl':Ag C (ops.getD z default).op=true:=hl;show ((Ag C (ops.getD z default).op||CK C (ops.getD z default).op)||_)=true;rw [hl'];rfl
  cases hlx:Ag C (g x).op with
  |true=>
   have hlx':=l3 x (by omega) hlx;have hly:Ag C (g y).op=false:=by
    cases hly:Ag C (g y).op with
    |false=>rfl
    |true=>
     rw [hlx',l3 y (by omega) hly] at hnl;cases hnl
   exact Da C rec pc N ops S _ ex ey q3 (fun d hd hd2=>q2 d hd2 hd) q1 hlx hly (n1 hlx') s
  |false=>
   cases hly:Ag C (g y).op with
   |true=>exact (Da C rec pc N ops S _ ey ex q1 q2 q3 hly hlx (n2 (l3 y (by omega) hly)) s).symm
   |false=>exact (F1 C rec pc N ops S _ ey ex q1 q2 q3 hly hlx s).symm
 obtain ⟨l1,l2,e⟩:=append_of_mem ((hlpm m).2 ⟨hm1,hm2⟩);have hn':=hlpn;rw [e,nodup_append,nodup_cons] at hn';obtain ⟨n1,⟨n2,n3⟩,n4⟩:=hn';obtain ⟨v,hkv,hvu,hv2,hdv⟩:∃v:Option Nat,RV C rec pc N ops (AS ops) lo hi m v S nf o env h K=some r∧(∀u',u=some u'→u'∈l2→v=some u')∧(∀u',v=some u'→u=some u'∧u'∈l2)∧Rt (AS ops) lo hi m v=true:=by
  cases hu:u with
  |none=>exact ⟨none,hkA,(fun u' e=>by cases e),(fun u' e=>by cases e),hdn⟩
  |some u'=>
   rw [hu] at hdu;simp only [and_eq_true] at hdu;by_cases hin:u'∈l2
   ·exact ⟨some u',hkB u' hu,(fun q hq _=>hq),(fun q hq=>⟨hq,by cases hq;exact hin⟩),hdu.2⟩
   ·exact ⟨none,hkA,(fun q hq hq2=>by cases hq;exact absurd hq2 hin),(fun q hq=>by cases hq),hdn⟩
 let p:Nat→Bool:=IN (AS ops) lo m v;have hbef:∀x∈l1,∀y∈m::l2,y<x→¬((AS ops).getD x 0).testBit y=true:=fun x hx y hy=>by have h1:=hopen;rw [e,pairwise_append] at h1;exact h1.2.2 x hx y hy
 have hp1:∀x∈l1,p x=true:=fun x hx=>by
  obtain ⟨hx1,hx2⟩:=(hlpm x).1 (by rw [e];simp [hx]);have hxm:x≠m:=fun h=>n4 x hx m (by simp) h;show IN (AS ops) lo m v x=true;unfold IN;have b1:((AS ops).getD x 0).testBit m=false:=by
   rcases lt_or_ge m x with hlt3|hge
   ·simpa using hbef x hx m (by simp) hlt3
   ·simpa using hbitm x hx2 hge
  cases hv:v with
  |none=>rw [decide_eq_true hx1,b1,show (x != m)=true from by simpa using hxm];rfl
  |some u'=>
   obtain ⟨hu,hul⟩:=hv2 u' hv;have hxu:x≠u':=fun h=>n4 x hx u' (by simp [hul]) h;have b2:((AS ops).getD x 0).testBit u'=false:=by
    rcases lt_or_ge u' x with hlt3|hge
    ·simpa using hbef x hx u' (by simp [hul]) hlt3
    ·simpa using hbitu u' hu x hx2 hge
   dsimp only;rw [decide_eq_true hx1,b1,b2,show (x != m)=true from by simpa using hxm,show (x != u')=true from by simpa using hxu];rfl
 have hpm:p m=false:=by show IN (AS ops) lo m v m=false;unfold IN;simp
 have hpd:∀y,p y=true→lo≤y∧y≠m∧¬((AS ops).getD y 0).testBit m=true∧∀u',v=some u'→y≠u':=fun y hy=>by have hy:IN (AS ops) lo m v y=true:=hy;unfold IN at hy;simp only [and_eq_true,decide_eq_true_eq,bne_iff_ne,not_eq_true'] at hy;obtain ⟨h1,h2,h3,h4⟩:=hy;refine ⟨h1,h2,by simpa using h3,fun u' hv => ?_⟩;rw [hv] at h4;simp only [and_eq_true,bne_iff_ne] at h4;exact h4.1
 have hfil:lp.filter p=l1++l2.filter p:=by rw [e,filter_append,filter_cons_of_neg (by simp [hpm]),filter_eq_self.2 hp1]
 have hrun:∀s:Env×Heap,(l1++l2.filter p).foldlM (fun s i=>Ao C rec pc N ops S nf i s) s=((List.range hi).filter p).foldlM (fun s i=>Ao C rec pc N ops S nf i s) s:=fun s=>by rw [← hfil];refine Ii (fun i s=>Ao C rec pc N ops S nf i s) p lo hi lp hlpn hlpm hlo (fun i h=>(hpd i h).1) ?_ s;refine hopen.imp_of_mem fun {x y} hx hy h hlt px py s => ?_;exact hcom x y ((hlpm x).1 hx).2 ((hlpm y).1 hy).1 hlt (h hlt) (hpd x px).2.1 (hpd y py).2.1 s
 have hrest:∀i∈l2,(FC (AS ops) lo m v i=true↔p i=false):=fun i hi2=>by obtain ⟨hx1,_⟩:=(hlpm i).1 (by rw [e];simp [hi2]);have hne:i≠m:=fun h=>n2 (h ▸ hi2);unfold FC;show _↔IN (AS ops) lo m v i=false;simp [hx1,hne]
 have hfil2:lp.filter (FC (AS ops) lo m v)=l2.filter fun i => !p i:=by
  rw [e,filter_append,filter_cons_of_neg (by unfold FC;simp),List.filter_eq_nil_iff.2 (fun x hx=>by have h1:IN (AS ops) lo m v x=true:=hp1 x hx;unfold FC;rw [h1];simp),nil_append]
  refine List.filter_congr fun i hi2 => ?_;rw [Bool.eq_iff_iff,hrest i hi2];simp
 have hrun2:∀s:Env×Heap,(l2.filter p++(List.range hi).filter (FC (AS ops) lo m v)).foldlM (fun s i=>Ao C rec pc N ops S nf i s) s=l2.foldlM (fun s i=>Ao C rec pc N ops S nf i s) s:=fun s=>by
  have hs:∀s:Env×Heap,(l2.filter fun i => !p i).foldlM (fun s i=>Ao C rec pc N ops S nf i s) s=((List.range hi).filter (FC (AS ops) lo m v)).foldlM (fun s i=>Ao C rec pc N ops S nf i s) s:=fun s=>by
   rw [← hfil2];refine Ii (fun i s=>Ao C rec pc N ops S nf i s) (FC (AS ops) lo m v) lo hi lp hlpn hlpm hlo (fun i h => ?_) ?_ s
   ·unfold FC at h;simp only [and_eq_true,decide_eq_true_eq] at h;exact h.1
   ·refine hopen.imp_of_mem fun {x y} hx hy h hlt px py s => ?_;have hne:∀z,FC (AS ops) lo m v z=true→z≠m:=fun z hz=>by unfold FC at hz;simp only [and_eq_true,bne_iff_ne] at hz;exact hz.2.1
    exact hcom x y ((hlpm x).1 hx).2 ((hlpm y).1 hy).1 hlt (h hlt) (hne x px) (hne y py) s
  rw [foldlM_append];have h2:=Jo (fun i s=>Ao C rec pc N ops S nf i s) p l2 (by
   have h1:=hopen;rw [e,pairwise_append] at h1;have h1:=(pairwise_cons.1 h1.2.1).2;refine h1.imp_of_mem fun {x y} hx hy h px py s => ?_;obtain ⟨hx1,hx2⟩:=(hlpm x).1 (by rw [e];simp [hx]);obtain ⟨hy1,hy2⟩:=(hlpm y).1 (by rw [e];simp [hy]);have hxm:x≠m:=fun h=>n2 (h ▸ hx);have hym:y≠m:=fun h=>n2 (h ▸ hy);rcases Nat.lt_trichotomy y x with hlt3|heq|hgt
   ·exact hcom x y hx2 hy1 hlt3 (h hlt3) hxm hym s
   ·subst heq;exact absurd py (by rw [px];simp)
   ·have hd:=(all_eq_true.1 hdv) y (mem_range.2 hy2);have py':IN (AS ops) lo m v y=true:=py;have px':IN (AS ops) lo m v x=false:=px;rw [py',Bool.not_true,Bool.false_or] at hd;have hd:=(all_eq_true.1 hd) x (mem_range.2 hx2);rw [px'] at hd;simp only [or_eq_true,decide_eq_true_eq,false_eq_true,false_or] at hd;have hd:=hd.resolve_left (by omega);exact (hcom y x hy2 hx1 hgt (by simpa using hd) hym hxm s).symm) s
  rw [foldlM_append] at h2;rw [← h2];congr 1;funext s';exact (hs s').symm
 have hgo:g m=o:=by have h1:=Ar (show m<ops.size by omega);rw [ho] at h1;exact (Option.some.inj h1).symm
 unfold RV at hkv;have hk2:Bf C rec pc N ops S nf (l1++l2.filter p) env h (fun env' h'=>L0 C rec pc N ops S o env' h' fun env2 h2=>Bf C rec pc N ops S nf ((List.range hi).filter (FC (AS ops) lo m v)) env2 h2 K)=some r:=by rw [A5] at hkv ⊢;rw [hrun];exact hkv
 have hlm:CR C ops (some m) m=true:=by unfold CR;simp
 obtain ⟨hd,hk3⟩:=Ly (fun _ _ _ K1 hE=>Ka C rec pc hcv hE K1) (fun y hy=>by
  rw [mem_filter] at hy;obtain ⟨hy,py⟩:=hy;obtain ⟨_,hne,hnm,hnu⟩:=hpd y py;obtain ⟨hy1,hy2⟩:=(hlpm y).1 (by rw [e];simp [hy]);have ey:=Ar (show y<ops.size by omega);have hip:Js m u m y=false∧Js m u y m=false:=by
   unfold Js;cases hu:u with
   |none=>exact ⟨rfl,rfl⟩
   |some u'=>
    have:y≠u':=fun h=>hnu u' (hvu u' hu (h ▸ hy)) h;simp [hne,this]
  have hquiet:(CR C ops (some m) y)=false→Ag C (g y).op=false:=fun hq=>by unfold CR BI at hq;rw [ey] at hq;rw [or_eq_false_iff,or_eq_false_iff] at hq;exact hq.1.1
  rcases Nat.lt_or_gt_of_ne hne with hlt3|hlt3
  ·have hno:=Gk hopen e hy hlt3;obtain ⟨hnl,q1,q2,q3,f1,f2⟩:=hpair m y hm2 hy1 hlt3 hno hip.2;rw [hgo] at q1 q2 q3;refine ⟨g y,ey,hquiet ?_,f1 hlm,q3,fun d hd hd2=>q2 d hd2 hd,q1⟩;rw [hlm,Bool.and_true] at hnl;exact hnl
  ·obtain ⟨hnl,q1,q2,q3,f1,f2⟩:=hpair y m hy2 hm1 hlt3 hnm hip.1;rw [hgo] at q1 q2 q3;refine ⟨g y,ey,hquiet ?_,f2 hlm,q1,q2,q3⟩;rw [hlm,Bool.true_and] at hnl;exact hnl) hk2
 have hjoin:∀(e1:Env) (h1:Heap),Bf C rec pc N ops S nf (l2.filter p) e1 h1 (fun env2 h2=>Bf C rec pc N ops S nf ((List.range hi).filter (FC (AS ops) lo m v)) env2 h2 K)=Bf C rec pc N ops S nf l2 e1 h1 K:=fun e1 h1=>by
  rw [A5,A5,← hrun2,foldlM_append];cases (l2.filter p).foldlM (fun s i=>Ao C rec pc N ops S nf i s) (e1,h1) with
  |none=>rfl
  |some s'=>exact A5 C rec pc N ops S nf _ s'.1 s'.2 K
 have hl1lt:∀i∈l1,i<ops.size:=fun i hi=>hlt i (by rw [e];simp [hi]);have hl2lt:∀i∈l2,i<ops.size:=fun i hi=>hlt i (by rw [e];simp [hi]);have hdm:∀i,i∉ops.toList.filterMap (·.dst)→∀d,o.dst=some d→d≠i:=fun i hni d hd' e'=>hni (by subst e';rw [mem_filterMap];exact ⟨o,mem_of_getElem? (i:=m) (by rw [getElem?_toList];exact ho),hd'⟩)
 rw [e,append_assoc];refine CW hrec hpc ops S _ Q n ro (m::l2++rest) l1 hk3 hr fun env1 h1 κ1 a1 w1 k1 k2 k3 k4 k5 k6 => ?_;simp only [cons_append,wpOpsIn,ho];have hpd:∀val,(a1.put o.dst val).defers=a1.defers:=fun val=>by cases o.dst<;>rfl
 rcases Gy k1 k2 with ⟨hw,hk4⟩|⟨hw,hk4⟩
 ·simp only [hw,if_true];refine Ic hrec hpc o hk4 k2 _ Q n ro fun v' h' κ' val w' g1 g2 g3 g4 g5 => ?_;obtain ⟨_,g1,_⟩:=Dh g1;rw [hjoin] at g1;refine CW hrec hpc ops S _ Q n ro rest l2 g1 (Ed k2 g3 g4 g2 o hd) fun env2 h2 κ2 a2 w2 j1 j2 j3 j4 j5 j6 => ?_;refine hcont env2 h2 κ2 a2 w2 j1 j2 ((k3.trans g4).trans j3) (fun i hni => ?_) ((j5.trans (hpd _)).trans k5);exact (j4 i (hsub l2 hl2lt i hni)).trans ((CP fun d hd'=>hdm i hni d hd').trans (k4 i (hsub l1 hl1lt i hni)))
 ·simp only [hw,false_eq_true,if_false];simp only [AF] at hk4;obtain ⟨_,hk4⟩:=AH hk4;rw [hjoin] at hk4;refine ⟨fun _ _=>trivial,?_⟩;refine CW hrec hpc ops S _ Q n ro rest l2 hk4 (Ed k2 k2.heap (Ext.refl _ _ _) (.tuple _ _ rfl fun j x hx=>by simp at hx) o hd) fun env2 h2 κ2 a2 w2 j1 j2 j3 j4 j5 j6 => ?_;refine hcont env2 h2 κ2 a2 w2 j1 j2 (k3.trans j3) (fun i hni => ?_) ((j5.trans (hpd _)).trans k5);exact (j4 i (hsub l2 hl2lt i hni)).trans ((CP fun d hd'=>hdm i hni d hd').trans (k4 i (hsub l1 hl1lt i hni)))
theorem seg_ok {C:Cfg} {rec:Rec} {pc:BF} (hrec:Dd C.P rec) (hpc:B7 C.P pc) {ops:Array Oper} {K:Env→Heap→Option R} {r:R} {lo hi:Nat} (hle:hi≤ops.size) (hlo:lo≤hi)
  (lp:List Nat) (hlpn:lp.Nodup) (hlpm:∀i,i∈lp↔lo≤i∧i<hi) (hopen:lp.Pairwise fun x y=>y<x→¬((AS ops).getD x 0).testBit y=true)
  (hk:segK C rec pc N ops (AS ops) lo hi env h K=some r) (hr:Rel B N κ env h a w) (Q:Exit→Act→World→Prop) (n:Nat) (ro:Option Nat) (rest:List Nat)
  (hcont:∀env1 h1 κ1 a1 w1,K env1 h1=some r→Rel B N κ1 env1 h1 a1 w1→Ext κ h w κ1 h1 w1→(∀i,i∉ops.toList.filterMap (·.dst)→env1 i=env i)→a1.defers=a.defers→wpOpsIn (Fr ro) n C.P ops Q rest a1 w1) :
  wpOpsIn (Fr ro) n C.P ops Q (lp++rest) a w:=by
 let g:Nat→Oper:=fun i=>ops.getD i default;have hlt:∀i∈lp,i<ops.size:=fun i hi=>by have:=(hlpm i).1 hi;omega
 have hsub:∀(l:List Nat),(∀i∈l,i<ops.size)→∀i,i∉ops.toList.filterMap (·.dst)→i∉(l.map g).filterMap (·.dst):=fun l hl i hni hm=>hni (by rw [mem_filterMap] at hm ⊢;obtain ⟨o,ho,hd⟩:=hm;obtain ⟨x,hx,rfl⟩:=mem_map.1 ho;refine ⟨g x,?_,hd⟩;have:=Ar (hl x hx);exact mem_of_getElem? (i:=x) (by rw [getElem?_toList];exact this))
 have hpair:∀(m0:Option Nat),KL C ops (AS ops) lo hi m0=true→∀x y,x<hi→lo≤y→y<x→¬((AS ops).getD x 0).testBit y=true→
   (CR C ops m0 y&&CR C ops m0 x)=false∧(∀d,(g y).dst=some d→d∉(g x).looksAt ops)∧(∀d,(g y).dst=some d→(g x).dst≠some d)∧(∀d,(g x).dst=some d→d∉(g y).looksAt ops)∧
   (CR C ops m0 x=true→nf3 C ops (AS ops) lo hi m0 y=true)∧(CR C ops m0 y=true→nf3 C ops (AS ops) lo hi m0 x=true):=fun m0 hso x y hx hloy hlt2 h2=>by
  unfold KL at hso;rw [and_eq_true] at hso;have h0:=(all_eq_true.1 hso.1) x (mem_range.2 hx);have h1:((List.range x).all fun i=>decide (i<lo)||((AS ops).getD x 0).testBit i||(!(CR C ops m0 i&&CR C ops m0 x)&&(match ops[i]?,ops[x]? with
   |some x,some y=>x.apart ops y
   |_,_=>false)))=true:=by
   simp only [or_eq_true,decide_eq_true_eq] at h0;have:=h0.resolve_left (by omega);rw [all_eq_true] at this ⊢;intro i hi;rw [Bool.or_assoc];exact this i hi
  have h1:=(all_eq_true.1 h1) y (mem_range.2 hlt2);have ex:=Ar (show x<ops.size by omega);have ey:=Ar (show y<ops.size by omega);rw [ex,ey] at h1;simp only [or_eq_true,and_eq_true,not_eq_true',decide_eq_true_eq] at h1;obtain ⟨hnl,hap⟩:=h1.resolve_left (fun q=>q.elim (fun q=>by omega) h2);obtain ⟨q1,q2,q3⟩:=Oper.apart_spec hap;have hun:Df (AS ops) x y=true:=by unfold Df;rw [if_neg (by omega)];simpa using h2
  have hun':Df (AS ops) y x=true:=by unfold Df;rw [if_pos hlt2];simpa using h2
  refine ⟨hnl,q1,q2,q3,fun hlx => ?_,fun hly => ?_⟩
  ·unfold nf3;refine any_eq_true.2 ⟨x,mem_range.2 hx,?_⟩;simp only [and_eq_true,bne_iff_ne,decide_eq_true_eq];exact ⟨by omega,⟨hlx,by omega⟩,hun'⟩
  ·unfold nf3;refine any_eq_true.2 ⟨y,mem_range.2 (by omega),?_⟩;simp only [and_eq_true,bne_iff_ne,decide_eq_true_eq];exact ⟨by omega,⟨hly,by omega⟩,hun⟩
 have hcom:∀(m0:Option Nat) (S:List Nat),KL C ops (AS ops) lo hi m0=true→∀x y,x<hi→lo≤y→y<x→¬((AS ops).getD x 0).testBit y=true→∀s:Env×Heap,(Ao C rec pc N ops S (nf3 C ops (AS ops) lo hi m0) x s).bind (Ao C rec pc N ops S (nf3 C ops (AS ops) lo hi m0) y)=(Ao C rec pc N ops S (nf3 C ops (AS ops) lo hi m0) y s).bind (Ao C rec pc N ops S (nf3 C ops (AS ops) lo hi m0) x):=fun m0 S hso x y hx hloy hlt2 h2 s=>by
  obtain ⟨hnl,q1,q2,q3,n1,n2⟩:=hpair m0 hso x y hx hloy hlt2 h2;have ex:=Ar (show x<ops.size by omega);have ey:=Ar (show y<ops.size by omega);have l3:∀z,z<ops.size→Ag C (g z).op=true→CR C ops m0 z=true:=fun z hz hl=>by unfold CR BI;rw [Ar hz];have hl':Ag C (ops.getD z default).op=true:=hl;show ((Ag C (ops.getD z default).op||CK C (ops.getD z default).op)||_)=true;rw [hl'];rfl
  cases hlx:Ag C (g x).op with
  |true=>
   have hlx':=l3 x (by omega) hlx;have hly:Ag C (g y).op=false:=by
    cases hly:Ag C (g y).op with
    |false=>rfl
    |true=>
     rw [hlx',l3 y (by omega) hly] at hnl;cases hnl
   exact Da C rec pc N ops S _ ex ey q3 (fun d hd hd2=>q2 d hd2 hd) q1 hlx hly (n1 hlx') s
  |false=>
   cases hly:Ag C (g y).op with
   |true=>exact (Da C rec pc N ops S _ ey ex q1 q2 q3 hly hlx (n2 (l3 y (by omega) hly)) s).symm
   |false=>exact (F1 C rec pc N ops S _ ey ex q1 q2 q3 hly hlx s).symm
 unfold segK at hk;split at hk
 ·rename_i m0 hmc;split at hk
  ·rename_i o ho;by_cases hsf:KL C ops (AS ops) lo hi (some m0)=false
   ·rw [if_pos hsf] at hk;simp only [AF] at hk;obtain ⟨⟨hso,hcv⟩,hk1⟩:=AH hk;generalize looks C.P ops (nfS C ops (AS ops) lo hi m0) hi env h=S at hk1;cases hu:ordU C ops (AS ops) lo hi m0 with
    |none=>
     rw [hu] at hk1 hso;exact VH hrec hpc hle hlo ho lp hlpn hlpm hopen hso hcv hk1 (fun u' e=>by cases e) hr Q n ro rest hcont
    |some u=>
     rw [hu] at hk1 hso;obtain ⟨hA,hB⟩:=Hd hk1;exact VH hrec hpc hle hlo ho lp hlpn hlpm hopen hso hcv hA (fun u' e=>by cases e;exact hB) hr Q n ro rest hcont
   rw [if_neg hsf] at hk;simp only [AF] at hk;obtain ⟨⟨hso,hcv⟩,hk1⟩:=AH hk;generalize looks C.P ops (nfS C ops (AS ops) lo hi m0) hi env h=S at hk1;have hso2:=hso;unfold KL at hso2;simp only [and_eq_true,decide_eq_true_eq] at hso2;obtain ⟨_,⟨hm1,hm2⟩,hnone⟩:=hso2;have hnone:∀j,lo≤j→j<hi→¬((AS ops).getD j 0).testBit m0=true:=fun j hj1 hj2=>by have:=(all_eq_true.1 hnone) j (mem_range.2 hj2);simp only [or_eq_true,decide_eq_true_eq] at this;simpa using this.resolve_left (by omega)
   have hgo:g m0=o:=by have h1:=Ar (show m0<ops.size by omega);rw [ho] at h1;exact (Option.some.inj h1).symm
   obtain ⟨l1,l2,e⟩:=append_of_mem ((hlpm m0).2 ⟨hm1,hm2⟩);have hn':=hlpn;rw [e,nodup_append,nodup_cons] at hn';obtain ⟨n1,⟨n2,n3⟩,n4⟩:=hn';have hfil:lp.filter (fun i=>decide (lo≤i)&&i != m0)=l1++l2:=by
    have hall:∀x∈lp,lo≤x:=fun x hx=>((hlpm x).1 hx).1;rw [e] at hall;rw [e,filter_append,filter_cons_of_neg (by simp),filter_eq_self.2 (fun x hx=>by have:=n4 x hx m0 (by simp);have:=hall x (by simp [hx]);simp [*]),filter_eq_self.2 (fun x hx=>by have:x≠m0:=fun h=>n2 (h ▸ hx);have:=hall x (by simp [hx]);simp [*])]
   have hrun:∀s:Env×Heap,(l1++l2).foldlM (fun s i=>Ao C rec pc N ops S (nf3 C ops (AS ops) lo hi (some m0)) i s) s=((List.range hi).filter fun i=>decide (lo≤i)&&i != m0).foldlM (fun s i=>Ao C rec pc N ops S (nf3 C ops (AS ops) lo hi (some m0)) i s) s:=fun s=>by rw [← hfil];refine Ii (fun i s=>Ao C rec pc N ops S (nf3 C ops (AS ops) lo hi (some m0)) i s) _ lo hi lp hlpn hlpm hlo (fun i h=>by simp only [and_eq_true,decide_eq_true_eq] at h;exact h.1) ?_ s;refine hopen.imp_of_mem fun {x y} hx hy h hlt px py s => ?_;exact hcom (some m0) S hso x y ((hlpm x).1 hx).2 ((hlpm y).1 hy).1 hlt (h hlt) s
   have hk2:Bf C rec pc N ops S (nf3 C ops (AS ops) lo hi (some m0)) (l1++l2) env h (fun env' h'=>L0 C rec pc N ops S o env' h' K)=some r:=by rw [A5] at hk1 ⊢;rw [hrun];exact hk1
   have hlm:CR C ops (some m0) m0=true:=by unfold CR;simp
   obtain ⟨hd,hk3⟩:=Ly (fun _ _ _ K1 hE=>Ka C rec pc hcv hE K1) (fun y hy=>by
    have hne:y≠m0:=fun h=>n2 (h ▸ hy);obtain ⟨hy1,hy2⟩:=(hlpm y).1 (by rw [e];simp [hy]);have ey:=Ar (show y<ops.size by omega);have hquiet:(CR C ops (some m0) y)=false→Ag C (g y).op=false:=fun hq=>by unfold CR BI at hq;rw [ey] at hq;rw [or_eq_false_iff,or_eq_false_iff] at hq;exact hq.1.1
    rcases Nat.lt_or_gt_of_ne hne with hlt3|hlt3
    ·have hno:=Gk hopen e hy hlt3;obtain ⟨hnl,q1,q2,q3,f1,f2⟩:=hpair (some m0) hso m0 y hm2 hy1 hlt3 hno;rw [hgo] at q1 q2 q3;refine ⟨g y,ey,hquiet ?_,f1 hlm,q3,fun d hd hd2=>q2 d hd2 hd,q1⟩;rw [hlm,Bool.and_true] at hnl;exact hnl
    ·have hno:=hnone y hy1 hy2;obtain ⟨hnl,q1,q2,q3,f1,f2⟩:=hpair (some m0) hso y m0 hy2 hm1 hlt3 hno;rw [hgo] at q1 q2 q3;refine ⟨g y,ey,hquiet ?_,f2 hlm,q1,q2,q3⟩;rw [hlm,Bool.true_and] at hnl;exact hnl) hk2
   have hl1lt:∀i∈l1,i<ops.size:=fun i hi=>hlt i (by rw [e];simp [hi]);have hl2lt:∀i∈l2,i<ops.size:=fun i hi=>hlt i (by rw [e];simp [hi]);have hdm:∀i,i∉ops.toList.filterMap (·.dst)→∀d,o.dst=some d→d≠i:=fun i hni d hd' e'=>hni (by subst e';rw [mem_filterMap];exact ⟨o,mem_of_getElem? (i:=m0) (by rw [getElem?_toList];exact ho),hd'⟩)
   rw [e,append_assoc];refine CW hrec hpc ops S _ Q n ro (m0::l2++rest) l1 hk3 hr fun env1 h1 κ1 a1 w1 k1 k2 k3 k4 k5 k6 => ?_;simp only [cons_append,wpOpsIn,ho];have hpd:∀val,(a1.put o.dst val).defers=a1.defers:=fun val=>by cases o.dst<;>rfl
   rcases Gy k1 k2 with ⟨hw,hk4⟩|⟨hw,hk4⟩
   ·simp only [hw,if_true];refine Ic hrec hpc o hk4 k2 _ Q n ro fun v h' κ' val w' g1 g2 g3 g4 g5 => ?_;obtain ⟨_,g1,_⟩:=Dh g1;refine CW hrec hpc ops S _ Q n ro rest l2 g1 (Ed k2 g3 g4 g2 o hd) fun env2 h2 κ2 a2 w2 j1 j2 j3 j4 j5 j6 => ?_;refine hcont env2 h2 κ2 a2 w2 j1 j2 ((k3.trans g4).trans j3) (fun i hni => ?_) ((j5.trans (hpd _)).trans k5);exact (j4 i (hsub l2 hl2lt i hni)).trans ((CP fun d hd'=>hdm i hni d hd').trans (k4 i (hsub l1 hl1lt i hni)))
   ·simp only [hw,false_eq_true,if_false];simp only [AF] at hk4;obtain ⟨_,hk4⟩:=AH hk4;refine ⟨fun _ _=>trivial,?_⟩;refine CW hrec hpc ops S _ Q n ro rest l2 hk4 (Ed k2 k2.heap (Ext.refl _ _ _) (.tuple _ _ rfl fun j x hx=>by simp at hx) o hd) fun env2 h2 κ2 a2 w2 j1 j2 j3 j4 j5 j6 => ?_;refine hcont env2 h2 κ2 a2 w2 j1 j2 (k3.trans j3) (fun i hni => ?_) ((j5.trans (hpd _)).trans k5);exact (j4 i (hsub l2 hl2lt i hni)).trans ((CP fun d hd'=>hdm i hni d hd').trans (k4 i (hsub l1 hl1lt i hni)))
  ·cases hk
 ·rename_i hmc;simp only [AF] at hk;obtain ⟨hso,hk1⟩:=AH hk;generalize looks C.P ops (nf3 C ops (AS ops) lo hi none) hi env h=S at hk1;have hfil:lp.filter (fun i=>decide (lo≤i))=lp:=filter_eq_self.2 fun x hx=>by simpa using ((hlpm x).1 hx).1
  have hrun:∀s:Env×Heap,lp.foldlM (fun s i=>Ao C rec pc N ops S (nf3 C ops (AS ops) lo hi none) i s) s=((List.range hi).filter fun i=>decide (lo≤i)).foldlM (fun s i=>Ao C rec pc N ops S (nf3 C ops (AS ops) lo hi none) i s) s:=fun s=>by have:=Ii (fun i s=>Ao C rec pc N ops S (nf3 C ops (AS ops) lo hi none) i s) (fun i=>decide (lo≤i)) lo hi lp hlpn hlpm hlo (fun i h=>by simpa using h) (hopen.imp_of_mem fun {x y} hx hy h hlt px py s=>hcom none S hso x y ((hlpm x).1 hx).2 ((hlpm y).1 hy).1 hlt (h hlt) s) s;rw [hfil] at this;exact this
  have hk2:Bf C rec pc N ops S (nf3 C ops (AS ops) lo hi none) lp env h K=some r:=by rw [A5] at hk1 ⊢;rw [hrun];exact hk1
  refine CW hrec hpc ops S _ Q n ro rest lp hk2 hr fun env1 h1 κ1 a1 w1 k1 k2 k3 k4 k5 k6 => ?_;exact hcont env1 h1 κ1 a1 w1 k1 k2 k3 (fun i hni=>k4 i (hsub lp hlt i hni)) k5
theorem Ns (k:Nat):∀(l:List Nat),(l.Pairwise fun x y=>¬(k≤x∧y<k))→l=(l.filter fun i=>decide (i<k))++l.filter fun i => !decide (i<k)
 |[],_=>rfl
 |x::l,h=>by
  obtain ⟨h1,h2⟩:=pairwise_cons.1 h;by_cases hx:x<k
  ·rw [filter_cons_of_pos (by simpa using hx),filter_cons_of_neg (by simpa using hx),cons_append,← Ns k l h2]
  ·have e:l.filter (fun i=>decide (i<k))=[]:=by rw [List.filter_eq_nil_iff];intro y hy;have:=h1 y hy;simp only [decide_eq_true_eq];omega
   have e2:l.filter (fun i => !decide (i<k))=l:=filter_eq_self.2 fun y hy=>by have:=h1 y hy;simp;omega
   rw [filter_cons_of_neg (by simpa using hx),filter_cons_of_pos (by simpa using hx),e,e2,nil_append]
theorem SY {C:Cfg} {rec:Rec} {pc:BF} (hrec:Dd C.P rec) (hpc:B7 C.P pc) {ops:Array Oper} {K:Env→Heap→Option R} {r:R} {m:Nat} (hff:DW (AS ops) ops.size m=true) (hle:m≤ops.size) (Q:Exit→Act→World→Prop) (n:Nat) (ro:Option Nat) :
  ∀(ks:List Nat) (lo:Nat) (l:List Nat) {env:Env} {h:Heap} {κ:A1} {a:Act} {w:World},J0 (AS ops) ops.size m ks lo=true→l.Nodup→(∀i,i∈l↔lo≤i∧i<ops.size)→
   (∀l1 x l2,l=l1++x::l2→∀y,lo≤y→((AS ops).getD x 0).testBit y=true→y∈l1)→
   NH C rec pc N ops (AS ops) ks lo env h K=some r→Rel B N κ env h a w→
   (∀env1 h1 κ1 a1 w1,K env1 h1=some r→Rel B N κ1 env1 h1 a1 w1→Ext κ h w κ1 h1 w1→(∀i,i∉ops.toList.filterMap (·.dst)→env1 i=env i)→a1.defers=a.defers→wpOpsIn (Fr ro) n C.P ops Q (List.range' m (ops.size-m)) a1 w1)→
   wpOpsIn (Fr ro) n C.P ops Q l a w
 |[],lo,l,env,h,κ,a,w,hc,hn,hm,hord,hk,hr,hcont=>by
  unfold J0 at hc;have hlo:lo=m:=by simpa using hc
  subst hlo;have hmem:∀i,i∈List.range lo++l↔i<lo+(ops.size-lo):=fun i=>by rw [mem_append,mem_range,hm];omega
  have hnd:(List.range lo++l).Nodup:=by rw [nodup_append];refine ⟨List.nodup_range,hn,fun x hx y hy h => ?_⟩;have:=mem_range.1 hx;have:=(hm y).1 hy;omega
  obtain ⟨lp,hL,hlpn,hlpm⟩:=FK (n:=lo) (ops.size-lo) (List.range lo++l) hnd hmem (fun l1 x l2 e hx y hy=>by
   have hxs:x<ops.size:=by have:=(hmem x).1 (by rw [e];simp);omega
   have hxl:x∈l:=by
    have:x∈List.range lo++l:=by rw [e];simp
    rcases mem_append.1 this with h|h
    ·have:=mem_range.1 h;omega
    ·exact h
   obtain ⟨b1,b2,eb⟩:=append_of_mem hxl;have e3:List.range lo++l=(List.range lo++b1)++x::b2:=by rw [eb,append_assoc]
   have e4:l1=List.range lo++b1:=by
    have hnx:∀{u1 u2 v1 v2:List Nat},(u1++x::u2).Nodup→u1++x::u2=v1++x::v2→u1=v1:=by
     intro u1
     induction u1 with
     |nil=>
      intro u2 v1 v2 hn he;cases v1 with
      |nil=>rfl
      |cons z v1=>
       simp only [nil_append,cons_append,List.cons.injEq] at he;obtain ⟨h1,h2⟩:=he;simp only [nil_append,nodup_cons] at hn;exact absurd (by rw [h2];simp) hn.1
     |cons z u1 ih=>
      intro u2 v1 v2 hn he;cases v1 with
      |nil=>
       simp only [nil_append,cons_append,List.cons.injEq] at he;obtain ⟨h1,h2⟩:=he;simp only [cons_append,nodup_cons] at hn;exact absurd (by rw [h1];simp) hn.1
      |cons z' v1=>
       simp only [cons_append,List.cons.injEq] at he;obtain ⟨h1,h2⟩:=he;simp only [cons_append,nodup_cons] at hn;rw [h1,ih hn.2 h2]
    rw [e] at hnd e3;exact hnx hnd e3
   rw [e4];by_cases hyl:y<lo
   ·exact mem_append.2 (.inl (mem_range.2 hyl))
   ·have h1:=(all_eq_true.1 hff) x (mem_range.2 hxs);have h2:(AS ops).getD x 0=2 ^ x-1:=by simp only [or_eq_true,decide_eq_true_eq,beq_iff_eq] at h1;exact h1.resolve_left (by omega)
    refine mem_append.2 (.inr (hord b1 x b2 eb y (by omega) ?_));rw [h2,Nat.testBit_two_pow_sub_one];simpa using hy)
  have hlen:lp.length=(List.range lo).length:=by
   have h1:=congrArg length hL;have h2:l.length=ops.size-lo:=by
    have h3:(List.range lo++l).length=ops.size:=by
     have hp:(List.range lo++l).Perm (List.range ops.size):=by refine (List.perm_ext_iff_of_nodup hnd List.nodup_range).2 fun i => ?_;rw [hmem,mem_range];omega
     rw [hp.length_eq,length_range]
    simp only [length_append,length_range] at h3;omega
   simp only [length_append,length_range,List.length_range'] at h1 ⊢;omega
  have hl:l=List.range' lo (ops.size-lo):=(List.append_inj hL hlen.symm).2;rw [hl];unfold NH at hk;exact hcont env h κ a w hk hr (Ext.refl _ _ _) (fun _ _=>rfl) rfl
 |k::ks,lo,l,env,h,κ,a,w,hc,hn,hm,hord,hk,hr,hcont=>by
  unfold J0 at hc;simp only [and_eq_true,decide_eq_true_eq] at hc;obtain ⟨⟨hlk,hkm⟩,hcut,hc⟩:=hc;have hbit:∀x,k≤x→x<ops.size→∀y,y<k→((AS ops).getD x 0).testBit y=true:=fun x hx hxs y hy=>by unfold cutAt at hcut;have:=(all_eq_true.1 hcut) x (mem_range.2 hxs);simp only [or_eq_true,decide_eq_true_eq] at this;exact (all_eq_true.1 (this.resolve_left (by omega))) y (mem_range.2 hy)
  have hpw:l.Pairwise fun x y=>¬(k≤x∧y<k):=Pt l fun l1 x l2 y e hy hh=>by have hx:=(hm x).1 (by rw [e];simp);have hyl:=(hm y).1 (by rw [e];simp [hy]);have hy1:=hord l1 x l2 e y hyl.1 (hbit x hh.1 hx.2 y hh.2);rw [e,nodup_append] at hn;exact hn.2.2 y hy1 y (by simp [hy]) rfl
  have hsplit:=Ns k l hpw;generalize hlp:(l.filter fun i=>decide (i<k))=lp at hsplit;generalize hlr:(l.filter fun i => !decide (i<k))=lr at hsplit;have hlpm:∀i,i∈lp↔lo≤i∧i<k:=fun i=>by rw [← hlp,mem_filter,hm,decide_eq_true_eq];omega
  have hlrm:∀i,i∈lr↔k≤i∧i<ops.size:=fun i=>by rw [← hlr,mem_filter,hm];simp;omega
  have hnn:=hn;rw [hsplit,nodup_append] at hnn;rw [hsplit];unfold NH at hk;refine seg_ok hrec hpc (by omega) (by omega) lp hnn.1 hlpm (Pt lp fun l1 x l2 y e hy hlt2 hb => ?_) hk hr Q n ro lr fun env1 h1 κ1 a1 w1 k1 k2 k3 k4 k5 => ?_
  ·have hyl:=(hlpm y).1 (by rw [e];simp [hy]);have hy1:=hord l1 x (l2++lr) (by rw [hsplit,e];simp) y hyl.1 hb;have:=hnn.1;rw [e,nodup_append] at this;exact this.2.2 y hy1 y (by simp [hy]) rfl
  ·refine SY hrec hpc hff hle Q n ro ks k lr hc hnn.2.1 hlrm (fun l1 x l2 e y hy hb => ?_) k1 k2 fun env2 h2 κ2 a2 w2 j1 j2 j3 j4 j5=>hcont env2 h2 κ2 a2 w2 j1 j2 (k3.trans j3) (fun i hi=>(j4 i hi).trans (k4 i hi)) (j5.trans k5);have hy1:=hord (lp++l1) x l2 (by rw [hsplit,e,append_assoc]) y (by omega) hb;rcases mem_append.1 hy1 with h|h
   ·have:=(hlpm y).1 h;omega
   ·exact h
theorem Lb {C:Cfg} {rec:Rec} {pc:BF} (hrec:Dd C.P rec) (hpc:B7 C.P pc) (hmix:C.P.follows .mixedOrders=true) {id:Nat} {ops:Array Oper} {K:Env→Heap→Option R} {r:R} {m:Nat} {ks:List Nat}
  (hcs:J0 (AS ops) ops.size m ks 0=true) (hff:DW (AS ops) ops.size m=true) (hed:F8 ops=true) (hle:m≤ops.size)
  (hk1:NH C rec pc N ops (AS ops) ks 0 env h (fun env' h'=>Dr C rec pc N false ops (ops.toList.drop m) env' h' K)=some r)
  (hr:Rel B N κ env h a w) (Q:Exit→Act→World→Prop) (n:Nat) (ro:Option Nat)
  (hn:JT B N κ h w false ops.toList env a K r fun a' w'=>Q .normal a' w'):(Code.region id ops true).wpIn (Fr ro) n C.P Q a w:=by
 refine wpIn_region_draw fun t => ?_;have hsch:Region.schedule (C.P.follows .mixedOrders) ops t=Region.linearise .any ops t:=by simp only [Region.schedule,hmix,Bool.true_or,if_true]
 rw [hsch];obtain ⟨p1,p2,p3,p4⟩:=Gb hed (EW ops t) (fun i hi=>by cases hi);have hx0:=G4 hr.heap;refine SY hrec hpc hff hle Q n ro ks 0 (Region.linearise .any ops t) hcs p1 (fun i => ?_) (fun l1 x l2 e y _ hb=>(p4 l1 x l2 e y hb).resolve_left (by simp)) hk1 (Ir hr) fun env1 h1 κ1 a1 w1 k1 k2 k3 k4 k5 => ?_
 ·constructor
  ·intro hi;exact ⟨zero_le _,(p2 i hi).2⟩
  ·intro hi;exact (p3 i hi.2).resolve_left (by simp)
 ·have:=He hrec hpc ops Q n ro [] (ops.toList.drop m) (List.range' m (ops.size-m)) (by simp) (fun j i o hj ho=>by
   have hjl:j<ops.size-m:=by simpa using AU hj
   rw [List.getElem?_range' hjl] at hj;cases hj;rw [getElem?_drop] at ho;simpa using ho) k1 k2 (fun env2 h2 κ2 a2 w2 j1 j2 j3 j4 j5 j6=>by
    refine hn env2 h2 κ2 a2 w2 j1 j2 ((hx0.trans k3).trans j3) (fun i hni => ?_) (j5.trans k5) (fun e=>by cases e);have hsub1:i∉(ops.toList.drop m).filterMap (·.dst):=fun hm=>hni (by rw [mem_filterMap] at hm ⊢;obtain ⟨o,ho,hd⟩:=hm;exact ⟨o,mem_of_mem_drop ho,hd⟩)
    exact (j4 i hsub1).trans (k4 i hni))
  simpa using this
theorem NM {C:Cfg} {rec:Rec} {pc:BF} (hrec:Dd C.P rec) (hpc:B7 C.P pc) (hmix:C.P.follows .mixedOrders=true) {id:Nat} {ops:Array Oper} {draw:Bool} {K:Env→Heap→Option R} {r:R}
  (hk:Kl C rec pc N ops draw env h K=some r) (hr:Rel B N κ env h a w) (Q:Exit→Act→World→Prop) (n:Nat) (ro:Option Nat)
  (hn:JT B N κ h w false ops.toList env a K r fun a' w'=>Q .normal a' w'):(Code.region id ops draw).wpIn (Fr ro) n C.P Q a w:=by
 unfold Kl at hk
 try simp only [AF] at hk
 cases draw with
 |false=>
  simp only [false_eq_true,if_false] at hk;refine wpIn_region ?_;have:=He hrec hpc ops Q n ro [] ops.toList (List.range ops.size) (by simp) (fun j i o hj ho=>by
   have hjl:j<ops.size:=by simpa using AU hj
   rw [getElem?_range hjl] at hj;cases hj;simpa using ho) hk hr hn
  simpa using this
 |true=>
  simp only [if_true] at hk;split at hk
  ·rename_i i0 j0 heq0;obtain ⟨⟨hp,hff,hed,hle⟩,hk1⟩:=AH hk;obtain ⟨hA,hB⟩:=Hd hk1;exact Lc hrec hpc hmix hp hff hed hle hA hB hr Q n ro hn
  split at hk
  ·rename_i heqm;obtain ⟨⟨hcs,hff,hed,hle⟩,hk1⟩:=AH hk;exact Lb hrec hpc hmix hcs hff hed hle hk1 hr Q n ro hn
  obtain ⟨⟨hdo,hff,hed,hle⟩,hk1⟩:=AH hk;clear hk;refine wpIn_region_draw fun t => ?_;have hsch:Region.schedule (C.P.follows .mixedOrders) ops t=Region.linearise .any ops t:=by simp only [Region.schedule,hmix,Bool.true_or,if_true]
  rw [hsch];generalize Np (AS ops) ops.size=m at *;generalize hS:looks C.P ops (An C ops (AS ops) m) m env h=S at *;clear hS;obtain ⟨p1,p2,p3,p4⟩:=Gb hed (EW ops t) (fun i hi=>by cases hi);obtain ⟨lp,hL,hlpn,hlpm⟩:=FK (n:=m) (ops.size-m) (Region.linearise .any ops t) p1 (fun i=>by
   constructor
   ·intro hi;have:=(p2 i hi).2;omega
   ·intro hi;exact (p3 i (by omega)).resolve_left (by simp)) (fun l1 x l2 e hx y hy=>by
    have hxs:x<ops.size:=(p2 x (by rw [e];simp)).2;have h1:=(all_eq_true.1 hff) x (mem_range.2 hxs);have h2:(AS ops).getD x 0=2 ^ x-1:=by simp only [or_eq_true,decide_eq_true_eq,beq_iff_eq] at h1;exact h1.resolve_left (by omega)
    refine (p4 l1 x l2 e y ?_).resolve_left (by simp);rw [h2,Nat.testBit_two_pow_sub_one];simpa using hy)
  rw [hL];let g:Nat→Oper:=fun i=>ops.getD i default;have hlt:∀i∈lp,i<ops.size:=fun i hi=>by have:=(hlpm i).1 hi;omega
  have hpair:∀x y,x<m→y<x→¬((AS ops).getD x 0).testBit y=true→
    (BI C ops y&&BI C ops x)=false∧(∀d,(g y).dst=some d→d∉(g x).looksAt ops)∧(∀d,(g y).dst=some d→(g x).dst≠some d)∧(∀d,(g x).dst=some d→d∉(g y).looksAt ops)∧
    (BI C ops x=true→An C ops (AS ops) m y=true)∧(BI C ops y=true→An C ops (AS ops) m x=true):=fun x y hx hlt2 h2=>by
   have h1:=(all_eq_true.1 ((all_eq_true.1 hdo) x (mem_range.2 hx))) y (mem_range.2 hlt2);have ex:=Ar (show x<ops.size by omega);have ey:=Ar (show y<ops.size by omega);rw [ex,ey] at h1;simp only [or_eq_true,and_eq_true,not_eq_true'] at h1;obtain ⟨hnl,hap⟩:=h1.resolve_left h2;obtain ⟨q1,q2,q3⟩:=Oper.apart_spec hap;have hun:Df (AS ops) x y=true:=by unfold Df;rw [if_neg (by omega)];simpa using h2
   have hun':Df (AS ops) y x=true:=by unfold Df;rw [if_pos hlt2];simpa using h2
   refine ⟨hnl,q1,q2,q3,fun hlx => ?_,fun hly => ?_⟩
   ·unfold An;refine any_eq_true.2 ⟨x,mem_range.2 hx,?_⟩;simp only [and_eq_true,bne_iff_ne];exact ⟨⟨hlx,by omega⟩,hun'⟩
   ·unfold An;refine any_eq_true.2 ⟨y,mem_range.2 (by omega),?_⟩;simp only [and_eq_true,bne_iff_ne];exact ⟨⟨hly,by omega⟩,hun⟩
  have hopen:lp.Pairwise fun x y=>y<x→¬((AS ops).getD x 0).testBit y=true:=Pt lp fun l1 x l2 y e hy hlt2 hb=>by have:=(p4 l1 x (l2++List.range' m (ops.size-m)) (by rw [hL,e];simp) y hb).resolve_left (by simp);rw [e,nodup_append] at hlpn;exact hlpn.2.2 y this y (by simp [hy]) rfl
  have hcom:∀x y,x<m→y<x→¬((AS ops).getD x 0).testBit y=true→∀s:Env×Heap,(Ao C rec pc N ops S (An C ops (AS ops) m) x s).bind (Ao C rec pc N ops S (An C ops (AS ops) m) y)=(Ao C rec pc N ops S (An C ops (AS ops) m) y s).bind (Ao C rec pc N ops S (An C ops (AS ops) m) x):=fun x y hx hlt2 h2 s=>by
   obtain ⟨hnl,q1,q2,q3,n1,n2⟩:=hpair x y hx hlt2 h2;have ex:=Ar (show x<ops.size by omega);have ey:=Ar (show y<ops.size by omega);have lx:BI C ops x=(Ag C (g x).op||CK C (g x).op):=by unfold BI;rw [ex]
   have ly:BI C ops y=(Ag C (g y).op||CK C (g y).op):=by unfold BI;rw [ey]
   cases hlx:Ag C (g x).op with
   |true=>
    have hlx':BI C ops x=true:=by rw [lx,hlx];rfl
    have hly:Ag C (g y).op=false:=by rw [hlx',Bool.and_true,ly,or_eq_false_iff] at hnl;exact hnl.1
    exact Da C rec pc N ops S _ ex ey q3 (fun d hd hd2=>q2 d hd2 hd) q1 hlx hly (n1 hlx') s
   |false=>
    cases hly:Ag C (g y).op with
    |true=>exact (Da C rec pc N ops S _ ey ex q1 q2 q3 hly hlx (n2 (by rw [ly,hly];rfl)) s).symm
    |false=>exact (F1 C rec pc N ops S _ ey ex q1 q2 q3 hly hlx s).symm
  have hsub:∀(l:List Nat),(∀i∈l,i<ops.size)→∀i,i∉ops.toList.filterMap (·.dst)→i∉(l.map g).filterMap (·.dst):=fun l hl i hni hm=>hni (by rw [mem_filterMap] at hm ⊢;obtain ⟨o,ho,hd⟩:=hm;obtain ⟨x,hx,rfl⟩:=mem_map.1 ho;refine ⟨g x,?_,hd⟩;have:=Ar (hl x hx);exact mem_of_getElem? (i:=x) (by rw [getElem?_toList];exact this))
  have hrest:∀env1 h1 κ1 a1 w1,Dr C rec pc N false ops (ops.toList.drop m) env1 h1 K=some r→Rel B N κ1 env1 h1 a1 w1→Ext κ h w κ1 h1 w1→(∀i,i∉ops.toList.filterMap (·.dst)→env1 i=env i)→a1.defers=a.defers→
    wpOpsIn (Fr ro) n C.P ops Q (List.range' m (ops.size-m)) a1 w1:=fun env1 h1 κ1 a1 w1 k1 k2 k3 k4 k5=>by
   have:=He hrec hpc ops Q n ro [] (ops.toList.drop m) (List.range' m (ops.size-m)) (by simp) (fun j i o hj ho=>by
    have hjl:j<ops.size-m:=by simpa using AU hj
    rw [List.getElem?_range' hjl] at hj;cases hj;rw [getElem?_drop] at ho;simpa using ho) k1 k2 (fun env2 h2 κ2 a2 w2 j1 j2 j3 j4 j5 j6=>by
     refine hn env2 h2 κ2 a2 w2 j1 j2 (k3.trans j3) (fun i hni => ?_) (j5.trans k5) (fun e=>by cases e);have hsub1:i∉(ops.toList.drop m).filterMap (·.dst):=fun hm=>hni (by rw [mem_filterMap] at hm ⊢;obtain ⟨o,ho,hd⟩:=hm;exact ⟨o,mem_of_mem_drop ho,hd⟩)
     exact (j4 i hsub1).trans (k4 i hni))
   simpa using this
  have hx0:=G4 hr.heap;split at hk1
  ·
   rename_i m0 o heq;have hsel:m=m0+1∧ops[m0]? = some o∧CK C o.op=true:=by
    split at heq
    ·rename_i k;split at heq
     ·rename_i o' ho';split at heq
      ·cases heq;exact ⟨rfl,ho',by assumption⟩
      ·cases heq
     ·cases heq
    ·cases heq
   obtain ⟨hm0,ho,hhc⟩:=hsel;have hgo:g m0=o:=by have h1:=Ar (show m0<ops.size by omega);rw [ho] at h1;exact (Option.some.inj h1).symm
   obtain ⟨l1,l2,e⟩:=append_of_mem ((hlpm m0).2 (by omega));have hn':=hlpn;rw [e,nodup_append,nodup_cons] at hn';obtain ⟨n1,⟨n2,n3⟩,n4⟩:=hn';have hm2:∀i,i∈l1++l2↔i<m0:=fun i=>by
    constructor
    ·intro hi;have h5:=(hlpm i).1 (by rw [e];simp only [mem_append,mem_cons];rcases mem_append.1 hi with h|h;exact .inl h;exact .inr (.inr h));have h6:i≠m0:=fun h=>by
      subst h;rcases mem_append.1 hi with h|h
      ·exact n4 i h i (by simp) rfl
      ·exact n2 h
     omega
    ·intro hi;have h5:=(hlpm i).2 (by omega);rw [e] at h5;simp only [mem_append,mem_cons] at h5 ⊢;rcases h5 with h5|h5|h5
     ·exact .inl h5
     ·omega
     ·exact .inr h5
   have hpw:(l1++l2).Pairwise fun x y=>y<x→¬((AS ops).getD x 0).testBit y=true:=by refine hopen.sublist ?_;rw [e];exact List.Sublist.append (List.Sublist.refl _) (List.sublist_cons_self _ _)
   have hrun:∀s:Env×Heap,(l1++l2).foldlM (fun s i=>Ao C rec pc N ops S (An C ops (AS ops) m) i s) s=(List.range m0).foldlM (fun s i=>Ao C rec pc N ops S (An C ops (AS ops) m) i s) s:=fun s=>
    FY (fun i s=>Ao C rec pc N ops S (An C ops (AS ops) m) i s) m0 (l1++l2) (nodup_append.2 ⟨n1,n3,fun a ha b hb=>n4 a ha b (by simp [hb])⟩) hm2 (fun b1 x b2 y e2 hy hlt2 s=>
     hcom x y (by have:=(hm2 x).1 (by rw [e2];simp);omega) hlt2 (Gk hpw e2 hy hlt2) s) s
   have hk2:Bf C rec pc N ops S (An C ops (AS ops) m) (l1++l2) env h (fun env' h'=>P4 C rec pc N S o env' h' fun env' h'=>Dr C rec pc N false ops (ops.toList.drop m) env' h' K)=some r:=by rw [A5] at hk1 ⊢;rw [hrun];exact hk1
   have hl2:∀y∈l2,y<m0:=fun y hy=>(hm2 y).1 (by simp [hy]);obtain ⟨hd,hg,hk3⟩:=T4 (fun _ _ _ K1 hE=>SA C rec pc hhc hE K1) (fun y hy=>by
    have hym:=hl2 y hy;have hno:=Gk hopen e hy hym;obtain ⟨hnl,q1,q2,q3,f1,f2⟩:=hpair m0 y (by omega) hym hno;have hlm:BI C ops m0=true:=by unfold BI;rw [ho];simp [hhc]
    have ey:=Ar (show y<ops.size by omega);rw [hgo] at q1 q2 q3;refine ⟨g y,ey,?_,f1 hlm,q3,fun d hd hd2=>q2 d hd2 hd,q1⟩;rw [hlm,Bool.and_true] at hnl;unfold BI at hnl;rw [ey] at hnl;rw [or_eq_false_iff] at hnl;exact hnl.1) hk2
   have hl1lt:∀i∈l1,i<ops.size:=fun i hi=>hlt i (by rw [e];simp [hi]);have hl2lt:∀i∈l2,i<ops.size:=fun i hi=>hlt i (by rw [e];simp [hi]);rw [e,append_assoc];refine CW hrec hpc ops S _ Q n ro (m0::l2++List.range' m (ops.size-m)) l1 hk3 (Ir hr) fun env1 h1 κ1 a1 w1 k1 k2 k3 k4 k5 k6 => ?_;simp only [cons_append,wpOpsIn,ho];have hgk:FV ops o env1 (fun env1=>Af C rec pc false env1 h1 o.op fun v h'=>cnd (S.all (sameAt h1 h')=true) (Bf C rec pc N ops S (An C ops (AS ops) m) l2 (env1.put o.dst v) h' fun env' h'=>Dr C rec pc N false ops (ops.toList.drop m) env' h' K) none) (fun _=>none)=some r:=by unfold FV;rw [hg];exact k1
   rcases Gy hgk k2 with ⟨hw,hk4⟩|⟨hw,hk4⟩
   ·simp only [hw,if_true];refine Ic hrec hpc o hk4 k2 _ Q n ro fun v h' κ' val w' g1 g2 g3 g4 g5 => ?_;simp only [AF] at g1;obtain ⟨_,g1⟩:=AH g1;refine CW hrec hpc ops S _ Q n ro (List.range' m (ops.size-m)) l2 g1 (Ed k2 g3 g4 g2 o hd) fun env2 h2 κ2 a2 w2 j1 j2 j3 j4 j5 j6 => ?_;have hpd:∀val,(a1.put o.dst val).defers=a1.defers:=fun val=>by cases o.dst<;>rfl
    refine hrest env2 h2 κ2 a2 w2 j1 j2 (((hx0.trans k3).trans g4).trans j3) (fun i hni => ?_) ((j5.trans (hpd _)).trans k5);refine (j4 i (hsub l2 hl2lt i hni)).trans (Eq.trans ?_ (k4 i (hsub l1 hl1lt i hni)));refine CP fun d hd' e'=>hni ?_;subst e';rw [mem_filterMap];exact ⟨o,mem_of_getElem? (i:=m0) (by rw [getElem?_toList];exact ho),hd'⟩
   ·cases hk4
  ·have hrun:∀s:Env×Heap,lp.foldlM (fun s i=>Ao C rec pc N ops S (An C ops (AS ops) m) i s) s=(List.range m).foldlM (fun s i=>Ao C rec pc N ops S (An C ops (AS ops) m) i s) s:=fun s=>
    FY (fun i s=>Ao C rec pc N ops S (An C ops (AS ops) m) i s) m lp hlpn hlpm (fun b1 x b2 y e2 hy hlt2 s=>
     hcom x y ((hlpm x).1 (by rw [e2];simp)) hlt2 (Gk hopen e2 hy hlt2) s) s
   have hk2:Bf C rec pc N ops S (An C ops (AS ops) m) lp env h (fun env' h'=>Dr C rec pc N false ops (ops.toList.drop m) env' h' K)=some r:=by rw [A5] at hk1 ⊢;rw [hrun];exact hk1
   refine CW hrec hpc ops S _ Q n ro (List.range' m (ops.size-m)) lp hk2 (Ir hr) fun env1 h1 κ1 a1 w1 k1 k2 k3 k4 k5 k6 => ?_;exact hrest env1 h1 κ1 a1 w1 k1 k2 (hx0.trans k3) (fun i hni=>k4 i (hsub lp hlt i hni)) k5
end Ab
namespace Ab
open Go
variable {R:Type} {P:Program} {B:Nat→Prop} {κ:A1} {h:Heap} {w:World} {N:Nat} {env:Env} {a:Act} {ro:Option Nat} {base:Nat}
def mark (r:Nat):Deferred:={target :=.collected r,args := #[]}
def Marks (base:Nat) (κ:A1) (h:Heap) (w:World) (ds:List Deferred):Prop:=
 ∃rs:List Nat,ds=rs.map mark∧rs.Nodup∧∀r∈rs,base≤r∧w.heap[r]? = some (.deferred (some []))∧¬Ex κ h r
def JS (ro:Option Nat) (κ:A1) (h:Heap):Prop:=∀b,ro=some b→∃(i d:Nat) (l:Cv),κ[i]? = some (some (b,d))∧h[i]? = some (.loop l)
structure St (B:Nat→Prop) (N:Nat) (ro:Option Nat) (base:Nat) (κ:A1) (env:Env) (h:Heap) (a:Act) (w:World):Prop where
 rel:Rel B N κ env h a w
 marks:Marks base κ h w a.defers
 round:JS ro κ h
 bsz:base≤w.heap.size
theorem Marks.ext {κ':A1} {h':Heap} {w':World} (x:Ext κ h w κ' h' w') {ds:List Deferred} (hm:Marks base κ h w ds):Marks base κ' h' w' ds:=by
 obtain ⟨rs,h1,h2,h3⟩:=hm;refine ⟨rs,h1,h2,fun r hr => ?_⟩;obtain ⟨h4,h5,h6⟩:=h3 r hr;have hlt:=DA h5;refine ⟨h4,(x.keep r hlt h6).trans h5,fun he => ?_⟩;rcases x.ex r he with y|y
 ·exact h6 y
 ·omega
theorem JS.ext {κ':A1} {h':Heap} {w':World} (x:Ext κ h w κ' h' w') (hm:JS ro κ h):JS ro κ' h':=by
 intro b hb;obtain ⟨i,d,l,h1,h2⟩:=hm b hb;obtain ⟨o',h3,h4⟩:=x.obj i _ h2;have hk:=h4.1;cases o' with
 |loop l'=>exact ⟨i,d,l',(x.kap i _ _ h2 h3 rfl).trans h1,h3⟩
 |box cs=>simp [AE.kind] at hk
 |row a b c d=>simp [AE.kind] at hk
 |mapo a b c=>simp [AE.kind] at hk
theorem St.next (hs:St B N ro base κ env h a w) {κ':A1} {env':Env} {h':Heap} {a':Act} {w':World} (hr:Rel B N κ' env' h' a' w') (x:Ext κ h w κ' h' w') (hd:a'.defers=a.defers):St B N ro base κ' env' h' a' w':=
 ⟨hr,by rw [hd];exact hs.marks.ext x,hs.round.ext x,le_trans hs.bsz x.size⟩
def Hq (B:Nat→Prop) (N:Nat) (ro:Option Nat) (base:Nat) (κ:A1) (env:Env) (h:Heap) (w:World) (W:List Tmp) (K:Exit→Env→Heap→Option R) (r:R) (e:Exit) (a':Act) (w':World):Prop:=
 ∃env' h' κ',K e env' h'=some r∧St B N ro base κ' env' h' a' w'∧Ext κ h w κ' h' w'∧∀i,i∉W→env' i=env i
theorem MG:∀(L:List Tmp) (i:Tmp) (k j:Nat),findIdx i L k=some j→∃m,j=k+m∧L[m]? = some i
 |[],i,k,j,h=>by simp [findIdx] at h
 |x::L,i,k,j,h=>by
  simp only [findIdx] at h;split at h
  ·rename_i e;cases h;exact ⟨0,rfl,by simp [e]⟩
  ·obtain ⟨m,h1,h2⟩:=MG L i (k+1) j h;exact ⟨m+1,by omega,by simpa using h2⟩
theorem Sg {tm:Tmp→AV} {env0:Env} {h0:Heap} {κ0:A1} {w0:World} {a0:Act} {L W:List Tmp} {K:List AV→Heap→Option R} {r:R} (hk:GN tm env0 h0 L env h K=some r) (hs0:Rel B N κ0 env0 h0 a0 w0) (hr:Rel B N κ env h a w) (x:Ext κ0 h0 w0 κ h w)
  (hW:∀i,i∉W→env i=env0 i) :
  ∃s hs,K s hs=some r∧Rel B N (κ.take h0.length) (Cr tm W L env0 s) (Bt h0 0 hs) a w∧Ext κ0 h0 w0 (κ.take h0.length) (Bt h0 0 hs) w∧(∀i,i∉W→Cr tm W L env0 s i=env0 i)∧∀b,Ex (κ.take h0.length) (Bt h0 0 hs) b→Ex κ h b:=by
 unfold GN at hk
 try simp only [AF] at hk
 obtain ⟨hL,hk1⟩:=AH hk;obtain ⟨hs,hk2,hun,hbe⟩:=TH hk1 (No x);have hLi:∀(m:Nat) (i:Tmp),L[m]? = some i→below 4 h0.length (env i)=true∧LO (TM tm env0 i) (env i)=true:=fun m i hm=>by have:=EK hL hm;simpa using this
 have hget:∀(i:Tmp) (k:Nat),findIdx i L 0=some k→Gj (TM tm env0 i) ((L.map env).getD k .undef)=env i∧below 4 h0.length (env i)=true:=fun i k hf=>by
  obtain ⟨m,rfl,hm⟩:=MG L i 0 k hf;have h1:(L.map env).getD (0+m) .undef=env i:=by simp [List.getD,hm]
  rw [h1];exact ⟨Pr (hLi m i hm).2,(hLi m i hm).1⟩
 refine ⟨_,hs,hk2,⟨?_,hr.size,fun i => ?_⟩,?_,fun i hi => ?_,fun b hb => ?_⟩
 ·rw [hun];exact hr.heap.Dg hbe
 ·rw [hun];unfold Cr;cases hf:findIdx i L 0 with
  |some k=>
   obtain ⟨h1,h2⟩:=hget i k hf;simp only [h1];exact (hr.slot i).Dg (DX 4 h2)
  |none=>
   dsimp only;split
   ·exact .undef _
   ·rename_i hc;have hni:i∉W:=fun hm=>hc (by simpa using hm);rw [← hW i hni];refine (hr.slot i).Dg ?_;rw [hW i hni];exact (hs0.slot i).refs
 ·rw [hun];exact x.Dg (le_refl _)
 ·unfold Cr;cases hf:findIdx i L 0 with
  |some k=>
   obtain ⟨h1,_⟩:=hget i k hf;simp only [h1];exact hW i hi
  |none=>
   dsimp only;rw [if_neg (by simpa using hi)]
 ·rw [hun] at hb;exact hb.take
theorem Marks.less {κ':A1} {h':Heap} (hx:∀b,Ex κ' h' b→Ex κ h b) {ds:List Deferred} (hm:Marks base κ h w ds):Marks base κ' h' w ds:=by obtain ⟨rs,h1,h2,h3⟩:=hm;exact ⟨rs,h1,h2,fun r hr=>⟨(h3 r hr).1,(h3 r hr).2.1,fun he=>(h3 r hr).2.2 (hx r he)⟩⟩
theorem Ix {tm:Tmp→AV} {env0:Env} {h0:Heap} {κ0:A1} {w0:World} {a0:Act} {L W:List Tmp} {K:List AV→Heap→Option R} {r:R} (hk:GN tm env0 h0 L env h K=some r) (hs0:St B N ro base κ0 env0 h0 a0 w0) (hr:St B N ro base κ env h a w) (x:Ext κ0 h0 w0 κ h w)
  (hW:∀i,i∉W→env i=env0 i) :
  ∃s hs,K s hs=some r∧St B N ro base (κ.take h0.length) (Cr tm W L env0 s) (Bt h0 0 hs) a w∧Ext κ0 h0 w0 (κ.take h0.length) (Bt h0 0 hs) w∧∀i,i∉W→Cr tm W L env0 s i=env0 i:=by
 obtain ⟨s,hs,k1,k2,k3,k4,k5⟩:=Sg hk hs0.rel hr.rel x hW;exact ⟨s,hs,k1,⟨k2,hr.marks.less k5,hs0.round.ext k3,hr.bsz⟩,k3,k4⟩
theorem Dz {hi:Hints} {W:List Tmp}:∀{L:List Tmp} {env:Env} {h:Heap} {κ:A1} {K:Env→Heap→Option R} {r:R},FB hi L env h K=some r→Rel B N κ env h a w→(∀i∈L,i∈W)→
  ∃env' h' κ',K env' h'=some r∧Rel B N κ' env' h' a w∧Ext κ h w κ' h' w∧∀i,i∉W→env' i=env i
 |[],env,h,κ,K,r,hk,hr,hL=>⟨env,h,κ,hk,hr,Ext.refl _ _ _,fun _ _=>rfl⟩
 |i::L,env,h,κ,K,r,hk,hr,hL=>by
  simp only [FB] at hk;split at hk
  ·rename_i hn;have hh:=hr.heap;have hv:=hr.slot i;rw [hn] at hv;obtain ⟨a0,hval⟩:∃a0,a.tmps.getD i undef = .slice a0 0 0:=by generalize a.tmps.getD i undef=u at hv;cases hv with|nilsl a0=>exact ⟨a0,rfl⟩
   split at hk
   ·have hr1:Rel B N κ (env.put (some i) (.t (.sl (hi.rowsz i) []))) h a w:=by
     refine ⟨hh,hr.size,fun j => ?_⟩;simp only [Env.put];by_cases hj:j=i
     ·rw [if_pos hj,hj,hval];exact .t _ _ (.nil _ _ _)
     ·rw [if_neg hj];exact hr.slot j
    obtain ⟨env',h',κ',k1,k2,k3,k4⟩:=Dz (W:=W) hk hr1 fun j hj=>hL j (by simp [hj]);refine ⟨env',h',κ',k1,k2,k3,fun j hj => ?_⟩;rw [k4 j hj];simp only [Env.put];rw [if_neg fun e=>hj (hL j (by simp [e]))]
   generalize hi.rowsz i=z0 at hk;have x1:Ext κ h w (κ++[none]) (h++[.row false 0 z0 []]) w:=Be hh rfl rfl rfl (le_refl _) (fun _ _=>rfl) (fun b base e=>by cases e);have hh1:=BM hh (fun _ _=>rfl) x1 (fun b base e=>by cases e) (show GH B (κ++[none]) (h++[.row false 0 z0 []]) w none (.row false 0 z0 []) from rfl);have hr1:Rel B N (κ++[none]) (env.put (some i) (.sref h.length 0 0 0)) (h++[.row false 0 z0 []]) a w:=by
    refine ⟨hh1,hr.size,fun j => ?_⟩;simp only [Env.put];by_cases hj:j=i
    ·rw [if_pos hj,hj,hval];exact B4 (by rw [← hh.len];exact Ai κ _) (Ai h _)
    ·rw [if_neg hj];exact (hr.slot j).ext x1
   obtain ⟨env',h',κ',k1,k2,k3,k4⟩:=Dz (W:=W) hk hr1 fun j hj=>hL j (by simp [hj]);refine ⟨env',h',κ',k1,k2,x1.trans k3,fun j hj => ?_⟩;rw [k4 j hj];simp only [Env.put];rw [if_neg fun e=>hj (hL j (by simp [e]))]
  ·exact Dz hk hr fun j hj=>hL j (by simp [hj])
theorem IK {W L:List Tmp}:∀i∈L.filter (fun i=>W.contains i),i∈W:=fun i hi=>by simpa using (mem_filter.1 hi).2
end Ab
namespace Ab
open Go
variable {R:Type} {B:Nat→Prop} {κ:A1} {h:Heap} {w:World} {N:Nat} {env:Env} {a:Act} {ro:Option Nat} {base:Nat}
theorem Hq.of {W W':List Tmp} {K:Exit→Env→Heap→Option R} {r:R} {e:Exit} {a':Act} {w':World} {κ1:A1} {env1:Env} {h1:Heap} {w1:World} (x:Ext κ h w κ1 h1 w1) (hW:∀i,i∉W→env1 i=env i) (hsub:∀i,i∉W→i∉W')
  (hp:Hq B N ro base κ1 env1 h1 w1 W' K r e a' w'):Hq B N ro base κ env h w W K r e a' w':=by
 obtain ⟨env',h',κ',k1,k2,k3,k4⟩:=hp;exact ⟨env',h',κ',k1,k2,x.trans k3,fun i hi=>(k4 i (hsub i hi)).trans (hW i hi)⟩
def TR (C:Cfg) (fn:FuncId) (N:Nat) (rec:Rec):Prop:=∀{R:Type} (B:Nat→Prop) (ro:Option Nat) (base n:Nat) (f:Operand) (params:Array Tmp) (assign body:Code) (env:Env) (h:Heap) (K:Exit→Env→Heap→Option R) (r:R) (κ:A1) (a:Act) (w:World),
 (match ev env f with
  | .func (.func g) first captured=>if enters C.P g=false then none else
   rec R (.fn g (first++[.yld h.length]++captured)) (h++[.loop {fn,size:=N,env,params:=params.toList,assign,body,busy:=false,pending:=none,ended:=false,hl:=h.length}]) fun _ h1=>
    (Rf h1 h.length).bind fun j=>if (((h1.take h.length).all (Gm h.length))=true) then (match j with
     |none=>K .normal env (h1.take h.length)
     |some c=>(Rr c).bind fun e=>K e env (h1.take h.length)) else none
  |_=>none)=some r→St B N ro base κ env h a w→(Code.rangeFunc f params assign body).wpIn (Fr ro) n C.P (Hq B N ro base κ env h w [] K r) a w
theorem Ml {C:Cfg} {hi:Hints} {fn:FuncId} {rec:Rec} {pc:BF} {fuel:Nat} (hrec:Dd C.P rec) (hpc:B7 C.P pc) (hmix:C.P.follows .mixedOrders=true) (hrange:TR C fn N rec) (n:Nat) :
  ∀(c:Code) {env:Env} {h:Heap} {K:Exit→Env→Heap→Option R} {r:R} {κ:A1} {a:Act} {w:World},Co C hi fn N rec pc fuel c env h K=some r→St B N ro base κ env h a w→
   c.wpIn (Fr ro) n C.P (Hq B N ro base κ env h w (writes c) K r) a w:=by
 intro c
 induction c with
 |skip=>intro env h K r κ a w hk hs;exact wpIn_skip ⟨env,h,κ,hk,hs,Ext.refl _ _ _,fun _ _=>rfl⟩
 |label l=>intro env h K r κ a w hk hs;exact wpIn_label ⟨env,h,κ,hk,hs,Ext.refl _ _ _,fun _ _=>rfl⟩
 |ret=>intro env h K r κ a w hk hs;exact wpIn_ret ⟨env,h,κ,hk,hs,Ext.refl _ _ _,fun _ _=>rfl⟩
 |exit id=>intro env h K r κ a w hk hs;exact wpIn_exit ⟨env,h,κ,hk,hs,Ext.refl _ _ _,fun _ _=>rfl⟩
 |goto l=>intro env h K r κ a w hk hs;simp [Co,AF] at hk
 |refuse why=>intro env h K r κ a w hk hs;simp [Co,AF] at hk
 |scope c _=>intro env h K r κ a w hk hs;simp [Co,AF] at hk
 |region id ops draw=>
  intro env h K r κ a w hk hs;simp only [Co,AF] at hk;obtain ⟨hf,xf⟩:=Ee ((hi.pre id).map env) hs.rel.heap;have hs0:St B N ro base κ env (AZ h ((hi.pre id).map env)) a w:=hs.next ⟨hf,hs.rel.size,fun i=>(hs.rel.slot i).ext xf⟩ xf rfl;split at hk
  ·unfold join at hk;refine NM hrec hpc hmix hk hs0.rel _ n ro fun env' h' κ' a' w' k1 k2 k3 k4 k5 k6 => ?_;obtain ⟨s,hs',k7,k8,k9,k10,_⟩:=Sg (W:=dsts ops) k1 hs.rel k2 (xf.trans k3) k4;exact ⟨_,_,_,k7,hs.next k8 k9 k5,k9,k10⟩
  ·refine NM hrec hpc hmix hk hs0.rel _ n ro fun env' h' κ' a' w' k1 k2 k3 k4 k5 k6 => ?_;exact ⟨env',h',κ',k1,hs0.next k2 k3 k5,xf.trans k3,k4⟩
 |seq x y ihx ihy=>
  intro env h K r κ a w hk hs;simp only [Co,AF] at hk;refine wpIn_seq (wpIn_mono (ihx hk hs) ?_);intro e a' w' hp;obtain ⟨env',h',κ',k1,k2,k3,k4⟩:=hp;cases e with
  |normal=>
   show y.wpIn (Fr ro) n C.P _ a' w';refine wpIn_mono (ihy k1 k2) fun e2 a2 w2 hp2 => ?_;exact Hq.of k3 (fun i hni=>k4 i fun hm=>hni (by simp [writes,hm])) (fun i hni hm=>hni (by simp [writes,hm])) hp2
  |exit id=>exact ⟨env',h',κ',k1,k2,k3,fun i hni=>k4 i fun hm=>hni (by simp [writes,hm])⟩
  |goto l=>exact ⟨env',h',κ',k1,k2,k3,fun i hni=>k4 i fun hm=>hni (by simp [writes,hm])⟩
  |ret=>exact ⟨env',h',κ',k1,k2,k3,fun i hni=>k4 i fun hm=>hni (by simp [writes,hm])⟩
  |panic ch=>exact ⟨env',h',κ',k1,k2,k3,fun i hni=>k4 i fun hm=>hni (by simp [writes,hm])⟩
  |outgrown=>exact ⟨env',h',κ',k1,k2,k3,fun i hni=>k4 i fun hm=>hni (by simp [writes,hm])⟩
 |cond c x y ihx ihy=>
  intro env h K r κ a w hk hs;simp only [Co,AF] at hk;obtain ⟨t,ht,hk1⟩:=bind_some hk;have hcv:=EA ht (BB hs.rel c);refine wpIn_cond hcv ?_;split at hk1
  ·cases t with
   |true=>exact wpIn_mono (ihx hk1 hs) fun e a' w' hp=>Hq.of (Ext.refl _ _ _) (fun _ _=>rfl) (fun i hni hm=>hni (by simp [writes,hm])) hp
   |false=>cases hk1
  split at hk1
  ·cases t with
   |true=>cases hk1
   |false=>exact wpIn_mono (ihy hk1 hs) fun e a' w' hp=>Hq.of (Ext.refl _ _ _) (fun _ _=>rfl) (fun i hni hm=>hni (by simp [writes,hm])) hp
  split at hk1
  ·obtain ⟨env1,h1,κ1,k1,k2,k3,k4⟩:=Dz (W:=writes x++writes y) hk1 hs.rel IK;have hs1:St B N ro base κ1 env1 h1 a w:=hs.next k2 k3 rfl;unfold join at k1;have fin:∀(z:Code) (hz:∀i,i∈writes z→i∈writes x++writes y),z.wpIn (Fr ro) n C.P (Hq B N ro base κ1 env1 h1 w (writes z) (fun e env' h'=>match e with
      | .normal=>GN hi.tm env1 h1 (hi.cond (DS c)) env' h' fun s hs=>K .normal (Cr hi.tm (writes x++writes y) (hi.cond (DS c)) env1 s) (Bt h1 0 hs)
      |e=>K e env' h') r) a w→z.wpIn (Fr ro) n C.P (Hq B N ro base κ env h w (writes (.cond c x y)) K r) a w:=by
    intro z hz hw;refine wpIn_mono hw fun e a' w' hp => ?_;obtain ⟨env',h',κ',j1,j2,j3,j4⟩:=hp;have j4':∀i,i∉writes x++writes y→env' i=env1 i:=fun i hni=>j4 i fun hm=>hni (hz i hm);cases e with
    |normal=>
     obtain ⟨s,hs',k7,k8,k9,k10⟩:=Ix (W:=writes x++writes y) j1 hs1 j2 j3 j4';exact ⟨_,_,_,k7,k8,k3.trans k9,fun i hni=>(k10 i hni).trans (k4 i hni)⟩
    |exit id=>exact ⟨env',h',κ',j1,j2,k3.trans j3,fun i hni=>(j4' i hni).trans (k4 i hni)⟩
    |goto l=>exact ⟨env',h',κ',j1,j2,k3.trans j3,fun i hni=>(j4' i hni).trans (k4 i hni)⟩
    |ret=>exact ⟨env',h',κ',j1,j2,k3.trans j3,fun i hni=>(j4' i hni).trans (k4 i hni)⟩
    |panic ch=>exact ⟨env',h',κ',j1,j2,k3.trans j3,fun i hni=>(j4' i hni).trans (k4 i hni)⟩
    |outgrown=>exact ⟨env',h',κ',j1,j2,k3.trans j3,fun i hni=>(j4' i hni).trans (k4 i hni)⟩
   cases t with
   |true=>exact fin x (fun i hm=>by simp [hm]) (ihx k1 hs1)
   |false=>exact fin y (fun i hm=>by simp [hm]) (ihy k1 hs1)
  ·cases t with
   |true=>exact wpIn_mono (ihx hk1 hs) fun e a' w' hp=>Hq.of (Ext.refl _ _ _) (fun _ _=>rfl) (fun i hni hm=>hni (by simp [writes,hm])) hp
   |false=>exact wpIn_mono (ihy hk1 hs) fun e a' w' hp=>Hq.of (Ext.refl _ _ _) (fun _ _=>rfl) (fun i hni hm=>hni (by simp [writes,hm])) hp
 |block id x ih=>
  intro env h K r κ a w hk hs;simp only [Co,AF] at hk;refine wpIn_block ?_;generalize (if KU x=true then 1 else 0)=one at hk;split at hk
  ·refine wpIn_mono (ih hk hs) fun e a' w' hp => ?_;obtain ⟨env',h',κ',j1,j2,j3,j4⟩:=hp;cases e with
   |exit id'=>
    simp only [Exit.inBlock];dsimp only at j1;split at j1
    ·rename_i he;rw [if_pos he];exact ⟨env',h',κ',j1,j2,j3,j4⟩
    ·rename_i he;rw [if_neg he];exact ⟨env',h',κ',j1,j2,j3,j4⟩
   |normal=>exact ⟨env',h',κ',j1,j2,j3,j4⟩
   |goto l=>exact ⟨env',h',κ',j1,j2,j3,j4⟩
   |ret=>exact ⟨env',h',κ',j1,j2,j3,j4⟩
   |panic ch=>exact ⟨env',h',κ',j1,j2,j3,j4⟩
   |outgrown=>exact ⟨env',h',κ',j1,j2,j3,j4⟩
  ·obtain ⟨env1,h1,κ1,k1,k2,k3,k4⟩:=Dz (W:=writes x) hk hs.rel IK;have hs1:St B N ro base κ1 env1 h1 a w:=hs.next k2 k3 rfl;unfold join at k1;refine wpIn_mono (ih k1 hs1) fun e a' w' hp => ?_;obtain ⟨env',h',κ',j1,j2,j3,j4⟩:=hp;have k5:∀i,i∉writes x→env' i=env i:=fun i hni=>(j4 i hni).trans (k4 i hni);cases e with
   |exit id'=>
    simp only [Exit.inBlock];dsimp only at j1;split at j1
    ·rename_i he;rw [if_pos he];obtain ⟨s,hs',k7,k8,k9,k10⟩:=Ix (W:=writes x) j1 hs1 j2 j3 j4;exact ⟨_,_,_,k7,k8,k3.trans k9,fun i hni=>(k10 i hni).trans (k4 i hni)⟩
    ·rename_i he;rw [if_neg he];exact ⟨env',h',κ',j1,j2,k3.trans j3,k5⟩
   |normal=>
    obtain ⟨s,hs',k7,k8,k9,k10⟩:=Ix (W:=writes x) j1 hs1 j2 j3 j4;exact ⟨_,_,_,k7,k8,k3.trans k9,fun i hni=>(k10 i hni).trans (k4 i hni)⟩
   |goto l=>exact ⟨env',h',κ',j1,j2,k3.trans j3,k5⟩
   |ret=>exact ⟨env',h',κ',j1,j2,k3.trans j3,k5⟩
   |panic ch=>exact ⟨env',h',κ',j1,j2,k3.trans j3,k5⟩
   |outgrown=>exact ⟨env',h',κ',j1,j2,k3.trans j3,k5⟩
 |loop x ih=>
  intro env h K r κ a w hk hs;simp only [Co,AF] at hk;obtain ⟨env1,h1,κ1,k1,k2,k3,k4⟩:=Dz (W:=writes x) hk hs.rel IK;have hs1:St B N ro base κ1 env1 h1 a w:=hs.next k2 k3 rfl;obtain ⟨s,hs',k7,k8,k9,k10⟩:=Ix (W:=writes x) k1 hs1 hs1 (Ext.refl _ _ _) (fun _ _=>rfl);refine wpIn_loop_rounds fuel ?_
  revert k7 k8 k9 k10
  generalize κ1.take h1.length=κ2;have key:∀(m:Nat) (s:List AV) (hs':Heap) (κ2:A1) (a2:Act) (w2:World),AI (fun (p:List AV×Heap) again=>Co C hi fn N rec pc fuel x (Cr hi.tm (writes x) (hi.loop (CT x)) env1 p.1) (Bt h1 0 p.2) fun e env' h'=>match e with
    | .normal=>GN hi.tm env1 h1 (hi.loop (CT x)) env' h' fun s hs=>again (s,hs)
    |e=>K e env' h') m (s,hs')=some r→St B N ro base κ2 (Cr hi.tm (writes x) (hi.loop (CT x)) env1 s) (Bt h1 0 hs') a2 w2→Ext κ1 h1 w κ2 (Bt h1 0 hs') w2→
    (∀i,i∉writes x→Cr hi.tm (writes x) (hi.loop (CT x)) env1 s i=env1 i)→Code.roundsIn (Fr ro) n C.P x (Hq B N ro base κ env h w (writes x) K r) m a2 w2:=by
   intro m
   induction m with
   |zero=>intro s hs' κ2 a2 w2 q1 q2 q3 q4;simp [AI] at q1
   |succ m ihm=>
    intro s hs' κ2 a2 w2 q1 q2 q3 q4;simp only [AI] at q1;show x.wpIn (Fr ro) n C.P (Exit.then (Code.roundsIn (Fr ro) n C.P x (Hq B N ro base κ env h w (writes x) K r) m) (Hq B N ro base κ env h w (writes x) K r)) a2 w2;refine wpIn_mono (ih q1 q2) fun e a' w' hp => ?_;obtain ⟨env',h',κ',j1,j2,j3,j4⟩:=hp;have j4':∀i,i∉writes x→env' i=env1 i:=fun i hni=>(j4 i hni).trans (q4 i hni);have k5:∀i,i∉writes x→env' i=env i:=fun i hni=>(j4' i hni).trans (k4 i hni);cases e with
    |normal=>
     obtain ⟨s3,hs3,k7,k8,k9,k10⟩:=Ix (W:=writes x) j1 hs1 j2 (q3.trans j3) j4';exact ihm s3 hs3 _ a' w' k7 k8 k9 k10
    |exit id'=>exact ⟨env',h',κ',j1,j2,k3.trans (q3.trans j3),k5⟩
    |goto l=>exact ⟨env',h',κ',j1,j2,k3.trans (q3.trans j3),k5⟩
    |ret=>exact ⟨env',h',κ',j1,j2,k3.trans (q3.trans j3),k5⟩
    |panic ch=>exact ⟨env',h',κ',j1,j2,k3.trans (q3.trans j3),k5⟩
    |outgrown=>exact ⟨env',h',κ',j1,j2,k3.trans (q3.trans j3),k5⟩
  exact fun k7 k8 k9 k10=>key fuel s hs' κ2 a w k7 k8 k9 k10
 |rangeFunc f params assign body _ _=>
  intro env h K r κ a w hk hs;simp only [Co,AF] at hk;exact hrange B ro base n f params assign body env h K r κ a w hk hs
end Ab
namespace Ab
open Go
variable {R:Type} {B:Nat→Prop} {κ:A1} {h:Heap} {w:World} {N:Nat} {env:Env} {a:Act} {ro:Option Nat} {base:Nat}
theorem T1 (hr:Rel B N κ env h a w) {w1:World} {l d:Nat} {fn f:FuncId} {params:Array Tmp} {assign body:Code} {LR:Cv} (hLR:LR={fn,size:=N,env,params:=params.toList,assign,body,busy:=false,pending:=none,ended:=false,hl:=h.length}) (h1:w1.os=w.os) (h2:w1.tape=w.tape) (h3:w1.output=w.output) (h4:w.heap.size≤w1.heap.size)
  (h5:∀b,b<w.heap.size→w1.heap[b]? = w.heap[b]?) (hl:w.heap.size≤l) (hl1:l<w1.heap.size) (hld:d≠l) (hd:w1.heap[d]? = some (.deferred (some []))) (hnd:¬Ex κ h d)
  (hlo:w1.heap[l]? = some (.loop {state :=.ready,pending:=none,fn:=f,tmps:=a.tmps,params,assign,body,defers:=d})) :
  Ak B (κ++[some (l,d)]) (h++[.loop LR]) w1∧
  Ext κ h w (κ++[some (l,d)]) (h++[.loop LR]) w1:=by
 have x:Ext κ h w (κ++[some (l,d)]) (h++[.loop LR]) w1:=
  Be hr.heap h1 h2 h3 h4 h5 (fun b bs e=>by cases e;exact hl)
 refine ⟨BM hr.heap h5 x (fun b bs e=>by cases e;exact ⟨hl,hl1⟩) ?_,x⟩;subst hLR;refine ⟨f,a.tmps,?_,hr.size,fun i=>(hr.slot i).ext x,fun i=>(hr.slot i).refs,hd,?_⟩
 ·simpa using hlo
 ·rintro ⟨i,bs,o,k1,k2,k3⟩
  rcases B3 κ _ i k1 with ⟨_,k1⟩|⟨rfl,e⟩
  ·rcases B3 h _ i k2 with ⟨_,k2⟩|⟨rfl,e⟩
   ·exact hnd ⟨i,bs,o,k1,k2,k3⟩
   ·have:=AU k1;rw [hr.heap.len] at this;omega
  ·cases e;exact hld rfl
theorem Ls (hh:Ak B κ h w) {i b d:Nat} {l l':Cv} (hi:h[i]? = some (.loop l)) (hk:κ[i]? = some (some (b,d))) (hrec:(AE.loop l').rec? = (AE.loop l).rec?) :
  ∃(f:FuncId) (tmps:Array Value) (r:Loop),w.heap[b]? = some (.loop r)∧r={state:=if l.ended then .exhausted else if l.busy then .busy else if l.pending.isSome then .done else .ready,pending:=l.pending,fn:=f,tmps,params:=l.params.toArray,assign:=l.assign,body:=l.body,defers:=d}∧
   tmps.size=l.size∧(∀j,AR B κ h w (l.env j) (tmps.getD j undef))∧w.heap[d]? = some (.deferred (some []))∧
   ∀(o:Obj),o = .loop {r with state:=if l'.ended then .exhausted else if l'.busy then .busy else if l'.pending.isSome then .done else .ready,pending:=l'.pending}→
    Ak B κ (h.set i (.loop l')) (w.putObj b o)∧Ext κ h w κ (h.set i (.loop l')) (w.putObj b o):=by
 have ho:=hh.obj i _ _ hi hk;obtain ⟨f,tmps,h1,h2,h3,h4,h5,h6⟩:=ho;refine ⟨f,tmps,_,h1,rfl,h2,h3,h5,?_⟩;intro o ho;have hlt:=DA h1;have hset:κ.set i (some (b,d))=κ:=by
  apply ext_getElem?;intro j;by_cases hij:j=i
  ·rw [hij,Aq hk,hk]
  ·rw [Cc hij]
 have hne:∀b',b'<w.heap.size→(∀bs,(some (b,d):Option (Nat×Nat))≠some (b',bs))→(w.putObj b o).heap[b']? = w.heap[b']? :=fun b' _ hn=>World.putObj_heap_other fun e=>hn d (by rw [e]);have x:Ext κ h w κ (h.set i (.loop l')) (w.putObj b o):=by
  have x':Ext κ h w (κ.set i (some (b,d))) (h.set i (.loop l')) (w.putObj b o):=
   Ca (o :=.loop l) (o' :=.loop l') (k:=some (b,d)) hh hi rfl ⟨rfl,le_refl _,fun _=>⟨rfl,rfl⟩,fun e=>(by cases e),fun e=>(by cases e),hrec⟩ hk rfl rfl rfl (by simp) hne (fun b' bs e =>.inl ⟨bs,e⟩)
    (fun _=>⟨rfl,fun b' bs e cells elem fr hc=>by cases e;rw [World.putObj_heap_same hlt] at hc;rw [ho] at hc;cases hc⟩)
  rw [hset] at x';exact x'
 refine ⟨?_,x⟩;have hbd:d≠b:=fun e=>by rw [e] at h5;rw [h1] at h5;cases h5
 have hre:=hrec;simp only [AE.rec?,Option.some.injEq] at hre;have hr1:l'.size=l.size:=by have:=congrArg Cv.size hre;exact this
 have hr2:l'.env=l.env:=by have:=congrArg Cv.env hre;exact this
 have hr3:l'.params=l.params:=by have:=congrArg Cv.params hre;exact this
 have hr4:l'.assign=l.assign:=by have:=congrArg Cv.assign hre;exact this
 have hr5:l'.body=l.body:=by have:=congrArg Cv.body hre;exact this
 have hr6:l'.hl=l.hl:=by have:=congrArg Cv.hl hre;exact this
 have hh':Ak B (κ.set i (some (b,d))) (h.set i (.loop l')) (w.putObj b o):=
  Bz hh hi hk hne (fun b' bs e=>⟨.inl ⟨bs,e⟩,by cases e;simpa using hlt⟩) (by rw [hset];exact x) (by
   rw [hset];refine ⟨f,tmps,?_,h2.trans hr1.symm,fun j=>by rw [hr2];exact (h3 j).ext x,fun j=>by rw [hr2,hr6];exact h4 j,(World.putObj_heap_other hbd).trans h5,fun he => ?_⟩
   ·rw [World.putObj_heap_same hlt,ho,hr3,hr4,hr5]
   ·rcases x.ex d he with y|y
    ·exact h6 y
    ·have:=DA h5;omega)
 rw [hset] at hh';exact hh'
theorem take_set {α:Type} {l:List α} {m i:Nat} {x:α} (hi:m≤i):(l.set i x).take m=l.take m:=by
 apply ext_getElem?;intro j;rcases lt_or_ge j m with hj|hj
 ·rw [getElem?_take_of_lt hj,getElem?_take_of_lt hj,Cc (by omega)]
 ·simp [getElem?_take,not_lt.2 hj]
theorem I3:∀{xs ys:List Nat},xs.map mark=ys.map mark→xs=ys
 |[],[],_=>rfl
 |[],y::ys,h=>by simp at h
 |x::xs,[],h=>by simp at h
 |x::xs,y::ys,h=>by
  simp only [map_cons,List.cons.injEq] at h;have h1:x=y:=by have:=congrArg Deferred.target h.1;simpa [mark] using this
  rw [h1,I3 h.2]
theorem Ld {C:Cfg} {fn:FuncId} {rec:Rec} (hrec:Dd C.P rec):TR C fn N rec:=by
 intro R B ro base n f params assign body env h K r κ a w hk hs;split at hk
 ·rename_i g first captured hfv
  split at hk
  ·cases hk
  ·rename_i hent;have hent':enters C.P g=true:=by simpa using hent
   obtain ⟨LR,hLR⟩:∃LR:Cv,LR={fn,size:=N,env,params:=params.toList,assign,body,busy:=false,pending:=none,ended:=false,hl:=h.length}:=⟨_,rfl⟩
   rw [← hLR] at hk;have hcall:=hrec _ _ _ _ _ hk;dsimp only at hcall;have hval:=BB hs.rel f;rw [hfv] at hval;generalize hav:a.eval f=fv at hval;cases hval with
   |func _ _ _ fs cs q1 q2 q3 q4=>
    have go:∀(fn0:FuncId) (l d:Nat) (mk:List Deferred) (w1:World),(Instr.enterLoop fn0 a.tmps params assign body ro).run C.P w = .ok (l,mk) w1→w1.os=w.os→w1.tape=w.tape→w1.output=w.output→w.heap.size≤w1.heap.size→
      (∀b,b<w.heap.size→w1.heap[b]? = w.heap[b]?)→w.heap.size≤l→l<w1.heap.size→d≠l→w1.heap[d]? = some (.deferred (some []))→¬Ex κ h d→
      w1.heap[l]? = some (.loop {state :=.ready,pending:=none,fn:=fn0,tmps:=a.tmps,params,assign,body,defers:=d})→
      (∀κ4 h4 w4,Ext κ h w κ4 h4 w4→w4.heap[d]? = some (.deferred (some []))→¬Ex κ4 h4 d→Marks base κ4 h4 w4 (mk++a.defers))→
      ∃(l:Nat) (mark:List Deferred) (w₁:World) (d:Deferred) (w₁':World) (f':FuncId) (args:Array Value) (w₂:World),
       (Instr.enterLoop fn0 a.tmps params assign body (Fr ro).round).run C.P w = .ok (l,mark) w₁∧
       (resolve a.eval (rangeCall f l) 0).run C.P w₁ = .ok d w₁'∧
       (∀f',Target.leads C.P w₁' d.target d.args=some f'→(Fr ro).fn f')∧
       (invoke d.target d.args).run C.P w₁' = .ok (.enter f' args) w₂∧
       ((Fr ro).depth.isSome=true→1≤n)∧
       CallsIn (Fr ro) (n-1) C.P f' args w₂ (rangePost (Fr ro) n C.P l (Hq B N ro base κ env h w [] K r) {a with defers:=mark++a.defers}):=by
     intro fn0 l d mk w1 he o1 o2 o3 o4 o5 o6 o7 o8 o9 o10 o11 hmarks;obtain ⟨hh1,x1⟩:=T1 hs.rel hLR o1 o2 o3 o4 o5 o6 o7 o8 o9 o10 o11;have hyl:AR B (κ++[some (l,d)]) (h++[.loop LR]) w1 (.yld h.length) (.func (.yield l) #[] #[]):=
      .yld _ l d (by rw [← hs.rel.heap.len];exact Ai κ _) ⟨_,Ai h _⟩
     have hc:Aa B (κ++[some (l,d)]) (h++[.loop LR]) w1 (first++[.yld h.length]++captured) (fs ++ #[.func (.yield l) #[] #[]]++cs):=
      DT (DT ⟨q1,fun j x hx=>(q3 j x hx).ext x1⟩ ⟨rfl,fun j x hx=>by
       cases j with
       |zero=>cases hx;exact hyl
       |succ j=>simp at hx⟩) ⟨q2,fun j x hx=>(q4 j x hx).ext x1⟩
     have hcl:=hcall B _ w1 _ (n-1) hh1 hc;refine ⟨l,mk,w1,{target :=.fn (.func g) cs,args:=fs ++ #[.func (.yield l) #[] #[]]},w1,g,fs ++ #[.func (.yield l) #[] #[]]++cs,w1,he,?_,fun _ _=>trivial,?_,fun e=>(by simp [Fr] at e),?_⟩
     ·have e1:a.eval (.const (.func (.yield l) #[] #[]))= .func (.yield l) #[] #[]:=rfl;simp [resolve,hav,e1,Deferred.ofValue]
     ·simp [invoke,Fy hent']
     ·refine (CallsIn.fr hcl).mono ?_
      rintro e w3 ⟨v,rv,κ3,rs,h2,rfl,hK,hm,hv,hh3,x3⟩
      obtain ⟨j,hj,hk2⟩:=bind_some hK;unfold Rf at hj;split at hj
      ·rename_i l2 hl2;split at hj
       ·cases hj
       ·rename_i hbe;simp only [or_eq_true,not_or,Bool.not_eq_true] at hbe;cases hj;obtain ⟨k3,k1⟩:=AH hk2;have hk3:κ3[h.length]? = some (some (l,d)):=(x3.kap h.length _ _ (Ai h _) hl2 rfl).trans (by rw [← hs.rel.heap.len];exact Ai κ _);obtain ⟨f3,tmps3,r3,g1,g2,g3,g4,g5,g6⟩:=Ls (l':={l2 with ended:=true}) hh3 hl2 hk3 rfl;have hst:r3.state ≠ .busy:=by rw [g2,hbe.1,hbe.2];simp only [false_eq_true,if_false];split<;>simp
        have hpe:r3.pending=l2.pending:=by rw [g2]
        obtain ⟨hh4,x4⟩:=g6 (.loop {r3 with state :=.exhausted}) (by rw [g2];simp);have x5:=(x1.trans x3).trans x4;have htk:(h2.set h.length (.loop {l2 with ended:=true})).take h.length=h2.take h.length:=take_set (le_refl _);have x6:=x5.Dg (m:=h.length) (le_refl _);rw [htk] at x6;have hh6:=hh4.Dg (m:=h.length) (by rw [htk];exact k3);rw [htk] at hh6;have hlo4:=hh4.obj h.length _ _ (Aq hl2) hk3;obtain ⟨_,_,_,_,_,_,d1,d2⟩:=hlo4;have hst6:St B N ro base (κ3.take h.length) env (h2.take h.length) {a with defers:=mk++a.defers} (w3.putObj l (.loop {r3 with state :=.exhausted})):=by
         refine ⟨⟨hh6,hs.rel.size,fun i => ?_⟩,hmarks _ _ _ x6 d1 fun he=>d2 ?_,hs.round.ext x6,le_trans hs.bsz x6.size⟩
         ·have:=((hs.rel.slot i).ext x5).Dg (m:=h.length) (hs.rel.slot i).refs;rw [htk] at this;exact this
         ·rw [← htk] at he;exact he.take
        refine ⟨l2.pending,w3.putObj l (.loop {r3 with state :=.exhausted}),(run_endLoop g1 hst).trans (congrArg (fun z=>Result.ok z (w3.putObj l (.loop {r3 with state :=.exhausted}))) hpe),?_⟩;cases hpd:l2.pending with
        |none=>
         rw [hpd] at k1;exact ⟨_,_,_,k1,hst6,x6,fun _ _=>rfl⟩
        |some c=>
         rw [hpd] at k1;obtain ⟨e,he2,k1⟩:=bind_some k1;cases c<;>simp only [Rr] at he2<;>first|cases he2|skip
         ·exact wpIn_exit ⟨_,_,_,k1,hst6,x6,fun _ _=>rfl⟩
         ·exact wpIn_ret ⟨_,_,_,k1,hst6,x6,fun _ _=>rfl⟩
      ·cases hj
    refine wpIn_rangeFunc fun fn0 _ => ?_;cases ro with
    |none=>
     refine go fn0 (w.heap.size+1) w.heap.size _ _ (run_enterLoop_outer fn0 a.tmps params assign body) rfl rfl rfl (by simp [World.size_alloc];omega) (fun b hb => ?_) (by omega) (by simp [World.size_alloc]) (by omega) ?_ ?_ ?_ ?_
     ·rw [Al _ _ (by simp;omega),Al _ _ hb]
     ·rw [Al _ _ (by simp)];exact World.alloc_heap_new _ _
     ·rintro ⟨i,bs,o,y1,y2,y3⟩
      have:=hs.rel.heap.lt i _ _ y1;omega
     ·have:=World.alloc_heap_new (w.alloc (.deferred (some []))) (.loop {state :=.ready,pending:=none,fn:=fn0,tmps:=a.tmps,params:=params,assign:=assign,body:=body,defers:=w.heap.size});rw [World.size_alloc] at this;exact this
     ·intro κ4 h4 w4 x y1 y2;obtain ⟨rs4,z1,z2,z3⟩:=hs.marks.ext x;obtain ⟨rs5,z4,z5,z6⟩:=hs.marks;refine ⟨w.heap.size::rs5,by rw [z4];rfl,?_,fun q hq => ?_⟩
      ·refine nodup_cons.2 ⟨fun hm => ?_,z5⟩;have:=DA (z6 _ hm).2.1;omega
      ·rcases mem_cons.1 hq with rfl|hq
       ·exact ⟨hs.bsz,y1,y2⟩
       ·have e:rs5=rs4:=by have e1:rs5.map mark=rs4.map mark:=z4.symm.trans z1;exact I3 e1
        rw [e] at hq;exact z3 q hq
    |some b0=>
     obtain ⟨i,d,l0,r1,r2⟩:=hs.round b0 rfl;obtain ⟨f0,t0,e1,e2,e3,e4,e5,e6⟩:=hs.rel.heap.obj i _ _ r2 r1;refine go fn0 w.heap.size d _ _ (run_enterLoop_inner e1 fn0 a.tmps params assign body) rfl rfl rfl (by simp [World.size_alloc]) (fun b hb => ?_) (le_refl _) (by simp [World.size_alloc]) ?_ ?_ e6 ?_ ?_
     ·exact Al _ _ hb
     ·have:=DA e5;omega
     ·rw [Al _ _ (DA e5)];exact e5
     ·exact World.alloc_heap_new _ _
     ·intro κ4 h4 w4 x _ _;exact hs.marks.ext x
 ·cases hk
end Ab
namespace Ab
open Go
variable {R:Type} {P:Program} {B:Nat→Prop} {κ:A1} {h:Heap} {w:World} {N:Nat} {env:Env} {a:Act} {ro:Option Nat} {base:Nat}
theorem NO:∀(ps:List Tmp) (args:List AV) (us:List Value) (env:Env) (tmps:Array Value),args.length=ps.length→us.length=ps.length→(∀t∈ps,t<tmps.size)→(∀j x,args[j]? = some x→AR B κ h w x (us.getD j undef))→
  (∀i,AR B κ h w (env i) (tmps.getD i undef))→((ps.zip us).foldl (fun (tmps:Array Value) (p:Tmp×Value)=>tmps.setIfInBounds p.1 p.2) tmps).size=tmps.size∧∀i,AR B κ h w (Lg env ps args i) (((ps.zip us).foldl (fun (tmps:Array Value) (p:Tmp×Value)=>tmps.setIfInBounds p.1 p.2) tmps).getD i undef)
 |[],[],[],env,tmps,_,_,_,_,hv=>⟨rfl,hv⟩
 |[],x::args,us,env,tmps,h1,_,_,_,_=>by simp at h1
 |[],[],u::us,env,tmps,_,h2,_,_,_=>by simp at h2
 |p::ps,[],us,env,tmps,h1,_,_,_,_=>by simp at h1
 |p::ps,x::args,[],env,tmps,_,h2,_,_,_=>by simp at h2
 |p::ps,x::args,u::us,env,tmps,h1,h2,hlt,ha,hv=>by
  have hp:p<tmps.size:=hlt p (by simp);obtain ⟨e1,e2⟩:=NO ps args us (env.put (some p) x) (tmps.setIfInBounds p u) (by simpa using h1) (by simpa using h2) (fun t ht=>by simpa using hlt t (by simp [ht]))
   (fun j y hy=>by simpa using ha (j+1) y (by simpa using hy)) (fun i=>by
    simp only [Env.put];by_cases hi:i=p
    ·subst hi;rw [if_pos rfl];have:(tmps.setIfInBounds i u).getD i undef=u:=by simp [Array.getD,hp]
     rw [this];simpa using ha 0 x rfl
    ·rw [if_neg hi];have:(tmps.setIfInBounds p u).getD i undef=tmps.getD i undef:=by simp only [Array.getD_eq_getD_getElem?];rw [Array.getElem?_setIfInBounds_ne (Ne.symm hi)]
     rw [this];exact hv i)
  refine ⟨by simpa using e1,fun i => ?_⟩;simpa [Lg] using e2 i
theorem LP {i:Nat} {l:Cv} (hi:h[i]? = some (.loop l)) (bz:Bool) (pd:Option Code):Fw h i bz pd=h.set i (.loop {l with busy:=bz,pending:=pd}):=by unfold Fw;rw [hi]
theorem NQ {i:Nat} (ho:OU h i=true):∃l,h[i]? = some (.loop l)∧l.ended=false:=by
 unfold OU at ho;split at ho
 ·rename_i l hl;exact ⟨l,hl,by simpa using ho⟩
 ·cases ho
theorem RL {i:Nat} (ho:OM h i=true):∃l,h[i]? = some (.loop l)∧l.ended=false∧l.busy=false∧l.pending=none:=by
 unfold OM at ho;split at ho
 ·rename_i l hl;simp only [and_eq_true,not_eq_true',Option.isNone_iff_eq_none] at ho;exact ⟨l,hl,ho.1.1,ho.1.2,ho.2⟩
 ·cases ho
theorem Jz {i b d:Nat} (hh:Ak B κ h w) (ho:OU h i=true) (hk:κ[i]? = some (some (b,d))) (jump:Option Code) :
  ∃w',(Instr.endRound b jump).run P w = .ok (.bool jump.isNone) w'∧Ak B κ (Fw h i false jump) w'∧Ext κ h w κ (Fw h i false jump) w':=by
 obtain ⟨l,hl,he⟩:=NQ ho;obtain ⟨f3,tmps3,r3,g1,g2,g3,g4,g5,g6⟩:=Ls (l':={l with busy:=false,pending:=jump}) hh hl hk rfl;obtain ⟨hh4,x4⟩:=g6 (.loop {r3 with state:=if jump.isNone then .ready else .done,pending:=jump}) (by cases jump<;>simp [he])
 rw [LP hl];exact ⟨_,run_endRound jump g1,hh4,x4⟩
theorem VA {C:Cfg} {rec:Rec} {pc:BF} (hrec:Dd C.P rec) (hpc:B7 C.P pc) (hmix:C.P.follows .mixedOrders=true) {m i:Nat} {args:List AV} {K:List AV→Heap→Option R} {res:R} (hk:RE C rec pc m i args h K=some res):TP C.P i args h K res:=by
 intro B κ w vs b d n hh hc hki;unfold RE at hk
 try simp only [AF] at hk
 split at hk
 ·rename_i l hi;obtain ⟨⟨hb,he,hp,hal,hpl⟩,hk1⟩:=AH hk;obtain ⟨f,tmps,h1,h2,h3,h4,h5,h6⟩:=hh.obj i _ _ hi hki;have hpn:l.pending=none:=by simpa using hp
  have h1':w.heap[b]? = some (.loop {state :=.ready,pending:=none,fn:=f,tmps,params:=l.params.toArray,assign:=l.assign,body:=l.body,defers:=d}):=by rw [h1,he,hb,hpn];rfl
  have hsz:vs.size=l.params.length:=hc.1.trans hal;have hfold:(l.params.toArray.zip vs).foldl (fun tmps (t,a)=>tmps.setIfInBounds t a) tmps=(l.params.zip vs.toList).foldl (fun (tmps:Array Value) (p:Tmp×Value)=>tmps.setIfInBounds p.1 p.2) tmps:=by obtain ⟨us⟩:=vs;have e:l.params.toArray.zip ({toList:=us}:Array Value)=(l.params.zip us).toArray:=List.zip_toArray ..;rw [e];simp
  obtain ⟨p1,p2⟩:=NO l.params args vs.toList l.env tmps hal (by simpa using hsz) (fun t ht=>by
    rw [h2];have:=all_eq_true.1 hpl t ht;simpa using this) (fun j x hx=>by
    have:=hc.2 j x hx;rw [← toArray_toList (xs:=vs),BT] at this;exact this) h3
  refine ⟨f,_,l.assign,l.body,run_yield h1' (by simpa using hsz),?_⟩;rw [hfold];refine roundIn_of_wpIn trivial ?_;have hs:St B l.size (some b) w.heap.size κ (Lg l.env l.params args) h {tmps:=(l.params.zip vs.toList).foldl (fun (tmps:Array Value) (p:Tmp×Value)=>tmps.setIfInBounds p.1 p.2) tmps,defers:=[]} w:=
   ⟨⟨hh,p1.trans h2,p2⟩,⟨[],rfl,nodup_nil,fun r hr=>by simp at hr⟩,fun b' hb'=>by cases hb';exact ⟨i,d,l,hki,hi⟩,le_refl _⟩
  refine wpIn_mono (Ml (C:=C.at l.fn) hrec hpc hmix (Ld hrec) n l.assign hk1 hs) fun e a1 w1 hp1 => ?_;obtain ⟨env1,ha,κ1,j1,j2,j3,j4⟩:=hp1;cases e with
  |normal=>
   dsimp only at j1;obtain ⟨hrd,j1⟩:=AH j1;obtain ⟨l1,hl1,r1,r2,r3⟩:=RL hrd;have hk1':κ1[i]? = some (some (b,d)):=(j3.kap i _ _ hi hl1 rfl).trans hki;obtain ⟨f3,tmps3,rr,g1,g2,g3,g4,g5,g6⟩:=Ls (l':={l1 with busy:=true,pending:=none}) j2.rel.heap hl1 hk1' rfl;obtain ⟨hh4,x4⟩:=g6 (.loop {rr with state :=.busy}) (by rw [g2];simp [r1,r3]);rw [LP hl1] at j1;refine ⟨_,run_beginRound g1 (by rw [g2];simp [r1,r2,r3]),?_⟩;have hs4:St B l.size (some b) w.heap.size κ1 env1 (ha.set i (.loop {l1 with busy:=true,pending:=none})) a1 (w1.putObj b (.loop {rr with state :=.busy})):=
    j2.next ⟨hh4,j2.rel.size,fun j=>(j2.rel.slot j).ext x4⟩ x4 rfl
   refine wpIn_mono (Ml (C:=C.at l.fn) hrec hpc hmix (Ld hrec) n l.body j1 hs4) fun e a2 w2 hp2 => ?_;obtain ⟨env2,hb2,κ2,q1,q2,q3,q4⟩:=hp2;obtain ⟨hop,q1⟩:=AH q1;obtain ⟨l5,hl5,_⟩:=NQ hop;have hk2':κ2[i]? = some (some (b,d)):=(q3.kap i _ _ (Aq hl1) hl5 rfl).trans hk1';cases e with
   |normal=>
    obtain ⟨w6,e1,e2,e3⟩:=Jz (P:=C.P) q2.rel.heap hop hk2' none;exact ⟨_,w6,e1,_,κ2,_,_,rfl,q1,.t _ _ (.bool _),e2,((j3.trans x4).trans q3).trans e3⟩
   |ret=>
    obtain ⟨w6,e1,e2,e3⟩:=Jz (P:=C.P) q2.rel.heap hop hk2' (some .ret);exact ⟨_,w6,e1,_,κ2,_,_,rfl,q1,.t _ _ (.bool _),e2,((j3.trans x4).trans q3).trans e3⟩
   |exit id=>
    obtain ⟨w6,e1,e2,e3⟩:=Jz (P:=C.P) q2.rel.heap hop hk2' (some (.exit id));exact ⟨_,w6,e1,_,κ2,_,_,rfl,q1,.t _ _ (.bool _),e2,((j3.trans x4).trans q3).trans e3⟩
   |goto t=>cases q1
   |panic ch=>cases q1
   |outgrown=>cases q1
  |exit id=>cases j1
  |goto t=>cases j1
  |ret=>cases j1
  |panic ch=>cases j1
  |outgrown=>cases j1
 ·cases hk
structure KH (w w':World):Prop where
 size:w'.heap.size=w.heap.size
 blk:∀(b:Nat) cells elem fr,w'.heap[b]? = some (.cells cells elem fr)↔w.heap[b]? = some (.cells cells elem fr)
 mp:∀(b:Nat) es clock,w.heap[b]? = some (.map es clock)→w'.heap[b]? = some (.map es clock)
theorem KH.cell {w':World} (c:KH w w') (x:Addr):w'.cell? x=w.cell? x:=by
 unfold World.cell?;cases h1:w'.heap[x.block]? with
 |none=>
  cases h2:w.heap[x.block]? with
  |none=>rfl
  |some o=>
   cases o with
   |cells cs e f=>rw [(c.blk _ cs e f).2 h2] at h1;cases h1
   |_=>rfl
 |some o=>
  cases o with
  |cells cs e f=>rw [(c.blk _ cs e f).1 h1]
  |_=>
   cases h2:w.heap[x.block]? with
   |none=>rfl
   |some o'=>
    cases o' with
    |cells cs e f=>rw [(c.blk _ cs e f).2 h2] at h1;cases h1
    |_=>rfl
theorem BV.IQ {w':World} (c:KH w w') {A:Nat→Prop} {x:Tree} {v:Value} (hx:BV w A x v):BV w' A x v:=by
 induction hx with
 |int k n=>exact .int k n
 |bool b=>exact .bool b
 |str s=>exact .str s
 |const v h=>exact .const v h
 |mp k m b es clock h1 h2 h3 h4=>exact .mp k m b es clock (by rw [c.size];exact h1) h2 (c.mp _ _ _ h3) h4
 |nil size cap a=>exact .nil size cap a
 |sl size es b off cap u h1 h2 h3 h4 h5 _ ih=>exact .sl size es b off cap u h1 (by rw [c.size];exact h2) h3 h4 (fun j e cc x he hx=>(c.cell _).trans (h5 j e cc x he hx)) ih
theorem AR.IQ {w':World} (c:KH w w') {x:AV} {v:Value} (hx:AR B κ h w x v):AR B κ h w' x v:=by
 induction hx with
 |undef v=>exact .undef v
 |t y v ht=>exact .t y v (ht.IQ c)
 |nilsl a=>exact .nilsl a
 |ptr i off b base hk hb=>exact .ptr _ _ _ _ hk hb
 |rptr i ver k off v h1 hex hv=>exact .rptr _ _ _ _ _ h1 hex hv
 |eptr size cells off b base u h1 h2 h3 h4 h5=>exact .eptr _ _ _ _ _ u h1 (by rw [c.size];exact h2) h3 (fun j y hy=>(c.cell _).trans (h4 j y hy)) fun j y hy=>(h5 j y hy).IQ c
 |sref i ver off len v h1 hex hs=>
  refine .sref _ _ _ _ _ h1 hex fun k o hk ho he => ?_;obtain ⟨e1,e2,e3⟩:=hs k o hk ho he;refine ⟨e1,e2,?_⟩;rcases e3 with e3|⟨b,bs,rfl,cap,f1,f2,f3⟩
  ·exact .inl e3
  ·exact .inr ⟨b,bs,rfl,cap,f1,f2,fun cells elem fr hc=>f3 cells elem fr ((c.blk _ _ _ _).1 hc)⟩
 |bsl i off len size cap b hk hb hl=>exact .bsl _ _ _ _ _ _ hk hb hl
 |yld i b base hk hb=>exact .yld _ _ _ hk hb
 |mref i b hk hb=>exact .mref _ _ hk hb
 |func fn first captured fs cs h1 h2 _ _ i1 i2=>exact .func _ _ _ _ _ h1 h2 i1 i2
 |agg xs vs h1 _ ih=>exact .agg _ _ h1 ih
 |tuple xs vs h1 _ ih=>exact .tuple _ _ h1 ih
def SL (κ:A1) (h:Heap) (r:Nat):Prop:=∀(i b d:Nat) (l:Cv),κ[i]? = some (some (b,d))→h[i]? = some (.loop l)→d≠r
theorem GZ {r:Nat} {x:Option (List Deferred)} {y:Option (List Deferred)} (hr:w.heap[r]? = some (.deferred x)):KH w (w.putObj r (.deferred y)):=by
 refine ⟨by simp,fun b cells elem fr => ?_,fun b es clock h => ?_⟩;rotate_left
 ·by_cases hb:b=r
  ·subst hb;rw [hr] at h;cases h
  ·rw [World.putObj_heap_other hb];exact h
 by_cases hb:b=r
 ·subst hb;rw [World.putObj_heap_same (DA hr),hr];simp
 ·rw [World.putObj_heap_other hb]
theorem Tj {r:Nat} {x y:Option (List Deferred)} (hh:Ak B κ h w) (hr:w.heap[r]? = some (.deferred x)) (hn:SL κ h r):Ak B κ h (w.putObj r (.deferred y)):=by
 have c:KH w (w.putObj r (.deferred y)):=GZ hr;refine ⟨hh.len,hh.inj,hh.notB,fun i b bs hi=>by rw [c.size];exact hh.lt i b bs hi,fun b hb=>by rw [c.size];exact hh.ltB b hb,fun i o k ho hk => ?_⟩;have hob:=hh.obj i o k ho hk;cases k with
 |none=>cases o<;>exact hob
 |some p=>
  obtain ⟨b,bs⟩:=p;cases o with
  |box cs=>
   obtain ⟨h0,cells,elem,hc,hs,hv⟩:=hob;exact ⟨h0,cells,elem,(c.blk _ _ _ _).2 hc,hs,fun j y hy=>(hv j y hy).IQ c⟩
  |row f v s es=>
   obtain ⟨hz,cells,elem,fr,hc,hth,hs,hl,hv⟩:=hob;exact ⟨hz,cells,elem,fr,(c.blk _ _ _ _).2 hc,hth,hs,hl,fun j e cc y he hy=>(hv j e cc y he hy).IQ c⟩
  |mapo k ke es=>
   obtain ⟨h0,en,clock,hc,hs⟩:=hob;exact ⟨h0,en,clock,c.mp _ _ _ hc,hs⟩
  |loop l=>
   obtain ⟨f,tmps,hc,hs,hv,hrf,hd,hnx⟩:=hob;have hbr:b≠r:=fun e=>by rw [e,hr] at hc;cases hc
   have hdr:bs≠r:=hn i b bs l hk ho;exact ⟨f,tmps,(World.putObj_heap_other hbr).trans hc,hs,fun j=>(hv j).IQ c,hrf,(World.putObj_heap_other hdr).trans hd,hnx⟩
theorem U1 {κ':A1} {h':Heap} {w':World} {r:Nat} {x y:Option (List Deferred)} (e:Ext κ h w κ' h' w') (hr:w'.heap[r]? = some (.deferred x)) (hb:w.heap.size≤r):Ext κ h w κ' h' (w'.putObj r (.deferred y)) where
 os:=e.os
 tape:=e.tape
 output:=e.output
 size:=by simpa using e.size
 keep:=fun b hlt hn=>(World.putObj_heap_other (by omega)).trans (e.keep b hlt hn)
 ex:=e.ex
 obj:=e.obj
 kap:=e.kap
 cells:=fun i o o' ho ho' hv b bs hk cells elem fr hc=>e.cells i o o' ho ho' hv b bs hk cells elem fr (((GZ (y:=y) hr).blk _ _ _ _).1 hc)
end Ab
namespace Ab
open Go
variable {R:Type} {P:Program} {B:Nat→Prop} {κ:A1} {h:Heap} {w:World} {N:Nat} {env:Env} {a:Act} {ro:Option Nat} {base:Nat}
def VC (tmps:Array Value):ResultVar→Sem Value
 | .tmp t=>pure (tmps.getD t undef)
 | .cell a t=>do loadVar t (← asAddr (tmps.getD a undef))
theorem RI (fn:Func) (tmps:Array Value):results fn tmps=(do let vs ← fn.results.mapM (VC tmps);pure (Jl vs)):=rfl
theorem Rb {t:TypeId} {v val:Value} (hl:(Instr.loadAt t v).run P w = .ok val w):(do loadVar t (← asAddr v):Sem Value).run P w = .ok val w:=by
 unfold Instr.loadAt at hl;cases v with
 |pointer p=>
  cases p with
  |some x=>exact hl
  |none=>simp [Instr.sureAddr] at hl
 |_=>simp [Instr.sureAddr] at hl
theorem RJ (hr:Rel B N κ env h a w):∀{rv:List ResultVar} {K:List AV→Option R} {r:R},RK P env h rv K=some r→
  ∃(avs:List AV) (us:List Value),K avs=some r∧(rv.mapM (VC a.tmps)).run P w = .ok us w∧Aa B κ h w avs us.toArray
 |[],K,r,hk=>⟨[],[],hk,by simp,rfl,fun j x hx=>by simp at hx⟩
 | .tmp t::rv,K,r,hk=>by simp only [RK] at hk;obtain ⟨avs,us,h1,h2,h3⟩:=RJ hr hk;refine ⟨_,_::us,h1,?_,CM (hr.slot t) h3⟩;simp only [mapM_cons,VC,Sem.run_bind,Sem.run_pure,Result.andThen_ok,h2]
 | .cell x t::rv,K,r,hk=>by simp only [RK] at hk;obtain ⟨v,val,h4,h5,h6⟩:=Qq (P:=P) hk hr.heap (hr.slot x);obtain ⟨avs,us,h1,h2,h3⟩:=RJ hr h4;refine ⟨_,val::us,h1,?_,CM h6 h3⟩;have h7:=Rb h5;rw [mapM_cons,Sem.run_bind];have h8:(VC a.tmps (.cell x t)).run P w = .ok val w:=h7;rw [h8,Result.andThen_ok,Sem.run_bind,h2,Result.andThen_ok,Sem.run_pure]
theorem Po {fn:Func} {tmps:Array Value} {us:List Value} (hm:(fn.results.toList.mapM (VC tmps)).run P w = .ok us w):(results fn tmps).run P w = .ok (Jl us.toArray) w:=by rw [RI,Array.mapM_eq_mapM_toList];simp only [Sem.run_bind,map_eq_pure_bind,hm,Result.andThen_ok,Sem.run_pure]
theorem KP {fn:Func} {n:Nat} {κ0:A1} {h0:Heap} {w0:World} {Q:Ending→World→Prop} (hb:w0.heap.size≤base)
  (fin:∀w,Rel B N κ env h a w→Ext κ0 h0 w0 κ h w→∃v,(results fn a.tmps).run P w = .ok v w∧Q (.returned v) w) :
  ∀(rs:List Nat) (w:World),rs.Nodup→(∀r∈rs,base≤r∧w.heap[r]? = some (.deferred (some []))∧SL κ h r)→Rel B N κ env h a w→Ext κ0 h0 w0 κ h w→LeavesInM (Fr none) n P fn a.tmps Q (rs.map mark) .returning w
 |[],w,_,_,hr,hx=>fin w hr hx
 |r::rs,w,hnd,hall,hr,hx=>by obtain ⟨h1,h2,h3⟩:=hall r (by simp);refine ⟨by simp,.inl ⟨r,w.putObj r (.deferred none),rfl,run_takeDeferred h2,?_⟩⟩;refine KP hb fin rs _ (nodup_cons.1 hnd).2 (fun q hq => ?_) ⟨Tj hr.heap h2 h3,hr.size,fun i=>(hr.slot i).IQ (GZ h2)⟩ (U1 hx h2 (le_trans hb h1));obtain ⟨h4,h5,h6⟩:=hall q (by simp [hq]);have hne:q≠r:=fun e=>(nodup_cons.1 hnd).1 (e ▸ hq);exact ⟨h4,(World.putObj_heap_other hne).trans h5,h6⟩
theorem Tz {κ':A1} {h':Heap} {w':World} (hh:Ak B κ h w) (x:Ext κ h w κ' h' w') (hd:(h'.drop h.length).all OX=true) {r:Nat} (hr:w.heap.size≤r):SL κ' h' r:=by
 intro i b d l hk hi he;rcases lt_or_ge i h.length with hl|hl
 ·have hg:h[i]? = some h[i]:=getElem?_eq_getElem hl;obtain ⟨o',h1,h2⟩:=x.obj i _ hg;rw [hi] at h1;cases h1;have hkd:=h2.1;cases ho:h[i] with
  |box cs=>rw [ho] at hkd;cases hkd
  |row a b c d=>rw [ho] at hkd;cases hkd
  |mapo a b c=>rw [ho] at hkd;cases hkd
  |loop l0=>
   rw [ho] at hg;have hk0:=(x.kap i _ _ hg hi rfl).symm.trans hk;obtain ⟨_,_,_,_,_,_,h5,_⟩:=hh.obj i _ _ hg hk0;have:=DA h5;omega
 ·have:(h'.drop h.length)[i-h.length]? = some (.loop l):=by rw [getElem?_drop,show h.length+(i-h.length)=i from by omega];exact hi
  have:=EK hd this;cases this
theorem WL {vs:Array Value} {avs:List AV} (hh:Ak B κ h w) (hc:Aa B κ h w avs vs) {M:Nat} (hM:avs.length≤M):Rel B M κ (fun i=>avs.getD i .undef) h {tmps:=vs++Array.replicate (M-vs.size) undef,defers:=[]} w:=by
 have hsz:=hc.1;refine ⟨hh,by simp;omega,fun i => ?_⟩;rcases lt_or_ge i avs.length with hi|hi
 ·have hg:avs[i]? = some avs[i]:=getElem?_eq_getElem hi;have:=hc.2 i _ hg;have e:avs.getD i .undef=avs[i]:=by simp [List.getD,hg]
  rw [e];have e2:(vs++Array.replicate (M-vs.size) undef).getD i undef=vs.getD i undef:=by simp only [Array.getD_eq_getD_getElem?];rw [Array.getElem?_append_left (by omega)]
  rw [e2];exact this
 ·have e:avs.getD i .undef = .undef:=by simp [List.getD,getElem?_eq_none hi]
  rw [e];exact .undef _
theorem Kp {C:Cfg} {rec:Rec} {pc:BF} (hrec:Dd C.P rec) (hpc:B7 C.P pc) (hmix:C.P.follows .mixedOrders=true) {m:Nat} {g:FuncId} {avs:List AV} {K:List AV→Heap→Option R} {r:R} (hk:MZ C rec pc m g avs h K=some r)
  {vs:Array Value} (n:Nat) (hh:Ak B κ h w) (hc:Aa B κ h w avs vs) (Q:Ending→World→Prop)
  (fin:∀(ls:List AV) (us:List Value) (h':Heap) (κ':A1) (w':World) (res:Value),K ls h'=some r→Aa B κ' h' w' ls us.toArray→Ak B κ' h' w'→Ext κ h w κ' h' w'→
   (∀(B2:Nat→Prop) (κ2:A1) (h2:Heap) (w2:World) (leaf:Nat→AV),(∀j u,us[j]? = some u→AR B2 κ2 h2 w2 (leaf j) u)→∃rv,CQ C.P g leaf=some rv∧AR B2 κ2 h2 w2 rv res)→Q (.returned res) w') :
  CallsIn (Fr none) n C.P g vs w Q:=by
 unfold MZ at hk
 try simp only [AF] at hk
 split at hk
 ·rename_i fn hf;split at hk
  ·rename_i c hb;obtain ⟨hN,hk1⟩:=AH hk;refine callsIn_of_wp_marks hf hb trivial ?_;have hs:St B fn.ntmps none w.heap.size κ (fun i=>avs.getD i .undef) h {tmps:=vs++Array.replicate (fn.ntmps-vs.size) undef,defers:=[]} w:=
    ⟨WL hh hc hN,⟨[],rfl,nodup_nil,fun r hr=>by simp at hr⟩,fun b' hb'=>(by cases hb'),le_refl _⟩
   refine wpIn_mono (Ml (C:=C.at g) hrec hpc hmix (Ld hrec) n c hk1 hs) fun e a1 w1 hp1 => ?_;obtain ⟨env1,h1,κ1,j1,j2,j3,j4⟩:=hp1;have go:(if ((h1.drop h.length).all OX)=true then RK C.P env1 h1 fn.results.toList fun vs=>flatK C.P fn.resultTypes.toList vs fun rs=>K rs h1 else none)=some r→LeavesInM (Fr none) n C.P fn a1.tmps Q a1.defers .returning w1:=by
    intro j1;obtain ⟨hnl,j1⟩:=AH j1;obtain ⟨rs,m1,m2,m3⟩:=j2.marks;rw [m1];refine KP (base:=w.heap.size) (le_refl _) ?_ rs w1 m2 (fun q hq=>⟨(m3 q hq).1,(m3 q hq).2.1,Tz hh j3 hnl (m3 q hq).1⟩) j2.rel j3;intro w2 hr2 x2;obtain ⟨avs2,us2,k1,k2,k3⟩:=RJ (P:=C.P) hr2 j1;obtain ⟨ls,us,f1,f2,f3⟩:=JB k1 k3;refine ⟨_,Po k2,fin ls us h1 κ1 w2 _ f1 f2 hr2.heap x2 fun B2 κ2 h2 w2 leaf hl => ?_⟩;obtain ⟨avs',e1,e2⟩:=f3 B2 κ2 h2 w2 leaf 0 fun j u hu=>by rw [zero_add];exact hl j u hu
    exact VY hf e1 e2
   cases e with
   |normal=>exact go j1
   |ret=>exact go j1
   |exit id=>cases j1
   |goto t=>cases j1
   |panic ch=>cases j1
   |outgrown=>cases j1
  ·cases hk
 ·cases hk
theorem call_ok {C:Cfg} {rec:Rec} {pc:BF} (hrec:Dd C.P rec) (hpc:B7 C.P pc) (hmix:C.P.follows .mixedOrders=true) {m:Nat} {g:FuncId} {avs:List AV} {K:List AV→Heap→Option R} {res:R} (hk:MZ C rec pc m g avs h K=some res):Wi C.P g avs h K res:=by
 intro B κ w vs n hh hc;refine Kp hrec hpc hmix hk n hh hc _ fun ls us h1 κ' w' rv0 k1 k2 k3 k4 k5 => ?_;obtain ⟨rv,e1,e2⟩:=k5 B κ' h1 w' (fun i=>ls.getD i .undef) fun j u hu=>by
  have hj:j<ls.length:=by have:=AU hu;have h2:=k2.1;simp at h2;omega
  have hg:ls[j]? = some ls[j]:=getElem?_eq_getElem hj;have:=k2.2 j _ hg;rw [BT] at this;simp only [List.getD,hg,hu,Option.getD_some] at this ⊢;exact this
 exact ⟨rv0,rv,κ',ls,h1,rfl,k1,e1,e2,k3,k4⟩
theorem Sd {C:Cfg} {rec:Rec} {pc:BF} (hrec:Dd C.P rec) (hpc:B7 C.P pc) (hmix:C.P.follows .mixedOrders=true) {m:Nat} {g:FuncId} {xs ys:List Tree} (hk:Se C rec pc m g xs=some ys):HC C.P g xs ys:=by
 unfold Se at hk
 try simp only [AF] at hk
 split at hk
 ·rename_i avs hm;intro B w avs' vs n hm' hB hc;rw [hm] at hm';cases hm';rw [show dqLT=dqAny (List Tree) from Vr _ _] at hk;refine Kp hrec hpc hmix hk n (IF hB) hc _ fun ls us h1 κ' w' res k1 k2 k3 k4 k5 => ?_;have hlen:us.length=ls.length:=by simpa using k2.1
  obtain ⟨zs,c1,c2,c3,c4⟩:=Cm (P:=C.P) k1 k3 (vs:=us) hlen (fun j x v hx hv=>by have:=k2.2 j x hx;rw [BT] at this;simp only [List.getD,hv,Option.getD_some] at this;exact this)
  obtain ⟨hsc,c1⟩:=AH c1;cases c1;obtain ⟨rv,e1,e2⟩:=k5 B [] [] w' (fun i =>.t (ys.getD i default)) fun j u hu=>by
   have hj:j<ys.length:=by have:=AU hu;omega
   have hg:ys[j]? = some ys[j]:=getElem?_eq_getElem hj;have:=c4 j _ u hg hu;have e:ys.getD j default=ys[j]:=by simp [List.getD,hg]
   rw [e];exact .t _ _ (this.less fun b hb=>by
    rcases hb with hb|hb
    ·exact .inl hb
    ·exact (DN hb).elim)
  exact ⟨res,rv,rfl,e1,e2,⟨k4.os,k4.tape,k4.output,k4.size,fun b hb=>k4.keep b hb fun he=>DN he⟩,hsc⟩
 ·cases hk
theorem Tq {P:Program} {g:FuncId} (hp:Li P g=true) (leaf:Nat→AV):CQ P g leaf=some (leaf 0):=by
 unfold Li at hp;unfold CQ;split at hp
 ·rename_i fn hf
  try rw [hf]
  split at hp
  ·rename_i t ht;have ha:Az P t=some false:=by simpa using hp
   try dsimp only
   rw [ht];cases hs:BZ P t<;>simp [CB,Gq,ha,hs]
  ·cases hp
 ·cases hp
theorem VF {C:Cfg} {rec:Rec} {pc:BF} (hrec:Dd C.P rec) (hpc:B7 C.P pc) (hmix:C.P.follows .mixedOrders=true) {m:Nat} {g:FuncId} {xs ys:List Tree} (hk:Iy C rec pc m g xs=some ys):Wb C.P g xs ys:=by
 unfold Iy at hk
 try simp only [AF] at hk
 split at hk
 ·rename_i avs t hm ht;obtain ⟨z,hz,hk⟩:=bind_some hk;obtain ⟨hplain,hk⟩:=AH hk;intro B w avs' vs n hm' hB hc;rw [hm] at hm';cases hm';rw [show dqLT=dqAny (List Tree) from Vr _ _] at hk;refine Kp hrec hpc hmix hk n (IF hB) hc _ fun ls us h1 κ' w' res k1 k2 k3 k4 k5 => ?_;have hgrow:Grow w w':=⟨k4.os,k4.tape,k4.output,k4.size,fun b hb=>k4.keep b hb fun he=>DN he⟩
  have hlen:us.length=ls.length:=by simpa using k2.1
  obtain ⟨rv,e1,e2⟩:=k5 B κ' h1 w' (fun i=>ls.getD i .undef) fun j u hu=>by
   have hj:j<ls.length:=by have:=AU hu;omega
   have hg:ls[j]? = some ls[j]:=getElem?_eq_getElem hj;have:=k2.2 j _ hg;rw [BT] at this;simp only [List.getD,hg,hu,Option.getD_some] at this ⊢;exact this
  rw [Tq hplain] at e1;cases e1;split at k1
  ·cases k1;have e3:AR B κ' h1 w' .nilsl res:=e2;cases e3 with
   |nilsl a0=>exact ⟨_,z,[],rfl,rfl,hgrow,.inl ⟨rfl,a0,rfl⟩⟩
  ·rename_i i ver off len;split at k1
   ·rename_i ver' size es hi;obtain ⟨hvs,k1'⟩:=AH k1;clear k1;obtain ⟨rfl,rfl⟩:=hvs;cases k1';have e3:AR B κ' h1 w' (.sref i ver' off len) res:=e2;refine ⟨res,size,_,rfl,rfl,hgrow,?_⟩;cases e3 with
    |sref _ _ _ _ _ _ _ hsr=>
     obtain ⟨kk,hkk⟩:=Bm k3 hi;obtain ⟨_,hle,hmm⟩:=hsr kk _ hkk hi rfl;simp only [AE.len] at hle;have ho:=k3.obj i _ _ hi hkk;rcases hmm with ⟨rfl,hof,a0,rfl⟩|⟨b,base,rfl,cap,rfl,hcap',hcs⟩
     ·exact .inl ⟨by simp,a0,rfl⟩
     ·skip
      have hcap:len≤cap:=by simp only [AE.len] at hcap';omega
      obtain ⟨hz0,cells,elem,fr,hb,hth,hbs,hel,hT⟩:=ho;have hex:Ex κ' h1 b:=⟨i,base,_,hkk,hi,rfl⟩
      have hnew:w.heap.size≤b:=by
       rcases k4.ex b hex with h|h
       ·exact (DN h).elim
       ·exact h
      have hcsz:=hcs cells elem _ hb;have hlen2:((es.drop off).take len).length=len:=by simp;omega
      have hget:∀(j:Nat) (e:List Tree),((es.drop off).take len)[j]? = some e→es[off+j]? = some e:=fun j e he=>by have:=Bj he;rw [getElem?_drop] at this;exact this.2
      refine .inr ⟨b,base+off*size,cap,cells,elem,fr,by simp only [AE.size];rw [hlen2],by rw [hlen2];exact hcap,hnew,k3.lt i b base hkk,hz0,hb,hth,?_,fun j e he=>hel _ e (hget j e he),fun j e c x he hx => ?_⟩
      ·have:base+(off+cap)*size≤cells.size:=hcsz;rw [add_mul] at this;omega
      ·have h8:=hT (off+j) e c x (hget j e he) hx;rw [show base+off*size+(j*size+c)=base+((off+j)*size+c) by rw [add_mul];omega];exact h8.less fun b' hb'=>by
        rcases hb' with hb'|rfl
        ·exact .inl hb'
        ·exact .inr hex
   ·cases k1
  ·cases k1
 ·cases hk
theorem Sh {C:Cfg} {rec:Rec} {pc:BF} (hrec:Dd C.P rec) (hpc:B7 C.P pc) (hmix:C.P.follows .mixedOrders=true) {m j:Nat} {g:FuncId} {xs ys:List Tree} (hk:HP C rec pc m j g xs=some ys):SK C.P j g xs ys:=by
 unfold HP at hk
 try simp only [AF] at hk
 split at hk
 ·rename_i avs t hm ht;obtain ⟨z,hz,hk⟩:=bind_some hk;intro B w avs' vs n hm' hB hc;rw [hm] at hm';cases hm';rw [show dqLT=dqAny (List Tree) from Vr _ _] at hk;refine Kp hrec hpc hmix hk n (IF hB) hc _ fun ls us h1 κ' w' res k1 k2 k3 k4 k5 => ?_;have hgrow:Grow w w':=⟨k4.os,k4.tape,k4.output,k4.size,fun b hb=>k4.keep b hb fun he=>DN he⟩
  have hlen:us.length=ls.length:=by simpa using k2.1
  have hleaf:∀(i:Nat) (x:AV) (u:Value),ls[i]? = some x→us[i]? = some u→AR B κ' h1 w' x u:=fun i x u hx hu=>by have:=k2.2 i x hx;rw [BT] at this;simp only [List.getD,hu,Option.getD_some] at this;exact this
  have hend:∀(x:Tree) (u:Value),us[j]? = some u→Km C.P h1 (DG C.P g) ls j x=some ys→us.length=ys.length∧ys[j]? = some x∧
    ∀(i:Nat) (y:Tree) (v:Value),i≠j→ys[i]? = some y→us[i]? = some v→BV w' (fun b=>B b∨Ex κ' h1 b) y v:=fun x u hu he=>by
   unfold Km at he
   try simp only [AF] at he
   obtain ⟨hts,he⟩:=AH he;have hjl:j<ls.length:=by rw [← hlen];exact AU hu
   obtain ⟨pa,he1,l1,_,t1⟩:=Cm (P:=C.P) he k3 (vs:=us.take j) (by simp [hlen]) (fun i x v hx hv=>hleaf i x v (by rw [getElem?_take] at hx;split at hx;exact hx;cases hx) (by rw [getElem?_take] at hv;split at hv;exact hv;cases hv));obtain ⟨pb,he2,l2,_,t2⟩:=Cm (P:=C.P) he1 k3 (vs:=us.drop (j+1)) (by simp [hlen]) (fun i x v hx hv=>hleaf (j+1+i) x v (by rw [getElem?_drop] at hx;exact hx) (by rw [getElem?_drop] at hv;exact hv));cases he2;have la:pa.length=j:=by rw [l1];simp;omega
   have lb:pb.length=ls.length-(j+1):=by rw [l2];simp
   refine ⟨by simp [la,lb];omega,by rw [getElem?_append_right (by omega),la];simp,fun i y v hij hy hv => ?_⟩;rcases lt_or_ge i j with hi|hi
   ·rw [getElem?_append_left (by omega)] at hy;exact (t1 i y v hy (by rw [getElem?_take_of_lt hi];exact hv)).less fun b hb=>hb.imp id fun e=>⟨rfl,e⟩
   ·rw [getElem?_append_right (by omega),la,show i-j=(i-j-1)+1 by omega,getElem?_cons_succ] at hy;exact (t2 (i-j-1) y v hy (by rw [getElem?_drop,show j+1+(i-j-1)=i by omega];exact hv)).less fun b hb=>hb.imp id fun e=>⟨rfl,e⟩
  have hbld:∀(B2:Nat→Prop) (κ2:A1) (h2:Heap) (w2:World) (leaf:Nat→AV),(∀i x,us[i]? = some x→AR B2 κ2 h2 w2 (leaf i) x)→∃rv,CQ C.P g leaf=some rv∧AR B2 κ2 h2 w2 rv res:=fun B2 κ2 h2 w2 leaf hl=>k5 B2 κ2 h2 w2 leaf hl;split at k1
  ·rename_i hj;obtain ⟨u,hu⟩:∃u,us[j]? = some u:=⟨us[j]'(by rw [hlen];exact AU hj),getElem?_eq_getElem _⟩
   obtain ⟨e1,e2,e3⟩:=hend _ u hu k1;have hv:=hleaf j _ u hj hu;cases hv with
   |nilsl a0=>exact ⟨res,us,z,[],_,rfl,hgrow,e2,e1,hu,.inl ⟨rfl,a0,rfl⟩,(fun i y v hij hy hv=>(e3 i y v hij hy hv).less fun b hb=>hb.imp id fun ⟨o,nn,cc,e,hc⟩=>by injection e with e1 e2 e3;omega),hbld⟩
  ·rename_i i ver off len hj;obtain ⟨u,hu⟩:∃u,us[j]? = some u:=⟨us[j]'(by rw [hlen];exact AU hj),getElem?_eq_getElem _⟩
   split at k1
   ·rename_i ver' size es hi;obtain ⟨hvs,k1'⟩:=AH k1;clear k1;obtain ⟨rfl,rfl⟩:=hvs;obtain ⟨e1,e2,e3⟩:=hend _ u hu k1';have hv:=hleaf j _ u hj hu;cases hv with
    |sref _ _ _ _ _ _ _ hsr=>
     obtain ⟨kk,hkk⟩:=Bm k3 hi;obtain ⟨_,hle,hmm⟩:=hsr kk _ hkk hi rfl;simp only [AE.len] at hle;have ho:=k3.obj i _ _ hi hkk;rcases hmm with ⟨rfl,hof,a0,rfl⟩|⟨b,base,rfl,cap,rfl,hcap',hcs⟩
     ·exact ⟨res,us,size,_,_,rfl,hgrow,e2,e1,hu,.inl ⟨by simp,a0,rfl⟩,(fun i y v hij hy hv=>(e3 i y v hij hy hv).less fun b hb=>hb.imp id fun ⟨o,nn,cc,e,hc⟩=>by injection e with e1 e2 e3;omega),hbld⟩
     ·have hcap:len≤cap:=by simp only [AE.len] at hcap';omega
      obtain ⟨hz0,cells,elem,fr,hb,hth,hbs,hel,hT⟩:=ho;have hex:Ex κ' h1 b:=⟨i,base,_,hkk,hi,rfl⟩
      have hnew:w.heap.size≤b:=by
       rcases k4.ex b hex with h|h
       ·exact (DN h).elim
       ·exact h
      have hcsz:=hcs cells elem _ hb;have hlen2:((es.drop off).take len).length=len:=by simp;omega
      have hget:∀(j:Nat) (e:List Tree),((es.drop off).take len)[j]? = some e→es[off+j]? = some e:=fun j e he=>by have:=Bj he;rw [getElem?_drop] at this;exact this.2
      refine ⟨res,us,size,_,_,rfl,hgrow,e2,e1,hu,.inr ⟨b,base+off*size,cap,cells,elem,fr,by simp only [AE.size];rw [hlen2],by rw [hlen2];exact hcap,hnew,k3.lt i b base hkk,hz0,hb,hth,?_,fun j e he=>hel _ e (hget j e he),fun j e c x he hx => ?_⟩,(fun i2 y v hij hy hv=>(e3 i2 y v hij hy hv).less fun b2 hb2=>hb2.imp id fun ⟨o,nn,cc,e,hc⟩=> ?_),hbld⟩
      ·have:base+(off+cap)*size≤cells.size:=hcsz;rw [add_mul] at this;omega
      ·have h8:=hT (off+j) e c x (hget j e he) hx;rw [show base+off*size+(j*size+c)=base+((off+j)*size+c) by rw [add_mul];omega];exact h8.less fun b' hb'=>by
        rcases hb' with hb'|rfl
        ·exact .inl hb'
        ·exact .inr hex
      ·injection e with e4 e5 e6;injection e4 with e4;injection e4 with e7;rw [← e7];exact hex
   ·cases k1
  ·cases k1
 ·cases hk
theorem Gw {C:Cfg} (hmix:C.P.follows .mixedOrders=true) {pc:BF} (hpc:B7 C.P pc) (n:Nat):∀d,Dd C.P (inl C pc n d)
 |0=>fun R r h K res hk=>(by cases hk)
 |d+1=>fun R r h K res hk=>by
  cases r with
  |fn g avs=>exact call_ok (Gw hmix hpc n d) hpc hmix hk
  |yield i args=>exact VA (Gw hmix hpc n d) hpc hmix hk
def Mw (C:Cfg):Prop:=∀g xs ys,g<OWN→C.ext g xs=some ys→HC C.P g xs ys
theorem ID {C:Cfg} {pc:BF} (hext:Mw C) (hpc:B7 C.P pc):B7 C.P (pcx C pc):=fun g xs ys hk=>by
 unfold pcx at hk;split at hk
 ·split at hk
  ·rename_i hg;split at hk
   ·rename_i he;cases hk;rw [if_pos hg];exact hext g [] _ hg he
   ·exact hpc g _ _ hk
  ·exact hpc g _ _ hk
 ·exact hpc g _ _ hk
theorem EB {C:Cfg} (hmix:C.P.follows .mixedOrders=true) (hext:Mw C):∀n,B7 C.P (AK C n)
 |0=>fun g xs ys hk=>(by cases hk)
 |n+1=>fun g xs ys hk=>by
  unfold AK at hk;by_cases hg:g<OWN
  ·rw [if_pos hg] at hk ⊢;split at hk
   ·rename_i ys' he;cases hk;exact hext g xs _ hg he
   exact Sd (Gw hmix (ID hext (EB hmix hext n)) n C.depth) (ID hext (EB hmix hext n)) hmix hk
  ·rw [if_neg hg] at hk ⊢;by_cases hg2:g<ES
   ·rw [if_pos hg2] at hk ⊢;exact VF (Gw hmix (ID hext (EB hmix hext n)) n C.depth) (ID hext (EB hmix hext n)) hmix hk
   ·rw [if_neg hg2] at hk ⊢;exact Sh (Gw hmix (ID hext (EB hmix hext n)) n C.depth) (ID hext (EB hmix hext n)) hmix hk
theorem Qm {C:Cfg} (hmix:C.P.follows .mixedOrders=true) (hext:Mw C) {n:Nat} {g:FuncId} {xs ys:List Tree} (hg:g<OWN) (hk:AK C n g xs=some ys):HC C.P g xs ys:=by have:=EB hmix hext n g xs ys hk;rwa [if_pos hg] at this
#print axioms Qm
end Ab
namespace Ab
open Go
variable {P:Program} {w w':World} {H:Type} {enc:TypeId×Value→H} {base:Nat} {held:Bool}
def cover (P:Program):List Field→Nat→Option Nat
 |[],off=>some off
 |f::fs,off=>if f.offset=off then cover P fs (off+P.cellsOf f.type) else none
def M5 (P:Program):Nat→TypeId→Bool
 |0,_=>false
 |d+1,t=>match P.underlying t with
  |some .bool|some (.int _)|some .string=>true
  |some (.slice e)=>P.cellsOf e != 0&&M5 P d e
  |some (.struct fs)=>cover P fs.toList 0==some (P.cellsOf t)&&fs.toList.all fun f=>M5 P d f.type
  |_=>false
def E6 (Ty:TypeId→List Tree→Prop):List TypeId→List Tree→Prop
 |[],ts=>ts=[]
 |t::l,ts=>∃a b,ts=a++b∧Ty t a∧E6 Ty l b
def Typed (P:Program):Nat→TypeId→List Tree→Prop
 |0,_,_=>False
 |d+1,t,ts=>match P.underlying t with
  |some .bool=>∃b,ts=[.bool b]
  |some (.int k)=>∃n,ts=[.int k n]∧(Lit.int k n).wf=true
  |some .string=>∃s:ByteArray,ts=[.str s]∧s.size≤maxLen
  |some (.slice e)=>∃es,ts=[.sl (P.cellsOf e) es]∧es.length≤maxLen∧∀x∈es,Typed P d e x
  |some (.struct fs)=>E6 (Typed P d) (fs.toList.map (·.type)) ts
  |_=>False
def Cells (w:World) (ts:List Tree) (cs:List Value):Prop:=ts.length=cs.length∧∀(j:Nat) y v,ts[j]? = some y→cs[j]? = some v→BV w (fun _=>False) y v
theorem Cells.append {ts ts':List Tree} {cs cs':List Value} (h1:Cells w ts cs) (h2:Cells w ts' cs'):Cells w (ts++ts') (cs++cs'):=by
 refine ⟨by simp [h1.1,h2.1],fun j y v hy hv => ?_⟩;rcases lt_or_ge j ts.length with hj|hj
 ·rw [getElem?_append_left hj] at hy;rw [getElem?_append_left (by rw [← h1.1];exact hj)] at hv;exact h1.2 j y v hy hv
 ·rw [getElem?_append_right hj] at hy;rw [getElem?_append_right (by rw [← h1.1];exact hj),← h1.1] at hv;exact h2.2 _ y v hy hv
theorem Cells.one {y:Tree} {v:Value} (h:BV w (fun _=>False) y v):Cells w [y] [v]:=by
 refine ⟨rfl,fun j z u hz hu => ?_⟩;cases j with
 |zero=>cases hz;cases hu;exact h
 |succ j=>simp at hz
theorem KV {α:Type} {p:Nat→α→Prop}:∀(len:Nat),(∀i,i<len→∃x,p i x)→∃l:List α,l.length=len∧∀i x,l[i]? = some x→p i x
 |0,_=>⟨[],rfl,fun i x hx=>by simp at hx⟩
 |n+1,h=>by
  obtain ⟨l,h1,h2⟩:=KV n fun i hi=>h i (by omega);obtain ⟨x,hx⟩:=h n (by omega);refine ⟨l++[x],by simp [h1],fun i y hy => ?_⟩;rcases lt_or_ge i n with hi|hi
  ·rw [getElem?_append_left (by omega)] at hy;exact h2 i y hy
  ·rw [getElem?_append_right (by omega)] at hy;have:=AU hy;simp at this;have e:i=n:=by omega
   subst e;rw [h1] at hy;simp at hy;subst hy;exact hx
theorem Lp {α β:Type} {f:α→Option β}:∀{l:List α} {ys:List β},l.mapM f=some ys→ys.length=l.length∧∀(i:Nat) x,l[i]? = some x→∃y,ys[i]? = some y∧f x=some y
 |[],ys,h=>by simp at h;subst h;exact ⟨rfl,fun i x hx=>by simp at hx⟩
 |a::l,ys,h=>by
  rw [mapM_cons] at h;cases ha:f a with
  |none=>rw [ha] at h;cases h
  |some b=>
   rw [ha] at h;cases hl:l.mapM f with
   |none=>rw [hl] at h;cases h
   |some bs=>
    rw [hl] at h;cases h;obtain ⟨h1,h2⟩:=Lp hl;refine ⟨by simp [h1],fun i x hx => ?_⟩;cases i with
    |zero=>simp at hx;subst hx;exact ⟨b,rfl,ha⟩
    |succ i=>simpa using h2 i x (by simpa using hx)
theorem mapM_congr {α β:Type} {f g:α→Option β}:∀{l:List α},(∀x∈l,g x=f x)→l.mapM g=l.mapM f
 |[],_=>by simp
 |a::l,h=>by rw [mapM_cons,mapM_cons,h a (by simp),mapM_congr fun x hx=>h x (by simp [hx])]
theorem Kn {α β:Type} {f:α→Option β}:∀{l:List α} (ys:List β),ys.length=l.length→(∀(i:Nat) x,l[i]? = some x→∃y,ys[i]? = some y∧f x=some y)→l.mapM f=some ys
 |[],[],_,_=>by simp
 |[],y::ys,h,_=>by simp at h
 |a::l,[],h,_=>by simp at h
 |a::l,y::ys,h,hf=>by
  obtain ⟨z,h1,h2⟩:=hf 0 a rfl;cases h1;have ih:=Kn ys (by simpa using h) fun i x hx=>by simpa using hf (i+1) x (by simpa using hx)
  rw [mapM_cons,h2,ih];rfl
theorem HN {n i:Nat} (h:i<n):(List.range n)[i]? = some i:=by simp [h]
theorem Nw {a:Addr} {n:Nat} {cs:List Value} (h:w.cells? base a n=some cs):base≤a.block∧cs.length=n∧∀i v,cs[i]? = some v→w.cell? (a.add i)=some v:=by
 unfold World.cells? at h;obtain ⟨hb,h⟩:=AH h;obtain ⟨h1,h2⟩:=Lp h;have h1':cs.length=n:=by simpa using h1
 refine ⟨hb,h1',fun i v hv => ?_⟩;have hi:i<n:=by have:=AU hv;omega
 obtain ⟨y,hy,hc⟩:=h2 i i (HN hi);rw [hv] at hy;cases hy;exact hc
theorem J4 {a:Addr} {v:Value} (h:w.cell? a=some v):a.spot=none∧a.block<w.heap.size:=by
 unfold World.cell? at h;split at h
 ·rename_i c e f hb;split at h
  ·cases h
  ·rename_i hs;exact ⟨by simpa using hs,DA hb⟩
 ·cases h
theorem Qu (b o i:Nat):(⟨b,o,none⟩:Addr).add i=⟨b,o+i,none⟩:=by
 simp only [Addr.add];split
 ·rename_i h;simp [h]
 ·rfl
theorem Ia {cs:List Value} (Ty:TypeId→List Tree→Prop):∀(fs:List Field) (off m:Nat),cover P fs off=some m→m≤cs.length→(∀f∈fs,∃ts,Ty f.type ts∧Cells w ts ((cs.drop f.offset).take (P.cellsOf f.type)))→
  off≤m∧∃ts,E6 Ty (fs.map (·.type)) ts∧Cells w ts ((cs.drop off).take (m-off))
 |[],off,m,hc,hm,_=>by cases hc;exact ⟨le_refl _,[],rfl,by simp,fun j y v hy=>by simp at hy⟩
 |f::fs,off,m,hc,hm,hall=>by
  simp only [cover] at hc;obtain ⟨ho,hc⟩:=AH hc;obtain ⟨h1,ts,h2,h3⟩:=Ia Ty fs _ m hc hm fun g hg=>hall g (by simp [hg]);obtain ⟨ts0,h4,h5⟩:=hall f (by simp);refine ⟨by omega,ts0++ts,⟨ts0,ts,rfl,h4,h2⟩,?_⟩;have e:(cs.drop off).take (m-off)=(cs.drop f.offset).take (P.cellsOf f.type)++(cs.drop (off+P.cellsOf f.type)).take (m-(off+P.cellsOf f.type)):=by rw [ho,show m-off=P.cellsOf f.type+(m-(off+P.cellsOf f.type)) from by omega,List.take_add,List.drop_drop]
  rw [e];exact h5.append h3
theorem My {spare:Nat→Bool}:∀(d:Nat) {t:TypeId} {fuel:Nat} {cs:List Value} {x:DataW H×List MemPlace},M5 P d t=true→DataW.trod enc P w base spare held fuel t cs=some x→∃ts,Typed P d t ts∧Cells w ts cs:=by
 intro d
 induction d with
 |zero=>intro t fuel cs x ho;cases ho
 |succ d ih=>
  intro t fuel cs x ho h;unfold M5 at ho;unfold Typed;cases hu:P.underlying t with
  |none=>rw [hu] at ho;cases ho
  |some u=>
   rw [hu] at ho;cases u with
   |bool=>
    obtain ⟨b,rfl,_⟩:=DataW.trod_bool hu h;exact ⟨_,⟨b,rfl⟩,Cells.one (.bool b)⟩
   |int k=>
    obtain ⟨n,rfl,_,hw⟩:=DataW.trod_int hu h;exact ⟨_,⟨n,rfl,hw⟩,Cells.one (.int k n)⟩
   |string=>
    obtain ⟨n,rfl,_,hw⟩:=DataW.trod_string hu h;exact ⟨_,⟨n,rfl,hw⟩,Cells.one (.str n)⟩
   |slice e=>
    simp only [and_eq_true,bne_iff_ne,ne_eq] at ho;rcases Go.Deep.open_slice hu h with ⟨rfl,_⟩|⟨a,len,cap,m,n,D,Pl,rfl,hb,hl,hm,hmm,_,hi⟩
    ·exact ⟨_,⟨[],rfl,zero_le _,fun x hx=>by cases hx⟩,Cells.one (.nil _ _ _)⟩
    ·have hlm:len≤m:=by rw [hmm];split<;>omega
     obtain ⟨es,he1,he2⟩:=KV (p:=fun i ts=>Typed P d e ts∧∃cs',w.cells? base (a.add (i*P.cellsOf e)) (P.cellsOf e)=some cs'∧Cells w ts cs') len fun i him=>by obtain ⟨cs',h1,h2⟩:=hi i (by omega);obtain ⟨ts,h3,h4⟩:=ih ho.2 h2;exact ⟨ts,h3,cs',h1,h4⟩
     refine ⟨_,⟨es,rfl,by omega,fun x hx => ?_⟩,?_⟩
     ·obtain ⟨i,hi2,hx2⟩:=List.getElem_of_mem hx;exact (he2 i x (by rw [getElem?_eq_getElem hi2,hx2])).1
     ·cases hes:es with
      |nil=>
       rw [hes] at he1;obtain rfl:len=0:=he1.symm;exact Cells.one (.nil _ _ _)
      |cons e0 es0=>
       have hsp:a.spot=none:=by
        have h0:es[0]? = some e0:=by rw [hes];rfl
        obtain ⟨_,cs',hc,hcl⟩:=he2 0 e0 h0;obtain ⟨_,hlen,hget⟩:=Nw hc;have hcc:0<cs'.length:=by rw [hlen];exact pos_of_ne_zero ho.1
        have hg:=hget 0 cs'[0] (getElem?_eq_getElem hcc);have:=(J4 hg).1;simpa [Addr.add] using this
       obtain ⟨ab,ao,asp⟩:=a;dsimp only at hsp;subst hsp;have key:∀(j:Nat) (el:List Tree),es[j]? = some el→el.length=P.cellsOf e∧∀(c:Nat) (y:Tree),el[c]? = some y→∃v,w.cell? ⟨ab,ao+(j*P.cellsOf e+c),none⟩=some v∧ab<w.heap.size∧BV w (fun _=>False) y v:=by
        intro j el hj;obtain ⟨_,cs',hc,hcl⟩:=he2 j el hj;obtain ⟨_,hlen,hget⟩:=Nw hc;refine ⟨hcl.1.trans hlen,fun c y hy => ?_⟩;have hcc:c<cs'.length:=by rw [← hcl.1];exact AU hy
        have hg:=hget c cs'[c] (getElem?_eq_getElem hcc);rw [Qu,Qu,add_assoc] at hg;exact ⟨cs'[c],hg,(J4 hg).2,hcl.2 c y _ hy (getElem?_eq_getElem hcc)⟩
       have h0:es[0]? = some e0:=by rw [hes];rfl
       obtain ⟨hl0,hc0⟩:=key 0 e0 h0;have hne:0<e0.length:=by rw [hl0];exact pos_of_ne_zero ho.1
       obtain ⟨v0,_,hbl,_⟩:=hc0 0 e0[0] (getElem?_eq_getElem hne);rw [← hes,← he1];refine Cells.one (.sl _ es ab ao cap (fun j c=>(w.cell? ⟨ab,ao+(j*P.cellsOf e+c),none⟩).getD undef) (by omega) hbl (fun hf=>hf) (fun j el hj=>(key j el hj).1) (fun j el c y hj hy => ?_) (fun j el c y hj hy => ?_))
       ·obtain ⟨v,h1,_⟩:=(key j el hj).2 c y hy;rw [h1];rfl
       ·obtain ⟨v,h1,_,h4⟩:=(key j el hj).2 c y hy;rw [h1];exact h4
   |struct fs=>
    simp only [and_eq_true,beq_iff_eq] at ho;obtain ⟨xs,n,_,_,hlen,hxl,hf⟩:=DataW.trod_struct hu h;obtain ⟨_,ts,h1,h2⟩:=Ia (w:=w) (cs:=cs) (Typed P d) fs.toList 0 _ ho.1 (by omega) fun f hfm=>by
     obtain ⟨i,hi,he⟩:=List.getElem_of_mem hfm;have hg:fs[i]? = some f:=by rw [← getElem?_toList,getElem?_eq_getElem hi,he]
     have:=hf i f hg;have hil:i<xs.length:=by rw [hxl];simpa using hi
     rw [getElem?_eq_getElem hil] at this;exact ih (all_eq_true.1 ho.2 f hfm) this
    refine ⟨ts,h1,?_⟩;simpa [← hlen] using h2
   |_=>cases ho
theorem R7 {a:Addr} {n:Nat} {cs:List Value} (hk:∀b,b<w.heap.size→w'.heap[b]? = w.heap[b]?) (h:w.cells? base a n=some cs):w'.cells? base a n=some cs:=by
 rw [← h];unfold World.cells? at h ⊢;obtain ⟨hb,h⟩:=AH h;rw [if_pos hb,if_pos hb];obtain ⟨h1,h2⟩:=Lp h;refine mapM_congr fun i hi => ?_;have hin:i<n:=by simpa using hi
 obtain ⟨y,_,hc⟩:=h2 i i (HN hin);unfold World.cell? at hc ⊢;rw [hk];have:=J4 (w:=w) (a:=a.add i) (v:=y) hc;exact this.2
theorem Tc {sp:Nat→Bool} (hk:∀b,b<w.heap.size→w'.heap[b]? = w.heap[b]?):∀(d:Nat) {t:TypeId} {fuel:Nat} {cs:List Value} {x:DataW H×List MemPlace},M5 P d t=true→DataW.trod enc P w base (fun _=>true) held fuel t cs=some x→
  (∀p∈x.2,sp p.block=true)→DataW.trod enc P w' base sp held fuel t cs=some x:=by
 intro d
 induction d with
 |zero=>intro t fuel cs x ho;cases ho
 |succ d ih=>
  intro t fuel cs x ho h hp;unfold M5 at ho;cases hu:P.underlying t with
  |none=>rw [hu] at ho;cases ho
  |some u=>
   rw [hu] at ho;cases u with
   |bool=>
    cases fuel with
    |zero=>cases h
    |succ n=>
     obtain ⟨b,rfl,rfl⟩:=DataW.trod_bool hu h;simp [DataW.trod,hu]
   |int k=>
    cases fuel with
    |zero=>cases h
    |succ n=>
     obtain ⟨b,rfl,rfl,hw⟩:=DataW.trod_int hu h;simp [DataW.trod,hu,hw]
   |string=>
    cases fuel with
    |zero=>cases h
    |succ n=>
     obtain ⟨b,rfl,rfl,hw⟩:=DataW.trod_string hu h;simp [DataW.trod,hu,hw]
   |slice e=>
    simp only [and_eq_true,bne_iff_ne,ne_eq] at ho;rcases DataW.trod_slice hu h with ⟨rfl,rfl⟩|⟨a,len,cap,elems,rest,n,rfl,rfl,hx,hb,hl,hm,hel,he,hr,_⟩
    ·cases fuel with
     |zero=>cases h
     |succ n=>simp [DataW.trod,hu]
    ·obtain ⟨hrl,hr⟩:=hr rfl;have hmem:∀y∈elems++rest,∀p∈y.2,sp p.block=true:=fun y hy p hpy=>hp p (by rw [hx];exact mem_append_right _ (List.mem_flatMap.2 ⟨y,hy,hpy⟩));have step:∀(i:Nat) (y:DataW H×List MemPlace),y∈elems++rest→(w.cells? base (a.add (i*P.cellsOf e)) (P.cellsOf e)).bind (DataW.trod enc P w base (fun _=>true) held n e)=some y→
       (w'.cells? base (a.add (i*P.cellsOf e)) (P.cellsOf e)).bind (DataW.trod enc P w' base sp held n e)=some y:=by
      intro i y hy hi;obtain ⟨cs',h1,h2⟩:=bind_some hi;rw [R7 hk h1];exact ih ho.2 h2 (hmem y hy)
     have e1:(List.range len).mapM (fun i=>(w'.cells? base (a.add (i*P.cellsOf e)) (P.cellsOf e)).bind (DataW.trod enc P w' base sp held n e))=some elems:=Kn elems (by simp [hel]) fun i j hij=>by
      have hil:i<len:=by have:=AU hij;simpa using this
      have:j=i:=by rw [HN hil] at hij;cases hij;rfl
      subst this;have hj:=he j hil;have hjl:j<elems.length:=by omega
      rw [getElem?_eq_getElem hjl] at hj;exact ⟨_,getElem?_eq_getElem hjl,step j _ (mem_append_left _ (getElem_mem hjl)) hj⟩
     have e2:(if sp a.block=true then (List.range (cap-len)).mapM (fun j=>(w'.cells? base (a.add ((len+j)*P.cellsOf e)) (P.cellsOf e)).bind (DataW.trod enc P w' base sp held n e)) else some [])=some rest:=by
      by_cases hsp:sp a.block=true
      ·rw [if_pos hsp];refine Kn rest (by simp [hrl]) fun i j hij => ?_;have hil:i<cap-len:=by have:=AU hij;simpa using this
       have:j=i:=by rw [HN hil] at hij;cases hij;rfl
       subst this;have hj:=hr j hil;have hjl:j<rest.length:=by omega
       rw [getElem?_eq_getElem hjl] at hj;exact ⟨_,getElem?_eq_getElem hjl,step (len+j) _ (mem_append_right _ (getElem_mem hjl)) hj⟩
      ·rw [if_neg hsp];cases hre:rest with
       |nil=>rfl
       |cons y ys=>
        exfalso;refine hsp (hp (.cell a.block (a.off+0)) ?_);rw [hx];refine mem_append_left _ (mem_map.2 ⟨0,mem_range.2 ?_,rfl⟩);rw [hre];exact Nat.mul_pos (by simp;omega) (pos_of_ne_zero ho.1)
     unfold DataW.trod;rw [hu];dsimp only;rw [if_pos ⟨hb,hl,hm⟩,e1];simp only [Option.bind_some];rw [e2,hx];rfl
   |struct fs=>
    simp only [and_eq_true,beq_iff_eq] at ho;obtain ⟨xs,n,rfl,hx,hlen,hxl,hf⟩:=DataW.trod_struct hu h;have e1:(fs.toList.mapM fun f=>DataW.trod enc P w' base sp held n f.type ((cs.drop f.offset).take (P.cellsOf f.type)))=some xs:=Kn xs (by simpa using hxl) fun i f hif=>by
     have hg:fs[i]? = some f:=by rw [← getElem?_toList];exact hif
     have hil:i<xs.length:=by rw [hxl];have:=AU hif;simpa using this
     have hj:=hf i f hg;rw [getElem?_eq_getElem hil] at hj;refine ⟨_,getElem?_eq_getElem hil,ih (all_eq_true.1 ho.2 f (mem_of_getElem? hif)) hj fun p hpy=>hp p ?_⟩;rw [hx];exact List.mem_flatMap.2 ⟨_,getElem_mem hil,hpy⟩
    unfold DataW.trod;rw [hu];split<;>simp_all
   |_=>cases ho
end Ab
namespace Ab
open Go Go.RowKit Go.WideShapes Go.ChangeShapes
variable {P:Program} {w w':World} {H:Type} {enc:TypeId×Value→H} {base:Nat} {held:Bool}
theorem Grow.below (g:Grow w w'):Below w.heap.size w w':=⟨g.os,g.tape,g.output,g.size,fun b hb=>g.block b hb⟩
theorem Q4 {t:TypeId} {n:Nat} (h:BZ P t=some n):P.cellsOf t=n:=by unfold BZ at h;unfold Program.cellsOf;rw [h];rfl
theorem JO {d:Nat} {spare:Nat→Bool} {b0:Nat}:∀{ts:List TypeId} {vs:List Value} {ds:List (DataW H)} {p:List MemPlace},ts.all (M5 P d)=true→(ts.all fun t=>(BZ P t).isSome)=true→
  (∀(j:Nat) t v,ts[j]? = some t→vs[j]? = some v→Value.okWide P w .any b0 t v)→DataW.TrodAll enc P w base spare held ts vs ds p→
  ∃xs,E6 (Typed P d) ts xs∧∀(leaf:Nat→AV) (off:Nat),(∀j x,xs[j]? = some x→leaf (off+j)= .t x)→∃avs,CB P leaf ts off=some avs∧Aa (fun _=>False) [] [] w avs vs.toArray
 |[],vs,ds,p,_,_,_,h=>by obtain ⟨rfl,rfl,rfl⟩:=trodAll_nil h;exact ⟨[],rfl,fun leaf off _=>⟨[],rfl,rfl,fun j x hx=>by simp at hx⟩⟩
 |t::ts,vs,ds,p,hok,hsz,hval,h=>by
  obtain ⟨v,vs',d1,ds',p1,q,rfl,rfl,rfl,h1,h2⟩:=trodAll_cons h;simp only [all_cons,and_eq_true] at hok hsz;obtain ⟨xs,h3,h4⟩:=JO hok.2 hsz.2 (fun j t' v' ht hv=>hval (j+1) t' v' (by simpa using ht) (by simpa using hv)) h2;obtain ⟨fuel,h1⟩:=h1;obtain ⟨ys,h5,h6⟩:=My d hok.1 h1;have hv:=hval 0 t v rfl rfl;obtain ⟨n,hn⟩:=Option.isSome_iff_exists.1 hsz.1;have hc:=Q4 hn;refine ⟨ys++xs,⟨ys,xs,rfl,h5,h3⟩,fun leaf off hl => ?_⟩;obtain ⟨avs,e1,e2⟩:=h4 leaf (off+ys.length) fun j x hx=>by have:=hl (ys.length+j) x (by rw [getElem?_append_right (by omega)];simpa using hx);rwa [← add_assoc] at this
  have hT:∀j v',v.cells.toList[j]? = some v'→AR (fun _=>False) [] [] w (leaf (off+j)) v':=fun j v' hv'=>by
   have hj:j<ys.length:=by rw [h6.1];exact AU hv'
   have hg:ys[j]? = some ys[j]:=getElem?_eq_getElem hj;rw [hl j ys[j] (by rw [getElem?_append_left hj];exact hg)];exact .t _ _ ((h6.2 j _ v' hg hv').less fun b hb=>by
    rcases hb with hb|hb
    ·exact hb
    ·exact (DN hb).elim)
  have leafCase:Az P t=some false→v.cells = #[v]→∃avs,CB P leaf (t::ts) off=some avs∧Aa (fun _=>False) [] [] w avs (v::vs').toArray:=by
   intro ha hcv;have hl1:ys.length=1:=by rw [h6.1,hcv];rfl
   refine ⟨leaf off::avs,?_,CM (by simpa using hT 0 v (by rw [hcv];rfl)) e2⟩;rw [hl1] at e1;cases hs:BZ P t<;>simp only [CB,Gq,ha,hs,e1,map_some]
  have hok1:=hok.1;cases d with
  |zero=>cases hok1
  |succ d=>
   unfold M5 at hok1;cases hu:P.underlying t with
   |none=>rw [hu] at hok1;cases hok1
   |some u=>
    rw [hu] at hok1;cases u with
    |bool=>obtain ⟨b,rfl⟩:=okWide_bool hu hv;exact leafCase (by simp [Az,hu]) rfl
    |int k=>obtain ⟨b,rfl⟩:=okWide_int hu hv;exact leafCase (by simp [Az,hu]) rfl
    |string=>obtain ⟨b,rfl⟩:=okWide_string hu hv;exact leafCase (by simp [Az,hu]) rfl
    |slice e=>obtain ⟨a,len,cap,rfl⟩:=okWide_slice hu hv;exact leafCase (by simp [Az,hu]) rfl
    |struct fs=>
     obtain ⟨cs,rfl,hcs⟩:=okWide_struct hu hv;have ha:Az P t=some true:=by simp [Az,hu]
     have hl1:ys.length=n:=by rw [h6.1];simp [Value.cells,hcs,hc]
     refine ⟨.agg (A4 leaf off n)::avs,?_,CM (.agg _ _ (by simp [A4,hcs,hc]) fun j y hy => ?_) e2⟩
     ·rw [hl1] at e1;simp only [CB,Gq,ha,hn,e1,map_some]
     ·have hj:j<n:=by have:=AU hy;simpa [A4] using this
      rw [EI leaf off _ _ hj] at hy;cases hy;have hj2:j<cs.size:=by omega
      exact hT j _ (by simp [Value.cells,Array.getD,hj2])
    |_=>cases hok1
theorem KJ {spare:Nat→Bool}:∀{ts:List TypeId} {vs:List Value} {ds:List (DataW H)} {p:List MemPlace},DataW.TrodAll enc P w base spare held ts vs ds p→ds.length=ts.length
 |[],vs,ds,p,h=>by obtain ⟨rfl,rfl,rfl⟩:=trodAll_nil h;rfl
 |t::ts,vs,ds,p,h=>by obtain ⟨v,vs',d1,ds',p1,q,rfl,rfl,rfl,h1,h2⟩:=trodAll_cons h;simp [KJ h2]
theorem IZ {sp:Nat→Bool} (hk:∀b,b<w.heap.size→w'.heap[b]? = w.heap[b]?) {d:Nat}:∀{ts:List TypeId} {vs:List Value} {ds:List (DataW H)} {p:List MemPlace},ts.all (M5 P d)=true→
  DataW.TrodAll enc P w base (fun _=>true) held ts vs ds p→(∀x∈p,sp x.block=true)→DataW.TrodAll enc P w' base sp held ts vs ds p
 |[],vs,ds,p,_,h,_=>by obtain ⟨rfl,rfl,rfl⟩:=trodAll_nil h;exact rfl
 |t::ts,vs,ds,p,hok,h,hp=>by obtain ⟨v,vs',d1,ds',p1,q,rfl,rfl,rfl,h1,h2⟩:=trodAll_cons h;simp only [all_cons,and_eq_true] at hok;obtain ⟨fuel,h1⟩:=h1;exact trodAll_cons_mk ⟨fuel,Tc hk d hok.1 h1 fun x hx=>hp x (mem_append_left _ hx)⟩ (IZ hk hok.2 h2 fun x hx=>hp x (mem_append_right _ hx))
theorem M4 {f:Func} {s:ChangeSpec} {apart fresh handsOn again:Bool} {W W':World} {args:Array Value} {v:Value} {ds gs:List (DataW H)} {before pa pv:List MemPlace}
  (hW:DataW.Whole enc P f.params.toList s.vars apart W args.toList ds gs before)
  (hres:∀(b:Nat) (sp:Nat→Bool) (hd:Bool),DataW.TrodAll enc P W' b sp hd f.resultTypes.toList (v.resultList f.resultTypes.size) (s.fn H (ds++gs)).results [])
  (hargs:∀sp:Nat→Bool,(∀p∈before,sp p.block=true)→DataW.TrodAll enc P W' 0 sp true f.params.toList args.toList (s.fn H (ds++gs)).args pa)
  (hvars:∀sp:Nat→Bool,(∀p∈before,sp p.block=true)→DataW.TrodVars enc P W' sp s.vars (s.fn H (ds++gs)).vars pv)
  (hps:before=pa++pv) (hb:Below W.heap.size W W')
  (hok:∀(j:Nat) (t:TypeId) (r:Value),f.resultTypes[j]? = some t→(v.resultList f.resultTypes.size)[j]? = some r→Value.okWide P W' .any 0 t r) :
  s.post enc P f apart fresh handsOn again W args v W':=by
 have hlt:∀p∈before,p.block<W.heap.size:=fun p hp=>hW.lt p hp;have hold:∀p∈before,(fun b=>decide (b<W.heap.size)) p.block=true:=fun p hp=>by simpa using hlt p hp
 refine ⟨ds,gs,before,[],pa,pv,hW,hres _ _ _,hargs _ hold,hvars _ hold,World.keptBut_mono (fun p hp=>⟨hp,?_⟩) (hb.frame (· ∈before)),fun _ => ?_⟩
 ·rw [hps,mem_append] at hp;exact Or.inr hp
 ·obtain ⟨_,_,_,_,_,hz,hn⟩:=hW;refine ⟨hok,_,_,([]++pa)++pv,⟨[]++pa,pv,trodAll_append (hargs _ (fun _ _=>rfl)) (hres _ _ _),hvars _ (fun _ _=>rfl),rfl,?_,?_⟩,?_⟩
  ·intro b off hp;have hin:MemPlace.cell b off∈before:=by rw [hps];simpa using hp
   rw [hb.frozen (hlt _ hin)];exact hz b off hin
  ·intro ha;have:=hn ha;rw [hps] at this;simpa using this
  ·intro p hp _;rw [hps];simpa using hp
theorem I6 {C:Cfg} (hmix:C.P.follows .mixedOrders=true) (hext:Mw C) {f:FuncId} {fn:Func} {s:ChangeSpec} {bt:TypeId} {d:Nat} (hlt:f<OWN) (hf:C.P.funcs[f]? = some fn) (hvars:s.vars=[]) (hps:fn.params.toList.all (M5 C.P d)=true) (hsz:(fn.params.toList.all fun t=>(BZ C.P t).isSome)=true)
  (hrt:fn.resultTypes = #[bt]) (hbt:C.P.underlying bt=some .bool)
  (hspec:∀(H:Type) (ds:List (DataW H)),ds.length=fn.params.size→(s.fn H ds).results=[.lit (.bool true)]∧(s.fn H ds).args=ds∧(s.fn H ds).vars=[])
  (law:∀xs,E6 (Typed C.P d) fn.params.toList xs→∃n,AK C n f xs=some [.bool true])
  {apart fresh handsOn again:Bool} (W:World) (b0:Nat) (args:Array Value) (ds gs:List (DataW H)) (before:List MemPlace)
  (hval:∀(j:Nat) t v,fn.params[j]? = some t→args[j]? = some v→Value.okWide C.P W .any b0 t v)
  (hW:DataW.Whole enc C.P fn.params.toList s.vars apart W args.toList ds gs before) :
  Calls C.P f args W fun e W'=>∃v,e = .returned v∧s.post enc C.P fn apart fresh handsOn again W args v W':=by
 have hW':=hW;obtain ⟨p,q,hA,hV,hbf,hfz,hnd⟩:=hW;rw [hvars] at hV;obtain ⟨rfl,rfl⟩:=trodVars_none hV;have hlen:ds.length=fn.params.size:=by have:=KJ hA;simpa using this
 obtain ⟨s1,s2,s3⟩:=hspec H (ds++[]) (by simpa using hlen);obtain ⟨xs,h1,h2⟩:=JO (b0:=b0) hps hsz (fun j t v ht hv=>hval j t v (by rw [← getElem?_toList];exact ht) (by rw [← getElem?_toList];exact hv)) hA;obtain ⟨n,hn⟩:=law xs h1;obtain ⟨avs,h3,h4⟩:=h2 (fun i =>.t (xs.getD i default)) 0 fun j x hx=>by rw [zero_add];simp [List.getD,hx]
 have hm:DH C.P f (fun i =>.t (xs.getD i default))=some avs:=by unfold DH;rw [hf];exact h3
 have h4':Aa (fun _=>False) [] [] W avs args:=by simpa using h4
 have hpure:=Qm hmix hext hlt hn (fun _=>False) W avs args 0 hm (fun b hb=>hb.elim) h4';refine (callsIn_wide (n:=0)).1 (CallsIn.mono hpure ?_)
 rintro e W' ⟨v,r,rfl,hr,hv,hg,_⟩
 have hbv:v = .bool true:=by
  unfold CQ at hr;rw [hf] at hr;simp only [hrt] at hr;have:Az C.P bt=some false:=by simp [Az,hbt]
  cases hs:BZ C.P bt<;>simp [CB,Gq,this,hs] at hr<;>subst hr<;>(cases hv with|t _ _ ht=>cases ht;rfl)
 subst hbv;refine ⟨_,rfl,?_⟩;simp only [append_nil] at hbf;subst hbf;refine M4 (pa:=before) (pv:=[]) hW' (fun b sp hd => ?_) (fun sp hsp => ?_) (fun sp _ => ?_) (by simp) hg.below ?_
 ·rw [s1,hrt];exact trodAll_cons_mk (shut_bool hbt _) trodAll_mk0
 ·rw [s2,append_nil];exact IZ hg.block hps hA hsp
 ·rw [hvars,s3];rfl
 ·exact ok_one hrt rfl (okWide_bool_mk hbt _)
#print axioms I6
end Ab
namespace Ab
open Go
def hk (l:List (Nat×List Nat)) (i:Nat):List Nat:=(l.lookup i).getD []
def kinds:List IntKind:=[.i8,.i16,.i32,.i64,.u8,.u16,.u32,.u64]
def tmOf:Option Nat→AV
 |none =>.undef
 |some 0 =>.t (.bool false)
 |some (n+1)=>if n<8 then .t (.int (kinds.getD n .i64) 0) else if n=19 then .t (.str ByteArray.empty) else if 99≤n then .t (.sl (n-99) []) else .undef
abbrev HTab:=List (Nat×List (Nat×List Nat)×List (Nat×List Nat)×List (Nat×List Nat)×List (Nat×List Nat)×List (Nat×Nat)×List Nat×List Nat×List Nat×List Nat×List (Nat×Nat))
def Us (tab:HTab) (f:Nat):Hints:=
 match tab.lookup f with
 |some (a,b,c,d,r,t,i,j,k,m)=>{loop:=hk a,block:=hk b,cond:=hk c,reg:=hk d,rowsz:=fun x=>(r.lookup x).getD 0,tree:=t.contains,imm:=i.contains,immT:=j.contains,nilT:=k.contains,tm:=fun x=>tmOf (m.lookup x),split:=fun x=>(hk c x).contains 999999,only:=fun x=>if (hk c x).contains 999998 then 1 else if (hk c x).contains 999997 then 2 else 0}
 |none=>{loop:=fun _=>[],block:=fun _=>[],cond:=fun _=>[],reg:=fun _=>[],rowsz:=fun _=>0,tree:=fun _=>false,imm:=fun _=>false,immT:=fun _=>false,nilT:=fun _=>false,tm:=fun _ =>.undef}
end Ab
namespace Ab
open Go
def Ev (p:Nat→Prop):Prop:=∃N,∀n,N≤n→p n
theorem Ev.of {p:Nat→Prop} (h:∀n,p n):Ev p:=⟨0,fun n _=>h n⟩
theorem Ev.mono {p q:Nat→Prop} (h:∀n,p n→q n):Ev p→Ev q
 |⟨N,hN⟩=>⟨N,fun n hn=>h n (hN n hn)⟩
theorem Ev.and {p q:Nat→Prop}:Ev p→Ev q→Ev fun n=>p n∧q n
 |⟨N,hN⟩,⟨M,hM⟩=>⟨max N M,fun n hn=>⟨hN n (by omega),hM n (by omega)⟩⟩
theorem Ev.rwZ {Z R:Type} {H:Nat→Prop} {T T':Nat→Z→R} {r:Z→R} (hH:Ev H) (h:∀n,H n→∀z,T n z=T' n z) (k:Ev fun n=>∀z,T' n z=r z):Ev fun n=>∀z,T n z=r z:=
 (hH.and k).mono fun n x z=>(h n x.1 z).trans (x.2 z)
theorem Ev.rw {R:Type} {H:Nat→Prop} {T T':Nat→R} {r:R} (hH:Ev H) (h:∀n,H n→T n=T' n) (k:Ev fun n=>T' n=r):Ev fun n=>T n=r:=
 (hH.and k).mono fun n x=>(h n x.1).trans x.2
theorem Ev.succ {p:Nat→Prop}:(Ev fun n=>p (n+1))→Ev p
 |⟨N,hN⟩=>⟨N+1,fun n hn=>by
  obtain ⟨m,rfl⟩:∃m,n=m+1:=⟨n-1,by omega⟩
  exact hN m (by omega)⟩
theorem Ev.ge (k:Nat):Ev fun n=>k≤n:=⟨k,fun _ h=>h⟩
def Ad (C:Cfg) (f:FuncId) (xs ys:List Tree):Prop:=Ev fun n=>AK C n f xs=some ys
theorem Ad.of {C:Cfg} {f:FuncId} {xs ys:List Tree} {g:Nat→Option (List Tree)} (h:∀n,AK C (n+1) f xs=g n) (k:Ev fun n=>g n=some ys):Ad C f xs ys:=
 Ev.succ (k.mono fun n e=>(h n).trans e)
variable {R S α σ:Type}
theorem DC {c:Prop} [Decidable c] (h:c) (a b:Option R):cnd c a b=a:=by rw [AF,if_pos h]
theorem Dm {c:Prop} [Decidable c] (h:¬c) (a b:Option R):cnd c a b=b:=by rw [AF,if_neg h]
inductive Rd (σ Q:Type) where
 |next (s:σ)
 |done (r:Q)
def Rd.go {Q:Type} (again:σ→Option R) (out:Q→Option R):Rd σ Q→Option R
 | .next s=>again s
 | .done r=>out r
def Rd.fin {Q:Type} (res:σ→Q):Rd σ Q→Q
 | .next s=>res s
 | .done r=>r
theorem Rd.Ac {Q:Type} (again:σ→Option R) (out:Q→Option R) (s:σ):(Rd.next s:Rd σ Q).go again out=again s:=rfl
theorem Rd.Ah {Q:Type} (again:σ→Option R) (out:Q→Option R) (r:Q):(Rd.done r:Rd σ Q).go again out=out r:=rfl
theorem Rd.Vk {Q:Type} (again:σ→Option R) (out:Q→Option R) (c:Prop) [Decidable c] (a b:Rd σ Q):(if c then a else b).go again out=if c then a.go again out else b.go again out:=by split<;>rfl
def A6 {Q:Type} (step:Nat→σ→α→Rd σ Q) (fin:σ→Q):Nat→List α→σ→Q
 |_,[],s=>fin s
 |i,x::l,s=>match step i s x with
  | .next s'=>A6 step fin (i+1) l s'
  | .done r=>r
theorem NV {Z Q:Type} {B:Nat→Z→S→(S→Option R)→Option R} (l:List α) (st:Nat→σ→S) (step:Nat→σ→α→Rd σ Q) (fin:σ→Q) (out:Z→Q→Option R) (Inv:Nat→σ→Prop)
  (hstep:∀i s x,l[i]? = some x→Inv i s→Ev fun n=>∀z again,B n z (st i s) again=(step i s x).go (fun s'=>again (st (i+1) s')) (out z))
  (hinv:∀i s x s',l[i]? = some x→Inv i s→step i s x = .next s'→Inv (i+1) s')
  (hend:∀s,Inv l.length s→Ev fun n=>∀z again,B n z (st l.length s) again=out z (fin s)) :
  ∀(k i:Nat) (s:σ),i+k=l.length→Inv i s→Ev fun n=>∀z m,k<m→AI (B n z) m (st i s)=out z (A6 step fin i (l.drop i) s)
 |0,i,s,hi,hI=>by
  obtain rfl:i=l.length:=by omega
  refine (hend s hI).mono fun n h z m hm => ?_;obtain ⟨m,rfl⟩:∃q,m=q+1:=⟨m-1,by omega⟩
  show B n z _ _=_;rw [h];simp [A6]
 |k+1,i,s,hi,hI=>by
  have hlt:i<l.length:=by omega
  have hx:l[i]? = some l[i]:=getElem?_eq_getElem hlt;have hd:l.drop i=l[i]::l.drop (i+1):=List.drop_eq_getElem_cons hlt;cases hs:step i s l[i] with
  |next s'=>
   have ih:=NV l st step fin out Inv hstep hinv hend k (i+1) s' (by omega) (hinv i s _ s' hx hI hs);refine ((hstep i s _ hx hI).and ih).mono fun n h z m hm => ?_;obtain ⟨m,rfl⟩:∃q,m=q+1:=⟨m-1,by omega⟩
   show B n z _ (AI (B n z) m)=_;rw [h.1,hs,hd];simp only [Rd.Ac,A6,hs];exact h.2 z m (by omega)
  |done r=>
   refine (hstep i s _ hx hI).mono fun n h z m hm => ?_;obtain ⟨m,rfl⟩:∃q,m=q+1:=⟨m-1,by omega⟩
   show B n z _ (AI (B n z) m)=_;rw [h,hs,hd];simp only [Rd.Ah,A6,hs]
theorem MJ {Z Q:Type} {B:Nat→Z→S→(S→Option R)→Option R} (l:List α) (st:Nat→σ→S) (step:Nat→σ→α→Rd σ Q) (fin:σ→Q) (out:Z→Q→Option R) (Inv:Nat→σ→Prop) (s0:σ) (h0:Inv 0 s0)
  (hstep:∀i s x,l[i]? = some x→Inv i s→Ev fun n=>∀z again,B n z (st i s) again=(step i s x).go (fun s'=>again (st (i+1) s')) (out z))
  (hinv:∀i s x s',l[i]? = some x→Inv i s→step i s x = .next s'→Inv (i+1) s')
  (hend:∀s,Inv l.length s→Ev fun n=>∀z again,B n z (st l.length s) again=out z (fin s)) :
  Ev fun n=>∀z,AI (B n z) n (st 0 s0)=out z (A6 step fin 0 l s0):=by
 have h:=NV l st step fin out Inv hstep hinv hend l.length 0 s0 (by omega) h0;refine (h.and (Ev.ge (l.length+1))).mono fun n x z => ?_;have:=x.1 z n (by omega);simpa using this
theorem ev_loop {B:Nat→S→(S→Option R)→Option R} (l:List α) (st:Nat→σ→S) (step:Nat→σ→α→Rd σ R) (fin:σ→R) (Inv:Nat→σ→Prop) (s0:σ) (h0:Inv 0 s0)
  (hstep:∀i s x,l[i]? = some x→Inv i s→Ev fun n=>∀again,B n (st i s) again=(step i s x).go (fun s'=>again (st (i+1) s')) some)
  (hinv:∀i s x s',l[i]? = some x→Inv i s→step i s x = .next s'→Inv (i+1) s')
  (hend:∀s,Inv l.length s→Ev fun n=>∀again,B n (st l.length s) again=some (fin s)) :
  Ev fun n=>AI (B n) n (st 0 s0)=some (A6 step fin 0 l s0):=
 (MJ (Z:=Unit) (B:=fun n _=>B n) l st step fin (fun _=>some) Inv s0 h0 (fun i s x hx hI=>(hstep i s x hx hI).mono fun n h _=>h) hinv fun s hI=>(hend s hI).mono fun n h _=>h).mono fun n h=>h ()
theorem K9 {Z Q:Type} {B:Nat→Z→S→(S→Option R)→Option R} (st:σ→S) (step:σ→Rd σ Q) (out:Z→Q→Option R) (Inv:σ→Prop) (μ:σ→Nat)
  (hstep:∀s,Inv s→Ev fun n=>∀z again,B n z (st s) again=(step s).go (fun s'=>again (st s')) (out z))
  (hinv:∀s s',Inv s→step s = .next s'→Inv s'∧μ s'<μ s) (res:σ→Q) (hres:∀s,Inv s→res s=(step s).fin res) :
  ∀(k:Nat) (s:σ),μ s≤k→Inv s→Ev fun n=>∀z m,k<m→AI (B n z) m (st s)=out z (res s)
 |k,s,hk,hI=>by
  cases hs:step s with
  |next s'=>
   obtain ⟨h1,h2⟩:=hinv s s' hI hs;obtain ⟨k,rfl⟩:∃q,k=q+1:=⟨k-1,by omega⟩
   have ih:=K9 st step out Inv μ hstep hinv res hres k s' (by omega) h1;refine ((hstep s hI).and ih).mono fun n h z m hm => ?_;obtain ⟨m,rfl⟩:∃q,m=q+1:=⟨m-1,by omega⟩
   show B n z _ (AI (B n z) m)=_;rw [h.1,hs,Rd.Ac,hres s hI,hs];show _=out z (res s');exact h.2 z m (by omega)
  |done r=>
   refine (hstep s hI).mono fun n h z m hm => ?_;obtain ⟨m,rfl⟩:∃q,m=q+1:=⟨m-1,by omega⟩
   show B n z _ (AI (B n z) m)=_;rw [h,hs,Rd.Ah,hres s hI,hs];rfl
theorem UE {Z Q:Type} {B:Nat→Z→S→(S→Option R)→Option R} (st:σ→S) (step:σ→Rd σ Q) (out:Z→Q→Option R) (Inv:σ→Prop) (μ:σ→Nat) (s0:σ) (h0:Inv s0)
  (hstep:∀s,Inv s→Ev fun n=>∀z again,B n z (st s) again=(step s).go (fun s'=>again (st s')) (out z))
  (hinv:∀s s',Inv s→step s = .next s'→Inv s'∧μ s'<μ s) (res:σ→Q) (hres:∀s,Inv s→res s=(step s).fin res) :
  Ev fun n=>∀z,AI (B n z) n (st s0)=out z (res s0):=by
 have h:=K9 st step out Inv μ hstep hinv res hres (μ s0) s0 (le_refl _) h0;exact (h.and (Ev.ge (μ s0+1))).mono fun n x z=>x.1 z n (by omega)
theorem T2 {B:Nat→S→(S→Option R)→Option R} {s:S} {r:R} (l:List α) (st:Nat→σ→S) (step:Nat→σ→α→Rd σ R) (fin:σ→R) (Inv:Nat→σ→Prop) (s0:σ) (hs:s=st 0 s0) (h0:Inv 0 s0) (hr:A6 step fin 0 l s0=r)
  (hstep:∀i s x,l[i]? = some x→Inv i s→Ev fun n=>∀again,B n (st i s) again=(step i s x).go (fun s'=>again (st (i+1) s')) some)
  (hinv:∀i s x s',l[i]? = some x→Inv i s→step i s x = .next s'→Inv (i+1) s')
  (hend:∀s,Inv l.length s→Ev fun n=>∀again,B n (st l.length s) again=some (fin s)) :
  Ev fun n=>AI (B n) n s=some r:=by
 subst hs;subst hr;exact ev_loop l st step fin Inv s0 h0 hstep hinv hend
theorem BC {Z Q:Type} {B:Nat→Z→S→(S→Option R)→Option R} {s:S} {r:Q} (l:List α) (st:Nat→σ→S) (step:Nat→σ→α→Rd σ Q) (fin:σ→Q) (out:Z→Q→Option R) (Inv:Nat→σ→Prop) (s0:σ) (hs:s=st 0 s0) (h0:Inv 0 s0) (hr:A6 step fin 0 l s0=r)
  (hstep:∀i s x,l[i]? = some x→Inv i s→Ev fun n=>∀z again,B n z (st i s) again=(step i s x).go (fun s'=>again (st (i+1) s')) (out z))
  (hinv:∀i s x s',l[i]? = some x→Inv i s→step i s x = .next s'→Inv (i+1) s')
  (hend:∀s,Inv l.length s→Ev fun n=>∀z again,B n z (st l.length s) again=out z (fin s)) :
  Ev fun n=>∀z,AI (B n z) n s=out z r:=by
 subst hs;subst hr;exact MJ l st step fin out Inv s0 h0 hstep hinv hend
theorem MP {i:Decidable True} (a b:Option R):cnd True a b=a:=DC trivial a b
theorem UN {i:Decidable False} (a b:Option R):cnd False a b=b:=Dm id a b
theorem wrap64 (x:Int):IntKind.wrap .i64 x=(x+9223372036854775808) % 18446744073709551616-9223372036854775808:=by simp only [IntKind.wrap,IntKind.signed,IntKind.bits];simp;omega
theorem HG {x:Int} (h1 : -9223372036854775808≤x) (h2:x<9223372036854775808):IntKind.wrap .i64 x=x:=by rw [wrap64];omega
abbrev tI (n:Int):Tree :=.int .i64 n
abbrev w64 (n:Int):Int:=IntKind.wrap .i64 n
def vI (p:List AV×Heap) (k:Nat):Int:=intOf (A2 (p.1.getD k .undef))
def vB (p:List AV×Heap) (k:Nat):Bool:=Cq (A2 (p.1.getD k .undef))
def vS (p:List AV×Heap) (k:Nat):ByteArray:=strOf (A2 (p.1.getD k .undef))
def vL (p:List AV×Heap) (k:Nat):List (List Tree):=Fa (A2 (p.1.getD k .undef))
def Bu (p:List AV×Heap) (k:Nat):Nat:=E9 (p.1.getD k .undef)
def C8 (p:List AV×Heap) (k:Nat):Nat:=Hu (p.1.getD k .undef)
def Av (p:List AV×Heap) (k:Nat):Nat:=Hv (p.1.getD k .undef)
def AO (p:List AV×Heap) (k:Nat):Nat:=AE.ver (p.2.getD k default)
def oMs (p:List AV×Heap) (k:Nat):List (Int×Int):=Lq (p.2.getD k default)
def oEs (p:List AV×Heap) (k:Nat):List (List Tree):=Rs (p.2.getD k default)
def cI (p:List AV×Heap) (k j:Nat):Int:=intOf (A2 (cellOf (p.2.getD k default) j))
def cB (p:List AV×Heap) (k j:Nat):Bool:=Cq (A2 (cellOf (p.2.getD k default) j))
def cS (p:List AV×Heap) (k j:Nat):ByteArray:=strOf (A2 (cellOf (p.2.getD k default) j))
def cL (p:List AV×Heap) (k j:Nat):List (List Tree):=Fa (A2 (cellOf (p.2.getD k default) j))
def AL (p:List AV×Heap) (k j:Nat):Nat:=E9 (cellOf (p.2.getD k default) j)
def AP (p:List AV×Heap) (k j:Nat):Nat:=Hu (cellOf (p.2.getD k default) j)
def AM (p:List AV×Heap) (k j:Nat):Nat:=Hv (cellOf (p.2.getD k default) j)
def aI (p:List AV×Heap) (k j:Nat):Int:=intOf (A2 (cellOf (.box (ER (p.1.getD k .undef))) j))
def aB (p:List AV×Heap) (k j:Nat):Bool:=Cq (A2 (cellOf (.box (ER (p.1.getD k .undef))) j))
def aS (p:List AV×Heap) (k j:Nat):ByteArray:=strOf (A2 (cellOf (.box (ER (p.1.getD k .undef))) j))
def aL (p:List AV×Heap) (k j:Nat):List (List Tree):=Fa (A2 (cellOf (.box (ER (p.1.getD k .undef))) j))
def gI (y:List Tree) (k:Nat):Int:=intOf (y.getD k default)
def gB (y:List Tree) (k:Nat):Bool:=Cq (y.getD k default)
def gS (y:List Tree) (k:Nat):ByteArray:=strOf (y.getD k default)
def gL (y:List Tree) (k:Nat):List (List Tree):=Fa (y.getD k default)
def okI (y:List Tree) (k:Nat):Prop:=FU .i64 (y.getD k default)=true
def okB (y:List Tree) (k:Nat):Prop:=EJ (y.getD k default)=true
def okS (y:List Tree) (k:Nat):Prop:=FT (y.getD k default)=true
def okL (z:Nat) (y:List Tree) (k:Nat):Prop:=FF z (y.getD k default)=true
instance (y:List Tree) (k:Nat):Decidable (okI y k):=inferInstanceAs (Decidable (_=true))
instance (y:List Tree) (k:Nat):Decidable (okB y k):=inferInstanceAs (Decidable (_=true))
instance (y:List Tree) (k:Nat):Decidable (okS y k):=inferInstanceAs (Decidable (_=true))
instance (z:Nat) (y:List Tree) (k:Nat):Decidable (okL z y k):=inferInstanceAs (Decidable (_=true))
theorem AQ {i:Nat} (h:i<4611686018427387904):w64 ((i:Int)+1)=((i+1:Nat):Int):=by show IntKind.wrap .i64 _=_;rw [wrap64];omega
theorem IX {i:Nat} (h:i<4611686018427387904) (h0:0<i):w64 ((i:Int)-1)=((i-1:Nat):Int):=by show IntKind.wrap .i64 _=_;rw [wrap64];omega
theorem Ay {x:Int} (h1 : -9223372036854775808≤x) (h2:x<9223372036854775808):w64 x=x:=HG h1 h2
theorem Bg {Q:Type} (f:σ→α→σ) (fin:σ→Q):∀(i:Nat) (l:List α) (s:σ),A6 (fun _ s x =>.next (f s x)) fin i l s=fin (l.foldl f s)
 |_,[],_=>rfl
 |i,x::l,s=>by show A6 (fun _ s x =>.next (f s x)) fin (i+1) l (f s x)=_;rw [Bg f fin (i+1) l];rfl
theorem foldl_filterMap {β:Type} (g:α→Option β):∀(l:List α) (s:List β),l.foldl (fun s x=>s++(g x).toList) s=s++l.filterMap g
 |[],s=>by simp
 |x::l,s=>by rw [foldl_cons,foldl_filterMap g l];cases h:g x<;>simp [h]
theorem AJ {l:List α} {i:Nat} {x:α} (h:l[i]? = some x):i<l.length:=(List.getElem?_eq_some_iff.1 h).1
theorem tI_ite (c:Prop) [Decidable c] (a b:Int):(if c then some [tI a] else some [tI b])=some [tI (if c then a else b)]:=by split<;>rfl
theorem Eo (c:Prop) [Decidable c] (a b:Int):cnd c (some [tI a]) (some [tI b])=some [tI (if c then a else b)]:=by rw [AF,tI_ite]
theorem Ae {Q:Type} {B:Nat→S→(S→Option R)→Option R} {s:S} (out:Q→R) (l:List α) (st:Nat→σ→S) (step:Nat→σ→α→Rd σ Q) (fin:σ→Q) (Inv:Nat→σ→Prop) (s0:σ) (hs:s=st 0 s0) (h0:Inv 0 s0) {r:Q} (hr:A6 step fin 0 l s0=r)
  (hstep:∀i s x,l[i]? = some x→Inv i s→Ev fun n=>∀again,B n (st i s) again=(step i s x).go (fun s'=>again (st (i+1) s')) (fun q=>some (out q)))
  (hinv:∀i s x s',l[i]? = some x→Inv i s→step i s x = .next s'→Inv (i+1) s')
  (hend:∀s,Inv l.length s→Ev fun n=>∀again,B n (st l.length s) again=some (out (fin s))) :
  Ev fun n=>AI (B n) n s=some (out r):=by
 subst hs;subst hr;exact (MJ (Z:=Unit) (B:=fun n _=>B n) l st step fin (fun _ q=>some (out q)) Inv s0 h0 (fun i s x hx hI=>(hstep i s x hx hI).mono fun n h _=>h) hinv fun s hI=>(hend s hI).mono fun n h _=>h).mono fun n h=>h ()
theorem E8 {Z Q:Type} {B:Nat→Z→S→(S→Option R)→Option R} {s:S} {r:Q} (out:Z→Q→Option R) (st:σ→S) (step:σ→Rd σ Q) (Inv:σ→Prop) (μ:σ→Nat) (res:σ→Q) (s0:σ) (hs:s=st s0) (h0:Inv s0) (hr:res s0=r)
  (hstep:∀s,Inv s→Ev fun n=>∀z again,B n z (st s) again=(step s).go (fun s'=>again (st s')) (out z))
  (hinv:∀s s',Inv s→step s = .next s'→Inv s'∧μ s'<μ s) (hres:∀s,Inv s→res s=(step s).fin res) :
  Ev fun n=>∀z,AI (B n z) n s=out z r:=by
 subst hs;subst hr;exact UE st step out Inv μ s0 h0 hstep hinv res hres
theorem GW {Q:Type} {B:Nat→S→(S→Option R)→Option R} {s:S} {r:Q} (out:Q→R) (st:σ→S) (step:σ→Rd σ Q) (Inv:σ→Prop) (μ:σ→Nat) (res:σ→Q) (s0:σ) (hs:s=st s0) (h0:Inv s0) (hr:res s0=r)
  (hstep:∀s,Inv s→Ev fun n=>∀again,B n (st s) again=(step s).go (fun s'=>again (st s')) (fun q=>some (out q)))
  (hinv:∀s s',Inv s→step s = .next s'→Inv s'∧μ s'<μ s) (hres:∀s,Inv s→res s=(step s).fin res) :
  Ev fun n=>AI (B n) n s=some (out r):=
 (E8 (Z:=Unit) (B:=fun n _=>B n) (fun _ q=>some (out q)) st step Inv μ res s0 hs h0 hr (fun s hI=>(hstep s hI).mono fun n h _=>h) hinv hres).mono fun n h=>h ()
theorem Gf (p:α→Bool):∀(i:Nat) (l:List α),A6 (fun _ (_:Unit) x=>if p x=true then .done true else .next ()) (fun _=>false) i l ()=l.any p
 |_,[]=>rfl
 |i,x::l=>by
  by_cases h:p x=true
  ·simp [A6,h]
  ·simp only [A6,h,any_cons];simp at h;simp [Gf p (i+1) l]
theorem Il {Q:Type} (p:α→Bool) (a b:Q):∀(i:Nat) (l:List α),A6 (fun _ (_:Unit) x=>if p x=true then .next () else .done a) (fun _=>b) i l ()=if l.all p=true then b else a
 |_,[]=>rfl
 |i,x::l=>by
  by_cases h:p x=true
  ·simp [A6,h,Il p a b (i+1) l]
  ·simp [A6,h]
theorem vI_mk (e:List AV) (h:Heap) (k:Nat):vI (e,h) k=intOf (A2 (e.getD k .undef)):=id rfl
theorem vB_mk (e:List AV) (h:Heap) (k:Nat):vB (e,h) k=Cq (A2 (e.getD k .undef)):=id rfl
theorem vS_mk (e:List AV) (h:Heap) (k:Nat):vS (e,h) k=strOf (A2 (e.getD k .undef)):=id rfl
theorem vL_mk (e:List AV) (h:Heap) (k:Nat):vL (e,h) k=Fa (A2 (e.getD k .undef)):=id rfl
theorem sVer_mk (e:List AV) (h:Heap) (k:Nat):Bu (e,h) k=E9 (e.getD k .undef):=id rfl
theorem sOff_mk (e:List AV) (h:Heap) (k:Nat):C8 (e,h) k=Hu (e.getD k .undef):=id rfl
theorem sLen_mk (e:List AV) (h:Heap) (k:Nat):Av (e,h) k=Hv (e.getD k .undef):=id rfl
theorem oVer_mk (e:List AV) (h:Heap) (k:Nat):AO (e,h) k=AE.ver (h.getD k default):=id rfl
theorem oMs_mk (e:List AV) (h:Heap) (k:Nat):oMs (e,h) k=Lq (h.getD k default):=id rfl
theorem RZ (k ke:IntKind) (es:List (Int×Int)):Lq (.mapo k ke es)=es:=id rfl
theorem oEs_mk (e:List AV) (h:Heap) (k:Nat):oEs (e,h) k=Rs (h.getD k default):=id rfl
theorem cI_mk (e:List AV) (h:Heap) (k j:Nat):cI (e,h) k j=intOf (A2 (cellOf (h.getD k default) j)):=id rfl
theorem cB_mk (e:List AV) (h:Heap) (k j:Nat):cB (e,h) k j=Cq (A2 (cellOf (h.getD k default) j)):=id rfl
theorem cS_mk (e:List AV) (h:Heap) (k j:Nat):cS (e,h) k j=strOf (A2 (cellOf (h.getD k default) j)):=id rfl
theorem cL_mk (e:List AV) (h:Heap) (k j:Nat):cL (e,h) k j=Fa (A2 (cellOf (h.getD k default) j)):=id rfl
theorem cVer_mk (e:List AV) (h:Heap) (k j:Nat):AL (e,h) k j=E9 (cellOf (h.getD k default) j):=id rfl
theorem cOff_mk (e:List AV) (h:Heap) (k j:Nat):AP (e,h) k j=Hu (cellOf (h.getD k default) j):=id rfl
theorem cLen_mk (e:List AV) (h:Heap) (k j:Nat):AM (e,h) k j=Hv (cellOf (h.getD k default) j):=id rfl
theorem aI_mk (e:List AV) (h:Heap) (k j:Nat):aI (e,h) k j=intOf (A2 ((ER (e.getD k .undef)).getD j .undef)):=id rfl
theorem aB_mk (e:List AV) (h:Heap) (k j:Nat):aB (e,h) k j=Cq (A2 ((ER (e.getD k .undef)).getD j .undef)):=id rfl
theorem aS_mk (e:List AV) (h:Heap) (k j:Nat):aS (e,h) k j=strOf (A2 ((ER (e.getD k .undef)).getD j .undef)):=id rfl
theorem aL_mk (e:List AV) (h:Heap) (k j:Nat):aL (e,h) k j=Fa (A2 ((ER (e.getD k .undef)).getD j .undef)):=id rfl
theorem Ub (cs:List AV):ER (.agg cs)=cs:=id rfl
theorem join_eq {S:Type} (J:S→Option R) (f:(S→Option R)→Option R):join J f=f J:=id rfl
theorem gI_zero (x:Tree) (l:List Tree):gI (x::l) 0=intOf x:=id rfl
theorem gI_succ (x:Tree) (l:List Tree) (k:Nat):gI (x::l) (k+1)=gI l k:=id rfl
theorem gB_zero (x:Tree) (l:List Tree):gB (x::l) 0=Cq x:=id rfl
theorem gB_succ (x:Tree) (l:List Tree) (k:Nat):gB (x::l) (k+1)=gB l k:=id rfl
theorem gS_zero (x:Tree) (l:List Tree):gS (x::l) 0=strOf x:=id rfl
theorem gS_succ (x:Tree) (l:List Tree) (k:Nat):gS (x::l) (k+1)=gS l k:=id rfl
theorem gL_zero (x:Tree) (l:List Tree):gL (x::l) 0=Fa x:=id rfl
theorem gL_succ (x:Tree) (l:List Tree) (k:Nat):gL (x::l) (k+1)=gL l k:=id rfl
theorem VN (x:Tree) (l:List Tree):okI (x::l) 0=(FU .i64 x=true):=id rfl
theorem VO (x:Tree) (l:List Tree) (k:Nat):okI (x::l) (k+1)=okI l k:=id rfl
theorem VP (x:Tree) (l:List Tree):okB (x::l) 0=(EJ x=true):=id rfl
theorem VQ (x:Tree) (l:List Tree) (k:Nat):okB (x::l) (k+1)=okB l k:=id rfl
theorem VJ (x:Tree) (l:List Tree):okS (x::l) 0=(FT x=true):=id rfl
theorem VK (x:Tree) (l:List Tree) (k:Nat):okS (x::l) (k+1)=okS l k:=id rfl
theorem VL (z:Nat) (x:Tree) (l:List Tree):okL z (x::l) 0=(FF z x=true):=id rfl
theorem VM (z:Nat) (x:Tree) (l:List Tree) (k:Nat):okL z (x::l) (k+1)=okL z l k:=id rfl
theorem Rh (k:IntKind) (n:Int):FU k (.int k n)=true:=decide_eq_true rfl
theorem Ob (b:Bool):EJ (.bool b)=true:=id rfl
theorem Rg (b:ByteArray):FT (.str b)=true:=id rfl
theorem Ve (z:Nat) (es:List (List Tree)):FF z (.sl z es)=true:=by simp [FF]
theorem intOf_int (k:IntKind) (n:Int):intOf (.int k n)=n:=id rfl
theorem Qe (b:Bool):Cq (.bool b)=b:=id rfl
theorem Td (b:ByteArray):strOf (.str b)=b:=id rfl
theorem slOf_sl (z:Nat) (es:List (List Tree)):Fa (.sl z es)=es:=id rfl
theorem Uo (x:Tree):A2 (.t x)=x:=id rfl
theorem Q6 (i v o l:Nat):E9 (.sref i v o l)=v:=id rfl
theorem Q7 (i v k o:Nat):E9 (.rptr i v k o)=v:=id rfl
theorem Q8 (i v o l:Nat):Hu (.sref i v o l)=o:=id rfl
theorem Q9 (i v o l:Nat):Hv (.sref i v o l)=l:=id rfl
theorem ver_row (f:Bool) (v z:Nat) (es:List (List Tree)):AE.ver (.row f v z es)=v:=id rfl
theorem Vn (f:Bool) (v z:Nat) (es:List (List Tree)):Rs (.row f v z es)=es:=id rfl
theorem R9 (cs:List AV) (j:Nat):cellOf (.box cs) j=cs.getD j .undef:=id rfl
end Ab
namespace Ab
open Go
def Pb (r:Int):Int:=if r.tmod 2=1 then xorK .u32 (IntKind.u32.wrap (r.tdiv 2)) 2197175160 else IntKind.u32.wrap (r.tdiv 2)
def steps:Nat→Int→Int
 |0,r=>r
 |k+1,r=>steps k (Pb r)
theorem LJ (k:Nat) (r:Int):steps (k+1) r=Pb (steps k r):=by
 induction k generalizing r with
 |zero=>rfl
 |succ k ih=>rw [steps,ih (Pb r)];rfl
def Am (i:Nat):Array Value:=((List.range 256).map fun j=>if j<i then Value.int .u32 (steps 8 j) else .int .u32 0).toArray
theorem C6 (i:Nat):(Am i).size=256:=by simp [Am]
theorem Qa:Am 0=Array.replicate 256 (.int .u32 0):=by
 apply Array.ext
 ·simp [Am]
 ·intro j h1 h2;simp [Am]
theorem Qb (i:Nat) (hi:i<256):Am (i+1)=(Am i).setIfInBounds i (.int .u32 (steps 8 i)):=by
 apply Array.ext
 ·simp [Am]
 ·intro j h1 h2;have hj:j<256:=by rw [C6] at h1;exact h1
  rw [Array.getElem_setIfInBounds]
  ·simp only [Am,List.getElem_toArray,List.getElem_map,List.getElem_range];by_cases h:i=j
   ·subst h;simp
   ·by_cases h2:j<i
    ·simp [h,h2,show j<i+1 by omega]
    ·simp [h,h2,show ¬j<i+1 by omega]
  ·rw [C6];exact hj
theorem R8 (i:Nat):(Am i).all (·.oneCell')=true:=by rw [Array.all_eq_true_iff_forall_mem];intro v hv;simp only [Am,List.mem_toArray,mem_map,mem_range] at hv;obtain ⟨j,_,rfl⟩:=hv;split<;>rfl
theorem MS (i j:Nat) (hj:j<256):(Am i)[j]? = some (if j<i then Value.int .u32 (steps 8 j) else .int .u32 0):=by simp [Am,hj]
def PU:List Tree:=(List.range 256).map fun j =>.int .u32 (steps 8 (j:Nat))
end Ab
namespace Ab
open Go Go.Proofs Go.Shelf Go.RowKit Go.Lib Go.Sort
variable {P:Program}
def CU (z:Nat) (e:List Tree):List Value:=(List.range z).map fun c =>.int .i64 (intOf (e.getD c default))
theorem QN (z:Nat) (e:List Tree):(CU z e).length=z:=by simp [CU]
theorem QM (z:Nat) (e:List Tree):∀v∈CU z e,v.oneCell'=true:=fun v hv=>by simp only [CU,mem_map] at hv;obtain ⟨c,_,rfl⟩:=hv;rfl
theorem encZ_of {z:Nat} {e:List Tree} (h:e.length=z):CU z e=e.map fun x =>.int .i64 (intOf x):=by
 apply ext_getElem?;intro j;simp only [CU,getElem?_map];by_cases hj:j<z
 ·rw [getElem?_range hj];simp [List.getD,getElem?_eq_getElem (show j<e.length by omega)]
 ·rw [getElem?_eq_none (show e.length≤j by omega),getElem?_eq_none (by simpa using not_lt.1 hj)];rfl
def GV (cf:List Tree→List Tree→Int) (d:List (List Tree)):List (List Tree):=(pdq (ltOf cf) d.toArray 0 d.length (Lib.bitLen d.length) true true).toList
theorem Tr {cf:List Tree→List Tree→Int} (hO:SWO (ltOf cf)) (d:List (List Tree)):(GV cf d).Perm d∧SortedIn (ltOf cf) 0 d.length (pdq (ltOf cf) d.toArray 0 d.length (Lib.bitLen d.length) true true):=by
 have h:=pdq_sorts (ltOf cf) hO d.toArray 0 d.length (Lib.bitLen d.length) true true (zero_le _) (by simp) (Or.inl rfl);obtain ⟨⟨h1,h2,h3⟩,h4⟩:=h;refine ⟨?_,h4⟩;unfold GV;have e1:(pdq (ltOf cf) d.toArray 0 d.length (Lib.bitLen d.length) true true).extract 0 d.length=pdq (ltOf cf) d.toArray 0 d.length (Lib.bitLen d.length) true true:=by rw [Array.extract_eq_self_of_le];rw [h1];simp
 have e2:d.toArray.extract 0 d.length=d.toArray:=by rw [Array.extract_eq_self_of_le];simp
 rw [e1,e2] at h3;simpa using h3
theorem D0 {cf:List Tree→List Tree→Int} (hO:SWO (ltOf cf)) (d:List (List Tree)):(GV cf d).Perm d:=(Tr hO d).1
structure TY (P:Program) (g:FuncId) (z:Nat) (cf:List Tree→List Tree→Int):Prop where
 enters:∀args w,(callFunc g args).run P w = .ok (.enter g args) w
 swo:SWO (ltOf cf)
 calls:∀(x y:List Tree) (w:World),Calls P g #[.agg (CU z x).toArray,.agg (CU z y).toArray] w fun e w'=>e = .returned (.int .i64 (cf x y))∧∃q os',w'=grow (w.drewN q) os'
theorem II (z:Nat) (d:List (List Tree)) (h:Ax z d=true):(Sort.flatK (CU z) z d.toArray).toList=Ct d:=by
 have hl:=F7 h;apply ext_getElem?;intro q;by_cases hq:q<d.length*z
 ·have hzp:0<z:=pos_of_ne_zero fun e=>by rw [e,Nat.mul_zero] at hq;omega
  have hj:q / z<d.length:=(Nat.div_lt_iff_lt_mul hzp).2 hq;have hc1:q % z<z:=mod_lt _ hzp;have hlen:d[q / z].length=z:=by have:=all_eq_true.1 h d[q / z] (getElem_mem hj);simp only [and_eq_true,beq_iff_eq] at this;exact this.1
  obtain ⟨x,hx⟩:∃x,d[q / z][q % z]? = some x:=⟨_,getElem?_eq_getElem (by rw [hlen];exact hc1)⟩
  obtain ⟨g1,g2,_⟩:=HU h _ _ _ x (getElem?_eq_getElem hj) hx;have hq2:q / z*z+q % z=q:=by rw [mul_comm];exact Nat.div_add_mod q z
  rw [hq2] at g1;have h3:(Ct d)[q]? = some (.int .i64 (intOf x)):=by
   have hlt:q<(Ct d).length:=by omega
   rw [getElem?_eq_getElem hlt];simp only [List.getD,getElem?_eq_getElem hlt,Option.getD_some] at g1;rw [g1]
  rw [h3,getElem?_toList];have hs:q<(Sort.flatK (CU z) z d.toArray).size:=by rw [size_flatK];simpa using hq
  have h4:=get_flatK (CU z) z d.toArray q (by simpa using hq);rw [getElem!_pos _ q hs] at h4;rw [Array.getElem?_eq_getElem hs,h4,getElem!_pos d.toArray (q / z) (by simpa using hj)];simp only [List.getElem_toArray];rw [encZ_of hlen,getElem!_pos _ (q % z) (by rw [length_map,hlen];exact hc1),List.getElem_map];rw [getElem?_eq_getElem (by rw [hlen];exact hc1)] at hx;rw [Option.some.inj hx]
 ·rw [getElem?_eq_none (by rw [length_toList,size_flatK];simpa using not_lt.1 hq),getElem?_eq_none (by omega)]
theorem It (cells:Array Value) (o:Nat) (A:Array Value) (hfit:o+A.size≤cells.size):putCells id o A cells=Aj cells o A.toList:=by
 have h1:=CJ cells o A.toList (by simpa using hfit);apply Array.ext
 ·rw [h1];simp [putCells]
 ·intro k hk1 hk2;have hkc:k<cells.size:=by simpa [putCells] using hk1
  have h2:=BL cells o A.toList (by simpa using hfit) k;have e1:(Aj cells o A.toList)[k]=(Aj cells o A.toList).getD k undef:=by simp [Array.getD,hk2]
  have e2:cells.getD k undef=cells[k]:=by simp [Array.getD,hkc]
  rw [e1,h2,e2,length_toList];simp only [putCells,Array.getElem_mapIdx];split
  ·rename_i hh;rw [getElem!_pos A (k-o) (by omega)];simp [List.getD,show k-o<A.size by omega]
  ·rfl
theorem GY {w:World} {b o n z:Nat} {cells:Array Value} {el:TypeId} {fr:Nat×Nat} {d:List (List Tree)} (hb:w.heap[b]? = some (.cells cells el fr)) (hd:Ax z d=true) (hfit:o+d.length*z≤cells.size) (os:Array Obj) :
  Grow (w.setRow b (Aj cells o (Ct d))) (sortWorldK (CU z) z w b o n d.toArray os):=by
 have hA:=II z d hd;have hsz:(Sort.flatK (CU z) z d.toArray).size=d.length*z:=by simp
 have hp:=It cells o (Sort.flatK (CU z) z d.toArray) (by rw [hsz];exact hfit);rw [hA] at hp;have hheap:(sortWorldK (CU z) z w b o n d.toArray os).heap=(w.setRow b (Aj cells o (Ct d))).heap++os:=by
  show (mapBlock (Sort.ahead w n) b (putCells id o (Sort.flatK (CU z) z d.toArray))).heap++os=_;congr 1;apply Array.ext_getElem?;intro k;show (w.heap.modify b (onCells (putCells id o (Sort.flatK (CU z) z d.toArray))))[k]? = _;by_cases hk:k=b
  ·subst hk;rw [setRow_heap w k cells _ el fr hb,getElem?_modify,if_pos rfl,hb];simp [onCells,hp]
  ·rw [setRow_other w b _ hk,getElem?_modify,if_neg (Ne.symm hk)]
 refine ⟨rfl,rfl,rfl,by rw [hheap,size_append];omega,fun k hk => ?_⟩;rw [hheap,Array.getElem?_append_left hk]
theorem Hw {ρ:Ren} {z:Nat} {g:FuncId} {cf:List Tree→List Tree→Int} (L:SlLaysF0.n6 P ρ) (aE:∀w,(Go.isAgg (ρ.t 24)).run P w = .ok true w) (zE:∀w,(Go.sizeOf (ρ.t 24)).run P w = .ok z w) (hC:TY P g z cf):HD P (ρ.f 6) z 1073741824 (some g) (GV cf) where
 len:=fun d=>(D0 hC.swo d).length_eq
 int:=fun d h=>all_eq_true.2 fun e he=>all_eq_true.1 h e ((D0 hC.swo d).mem_iff.1 he)
 nil:=fun a w=>(AnyF.slices_SortFunc_none L a 0 (.func (.func g) #[] #[]) w).mono fun e w' h=>by obtain ⟨h1,rfl⟩:=h;exact ⟨h1,rfl,rfl,rfl,le_refl _,fun _ _=>rfl⟩
 run:=fun d w b o cap cells el fr hint hlen hb hth hfit hcell=>by
  have hH:HoldsK (CU z) z w b o d.toArray:=fun j hj=>by
   rw [size_flatK] at hj;have hj':j<d.length*z:=by simpa using hj
   have hlt:o+j<cells.size:=by omega
   refine ⟨?_,hth.cell hb hlt⟩;have h1:=hcell j hj';have h2:(Sort.flatK (CU z) z d.toArray)[j]! = (Ct d).getD j undef:=by
    have hs:j<(Sort.flatK (CU z) z d.toArray).size:=by rw [size_flatK];exact hj
    rw [getElem!_pos _ j hs,← II z d hint];simp only [List.getD,getElem?_toList];rw [Array.getElem?_eq_getElem hs];rfl
   rw [show id (Sort.flatK (CU z) z d.toArray)[j]! = (Sort.flatK (CU z) z d.toArray)[j]! from rfl,h2,← h1];simp [World.cell?,hb,Array.getD,hlt]
  have hpm:=D0 hC.swo d;have hcon:=AnyQ.slices_SortFunc_eq L z aE zE (CU z) (QN z) (QM z) cf hC.swo g #[] b o cap d.toArray w hC.enters (fun _ _ _ _ x y=>hC.calls x y _) hH (Array.getElem?_eq_some_iff.1 hb).1 (by simp;omega);simp only [size_toArray] at hcon;refine Calls.mono hcon fun e w' h => ?_;obtain ⟨h1,n,os,rfl⟩:=h;refine ⟨h1,?_⟩;have hi2:Ax z (GV cf d)=true:=all_eq_true.2 fun e he=>all_eq_true.1 hint e (hpm.mem_iff.1 he);have:=GY (n:=n) hb hi2 (by rw [hpm.length_eq];exact hfit) os;unfold GV at this ⊢;simpa using this
end Ab
namespace Ab
open Go Go.Proofs Go.Shelf Go.RowKit Go.Lib Go.Sort
variable {P:Program}
def oneI (e:List Tree):Int:=intOf (e.getD 0 default)
def FA (d:List (List Tree)):List (List Tree):=((d.map oneI).mergeSort fun x y=>decide (x≤y)).map fun n=>[.int .i64 n]
theorem Tg (d:List (List Tree)):(FA d).length=d.length:=by simp [FA,List.length_mergeSort]
theorem Th (d:List (List Tree)):Ax 1 (FA d)=true:=all_eq_true.2 fun e he=>by simp only [FA,mem_map] at he;obtain ⟨n,_,rfl⟩:=he;rfl
theorem Nk (zs:List Int):Ct (zs.map fun n=>[.int .i64 n])=zs.map (Value.int .i64):=by
 induction zs with
 |nil=>rfl
 |cons x l ih=>simpa [Ct,intOf] using ih
theorem Sj:∀{d:List (List Tree)},Ax 1 d=true→d=(d.map oneI).map fun n=>[Tree.int .i64 n]
 |[],_=>rfl
 |e::d,h=>by
  simp only [Ax,all_cons,and_eq_true,beq_iff_eq] at h;have ih:=Sj (d:=d) (by simpa [Ax] using h.2)
  match e,h with
  |[x],h=>
   have hx:H0 x=true:=by simpa using h.1.2
   cases x<;>simp [H0] at hx;rename_i k n;cases k<;>simp [H0] at hx;rw [map_cons,map_cons,← ih];rfl
theorem M0 {ρ:Ren} (L:Lays.n189 P ρ):HD P (ρ.f 189) 1 1073741824 none FA where
 len:=Tg
 int:=fun d _=>Th d
 nil:=fun a w=>(Any.slices_Sort_int_none L a 0 w).mono fun e w' h=>by obtain ⟨h1,rfl⟩:=h;exact ⟨h1,rfl,rfl,rfl,le_refl _,fun _ _=>rfl⟩
 run:=fun d w b o cap cells el fr hint hlen hb hth hfit hcell=>by
  rw [Nat.mul_one] at hfit hcell;have hd:=Sj hint;generalize hz:d.map oneI=zs at hd;have hzl:zs.length=d.length:=by rw [← hz,length_map]
  have hH:Holds (Value.int .i64) w b o zs.toArray:=fun j hj=>by
   have hj':j<zs.length:=by simpa using hj
   have hlt:o+j<cells.size:=by omega
   refine ⟨?_,hth.cell hb hlt⟩;have h1:=hcell j (by omega);rw [hd,Nk] at h1;rw [getElem!_pos _ j hj];simp only [List.getElem_toArray];simp only [Array.getD,hlt,dif_pos,List.getD,getElem?_map,getElem?_eq_getElem hj',map_some,Option.getD_some] at h1;simp [World.cell?,hb,hlt];exact h1
  have hcon:=Any.slices_Sort_int L b o cap zs w hH (Array.getElem?_eq_some_iff.1 hb).1 (by omega);rw [hzl] at hcon;refine Calls.mono hcon fun e w' h => ?_;obtain ⟨h1,n,os,rfl⟩:=h;refine ⟨h1,?_⟩;have hf:Ct (FA d)=(zs.mergeSort fun x y=>decide (x≤y)).map (Value.int .i64):=by rw [FA,hz,Nk]
  have hsl:(zs.mergeSort fun x y=>decide (x≤y)).length=d.length:=by rw [List.length_mergeSort,hzl]
  have hp:putCells (Value.int .i64) o (zs.mergeSort fun x y=>decide (x≤y)).toArray cells=Aj cells o (Ct (FA d)):=by
   have h2:=It cells o ((zs.mergeSort fun x y=>decide (x≤y)).map (Value.int .i64)).toArray (by simp [hsl];exact hfit);rw [hf];rw [show ((zs.mergeSort fun x y=>decide (x≤y)).map (Value.int .i64)).toArray.toList=(zs.mergeSort fun x y=>decide (x≤y)).map (Value.int .i64) from rfl] at h2;rw [← h2];unfold putCells;apply Array.ext
   ·simp
   ·intro k hk1 hk2;simp only [Array.getElem_mapIdx];simp only [size_toArray,length_map];split
    ·rename_i hh;rw [getElem!_pos _ (k-o) (by simp;omega),getElem!_pos _ (k-o) (by simp;omega)];simp
    ·rfl
  have hheap:(grow (putRow (Value.int .i64) (Sort.ahead w n) b o (zs.mergeSort fun x y=>decide (x≤y)).toArray) os).heap=(w.setRow b (Aj cells o (Ct (FA d)))).heap++os:=by
   show (mapBlock (Sort.ahead w n) b (putCells (Value.int .i64) o (zs.mergeSort fun x y=>decide (x≤y)).toArray)).heap++os=_;congr 1;apply Array.ext_getElem?;intro k;show (w.heap.modify b (onCells (putCells (Value.int .i64) o (zs.mergeSort fun x y=>decide (x≤y)).toArray)))[k]? = _;by_cases hk:k=b
   ·subst hk;rw [setRow_heap w k cells _ el fr hb,getElem?_modify,if_pos rfl,hb];simp [onCells,hp]
   ·rw [setRow_other w b _ hk,getElem?_modify,if_neg (Ne.symm hk)]
  refine ⟨rfl,rfl,rfl,by rw [hheap,size_append];omega,fun k hk => ?_⟩;rw [hheap,Array.getElem?_append_left hk]
end Ab
namespace Ab
open Go Go.Proofs Go.Shelf Go.RowKit Go.Lib Go.Sort
def A7 (a b:Int):Int:=if a<b then -1 else if b<a then 1 else 0
def BP:List Nat→List Tree→List Tree→Int
 |[],_,_=>0
 |k::ks,x,y=>if A7 (intOf (x.getD k default)) (intOf (y.getD k default))≠0 then A7 (intOf (x.getD k default)) (intOf (y.getD k default)) else BP ks x y
theorem E3:∀(ks:List Nat) (x y:List Tree),BP ks y x = - BP ks x y
 |[],x,y=>rfl
 |k::ks,x,y=>by have ih:=E3 ks x y;unfold BP;generalize intOf (x.getD k default)=a;generalize intOf (y.getD k default)=b;unfold A7;grind
theorem MQ:∀(ks:List Nat) (x y z:List Tree),BP ks x y≤0→BP ks y z≤0→BP ks x z≤0∧(BP ks x z=0→BP ks x y=0∧BP ks y z=0)
 |[],x,y,z,_,_=>⟨Int.le_refl _,fun _=>⟨rfl,rfl⟩⟩
 |k::ks,x,y,z,h1,h2=>by have ih:=MQ ks x y z;unfold BP at h1 h2 ⊢;generalize intOf (x.getD k default)=a at h1 h2 ⊢;generalize intOf (y.getD k default)=b at h1 h2 ⊢;generalize intOf (z.getD k default)=c at h1 h2 ⊢;unfold A7 at h1 h2 ⊢;grind
theorem CG (ks:List Nat):SWO (ltOf (BP ks)) where
 irrefl x:=by have:=E3 ks x x;simp only [ltOf,decide_eq_false_iff_not];omega
 trans x y z h1 h2:=by
  simp only [ltOf,decide_eq_true_eq] at h1 h2 ⊢;have h:=MQ ks x y z (by omega) (by omega);by_cases h0:BP ks x z=0
  ·have:=h.2 h0;omega
  ·omega
 ntrans x y z h1 h2:=by simp only [ltOf,decide_eq_false_iff_not] at h1 h2 ⊢;have a1:=E3 ks x y;have a2:=E3 ks y z;have a3:=E3 ks x z;have h:=MQ ks z y x (by omega) (by omega);omega
end Ab
namespace Ab
open Go Go.Proofs Go.RowKit Go.Lib Go.Shelf Go.Sort
set_option maxRecDepth 100000
set_option maxHeartbeats 4000000
theorem Sl (a:Int) (w:World):Calls Tryz.prog 74 #[.int .i64 a] w fun e w'=>e = .returned (.bool false)∧w'=w:=by
 go_enter Tryz.func74,Tryz.ntmps74
 go_wp2
 go_ret
 exact ⟨by simp,rfl⟩
theorem WA (a b:Int) (w:World):Calls Tryz.prog 35 #[.int .i64 a,.int .i64 b] w fun e w'=>e = .returned (.int .i64 (A7 a b))∧w'=w:=by
 go_enter Tryz.func35,Tryz.ntmps35
 go_wp2_with (go_at_fn 74;refine (Sl _ _).mono ?_)
 refine (Sl _ _).mono ?_
 rintro e w' ⟨rfl,hw⟩
 rw [hw]
 go_wp2_with (go_at_fn 74;refine (Sl _ _).mono ?_)
 refine (Sl _ _).mono ?_
 rintro e w' ⟨rfl,hw⟩
 rw [hw]
 go_wp2
 all_goals (go_ret;refine ⟨?_,rfl⟩;unfold A7;(repeat' split)<;>first|rfl|(exfalso;omega))
def orF (l:List Int):Int:=(l.find? (· ≠ 0)).getD 0
theorem or34 (l:List Int) (hlen:l.length≤100) (w:World) (b0 cap:Nat) (hc:l.length≤cap) (hcell:∀(j:Nat) (n:Int),l[j]? = some n→w.cell? ⟨b0,0+j,none⟩=some (.int .i64 n)) :
  Calls Tryz.prog 34 #[.slice (some ⟨b0,0,none⟩) l.length cap] w fun e w'=>e = .returned (.int .i64 (orF l))∧w'=w:=by
 have Hc:Aside _:=hcell;clear hcell
 go_enter Tryz.func34,Tryz.ntmps34
 go_wp2
 go_loopg [8] l.length (fun g s8 wx=>∃i:Nat,i+g=l.length∧s8 = .int .i64 i∧wx=w∧∀n∈l.take i,n=0)
 case atStart=>exact ⟨0,by omega,rfl,rfl,by simp⟩
 case round=>
  obtain ⟨i,hig,rfl,rfl,hz⟩:=hrel;cases gk with
  |zero=>
   obtain rfl:i=l.length:=by omega
   have hiz:¬(((l.length:Nat):Int)<((l.length:Nat):Int)):=by omega
   have hr:orF l=0:=by rw [List.take_length] at hz;unfold orF;rw [List.find?_eq_none.2 fun n hn=>by simp [hz n hn]];rfl
   go_wp2
   go_ret
   exact ⟨rfl,rfl⟩
  |succ g=>
   have hiz:(i:Int)<((l.length:Nat):Int):=by omega
   have hi:i<l.length:=by omega
   obtain ⟨n,hn⟩:∃n,l[i]? = some n:=⟨l[i],getElem?_eq_getElem hi⟩
   have hcell:wr.cell? ⟨b0,i,none⟩=some (.int .i64 n):=by have:=Hc.out i n hn;rwa [zero_add] at this
   by_cases h0:n=0
   ·subst h0
    go_wp2
    go_roundg g
    case measure=>omega
    case rel=>
     refine ⟨i+1,by omega,by first|rfl|simp,rfl,fun m hm => ?_⟩;rw [List.take_add_one,hn] at hm;rcases mem_append.1 hm with hm|hm
     ·exact hz m hm
     ·simpa using hm
   ·have hr:orF l=n:=by
     have hl:l=l.take i++(n::l.drop (i+1)):=by have h9:=getElem?_eq_getElem hi;rw [hn] at h9;have h10:=List.drop_eq_getElem_cons hi;rw [← Option.some.inj h9] at h10;rw [← h10,List.take_append_drop]
     unfold orF;rw [hl,List.find?_append,List.find?_eq_none.2 fun m hm=>by simp [hz m hm],find?_cons];simp [h0]
    go_wp2
    go_ret
    exact ⟨by rw [hr];rfl,rfl⟩
theorem JK (x y:List Tree):∀(ks:List Nat),BP ks x y=orF (ks.map fun k=>A7 (intOf (x.getD k default)) (intOf (y.getD k default)))
 |[]=>rfl
 |k::ks=>by
  unfold BP;rw [JK x y ks,map_cons];generalize A7 (intOf (x.getD k default)) (intOf (y.getD k default))=c;unfold orF;rw [find?_cons];by_cases h:c=0
  ·subst h;rfl
  ·simp [h]
theorem MR (W:World) (l:List Int) (t:TypeId) (j:Nat) (n:Int) (h:l[j]? = some n):(W.alloc (.cells (l.map (Value.int .i64)).toArray t)).drew.cell? ⟨W.heap.size,0+j,none⟩=some (.int .i64 n):=by have h1:(W.alloc (.cells (l.map (Value.int .i64)).toArray t)).drew.heap[W.heap.size]? = some (.cells (l.map (Value.int .i64)).toArray t (0,0)):=A8 W _;rw [zero_add];simp only [World.cell?,h1];simp [h]
theorem SG (w:World) (a b c:Obj):(((w.alloc a).alloc b).alloc c).drew=grow (w.drewN 1) #[a,b,c]:=by rw [alloc_eq_grow,alloc_eq_grow,alloc_eq_grow,grow_grow,grow_grow];rfl
theorem comp88 (x y:List Tree) (w:World):Calls Tryz.prog 88 #[.agg (CU 4 x).toArray,.agg (CU 4 y).toArray] w fun e w'=>e = .returned (.int .i64 (BP [3,0,1] x y))∧∃q os',w'=grow (w.drewN q) os':=by
 have hx:CU 4 x=[.int .i64 (intOf (x.getD 0 default)),.int .i64 (intOf (x.getD 1 default)),.int .i64 (intOf (x.getD 2 default)),.int .i64 (intOf (x.getD 3 default))]:=rfl;have hy:CU 4 y=[.int .i64 (intOf (y.getD 0 default)),.int .i64 (intOf (y.getD 1 default)),.int .i64 (intOf (y.getD 2 default)),.int .i64 (intOf (y.getD 3 default))]:=rfl;have hf:BP [3,0,1] x y=orF [A7 (intOf (x.getD 3 default)) (intOf (y.getD 3 default)),A7 (intOf (x.getD 0 default)) (intOf (y.getD 0 default)),A7 (intOf (x.getD 1 default)) (intOf (y.getD 1 default))]:=JK x y _;rw [hx,hy,hf];generalize intOf (x.getD 0 default)=x0;generalize intOf (x.getD 1 default)=x1;generalize intOf (x.getD 2 default)=x2;generalize intOf (x.getD 3 default)=x3;generalize intOf (y.getD 0 default)=y0;generalize intOf (y.getD 1 default)=y1;generalize intOf (y.getD 2 default)=y2;generalize intOf (y.getD 3 default)=y3;clear hx hy hf;have key:∀(W:World) (k:Nat),W.heap.size=k→Calls Tryz.prog 34 #[.slice (some ⟨k,0,none⟩) 3 3] (W.alloc (.cells #[.int .i64 (A7 x3 y3),.int .i64 (A7 x0 y0),.int .i64 (A7 x1 y1)] 3)).drew fun e w'=>e = .returned (.int .i64 (orF [A7 x3 y3,A7 x0 y0,A7 x1 y1]))∧w'=(W.alloc (.cells #[.int .i64 (A7 x3 y3),.int .i64 (A7 x0 y0),.int .i64 (A7 x1 y1)] 3)).drew:=fun W k hk=>by subst hk;exact or34 [A7 x3 y3,A7 x0 y0,A7 x1 y1] (by simp) _ _ 3 (le_refl _) (MR W [A7 x3 y3,A7 x0 y0,A7 x1 y1] 3)
 generalize orF [A7 x3 y3,A7 x0 y0,A7 x1 y1]=r at key ⊢
 go_enter Tryz.func88,Tryz.ntmps88
 go_wp2
 refine wp_region_still_tail 15 (by kernel_rfl) (by kernel_rfl) ?_;simp only [List.take_succ_cons,take_zero,List.drop_succ_cons,drop_zero];change wpStill _ _ (World.drew _) _ _ _
 repeat (first|still_step|still_call (WA _ _ _))
 refine wpStill_nil ?_;change wpList _ _ _ _ _ (World.drew _)
 go_wp2_with (go_at_fn 34;fail)
 refine Calls.mono (key ((w.alloc _).alloc _) (w.heap.size+1+1) (by simp)) ?_
 rintro e w' ⟨rfl,hw⟩
 rw [hw]
 go_wp2
 go_ret
 exact ⟨rfl,1,_,SG _ _ _ _⟩
theorem comp103 (x y:List Tree) (w:World):Calls Tryz.prog 103 #[.agg (CU 5 x).toArray,.agg (CU 5 y).toArray] w fun e w'=>e = .returned (.int .i64 (BP [0,1,2,4,3] x y))∧∃q os',w'=grow (w.drewN q) os':=by
 have hx:CU 5 x=[.int .i64 (intOf (x.getD 0 default)),.int .i64 (intOf (x.getD 1 default)),.int .i64 (intOf (x.getD 2 default)),.int .i64 (intOf (x.getD 3 default)),.int .i64 (intOf (x.getD 4 default))]:=rfl;have hy:CU 5 y=[.int .i64 (intOf (y.getD 0 default)),.int .i64 (intOf (y.getD 1 default)),.int .i64 (intOf (y.getD 2 default)),.int .i64 (intOf (y.getD 3 default)),.int .i64 (intOf (y.getD 4 default))]:=rfl;have hf:BP [0,1,2,4,3] x y=orF [A7 (intOf (x.getD 0 default)) (intOf (y.getD 0 default)),A7 (intOf (x.getD 1 default)) (intOf (y.getD 1 default)),A7 (intOf (x.getD 2 default)) (intOf (y.getD 2 default)),A7 (intOf (x.getD 4 default)) (intOf (y.getD 4 default)),A7 (intOf (x.getD 3 default)) (intOf (y.getD 3 default))]:=JK x y _;rw [hx,hy,hf];generalize intOf (x.getD 0 default)=x0;generalize intOf (x.getD 1 default)=x1;generalize intOf (x.getD 2 default)=x2;generalize intOf (x.getD 3 default)=x3;generalize intOf (x.getD 4 default)=x4;generalize intOf (y.getD 0 default)=y0;generalize intOf (y.getD 1 default)=y1;generalize intOf (y.getD 2 default)=y2;generalize intOf (y.getD 3 default)=y3;generalize intOf (y.getD 4 default)=y4;clear hx hy hf;have key:∀(W:World) (k:Nat),W.heap.size=k→Calls Tryz.prog 34 #[.slice (some ⟨k,0,none⟩) 5 5] (W.alloc (.cells #[.int .i64 (A7 x0 y0),.int .i64 (A7 x1 y1),.int .i64 (A7 x2 y2),.int .i64 (A7 x4 y4),.int .i64 (A7 x3 y3)] 3)).drew fun e w'=>e = .returned (.int .i64 (orF [A7 x0 y0,A7 x1 y1,A7 x2 y2,A7 x4 y4,A7 x3 y3]))∧w'=(W.alloc (.cells #[.int .i64 (A7 x0 y0),.int .i64 (A7 x1 y1),.int .i64 (A7 x2 y2),.int .i64 (A7 x4 y4),.int .i64 (A7 x3 y3)] 3)).drew:=fun W k hk=>by subst hk;exact or34 [A7 x0 y0,A7 x1 y1,A7 x2 y2,A7 x4 y4,A7 x3 y3] (by simp) _ _ 5 (le_refl _) (MR W [A7 x0 y0,A7 x1 y1,A7 x2 y2,A7 x4 y4,A7 x3 y3] 3)
 generalize orF [A7 x0 y0,A7 x1 y1,A7 x2 y2,A7 x4 y4,A7 x3 y3]=r at key ⊢
 go_enter Tryz.func103,Tryz.ntmps103
 go_wp2
 refine wp_region_still_tail 25 (by kernel_rfl) (by kernel_rfl) ?_;simp only [List.take_succ_cons,take_zero,List.drop_succ_cons,drop_zero];change wpStill _ _ (World.drew _) _ _ _
 repeat (first|still_step|still_call (WA _ _ _))
 refine wpStill_nil ?_;change wpList _ _ _ _ _ (World.drew _)
 go_wp2_with (go_at_fn 34;fail)
 refine Calls.mono (key ((w.alloc _).alloc _) (w.heap.size+1+1) (by simp)) ?_
 rintro e w' ⟨rfl,hw⟩
 rw [hw]
 go_wp2
 go_ret
 exact ⟨rfl,1,_,SG _ _ _ _⟩
theorem comp33 (x y:List Tree) (w:World):Calls Tryz.prog 33 #[.agg (CU 4 x).toArray,.agg (CU 4 y).toArray] w fun e w'=>e = .returned (.int .i64 (BP [0,1] x y))∧∃q os',w'=grow (w.drewN q) os':=by
 have hx:CU 4 x=[.int .i64 (intOf (x.getD 0 default)),.int .i64 (intOf (x.getD 1 default)),.int .i64 (intOf (x.getD 2 default)),.int .i64 (intOf (x.getD 3 default))]:=rfl;have hy:CU 4 y=[.int .i64 (intOf (y.getD 0 default)),.int .i64 (intOf (y.getD 1 default)),.int .i64 (intOf (y.getD 2 default)),.int .i64 (intOf (y.getD 3 default))]:=rfl;have hf:BP [0,1] x y=orF [A7 (intOf (x.getD 0 default)) (intOf (y.getD 0 default)),A7 (intOf (x.getD 1 default)) (intOf (y.getD 1 default))]:=JK x y _;rw [hx,hy,hf];generalize intOf (x.getD 0 default)=x0;generalize intOf (x.getD 1 default)=x1;generalize intOf (x.getD 2 default)=x2;generalize intOf (x.getD 3 default)=x3;generalize intOf (y.getD 0 default)=y0;generalize intOf (y.getD 1 default)=y1;generalize intOf (y.getD 2 default)=y2;generalize intOf (y.getD 3 default)=y3;clear hx hy hf;have key:∀(W:World) (k:Nat),W.heap.size=k→Calls Tryz.prog 34 #[.slice (some ⟨k,0,none⟩) 2 2] (W.alloc (.cells #[.int .i64 (A7 x0 y0),.int .i64 (A7 x1 y1)] 3)).drew fun e w'=>e = .returned (.int .i64 (orF [A7 x0 y0,A7 x1 y1]))∧w'=(W.alloc (.cells #[.int .i64 (A7 x0 y0),.int .i64 (A7 x1 y1)] 3)).drew:=fun W k hk=>by subst hk;exact or34 [A7 x0 y0,A7 x1 y1] (by simp) _ _ 2 (le_refl _) (MR W [A7 x0 y0,A7 x1 y1] 3)
 generalize orF [A7 x0 y0,A7 x1 y1]=r at key ⊢
 go_enter Tryz.func33,Tryz.ntmps33
 go_wp2
 refine wp_region_still_tail 10 (by kernel_rfl) (by kernel_rfl) ?_;simp only [List.take_succ_cons,take_zero,List.drop_succ_cons,drop_zero];change wpStill _ _ (World.drew _) _ _ _
 repeat (first|still_step|still_call (WA _ _ _))
 refine wpStill_nil ?_;change wpList _ _ _ _ _ (World.drew _)
 go_wp2_with (go_at_fn 34;fail)
 refine Calls.mono (key ((w.alloc _).alloc _) (w.heap.size+1+1) (by simp)) ?_
 rintro e w' ⟨rfl,hw⟩
 rw [hw]
 go_wp2
 go_ret
 exact ⟨rfl,1,_,SG _ _ _ _⟩
theorem cmpOk88:TY Tryz.prog 88 4 (BP [3,0,1]):=⟨enters_of Tryz.func88 (by kernel_rfl) rfl,CG _,comp88⟩
theorem V7:TY Tryz.prog 103 5 (BP [0,1,2,4,3]):=⟨enters_of Tryz.func103 (by kernel_rfl) rfl,CG _,comp103⟩
theorem TI:TY Tryz.prog 33 4 (BP [0,1]):=⟨enters_of Tryz.func33 (by kernel_rfl) rfl,CG _,comp33⟩
end Ab
namespace Go.Proofs
open Go.Shelf
def Tryz.P2:Go.Shelf.Ren:=⟨fun|189=>155|125=>153|257=>196|128=>194|129=>195|294=>232|295=>233|296=>234|297=>235|298=>236|299=>237|216=>238|300=>239|301=>240|328=>266|329=>228|330=>229|331=>267|332=>268|215=>74|343=>286|n=>n,fun|28=>22|3=>3|46=>234|0=>0|51=>294|53=>296|4=>4|183=>288|182=>287|131=>100|5=>5|9=>9|218=>327|222=>118|228=>371|229=>372|n=>n,fun|n=>n⟩
theorem Tryz.lays189:Go.Proofs.Lays.n189 Tryz.prog Tryz.P2:={
 mixed:=by kernel_rfl
 f125:=Tryz.func153.trans (congrArg some (by kernel_rfl))
 f128:=Tryz.func194.trans (congrArg some (by kernel_rfl))
 f129:=Tryz.func195.trans (congrArg some (by kernel_rfl))
 f189:=Tryz.func155.trans (congrArg some (by kernel_rfl))
 f215:=Tryz.func74.trans (congrArg some (by kernel_rfl))
 f216:=Tryz.func238.trans (congrArg some (by kernel_rfl))
 f257:=Tryz.func196.trans (congrArg some (by kernel_rfl))
 f294:=Tryz.func232.trans (congrArg some (by kernel_rfl))
 f295:=Tryz.func233.trans (congrArg some (by kernel_rfl))
 f296:=Tryz.func234.trans (congrArg some (by kernel_rfl))
 f297:=Tryz.func235.trans (congrArg some (by kernel_rfl))
 f298:=Tryz.func236.trans (congrArg some (by kernel_rfl))
 f299:=Tryz.func237.trans (congrArg some (by kernel_rfl))
 f300:=Tryz.func239.trans (congrArg some (by kernel_rfl))
 f301:=Tryz.func240.trans (congrArg some (by kernel_rfl))
 f328:=Tryz.func266.trans (congrArg some (by kernel_rfl))
 f329:=Tryz.func228.trans (congrArg some (by kernel_rfl))
 f330:=Tryz.func229.trans (congrArg some (by kernel_rfl))
 f331:=Tryz.func267.trans (congrArg some (by kernel_rfl))
 f332:=Tryz.func268.trans (congrArg some (by kernel_rfl))
 f343:=Tryz.func286.trans (congrArg some (by kernel_rfl))
 t0:=Tryz.underlying0
 a0:=Tryz.isAgg0
 z0:=Tryz.sizeOf0
 v0:=Tryz.zeroValue0
 t3:=Tryz.underlying3
 a3:=Tryz.isAgg3
 z3:=Tryz.sizeOf3
 v3:=Tryz.zeroValue3
 t4:=Tryz.underlying4
 a4:=Tryz.isAgg4
 z4:=Tryz.sizeOf4
 v4:=Tryz.zeroValue4
 t5:=Tryz.underlying5
 a5:=Tryz.isAgg5
 z5:=Tryz.sizeOf5
 v5:=Tryz.zeroValue5
 t9:=Tryz.underlying9
 a9:=Tryz.isAgg9
 z9:=Tryz.sizeOf9
 v9:=Tryz.zeroValue9
 t28:=Tryz.underlying22
 a28:=Tryz.isAgg22
 z28:=Tryz.sizeOf22
 v28:=Tryz.zeroValue22
 t46:=Tryz.underlying234
 a46:=Tryz.isAgg234
 z46:=Tryz.sizeOf234
 v46:=Tryz.zeroValue234
 t51:=Tryz.underlying294
 a51:=Tryz.isAgg294
 z51:=Tryz.sizeOf294
 v51:=Tryz.zeroValue294
 t53:=Tryz.underlying296
 a53:=Tryz.isAgg296
 z53:=Tryz.sizeOf296
 v53:=Tryz.zeroValue296
 t131:=Tryz.underlying100
 a131:=Tryz.isAgg100
 z131:=Tryz.sizeOf100
 v131:=Tryz.zeroValue100
 t182:=Tryz.underlying287
 a182:=Tryz.isAgg287
 z182:=Tryz.sizeOf287
 v182:=Tryz.zeroValue287
 t183:=Tryz.underlying288
 a183:=Tryz.isAgg288
 z183:=Tryz.sizeOf288
 v183:=Tryz.zeroValue288
 t218:=Tryz.underlying327
 a218:=Tryz.isAgg327
 z218:=Tryz.sizeOf327
 v218:=Tryz.zeroValue327
 t222:=Tryz.underlying118
 a222:=Tryz.isAgg118
 z222:=Tryz.sizeOf118
 v222:=Tryz.zeroValue118
 t228:=Tryz.underlying371
 a228:=Tryz.isAgg371
 z228:=Tryz.sizeOf371
 v228:=Tryz.zeroValue371
 t229:=Tryz.underlying372
 a229:=Tryz.isAgg372
 z229:=Tryz.sizeOf372
 v229:=Tryz.zeroValue372}
def Tryz.Pd:Go.Shelf.Ren:=⟨fun|6=>94|15=>153|14=>152|28=>194|29=>195|20=>186|21=>187|22=>188|23=>189|24=>190|25=>191|26=>192|27=>193|46=>227|47=>228|48=>229|49=>230|50=>231|57=>265|n=>n,fun|22=>102|24=>169|25=>176|3=>3|39=>234|0=>0|53=>294|55=>296|4=>4|46=>288|45=>287|50=>100|5=>5|9=>9|66=>327|70=>118|76=>371|77=>372|n=>n,fun|n=>n⟩
theorem Tryz.sortLab:Go.Proofs.SlLaysF0.n6 Tryz.prog Tryz.Pd:={
 mixed:=by kernel_rfl
 f6:=⟨Tryz.f94.name,by decide,Tryz.func94.trans (congrArg some (by kernel_rfl))⟩
 f14:=⟨Tryz.f152.name,by decide,Tryz.func152.trans (congrArg some (by kernel_rfl))⟩
 f15:=Tryz.func153.trans (congrArg some (by kernel_rfl))
 f20:=⟨Tryz.f186.name,by decide,Tryz.func186.trans (congrArg some (by kernel_rfl))⟩
 f21:=⟨Tryz.f187.name,by decide,Tryz.func187.trans (congrArg some (by kernel_rfl))⟩
 f22:=⟨Tryz.f188.name,by decide,Tryz.func188.trans (congrArg some (by kernel_rfl))⟩
 f23:=⟨Tryz.f189.name,by decide,Tryz.func189.trans (congrArg some (by kernel_rfl))⟩
 f24:=⟨Tryz.f190.name,by decide,Tryz.func190.trans (congrArg some (by kernel_rfl))⟩
 f25:=⟨Tryz.f191.name,by decide,Tryz.func191.trans (congrArg some (by kernel_rfl))⟩
 f26:=⟨Tryz.f192.name,by decide,Tryz.func192.trans (congrArg some (by kernel_rfl))⟩
 f27:=⟨Tryz.f193.name,by decide,Tryz.func193.trans (congrArg some (by kernel_rfl))⟩
 f28:=Tryz.func194.trans (congrArg some (by kernel_rfl))
 f29:=Tryz.func195.trans (congrArg some (by kernel_rfl))
 f46:=⟨Tryz.f227.name,by decide,Tryz.func227.trans (congrArg some (by kernel_rfl))⟩
 f47:=Tryz.func228.trans (congrArg some (by kernel_rfl))
 f48:=Tryz.func229.trans (congrArg some (by kernel_rfl))
 f49:=⟨Tryz.f230.name,by decide,Tryz.func230.trans (congrArg some (by kernel_rfl))⟩
 f50:=⟨Tryz.f231.name,by decide,Tryz.func231.trans (congrArg some (by kernel_rfl))⟩
 f57:=⟨Tryz.f265.name,by decide,Tryz.func265.trans (congrArg some (by kernel_rfl))⟩
 t0:=Tryz.underlying0
 a0:=Tryz.isAgg0
 z0:=Tryz.sizeOf0
 v0:=Tryz.zeroValue0
 t3:=Tryz.underlying3
 a3:=Tryz.isAgg3
 z3:=Tryz.sizeOf3
 v3:=Tryz.zeroValue3
 t4:=Tryz.underlying4
 a4:=Tryz.isAgg4
 z4:=Tryz.sizeOf4
 v4:=Tryz.zeroValue4
 t5:=Tryz.underlying5
 a5:=Tryz.isAgg5
 z5:=Tryz.sizeOf5
 v5:=Tryz.zeroValue5
 t9:=Tryz.underlying9
 a9:=Tryz.isAgg9
 z9:=Tryz.sizeOf9
 v9:=Tryz.zeroValue9
 t22:=Tryz.underlying102
 a22:=Tryz.isAgg102
 z22:=Tryz.sizeOf102
 v22:=Tryz.zeroValue102
 t25:=Tryz.underlying176
 a25:=Tryz.isAgg176
 z25:=Tryz.sizeOf176
 v25:=Tryz.zeroValue176
 t39:=Tryz.underlying234
 a39:=Tryz.isAgg234
 z39:=Tryz.sizeOf234
 v39:=Tryz.zeroValue234
 t45:=Tryz.underlying287
 a45:=Tryz.isAgg287
 z45:=Tryz.sizeOf287
 v45:=Tryz.zeroValue287
 t46:=Tryz.underlying288
 a46:=Tryz.isAgg288
 z46:=Tryz.sizeOf288
 v46:=Tryz.zeroValue288
 t50:=Tryz.underlying100
 a50:=Tryz.isAgg100
 z50:=Tryz.sizeOf100
 v50:=Tryz.zeroValue100
 t53:=Tryz.underlying294
 a53:=Tryz.isAgg294
 z53:=Tryz.sizeOf294
 v53:=Tryz.zeroValue294
 t55:=Tryz.underlying296
 a55:=Tryz.isAgg296
 z55:=Tryz.sizeOf296
 v55:=Tryz.zeroValue296
 t66:=Tryz.underlying327
 a66:=Tryz.isAgg327
 z66:=Tryz.sizeOf327
 v66:=Tryz.zeroValue327
 t70:=Tryz.underlying118
 a70:=Tryz.isAgg118
 z70:=Tryz.sizeOf118
 v70:=Tryz.zeroValue118
 t76:=Tryz.underlying371
 a76:=Tryz.isAgg371
 z76:=Tryz.sizeOf371
 v76:=Tryz.zeroValue371
 t77:=Tryz.underlying372
 a77:=Tryz.isAgg372
 z77:=Tryz.sizeOf372
 v77:=Tryz.zeroValue372}
def Tryz.OI:Go.Shelf.Ren:=⟨fun|6=>102|15=>153|14=>159|28=>194|29=>195|20=>198|21=>199|22=>200|23=>201|24=>202|25=>203|26=>204|27=>205|46=>241|47=>228|48=>229|49=>242|50=>243|57=>269|n=>n,fun|22=>27|24=>108|25=>183|3=>3|39=>234|0=>0|53=>294|55=>296|4=>4|46=>288|45=>287|50=>100|5=>5|9=>9|66=>327|70=>118|76=>371|77=>372|n=>n,fun|n=>n⟩
theorem Tryz.Uy:Go.Proofs.SlLaysF0.n6 Tryz.prog Tryz.OI:={
 mixed:=by kernel_rfl
 f6:=⟨Tryz.f102.name,by decide,Tryz.func102.trans (congrArg some (by kernel_rfl))⟩
 f14:=⟨Tryz.f159.name,by decide,Tryz.func159.trans (congrArg some (by kernel_rfl))⟩
 f15:=Tryz.func153.trans (congrArg some (by kernel_rfl))
 f20:=⟨Tryz.f198.name,by decide,Tryz.func198.trans (congrArg some (by kernel_rfl))⟩
 f21:=⟨Tryz.f199.name,by decide,Tryz.func199.trans (congrArg some (by kernel_rfl))⟩
 f22:=⟨Tryz.f200.name,by decide,Tryz.func200.trans (congrArg some (by kernel_rfl))⟩
 f23:=⟨Tryz.f201.name,by decide,Tryz.func201.trans (congrArg some (by kernel_rfl))⟩
 f24:=⟨Tryz.f202.name,by decide,Tryz.func202.trans (congrArg some (by kernel_rfl))⟩
 f25:=⟨Tryz.f203.name,by decide,Tryz.func203.trans (congrArg some (by kernel_rfl))⟩
 f26:=⟨Tryz.f204.name,by decide,Tryz.func204.trans (congrArg some (by kernel_rfl))⟩
 f27:=⟨Tryz.f205.name,by decide,Tryz.func205.trans (congrArg some (by kernel_rfl))⟩
 f28:=Tryz.func194.trans (congrArg some (by kernel_rfl))
 f29:=Tryz.func195.trans (congrArg some (by kernel_rfl))
 f46:=⟨Tryz.f241.name,by decide,Tryz.func241.trans (congrArg some (by kernel_rfl))⟩
 f47:=Tryz.func228.trans (congrArg some (by kernel_rfl))
 f48:=Tryz.func229.trans (congrArg some (by kernel_rfl))
 f49:=⟨Tryz.f242.name,by decide,Tryz.func242.trans (congrArg some (by kernel_rfl))⟩
 f50:=⟨Tryz.f243.name,by decide,Tryz.func243.trans (congrArg some (by kernel_rfl))⟩
 f57:=⟨Tryz.f269.name,by decide,Tryz.func269.trans (congrArg some (by kernel_rfl))⟩
 t0:=Tryz.underlying0
 a0:=Tryz.isAgg0
 z0:=Tryz.sizeOf0
 v0:=Tryz.zeroValue0
 t3:=Tryz.underlying3
 a3:=Tryz.isAgg3
 z3:=Tryz.sizeOf3
 v3:=Tryz.zeroValue3
 t4:=Tryz.underlying4
 a4:=Tryz.isAgg4
 z4:=Tryz.sizeOf4
 v4:=Tryz.zeroValue4
 t5:=Tryz.underlying5
 a5:=Tryz.isAgg5
 z5:=Tryz.sizeOf5
 v5:=Tryz.zeroValue5
 t9:=Tryz.underlying9
 a9:=Tryz.isAgg9
 z9:=Tryz.sizeOf9
 v9:=Tryz.zeroValue9
 t22:=Tryz.underlying27
 a22:=Tryz.isAgg27
 z22:=Tryz.sizeOf27
 v22:=Tryz.zeroValue27
 t25:=Tryz.underlying183
 a25:=Tryz.isAgg183
 z25:=Tryz.sizeOf183
 v25:=Tryz.zeroValue183
 t39:=Tryz.underlying234
 a39:=Tryz.isAgg234
 z39:=Tryz.sizeOf234
 v39:=Tryz.zeroValue234
 t45:=Tryz.underlying287
 a45:=Tryz.isAgg287
 z45:=Tryz.sizeOf287
 v45:=Tryz.zeroValue287
 t46:=Tryz.underlying288
 a46:=Tryz.isAgg288
 z46:=Tryz.sizeOf288
 v46:=Tryz.zeroValue288
 t50:=Tryz.underlying100
 a50:=Tryz.isAgg100
 z50:=Tryz.sizeOf100
 v50:=Tryz.zeroValue100
 t53:=Tryz.underlying294
 a53:=Tryz.isAgg294
 z53:=Tryz.sizeOf294
 v53:=Tryz.zeroValue294
 t55:=Tryz.underlying296
 a55:=Tryz.isAgg296
 z55:=Tryz.sizeOf296
 v55:=Tryz.zeroValue296
 t66:=Tryz.underlying327
 a66:=Tryz.isAgg327
 z66:=Tryz.sizeOf327
 v66:=Tryz.zeroValue327
 t70:=Tryz.underlying118
 a70:=Tryz.isAgg118
 z70:=Tryz.sizeOf118
 v70:=Tryz.zeroValue118
 t76:=Tryz.underlying371
 a76:=Tryz.isAgg371
 z76:=Tryz.sizeOf371
 v76:=Tryz.zeroValue371
 t77:=Tryz.underlying372
 a77:=Tryz.isAgg372
 z77:=Tryz.sizeOf372
 v77:=Tryz.zeroValue372}
def Tryz.QB:Go.Shelf.Ren:=⟨fun|20=>135|n=>n,fun|24=>43|22=>26|3=>3|25=>86|4=>4|0=>0|n=>n,fun|n=>n⟩
theorem Tryz.S3:Go.Proofs.SlLaysF0.n20 Tryz.prog Tryz.QB:={
 mixed:=by kernel_rfl
 f20:=⟨Tryz.f135.name,by decide,Tryz.func135.trans (congrArg some (by kernel_rfl))⟩
 t0:=Tryz.underlying0
 a0:=Tryz.isAgg0
 z0:=Tryz.sizeOf0
 v0:=Tryz.zeroValue0
 t3:=Tryz.underlying3
 a3:=Tryz.isAgg3
 z3:=Tryz.sizeOf3
 v3:=Tryz.zeroValue3
 t4:=Tryz.underlying4
 a4:=Tryz.isAgg4
 z4:=Tryz.sizeOf4
 v4:=Tryz.zeroValue4
 t22:=Tryz.underlying26
 a22:=Tryz.isAgg26
 z22:=Tryz.sizeOf26
 v22:=Tryz.zeroValue26
 t25:=Tryz.underlying86
 a25:=Tryz.isAgg86
 z25:=Tryz.sizeOf86
 v25:=Tryz.zeroValue86}
end Go.Proofs
namespace Ab
open Go Go.Proofs Go.RowKit Go.Lib Go.Shelf Go.Sort
set_option maxRecDepth 100000
set_option maxHeartbeats 4000000
theorem Uu (s fv:Value) (n:Nat) (hn:n<20) (w:World) (R:World→Prop) (h:Calls Tryz.prog 135 #[s,.int .i64 0,.int .i64 n,fv] w fun e w'=>e = .returned (.tuple #[])∧R w') :
  Calls Tryz.prog 73 #[s,.int .i64 n,fv] w fun e w'=>e = .returned (.tuple #[])∧R w':=by
 have h1:¬((20:Int)≤(n:Int)):=by omega
 have h2:¬((20:Int)<(n:Int)):=by omega
 go_enter Tryz.func73,Tryz.ntmps73
 go_wp2
 refine wp_loop_rounds 1 ?_;rw [rounds_succ]
 go_wp2_with (go_at_fn 135;fail)
 refine Calls.mono h ?_
 rintro e w' ⟨rfl,hR⟩
 go_wp2
 refine wp_loop_rounds 1 ?_;rw [rounds_succ]
 go_wp2
 go_end0
 exact ⟨rfl,hR⟩
theorem Pc (p:Option Addr) (cap:Nat) (fv:Value) (n:Nat) (hn:n<20) (w:World) (R:World→Prop) (h:Calls Tryz.prog 135 #[.slice p n cap,.int .i64 0,.int .i64 n,fv] w fun e w'=>e = .returned (.tuple #[])∧R w') :
  Calls Tryz.prog 32 #[.slice p n cap,fv] w fun e w'=>e = .returned (.tuple #[])∧R w':=by
 have h3:=Uu (.slice p n cap) fv n hn w R h
 go_enter Tryz.func32,Tryz.ntmps32
 go_wp2_with (go_at_fn 73;fail)
 refine Calls.mono h3 ?_
 rintro e w' ⟨rfl,hR⟩
 go_wp2
 go_end0
 exact ⟨rfl,hR⟩
def Of (cf:List Tree→List Tree→Int) (d:List (List Tree)):List (List Tree):=(Sort.insertionSort (ltOf cf) d.toArray 0 d.length).toList
theorem Fh {cf:List Tree→List Tree→Int} (hO:SWO (ltOf cf)) (d:List (List Tree)):(Of cf d).Perm d:=by
 obtain ⟨⟨h1,h2,h3⟩,h4⟩:=insertionSort_holds hO d.toArray 0 d.length (zero_le _) (by simp);unfold Of;have e1:(Sort.insertionSort (ltOf cf) d.toArray 0 d.length).extract 0 d.length=Sort.insertionSort (ltOf cf) d.toArray 0 d.length:=by rw [Array.extract_eq_self_of_le];rw [h1];simp
 have e2:d.toArray.extract 0 d.length=d.toArray:=by rw [Array.extract_eq_self_of_le];simp
 rw [e1,e2] at h3;simpa using h3
theorem holds_of {z:Nat} {d:List (List Tree)} {w:World} {b o:Nat} {cells:Array Value} {el:TypeId} {fr:Nat×Nat} (hint:Ax z d=true) (hb:w.heap[b]? = some (.cells cells el fr)) (hth:Mt z cells.size fr) (hfit:o+d.length*z≤cells.size)
  (hcell:∀q,q<d.length*z→cells.getD (o+q) undef=(Ct d).getD q undef):HoldsK (CU z) z w b o d.toArray:=fun j hj=>by
 rw [size_flatK] at hj;have hj':j<d.length*z:=by simpa using hj
 have hlt:o+j<cells.size:=by omega
 refine ⟨?_,hth.cell hb hlt⟩;have h1:=hcell j hj';have h2:(Sort.flatK (CU z) z d.toArray)[j]! = (Ct d).getD j undef:=by
  have hs:j<(Sort.flatK (CU z) z d.toArray).size:=by rw [size_flatK];exact hj
  rw [getElem!_pos _ j hs,← II z d hint];simp only [List.getD,getElem?_toList];rw [Array.getElem?_eq_getElem hs];rfl
 rw [show id (Sort.flatK (CU z) z d.toArray)[j]! = (Sort.flatK (CU z) z d.toArray)[j]! from rfl,h2,← h1];simp [World.cell?,hb,Array.getD,hlt]
theorem perm32:HD Tryz.prog 32 4 19 (some 33) (Of (BP [0,1])) where
 len:=fun d=>(Fh (CG _) d).length_eq
 int:=fun d h=>all_eq_true.2 fun e he=>all_eq_true.1 h e ((Fh (CG _) d).mem_iff.1 he)
 nil:=fun a w=>by
  have h:=AnyF.insertionSortCmpFunc_none Tryz.S3 a 0 (.func (.func 33) #[] #[]) w;exact Pc a 0 (.func (.func 33) #[] #[]) 0 (by decide) w (Grow w) (Calls.mono h fun e w' h=>by obtain ⟨h1,rfl⟩:=h;exact ⟨h1,rfl,rfl,rfl,le_refl _,fun _ _=>rfl⟩)
 run:=fun d w b o cap cells el fr hint hlen hb hth hfit hcell=>by have hH:=holds_of hint hb hth hfit hcell;have hpm:=Fh (CG [0,1]) d;have hcon:=AnyQ.insertionSortCmpFunc Tryz.S3 4 (fun w=>by kernel_rfl) (fun w=>by kernel_rfl) (CU 4) (QN 4) (QM 4) (BP [0,1]) 33 #[] b o cap 0 d.length d.toArray w TI.enters (fun _ _ _ _ x y=>TI.calls x y _) hH (Array.getElem?_eq_some_iff.1 hb).1 (zero_le _) (by simp) (by simp;omega);simp only [size_toArray] at hcon;refine Pc (some ⟨b,o,none⟩) cap (.func (.func 33) #[] #[]) d.length (by omega) w _ (Calls.mono hcon fun e w' h => ?_);obtain ⟨h1,n,os,rfl⟩:=h;refine ⟨h1,?_⟩;have hi2:Ax 4 (Of (BP [0,1]) d)=true:=all_eq_true.2 fun e he=>all_eq_true.1 hint e (hpm.mem_iff.1 he);have:=GY (n:=n) hb hi2 (by rw [hpm.length_eq];exact hfit) os;unfold Of at this ⊢;simpa using this
theorem perm94:HD Tryz.prog 94 4 1073741824 (some 88) (GV (BP [3,0,1])):=Hw Tryz.sortLab (fun w=>by kernel_rfl) (fun w=>by kernel_rfl) cmpOk88
theorem perm102:HD Tryz.prog 102 5 1073741824 (some 103) (GV (BP [0,1,2,4,3])):=Hw Tryz.Uy (fun w=>by kernel_rfl) (fun w=>by kernel_rfl) V7
theorem perm155:HD Tryz.prog 155 1 1073741824 none FA:=M0 Tryz.lays189
end Ab
set_option maxRecDepth 100000
namespace Ab
open Go Go.Proofs
def htab:HTab:=
[(3,[(14,[9,53]),(11,[9,43])],[(3,[9]),(2,[9]),(1,[9]),(0,[9])],[(19,[]),(28,[]),(34,[7]),(44,[]),(54,[]),(66,[])],[(5,[6]),(22,[6])],[(7,1),(9,4)],[7,9],[0,1],[43],[22,23,26,27],[(6,0),(7,101),(9,104)]),
 (4,[],[],[(31,[]),(61,[]),(90,[])],[(1,[31]),(10,[90]),(12,[10])],[],[],[0,1],[],[22,26,27],[(10,0),(31,0),(90,0)]),
 (5,[(8,[9,46])],[(1,[9]),(0,[9])],[(34,[]),(43,[]),(47,[]),(75,[]),(89,[])],[(1,[34]),(10,[75]),(13,[89]),(17,[6])],[(9,1)],[],[0,1],[],[22,23,26,27],[(6,0),(34,0),(75,0),(89,0)]),
 (6,[],[],[],[(1,[4])],[],[],[0,1],[],[22,23,26,27],[(4,0)]),
 (7,[],[],[],[(7,[0])],[],[],[],[29,71,78],[22,23,26,27,69],[(0,0)]),
 (8,[],[],[],[],[],[],[0,1],[],[22,23,26,27],[]),
 (9,[],[],[(4,[])],[],[],[],[],[],[],[]),
 (10,[(1,[2,3])],[(1,[]),(0,[])],[(9,[])],[],[],[],[],[],[],[]),
 (11,[(3,[5,10])],[(1,[5]),(0,[5])],[(11,[])],[],[(5,4)],[],[],[59],[],[]),
 (12,[],[],[(11,[]),(15,[]),(18,[]),(24,[])],[],[],[],[0,2],[],[22,23],[]),
 (13,[(6,[15])],[(1,[]),(0,[])],[(9,[]),(12,[]),(16,[]),(23,[]),(25,[]),(33,[]),(53,[])],[(13,[53])],[],[],[0],[43],[22,23],[(53,0)]),
 (14,[],[],[(4,[])],[],[],[],[],[],[],[]),
 (15,[(4,[3]),(18,[7]),(9,[4])],[(1,[]),(0,[]),(5,[]),(4,[]),(3,[]),(2,[])],[(23,[]),(28,[]),(44,[]),(49,[]),(60,[]),(75,[]),(78,[]),(87,[])],[(1,[23]),(6,[44]),(15,[75])],[],[],[0],[50],[22,23],[(23,0),(44,0),(75,0)]),
 (16,[],[],[(17,[]),(26,[])],[],[],[],[0,1],[],[22,23,26,27],[]),
 (17,[],[],[(9,[]),(17,[])],[],[],[],[0],[],[22,23,26,27],[]),
 (18,[(11,[9,56]),(20,[14,76])],[(1,[9]),(0,[]),(3,[14]),(2,[])],[(21,[]),(28,[]),(50,[]),(57,[]),(69,[]),(77,[]),(89,[])],[(7,[50])],[(9,4),(14,5)],[9,14],[0,1],[43,108],[22,23,26,27],[(9,104),(14,105),(50,0)]),
 (19,[],[],[],[],[],[],[0,1],[],[22,23,26,27],[]),
 (20,[],[],[],[],[],[],[1],[],[22],[]),
 (21,[(7,[6,17])],[(1,[6]),(0,[6])],[(11,[]),(14,[]),(18,[]),(31,[]),(49,[6])],[(9,[31]),(11,[49])],[],[],[0],[59],[22,23],[(6,4),(31,0),(49,0)]),
 (22,[],[],[],[],[],[],[],[],[],[]),
 (23,[],[],[],[(1,[2])],[],[],[0],[],[22,23,26,27],[(2,0)]),
 (24,[],[],[(9,[]),(17,[])],[],[],[],[0],[],[22,23,26,27],[]),
 (25,[],[],[(8,[]),(31,[]),(36,[]),(61,[]),(69,[])],[(4,[31]),(8,[61]),(10,[69])],[],[],[0,1],[],[22,23],[(31,0),(61,0),(69,0)]),
 (26,[(7,[7,28])],[(1,[7]),(0,[7])],[(19,[]),(29,[])],[],[(7,1)],[],[],[],[],[]),
 (27,[(9,[36])],[(1,[]),(0,[])],[(18,[]),(33,[]),(37,[]),(65,[])],[(6,[33]),(15,[65])],[],[],[],[],[],[(33,0),(65,0)]),
 (28,[],[],[],[],[],[],[],[],[],[]),
 (29,[],[],[(30,[])],[],[],[],[0],[],[],[]),
 (30,[],[(1,[]),(0,[])],[(22,[]),(28,[]),(41,[]),(43,[]),(52,[])],[(1,[22]),(3,[28]),(9,[41])],[],[],[0,1,2],[],[22,23,26,27],[(22,0),(28,0),(41,0)]),
 (31,[(3,[3,8])],[(1,[3]),(0,[3])],[(9,[])],[],[(3,1)],[],[],[59],[],[]),
 (32,[],[],[],[],[],[],[],[],[],[]),
 (33,[],[],[],[],[],[],[0,1],[],[],[]),
 (34,[(3,[8])],[(1,[]),(0,[])],[(9,[]),(14,[])],[],[],[],[],[],[],[]),
 (35,[],[],[(12,[]),(11,[]),(13,[]),(16,[]),(19,[])],[],[],[],[],[],[],[]),
 (36,[],[],[(26,[])],[(1,[26]),(4,[4])],[],[],[0,1],[50],[22,23],[(4,0),(26,0)]),
 (37,[],[],[],[],[],[],[],[],[],[]),
 (38,[(3,[5,10])],[(1,[5]),(0,[5])],[(11,[]),(17,[5])],[],[(5,2)],[],[],[43],[],[]),
 (39,[],[],[],[(1,[3])],[],[],[0],[],[],[(3,0)]),
 (40,[],[],[],[],[],[],[1],[],[],[]),
 (41,[(5,[27]),(11,[41])],[(1,[]),(0,[]),(3,[]),(2,[])],[(23,[]),(28,[]),(36,[]),(42,[]),(49,[]),(60,[]),(66,[])],[(2,[23]),(7,[36]),(16,[60])],[],[],[0],[50],[22,23],[(23,0),(36,0),(60,0)]),
 (42,[],[],[],[],[],[],[0,1],[],[],[]),
 (43,[],[],[(50,[]),(55,[]),(74,[])],[(1,[50]),(5,[74])],[],[],[0],[],[],[(50,0),(74,0)]),
 (44,[],[],[],[(1,[4])],[],[],[0,1],[],[],[(4,0)]),
 (45,[(5,[34]),(12,[80])],[(1,[]),(0,[]),(3,[]),(2,[])],[(25,[]),(35,[]),(81,[])],[(1,[25])],[],[],[0,1],[50],[],[(25,0)]),
 (46,[(3,[13])],[(3,[]),(2,[]),(1,[]),(0,[])],[(14,[]),(40,[])],[(7,[40])],[],[],[],[169,174],[],[(40,0)]),
 (47,[(3,[21]),(8,[])],[(1,[]),(0,[]),(5,[]),(4,[]),(3,[]),(2,[])],[(22,[]),(42,[]),(64,[]),(92,[])],[(5,[42]),(14,[92])],[],[],[],[91,169,174],[],[(42,0),(92,0)]),
 (48,[(6,[17]),(14,[42])],[(1,[]),(0,[]),(3,[]),(2,[])],[(11,[]),(14,[]),(18,[]),(25,[]),(37,[]),(43,[]),(52,[])],[(10,[37])],[],[],[0],[108],[22,23],[(37,0)]),
 (49,[],[(1,[]),(0,[])],[(14,[]),(17,[]),(20,[]),(33,[]),(50,[]),(55,[])],[],[],[],[0,1],[59,191],[22,23],[]),
 (50,[],[(1,[]),(0,[])],[],[],[],[],[0,1,3],[59,191],[22,23],[]),
 (51,[],[],[(14,[]),(18,[]),(21,[]),(45,[])],[],[],[],[0,2],[],[22,23],[]),
 (52,[],[],[],[],[],[],[],[],[],[]),
 (53,[],[],[],[],[],[],[],[],[],[]),
 (54,[],[],[],[],[],[],[0],[],[],[]),
 (55,[(2,[8])],[(1,[]),(0,[])],[(9,[]),(16,[])],[],[],[],[],[],[],[]),
 (56,[],[],[],[(1,[2])],[],[],[0],[],[22,23],[(2,0)]),
 (57,[(6,[5])],[(1,[]),(0,[])],[(8,[]),(11,[]),(15,[]),(24,[]),(40,[]),(66,[]),(78,[])],[(10,[40]),(11,[66])],[],[],[0],[],[22,23],[(40,0),(66,0)]),
 (58,[(6,[5])],[(1,[]),(0,[])],[(8,[]),(11,[]),(15,[]),(24,[]),(38,[]),(42,[])],[(10,[38])],[],[],[0],[],[22,23],[(38,0)]),
 (59,[],[],[(11,[]),(17,[]),(30,[]),(34,[]),(38,[]),(44,[])],[(7,[30])],[],[],[0],[],[69],[(30,0)]),
 (60,[],[],[(8,[])],[],[],[],[],[],[],[]),
 (61,[],[],[],[],[],[],[],[],[],[]),
 (62,[],[(1,[]),(0,[])],[(9,[2,3]),(16,[5])],[],[],[],[],[],[],[(2,20),(3,4),(5,5)]),
 (63,[(5,[4,21])],[(1,[4]),(0,[4])],[(12,[]),(22,[]),(32,[]),(46,[])],[(10,[46])],[],[],[],[211],[],[(4,20),(46,0)]),
 (64,[],[],[(12,[])],[],[],[],[],[],[],[]),
 (65,[],[(0,[])],[(33,[]),(25,[]),(18,[]),(14,[])],[(4,[18])],[],[],[],[],[],[(18,0)]),
 (66,[],[],[],[],[],[],[],[],[],[]),
 (67,[],[],[],[],[],[],[],[],[],[]),
 (68,[],[],[],[],[],[],[],[],[],[]),
 (69,[],[],[],[],[],[],[],[],[],[]),
 (70,[],[(0,[])],[(31,[]),(28,[]),(24,[]),(45,[])],[],[],[],[0],[139,145,147],[],[]),
 (71,[],[(0,[])],[(66,[]),(40,[]),(34,[]),(13,[]),(9,[])],[(4,[13]),(8,[40]),(10,[66])],[],[],[0,1],[],[22,23],[(13,0),(40,0),(66,0)]),
 (72,[],[],[],[],[],[],[1],[],[],[]),
 (73,[(2,[7,8]),(9,[7,8]),(7,[6])],[(1,[7,8]),(0,[7]),(5,[7,8]),(4,[7]),(3,[6]),(2,[])],[(13,[]),(30,[]),(35,[]),(54,[])],[],[],[],[],[],[],[(6,4),(7,4),(8,4)]),
 (74,[],[],[],[],[],[],[],[],[],[]),
 (75,[(2,[8])],[(1,[]),(0,[])],[(9,[]),(16,[])],[],[],[],[],[],[],[]),
 (76,[(3,[9,10])],[(1,[9,10]),(0,[9])],[(17,[]),(31,[9,10])],[(8,[6,7])],[],[],[1],[],[],[(6,4),(7,0),(9,4),(10,4)]),
 (77,[],[],[(16,[]),(22,[]),(31,[]),(68,[])],[],[],[],[],[],[],[]),
 (78,[],[],[(4,[])],[],[],[],[],[],[],[]),
 (79,[],[],[(30,[]),(35,[]),(54,[])],[(1,[30]),(5,[54])],[],[],[0],[],[],[(30,0),(54,0)]),
 (80,[],[],[],[],[],[],[],[],[],[]),
 (81,[],[],[],[],[],[],[0],[],[],[]),
 (82,[],[],[(26,[])],[(1,[26])],[],[],[0,1],[],[],[(26,0)]),
 (83,[],[],[(14,[])],[],[],[],[0],[],[22,23],[]),
 (84,[],[],[(11,[])],[],[],[],[0],[],[],[]),
 (85,[(11,[45])],[(1,[]),(0,[])],[(19,[]),(36,[]),(46,[]),(51,[])],[(3,[36])],[],[],[0,2,3],[245],[22,23],[(36,0)]),
 (86,[],[],[],[],[],[],[1],[],[],[]),
 (87,[(5,[6])],[(1,[]),(0,[])],[(9,[]),(17,[]),(27,[])],[],[],[],[],[],[],[]),
 (88,[],[],[],[],[],[],[0,1],[],[],[]),
 (89,[(5,[5,6])],[(1,[5]),(0,[5])],[(12,[]),(19,[]),(29,[5])],[],[],[],[],[],[],[(5,4)]),
 (90,[],[],[],[],[],[],[0],[],[],[]),
 (91,[],[],[],[(1,[4])],[],[],[0,1],[],[],[(4,0)]),
 (92,[],[],[],[],[],[],[],[],[],[]),
 (93,[],[],[],[],[],[],[0],[],[],[]),
 (94,[],[],[],[],[],[],[],[],[],[]),
 (95,[],[],[],[(1,[4])],[],[],[0,1],[],[22,23],[(4,0)]),
 (96,[],[],[],[],[],[],[0,1],[],[],[]),
 (97,[(3,[3,8])],[(1,[3]),(0,[3])],[(9,[])],[],[],[],[],[245],[],[(3,4)]),
 (98,[(5,[18]),(15,[11,10,44])],[(1,[]),(0,[]),(3,[11,10]),(2,[10])],[(19,[]),(25,[]),(45,[]),(51,[])],[],[(10,2)],[],[],[108],[],[(11,4)]),
 (99,[],[],[],[],[],[],[0,1,2],[],[22,23,39],[]),
 (100,[],[(0,[])],[(20,[]),(54,[]),(46,[]),(40,[]),(27,[])],[(1,[20]),(4,[27])],[],[],[0,1,2,3],[50],[22,23],[(20,0),(27,0)]),
 (101,[],[],[(8,[])],[],[],[],[0,1,2],[],[22,23],[]),
 (102,[],[],[],[],[],[],[],[],[],[]),
 (103,[],[],[],[],[],[],[0,1],[],[],[]),
 (104,[(3,[9,10])],[(1,[9,10]),(0,[9])],[(17,[]),(31,[9,10])],[(8,[6,7])],[],[],[1],[],[],[(6,4),(7,0),(9,4),(10,4)]),
 (105,[],[],[(16,[]),(22,[]),(31,[]),(68,[])],[],[],[],[],[],[],[]),
 (106,[],[],[(4,[])],[],[],[],[],[],[],[]),
 (107,[(2,[8])],[(1,[]),(0,[])],[(9,[]),(16,[])],[],[],[],[],[],[],[]),
 (108,[],[],[(26,[])],[(1,[26]),(4,[4])],[],[],[0,1],[50],[22,23],[(4,0),(26,0)]),
 (109,[],[],[],[(1,[4])],[],[],[0,1],[],[22,23],[(4,0)]),
 (110,[],[],[(9,[]),(19,[]),(29,[]),(39,[])],[],[],[],[0,1],[],[],[]),
 (111,[(2,[5])],[(1,[]),(0,[])],[(9,[]),(33,[])],[],[],[],[0],[],[22,23],[]),
 (112,[],[],[(18,[]),(26,[]),(39,[])],[(1,[18]),(3,[26]),(5,[39])],[],[],[0],[],[],[(18,0),(26,0),(39,0)]),
 (113,[],[(0,[3])],[(8,[3]),(6,[3]),(18,[])],[(7,[18])],[],[],[0],[],[],[(3,4),(18,0)]),
 (114,[],[],[],[(1,[6])],[],[],[],[],[],[(6,0)]),
 (115,[],[],[(30,[])],[(1,[30])],[],[],[0],[],[69],[(30,0)]),
 (116,[(4,[12]),(11,[6])],[(1,[]),(0,[]),(3,[]),(2,[])],[(9,[]),(13,[]),(19,[]),(25,[]),(39,[])],[],[],[],[],[211],[],[]),
 (117,[],[],[(8,[]),(24,[])],[(4,[24])],[],[],[0],[],[69],[(24,0)]),
 (118,[],[],[],[(1,[2])],[],[],[],[],[],[(2,0)]),
 (119,[],[],[],[],[],[],[0],[],[],[]),
 (120,[],[],[(4,[])],[],[],[],[],[],[],[]),
 (121,[],[],[(14,[])],[],[],[],[0],[],[],[]),
 (122,[],[],[],[],[],[],[],[],[],[]),
 (123,[],[],[(17,[])],[],[],[],[],[],[],[]),
 (124,[],[],[(18,[]),(25,[])],[],[],[],[],[],[],[]),
 (125,[],[],[(21,[])],[(0,[])],[],[],[],[],[],[]),
 (126,[(8,[8,6,28])],[(1,[8,6]),(0,[8,6])],[(19,[]),(26,[]),(29,[]),(39,[]),(55,[])],[(4,[26]),(12,[55])],[(8,3)],[],[],[211],[],[(6,4),(26,0),(55,0)]),
 (127,[(4,[10])],[(1,[]),(0,[])],[(7,[]),(11,[]),(17,[]),(30,[])],[(8,[30])],[],[],[],[91],[],[(30,0)]),
 (128,[],[],[(17,[]),(21,[]),(24,[]),(28,[]),(44,[]),(62,[])],[(9,[44])],[],[],[0],[],[89],[(44,0)]),
 (129,[],[],[(6,[])],[],[],[],[],[],[137],[]),
 (130,[],[],[(9,[])],[(1,[9])],[],[],[],[],[89],[(9,0)]),
 (131,[(5,[22]),(1,[2,3])],[(3,[]),(2,[]),(1,[]),(0,[])],[(11,[]),(23,[])],[],[],[],[],[],[],[]),
 (132,[(0,[])],[(1,[]),(0,[])],[(22,[]),(32,[])],[(1,[22])],[],[],[],[],[22,23,26,27],[(22,0)]),
 (133,[(11,[12,13])],[(1,[12]),(0,[12])],[(24,[]),(34,[]),(48,[]),(65,[]),(69,[])],[(15,[65])],[(12,4)],[],[0,1],[59],[22,23,26,27,102],[(65,0)]),
 (134,[(4,[18]),(10,[36])],[(1,[]),(0,[]),(3,[]),(2,[])],[(14,[]),(19,[]),(31,[]),(37,[]),(57,[])],[(6,[31])],[],[],[],[],[22,23,26,27],[(31,0)]),
 (135,[(4,[9]),(1,[8])],[(3,[]),(2,[]),(1,[]),(0,[])],[(14,[]),(34,[])],[(4,[34])],[],[],[],[],[],[(34,0)]),
 (136,[(3,[10,11]),(9,[13]),(15,[14,15]),(21,[17]),(33,[20,21])],[(1,[10,11]),(0,[10]),(3,[]),(2,[]),(5,[14,15]),(4,[14]),(7,[]),(6,[]),(9,[20,21]),(8,[20])],[(33,[]),(50,[10,11]),(58,[]),(28,[]),(85,[]),(103,[14,15]),(110,[]),(80,[]),(140,[20,21]),(151,[]),(171,[20,21]),(185,[]),(199,[]),(213,[])],[(39,[185]),(41,[199]),(43,[213])],[],[],[],[],[],[(10,4),(11,4),(14,4),(15,4),(20,4),(21,4),(185,0),(199,0),(213,0)]),
 (138,[],[],[],[],[],[],[],[],[],[]),
 (139,[],[],[],[(1,[6])],[],[],[],[],[],[(6,0)]),
 (140,[(2,[8])],[(1,[]),(0,[])],[(9,[]),(16,[])],[],[],[],[],[],[],[]),
 (141,[],[],[(10,[]),(19,[])],[(3,[19])],[],[],[0],[],[22,23],[(19,0)]),
 (142,[(6,[29])],[(1,[]),(0,[])],[(30,[])],[],[],[],[0],[50,91],[22,23],[]),
 (143,[],[],[(7,[]),(10,[])],[],[],[],[0],[],[],[]),
 (144,[],[],[],[],[],[],[0],[],[],[]),
 (145,[],[],[(10,[])],[(0,[10])],[],[],[],[],[],[(10,0)]),
 (146,[],[],[(22,[]),(17,[])],[],[],[],[],[],[],[]),
 (147,[(5,[32]),(1,[17])],[(3,[]),(2,[]),(1,[]),(0,[])],[(18,[]),(26,[]),(33,[]),(83,[]),(97,[])],[(8,[83])],[],[],[],[50,59,91],[],[(83,0)]),
 (148,[],[],[(11,[])],[],[],[],[],[],[],[]),
 (149,[(3,[28])],[(1,[]),(0,[])],[(29,[]),(41,[])],[],[],[],[],[91],[],[]),
 (150,[],[],[(9,[])],[],[],[],[1],[],[],[]),
 (151,[(2,[8])],[(1,[]),(0,[])],[(9,[]),(16,[])],[],[],[],[],[],[],[]),
 (152,[(2,[3,1,11,10,2])],[(1,[3,1,11,10,2]),(0,[])],[(25,[]),(32,[]),(39,[3]),(56,[13,14]),(80,[]),(75,[]),(97,[1]),(125,[10,1,2])],[(15,[75]),(17,[97])],[],[],[],[],[],[(1,4),(2,4),(3,4),(10,0),(11,0),(13,4),(14,4),(75,0),(97,0)]),
 (153,[],[],[(0,[])],[],[],[],[],[],[],[]),
 (154,[],[],[(15,[])],[],[],[],[],[],[],[]),
 (155,[],[],[],[],[],[],[],[],[],[]),
 (156,[(2,[15])],[(1,[]),(0,[])],[(16,[]),(36,[])],[(4,[36])],[],[],[],[59],[],[(36,0)]),
 (157,[],[],[],[(1,[6])],[],[],[0],[],[],[(6,0)]),
 (158,[],[],[],[],[],[],[0,1],[50],[22,23],[]),
 (159,[(2,[3,1,11,10,2])],[(1,[3,1,11,10,2]),(0,[])],[(25,[]),(32,[]),(39,[3]),(56,[13,14]),(80,[]),(75,[]),(97,[1]),(125,[10,1,2])],[(15,[75]),(17,[97])],[],[],[],[],[],[(1,4),(2,4),(3,4),(10,0),(11,0),(13,4),(14,4),(75,0),(97,0)]),
 (161,[],[],[],[],[],[],[],[],[],[]),
 (162,[(3,[7,8])],[(1,[7]),(0,[7])],[(12,[]),(39,[7])],[(5,[39])],[],[],[],[],[],[(7,4),(39,0)]),
 (163,[],[(0,[])],[(21,[]),(12,[]),(3,[])],[(1,[3]),(3,[12])],[],[],[0],[],[],[(3,0),(12,0)]),
 (164,[(1,[3]),(3,[3])],[(1,[3]),(0,[3]),(3,[]),(2,[])],[(7,[]),(11,[]),(23,[])],[],[],[],[],[],[],[(3,4)]),
 (165,[],[],[],[],[],[],[],[],[],[]),
 (166,[(5,[3,5,4])],[(1,[3,5]),(0,[3,4])],[(12,[]),(14,[]),(18,[]),(26,[]),(61,[]),(68,[7]),(78,[])],[(21,[78])],[],[],[],[],[],[(3,4),(4,4),(5,0),(7,4),(78,0)]),
 (167,[],[],[(11,[])],[(2,[11])],[],[],[],[],[],[(11,0)]),
 (168,[],[],[],[],[],[],[],[],[],[]),
 (169,[],[],[(8,[])],[],[],[],[],[],[],[]),
 (170,[],[],[(18,[]),(52,[])],[(8,[52])],[],[],[],[],[],[(52,0)]),
 (171,[],[],[],[(1,[2])],[],[],[0],[],[],[(2,0)]),
 (172,[],[],[],[(1,[6])],[],[],[],[],[],[(6,0)]),
 (173,[],[],[(19,[]),(38,[])],[(5,[38])],[],[],[],[312],[89],[(38,0)]),
 (174,[],[],[],[],[],[],[0],[],[89],[]),
 (175,[],[],[],[(1,[2])],[],[],[],[],[],[(2,0)]),
 (176,[],[],[(11,[]),(20,[])],[],[],[],[],[],[],[]),
 (177,[],[],[],[],[],[],[],[],[],[]),
 (178,[(2,[12])],[(3,[]),(2,[]),(1,[]),(0,[])],[(13,[]),(31,[])],[(6,[31])],[],[],[0],[174],[],[(31,0)]),
 (179,[(1,[2,3])],[(1,[]),(0,[])],[(9,[])],[],[],[],[],[],[],[]),
 (180,[(8,[1,34])],[(1,[1]),(0,[1])],[(19,[]),(31,[]),(35,[])],[],[(1,4)],[1],[0],[91],[22,23],[(1,104)]),
 (181,[(2,[10,11])],[(1,[10,11]),(0,[10])],[(20,[]),(23,[10,11])],[],[],[],[],[],[],[(10,4),(11,4)]),
 (182,[],[],[],[],[],[],[],[],[],[]),
 (183,[],[],[(6,[])],[],[],[],[],[],[],[]),
 (184,[],[(1,[]),(0,[])],[],[],[],[],[0],[],[],[]),
 (185,[],[],[],[],[],[],[0],[],[],[]),
 (186,[(4,[9]),(1,[8])],[(3,[]),(2,[]),(1,[]),(0,[])],[(14,[]),(34,[])],[(4,[34])],[],[],[],[],[],[(34,0)]),
 (187,[(4,[11]),(8,[12])],[(1,[]),(0,[]),(3,[]),(2,[])],[(21,[]),(33,[])],[],[],[],[],[],[],[]),
 (188,[(5,[11])],[(1,[]),(0,[])],[(35,[]),(45,[12]),(17,[])],[],[],[],[],[327],[],[(12,4)]),
 (189,[],[(0,[8,9])],[(36,[12,13,14]),(34,[13]),(60,[8,9]),(57,[8,9])],[],[],[],[],[],[],[(8,4),(9,4),(12,4),(13,4),(14,4)]),
 (190,[(2,[8,9])],[(1,[8,9]),(0,[])],[(15,[])],[],[],[],[],[],[],[(8,4),(9,4)]),
 (191,[(5,[9]),(14,[11]),(20,[12]),(3,[9,10])],[(3,[9]),(2,[9]),(5,[]),(4,[]),(7,[]),(6,[]),(1,[9]),(0,[])],[(16,[]),(36,[]),(41,[]),(45,[]),(69,[]),(84,[]),(65,[]),(109,[]),(124,[]),(104,[])],[(5,[36])],[],[],[],[],[],[(9,4),(36,0)]),
 (192,[(3,[11]),(5,[12]),(3,[11,12])],[(3,[11]),(2,[11]),(5,[12]),(4,[12]),(1,[11,12]),(0,[11])],[(47,[]),(65,[]),(70,[])],[(3,[47]),(5,[65])],[],[],[],[],[],[(11,4),(12,4),(47,0),(65,0)]),
 (193,[(3,[12]),(5,[13]),(13,[12]),(15,[13]),(13,[12,13])],[(1,[12]),(0,[12]),(3,[13]),(2,[13]),(7,[12]),(6,[12]),(9,[13]),(8,[13]),(5,[12,13]),(4,[13])],[(47,[]),(66,[]),(71,[]),(120,[]),(139,[]),(144,[])],[(3,[47]),(5,[66]),(13,[120]),(15,[139])],[],[],[],[],[],[(12,4),(13,4),(47,0),(66,0),(120,0),(139,0)]),
 (194,[],[],[(4,[0,2]),(8,[0,2])],[],[],[],[],[],[],[(0,7),(2,4)]),
 (195,[],[],[(4,[0,2]),(8,[0,2]),(14,[0,2])],[],[],[],[],[],[],[(0,8),(2,4)]),
 (196,[(2,[3,1,9,8,2])],[(1,[3,1,9,8,2]),(0,[])],[(23,[]),(29,[]),(35,[3]),(50,[11,12]),(72,[]),(68,[]),(87,[1]),(113,[8,1,2])],[(15,[68]),(17,[87])],[],[],[],[],[],[(1,4),(2,4),(3,4),(8,0),(9,0),(11,4),(12,4),(68,0),(87,0)]),
 (197,[],[],[],[(1,[6])],[],[],[0],[],[],[(6,0)]),
 (198,[(4,[9]),(1,[8])],[(3,[]),(2,[]),(1,[]),(0,[])],[(14,[]),(34,[])],[(4,[34])],[],[],[],[],[],[(34,0)]),
 (199,[(4,[11]),(8,[12])],[(1,[]),(0,[]),(3,[]),(2,[])],[(21,[]),(33,[])],[],[],[],[],[],[],[]),
 (200,[(5,[11])],[(1,[]),(0,[])],[(35,[]),(45,[12]),(17,[])],[],[],[],[],[327],[],[(12,4)]),
 (201,[],[(0,[8,9])],[(36,[12,13,14]),(34,[13]),(60,[8,9]),(57,[8,9])],[],[],[],[],[],[],[(8,4),(9,4),(12,4),(13,4),(14,4)]),
 (202,[(2,[8,9])],[(1,[8,9]),(0,[])],[(15,[])],[],[],[],[],[],[],[(8,4),(9,4)]),
 (203,[(5,[9]),(14,[11]),(20,[12]),(3,[9,10])],[(3,[9]),(2,[9]),(5,[]),(4,[]),(7,[]),(6,[]),(1,[9]),(0,[])],[(16,[]),(36,[]),(41,[]),(45,[]),(69,[]),(84,[]),(65,[]),(109,[]),(124,[]),(104,[])],[(5,[36])],[],[],[],[],[],[(9,4),(36,0)]),
 (204,[(3,[11]),(5,[12]),(3,[11,12])],[(3,[11]),(2,[11]),(5,[12]),(4,[12]),(1,[11,12]),(0,[11])],[(47,[]),(65,[]),(70,[])],[(3,[47]),(5,[65])],[],[],[],[],[],[(11,4),(12,4),(47,0),(65,0)]),
 (205,[(3,[12]),(5,[13]),(13,[12]),(15,[13]),(13,[12,13])],[(1,[12]),(0,[12]),(3,[13]),(2,[13]),(7,[12]),(6,[12]),(9,[13]),(8,[13]),(5,[12,13]),(4,[13])],[(47,[]),(66,[]),(71,[]),(120,[]),(139,[]),(144,[])],[(3,[47]),(5,[66]),(13,[120]),(15,[139])],[],[],[],[],[],[(12,4),(13,4),(47,0),(66,0),(120,0),(139,0)]),
 (206,[],[],[],[],[],[],[],[],[],[]),
 (207,[],[(1,[]),(0,[])],[],[],[],[],[],[341],[],[]),
 (208,[],[],[],[],[],[],[],[],[],[]),
 (209,[],[],[],[],[],[],[],[],[],[]),
 (210,[],[],[],[],[],[],[],[],[],[]),
 (211,[],[],[],[],[],[],[0,2],[],[276],[]),
 (212,[],[],[],[],[],[],[],[],[89],[]),
 (213,[],[],[],[],[],[],[0],[],[89],[]),
 (214,[],[(0,[8,9]),(2,[]),(1,[])],[(35,[8,9]),(29,[8,9]),(25,[8,9]),(22,[8,9]),(13,[8,9])],[(1,[13])],[(8,8)],[8],[0,2],[91],[],[(8,108),(9,4),(13,0)]),
 (215,[],[],[],[],[],[],[0],[],[89],[]),
 (216,[],[],[(15,[])],[(0,[15])],[],[],[],[],[],[(15,0)]),
 (217,[],[],[],[],[],[],[],[],[],[]),
 (218,[],[],[(12,[])],[(1,[12])],[],[],[0],[],[137],[(12,0)]),
 (219,[],[],[],[(1,[2])],[],[],[],[],[],[(2,0)]),
 (220,[(0,[])],[(1,[]),(0,[])],[(21,[])],[(0,[21])],[],[],[],[],[],[(21,0)]),
 (221,[(7,[46]),(1,[2,3])],[(3,[]),(2,[]),(1,[]),(0,[])],[(18,[]),(39,[]),(47,[]),(75,[])],[(11,[75])],[],[],[],[],[89],[(75,0)]),
 (222,[(1,[2,3])],[(1,[]),(0,[])],[(16,[]),(35,[]),(51,[]),(77,[])],[(8,[77])],[],[],[],[],[89],[(77,0)]),
 (223,[],[],[(19,[]),(34,[])],[(0,[19])],[],[],[],[],[89],[(19,0)]),
 (224,[(1,[10])],[(1,[]),(0,[])],[(13,[])],[],[],[],[],[],[],[]),
 (225,[(1,[2,3])],[(1,[]),(0,[])],[(9,[])],[],[],[],[],[],[],[]),
 (226,[],[],[],[],[],[],[0],[],[],[]),
 (227,[(1,[10])],[(1,[10]),(0,[])],[(18,[]),(40,[11]),(58,[])],[(3,[40])],[],[],[],[],[],[(10,4),(11,4),(40,0)]),
 (228,[],[],[],[],[],[],[],[],[],[]),
 (229,[],[],[],[],[],[],[],[],[],[]),
 (230,[],[],[],[],[],[],[],[],[],[]),
 (231,[],[],[],[],[],[],[],[],[],[]),
 (232,[(4,[7]),(1,[6])],[(3,[]),(2,[]),(1,[]),(0,[])],[(12,[]),(30,[])],[(4,[30])],[],[],[],[],[],[(30,0)]),
 (233,[(4,[9]),(8,[10])],[(1,[]),(0,[]),(3,[]),(2,[])],[(19,[]),(30,[])],[],[],[],[],[],[],[]),
 (234,[(5,[9])],[(1,[]),(0,[])],[(33,[]),(43,[10]),(15,[])],[],[],[],[],[327],[],[(10,4)]),
 (235,[],[(0,[6,7])],[(34,[10,11,12]),(32,[11]),(54,[6,7]),(51,[6,7])],[],[],[],[],[],[],[(6,4),(7,4),(10,4),(11,4),(12,4)]),
 (236,[(2,[6,7])],[(1,[6,7]),(0,[])],[(13,[])],[],[],[],[],[],[],[(6,4),(7,4)]),
 (237,[(5,[7]),(14,[9]),(20,[10]),(3,[7,8])],[(3,[7]),(2,[7]),(5,[]),(4,[]),(7,[]),(6,[]),(1,[7]),(0,[])],[(14,[]),(32,[]),(37,[]),(41,[]),(65,[]),(78,[]),(61,[]),(103,[]),(116,[]),(98,[])],[(5,[32])],[],[],[],[],[],[(7,4),(32,0)]),
 (238,[],[],[],[(1,[4])],[],[],[],[],[],[(4,0)]),
 (239,[(3,[9]),(5,[10]),(3,[9,10])],[(3,[9]),(2,[9]),(5,[10]),(4,[10]),(1,[9,10]),(0,[9])],[(43,[]),(59,[]),(64,[])],[(3,[43]),(5,[59])],[],[],[],[],[],[(9,4),(10,4),(43,0),(59,0)]),
 (240,[(3,[10]),(5,[11]),(13,[10]),(15,[11]),(13,[10,11])],[(1,[10]),(0,[10]),(3,[11]),(2,[11]),(7,[10]),(6,[10]),(9,[11]),(8,[11]),(5,[10,11]),(4,[11])],[(43,[]),(60,[]),(65,[]),(112,[]),(129,[]),(134,[])],[(3,[43]),(5,[60]),(13,[112]),(15,[129])],[],[],[],[],[],[(10,4),(11,4),(43,0),(60,0),(112,0),(129,0)]),
 (241,[(1,[10])],[(1,[10]),(0,[])],[(18,[]),(40,[11]),(58,[])],[(3,[40])],[],[],[],[],[],[(10,4),(11,4),(40,0)]),
 (242,[],[],[],[],[],[],[],[],[],[]),
 (243,[],[],[],[],[],[],[],[],[],[]),
 (244,[(1,[2,3])],[(1,[]),(0,[])],[(9,[])],[],[],[],[],[],[],[]),
 (245,[(3,[3])],[(1,[]),(0,[])],[(4,[])],[],[],[],[],[],[],[]),
 (246,[],[],[],[],[],[],[0],[],[],[]),
 (247,[],[],[(13,[]),(31,[])],[],[],[],[],[],[],[]),
 (248,[],[],[(13,[]),(31,[])],[],[],[],[],[],[],[]),
 (249,[],[(1,[]),(0,[])],[],[],[],[],[],[312],[89],[]),
 (250,[(1,[11])],[(1,[]),(0,[])],[(12,[]),(29,[])],[],[],[],[],[310],[89],[]),
 (251,[],[],[(8,[]),(11,[]),(14,[])],[],[],[],[1],[],[89],[]),
 (252,[],[],[],[(1,[6])],[],[],[],[],[],[(6,0)]),
 (253,[],[],[],[(1,[4])],[],[],[],[],[],[(4,0)]),
 (254,[],[],[],[],[],[],[0],[],[89],[]),
 (255,[],[],[],[],[],[],[],[],[],[]),
 (256,[],[],[],[],[],[],[],[],[],[]),
 (257,[(6,[33])],[(1,[]),(0,[])],[(25,[]),(29,[]),(34,[]),(57,[]),(71,[])],[(1,[25]),(8,[57]),(10,[71])],[],[],[0],[361],[89,137],[(25,0),(57,0),(71,0)]),
 (258,[],[],[(13,[]),(31,[])],[],[],[],[4],[],[89,137],[]),
 (259,[],[],[(27,[])],[(2,[27])],[],[],[],[361],[89,137],[(27,0)]),
 (260,[],[],[(19,[]),(24,[]),(56,[]),(71,[])],[(1,[19])],[],[],[1],[310],[89],[(19,0)]),
 (261,[],[],[],[(1,[2])],[],[],[0],[],[89],[(2,0)]),
 (262,[],[],[(20,[]),(26,[]),(48,[])],[(1,[20]),(6,[48])],[],[],[0,2],[],[89],[(20,0),(48,0)]),
 (263,[],[],[(12,[]),(16,[]),(22,[])],[],[],[],[0],[],[89],[]),
 (264,[(1,[3])],[(1,[]),(0,[])],[(6,[]),(13,[])],[],[],[],[],[],[],[]),
 (265,[],[],[(22,[])],[],[],[],[],[],[],[]),
 (266,[(1,[8])],[(1,[8]),(0,[])],[(16,[]),(36,[9]),(52,[])],[(3,[36])],[],[],[],[],[],[(8,4),(9,4),(36,0)]),
 (267,[],[],[],[],[],[],[],[],[],[]),
 (268,[],[],[],[],[],[],[],[],[],[]),
 (269,[],[],[(22,[])],[],[],[],[],[],[],[]),
 (270,[(2,[0,3])],[(1,[0]),(0,[0])],[(4,[]),(7,[0])],[],[],[],[],[],[],[(0,7)]),
 (271,[(1,[6])],[(1,[]),(0,[])],[(7,[]),(14,[])],[],[],[],[],[],[],[]),
 (272,[],[],[(8,[]),(30,[]),(35,[])],[(5,[30])],[],[],[0],[400],[89],[(30,0)]),
 (273,[(4,[5]),(1,[9])],[(3,[5]),(2,[]),(1,[]),(0,[])],[(10,[]),(18,[]),(31,[])],[],[],[],[],[91],[],[(5,4)]),
 (274,[],[(2,[]),(1,[]),(0,[])],[(20,[6,7]),(43,[]),(32,[]),(59,[])],[(1,[20]),(9,[32]),(11,[43])],[(6,2)],[6],[],[],[],[(6,102),(7,4),(20,0),(32,0),(43,0)]),
 (275,[],[],[],[(1,[4])],[],[],[],[],[],[(4,0)]),
 (276,[(9,[44])],[(1,[]),(0,[])],[(17,[]),(29,[]),(37,[]),(45,[]),(75,[])],[(3,[29])],[],[],[2],[361],[89],[(29,0)]),
 (277,[],[],[(14,[]),(20,[]),(53,[]),(70,[])],[(6,[53]),(8,[70])],[],[],[],[],[],[(53,0),(70,0)]),
 (278,[],[],[(8,[]),(14,[])],[],[],[],[],[],[89],[]),
 (279,[(12,[81])],[(1,[]),(0,[])],[(29,[]),(43,[]),(69,[]),(76,[]),(82,[]),(89,[]),(98,[])],[(1,[29]),(3,[43]),(5,[69])],[],[],[0],[91],[89],[(29,0),(43,0),(69,0)]),
 (280,[(2,[13])],[(1,[]),(0,[])],[(14,[]),(19,[])],[],[],[],[0,1],[],[89],[]),
 (281,[],[],[],[],[],[],[0,1],[],[89],[]),
 (282,[],[],[(20,[])],[],[],[],[],[],[89],[]),
 (283,[],[],[(4,[])],[],[],[],[],[],[],[]),
 (284,[],[(0,[4])],[(8,[]),(33,[4]),(24,[4]),(12,[4]),(39,[])],[(9,[4]),(7,[4])],[],[],[0],[],[89],[(4,0)]),
 (285,[],[],[],[],[],[],[],[],[],[]),
 (286,[],[],[(18,[])],[],[],[],[],[],[],[]),
 (287,[],[],[],[],[],[],[],[],[],[]),
 (288,[],[],[],[],[],[],[0,1],[],[89],[]),
 (289,[],[],[],[],[],[],[],[],[],[]),
 (290,[],[],[],[(1,[3])],[],[],[],[],[],[(3,0)]),
 (291,[],[],[(4,[])],[],[],[],[],[],[],[]),
 (292,[(2,[5,6])],[(1,[5,6]),(0,[5])],[(11,[]),(21,[5,6])],[],[],[],[],[],[],[(5,4),(6,4)]),
 (293,[],[],[],[],[],[],[],[],[],[]),
 (294,[],[],[(16,[]),(22,[]),(31,[]),(68,[])],[],[],[],[],[],[],[]),
 (295,[],[],[],[(1,[4])],[],[],[1],[],[],[(4,0)]),
 (296,[],[],[(13,[])],[],[],[],[],[],[],[]),
 (297,[],[],[],[],[],[],[],[],[],[]),
 (298,[],[],[(12,[]),(21,[]),(34,[])],[(1,[12]),(3,[21])],[],[],[],[430],[],[(12,0),(21,0)]),
 (299,[],[],[],[(1,[2])],[],[],[],[],[],[(2,0)]),
 (300,[],[],[],[(1,[2])],[],[],[],[],[],[(2,0)]),
 (301,[(2,[10])],[(1,[]),(0,[])],[(11,[]),(49,[])],[(5,[49])],[],[],[],[91],[],[(49,0)]),
 (302,[],[],[],[],[],[],[],[],[],[]),
 (303,[],[],[],[],[],[],[],[],[],[]),
 (304,[],[],[(8,[]),(42,[]),(75,[])],[(4,[42]),(6,[75])],[],[],[0],[50],[89],[(42,0),(75,0)]),
 (305,[],[],[],[],[],[],[0],[],[89],[]),
 (306,[],[],[(34,[]),(39,[])],[(2,[34])],[],[],[2],[],[89],[(34,0)]),
 (307,[],[],[],[],[],[],[0,2],[],[89],[]),
 (308,[],[],[],[(1,[2])],[],[],[0],[],[89],[(2,0)]),
 (309,[],[],[],[(1,[2])],[],[],[0],[],[89],[(2,0)]),
 (310,[],[],[],[(1,[2])],[],[],[0],[],[89],[(2,0)]),
 (311,[],[],[],[(1,[2])],[],[],[0],[],[89],[(2,0)]),
 (312,[],[],[],[(1,[2])],[],[],[0],[],[89],[(2,0)]),
 (313,[],[],[],[(1,[2])],[],[],[0],[],[89],[(2,0)]),
 (314,[(1,[])],[(1,[]),(0,[])],[(32,[]),(43,[10]),(63,[])],[(3,[32]),(5,[43])],[],[],[],[],[],[(10,4),(32,0),(43,0)]),
 (315,[],[(0,[])],[(15,[]),(4,[])],[],[],[],[],[],[],[]),
 (316,[],[],[(17,[]),(21,[])],[(1,[17])],[],[],[],[],[],[(17,0)]),
 (317,[(2,[8])],[(1,[]),(0,[])],[(9,[]),(16,[])],[],[],[],[],[],[],[]),
 (319,[],[],[],[],[],[],[],[],[],[]),
 (320,[],[],[],[(1,[3])],[],[],[0],[],[],[(3,0)]),
 (321,[],[],[(12,[6]),(22,[7])],[],[],[],[],[],[],[(6,4),(7,4)]),
 (322,[],[],[],[],[],[],[],[425],[],[]),
 (323,[(1,[0])],[(1,[0]),(0,[0])],[(13,[])],[(1,[13])],[],[],[],[],[],[(0,20),(13,0)]),
 (324,[(1,[0])],[(1,[0]),(0,[0])],[(16,[])],[(1,[16])],[],[],[],[],[],[(0,20),(16,0)]),
 (325,[(2,[4])],[(1,[]),(0,[])],[(9,[]),(16,[])],[],[],[],[],[],[],[]),
 (326,[(1,[0])],[(1,[0]),(0,[0])],[(7,[]),(12,[])],[],[],[],[],[],[],[(0,20)]),
 (327,[(1,[0])],[(1,[0]),(0,[0])],[(7,[]),(15,[])],[],[],[],[],[],[],[(0,20)]),
 (328,[(1,[0])],[(1,[0]),(0,[0])],[(9,[]),(18,[])],[],[],[],[],[],[],[(0,20)]),
 (329,[(1,[0])],[(1,[0]),(0,[0])],[(9,[]),(17,[5,6]),(26,[])],[],[],[],[],[],[],[(0,20),(5,3),(6,4)]),
 (330,[],[],[],[(1,[4])],[],[],[],[],[],[(4,0)]),
 (331,[(4,[13])],[(1,[]),(0,[])],[(10,[]),(14,[]),(24,[])],[],[],[],[],[],[],[]),
 (332,[],[],[],[],[],[],[],[],[],[]),
 (333,[],[],[],[],[],[],[],[],[],[]),
 (334,[],[],[],[],[],[],[],[],[],[]),
 (335,[],[],[],[],[],[],[],[],[],[]),
 (336,[],[],[],[],[],[],[],[],[],[]),
 (337,[],[],[],[],[],[],[],[],[],[]),
 (338,[],[],[(10,[2,3])],[(1,[10])],[],[],[],[],[],[(2,3),(3,4),(10,0)]),
 (339,[],[],[],[],[],[],[],[],[],[]),
 (340,[(10,[5])],[(1,[]),(0,[5])],[(10,[]),(18,[]),(27,[]),(33,[]),(35,[5]),(48,[2,3])],[],[],[],[],[],[],[(2,3),(3,4),(5,4)]),
 (341,[(1,[2,3])],[(1,[]),(0,[])],[(9,[])],[],[],[],[],[],[],[]),
 (342,[],[],[(16,[]),(23,[]),(45,[]),(57,[]),(59,[]),(75,[]),(77,[]),(98,[])],[(14,[57]),(19,[75]),(24,[98])],[],[],[],[443],[],[(57,0),(75,0),(98,0)]),
 (343,[(12,[12]),(5,[9]),(29,[16]),(25,[9]),(38,[])],[(4,[]),(3,[]),(2,[9]),(1,[]),(8,[]),(7,[]),(6,[]),(5,[]),(10,[]),(9,[]),(0,[4])],[(26,[]),(43,[]),(33,[9]),(51,[]),(64,[]),(98,[]),(124,[]),(143,[]),(156,[]),(139,[]),(108,[]),(0,[]),(183,[4]),(177,[]),(181,[]),(171,[4]),(160,[4])],[(34,[160]),(18,[98]),(27,[139])],[],[],[],[],[],[(4,4),(9,4),(98,0),(139,0),(160,0)]),
 (344,[],[],[],[],[],[],[],[],[],[]),
 (345,[],[],[],[],[],[],[],[],[],[]),
 (346,[],[(0,[])],[(10,[]),(3,[])],[(1,[3]),(3,[10])],[],[],[],[],[],[(3,0),(10,0)]),
 (347,[],[],[],[],[],[],[],[],[],[]),
 (349,[],[],[],[],[],[],[],[],[],[])]
def ρ77:Go.Shelf.Ren:=⟨fun x=>if x=22 then 77 else if x=29 then 137 else if x=30 then 138 else 0,fun x=>if x=24 then 26 else if x=9 then 43 else if x=3 then 3 else if x=4 then 4 else 0,fun x=>x⟩
theorem lay77:E7 Tryz.prog ρ77 4 where
 mixed:=by kernel_rfl
 f22 := ⟨"slices.Insert[[]mailboat/api.Booking,mailboat/api.Booking]", by decide, by kernel_rfl⟩
 f29:=⟨_,rfl,by kernel_rfl,by kernel_rfl,by kernel_rfl,by kernel_rfl⟩
 t3:=by kernel_rfl
 a3:=fun w=>by kernel_rfl
 z3:=fun w=>by kernel_rfl
 v3:=fun w=>by kernel_rfl
 t4:=by kernel_rfl
 a4:=fun w=>by kernel_rfl
 z4:=fun w=>by kernel_rfl
 v4:=fun w=>by kernel_rfl
 z9:=fun w=>by kernel_rfl
 t24:=by kernel_rfl
 a24:=fun w=>by kernel_rfl
 z24:=fun w=>by kernel_rfl
 v24:=fun w=>by kernel_rfl
 i9:=⟨_,_,rfl,rfl,rfl,rfl,by decide⟩
 pos:=by decide
def ρ105:Go.Shelf.Ren:=⟨fun x=>if x=22 then 105 else if x=29 then 160 else if x=30 then 161 else 0,fun x=>if x=24 then 27 else if x=9 then 108 else if x=3 then 3 else if x=4 then 4 else 0,fun x=>x⟩
theorem lay105:E7 Tryz.prog ρ105 5 where
 mixed:=by kernel_rfl
 f22 := ⟨"slices.Insert[[]mailboat/api.Hold,mailboat/api.Hold]", by decide, by kernel_rfl⟩
 f29:=⟨_,rfl,by kernel_rfl,by kernel_rfl,by kernel_rfl,by kernel_rfl⟩
 t3:=by kernel_rfl
 a3:=fun w=>by kernel_rfl
 z3:=fun w=>by kernel_rfl
 v3:=fun w=>by kernel_rfl
 t4:=by kernel_rfl
 a4:=fun w=>by kernel_rfl
 z4:=fun w=>by kernel_rfl
 v4:=fun w=>by kernel_rfl
 z9:=fun w=>by kernel_rfl
 t24:=by kernel_rfl
 a24:=fun w=>by kernel_rfl
 z24:=fun w=>by kernel_rfl
 v24:=fun w=>by kernel_rfl
 i9:=⟨_,_,rfl,rfl,rfl,rfl,by decide⟩
 pos:=by decide
def ρ294:Go.Shelf.Ren:=⟨fun x=>if x=22 then 294 else if x=29 then 318 else if x=30 then 319 else 0,fun x=>if x=24 then 137 else if x=9 then 361 else if x=3 then 3 else if x=4 then 4 else 0,fun x=>x⟩
theorem lay294:E7 Tryz.prog ρ294 10 where
 mixed:=by kernel_rfl
 f22 := ⟨"slices.Insert[[]mailboat/api.Frame,mailboat/api.Frame]", by decide, by kernel_rfl⟩
 f29:=⟨_,rfl,by kernel_rfl,by kernel_rfl,by kernel_rfl,by kernel_rfl⟩
 t3:=by kernel_rfl
 a3:=fun w=>by kernel_rfl
 z3:=fun w=>by kernel_rfl
 v3:=fun w=>by kernel_rfl
 t4:=by kernel_rfl
 a4:=fun w=>by kernel_rfl
 z4:=fun w=>by kernel_rfl
 v4:=fun w=>by kernel_rfl
 z9:=fun w=>by kernel_rfl
 t24:=by kernel_rfl
 a24:=fun w=>by kernel_rfl
 z24:=fun w=>by kernel_rfl
 v24:=fun w=>by kernel_rfl
 i9:=⟨_,_,rfl,rfl,rfl,rfl,by decide⟩
 pos:=by decide
def OP (g:Nat):Option Prim:=if g=77 then some (.ins 4) else if g=105 then some (.ins 5) else if g=294 then some (.ins 10) else if g=32 then some (.perm 4 19 (some 33) (Of (BP [0,1]))) else if g=94 then some (.perm 4 1073741824 (some 88) (GV (BP [3,0,1]))) else if g=102 then some (.perm 5 1073741824 (some 103) (GV (BP [0,1,2,4,3]))) else if g=155 then some (.perm 1 1073741824 none FA) else none
theorem RO (g:Nat) (p:Prim) (h:OP g=some p):SJ Tryz.prog g p:=by
 unfold OP at h;split at h
 ·rename_i e;cases h;exact ⟨ρ77,e.symm ▸ rfl,lay77⟩
 split at h
 ·rename_i e;cases h;exact ⟨ρ105,e.symm ▸ rfl,lay105⟩
 split at h
 ·rename_i e;cases h;exact ⟨ρ294,e.symm ▸ rfl,lay294⟩
 split at h
 ·rename_i e;cases h;subst e;exact perm32
 split at h
 ·rename_i e;cases h;subst e;exact perm94
 split at h
 ·rename_i e;cases h;subst e;exact perm102
 split at h
 ·rename_i e;cases h;subst e;exact perm155
 cases h
def Oo (g:Nat) (xs:List Tree):Option (List Tree):=
 if g=245 then (match xs with
  |[]=>some PU
  |_=>none) else if g=285 then (match xs with
  |[]=>some [.mp .i64 [(2,306),(3,307)]]
  |_=>none) else none
def preT (g i:Nat):List Tmp:=if g=51&&i=9 then [10] else []
noncomputable def C0:Cfg:={P:=Tryz.prog,heapful:=fun g=>[10,30,32,37,39,45,46,47,52,53,54,61,66,67,68,69,70,72,73,75,76,77,80,81,86,87,89,90,92,93,94,99,102,104,105,107,119,125,131,132,135,136,138,140,145,146,147,148,149,150,151,152,154,155,156,159,161,164,166,167,168,169,176,177,178,179,181,182,183,186,187,188,189,190,191,192,193,198,199,200,201,202,203,204,205,206,208,209,210,211,216,217,219,220,221,222,223,224,225,226,227,229,230,231,241,242,243,244,246,247,248,249,250,254,258,259,264,265,267,268,269,271,273,274,277,286,287,288,289,290,292,293,294,297,299,300,301,302,314,315,316,317,319,320,322,326,327,332,337,341].contains g,own:=fun g=>[9,14,78,106,128,173,291].contains g,reuse:=fun g=>[].contains g,joinc:=fun g=>[10,37,39,46,53,54,66,67,69,73,75,76,80,81,87,90,92,93,104,107,125,131,132,135,136,138,140,145,146,147,149,150,151,152,154,156,159,161,164,166,167,168,169,176,178,179,181,182,183,186,187,188,189,190,191,192,193,198,199,200,201,202,203,204,205,206,208,209,216,217,219,220,221,222,223,224,225,227,229,230,231,241,242,243,244,247,248,250,258,264,265,267,268,269,271,273,286,289,290,292,293,297,299,300,301,302,314,315,316,317,319,320,326,327,332,337,341].contains g,prim:=OP,primOk:=RO,cur:=fun _=>false,curT:=fun _=>false,curN:=fun _=>false,depth:=12,hints:=fun g=>{Us htab g with pre:=preT g},ext:=Oo,fnTy:=fun t=>[414].contains t,own2:=fun g=>if g=128 then some 15 else if g=173 then some 15 else none,renT:=fun g t=>([((133,169),(13,66)),((221,310),(2,86)),((222,310),(2,88))]:List ((Nat×Nat)×(Nat×Nat))).lookup (g,t)}
theorem AT:C0.P.follows .mixedOrders=true:=by kernel_rfl
def extT (g:Nat) (xs:List Tree):Option (List Tree):=if g=7 then (match xs with
  |[]=>some [.bool true]
  |_=>none) else Oo g xs
noncomputable def C:Cfg:={C0 with ext:=extT}
theorem mix:C.P.follows .mixedOrders=true:=by kernel_rfl
end Ab
