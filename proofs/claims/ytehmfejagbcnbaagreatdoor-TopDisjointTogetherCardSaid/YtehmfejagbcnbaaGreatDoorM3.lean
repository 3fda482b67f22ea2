/- A part of the proof: see the last text. -/
import Derived.Test.YtehmfejagbcnbaaGreatDoorM2
import Derived.LoopNIn
import Derived.RangeFuncNested
import Derived.OpenShut
import Derived.RowKit
import Derived.ChangeSame
import Derived.WideShapes
import Derived.ChangeShapes
import Derived.Deep.Slices
import Derived.Below
import Derived.CallsIn
import Derived.Shelf.SlSortCmp.WholeK
import Derived.Shelf.SlSortCmp.NoneTotal
import Derived.Shelf.Sort.Plain
import Derived.Shelf.Slices.In.SortNone
import Derived.Test.YtehmfejagbcnbaaGreatDoorProg
import Derived.Deep.LoopGhost
import Derived.StillTailTactics
import Derived.Deep.RegionWith
import Derived.WalkKit
import Derived.KernelRfl
import Derived.Shelf.SlLaysF0
import Derived.Shelf.SlSortCmp.InsertionK
set_option linter.unusedVariables false
set_option linter.unusedSimpArgs false
open Array (extract_eq_self_of_le getElem?_modify getElem?_toList length_toList size_append toArray_toList)
open Bool (and_eq_true false_eq_true not_eq_true' or_eq_false_iff or_eq_true)
open Int (toNat)
open List (all_cons all_eq_true any_cons any_eq_true append_assoc append_nil append_of_mem cons_append drop drop_succ_cons drop_zero ext_getElem? filterMap_cons filter_append filter_cons_of_neg filter_cons_of_pos filter_eq_self find?_cons foldlM_append foldlM_cons foldl_cons getD_eq_getElem?_getD getElem?_append_left getElem?_append_right getElem?_cons_succ getElem?_drop getElem?_eq_getElem getElem?_eq_none getElem?_map getElem?_range getElem?_set_ne getElem?_set_self getElem?_take getElem?_take_of_lt getElem_mem length length_append length_map length_range mapM_cons map_congr_left map_cons mem_append mem_append_left mem_append_right mem_cons mem_cons_of_mem mem_filter mem_filterMap mem_map mem_of_getElem? mem_of_mem_drop mem_range nil_append nodup_append nodup_cons nodup_iff_pairwise_ne nodup_nil pairwise_append pairwise_cons pairwise_map replicate size_toArray take take_zero)
open Nat (add_assoc add_mul le_refl le_trans lt_or_ge mod_lt mul_comm mul_le_mul_right not_lt pos_of_ne_zero zero_add zero_le)
open Option (bind_assoc map_none map_some)
namespace Ab
open Go
variable {R:Type} {P:Program} {B:Nat→Prop} {κ:A0} {h:Heap} {w:World} {N:Nat} {env:Env} {a:Act}
theorem Io (hr:Rel B N κ env h a w):Rel B N κ env h a {w with drawn:=w.drawn+1}:=
 ⟨HD hr.heap (Gs hr.heap) fun _ _=>rfl,hr.size,fun i=>(hr.slot i).ext (Gs hr.heap)⟩
theorem Ar {ops:Array Oper} {i:Nat} (hi:i<ops.size):ops[i]? = some (ops.getD i default):=by simp only [Array.getD,hi,dif_pos];exact Array.getElem?_eq_getElem hi
theorem RN {R:Type} (C:Cfg) (rec:Rec) (pc:BE) {env env':Env} {op:Op} (hl:Af C op=true) (hE:∀x∈op.operands,ev env x=ev env' x) (K:AV→Heap→Option R) :
  Ae C rec pc false env h op K=Ae C rec pc false env' h op K:=by
 by_cases hh:Aw op=true
 case neg=>
  have hw:(∃g args argTypes,op = .call {callee :=.value (.func g),args,argTypes})∨(∃t len parts,op = .buildSlice t len parts)∨∃src dst x,op = .convert src dst x:=by unfold Af at hl;split at hl<;>first|(exact absurd rfl hh)|(exact .inl ⟨_,_,_,rfl⟩)|(exact .inr (.inl ⟨_,_,_,rfl⟩))|(exact .inr (.inr ⟨_,_,_,rfl⟩))|cases hl
  rcases hw with ⟨g,args,argTypes,rfl⟩|⟨t,len,parts,rfl⟩|⟨src,dst,x,rfl⟩
  case inr.inr=>
   have hf:Mx C.P src dst=true:=hl;have hx:=hE x (by simp [Op.operands]);simp only [Ae,Aw,false_eq_true,if_false,hf,if_true,hx]
  case inr.inl=>
   have hf:C.fnTy t=true:=hl;have hparts:parts.toList.map (fun p=>(p.1,ev env p.2))=parts.toList.map (fun p=>(p.1,ev env' p.2)):=
    map_congr_left fun p hm=>by rw [hE p.2 (by simp [Op.operands];exact ⟨p.1,by simpa using hm⟩)]
   simp only [Ae,Aw,false_eq_true,if_false,hf,if_true,hparts]
  have hh':Aw (.call {callee :=.value (.func g),args,argTypes})=false:=by simpa using hh
  have hm:args.toList.map (ev env)=args.toList.map (ev env'):=map_congr_left fun y hy=>hE y (by simp [Op.operands,Call.operands];right;simpa using hy);unfold Ae;simp only [hh',false_eq_true,if_false,hm];rfl
 unfold Ae;simp only [hh,if_true,false_eq_true,if_false];cases op with
 |alloc t=>
  have hrn:C.ren t=none:=by simpa [Af] using hl
  simp only [Bo,hrn];by_cases hc:C.curT t=true<;>simp [hc,hop]
 |box t x=>
  have h1:=hE x (by simp [Op.operands]);simp only [Bo];by_cases hc:C.cur (DK x)=true<;>simp [hc,hop,h1]
 |store t a x=>
  have h1:=hE a (by simp [Op.operands]);have h2:=hE x (by simp [Op.operands]);simp only [Bo];by_cases hc:C.curT t=true<;>simp [hc,hop,h1,h2]
 |call c=>
  obtain ⟨callee,args,argTypes⟩:=c;cases callee with
  |builtin b=>
   cases b<;>first|(simp [Af] at hl;done)|skip
   ·simp only [Bo,hop];split
    ·rename_i s x t t' hx _;have hm:∀y∈args.toList,ev env y=ev env' y:=fun y hy=>hE y (by simp [Op.operands,Call.operands];simpa using hy);rw [hm s (by rw [hx];simp),hm x (by rw [hx];simp)]
    ·rfl
   ·simp only [Bo,hop];split
    ·rename_i x t hx _;have hm:∀y∈args.toList,ev env y=ev env' y:=fun y hy=>hE y (by simp [Op.operands,Call.operands];simpa using hy);rw [hm x (by rw [hx];simp)]
    ·rfl
   ·simp only [Bo,hop];split
    ·rename_i d x t _ hx _;have hm:∀y∈args.toList,ev env y=ev env' y:=fun y hy=>hE y (by simp [Op.operands,Call.operands];simpa using hy);rw [hm d (by rw [hx];simp),hm x (by rw [hx];simp)]
    ·rfl
  |_=>simp [Aw] at hh
 |makeSlice t n c=>
  have h1:=hE n (by simp [Op.operands]);have h2:=hE c (by simp [Op.operands]);simp [Bo,hop,h1,h2]
 |makeMap t r=>
  cases r with
  |none=>simp [Bo,hop]
  |some r=>simp [Af] at hl
 |mapUpdate t m x v=>
  have h1:=hE m (by simp [Op.operands]);have h2:=hE x (by simp [Op.operands]);have h3:=hE v (by simp [Op.operands]);simp [Bo,hop,h1,h2,h3]
 |_=>first|(simp [Af] at hl;done)|(simp [Aw] at hh;done)
noncomputable def Oa (C:Cfg) (rec:Rec) (pc:BE) (env:Env) (h:Heap) (op:Op):Option (AV×Heap):=Ae C rec pc (!Af C op) env h op fun v h'=>some (v,h')
theorem dval_eq {R:Type} (C:Cfg) (rec:Rec) (pc:BE) (env:Env) (op:Op) (K:AV→Heap→Option R):Ae C rec pc (!Af C op) env h op K=(Oa C rec pc env h op).bind fun p=>K p.1 p.2:=by
 unfold Oa;cases hl:Af C op with
 |false=>
  simp only [Bool.not_false,step_eq];cases GL C rec pc h env op<;>rfl
 |true=>
  simp only [Bool.not_true];rcases Vc (h:=h) C rec pc env op hl with ⟨p,hp⟩|hn
  ·rw [show Ae C rec pc false env h op K=K p.1 p.2 from hp R fun q=>K q.1 q.2,show (Ae C rec pc false env h op fun v h'=>some (v,h'))=some p from hp (AV×Heap) some];rfl
  ·rw [show Ae C rec pc false env h op K=none from hn R fun q=>K q.1 q.2,show (Ae C rec pc false env h op fun v h'=>some (v,h'))=none from hn (AV×Heap) some];rfl
def Fu (C:Cfg) (N:Nat) (S:List Nat) (nf:Bool) (o:Oper) (env:Env) (h:Heap):Prop:=JC N o=true∧(nf=true→F3 C.P S env o.op=true)∧BG S h=true∧(Af C o.op=true→IP C.P S env o.op=true)
instance (C:Cfg) (N:Nat) (S:List Nat) (nf:Bool) (o:Oper) (env:Env) (h:Heap):Decidable (Fu C N S nf o env h):=by unfold Fu;infer_instance
noncomputable def EV (C:Cfg) (rec:Rec) (pc:BE) (N:Nat) (ops:Array Oper) (S:List Nat) (nf:Bool) (o:Oper) (env:Env) (h:Heap):Option (AV×Heap):=
 if Fu C N S nf o env h then (M4 ops o env).bind fun b=>if b then Oa C rec pc env h o.op else some (.tuple [],h) else none
noncomputable def Ao (C:Cfg) (rec:Rec) (pc:BE) (N:Nat) (ops:Array Oper) (S:List Nat) (nf:Nat→Bool) (i:Nat) (s:Env×Heap):Option (Env×Heap):=
 match ops[i]? with
 |some o=>(EV C rec pc N ops S (nf i) o s.1 s.2).map fun p=>(s.1.put o.dst p.1,p.2)
 |none=>none
theorem A4 {R:Type} (C:Cfg) (rec:Rec) (pc:BE) (N:Nat) (ops:Array Oper) (S:List Nat) (nf:Nat→Bool):∀(l:List Nat) (env:Env) (h:Heap) (K:Env→Heap→Option R),
  Bd C rec pc N ops S nf l env h K=(l.foldlM (fun s i=>Ao C rec pc N ops S nf i s) (env,h)).bind fun s=>K s.1 s.2
 |[],env,h,K=>rfl
 |i::l,env,h,K=>by
  simp only [Bd,foldlM_cons,Ao];cases ho:ops[i]? with
  |none=>rfl
  |some o=>
   simp only [EV,AE];by_cases hd:Fu C N S (nf i) o env h
   ·rw [if_pos (show _∧_ from hd),if_pos hd,Pz];cases M4 ops o env with
    |none=>rfl
    |some b=>
     cases b with
     |true=>
      simp only [Option.bind_some,if_true,dval_eq];cases Oa C rec pc env h o.op with
      |none=>rfl
      |some p=>simp only [Option.bind_some,map_some,A4 C rec pc N ops S nf l];rfl
     |false=>simp only [Option.bind_some,false_eq_true,if_false,A4 C rec pc N ops S nf l];rfl
   ·rw [if_neg (show ¬(_∧_) from hd),if_neg hd];rfl
theorem RF {P:Program} {S:List Nat} {env env':Env} {op:Op} (hE:∀x∈op.operands,ev env x=ev env' x):partAt P S env op=partAt P S env' op:=by
 cases op with
 |load t a=>simp only [partAt,hE a (by simp [Op.operands])]
 |fieldAddr t a f=>simp only [partAt,hE a (by simp [Op.operands])]
 |_=>rfl
theorem Rb {P:Program} {S:List Nat} {env env':Env} {op:Op} (hE:∀x∈op.operands,ev env x=ev env' x):F3 P S env op=F3 P S env' op:=by
 unfold F3;rw [RF hE];cases F9 op with
 |true=>rfl
 |false=>
  simp only [Bool.false_or];congr 1;rw [Bool.eq_iff_iff,all_eq_true,all_eq_true];constructor
  ·intro hh x hx;rw [← hE x (by simpa using hx)];exact hh x hx
  ·intro hh x hx;rw [hE x (by simpa using hx)];exact hh x hx
theorem PC {env env':Env} {op:Op} (hE:∀x∈op.operands,ev env x=ev env' x):EP env op=EP env' op:=by
 cases op with
 |store t a x=>
  have h1:=hE a (by simp [Op.operands]);simp only [EP,h1]
 |mapUpdate t m x v=>
  have h1:=hE m (by simp [Op.operands]);simp only [EP,h1]
 |call c=>
  obtain ⟨callee,args,argTypes⟩:=c;cases callee with
  |builtin b=>
   simp only [EP];split
   ·rename_i s rest hx;have hm:∀y∈args.toList,ev env y=ev env' y:=fun y hy=>hE y (by simp [Op.operands,Call.operands];simpa using hy);rw [hm s (by rw [hx];simp)]
   ·rfl
  |value f=>
   have hm:∀y∈args.toList,ev env y=ev env' y:=fun y hy=>hE y (by simp [Op.operands,Call.operands];right;simpa using hy);simp only [EP];congr 1;exact map_congr_left fun y hy=>by rw [hm y hy]
  |_=>rfl
 |_=>rfl
theorem Oo {P:Program} {S:List Nat} {env env':Env} {op:Op} (hE:∀x∈op.operands,ev env x=ev env' x):IP P S env op=IP P S env' op:=by
 unfold IP;rw [PC hE];congr 1;cases op with
 |store t a x=>
  have h1:=hE a (by simp [Op.operands]);simp only [h1]
 |_=>rfl
theorem Ka (C:Cfg) (N:Nat) (S:List Nat) (nf:Bool) (o:Oper) {env env':Env} (hE:∀x∈o.op.operands,ev env x=ev env' x):Fu C N S nf o env h↔Fu C N S nf o env' h:=by unfold Fu;rw [Rb hE,Oo hE]
theorem Er (C:Cfg) (rec:Rec) (pc:BE) (N:Nat) (ops:Array Oper) (S:List Nat) (nf:Bool) (o:Oper) {env env':Env} (hE:∀t∈o.looksAt ops,env t=env' t):EV C rec pc N ops S nf o env h=EV C rec pc N ops S nf o env' h:=by
 have h1:=Lt ops o hE;unfold EV;rw [L5 ops o hE];have:Oa C rec pc env h o.op=Oa C rec pc env' h o.op:=by
  unfold Oa;cases hl:Af C o.op with
  |true=>exact RN C rec pc hl h1 _
  |false=>
   simp only [Bool.not_false,step_eq];rw [Q9 C rec pc o.op h1]
 rw [this];by_cases hd:Fu C N S nf o env h
 ·rw [if_pos hd,if_pos ((Ka C N S nf o h1).1 hd)]
 ·rw [if_neg hd,if_neg fun hd'=>hd ((Ka C N S nf o h1).2 hd')]
noncomputable def FZ (C:Cfg) (rec:Rec) (pc:BE) (N:Nat) (ops:Array Oper) (S:List Nat) (nf:Bool) (o:Oper) (env:Env) (h:Heap):Option AV:=
 if Fu C N S nf o env h then (M4 ops o env).bind fun b=>if b then GL C rec pc h env o.op else some (.tuple []) else none
theorem Dz (C:Cfg) (rec:Rec) (pc:BE) (N:Nat) (ops:Array Oper) (S:List Nat) (nf:Bool) (o:Oper) (env:Env) (hl:Af C o.op=false):EV C rec pc N ops S nf o env h=(FZ C rec pc N ops S nf o env h).map fun v=>(v,h):=by
 unfold EV FZ Oa;rw [hl];simp only [Bool.not_false,step_eq];split
 ·cases M4 ops o env with
  |none=>rfl
  |some b=>
   cases b
   ·rfl
   ·simp only [Option.bind_some,if_true];cases GL C rec pc h env o.op<;>rfl
 ·rfl
theorem Le (C:Cfg) (rec:Rec) (pc:BE) (N:Nat) (ops:Array Oper) (S:List Nat) (o:Oper) (env:Env) {h h':Heap} (hin:BG S h=true) (hin':BG S h'=true) (hag:∀i∈S,At h i=At h' i):FZ C rec pc N ops S true o env h=FZ C rec pc N ops S true o env h':=by
 unfold FZ;have hiff:Fu C N S true o env h↔Fu C N S true o env h':=by unfold Fu;rw [hin,hin']
 by_cases hd:Fu C N S true o env h
 ·rw [if_pos hd,if_pos (hiff.1 hd),TS hag (hd.2.1 rfl)]
 ·rw [if_neg hd,if_neg fun hd'=>hd (hiff.2 hd')]
theorem at_of {h h':Heap} {c:Nat} (he:h'[ob c]? = h[ob c]?):At h' c=At h c:=by
 unfold At;unfold ob at he;by_cases hc:c<1024
 ·rw [if_pos hc] at he;rw [if_pos hc,if_pos hc,he]
 ·rw [if_neg hc] at he;rw [if_neg hc,if_neg hc,he]
theorem Vy {h:Heap} {c:Nat} {o:AF} (he:At h c=some o):ob c<h.length:=by
 unfold At at he;unfold ob;by_cases hc:c<1024
 ·rw [if_pos hc] at he;rw [if_pos hc];exact (List.getElem?_eq_some_iff.1 he).1
 ·rw [if_neg hc] at he;rw [if_neg hc];cases h1:h[c % 1024]? with
  |none=>rw [h1] at he;cases he
  |some o'=>exact (List.getElem?_eq_some_iff.1 h1).1
theorem at_some {h:Heap} {c:Nat} (hi:ob c<h.length):∃o,At h c=some o:=by
 unfold ob at hi;unfold At;by_cases hc:c<1024
 ·rw [if_pos hc] at hi;rw [if_pos hc];exact ⟨_,getElem?_eq_getElem hi⟩
 ·rw [if_neg hc] at hi;rw [if_neg hc,getElem?_eq_getElem hi];exact ⟨_,rfl⟩
theorem Nu {h h':Heap} {c:Nat} (he:At h' c=At h c) (hi:ob c<h'.length):ob c<h.length:=by obtain ⟨o,ho⟩:=at_some hi;exact Vy (he.symm.trans ho)
theorem OS {S T:List Nat} {h h':Heap} (hin:BG S h=true) (hk:B5 T h h'):BG S h'=true:=by unfold BG at *;rw [all_eq_true] at *;intro i hi;have:=hin i hi;simp only [decide_eq_true_eq] at *;have:=hk.1;omega
theorem Qf {S T:List Nat} {h h':Heap} (hin:BG S h=true) (hap:R2 S T=true) (hk:B5 T h h'):∀i∈S,At h' i=At h i:=by intro i hi;unfold BG at hin;rw [all_eq_true] at hin;refine at_of (hk.2 (ob i) (by simpa using hin i hi) fun hT => ?_);unfold R2 at hap;rw [all_eq_true] at hap;have:=hap i hi;simp at this;exact this hT
theorem RZ {cs vs:List AV} {off j:Nat} (hle:off+vs.length≤cs.length) (hj:j<off∨off+vs.length≤j):(setAt cs off vs).getD j .undef=cs.getD j .undef:=by obtain ⟨_,hg⟩:=FU cs vs off hle;rw [getD_eq_getElem?_getD,getD_eq_getElem?_getD,hg j,if_neg (by omega)]
theorem UU {h h1:Heap} {i off:Nat} {cs vs:List AV} (hi:h[i]? = some (.box cs)) (hle:off+vs.length≤cs.length) (hk:B5 [] h h1) {c:Nat} (hc:ob c<h.length) (hd:ob c≠i∨Gd c off vs.length=true) :
  At (h1.set i (.box (setAt cs off vs))) c=At h c:=by
 have hil:=AT hi;have h1i:h1[i]? = some (.box cs):=(hk.2 i hil (by simp)).trans hi;by_cases hne:ob c=i
 ·have hd:Gd c off vs.length=true:=by
   rcases hd with hd|hd
   ·exact absurd hne hd
   ·exact hd
  unfold Gd at hd;simp only [and_eq_true,or_eq_true,decide_eq_true_eq] at hd;have hci:c % 1024=i:=by unfold ob at hne;rw [if_neg (by omega)] at hne;exact hne
  unfold At;rw [if_neg (by omega),if_neg (by omega),hci,hi,getElem?_set_self (AT h1i)];simp only [map_some,IV,Option.some.injEq,AF.box.injEq,List.cons.injEq,AV.yld.injEq];refine ⟨(FU cs vs off hle).1,map_congr_left fun j hj => ?_⟩;have hj:=mem_range.1 hj;exact RZ hle (by omega)
 ·refine at_of ?_;rw [getElem?_set_ne (Ne.symm hne)];exact hk.2 _ hc (by simp)
theorem H4 {P:Program} {R:Type}:∀(vs:List AV) (ts:List TypeId) (h:Heap) {K:List AV→Heap→Option R} {r:R},Cs P ts vs h K=some r→∃vs' h',K vs' h'=some r∧vs'.length=vs.length∧B5 [] h h'
 |[],ts,h,K,r,hr=>⟨[],h,by simpa [Cs] using hr,rfl,.refl _ _⟩
 |v::vs,ts,h,K,r,hr=>by
  cases v with
  |nilsl=>
   simp only [Cs] at hr;obtain ⟨vs',h',h1,h2,h3⟩:=H4 vs _ _ hr;exact ⟨_,h',h1,by simp [h2],(B5.push [] h _).trans h3⟩
  |_=>
   simp only [Cs] at hr;obtain ⟨vs',h',h1,h2,h3⟩:=H4 vs _ _ hr;exact ⟨_,h',h1,by simp [h2],h3⟩
theorem La {h:Heap} {R:Type}:∀(os vs:List AV) {K:List AV→Option R} {r:R},Cf h os vs K=some r→∃vs',K vs'=some r∧vs'.length=vs.length
 |_,[],K,r,hr=>⟨[],by cases ‹List AV› <;>simpa [Cf] using hr,rfl⟩
 |[],v::vs,K,r,hr=>⟨v::vs,by simpa [Cf] using hr,rfl⟩
 |o::os,v::vs,K,r,hr=>by
  have plain:∀x:AV,(Cf h os vs fun vs'=>K (x::vs'))=some r→∃vs',K vs'=some r∧vs'.length=(v::vs).length:=fun x hx=>by obtain ⟨vs',h1,h2⟩:=La os vs hx;exact ⟨_,h1,by simp [h2]⟩
  unfold Cf at hr;split at hr
  ·split at hr
   ·rw [AE] at hr;exact plain _ (AH hr).2
   ·exact plain _ hr
  ·exact plain _ hr
theorem On {P:Program} {R:Type} {t:TypeId} {i off n:Nat} {h:Heap} {v:AV} {K:Heap→Option R} {r:R} (hr:Et P t h (.ptr i off) v K=some r) (hn:BZ P t=some n) :
  ∃h',K h'=some r∧∀c,ob c<h.length→(ob c≠i∨Gd c off n=true)→At h' c=At h c:=by
 unfold Et at hr;simp only [AE,hn] at hr;split at hr
 ·rename_i vs n' hvs hn';cases hn';obtain ⟨⟨hl,_⟩,hr⟩:=AH hr;split at hr
  ·rename_i cs hi;obtain ⟨hle,hr⟩:=AH hr;obtain ⟨vs1,hr,l1⟩:=La _ _ hr;obtain ⟨vs2,h1,hr,l2,hk⟩:=H4 _ _ _ hr;have l3:vs2.length=n:=by omega
   exact ⟨_,hr,fun c hc hd=>UU hi (by omega) hk hc (by rw [l3];exact hd)⟩
  ·cases hr
 ·cases hr
theorem V7 {C:Cfg} {rec:Rec} {pc:BE} {S:List Nat} {env:Env} {h h':Heap} {op:Op} {v:AV} (hl:Af C op=true) (hin:BG S h=true) (hap:IP C.P S env op=true) (hv:Ae C rec pc false env h op (fun v h'=>some (v,h'))=some (v,h')):∀c∈S,At h' c=At h c:=by
 unfold IP at hap;rw [or_eq_true] at hap;rcases hap with hap|hap
 ·obtain ⟨v',h'',e,hk⟩:=Lr hl hv;cases e;exact Qf hin hap hk
 ·split at hap
  ·rename_i t a x;split at hap
   ·rename_i i off n ha hn;have key:∀(y:AV) (K:Heap→Option (AV×Heap)),Et C.P t h (ev env a) y K=some (v,h')→(∀h'',K h''=some (.undef,h''))→∀c∈S,At h' c=At h c:=fun y K hs hK c hc=>by rw [ha] at hs;obtain ⟨h2,e,hat⟩:=On hs hn;rw [hK] at e;cases e;unfold BG at hin;rw [all_eq_true] at hin hap;have h1:=hap c hc;simp only [or_eq_true,decide_eq_true_eq] at h1;exact hat c (by simpa using hin c hc) h1
    unfold Ae at hv;simp only [Aw,if_true,false_eq_true,if_false,Bo] at hv;by_cases hc:C.curT t=true
    ·simp only [hc,if_true] at hv;exact key _ _ hv fun h''=>by rw [ha];rfl
    ·simp only [hc,false_eq_true,if_false,hop] at hv;exact key _ _ hv fun h''=>rfl
   ·cases hap
  ·cases hap
theorem Tu {C:Cfg} {rec:Rec} {pc:BE} {N:Nat} {ops:Array Oper} {S:List Nat} {nf:Bool} {o:Oper} {env:Env} {h:Heap} {p:AV×Heap} (hl:Af C o.op=true) (hd:EV C rec pc N ops S nf o env h=some p):BG S h=true∧BG S p.2=true∧∀i∈S,At p.2 i=At h i:=by
 unfold EV at hd;obtain ⟨ha,hd⟩:=AH hd;have hin:=ha.2.2.1;obtain ⟨b,_,hd⟩:=bind_some hd;cases b with
 |false=>
  simp only [false_eq_true,if_false,Option.some.injEq] at hd;subst hd;exact ⟨hin,hin,fun _ _=>rfl⟩
 |true=>
  simp only [if_true] at hd;unfold Oa at hd;rw [hl] at hd;simp only [Bool.not_true] at hd;obtain ⟨v,h',hv,hk⟩:=Lr hl hd;cases hv;exact ⟨hin,OS hin hk,V7 hl hin (ha.2.2.2 hl) hd⟩
theorem DV (C:Cfg) (rec:Rec) (pc:BE) (N:Nat) (ops:Array Oper) (S:List Nat) (nf:Nat→Bool) {i j:Nat} {a b:Oper} (hi:ops[i]? = some a) (hj:ops[j]? = some b) (h1:∀d,a.dst=some d→d∉b.looksAt ops) (h2:∀d,a.dst=some d→b.dst≠some d) (h3:∀d,b.dst=some d→d∉a.looksAt ops)
  (ha:Af C a.op=true) (hb:Af C b.op=false) (hnf:nf j=true) (s:Env×Heap):(Ao C rec pc N ops S nf i s).bind (Ao C rec pc N ops S nf j)=(Ao C rec pc N ops S nf j s).bind (Ao C rec pc N ops S nf i):=by
 obtain ⟨env,h⟩:=s;have hA:∀v,EV C rec pc N ops S (nf i) a (env.put b.dst v) h=EV C rec pc N ops S (nf i) a env h:=fun v=>Er C rec pc N ops S _ a fun t ht=>CN fun d hd e=>h3 d hd (e ▸ ht);have hB:∀v h',BG S h=true→BG S h'=true→(∀i∈S,At h' i=At h i)→EV C rec pc N ops S (nf j) b (env.put a.dst v) h'=(FZ C rec pc N ops S true b env h).map fun u=>(u,h'):=fun v h' hi1 hi2 hag=>by rw [Er (env':=env) C rec pc N ops S _ b fun t ht=>CN fun d hd e=>h1 d hd (e ▸ ht),hnf,Dz C rec pc N ops S true b env hb,Le C rec pc N ops S b env hi2 hi1 hag]
 have hB0:EV C rec pc N ops S (nf j) b env h=(FZ C rec pc N ops S true b env h).map fun u=>(u,h):=by rw [hnf,Dz C rec pc N ops S true b env hb]
 have fi:Ao C rec pc N ops S nf i=fun s=>(EV C rec pc N ops S (nf i) a s.1 s.2).map fun p=>(s.1.put a.dst p.1,p.2):=by funext s;simp only [Ao,hi]
 have fj:Ao C rec pc N ops S nf j=fun s=>(EV C rec pc N ops S (nf j) b s.1 s.2).map fun p=>(s.1.put b.dst p.1,p.2):=by funext s;simp only [Ao,hj]
 simp only [fi,fj];cases hd:EV C rec pc N ops S (nf i) a env h with
 |none=>
  rw [hB0];cases FZ C rec pc N ops S true b env h with
  |none=>rfl
  |some u=>simp [hA,hd]
 |some p=>
  obtain ⟨hi1,hi2,hag⟩:=Tu ha hd;simp only [map_some,Option.bind_some,hB _ _ hi1 hi2 hag,hB0];cases FZ C rec pc N ops S true b env h with
  |none=>rfl
  |some u=>
   simp only [map_some,Option.bind_some,hA,hd];rw [put_comm h2]
theorem F1 (C:Cfg) (rec:Rec) (pc:BE) (N:Nat) (ops:Array Oper) (S:List Nat) (nf:Nat→Bool) {i j:Nat} {a b:Oper} (hi:ops[i]? = some a) (hj:ops[j]? = some b) (h1:∀d,a.dst=some d→d∉b.looksAt ops) (h2:∀d,a.dst=some d→b.dst≠some d) (h3:∀d,b.dst=some d→d∉a.looksAt ops)
  (ha:Af C a.op=false) (hb:Af C b.op=false) (s:Env×Heap):(Ao C rec pc N ops S nf i s).bind (Ao C rec pc N ops S nf j)=(Ao C rec pc N ops S nf j s).bind (Ao C rec pc N ops S nf i):=by
 obtain ⟨env,h⟩:=s;have hA:∀v,EV C rec pc N ops S (nf i) a (env.put b.dst v) h=EV C rec pc N ops S (nf i) a env h:=fun v=>Er C rec pc N ops S _ a fun t ht=>CN fun d hd e=>h3 d hd (e ▸ ht);have hB:∀v,EV C rec pc N ops S (nf j) b (env.put a.dst v) h=EV C rec pc N ops S (nf j) b env h:=fun v=>Er C rec pc N ops S _ b fun t ht=>CN fun d hd e=>h1 d hd (e ▸ ht);have qa:=Dz (h:=h) C rec pc N ops S (nf i) a env ha;have qb:=Dz (h:=h) C rec pc N ops S (nf j) b env hb;have fi:Ao C rec pc N ops S nf i=fun s=>(EV C rec pc N ops S (nf i) a s.1 s.2).map fun p=>(s.1.put a.dst p.1,p.2):=by funext s;simp only [Ao,hi]
 have fj:Ao C rec pc N ops S nf j=fun s=>(EV C rec pc N ops S (nf j) b s.1 s.2).map fun p=>(s.1.put b.dst p.1,p.2):=by funext s;simp only [Ao,hj]
 simp only [fi,fj];cases hqa:FZ C rec pc N ops S (nf i) a env h with
 |none=>
  rw [hqa] at qa;rw [qa];cases hqb:FZ C rec pc N ops S (nf j) b env h with
  |none=>rw [hqb] at qb;rw [qb];rfl
  |some u=>rw [hqb] at qb;rw [qb];simp [hA,qa]
 |some v=>
  rw [hqa] at qa;rw [qa];cases hqb:FZ C rec pc N ops S (nf j) b env h with
  |none=>rw [hqb] at qb;simp [hB,qb]
  |some u=>
   rw [hqb] at qb;simp only [map_some,Option.bind_some,hA,hB,qa,qb];rw [put_comm h2]
theorem CT {C:Cfg} {rec:Rec} {pc:BE} (hrec:DY C.P rec) (hpc:B3 C.P pc) (ops:Array Oper) (S:List Nat) (nf:Nat→Bool) (Q:Exit→Act→World→Prop) (n:Nat) (ro:Option Nat) (rest:List Nat) :
  ∀(l:List Nat) {K:Env→Heap→Option R} {r:R} {env:Env} {h:Heap} {κ:A0} {a:Act} {w:World},
   Bd C rec pc N ops S nf l env h K=some r→Rel B N κ env h a w→JQ B N κ h w false (l.map fun i=>ops.getD i default) env a K r (wpOpsIn (Fr ro) n C.P ops Q rest)→wpOpsIn (Fr ro) n C.P ops Q (l++rest) a w
 |[],K,r,env,h,κ,a,w,hk,hr,hn=>hn env h κ a w hk hr (Ext.refl _ _ _) (fun _ _=>rfl) rfl fun e=>by cases e
 |i::l,K,r,env,h,κ,a,w,hk,hr,hn=>by
  simp only [Bd,AE] at hk;split at hk
  ·rename_i o ho;obtain ⟨⟨hd,_⟩,hk⟩:=AH hk;have hgo:ops.getD i default=o:=by have hlt:i<ops.size:=(Array.getElem?_eq_some_iff.1 ho).1;have:=Ar hlt;rw [ho] at this;exact (Option.some.inj this).symm
   simp only [cons_append,wpOpsIn,ho];simp only [map_cons,hgo] at hn;have hput:∀(v:AV) (t:Tmp),t∉(o::l.map fun i=>ops.getD i default).filterMap (·.dst)→(env.put o.dst v) t=env t:=fun v t hni=>by
    cases hdst:o.dst with
    |none=>rfl
    |some d=>
     simp only [Env.put];rw [if_neg fun e=>hni (by simp [hdst,e])]
   have hpd:∀val,(a.put o.dst val).defers=a.defers:=fun val=>by cases o.dst<;>rfl
   have hsub:∀t,t∉(o::l.map fun i=>ops.getD i default).filterMap (·.dst)→t∉(l.map fun i=>ops.getD i default).filterMap (·.dst):=fun t hni hm=>hni (by
    simp only [filterMap_cons];split
    ·exact hm
    ·exact mem_cons_of_mem _ hm)
   rcases Gn hk hr with ⟨hw,hk1⟩|⟨hw,hk1⟩
   ·simp only [hw,if_true];refine Ia hrec hpc o hk1 hr _ Q n ro fun v h' κ' val w' h1 h2 h3 h4 h5 => ?_;refine CT hrec hpc ops S nf Q n ro rest l h1 (ET hr h3 h4 h2 o hd) fun env2 h2 κ2 a2 w2 k1 k2 k3 k4 k5 k6 => ?_;exact hn env2 h2 κ2 a2 w2 k1 k2 (h4.trans k3) (fun t hni=>(k4 t (hsub t hni)).trans (hput v t hni)) (k5.trans (hpd _)) fun e=>by cases e
   ·simp only [hw,false_eq_true,if_false];refine ⟨fun _ _=>trivial,?_⟩;refine CT hrec hpc ops S nf Q n ro rest l hk1 (ET hr hr.heap (Ext.refl _ _ _) (.tuple _ _ rfl fun j x hx=>by simp at hx) o hd) fun env2 h2 κ2 a2 w2 k1 k2 k3 k4 k5 k6 => ?_;exact hn env2 h2 κ2 a2 w2 k1 k2 k3 (fun t hni=>(k4 t (hsub t hni)).trans (hput _ t hni)) (k5.trans (hpd _)) fun e=>by cases e
  ·cases hk
theorem GU:∀(xs ys:List AV),Eg xs ys=true→xs=ys
 |[],[],_=>rfl
 |x::xs,y::ys,hs=>by
  cases x<;>cases y<;>simp only [Eg,and_eq_true,beq_iff_eq] at hs<;>first|(cases hs;done)|skip
  ·obtain ⟨⟨rfl,rfl⟩,h3⟩:=hs;rw [GU xs ys h3]
  ·obtain ⟨rfl,h3⟩:=hs;rw [GU xs ys h3]
 |[],_::_,hs=>by simp [Eg] at hs
 |x::_,[],hs=>by cases x<;>simp [Eg] at hs
theorem Je {h h':Heap} {i:Nat} (hs:sameAt h h' i=true):At h' i=At h i∧ob i<h'.length:=by
 unfold sameAt at hs;split at hs
 ·rename_i xs ys h1 h2;rw [GU _ _ hs] at h1;exact ⟨h2.trans h1.symm,Vy h2⟩
 ·cases hs
theorem Rz {R:Type} (C:Cfg) (rec:Rec) (pc:BE) {env env':Env} {op:Op} (hl:CH C op=true) (hE:∀x∈op.operands,ev env x=ev env' x) (K:AV→Heap→Option R) :
  Ae C rec pc false env h op K=Ae C rec pc false env' h op K:=by
 obtain ⟨g,args,argTypes,rfl⟩:∃g args argTypes,op = .call {callee :=.value (.func g),args,argTypes}:=by
  unfold CH at hl;split at hl
  ·exact ⟨_,_,_,rfl⟩
  ·cases hl
 have hh':Aw (.call {callee :=.value (.func g),args,argTypes})=false:=rfl;have hm:args.toList.map (ev env)=args.toList.map (ev env'):=map_congr_left fun y hy=>hE y (by simp [Op.operands,Call.operands];right;simpa using hy);unfold Ae;simp only [hh',false_eq_true,if_false,hm];rfl
theorem KZ {R:Type} (C:Cfg) (rec:Rec) (pc:BE) {env env':Env} {op:Op} (hl:I4 op=true) (hE:∀x∈op.operands,ev env x=ev env' x) (K:AV→Heap→Option R) :
  Ae C rec pc false env h op K=Ae C rec pc false env' h op K:=by
 obtain ⟨f,args,argTypes,rfl⟩:∃f args argTypes,op = .call {callee :=.value f,args,argTypes}:=by
  unfold I4 at hl;split at hl
  ·exact ⟨_,_,_,rfl⟩
  ·cases hl
 have hh':Aw (.call {callee :=.value f,args,argTypes})=false:=rfl;have hm:args.toList.map (ev env)=args.toList.map (ev env'):=map_congr_left fun y hy=>hE y (by simp [Op.operands,Call.operands];right;simpa using hy);have hf:ev env f=ev env' f:=hE f (by simp [Op.operands,Call.operands]);unfold Ae;simp only [hh',false_eq_true,if_false,hm,hf]
theorem H7 (C:Cfg) (rec:Rec) (pc:BE) (N:Nat) (ops:Array Oper) (S:List Nat) (nf:Nat→Bool) (o:Oper):∀(l:List Nat) (env:Env) (h:Heap) (s2:Env×Heap),
  (∀y∈l,∃o',ops[y]? = some o'∧Af C o'.op=false∧nf y=true∧(∀d,o.dst=some d→d∉o'.looksAt ops)∧(∀d,o.dst=some d→o'.dst≠some d)∧∀d,o'.dst=some d→d∉o.looksAt ops)→
  l.foldlM (fun s i=>Ao C rec pc N ops S nf i s) (env,h)=some s2→s2.2=h∧(∀t∈o.looksAt ops,s2.1 t=env t)∧∀v h',BG S h'=true→BG S h=true→(∀i∈S,At h' i=At h i)→
   l.foldlM (fun s i=>Ao C rec pc N ops S nf i s) (env.put o.dst v,h')=some (s2.1.put o.dst v,h')
 |[],env,h,s2,_,hf=>by simp only [List.foldlM_nil] at hf;cases hf;exact ⟨rfl,fun _ _=>rfl,fun v h' _ _ _=>rfl⟩
 |y::l,env,h,s2,hq,hf=>by
  obtain ⟨o',ho',hl,hnf,q1,q2,q3⟩:=hq y (by simp);have fy:∀s,Ao C rec pc N ops S nf y s=(EV C rec pc N ops S (nf y) o' s.1 s.2).map fun p=>(s.1.put o'.dst p.1,p.2):=fun s=>by simp only [Ao,ho']
  rw [foldlM_cons,fy,hnf,Dz C rec pc N ops S true o' env hl] at hf;cases hu:FZ C rec pc N ops S true o' env h with
  |none=>rw [hu] at hf;cases hf
  |some u=>
   rw [hu] at hf;have hf':l.foldlM (fun s i=>Ao C rec pc N ops S nf i s) (env.put o'.dst u,h)=some s2:=hf;obtain ⟨e1,e2,e3⟩:=H7 C rec pc N ops S nf o l (env.put o'.dst u) h s2 (fun z hz=>hq z (by simp [hz])) hf';refine ⟨e1,fun t ht=>(e2 t ht).trans (CN fun d hd e=>q3 d hd (e ▸ ht)),fun v h' hi' hi hag => ?_⟩;have h1:EV C rec pc N ops S true o' (env.put o.dst v) h'=some (u,h'):=by rw [Er (env':=env) C rec pc N ops S true o' fun t ht=>CN fun d hd e=>q1 d hd (e ▸ ht),Dz C rec pc N ops S true o' env hl,Le C rec pc N ops S o' env hi' hi hag,hu];rfl
   rw [foldlM_cons,fy,hnf];simp only [h1,map_some];rw [put_comm q2];exact e3 v h' hi' hi hag
theorem Tl {C:Cfg} {rec:Rec} {pc:BE} {N:Nat} {ops:Array Oper} {S:List Nat} {nf:Nat→Bool} {o:Oper} {l1 l2:List Nat} {env:Env} {h:Heap} {K:Env→Heap→Option R} {r:R} (hcg:∀(env' env1:Env) (h1:Heap) (K1:AV→Heap→Option R),(∀x∈o.op.operands,ev env1 x=ev env' x)→Ae C rec pc false env1 h1 o.op K1=Ae C rec pc false env' h1 o.op K1)
  (hq:∀y∈l2,∃o',ops[y]? = some o'∧Af C o'.op=false∧nf y=true∧(∀d,o.dst=some d→d∉o'.looksAt ops)∧(∀d,o.dst=some d→o'.dst≠some d)∧∀d,o'.dst=some d→d∉o.looksAt ops)
  (hk:Bd C rec pc N ops S nf (l1++l2) env h (fun env' h'=>Pr C rec pc N S o env' h' K)=some r) :
  JC N o=true∧o.guard=none∧Bd C rec pc N ops S nf l1 env h (fun env1 h1=>Ae C rec pc false env1 h1 o.op fun v h'=>cnd (S.all (sameAt h1 h')=true) (Bd C rec pc N ops S nf l2 (env1.put o.dst v) h' K) none)=some r:=by
 rw [A4,foldlM_append] at hk;rw [A4];cases h1:l1.foldlM (fun s i=>Ao C rec pc N ops S nf i s) (env,h) with
 |none=>rw [h1] at hk;cases hk
 |some s1=>
  rw [h1] at hk;have hk:(l2.foldlM (fun s i=>Ao C rec pc N ops S nf i s) s1).bind (fun s=>Pr C rec pc N S o s.1 s.2 K)=some r:=hk;cases h2:l2.foldlM (fun s i=>Ao C rec pc N ops S nf i s) s1 with
  |none=>rw [h2] at hk;cases hk
  |some s2=>
   rw [h2] at hk;simp only [Option.bind_some] at hk;obtain ⟨e1,e2,e3⟩:=H7 C rec pc N ops S nf o l2 s1.1 s1.2 s2 hq h2;unfold Pr at hk;simp only [AE] at hk;obtain ⟨⟨hd,hg⟩,hk⟩:=AH hk;refine ⟨hd,hg,?_⟩;simp only [Option.bind_some];rw [e1,hcg s1.1 s2.1 _ _ (Lt ops o e2)] at hk;rw [← hk];congr 1;funext v h';simp only [AE];by_cases hs:S.all (sameAt s1.2 h')=true
   ·rw [if_pos hs,if_pos hs,A4];have hall:=all_eq_true.1 hs;have hi':BG S h'=true:=by unfold BG;rw [all_eq_true];intro i hi;simpa using (Je (hall i hi)).2
    have hi:BG S s1.2=true:=by unfold BG;rw [all_eq_true];intro i hi;have h3:=Je (hall i hi);simpa using Nu h3.1 h3.2
    rw [e3 v h' hi' hi fun i hi=>(Je (hall i hi)).1];rfl
   ·rw [if_neg hs,if_neg hs]
theorem Pe {Q:Nat→Nat→Prop}:∀(l:List Nat),(∀a x b y,l=a++x::b→y∈b→Q x y)→l.Pairwise Q
 |[],_ =>.nil
 |z::l,hh=>pairwise_cons.2 ⟨fun y hy=>hh [] z l y rfl hy,Pe l fun a x b y e hy=>hh (z::a) x b y (by rw [e];rfl) hy⟩
theorem Gc {Q:Nat→Nat→Prop} {l a b:List Nat} {x y:Nat} (hp:l.Pairwise Q) (e:l=a++x::b) (hy:y∈b):Q x y:=by subst e;rw [pairwise_append] at hp;exact (pairwise_cons.1 hp.2.1).1 y hy
theorem sort_to {σ:Type} (f:Nat→σ→Option σ) (m:Nat) (T l:List Nat) (hT:T.Perm (List.range m)) (hn:l.Nodup) (hm:∀i,i∈l↔i<m)
  (hc:∀l1 x l2 y,l=l1++x::l2→y∈l2→T.idxOf y<T.idxOf x→∀s,(f x s).bind (f y)=(f y s).bind (f x)) (s:σ) :
  l.foldlM (fun s i=>f i s) s=T.foldlM (fun s i=>f i s) s:=by
 have hTn:T.Nodup:=hT.nodup_iff.2 List.nodup_range;have hTl:T.length=m:=by rw [hT.length_eq,length_range]
 have hTm:∀i,i∈T↔i<m:=fun i=>by rw [hT.mem_iff,mem_range]
 have hget:∀x,x<m→T.getD (T.idxOf x) 0=x:=fun x hx=>by have hlt:=List.idxOf_lt_length_of_mem ((hTm x).2 hx);rw [getD_eq_getElem?_getD,getElem?_eq_getElem hlt,Option.getD_some];exact List.getElem_idxOf hlt
 have hidx:∀k,k<m→T.idxOf (T.getD k 0)=k:=fun k hk=>by rw [getD_eq_getElem?_getD,getElem?_eq_getElem (by omega),Option.getD_some];exact hTn.idxOf_getElem k (by omega)
 have key:=FR (fun k=>f (T.getD k 0)) m (l.map T.idxOf) ?_ ?_ ?_ s
 ·rw [List.foldlM_map] at key;have e1:∀(q:List Nat),(∀i∈q,i<m)→∀s,q.foldlM (fun s i=>f (T.getD (T.idxOf i) 0) s) s=q.foldlM (fun s i=>f i s) s:=by
   intro q
   induction q with
   |nil=>intro _ s;rfl
   |cons x q ih=>
    intro hq s;rw [foldlM_cons,foldlM_cons,hget x (hq x (by simp))];congr 1;funext s';exact ih (fun i hi=>hq i (by simp [hi])) s'
  rw [e1 l (fun i hi=>(hm i).1 hi)] at key;rw [key];have e2:T=(List.range m).map fun k=>T.getD k 0:=by
   apply ext_getElem?;intro k;rw [getElem?_map];by_cases hk:k<m
   ·rw [getElem?_range hk,getElem?_eq_getElem (by omega),map_some,getD_eq_getElem?_getD,getElem?_eq_getElem (by omega),Option.getD_some]
   ·rw [getElem?_eq_none (by omega),getElem?_eq_none (by simp;omega),map_none]
  conv=>rhs;rw [e2]
  rw [List.foldlM_map]
 ·rw [nodup_iff_pairwise_ne,pairwise_map];refine (nodup_iff_pairwise_ne.1 hn).imp_of_mem fun {a b} ha hb hab e=>hab ?_;rw [← hget a ((hm a).1 ha),← hget b ((hm b).1 hb),e]
 ·intro k;rw [mem_map];constructor
  ·rintro ⟨x,hx,rfl⟩
   have:=List.idxOf_lt_length_of_mem ((hTm x).2 ((hm x).1 hx));omega
  ·intro hk;refine ⟨T.getD k 0,(hm _).2 ((hTm _).1 ?_),hidx k hk⟩;rw [getD_eq_getElem?_getD,getElem?_eq_getElem (by omega),Option.getD_some];exact getElem_mem _
 ·intro l1 x l2 y e hy hlt s;obtain ⟨a1,a2,rfl,rfl,e2⟩:=List.map_eq_append_iff.1 e;obtain ⟨z,b2,rfl,rfl,rfl⟩:=List.map_eq_cons_iff.1 e2;obtain ⟨w,hw,rfl⟩:=mem_map.1 hy;have hz:=(hm z).1 (by simp);have hwm:=(hm w).1 (by simp [hw]);simp only [hget z hz,hget w hwm];exact hc a1 z b2 w rfl hw hlt s
theorem Uy {b:List Nat}:∀{T:List Nat} {x y:Nat},SU b T=true→x∈T→y∈T→T.idxOf y<T.idxOf x→¬(b.getD y 0).testBit x=true
 |[],_,_,_,hx,_,_=>by cases hx
 |z::T,x,y,ho,hx,hy,hlt=>by
  simp only [SU,and_eq_true,all_eq_true,not_eq_true'] at ho;by_cases hyz:z=y
  ·subst hyz;rcases mem_cons.1 hx with rfl|hx
   ·omega
   ·rw [ho.1 x hx];exact Bool.false_ne_true
  ·by_cases hxz:z=x
   ·subst hxz;rw [List.idxOf_cons_self] at hlt;omega
   ·have e1:(z::T).idxOf y=T.idxOf y+1:=by rw [List.idxOf_cons,beq_false_of_ne hyz];rfl
    have e2:(z::T).idxOf x=T.idxOf x+1:=by rw [List.idxOf_cons,beq_false_of_ne hxz];rfl
    rw [e1,e2] at hlt;refine Uy ho.2 ?_ ?_ (by omega)
    ·exact (mem_cons.1 hx).resolve_left fun e=>hxz e.symm
    ·exact (mem_cons.1 hy).resolve_left fun e=>hyz e.symm
theorem L1 {l l1 l2:List Nat} {x y:Nat} (e:l=l1++x::l2) (hn:l.Nodup) (hy:y∈l2):l.idxOf x<l.idxOf y:=by
 subst e;rw [nodup_append,nodup_cons] at hn;obtain ⟨n1,⟨n2,n3⟩,n4⟩:=hn;have hx1:x∉l1:=fun h=>n4 x h x (by simp) rfl;have hy1:y∉l1:=fun h=>n4 y h y (by simp [hy]) rfl;have hxy:x≠y:=fun h=>n2 (h ▸ hy);have e1:(x::l2).idxOf y=l2.idxOf y+1:=by rw [List.idxOf_cons,beq_false_of_ne hxy];rfl
 rw [List.idxOf_append,List.idxOf_append,if_neg hx1,if_neg hy1,List.idxOf_cons_self,e1];omega
theorem Lc {C:Cfg} {rec:Rec} {pc:BE} (hrec:DY C.P rec) (hpc:B3 C.P pc) (hmix:C.P.follows .mixedOrders=true) {id:Nat} {ops:Array Oper} {K:Env→Heap→Option R} {r:R} {S:List Nat} {m i0 j0:Nat}
  (hp:RG C ops (AQ ops) m i0 j0=true) (hff:DR (AQ ops) ops.size m=true) (hed:F6 ops=true) (hle:m≤ops.size)
  (hA:Bd C rec pc N ops S (An C ops (AQ ops) m) (List.range m) env h (fun env' h'=>Dh C rec pc N false ops (ops.toList.drop m) env' h' K)=some r)
  (hB:Bd C rec pc N ops S (An C ops (AQ ops) m) (order2 (AQ ops) m i0 j0) env h (fun env' h'=>Dh C rec pc N false ops (ops.toList.drop m) env' h' K)=some r)
  (hr:Rel B N κ env h a w) (Q:Exit→Act→World→Prop) (n:Nat) (ro:Option Nat)
  (hn:JQ B N κ h w false ops.toList env a K r fun a' w'=>Q .normal a' w'):(Code.region id ops true).wpIn (Fr ro) n C.P Q a w:=by
 unfold RG at hp;simp only [and_eq_true,decide_eq_true_eq] at hp;obtain ⟨hdo,hperm,hord,hidx⟩:=hp;have hT:=List.isPerm_iff.1 hperm;generalize order2 (AQ ops) m i0 j0=T at *;refine wpIn_region_draw fun t => ?_;have hsch:Region.schedule (C.P.follows .mixedOrders) ops t=Region.linearise .any ops t:=by simp only [Region.schedule,hmix,Bool.true_or,if_true]
 rw [hsch];obtain ⟨p1,p2,p3,p4⟩:=GR hed (EL ops t) (fun i hi=>by cases hi);obtain ⟨lp,hL,hlpn,hlpm⟩:=FA (n:=m) (ops.size-m) (Region.linearise .any ops t) p1 (fun i=>by
  constructor
  ·intro hi;have:=(p2 i hi).2;omega
  ·intro hi;exact (p3 i (by omega)).resolve_left (by simp)) (fun l1 x l2 e hx y hy=>by
   have hxs:x<ops.size:=(p2 x (by rw [e];simp)).2;have h1:=(all_eq_true.1 hff) x (mem_range.2 hxs);have h2:(AQ ops).getD x 0=2 ^ x-1:=by simp only [or_eq_true,decide_eq_true_eq,beq_iff_eq] at h1;exact h1.resolve_left (by omega)
   refine (p4 l1 x l2 e y ?_).resolve_left (by simp);rw [h2,Nat.testBit_two_pow_sub_one];simpa using hy)
 rw [hL];let g:Nat→Oper:=fun i=>ops.getD i default;have hlt:∀i∈lp,i<ops.size:=fun i hi=>by have:=(hlpm i).1 hi;omega
 have hpair:∀x y,x<m→y<x→¬((AQ ops).getD x 0).testBit y=true→¬(y=i0∧x=j0)→
   (BF C ops y&&BF C ops x)=false∧(∀d,(g y).dst=some d→d∉(g x).looksAt ops)∧(∀d,(g y).dst=some d→(g x).dst≠some d)∧(∀d,(g x).dst=some d→d∉(g y).looksAt ops)∧
   (BF C ops x=true→An C ops (AQ ops) m y=true)∧(BF C ops y=true→An C ops (AQ ops) m x=true):=fun x y hx hlt2 h2 hne=>by
  have h1:=(all_eq_true.1 ((all_eq_true.1 hdo) x (mem_range.2 hx))) y (mem_range.2 hlt2);have ex:=Ar (show x<ops.size by omega);have ey:=Ar (show y<ops.size by omega);rw [ex,ey] at h1;simp only [or_eq_true,and_eq_true,not_eq_true',beq_iff_eq] at h1;obtain ⟨hnl,hap⟩:=h1.resolve_left (fun h=>h.elim h2 hne);obtain ⟨q1,q2,q3⟩:=Oper.apart_spec hap;have hun:DZ (AQ ops) x y=true:=by unfold DZ;rw [if_neg (by omega)];simpa using h2
  have hun':DZ (AQ ops) y x=true:=by unfold DZ;rw [if_pos hlt2];simpa using h2
  refine ⟨hnl,q1,q2,q3,fun hlx => ?_,fun hly => ?_⟩
  ·unfold An;refine any_eq_true.2 ⟨x,mem_range.2 hx,?_⟩;simp only [and_eq_true,bne_iff_ne];exact ⟨⟨hlx,by omega⟩,hun'⟩
  ·unfold An;refine any_eq_true.2 ⟨y,mem_range.2 (by omega),?_⟩;simp only [and_eq_true,bne_iff_ne];exact ⟨⟨hly,by omega⟩,hun⟩
 have hopen:lp.Pairwise fun x y=>y<x→¬((AQ ops).getD x 0).testBit y=true:=Pe lp fun l1 x l2 y e hy hlt2 hb=>by have:=(p4 l1 x (l2++List.range' m (ops.size-m)) (by rw [hL,e];simp) y hb).resolve_left (by simp);rw [e,nodup_append] at hlpn;exact hlpn.2.2 y this y (by simp [hy]) rfl
 have hcom:∀x y,x<m→y<x→¬((AQ ops).getD x 0).testBit y=true→¬(y=i0∧x=j0)→∀s:Env×Heap,(Ao C rec pc N ops S (An C ops (AQ ops) m) x s).bind (Ao C rec pc N ops S (An C ops (AQ ops) m) y)=(Ao C rec pc N ops S (An C ops (AQ ops) m) y s).bind (Ao C rec pc N ops S (An C ops (AQ ops) m) x):=fun x y hx hlt2 h2 hne s=>by
  obtain ⟨hnl,q1,q2,q3,n1,n2⟩:=hpair x y hx hlt2 h2 hne;have ex:=Ar (show x<ops.size by omega);have ey:=Ar (show y<ops.size by omega);have lx:BF C ops x=(Af C (g x).op||CH C (g x).op):=by unfold BF;rw [ex]
  have ly:BF C ops y=(Af C (g y).op||CH C (g y).op):=by unfold BF;rw [ey]
  cases hlx:Af C (g x).op with
  |true=>
   have hlx':BF C ops x=true:=by rw [lx,hlx];rfl
   have hly:Af C (g y).op=false:=by rw [hlx',Bool.and_true,ly,or_eq_false_iff] at hnl;exact hnl.1
   exact DV C rec pc N ops S _ ex ey q3 (fun d hd hd2=>q2 d hd2 hd) q1 hlx hly (n1 hlx') s
  |false=>
   cases hly:Af C (g y).op with
   |true=>exact (DV C rec pc N ops S _ ey ex q1 q2 q3 hly hlx (n2 (by rw [ly,hly];rfl)) s).symm
   |false=>exact (F1 C rec pc N ops S _ ey ex q1 q2 q3 hly hlx s).symm
 have hsub:∀(l:List Nat),(∀i∈l,i<ops.size)→∀i,i∉ops.toList.filterMap (·.dst)→i∉(l.map g).filterMap (·.dst):=fun l hl i hni hm=>hni (by rw [mem_filterMap] at hm ⊢;obtain ⟨o,ho,hd⟩:=hm;obtain ⟨x,hx,rfl⟩:=mem_map.1 ho;refine ⟨g x,?_,hd⟩;have:=Ar (hl x hx);exact mem_of_getElem? (i:=x) (by rw [getElem?_toList];exact this))
 have hrest:∀env1 h1 κ1 a1 w1,Dh C rec pc N false ops (ops.toList.drop m) env1 h1 K=some r→Rel B N κ1 env1 h1 a1 w1→Ext κ h w κ1 h1 w1→(∀i,i∉ops.toList.filterMap (·.dst)→env1 i=env i)→a1.defers=a.defers→
   wpOpsIn (Fr ro) n C.P ops Q (List.range' m (ops.size-m)) a1 w1:=fun env1 h1 κ1 a1 w1 k1 k2 k3 k4 k5=>by
  have:=HX hrec hpc ops Q n ro [] (ops.toList.drop m) (List.range' m (ops.size-m)) (by simp) (fun j i o hj ho=>by
   have hjl:j<ops.size-m:=by simpa using AT hj
   rw [List.getElem?_range' hjl] at hj;cases hj;rw [getElem?_drop] at ho;simpa using ho) k1 k2 (fun env2 h2 κ2 a2 w2 j1 j2 j3 j4 j5 j6=>by
    refine hn env2 h2 κ2 a2 w2 j1 j2 (k3.trans j3) (fun i hni => ?_) (j5.trans k5) (fun e=>by cases e);have hsub1:i∉(ops.toList.drop m).filterMap (·.dst):=fun hm=>hni (by rw [mem_filterMap] at hm ⊢;obtain ⟨o,ho,hd⟩:=hm;exact ⟨o,mem_of_mem_drop ho,hd⟩)
    exact (j4 i hsub1).trans (k4 i hni))
  simpa using this
 have hx0:=Gs hr.heap;have hfinish:Bd C rec pc N ops S (An C ops (AQ ops) m) lp env h (fun env' h'=>Dh C rec pc N false ops (ops.toList.drop m) env' h' K)=some r→wpOpsIn (Fr ro) n C.P ops Q (lp++List.range' m (ops.size-m)) a {w with drawn:=w.drawn+1}:=fun hk2=>by refine CT hrec hpc ops S _ Q n ro (List.range' m (ops.size-m)) lp hk2 (Io hr) fun env1 h1 κ1 a1 w1 k1 k2 k3 k4 k5 k6 => ?_;exact hrest env1 h1 κ1 a1 w1 k1 k2 (hx0.trans k3) (fun i hni=>k4 i (hsub lp hlt i hni)) k5
 by_cases hcls:lp.idxOf i0<lp.idxOf j0
 ·have hrun:∀s:Env×Heap,lp.foldlM (fun s i=>Ao C rec pc N ops S (An C ops (AQ ops) m) i s) s=(List.range m).foldlM (fun s i=>Ao C rec pc N ops S (An C ops (AQ ops) m) i s) s:=fun s=>
   FR (fun i s=>Ao C rec pc N ops S (An C ops (AQ ops) m) i s) m lp hlpn hlpm (fun b1 x b2 y e2 hy hlt2 s=>
    hcom x y ((hlpm x).1 (by rw [e2];simp)) hlt2 (Gc hopen e2 hy hlt2) (fun hh=>by have:=L1 e2 hlpn hy;rw [hh.1,hh.2] at this;omega) s) s
  refine hfinish ?_;rw [A4] at hA ⊢;rw [hrun];exact hA
 ·have hrun:∀s:Env×Heap,lp.foldlM (fun s i=>Ao C rec pc N ops S (An C ops (AQ ops) m) i s) s=T.foldlM (fun s i=>Ao C rec pc N ops S (An C ops (AQ ops) m) i s) s:=fun s=>
   sort_to (fun i s=>Ao C rec pc N ops S (An C ops (AQ ops) m) i s) m T lp hT hlpn hlpm (fun b1 x b2 y e2 hy hlt2 s=>by
    have hx:=(hlpm x).1 (by rw [e2];simp);have hy':=(hlpm y).1 (by rw [e2];simp [hy]);have hib:=L1 e2 hlpn hy;rcases Nat.lt_trichotomy y x with hyx|hyx|hyx
    ·exact hcom x y hx hyx (Gc hopen e2 hy hyx) (fun hh=>by rw [hh.1,hh.2] at hlt2;omega) s
    ·subst hyx;rfl
    ·refine (hcom y x hy' hyx (Uy hord (hT.mem_iff.2 (mem_range.2 hx)) (hT.mem_iff.2 (mem_range.2 hy')) hlt2) (fun hh => ?_) s).symm;rw [hh.1,hh.2] at hib;exact hcls hib) s
  refine hfinish ?_;rw [A4] at hB ⊢;rw [hrun];exact hB
theorem FB {σ:Type} (f:Nat→σ→Option σ) (p:Nat→Bool):∀(l:List Nat) (s:σ),l.foldlM (fun s i=>if p i=true then f i s else some s) s=(l.filter p).foldlM (fun s i=>f i s) s
 |[],s=>rfl
 |x::l,s=>by
  by_cases hx:p x=true
  ·rw [filter_cons_of_pos hx,foldlM_cons,foldlM_cons,if_pos hx];congr 1;funext s';exact FB f p l s'
  ·rw [filter_cons_of_neg hx,foldlM_cons,if_neg hx];exact FB f p l s
theorem Ie {σ:Type} (f:Nat→σ→Option σ) (p:Nat→Bool) (lo hi:Nat) (lp:List Nat) (hn:lp.Nodup) (hm:∀i,i∈lp↔lo≤i∧i<hi) (hle:lo≤hi) (hp:∀i,p i=true→lo≤i)
  (hcom:lp.Pairwise fun x y=>y<x→p x=true→p y=true→∀s,(f x s).bind (f y)=(f y s).bind (f x)) (s:σ) :
  (lp.filter p).foldlM (fun s i=>f i s) s=((List.range hi).filter p).foldlM (fun s i=>f i s) s:=by
 have hf0:(List.range lo).filter p=[]:=by rw [List.filter_eq_nil_iff];intro i hi;have:=mem_range.1 hi;intro h;have:=hp i h;omega
 have e:lp.filter p=(List.range lo++lp).filter p:=by rw [filter_append,hf0,nil_append]
 rw [e,← FB,← FB];have hpw:(List.range lo++lp).Pairwise fun x y=>y<x→∀s,(if p x=true then f x s else some s).bind (fun s=>if p y=true then f y s else some s)=(if p y=true then f y s else some s).bind (fun s=>if p x=true then f x s else some s):=by
  have htriv:∀x y,¬(p x=true∧p y=true)→∀s,(if p x=true then f x s else some s).bind (fun s=>if p y=true then f y s else some s)=(if p y=true then f y s else some s).bind (fun s=>if p x=true then f x s else some s):=fun x y h s=>by
   by_cases hx:p x=true
   ·by_cases hy:p y=true
    ·exact absurd ⟨hx,hy⟩ h
    ·simp only [hx,hy,if_true,false_eq_true,if_false,Option.bind_some];cases f x s<;>rfl
   ·simp only [hx,false_eq_true,if_false,Option.bind_some];cases (if p y=true then f y s else some s)<;>rfl
  rw [pairwise_append];refine ⟨?_,?_,?_⟩
  ·refine List.Pairwise.imp_of_mem (R:=fun _ _=>True) (fun {x y} hx hy _ _=>htriv x y fun h => ?_) (List.pairwise_of_forall fun _ _=>trivial);have:=hp x h.1;have:=mem_range.1 hx;omega
  ·refine hcom.imp fun {x y} h hlt => ?_;by_cases hb:p x=true∧p y=true
   ·intro s;have:=h hlt hb.1 hb.2 s;simp only [hb.1,hb.2,if_true];exact this
   ·exact htriv x y hb
  ·intro x hx y hy _;refine htriv x y fun h => ?_;have:=hp x h.1;have:=mem_range.1 hx;omega
 refine FR (fun i s=>if p i=true then f i s else some s) hi (List.range lo++lp) ?_ ?_ (fun l1 x l2 y e hy hlt s=>Gc hpw e hy hlt s) s
 ·rw [nodup_append];refine ⟨List.nodup_range,hn,fun x hx y hy h => ?_⟩;have:=mem_range.1 hx;have:=(hm y).1 hy;omega
 ·intro i;rw [mem_append,mem_range,hm];omega
theorem T3 {R:Type} {x y:AF} {a:Option R} {r:R} (h:Ru x y a=some r):x=y∧a=some r:=by
 unfold Ru at h;by_cases hxy:x=y
 ·rw [if_pos hxy] at h;exact ⟨hxy,h⟩
 ·rw [if_neg hxy] at h;cases h
theorem Ea {R:Type} (x:AF) (a:Option R):Ru x x a=a:=by unfold Ru;exact if_pos rfl
theorem Qz {R:Type} {h h':Heap} {i:Nat} {a:Option R} {r:R} (hs:ND h h' i a=some r):(At h' i=At h i∧ob i<h'.length)∧a=some r∧∀b:Option R,ND h h' i b=b:=by
 unfold ND at hs;split at hs
 ·rename_i x y h1 h2;obtain ⟨e,h3⟩:=T3 hs;subst e;refine ⟨⟨h2.trans h1.symm,Vy h2⟩,h3,fun b => ?_⟩;unfold ND;rw [h1,h2];exact Ea x b
 ·cases hs
theorem Db {R:Type} {h h':Heap}:∀{S:List Nat} {a:Option R} {r:R},D6 h h' S a=some r→(∀i∈S,At h' i=At h i∧ob i<h'.length)∧a=some r∧∀b:Option R,D6 h h' S b=b
 |[],a,r,hs=>⟨fun _ hi=>(by cases hi),hs,fun _=>rfl⟩
 |i::S,a,r,hs=>by
  obtain ⟨h1,h2,h3⟩:=Qz hs;obtain ⟨k1,k2,k3⟩:=Db h2;refine ⟨fun j hj => ?_,k2,fun b => ?_⟩
  ·rcases mem_cons.1 hj with rfl|hj
   ·exact h1
   ·exact k1 j hj
  ·show ND h h' i (D6 h h' S b)=b;rw [k3,h3]
theorem Lw {C:Cfg} {rec:Rec} {pc:BE} {N:Nat} {ops:Array Oper} {S:List Nat} {nf:Nat→Bool} {o:Oper} {l1 l2:List Nat} {env:Env} {h:Heap} {K:Env→Heap→Option R} {r:R} (hcg:∀(env' env1:Env) (h1:Heap) (K1:AV→Heap→Option R),(∀x∈o.op.operands,ev env1 x=ev env' x)→Ae C rec pc false env1 h1 o.op K1=Ae C rec pc false env' h1 o.op K1)
  (hq:∀y∈l2,∃o',ops[y]? = some o'∧Af C o'.op=false∧nf y=true∧(∀d,o.dst=some d→d∉o'.looksAt ops)∧(∀d,o.dst=some d→o'.dst≠some d)∧∀d,o'.dst=some d→d∉o.looksAt ops)
  (hk:Bd C rec pc N ops S nf (l1++l2) env h (fun env' h'=>Lx C rec pc N ops S o env' h' K)=some r) :
  JC N o=true∧Bd C rec pc N ops S nf l1 env h (fun env1 h1=>FO ops o env1 (fun env1=>Ae C rec pc false env1 h1 o.op fun v h'=>D6 h1 h' S (Bd C rec pc N ops S nf l2 (env1.put o.dst v) h' K))
   (fun env1=>cnd (BG S h1=true) (Bd C rec pc N ops S nf l2 (env1.put o.dst (.tuple [])) h1 K) none))=some r:=by
 rw [A4,foldlM_append] at hk;rw [A4];cases h1:l1.foldlM (fun s i=>Ao C rec pc N ops S nf i s) (env,h) with
 |none=>rw [h1] at hk;cases hk
 |some s1=>
  rw [h1] at hk;have hk:(l2.foldlM (fun s i=>Ao C rec pc N ops S nf i s) s1).bind (fun s=>Lx C rec pc N ops S o s.1 s.2 K)=some r:=hk;cases h2:l2.foldlM (fun s i=>Ao C rec pc N ops S nf i s) s1 with
  |none=>rw [h2] at hk;cases hk
  |some s2=>
   rw [h2] at hk;simp only [Option.bind_some] at hk;obtain ⟨e1,e2,e3⟩:=H7 C rec pc N ops S nf o l2 s1.1 s1.2 s2 hq h2;unfold Lx at hk;simp only [AE] at hk;obtain ⟨hd,hk⟩:=AH hk;refine ⟨hd,?_⟩;simp only [Option.bind_some];rw [Pz] at hk ⊢;rw [L5 ops o e2] at hk;cases hgv:M4 ops o s1.1 with
   |none=>rw [hgv] at hk;cases hk
   |some bb=>
    rw [hgv] at hk;cases bb with
    |true=>
     simp only [Option.bind_some,if_true] at hk ⊢;rw [e1,hcg s1.1 s2.1 _ _ (Lt ops o e2)] at hk;rw [← hk];congr 1;funext v h';have key:∀q,D6 s1.2 h' S (Bd C rec pc N ops S nf l2 (s1.1.put o.dst v) h' K)=some q↔D6 s1.2 h' S (K (s2.1.put o.dst v) h')=some q:=by
      have hback:(∀i∈S,At h' i=At s1.2 i∧ob i<h'.length)→Bd C rec pc N ops S nf l2 (s1.1.put o.dst v) h' K=K (s2.1.put o.dst v) h':=fun hall=>by
       have hi':BG S h'=true:=by unfold BG;rw [all_eq_true];intro i hi;simpa using (hall i hi).2
       have hi:BG S s1.2=true:=by unfold BG;rw [all_eq_true];intro i hi;have h3:=hall i hi;simpa using Nu h3.1 h3.2
       rw [A4,e3 v h' hi' hi fun i hi=>(hall i hi).1];rfl
      intro q;constructor
      ·intro hs;obtain ⟨k1,k2,k3⟩:=Db hs;rw [k3,← hback k1];exact k2
      ·intro hs;obtain ⟨k1,k2,k3⟩:=Db hs;rw [k3,hback k1];exact k2
     cases hA:D6 s1.2 h' S (Bd C rec pc N ops S nf l2 (s1.1.put o.dst v) h' K) with
     |some q=>exact ((key q).1 hA).symm
     |none=>
      cases hB:D6 s1.2 h' S (K (s2.1.put o.dst v) h') with
      |none=>rfl
      |some q=>rw [(key q).2 hB] at hA;cases hA
    |false=>
     simp only [Option.bind_some,false_eq_true,if_false,AE] at hk ⊢;obtain ⟨hin,hk⟩:=AH hk;rw [e1] at hin hk;rw [if_pos hin,A4,e3 (.tuple []) s1.2 hin hin fun _ _=>rfl];exact hk
theorem Jn {σ:Type} (f:Nat→σ→Option σ) (p:Nat→Bool):∀(l:List Nat),(l.Pairwise fun x y=>p x=false→p y=true→∀s,(f x s).bind (f y)=(f y s).bind (f x))→∀s,
  (l.filter p++l.filter fun i => !p i).foldlM (fun s i=>f i s) s=l.foldlM (fun s i=>f i s) s
 |[],_,s=>rfl
 |x::l,hp,s=>by
  obtain ⟨h1,h2⟩:=pairwise_cons.1 hp;cases hx:p x with
  |true=>
   rw [filter_cons_of_pos hx,filter_cons_of_neg (by simp [hx]),cons_append,foldlM_cons,foldlM_cons];congr 1;funext s';exact Jn f p l h2 s'
  |false=>
   rw [filter_cons_of_neg (by simp [hx]),filter_cons_of_pos (by simp [hx]),foldlM_cons];have e0:(f x s).bind (fun s'=>l.foldlM (fun s i=>f i s) s')=(f x s).bind fun s'=>(l.filter p++l.filter fun i => !p i).foldlM (fun s i=>f i s) s':=by congr 1;funext s';exact (Jn f p l h2 s').symm
   show _=(f x s).bind fun s'=>l.foldlM (fun s i=>f i s) s';rw [e0];have key:∀(q:List Nat),(∀y∈q,∀s,(f x s).bind (f y)=(f y s).bind (f x))→∀(t:List Nat) s,(q++x::t).foldlM (fun s i=>f i s) s=(f x s).bind fun s'=>(q++t).foldlM (fun s i=>f i s) s':=by
    intro q
    induction q with
    |nil=>intro _ t s;rfl
    |cons y q ih=>
     intro hq t s;rw [cons_append,foldlM_cons];have e1:(f x s).bind (fun s'=>(y::q++t).foldlM (fun s i=>f i s) s')=((f x s).bind (f y)).bind fun s'=>(q++t).foldlM (fun s i=>f i s) s':=by rw [bind_assoc];rfl
     rw [e1,hq y (by simp),bind_assoc];show (f y s).bind _=(f y s).bind _;congr 1;funext s';exact ih (fun z hz=>hq z (by simp [hz])) t s'
   refine key _ (fun y hy s => ?_) _ s;rw [mem_filter] at hy;exact h1 y hy.1 hx hy.2 s
theorem Ux {C:Cfg} {rec:Rec} {pc:BE} (hrec:DY C.P rec) (hpc:B3 C.P pc) {ops:Array Oper} {K:Env→Heap→Option R} {r:R} {lo hi m:Nat} {u:Option Nat} {S:List Nat} {o:Oper} (hle:hi≤ops.size) (hlo:lo≤hi) (ho:ops[m]? = some o)
  (lp:List Nat) (hlpn:lp.Nodup) (hlpm:∀i,i∈lp↔lo≤i∧i<hi) (hopen:lp.Pairwise fun x y=>y<x→¬((AQ ops).getD x 0).testBit y=true)
  (hso:RH C ops (AQ ops) lo hi m u=true) (hcv:I4 o.op=true)
  (hkA:RI C rec pc N ops (AQ ops) lo hi m none S (nf3 C ops (AQ ops) lo hi (some m)) o env h K=some r)
  (hkB:∀u',u=some u'→RI C rec pc N ops (AQ ops) lo hi m (some u') S (nf3 C ops (AQ ops) lo hi (some m)) o env h K=some r)
  (hr:Rel B N κ env h a w) (Q:Exit→Act→World→Prop) (n:Nat) (ro:Option Nat) (rest:List Nat)
  (hcont:∀env1 h1 κ1 a1 w1,K env1 h1=some r→Rel B N κ1 env1 h1 a1 w1→Ext κ h w κ1 h1 w1→(∀i,i∉ops.toList.filterMap (·.dst)→env1 i=env i)→a1.defers=a.defers→wpOpsIn (Fr ro) n C.P ops Q rest a1 w1) :
  wpOpsIn (Fr ro) n C.P ops Q (lp++rest) a w:=by
 let g:Nat→Oper:=fun i=>ops.getD i default;have hlt:∀i∈lp,i<ops.size:=fun i hi=>by have:=(hlpm i).1 hi;omega
 have hsub:∀(l:List Nat),(∀i∈l,i<ops.size)→∀i,i∉ops.toList.filterMap (·.dst)→i∉(l.map g).filterMap (·.dst):=fun l hl i hni hm=>hni (by rw [mem_filterMap] at hm ⊢;obtain ⟨o,ho,hd⟩:=hm;obtain ⟨x,hx,rfl⟩:=mem_map.1 ho;refine ⟨g x,?_,hd⟩;have:=Ar (hl x hx);exact mem_of_getElem? (i:=x) (by rw [getElem?_toList];exact this))
 unfold RH at hso;simp only [and_eq_true,decide_eq_true_eq] at hso;obtain ⟨hps,⟨hm1,hm2⟩,hbits,hdn,hdu⟩:=hso;have hbitm:∀i,i<hi→i≤m→¬((AQ ops).getD i 0).testBit m=true:=fun i hi1 him=>by have:=(all_eq_true.1 hbits) i (mem_range.2 hi1);simp only [and_eq_true,or_eq_true,decide_eq_true_eq] at this;simpa using this.1.resolve_left (by omega)
 have hbitu:∀u',u=some u'→∀i,i<hi→i≤u'→¬((AQ ops).getD i 0).testBit u'=true:=fun u' hu i hi1 hiu=>by have:=(all_eq_true.1 hbits) i (mem_range.2 hi1);rw [hu] at this;simp only [and_eq_true,or_eq_true,decide_eq_true_eq] at this;simpa using this.2.resolve_left (by omega)
 have hpair:∀x y,x<hi→lo≤y→y<x→¬((AQ ops).getD x 0).testBit y=true→Js m u y x=false→
   (CP C ops (some m) y&&CP C ops (some m) x)=false∧(∀d,(g y).dst=some d→d∉(g x).looksAt ops)∧(∀d,(g y).dst=some d→(g x).dst≠some d)∧(∀d,(g x).dst=some d→d∉(g y).looksAt ops)∧
   (CP C ops (some m) x=true→nf3 C ops (AQ ops) lo hi (some m) y=true)∧(CP C ops (some m) y=true→nf3 C ops (AQ ops) lo hi (some m) x=true):=fun x y hx hloy hlt2 h2 hip=>by
  have h0:=(all_eq_true.1 hps) x (mem_range.2 hx);rw [or_eq_true] at h0;have h1:=h0.resolve_left (by simp;omega);have h1:=(all_eq_true.1 h1) y (mem_range.2 hlt2);have ex:=Ar (show x<ops.size by omega);have ey:=Ar (show y<ops.size by omega);rw [ex,ey,hip] at h1;simp only [or_eq_true,and_eq_true,not_eq_true',decide_eq_true_eq,false_eq_true,false_or] at h1;obtain ⟨hnl,hap⟩:=(h1.resolve_left (by omega)).resolve_left h2;obtain ⟨q1,q2,q3⟩:=Oper.apart_spec hap;have hun:DZ (AQ ops) x y=true:=by unfold DZ;rw [if_neg (by omega)];simpa using h2
  have hun':DZ (AQ ops) y x=true:=by unfold DZ;rw [if_pos hlt2];simpa using h2
  refine ⟨hnl,q1,q2,q3,fun hlx => ?_,fun hly => ?_⟩
  ·unfold nf3;refine any_eq_true.2 ⟨x,mem_range.2 hx,?_⟩;simp only [and_eq_true,bne_iff_ne,decide_eq_true_eq];exact ⟨by omega,⟨hlx,by omega⟩,hun'⟩
  ·unfold nf3;refine any_eq_true.2 ⟨y,mem_range.2 (by omega),?_⟩;simp only [and_eq_true,bne_iff_ne,decide_eq_true_eq];exact ⟨by omega,⟨hly,by omega⟩,hun⟩
 generalize hnf:nf3 C ops (AQ ops) lo hi (some m)=nf at *;have hcom:∀x y,x<hi→lo≤y→y<x→¬((AQ ops).getD x 0).testBit y=true→x≠m→y≠m→∀s:Env×Heap,(Ao C rec pc N ops S nf x s).bind (Ao C rec pc N ops S nf y)=(Ao C rec pc N ops S nf y s).bind (Ao C rec pc N ops S nf x):=fun x y hx hloy hlt2 h2 hxm hym s=>by
  obtain ⟨hnl,q1,q2,q3,n1,n2⟩:=hpair x y hx hloy hlt2 h2 (by
   unfold Js;cases u with
   |none=>rfl
   |some u=>simp [hxm,hym])
  have ex:=Ar (show x<ops.size by omega);have ey:=Ar (show y<ops.size by omega);have l3:∀z,z<ops.size→Af C (g z).op=true→CP C ops (some m) z=true:=fun z hz hl=>by unfold CP BF;rw [Ar hz];have hl':Af C (ops.getD z default).op=true:=hl;show ((Af C (ops.getD z default).op||CH C (ops.getD z default).op)||_)=true;rw [hl'];rfl
  cases hlx:Af C (g x).op with
  |true=>
   have hlx':=l3 x (by omega) hlx;have hly:Af C (g y).op=false:=by
    cases hly:Af C (g y).op with
    |false=>rfl
    |true=>
     rw [hlx',l3 y (by omega) hly] at hnl;cases hnl
   exact DV C rec pc N ops S _ ex ey q3 (fun d hd hd2=>q2 d hd2 hd) q1 hlx hly (n1 hlx') s
  |false=>
   cases hly:Af C (g y).op with
   |true=>exact (DV C rec pc N ops S _ ey ex q1 q2 q3 hly hlx (n2 (l3 y (by omega) hly)) s).symm
   |false=>exact (F1 C rec pc N ops S _ ey ex q1 q2 q3 hly hlx s).symm
 obtain ⟨l1,l2,e⟩:=append_of_mem ((hlpm m).2 ⟨hm1,hm2⟩);have hn':=hlpn;rw [e,nodup_append,nodup_cons] at hn';obtain ⟨n1,⟨n2,n3⟩,n4⟩:=hn';obtain ⟨v,hkv,hvu,hv2,hdv⟩:∃v:Option Nat,RI C rec pc N ops (AQ ops) lo hi m v S nf o env h K=some r∧(∀u',u=some u'→u'∈l2→v=some u')∧(∀u',v=some u'→u=some u'∧u'∈l2)∧Rf (AQ ops) lo hi m v=true:=by
  cases hu:u with
  |none=>exact ⟨none,hkA,(fun u' e=>by cases e),(fun u' e=>by cases e),hdn⟩
  |some u'=>
   rw [hu] at hdu;simp only [and_eq_true] at hdu;by_cases hin:u'∈l2
   ·exact ⟨some u',hkB u' hu,(fun q hq _=>hq),(fun q hq=>⟨hq,by cases hq;exact hin⟩),hdu.2⟩
   ·exact ⟨none,hkA,(fun q hq hq2=>by cases hq;exact absurd hq2 hin),(fun q hq=>by cases hq),hdn⟩
 let p:Nat→Bool:=IK (AQ ops) lo m v;have hbef:∀x∈l1,∀y∈m::l2,y<x→¬((AQ ops).getD x 0).testBit y=true:=fun x hx y hy=>by have h1:=hopen;rw [e,pairwise_append] at h1;exact h1.2.2 x hx y hy
 have hp1:∀x∈l1,p x=true:=fun x hx=>by
  obtain ⟨hx1,hx2⟩:=(hlpm x).1 (by rw [e];simp [hx]);have hxm:x≠m:=fun h=>n4 x hx m (by simp) h;show IK (AQ ops) lo m v x=true;unfold IK;have b1:((AQ ops).getD x 0).testBit m=false:=by
   rcases lt_or_ge m x with hlt3|hge
   ·simpa using hbef x hx m (by simp) hlt3
   ·simpa using hbitm x hx2 hge
  cases hv:v with
  |none=>rw [decide_eq_true hx1,b1,show (x != m)=true from by simpa using hxm];rfl
  |some u'=>
   obtain ⟨hu,hul⟩:=hv2 u' hv;have hxu:x≠u':=fun h=>n4 x hx u' (by simp [hul]) h;have b2:((AQ ops).getD x 0).testBit u'=false:=by
    rcases lt_or_ge u' x with hlt3|hge
    ·simpa using hbef x hx u' (by simp [hul]) hlt3
    ·simpa using hbitu u' hu x hx2 hge
   dsimp only;rw [decide_eq_true hx1,b1,b2,show (x != m)=true from by simpa using hxm,show (x != u')=true from by simpa using hxu];rfl
 have hpm:p m=false:=by show IK (AQ ops) lo m v m=false;unfold IK;simp
 have hpd:∀y,p y=true→lo≤y∧y≠m∧¬((AQ ops).getD y 0).testBit m=true∧∀u',v=some u'→y≠u':=fun y hy=>by have hy:IK (AQ ops) lo m v y=true:=hy;unfold IK at hy;simp only [and_eq_true,decide_eq_true_eq,bne_iff_ne,not_eq_true'] at hy;obtain ⟨h1,h2,h3,h4⟩:=hy;refine ⟨h1,h2,by simpa using h3,fun u' hv => ?_⟩;rw [hv] at h4;simp only [and_eq_true,bne_iff_ne] at h4;exact h4.1
 have hfil:lp.filter p=l1++l2.filter p:=by rw [e,filter_append,filter_cons_of_neg (by simp [hpm]),filter_eq_self.2 hp1]
 have hrun:∀s:Env×Heap,(l1++l2.filter p).foldlM (fun s i=>Ao C rec pc N ops S nf i s) s=((List.range hi).filter p).foldlM (fun s i=>Ao C rec pc N ops S nf i s) s:=fun s=>by rw [← hfil];refine Ie (fun i s=>Ao C rec pc N ops S nf i s) p lo hi lp hlpn hlpm hlo (fun i h=>(hpd i h).1) ?_ s;refine hopen.imp_of_mem fun {x y} hx hy h hlt px py s => ?_;exact hcom x y ((hlpm x).1 hx).2 ((hlpm y).1 hy).1 hlt (h hlt) (hpd x px).2.1 (hpd y py).2.1 s
 have hrest:∀i∈l2,(E3 (AQ ops) lo m v i=true↔p i=false):=fun i hi2=>by obtain ⟨hx1,_⟩:=(hlpm i).1 (by rw [e];simp [hi2]);have hne:i≠m:=fun h=>n2 (h ▸ hi2);unfold E3;show _↔IK (AQ ops) lo m v i=false;simp [hx1,hne]
 have hfil2:lp.filter (E3 (AQ ops) lo m v)=l2.filter fun i => !p i:=by
  rw [e,filter_append,filter_cons_of_neg (by unfold E3;simp),List.filter_eq_nil_iff.2 (fun x hx=>by have h1:IK (AQ ops) lo m v x=true:=hp1 x hx;unfold E3;rw [h1];simp),nil_append]
  refine List.filter_congr fun i hi2 => ?_;rw [Bool.eq_iff_iff,hrest i hi2];simp
 have hrun2:∀s:Env×Heap,(l2.filter p++(List.range hi).filter (E3 (AQ ops) lo m v)).foldlM (fun s i=>Ao C rec pc N ops S nf i s) s=l2.foldlM (fun s i=>Ao C rec pc N ops S nf i s) s:=fun s=>by
  have hs:∀s:Env×Heap,(l2.filter fun i => !p i).foldlM (fun s i=>Ao C rec pc N ops S nf i s) s=((List.range hi).filter (E3 (AQ ops) lo m v)).foldlM (fun s i=>Ao C rec pc N ops S nf i s) s:=fun s=>by
   rw [← hfil2];refine Ie (fun i s=>Ao C rec pc N ops S nf i s) (E3 (AQ ops) lo m v) lo hi lp hlpn hlpm hlo (fun i h => ?_) ?_ s
   ·unfold E3 at h;simp only [and_eq_true,decide_eq_true_eq] at h;exact h.1
   ·refine hopen.imp_of_mem fun {x y} hx hy h hlt px py s => ?_;have hne:∀z,E3 (AQ ops) lo m v z=true→z≠m:=fun z hz=>by unfold E3 at hz;simp only [and_eq_true,bne_iff_ne] at hz;exact hz.2.1
    exact hcom x y ((hlpm x).1 hx).2 ((hlpm y).1 hy).1 hlt (h hlt) (hne x px) (hne y py) s
  rw [foldlM_append];have h2:=Jn (fun i s=>Ao C rec pc N ops S nf i s) p l2 (by
   have h1:=hopen;rw [e,pairwise_append] at h1;have h1:=(pairwise_cons.1 h1.2.1).2;refine h1.imp_of_mem fun {x y} hx hy h px py s => ?_;obtain ⟨hx1,hx2⟩:=(hlpm x).1 (by rw [e];simp [hx]);obtain ⟨hy1,hy2⟩:=(hlpm y).1 (by rw [e];simp [hy]);have hxm:x≠m:=fun h=>n2 (h ▸ hx);have hym:y≠m:=fun h=>n2 (h ▸ hy);rcases Nat.lt_trichotomy y x with hlt3|heq|hgt
   ·exact hcom x y hx2 hy1 hlt3 (h hlt3) hxm hym s
   ·subst heq;exact absurd py (by rw [px];simp)
   ·have hd:=(all_eq_true.1 hdv) y (mem_range.2 hy2);have py':IK (AQ ops) lo m v y=true:=py;have px':IK (AQ ops) lo m v x=false:=px;rw [py',Bool.not_true,Bool.false_or] at hd;have hd:=(all_eq_true.1 hd) x (mem_range.2 hx2);rw [px'] at hd;simp only [or_eq_true,decide_eq_true_eq,false_eq_true,false_or] at hd;have hd:=hd.resolve_left (by omega);exact (hcom y x hy2 hx1 hgt (by simpa using hd) hym hxm s).symm) s
  rw [foldlM_append] at h2;rw [← h2];congr 1;funext s';exact (hs s').symm
 have hgo:g m=o:=by have h1:=Ar (show m<ops.size by omega);rw [ho] at h1;exact (Option.some.inj h1).symm
 unfold RI at hkv;have hk2:Bd C rec pc N ops S nf (l1++l2.filter p) env h (fun env' h'=>Lx C rec pc N ops S o env' h' fun env2 h2=>Bd C rec pc N ops S nf ((List.range hi).filter (E3 (AQ ops) lo m v)) env2 h2 K)=some r:=by rw [A4] at hkv ⊢;rw [hrun];exact hkv
 have hlm:CP C ops (some m) m=true:=by unfold CP;simp
 obtain ⟨hd,hk3⟩:=Lw (fun _ _ _ K1 hE=>KZ C rec pc hcv hE K1) (fun y hy=>by
  rw [mem_filter] at hy;obtain ⟨hy,py⟩:=hy;obtain ⟨_,hne,hnm,hnu⟩:=hpd y py;obtain ⟨hy1,hy2⟩:=(hlpm y).1 (by rw [e];simp [hy]);have ey:=Ar (show y<ops.size by omega);have hip:Js m u m y=false∧Js m u y m=false:=by
   unfold Js;cases hu:u with
   |none=>exact ⟨rfl,rfl⟩
   |some u'=>
    have:y≠u':=fun h=>hnu u' (hvu u' hu (h ▸ hy)) h;simp [hne,this]
  have hquiet:(CP C ops (some m) y)=false→Af C (g y).op=false:=fun hq=>by unfold CP BF at hq;rw [ey] at hq;rw [or_eq_false_iff,or_eq_false_iff] at hq;exact hq.1.1
  rcases Nat.lt_or_gt_of_ne hne with hlt3|hlt3
  ·have hno:=Gc hopen e hy hlt3;obtain ⟨hnl,q1,q2,q3,f1,f2⟩:=hpair m y hm2 hy1 hlt3 hno hip.2;rw [hgo] at q1 q2 q3;refine ⟨g y,ey,hquiet ?_,f1 hlm,q3,fun d hd hd2=>q2 d hd2 hd,q1⟩;rw [hlm,Bool.and_true] at hnl;exact hnl
  ·obtain ⟨hnl,q1,q2,q3,f1,f2⟩:=hpair y m hy2 hm1 hlt3 hnm hip.1;rw [hgo] at q1 q2 q3;refine ⟨g y,ey,hquiet ?_,f2 hlm,q1,q2,q3⟩;rw [hlm,Bool.true_and] at hnl;exact hnl) hk2
 have hjoin:∀(e1:Env) (h1:Heap),Bd C rec pc N ops S nf (l2.filter p) e1 h1 (fun env2 h2=>Bd C rec pc N ops S nf ((List.range hi).filter (E3 (AQ ops) lo m v)) env2 h2 K)=Bd C rec pc N ops S nf l2 e1 h1 K:=fun e1 h1=>by
  rw [A4,A4,← hrun2,foldlM_append];cases (l2.filter p).foldlM (fun s i=>Ao C rec pc N ops S nf i s) (e1,h1) with
  |none=>rfl
  |some s'=>exact A4 C rec pc N ops S nf _ s'.1 s'.2 K
 have hl1lt:∀i∈l1,i<ops.size:=fun i hi=>hlt i (by rw [e];simp [hi]);have hl2lt:∀i∈l2,i<ops.size:=fun i hi=>hlt i (by rw [e];simp [hi]);have hdm:∀i,i∉ops.toList.filterMap (·.dst)→∀d,o.dst=some d→d≠i:=fun i hni d hd' e'=>hni (by subst e';rw [mem_filterMap];exact ⟨o,mem_of_getElem? (i:=m) (by rw [getElem?_toList];exact ho),hd'⟩)
 rw [e,append_assoc];refine CT hrec hpc ops S _ Q n ro (m::l2++rest) l1 hk3 hr fun env1 h1 κ1 a1 w1 k1 k2 k3 k4 k5 k6 => ?_;simp only [cons_append,wpOpsIn,ho];have hpd:∀val,(a1.put o.dst val).defers=a1.defers:=fun val=>by cases o.dst<;>rfl
 rcases Gn k1 k2 with ⟨hw,hk4⟩|⟨hw,hk4⟩
 ·simp only [hw,if_true];refine Ia hrec hpc o hk4 k2 _ Q n ro fun v' h' κ' val w' g1 g2 g3 g4 g5 => ?_;obtain ⟨_,g1,_⟩:=Db g1;rw [hjoin] at g1;refine CT hrec hpc ops S _ Q n ro rest l2 g1 (ET k2 g3 g4 g2 o hd) fun env2 h2 κ2 a2 w2 j1 j2 j3 j4 j5 j6 => ?_;refine hcont env2 h2 κ2 a2 w2 j1 j2 ((k3.trans g4).trans j3) (fun i hni => ?_) ((j5.trans (hpd _)).trans k5);exact (j4 i (hsub l2 hl2lt i hni)).trans ((CN fun d hd'=>hdm i hni d hd').trans (k4 i (hsub l1 hl1lt i hni)))
 ·simp only [hw,false_eq_true,if_false];simp only [AE] at hk4;obtain ⟨_,hk4⟩:=AH hk4;rw [hjoin] at hk4;refine ⟨fun _ _=>trivial,?_⟩;refine CT hrec hpc ops S _ Q n ro rest l2 hk4 (ET k2 k2.heap (Ext.refl _ _ _) (.tuple _ _ rfl fun j x hx=>by simp at hx) o hd) fun env2 h2 κ2 a2 w2 j1 j2 j3 j4 j5 j6 => ?_;refine hcont env2 h2 κ2 a2 w2 j1 j2 (k3.trans j3) (fun i hni => ?_) ((j5.trans (hpd _)).trans k5);exact (j4 i (hsub l2 hl2lt i hni)).trans ((CN fun d hd'=>hdm i hni d hd').trans (k4 i (hsub l1 hl1lt i hni)))
theorem seg_ok {C:Cfg} {rec:Rec} {pc:BE} (hrec:DY C.P rec) (hpc:B3 C.P pc) {ops:Array Oper} {K:Env→Heap→Option R} {r:R} {lo hi:Nat} (hle:hi≤ops.size) (hlo:lo≤hi)
  (lp:List Nat) (hlpn:lp.Nodup) (hlpm:∀i,i∈lp↔lo≤i∧i<hi) (hopen:lp.Pairwise fun x y=>y<x→¬((AQ ops).getD x 0).testBit y=true)
  (hk:segK C rec pc N ops (AQ ops) lo hi env h K=some r) (hr:Rel B N κ env h a w) (Q:Exit→Act→World→Prop) (n:Nat) (ro:Option Nat) (rest:List Nat)
  (hcont:∀env1 h1 κ1 a1 w1,K env1 h1=some r→Rel B N κ1 env1 h1 a1 w1→Ext κ h w κ1 h1 w1→(∀i,i∉ops.toList.filterMap (·.dst)→env1 i=env i)→a1.defers=a.defers→wpOpsIn (Fr ro) n C.P ops Q rest a1 w1) :
  wpOpsIn (Fr ro) n C.P ops Q (lp++rest) a w:=by
 let g:Nat→Oper:=fun i=>ops.getD i default;have hlt:∀i∈lp,i<ops.size:=fun i hi=>by have:=(hlpm i).1 hi;omega
 have hsub:∀(l:List Nat),(∀i∈l,i<ops.size)→∀i,i∉ops.toList.filterMap (·.dst)→i∉(l.map g).filterMap (·.dst):=fun l hl i hni hm=>hni (by rw [mem_filterMap] at hm ⊢;obtain ⟨o,ho,hd⟩:=hm;obtain ⟨x,hx,rfl⟩:=mem_map.1 ho;refine ⟨g x,?_,hd⟩;have:=Ar (hl x hx);exact mem_of_getElem? (i:=x) (by rw [getElem?_toList];exact this))
 have hpair:∀(m0:Option Nat),KH C ops (AQ ops) lo hi m0=true→∀x y,x<hi→lo≤y→y<x→¬((AQ ops).getD x 0).testBit y=true→
   (CP C ops m0 y&&CP C ops m0 x)=false∧(∀d,(g y).dst=some d→d∉(g x).looksAt ops)∧(∀d,(g y).dst=some d→(g x).dst≠some d)∧(∀d,(g x).dst=some d→d∉(g y).looksAt ops)∧
   (CP C ops m0 x=true→nf3 C ops (AQ ops) lo hi m0 y=true)∧(CP C ops m0 y=true→nf3 C ops (AQ ops) lo hi m0 x=true):=fun m0 hso x y hx hloy hlt2 h2=>by
  unfold KH at hso;rw [and_eq_true] at hso;have h0:=(all_eq_true.1 hso.1) x (mem_range.2 hx);have h1:((List.range x).all fun i=>decide (i<lo)||((AQ ops).getD x 0).testBit i||(!(CP C ops m0 i&&CP C ops m0 x)&&(match ops[i]?,ops[x]? with
   |some x,some y=>x.apart ops y
   |_,_=>false)))=true:=by
   simp only [or_eq_true,decide_eq_true_eq] at h0;have:=h0.resolve_left (by omega);rw [all_eq_true] at this ⊢;intro i hi;rw [Bool.or_assoc];exact this i hi
  have h1:=(all_eq_true.1 h1) y (mem_range.2 hlt2);have ex:=Ar (show x<ops.size by omega);have ey:=Ar (show y<ops.size by omega);rw [ex,ey] at h1;simp only [or_eq_true,and_eq_true,not_eq_true',decide_eq_true_eq] at h1;obtain ⟨hnl,hap⟩:=h1.resolve_left (fun q=>q.elim (fun q=>by omega) h2);obtain ⟨q1,q2,q3⟩:=Oper.apart_spec hap;have hun:DZ (AQ ops) x y=true:=by unfold DZ;rw [if_neg (by omega)];simpa using h2
  have hun':DZ (AQ ops) y x=true:=by unfold DZ;rw [if_pos hlt2];simpa using h2
  refine ⟨hnl,q1,q2,q3,fun hlx => ?_,fun hly => ?_⟩
  ·unfold nf3;refine any_eq_true.2 ⟨x,mem_range.2 hx,?_⟩;simp only [and_eq_true,bne_iff_ne,decide_eq_true_eq];exact ⟨by omega,⟨hlx,by omega⟩,hun'⟩
  ·unfold nf3;refine any_eq_true.2 ⟨y,mem_range.2 (by omega),?_⟩;simp only [and_eq_true,bne_iff_ne,decide_eq_true_eq];exact ⟨by omega,⟨hly,by omega⟩,hun⟩
 have hcom:∀(m0:Option Nat) (S:List Nat),KH C ops (AQ ops) lo hi m0=true→∀x y,x<hi→lo≤y→y<x→¬((AQ ops).getD x 0).testBit y=true→∀s:Env×Heap,(Ao C rec pc N ops S (nf3 C ops (AQ ops) lo hi m0) x s).bind (Ao C rec pc N ops S (nf3 C ops (AQ ops) lo hi m0) y)=(Ao C rec pc N ops S (nf3 C ops (AQ ops) lo hi m0) y s).bind (Ao C rec pc N ops S (nf3 C ops (AQ ops) lo hi m0) x):=fun m0 S hso x y hx hloy hlt2 h2 s=>by
  obtain ⟨hnl,q1,q2,q3,n1,n2⟩:=hpair m0 hso x y hx hloy hlt2 h2;have ex:=Ar (show x<ops.size by omega);have ey:=Ar (show y<ops.size by omega);have l3:∀z,z<ops.size→Af C (g z).op=true→CP C ops m0 z=true:=fun z hz hl=>by unfold CP BF;rw [Ar hz];have hl':Af C (ops.getD z default).op=true:=hl;show ((Af C (ops.getD z default).op||CH C (ops.getD z default).op)||_)=true;rw [hl'];rfl
  cases hlx:Af C (g x).op with
  |true=>
   have hlx':=l3 x (by omega) hlx;have hly:Af C (g y).op=false:=by
    cases hly:Af C (g y).op with
    |false=>rfl
    |true=>
     rw [hlx',l3 y (by omega) hly] at hnl;cases hnl
   exact DV C rec pc N ops S _ ex ey q3 (fun d hd hd2=>q2 d hd2 hd) q1 hlx hly (n1 hlx') s
  |false=>
   cases hly:Af C (g y).op with
   |true=>exact (DV C rec pc N ops S _ ey ex q1 q2 q3 hly hlx (n2 (l3 y (by omega) hly)) s).symm
   |false=>exact (F1 C rec pc N ops S _ ey ex q1 q2 q3 hly hlx s).symm
 unfold segK at hk;split at hk
 ·rename_i m0 hmc;split at hk
  ·rename_i o ho;by_cases hsf:KH C ops (AQ ops) lo hi (some m0)=false
   ·rw [if_pos hsf] at hk;simp only [AE] at hk;obtain ⟨⟨hso,hcv⟩,hk1⟩:=AH hk;generalize looks C.P ops (nfS C ops (AQ ops) lo hi m0) hi env h=S at hk1;cases hu:ordU C ops (AQ ops) lo hi m0 with
    |none=>
     rw [hu] at hk1 hso;exact Ux hrec hpc hle hlo ho lp hlpn hlpm hopen hso hcv hk1 (fun u' e=>by cases e) hr Q n ro rest hcont
    |some u=>
     rw [hu] at hk1 hso;obtain ⟨hA,hB⟩:=HW hk1;exact Ux hrec hpc hle hlo ho lp hlpn hlpm hopen hso hcv hA (fun u' e=>by cases e;exact hB) hr Q n ro rest hcont
   rw [if_neg hsf] at hk;simp only [AE] at hk;obtain ⟨⟨hso,hcv⟩,hk1⟩:=AH hk;generalize looks C.P ops (nfS C ops (AQ ops) lo hi m0) hi env h=S at hk1;have hso2:=hso;unfold KH at hso2;simp only [and_eq_true,decide_eq_true_eq] at hso2;obtain ⟨_,⟨hm1,hm2⟩,hnone⟩:=hso2;have hnone:∀j,lo≤j→j<hi→¬((AQ ops).getD j 0).testBit m0=true:=fun j hj1 hj2=>by have:=(all_eq_true.1 hnone) j (mem_range.2 hj2);simp only [or_eq_true,decide_eq_true_eq] at this;simpa using this.resolve_left (by omega)
   have hgo:g m0=o:=by have h1:=Ar (show m0<ops.size by omega);rw [ho] at h1;exact (Option.some.inj h1).symm
   obtain ⟨l1,l2,e⟩:=append_of_mem ((hlpm m0).2 ⟨hm1,hm2⟩);have hn':=hlpn;rw [e,nodup_append,nodup_cons] at hn';obtain ⟨n1,⟨n2,n3⟩,n4⟩:=hn';have hfil:lp.filter (fun i=>decide (lo≤i)&&i != m0)=l1++l2:=by
    have hall:∀x∈lp,lo≤x:=fun x hx=>((hlpm x).1 hx).1;rw [e] at hall;rw [e,filter_append,filter_cons_of_neg (by simp),filter_eq_self.2 (fun x hx=>by have:=n4 x hx m0 (by simp);have:=hall x (by simp [hx]);simp [*]),filter_eq_self.2 (fun x hx=>by have:x≠m0:=fun h=>n2 (h ▸ hx);have:=hall x (by simp [hx]);simp [*])]
   have hrun:∀s:Env×Heap,(l1++l2).foldlM (fun s i=>Ao C rec pc N ops S (nf3 C ops (AQ ops) lo hi (some m0)) i s) s=((List.range hi).filter fun i=>decide (lo≤i)&&i != m0).foldlM (fun s i=>Ao C rec pc N ops S (nf3 C ops (AQ ops) lo hi (some m0)) i s) s:=fun s=>by rw [← hfil];refine Ie (fun i s=>Ao C rec pc N ops S (nf3 C ops (AQ ops) lo hi (some m0)) i s) _ lo hi lp hlpn hlpm hlo (fun i h=>by simp only [and_eq_true,decide_eq_true_eq] at h;exact h.1) ?_ s;refine hopen.imp_of_mem fun {x y} hx hy h hlt px py s => ?_;exact hcom (some m0) S hso x y ((hlpm x).1 hx).2 ((hlpm y).1 hy).1 hlt (h hlt) s
   have hk2:Bd C rec pc N ops S (nf3 C ops (AQ ops) lo hi (some m0)) (l1++l2) env h (fun env' h'=>Lx C rec pc N ops S o env' h' K)=some r:=by rw [A4] at hk1 ⊢;rw [hrun];exact hk1
   have hlm:CP C ops (some m0) m0=true:=by unfold CP;simp
   obtain ⟨hd,hk3⟩:=Lw (fun _ _ _ K1 hE=>KZ C rec pc hcv hE K1) (fun y hy=>by
    have hne:y≠m0:=fun h=>n2 (h ▸ hy);obtain ⟨hy1,hy2⟩:=(hlpm y).1 (by rw [e];simp [hy]);have ey:=Ar (show y<ops.size by omega);have hquiet:(CP C ops (some m0) y)=false→Af C (g y).op=false:=fun hq=>by unfold CP BF at hq;rw [ey] at hq;rw [or_eq_false_iff,or_eq_false_iff] at hq;exact hq.1.1
    rcases Nat.lt_or_gt_of_ne hne with hlt3|hlt3
    ·have hno:=Gc hopen e hy hlt3;obtain ⟨hnl,q1,q2,q3,f1,f2⟩:=hpair (some m0) hso m0 y hm2 hy1 hlt3 hno;rw [hgo] at q1 q2 q3;refine ⟨g y,ey,hquiet ?_,f1 hlm,q3,fun d hd hd2=>q2 d hd2 hd,q1⟩;rw [hlm,Bool.and_true] at hnl;exact hnl
    ·have hno:=hnone y hy1 hy2;obtain ⟨hnl,q1,q2,q3,f1,f2⟩:=hpair (some m0) hso y m0 hy2 hm1 hlt3 hno;rw [hgo] at q1 q2 q3;refine ⟨g y,ey,hquiet ?_,f2 hlm,q1,q2,q3⟩;rw [hlm,Bool.true_and] at hnl;exact hnl) hk2
   have hl1lt:∀i∈l1,i<ops.size:=fun i hi=>hlt i (by rw [e];simp [hi]);have hl2lt:∀i∈l2,i<ops.size:=fun i hi=>hlt i (by rw [e];simp [hi]);have hdm:∀i,i∉ops.toList.filterMap (·.dst)→∀d,o.dst=some d→d≠i:=fun i hni d hd' e'=>hni (by subst e';rw [mem_filterMap];exact ⟨o,mem_of_getElem? (i:=m0) (by rw [getElem?_toList];exact ho),hd'⟩)
   rw [e,append_assoc];refine CT hrec hpc ops S _ Q n ro (m0::l2++rest) l1 hk3 hr fun env1 h1 κ1 a1 w1 k1 k2 k3 k4 k5 k6 => ?_;simp only [cons_append,wpOpsIn,ho];have hpd:∀val,(a1.put o.dst val).defers=a1.defers:=fun val=>by cases o.dst<;>rfl
   rcases Gn k1 k2 with ⟨hw,hk4⟩|⟨hw,hk4⟩
   ·simp only [hw,if_true];refine Ia hrec hpc o hk4 k2 _ Q n ro fun v h' κ' val w' g1 g2 g3 g4 g5 => ?_;obtain ⟨_,g1,_⟩:=Db g1;refine CT hrec hpc ops S _ Q n ro rest l2 g1 (ET k2 g3 g4 g2 o hd) fun env2 h2 κ2 a2 w2 j1 j2 j3 j4 j5 j6 => ?_;refine hcont env2 h2 κ2 a2 w2 j1 j2 ((k3.trans g4).trans j3) (fun i hni => ?_) ((j5.trans (hpd _)).trans k5);exact (j4 i (hsub l2 hl2lt i hni)).trans ((CN fun d hd'=>hdm i hni d hd').trans (k4 i (hsub l1 hl1lt i hni)))
   ·simp only [hw,false_eq_true,if_false];simp only [AE] at hk4;obtain ⟨_,hk4⟩:=AH hk4;refine ⟨fun _ _=>trivial,?_⟩;refine CT hrec hpc ops S _ Q n ro rest l2 hk4 (ET k2 k2.heap (Ext.refl _ _ _) (.tuple _ _ rfl fun j x hx=>by simp at hx) o hd) fun env2 h2 κ2 a2 w2 j1 j2 j3 j4 j5 j6 => ?_;refine hcont env2 h2 κ2 a2 w2 j1 j2 (k3.trans j3) (fun i hni => ?_) ((j5.trans (hpd _)).trans k5);exact (j4 i (hsub l2 hl2lt i hni)).trans ((CN fun d hd'=>hdm i hni d hd').trans (k4 i (hsub l1 hl1lt i hni)))
  ·cases hk
 ·rename_i hmc;simp only [AE] at hk;obtain ⟨hso,hk1⟩:=AH hk;generalize looks C.P ops (nf3 C ops (AQ ops) lo hi none) hi env h=S at hk1;have hfil:lp.filter (fun i=>decide (lo≤i))=lp:=filter_eq_self.2 fun x hx=>by simpa using ((hlpm x).1 hx).1
  have hrun:∀s:Env×Heap,lp.foldlM (fun s i=>Ao C rec pc N ops S (nf3 C ops (AQ ops) lo hi none) i s) s=((List.range hi).filter fun i=>decide (lo≤i)).foldlM (fun s i=>Ao C rec pc N ops S (nf3 C ops (AQ ops) lo hi none) i s) s:=fun s=>by have:=Ie (fun i s=>Ao C rec pc N ops S (nf3 C ops (AQ ops) lo hi none) i s) (fun i=>decide (lo≤i)) lo hi lp hlpn hlpm hlo (fun i h=>by simpa using h) (hopen.imp_of_mem fun {x y} hx hy h hlt px py s=>hcom none S hso x y ((hlpm x).1 hx).2 ((hlpm y).1 hy).1 hlt (h hlt) s) s;rw [hfil] at this;exact this
  have hk2:Bd C rec pc N ops S (nf3 C ops (AQ ops) lo hi none) lp env h K=some r:=by rw [A4] at hk1 ⊢;rw [hrun];exact hk1
  refine CT hrec hpc ops S _ Q n ro rest lp hk2 hr fun env1 h1 κ1 a1 w1 k1 k2 k3 k4 k5 k6 => ?_;exact hcont env1 h1 κ1 a1 w1 k1 k2 k3 (fun i hni=>k4 i (hsub lp hlt i hni)) k5
theorem No (k:Nat):∀(l:List Nat),(l.Pairwise fun x y=>¬(k≤x∧y<k))→l=(l.filter fun i=>decide (i<k))++l.filter fun i => !decide (i<k)
 |[],_=>rfl
 |x::l,h=>by
  obtain ⟨h1,h2⟩:=pairwise_cons.1 h;by_cases hx:x<k
  ·rw [filter_cons_of_pos (by simpa using hx),filter_cons_of_neg (by simpa using hx),cons_append,← No k l h2]
  ·have e:l.filter (fun i=>decide (i<k))=[]:=by rw [List.filter_eq_nil_iff];intro y hy;have:=h1 y hy;simp only [decide_eq_true_eq];omega
   have e2:l.filter (fun i => !decide (i<k))=l:=filter_eq_self.2 fun y hy=>by have:=h1 y hy;simp;omega
   rw [filter_cons_of_neg (by simpa using hx),filter_cons_of_pos (by simpa using hx),e,e2,nil_append]
theorem SK {C:Cfg} {rec:Rec} {pc:BE} (hrec:DY C.P rec) (hpc:B3 C.P pc) {ops:Array Oper} {K:Env→Heap→Option R} {r:R} {m:Nat} (hff:DR (AQ ops) ops.size m=true) (hle:m≤ops.size) (Q:Exit→Act→World→Prop) (n:Nat) (ro:Option Nat) :
  ∀(ks:List Nat) (lo:Nat) (l:List Nat) {env:Env} {h:Heap} {κ:A0} {a:Act} {w:World},Jx (AQ ops) ops.size m ks lo=true→l.Nodup→(∀i,i∈l↔lo≤i∧i<ops.size)→
   (∀l1 x l2,l=l1++x::l2→∀y,lo≤y→((AQ ops).getD x 0).testBit y=true→y∈l1)→
   NC C rec pc N ops (AQ ops) ks lo env h K=some r→Rel B N κ env h a w→
   (∀env1 h1 κ1 a1 w1,K env1 h1=some r→Rel B N κ1 env1 h1 a1 w1→Ext κ h w κ1 h1 w1→(∀i,i∉ops.toList.filterMap (·.dst)→env1 i=env i)→a1.defers=a.defers→wpOpsIn (Fr ro) n C.P ops Q (List.range' m (ops.size-m)) a1 w1)→
   wpOpsIn (Fr ro) n C.P ops Q l a w
 |[],lo,l,env,h,κ,a,w,hc,hn,hm,hord,hk,hr,hcont=>by
  unfold Jx at hc;have hlo:lo=m:=by simpa using hc
  subst hlo;have hmem:∀i,i∈List.range lo++l↔i<lo+(ops.size-lo):=fun i=>by rw [mem_append,mem_range,hm];omega
  have hnd:(List.range lo++l).Nodup:=by rw [nodup_append];refine ⟨List.nodup_range,hn,fun x hx y hy h => ?_⟩;have:=mem_range.1 hx;have:=(hm y).1 hy;omega
  obtain ⟨lp,hL,hlpn,hlpm⟩:=FA (n:=lo) (ops.size-lo) (List.range lo++l) hnd hmem (fun l1 x l2 e hx y hy=>by
   have hxs:x<ops.size:=by have:=(hmem x).1 (by rw [e];simp);omega
   have hxl:x∈l:=by
    have:x∈List.range lo++l:=by rw [e];simp
    rcases mem_append.1 this with h|h
    ·have:=mem_range.1 h;omega
    ·exact h
   obtain ⟨b1,b2,eb⟩:=append_of_mem hxl;have e3:List.range lo++l=(List.range lo++b1)++x::b2:=by rw [eb,append_assoc]
   have e4:l1=List.range lo++b1:=by
    have hnx:∀{u1 u2 v1 v2:List Nat},(u1++x::u2).Nodup→u1++x::u2=v1++x::v2→u1=v1:=by
     intro u1
     induction u1 with
     |nil=>
      intro u2 v1 v2 hn he;cases v1 with
      |nil=>rfl
      |cons z v1=>
       simp only [nil_append,cons_append,List.cons.injEq] at he;obtain ⟨h1,h2⟩:=he;simp only [nil_append,nodup_cons] at hn;exact absurd (by rw [h2];simp) hn.1
     |cons z u1 ih=>
      intro u2 v1 v2 hn he;cases v1 with
      |nil=>
       simp only [nil_append,cons_append,List.cons.injEq] at he;obtain ⟨h1,h2⟩:=he;simp only [cons_append,nodup_cons] at hn;exact absurd (by rw [h1];simp) hn.1
      |cons z' v1=>
       simp only [cons_append,List.cons.injEq] at he;obtain ⟨h1,h2⟩:=he;simp only [cons_append,nodup_cons] at hn;rw [h1,ih hn.2 h2]
    rw [e] at hnd e3;exact hnx hnd e3
   rw [e4];by_cases hyl:y<lo
   ·exact mem_append.2 (.inl (mem_range.2 hyl))
   ·have h1:=(all_eq_true.1 hff) x (mem_range.2 hxs);have h2:(AQ ops).getD x 0=2 ^ x-1:=by simp only [or_eq_true,decide_eq_true_eq,beq_iff_eq] at h1;exact h1.resolve_left (by omega)
    refine mem_append.2 (.inr (hord b1 x b2 eb y (by omega) ?_));rw [h2,Nat.testBit_two_pow_sub_one];simpa using hy)
  have hlen:lp.length=(List.range lo).length:=by
   have h1:=congrArg length hL;have h2:l.length=ops.size-lo:=by
    have h3:(List.range lo++l).length=ops.size:=by
     have hp:(List.range lo++l).Perm (List.range ops.size):=by refine (List.perm_ext_iff_of_nodup hnd List.nodup_range).2 fun i => ?_;rw [hmem,mem_range];omega
     rw [hp.length_eq,length_range]
    simp only [length_append,length_range] at h3;omega
   simp only [length_append,length_range,List.length_range'] at h1 ⊢;omega
  have hl:l=List.range' lo (ops.size-lo):=(List.append_inj hL hlen.symm).2;rw [hl];unfold NC at hk;exact hcont env h κ a w hk hr (Ext.refl _ _ _) (fun _ _=>rfl) rfl
 |k::ks,lo,l,env,h,κ,a,w,hc,hn,hm,hord,hk,hr,hcont=>by
  unfold Jx at hc;simp only [and_eq_true,decide_eq_true_eq] at hc;obtain ⟨⟨hlk,hkm⟩,hcut,hc⟩:=hc;have hbit:∀x,k≤x→x<ops.size→∀y,y<k→((AQ ops).getD x 0).testBit y=true:=fun x hx hxs y hy=>by unfold cutAt at hcut;have:=(all_eq_true.1 hcut) x (mem_range.2 hxs);simp only [or_eq_true,decide_eq_true_eq] at this;exact (all_eq_true.1 (this.resolve_left (by omega))) y (mem_range.2 hy)
  have hpw:l.Pairwise fun x y=>¬(k≤x∧y<k):=Pe l fun l1 x l2 y e hy hh=>by have hx:=(hm x).1 (by rw [e];simp);have hyl:=(hm y).1 (by rw [e];simp [hy]);have hy1:=hord l1 x l2 e y hyl.1 (hbit x hh.1 hx.2 y hh.2);rw [e,nodup_append] at hn;exact hn.2.2 y hy1 y (by simp [hy]) rfl
  have hsplit:=No k l hpw;generalize hlp:(l.filter fun i=>decide (i<k))=lp at hsplit;generalize hlr:(l.filter fun i => !decide (i<k))=lr at hsplit;have hlpm:∀i,i∈lp↔lo≤i∧i<k:=fun i=>by rw [← hlp,mem_filter,hm,decide_eq_true_eq];omega
  have hlrm:∀i,i∈lr↔k≤i∧i<ops.size:=fun i=>by rw [← hlr,mem_filter,hm];simp;omega
  have hnn:=hn;rw [hsplit,nodup_append] at hnn;rw [hsplit];unfold NC at hk;refine seg_ok hrec hpc (by omega) (by omega) lp hnn.1 hlpm (Pe lp fun l1 x l2 y e hy hlt2 hb => ?_) hk hr Q n ro lr fun env1 h1 κ1 a1 w1 k1 k2 k3 k4 k5 => ?_
  ·have hyl:=(hlpm y).1 (by rw [e];simp [hy]);have hy1:=hord l1 x (l2++lr) (by rw [hsplit,e];simp) y hyl.1 hb;have:=hnn.1;rw [e,nodup_append] at this;exact this.2.2 y hy1 y (by simp [hy]) rfl
  ·refine SK hrec hpc hff hle Q n ro ks k lr hc hnn.2.1 hlrm (fun l1 x l2 e y hy hb => ?_) k1 k2 fun env2 h2 κ2 a2 w2 j1 j2 j3 j4 j5=>hcont env2 h2 κ2 a2 w2 j1 j2 (k3.trans j3) (fun i hi=>(j4 i hi).trans (k4 i hi)) (j5.trans k5);have hy1:=hord (lp++l1) x l2 (by rw [hsplit,e,append_assoc]) y (by omega) hb;rcases mem_append.1 hy1 with h|h
   ·have:=(hlpm y).1 h;omega
   ·exact h
theorem Lb {C:Cfg} {rec:Rec} {pc:BE} (hrec:DY C.P rec) (hpc:B3 C.P pc) (hmix:C.P.follows .mixedOrders=true) {id:Nat} {ops:Array Oper} {K:Env→Heap→Option R} {r:R} {m:Nat} {ks:List Nat}
  (hcs:Jx (AQ ops) ops.size m ks 0=true) (hff:DR (AQ ops) ops.size m=true) (hed:F6 ops=true) (hle:m≤ops.size)
  (hk1:NC C rec pc N ops (AQ ops) ks 0 env h (fun env' h'=>Dh C rec pc N false ops (ops.toList.drop m) env' h' K)=some r)
  (hr:Rel B N κ env h a w) (Q:Exit→Act→World→Prop) (n:Nat) (ro:Option Nat)
  (hn:JQ B N κ h w false ops.toList env a K r fun a' w'=>Q .normal a' w'):(Code.region id ops true).wpIn (Fr ro) n C.P Q a w:=by
 refine wpIn_region_draw fun t => ?_;have hsch:Region.schedule (C.P.follows .mixedOrders) ops t=Region.linearise .any ops t:=by simp only [Region.schedule,hmix,Bool.true_or,if_true]
 rw [hsch];obtain ⟨p1,p2,p3,p4⟩:=GR hed (EL ops t) (fun i hi=>by cases hi);have hx0:=Gs hr.heap;refine SK hrec hpc hff hle Q n ro ks 0 (Region.linearise .any ops t) hcs p1 (fun i => ?_) (fun l1 x l2 e y _ hb=>(p4 l1 x l2 e y hb).resolve_left (by simp)) hk1 (Io hr) fun env1 h1 κ1 a1 w1 k1 k2 k3 k4 k5 => ?_
 ·constructor
  ·intro hi;exact ⟨zero_le _,(p2 i hi).2⟩
  ·intro hi;exact (p3 i hi.2).resolve_left (by simp)
 ·have:=HX hrec hpc ops Q n ro [] (ops.toList.drop m) (List.range' m (ops.size-m)) (by simp) (fun j i o hj ho=>by
   have hjl:j<ops.size-m:=by simpa using AT hj
   rw [List.getElem?_range' hjl] at hj;cases hj;rw [getElem?_drop] at ho;simpa using ho) k1 k2 (fun env2 h2 κ2 a2 w2 j1 j2 j3 j4 j5 j6=>by
    refine hn env2 h2 κ2 a2 w2 j1 j2 ((hx0.trans k3).trans j3) (fun i hni => ?_) (j5.trans k5) (fun e=>by cases e);have hsub1:i∉(ops.toList.drop m).filterMap (·.dst):=fun hm=>hni (by rw [mem_filterMap] at hm ⊢;obtain ⟨o,ho,hd⟩:=hm;exact ⟨o,mem_of_mem_drop ho,hd⟩)
    exact (j4 i hsub1).trans (k4 i hni))
  simpa using this
theorem NI {C:Cfg} {rec:Rec} {pc:BE} (hrec:DY C.P rec) (hpc:B3 C.P pc) (hmix:C.P.follows .mixedOrders=true) {id:Nat} {ops:Array Oper} {draw:Bool} {K:Env→Heap→Option R} {r:R}
  (hk:Kj C rec pc N ops draw env h K=some r) (hr:Rel B N κ env h a w) (Q:Exit→Act→World→Prop) (n:Nat) (ro:Option Nat)
  (hn:JQ B N κ h w false ops.toList env a K r fun a' w'=>Q .normal a' w'):(Code.region id ops draw).wpIn (Fr ro) n C.P Q a w:=by
 unfold Kj at hk
 try simp only [AE] at hk
 cases draw with
 |false=>
  simp only [false_eq_true,if_false] at hk;refine wpIn_region ?_;have:=HX hrec hpc ops Q n ro [] ops.toList (List.range ops.size) (by simp) (fun j i o hj ho=>by
   have hjl:j<ops.size:=by simpa using AT hj
   rw [getElem?_range hjl] at hj;cases hj;simpa using ho) hk hr hn
  simpa using this
 |true=>
  simp only [if_true] at hk;split at hk
  ·rename_i i0 j0 heq0;obtain ⟨⟨hp,hff,hed,hle⟩,hk1⟩:=AH hk;obtain ⟨hA,hB⟩:=HW hk1;exact Lc hrec hpc hmix hp hff hed hle hA hB hr Q n ro hn
  split at hk
  ·rename_i heqm;obtain ⟨⟨hcs,hff,hed,hle⟩,hk1⟩:=AH hk;exact Lb hrec hpc hmix hcs hff hed hle hk1 hr Q n ro hn
  obtain ⟨⟨hdo,hff,hed,hle⟩,hk1⟩:=AH hk;clear hk;refine wpIn_region_draw fun t => ?_;have hsch:Region.schedule (C.P.follows .mixedOrders) ops t=Region.linearise .any ops t:=by simp only [Region.schedule,hmix,Bool.true_or,if_true]
  rw [hsch];generalize Nk (AQ ops) ops.size=m at *;generalize hS:looks C.P ops (An C ops (AQ ops) m) m env h=S at *;clear hS;obtain ⟨p1,p2,p3,p4⟩:=GR hed (EL ops t) (fun i hi=>by cases hi);obtain ⟨lp,hL,hlpn,hlpm⟩:=FA (n:=m) (ops.size-m) (Region.linearise .any ops t) p1 (fun i=>by
   constructor
   ·intro hi;have:=(p2 i hi).2;omega
   ·intro hi;exact (p3 i (by omega)).resolve_left (by simp)) (fun l1 x l2 e hx y hy=>by
    have hxs:x<ops.size:=(p2 x (by rw [e];simp)).2;have h1:=(all_eq_true.1 hff) x (mem_range.2 hxs);have h2:(AQ ops).getD x 0=2 ^ x-1:=by simp only [or_eq_true,decide_eq_true_eq,beq_iff_eq] at h1;exact h1.resolve_left (by omega)
    refine (p4 l1 x l2 e y ?_).resolve_left (by simp);rw [h2,Nat.testBit_two_pow_sub_one];simpa using hy)
  rw [hL];let g:Nat→Oper:=fun i=>ops.getD i default;have hlt:∀i∈lp,i<ops.size:=fun i hi=>by have:=(hlpm i).1 hi;omega
  have hpair:∀x y,x<m→y<x→¬((AQ ops).getD x 0).testBit y=true→
    (BF C ops y&&BF C ops x)=false∧(∀d,(g y).dst=some d→d∉(g x).looksAt ops)∧(∀d,(g y).dst=some d→(g x).dst≠some d)∧(∀d,(g x).dst=some d→d∉(g y).looksAt ops)∧
    (BF C ops x=true→An C ops (AQ ops) m y=true)∧(BF C ops y=true→An C ops (AQ ops) m x=true):=fun x y hx hlt2 h2=>by
   have h1:=(all_eq_true.1 ((all_eq_true.1 hdo) x (mem_range.2 hx))) y (mem_range.2 hlt2);have ex:=Ar (show x<ops.size by omega);have ey:=Ar (show y<ops.size by omega);rw [ex,ey] at h1;simp only [or_eq_true,and_eq_true,not_eq_true'] at h1;obtain ⟨hnl,hap⟩:=h1.resolve_left h2;obtain ⟨q1,q2,q3⟩:=Oper.apart_spec hap;have hun:DZ (AQ ops) x y=true:=by unfold DZ;rw [if_neg (by omega)];simpa using h2
   have hun':DZ (AQ ops) y x=true:=by unfold DZ;rw [if_pos hlt2];simpa using h2
   refine ⟨hnl,q1,q2,q3,fun hlx => ?_,fun hly => ?_⟩
   ·unfold An;refine any_eq_true.2 ⟨x,mem_range.2 hx,?_⟩;simp only [and_eq_true,bne_iff_ne];exact ⟨⟨hlx,by omega⟩,hun'⟩
   ·unfold An;refine any_eq_true.2 ⟨y,mem_range.2 (by omega),?_⟩;simp only [and_eq_true,bne_iff_ne];exact ⟨⟨hly,by omega⟩,hun⟩
  have hopen:lp.Pairwise fun x y=>y<x→¬((AQ ops).getD x 0).testBit y=true:=Pe lp fun l1 x l2 y e hy hlt2 hb=>by have:=(p4 l1 x (l2++List.range' m (ops.size-m)) (by rw [hL,e];simp) y hb).resolve_left (by simp);rw [e,nodup_append] at hlpn;exact hlpn.2.2 y this y (by simp [hy]) rfl
  have hcom:∀x y,x<m→y<x→¬((AQ ops).getD x 0).testBit y=true→∀s:Env×Heap,(Ao C rec pc N ops S (An C ops (AQ ops) m) x s).bind (Ao C rec pc N ops S (An C ops (AQ ops) m) y)=(Ao C rec pc N ops S (An C ops (AQ ops) m) y s).bind (Ao C rec pc N ops S (An C ops (AQ ops) m) x):=fun x y hx hlt2 h2 s=>by
   obtain ⟨hnl,q1,q2,q3,n1,n2⟩:=hpair x y hx hlt2 h2;have ex:=Ar (show x<ops.size by omega);have ey:=Ar (show y<ops.size by omega);have lx:BF C ops x=(Af C (g x).op||CH C (g x).op):=by unfold BF;rw [ex]
   have ly:BF C ops y=(Af C (g y).op||CH C (g y).op):=by unfold BF;rw [ey]
   cases hlx:Af C (g x).op with
   |true=>
    have hlx':BF C ops x=true:=by rw [lx,hlx];rfl
    have hly:Af C (g y).op=false:=by rw [hlx',Bool.and_true,ly,or_eq_false_iff] at hnl;exact hnl.1
    exact DV C rec pc N ops S _ ex ey q3 (fun d hd hd2=>q2 d hd2 hd) q1 hlx hly (n1 hlx') s
   |false=>
    cases hly:Af C (g y).op with
    |true=>exact (DV C rec pc N ops S _ ey ex q1 q2 q3 hly hlx (n2 (by rw [ly,hly];rfl)) s).symm
    |false=>exact (F1 C rec pc N ops S _ ey ex q1 q2 q3 hly hlx s).symm
  have hsub:∀(l:List Nat),(∀i∈l,i<ops.size)→∀i,i∉ops.toList.filterMap (·.dst)→i∉(l.map g).filterMap (·.dst):=fun l hl i hni hm=>hni (by rw [mem_filterMap] at hm ⊢;obtain ⟨o,ho,hd⟩:=hm;obtain ⟨x,hx,rfl⟩:=mem_map.1 ho;refine ⟨g x,?_,hd⟩;have:=Ar (hl x hx);exact mem_of_getElem? (i:=x) (by rw [getElem?_toList];exact this))
  have hrest:∀env1 h1 κ1 a1 w1,Dh C rec pc N false ops (ops.toList.drop m) env1 h1 K=some r→Rel B N κ1 env1 h1 a1 w1→Ext κ h w κ1 h1 w1→(∀i,i∉ops.toList.filterMap (·.dst)→env1 i=env i)→a1.defers=a.defers→
    wpOpsIn (Fr ro) n C.P ops Q (List.range' m (ops.size-m)) a1 w1:=fun env1 h1 κ1 a1 w1 k1 k2 k3 k4 k5=>by
   have:=HX hrec hpc ops Q n ro [] (ops.toList.drop m) (List.range' m (ops.size-m)) (by simp) (fun j i o hj ho=>by
    have hjl:j<ops.size-m:=by simpa using AT hj
    rw [List.getElem?_range' hjl] at hj;cases hj;rw [getElem?_drop] at ho;simpa using ho) k1 k2 (fun env2 h2 κ2 a2 w2 j1 j2 j3 j4 j5 j6=>by
     refine hn env2 h2 κ2 a2 w2 j1 j2 (k3.trans j3) (fun i hni => ?_) (j5.trans k5) (fun e=>by cases e);have hsub1:i∉(ops.toList.drop m).filterMap (·.dst):=fun hm=>hni (by rw [mem_filterMap] at hm ⊢;obtain ⟨o,ho,hd⟩:=hm;exact ⟨o,mem_of_mem_drop ho,hd⟩)
     exact (j4 i hsub1).trans (k4 i hni))
   simpa using this
  have hx0:=Gs hr.heap;split at hk1
  ·
   rename_i m0 o heq;have hsel:m=m0+1∧ops[m0]? = some o∧CH C o.op=true:=by
    split at heq
    ·rename_i k;split at heq
     ·rename_i o' ho';split at heq
      ·cases heq;exact ⟨rfl,ho',by assumption⟩
      ·cases heq
     ·cases heq
    ·cases heq
   obtain ⟨hm0,ho,hhc⟩:=hsel;have hgo:g m0=o:=by have h1:=Ar (show m0<ops.size by omega);rw [ho] at h1;exact (Option.some.inj h1).symm
   obtain ⟨l1,l2,e⟩:=append_of_mem ((hlpm m0).2 (by omega));have hn':=hlpn;rw [e,nodup_append,nodup_cons] at hn';obtain ⟨n1,⟨n2,n3⟩,n4⟩:=hn';have hm2:∀i,i∈l1++l2↔i<m0:=fun i=>by
    constructor
    ·intro hi;have h5:=(hlpm i).1 (by rw [e];simp only [mem_append,mem_cons];rcases mem_append.1 hi with h|h;exact .inl h;exact .inr (.inr h));have h6:i≠m0:=fun h=>by
      subst h;rcases mem_append.1 hi with h|h
      ·exact n4 i h i (by simp) rfl
      ·exact n2 h
     omega
    ·intro hi;have h5:=(hlpm i).2 (by omega);rw [e] at h5;simp only [mem_append,mem_cons] at h5 ⊢;rcases h5 with h5|h5|h5
     ·exact .inl h5
     ·omega
     ·exact .inr h5
   have hpw:(l1++l2).Pairwise fun x y=>y<x→¬((AQ ops).getD x 0).testBit y=true:=by refine hopen.sublist ?_;rw [e];exact List.Sublist.append (List.Sublist.refl _) (List.sublist_cons_self _ _)
   have hrun:∀s:Env×Heap,(l1++l2).foldlM (fun s i=>Ao C rec pc N ops S (An C ops (AQ ops) m) i s) s=(List.range m0).foldlM (fun s i=>Ao C rec pc N ops S (An C ops (AQ ops) m) i s) s:=fun s=>
    FR (fun i s=>Ao C rec pc N ops S (An C ops (AQ ops) m) i s) m0 (l1++l2) (nodup_append.2 ⟨n1,n3,fun a ha b hb=>n4 a ha b (by simp [hb])⟩) hm2 (fun b1 x b2 y e2 hy hlt2 s=>
     hcom x y (by have:=(hm2 x).1 (by rw [e2];simp);omega) hlt2 (Gc hpw e2 hy hlt2) s) s
   have hk2:Bd C rec pc N ops S (An C ops (AQ ops) m) (l1++l2) env h (fun env' h'=>Pr C rec pc N S o env' h' fun env' h'=>Dh C rec pc N false ops (ops.toList.drop m) env' h' K)=some r:=by rw [A4] at hk1 ⊢;rw [hrun];exact hk1
   have hl2:∀y∈l2,y<m0:=fun y hy=>(hm2 y).1 (by simp [hy]);obtain ⟨hd,hg,hk3⟩:=Tl (fun _ _ _ K1 hE=>Rz C rec pc hhc hE K1) (fun y hy=>by
    have hym:=hl2 y hy;have hno:=Gc hopen e hy hym;obtain ⟨hnl,q1,q2,q3,f1,f2⟩:=hpair m0 y (by omega) hym hno;have hlm:BF C ops m0=true:=by unfold BF;rw [ho];simp [hhc]
    have ey:=Ar (show y<ops.size by omega);rw [hgo] at q1 q2 q3;refine ⟨g y,ey,?_,f1 hlm,q3,fun d hd hd2=>q2 d hd2 hd,q1⟩;rw [hlm,Bool.and_true] at hnl;unfold BF at hnl;rw [ey] at hnl;rw [or_eq_false_iff] at hnl;exact hnl.1) hk2
   have hl1lt:∀i∈l1,i<ops.size:=fun i hi=>hlt i (by rw [e];simp [hi]);have hl2lt:∀i∈l2,i<ops.size:=fun i hi=>hlt i (by rw [e];simp [hi]);rw [e,append_assoc];refine CT hrec hpc ops S _ Q n ro (m0::l2++List.range' m (ops.size-m)) l1 hk3 (Io hr) fun env1 h1 κ1 a1 w1 k1 k2 k3 k4 k5 k6 => ?_;simp only [cons_append,wpOpsIn,ho];have hgk:FO ops o env1 (fun env1=>Ae C rec pc false env1 h1 o.op fun v h'=>cnd (S.all (sameAt h1 h')=true) (Bd C rec pc N ops S (An C ops (AQ ops) m) l2 (env1.put o.dst v) h' fun env' h'=>Dh C rec pc N false ops (ops.toList.drop m) env' h' K) none) (fun _=>none)=some r:=by unfold FO;rw [hg];exact k1
   rcases Gn hgk k2 with ⟨hw,hk4⟩|⟨hw,hk4⟩
   ·simp only [hw,if_true];refine Ia hrec hpc o hk4 k2 _ Q n ro fun v h' κ' val w' g1 g2 g3 g4 g5 => ?_;simp only [AE] at g1;obtain ⟨_,g1⟩:=AH g1;refine CT hrec hpc ops S _ Q n ro (List.range' m (ops.size-m)) l2 g1 (ET k2 g3 g4 g2 o hd) fun env2 h2 κ2 a2 w2 j1 j2 j3 j4 j5 j6 => ?_;have hpd:∀val,(a1.put o.dst val).defers=a1.defers:=fun val=>by cases o.dst<;>rfl
    refine hrest env2 h2 κ2 a2 w2 j1 j2 (((hx0.trans k3).trans g4).trans j3) (fun i hni => ?_) ((j5.trans (hpd _)).trans k5);refine (j4 i (hsub l2 hl2lt i hni)).trans (Eq.trans ?_ (k4 i (hsub l1 hl1lt i hni)));refine CN fun d hd' e'=>hni ?_;subst e';rw [mem_filterMap];exact ⟨o,mem_of_getElem? (i:=m0) (by rw [getElem?_toList];exact ho),hd'⟩
   ·cases hk4
  ·have hrun:∀s:Env×Heap,lp.foldlM (fun s i=>Ao C rec pc N ops S (An C ops (AQ ops) m) i s) s=(List.range m).foldlM (fun s i=>Ao C rec pc N ops S (An C ops (AQ ops) m) i s) s:=fun s=>
    FR (fun i s=>Ao C rec pc N ops S (An C ops (AQ ops) m) i s) m lp hlpn hlpm (fun b1 x b2 y e2 hy hlt2 s=>
     hcom x y ((hlpm x).1 (by rw [e2];simp)) hlt2 (Gc hopen e2 hy hlt2) s) s
   have hk2:Bd C rec pc N ops S (An C ops (AQ ops) m) lp env h (fun env' h'=>Dh C rec pc N false ops (ops.toList.drop m) env' h' K)=some r:=by rw [A4] at hk1 ⊢;rw [hrun];exact hk1
   refine CT hrec hpc ops S _ Q n ro (List.range' m (ops.size-m)) lp hk2 (Io hr) fun env1 h1 κ1 a1 w1 k1 k2 k3 k4 k5 k6 => ?_;exact hrest env1 h1 κ1 a1 w1 k1 k2 (hx0.trans k3) (fun i hni=>k4 i (hsub lp hlt i hni)) k5
end Ab
namespace Ab
open Go
variable {R:Type} {P:Program} {B:Nat→Prop} {κ:A0} {h:Heap} {w:World} {N:Nat} {env:Env} {a:Act} {ro:Option Nat} {base:Nat}
def mark (r:Nat):Deferred:={target :=.collected r,args := #[]}
def Marks (base:Nat) (κ:A0) (h:Heap) (w:World) (ds:List Deferred):Prop:=
 ∃rs:List Nat,ds=rs.map mark∧rs.Nodup∧∀r∈rs,base≤r∧w.heap[r]? = some (.deferred (some []))∧¬Ex κ h r
def JP (ro:Option Nat) (κ:A0) (h:Heap):Prop:=∀b,ro=some b→∃(i d:Nat) (l:Cn),κ[i]? = some (some (b,d))∧h[i]? = some (.loop l)
structure St (B:Nat→Prop) (N:Nat) (ro:Option Nat) (base:Nat) (κ:A0) (env:Env) (h:Heap) (a:Act) (w:World):Prop where
 rel:Rel B N κ env h a w
 marks:Marks base κ h w a.defers
 round:JP ro κ h
 bsz:base≤w.heap.size
theorem Marks.ext {κ':A0} {h':Heap} {w':World} (x:Ext κ h w κ' h' w') {ds:List Deferred} (hm:Marks base κ h w ds):Marks base κ' h' w' ds:=by
 obtain ⟨rs,h1,h2,h3⟩:=hm;refine ⟨rs,h1,h2,fun r hr => ?_⟩;obtain ⟨h4,h5,h6⟩:=h3 r hr;have hlt:=C1 h5;refine ⟨h4,(x.keep r hlt h6).trans h5,fun he => ?_⟩;rcases x.ex r he with y|y
 ·exact h6 y
 ·omega
theorem JP.ext {κ':A0} {h':Heap} {w':World} (x:Ext κ h w κ' h' w') (hm:JP ro κ h):JP ro κ' h':=by
 intro b hb;obtain ⟨i,d,l,h1,h2⟩:=hm b hb;obtain ⟨o',h3,h4⟩:=x.obj i _ h2;have hk:=h4.1;cases o' with
 |loop l'=>exact ⟨i,d,l',(x.kap i _ _ h2 h3 rfl).trans h1,h3⟩
 |box cs=>simp [AF.kind] at hk
 |row a b c d=>simp [AF.kind] at hk
 |mapo a b c=>simp [AF.kind] at hk
theorem St.next (hs:St B N ro base κ env h a w) {κ':A0} {env':Env} {h':Heap} {a':Act} {w':World} (hr:Rel B N κ' env' h' a' w') (x:Ext κ h w κ' h' w') (hd:a'.defers=a.defers):St B N ro base κ' env' h' a' w':=
 ⟨hr,by rw [hd];exact hs.marks.ext x,hs.round.ext x,le_trans hs.bsz x.size⟩
def Hl (B:Nat→Prop) (N:Nat) (ro:Option Nat) (base:Nat) (κ:A0) (env:Env) (h:Heap) (w:World) (W:List Tmp) (K:Exit→Env→Heap→Option R) (r:R) (e:Exit) (a':Act) (w':World):Prop:=
 ∃env' h' κ',K e env' h'=some r∧St B N ro base κ' env' h' a' w'∧Ext κ h w κ' h' w'∧∀i,i∉W→env' i=env i
theorem MG:∀(L:List Tmp) (i:Tmp) (k j:Nat),findIdx i L k=some j→∃m,j=k+m∧L[m]? = some i
 |[],i,k,j,h=>by simp [findIdx] at h
 |x::L,i,k,j,h=>by
  simp only [findIdx] at h;split at h
  ·rename_i e;cases h;exact ⟨0,rfl,by simp [e]⟩
  ·obtain ⟨m,h1,h2⟩:=MG L i (k+1) j h;exact ⟨m+1,by omega,by simpa using h2⟩
theorem SR {tm:Tmp→AV} {env0:Env} {h0:Heap} {κ0:A0} {w0:World} {a0:Act} {L W:List Tmp} {K:List AV→Heap→Option R} {r:R} (hk:GJ tm env0 h0 L env h K=some r) (hs0:Rel B N κ0 env0 h0 a0 w0) (hr:Rel B N κ env h a w) (x:Ext κ0 h0 w0 κ h w)
  (hW:∀i,i∉W→env i=env0 i) :
  ∃s hs,K s hs=some r∧Rel B N (κ.take h0.length) (Ch tm W L env0 s) (Bq h0 0 hs) a w∧Ext κ0 h0 w0 (κ.take h0.length) (Bq h0 0 hs) w∧(∀i,i∉W→Ch tm W L env0 s i=env0 i)∧∀b,Ex (κ.take h0.length) (Bq h0 0 hs) b→Ex κ h b:=by
 unfold GJ at hk
 try simp only [AE] at hk
 obtain ⟨hL,hk1⟩:=AH hk;obtain ⟨hs,hk2,hun,hbe⟩:=S0 hk1 (Nj x);have hLi:∀(m:Nat) (i:Tmp),L[m]? = some i→below 4 h0.length (env i)=true∧LM (S3 tm env0 i) (env i)=true:=fun m i hm=>by have:=D9 hL hm;simpa using this
 have hget:∀(i:Tmp) (k:Nat),findIdx i L 0=some k→Gb (S3 tm env0 i) ((L.map env).getD k .undef)=env i∧below 4 h0.length (env i)=true:=fun i k hf=>by
  obtain ⟨m,rfl,hm⟩:=MG L i 0 k hf;have h1:(L.map env).getD (0+m) .undef=env i:=by simp [List.getD,hm]
  rw [h1];exact ⟨Pc (hLi m i hm).2,(hLi m i hm).1⟩
 refine ⟨_,hs,hk2,⟨?_,hr.size,fun i => ?_⟩,?_,fun i hi => ?_,fun b hb => ?_⟩
 ·rw [hun];exact hr.heap.Da hbe
 ·rw [hun];unfold Ch;cases hf:findIdx i L 0 with
  |some k=>
   obtain ⟨h1,h2⟩:=hget i k hf;simp only [h1];exact (hr.slot i).Da (DS 4 h2)
  |none=>
   dsimp only;split
   ·exact .undef _
   ·rename_i hc;have hni:i∉W:=fun hm=>hc (by simpa using hm);rw [← hW i hni];refine (hr.slot i).Da ?_;rw [hW i hni];exact (hs0.slot i).refs
 ·rw [hun];exact x.Da (le_refl _)
 ·unfold Ch;cases hf:findIdx i L 0 with
  |some k=>
   obtain ⟨h1,_⟩:=hget i k hf;simp only [h1];exact hW i hi
  |none=>
   dsimp only;rw [if_neg (by simpa using hi)]
 ·rw [hun] at hb;exact hb.take
theorem Marks.less {κ':A0} {h':Heap} (hx:∀b,Ex κ' h' b→Ex κ h b) {ds:List Deferred} (hm:Marks base κ h w ds):Marks base κ' h' w ds:=by obtain ⟨rs,h1,h2,h3⟩:=hm;exact ⟨rs,h1,h2,fun r hr=>⟨(h3 r hr).1,(h3 r hr).2.1,fun he=>(h3 r hr).2.2 (hx r he)⟩⟩
theorem Iu {tm:Tmp→AV} {env0:Env} {h0:Heap} {κ0:A0} {w0:World} {a0:Act} {L W:List Tmp} {K:List AV→Heap→Option R} {r:R} (hk:GJ tm env0 h0 L env h K=some r) (hs0:St B N ro base κ0 env0 h0 a0 w0) (hr:St B N ro base κ env h a w) (x:Ext κ0 h0 w0 κ h w)
  (hW:∀i,i∉W→env i=env0 i) :
  ∃s hs,K s hs=some r∧St B N ro base (κ.take h0.length) (Ch tm W L env0 s) (Bq h0 0 hs) a w∧Ext κ0 h0 w0 (κ.take h0.length) (Bq h0 0 hs) w∧∀i,i∉W→Ch tm W L env0 s i=env0 i:=by
 obtain ⟨s,hs,k1,k2,k3,k4,k5⟩:=SR hk hs0.rel hr.rel x hW;exact ⟨s,hs,k1,⟨k2,hr.marks.less k5,hs0.round.ext k3,hr.bsz⟩,k3,k4⟩
theorem Dt {hi:Hints} {W:List Tmp}:∀{L:List Tmp} {env:Env} {h:Heap} {κ:A0} {K:Env→Heap→Option R} {r:R},E2 hi L env h K=some r→Rel B N κ env h a w→(∀i∈L,i∈W)→
  ∃env' h' κ',K env' h'=some r∧Rel B N κ' env' h' a w∧Ext κ h w κ' h' w∧∀i,i∉W→env' i=env i
 |[],env,h,κ,K,r,hk,hr,hL=>⟨env,h,κ,hk,hr,Ext.refl _ _ _,fun _ _=>rfl⟩
 |i::L,env,h,κ,K,r,hk,hr,hL=>by
  simp only [E2] at hk;split at hk
  ·rename_i hn;have hh:=hr.heap;have hv:=hr.slot i;rw [hn] at hv;obtain ⟨a0,hval⟩:∃a0,a.tmps.getD i undef = .slice a0 0 0:=by generalize a.tmps.getD i undef=u at hv;cases hv with|nilsl a0=>exact ⟨a0,rfl⟩
   split at hk
   ·have hr1:Rel B N κ (env.put (some i) (.t (.sl (hi.rowsz i) []))) h a w:=by
     refine ⟨hh,hr.size,fun j => ?_⟩;simp only [Env.put];by_cases hj:j=i
     ·rw [if_pos hj,hj,hval];exact .t _ _ (.nil _ _ _)
     ·rw [if_neg hj];exact hr.slot j
    obtain ⟨env',h',κ',k1,k2,k3,k4⟩:=Dt (W:=W) hk hr1 fun j hj=>hL j (by simp [hj]);refine ⟨env',h',κ',k1,k2,k3,fun j hj => ?_⟩;rw [k4 j hj];simp only [Env.put];rw [if_neg fun e=>hj (hL j (by simp [e]))]
   generalize hi.rowsz i=z0 at hk;have x1:Ext κ h w (κ++[none]) (h++[.row false 0 z0 []]) w:=Bb hh rfl rfl rfl (le_refl _) (fun _ _=>rfl) (fun b base e=>by cases e);have hh1:=BK hh (fun _ _=>rfl) x1 (fun b base e=>by cases e) (show GC B (κ++[none]) (h++[.row false 0 z0 []]) w none (.row false 0 z0 []) from rfl);have hr1:Rel B N (κ++[none]) (env.put (some i) (.sref h.length 0 0 0)) (h++[.row false 0 z0 []]) a w:=by
    refine ⟨hh1,hr.size,fun j => ?_⟩;simp only [Env.put];by_cases hj:j=i
    ·rw [if_pos hj,hj,hval];exact Bx (by rw [← hh.len];exact Ag κ _) (Ag h _)
    ·rw [if_neg hj];exact (hr.slot j).ext x1
   obtain ⟨env',h',κ',k1,k2,k3,k4⟩:=Dt (W:=W) hk hr1 fun j hj=>hL j (by simp [hj]);refine ⟨env',h',κ',k1,k2,x1.trans k3,fun j hj => ?_⟩;rw [k4 j hj];simp only [Env.put];rw [if_neg fun e=>hj (hL j (by simp [e]))]
  ·exact Dt hk hr fun j hj=>hL j (by simp [hj])
theorem IG {W L:List Tmp}:∀i∈L.filter (fun i=>W.contains i),i∈W:=fun i hi=>by simpa using (mem_filter.1 hi).2
end Ab
namespace Ab
open Go
variable {R:Type} {B:Nat→Prop} {κ:A0} {h:Heap} {w:World} {N:Nat} {env:Env} {a:Act} {ro:Option Nat} {base:Nat}
theorem Hl.of {W W':List Tmp} {K:Exit→Env→Heap→Option R} {r:R} {e:Exit} {a':Act} {w':World} {κ1:A0} {env1:Env} {h1:Heap} {w1:World} (x:Ext κ h w κ1 h1 w1) (hW:∀i,i∉W→env1 i=env i) (hsub:∀i,i∉W→i∉W')
  (hp:Hl B N ro base κ1 env1 h1 w1 W' K r e a' w'):Hl B N ro base κ env h w W K r e a' w':=by
 obtain ⟨env',h',κ',k1,k2,k3,k4⟩:=hp;exact ⟨env',h',κ',k1,k2,x.trans k3,fun i hi=>(k4 i (hsub i hi)).trans (hW i hi)⟩
def S8 (C:Cfg) (fn:FuncId) (N:Nat) (rec:Rec):Prop:=∀{R:Type} (B:Nat→Prop) (ro:Option Nat) (base n:Nat) (f:Operand) (params:Array Tmp) (assign body:Code) (env:Env) (h:Heap) (K:Exit→Env→Heap→Option R) (r:R) (κ:A0) (a:Act) (w:World),
 (match ev env f with
  | .func (.func g) first captured=>if enters C.P g=false then none else
   rec R (.fn g (first++[.yld h.length]++captured)) (h++[.loop {fn,size:=N,env,params:=params.toList,assign,body,busy:=false,pending:=none,ended:=false,hl:=h.length}]) fun _ h1=>
    (RS h1 h.length).bind fun j=>if (((h1.take h.length).all (Ge h.length))=true) then (match j with
     |none=>K .normal env (h1.take h.length)
     |some c=>(Rc c).bind fun e=>K e env (h1.take h.length)) else none
  |_=>none)=some r→St B N ro base κ env h a w→(Code.rangeFunc f params assign body).wpIn (Fr ro) n C.P (Hl B N ro base κ env h w [] K r) a w
theorem Ml {C:Cfg} {hi:Hints} {fn:FuncId} {rec:Rec} {pc:BE} {fuel:Nat} (hrec:DY C.P rec) (hpc:B3 C.P pc) (hmix:C.P.follows .mixedOrders=true) (hrange:S8 C fn N rec) (n:Nat) :
  ∀(c:Code) {env:Env} {h:Heap} {K:Exit→Env→Heap→Option R} {r:R} {κ:A0} {a:Act} {w:World},Ce C hi fn N rec pc fuel c env h K=some r→St B N ro base κ env h a w→
   c.wpIn (Fr ro) n C.P (Hl B N ro base κ env h w (writes c) K r) a w:=by
 intro c
 induction c with
 |skip=>intro env h K r κ a w hk hs;exact wpIn_skip ⟨env,h,κ,hk,hs,Ext.refl _ _ _,fun _ _=>rfl⟩
 |label l=>intro env h K r κ a w hk hs;exact wpIn_label ⟨env,h,κ,hk,hs,Ext.refl _ _ _,fun _ _=>rfl⟩
 |ret=>intro env h K r κ a w hk hs;exact wpIn_ret ⟨env,h,κ,hk,hs,Ext.refl _ _ _,fun _ _=>rfl⟩
 |exit id=>intro env h K r κ a w hk hs;exact wpIn_exit ⟨env,h,κ,hk,hs,Ext.refl _ _ _,fun _ _=>rfl⟩
 |goto l=>intro env h K r κ a w hk hs;simp [Ce,AE] at hk
 |refuse why=>intro env h K r κ a w hk hs;simp [Ce,AE] at hk
 |scope c _=>intro env h K r κ a w hk hs;simp [Ce,AE] at hk
 |region id ops draw=>
  intro env h K r κ a w hk hs;simp only [Ce,AE] at hk;obtain ⟨hf,xf⟩:=EU ((hi.pre id).map env) hs.rel.heap;have hs0:St B N ro base κ env (AY h ((hi.pre id).map env)) a w:=hs.next ⟨hf,hs.rel.size,fun i=>(hs.rel.slot i).ext xf⟩ xf rfl;split at hk
  ·unfold join at hk;refine NI hrec hpc hmix hk hs0.rel _ n ro fun env' h' κ' a' w' k1 k2 k3 k4 k5 k6 => ?_;obtain ⟨s,hs',k7,k8,k9,k10,_⟩:=SR (W:=dsts ops) k1 hs.rel k2 (xf.trans k3) k4;exact ⟨_,_,_,k7,hs.next k8 k9 k5,k9,k10⟩
  ·refine NI hrec hpc hmix hk hs0.rel _ n ro fun env' h' κ' a' w' k1 k2 k3 k4 k5 k6 => ?_;exact ⟨env',h',κ',k1,hs0.next k2 k3 k5,xf.trans k3,k4⟩
 |seq x y ihx ihy=>
  intro env h K r κ a w hk hs;simp only [Ce,AE] at hk;refine wpIn_seq (wpIn_mono (ihx hk hs) ?_);intro e a' w' hp;obtain ⟨env',h',κ',k1,k2,k3,k4⟩:=hp;cases e with
  |normal=>
   show y.wpIn (Fr ro) n C.P _ a' w';refine wpIn_mono (ihy k1 k2) fun e2 a2 w2 hp2 => ?_;exact Hl.of k3 (fun i hni=>k4 i fun hm=>hni (by simp [writes,hm])) (fun i hni hm=>hni (by simp [writes,hm])) hp2
  |exit id=>exact ⟨env',h',κ',k1,k2,k3,fun i hni=>k4 i fun hm=>hni (by simp [writes,hm])⟩
  |goto l=>exact ⟨env',h',κ',k1,k2,k3,fun i hni=>k4 i fun hm=>hni (by simp [writes,hm])⟩
  |ret=>exact ⟨env',h',κ',k1,k2,k3,fun i hni=>k4 i fun hm=>hni (by simp [writes,hm])⟩
  |panic ch=>exact ⟨env',h',κ',k1,k2,k3,fun i hni=>k4 i fun hm=>hni (by simp [writes,hm])⟩
  |outgrown=>exact ⟨env',h',κ',k1,k2,k3,fun i hni=>k4 i fun hm=>hni (by simp [writes,hm])⟩
 |cond c x y ihx ihy=>
  intro env h K r κ a w hk hs;simp only [Ce,AE] at hk;obtain ⟨t,ht,hk1⟩:=bind_some hk;have hcv:=D0 ht (BA hs.rel c);refine wpIn_cond hcv ?_;split at hk1
  ·cases t with
   |true=>exact wpIn_mono (ihx hk1 hs) fun e a' w' hp=>Hl.of (Ext.refl _ _ _) (fun _ _=>rfl) (fun i hni hm=>hni (by simp [writes,hm])) hp
   |false=>cases hk1
  split at hk1
  ·cases t with
   |true=>cases hk1
   |false=>exact wpIn_mono (ihy hk1 hs) fun e a' w' hp=>Hl.of (Ext.refl _ _ _) (fun _ _=>rfl) (fun i hni hm=>hni (by simp [writes,hm])) hp
  split at hk1
  ·obtain ⟨env1,h1,κ1,k1,k2,k3,k4⟩:=Dt (W:=writes x++writes y) hk1 hs.rel IG;have hs1:St B N ro base κ1 env1 h1 a w:=hs.next k2 k3 rfl;unfold join at k1;have fin:∀(z:Code) (hz:∀i,i∈writes z→i∈writes x++writes y),z.wpIn (Fr ro) n C.P (Hl B N ro base κ1 env1 h1 w (writes z) (fun e env' h'=>match e with
      | .normal=>GJ hi.tm env1 h1 (hi.cond (DK c)) env' h' fun s hs=>K .normal (Ch hi.tm (writes x++writes y) (hi.cond (DK c)) env1 s) (Bq h1 0 hs)
      |e=>K e env' h') r) a w→z.wpIn (Fr ro) n C.P (Hl B N ro base κ env h w (writes (.cond c x y)) K r) a w:=by
    intro z hz hw;refine wpIn_mono hw fun e a' w' hp => ?_;obtain ⟨env',h',κ',j1,j2,j3,j4⟩:=hp;have j4':∀i,i∉writes x++writes y→env' i=env1 i:=fun i hni=>j4 i fun hm=>hni (hz i hm);cases e with
    |normal=>
     obtain ⟨s,hs',k7,k8,k9,k10⟩:=Iu (W:=writes x++writes y) j1 hs1 j2 j3 j4';exact ⟨_,_,_,k7,k8,k3.trans k9,fun i hni=>(k10 i hni).trans (k4 i hni)⟩
    |exit id=>exact ⟨env',h',κ',j1,j2,k3.trans j3,fun i hni=>(j4' i hni).trans (k4 i hni)⟩
    |goto l=>exact ⟨env',h',κ',j1,j2,k3.trans j3,fun i hni=>(j4' i hni).trans (k4 i hni)⟩
    |ret=>exact ⟨env',h',κ',j1,j2,k3.trans j3,fun i hni=>(j4' i hni).trans (k4 i hni)⟩
    |panic ch=>exact ⟨env',h',κ',j1,j2,k3.trans j3,fun i hni=>(j4' i hni).trans (k4 i hni)⟩
    |outgrown=>exact ⟨env',h',κ',j1,j2,k3.trans j3,fun i hni=>(j4' i hni).trans (k4 i hni)⟩
   cases t with
   |true=>exact fin x (fun i hm=>by simp [hm]) (ihx k1 hs1)
   |false=>exact fin y (fun i hm=>by simp [hm]) (ihy k1 hs1)
  ·cases t with
   |true=>exact wpIn_mono (ihx hk1 hs) fun e a' w' hp=>Hl.of (Ext.refl _ _ _) (fun _ _=>rfl) (fun i hni hm=>hni (by simp [writes,hm])) hp
   |false=>exact wpIn_mono (ihy hk1 hs) fun e a' w' hp=>Hl.of (Ext.refl _ _ _) (fun _ _=>rfl) (fun i hni hm=>hni (by simp [writes,hm])) hp
 |block id x ih=>
  intro env h K r κ a w hk hs;simp only [Ce,AE] at hk;refine wpIn_block ?_;generalize (if KT x=true then 1 else 0)=one at hk;split at hk
  ·refine wpIn_mono (ih hk hs) fun e a' w' hp => ?_;obtain ⟨env',h',κ',j1,j2,j3,j4⟩:=hp;cases e with
   |exit id'=>
    simp only [Exit.inBlock];dsimp only at j1;split at j1
    ·rename_i he;rw [if_pos he];exact ⟨env',h',κ',j1,j2,j3,j4⟩
    ·rename_i he;rw [if_neg he];exact ⟨env',h',κ',j1,j2,j3,j4⟩
   |normal=>exact ⟨env',h',κ',j1,j2,j3,j4⟩
   |goto l=>exact ⟨env',h',κ',j1,j2,j3,j4⟩
   |ret=>exact ⟨env',h',κ',j1,j2,j3,j4⟩
   |panic ch=>exact ⟨env',h',κ',j1,j2,j3,j4⟩
   |outgrown=>exact ⟨env',h',κ',j1,j2,j3,j4⟩
  ·obtain ⟨env1,h1,κ1,k1,k2,k3,k4⟩:=Dt (W:=writes x) hk hs.rel IG;have hs1:St B N ro base κ1 env1 h1 a w:=hs.next k2 k3 rfl;unfold join at k1;refine wpIn_mono (ih k1 hs1) fun e a' w' hp => ?_;obtain ⟨env',h',κ',j1,j2,j3,j4⟩:=hp;have k5:∀i,i∉writes x→env' i=env i:=fun i hni=>(j4 i hni).trans (k4 i hni);cases e with
   |exit id'=>
    simp only [Exit.inBlock];dsimp only at j1;split at j1
    ·rename_i he;rw [if_pos he];obtain ⟨s,hs',k7,k8,k9,k10⟩:=Iu (W:=writes x) j1 hs1 j2 j3 j4;exact ⟨_,_,_,k7,k8,k3.trans k9,fun i hni=>(k10 i hni).trans (k4 i hni)⟩
    ·rename_i he;rw [if_neg he];exact ⟨env',h',κ',j1,j2,k3.trans j3,k5⟩
   |normal=>
    obtain ⟨s,hs',k7,k8,k9,k10⟩:=Iu (W:=writes x) j1 hs1 j2 j3 j4;exact ⟨_,_,_,k7,k8,k3.trans k9,fun i hni=>(k10 i hni).trans (k4 i hni)⟩
   |goto l=>exact ⟨env',h',κ',j1,j2,k3.trans j3,k5⟩
   |ret=>exact ⟨env',h',κ',j1,j2,k3.trans j3,k5⟩
   |panic ch=>exact ⟨env',h',κ',j1,j2,k3.trans j3,k5⟩
   |outgrown=>exact ⟨env',h',κ',j1,j2,k3.trans j3,k5⟩
 |loop x ih=>
  intro env h K r κ a w hk hs;simp only [Ce,AE] at hk;obtain ⟨env1,h1,κ1,k1,k2,k3,k4⟩:=Dt (W:=writes x) hk hs.rel IG;have hs1:St B N ro base κ1 env1 h1 a w:=hs.next k2 k3 rfl;obtain ⟨s,hs',k7,k8,k9,k10⟩:=Iu (W:=writes x) k1 hs1 hs1 (Ext.refl _ _ _) (fun _ _=>rfl);refine wpIn_loop_rounds fuel ?_
  revert k7 k8 k9 k10
  generalize κ1.take h1.length=κ2;have key:∀(m:Nat) (s:List AV) (hs':Heap) (κ2:A0) (a2:Act) (w2:World),AI (fun (p:List AV×Heap) again=>Ce C hi fn N rec pc fuel x (Ch hi.tm (writes x) (hi.loop (CR x)) env1 p.1) (Bq h1 0 p.2) fun e env' h'=>match e with
    | .normal=>GJ hi.tm env1 h1 (hi.loop (CR x)) env' h' fun s hs=>again (s,hs)
    |e=>K e env' h') m (s,hs')=some r→St B N ro base κ2 (Ch hi.tm (writes x) (hi.loop (CR x)) env1 s) (Bq h1 0 hs') a2 w2→Ext κ1 h1 w κ2 (Bq h1 0 hs') w2→
    (∀i,i∉writes x→Ch hi.tm (writes x) (hi.loop (CR x)) env1 s i=env1 i)→Code.roundsIn (Fr ro) n C.P x (Hl B N ro base κ env h w (writes x) K r) m a2 w2:=by
   intro m
   induction m with
   |zero=>intro s hs' κ2 a2 w2 q1 q2 q3 q4;simp [AI] at q1
   |succ m ihm=>
    intro s hs' κ2 a2 w2 q1 q2 q3 q4;simp only [AI] at q1;show x.wpIn (Fr ro) n C.P (Exit.then (Code.roundsIn (Fr ro) n C.P x (Hl B N ro base κ env h w (writes x) K r) m) (Hl B N ro base κ env h w (writes x) K r)) a2 w2;refine wpIn_mono (ih q1 q2) fun e a' w' hp => ?_;obtain ⟨env',h',κ',j1,j2,j3,j4⟩:=hp;have j4':∀i,i∉writes x→env' i=env1 i:=fun i hni=>(j4 i hni).trans (q4 i hni);have k5:∀i,i∉writes x→env' i=env i:=fun i hni=>(j4' i hni).trans (k4 i hni);cases e with
    |normal=>
     obtain ⟨s3,hs3,k7,k8,k9,k10⟩:=Iu (W:=writes x) j1 hs1 j2 (q3.trans j3) j4';exact ihm s3 hs3 _ a' w' k7 k8 k9 k10
    |exit id'=>exact ⟨env',h',κ',j1,j2,k3.trans (q3.trans j3),k5⟩
    |goto l=>exact ⟨env',h',κ',j1,j2,k3.trans (q3.trans j3),k5⟩
    |ret=>exact ⟨env',h',κ',j1,j2,k3.trans (q3.trans j3),k5⟩
    |panic ch=>exact ⟨env',h',κ',j1,j2,k3.trans (q3.trans j3),k5⟩
    |outgrown=>exact ⟨env',h',κ',j1,j2,k3.trans (q3.trans j3),k5⟩
  exact fun k7 k8 k9 k10=>key fuel s hs' κ2 a w k7 k8 k9 k10
 |rangeFunc f params assign body _ _=>
  intro env h K r κ a w hk hs;simp only [Ce,AE] at hk;exact hrange B ro base n f params assign body env h K r κ a w hk hs
end Ab
namespace Ab
open Go
variable {R:Type} {B:Nat→Prop} {κ:A0} {h:Heap} {w:World} {N:Nat} {env:Env} {a:Act} {ro:Option Nat} {base:Nat}
theorem Th (hr:Rel B N κ env h a w) {w1:World} {l d:Nat} {fn f:FuncId} {params:Array Tmp} {assign body:Code} {LR:Cn} (hLR:LR={fn,size:=N,env,params:=params.toList,assign,body,busy:=false,pending:=none,ended:=false,hl:=h.length}) (h1:w1.os=w.os) (h2:w1.tape=w.tape) (h3:w1.output=w.output) (h4:w.heap.size≤w1.heap.size)
  (h5:∀b,b<w.heap.size→w1.heap[b]? = w.heap[b]?) (hl:w.heap.size≤l) (hl1:l<w1.heap.size) (hld:d≠l) (hd:w1.heap[d]? = some (.deferred (some []))) (hnd:¬Ex κ h d)
  (hlo:w1.heap[l]? = some (.loop {state :=.ready,pending:=none,fn:=f,tmps:=a.tmps,params,assign,body,defers:=d})) :
  Ai B (κ++[some (l,d)]) (h++[.loop LR]) w1∧
  Ext κ h w (κ++[some (l,d)]) (h++[.loop LR]) w1:=by
 have x:Ext κ h w (κ++[some (l,d)]) (h++[.loop LR]) w1:=
  Bb hr.heap h1 h2 h3 h4 h5 (fun b bs e=>by cases e;exact hl)
 refine ⟨BK hr.heap h5 x (fun b bs e=>by cases e;exact ⟨hl,hl1⟩) ?_,x⟩;subst hLR;refine ⟨f,a.tmps,?_,hr.size,fun i=>(hr.slot i).ext x,fun i=>(hr.slot i).refs,hd,?_⟩
 ·simpa using hlo
 ·rintro ⟨i,bs,o,k1,k2,k3⟩
  rcases Bv κ _ i k1 with ⟨_,k1⟩|⟨rfl,e⟩
  ·rcases Bv h _ i k2 with ⟨_,k2⟩|⟨rfl,e⟩
   ·exact hnd ⟨i,bs,o,k1,k2,k3⟩
   ·have:=AT k1;rw [hr.heap.len] at this;omega
  ·cases e;exact hld rfl
theorem Ls (hh:Ai B κ h w) {i b d:Nat} {l l':Cn} (hi:h[i]? = some (.loop l)) (hk:κ[i]? = some (some (b,d))) (hrec:(AF.loop l').rec? = (AF.loop l).rec?) :
  ∃(f:FuncId) (tmps:Array Value) (r:Loop),w.heap[b]? = some (.loop r)∧r={state:=if l.ended then .exhausted else if l.busy then .busy else if l.pending.isSome then .done else .ready,pending:=l.pending,fn:=f,tmps,params:=l.params.toArray,assign:=l.assign,body:=l.body,defers:=d}∧
   tmps.size=l.size∧(∀j,AP B κ h w (l.env j) (tmps.getD j undef))∧w.heap[d]? = some (.deferred (some []))∧
   ∀(o:Obj),o = .loop {r with state:=if l'.ended then .exhausted else if l'.busy then .busy else if l'.pending.isSome then .done else .ready,pending:=l'.pending}→
    Ai B κ (h.set i (.loop l')) (w.putObj b o)∧Ext κ h w κ (h.set i (.loop l')) (w.putObj b o):=by
 have ho:=hh.obj i _ _ hi hk;obtain ⟨f,tmps,h1,h2,h3,h4,h5,h6⟩:=ho;refine ⟨f,tmps,_,h1,rfl,h2,h3,h5,?_⟩;intro o ho;have hlt:=C1 h1;have hset:κ.set i (some (b,d))=κ:=by
  apply ext_getElem?;intro j;by_cases hij:j=i
  ·rw [hij,Aq hk,hk]
  ·rw [CX hij]
 have hne:∀b',b'<w.heap.size→(∀bs,(some (b,d):Option (Nat×Nat))≠some (b',bs))→(w.putObj b o).heap[b']? = w.heap[b']? :=fun b' _ hn=>World.putObj_heap_other fun e=>hn d (by rw [e]);have x:Ext κ h w κ (h.set i (.loop l')) (w.putObj b o):=by
  have x':Ext κ h w (κ.set i (some (b,d))) (h.set i (.loop l')) (w.putObj b o):=
   CW (o :=.loop l) (o' :=.loop l') (k:=some (b,d)) hh hi rfl ⟨rfl,le_refl _,fun _=>⟨rfl,rfl⟩,fun e=>(by cases e),fun e=>(by cases e),hrec⟩ hk rfl rfl rfl (by simp) hne (fun b' bs e =>.inl ⟨bs,e⟩)
    (fun _=>⟨rfl,fun b' bs e cells elem fr hc=>by cases e;rw [World.putObj_heap_same hlt] at hc;rw [ho] at hc;cases hc⟩)
  rw [hset] at x';exact x'
 refine ⟨?_,x⟩;have hbd:d≠b:=fun e=>by rw [e] at h5;rw [h1] at h5;cases h5
 have hre:=hrec;simp only [AF.rec?,Option.some.injEq] at hre;have hr1:l'.size=l.size:=by have:=congrArg Cn.size hre;exact this
 have hr2:l'.env=l.env:=by have:=congrArg Cn.env hre;exact this
 have hr3:l'.params=l.params:=by have:=congrArg Cn.params hre;exact this
 have hr4:l'.assign=l.assign:=by have:=congrArg Cn.assign hre;exact this
 have hr5:l'.body=l.body:=by have:=congrArg Cn.body hre;exact this
 have hr6:l'.hl=l.hl:=by have:=congrArg Cn.hl hre;exact this
 have hh':Ai B (κ.set i (some (b,d))) (h.set i (.loop l')) (w.putObj b o):=
  Bu hh hi hk hne (fun b' bs e=>⟨.inl ⟨bs,e⟩,by cases e;simpa using hlt⟩) (by rw [hset];exact x) (by
   rw [hset];refine ⟨f,tmps,?_,h2.trans hr1.symm,fun j=>by rw [hr2];exact (h3 j).ext x,fun j=>by rw [hr2,hr6];exact h4 j,(World.putObj_heap_other hbd).trans h5,fun he => ?_⟩
   ·rw [World.putObj_heap_same hlt,ho,hr3,hr4,hr5]
   ·rcases x.ex d he with y|y
    ·exact h6 y
    ·have:=C1 h5;omega)
 rw [hset] at hh';exact hh'
theorem take_set {α:Type} {l:List α} {m i:Nat} {x:α} (hi:m≤i):(l.set i x).take m=l.take m:=by
 apply ext_getElem?;intro j;rcases lt_or_ge j m with hj|hj
 ·rw [getElem?_take_of_lt hj,getElem?_take_of_lt hj,CX (by omega)]
 ·simp [getElem?_take,not_lt.2 hj]
theorem Iz:∀{xs ys:List Nat},xs.map mark=ys.map mark→xs=ys
 |[],[],_=>rfl
 |[],y::ys,h=>by simp at h
 |x::xs,[],h=>by simp at h
 |x::xs,y::ys,h=>by
  simp only [map_cons,List.cons.injEq] at h;have h1:x=y:=by have:=congrArg Deferred.target h.1;simpa [mark] using this
  rw [h1,Iz h.2]
theorem Ld {C:Cfg} {fn:FuncId} {rec:Rec} (hrec:DY C.P rec):S8 C fn N rec:=by
 intro R B ro base n f params assign body env h K r κ a w hk hs;split at hk
 ·rename_i g first captured hfv
  split at hk
  ·cases hk
  ·rename_i hent;have hent':enters C.P g=true:=by simpa using hent
   obtain ⟨LR,hLR⟩:∃LR:Cn,LR={fn,size:=N,env,params:=params.toList,assign,body,busy:=false,pending:=none,ended:=false,hl:=h.length}:=⟨_,rfl⟩
   rw [← hLR] at hk;have hcall:=hrec _ _ _ _ _ hk;dsimp only at hcall;have hval:=BA hs.rel f;rw [hfv] at hval;generalize hav:a.eval f=fv at hval;cases hval with
   |func _ _ _ fs cs q1 q2 q3 q4=>
    have go:∀(fn0:FuncId) (l d:Nat) (mk:List Deferred) (w1:World),(Instr.enterLoop fn0 a.tmps params assign body ro).run C.P w = .ok (l,mk) w1→w1.os=w.os→w1.tape=w.tape→w1.output=w.output→w.heap.size≤w1.heap.size→
      (∀b,b<w.heap.size→w1.heap[b]? = w.heap[b]?)→w.heap.size≤l→l<w1.heap.size→d≠l→w1.heap[d]? = some (.deferred (some []))→¬Ex κ h d→
      w1.heap[l]? = some (.loop {state :=.ready,pending:=none,fn:=fn0,tmps:=a.tmps,params,assign,body,defers:=d})→
      (∀κ4 h4 w4,Ext κ h w κ4 h4 w4→w4.heap[d]? = some (.deferred (some []))→¬Ex κ4 h4 d→Marks base κ4 h4 w4 (mk++a.defers))→
      ∃(l:Nat) (mark:List Deferred) (w₁:World) (d:Deferred) (w₁':World) (f':FuncId) (args:Array Value) (w₂:World),
       (Instr.enterLoop fn0 a.tmps params assign body (Fr ro).round).run C.P w = .ok (l,mark) w₁∧
       (resolve a.eval (rangeCall f l) 0).run C.P w₁ = .ok d w₁'∧
       (∀f',Target.leads C.P w₁' d.target d.args=some f'→(Fr ro).fn f')∧
       (invoke d.target d.args).run C.P w₁' = .ok (.enter f' args) w₂∧
       ((Fr ro).depth.isSome=true→1≤n)∧
       CallsIn (Fr ro) (n-1) C.P f' args w₂ (rangePost (Fr ro) n C.P l (Hl B N ro base κ env h w [] K r) {a with defers:=mark++a.defers}):=by
     intro fn0 l d mk w1 he o1 o2 o3 o4 o5 o6 o7 o8 o9 o10 o11 hmarks;obtain ⟨hh1,x1⟩:=Th hs.rel hLR o1 o2 o3 o4 o5 o6 o7 o8 o9 o10 o11;have hyl:AP B (κ++[some (l,d)]) (h++[.loop LR]) w1 (.yld h.length) (.func (.yield l) #[] #[]):=
      .yld _ l d (by rw [← hs.rel.heap.len];exact Ag κ _) ⟨_,Ag h _⟩
     have hc:AZ B (κ++[some (l,d)]) (h++[.loop LR]) w1 (first++[.yld h.length]++captured) (fs ++ #[.func (.yield l) #[] #[]]++cs):=
      DL (DL ⟨q1,fun j x hx=>(q3 j x hx).ext x1⟩ ⟨rfl,fun j x hx=>by
       cases j with
       |zero=>cases hx;exact hyl
       |succ j=>simp at hx⟩) ⟨q2,fun j x hx=>(q4 j x hx).ext x1⟩
     have hcl:=hcall B _ w1 _ (n-1) hh1 hc;refine ⟨l,mk,w1,{target :=.fn (.func g) cs,args:=fs ++ #[.func (.yield l) #[] #[]]},w1,g,fs ++ #[.func (.yield l) #[] #[]]++cs,w1,he,?_,fun _ _=>trivial,?_,fun e=>(by simp [Fr] at e),?_⟩
     ·have e1:a.eval (.const (.func (.yield l) #[] #[]))= .func (.yield l) #[] #[]:=rfl;simp [resolve,hav,e1,Deferred.ofValue]
     ·simp [invoke,Fy hent']
     ·refine (CallsIn.fr hcl).mono ?_
      rintro e w3 ⟨v,rv,κ3,rs,h2,rfl,hK,hm,hv,hh3,x3⟩
      obtain ⟨j,hj,hk2⟩:=bind_some hK;unfold RS at hj;split at hj
      ·rename_i l2 hl2;split at hj
       ·cases hj
       ·rename_i hbe;simp only [or_eq_true,not_or,Bool.not_eq_true] at hbe;cases hj;obtain ⟨k3,k1⟩:=AH hk2;have hk3:κ3[h.length]? = some (some (l,d)):=(x3.kap h.length _ _ (Ag h _) hl2 rfl).trans (by rw [← hs.rel.heap.len];exact Ag κ _);obtain ⟨f3,tmps3,r3,g1,g2,g3,g4,g5,g6⟩:=Ls (l':={l2 with ended:=true}) hh3 hl2 hk3 rfl;have hst:r3.state ≠ .busy:=by rw [g2,hbe.1,hbe.2];simp only [false_eq_true,if_false];split<;>simp
        have hpe:r3.pending=l2.pending:=by rw [g2]
        obtain ⟨hh4,x4⟩:=g6 (.loop {r3 with state :=.exhausted}) (by rw [g2];simp);have x5:=(x1.trans x3).trans x4;have htk:(h2.set h.length (.loop {l2 with ended:=true})).take h.length=h2.take h.length:=take_set (le_refl _);have x6:=x5.Da (m:=h.length) (le_refl _);rw [htk] at x6;have hh6:=hh4.Da (m:=h.length) (by rw [htk];exact k3);rw [htk] at hh6;have hlo4:=hh4.obj h.length _ _ (Aq hl2) hk3;obtain ⟨_,_,_,_,_,_,d1,d2⟩:=hlo4;have hst6:St B N ro base (κ3.take h.length) env (h2.take h.length) {a with defers:=mk++a.defers} (w3.putObj l (.loop {r3 with state :=.exhausted})):=by
         refine ⟨⟨hh6,hs.rel.size,fun i => ?_⟩,hmarks _ _ _ x6 d1 fun he=>d2 ?_,hs.round.ext x6,le_trans hs.bsz x6.size⟩
         ·have:=((hs.rel.slot i).ext x5).Da (m:=h.length) (hs.rel.slot i).refs;rw [htk] at this;exact this
         ·rw [← htk] at he;exact he.take
        refine ⟨l2.pending,w3.putObj l (.loop {r3 with state :=.exhausted}),(run_endLoop g1 hst).trans (congrArg (fun z=>Result.ok z (w3.putObj l (.loop {r3 with state :=.exhausted}))) hpe),?_⟩;cases hpd:l2.pending with
        |none=>
         rw [hpd] at k1;exact ⟨_,_,_,k1,hst6,x6,fun _ _=>rfl⟩
        |some c=>
         rw [hpd] at k1;obtain ⟨e,he2,k1⟩:=bind_some k1;cases c<;>simp only [Rc] at he2<;>first|cases he2|skip
         ·exact wpIn_exit ⟨_,_,_,k1,hst6,x6,fun _ _=>rfl⟩
         ·exact wpIn_ret ⟨_,_,_,k1,hst6,x6,fun _ _=>rfl⟩
      ·cases hj
    refine wpIn_rangeFunc fun fn0 _ => ?_;cases ro with
    |none=>
     refine go fn0 (w.heap.size+1) w.heap.size _ _ (run_enterLoop_outer fn0 a.tmps params assign body) rfl rfl rfl (by simp [World.size_alloc];omega) (fun b hb => ?_) (by omega) (by simp [World.size_alloc]) (by omega) ?_ ?_ ?_ ?_
     ·rw [Ak _ _ (by simp;omega),Ak _ _ hb]
     ·rw [Ak _ _ (by simp)];exact World.alloc_heap_new _ _
     ·rintro ⟨i,bs,o,y1,y2,y3⟩
      have:=hs.rel.heap.lt i _ _ y1;omega
     ·have:=World.alloc_heap_new (w.alloc (.deferred (some []))) (.loop {state :=.ready,pending:=none,fn:=fn0,tmps:=a.tmps,params:=params,assign:=assign,body:=body,defers:=w.heap.size});rw [World.size_alloc] at this;exact this
     ·intro κ4 h4 w4 x y1 y2;obtain ⟨rs4,z1,z2,z3⟩:=hs.marks.ext x;obtain ⟨rs5,z4,z5,z6⟩:=hs.marks;refine ⟨w.heap.size::rs5,by rw [z4];rfl,?_,fun q hq => ?_⟩
      ·refine nodup_cons.2 ⟨fun hm => ?_,z5⟩;have:=C1 (z6 _ hm).2.1;omega
      ·rcases mem_cons.1 hq with rfl|hq
       ·exact ⟨hs.bsz,y1,y2⟩
       ·have e:rs5=rs4:=by have e1:rs5.map mark=rs4.map mark:=z4.symm.trans z1;exact Iz e1
        rw [e] at hq;exact z3 q hq
    |some b0=>
     obtain ⟨i,d,l0,r1,r2⟩:=hs.round b0 rfl;obtain ⟨f0,t0,e1,e2,e3,e4,e5,e6⟩:=hs.rel.heap.obj i _ _ r2 r1;refine go fn0 w.heap.size d _ _ (run_enterLoop_inner e1 fn0 a.tmps params assign body) rfl rfl rfl (by simp [World.size_alloc]) (fun b hb => ?_) (le_refl _) (by simp [World.size_alloc]) ?_ ?_ e6 ?_ ?_
     ·exact Ak _ _ hb
     ·have:=C1 e5;omega
     ·rw [Ak _ _ (C1 e5)];exact e5
     ·exact World.alloc_heap_new _ _
     ·intro κ4 h4 w4 x _ _;exact hs.marks.ext x
 ·cases hk
end Ab
namespace Ab
open Go
variable {R:Type} {P:Program} {B:Nat→Prop} {κ:A0} {h:Heap} {w:World} {N:Nat} {env:Env} {a:Act} {ro:Option Nat} {base:Nat}
theorem NK:∀(ps:List Tmp) (args:List AV) (us:List Value) (env:Env) (tmps:Array Value),args.length=ps.length→us.length=ps.length→(∀t∈ps,t<tmps.size)→(∀j x,args[j]? = some x→AP B κ h w x (us.getD j undef))→
  (∀i,AP B κ h w (env i) (tmps.getD i undef))→((ps.zip us).foldl (fun (tmps:Array Value) (p:Tmp×Value)=>tmps.setIfInBounds p.1 p.2) tmps).size=tmps.size∧∀i,AP B κ h w (Lg env ps args i) (((ps.zip us).foldl (fun (tmps:Array Value) (p:Tmp×Value)=>tmps.setIfInBounds p.1 p.2) tmps).getD i undef)
 |[],[],[],env,tmps,_,_,_,_,hv=>⟨rfl,hv⟩
 |[],x::args,us,env,tmps,h1,_,_,_,_=>by simp at h1
 |[],[],u::us,env,tmps,_,h2,_,_,_=>by simp at h2
 |p::ps,[],us,env,tmps,h1,_,_,_,_=>by simp at h1
 |p::ps,x::args,[],env,tmps,_,h2,_,_,_=>by simp at h2
 |p::ps,x::args,u::us,env,tmps,h1,h2,hlt,ha,hv=>by
  have hp:p<tmps.size:=hlt p (by simp);obtain ⟨e1,e2⟩:=NK ps args us (env.put (some p) x) (tmps.setIfInBounds p u) (by simpa using h1) (by simpa using h2) (fun t ht=>by simpa using hlt t (by simp [ht]))
   (fun j y hy=>by simpa using ha (j+1) y (by simpa using hy)) (fun i=>by
    simp only [Env.put];by_cases hi:i=p
    ·subst hi;rw [if_pos rfl];have:(tmps.setIfInBounds i u).getD i undef=u:=by simp [Array.getD,hp]
     rw [this];simpa using ha 0 x rfl
    ·rw [if_neg hi];have:(tmps.setIfInBounds p u).getD i undef=tmps.getD i undef:=by simp only [Array.getD_eq_getD_getElem?];rw [Array.getElem?_setIfInBounds_ne (Ne.symm hi)]
     rw [this];exact hv i)
  refine ⟨by simpa using e1,fun i => ?_⟩;simpa [Lg] using e2 i
theorem LP {i:Nat} {l:Cn} (hi:h[i]? = some (.loop l)) (bz:Bool) (pd:Option Code):Fw h i bz pd=h.set i (.loop {l with busy:=bz,pending:=pd}):=by unfold Fw;rw [hi]
theorem NM {i:Nat} (ho:OJ h i=true):∃l,h[i]? = some (.loop l)∧l.ended=false:=by
 unfold OJ at ho;split at ho
 ·rename_i l hl;exact ⟨l,hl,by simpa using ho⟩
 ·cases ho
theorem Q7 {i:Nat} (ho:OB h i=true):∃l,h[i]? = some (.loop l)∧l.ended=false∧l.busy=false∧l.pending=none:=by
 unfold OB at ho;split at ho
 ·rename_i l hl;simp only [and_eq_true,not_eq_true',Option.isNone_iff_eq_none] at ho;exact ⟨l,hl,ho.1.1,ho.1.2,ho.2⟩
 ·cases ho
theorem Jw {i b d:Nat} (hh:Ai B κ h w) (ho:OJ h i=true) (hk:κ[i]? = some (some (b,d))) (jump:Option Code) :
  ∃w',(Instr.endRound b jump).run P w = .ok (.bool jump.isNone) w'∧Ai B κ (Fw h i false jump) w'∧Ext κ h w κ (Fw h i false jump) w':=by
 obtain ⟨l,hl,he⟩:=NM ho;obtain ⟨f3,tmps3,r3,g1,g2,g3,g4,g5,g6⟩:=Ls (l':={l with busy:=false,pending:=jump}) hh hl hk rfl;obtain ⟨hh4,x4⟩:=g6 (.loop {r3 with state:=if jump.isNone then .ready else .done,pending:=jump}) (by cases jump<;>simp [he])
 rw [LP hl];exact ⟨_,run_endRound jump g1,hh4,x4⟩
theorem Up {C:Cfg} {rec:Rec} {pc:BE} (hrec:DY C.P rec) (hpc:B3 C.P pc) (hmix:C.P.follows .mixedOrders=true) {m i:Nat} {args:List AV} {K:List AV→Heap→Option R} {res:R} (hk:Q0 C rec pc m i args h K=some res):S6 C.P i args h K res:=by
 intro B κ w vs b d n hh hc hki;unfold Q0 at hk
 try simp only [AE] at hk
 split at hk
 ·rename_i l hi;obtain ⟨⟨hb,he,hp,hal,hpl⟩,hk1⟩:=AH hk;obtain ⟨f,tmps,h1,h2,h3,h4,h5,h6⟩:=hh.obj i _ _ hi hki;have hpn:l.pending=none:=by simpa using hp
  have h1':w.heap[b]? = some (.loop {state :=.ready,pending:=none,fn:=f,tmps,params:=l.params.toArray,assign:=l.assign,body:=l.body,defers:=d}):=by rw [h1,he,hb,hpn];rfl
  have hsz:vs.size=l.params.length:=hc.1.trans hal;have hfold:(l.params.toArray.zip vs).foldl (fun tmps (t,a)=>tmps.setIfInBounds t a) tmps=(l.params.zip vs.toList).foldl (fun (tmps:Array Value) (p:Tmp×Value)=>tmps.setIfInBounds p.1 p.2) tmps:=by obtain ⟨us⟩:=vs;have e:l.params.toArray.zip ({toList:=us}:Array Value)=(l.params.zip us).toArray:=List.zip_toArray ..;rw [e];simp
  obtain ⟨p1,p2⟩:=NK l.params args vs.toList l.env tmps hal (by simpa using hsz) (fun t ht=>by
    rw [h2];have:=all_eq_true.1 hpl t ht;simpa using this) (fun j x hx=>by
    have:=hc.2 j x hx;rw [← toArray_toList (xs:=vs),BQ] at this;exact this) h3
  refine ⟨f,_,l.assign,l.body,run_yield h1' (by simpa using hsz),?_⟩;rw [hfold];refine roundIn_of_wpIn trivial ?_;have hs:St B l.size (some b) w.heap.size κ (Lg l.env l.params args) h {tmps:=(l.params.zip vs.toList).foldl (fun (tmps:Array Value) (p:Tmp×Value)=>tmps.setIfInBounds p.1 p.2) tmps,defers:=[]} w:=
   ⟨⟨hh,p1.trans h2,p2⟩,⟨[],rfl,nodup_nil,fun r hr=>by simp at hr⟩,fun b' hb'=>by cases hb';exact ⟨i,d,l,hki,hi⟩,le_refl _⟩
  refine wpIn_mono (Ml (C:=C.at l.fn) hrec hpc hmix (Ld hrec) n l.assign hk1 hs) fun e a1 w1 hp1 => ?_;obtain ⟨env1,ha,κ1,j1,j2,j3,j4⟩:=hp1;cases e with
  |normal=>
   dsimp only at j1;obtain ⟨hrd,j1⟩:=AH j1;obtain ⟨l1,hl1,r1,r2,r3⟩:=Q7 hrd;have hk1':κ1[i]? = some (some (b,d)):=(j3.kap i _ _ hi hl1 rfl).trans hki;obtain ⟨f3,tmps3,rr,g1,g2,g3,g4,g5,g6⟩:=Ls (l':={l1 with busy:=true,pending:=none}) j2.rel.heap hl1 hk1' rfl;obtain ⟨hh4,x4⟩:=g6 (.loop {rr with state :=.busy}) (by rw [g2];simp [r1,r3]);rw [LP hl1] at j1;refine ⟨_,run_beginRound g1 (by rw [g2];simp [r1,r2,r3]),?_⟩;have hs4:St B l.size (some b) w.heap.size κ1 env1 (ha.set i (.loop {l1 with busy:=true,pending:=none})) a1 (w1.putObj b (.loop {rr with state :=.busy})):=
    j2.next ⟨hh4,j2.rel.size,fun j=>(j2.rel.slot j).ext x4⟩ x4 rfl
   refine wpIn_mono (Ml (C:=C.at l.fn) hrec hpc hmix (Ld hrec) n l.body j1 hs4) fun e a2 w2 hp2 => ?_;obtain ⟨env2,hb2,κ2,q1,q2,q3,q4⟩:=hp2;obtain ⟨hop,q1⟩:=AH q1;obtain ⟨l5,hl5,_⟩:=NM hop;have hk2':κ2[i]? = some (some (b,d)):=(q3.kap i _ _ (Aq hl1) hl5 rfl).trans hk1';cases e with
   |normal=>
    obtain ⟨w6,e1,e2,e3⟩:=Jw (P:=C.P) q2.rel.heap hop hk2' none;exact ⟨_,w6,e1,_,κ2,_,_,rfl,q1,.t _ _ (.bool _),e2,((j3.trans x4).trans q3).trans e3⟩
   |ret=>
    obtain ⟨w6,e1,e2,e3⟩:=Jw (P:=C.P) q2.rel.heap hop hk2' (some .ret);exact ⟨_,w6,e1,_,κ2,_,_,rfl,q1,.t _ _ (.bool _),e2,((j3.trans x4).trans q3).trans e3⟩
   |exit id=>
    obtain ⟨w6,e1,e2,e3⟩:=Jw (P:=C.P) q2.rel.heap hop hk2' (some (.exit id));exact ⟨_,w6,e1,_,κ2,_,_,rfl,q1,.t _ _ (.bool _),e2,((j3.trans x4).trans q3).trans e3⟩
   |goto t=>cases q1
   |panic ch=>cases q1
   |outgrown=>cases q1
  |exit id=>cases j1
  |goto t=>cases j1
  |ret=>cases j1
  |panic ch=>cases j1
  |outgrown=>cases j1
 ·cases hk
structure KD (w w':World):Prop where
 size:w'.heap.size=w.heap.size
 blk:∀(b:Nat) cells elem fr,w'.heap[b]? = some (.cells cells elem fr)↔w.heap[b]? = some (.cells cells elem fr)
 mp:∀(b:Nat) es clock,w.heap[b]? = some (.map es clock)→w'.heap[b]? = some (.map es clock)
theorem KD.cell {w':World} (c:KD w w') (x:Addr):w'.cell? x=w.cell? x:=by
 unfold World.cell?;cases h1:w'.heap[x.block]? with
 |none=>
  cases h2:w.heap[x.block]? with
  |none=>rfl
  |some o=>
   cases o with
   |cells cs e f=>rw [(c.blk _ cs e f).2 h2] at h1;cases h1
   |_=>rfl
 |some o=>
  cases o with
  |cells cs e f=>rw [(c.blk _ cs e f).1 h1]
  |_=>
   cases h2:w.heap[x.block]? with
   |none=>rfl
   |some o'=>
    cases o' with
    |cells cs e f=>rw [(c.blk _ cs e f).2 h2] at h1;cases h1
    |_=>rfl
theorem BS.IM {w':World} (c:KD w w') {A:Nat→Prop} {x:Tree} {v:Value} (hx:BS w A x v):BS w' A x v:=by
 induction hx with
 |int k n=>exact .int k n
 |bool b=>exact .bool b
 |str s=>exact .str s
 |const v h=>exact .const v h
 |mp k m b es clock h1 h2 h3 h4=>exact .mp k m b es clock (by rw [c.size];exact h1) h2 (c.mp _ _ _ h3) h4
 |nil size cap a=>exact .nil size cap a
 |sl size es b off cap u h1 h2 h3 h4 h5 _ ih=>exact .sl size es b off cap u h1 (by rw [c.size];exact h2) h3 h4 (fun j e cc x he hx=>(c.cell _).trans (h5 j e cc x he hx)) ih
theorem AP.IM {w':World} (c:KD w w') {x:AV} {v:Value} (hx:AP B κ h w x v):AP B κ h w' x v:=by
 induction hx with
 |undef v=>exact .undef v
 |t y v ht=>exact .t y v (ht.IM c)
 |nilsl a=>exact .nilsl a
 |ptr i off b base hk hb=>exact .ptr _ _ _ _ hk hb
 |rptr i ver k off v h1 hex hv=>exact .rptr _ _ _ _ _ h1 hex hv
 |eptr size cells off b base u h1 h2 h3 h4 h5=>exact .eptr _ _ _ _ _ u h1 (by rw [c.size];exact h2) h3 (fun j y hy=>(c.cell _).trans (h4 j y hy)) fun j y hy=>(h5 j y hy).IM c
 |sref i ver off len v h1 hex hs=>
  refine .sref _ _ _ _ _ h1 hex fun k o hk ho he => ?_;obtain ⟨e1,e2,e3⟩:=hs k o hk ho he;refine ⟨e1,e2,?_⟩;rcases e3 with e3|⟨b,bs,rfl,cap,f1,f2,f3⟩
  ·exact .inl e3
  ·exact .inr ⟨b,bs,rfl,cap,f1,f2,fun cells elem fr hc=>f3 cells elem fr ((c.blk _ _ _ _).1 hc)⟩
 |bsl i off len size cap b hk hb hl=>exact .bsl _ _ _ _ _ _ hk hb hl
 |yld i b base hk hb=>exact .yld _ _ _ hk hb
 |mref i b hk hb=>exact .mref _ _ hk hb
 |func fn first captured fs cs h1 h2 _ _ i1 i2=>exact .func _ _ _ _ _ h1 h2 i1 i2
 |agg xs vs h1 _ ih=>exact .agg _ _ h1 ih
 |tuple xs vs h1 _ ih=>exact .tuple _ _ h1 ih
def R9 (κ:A0) (h:Heap) (r:Nat):Prop:=∀(i b d:Nat) (l:Cn),κ[i]? = some (some (b,d))→h[i]? = some (.loop l)→d≠r
theorem GP {r:Nat} {x:Option (List Deferred)} {y:Option (List Deferred)} (hr:w.heap[r]? = some (.deferred x)):KD w (w.putObj r (.deferred y)):=by
 refine ⟨by simp,fun b cells elem fr => ?_,fun b es clock h => ?_⟩;rotate_left
 ·by_cases hb:b=r
  ·subst hb;rw [hr] at h;cases h
  ·rw [World.putObj_heap_other hb];exact h
 by_cases hb:b=r
 ·subst hb;rw [World.putObj_heap_same (C1 hr),hr];simp
 ·rw [World.putObj_heap_other hb]
theorem TN {r:Nat} {x y:Option (List Deferred)} (hh:Ai B κ h w) (hr:w.heap[r]? = some (.deferred x)) (hn:R9 κ h r):Ai B κ h (w.putObj r (.deferred y)):=by
 have c:KD w (w.putObj r (.deferred y)):=GP hr;refine ⟨hh.len,hh.inj,hh.notB,fun i b bs hi=>by rw [c.size];exact hh.lt i b bs hi,fun b hb=>by rw [c.size];exact hh.ltB b hb,fun i o k ho hk => ?_⟩;have hob:=hh.obj i o k ho hk;cases k with
 |none=>cases o<;>exact hob
 |some p=>
  obtain ⟨b,bs⟩:=p;cases o with
  |box cs=>
   obtain ⟨h0,cells,elem,hc,hs,hv⟩:=hob;exact ⟨h0,cells,elem,(c.blk _ _ _ _).2 hc,hs,fun j y hy=>(hv j y hy).IM c⟩
  |row f v s es=>
   obtain ⟨hz,cells,elem,fr,hc,hth,hs,hl,hv⟩:=hob;exact ⟨hz,cells,elem,fr,(c.blk _ _ _ _).2 hc,hth,hs,hl,fun j e cc y he hy=>(hv j e cc y he hy).IM c⟩
  |mapo k ke es=>
   obtain ⟨h0,en,clock,hc,hs⟩:=hob;exact ⟨h0,en,clock,c.mp _ _ _ hc,hs⟩
  |loop l=>
   obtain ⟨f,tmps,hc,hs,hv,hrf,hd,hnx⟩:=hob;have hbr:b≠r:=fun e=>by rw [e,hr] at hc;cases hc
   have hdr:bs≠r:=hn i b bs l hk ho;exact ⟨f,tmps,(World.putObj_heap_other hbr).trans hc,hs,fun j=>(hv j).IM c,hrf,(World.putObj_heap_other hdr).trans hd,hnx⟩
theorem Ue {κ':A0} {h':Heap} {w':World} {r:Nat} {x y:Option (List Deferred)} (e:Ext κ h w κ' h' w') (hr:w'.heap[r]? = some (.deferred x)) (hb:w.heap.size≤r):Ext κ h w κ' h' (w'.putObj r (.deferred y)) where
 os:=e.os
 tape:=e.tape
 output:=e.output
 size:=by simpa using e.size
 keep:=fun b hlt hn=>(World.putObj_heap_other (by omega)).trans (e.keep b hlt hn)
 ex:=e.ex
 obj:=e.obj
 kap:=e.kap
 cells:=fun i o o' ho ho' hv b bs hk cells elem fr hc=>e.cells i o o' ho ho' hv b bs hk cells elem fr (((GP (y:=y) hr).blk _ _ _ _).1 hc)
end Ab
namespace Ab
open Go
variable {R:Type} {P:Program} {B:Nat→Prop} {κ:A0} {h:Heap} {w:World} {N:Nat} {env:Env} {a:Act} {ro:Option Nat} {base:Nat}
def Ur (tmps:Array Value):ResultVar→Sem Value
 | .tmp t=>pure (tmps.getD t undef)
 | .cell a t=>do loadVar t (← asAddr (tmps.getD a undef))
theorem Q4 (fn:Func) (tmps:Array Value):results fn tmps=(do let vs ← fn.results.mapM (Ur tmps);pure (Jj vs)):=rfl
theorem RO {t:TypeId} {v val:Value} (hl:(Instr.loadAt t v).run P w = .ok val w):(do loadVar t (← asAddr v):Sem Value).run P w = .ok val w:=by
 unfold Instr.loadAt at hl;cases v with
 |pointer p=>
  cases p with
  |some x=>exact hl
  |none=>simp [Instr.sureAddr] at hl
 |_=>simp [Instr.sureAddr] at hl
theorem Q5 (hr:Rel B N κ env h a w):∀{rv:List ResultVar} {K:List AV→Option R} {r:R},Q6 P env h rv K=some r→
  ∃(avs:List AV) (us:List Value),K avs=some r∧(rv.mapM (Ur a.tmps)).run P w = .ok us w∧AZ B κ h w avs us.toArray
 |[],K,r,hk=>⟨[],[],hk,by simp,rfl,fun j x hx=>by simp at hx⟩
 | .tmp t::rv,K,r,hk=>by simp only [Q6] at hk;obtain ⟨avs,us,h1,h2,h3⟩:=Q5 hr hk;refine ⟨_,_::us,h1,?_,CJ (hr.slot t) h3⟩;simp only [mapM_cons,Ur,Sem.run_bind,Sem.run_pure,Result.andThen_ok,h2]
 | .cell x t::rv,K,r,hk=>by simp only [Q6] at hk;obtain ⟨v,val,h4,h5,h6⟩:=Qc (P:=P) hk hr.heap (hr.slot x);obtain ⟨avs,us,h1,h2,h3⟩:=Q5 hr h4;refine ⟨_,val::us,h1,?_,CJ h6 h3⟩;have h7:=RO h5;rw [mapM_cons,Sem.run_bind];have h8:(Ur a.tmps (.cell x t)).run P w = .ok val w:=h7;rw [h8,Result.andThen_ok,Sem.run_bind,h2,Result.andThen_ok,Sem.run_pure]
theorem PY {fn:Func} {tmps:Array Value} {us:List Value} (hm:(fn.results.toList.mapM (Ur tmps)).run P w = .ok us w):(results fn tmps).run P w = .ok (Jj us.toArray) w:=by rw [Q4,Array.mapM_eq_mapM_toList];simp only [Sem.run_bind,map_eq_pure_bind,hm,Result.andThen_ok,Sem.run_pure]
theorem KL {fn:Func} {n:Nat} {κ0:A0} {h0:Heap} {w0:World} {Q:Ending→World→Prop} (hb:w0.heap.size≤base)
  (fin:∀w,Rel B N κ env h a w→Ext κ0 h0 w0 κ h w→∃v,(results fn a.tmps).run P w = .ok v w∧Q (.returned v) w) :
  ∀(rs:List Nat) (w:World),rs.Nodup→(∀r∈rs,base≤r∧w.heap[r]? = some (.deferred (some []))∧R9 κ h r)→Rel B N κ env h a w→Ext κ0 h0 w0 κ h w→LeavesInM (Fr none) n P fn a.tmps Q (rs.map mark) .returning w
 |[],w,_,_,hr,hx=>fin w hr hx
 |r::rs,w,hnd,hall,hr,hx=>by obtain ⟨h1,h2,h3⟩:=hall r (by simp);refine ⟨by simp,.inl ⟨r,w.putObj r (.deferred none),rfl,run_takeDeferred h2,?_⟩⟩;refine KL hb fin rs _ (nodup_cons.1 hnd).2 (fun q hq => ?_) ⟨TN hr.heap h2 h3,hr.size,fun i=>(hr.slot i).IM (GP h2)⟩ (Ue hx h2 (le_trans hb h1));obtain ⟨h4,h5,h6⟩:=hall q (by simp [hq]);have hne:q≠r:=fun e=>(nodup_cons.1 hnd).1 (e ▸ hq);exact ⟨h4,(World.putObj_heap_other hne).trans h5,h6⟩
theorem Te {κ':A0} {h':Heap} {w':World} (hh:Ai B κ h w) (x:Ext κ h w κ' h' w') (hd:(h'.drop h.length).all OM=true) {r:Nat} (hr:w.heap.size≤r):R9 κ' h' r:=by
 intro i b d l hk hi he;rcases lt_or_ge i h.length with hl|hl
 ·have hg:h[i]? = some h[i]:=getElem?_eq_getElem hl;obtain ⟨o',h1,h2⟩:=x.obj i _ hg;rw [hi] at h1;cases h1;have hkd:=h2.1;cases ho:h[i] with
  |box cs=>rw [ho] at hkd;cases hkd
  |row a b c d=>rw [ho] at hkd;cases hkd
  |mapo a b c=>rw [ho] at hkd;cases hkd
  |loop l0=>
   rw [ho] at hg;have hk0:=(x.kap i _ _ hg hi rfl).symm.trans hk;obtain ⟨_,_,_,_,_,_,h5,_⟩:=hh.obj i _ _ hg hk0;have:=C1 h5;omega
 ·have:(h'.drop h.length)[i-h.length]? = some (.loop l):=by rw [getElem?_drop,show h.length+(i-h.length)=i from by omega];exact hi
  have:=D9 hd this;cases this
theorem Vz {vs:Array Value} {avs:List AV} (hh:Ai B κ h w) (hc:AZ B κ h w avs vs) {M:Nat} (hM:avs.length≤M):Rel B M κ (fun i=>avs.getD i .undef) h {tmps:=vs++Array.replicate (M-vs.size) undef,defers:=[]} w:=by
 have hsz:=hc.1;refine ⟨hh,by simp;omega,fun i => ?_⟩;rcases lt_or_ge i avs.length with hi|hi
 ·have hg:avs[i]? = some avs[i]:=getElem?_eq_getElem hi;have:=hc.2 i _ hg;have e:avs.getD i .undef=avs[i]:=by simp [List.getD,hg]
  rw [e];have e2:(vs++Array.replicate (M-vs.size) undef).getD i undef=vs.getD i undef:=by simp only [Array.getD_eq_getD_getElem?];rw [Array.getElem?_append_left (by omega)]
  rw [e2];exact this
 ·have e:avs.getD i .undef = .undef:=by simp [List.getD,getElem?_eq_none hi]
  rw [e];exact .undef _
theorem Kp {C:Cfg} {rec:Rec} {pc:BE} (hrec:DY C.P rec) (hpc:B3 C.P pc) (hmix:C.P.follows .mixedOrders=true) {m:Nat} {g:FuncId} {avs:List AV} {K:List AV→Heap→Option R} {r:R} (hk:Ma C rec pc m g avs h K=some r)
  {vs:Array Value} (n:Nat) (hh:Ai B κ h w) (hc:AZ B κ h w avs vs) (Q:Ending→World→Prop)
  (fin:∀(ls:List AV) (us:List Value) (h':Heap) (κ':A0) (w':World) (res:Value),K ls h'=some r→AZ B κ' h' w' ls us.toArray→Ai B κ' h' w'→Ext κ h w κ' h' w'→
   (∀(B2:Nat→Prop) (κ2:A0) (h2:Heap) (w2:World) (leaf:Nat→AV),(∀j u,us[j]? = some u→AP B2 κ2 h2 w2 (leaf j) u)→∃rv,CO C.P g leaf=some rv∧AP B2 κ2 h2 w2 rv res)→Q (.returned res) w') :
  CallsIn (Fr none) n C.P g vs w Q:=by
 unfold Ma at hk
 try simp only [AE] at hk
 split at hk
 ·rename_i fn hf;split at hk
  ·rename_i c hb;obtain ⟨hN,hk1⟩:=AH hk;refine callsIn_of_wp_marks hf hb trivial ?_;have hs:St B fn.ntmps none w.heap.size κ (fun i=>avs.getD i .undef) h {tmps:=vs++Array.replicate (fn.ntmps-vs.size) undef,defers:=[]} w:=
    ⟨Vz hh hc hN,⟨[],rfl,nodup_nil,fun r hr=>by simp at hr⟩,fun b' hb'=>(by cases hb'),le_refl _⟩
   refine wpIn_mono (Ml (C:=C.at g) hrec hpc hmix (Ld hrec) n c hk1 hs) fun e a1 w1 hp1 => ?_;obtain ⟨env1,h1,κ1,j1,j2,j3,j4⟩:=hp1;have go:(if ((h1.drop h.length).all OM)=true then Q6 C.P env1 h1 fn.results.toList fun vs=>flatK C.P fn.resultTypes.toList vs fun rs=>K rs h1 else none)=some r→LeavesInM (Fr none) n C.P fn a1.tmps Q a1.defers .returning w1:=by
    intro j1;obtain ⟨hnl,j1⟩:=AH j1;obtain ⟨rs,m1,m2,m3⟩:=j2.marks;rw [m1];refine KL (base:=w.heap.size) (le_refl _) ?_ rs w1 m2 (fun q hq=>⟨(m3 q hq).1,(m3 q hq).2.1,Te hh j3 hnl (m3 q hq).1⟩) j2.rel j3;intro w2 hr2 x2;obtain ⟨avs2,us2,k1,k2,k3⟩:=Q5 (P:=C.P) hr2 j1;obtain ⟨ls,us,f1,f2,f3⟩:=I7 k1 k3;refine ⟨_,PY k2,fin ls us h1 κ1 w2 _ f1 f2 hr2.heap x2 fun B2 κ2 h2 w2 leaf hl => ?_⟩;obtain ⟨avs',e1,e2⟩:=f3 B2 κ2 h2 w2 leaf 0 fun j u hu=>by rw [zero_add];exact hl j u hu
    exact VD hf e1 e2
   cases e with
   |normal=>exact go j1
   |ret=>exact go j1
   |exit id=>cases j1
   |goto t=>cases j1
   |panic ch=>cases j1
   |outgrown=>cases j1
  ·cases hk
 ·cases hk
theorem call_ok {C:Cfg} {rec:Rec} {pc:BE} (hrec:DY C.P rec) (hpc:B3 C.P pc) (hmix:C.P.follows .mixedOrders=true) {m:Nat} {g:FuncId} {avs:List AV} {K:List AV→Heap→Option R} {res:R} (hk:Ma C rec pc m g avs h K=some res):WN C.P g avs h K res:=by
 intro B κ w vs n hh hc;refine Kp hrec hpc hmix hk n hh hc _ fun ls us h1 κ' w' rv0 k1 k2 k3 k4 k5 => ?_;obtain ⟨rv,e1,e2⟩:=k5 B κ' h1 w' (fun i=>ls.getD i .undef) fun j u hu=>by
  have hj:j<ls.length:=by have:=AT hu;have h2:=k2.1;simp at h2;omega
  have hg:ls[j]? = some ls[j]:=getElem?_eq_getElem hj;have:=k2.2 j _ hg;rw [BQ] at this;simp only [List.getD,hg,hu,Option.getD_some] at this ⊢;exact this
 exact ⟨rv0,rv,κ',ls,h1,rfl,k1,e1,e2,k3,k4⟩
theorem SP {C:Cfg} {rec:Rec} {pc:BE} (hrec:DY C.P rec) (hpc:B3 C.P pc) (hmix:C.P.follows .mixedOrders=true) {m:Nat} {g:FuncId} {xs ys:List Tree} (hk:SQ C rec pc m g xs=some ys):G0 C.P g xs ys:=by
 unfold SQ at hk
 try simp only [AE] at hk
 split at hk
 ·rename_i avs hm;intro B w avs' vs n hm' hB hc;rw [hm] at hm';cases hm';rw [show dqLT=dqAny (List Tree) from VZ _ _] at hk;refine Kp hrec hpc hmix hk n (IB hB) hc _ fun ls us h1 κ' w' res k1 k2 k3 k4 k5 => ?_;have hlen:us.length=ls.length:=by simpa using k2.1
  obtain ⟨zs,c1,c2,c3,c4⟩:=Cc (P:=C.P) k1 k3 (vs:=us) hlen (fun j x v hx hv=>by have:=k2.2 j x hx;rw [BQ] at this;simp only [List.getD,hv,Option.getD_some] at this;exact this)
  obtain ⟨hsc,c1⟩:=AH c1;cases c1;obtain ⟨rv,e1,e2⟩:=k5 B [] [] w' (fun i =>.t (ys.getD i default)) fun j u hu=>by
   have hj:j<ys.length:=by have:=AT hu;omega
   have hg:ys[j]? = some ys[j]:=getElem?_eq_getElem hj;have:=c4 j _ u hg hu;have e:ys.getD j default=ys[j]:=by simp [List.getD,hg]
   rw [e];exact .t _ _ (this.less fun b hb=>by
    rcases hb with hb|hb
    ·exact .inl hb
    ·exact (DE hb).elim)
  exact ⟨res,rv,rfl,e1,e2,⟨k4.os,k4.tape,k4.output,k4.size,fun b hb=>k4.keep b hb fun he=>DE he⟩,hsc⟩
 ·cases hk
theorem TV {P:Program} {g:FuncId} (hp:Li P g=true) (leaf:Nat→AV):CO P g leaf=some (leaf 0):=by
 unfold Li at hp;unfold CO;split at hp
 ·rename_i fn hf
  try rw [hf]
  split at hp
  ·rename_i t ht;have ha:Ay P t=some false:=by simpa using hp
   try dsimp only
   rw [ht];cases hs:BZ P t<;>simp [B7,Gh,ha,hs]
  ·cases hp
 ·cases hp
theorem Uv {C:Cfg} {rec:Rec} {pc:BE} (hrec:DY C.P rec) (hpc:B3 C.P pc) (hmix:C.P.follows .mixedOrders=true) {m:Nat} {g:FuncId} {xs ys:List Tree} (hk:Iv C rec pc m g xs=some ys):WC C.P g xs ys:=by
 unfold Iv at hk
 try simp only [AE] at hk
 split at hk
 ·rename_i avs t hm ht;obtain ⟨z,hz,hk⟩:=bind_some hk;obtain ⟨hplain,hk⟩:=AH hk;intro B w avs' vs n hm' hB hc;rw [hm] at hm';cases hm';rw [show dqLT=dqAny (List Tree) from VZ _ _] at hk;refine Kp hrec hpc hmix hk n (IB hB) hc _ fun ls us h1 κ' w' res k1 k2 k3 k4 k5 => ?_;have hgrow:Grow w w':=⟨k4.os,k4.tape,k4.output,k4.size,fun b hb=>k4.keep b hb fun he=>DE he⟩
  have hlen:us.length=ls.length:=by simpa using k2.1
  obtain ⟨rv,e1,e2⟩:=k5 B κ' h1 w' (fun i=>ls.getD i .undef) fun j u hu=>by
   have hj:j<ls.length:=by have:=AT hu;omega
   have hg:ls[j]? = some ls[j]:=getElem?_eq_getElem hj;have:=k2.2 j _ hg;rw [BQ] at this;simp only [List.getD,hg,hu,Option.getD_some] at this ⊢;exact this
  rw [TV hplain] at e1;cases e1;split at k1
  ·cases k1;have e3:AP B κ' h1 w' .nilsl res:=e2;cases e3 with
   |nilsl a0=>exact ⟨_,z,[],rfl,rfl,hgrow,.inl ⟨rfl,a0,rfl⟩⟩
  ·rename_i i ver off len;split at k1
   ·rename_i ver' size es hi;obtain ⟨hvs,k1'⟩:=AH k1;clear k1;obtain ⟨rfl,rfl⟩:=hvs;cases k1';have e3:AP B κ' h1 w' (.sref i ver' off len) res:=e2;refine ⟨res,size,_,rfl,rfl,hgrow,?_⟩;cases e3 with
    |sref _ _ _ _ _ _ _ hsr=>
     obtain ⟨kk,hkk⟩:=Bk k3 hi;obtain ⟨_,hle,hmm⟩:=hsr kk _ hkk hi rfl;simp only [AF.len] at hle;have ho:=k3.obj i _ _ hi hkk;rcases hmm with ⟨rfl,hof,a0,rfl⟩|⟨b,base,rfl,cap,rfl,hcap',hcs⟩
     ·exact .inl ⟨by simp,a0,rfl⟩
     ·skip
      have hcap:len≤cap:=by simp only [AF.len] at hcap';omega
      obtain ⟨hz0,cells,elem,fr,hb,hth,hbs,hel,hT⟩:=ho;have hex:Ex κ' h1 b:=⟨i,base,_,hkk,hi,rfl⟩
      have hnew:w.heap.size≤b:=by
       rcases k4.ex b hex with h|h
       ·exact (DE h).elim
       ·exact h
      have hcsz:=hcs cells elem _ hb;have hlen2:((es.drop off).take len).length=len:=by simp;omega
      have hget:∀(j:Nat) (e:List Tree),((es.drop off).take len)[j]? = some e→es[off+j]? = some e:=fun j e he=>by have:=Bj he;rw [getElem?_drop] at this;exact this.2
      refine .inr ⟨b,base+off*size,cap,cells,elem,fr,by simp only [AF.size];rw [hlen2],by rw [hlen2];exact hcap,hnew,k3.lt i b base hkk,hz0,hb,hth,?_,fun j e he=>hel _ e (hget j e he),fun j e c x he hx => ?_⟩
      ·have:base+(off+cap)*size≤cells.size:=hcsz;rw [add_mul] at this;omega
      ·have h8:=hT (off+j) e c x (hget j e he) hx;rw [show base+off*size+(j*size+c)=base+((off+j)*size+c) by rw [add_mul];omega];exact h8.less fun b' hb'=>by
        rcases hb' with hb'|rfl
        ·exact .inl hb'
        ·exact .inr hex
   ·cases k1
  ·cases k1
 ·cases hk
theorem SS {C:Cfg} {rec:Rec} {pc:BE} (hrec:DY C.P rec) (hpc:B3 C.P pc) (hmix:C.P.follows .mixedOrders=true) {m j:Nat} {g:FuncId} {xs ys:List Tree} (hk:HA C rec pc m j g xs=some ys):R8 C.P j g xs ys:=by
 unfold HA at hk
 try simp only [AE] at hk
 split at hk
 ·rename_i avs t hm ht;obtain ⟨z,hz,hk⟩:=bind_some hk;intro B w avs' vs n hm' hB hc;rw [hm] at hm';cases hm';rw [show dqLT=dqAny (List Tree) from VZ _ _] at hk;refine Kp hrec hpc hmix hk n (IB hB) hc _ fun ls us h1 κ' w' res k1 k2 k3 k4 k5 => ?_;have hgrow:Grow w w':=⟨k4.os,k4.tape,k4.output,k4.size,fun b hb=>k4.keep b hb fun he=>DE he⟩
  have hlen:us.length=ls.length:=by simpa using k2.1
  have hleaf:∀(i:Nat) (x:AV) (u:Value),ls[i]? = some x→us[i]? = some u→AP B κ' h1 w' x u:=fun i x u hx hu=>by have:=k2.2 i x hx;rw [BQ] at this;simp only [List.getD,hu,Option.getD_some] at this;exact this
  have hend:∀(x:Tree) (u:Value),us[j]? = some u→Kk C.P h1 (C9 C.P g) ls j x=some ys→us.length=ys.length∧ys[j]? = some x∧
    ∀(i:Nat) (y:Tree) (v:Value),i≠j→ys[i]? = some y→us[i]? = some v→BS w' (fun b=>B b∨Ex κ' h1 b) y v:=fun x u hu he=>by
   unfold Kk at he
   try simp only [AE] at he
   obtain ⟨hts,he⟩:=AH he;have hjl:j<ls.length:=by rw [← hlen];exact AT hu
   obtain ⟨pa,he1,l1,_,t1⟩:=Cc (P:=C.P) he k3 (vs:=us.take j) (by simp [hlen]) (fun i x v hx hv=>hleaf i x v (by rw [getElem?_take] at hx;split at hx;exact hx;cases hx) (by rw [getElem?_take] at hv;split at hv;exact hv;cases hv));obtain ⟨pb,he2,l2,_,t2⟩:=Cc (P:=C.P) he1 k3 (vs:=us.drop (j+1)) (by simp [hlen]) (fun i x v hx hv=>hleaf (j+1+i) x v (by rw [getElem?_drop] at hx;exact hx) (by rw [getElem?_drop] at hv;exact hv));cases he2;have la:pa.length=j:=by rw [l1];simp;omega
   have lb:pb.length=ls.length-(j+1):=by rw [l2];simp
   refine ⟨by simp [la,lb];omega,by rw [getElem?_append_right (by omega),la];simp,fun i y v hij hy hv => ?_⟩;rcases lt_or_ge i j with hi|hi
   ·rw [getElem?_append_left (by omega)] at hy;exact (t1 i y v hy (by rw [getElem?_take_of_lt hi];exact hv)).less fun b hb=>hb.imp id fun e=>⟨rfl,e⟩
   ·rw [getElem?_append_right (by omega),la,show i-j=(i-j-1)+1 by omega,getElem?_cons_succ] at hy;exact (t2 (i-j-1) y v hy (by rw [getElem?_drop,show j+1+(i-j-1)=i by omega];exact hv)).less fun b hb=>hb.imp id fun e=>⟨rfl,e⟩
  have hbld:∀(B2:Nat→Prop) (κ2:A0) (h2:Heap) (w2:World) (leaf:Nat→AV),(∀i x,us[i]? = some x→AP B2 κ2 h2 w2 (leaf i) x)→∃rv,CO C.P g leaf=some rv∧AP B2 κ2 h2 w2 rv res:=fun B2 κ2 h2 w2 leaf hl=>k5 B2 κ2 h2 w2 leaf hl;split at k1
  ·rename_i hj;obtain ⟨u,hu⟩:∃u,us[j]? = some u:=⟨us[j]'(by rw [hlen];exact AT hj),getElem?_eq_getElem _⟩
   obtain ⟨e1,e2,e3⟩:=hend _ u hu k1;have hv:=hleaf j _ u hj hu;cases hv with
   |nilsl a0=>exact ⟨res,us,z,[],_,rfl,hgrow,e2,e1,hu,.inl ⟨rfl,a0,rfl⟩,(fun i y v hij hy hv=>(e3 i y v hij hy hv).less fun b hb=>hb.imp id fun ⟨o,nn,cc,e,hc⟩=>by injection e with e1 e2 e3;omega),hbld⟩
  ·rename_i i ver off len hj;obtain ⟨u,hu⟩:∃u,us[j]? = some u:=⟨us[j]'(by rw [hlen];exact AT hj),getElem?_eq_getElem _⟩
   split at k1
   ·rename_i ver' size es hi;obtain ⟨hvs,k1'⟩:=AH k1;clear k1;obtain ⟨rfl,rfl⟩:=hvs;obtain ⟨e1,e2,e3⟩:=hend _ u hu k1';have hv:=hleaf j _ u hj hu;cases hv with
    |sref _ _ _ _ _ _ _ hsr=>
     obtain ⟨kk,hkk⟩:=Bk k3 hi;obtain ⟨_,hle,hmm⟩:=hsr kk _ hkk hi rfl;simp only [AF.len] at hle;have ho:=k3.obj i _ _ hi hkk;rcases hmm with ⟨rfl,hof,a0,rfl⟩|⟨b,base,rfl,cap,rfl,hcap',hcs⟩
     ·exact ⟨res,us,size,_,_,rfl,hgrow,e2,e1,hu,.inl ⟨by simp,a0,rfl⟩,(fun i y v hij hy hv=>(e3 i y v hij hy hv).less fun b hb=>hb.imp id fun ⟨o,nn,cc,e,hc⟩=>by injection e with e1 e2 e3;omega),hbld⟩
     ·have hcap:len≤cap:=by simp only [AF.len] at hcap';omega
      obtain ⟨hz0,cells,elem,fr,hb,hth,hbs,hel,hT⟩:=ho;have hex:Ex κ' h1 b:=⟨i,base,_,hkk,hi,rfl⟩
      have hnew:w.heap.size≤b:=by
       rcases k4.ex b hex with h|h
       ·exact (DE h).elim
       ·exact h
      have hcsz:=hcs cells elem _ hb;have hlen2:((es.drop off).take len).length=len:=by simp;omega
      have hget:∀(j:Nat) (e:List Tree),((es.drop off).take len)[j]? = some e→es[off+j]? = some e:=fun j e he=>by have:=Bj he;rw [getElem?_drop] at this;exact this.2
      refine ⟨res,us,size,_,_,rfl,hgrow,e2,e1,hu,.inr ⟨b,base+off*size,cap,cells,elem,fr,by simp only [AF.size];rw [hlen2],by rw [hlen2];exact hcap,hnew,k3.lt i b base hkk,hz0,hb,hth,?_,fun j e he=>hel _ e (hget j e he),fun j e c x he hx => ?_⟩,(fun i2 y v hij hy hv=>(e3 i2 y v hij hy hv).less fun b2 hb2=>hb2.imp id fun ⟨o,nn,cc,e,hc⟩=> ?_),hbld⟩
      ·have:base+(off+cap)*size≤cells.size:=hcsz;rw [add_mul] at this;omega
      ·have h8:=hT (off+j) e c x (hget j e he) hx;rw [show base+off*size+(j*size+c)=base+((off+j)*size+c) by rw [add_mul];omega];exact h8.less fun b' hb'=>by
        rcases hb' with hb'|rfl
        ·exact .inl hb'
        ·exact .inr hex
      ·injection e with e4 e5 e6;injection e4 with e4;injection e4 with e7;rw [← e7];exact hex
   ·cases k1
  ·cases k1
 ·cases hk
theorem Gm {C:Cfg} (hmix:C.P.follows .mixedOrders=true) {pc:BE} (hpc:B3 C.P pc) (n:Nat):∀d,DY C.P (inl C pc n d)
 |0=>fun R r h K res hk=>(by cases hk)
 |d+1=>fun R r h K res hk=>by
  cases r with
  |fn g avs=>exact call_ok (Gm hmix hpc n d) hpc hmix hk
  |yield i args=>exact Up (Gm hmix hpc n d) hpc hmix hk
def Mu (C:Cfg):Prop:=∀g xs ys,g<OWN→C.ext g xs=some ys→G0 C.P g xs ys
theorem H8 {C:Cfg} {pc:BE} (hext:Mu C) (hpc:B3 C.P pc):B3 C.P (pcx C pc):=fun g xs ys hk=>by
 unfold pcx at hk;split at hk
 ·split at hk
  ·rename_i hg;split at hk
   ·rename_i he;cases hk;rw [if_pos hg];exact hext g [] _ hg he
   ·exact hpc g _ _ hk
  ·exact hpc g _ _ hk
 ·exact hpc g _ _ hk
theorem D1 {C:Cfg} (hmix:C.P.follows .mixedOrders=true) (hext:Mu C):∀n,B3 C.P (AL C n)
 |0=>fun g xs ys hk=>(by cases hk)
 |n+1=>fun g xs ys hk=>by
  unfold AL at hk;by_cases hg:g<OWN
  ·rw [if_pos hg] at hk ⊢;split at hk
   ·rename_i ys' he;cases hk;exact hext g xs _ hg he
   exact SP (Gm hmix (H8 hext (D1 hmix hext n)) n C.depth) (H8 hext (D1 hmix hext n)) hmix hk
  ·rw [if_neg hg] at hk ⊢;by_cases hg2:g<EH
   ·rw [if_pos hg2] at hk ⊢;exact Uv (Gm hmix (H8 hext (D1 hmix hext n)) n C.depth) (H8 hext (D1 hmix hext n)) hmix hk
   ·rw [if_neg hg2] at hk ⊢;exact SS (Gm hmix (H8 hext (D1 hmix hext n)) n C.depth) (H8 hext (D1 hmix hext n)) hmix hk
theorem QY {C:Cfg} (hmix:C.P.follows .mixedOrders=true) (hext:Mu C) {n:Nat} {g:FuncId} {xs ys:List Tree} (hg:g<OWN) (hk:AL C n g xs=some ys):G0 C.P g xs ys:=by have:=D1 hmix hext n g xs ys hk;rwa [if_pos hg] at this
#print axioms QY
end Ab
namespace Ab
open Go
variable {P:Program} {w w':World} {H:Type} {enc:TypeId×Value→H} {base:Nat} {held:Bool}
def cover (P:Program):List Field→Nat→Option Nat
 |[],off=>some off
 |f::fs,off=>if f.offset=off then cover P fs (off+P.cellsOf f.type) else none
def M3 (P:Program):Nat→TypeId→Bool
 |0,_=>false
 |d+1,t=>match P.underlying t with
  |some .bool|some (.int _)|some .string=>true
  |some (.slice e)=>P.cellsOf e != 0&&M3 P d e
  |some (.struct fs)=>cover P fs.toList 0==some (P.cellsOf t)&&fs.toList.all fun f=>M3 P d f.type
  |_=>false
def Eu (Ty:TypeId→List Tree→Prop):List TypeId→List Tree→Prop
 |[],ts=>ts=[]
 |t::l,ts=>∃a b,ts=a++b∧Ty t a∧Eu Ty l b
def Typed (P:Program):Nat→TypeId→List Tree→Prop
 |0,_,_=>False
 |d+1,t,ts=>match P.underlying t with
  |some .bool=>∃b,ts=[.bool b]
  |some (.int k)=>∃n,ts=[.int k n]∧(Lit.int k n).wf=true
  |some .string=>∃s:ByteArray,ts=[.str s]∧s.size≤maxLen
  |some (.slice e)=>∃es,ts=[.sl (P.cellsOf e) es]∧es.length≤maxLen∧∀x∈es,Typed P d e x
  |some (.struct fs)=>Eu (Typed P d) (fs.toList.map (·.type)) ts
  |_=>False
def Cells (w:World) (ts:List Tree) (cs:List Value):Prop:=ts.length=cs.length∧∀(j:Nat) y v,ts[j]? = some y→cs[j]? = some v→BS w (fun _=>False) y v
theorem Cells.append {ts ts':List Tree} {cs cs':List Value} (h1:Cells w ts cs) (h2:Cells w ts' cs'):Cells w (ts++ts') (cs++cs'):=by
 refine ⟨by simp [h1.1,h2.1],fun j y v hy hv => ?_⟩;rcases lt_or_ge j ts.length with hj|hj
 ·rw [getElem?_append_left hj] at hy;rw [getElem?_append_left (by rw [← h1.1];exact hj)] at hv;exact h1.2 j y v hy hv
 ·rw [getElem?_append_right hj] at hy;rw [getElem?_append_right (by rw [← h1.1];exact hj),← h1.1] at hv;exact h2.2 _ y v hy hv
theorem Cells.one {y:Tree} {v:Value} (h:BS w (fun _=>False) y v):Cells w [y] [v]:=by
 refine ⟨rfl,fun j z u hz hu => ?_⟩;cases j with
 |zero=>cases hz;cases hu;exact h
 |succ j=>simp at hz
theorem KU {α:Type} {p:Nat→α→Prop}:∀(len:Nat),(∀i,i<len→∃x,p i x)→∃l:List α,l.length=len∧∀i x,l[i]? = some x→p i x
 |0,_=>⟨[],rfl,fun i x hx=>by simp at hx⟩
 |n+1,h=>by
  obtain ⟨l,h1,h2⟩:=KU n fun i hi=>h i (by omega);obtain ⟨x,hx⟩:=h n (by omega);refine ⟨l++[x],by simp [h1],fun i y hy => ?_⟩;rcases lt_or_ge i n with hi|hi
  ·rw [getElem?_append_left (by omega)] at hy;exact h2 i y hy
  ·rw [getElem?_append_right (by omega)] at hy;have:=AT hy;simp at this;have e:i=n:=by omega
   subst e;rw [h1] at hy;simp at hy;subst hy;exact hx
theorem Lp {α β:Type} {f:α→Option β}:∀{l:List α} {ys:List β},l.mapM f=some ys→ys.length=l.length∧∀(i:Nat) x,l[i]? = some x→∃y,ys[i]? = some y∧f x=some y
 |[],ys,h=>by simp at h;subst h;exact ⟨rfl,fun i x hx=>by simp at hx⟩
 |a::l,ys,h=>by
  rw [mapM_cons] at h;cases ha:f a with
  |none=>rw [ha] at h;cases h
  |some b=>
   rw [ha] at h;cases hl:l.mapM f with
   |none=>rw [hl] at h;cases h
   |some bs=>
    rw [hl] at h;cases h;obtain ⟨h1,h2⟩:=Lp hl;refine ⟨by simp [h1],fun i x hx => ?_⟩;cases i with
    |zero=>simp at hx;subst hx;exact ⟨b,rfl,ha⟩
    |succ i=>simpa using h2 i x (by simpa using hx)
theorem mapM_congr {α β:Type} {f g:α→Option β}:∀{l:List α},(∀x∈l,g x=f x)→l.mapM g=l.mapM f
 |[],_=>by simp
 |a::l,h=>by rw [mapM_cons,mapM_cons,h a (by simp),mapM_congr fun x hx=>h x (by simp [hx])]
theorem Kl {α β:Type} {f:α→Option β}:∀{l:List α} (ys:List β),ys.length=l.length→(∀(i:Nat) x,l[i]? = some x→∃y,ys[i]? = some y∧f x=some y)→l.mapM f=some ys
 |[],[],_,_=>by simp
 |[],y::ys,h,_=>by simp at h
 |a::l,[],h,_=>by simp at h
 |a::l,y::ys,h,hf=>by
  obtain ⟨z,h1,h2⟩:=hf 0 a rfl;cases h1;have ih:=Kl ys (by simpa using h) fun i x hx=>by simpa using hf (i+1) x (by simpa using hx)
  rw [mapM_cons,h2,ih];rfl
theorem G8 {n i:Nat} (h:i<n):(List.range n)[i]? = some i:=by simp [h]
theorem Ns {a:Addr} {n:Nat} {cs:List Value} (h:w.cells? base a n=some cs):base≤a.block∧cs.length=n∧∀i v,cs[i]? = some v→w.cell? (a.add i)=some v:=by
 unfold World.cells? at h;obtain ⟨hb,h⟩:=AH h;obtain ⟨h1,h2⟩:=Lp h;have h1':cs.length=n:=by simpa using h1
 refine ⟨hb,h1',fun i v hv => ?_⟩;have hi:i<n:=by have:=AT hv;omega
 obtain ⟨y,hy,hc⟩:=h2 i i (G8 hi);rw [hv] at hy;cases hy;exact hc
theorem J1 {a:Addr} {v:Value} (h:w.cell? a=some v):a.spot=none∧a.block<w.heap.size:=by
 unfold World.cell? at h;split at h
 ·rename_i c e f hb;split at h
  ·cases h
  ·rename_i hs;exact ⟨by simpa using hs,C1 hb⟩
 ·cases h
theorem Qg (b o i:Nat):(⟨b,o,none⟩:Addr).add i=⟨b,o+i,none⟩:=by
 simp only [Addr.add];split
 ·rename_i h;simp [h]
 ·rfl
theorem IY {cs:List Value} (Ty:TypeId→List Tree→Prop):∀(fs:List Field) (off m:Nat),cover P fs off=some m→m≤cs.length→(∀f∈fs,∃ts,Ty f.type ts∧Cells w ts ((cs.drop f.offset).take (P.cellsOf f.type)))→
  off≤m∧∃ts,Eu Ty (fs.map (·.type)) ts∧Cells w ts ((cs.drop off).take (m-off))
 |[],off,m,hc,hm,_=>by cases hc;exact ⟨le_refl _,[],rfl,by simp,fun j y v hy=>by simp at hy⟩
 |f::fs,off,m,hc,hm,hall=>by
  simp only [cover] at hc;obtain ⟨ho,hc⟩:=AH hc;obtain ⟨h1,ts,h2,h3⟩:=IY Ty fs _ m hc hm fun g hg=>hall g (by simp [hg]);obtain ⟨ts0,h4,h5⟩:=hall f (by simp);refine ⟨by omega,ts0++ts,⟨ts0,ts,rfl,h4,h2⟩,?_⟩;have e:(cs.drop off).take (m-off)=(cs.drop f.offset).take (P.cellsOf f.type)++(cs.drop (off+P.cellsOf f.type)).take (m-(off+P.cellsOf f.type)):=by rw [ho,show m-off=P.cellsOf f.type+(m-(off+P.cellsOf f.type)) from by omega,List.take_add,List.drop_drop]
  rw [e];exact h5.append h3
theorem Mw {spare:Nat→Bool}:∀(d:Nat) {t:TypeId} {fuel:Nat} {cs:List Value} {x:DataW H×List MemPlace},M3 P d t=true→DataW.trod enc P w base spare held fuel t cs=some x→∃ts,Typed P d t ts∧Cells w ts cs:=by
 intro d
 induction d with
 |zero=>intro t fuel cs x ho;cases ho
 |succ d ih=>
  intro t fuel cs x ho h;unfold M3 at ho;unfold Typed;cases hu:P.underlying t with
  |none=>rw [hu] at ho;cases ho
  |some u=>
   rw [hu] at ho;cases u with
   |bool=>
    obtain ⟨b,rfl,_⟩:=DataW.trod_bool hu h;exact ⟨_,⟨b,rfl⟩,Cells.one (.bool b)⟩
   |int k=>
    obtain ⟨n,rfl,_,hw⟩:=DataW.trod_int hu h;exact ⟨_,⟨n,rfl,hw⟩,Cells.one (.int k n)⟩
   |string=>
    obtain ⟨n,rfl,_,hw⟩:=DataW.trod_string hu h;exact ⟨_,⟨n,rfl,hw⟩,Cells.one (.str n)⟩
   |slice e=>
    simp only [and_eq_true,bne_iff_ne,ne_eq] at ho;rcases Go.Deep.open_slice hu h with ⟨rfl,_⟩|⟨a,len,cap,m,n,D,Pl,rfl,hb,hl,hm,hmm,_,hi⟩
    ·exact ⟨_,⟨[],rfl,zero_le _,fun x hx=>by cases hx⟩,Cells.one (.nil _ _ _)⟩
    ·have hlm:len≤m:=by rw [hmm];split<;>omega
     obtain ⟨es,he1,he2⟩:=KU (p:=fun i ts=>Typed P d e ts∧∃cs',w.cells? base (a.add (i*P.cellsOf e)) (P.cellsOf e)=some cs'∧Cells w ts cs') len fun i him=>by obtain ⟨cs',h1,h2⟩:=hi i (by omega);obtain ⟨ts,h3,h4⟩:=ih ho.2 h2;exact ⟨ts,h3,cs',h1,h4⟩
     refine ⟨_,⟨es,rfl,by omega,fun x hx => ?_⟩,?_⟩
     ·obtain ⟨i,hi2,hx2⟩:=List.getElem_of_mem hx;exact (he2 i x (by rw [getElem?_eq_getElem hi2,hx2])).1
     ·cases hes:es with
      |nil=>
       rw [hes] at he1;obtain rfl:len=0:=he1.symm;exact Cells.one (.nil _ _ _)
      |cons e0 es0=>
       have hsp:a.spot=none:=by
        have h0:es[0]? = some e0:=by rw [hes];rfl
        obtain ⟨_,cs',hc,hcl⟩:=he2 0 e0 h0;obtain ⟨_,hlen,hget⟩:=Ns hc;have hcc:0<cs'.length:=by rw [hlen];exact pos_of_ne_zero ho.1
        have hg:=hget 0 cs'[0] (getElem?_eq_getElem hcc);have:=(J1 hg).1;simpa [Addr.add] using this
       obtain ⟨ab,ao,asp⟩:=a;dsimp only at hsp;subst hsp;have key:∀(j:Nat) (el:List Tree),es[j]? = some el→el.length=P.cellsOf e∧∀(c:Nat) (y:Tree),el[c]? = some y→∃v,w.cell? ⟨ab,ao+(j*P.cellsOf e+c),none⟩=some v∧ab<w.heap.size∧BS w (fun _=>False) y v:=by
        intro j el hj;obtain ⟨_,cs',hc,hcl⟩:=he2 j el hj;obtain ⟨_,hlen,hget⟩:=Ns hc;refine ⟨hcl.1.trans hlen,fun c y hy => ?_⟩;have hcc:c<cs'.length:=by rw [← hcl.1];exact AT hy
        have hg:=hget c cs'[c] (getElem?_eq_getElem hcc);rw [Qg,Qg,add_assoc] at hg;exact ⟨cs'[c],hg,(J1 hg).2,hcl.2 c y _ hy (getElem?_eq_getElem hcc)⟩
       have h0:es[0]? = some e0:=by rw [hes];rfl
       obtain ⟨hl0,hc0⟩:=key 0 e0 h0;have hne:0<e0.length:=by rw [hl0];exact pos_of_ne_zero ho.1
       obtain ⟨v0,_,hbl,_⟩:=hc0 0 e0[0] (getElem?_eq_getElem hne);rw [← hes,← he1];refine Cells.one (.sl _ es ab ao cap (fun j c=>(w.cell? ⟨ab,ao+(j*P.cellsOf e+c),none⟩).getD undef) (by omega) hbl (fun hf=>hf) (fun j el hj=>(key j el hj).1) (fun j el c y hj hy => ?_) (fun j el c y hj hy => ?_))
       ·obtain ⟨v,h1,_⟩:=(key j el hj).2 c y hy;rw [h1];rfl
       ·obtain ⟨v,h1,_,h4⟩:=(key j el hj).2 c y hy;rw [h1];exact h4
   |struct fs=>
    simp only [and_eq_true,beq_iff_eq] at ho;obtain ⟨xs,n,_,_,hlen,hxl,hf⟩:=DataW.trod_struct hu h;obtain ⟨_,ts,h1,h2⟩:=IY (w:=w) (cs:=cs) (Typed P d) fs.toList 0 _ ho.1 (by omega) fun f hfm=>by
     obtain ⟨i,hi,he⟩:=List.getElem_of_mem hfm;have hg:fs[i]? = some f:=by rw [← getElem?_toList,getElem?_eq_getElem hi,he]
     have:=hf i f hg;have hil:i<xs.length:=by rw [hxl];simpa using hi
     rw [getElem?_eq_getElem hil] at this;exact ih (all_eq_true.1 ho.2 f hfm) this
    refine ⟨ts,h1,?_⟩;simpa [← hlen] using h2
   |_=>cases ho
theorem Rw {a:Addr} {n:Nat} {cs:List Value} (hk:∀b,b<w.heap.size→w'.heap[b]? = w.heap[b]?) (h:w.cells? base a n=some cs):w'.cells? base a n=some cs:=by
 rw [← h];unfold World.cells? at h ⊢;obtain ⟨hb,h⟩:=AH h;rw [if_pos hb,if_pos hb];obtain ⟨h1,h2⟩:=Lp h;refine mapM_congr fun i hi => ?_;have hin:i<n:=by simpa using hi
 obtain ⟨y,_,hc⟩:=h2 i i (G8 hin);unfold World.cell? at hc ⊢;rw [hk];have:=J1 (w:=w) (a:=a.add i) (v:=y) hc;exact this.2
theorem TH {sp:Nat→Bool} (hk:∀b,b<w.heap.size→w'.heap[b]? = w.heap[b]?):∀(d:Nat) {t:TypeId} {fuel:Nat} {cs:List Value} {x:DataW H×List MemPlace},M3 P d t=true→DataW.trod enc P w base (fun _=>true) held fuel t cs=some x→
  (∀p∈x.2,sp p.block=true)→DataW.trod enc P w' base sp held fuel t cs=some x:=by
 intro d
 induction d with
 |zero=>intro t fuel cs x ho;cases ho
 |succ d ih=>
  intro t fuel cs x ho h hp;unfold M3 at ho;cases hu:P.underlying t with
  |none=>rw [hu] at ho;cases ho
  |some u=>
   rw [hu] at ho;cases u with
   |bool=>
    cases fuel with
    |zero=>cases h
    |succ n=>
     obtain ⟨b,rfl,rfl⟩:=DataW.trod_bool hu h;simp [DataW.trod,hu]
   |int k=>
    cases fuel with
    |zero=>cases h
    |succ n=>
     obtain ⟨b,rfl,rfl,hw⟩:=DataW.trod_int hu h;simp [DataW.trod,hu,hw]
   |string=>
    cases fuel with
    |zero=>cases h
    |succ n=>
     obtain ⟨b,rfl,rfl,hw⟩:=DataW.trod_string hu h;simp [DataW.trod,hu,hw]
   |slice e=>
    simp only [and_eq_true,bne_iff_ne,ne_eq] at ho;rcases DataW.trod_slice hu h with ⟨rfl,rfl⟩|⟨a,len,cap,elems,rest,n,rfl,rfl,hx,hb,hl,hm,hel,he,hr,_⟩
    ·cases fuel with
     |zero=>cases h
     |succ n=>simp [DataW.trod,hu]
    ·obtain ⟨hrl,hr⟩:=hr rfl;have hmem:∀y∈elems++rest,∀p∈y.2,sp p.block=true:=fun y hy p hpy=>hp p (by rw [hx];exact mem_append_right _ (List.mem_flatMap.2 ⟨y,hy,hpy⟩));have step:∀(i:Nat) (y:DataW H×List MemPlace),y∈elems++rest→(w.cells? base (a.add (i*P.cellsOf e)) (P.cellsOf e)).bind (DataW.trod enc P w base (fun _=>true) held n e)=some y→
       (w'.cells? base (a.add (i*P.cellsOf e)) (P.cellsOf e)).bind (DataW.trod enc P w' base sp held n e)=some y:=by
      intro i y hy hi;obtain ⟨cs',h1,h2⟩:=bind_some hi;rw [Rw hk h1];exact ih ho.2 h2 (hmem y hy)
     have e1:(List.range len).mapM (fun i=>(w'.cells? base (a.add (i*P.cellsOf e)) (P.cellsOf e)).bind (DataW.trod enc P w' base sp held n e))=some elems:=Kl elems (by simp [hel]) fun i j hij=>by
      have hil:i<len:=by have:=AT hij;simpa using this
      have:j=i:=by rw [G8 hil] at hij;cases hij;rfl
      subst this;have hj:=he j hil;have hjl:j<elems.length:=by omega
      rw [getElem?_eq_getElem hjl] at hj;exact ⟨_,getElem?_eq_getElem hjl,step j _ (mem_append_left _ (getElem_mem hjl)) hj⟩
     have e2:(if sp a.block=true then (List.range (cap-len)).mapM (fun j=>(w'.cells? base (a.add ((len+j)*P.cellsOf e)) (P.cellsOf e)).bind (DataW.trod enc P w' base sp held n e)) else some [])=some rest:=by
      by_cases hsp:sp a.block=true
      ·rw [if_pos hsp];refine Kl rest (by simp [hrl]) fun i j hij => ?_;have hil:i<cap-len:=by have:=AT hij;simpa using this
       have:j=i:=by rw [G8 hil] at hij;cases hij;rfl
       subst this;have hj:=hr j hil;have hjl:j<rest.length:=by omega
       rw [getElem?_eq_getElem hjl] at hj;exact ⟨_,getElem?_eq_getElem hjl,step (len+j) _ (mem_append_right _ (getElem_mem hjl)) hj⟩
      ·rw [if_neg hsp];cases hre:rest with
       |nil=>rfl
       |cons y ys=>
        exfalso;refine hsp (hp (.cell a.block (a.off+0)) ?_);rw [hx];refine mem_append_left _ (mem_map.2 ⟨0,mem_range.2 ?_,rfl⟩);rw [hre];exact Nat.mul_pos (by simp;omega) (pos_of_ne_zero ho.1)
     unfold DataW.trod;rw [hu];dsimp only;rw [if_pos ⟨hb,hl,hm⟩,e1];simp only [Option.bind_some];rw [e2,hx];rfl
   |struct fs=>
    simp only [and_eq_true,beq_iff_eq] at ho;obtain ⟨xs,n,rfl,hx,hlen,hxl,hf⟩:=DataW.trod_struct hu h;have e1:(fs.toList.mapM fun f=>DataW.trod enc P w' base sp held n f.type ((cs.drop f.offset).take (P.cellsOf f.type)))=some xs:=Kl xs (by simpa using hxl) fun i f hif=>by
     have hg:fs[i]? = some f:=by rw [← getElem?_toList];exact hif
     have hil:i<xs.length:=by rw [hxl];have:=AT hif;simpa using this
     have hj:=hf i f hg;rw [getElem?_eq_getElem hil] at hj;refine ⟨_,getElem?_eq_getElem hil,ih (all_eq_true.1 ho.2 f (mem_of_getElem? hif)) hj fun p hpy=>hp p ?_⟩;rw [hx];exact List.mem_flatMap.2 ⟨_,getElem_mem hil,hpy⟩
    unfold DataW.trod;rw [hu];split<;>simp_all
   |_=>cases ho
end Ab
namespace Ab
open Go Go.RowKit Go.WideShapes Go.ChangeShapes
variable {P:Program} {w w':World} {H:Type} {enc:TypeId×Value→H} {base:Nat} {held:Bool}
theorem Grow.below (g:Grow w w'):Below w.heap.size w w':=⟨g.os,g.tape,g.output,g.size,fun b hb=>g.block b hb⟩
theorem Qp {t:TypeId} {n:Nat} (h:BZ P t=some n):P.cellsOf t=n:=by unfold BZ at h;unfold Program.cellsOf;rw [h];rfl
theorem JL {d:Nat} {spare:Nat→Bool} {b0:Nat}:∀{ts:List TypeId} {vs:List Value} {ds:List (DataW H)} {p:List MemPlace},ts.all (M3 P d)=true→(ts.all fun t=>(BZ P t).isSome)=true→
  (∀(j:Nat) t v,ts[j]? = some t→vs[j]? = some v→Value.okWide P w .any b0 t v)→DataW.TrodAll enc P w base spare held ts vs ds p→
  ∃xs,Eu (Typed P d) ts xs∧∀(leaf:Nat→AV) (off:Nat),(∀j x,xs[j]? = some x→leaf (off+j)= .t x)→∃avs,B7 P leaf ts off=some avs∧AZ (fun _=>False) [] [] w avs vs.toArray
 |[],vs,ds,p,_,_,_,h=>by obtain ⟨rfl,rfl,rfl⟩:=trodAll_nil h;exact ⟨[],rfl,fun leaf off _=>⟨[],rfl,rfl,fun j x hx=>by simp at hx⟩⟩
 |t::ts,vs,ds,p,hok,hsz,hval,h=>by
  obtain ⟨v,vs',d1,ds',p1,q,rfl,rfl,rfl,h1,h2⟩:=trodAll_cons h;simp only [all_cons,and_eq_true] at hok hsz;obtain ⟨xs,h3,h4⟩:=JL hok.2 hsz.2 (fun j t' v' ht hv=>hval (j+1) t' v' (by simpa using ht) (by simpa using hv)) h2;obtain ⟨fuel,h1⟩:=h1;obtain ⟨ys,h5,h6⟩:=Mw d hok.1 h1;have hv:=hval 0 t v rfl rfl;obtain ⟨n,hn⟩:=Option.isSome_iff_exists.1 hsz.1;have hc:=Qp hn;refine ⟨ys++xs,⟨ys,xs,rfl,h5,h3⟩,fun leaf off hl => ?_⟩;obtain ⟨avs,e1,e2⟩:=h4 leaf (off+ys.length) fun j x hx=>by have:=hl (ys.length+j) x (by rw [getElem?_append_right (by omega)];simpa using hx);rwa [← add_assoc] at this
  have hT:∀j v',v.cells.toList[j]? = some v'→AP (fun _=>False) [] [] w (leaf (off+j)) v':=fun j v' hv'=>by
   have hj:j<ys.length:=by rw [h6.1];exact AT hv'
   have hg:ys[j]? = some ys[j]:=getElem?_eq_getElem hj;rw [hl j ys[j] (by rw [getElem?_append_left hj];exact hg)];exact .t _ _ ((h6.2 j _ v' hg hv').less fun b hb=>by
    rcases hb with hb|hb
    ·exact hb
    ·exact (DE hb).elim)
  have leafCase:Ay P t=some false→v.cells = #[v]→∃avs,B7 P leaf (t::ts) off=some avs∧AZ (fun _=>False) [] [] w avs (v::vs').toArray:=by
   intro ha hcv;have hl1:ys.length=1:=by rw [h6.1,hcv];rfl
   refine ⟨leaf off::avs,?_,CJ (by simpa using hT 0 v (by rw [hcv];rfl)) e2⟩;rw [hl1] at e1;cases hs:BZ P t<;>simp only [B7,Gh,ha,hs,e1,map_some]
  have hok1:=hok.1;cases d with
  |zero=>cases hok1
  |succ d=>
   unfold M3 at hok1;cases hu:P.underlying t with
   |none=>rw [hu] at hok1;cases hok1
   |some u=>
    rw [hu] at hok1;cases u with
    |bool=>obtain ⟨b,rfl⟩:=okWide_bool hu hv;exact leafCase (by simp [Ay,hu]) rfl
    |int k=>obtain ⟨b,rfl⟩:=okWide_int hu hv;exact leafCase (by simp [Ay,hu]) rfl
    |string=>obtain ⟨b,rfl⟩:=okWide_string hu hv;exact leafCase (by simp [Ay,hu]) rfl
    |slice e=>obtain ⟨a,len,cap,rfl⟩:=okWide_slice hu hv;exact leafCase (by simp [Ay,hu]) rfl
    |struct fs=>
     obtain ⟨cs,rfl,hcs⟩:=okWide_struct hu hv;have ha:Ay P t=some true:=by simp [Ay,hu]
     have hl1:ys.length=n:=by rw [h6.1];simp [Value.cells,hcs,hc]
     refine ⟨.agg (A2 leaf off n)::avs,?_,CJ (.agg _ _ (by simp [A2,hcs,hc]) fun j y hy => ?_) e2⟩
     ·rw [hl1] at e1;simp only [B7,Gh,ha,hn,e1,map_some]
     ·have hj:j<n:=by have:=AT hy;simpa [A2] using this
      rw [D7 leaf off _ _ hj] at hy;cases hy;have hj2:j<cs.size:=by omega
      exact hT j _ (by simp [Value.cells,Array.getD,hj2])
    |_=>cases hok1
theorem KF {spare:Nat→Bool}:∀{ts:List TypeId} {vs:List Value} {ds:List (DataW H)} {p:List MemPlace},DataW.TrodAll enc P w base spare held ts vs ds p→ds.length=ts.length
 |[],vs,ds,p,h=>by obtain ⟨rfl,rfl,rfl⟩:=trodAll_nil h;rfl
 |t::ts,vs,ds,p,h=>by obtain ⟨v,vs',d1,ds',p1,q,rfl,rfl,rfl,h1,h2⟩:=trodAll_cons h;simp [KF h2]
theorem IW {sp:Nat→Bool} (hk:∀b,b<w.heap.size→w'.heap[b]? = w.heap[b]?) {d:Nat}:∀{ts:List TypeId} {vs:List Value} {ds:List (DataW H)} {p:List MemPlace},ts.all (M3 P d)=true→
  DataW.TrodAll enc P w base (fun _=>true) held ts vs ds p→(∀x∈p,sp x.block=true)→DataW.TrodAll enc P w' base sp held ts vs ds p
 |[],vs,ds,p,_,h,_=>by obtain ⟨rfl,rfl,rfl⟩:=trodAll_nil h;exact rfl
 |t::ts,vs,ds,p,hok,h,hp=>by obtain ⟨v,vs',d1,ds',p1,q,rfl,rfl,rfl,h1,h2⟩:=trodAll_cons h;simp only [all_cons,and_eq_true] at hok;obtain ⟨fuel,h1⟩:=h1;exact trodAll_cons_mk ⟨fuel,TH hk d hok.1 h1 fun x hx=>hp x (mem_append_left _ hx)⟩ (IW hk hok.2 h2 fun x hx=>hp x (mem_append_right _ hx))
theorem M1 {f:Func} {s:ChangeSpec} {apart fresh handsOn again:Bool} {W W':World} {args:Array Value} {v:Value} {ds gs:List (DataW H)} {before pa pv:List MemPlace}
  (hW:DataW.Whole enc P f.params.toList s.vars apart W args.toList ds gs before)
  (hres:∀(b:Nat) (sp:Nat→Bool) (hd:Bool),DataW.TrodAll enc P W' b sp hd f.resultTypes.toList (v.resultList f.resultTypes.size) (s.fn H (ds++gs)).results [])
  (hargs:∀sp:Nat→Bool,(∀p∈before,sp p.block=true)→DataW.TrodAll enc P W' 0 sp true f.params.toList args.toList (s.fn H (ds++gs)).args pa)
  (hvars:∀sp:Nat→Bool,(∀p∈before,sp p.block=true)→DataW.TrodVars enc P W' sp s.vars (s.fn H (ds++gs)).vars pv)
  (hps:before=pa++pv) (hb:Below W.heap.size W W')
  (hok:∀(j:Nat) (t:TypeId) (r:Value),f.resultTypes[j]? = some t→(v.resultList f.resultTypes.size)[j]? = some r→Value.okWide P W' .any 0 t r) :
  s.post enc P f apart fresh handsOn again W args v W':=by
 have hlt:∀p∈before,p.block<W.heap.size:=fun p hp=>hW.lt p hp;have hold:∀p∈before,(fun b=>decide (b<W.heap.size)) p.block=true:=fun p hp=>by simpa using hlt p hp
 refine ⟨ds,gs,before,[],pa,pv,hW,hres _ _ _,hargs _ hold,hvars _ hold,World.keptBut_mono (fun p hp=>⟨hp,?_⟩) (hb.frame (· ∈before)),fun _ => ?_⟩
 ·rw [hps,mem_append] at hp;exact Or.inr hp
 ·obtain ⟨_,_,_,_,_,hz,hn⟩:=hW;refine ⟨hok,_,_,([]++pa)++pv,⟨[]++pa,pv,trodAll_append (hargs _ (fun _ _=>rfl)) (hres _ _ _),hvars _ (fun _ _=>rfl),rfl,?_,?_⟩,?_⟩
  ·intro b off hp;have hin:MemPlace.cell b off∈before:=by rw [hps];simpa using hp
   rw [hb.frozen (hlt _ hin)];exact hz b off hin
  ·intro ha;have:=hn ha;rw [hps] at this;simpa using this
  ·intro p hp _;rw [hps];simpa using hp
theorem I2 {C:Cfg} (hmix:C.P.follows .mixedOrders=true) (hext:Mu C) {f:FuncId} {fn:Func} {s:ChangeSpec} {bt:TypeId} {d:Nat} (hlt:f<OWN) (hf:C.P.funcs[f]? = some fn) (hvars:s.vars=[]) (hps:fn.params.toList.all (M3 C.P d)=true) (hsz:(fn.params.toList.all fun t=>(BZ C.P t).isSome)=true)
  (hrt:fn.resultTypes = #[bt]) (hbt:C.P.underlying bt=some .bool)
  (hspec:∀(H:Type) (ds:List (DataW H)),ds.length=fn.params.size→(s.fn H ds).results=[.lit (.bool true)]∧(s.fn H ds).args=ds∧(s.fn H ds).vars=[])
  (law:∀xs,Eu (Typed C.P d) fn.params.toList xs→∃n,AL C n f xs=some [.bool true])
  {apart fresh handsOn again:Bool} (W:World) (b0:Nat) (args:Array Value) (ds gs:List (DataW H)) (before:List MemPlace)
  (hval:∀(j:Nat) t v,fn.params[j]? = some t→args[j]? = some v→Value.okWide C.P W .any b0 t v)
  (hW:DataW.Whole enc C.P fn.params.toList s.vars apart W args.toList ds gs before) :
  Calls C.P f args W fun e W'=>∃v,e = .returned v∧s.post enc C.P fn apart fresh handsOn again W args v W':=by
 have hW':=hW;obtain ⟨p,q,hA,hV,hbf,hfz,hnd⟩:=hW;rw [hvars] at hV;obtain ⟨rfl,rfl⟩:=trodVars_none hV;have hlen:ds.length=fn.params.size:=by have:=KF hA;simpa using this
 obtain ⟨s1,s2,s3⟩:=hspec H (ds++[]) (by simpa using hlen);obtain ⟨xs,h1,h2⟩:=JL (b0:=b0) hps hsz (fun j t v ht hv=>hval j t v (by rw [← getElem?_toList];exact ht) (by rw [← getElem?_toList];exact hv)) hA;obtain ⟨n,hn⟩:=law xs h1;obtain ⟨avs,h3,h4⟩:=h2 (fun i =>.t (xs.getD i default)) 0 fun j x hx=>by rw [zero_add];simp [List.getD,hx]
 have hm:DA C.P f (fun i =>.t (xs.getD i default))=some avs:=by unfold DA;rw [hf];exact h3
 have h4':AZ (fun _=>False) [] [] W avs args:=by simpa using h4
 have hpure:=QY hmix hext hlt hn (fun _=>False) W avs args 0 hm (fun b hb=>hb.elim) h4';refine (callsIn_wide (n:=0)).1 (CallsIn.mono hpure ?_)
 rintro e W' ⟨v,r,rfl,hr,hv,hg,_⟩
 have hbv:v = .bool true:=by
  unfold CO at hr;rw [hf] at hr;simp only [hrt] at hr;have:Ay C.P bt=some false:=by simp [Ay,hbt]
  cases hs:BZ C.P bt<;>simp [B7,Gh,this,hs] at hr<;>subst hr<;>(cases hv with|t _ _ ht=>cases ht;rfl)
 subst hbv;refine ⟨_,rfl,?_⟩;simp only [append_nil] at hbf;subst hbf;refine M1 (pa:=before) (pv:=[]) hW' (fun b sp hd => ?_) (fun sp hsp => ?_) (fun sp _ => ?_) (by simp) hg.below ?_
 ·rw [s1,hrt];exact trodAll_cons_mk (shut_bool hbt _) trodAll_mk0
 ·rw [s2,append_nil];exact IW hg.block hps hA hsp
 ·rw [hvars,s3];rfl
 ·exact ok_one hrt rfl (okWide_bool_mk hbt _)
#print axioms I2
end Ab
namespace Ab
open Go
def hk (l:List (Nat×List Nat)) (i:Nat):List Nat:=(l.lookup i).getD []
def kinds:List IntKind:=[.i8,.i16,.i32,.i64,.u8,.u16,.u32,.u64]
def tmOf:Option Nat→AV
 |none =>.undef
 |some 0 =>.t (.bool false)
 |some (n+1)=>if n<8 then .t (.int (kinds.getD n .i64) 0) else if n=19 then .t (.str ByteArray.empty) else if 99≤n then .t (.sl (n-99) []) else .undef
abbrev HTab:=List (Nat×List (Nat×List Nat)×List (Nat×List Nat)×List (Nat×List Nat)×List (Nat×List Nat)×List (Nat×Nat)×List Nat×List Nat×List Nat×List Nat×List (Nat×Nat))
def US (tab:HTab) (f:Nat):Hints:=
 match tab.lookup f with
 |some (a,b,c,d,r,t,i,j,k,m)=>{loop:=hk a,block:=hk b,cond:=hk c,reg:=hk d,rowsz:=fun x=>(r.lookup x).getD 0,tree:=t.contains,imm:=i.contains,immT:=j.contains,nilT:=k.contains,tm:=fun x=>tmOf (m.lookup x),split:=fun x=>(hk c x).contains 999999,only:=fun x=>if (hk c x).contains 999998 then 1 else if (hk c x).contains 999997 then 2 else 0}
 |none=>{loop:=fun _=>[],block:=fun _=>[],cond:=fun _=>[],reg:=fun _=>[],rowsz:=fun _=>0,tree:=fun _=>false,imm:=fun _=>false,immT:=fun _=>false,nilT:=fun _=>false,tm:=fun _ =>.undef}
end Ab
namespace Ab
open Go
def Ev (p:Nat→Prop):Prop:=∃N,∀n,N≤n→p n
theorem Ev.of {p:Nat→Prop} (h:∀n,p n):Ev p:=⟨0,fun n _=>h n⟩
theorem Ev.mono {p q:Nat→Prop} (h:∀n,p n→q n):Ev p→Ev q
 |⟨N,hN⟩=>⟨N,fun n hn=>h n (hN n hn)⟩
theorem Ev.and {p q:Nat→Prop}:Ev p→Ev q→Ev fun n=>p n∧q n
 |⟨N,hN⟩,⟨M,hM⟩=>⟨max N M,fun n hn=>⟨hN n (by omega),hM n (by omega)⟩⟩
theorem Ev.rwZ {Z R:Type} {H:Nat→Prop} {T T':Nat→Z→R} {r:Z→R} (hH:Ev H) (h:∀n,H n→∀z,T n z=T' n z) (k:Ev fun n=>∀z,T' n z=r z):Ev fun n=>∀z,T n z=r z:=
 (hH.and k).mono fun n x z=>(h n x.1 z).trans (x.2 z)
theorem Ev.rw {R:Type} {H:Nat→Prop} {T T':Nat→R} {r:R} (hH:Ev H) (h:∀n,H n→T n=T' n) (k:Ev fun n=>T' n=r):Ev fun n=>T n=r:=
 (hH.and k).mono fun n x=>(h n x.1).trans x.2
theorem Ev.succ {p:Nat→Prop}:(Ev fun n=>p (n+1))→Ev p
 |⟨N,hN⟩=>⟨N+1,fun n hn=>by
  obtain ⟨m,rfl⟩:∃m,n=m+1:=⟨n-1,by omega⟩
  exact hN m (by omega)⟩
theorem Ev.ge (k:Nat):Ev fun n=>k≤n:=⟨k,fun _ h=>h⟩
def Al (C:Cfg) (f:FuncId) (xs ys:List Tree):Prop:=Ev fun n=>AL C n f xs=some ys
theorem Al.of {C:Cfg} {f:FuncId} {xs ys:List Tree} {g:Nat→Option (List Tree)} (h:∀n,AL C (n+1) f xs=g n) (k:Ev fun n=>g n=some ys):Al C f xs ys:=
 Ev.succ (k.mono fun n e=>(h n).trans e)
variable {R S α σ:Type}
theorem C4 {c:Prop} [Decidable c] (h:c) (a b:Option R):cnd c a b=a:=by rw [AE,if_pos h]
theorem Df {c:Prop} [Decidable c] (h:¬c) (a b:Option R):cnd c a b=b:=by rw [AE,if_neg h]
inductive Rd (σ Q:Type) where
 |next (s:σ)
 |done (r:Q)
def Rd.go {Q:Type} (again:σ→Option R) (out:Q→Option R):Rd σ Q→Option R
 | .next s=>again s
 | .done r=>out r
def Rd.fin {Q:Type} (res:σ→Q):Rd σ Q→Q
 | .next s=>res s
 | .done r=>r
theorem Rd.Ad {Q:Type} (again:σ→Option R) (out:Q→Option R) (s:σ):(Rd.next s:Rd σ Q).go again out=again s:=rfl
theorem Rd.Ap {Q:Type} (again:σ→Option R) (out:Q→Option R) (r:Q):(Rd.done r:Rd σ Q).go again out=out r:=rfl
theorem Rd.VS {Q:Type} (again:σ→Option R) (out:Q→Option R) (c:Prop) [Decidable c] (a b:Rd σ Q):(if c then a else b).go again out=if c then a.go again out else b.go again out:=by split<;>rfl
def BJ {Q:Type} (step:Nat→σ→α→Rd σ Q) (fin:σ→Q):Nat→List α→σ→Q
 |_,[],s=>fin s
 |i,x::l,s=>match step i s x with
  | .next s'=>BJ step fin (i+1) l s'
  | .done r=>r
theorem NQ {Z Q:Type} {B:Nat→Z→S→(S→Option R)→Option R} (l:List α) (st:Nat→σ→S) (step:Nat→σ→α→Rd σ Q) (fin:σ→Q) (out:Z→Q→Option R) (Inv:Nat→σ→Prop)
  (hstep:∀i s x,l[i]? = some x→Inv i s→Ev fun n=>∀z again,B n z (st i s) again=(step i s x).go (fun s'=>again (st (i+1) s')) (out z))
  (hinv:∀i s x s',l[i]? = some x→Inv i s→step i s x = .next s'→Inv (i+1) s')
  (hend:∀s,Inv l.length s→Ev fun n=>∀z again,B n z (st l.length s) again=out z (fin s)) :
  ∀(k i:Nat) (s:σ),i+k=l.length→Inv i s→Ev fun n=>∀z m,k<m→AI (B n z) m (st i s)=out z (BJ step fin i (l.drop i) s)
 |0,i,s,hi,hI=>by
  obtain rfl:i=l.length:=by omega
  refine (hend s hI).mono fun n h z m hm => ?_;obtain ⟨m,rfl⟩:∃q,m=q+1:=⟨m-1,by omega⟩
  show B n z _ _=_;rw [h];simp [BJ]
 |k+1,i,s,hi,hI=>by
  have hlt:i<l.length:=by omega
  have hx:l[i]? = some l[i]:=getElem?_eq_getElem hlt;have hd:l.drop i=l[i]::l.drop (i+1):=List.drop_eq_getElem_cons hlt;cases hs:step i s l[i] with
  |next s'=>
   have ih:=NQ l st step fin out Inv hstep hinv hend k (i+1) s' (by omega) (hinv i s _ s' hx hI hs);refine ((hstep i s _ hx hI).and ih).mono fun n h z m hm => ?_;obtain ⟨m,rfl⟩:∃q,m=q+1:=⟨m-1,by omega⟩
   show B n z _ (AI (B n z) m)=_;rw [h.1,hs,hd];simp only [Rd.Ad,BJ,hs];exact h.2 z m (by omega)
  |done r=>
   refine (hstep i s _ hx hI).mono fun n h z m hm => ?_;obtain ⟨m,rfl⟩:∃q,m=q+1:=⟨m-1,by omega⟩
   show B n z _ (AI (B n z) m)=_;rw [h,hs,hd];simp only [Rd.Ap,BJ,hs]
theorem MJ {Z Q:Type} {B:Nat→Z→S→(S→Option R)→Option R} (l:List α) (st:Nat→σ→S) (step:Nat→σ→α→Rd σ Q) (fin:σ→Q) (out:Z→Q→Option R) (Inv:Nat→σ→Prop) (s0:σ) (h0:Inv 0 s0)
  (hstep:∀i s x,l[i]? = some x→Inv i s→Ev fun n=>∀z again,B n z (st i s) again=(step i s x).go (fun s'=>again (st (i+1) s')) (out z))
  (hinv:∀i s x s',l[i]? = some x→Inv i s→step i s x = .next s'→Inv (i+1) s')
  (hend:∀s,Inv l.length s→Ev fun n=>∀z again,B n z (st l.length s) again=out z (fin s)) :
  Ev fun n=>∀z,AI (B n z) n (st 0 s0)=out z (BJ step fin 0 l s0):=by
 have h:=NQ l st step fin out Inv hstep hinv hend l.length 0 s0 (by omega) h0;refine (h.and (Ev.ge (l.length+1))).mono fun n x z => ?_;have:=x.1 z n (by omega);simpa using this
theorem ev_loop {B:Nat→S→(S→Option R)→Option R} (l:List α) (st:Nat→σ→S) (step:Nat→σ→α→Rd σ R) (fin:σ→R) (Inv:Nat→σ→Prop) (s0:σ) (h0:Inv 0 s0)
  (hstep:∀i s x,l[i]? = some x→Inv i s→Ev fun n=>∀again,B n (st i s) again=(step i s x).go (fun s'=>again (st (i+1) s')) some)
  (hinv:∀i s x s',l[i]? = some x→Inv i s→step i s x = .next s'→Inv (i+1) s')
  (hend:∀s,Inv l.length s→Ev fun n=>∀again,B n (st l.length s) again=some (fin s)) :
  Ev fun n=>AI (B n) n (st 0 s0)=some (BJ step fin 0 l s0):=
 (MJ (Z:=Unit) (B:=fun n _=>B n) l st step fin (fun _=>some) Inv s0 h0 (fun i s x hx hI=>(hstep i s x hx hI).mono fun n h _=>h) hinv fun s hI=>(hend s hI).mono fun n h _=>h).mono fun n h=>h ()
theorem LA {Z Q:Type} {B:Nat→Z→S→(S→Option R)→Option R} (st:σ→S) (step:σ→Rd σ Q) (out:Z→Q→Option R) (Inv:σ→Prop) (μ:σ→Nat)
  (hstep:∀s,Inv s→Ev fun n=>∀z again,B n z (st s) again=(step s).go (fun s'=>again (st s')) (out z))
  (hinv:∀s s',Inv s→step s = .next s'→Inv s'∧μ s'<μ s) (res:σ→Q) (hres:∀s,Inv s→res s=(step s).fin res) :
  ∀(k:Nat) (s:σ),μ s≤k→Inv s→Ev fun n=>∀z m,k<m→AI (B n z) m (st s)=out z (res s)
 |k,s,hk,hI=>by
  cases hs:step s with
  |next s'=>
   obtain ⟨h1,h2⟩:=hinv s s' hI hs;obtain ⟨k,rfl⟩:∃q,k=q+1:=⟨k-1,by omega⟩
   have ih:=LA st step out Inv μ hstep hinv res hres k s' (by omega) h1;refine ((hstep s hI).and ih).mono fun n h z m hm => ?_;obtain ⟨m,rfl⟩:∃q,m=q+1:=⟨m-1,by omega⟩
   show B n z _ (AI (B n z) m)=_;rw [h.1,hs,Rd.Ad,hres s hI,hs];show _=out z (res s');exact h.2 z m (by omega)
  |done r=>
   refine (hstep s hI).mono fun n h z m hm => ?_;obtain ⟨m,rfl⟩:∃q,m=q+1:=⟨m-1,by omega⟩
   show B n z _ (AI (B n z) m)=_;rw [h,hs,Rd.Ap,hres s hI,hs];rfl
theorem Tt {Z Q:Type} {B:Nat→Z→S→(S→Option R)→Option R} (st:σ→S) (step:σ→Rd σ Q) (out:Z→Q→Option R) (Inv:σ→Prop) (μ:σ→Nat) (s0:σ) (h0:Inv s0)
  (hstep:∀s,Inv s→Ev fun n=>∀z again,B n z (st s) again=(step s).go (fun s'=>again (st s')) (out z))
  (hinv:∀s s',Inv s→step s = .next s'→Inv s'∧μ s'<μ s) (res:σ→Q) (hres:∀s,Inv s→res s=(step s).fin res) :
  Ev fun n=>∀z,AI (B n z) n (st s0)=out z (res s0):=by
 have h:=LA st step out Inv μ hstep hinv res hres (μ s0) s0 (le_refl _) h0;exact (h.and (Ev.ge (μ s0+1))).mono fun n x z=>x.1 z n (by omega)
theorem Ti {B:Nat→S→(S→Option R)→Option R} {s:S} {r:R} (l:List α) (st:Nat→σ→S) (step:Nat→σ→α→Rd σ R) (fin:σ→R) (Inv:Nat→σ→Prop) (s0:σ) (hs:s=st 0 s0) (h0:Inv 0 s0) (hr:BJ step fin 0 l s0=r)
  (hstep:∀i s x,l[i]? = some x→Inv i s→Ev fun n=>∀again,B n (st i s) again=(step i s x).go (fun s'=>again (st (i+1) s')) some)
  (hinv:∀i s x s',l[i]? = some x→Inv i s→step i s x = .next s'→Inv (i+1) s')
  (hend:∀s,Inv l.length s→Ev fun n=>∀again,B n (st l.length s) again=some (fin s)) :
  Ev fun n=>AI (B n) n s=some r:=by
 subst hs;subst hr;exact ev_loop l st step fin Inv s0 h0 hstep hinv hend
theorem A3 {Z Q:Type} {B:Nat→Z→S→(S→Option R)→Option R} {s:S} {r:Q} (l:List α) (st:Nat→σ→S) (step:Nat→σ→α→Rd σ Q) (fin:σ→Q) (out:Z→Q→Option R) (Inv:Nat→σ→Prop) (s0:σ) (hs:s=st 0 s0) (h0:Inv 0 s0) (hr:BJ step fin 0 l s0=r)
  (hstep:∀i s x,l[i]? = some x→Inv i s→Ev fun n=>∀z again,B n z (st i s) again=(step i s x).go (fun s'=>again (st (i+1) s')) (out z))
  (hinv:∀i s x s',l[i]? = some x→Inv i s→step i s x = .next s'→Inv (i+1) s')
  (hend:∀s,Inv l.length s→Ev fun n=>∀z again,B n z (st l.length s) again=out z (fin s)) :
  Ev fun n=>∀z,AI (B n z) n s=out z r:=by
 subst hs;subst hr;exact MJ l st step fin out Inv s0 h0 hstep hinv hend
theorem MR {i:Decidable True} (a b:Option R):cnd True a b=a:=C4 trivial a b
theorem T2 {i:Decidable False} (a b:Option R):cnd False a b=b:=Df id a b
theorem wrap64 (x:Int):IntKind.wrap .i64 x=(x+9223372036854775808) % 18446744073709551616-9223372036854775808:=by simp only [IntKind.wrap,IntKind.signed,IntKind.bits];simp;omega
theorem G2 {x:Int} (h1 : -9223372036854775808≤x) (h2:x<9223372036854775808):IntKind.wrap .i64 x=x:=by rw [wrap64];omega
abbrev tI (n:Int):Tree :=.int .i64 n
abbrev w64 (n:Int):Int:=IntKind.wrap .i64 n
def vI (p:List AV×Heap) (k:Nat):Int:=intOf (A1 (p.1.getD k .undef))
def vB (p:List AV×Heap) (k:Nat):Bool:=Cg (A1 (p.1.getD k .undef))
def vS (p:List AV×Heap) (k:Nat):ByteArray:=strOf (A1 (p.1.getD k .undef))
def vL (p:List AV×Heap) (k:Nat):List (List Tree):=FT (A1 (p.1.getD k .undef))
def Bw (p:List AV×Heap) (k:Nat):Nat:=E0 (p.1.getD k .undef)
def DC (p:List AV×Heap) (k:Nat):Nat:=Hp (p.1.getD k .undef)
def Ax (p:List AV×Heap) (k:Nat):Nat:=Hq (p.1.getD k .undef)
def AN (p:List AV×Heap) (k:Nat):Nat:=AF.ver (p.2.getD k default)
def oMs (p:List AV×Heap) (k:Nat):List (Int×Int):=Lq (p.2.getD k default)
def oEs (p:List AV×Heap) (k:Nat):List (List Tree):=Re (p.2.getD k default)
def cI (p:List AV×Heap) (k j:Nat):Int:=intOf (A1 (cellOf (p.2.getD k default) j))
def cB (p:List AV×Heap) (k j:Nat):Bool:=Cg (A1 (cellOf (p.2.getD k default) j))
def cS (p:List AV×Heap) (k j:Nat):ByteArray:=strOf (A1 (cellOf (p.2.getD k default) j))
def cL (p:List AV×Heap) (k j:Nat):List (List Tree):=FT (A1 (cellOf (p.2.getD k default) j))
def AK (p:List AV×Heap) (k j:Nat):Nat:=E0 (cellOf (p.2.getD k default) j)
def AU (p:List AV×Heap) (k j:Nat):Nat:=Hp (cellOf (p.2.getD k default) j)
def AM (p:List AV×Heap) (k j:Nat):Nat:=Hq (cellOf (p.2.getD k default) j)
def aI (p:List AV×Heap) (k j:Nat):Int:=intOf (A1 (cellOf (.box (EG (p.1.getD k .undef))) j))
def aB (p:List AV×Heap) (k j:Nat):Bool:=Cg (A1 (cellOf (.box (EG (p.1.getD k .undef))) j))
def aS (p:List AV×Heap) (k j:Nat):ByteArray:=strOf (A1 (cellOf (.box (EG (p.1.getD k .undef))) j))
def aL (p:List AV×Heap) (k j:Nat):List (List Tree):=FT (A1 (cellOf (.box (EG (p.1.getD k .undef))) j))
def gI (y:List Tree) (k:Nat):Int:=intOf (y.getD k default)
def gB (y:List Tree) (k:Nat):Bool:=Cg (y.getD k default)
def gS (y:List Tree) (k:Nat):ByteArray:=strOf (y.getD k default)
def gL (y:List Tree) (k:Nat):List (List Tree):=FT (y.getD k default)
def okI (y:List Tree) (k:Nat):Prop:=FM .i64 (y.getD k default)=true
def okB (y:List Tree) (k:Nat):Prop:=D8 (y.getD k default)=true
def okS (y:List Tree) (k:Nat):Prop:=FL (y.getD k default)=true
def okL (z:Nat) (y:List Tree) (k:Nat):Prop:=E6 z (y.getD k default)=true
instance (y:List Tree) (k:Nat):Decidable (okI y k):=inferInstanceAs (Decidable (_=true))
instance (y:List Tree) (k:Nat):Decidable (okB y k):=inferInstanceAs (Decidable (_=true))
instance (y:List Tree) (k:Nat):Decidable (okS y k):=inferInstanceAs (Decidable (_=true))
instance (z:Nat) (y:List Tree) (k:Nat):Decidable (okL z y k):=inferInstanceAs (Decidable (_=true))
theorem AS {i:Nat} (h:i<4611686018427387904):w64 ((i:Int)+1)=((i+1:Nat):Int):=by show IntKind.wrap .i64 _=_;rw [wrap64];omega
theorem IU {i:Nat} (h:i<4611686018427387904) (h0:0<i):w64 ((i:Int)-1)=((i-1:Nat):Int):=by show IntKind.wrap .i64 _=_;rw [wrap64];omega
theorem A6 {x:Int} (h1 : -9223372036854775808≤x) (h2:x<9223372036854775808):w64 x=x:=G2 h1 h2
theorem Bf {Q:Type} (f:σ→α→σ) (fin:σ→Q):∀(i:Nat) (l:List α) (s:σ),BJ (fun _ s x =>.next (f s x)) fin i l s=fin (l.foldl f s)
 |_,[],_=>rfl
 |i,x::l,s=>by show BJ (fun _ s x =>.next (f s x)) fin (i+1) l (f s x)=_;rw [Bf f fin (i+1) l];rfl
theorem foldl_filterMap {β:Type} (g:α→Option β):∀(l:List α) (s:List β),l.foldl (fun s x=>s++(g x).toList) s=s++l.filterMap g
 |[],s=>by simp
 |x::l,s=>by rw [foldl_cons,foldl_filterMap g l];cases h:g x<;>simp [h]
theorem AJ {l:List α} {i:Nat} {x:α} (h:l[i]? = some x):i<l.length:=(List.getElem?_eq_some_iff.1 h).1
theorem tI_ite (c:Prop) [Decidable c] (a b:Int):(if c then some [tI a] else some [tI b])=some [tI (if c then a else b)]:=by split<;>rfl
theorem Fv (c:Prop) [Decidable c] (a b:Int):cnd c (some [tI a]) (some [tI b])=some [tI (if c then a else b)]:=by rw [AE,tI_ite]
theorem Aj {Q:Type} {B:Nat→S→(S→Option R)→Option R} {s:S} (out:Q→R) (l:List α) (st:Nat→σ→S) (step:Nat→σ→α→Rd σ Q) (fin:σ→Q) (Inv:Nat→σ→Prop) (s0:σ) (hs:s=st 0 s0) (h0:Inv 0 s0) {r:Q} (hr:BJ step fin 0 l s0=r)
  (hstep:∀i s x,l[i]? = some x→Inv i s→Ev fun n=>∀again,B n (st i s) again=(step i s x).go (fun s'=>again (st (i+1) s')) (fun q=>some (out q)))
  (hinv:∀i s x s',l[i]? = some x→Inv i s→step i s x = .next s'→Inv (i+1) s')
  (hend:∀s,Inv l.length s→Ev fun n=>∀again,B n (st l.length s) again=some (out (fin s))) :
  Ev fun n=>AI (B n) n s=some (out r):=by
 subst hs;subst hr;exact (MJ (Z:=Unit) (B:=fun n _=>B n) l st step fin (fun _ q=>some (out q)) Inv s0 h0 (fun i s x hx hI=>(hstep i s x hx hI).mono fun n h _=>h) hinv fun s hI=>(hend s hI).mono fun n h _=>h).mono fun n h=>h ()
theorem EA {Z Q:Type} {B:Nat→Z→S→(S→Option R)→Option R} {s:S} {r:Q} (out:Z→Q→Option R) (st:σ→S) (step:σ→Rd σ Q) (Inv:σ→Prop) (μ:σ→Nat) (res:σ→Q) (s0:σ) (hs:s=st s0) (h0:Inv s0) (hr:res s0=r)
  (hstep:∀s,Inv s→Ev fun n=>∀z again,B n z (st s) again=(step s).go (fun s'=>again (st s')) (out z))
  (hinv:∀s s',Inv s→step s = .next s'→Inv s'∧μ s'<μ s) (hres:∀s,Inv s→res s=(step s).fin res) :
  Ev fun n=>∀z,AI (B n z) n s=out z r:=by
 subst hs;subst hr;exact Tt st step out Inv μ s0 h0 hstep hinv res hres
theorem GO {Q:Type} {B:Nat→S→(S→Option R)→Option R} {s:S} {r:Q} (out:Q→R) (st:σ→S) (step:σ→Rd σ Q) (Inv:σ→Prop) (μ:σ→Nat) (res:σ→Q) (s0:σ) (hs:s=st s0) (h0:Inv s0) (hr:res s0=r)
  (hstep:∀s,Inv s→Ev fun n=>∀again,B n (st s) again=(step s).go (fun s'=>again (st s')) (fun q=>some (out q)))
  (hinv:∀s s',Inv s→step s = .next s'→Inv s'∧μ s'<μ s) (hres:∀s,Inv s→res s=(step s).fin res) :
  Ev fun n=>AI (B n) n s=some (out r):=
 (EA (Z:=Unit) (B:=fun n _=>B n) (fun _ q=>some (out q)) st step Inv μ res s0 hs h0 hr (fun s hI=>(hstep s hI).mono fun n h _=>h) hinv hres).mono fun n h=>h ()
theorem Ih (p:α→Bool):∀(i:Nat) (l:List α),BJ (fun _ (_:Unit) x=>if p x=true then .done true else .next ()) (fun _=>false) i l ()=l.any p
 |_,[]=>rfl
 |i,x::l=>by
  by_cases h:p x=true
  ·simp [BJ,h]
  ·simp only [BJ,h,any_cons];simp at h;simp [Ih p (i+1) l]
theorem Ii {Q:Type} (p:α→Bool) (a b:Q):∀(i:Nat) (l:List α),BJ (fun _ (_:Unit) x=>if p x=true then .next () else .done a) (fun _=>b) i l ()=if l.all p=true then b else a
 |_,[]=>rfl
 |i,x::l=>by
  by_cases h:p x=true
  ·simp [BJ,h,Ii p a b (i+1) l]
  ·simp [BJ,h]
theorem vI_mk (e:List AV) (h:Heap) (k:Nat):vI (e,h) k=intOf (A1 (e.getD k .undef)):=id rfl
theorem vB_mk (e:List AV) (h:Heap) (k:Nat):vB (e,h) k=Cg (A1 (e.getD k .undef)):=id rfl
theorem vS_mk (e:List AV) (h:Heap) (k:Nat):vS (e,h) k=strOf (A1 (e.getD k .undef)):=id rfl
theorem vL_mk (e:List AV) (h:Heap) (k:Nat):vL (e,h) k=FT (A1 (e.getD k .undef)):=id rfl
theorem sVer_mk (e:List AV) (h:Heap) (k:Nat):Bw (e,h) k=E0 (e.getD k .undef):=id rfl
theorem sOff_mk (e:List AV) (h:Heap) (k:Nat):DC (e,h) k=Hp (e.getD k .undef):=id rfl
theorem sLen_mk (e:List AV) (h:Heap) (k:Nat):Ax (e,h) k=Hq (e.getD k .undef):=id rfl
theorem oVer_mk (e:List AV) (h:Heap) (k:Nat):AN (e,h) k=AF.ver (h.getD k default):=id rfl
theorem oMs_mk (e:List AV) (h:Heap) (k:Nat):oMs (e,h) k=Lq (h.getD k default):=id rfl
theorem RM (k ke:IntKind) (es:List (Int×Int)):Lq (.mapo k ke es)=es:=id rfl
theorem oEs_mk (e:List AV) (h:Heap) (k:Nat):oEs (e,h) k=Re (h.getD k default):=id rfl
theorem cI_mk (e:List AV) (h:Heap) (k j:Nat):cI (e,h) k j=intOf (A1 (cellOf (h.getD k default) j)):=id rfl
theorem cB_mk (e:List AV) (h:Heap) (k j:Nat):cB (e,h) k j=Cg (A1 (cellOf (h.getD k default) j)):=id rfl
theorem cS_mk (e:List AV) (h:Heap) (k j:Nat):cS (e,h) k j=strOf (A1 (cellOf (h.getD k default) j)):=id rfl
theorem cL_mk (e:List AV) (h:Heap) (k j:Nat):cL (e,h) k j=FT (A1 (cellOf (h.getD k default) j)):=id rfl
theorem cVer_mk (e:List AV) (h:Heap) (k j:Nat):AK (e,h) k j=E0 (cellOf (h.getD k default) j):=id rfl
theorem cOff_mk (e:List AV) (h:Heap) (k j:Nat):AU (e,h) k j=Hp (cellOf (h.getD k default) j):=id rfl
theorem cLen_mk (e:List AV) (h:Heap) (k j:Nat):AM (e,h) k j=Hq (cellOf (h.getD k default) j):=id rfl
theorem aI_mk (e:List AV) (h:Heap) (k j:Nat):aI (e,h) k j=intOf (A1 ((EG (e.getD k .undef)).getD j .undef)):=id rfl
theorem aB_mk (e:List AV) (h:Heap) (k j:Nat):aB (e,h) k j=Cg (A1 ((EG (e.getD k .undef)).getD j .undef)):=id rfl
theorem aS_mk (e:List AV) (h:Heap) (k j:Nat):aS (e,h) k j=strOf (A1 ((EG (e.getD k .undef)).getD j .undef)):=id rfl
theorem aL_mk (e:List AV) (h:Heap) (k j:Nat):aL (e,h) k j=FT (A1 ((EG (e.getD k .undef)).getD j .undef)):=id rfl
theorem UE (cs:List AV):EG (.agg cs)=cs:=id rfl
theorem join_eq {S:Type} (J:S→Option R) (f:(S→Option R)→Option R):join J f=f J:=id rfl
theorem gI_zero (x:Tree) (l:List Tree):gI (x::l) 0=intOf x:=id rfl
theorem gI_succ (x:Tree) (l:List Tree) (k:Nat):gI (x::l) (k+1)=gI l k:=id rfl
theorem gB_zero (x:Tree) (l:List Tree):gB (x::l) 0=Cg x:=id rfl
theorem gB_succ (x:Tree) (l:List Tree) (k:Nat):gB (x::l) (k+1)=gB l k:=id rfl
theorem gS_zero (x:Tree) (l:List Tree):gS (x::l) 0=strOf x:=id rfl
theorem gS_succ (x:Tree) (l:List Tree) (k:Nat):gS (x::l) (k+1)=gS l k:=id rfl
theorem gL_zero (x:Tree) (l:List Tree):gL (x::l) 0=FT x:=id rfl
theorem gL_succ (x:Tree) (l:List Tree) (k:Nat):gL (x::l) (k+1)=gL l k:=id rfl
theorem U3 (x:Tree) (l:List Tree):okI (x::l) 0=(FM .i64 x=true):=id rfl
theorem U4 (x:Tree) (l:List Tree) (k:Nat):okI (x::l) (k+1)=okI l k:=id rfl
theorem U5 (x:Tree) (l:List Tree):okB (x::l) 0=(D8 x=true):=id rfl
theorem U6 (x:Tree) (l:List Tree) (k:Nat):okB (x::l) (k+1)=okB l k:=id rfl
theorem Uz (x:Tree) (l:List Tree):okS (x::l) 0=(FL x=true):=id rfl
theorem U0 (x:Tree) (l:List Tree) (k:Nat):okS (x::l) (k+1)=okS l k:=id rfl
theorem U1 (z:Nat) (x:Tree) (l:List Tree):okL z (x::l) 0=(E6 z x=true):=id rfl
theorem U2 (z:Nat) (x:Tree) (l:List Tree) (k:Nat):okL z (x::l) (k+1)=okL z l k:=id rfl
theorem RU (k:IntKind) (n:Int):FM k (.int k n)=true:=decide_eq_true rfl
theorem OQ (b:Bool):D8 (.bool b)=true:=id rfl
theorem RT (b:ByteArray):FL (.str b)=true:=id rfl
theorem VJ (z:Nat) (es:List (List Tree)):E6 z (.sl z es)=true:=by simp [E6]
theorem intOf_int (k:IntKind) (n:Int):intOf (.int k n)=n:=id rfl
theorem QQ (b:Bool):Cg (.bool b)=b:=id rfl
theorem TI (b:ByteArray):strOf (.str b)=b:=id rfl
theorem slOf_sl (z:Nat) (es:List (List Tree)):FT (.sl z es)=es:=id rfl
theorem UO (x:Tree):A1 (.t x)=x:=id rfl
theorem Qt (i v o l:Nat):E0 (.sref i v o l)=v:=id rfl
theorem Qu (i v k o:Nat):E0 (.rptr i v k o)=v:=id rfl
theorem Qv (i v o l:Nat):Hp (.sref i v o l)=o:=id rfl
theorem Qw (i v o l:Nat):Hq (.sref i v o l)=l:=id rfl
theorem ver_row (f:Bool) (v z:Nat) (es:List (List Tree)):AF.ver (.row f v z es)=v:=id rfl
theorem VV (f:Bool) (v z:Nat) (es:List (List Tree)):Re (.row f v z es)=es:=id rfl
theorem Ry (cs:List AV) (j:Nat):cellOf (.box cs) j=cs.getD j .undef:=id rfl
end Ab
namespace Ab
open Go
def PK (r:Int):Int:=if r.tmod 2=1 then xorK .u32 (IntKind.u32.wrap (r.tdiv 2)) 2197175160 else IntKind.u32.wrap (r.tdiv 2)
def steps:Nat→Int→Int
 |0,r=>r
 |k+1,r=>steps k (PK r)
theorem LI (k:Nat) (r:Int):steps (k+1) r=PK (steps k r):=by
 induction k generalizing r with
 |zero=>rfl
 |succ k ih=>rw [steps,ih (PK r)];rfl
def Am (i:Nat):Array Value:=((List.range 256).map fun j=>if j<i then Value.int .u32 (steps 8 j) else .int .u32 0).toArray
theorem Cw (i:Nat):(Am i).size=256:=by simp [Am]
theorem QL:Am 0=Array.replicate 256 (.int .u32 0):=by
 apply Array.ext
 ·simp [Am]
 ·intro j h1 h2;simp [Am]
theorem QM (i:Nat) (hi:i<256):Am (i+1)=(Am i).setIfInBounds i (.int .u32 (steps 8 i)):=by
 apply Array.ext
 ·simp [Am]
 ·intro j h1 h2;have hj:j<256:=by rw [Cw] at h1;exact h1
  rw [Array.getElem_setIfInBounds]
  ·simp only [Am,List.getElem_toArray,List.getElem_map,List.getElem_range];by_cases h:i=j
   ·subst h;simp
   ·by_cases h2:j<i
    ·simp [h,h2,show j<i+1 by omega]
    ·simp [h,h2,show ¬j<i+1 by omega]
  ·rw [Cw];exact hj
theorem Rx (i:Nat):(Am i).all (·.oneCell')=true:=by rw [Array.all_eq_true_iff_forall_mem];intro v hv;simp only [Am,List.mem_toArray,mem_map,mem_range] at hv;obtain ⟨j,_,rfl⟩:=hv;split<;>rfl
theorem MU (i j:Nat) (hj:j<256):(Am i)[j]? = some (if j<i then Value.int .u32 (steps 8 j) else .int .u32 0):=by simp [Am,hj]
def PE:List Tree:=(List.range 256).map fun j =>.int .u32 (steps 8 (j:Nat))
end Ab
namespace Ab
open Go Go.Proofs Go.Shelf Go.RowKit Go.Lib Go.Sort
variable {P:Program}
def AO (z:Nat) (e:List Tree):List Value:=(List.range z).map fun c =>.int .i64 (intOf (e.getD c default))
theorem Ep (z:Nat) (e:List Tree):(AO z e).length=z:=by simp [AO]
theorem Eo (z:Nat) (e:List Tree):∀v∈AO z e,v.oneCell'=true:=fun v hv=>by simp only [AO,mem_map] at hv;obtain ⟨c,_,rfl⟩:=hv;rfl
theorem encZ_of {z:Nat} {e:List Tree} (h:e.length=z):AO z e=e.map fun x =>.int .i64 (intOf x):=by
 apply ext_getElem?;intro j;simp only [AO,getElem?_map];by_cases hj:j<z
 ·rw [getElem?_range hj];simp [List.getD,getElem?_eq_getElem (show j<e.length by omega)]
 ·rw [getElem?_eq_none (show e.length≤j by omega),getElem?_eq_none (by simpa using not_lt.1 hj)];rfl
def Jm (cf:List Tree→List Tree→Int) (d:List (List Tree)):List (List Tree):=(pdq (ltOf cf) d.toArray 0 d.length (Lib.bitLen d.length) true true).toList
theorem TW {cf:List Tree→List Tree→Int} (hO:SWO (ltOf cf)) (d:List (List Tree)):(Jm cf d).Perm d∧SortedIn (ltOf cf) 0 d.length (pdq (ltOf cf) d.toArray 0 d.length (Lib.bitLen d.length) true true):=by
 have h:=pdq_sorts (ltOf cf) hO d.toArray 0 d.length (Lib.bitLen d.length) true true (zero_le _) (by simp) (Or.inl rfl);obtain ⟨⟨h1,h2,h3⟩,h4⟩:=h;refine ⟨?_,h4⟩;unfold Jm;have e1:(pdq (ltOf cf) d.toArray 0 d.length (Lib.bitLen d.length) true true).extract 0 d.length=pdq (ltOf cf) d.toArray 0 d.length (Lib.bitLen d.length) true true:=by rw [extract_eq_self_of_le];rw [h1];simp
 have e2:d.toArray.extract 0 d.length=d.toArray:=by rw [extract_eq_self_of_le];simp
 rw [e1,e2] at h3;simpa using h3
theorem Fa {cf:List Tree→List Tree→Int} (hO:SWO (ltOf cf)) (d:List (List Tree)):(Jm cf d).Perm d:=(TW hO d).1
structure TE (P:Program) (g:FuncId) (z:Nat) (cf:List Tree→List Tree→Int):Prop where
 enters:∀args w,(callFunc g args).run P w = .ok (.enter g args) w
 swo:SWO (ltOf cf)
 calls:∀(x y:List Tree) (w:World),Calls P g #[.agg (AO z x).toArray,.agg (AO z y).toArray] w fun e w'=>e = .returned (.int .i64 (cf x y))∧∃q os',w'=grow (w.drewN q) os'
theorem IE (z:Nat) (d:List (List Tree)) (h:A7 z d=true):(Sort.flatK (AO z) z d.toArray).toList=Ck d:=by
 have hl:=F5 h;apply ext_getElem?;intro q;by_cases hq:q<d.length*z
 ·have hzp:0<z:=pos_of_ne_zero fun e=>by rw [e,Nat.mul_zero] at hq;omega
  have hj:q / z<d.length:=(Nat.div_lt_iff_lt_mul hzp).2 hq;have hc1:q % z<z:=mod_lt _ hzp;have hlen:d[q / z].length=z:=by have:=all_eq_true.1 h d[q / z] (getElem_mem hj);simp only [and_eq_true,beq_iff_eq] at this;exact this.1
  obtain ⟨x,hx⟩:∃x,d[q / z][q % z]? = some x:=⟨_,getElem?_eq_getElem (by rw [hlen];exact hc1)⟩
  obtain ⟨g1,g2,_⟩:=HL h _ _ _ x (getElem?_eq_getElem hj) hx;have hq2:q / z*z+q % z=q:=by rw [mul_comm];exact Nat.div_add_mod q z
  rw [hq2] at g1;have h3:(Ck d)[q]? = some (.int .i64 (intOf x)):=by
   have hlt:q<(Ck d).length:=by omega
   rw [getElem?_eq_getElem hlt];simp only [List.getD,getElem?_eq_getElem hlt,Option.getD_some] at g1;rw [g1]
  rw [h3,getElem?_toList];have hs:q<(Sort.flatK (AO z) z d.toArray).size:=by rw [size_flatK];simpa using hq
  have h4:=get_flatK (AO z) z d.toArray q (by simpa using hq);rw [getElem!_pos _ q hs] at h4;rw [Array.getElem?_eq_getElem hs,h4,getElem!_pos d.toArray (q / z) (by simpa using hj)];simp only [List.getElem_toArray];rw [encZ_of hlen,getElem!_pos _ (q % z) (by rw [length_map,hlen];exact hc1),List.getElem_map];rw [getElem?_eq_getElem (by rw [hlen];exact hc1)] at hx;rw [Option.some.inj hx]
 ·rw [getElem?_eq_none (by rw [length_toList,size_flatK];simpa using not_lt.1 hq),getElem?_eq_none (by omega)]
theorem Iq (cells:Array Value) (o:Nat) (A:Array Value) (hfit:o+A.size≤cells.size):putCells id o A cells=Ah cells o A.toList:=by
 have h1:=CF cells o A.toList (by simpa using hfit);apply Array.ext
 ·rw [h1];simp [putCells]
 ·intro k hk1 hk2;have hkc:k<cells.size:=by simpa [putCells] using hk1
  have h2:=BI cells o A.toList (by simpa using hfit) k;have e1:(Ah cells o A.toList)[k]=(Ah cells o A.toList).getD k undef:=by simp [Array.getD,hk2]
  have e2:cells.getD k undef=cells[k]:=by simp [Array.getD,hkc]
  rw [e1,h2,e2,length_toList];simp only [putCells,Array.getElem_mapIdx];split
  ·rename_i hh;rw [getElem!_pos A (k-o) (by omega)];simp [List.getD,show k-o<A.size by omega]
  ·rfl
theorem Ee {w:World} {b o n z:Nat} {cells:Array Value} {el:TypeId} {fr:Nat×Nat} {d:List (List Tree)} (hb:w.heap[b]? = some (.cells cells el fr)) (hd:A7 z d=true) (hfit:o+d.length*z≤cells.size) (os:Array Obj) :
  Grow (w.setRow b (Ah cells o (Ck d))) (sortWorldK (AO z) z w b o n d.toArray os):=by
 have hA:=IE z d hd;have hsz:(Sort.flatK (AO z) z d.toArray).size=d.length*z:=by simp
 have hp:=Iq cells o (Sort.flatK (AO z) z d.toArray) (by rw [hsz];exact hfit);rw [hA] at hp;have hheap:(sortWorldK (AO z) z w b o n d.toArray os).heap=(w.setRow b (Ah cells o (Ck d))).heap++os:=by
  show (mapBlock (Sort.ahead w n) b (putCells id o (Sort.flatK (AO z) z d.toArray))).heap++os=_;congr 1;apply Array.ext_getElem?;intro k;show (w.heap.modify b (onCells (putCells id o (Sort.flatK (AO z) z d.toArray))))[k]? = _;by_cases hk:k=b
  ·subst hk;rw [setRow_heap w k cells _ el fr hb,getElem?_modify,if_pos rfl,hb];simp [onCells,hp]
  ·rw [setRow_other w b _ hk,getElem?_modify,if_neg (Ne.symm hk)]
 refine ⟨rfl,rfl,rfl,by rw [hheap,size_append];omega,fun k hk => ?_⟩;rw [hheap,Array.getElem?_append_left hk]
theorem Hr {ρ:Ren} {z:Nat} {g:FuncId} {cf:List Tree→List Tree→Int} (L:SlLaysF0.n6 P ρ) (aE:∀w,(Go.isAgg (ρ.t 24)).run P w = .ok true w) (zE:∀w,(Go.sizeOf (ρ.t 24)).run P w = .ok z w) (hC:TE P g z cf):GB P (ρ.f 6) z 1073741824 (some g) (Jm cf) where
 len:=fun d=>(Fa hC.swo d).length_eq
 int:=fun d h=>all_eq_true.2 fun e he=>all_eq_true.1 h e ((Fa hC.swo d).mem_iff.1 he)
 nil:=fun a w=>(AnyF.slices_SortFunc_none L a 0 (.func (.func g) #[] #[]) w).mono fun e w' h=>by obtain ⟨h1,rfl⟩:=h;exact ⟨h1,rfl,rfl,rfl,le_refl _,fun _ _=>rfl⟩
 run:=fun d w b o cap cells el fr hint hlen hb hth hfit hcell=>by
  have hH:HoldsK (AO z) z w b o d.toArray:=fun j hj=>by
   rw [size_flatK] at hj;have hj':j<d.length*z:=by simpa using hj
   have hlt:o+j<cells.size:=by omega
   refine ⟨?_,hth.cell hb hlt⟩;have h1:=hcell j hj';have h2:(Sort.flatK (AO z) z d.toArray)[j]! = (Ck d).getD j undef:=by
    have hs:j<(Sort.flatK (AO z) z d.toArray).size:=by rw [size_flatK];exact hj
    rw [getElem!_pos _ j hs,← IE z d hint];simp only [List.getD,getElem?_toList];rw [Array.getElem?_eq_getElem hs];rfl
   rw [show id (Sort.flatK (AO z) z d.toArray)[j]! = (Sort.flatK (AO z) z d.toArray)[j]! from rfl,h2,← h1];simp [World.cell?,hb,Array.getD,hlt]
  have hpm:=Fa hC.swo d;have hcon:=AnyQ.slices_SortFunc_eq L z aE zE (AO z) (Ep z) (Eo z) cf hC.swo g #[] b o cap d.toArray w hC.enters (fun _ _ _ _ x y=>hC.calls x y _) hH (Array.getElem?_eq_some_iff.1 hb).1 (by simp;omega);simp only [size_toArray] at hcon;refine Calls.mono hcon fun e w' h => ?_;obtain ⟨h1,n,os,rfl⟩:=h;refine ⟨h1,?_⟩;have hi2:A7 z (Jm cf d)=true:=all_eq_true.2 fun e he=>all_eq_true.1 hint e (hpm.mem_iff.1 he);have:=Ee (n:=n) hb hi2 (by rw [hpm.length_eq];exact hfit) os;unfold Jm at this ⊢;simpa using this
end Ab
namespace Ab
open Go Go.Proofs Go.Shelf Go.RowKit Go.Lib Go.Sort
variable {P:Program}
def oneI (e:List Tree):Int:=intOf (e.getD 0 default)
def E1 (d:List (List Tree)):List (List Tree):=((d.map oneI).mergeSort fun x y=>decide (x≤y)).map fun n=>[.int .i64 n]
theorem TK (d:List (List Tree)):(E1 d).length=d.length:=by simp [E1,List.length_mergeSort]
theorem TL (d:List (List Tree)):A7 1 (E1 d)=true:=all_eq_true.2 fun e he=>by simp only [E1,mem_map] at he;obtain ⟨n,_,rfl⟩:=he;rfl
theorem Nd (zs:List Int):Ck (zs.map fun n=>[.int .i64 n])=zs.map (Value.int .i64):=by
 induction zs with
 |nil=>rfl
 |cons x l ih=>simpa [Ck,intOf] using ih
theorem SV:∀{d:List (List Tree)},A7 1 d=true→d=(d.map oneI).map fun n=>[Tree.int .i64 n]
 |[],_=>rfl
 |e::d,h=>by
  simp only [A7,all_cons,and_eq_true,beq_iff_eq] at h;have ih:=SV (d:=d) (by simpa [A7] using h.2)
  match e,h with
  |[x],h=>
   have hx:I3 x=true:=by simpa using h.1.2
   cases x<;>simp [I3] at hx;rename_i k n;cases k<;>simp [I3] at hx;rw [map_cons,map_cons,← ih];rfl
theorem My {ρ:Ren} (L:Lays.n189 P ρ):GB P (ρ.f 189) 1 1073741824 none E1 where
 len:=TK
 int:=fun d _=>TL d
 nil:=fun a w=>(Any.slices_Sort_int_none L a 0 w).mono fun e w' h=>by obtain ⟨h1,rfl⟩:=h;exact ⟨h1,rfl,rfl,rfl,le_refl _,fun _ _=>rfl⟩
 run:=fun d w b o cap cells el fr hint hlen hb hth hfit hcell=>by
  rw [Nat.mul_one] at hfit hcell;have hd:=SV hint;generalize hz:d.map oneI=zs at hd;have hzl:zs.length=d.length:=by rw [← hz,length_map]
  have hH:Holds (Value.int .i64) w b o zs.toArray:=fun j hj=>by
   have hj':j<zs.length:=by simpa using hj
   have hlt:o+j<cells.size:=by omega
   refine ⟨?_,hth.cell hb hlt⟩;have h1:=hcell j (by omega);rw [hd,Nd] at h1;rw [getElem!_pos _ j hj];simp only [List.getElem_toArray];simp only [Array.getD,hlt,dif_pos,List.getD,getElem?_map,getElem?_eq_getElem hj',map_some,Option.getD_some] at h1;simp [World.cell?,hb,hlt];exact h1
  have hcon:=Any.slices_Sort_int L b o cap zs w hH (Array.getElem?_eq_some_iff.1 hb).1 (by omega);rw [hzl] at hcon;refine Calls.mono hcon fun e w' h => ?_;obtain ⟨h1,n,os,rfl⟩:=h;refine ⟨h1,?_⟩;have hf:Ck (E1 d)=(zs.mergeSort fun x y=>decide (x≤y)).map (Value.int .i64):=by rw [E1,hz,Nd]
  have hsl:(zs.mergeSort fun x y=>decide (x≤y)).length=d.length:=by rw [List.length_mergeSort,hzl]
  have hp:putCells (Value.int .i64) o (zs.mergeSort fun x y=>decide (x≤y)).toArray cells=Ah cells o (Ck (E1 d)):=by
   have h2:=Iq cells o ((zs.mergeSort fun x y=>decide (x≤y)).map (Value.int .i64)).toArray (by simp [hsl];exact hfit);rw [hf];rw [show ((zs.mergeSort fun x y=>decide (x≤y)).map (Value.int .i64)).toArray.toList=(zs.mergeSort fun x y=>decide (x≤y)).map (Value.int .i64) from rfl] at h2;rw [← h2];unfold putCells;apply Array.ext
   ·simp
   ·intro k hk1 hk2;simp only [Array.getElem_mapIdx];simp only [size_toArray,length_map];split
    ·rename_i hh;rw [getElem!_pos _ (k-o) (by simp;omega),getElem!_pos _ (k-o) (by simp;omega)];simp
    ·rfl
  have hheap:(grow (putRow (Value.int .i64) (Sort.ahead w n) b o (zs.mergeSort fun x y=>decide (x≤y)).toArray) os).heap=(w.setRow b (Ah cells o (Ck (E1 d)))).heap++os:=by
   show (mapBlock (Sort.ahead w n) b (putCells (Value.int .i64) o (zs.mergeSort fun x y=>decide (x≤y)).toArray)).heap++os=_;congr 1;apply Array.ext_getElem?;intro k;show (w.heap.modify b (onCells (putCells (Value.int .i64) o (zs.mergeSort fun x y=>decide (x≤y)).toArray)))[k]? = _;by_cases hk:k=b
   ·subst hk;rw [setRow_heap w k cells _ el fr hb,getElem?_modify,if_pos rfl,hb];simp [onCells,hp]
   ·rw [setRow_other w b _ hk,getElem?_modify,if_neg (Ne.symm hk)]
  refine ⟨rfl,rfl,rfl,by rw [hheap,size_append];omega,fun k hk => ?_⟩;rw [hheap,Array.getElem?_append_left hk]
end Ab
namespace Ab
open Go Go.Proofs Go.Shelf Go.RowKit Go.Lib Go.Sort
def A5 (a b:Int):Int:=if a<b then -1 else if b<a then 1 else 0
def BH:List Nat→List Tree→List Tree→Int
 |[],_,_=>0
 |k::ks,x,y=>if A5 (intOf (x.getD k default)) (intOf (y.getD k default))≠0 then A5 (intOf (x.getD k default)) (intOf (y.getD k default)) else BH ks x y
theorem Es:∀(ks:List Nat) (x y:List Tree),BH ks y x = - BH ks x y
 |[],x,y=>rfl
 |k::ks,x,y=>by have ih:=Es ks x y;unfold BH;generalize intOf (x.getD k default)=a;generalize intOf (y.getD k default)=b;unfold A5;grind
theorem MS:∀(ks:List Nat) (x y z:List Tree),BH ks x y≤0→BH ks y z≤0→BH ks x z≤0∧(BH ks x z=0→BH ks x y=0∧BH ks y z=0)
 |[],x,y,z,_,_=>⟨Int.le_refl _,fun _=>⟨rfl,rfl⟩⟩
 |k::ks,x,y,z,h1,h2=>by have ih:=MS ks x y z;unfold BH at h1 h2 ⊢;generalize intOf (x.getD k default)=a at h1 h2 ⊢;generalize intOf (y.getD k default)=b at h1 h2 ⊢;generalize intOf (z.getD k default)=c at h1 h2 ⊢;unfold A5 at h1 h2 ⊢;grind
theorem Bm (ks:List Nat):SWO (ltOf (BH ks)) where
 irrefl x:=by have:=Es ks x x;simp only [ltOf,decide_eq_false_iff_not];omega
 trans x y z h1 h2:=by
  simp only [ltOf,decide_eq_true_eq] at h1 h2 ⊢;have h:=MS ks x y z (by omega) (by omega);by_cases h0:BH ks x z=0
  ·have:=h.2 h0;omega
  ·omega
 ntrans x y z h1 h2:=by simp only [ltOf,decide_eq_false_iff_not] at h1 h2 ⊢;have a1:=Es ks x y;have a2:=Es ks y z;have a3:=Es ks x z;have h:=MS ks z y x (by omega) (by omega);omega
end Ab
namespace Ab
open Go Go.Proofs Go.RowKit Go.Lib Go.Shelf Go.Sort
set_option maxRecDepth 100000
set_option maxHeartbeats 4000000
theorem SY (a:Int) (w:World):Calls Tryz.prog 74 #[.int .i64 a] w fun e w'=>e = .returned (.bool false)∧w'=w:=by
 go_enter Tryz.func74,Tryz.ntmps74
 go_wp2
 go_ret
 exact ⟨by simp,rfl⟩
theorem Vp (a b:Int) (w:World):Calls Tryz.prog 35 #[.int .i64 a,.int .i64 b] w fun e w'=>e = .returned (.int .i64 (A5 a b))∧w'=w:=by
 go_enter Tryz.func35,Tryz.ntmps35
 go_wp2_with (go_at_fn 74;refine (SY _ _).mono ?_)
 refine (SY _ _).mono ?_
 rintro e w' ⟨rfl,hw⟩
 rw [hw]
 go_wp2_with (go_at_fn 74;refine (SY _ _).mono ?_)
 refine (SY _ _).mono ?_
 rintro e w' ⟨rfl,hw⟩
 rw [hw]
 go_wp2
 all_goals (go_ret;refine ⟨?_,rfl⟩;unfold A5;(repeat' split)<;>first|rfl|(exfalso;omega))
def orF (l:List Int):Int:=(l.find? (· ≠ 0)).getD 0
theorem or34 (l:List Int) (hlen:l.length≤100) (w:World) (b0 cap:Nat) (hc:l.length≤cap) (hcell:∀(j:Nat) (n:Int),l[j]? = some n→w.cell? ⟨b0,0+j,none⟩=some (.int .i64 n)) :
  Calls Tryz.prog 34 #[.slice (some ⟨b0,0,none⟩) l.length cap] w fun e w'=>e = .returned (.int .i64 (orF l))∧w'=w:=by
 have Hc:Aside _:=hcell;clear hcell
 go_enter Tryz.func34,Tryz.ntmps34
 go_wp2
 go_loopg [8] l.length (fun g s8 wx=>∃i:Nat,i+g=l.length∧s8 = .int .i64 i∧wx=w∧∀n∈l.take i,n=0)
 case atStart=>exact ⟨0,by omega,rfl,rfl,by simp⟩
 case round=>
  obtain ⟨i,hig,rfl,rfl,hz⟩:=hrel;cases gk with
  |zero=>
   obtain rfl:i=l.length:=by omega
   have hiz:¬(((l.length:Nat):Int)<((l.length:Nat):Int)):=by omega
   have hr:orF l=0:=by rw [List.take_length] at hz;unfold orF;rw [List.find?_eq_none.2 fun n hn=>by simp [hz n hn]];rfl
   go_wp2
   go_ret
   exact ⟨rfl,rfl⟩
  |succ g=>
   have hiz:(i:Int)<((l.length:Nat):Int):=by omega
   have hi:i<l.length:=by omega
   obtain ⟨n,hn⟩:∃n,l[i]? = some n:=⟨l[i],getElem?_eq_getElem hi⟩
   have hcell:wr.cell? ⟨b0,i,none⟩=some (.int .i64 n):=by have:=Hc.out i n hn;rwa [zero_add] at this
   by_cases h0:n=0
   ·subst h0
    go_wp2
    go_roundg g
    case measure=>omega
    case rel=>
     refine ⟨i+1,by omega,by first|rfl|simp,rfl,fun m hm => ?_⟩;rw [List.take_add_one,hn] at hm;rcases mem_append.1 hm with hm|hm
     ·exact hz m hm
     ·simpa using hm
   ·have hr:orF l=n:=by
     have hl:l=l.take i++(n::l.drop (i+1)):=by have h9:=getElem?_eq_getElem hi;rw [hn] at h9;have h10:=List.drop_eq_getElem_cons hi;rw [← Option.some.inj h9] at h10;rw [← h10,List.take_append_drop]
     unfold orF;rw [hl,List.find?_append,List.find?_eq_none.2 fun m hm=>by simp [hz m hm],find?_cons];simp [h0]
    go_wp2
    go_ret
    exact ⟨by rw [hr];rfl,rfl⟩
theorem JF (x y:List Tree):∀(ks:List Nat),BH ks x y=orF (ks.map fun k=>A5 (intOf (x.getD k default)) (intOf (y.getD k default)))
 |[]=>rfl
 |k::ks=>by
  unfold BH;rw [JF x y ks,map_cons];generalize A5 (intOf (x.getD k default)) (intOf (y.getD k default))=c;unfold orF;rw [find?_cons];by_cases h:c=0
  ·subst h;rfl
  ·simp [h]
theorem MT (W:World) (l:List Int) (t:TypeId) (j:Nat) (n:Int) (h:l[j]? = some n):(W.alloc (.cells (l.map (Value.int .i64)).toArray t)).drew.cell? ⟨W.heap.size,0+j,none⟩=some (.int .i64 n):=by have h1:(W.alloc (.cells (l.map (Value.int .i64)).toArray t)).drew.heap[W.heap.size]? = some (.cells (l.map (Value.int .i64)).toArray t (0,0)):=A8 W _;rw [zero_add];simp only [World.cell?,h1];simp [h]
theorem R5 (w:World) (a b c:Obj):(((w.alloc a).alloc b).alloc c).drew=grow (w.drewN 1) #[a,b,c]:=by rw [alloc_eq_grow,alloc_eq_grow,alloc_eq_grow,grow_grow,grow_grow];rfl
theorem comp88 (x y:List Tree) (w:World):Calls Tryz.prog 88 #[.agg (AO 4 x).toArray,.agg (AO 4 y).toArray] w fun e w'=>e = .returned (.int .i64 (BH [3,0,1] x y))∧∃q os',w'=grow (w.drewN q) os':=by
 have hx:AO 4 x=[.int .i64 (intOf (x.getD 0 default)),.int .i64 (intOf (x.getD 1 default)),.int .i64 (intOf (x.getD 2 default)),.int .i64 (intOf (x.getD 3 default))]:=rfl;have hy:AO 4 y=[.int .i64 (intOf (y.getD 0 default)),.int .i64 (intOf (y.getD 1 default)),.int .i64 (intOf (y.getD 2 default)),.int .i64 (intOf (y.getD 3 default))]:=rfl;have hf:BH [3,0,1] x y=orF [A5 (intOf (x.getD 3 default)) (intOf (y.getD 3 default)),A5 (intOf (x.getD 0 default)) (intOf (y.getD 0 default)),A5 (intOf (x.getD 1 default)) (intOf (y.getD 1 default))]:=JF x y _;rw [hx,hy,hf];generalize intOf (x.getD 0 default)=x0;generalize intOf (x.getD 1 default)=x1;generalize intOf (x.getD 2 default)=x2;generalize intOf (x.getD 3 default)=x3;generalize intOf (y.getD 0 default)=y0;generalize intOf (y.getD 1 default)=y1;generalize intOf (y.getD 2 default)=y2;generalize intOf (y.getD 3 default)=y3;clear hx hy hf;have key:∀(W:World) (k:Nat),W.heap.size=k→Calls Tryz.prog 34 #[.slice (some ⟨k,0,none⟩) 3 3] (W.alloc (.cells #[.int .i64 (A5 x3 y3),.int .i64 (A5 x0 y0),.int .i64 (A5 x1 y1)] 3)).drew fun e w'=>e = .returned (.int .i64 (orF [A5 x3 y3,A5 x0 y0,A5 x1 y1]))∧w'=(W.alloc (.cells #[.int .i64 (A5 x3 y3),.int .i64 (A5 x0 y0),.int .i64 (A5 x1 y1)] 3)).drew:=fun W k hk=>by subst hk;exact or34 [A5 x3 y3,A5 x0 y0,A5 x1 y1] (by simp) _ _ 3 (le_refl _) (MT W [A5 x3 y3,A5 x0 y0,A5 x1 y1] 3)
 generalize orF [A5 x3 y3,A5 x0 y0,A5 x1 y1]=r at key ⊢
 go_enter Tryz.func88,Tryz.ntmps88
 go_wp2
 refine wp_region_still_tail 15 (by kernel_rfl) (by kernel_rfl) ?_;simp only [List.take_succ_cons,take_zero,drop_succ_cons,drop_zero];change wpStill _ _ (World.drew _) _ _ _
 repeat (first|still_step|still_call (Vp _ _ _))
 refine wpStill_nil ?_;change wpList _ _ _ _ _ (World.drew _)
 go_wp2_with (go_at_fn 34;fail)
 refine Calls.mono (key ((w.alloc _).alloc _) (w.heap.size+1+1) (by simp)) ?_
 rintro e w' ⟨rfl,hw⟩
 rw [hw]
 go_wp2
 go_ret
 exact ⟨rfl,1,_,R5 _ _ _ _⟩
theorem comp103 (x y:List Tree) (w:World):Calls Tryz.prog 103 #[.agg (AO 5 x).toArray,.agg (AO 5 y).toArray] w fun e w'=>e = .returned (.int .i64 (BH [0,1,2,4,3] x y))∧∃q os',w'=grow (w.drewN q) os':=by
 have hx:AO 5 x=[.int .i64 (intOf (x.getD 0 default)),.int .i64 (intOf (x.getD 1 default)),.int .i64 (intOf (x.getD 2 default)),.int .i64 (intOf (x.getD 3 default)),.int .i64 (intOf (x.getD 4 default))]:=rfl;have hy:AO 5 y=[.int .i64 (intOf (y.getD 0 default)),.int .i64 (intOf (y.getD 1 default)),.int .i64 (intOf (y.getD 2 default)),.int .i64 (intOf (y.getD 3 default)),.int .i64 (intOf (y.getD 4 default))]:=rfl;have hf:BH [0,1,2,4,3] x y=orF [A5 (intOf (x.getD 0 default)) (intOf (y.getD 0 default)),A5 (intOf (x.getD 1 default)) (intOf (y.getD 1 default)),A5 (intOf (x.getD 2 default)) (intOf (y.getD 2 default)),A5 (intOf (x.getD 4 default)) (intOf (y.getD 4 default)),A5 (intOf (x.getD 3 default)) (intOf (y.getD 3 default))]:=JF x y _;rw [hx,hy,hf];generalize intOf (x.getD 0 default)=x0;generalize intOf (x.getD 1 default)=x1;generalize intOf (x.getD 2 default)=x2;generalize intOf (x.getD 3 default)=x3;generalize intOf (x.getD 4 default)=x4;generalize intOf (y.getD 0 default)=y0;generalize intOf (y.getD 1 default)=y1;generalize intOf (y.getD 2 default)=y2;generalize intOf (y.getD 3 default)=y3;generalize intOf (y.getD 4 default)=y4;clear hx hy hf;have key:∀(W:World) (k:Nat),W.heap.size=k→Calls Tryz.prog 34 #[.slice (some ⟨k,0,none⟩) 5 5] (W.alloc (.cells #[.int .i64 (A5 x0 y0),.int .i64 (A5 x1 y1),.int .i64 (A5 x2 y2),.int .i64 (A5 x4 y4),.int .i64 (A5 x3 y3)] 3)).drew fun e w'=>e = .returned (.int .i64 (orF [A5 x0 y0,A5 x1 y1,A5 x2 y2,A5 x4 y4,A5 x3 y3]))∧w'=(W.alloc (.cells #[.int .i64 (A5 x0 y0),.int .i64 (A5 x1 y1),.int .i64 (A5 x2 y2),.int .i64 (A5 x4 y4),.int .i64 (A5 x3 y3)] 3)).drew:=fun W k hk=>by subst hk;exact or34 [A5 x0 y0,A5 x1 y1,A5 x2 y2,A5 x4 y4,A5 x3 y3] (by simp) _ _ 5 (le_refl _) (MT W [A5 x0 y0,A5 x1 y1,A5 x2 y2,A5 x4 y4,A5 x3 y3] 3)
 generalize orF [A5 x0 y0,A5 x1 y1,A5 x2 y2,A5 x4 y4,A5 x3 y3]=r at key ⊢
 go_enter Tryz.func103,Tryz.ntmps103
 go_wp2
 refine wp_region_still_tail 25 (by kernel_rfl) (by kernel_rfl) ?_;simp only [List.take_succ_cons,take_zero,drop_succ_cons,drop_zero];change wpStill _ _ (World.drew _) _ _ _
 repeat (first|still_step|still_call (Vp _ _ _))
 refine wpStill_nil ?_;change wpList _ _ _ _ _ (World.drew _)
 go_wp2_with (go_at_fn 34;fail)
 refine Calls.mono (key ((w.alloc _).alloc _) (w.heap.size+1+1) (by simp)) ?_
 rintro e w' ⟨rfl,hw⟩
 rw [hw]
 go_wp2
 go_ret
 exact ⟨rfl,1,_,R5 _ _ _ _⟩
theorem comp33 (x y:List Tree) (w:World):Calls Tryz.prog 33 #[.agg (AO 4 x).toArray,.agg (AO 4 y).toArray] w fun e w'=>e = .returned (.int .i64 (BH [0,1] x y))∧∃q os',w'=grow (w.drewN q) os':=by
 have hx:AO 4 x=[.int .i64 (intOf (x.getD 0 default)),.int .i64 (intOf (x.getD 1 default)),.int .i64 (intOf (x.getD 2 default)),.int .i64 (intOf (x.getD 3 default))]:=rfl;have hy:AO 4 y=[.int .i64 (intOf (y.getD 0 default)),.int .i64 (intOf (y.getD 1 default)),.int .i64 (intOf (y.getD 2 default)),.int .i64 (intOf (y.getD 3 default))]:=rfl;have hf:BH [0,1] x y=orF [A5 (intOf (x.getD 0 default)) (intOf (y.getD 0 default)),A5 (intOf (x.getD 1 default)) (intOf (y.getD 1 default))]:=JF x y _;rw [hx,hy,hf];generalize intOf (x.getD 0 default)=x0;generalize intOf (x.getD 1 default)=x1;generalize intOf (x.getD 2 default)=x2;generalize intOf (x.getD 3 default)=x3;generalize intOf (y.getD 0 default)=y0;generalize intOf (y.getD 1 default)=y1;generalize intOf (y.getD 2 default)=y2;generalize intOf (y.getD 3 default)=y3;clear hx hy hf;have key:∀(W:World) (k:Nat),W.heap.size=k→Calls Tryz.prog 34 #[.slice (some ⟨k,0,none⟩) 2 2] (W.alloc (.cells #[.int .i64 (A5 x0 y0),.int .i64 (A5 x1 y1)] 3)).drew fun e w'=>e = .returned (.int .i64 (orF [A5 x0 y0,A5 x1 y1]))∧w'=(W.alloc (.cells #[.int .i64 (A5 x0 y0),.int .i64 (A5 x1 y1)] 3)).drew:=fun W k hk=>by subst hk;exact or34 [A5 x0 y0,A5 x1 y1] (by simp) _ _ 2 (le_refl _) (MT W [A5 x0 y0,A5 x1 y1] 3)
 generalize orF [A5 x0 y0,A5 x1 y1]=r at key ⊢
 go_enter Tryz.func33,Tryz.ntmps33
 go_wp2
 refine wp_region_still_tail 10 (by kernel_rfl) (by kernel_rfl) ?_;simp only [List.take_succ_cons,take_zero,drop_succ_cons,drop_zero];change wpStill _ _ (World.drew _) _ _ _
 repeat (first|still_step|still_call (Vp _ _ _))
 refine wpStill_nil ?_;change wpList _ _ _ _ _ (World.drew _)
 go_wp2_with (go_at_fn 34;fail)
 refine Calls.mono (key ((w.alloc _).alloc _) (w.heap.size+1+1) (by simp)) ?_
 rintro e w' ⟨rfl,hw⟩
 rw [hw]
 go_wp2
 go_ret
 exact ⟨rfl,1,_,R5 _ _ _ _⟩
theorem cmpOk88:TE Tryz.prog 88 4 (BH [3,0,1]):=⟨enters_of Tryz.func88 (by kernel_rfl) rfl,Bm _,comp88⟩
theorem Vn:TE Tryz.prog 103 5 (BH [0,1,2,4,3]):=⟨enters_of Tryz.func103 (by kernel_rfl) rfl,Bm _,comp103⟩
theorem Ko:TE Tryz.prog 33 4 (BH [0,1]):=⟨enters_of Tryz.func33 (by kernel_rfl) rfl,Bm _,comp33⟩
end Ab
namespace Go.Proofs
open Go.Shelf
def Tryz.Pq:Go.Shelf.Ren:=⟨fun|189=>155|125=>153|257=>196|128=>194|129=>195|294=>232|295=>233|296=>234|297=>235|298=>236|299=>237|216=>238|300=>239|301=>240|328=>266|329=>228|330=>229|331=>267|332=>268|215=>74|343=>286|n=>n,fun|28=>22|3=>3|46=>234|0=>0|51=>294|53=>296|4=>4|183=>288|182=>287|131=>100|5=>5|9=>9|218=>327|222=>118|228=>371|229=>372|n=>n,fun|n=>n⟩
theorem Tryz.lays189:Go.Proofs.Lays.n189 Tryz.prog Tryz.Pq:={
 mixed:=by kernel_rfl
 f125:=Tryz.func153.trans (congrArg some (by kernel_rfl))
 f128:=Tryz.func194.trans (congrArg some (by kernel_rfl))
 f129:=Tryz.func195.trans (congrArg some (by kernel_rfl))
 f189:=Tryz.func155.trans (congrArg some (by kernel_rfl))
 f215:=Tryz.func74.trans (congrArg some (by kernel_rfl))
 f216:=Tryz.func238.trans (congrArg some (by kernel_rfl))
 f257:=Tryz.func196.trans (congrArg some (by kernel_rfl))
 f294:=Tryz.func232.trans (congrArg some (by kernel_rfl))
 f295:=Tryz.func233.trans (congrArg some (by kernel_rfl))
 f296:=Tryz.func234.trans (congrArg some (by kernel_rfl))
 f297:=Tryz.func235.trans (congrArg some (by kernel_rfl))
 f298:=Tryz.func236.trans (congrArg some (by kernel_rfl))
 f299:=Tryz.func237.trans (congrArg some (by kernel_rfl))
 f300:=Tryz.func239.trans (congrArg some (by kernel_rfl))
 f301:=Tryz.func240.trans (congrArg some (by kernel_rfl))
 f328:=Tryz.func266.trans (congrArg some (by kernel_rfl))
 f329:=Tryz.func228.trans (congrArg some (by kernel_rfl))
 f330:=Tryz.func229.trans (congrArg some (by kernel_rfl))
 f331:=Tryz.func267.trans (congrArg some (by kernel_rfl))
 f332:=Tryz.func268.trans (congrArg some (by kernel_rfl))
 f343:=Tryz.func286.trans (congrArg some (by kernel_rfl))
 t0:=Tryz.underlying0
 a0:=Tryz.isAgg0
 z0:=Tryz.sizeOf0
 v0:=Tryz.zeroValue0
 t3:=Tryz.underlying3
 a3:=Tryz.isAgg3
 z3:=Tryz.sizeOf3
 v3:=Tryz.zeroValue3
 t4:=Tryz.underlying4
 a4:=Tryz.isAgg4
 z4:=Tryz.sizeOf4
 v4:=Tryz.zeroValue4
 t5:=Tryz.underlying5
 a5:=Tryz.isAgg5
 z5:=Tryz.sizeOf5
 v5:=Tryz.zeroValue5
 t9:=Tryz.underlying9
 a9:=Tryz.isAgg9
 z9:=Tryz.sizeOf9
 v9:=Tryz.zeroValue9
 t28:=Tryz.underlying22
 a28:=Tryz.isAgg22
 z28:=Tryz.sizeOf22
 v28:=Tryz.zeroValue22
 t46:=Tryz.underlying234
 a46:=Tryz.isAgg234
 z46:=Tryz.sizeOf234
 v46:=Tryz.zeroValue234
 t51:=Tryz.underlying294
 a51:=Tryz.isAgg294
 z51:=Tryz.sizeOf294
 v51:=Tryz.zeroValue294
 t53:=Tryz.underlying296
 a53:=Tryz.isAgg296
 z53:=Tryz.sizeOf296
 v53:=Tryz.zeroValue296
 t131:=Tryz.underlying100
 a131:=Tryz.isAgg100
 z131:=Tryz.sizeOf100
 v131:=Tryz.zeroValue100
 t182:=Tryz.underlying287
 a182:=Tryz.isAgg287
 z182:=Tryz.sizeOf287
 v182:=Tryz.zeroValue287
 t183:=Tryz.underlying288
 a183:=Tryz.isAgg288
 z183:=Tryz.sizeOf288
 v183:=Tryz.zeroValue288
 t218:=Tryz.underlying327
 a218:=Tryz.isAgg327
 z218:=Tryz.sizeOf327
 v218:=Tryz.zeroValue327
 t222:=Tryz.underlying118
 a222:=Tryz.isAgg118
 z222:=Tryz.sizeOf118
 v222:=Tryz.zeroValue118
 t228:=Tryz.underlying371
 a228:=Tryz.isAgg371
 z228:=Tryz.sizeOf371
 v228:=Tryz.zeroValue371
 t229:=Tryz.underlying372
 a229:=Tryz.isAgg372
 z229:=Tryz.sizeOf372
 v229:=Tryz.zeroValue372}
def Tryz.PM:Go.Shelf.Ren:=⟨fun|6=>94|15=>153|14=>152|28=>194|29=>195|20=>186|21=>187|22=>188|23=>189|24=>190|25=>191|26=>192|27=>193|46=>227|47=>228|48=>229|49=>230|50=>231|57=>265|n=>n,fun|22=>102|24=>169|25=>176|3=>3|39=>234|0=>0|53=>294|55=>296|4=>4|46=>288|45=>287|50=>100|5=>5|9=>9|66=>327|70=>118|76=>371|77=>372|n=>n,fun|n=>n⟩
theorem Tryz.sortLab:Go.Proofs.SlLaysF0.n6 Tryz.prog Tryz.PM:={
 mixed:=by kernel_rfl
 f6:=⟨Tryz.f94.name,by decide,Tryz.func94.trans (congrArg some (by kernel_rfl))⟩
 f14:=⟨Tryz.f152.name,by decide,Tryz.func152.trans (congrArg some (by kernel_rfl))⟩
 f15:=Tryz.func153.trans (congrArg some (by kernel_rfl))
 f20:=⟨Tryz.f186.name,by decide,Tryz.func186.trans (congrArg some (by kernel_rfl))⟩
 f21:=⟨Tryz.f187.name,by decide,Tryz.func187.trans (congrArg some (by kernel_rfl))⟩
 f22:=⟨Tryz.f188.name,by decide,Tryz.func188.trans (congrArg some (by kernel_rfl))⟩
 f23:=⟨Tryz.f189.name,by decide,Tryz.func189.trans (congrArg some (by kernel_rfl))⟩
 f24:=⟨Tryz.f190.name,by decide,Tryz.func190.trans (congrArg some (by kernel_rfl))⟩
 f25:=⟨Tryz.f191.name,by decide,Tryz.func191.trans (congrArg some (by kernel_rfl))⟩
 f26:=⟨Tryz.f192.name,by decide,Tryz.func192.trans (congrArg some (by kernel_rfl))⟩
 f27:=⟨Tryz.f193.name,by decide,Tryz.func193.trans (congrArg some (by kernel_rfl))⟩
 f28:=Tryz.func194.trans (congrArg some (by kernel_rfl))
 f29:=Tryz.func195.trans (congrArg some (by kernel_rfl))
 f46:=⟨Tryz.f227.name,by decide,Tryz.func227.trans (congrArg some (by kernel_rfl))⟩
 f47:=Tryz.func228.trans (congrArg some (by kernel_rfl))
 f48:=Tryz.func229.trans (congrArg some (by kernel_rfl))
 f49:=⟨Tryz.f230.name,by decide,Tryz.func230.trans (congrArg some (by kernel_rfl))⟩
 f50:=⟨Tryz.f231.name,by decide,Tryz.func231.trans (congrArg some (by kernel_rfl))⟩
 f57:=⟨Tryz.f265.name,by decide,Tryz.func265.trans (congrArg some (by kernel_rfl))⟩
 t0:=Tryz.underlying0
 a0:=Tryz.isAgg0
 z0:=Tryz.sizeOf0
 v0:=Tryz.zeroValue0
 t3:=Tryz.underlying3
 a3:=Tryz.isAgg3
 z3:=Tryz.sizeOf3
 v3:=Tryz.zeroValue3
 t4:=Tryz.underlying4
 a4:=Tryz.isAgg4
 z4:=Tryz.sizeOf4
 v4:=Tryz.zeroValue4
 t5:=Tryz.underlying5
 a5:=Tryz.isAgg5
 z5:=Tryz.sizeOf5
 v5:=Tryz.zeroValue5
 t9:=Tryz.underlying9
 a9:=Tryz.isAgg9
 z9:=Tryz.sizeOf9
 v9:=Tryz.zeroValue9
 t22:=Tryz.underlying102
 a22:=Tryz.isAgg102
 z22:=Tryz.sizeOf102
 v22:=Tryz.zeroValue102
 t25:=Tryz.underlying176
 a25:=Tryz.isAgg176
 z25:=Tryz.sizeOf176
 v25:=Tryz.zeroValue176
 t39:=Tryz.underlying234
 a39:=Tryz.isAgg234
 z39:=Tryz.sizeOf234
 v39:=Tryz.zeroValue234
 t45:=Tryz.underlying287
 a45:=Tryz.isAgg287
 z45:=Tryz.sizeOf287
 v45:=Tryz.zeroValue287
 t46:=Tryz.underlying288
 a46:=Tryz.isAgg288
 z46:=Tryz.sizeOf288
 v46:=Tryz.zeroValue288
 t50:=Tryz.underlying100
 a50:=Tryz.isAgg100
 z50:=Tryz.sizeOf100
 v50:=Tryz.zeroValue100
 t53:=Tryz.underlying294
 a53:=Tryz.isAgg294
 z53:=Tryz.sizeOf294
 v53:=Tryz.zeroValue294
 t55:=Tryz.underlying296
 a55:=Tryz.isAgg296
 z55:=Tryz.sizeOf296
 v55:=Tryz.zeroValue296
 t66:=Tryz.underlying327
 a66:=Tryz.isAgg327
 z66:=Tryz.sizeOf327
 v66:=Tryz.zeroValue327
 t70:=Tryz.underlying118
 a70:=Tryz.isAgg118
 z70:=Tryz.sizeOf118
 v70:=Tryz.zeroValue118
 t76:=Tryz.underlying371
 a76:=Tryz.isAgg371
 z76:=Tryz.sizeOf371
 v76:=Tryz.zeroValue371
 t77:=Tryz.underlying372
 a77:=Tryz.isAgg372
 z77:=Tryz.sizeOf372
 v77:=Tryz.zeroValue372}
def Tryz.N7:Go.Shelf.Ren:=⟨fun|6=>102|15=>153|14=>159|28=>194|29=>195|20=>198|21=>199|22=>200|23=>201|24=>202|25=>203|26=>204|27=>205|46=>241|47=>228|48=>229|49=>242|50=>243|57=>269|n=>n,fun|22=>27|24=>108|25=>183|3=>3|39=>234|0=>0|53=>294|55=>296|4=>4|46=>288|45=>287|50=>100|5=>5|9=>9|66=>327|70=>118|76=>371|77=>372|n=>n,fun|n=>n⟩
theorem Tryz.Ub:Go.Proofs.SlLaysF0.n6 Tryz.prog Tryz.N7:={
 mixed:=by kernel_rfl
 f6:=⟨Tryz.f102.name,by decide,Tryz.func102.trans (congrArg some (by kernel_rfl))⟩
 f14:=⟨Tryz.f159.name,by decide,Tryz.func159.trans (congrArg some (by kernel_rfl))⟩
 f15:=Tryz.func153.trans (congrArg some (by kernel_rfl))
 f20:=⟨Tryz.f198.name,by decide,Tryz.func198.trans (congrArg some (by kernel_rfl))⟩
 f21:=⟨Tryz.f199.name,by decide,Tryz.func199.trans (congrArg some (by kernel_rfl))⟩
 f22:=⟨Tryz.f200.name,by decide,Tryz.func200.trans (congrArg some (by kernel_rfl))⟩
 f23:=⟨Tryz.f201.name,by decide,Tryz.func201.trans (congrArg some (by kernel_rfl))⟩
 f24:=⟨Tryz.f202.name,by decide,Tryz.func202.trans (congrArg some (by kernel_rfl))⟩
 f25:=⟨Tryz.f203.name,by decide,Tryz.func203.trans (congrArg some (by kernel_rfl))⟩
 f26:=⟨Tryz.f204.name,by decide,Tryz.func204.trans (congrArg some (by kernel_rfl))⟩
 f27:=⟨Tryz.f205.name,by decide,Tryz.func205.trans (congrArg some (by kernel_rfl))⟩
 f28:=Tryz.func194.trans (congrArg some (by kernel_rfl))
 f29:=Tryz.func195.trans (congrArg some (by kernel_rfl))
 f46:=⟨Tryz.f241.name,by decide,Tryz.func241.trans (congrArg some (by kernel_rfl))⟩
 f47:=Tryz.func228.trans (congrArg some (by kernel_rfl))
 f48:=Tryz.func229.trans (congrArg some (by kernel_rfl))
 f49:=⟨Tryz.f242.name,by decide,Tryz.func242.trans (congrArg some (by kernel_rfl))⟩
 f50:=⟨Tryz.f243.name,by decide,Tryz.func243.trans (congrArg some (by kernel_rfl))⟩
 f57:=⟨Tryz.f269.name,by decide,Tryz.func269.trans (congrArg some (by kernel_rfl))⟩
 t0:=Tryz.underlying0
 a0:=Tryz.isAgg0
 z0:=Tryz.sizeOf0
 v0:=Tryz.zeroValue0
 t3:=Tryz.underlying3
 a3:=Tryz.isAgg3
 z3:=Tryz.sizeOf3
 v3:=Tryz.zeroValue3
 t4:=Tryz.underlying4
 a4:=Tryz.isAgg4
 z4:=Tryz.sizeOf4
 v4:=Tryz.zeroValue4
 t5:=Tryz.underlying5
 a5:=Tryz.isAgg5
 z5:=Tryz.sizeOf5
 v5:=Tryz.zeroValue5
 t9:=Tryz.underlying9
 a9:=Tryz.isAgg9
 z9:=Tryz.sizeOf9
 v9:=Tryz.zeroValue9
 t22:=Tryz.underlying27
 a22:=Tryz.isAgg27
 z22:=Tryz.sizeOf27
 v22:=Tryz.zeroValue27
 t25:=Tryz.underlying183
 a25:=Tryz.isAgg183
 z25:=Tryz.sizeOf183
 v25:=Tryz.zeroValue183
 t39:=Tryz.underlying234
 a39:=Tryz.isAgg234
 z39:=Tryz.sizeOf234
 v39:=Tryz.zeroValue234
 t45:=Tryz.underlying287
 a45:=Tryz.isAgg287
 z45:=Tryz.sizeOf287
 v45:=Tryz.zeroValue287
 t46:=Tryz.underlying288
 a46:=Tryz.isAgg288
 z46:=Tryz.sizeOf288
 v46:=Tryz.zeroValue288
 t50:=Tryz.underlying100
 a50:=Tryz.isAgg100
 z50:=Tryz.sizeOf100
 v50:=Tryz.zeroValue100
 t53:=Tryz.underlying294
 a53:=Tryz.isAgg294
 z53:=Tryz.sizeOf294
 v53:=Tryz.zeroValue294
 t55:=Tryz.underlying296
 a55:=Tryz.isAgg296
 z55:=Tryz.sizeOf296
 v55:=Tryz.zeroValue296
 t66:=Tryz.underlying327
 a66:=Tryz.isAgg327
 z66:=Tryz.sizeOf327
 v66:=Tryz.zeroValue327
 t70:=Tryz.underlying118
 a70:=Tryz.isAgg118
 z70:=Tryz.sizeOf118
 v70:=Tryz.zeroValue118
 t76:=Tryz.underlying371
 a76:=Tryz.isAgg371
 z76:=Tryz.sizeOf371
 v76:=Tryz.zeroValue371
 t77:=Tryz.underlying372
 a77:=Tryz.isAgg372
 z77:=Tryz.sizeOf372
 v77:=Tryz.zeroValue372}
def Tryz.KQ:Go.Shelf.Ren:=⟨fun|20=>135|n=>n,fun|24=>43|22=>26|3=>3|25=>86|4=>4|0=>0|n=>n,fun|n=>n⟩
theorem Tryz.OT:Go.Proofs.SlLaysF0.n20 Tryz.prog Tryz.KQ:={
 mixed:=by kernel_rfl
 f20:=⟨Tryz.f135.name,by decide,Tryz.func135.trans (congrArg some (by kernel_rfl))⟩
 t0:=Tryz.underlying0
 a0:=Tryz.isAgg0
 z0:=Tryz.sizeOf0
 v0:=Tryz.zeroValue0
 t3:=Tryz.underlying3
 a3:=Tryz.isAgg3
 z3:=Tryz.sizeOf3
 v3:=Tryz.zeroValue3
 t4:=Tryz.underlying4
 a4:=Tryz.isAgg4
 z4:=Tryz.sizeOf4
 v4:=Tryz.zeroValue4
 t22:=Tryz.underlying26
 a22:=Tryz.isAgg26
 z22:=Tryz.sizeOf26
 v22:=Tryz.zeroValue26
 t25:=Tryz.underlying86
 a25:=Tryz.isAgg86
 z25:=Tryz.sizeOf86
 v25:=Tryz.zeroValue86}
end Go.Proofs
namespace Ab
open Go Go.Proofs Go.RowKit Go.Lib Go.Shelf Go.Sort
set_option maxRecDepth 100000
set_option maxHeartbeats 4000000
theorem UW (s fv:Value) (n:Nat) (hn:n<20) (w:World) (R:World→Prop) (h:Calls Tryz.prog 135 #[s,.int .i64 0,.int .i64 n,fv] w fun e w'=>e = .returned (.tuple #[])∧R w') :
  Calls Tryz.prog 73 #[s,.int .i64 n,fv] w fun e w'=>e = .returned (.tuple #[])∧R w':=by
 have h1:¬((20:Int)≤(n:Int)):=by omega
 have h2:¬((20:Int)<(n:Int)):=by omega
 go_enter Tryz.func73,Tryz.ntmps73
 go_wp2
 refine wp_loop_rounds 1 ?_;rw [rounds_succ]
 go_wp2_with (go_at_fn 135;fail)
 refine Calls.mono h ?_
 rintro e w' ⟨rfl,hR⟩
 go_wp2
 refine wp_loop_rounds 1 ?_;rw [rounds_succ]
 go_wp2
 go_end0
 exact ⟨rfl,hR⟩
theorem PL (p:Option Addr) (cap:Nat) (fv:Value) (n:Nat) (hn:n<20) (w:World) (R:World→Prop) (h:Calls Tryz.prog 135 #[.slice p n cap,.int .i64 0,.int .i64 n,fv] w fun e w'=>e = .returned (.tuple #[])∧R w') :
  Calls Tryz.prog 32 #[.slice p n cap,fv] w fun e w'=>e = .returned (.tuple #[])∧R w':=by
 have h3:=UW (.slice p n cap) fv n hn w R h
 go_enter Tryz.func32,Tryz.ntmps32
 go_wp2_with (go_at_fn 73;fail)
 refine Calls.mono h3 ?_
 rintro e w' ⟨rfl,hR⟩
 go_wp2
 go_end0
 exact ⟨rfl,hR⟩
def RW (cf:List Tree→List Tree→Int) (d:List (List Tree)):List (List Tree):=(Sort.insertionSort (ltOf cf) d.toArray 0 d.length).toList
theorem HB {cf:List Tree→List Tree→Int} (hO:SWO (ltOf cf)) (d:List (List Tree)):(RW cf d).Perm d:=by
 obtain ⟨⟨h1,h2,h3⟩,h4⟩:=insertionSort_holds hO d.toArray 0 d.length (zero_le _) (by simp);unfold RW;have e1:(Sort.insertionSort (ltOf cf) d.toArray 0 d.length).extract 0 d.length=Sort.insertionSort (ltOf cf) d.toArray 0 d.length:=by rw [extract_eq_self_of_le];rw [h1];simp
 have e2:d.toArray.extract 0 d.length=d.toArray:=by rw [extract_eq_self_of_le];simp
 rw [e1,e2] at h3;simpa using h3
theorem holds_of {z:Nat} {d:List (List Tree)} {w:World} {b o:Nat} {cells:Array Value} {el:TypeId} {fr:Nat×Nat} (hint:A7 z d=true) (hb:w.heap[b]? = some (.cells cells el fr)) (hth:Ms z cells.size fr) (hfit:o+d.length*z≤cells.size)
  (hcell:∀q,q<d.length*z→cells.getD (o+q) undef=(Ck d).getD q undef):HoldsK (AO z) z w b o d.toArray:=fun j hj=>by
 rw [size_flatK] at hj;have hj':j<d.length*z:=by simpa using hj
 have hlt:o+j<cells.size:=by omega
 refine ⟨?_,hth.cell hb hlt⟩;have h1:=hcell j hj';have h2:(Sort.flatK (AO z) z d.toArray)[j]! = (Ck d).getD j undef:=by
  have hs:j<(Sort.flatK (AO z) z d.toArray).size:=by rw [size_flatK];exact hj
  rw [getElem!_pos _ j hs,← IE z d hint];simp only [List.getD,getElem?_toList];rw [Array.getElem?_eq_getElem hs];rfl
 rw [show id (Sort.flatK (AO z) z d.toArray)[j]! = (Sort.flatK (AO z) z d.toArray)[j]! from rfl,h2,← h1];simp [World.cell?,hb,Array.getD,hlt]
theorem Uu:GB Tryz.prog 32 4 19 (some 33) (RW (BH [0,1])) where
 len:=fun d=>(HB (Bm _) d).length_eq
 int:=fun d h=>all_eq_true.2 fun e he=>all_eq_true.1 h e ((HB (Bm _) d).mem_iff.1 he)
 nil:=fun a w=>by
  have h:=AnyF.insertionSortCmpFunc_none Tryz.OT a 0 (.func (.func 33) #[] #[]) w;exact PL a 0 (.func (.func 33) #[] #[]) 0 (by decide) w (Grow w) (Calls.mono h fun e w' h=>by obtain ⟨h1,rfl⟩:=h;exact ⟨h1,rfl,rfl,rfl,le_refl _,fun _ _=>rfl⟩)
 run:=fun d w b o cap cells el fr hint hlen hb hth hfit hcell=>by have hH:=holds_of hint hb hth hfit hcell;have hpm:=HB (Bm [0,1]) d;have hcon:=AnyQ.insertionSortCmpFunc Tryz.OT 4 (fun w=>by kernel_rfl) (fun w=>by kernel_rfl) (AO 4) (Ep 4) (Eo 4) (BH [0,1]) 33 #[] b o cap 0 d.length d.toArray w Ko.enters (fun _ _ _ _ x y=>Ko.calls x y _) hH (Array.getElem?_eq_some_iff.1 hb).1 (zero_le _) (by simp) (by simp;omega);simp only [size_toArray] at hcon;refine PL (some ⟨b,o,none⟩) cap (.func (.func 33) #[] #[]) d.length (by omega) w _ (Calls.mono hcon fun e w' h => ?_);obtain ⟨h1,n,os,rfl⟩:=h;refine ⟨h1,?_⟩;have hi2:A7 4 (RW (BH [0,1]) d)=true:=all_eq_true.2 fun e he=>all_eq_true.1 hint e (hpm.mem_iff.1 he);have:=Ee (n:=n) hb hi2 (by rw [hpm.length_eq];exact hfit) os;unfold RW at this ⊢;simpa using this
theorem perm94:GB Tryz.prog 94 4 1073741824 (some 88) (Jm (BH [3,0,1])):=Hr Tryz.sortLab (fun w=>by kernel_rfl) (fun w=>by kernel_rfl) cmpOk88
theorem perm102:GB Tryz.prog 102 5 1073741824 (some 103) (Jm (BH [0,1,2,4,3])):=Hr Tryz.Ub (fun w=>by kernel_rfl) (fun w=>by kernel_rfl) Vn
theorem perm155:GB Tryz.prog 155 1 1073741824 none E1:=My Tryz.lays189
end Ab
namespace Ab
open Go Go.Proofs Go.RowKit Go.Lib Go.Shelf Go.Sort
set_option maxRecDepth 1000000
set_option maxHeartbeats 8000000
def EB (d:Array (List Tree)) (a b:Nat):Nat→Array (List Tree)
 |0=>d
 |n+1=>swp (EB d a b n) (a+n) (b+n)
theorem DN (d:Array (List Tree)) (a b:Nat):∀n,(EB d a b n).size=d.size
 |0=>rfl
 |n+1=>by rw [EB,size_swp,DN d a b n]
structure StL (P:Program) (k:Nat):Prop where
 mixed:P.follows .mixedOrders=true
 f224:P.funcs[224]? = some Tryz.f224
 f181:P.funcs[181]? = some Tryz.f181
 f136:P.funcs[136]? = some Tryz.f136
 f73:P.funcs[73]? = some Tryz.f73
 f32:P.funcs[32]? = some Tryz.f32
 ins:SlLaysF0.n20 P Tryz.KQ
 t0:P.underlying 0=some (TypeDesc.tuple #[])
 a0:∀w,(Go.isAgg 0).run P w = .ok false w
 z0:∀w,(Go.sizeOf 0).run P w = .ok 1 w
 v0:∀w,(Go.zeroValue 0).run P w = .ok (Value.tuple #[]) w
 t3:P.underlying 3=some (TypeDesc.int IntKind.i64)
 a3:∀w,(Go.isAgg 3).run P w = .ok false w
 z3:∀w,(Go.sizeOf 3).run P w = .ok 1 w
 v3:∀w,(Go.zeroValue 3).run P w = .ok (Value.int IntKind.i64 0) w
 t4:P.underlying 4=some (TypeDesc.bool)
 a4:∀w,(Go.isAgg 4).run P w = .ok false w
 z4:∀w,(Go.sizeOf 4).run P w = .ok 1 w
 v4:∀w,(Go.zeroValue 4).run P w = .ok (Value.bool false) w
 t26:P.underlying 26=some (TypeDesc.slice 43)
 a26:∀w,(Go.isAgg 26).run P w = .ok false w
 z26:∀w,(Go.sizeOf 26).run P w = .ok 1 w
 v26:∀w,(Go.zeroValue 26).run P w = .ok (Value.slice none 0 0) w
 t86:P.underlying 86=some (TypeDesc.func #[43,43] #[3] false)
 a86:∀w,(Go.isAgg 86).run P w = .ok false w
 z86:∀w,(Go.sizeOf 86).run P w = .ok 1 w
 v86:∀w,(Go.zeroValue 86).run P w = .ok (Value.nilFunc) w
 t234:P.underlying 234=some (TypeDesc.int IntKind.u64)
 a234:∀w,(Go.isAgg 234).run P w = .ok false w
 z234:∀w,(Go.sizeOf 234).run P w = .ok 1 w
 v234:∀w,(Go.zeroValue 234).run P w = .ok (Value.int IntKind.u64 0) w
 aE:∀w,(Go.isAgg 43).run P w = .ok true w
 zE:∀w,(Go.sizeOf 43).run P w = .ok k w
theorem Tryz.stL:StL Tryz.prog 4:={
 mixed:=by kernel_rfl
 f224:=Tryz.func224
 f181:=Tryz.func181
 f136:=Tryz.func136
 f73:=Tryz.func73
 f32:=Tryz.func32
 ins:=Tryz.OT
 t0:=Tryz.underlying0
 a0:=Tryz.isAgg0
 z0:=Tryz.sizeOf0
 v0:=Tryz.zeroValue0
 t3:=Tryz.underlying3
 a3:=Tryz.isAgg3
 z3:=Tryz.sizeOf3
 v3:=Tryz.zeroValue3
 t4:=Tryz.underlying4
 a4:=Tryz.isAgg4
 z4:=Tryz.sizeOf4
 v4:=Tryz.zeroValue4
 t26:=Tryz.underlying26
 a26:=Tryz.isAgg26
 z26:=Tryz.sizeOf26
 v26:=Tryz.zeroValue26
 t86:=Tryz.underlying86
 a86:=Tryz.isAgg86
 z86:=Tryz.sizeOf86
 v86:=Tryz.zeroValue86
 t234:=Tryz.underlying234
 a234:=Tryz.isAgg234
 z234:=Tryz.sizeOf234
 v234:=Tryz.zeroValue234
 aE:=fun w=>by kernel_rfl
 zE:=fun w=>by kernel_rfl}
variable {P:Program} {k:Nat}
theorem swap224 (L:StL P k) (blk off cap a b n:Nat) (fv:Value) (d dk:Array (List Tree)) (w:World) (m:Nat) (os:Array Obj) (hH:HoldsK (AO k) k w blk off d) (hblk:blk<w.heap.size) (hsk:dk.size=d.size) (ha:a+n≤d.size) (hb:b+n≤d.size) (hsz:d.size<1000000) :
  Calls P 224 #[.slice (some ⟨blk,off,none⟩) d.size cap,.int .i64 a,.int .i64 b,.int .i64 n,fv] (sortWorldK (AO k) k w blk off m dk os) fun e w'=>e = .returned (.tuple #[])∧∃m',w'=sortWorldK (AO k) k w blk off m' (EB dk a b n) os:=by
 have mixed:=L.mixed;have t0:=L.t0;have a0:=L.a0;have z0:=L.z0;have v0:=L.v0;have t3:=L.t3;have a3:=L.a3;have z3:=L.z3;have v3:=L.v3;have t4:=L.t4;have a4:=L.a4;have z4:=L.z4;have v4:=L.v4;have t26:=L.t26;have a26:=L.a26;have z26:=L.z26;have v26:=L.v26;have t86:=L.t86;have a86:=L.a86;have z86:=L.z86;have v86:=L.v86;have aE:=L.aE;have zE:=L.zE;have u26:=run_underlying L.t26;have HH:Hid (HoldsK (AO k) k w blk off d):=hH;have HK:Hid (∀x,(AO k x).length=k):=Ep k;have H1:Hid (∀x,∀v∈AO k x,v.oneCell'=true):=Eo k;clear hH
 go_enter L.f224,Tryz.ntmps224
 go_wp2
 go_loopg [10] n (fun g1 vi wr=>∃(i q:Nat),vi = .int .i64 i∧i≤n∧n-i≤g1∧wr=sortWorldK (AO k) k w blk off q (EB dk a b i) os)
 case atStart=>exact ⟨0,m,by go_num,by omega,by omega,rfl⟩
 case round=>
  obtain ⟨i,q,rfl,hi,hg1,rfl⟩:=hrel;by_cases hlt:i<n
  ·have hltz:(i:Int)<(n:Int):=by omega
   have hs2:(EB dk a b i).size=d.size:=by rw [DN];exact hsk
   have hwa:IntKind.i64.wrap ((a:Int)+(i:Int))=((a+i:Nat):Int):=by rw [IntKind.wrap_i64];omega
   have hwb:IntKind.i64.wrap ((b:Int)+(i:Int))=((b+i:Nat):Int):=by rw [IntKind.wrap_i64];omega
   have ja:((a+i:Nat):Int)<(d.size:Int):=by omega
   have jb:((b+i:Nat):Int)<(d.size:Int):=by omega
   generalize hdj:EB dk a b i=dj at hs2;obtain ⟨xa,hxa⟩:∃x,dj[a+i]! = x:=⟨_,rfl⟩
   obtain ⟨xb,hxb⟩:∃x,dj[b+i]! = x:=⟨_,rfl⟩
   have hHd:HoldsK (AO k) k (sortWorldK (AO k) k w blk off q dj os).drew blk off dj:=by have:HoldsK (AO k) k (sortWorldK (AO k) k w blk off q dj os) blk off dj:=holdsK_sortWorldK_c (AO k) k w blk off d dj _ _ HH.out hblk hs2;exact this
   have bnd:∀x,x<dj.size→x*k+k≤dj.size*k:=fun x hx=>by have:=mul_le_mul_right k (show x+1≤dj.size from hx);rwa [add_mul,Nat.one_mul] at this
   generalize hwq:sortWorldK (AO k) k w blk off q dj os=wq at hHd;have lb:Sem.run P (loadCellsFrom ⟨blk,off+(b+i)*k,none⟩ 0 k #[]) wq.drew = .ok (AO k xb).toArray wq.drew:=by rw [← hxb];exact run_loadCellsFrom_list _ _ _ _ k (HK.out _) (HoldsK.cells hHd HK.out (by omega))
   have la:Sem.run P (loadCellsFrom ⟨blk,off+(a+i)*k,none⟩ 0 k #[]) wq.drew = .ok (AO k xa).toArray wq.drew:=by rw [← hxa];exact run_loadCellsFrom_list _ _ _ _ k (HK.out _) (HoldsK.cells hHd HK.out (by omega))
   have s1:Sem.run P (storeCells ⟨blk,off+(a+i)*k,none⟩ (AO k xb) 0) wq.drew = .ok () (wq.drew.setCells blk (off+(a+i)*k) (AO k xb)):=stores_of_holds _ hHd ((a+i)*k) _ (by rw [HK.out,size_flatK];exact bnd (a+i) (by omega)) (H1.out _);have s2:Sem.run P (storeCells ⟨blk,off+(b+i)*k,none⟩ (AO k xa) 0) (wq.drew.setCells blk (off+(a+i)*k) (AO k xb))= .ok () ((wq.drew.setCells blk (off+(a+i)*k) (AO k xb)).setCells blk (off+(b+i)*k) (AO k xa)):=
    stores_of_holds _ (holds_setCells_c hHd ((a+i)*k) _ (by rw [HK.out,size_flatK];exact bnd (a+i) (by omega))) ((b+i)*k) _ (by rw [HK.out,size_setMany,size_flatK];exact bnd (b+i) (by omega)) (H1.out _)
   have hsA:(AO k xa).length=k:=HK.out _;have hsB:(AO k xb).length=k:=HK.out _;have HW2:Hid (sortWorldK (AO k) k w blk off q dj os=wq):=hwq;clear hwq hHd bnd;obtain ⟨cA,hcA⟩:∃c,c=AO k xa:=⟨_,rfl⟩
   obtain ⟨cB,hcB⟩:∃c,c=AO k xb:=⟨_,rfl⟩
   rw [← hcB] at s1 lb hsB;rw [← hcA] at la hsA;rw [← hcA,← hcB] at s2;have CC:Hid (cA=AO k xa∧cB=AO k xb):=⟨hcA,hcB⟩
   clear hcA hcB;have p0:(0:Int)≤((a+i:Nat):Int):=by omega
   have p1:(0:Int)≤((b+i:Nat):Int):=by omega
   have e0:((a+i:Nat):Int).toNat=a+i:=by omega
   have e1:((b+i:Nat):Int).toNat=b+i:=by omega
   go_wp2_with fail
   go_big_region_o
   all_goals go_wp2
   go_roundg (n-(i+1))
   case measure=>omega
   case rel=>
    refine ⟨i+1,q+1,by go_num,by omega,by omega,?_⟩;rw [CC.out.1,CC.out.2,← HW2.out,← hxa,← hxb];rw [EB,hdj];exact sortWorldK_swp_c (AO k) k w blk off HK.out q dj os hblk (a+i) (b+i) (by omega) (by omega)
  ·have hltz:¬(i:Int)<(n:Int):=by omega
   obtain rfl:i=n:=by omega
   go_wp2
   go_end0
   exact ⟨rfl,q,rfl⟩
def DP:Nat→Nat→Nat→Nat→Array (List Tree)→Array (List Tree)
 |0,_,_,_,d=>d
 |f+1,m,i,j,d=>if i=j then EB d (m-i) m i else if j<i then DP f m (i-j) j (EB d (m-i) m j) else DP f m i (j-i) (EB d (m-i) (m+j-i) i)
theorem G7:∀(f f' m i j:Nat) (d:Array (List Tree)),0<i→0<j→i+j≤f→i+j≤f'→DP f m i j d=DP f' m i j d
 |0,_,m,i,j,d,h1,_,h3,_=>by omega
 |_,0,m,i,j,d,h1,_,_,h4=>by omega
 |f+1,f'+1,m,i,j,d,h1,h2,h3,h4=>by
  unfold DP;split
  ·rfl
  ·rename_i hne;split
   ·exact G7 f f' m _ _ _ (by omega) h2 (by omega) (by omega)
   ·exact G7 f f' m _ _ _ h1 (by omega) (by omega) (by omega)
theorem FY:∀(f m i j:Nat) (d:Array (List Tree)),(DP f m i j d).size=d.size
 |0,_,_,_,d=>rfl
 |f+1,m,i,j,d=>by
  unfold DP;split
  ·exact DN _ _ _ _
  ·split
   ·rw [FY f,DN]
   ·rw [FY f,DN]
theorem rot181 (L:StL P k) (blk off cap a m b:Nat) (fv:Value) (d dk:Array (List Tree)) (w:World) (q:Nat) (os:Array Obj) (hH:HoldsK (AO k) k w blk off d) (hblk:blk<w.heap.size) (hsk:dk.size=d.size) (ham:a<m) (hmb:m<b) (hb:b≤d.size) (hsz:d.size<1000000) :
  Calls P 181 #[.slice (some ⟨blk,off,none⟩) d.size cap,.int .i64 a,.int .i64 m,.int .i64 b,fv] (sortWorldK (AO k) k w blk off q dk os) fun e w'=>e = .returned (.tuple #[])∧∃q',w'=sortWorldK (AO k) k w blk off q' (DP (b-a) m (m-a) (b-m) dk) os:=by
 have mixed:=L.mixed;have t0:=L.t0;have a0:=L.a0;have z0:=L.z0;have v0:=L.v0;have t3:=L.t3;have a3:=L.a3;have z3:=L.z3;have v3:=L.v3;have t4:=L.t4;have a4:=L.a4;have z4:=L.z4;have v4:=L.v4;have t26:=L.t26;have a26:=L.a26;have z26:=L.z26;have v26:=L.v26;have t86:=L.t86;have a86:=L.a86;have z86:=L.z86;have v86:=L.v86;have aE:=L.aE;have zE:=L.zE;have u26:=run_underlying L.t26;have HC:Hid (∀(x y n:Nat) (dj:Array (List Tree)) (q:Nat),dj.size=d.size→x+n≤d.size→y+n≤d.size→Calls P 224 #[.slice (some ⟨blk,off,none⟩) d.size cap,.int .i64 x,.int .i64 y,.int .i64 n,fv] (sortWorldK (AO k) k w blk off q dj os) fun e w'=>e = .returned (.tuple #[])∧∃m',w'=sortWorldK (AO k) k w blk off m' (EB dj x y n) os):=
  fun x y n dj q h1 h2 h3=>swap224 L blk off cap x y n fv d dj w q os hH hblk h1 h2 h3 hsz
 have w1:IntKind.i64.wrap ((m:Int)-(a:Int))=((m-a:Nat):Int):=by rw [IntKind.wrap_i64];omega
 have w2:IntKind.i64.wrap ((b:Int)-(m:Int))=((b-m:Nat):Int):=by rw [IntKind.wrap_i64];omega
 have e224:∀args w,(callFunc 224 args).run P w = .ok (.enter 224 args) w:=enters_of L.f224 (by kernel_rfl) rfl;clear hH
 go_enter L.f181,Tryz.ntmps181
 go_wp2
 go_loopg [10,11] (b-a) (fun g1 vi vj wr=>∃(i j q:Nat) (dj:Array (List Tree)),vi = .int .i64 i∧vj = .int .i64 j∧0<i∧0<j∧i+j≤g1∧i≤m-a∧j≤b-m∧dj.size=d.size∧wr=sortWorldK (AO k) k w blk off q dj os∧Hid (DP (b-a) m i j dj=DP (b-a) m (m-a) (b-m) dk))
 case atStart=>exact ⟨m-a,b-m,q,dk,by go_num,by go_num,by omega,by omega,by omega,le_refl _,le_refl _,hsk,rfl,rfl⟩
 case round=>
  obtain ⟨i,j,q,dj,rfl,rfl,hi0,hj0,hg1,him,hjb,hsj,rfl,HO⟩:=hrel;have wi:IntKind.i64.wrap ((m:Int)-(i:Int))=((m-i:Nat):Int):=by rw [IntKind.wrap_i64];omega
  by_cases hij:i=j
  ·subst hij;have hne:((i:Int) != (i:Int))=false:=by simp
   go_wp2_with (go_at_fn 224;fail)
   refine Calls.mono (HC.out (m-i) m i dj q hsj (by omega) (by omega)) ?_
   rintro e w' ⟨rfl,m',rfl⟩
   go_wp2
   go_end0
   refine ⟨rfl,m',?_⟩;rw [← HO.out];obtain ⟨f,hf⟩:∃f,b-a=f+1:=⟨b-a-1,by omega⟩
   rw [hf,DP,if_pos rfl]
  ·have hne:((i:Int) != (j:Int))=true:=by simp;omega
   by_cases hlt:j<i
   ·have hltz:(j:Int)<(i:Int):=by omega
    have wij:IntKind.i64.wrap ((i:Int)-(j:Int))=((i-j:Nat):Int):=by rw [IntKind.wrap_i64];omega
    go_wp2_with (go_at_fn 224;fail)
    refine Calls.mono (HC.out (m-i) m j dj q hsj (by omega) (by omega)) ?_
    rintro e w' ⟨rfl,m',rfl⟩
    go_wp2
    go_roundg (i-j+j)
    case measure=>omega
    case rel=>
     refine ⟨i-j,j,m',EB dj (m-i) m j,by go_num,rfl,by omega,hj0,by omega,by omega,hjb,by rw [DN];exact hsj,rfl,(show Hid _ from ?_)⟩;show _=_;rw [← HO.out];obtain ⟨f,hf⟩:∃f,b-a=f+1:=⟨b-a-1,by omega⟩
     rw [hf,show DP (f+1) m i j dj=DP f m (i-j) j (EB dj (m-i) m j) by rw [DP,if_neg hij,if_pos hlt]];exact G7 _ _ _ _ _ _ (by omega) hj0 (by omega) (by omega)
   ·have hltz:¬(j:Int)<(i:Int):=by omega
    have wij:IntKind.i64.wrap ((j:Int)-(i:Int))=((j-i:Nat):Int):=by rw [IntKind.wrap_i64];omega
    have wmj:IntKind.i64.wrap ((m:Int)+(j:Int))=((m+j:Nat):Int):=by rw [IntKind.wrap_i64];omega
    have wmji:IntKind.i64.wrap (((m+j:Nat):Int)-(i:Int))=((m+j-i:Nat):Int):=by rw [IntKind.wrap_i64];omega
    go_wp2_with (go_at_fn 224;fail)
    have hc:=HC.out (m-i) (m+j-i) i dj q hsj (by omega) (by omega);rw [show ((m+j-i:Nat):Int)=(m:Int)+(j:Int)-(i:Int) by omega] at hc;refine Calls.mono hc ?_
    rintro e w' ⟨rfl,m',rfl⟩
    go_wp2
    go_roundg (i+(j-i))
    case measure=>omega
    case rel=>
     refine ⟨i,j-i,m',EB dj (m-i) (m+j-i) i,rfl,by go_num,hi0,by omega,by omega,him,by omega,by rw [DN];exact hsj,rfl,(show Hid _ from ?_)⟩;show _=_;rw [← HO.out];obtain ⟨f,hf⟩:∃f,b-a=f+1:=⟨b-a-1,by omega⟩
     rw [hf,show DP (f+1) m i j dj=DP f m i (j-i) (EB dj (m-i) (m+j-i) i) by rw [DP,if_neg hij,if_neg hlt]];exact G7 _ _ _ _ _ _ hi0 (by omega) (by omega) (by omega)
end Ab
namespace Ab
open Go Go.Proofs Go.RowKit Go.Lib Go.Shelf Go.Sort
set_option maxRecDepth 1000000
set_option maxHeartbeats 8000000
variable {P:Program} {k:Nat}
def bsH (p:Nat→Bool):Nat→Nat→Nat→Nat
 |0,i,_=>i
 |f+1,i,j=>if i<j then (if p ((i+j) / 2)=true then bsH p f ((i+j) / 2+1) j else bsH p f i ((i+j) / 2)) else i
theorem DH (p:Nat→Bool):∀(f f' i j:Nat),j-i≤f→j-i≤f'→bsH p f i j=bsH p f' i j
 |0,0,i,j,_,_=>rfl
 |0,f'+1,i,j,h,_=>by rw [bsH,bsH,if_neg (by omega)]
 |f+1,0,i,j,_,h=>by rw [bsH,bsH,if_neg (by omega)]
 |f+1,f'+1,i,j,h1,h2=>by
  rw [bsH,bsH];split
  ·split
   ·exact DH p f f' _ _ (by omega) (by omega)
   ·exact DH p f f' _ _ (by omega) (by omega)
  ·rfl
theorem HV (p:Nat→Bool):∀(f i j:Nat),i≤j→i≤bsH p f i j∧bsH p f i j≤j
 |0,i,j,h=>⟨le_refl _,h⟩
 |f+1,i,j,h=>by
  rw [bsH];split
  ·split
   ·have:=HV p f ((i+j) / 2+1) j (by omega);omega
   ·have:=HV p f i ((i+j) / 2) (by omega);omega
  ·omega
def shU (d:Array (List Tree)) (a:Nat):Nat→Array (List Tree)
 |0=>d
 |n+1=>swp (shU d a n) (a+n) (a+n+1)
def shD (d:Array (List Tree)) (m:Nat):Nat→Array (List Tree)
 |0=>d
 |n+1=>swp (shD d m n) (m-n) (m-n-1)
theorem LN (d:Array (List Tree)) (a:Nat):∀n,(shU d a n).size=d.size
 |0=>rfl
 |n+1=>by rw [shU,size_swp,LN d a n]
theorem LO (d:Array (List Tree)) (m:Nat):∀n,(shD d m n).size=d.size
 |0=>rfl
 |n+1=>by rw [shD,size_swp,LO d m n]
def Be (lt:List Tree→List Tree→Bool):Nat→Array (List Tree)→Nat→Nat→Nat→Array (List Tree)
 |0,d,_,_,_=>d
 |f+1,d,a,m,b=>
  if m-a=1 then shU d a (bsH (fun h=>lt d[h]! d[a]!) (b-m) m b-1-a)
  else if b-m=1 then shD d m (m-bsH (fun h => !lt d[m]! d[h]!) (m-a) a m)
  else
   let mid:=(a+b) / 2;let n:=mid+m;let s0:=if mid<m then n-b else a
   let r0:=if mid<m then mid else m
   let s:=bsH (fun c => !lt d[n-1-c]! d[c]!) (r0-s0) s0 r0;let e:=n-s;let d1:=if s<m∧m<e then DP (e-s) m (m-s) (e-m) d else d
   let d2:=if a<s∧s<mid then Be lt f d1 a s mid else d1
   if mid<e∧e<b then Be lt f d2 mid e b else d2
theorem Jd (lt:List Tree→List Tree→Bool):∀(f:Nat) (d:Array (List Tree)) (a m b:Nat),(Be lt f d a m b).size=d.size
 |0,d,_,_,_=>rfl
 |f+1,d,a,m,b=>by
  unfold Be;split
  ·exact LN _ _ _
  ·split
   ·exact LO _ _ _
   ·simp only;have h1:∀(c:Prop) [Decidable c] (x y z:Nat) (d:Array (List Tree)) (n:Nat),(if c then DP n x y z d else d).size=d.size:=fun c _ x y z d n=>by
     split
     ·exact FY _ _ _ _ _
     ·rfl
    have h2:∀(c:Prop) [Decidable c] (x y z:Nat) (d:Array (List Tree)),(if c then Be lt f d x y z else d).size=d.size:=fun c _ x y z d=>by
     split
     ·exact Jd lt f _ _ _ _
     ·rfl
    rw [h2,h2,h1]
end Ab
namespace Ab
open Go Go.Proofs Go.RowKit Go.Lib Go.Shelf Go.Sort
set_option maxRecDepth 1000000
set_option maxHeartbeats 8000000
variable {P:Program} {k:Nat}
theorem sym136a (L:StL P k) (cf:List Tree→List Tree→Int) (blk off cap:Nat) (d:Array (List Tree)) (w:World) (hcmp:CmpLays P 33 #[] (AO k) k cf blk off d.size w) (eg:∀args w,(callFunc 33 args).run P w = .ok (.enter 33 args) w) (hH:HoldsK (AO k) k w blk off d) (hblk:blk<w.heap.size) (hsz:d.size<1000000)
  (a m b:Nat) (dk:Array (List Tree)) (q:Nat) (os:Array Obj) (ham:a<m) (hma:m≤a+1) (hmb:m<b) (hb:b≤d.size) (hsk:dk.size=d.size) :
  Calls P 136 #[.slice (some ⟨blk,off,none⟩) d.size cap,.int .i64 a,.int .i64 m,.int .i64 b,.func (.func 33) #[] #[]] (sortWorldK (AO k) k w blk off q dk os) fun e w'=>e = .returned (.tuple #[])∧∃q' os',w'=sortWorldK (AO k) k w blk off q' (shU dk a (bsH (fun h=>ltOf cf dk[h]! dk[a]!) (b-m) m b-1-a)) os':=by
 have mixed:=L.mixed;have t0:=L.t0;have a0:=L.a0;have z0:=L.z0;have v0:=L.v0;have t3:=L.t3;have a3:=L.a3;have z3:=L.z3;have v3:=L.v3;have t4:=L.t4;have a4:=L.a4;have z4:=L.z4;have v4:=L.v4;have t26:=L.t26;have a26:=L.a26;have z26:=L.z26;have v26:=L.v26;have t86:=L.t86;have a86:=L.a86;have z86:=L.z86;have v86:=L.v86;have t234:=L.t234;have a234:=L.a234;have z234:=L.z234;have v234:=L.v234;have aE:=L.aE;have zE:=L.zE;have u26:=run_underlying L.t26;have hd:(m:Int)-(a:Int)=1:=by omega
 have HC:Aside _:=hcmp;have HH:Hid (HoldsK (AO k) k w blk off d):=hH;have HK:Hid (∀x,(AO k x).length=k):=Ep k;have H1:Hid (∀x,∀v∈AO k x,v.oneCell'=true):=Eo k;clear hcmp hH
 go_enter L.f136,Tryz.ntmps136
 go_wp2
 go_loopg [10,11] (b-m) (fun g1 vi vj wr=>∃(i j q:Nat) (os:Array Obj),vi = .int .i64 i∧vj = .int .i64 j∧m≤i∧i≤j∧j≤b∧j-i≤g1∧wr=sortWorldK (AO k) k w blk off q dk os∧Hid (bsH (fun h=>ltOf cf dk[h]! dk[a]!) (b-m) i j=bsH (fun h=>ltOf cf dk[h]! dk[a]!) (b-m) m b))
 case atStart=>exact ⟨m,b,q,os,by go_num,by go_num,le_refl _,by omega,le_refl _,le_refl _,rfl,rfl⟩
 case round=>
  obtain ⟨i,j,q,os,rfl,rfl,hmi,hij,hjb,hg1,rfl,HO⟩:=hrel;by_cases hlt:i<j
  ·have hltz:(i:Int)<(j:Int):=by omega
   have wa:IntKind.i64.wrap ((i:Int)+(j:Int))=((i+j:Nat):Int):=by rw [IntKind.wrap_i64];omega
   go_wp2_with fail
   have hh:((i:Int)+(j:Int)) / 2=(((i+j) / 2:Nat):Int):=by omega
   simp only [hh];obtain ⟨h,hhe⟩:∃h,(i+j) / 2=h:=⟨_,rfl⟩
   have hb1:i≤h∧h<j:=by omega
   have HHE:Hid ((i+j) / 2=h):=hhe;rw [hhe];clear hh hhe wa;obtain ⟨x,hx⟩:∃x,dk[h]! = x:=⟨_,rfl⟩
   obtain ⟨y,hy⟩:∃y,dk[a]! = y:=⟨_,rfl⟩
   have jh:(h:Int)<(d.size:Int):=by omega
   have ja:(a:Int)<(d.size:Int):=by omega
   have hcls:∀n' os',grow ((sortWorldK (AO k) k w blk off q dk os).drewN n') os'=sortWorldK (AO k) k w blk off (q+n') dk (os++os'):=fun n' os'=>sortWorldK_grown_c (AO k) k w blk off q n' dk os os';have hHc:∀n' os',HoldsK (AO k) k (grow ((sortWorldK (AO k) k w blk off q dk os).drewN n') os') blk off dk:=fun n' os'=>by rw [hcls];exact holdsK_sortWorldK_c (AO k) k w blk off d dk _ _ HH.out hblk hsk
   have lx:∀n' os',Sem.run P (loadCellsFrom ⟨blk,off+h*k,none⟩ 0 k #[]) (grow ((sortWorldK (AO k) k w blk off q dk os).drewN n') os')= .ok (AO k x).toArray (grow ((sortWorldK (AO k) k w blk off q dk os).drewN n') os'):=fun n' os'=>by rw [← hx];exact run_loadCellsFrom_list P _ _ _ k (HK.out _) (HoldsK.cells (hHc n' os') HK.out (by omega))
   have ly:∀n' os',Sem.run P (loadCellsFrom ⟨blk,off+a*k,none⟩ 0 k #[]) (grow ((sortWorldK (AO k) k w blk off q dk os).drewN n') os')= .ok (AO k y).toArray (grow ((sortWorldK (AO k) k w blk off q dk os).drewN n') os'):=fun n' os'=>by rw [← hy];exact run_loadCellsFrom_list P _ _ _ k (HK.out _) (HoldsK.cells (hHc n' os') HK.out (by omega))
   have hcg:∀n' os',Calls P 33 (#[.agg (AO k x).toArray,.agg (AO k y).toArray] ++ #[]) (grow ((sortWorldK (AO k) k w blk off q dk os).drewN n') os') fun e w'=>e = .returned (.int .i64 (cf x y))∧∃q' os'',w'=grow ((grow ((sortWorldK (AO k) k w blk off q dk os).drewN n') os').drewN q') os'':=fun n' os'=>by rw [hcls];exact HC.out _ _ dk hsk x y
   have CLS:Hid _:=hcls;clear hcls hHc;obtain ⟨f,hf⟩:∃f,b-m=f+1:=⟨b-m-1,by omega⟩
   have STEP:Hid (bsH (fun h=>ltOf cf dk[h]! dk[a]!) (b-m) i j=if ltOf cf x y=true then bsH (fun h=>ltOf cf dk[h]! dk[a]!) (b-m) (h+1) j else bsH (fun h=>ltOf cf dk[h]! dk[a]!) (b-m) i h):=by
    show _=_
    conv=>lhs;rw [hf,bsH,if_pos hlt,HHE.out]
    simp only [hx,hy];split
    ·exact DH _ _ _ _ _ (by omega) (by omega)
    ·exact DH _ _ _ _ _ (by omega) (by omega)
   generalize hwq:sortWorldK (AO k) k w blk off q dk os=wq at lx ly hcg CLS ⊢;by_cases hlv:cf x y<0
   ·go_quiet_grown (first|(go_at_fn 33;refine Calls.grown_of (hcg _ _)))
    go_wp2
    go_roundg (j-(h+1))
    case measure=>omega
    case rel=>
     refine ⟨h+1,j,_,_,by go_num,rfl,by omega,by omega,hjb,le_refl _,CLS.out nq osq,(show Hid _ from ?_)⟩;show _=_;rw [← HO.out,STEP.out,if_pos (show ltOf cf x y=true from decide_eq_true hlv)]
   ·go_quiet_grown (first|(go_at_fn 33;refine Calls.grown_of (hcg _ _)))
    go_wp2
    go_roundg (h-i)
    case measure=>omega
    case rel=>
     refine ⟨i,h,_,_,rfl,by go_num,hmi,by omega,by omega,le_refl _,CLS.out nq osq,(show Hid _ from ?_)⟩;show _=_;rw [← HO.out,STEP.out,if_neg (show ¬ltOf cf x y=true from fun h=>absurd (of_decide_eq_true h) (by omega))]
  ·have hltz:¬(i:Int)<(j:Int):=by omega
   obtain rfl:i=j:=by omega
   have hI:Hid (bsH (fun h=>ltOf cf dk[h]! dk[a]!) (b-m) m b=i):=by
    show _=_;rw [← HO.out];cases hf:b-m with
    |zero=>rfl
    |succ f=>rw [bsH,if_neg (by omega)]
   clear HO hg1
   go_wp2
   go_loopg [13] (i-1-a) (fun g1 vi wr=>∃(n q:Nat) (os:Array Obj),vi = .int .i64 (((a+n:Nat)):Int)∧a+n≤i-1∧i-1-(a+n)≤g1∧wr=sortWorldK (AO k) k w blk off q (shU dk a n) os)
   case atStart=>exact ⟨0,q,os,by go_num,by omega,by omega,rfl⟩
   case round=>
    obtain ⟨n,q,os,rfl,hn,hg1,rfl⟩:=hrel;obtain ⟨c,hc⟩:∃c,a+n=c:=⟨_,rfl⟩
    have hcn:Hid (a+n=c):=hc;rw [hc] at hn hg1 ⊢;clear hc;by_cases hlt2:c<i-1
    ·have hltz2:(c:Int)<(i:Int)-1:=by omega
     have hs2:(shU dk a n).size=d.size:=by rw [LN];exact hsk
     have jc:(c:Int)<(d.size:Int):=by omega
     have jc1:(c:Int)+1<(d.size:Int):=by omega
     generalize hdj:shU dk a n=dj at hs2;obtain ⟨xa,hxa⟩:∃x,dj[c]! = x:=⟨_,rfl⟩
     obtain ⟨xb,hxb⟩:∃x,dj[c+1]! = x:=⟨_,rfl⟩
     have hHd:HoldsK (AO k) k (sortWorldK (AO k) k w blk off q dj os).drew blk off dj:=by have:HoldsK (AO k) k (sortWorldK (AO k) k w blk off q dj os) blk off dj:=holdsK_sortWorldK_c (AO k) k w blk off d dj _ _ HH.out hblk hs2;exact this
     have bnd:∀x,x<dj.size→x*k+k≤dj.size*k:=fun x hx=>by have:=mul_le_mul_right k (show x+1≤dj.size from hx);rwa [add_mul,Nat.one_mul] at this
     generalize hwq:sortWorldK (AO k) k w blk off q dj os=wq at hHd;have lb:Sem.run P (loadCellsFrom ⟨blk,off+(c+1)*k,none⟩ 0 k #[]) wq.drew = .ok (AO k xb).toArray wq.drew:=by rw [← hxb];exact run_loadCellsFrom_list _ _ _ _ k (HK.out _) (HoldsK.cells hHd HK.out (by omega))
     have la:Sem.run P (loadCellsFrom ⟨blk,off+c*k,none⟩ 0 k #[]) wq.drew = .ok (AO k xa).toArray wq.drew:=by rw [← hxa];exact run_loadCellsFrom_list _ _ _ _ k (HK.out _) (HoldsK.cells hHd HK.out (by omega))
     have s1:Sem.run P (storeCells ⟨blk,off+c*k,none⟩ (AO k xb) 0) wq.drew = .ok () (wq.drew.setCells blk (off+c*k) (AO k xb)):=stores_of_holds _ hHd (c*k) _ (by rw [HK.out,size_flatK];exact bnd c (by omega)) (H1.out _);have s2:Sem.run P (storeCells ⟨blk,off+(c+1)*k,none⟩ (AO k xa) 0) (wq.drew.setCells blk (off+c*k) (AO k xb))= .ok () ((wq.drew.setCells blk (off+c*k) (AO k xb)).setCells blk (off+(c+1)*k) (AO k xa)):=
      stores_of_holds _ (holds_setCells_c hHd (c*k) _ (by rw [HK.out,size_flatK];exact bnd c (by omega))) ((c+1)*k) _ (by rw [HK.out,size_setMany,size_flatK];exact bnd (c+1) (by omega)) (H1.out _)
     have hsA:(AO k xa).length=k:=HK.out _;have hsB:(AO k xb).length=k:=HK.out _;have HW2:Hid (sortWorldK (AO k) k w blk off q dj os=wq):=hwq;clear hwq hHd bnd;obtain ⟨cA,hcA⟩:∃c,c=AO k xa:=⟨_,rfl⟩
     obtain ⟨cB,hcB⟩:∃c,c=AO k xb:=⟨_,rfl⟩
     rw [← hcB] at s1 lb hsB;rw [← hcA] at la hsA;rw [← hcA,← hcB] at s2;have CC:Hid (cA=AO k xa∧cB=AO k xb):=⟨hcA,hcB⟩
     clear hcA hcB;have p0:(0:Int)≤(c:Int):=by omega
     have p1:(0:Int)≤(c:Int)+1:=by omega
     have e1:((c:Int)+1).toNat=c+1:=by omega
     go_wp2_with fail
     go_big_region_o
     all_goals go_wp2
     go_roundg (i-1-(c+1))
     case measure=>omega
     case rel=>
      have hcc:=hcn.out;refine ⟨n+1,q+1,os,by rw [show a+(n+1)=c+1 by omega];go_num,by omega,by omega,?_⟩;rw [CC.out.1,CC.out.2,← HW2.out,← hxa,← hxb];rw [shU,hdj,hcc];exact sortWorldK_swp_c (AO k) k w blk off HK.out q dj os hblk c (c+1) (by omega) (by omega)
    ·have hltz2:¬(c:Int)<(i:Int)-1:=by omega
     go_wp2
     refine bodyPost_ret (results_none rfl _ _ _) rfl ?_;refine ⟨rfl,q,os,?_⟩;have hcc:=hcn.out;rw [hI.out,show i-1-a=n by omega]
theorem sym136b (L:StL P k) (cf:List Tree→List Tree→Int) (blk off cap:Nat) (d:Array (List Tree)) (w:World) (hcmp:CmpLays P 33 #[] (AO k) k cf blk off d.size w) (eg:∀args w,(callFunc 33 args).run P w = .ok (.enter 33 args) w) (hH:HoldsK (AO k) k w blk off d) (hblk:blk<w.heap.size) (hsz:d.size<1000000)
  (a m b:Nat) (dk:Array (List Tree)) (q:Nat) (os:Array Obj) (ham:a+1<m) (hmb:m<b) (hbm:b≤m+1) (hb:b≤d.size) (hsk:dk.size=d.size) :
  Calls P 136 #[.slice (some ⟨blk,off,none⟩) d.size cap,.int .i64 a,.int .i64 m,.int .i64 b,.func (.func 33) #[] #[]] (sortWorldK (AO k) k w blk off q dk os) fun e w'=>e = .returned (.tuple #[])∧∃q' os',w'=sortWorldK (AO k) k w blk off q' (shD dk m (m-bsH (fun h => !ltOf cf dk[m]! dk[h]!) (m-a) a m)) os':=by
 have mixed:=L.mixed;have t0:=L.t0;have a0:=L.a0;have z0:=L.z0;have v0:=L.v0;have t3:=L.t3;have a3:=L.a3;have z3:=L.z3;have v3:=L.v3;have t4:=L.t4;have a4:=L.a4;have z4:=L.z4;have v4:=L.v4;have t26:=L.t26;have a26:=L.a26;have z26:=L.z26;have v26:=L.v26;have t86:=L.t86;have a86:=L.a86;have z86:=L.z86;have v86:=L.v86;have t234:=L.t234;have a234:=L.a234;have z234:=L.z234;have v234:=L.v234;have aE:=L.aE;have zE:=L.zE;have u26:=run_underlying L.t26;have hne:((m:Int)-(a:Int)==1)=false:=by simp;omega
 have hd:(b:Int)-(m:Int)=1:=by omega
 have HC:Aside _:=hcmp;have HH:Hid (HoldsK (AO k) k w blk off d):=hH;have HK:Hid (∀x,(AO k x).length=k):=Ep k;have H1:Hid (∀x,∀v∈AO k x,v.oneCell'=true):=Eo k;clear hcmp hH
 go_enter L.f136,Tryz.ntmps136
 go_wp2
 go_loopg [14,15] (m-a) (fun g1 vi vj wr=>∃(i j q:Nat) (os:Array Obj),vi = .int .i64 i∧vj = .int .i64 j∧a≤i∧i≤j∧j≤m∧j-i≤g1∧wr=sortWorldK (AO k) k w blk off q dk os∧Hid (bsH (fun h => !ltOf cf dk[m]! dk[h]!) (m-a) i j=bsH (fun h => !ltOf cf dk[m]! dk[h]!) (m-a) a m))
 case atStart=>exact ⟨a,m,q,os,by go_num,by go_num,le_refl _,by omega,le_refl _,le_refl _,rfl,rfl⟩
 case round=>
  obtain ⟨i,j,q,os,rfl,rfl,hmi,hij,hjb,hg1,rfl,HO⟩:=hrel;by_cases hlt:i<j
  ·have hltz:(i:Int)<(j:Int):=by omega
   have wa:IntKind.i64.wrap ((i:Int)+(j:Int))=((i+j:Nat):Int):=by rw [IntKind.wrap_i64];omega
   go_wp2_with fail
   have hh:((i:Int)+(j:Int)) / 2=(((i+j) / 2:Nat):Int):=by omega
   simp only [hh];obtain ⟨h,hhe⟩:∃h,(i+j) / 2=h:=⟨_,rfl⟩
   have hb1:i≤h∧h<j:=by omega
   have HHE:Hid ((i+j) / 2=h):=hhe;rw [hhe];clear hh hhe wa;obtain ⟨x,hx⟩:∃x,dk[m]! = x:=⟨_,rfl⟩
   obtain ⟨y,hy⟩:∃y,dk[h]! = y:=⟨_,rfl⟩
   have jh:(h:Int)<(d.size:Int):=by omega
   have ja:(m:Int)<(d.size:Int):=by omega
   have hcls:∀n' os',grow ((sortWorldK (AO k) k w blk off q dk os).drewN n') os'=sortWorldK (AO k) k w blk off (q+n') dk (os++os'):=fun n' os'=>sortWorldK_grown_c (AO k) k w blk off q n' dk os os';have hHc:∀n' os',HoldsK (AO k) k (grow ((sortWorldK (AO k) k w blk off q dk os).drewN n') os') blk off dk:=fun n' os'=>by rw [hcls];exact holdsK_sortWorldK_c (AO k) k w blk off d dk _ _ HH.out hblk hsk
   have lx:∀n' os',Sem.run P (loadCellsFrom ⟨blk,off+m*k,none⟩ 0 k #[]) (grow ((sortWorldK (AO k) k w blk off q dk os).drewN n') os')= .ok (AO k x).toArray (grow ((sortWorldK (AO k) k w blk off q dk os).drewN n') os'):=fun n' os'=>by rw [← hx];exact run_loadCellsFrom_list P _ _ _ k (HK.out _) (HoldsK.cells (hHc n' os') HK.out (by omega))
   have ly:∀n' os',Sem.run P (loadCellsFrom ⟨blk,off+h*k,none⟩ 0 k #[]) (grow ((sortWorldK (AO k) k w blk off q dk os).drewN n') os')= .ok (AO k y).toArray (grow ((sortWorldK (AO k) k w blk off q dk os).drewN n') os'):=fun n' os'=>by rw [← hy];exact run_loadCellsFrom_list P _ _ _ k (HK.out _) (HoldsK.cells (hHc n' os') HK.out (by omega))
   have hcg:∀n' os',Calls P 33 (#[.agg (AO k x).toArray,.agg (AO k y).toArray] ++ #[]) (grow ((sortWorldK (AO k) k w blk off q dk os).drewN n') os') fun e w'=>e = .returned (.int .i64 (cf x y))∧∃q' os'',w'=grow ((grow ((sortWorldK (AO k) k w blk off q dk os).drewN n') os').drewN q') os'':=fun n' os'=>by rw [hcls];exact HC.out _ _ dk hsk x y
   have CLS:Hid _:=hcls;clear hcls hHc;obtain ⟨f,hf⟩:∃f,m-a=f+1:=⟨m-a-1,by omega⟩
   have STEP:Hid (bsH (fun h => !ltOf cf dk[m]! dk[h]!) (m-a) i j=if (!ltOf cf x y)=true then bsH (fun h => !ltOf cf dk[m]! dk[h]!) (m-a) (h+1) j else bsH (fun h => !ltOf cf dk[m]! dk[h]!) (m-a) i h):=by
    show _=_
    conv=>lhs;rw [hf,bsH,if_pos hlt,HHE.out]
    simp only [hx,hy];split
    ·exact DH _ _ _ _ _ (by omega) (by omega)
    ·exact DH _ _ _ _ _ (by omega) (by omega)
   generalize hwq:sortWorldK (AO k) k w blk off q dk os=wq at lx ly hcg CLS ⊢;by_cases hlv:cf x y<0
   ·go_quiet_grown (first|(go_at_fn 33;refine Calls.grown_of (hcg _ _)))
    go_wp2
    go_roundg (h-i)
    case measure=>omega
    case rel=>
     refine ⟨i,h,_,_,rfl,by go_num,hmi,by omega,by omega,le_refl _,CLS.out nq osq,(show Hid _ from ?_)⟩;show _=_;rw [← HO.out,STEP.out,if_neg (by rw [show ltOf cf x y=true from decide_eq_true hlv];decide)]
   ·go_quiet_grown (first|(go_at_fn 33;refine Calls.grown_of (hcg _ _)))
    go_wp2
    go_roundg (j-(h+1))
    case measure=>omega
    case rel=>
     refine ⟨h+1,j,_,_,by go_num,rfl,by omega,by omega,hjb,le_refl _,CLS.out nq osq,(show Hid _ from ?_)⟩;show _=_;rw [← HO.out,STEP.out,if_pos (by rw [show ltOf cf x y=false from decide_eq_false (by omega)];rfl)]
  ·have hltz:¬(i:Int)<(j:Int):=by omega
   obtain rfl:i=j:=by omega
   have hI:Hid (bsH (fun h => !ltOf cf dk[m]! dk[h]!) (m-a) a m=i):=by
    show _=_;rw [← HO.out];cases hf:m-a with
    |zero=>rfl
    |succ f=>rw [bsH,if_neg (by omega)]
   clear HO hg1
   go_wp2
   go_loopg [17] (m-i) (fun g1 vi wr=>∃(c n q:Nat) (os:Array Obj),vi = .int .i64 (c:Int)∧i≤c∧c+n=m∧c-i≤g1∧wr=sortWorldK (AO k) k w blk off q (shD dk m n) os)
   case atStart=>exact ⟨m,0,q,os,by go_num,by omega,by omega,by omega,rfl⟩
   case round=>
    obtain ⟨c1,n,q,os,rfl,hn,hcn',hg1,rfl⟩:=hrel;have hcn:Hid (c1+n=m):=hcn';have hcm:c1≤m:=by omega
    clear hcn';by_cases hlt2:i<c1
    ·obtain ⟨c,rfl⟩:∃c,c1=c+1:=⟨c1-1,by omega⟩
     have hltz2:(i:Int)<(c:Int)+1:=by omega
     have hs2:(shD dk m n).size=d.size:=by rw [LO];exact hsk
     have jc:(c:Int)<(d.size:Int):=by omega
     have jc1:(c:Int)+1<(d.size:Int):=by omega
     have wc:IntKind.i64.wrap (((c+1:Nat):Int)-1)=(c:Int):=by rw [IntKind.wrap_i64];omega
     have wc2:IntKind.i64.wrap ((c:Int)+1-1)=(c:Int):=by rw [IntKind.wrap_i64];omega
     have wc3:(c:Int)+1-1=(c:Int):=by omega
     generalize hdj:shD dk m n=dj at hs2;obtain ⟨xa,hxa⟩:∃x,dj[c+1]! = x:=⟨_,rfl⟩
     obtain ⟨xb,hxb⟩:∃x,dj[c]! = x:=⟨_,rfl⟩
     have hHd:HoldsK (AO k) k (sortWorldK (AO k) k w blk off q dj os).drew blk off dj:=by have:HoldsK (AO k) k (sortWorldK (AO k) k w blk off q dj os) blk off dj:=holdsK_sortWorldK_c (AO k) k w blk off d dj _ _ HH.out hblk hs2;exact this
     have bnd:∀x,x<dj.size→x*k+k≤dj.size*k:=fun x hx=>by have:=mul_le_mul_right k (show x+1≤dj.size from hx);rwa [add_mul,Nat.one_mul] at this
     generalize hwq:sortWorldK (AO k) k w blk off q dj os=wq at hHd;have lb:Sem.run P (loadCellsFrom ⟨blk,off+c*k,none⟩ 0 k #[]) wq.drew = .ok (AO k xb).toArray wq.drew:=by rw [← hxb];exact run_loadCellsFrom_list _ _ _ _ k (HK.out _) (HoldsK.cells hHd HK.out (by omega))
     have la:Sem.run P (loadCellsFrom ⟨blk,off+(c+1)*k,none⟩ 0 k #[]) wq.drew = .ok (AO k xa).toArray wq.drew:=by rw [← hxa];exact run_loadCellsFrom_list _ _ _ _ k (HK.out _) (HoldsK.cells hHd HK.out (by omega))
     have s1:Sem.run P (storeCells ⟨blk,off+(c+1)*k,none⟩ (AO k xb) 0) wq.drew = .ok () (wq.drew.setCells blk (off+(c+1)*k) (AO k xb)):=stores_of_holds _ hHd ((c+1)*k) _ (by rw [HK.out,size_flatK];exact bnd (c+1) (by omega)) (H1.out _);have s2:Sem.run P (storeCells ⟨blk,off+c*k,none⟩ (AO k xa) 0) (wq.drew.setCells blk (off+(c+1)*k) (AO k xb))= .ok () ((wq.drew.setCells blk (off+(c+1)*k) (AO k xb)).setCells blk (off+c*k) (AO k xa)):=
      stores_of_holds _ (holds_setCells_c hHd ((c+1)*k) _ (by rw [HK.out,size_flatK];exact bnd (c+1) (by omega))) (c*k) _ (by rw [HK.out,size_setMany,size_flatK];exact bnd c (by omega)) (H1.out _)
     have hsA:(AO k xa).length=k:=HK.out _;have hsB:(AO k xb).length=k:=HK.out _;have HW2:Hid (sortWorldK (AO k) k w blk off q dj os=wq):=hwq;clear hwq hHd bnd;obtain ⟨cA,hcA⟩:∃c,c=AO k xa:=⟨_,rfl⟩
     obtain ⟨cB,hcB⟩:∃c,c=AO k xb:=⟨_,rfl⟩
     rw [← hcB] at s1 lb hsB;rw [← hcA] at la hsA;rw [← hcA,← hcB] at s2;have CC:Hid (cA=AO k xa∧cB=AO k xb):=⟨hcA,hcB⟩
     clear hcA hcB;have p0:(0:Int)≤(c:Int):=by omega
     have p1:(0:Int)≤(c:Int)+1:=by omega
     have e1:((c:Int)+1).toNat=c+1:=by omega
     go_wp2_with fail
     go_big_region_o
     all_goals go_wp2
     go_roundg (c-i)
     case measure=>omega
     case rel=>
      have hcc:=hcn.out;refine ⟨c,n+1,q+1,os,by go_num,by omega,by omega,by omega,?_⟩;rw [CC.out.1,CC.out.2,← HW2.out,← hxa,← hxb];rw [shD,hdj,show m-n=c+1 by omega,Nat.add_sub_cancel];exact sortWorldK_swp_c (AO k) k w blk off HK.out q dj os hblk (c+1) c (by omega) (by omega)
    ·have hltz2:¬(i:Int)<(c1:Int):=by omega
     go_wp2
     refine bodyPost_ret (results_none rfl _ _ _) rfl ?_;refine ⟨rfl,q,os,?_⟩;have hcc:=hcn.out;rw [hI.out,show m-i=n by omega]
end Ab
