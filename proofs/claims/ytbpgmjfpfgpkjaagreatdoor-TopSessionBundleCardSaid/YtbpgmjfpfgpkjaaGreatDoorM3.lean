/- A part of the proof: see the last text. -/
import Derived.Test.YtbpgmjfpfgpkjaaGreatDoorM2
import Derived.LoopNIn
import Derived.RangeFuncNested
import Derived.OpenShut
import Derived.RowKit
import Derived.ChangeSame
import Derived.WideShapes
import Derived.ChangeShapes
import Derived.Deep.Slices
import Derived.Below
import Derived.CallsIn
set_option linter.unusedVariables false
set_option linter.unusedSimpArgs false
open Array (toArray_toList)
open Array renaming getElem?_toList → yQ
open Bool renaming and_eq_true → zE, false_eq_true → zF, not_eq_true' → yS, or_eq_false_iff → xW, or_eq_true → yT
open Int (natCast_nonneg tdiv tmod toNat toNat_natCast)
open List (all_cons append_nil drop drop_drop drop_zero filterMap_cons getElem?_cons_succ getElem?_map getElem?_set_ne length length_cons length_map length_nil map_cons map_map mem_cons_of_mem mem_flatMap nodup_nil replicate take take_append_drop)
open List renaming all_eq_true → yV, any_eq_true → xX, append_assoc → zH, append_of_mem → yX, cons_append → yY, drop_eq_getElem_cons → xY, ext_getElem? → zJ, filter_append → xZ, filter_cons_of_neg → wA, filter_cons_of_pos → wB, filter_eq_self → wC, foldlM_append → xB, foldlM_cons → wD, getD_eq_getElem?_getD → zK, getElem?_append_left → zL, getElem?_append_right → zM, getElem?_drop → zN, getElem?_eq_getElem → zO, getElem?_eq_none → zP, getElem?_range → zR, getElem?_take → zS, getElem?_take_of_lt → zT, getElem_mem → wE, getElem_of_mem → zU, length_append → xE, length_range → wF, mapM_cons → wG, map_congr_left → xI, mem_append → xK, mem_cons → xL, mem_filter → wH, mem_filterMap → wI, mem_map → wJ, mem_of_getElem? → xN, mem_of_mem_drop → xO, mem_range → xP, nil_append → xR, nodup_append → xS, nodup_cons → xT, nodup_range → wK, pairwise_append → wL, pairwise_cons → wM
open Nat (add_assoc not_lt zero_le)
open Nat renaming add_mul → yC, le_refl → yE, le_trans → yF, lt_or_ge → yH, pos_of_ne_zero → yL, zero_add → yN
open Option (bind_assoc bind_none getD_none)
open Option renaming map_none → wN, map_some → yP
namespace Ab
open Go
variable {R:Type} {P:Program} {B:Nat→Prop} {κ:BG} {h:Heap} {w:World} {N:Nat} {env:Env} {a:Act}
theorem KM (hr:Rel B N κ env h a w):Rel B N κ env h a {w with drawn:=w.drawn+1}:=
 ⟨Ix hr.heap (IN hr.heap) fun _ _=>rfl,hr.size,fun i=>(hr.slot i).ext (IN hr.heap)⟩
theorem A6 {ops:Array Oper} {i:Nat} (hi:i<ops.size):ops[i]? = some (ops.getD i default):=by simp only [Array.getD,hi,dif_pos];exact Array.getElem?_eq_getElem hi
theorem UL {R:Type} (C:Cfg) (rec:Rec) (pc:BX) {env env':Env} {op:Op} (hl:An C op=true) (hE:∀x∈op.operands,ev env x=ev env' x) (K:AV→Heap→Option R) :
  Ae C rec pc false env h op K=Ae C rec pc false env' h op K:=by
 by_cases hh:BC op=true
 case neg=>
  have hw:(∃g args argTypes,op = .call {callee :=.value (.func g),args,argTypes})∨(∃t len parts,op = .buildSlice t len parts)∨∃src dst x,op = .convert src dst x:=by unfold An at hl;split at hl<;>first|(exact absurd rfl hh)|(exact .inl ⟨_,_,_,rfl⟩)|(exact .inr (.inl ⟨_,_,_,rfl⟩))|(exact .inr (.inr ⟨_,_,_,rfl⟩))|cases hl
  rcases hw with ⟨g,args,argTypes,rfl⟩|⟨t,len,parts,rfl⟩|⟨src,dst,x,rfl⟩
  case inr.inr=>
   have hf:PC C.P src dst=true:=hl;have hx:=hE x (by simp [Op.operands]);simp only [Ae,BC,zF,if_false,hf,if_true,hx]
  case inr.inl=>
   have hf:C.fnTy t=true:=hl;have hparts:parts.toList.map (fun p=>(p.1,ev env p.2))=parts.toList.map (fun p=>(p.1,ev env' p.2)):=
    xI fun p hm=>by rw [hE p.2 (by simp [Op.operands];exact ⟨p.1,by simpa using hm⟩)]
   simp only [Ae,BC,zF,if_false,hf,if_true,hparts]
  have hh':BC (.call {callee :=.value (.func g),args,argTypes})=false:=by simpa using hh
  have hm:args.toList.map (ev env)=args.toList.map (ev env'):=xI fun y hy=>hE y (by simp [Op.operands,Call.operands];right;simpa using hy);unfold Ae;simp only [hh',zF,if_false,hm];rfl
 unfold Ae;simp only [hh,if_true,zF,if_false];cases op with
 |alloc t=>
  have hrn:C.ren t=none:=by simpa [An] using hl
  simp only [CQ,hrn];by_cases hc:C.curT t=true<;>simp [hc,hop]
 |box t x=>
  have h1:=hE x (by simp [Op.operands]);simp only [CQ];by_cases hc:C.cur (EK x)=true<;>simp [hc,hop,h1]
 |store t a x=>
  have h1:=hE a (by simp [Op.operands]);have h2:=hE x (by simp [Op.operands]);simp only [CQ];by_cases hc:C.curT t=true<;>simp [hc,hop,h1,h2]
 |call c=>
  obtain ⟨callee,args,argTypes⟩:=c;cases callee with
  |builtin b=>
   cases b<;>first|(simp [An] at hl;done)|skip
   ·simp only [CQ,hop];split
    ·rename_i s x t t' hx _;have hm:∀y∈args.toList,ev env y=ev env' y:=fun y hy=>hE y (by simp [Op.operands,Call.operands];simpa using hy);rw [hm s (by rw [hx];simp),hm x (by rw [hx];simp)]
    ·rfl
   ·simp only [CQ,hop];split
    ·rename_i x t hx _;have hm:∀y∈args.toList,ev env y=ev env' y:=fun y hy=>hE y (by simp [Op.operands,Call.operands];simpa using hy);rw [hm x (by rw [hx];simp)]
    ·rfl
   ·simp only [CQ,hop];split
    ·rename_i d x t _ hx _;have hm:∀y∈args.toList,ev env y=ev env' y:=fun y hy=>hE y (by simp [Op.operands,Call.operands];simpa using hy);rw [hm d (by rw [hx];simp),hm x (by rw [hx];simp)]
    ·rfl
  |_=>simp [BC] at hh
 |makeSlice t n c=>
  have h1:=hE n (by simp [Op.operands]);have h2:=hE c (by simp [Op.operands]);simp [CQ,hop,h1,h2]
 |makeMap t r=>
  cases r with
  |none=>simp [CQ,hop]
  |some r=>simp [An] at hl
 |mapUpdate t m x v=>
  have h1:=hE m (by simp [Op.operands]);have h2:=hE x (by simp [Op.operands]);have h3:=hE v (by simp [Op.operands]);simp [CQ,hop,h1,h2,h3]
 |_=>first|(simp [An] at hl;done)|(simp [BC] at hh;done)
noncomputable def RF (C:Cfg) (rec:Rec) (pc:BX) (env:Env) (h:Heap) (op:Op):Option (AV×Heap):=Ae C rec pc (!An C op) env h op fun v h'=>some (v,h')
theorem dval_eq {R:Type} (C:Cfg) (rec:Rec) (pc:BX) (env:Env) (op:Op) (K:AV→Heap→Option R):Ae C rec pc (!An C op) env h op K=(RF C rec pc env h op).bind fun p=>K p.1 p.2:=by
 unfold RF;cases hl:An C op with
 |false=>
  simp only [Bool.not_false,step_eq];cases Hb C rec pc h env op<;>rfl
 |true=>
  simp only [Bool.not_true];rcases ZB (h:=h) C rec pc env op hl with ⟨p,hp⟩|hn
  ·rw [show Ae C rec pc false env h op K=K p.1 p.2 from hp R fun q=>K q.1 q.2,show (Ae C rec pc false env h op fun v h'=>some (v,h'))=some p from hp (AV×Heap) some];rfl
  ·rw [show Ae C rec pc false env h op K=none from hn R fun q=>K q.1 q.2,show (Ae C rec pc false env h op fun v h'=>some (v,h'))=none from hn (AV×Heap) some];rfl
def Gv (C:Cfg) (N:Nat) (S:List Nat) (nf:Bool) (o:Oper) (env:Env) (h:Heap):Prop:=Kw N o=true∧(nf=true→G8 C.P S env o.op=true)∧Bd S h=true∧(An C o.op=true→Jt C.P S env o.op=true)
instance (C:Cfg) (N:Nat) (S:List Nat) (nf:Bool) (o:Oper) (env:Env) (h:Heap):Decidable (Gv C N S nf o env h):=by unfold Gv;infer_instance
noncomputable def Fs (C:Cfg) (rec:Rec) (pc:BX) (N:Nat) (ops:Array Oper) (S:List Nat) (nf:Bool) (o:Oper) (env:Env) (h:Heap):Option (AV×Heap):=
 if Gv C N S nf o env h then (PJ ops o env).bind fun b=>if b then RF C rec pc env h o.op else some (.tuple [],h) else none
noncomputable def A2 (C:Cfg) (rec:Rec) (pc:BX) (N:Nat) (ops:Array Oper) (S:List Nat) (nf:Nat→Bool) (i:Nat) (s:Env×Heap):Option (Env×Heap):=
 match ops[i]? with
 |some o=>(Fs C rec pc N ops S (nf i) o s.1 s.2).map fun p=>(s.1.put o.dst p.1,p.2)
 |none=>none
theorem BL {R:Type} (C:Cfg) (rec:Rec) (pc:BX) (N:Nat) (ops:Array Oper) (S:List Nat) (nf:Nat→Bool):∀(l:List Nat) (env:Env) (h:Heap) (K:Env→Heap→Option R),
  CB C rec pc N ops S nf l env h K=(l.foldlM (fun s i=>A2 C rec pc N ops S nf i s) (env,h)).bind fun s=>K s.1 s.2
 |[],env,h,K=>rfl
 |i::l,env,h,K=>by
  simp only [CB,wD,A2];cases ho:ops[i]? with
  |none=>rfl
  |some o=>
   simp only [Fs,AB];by_cases hd:Gv C N S (nf i) o env h
   ·rw [if_pos (show _∧_ from hd),if_pos hd,Su];cases PJ ops o env with
    |none=>rfl
    |some b=>
     cases b with
     |true=>
      simp only [Option.bind_some,if_true,dval_eq];cases RF C rec pc env h o.op with
      |none=>rfl
      |some p=>simp only [Option.bind_some,yP,BL C rec pc N ops S nf l];rfl
     |false=>simp only [Option.bind_some,zF,if_false,BL C rec pc N ops S nf l];rfl
   ·rw [if_neg (show ¬(_∧_) from hd),if_neg hd];rfl
theorem UE {P:Program} {S:List Nat} {env env':Env} {op:Op} (hE:∀x∈op.operands,ev env x=ev env' x):partAt P S env op=partAt P S env' op:=by
 cases op with
 |load t a=>simp only [partAt,hE a (by simp [Op.operands])]
 |fieldAddr t a f=>simp only [partAt,hE a (by simp [Op.operands])]
 |_=>rfl
theorem UZ {P:Program} {S:List Nat} {env env':Env} {op:Op} (hE:∀x∈op.operands,ev env x=ev env' x):G8 P S env op=G8 P S env' op:=by
 unfold G8;rw [UE hE];cases HG op with
 |true=>rfl
 |false=>
  simp only [Bool.false_or];congr 1;rw [Bool.eq_iff_iff,yV,yV];constructor
  ·intro hh x hx;rw [← hE x (by simpa using hx)];exact hh x hx
  ·intro hh x hx;rw [hE x (by simpa using hx)];exact hh x hx
theorem Rw {env env':Env} {op:Op} (hE:∀x∈op.operands,ev env x=ev env' x):Ff env op=Ff env' op:=by
 cases op with
 |store t a x=>
  have h1:=hE a (by simp [Op.operands]);simp only [Ff,h1]
 |mapUpdate t m x v=>
  have h1:=hE m (by simp [Op.operands]);simp only [Ff,h1]
 |call c=>
  obtain ⟨callee,args,argTypes⟩:=c;cases callee with
  |builtin b=>
   simp only [Ff];split
   ·rename_i s rest hx;have hm:∀y∈args.toList,ev env y=ev env' y:=fun y hy=>hE y (by simp [Op.operands,Call.operands];simpa using hy);rw [hm s (by rw [hx];simp)]
   ·rfl
  |value f=>
   have hm:∀y∈args.toList,ev env y=ev env' y:=fun y hy=>hE y (by simp [Op.operands,Call.operands];right;simpa using hy);simp only [Ff];congr 1;exact xI fun y hy=>by rw [hm y hy]
  |_=>rfl
 |_=>rfl
theorem RR {P:Program} {S:List Nat} {env env':Env} {op:Op} (hE:∀x∈op.operands,ev env x=ev env' x):Jt P S env op=Jt P S env' op:=by
 unfold Jt;rw [Rw hE];congr 1;cases op with
 |store t a x=>
  have h1:=hE a (by simp [Op.operands]);simp only [h1]
 |_=>rfl
theorem MY (C:Cfg) (N:Nat) (S:List Nat) (nf:Bool) (o:Oper) {env env':Env} (hE:∀x∈o.op.operands,ev env x=ev env' x):Gv C N S nf o env h↔Gv C N S nf o env' h:=by unfold Gv;rw [UZ hE,RR hE]
theorem GA (C:Cfg) (rec:Rec) (pc:BX) (N:Nat) (ops:Array Oper) (S:List Nat) (nf:Bool) (o:Oper) {env env':Env} (hE:∀t∈o.looksAt ops,env t=env' t):Fs C rec pc N ops S nf o env h=Fs C rec pc N ops S nf o env' h:=by
 have h1:=Nu ops o hE;unfold Fs;rw [N8 ops o hE];have:RF C rec pc env h o.op=RF C rec pc env' h o.op:=by
  unfold RF;cases hl:An C o.op with
  |true=>exact UL C rec pc hl h1 _
  |false=>
   simp only [Bool.not_false,step_eq];rw [T9 C rec pc o.op h1]
 rw [this];by_cases hd:Gv C N S nf o env h
 ·rw [if_pos hd,if_pos ((MY C N S nf o h1).1 hd)]
 ·rw [if_neg hd,if_neg fun hd'=>hd ((MY C N S nf o h1).2 hd')]
noncomputable def Gi (C:Cfg) (rec:Rec) (pc:BX) (N:Nat) (ops:Array Oper) (S:List Nat) (nf:Bool) (o:Oper) (env:Env) (h:Heap):Option AV:=
 if Gv C N S nf o env h then (PJ ops o env).bind fun b=>if b then Hb C rec pc h env o.op else some (.tuple []) else none
theorem E5 (C:Cfg) (rec:Rec) (pc:BX) (N:Nat) (ops:Array Oper) (S:List Nat) (nf:Bool) (o:Oper) (env:Env) (hl:An C o.op=false):Fs C rec pc N ops S nf o env h=(Gi C rec pc N ops S nf o env h).map fun v=>(v,h):=by
 unfold Fs Gi RF;rw [hl];simp only [Bool.not_false,step_eq];split
 ·cases PJ ops o env with
  |none=>rfl
  |some b=>
   cases b
   ·rfl
   ·simp only [Option.bind_some,if_true];cases Hb C rec pc h env o.op<;>rfl
 ·rfl
theorem Nf (C:Cfg) (rec:Rec) (pc:BX) (N:Nat) (ops:Array Oper) (S:List Nat) (o:Oper) (env:Env) {h h':Heap} (hin:Bd S h=true) (hin':Bd S h'=true) (hag:∀i∈S,At h i=At h' i):Gi C rec pc N ops S true o env h=Gi C rec pc N ops S true o env h':=by
 unfold Gi;have hiff:Gv C N S true o env h↔Gv C N S true o env h':=by unfold Gv;rw [hin,hin']
 by_cases hd:Gv C N S true o env h
 ·rw [if_pos hd,if_pos (hiff.1 hd),Wd hag (hd.2.1 rfl)]
 ·rw [if_neg hd,if_neg fun hd'=>hd (hiff.2 hd')]
theorem at_of {h h':Heap} {c:Nat} (he:h'[ob c]? = h[ob c]?):At h' c=At h c:=by
 unfold At;unfold ob at he;by_cases hc:c<1024
 ·rw [if_pos hc] at he;rw [if_pos hc,if_pos hc,he]
 ·rw [if_neg hc] at he;rw [if_neg hc,if_neg hc,he]
theorem ZO {h:Heap} {c:Nat} {o:AF} (he:At h c=some o):ob c<h.length:=by
 unfold At at he;unfold ob;by_cases hc:c<1024
 ·rw [if_pos hc] at he;rw [if_pos hc];exact (List.getElem?_eq_some_iff.1 he).1
 ·rw [if_neg hc] at he;rw [if_neg hc];cases h1:h[c % 1024]? with
  |none=>rw [h1] at he;cases he
  |some o'=>exact (List.getElem?_eq_some_iff.1 h1).1
theorem at_some {h:Heap} {c:Nat} (hi:ob c<h.length):∃o,At h c=some o:=by
 unfold ob at hi;unfold At;by_cases hc:c<1024
 ·rw [if_pos hc] at hi;rw [if_pos hc];exact ⟨_,zO hi⟩
 ·rw [if_neg hc] at hi;rw [if_neg hc,zO hi];exact ⟨_,rfl⟩
theorem QS {h h':Heap} {c:Nat} (he:At h' c=At h c) (hi:ob c<h'.length):ob c<h.length:=by obtain ⟨o,ho⟩:=at_some hi;exact ZO (he.symm.trans ho)
theorem Q3 {S T:List Nat} {h h':Heap} (hin:Bd S h=true) (hk:Cj T h h'):Bd S h'=true:=by unfold Bd at *;rw [yV] at *;intro i hi;have:=hin i hi;simp only [decide_eq_true_eq] at *;have:=hk.1;omega
theorem TX {S T:List Nat} {h h':Heap} (hin:Bd S h=true) (hap:Ur S T=true) (hk:Cj T h h'):∀i∈S,At h' i=At h i:=by intro i hi;unfold Bd at hin;rw [yV] at hin;refine at_of (hk.2 (ob i) (by simpa using hin i hi) fun hT => ?_);unfold Ur at hap;rw [yV] at hap;have:=hap i hi;simp at this;exact this hT
theorem UY {cs vs:List AV} {off j:Nat} (hle:off+vs.length≤cs.length) (hj:j<off∨off+vs.length≤j):(setAt cs off vs).getD j .undef=cs.getD j .undef:=by obtain ⟨_,hg⟩:=Ge cs vs off hle;rw [zK,zK,hg j,if_neg (by omega)]
theorem Xv {h h1:Heap} {i off:Nat} {cs vs:List AV} (hi:h[i]? = some (.box cs)) (hle:off+vs.length≤cs.length) (hk:Cj [] h h1) {c:Nat} (hc:ob c<h.length) (hd:ob c≠i∨H7 c off vs.length=true) :
  At (h1.set i (.box (setAt cs off vs))) c=At h c:=by
 have hil:=AS hi;have h1i:h1[i]? = some (.box cs):=(hk.2 i hil (by simp)).trans hi;by_cases hne:ob c=i
 ·have hd:H7 c off vs.length=true:=by
   rcases hd with hd|hd
   ·exact absurd hne hd
   ·exact hd
  unfold H7 at hd;simp only [zE,yT,decide_eq_true_eq] at hd;have hci:c % 1024=i:=by unfold ob at hne;rw [if_neg (by omega)] at hne;exact hne
  unfold At;rw [if_neg (by omega),if_neg (by omega),hci,hi,List.getElem?_set_self (AS h1i)];simp only [yP,J4,Option.some.injEq,AF.box.injEq,List.cons.injEq,AV.yld.injEq];refine ⟨(Ge cs vs off hle).1,xI fun j hj => ?_⟩;have hj:=xP.1 hj;exact UY hle (by omega)
 ·refine at_of ?_;rw [getElem?_set_ne (Ne.symm hne)];exact hk.2 _ hc (by simp)
theorem Ja {P:Program} {R:Type}:∀(vs:List AV) (ts:List TypeId) (h:Heap) {K:List AV→Heap→Option R} {r:R},Dl P ts vs h K=some r→∃vs' h',K vs' h'=some r∧vs'.length=vs.length∧Cj [] h h'
 |[],ts,h,K,r,hr=>⟨[],h,by simpa [Dl] using hr,rfl,.refl _ _⟩
 |v::vs,ts,h,K,r,hr=>by
  cases v with
  |nilsl=>
   simp only [Dl] at hr;obtain ⟨vs',h',h1,h2,h3⟩:=Ja vs _ _ hr;exact ⟨_,h',h1,by simp [h2],(Cj.push [] h _).trans h3⟩
  |_=>
   simp only [Dl] at hr;obtain ⟨vs',h',h1,h2,h3⟩:=Ja vs _ _ hr;exact ⟨_,h',h1,by simp [h2],h3⟩
theorem NX {h:Heap} {R:Type}:∀(os vs:List AV) {K:List AV→Option R} {r:R},DX h os vs K=some r→∃vs',K vs'=some r∧vs'.length=vs.length
 |_,[],K,r,hr=>⟨[],by cases ‹List AV› <;>simpa [DX] using hr,rfl⟩
 |[],v::vs,K,r,hr=>⟨v::vs,by simpa [DX] using hr,rfl⟩
 |o::os,v::vs,K,r,hr=>by
  have plain:∀x:AV,(DX h os vs fun vs'=>K (x::vs'))=some r→∃vs',K vs'=some r∧vs'.length=(v::vs).length:=fun x hx=>by obtain ⟨vs',h1,h2⟩:=NX os vs hx;exact ⟨_,h1,by simp [h2]⟩
  unfold DX at hr;split at hr
  ·split at hr
   ·rw [AB] at hr;exact plain _ (AD hr).2
   ·exact plain _ hr
  ·exact plain _ hr
theorem RP {P:Program} {R:Type} {t:TypeId} {i off n:Nat} {h:Heap} {v:AV} {K:Heap→Option R} {r:R} (hr:GB P t h (.ptr i off) v K=some r) (hn:B6 P t=some n) :
  ∃h',K h'=some r∧∀c,ob c<h.length→(ob c≠i∨H7 c off n=true)→At h' c=At h c:=by
 unfold GB at hr;simp only [AB,hn] at hr;split at hr
 ·rename_i vs n' hvs hn';cases hn';obtain ⟨⟨hl,_⟩,hr⟩:=AD hr;split at hr
  ·rename_i cs hi;obtain ⟨hle,hr⟩:=AD hr;obtain ⟨vs1,hr,l1⟩:=NX _ _ hr;obtain ⟨vs2,h1,hr,l2,hk⟩:=Ja _ _ _ hr;have l3:vs2.length=n:=by omega
   exact ⟨_,hr,fun c hc hd=>Xv hi (by omega) hk hc (by rw [l3];exact hd)⟩
  ·cases hr
 ·cases hr
theorem ZY {C:Cfg} {rec:Rec} {pc:BX} {S:List Nat} {env:Env} {h h':Heap} {op:Op} {v:AV} (hl:An C op=true) (hin:Bd S h=true) (hap:Jt C.P S env op=true) (hv:Ae C rec pc false env h op (fun v h'=>some (v,h'))=some (v,h')):∀c∈S,At h' c=At h c:=by
 unfold Jt at hap;rw [yT] at hap;rcases hap with hap|hap
 ·obtain ⟨v',h'',e,hk⟩:=Ns hl hv;cases e;exact TX hin hap hk
 ·split at hap
  ·rename_i t a x;split at hap
   ·rename_i i off n ha hn;have key:∀(y:AV) (K:Heap→Option (AV×Heap)),GB C.P t h (ev env a) y K=some (v,h')→(∀h'',K h''=some (.undef,h''))→∀c∈S,At h' c=At h c:=fun y K hs hK c hc=>by rw [ha] at hs;obtain ⟨h2,e,hat⟩:=RP hs hn;rw [hK] at e;cases e;unfold Bd at hin;rw [yV] at hin hap;have h1:=hap c hc;simp only [yT,decide_eq_true_eq] at h1;exact hat c (by simpa using hin c hc) h1
    unfold Ae at hv;simp only [BC,if_true,zF,if_false,CQ] at hv;by_cases hc:C.curT t=true
    ·simp only [hc,if_true] at hv;exact key _ _ hv fun h''=>by rw [ha];rfl
    ·simp only [hc,zF,if_false,hop] at hv;exact key _ _ hv fun h''=>rfl
   ·cases hap
  ·cases hap
theorem W6 {C:Cfg} {rec:Rec} {pc:BX} {N:Nat} {ops:Array Oper} {S:List Nat} {nf:Bool} {o:Oper} {env:Env} {h:Heap} {p:AV×Heap} (hl:An C o.op=true) (hd:Fs C rec pc N ops S nf o env h=some p):Bd S h=true∧Bd S p.2=true∧∀i∈S,At p.2 i=At h i:=by
 unfold Fs at hd;obtain ⟨ha,hd⟩:=AD hd;have hin:=ha.2.2.1;obtain ⟨b,_,hd⟩:=bind_some hd;cases b with
 |false=>
  simp only [zF,if_false,Option.some.injEq] at hd;subst hd;exact ⟨hin,hin,fun _ _=>rfl⟩
 |true=>
  simp only [if_true] at hd;unfold RF at hd;rw [hl] at hd;simp only [Bool.not_true] at hd;obtain ⟨v,h',hv,hk⟩:=Ns hl hd;cases hv;exact ⟨hin,Q3 hin hk,ZY hl hin (ha.2.2.2 hl) hd⟩
theorem EW (C:Cfg) (rec:Rec) (pc:BX) (N:Nat) (ops:Array Oper) (S:List Nat) (nf:Nat→Bool) {i j:Nat} {a b:Oper} (hi:ops[i]? = some a) (hj:ops[j]? = some b) (h1:∀d,a.dst=some d→d∉b.looksAt ops) (h2:∀d,a.dst=some d→b.dst≠some d) (h3:∀d,b.dst=some d→d∉a.looksAt ops)
  (ha:An C a.op=true) (hb:An C b.op=false) (hnf:nf j=true) (s:Env×Heap):(A2 C rec pc N ops S nf i s).bind (A2 C rec pc N ops S nf j)=(A2 C rec pc N ops S nf j s).bind (A2 C rec pc N ops S nf i):=by
 obtain ⟨env,h⟩:=s;have hA:∀v,Fs C rec pc N ops S (nf i) a (env.put b.dst v) h=Fs C rec pc N ops S (nf i) a env h:=fun v=>GA C rec pc N ops S _ a fun t ht=>C5 fun d hd e=>h3 d hd (e ▸ ht);have hB:∀v h',Bd S h=true→Bd S h'=true→(∀i∈S,At h' i=At h i)→Fs C rec pc N ops S (nf j) b (env.put a.dst v) h'=(Gi C rec pc N ops S true b env h).map fun u=>(u,h'):=fun v h' hi1 hi2 hag=>by rw [GA (env':=env) C rec pc N ops S _ b fun t ht=>C5 fun d hd e=>h1 d hd (e ▸ ht),hnf,E5 C rec pc N ops S true b env hb,Nf C rec pc N ops S b env hi2 hi1 hag]
 have hB0:Fs C rec pc N ops S (nf j) b env h=(Gi C rec pc N ops S true b env h).map fun u=>(u,h):=by rw [hnf,E5 C rec pc N ops S true b env hb]
 have fi:A2 C rec pc N ops S nf i=fun s=>(Fs C rec pc N ops S (nf i) a s.1 s.2).map fun p=>(s.1.put a.dst p.1,p.2):=by funext s;simp only [A2,hi]
 have fj:A2 C rec pc N ops S nf j=fun s=>(Fs C rec pc N ops S (nf j) b s.1 s.2).map fun p=>(s.1.put b.dst p.1,p.2):=by funext s;simp only [A2,hj]
 simp only [fi,fj];cases hd:Fs C rec pc N ops S (nf i) a env h with
 |none=>
  rw [hB0];cases Gi C rec pc N ops S true b env h with
  |none=>rfl
  |some u=>simp [hA,hd]
 |some p=>
  obtain ⟨hi1,hi2,hag⟩:=W6 ha hd;simp only [yP,Option.bind_some,hB _ _ hi1 hi2 hag,hB0];cases Gi C rec pc N ops S true b env h with
  |none=>rfl
  |some u=>
   simp only [yP,Option.bind_some,hA,hd];rw [put_comm h2]
theorem G2 (C:Cfg) (rec:Rec) (pc:BX) (N:Nat) (ops:Array Oper) (S:List Nat) (nf:Nat→Bool) {i j:Nat} {a b:Oper} (hi:ops[i]? = some a) (hj:ops[j]? = some b) (h1:∀d,a.dst=some d→d∉b.looksAt ops) (h2:∀d,a.dst=some d→b.dst≠some d) (h3:∀d,b.dst=some d→d∉a.looksAt ops)
  (ha:An C a.op=false) (hb:An C b.op=false) (s:Env×Heap):(A2 C rec pc N ops S nf i s).bind (A2 C rec pc N ops S nf j)=(A2 C rec pc N ops S nf j s).bind (A2 C rec pc N ops S nf i):=by
 obtain ⟨env,h⟩:=s;have hA:∀v,Fs C rec pc N ops S (nf i) a (env.put b.dst v) h=Fs C rec pc N ops S (nf i) a env h:=fun v=>GA C rec pc N ops S _ a fun t ht=>C5 fun d hd e=>h3 d hd (e ▸ ht);have hB:∀v,Fs C rec pc N ops S (nf j) b (env.put a.dst v) h=Fs C rec pc N ops S (nf j) b env h:=fun v=>GA C rec pc N ops S _ b fun t ht=>C5 fun d hd e=>h1 d hd (e ▸ ht);have qa:=E5 (h:=h) C rec pc N ops S (nf i) a env ha;have qb:=E5 (h:=h) C rec pc N ops S (nf j) b env hb;have fi:A2 C rec pc N ops S nf i=fun s=>(Fs C rec pc N ops S (nf i) a s.1 s.2).map fun p=>(s.1.put a.dst p.1,p.2):=by funext s;simp only [A2,hi]
 have fj:A2 C rec pc N ops S nf j=fun s=>(Fs C rec pc N ops S (nf j) b s.1 s.2).map fun p=>(s.1.put b.dst p.1,p.2):=by funext s;simp only [A2,hj]
 simp only [fi,fj];cases hqa:Gi C rec pc N ops S (nf i) a env h with
 |none=>
  rw [hqa] at qa;rw [qa];cases hqb:Gi C rec pc N ops S (nf j) b env h with
  |none=>rw [hqb] at qb;rw [qb];rfl
  |some u=>rw [hqb] at qb;rw [qb];simp [hA,qa]
 |some v=>
  rw [hqa] at qa;rw [qa];cases hqb:Gi C rec pc N ops S (nf j) b env h with
  |none=>rw [hqb] at qb;simp [hB,qb]
  |some u=>
   rw [hqb] at qb;simp only [yP,Option.bind_some,hA,hB,qa,qb];rw [put_comm h2]
theorem DB {C:Cfg} {rec:Rec} {pc:BX} (hrec:EY C.P rec) (hpc:Cg C.P pc) (ops:Array Oper) (S:List Nat) (nf:Nat→Bool) (Q:Exit→Act→World→Prop) (n:Nat) (ro:Option Nat) (rest:List Nat) :
  ∀(l:List Nat) {K:Env→Heap→Option R} {r:R} {env:Env} {h:Heap} {κ:BG} {a:Act} {w:World},
   CB C rec pc N ops S nf l env h K=some r→Rel B N κ env h a w→LD B N κ h w false (l.map fun i=>ops.getD i default) env a K r (wpOpsIn (Fr ro) n C.P ops Q rest)→wpOpsIn (Fr ro) n C.P ops Q (l++rest) a w
 |[],K,r,env,h,κ,a,w,hk,hr,hn=>hn env h κ a w hk hr (Ext.refl _ _ _) (fun _ _=>rfl) rfl fun e=>by cases e
 |i::l,K,r,env,h,κ,a,w,hk,hr,hn=>by
  simp only [CB,AB] at hk;split at hk
  ·rename_i o ho;obtain ⟨⟨hd,_⟩,hk⟩:=AD hk;have hgo:ops.getD i default=o:=by have hlt:i<ops.size:=(Array.getElem?_eq_some_iff.1 ho).1;have:=A6 hlt;rw [ho] at this;exact (Option.some.inj this).symm
   simp only [yY,wpOpsIn,ho];simp only [map_cons,hgo] at hn;have hput:∀(v:AV) (t:Tmp),t∉(o::l.map fun i=>ops.getD i default).filterMap (·.dst)→(env.put o.dst v) t=env t:=fun v t hni=>by
    cases hdst:o.dst with
    |none=>rfl
    |some d=>
     simp only [Env.put];rw [if_neg fun e=>hni (by simp [hdst,e])]
   have hpd:∀val,(a.put o.dst val).defers=a.defers:=fun val=>by cases o.dst<;>rfl
   have hsub:∀t,t∉(o::l.map fun i=>ops.getD i default).filterMap (·.dst)→t∉(l.map fun i=>ops.getD i default).filterMap (·.dst):=fun t hni hm=>hni (by
    simp only [filterMap_cons];split
    ·exact hm
    ·exact mem_cons_of_mem _ hm)
   rcases IH hk hr with ⟨hw,hk1⟩|⟨hw,hk1⟩
   ·simp only [hw,if_true];refine KD hrec hpc o hk1 hr _ Q n ro fun v h' κ' val w' h1 h2 h3 h4 h5 => ?_;refine DB hrec hpc ops S nf Q n ro rest l h1 (Fm hr h3 h4 h2 o hd) fun env2 h2 κ2 a2 w2 k1 k2 k3 k4 k5 k6 => ?_;exact hn env2 h2 κ2 a2 w2 k1 k2 (h4.trans k3) (fun t hni=>(k4 t (hsub t hni)).trans (hput v t hni)) (k5.trans (hpd _)) fun e=>by cases e
   ·simp only [hw,zF,if_false];refine ⟨fun _ _=>trivial,?_⟩;refine DB hrec hpc ops S nf Q n ro rest l hk1 (Fm hr hr.heap (Ext.refl _ _ _) (.tuple _ _ rfl fun j x hx=>by simp at hx) o hd) fun env2 h2 κ2 a2 w2 k1 k2 k3 k4 k5 k6 => ?_;exact hn env2 h2 κ2 a2 w2 k1 k2 k3 (fun t hni=>(k4 t (hsub t hni)).trans (hput _ t hni)) (k5.trans (hpd _)) fun e=>by cases e
  ·cases hk
theorem Ho:∀(xs ys:List AV),F3 xs ys=true→xs=ys
 |[],[],_=>rfl
 |x::xs,y::ys,hs=>by
  cases x<;>cases y<;>simp only [F3,zE,beq_iff_eq] at hs<;>first|(cases hs;done)|skip
  ·obtain ⟨⟨rfl,rfl⟩,h3⟩:=hs;rw [Ho xs ys h3]
  ·obtain ⟨rfl,h3⟩:=hs;rw [Ho xs ys h3]
 |[],_::_,hs=>by simp [F3] at hs
 |x::_,[],hs=>by cases x<;>simp [F3] at hs
theorem LP {h h':Heap} {i:Nat} (hs:sameAt h h' i=true):At h' i=At h i∧ob i<h'.length:=by
 unfold sameAt at hs;split at hs
 ·rename_i xs ys h1 h2;rw [Ho _ _ hs] at h1;exact ⟨h2.trans h1.symm,ZO h2⟩
 ·cases hs
theorem Up {R:Type} (C:Cfg) (rec:Rec) (pc:BX) {env env':Env} {op:Op} (hl:Cv C op=true) (hE:∀x∈op.operands,ev env x=ev env' x) (K:AV→Heap→Option R) :
  Ae C rec pc false env h op K=Ae C rec pc false env' h op K:=by
 obtain ⟨g,args,argTypes,rfl⟩:∃g args argTypes,op = .call {callee :=.value (.func g),args,argTypes}:=by
  unfold Cv at hl;split at hl
  ·exact ⟨_,_,_,rfl⟩
  ·cases hl
 have hh':BC (.call {callee :=.value (.func g),args,argTypes})=false:=rfl;have hm:args.toList.map (ev env)=args.toList.map (ev env'):=xI fun y hy=>hE y (by simp [Op.operands,Call.operands];right;simpa using hy);unfold Ae;simp only [hh',zF,if_false,hm];rfl
theorem MW {R:Type} (C:Cfg) (rec:Rec) (pc:BX) {env env':Env} {op:Op} (hl:Ki op=true) (hE:∀x∈op.operands,ev env x=ev env' x) (K:AV→Heap→Option R) :
  Ae C rec pc false env h op K=Ae C rec pc false env' h op K:=by
 obtain ⟨f,args,argTypes,rfl⟩:∃f args argTypes,op = .call {callee :=.value f,args,argTypes}:=by
  unfold Ki at hl;split at hl
  ·exact ⟨_,_,_,rfl⟩
  ·cases hl
 have hh':BC (.call {callee :=.value f,args,argTypes})=false:=rfl;have hm:args.toList.map (ev env)=args.toList.map (ev env'):=xI fun y hy=>hE y (by simp [Op.operands,Call.operands];right;simpa using hy);have hf:ev env f=ev env' f:=hE f (by simp [Op.operands,Call.operands]);unfold Ae;simp only [hh',zF,if_false,hm,hf]
theorem Jc (C:Cfg) (rec:Rec) (pc:BX) (N:Nat) (ops:Array Oper) (S:List Nat) (nf:Nat→Bool) (o:Oper):∀(l:List Nat) (env:Env) (h:Heap) (s2:Env×Heap),
  (∀y∈l,∃o',ops[y]? = some o'∧An C o'.op=false∧nf y=true∧(∀d,o.dst=some d→d∉o'.looksAt ops)∧(∀d,o.dst=some d→o'.dst≠some d)∧∀d,o'.dst=some d→d∉o.looksAt ops)→
  l.foldlM (fun s i=>A2 C rec pc N ops S nf i s) (env,h)=some s2→s2.2=h∧(∀t∈o.looksAt ops,s2.1 t=env t)∧∀v h',Bd S h'=true→Bd S h=true→(∀i∈S,At h' i=At h i)→
   l.foldlM (fun s i=>A2 C rec pc N ops S nf i s) (env.put o.dst v,h')=some (s2.1.put o.dst v,h')
 |[],env,h,s2,_,hf=>by simp only [List.foldlM_nil] at hf;cases hf;exact ⟨rfl,fun _ _=>rfl,fun v h' _ _ _=>rfl⟩
 |y::l,env,h,s2,hq,hf=>by
  obtain ⟨o',ho',hl,hnf,q1,q2,q3⟩:=hq y (by simp);have fy:∀s,A2 C rec pc N ops S nf y s=(Fs C rec pc N ops S (nf y) o' s.1 s.2).map fun p=>(s.1.put o'.dst p.1,p.2):=fun s=>by simp only [A2,ho']
  rw [wD,fy,hnf,E5 C rec pc N ops S true o' env hl] at hf;cases hu:Gi C rec pc N ops S true o' env h with
  |none=>rw [hu] at hf;cases hf
  |some u=>
   rw [hu] at hf;have hf':l.foldlM (fun s i=>A2 C rec pc N ops S nf i s) (env.put o'.dst u,h)=some s2:=hf;obtain ⟨e1,e2,e3⟩:=Jc C rec pc N ops S nf o l (env.put o'.dst u) h s2 (fun z hz=>hq z (by simp [hz])) hf';refine ⟨e1,fun t ht=>(e2 t ht).trans (C5 fun d hd e=>q3 d hd (e ▸ ht)),fun v h' hi' hi hag => ?_⟩;have h1:Fs C rec pc N ops S true o' (env.put o.dst v) h'=some (u,h'):=by rw [GA (env':=env) C rec pc N ops S true o' fun t ht=>C5 fun d hd e=>q1 d hd (e ▸ ht),E5 C rec pc N ops S true o' env hl,Nf C rec pc N ops S o' env hi' hi hag,hu];rfl
   rw [wD,fy,hnf];simp only [h1,yP];rw [put_comm q2];exact e3 v h' hi' hi hag
theorem Wu {C:Cfg} {rec:Rec} {pc:BX} {N:Nat} {ops:Array Oper} {S:List Nat} {nf:Nat→Bool} {o:Oper} {l1 l2:List Nat} {env:Env} {h:Heap} {K:Env→Heap→Option R} {r:R} (hcg:∀(env' env1:Env) (h1:Heap) (K1:AV→Heap→Option R),(∀x∈o.op.operands,ev env1 x=ev env' x)→Ae C rec pc false env1 h1 o.op K1=Ae C rec pc false env' h1 o.op K1)
  (hq:∀y∈l2,∃o',ops[y]? = some o'∧An C o'.op=false∧nf y=true∧(∀d,o.dst=some d→d∉o'.looksAt ops)∧(∀d,o.dst=some d→o'.dst≠some d)∧∀d,o'.dst=some d→d∉o.looksAt ops)
  (hk:CB C rec pc N ops S nf (l1++l2) env h (fun env' h'=>Sm C rec pc N S o env' h' K)=some r) :
  Kw N o=true∧o.guard=none∧CB C rec pc N ops S nf l1 env h (fun env1 h1=>Ae C rec pc false env1 h1 o.op fun v h'=>cnd (S.all (sameAt h1 h')=true) (CB C rec pc N ops S nf l2 (env1.put o.dst v) h' K) none)=some r:=by
 rw [BL,xB] at hk;rw [BL];cases h1:l1.foldlM (fun s i=>A2 C rec pc N ops S nf i s) (env,h) with
 |none=>rw [h1] at hk;cases hk
 |some s1=>
  rw [h1] at hk;have hk:(l2.foldlM (fun s i=>A2 C rec pc N ops S nf i s) s1).bind (fun s=>Sm C rec pc N S o s.1 s.2 K)=some r:=hk;cases h2:l2.foldlM (fun s i=>A2 C rec pc N ops S nf i s) s1 with
  |none=>rw [h2] at hk;cases hk
  |some s2=>
   rw [h2] at hk;simp only [Option.bind_some] at hk;obtain ⟨e1,e2,e3⟩:=Jc C rec pc N ops S nf o l2 s1.1 s1.2 s2 hq h2;unfold Sm at hk;simp only [AB] at hk;obtain ⟨⟨hd,hg⟩,hk⟩:=AD hk;refine ⟨hd,hg,?_⟩;simp only [Option.bind_some];rw [e1,hcg s1.1 s2.1 _ _ (Nu ops o e2)] at hk;rw [← hk];congr 1;funext v h';simp only [AB];by_cases hs:S.all (sameAt s1.2 h')=true
   ·rw [if_pos hs,if_pos hs,BL];have hall:=yV.1 hs;have hi':Bd S h'=true:=by unfold Bd;rw [yV];intro i hi;simpa using (LP (hall i hi)).2
    have hi:Bd S s1.2=true:=by unfold Bd;rw [yV];intro i hi;have h3:=LP (hall i hi);simpa using QS h3.1 h3.2
    rw [e3 v h' hi' hi fun i hi=>(LP (hall i hi)).1];rfl
   ·rw [if_neg hs,if_neg hs]
theorem SH {Q:Nat→Nat→Prop}:∀(l:List Nat),(∀a x b y,l=a++x::b→y∈b→Q x y)→l.Pairwise Q
 |[],_ =>.nil
 |z::l,hh=>wM.2 ⟨fun y hy=>hh [] z l y rfl hy,SH l fun a x b y e hy=>hh (z::a) x b y (by rw [e];rfl) hy⟩
theorem H4 {Q:Nat→Nat→Prop} {l a b:List Nat} {x y:Nat} (hp:l.Pairwise Q) (e:l=a++x::b) (hy:y∈b):Q x y:=by subst e;rw [wL] at hp;exact (wM.1 hp.2.1).1 y hy
theorem sort_to {σ:Type} (f:Nat→σ→Option σ) (m:Nat) (T l:List Nat) (hT:T.Perm (List.range m)) (hn:l.Nodup) (hm:∀i,i∈l↔i<m)
  (hc:∀l1 x l2 y,l=l1++x::l2→y∈l2→T.idxOf y<T.idxOf x→∀s,(f x s).bind (f y)=(f y s).bind (f x)) (s:σ) :
  l.foldlM (fun s i=>f i s) s=T.foldlM (fun s i=>f i s) s:=by
 have hTn:T.Nodup:=hT.nodup_iff.2 wK;have hTl:T.length=m:=by rw [hT.length_eq,wF]
 have hTm:∀i,i∈T↔i<m:=fun i=>by rw [hT.mem_iff,xP]
 have hget:∀x,x<m→T.getD (T.idxOf x) 0=x:=fun x hx=>by have hlt:=List.idxOf_lt_length_of_mem ((hTm x).2 hx);rw [zK,zO hlt,Option.getD_some];exact List.getElem_idxOf hlt
 have hidx:∀k,k<m→T.idxOf (T.getD k 0)=k:=fun k hk=>by rw [zK,zO (by omega),Option.getD_some];exact hTn.idxOf_getElem k (by omega)
 have key:=Gc (fun k=>f (T.getD k 0)) m (l.map T.idxOf) ?_ ?_ ?_ s
 ·rw [List.foldlM_map] at key;have e1:∀(q:List Nat),(∀i∈q,i<m)→∀s,q.foldlM (fun s i=>f (T.getD (T.idxOf i) 0) s) s=q.foldlM (fun s i=>f i s) s:=by
   intro q
   induction q with
   |nil=>intro _ s;rfl
   |cons x q ih=>
    intro hq s;rw [wD,wD,hget x (hq x (by simp))];congr 1;funext s';exact ih (fun i hi=>hq i (by simp [hi])) s'
  rw [e1 l (fun i hi=>(hm i).1 hi)] at key;rw [key];have e2:T=(List.range m).map fun k=>T.getD k 0:=by
   apply zJ;intro k;rw [getElem?_map];by_cases hk:k<m
   ·rw [zR hk,zO (by omega),yP,zK,zO (by omega),Option.getD_some]
   ·rw [zP (by omega),zP (by simp;omega),wN]
  conv=>rhs;rw [e2]
  rw [List.foldlM_map]
 ·rw [List.nodup_iff_pairwise_ne,List.pairwise_map];refine (List.nodup_iff_pairwise_ne.1 hn).imp_of_mem fun {a b} ha hb hab e=>hab ?_;rw [← hget a ((hm a).1 ha),← hget b ((hm b).1 hb),e]
 ·intro k;rw [wJ];constructor
  ·rintro ⟨x,hx,rfl⟩
   have:=List.idxOf_lt_length_of_mem ((hTm x).2 ((hm x).1 hx));omega
  ·intro hk;refine ⟨T.getD k 0,(hm _).2 ((hTm _).1 ?_),hidx k hk⟩;rw [zK,zO (by omega),Option.getD_some];exact wE _
 ·intro l1 x l2 y e hy hlt s;obtain ⟨a1,a2,rfl,rfl,e2⟩:=List.map_eq_append_iff.1 e;obtain ⟨z,b2,rfl,rfl,rfl⟩:=List.map_eq_cons_iff.1 e2;obtain ⟨w,hw,rfl⟩:=wJ.1 hy;have hz:=(hm z).1 (by simp);have hwm:=(hm w).1 (by simp [hw]);simp only [hget z hz,hget w hwm];exact hc a1 z b2 w rfl hw hlt s
theorem YY {b:List Nat}:∀{T:List Nat} {x y:Nat},Vg b T=true→x∈T→y∈T→T.idxOf y<T.idxOf x→¬(b.getD y 0).testBit x=true
 |[],_,_,_,hx,_,_=>by cases hx
 |z::T,x,y,ho,hx,hy,hlt=>by
  simp only [Vg,zE,yV,yS] at ho;by_cases hyz:z=y
  ·subst hyz;rcases xL.1 hx with rfl|hx
   ·omega
   ·rw [ho.1 x hx];exact Bool.false_ne_true
  ·by_cases hxz:z=x
   ·subst hxz;rw [List.idxOf_cons_self] at hlt;omega
   ·have e1:(z::T).idxOf y=T.idxOf y+1:=by rw [List.idxOf_cons,beq_false_of_ne hyz];rfl
    have e2:(z::T).idxOf x=T.idxOf x+1:=by rw [List.idxOf_cons,beq_false_of_ne hxz];rfl
    rw [e1,e2] at hlt;refine YY ho.2 ?_ ?_ (by omega)
    ·exact (xL.1 hx).resolve_left fun e=>hxz e.symm
    ·exact (xL.1 hy).resolve_left fun e=>hyz e.symm
theorem N6 {l l1 l2:List Nat} {x y:Nat} (e:l=l1++x::l2) (hn:l.Nodup) (hy:y∈l2):l.idxOf x<l.idxOf y:=by
 subst e;rw [xS,xT] at hn;obtain ⟨n1,⟨n2,n3⟩,n4⟩:=hn;have hx1:x∉l1:=fun h=>n4 x h x (by simp) rfl;have hy1:y∉l1:=fun h=>n4 y h y (by simp [hy]) rfl;have hxy:x≠y:=fun h=>n2 (h ▸ hy);have e1:(x::l2).idxOf y=l2.idxOf y+1:=by rw [List.idxOf_cons,beq_false_of_ne hxy];rfl
 rw [List.idxOf_append,List.idxOf_append,if_neg hx1,if_neg hy1,List.idxOf_cons_self,e1];omega
theorem NZ {C:Cfg} {rec:Rec} {pc:BX} (hrec:EY C.P rec) (hpc:Cg C.P pc) (hmix:C.P.follows .mixedOrders=true) {id:Nat} {ops:Array Oper} {K:Env→Heap→Option R} {r:R} {S:List Nat} {m i0 j0:Nat}
  (hp:UF C ops (AP ops) m i0 j0=true) (hff:EP (AP ops) ops.size m=true) (hed:HA ops=true) (hle:m≤ops.size)
  (hA:CB C rec pc N ops S (A1 C ops (AP ops) m) (List.range m) env h (fun env' h'=>En C rec pc N false ops (ops.toList.drop m) env' h' K)=some r)
  (hB:CB C rec pc N ops S (A1 C ops (AP ops) m) (Jg (AP ops) m i0 j0) env h (fun env' h'=>En C rec pc N false ops (ops.toList.drop m) env' h' K)=some r)
  (hr:Rel B N κ env h a w) (Q:Exit→Act→World→Prop) (n:Nat) (ro:Option Nat)
  (hn:LD B N κ h w false ops.toList env a K r fun a' w'=>Q .normal a' w'):(Code.region id ops true).wpIn (Fr ro) n C.P Q a w:=by
 unfold UF at hp;simp only [zE,decide_eq_true_eq] at hp;obtain ⟨hdo,hperm,hord,hidx⟩:=hp;have hT:=List.isPerm_iff.1 hperm;generalize Jg (AP ops) m i0 j0=T at *;refine wpIn_region_draw fun t => ?_;have hsch:Region.schedule (C.P.follows .mixedOrders) ops t=Region.linearise .any ops t:=by simp only [Region.schedule,hmix,Bool.true_or,if_true]
 rw [hsch];obtain ⟨p1,p2,p3,p4⟩:=Hn hed (FY ops t) (fun i hi=>by cases hi);obtain ⟨lp,hL,hlpn,hlpm⟩:=GM (n:=m) (ops.size-m) (Region.linearise .any ops t) p1 (fun i=>by
  constructor
  ·intro hi;have:=(p2 i hi).2;omega
  ·intro hi;exact (p3 i (by omega)).resolve_left (by simp)) (fun l1 x l2 e hx y hy=>by
   have hxs:x<ops.size:=(p2 x (by rw [e];simp)).2;have h1:=(yV.1 hff) x (xP.2 hxs);have h2:(AP ops).getD x 0=2 ^ x-1:=by simp only [yT,decide_eq_true_eq,beq_iff_eq] at h1;exact h1.resolve_left (by omega)
   refine (p4 l1 x l2 e y ?_).resolve_left (by simp);rw [h2,Nat.testBit_two_pow_sub_one];simpa using hy)
 rw [hL];let g:Nat→Oper:=fun i=>ops.getD i default;have hlt:∀i∈lp,i<ops.size:=fun i hi=>by have:=(hlpm i).1 hi;omega
 have hpair:∀x y,x<m→y<x→¬((AP ops).getD x 0).testBit y=true→¬(y=i0∧x=j0)→
   (Bb C ops y&&Bb C ops x)=false∧(∀d,(g y).dst=some d→d∉(g x).looksAt ops)∧(∀d,(g y).dst=some d→(g x).dst≠some d)∧(∀d,(g x).dst=some d→d∉(g y).looksAt ops)∧
   (Bb C ops x=true→A1 C ops (AP ops) m y=true)∧(Bb C ops y=true→A1 C ops (AP ops) m x=true):=fun x y hx hlt2 h2 hne=>by
  have h1:=(yV.1 ((yV.1 hdo) x (xP.2 hx))) y (xP.2 hlt2);have ex:=A6 (show x<ops.size by omega);have ey:=A6 (show y<ops.size by omega);rw [ex,ey] at h1;simp only [yT,zE,yS,beq_iff_eq] at h1;obtain ⟨hnl,hap⟩:=h1.resolve_left (fun h=>h.elim h2 hne);obtain ⟨q1,q2,q3⟩:=Oper.apart_spec hap;have hun:Ea (AP ops) x y=true:=by unfold Ea;rw [if_neg (by omega)];simpa using h2
  have hun':Ea (AP ops) y x=true:=by unfold Ea;rw [if_pos hlt2];simpa using h2
  refine ⟨hnl,q1,q2,q3,fun hlx => ?_,fun hly => ?_⟩
  ·unfold A1;refine xX.2 ⟨x,xP.2 hx,?_⟩;simp only [zE,bne_iff_ne];exact ⟨⟨hlx,by omega⟩,hun'⟩
  ·unfold A1;refine xX.2 ⟨y,xP.2 (by omega),?_⟩;simp only [zE,bne_iff_ne];exact ⟨⟨hly,by omega⟩,hun⟩
 have hopen:lp.Pairwise fun x y=>y<x→¬((AP ops).getD x 0).testBit y=true:=SH lp fun l1 x l2 y e hy hlt2 hb=>by have:=(p4 l1 x (l2++List.range' m (ops.size-m)) (by rw [hL,e];simp) y hb).resolve_left (by simp);rw [e,xS] at hlpn;exact hlpn.2.2 y this y (by simp [hy]) rfl
 have hcom:∀x y,x<m→y<x→¬((AP ops).getD x 0).testBit y=true→¬(y=i0∧x=j0)→∀s:Env×Heap,(A2 C rec pc N ops S (A1 C ops (AP ops) m) x s).bind (A2 C rec pc N ops S (A1 C ops (AP ops) m) y)=(A2 C rec pc N ops S (A1 C ops (AP ops) m) y s).bind (A2 C rec pc N ops S (A1 C ops (AP ops) m) x):=fun x y hx hlt2 h2 hne s=>by
  obtain ⟨hnl,q1,q2,q3,n1,n2⟩:=hpair x y hx hlt2 h2 hne;have ex:=A6 (show x<ops.size by omega);have ey:=A6 (show y<ops.size by omega);have lx:Bb C ops x=(An C (g x).op||Cv C (g x).op):=by unfold Bb;rw [ex]
  have ly:Bb C ops y=(An C (g y).op||Cv C (g y).op):=by unfold Bb;rw [ey]
  cases hlx:An C (g x).op with
  |true=>
   have hlx':Bb C ops x=true:=by rw [lx,hlx];rfl
   have hly:An C (g y).op=false:=by rw [hlx',Bool.and_true,ly,xW] at hnl;exact hnl.1
   exact EW C rec pc N ops S _ ex ey q3 (fun d hd hd2=>q2 d hd2 hd) q1 hlx hly (n1 hlx') s
  |false=>
   cases hly:An C (g y).op with
   |true=>exact (EW C rec pc N ops S _ ey ex q1 q2 q3 hly hlx (n2 (by rw [ly,hly];rfl)) s).symm
   |false=>exact (G2 C rec pc N ops S _ ey ex q1 q2 q3 hly hlx s).symm
 have hsub:∀(l:List Nat),(∀i∈l,i<ops.size)→∀i,i∉ops.toList.filterMap (·.dst)→i∉(l.map g).filterMap (·.dst):=fun l hl i hni hm=>hni (by rw [wI] at hm ⊢;obtain ⟨o,ho,hd⟩:=hm;obtain ⟨x,hx,rfl⟩:=wJ.1 ho;refine ⟨g x,?_,hd⟩;have:=A6 (hl x hx);exact xN (i:=x) (by rw [yQ];exact this))
 have hrest:∀env1 h1 κ1 a1 w1,En C rec pc N false ops (ops.toList.drop m) env1 h1 K=some r→Rel B N κ1 env1 h1 a1 w1→Ext κ h w κ1 h1 w1→(∀i,i∉ops.toList.filterMap (·.dst)→env1 i=env i)→a1.defers=a.defers→
   wpOpsIn (Fr ro) n C.P ops Q (List.range' m (ops.size-m)) a1 w1:=fun env1 h1 κ1 a1 w1 k1 k2 k3 k4 k5=>by
  have:=I8 hrec hpc ops Q n ro [] (ops.toList.drop m) (List.range' m (ops.size-m)) (by simp) (fun j i o hj ho=>by
   have hjl:j<ops.size-m:=by simpa using AS hj
   rw [List.getElem?_range' hjl] at hj;cases hj;rw [zN] at ho;simpa using ho) k1 k2 (fun env2 h2 κ2 a2 w2 j1 j2 j3 j4 j5 j6=>by
    refine hn env2 h2 κ2 a2 w2 j1 j2 (k3.trans j3) (fun i hni => ?_) (j5.trans k5) (fun e=>by cases e);have hsub1:i∉(ops.toList.drop m).filterMap (·.dst):=fun hm=>hni (by rw [wI] at hm ⊢;obtain ⟨o,ho,hd⟩:=hm;exact ⟨o,xO ho,hd⟩)
    exact (j4 i hsub1).trans (k4 i hni))
  simpa using this
 have hx0:=IN hr.heap;have hfinish:CB C rec pc N ops S (A1 C ops (AP ops) m) lp env h (fun env' h'=>En C rec pc N false ops (ops.toList.drop m) env' h' K)=some r→wpOpsIn (Fr ro) n C.P ops Q (lp++List.range' m (ops.size-m)) a {w with drawn:=w.drawn+1}:=fun hk2=>by refine DB hrec hpc ops S _ Q n ro (List.range' m (ops.size-m)) lp hk2 (KM hr) fun env1 h1 κ1 a1 w1 k1 k2 k3 k4 k5 k6 => ?_;exact hrest env1 h1 κ1 a1 w1 k1 k2 (hx0.trans k3) (fun i hni=>k4 i (hsub lp hlt i hni)) k5
 by_cases hcls:lp.idxOf i0<lp.idxOf j0
 ·have hrun:∀s:Env×Heap,lp.foldlM (fun s i=>A2 C rec pc N ops S (A1 C ops (AP ops) m) i s) s=(List.range m).foldlM (fun s i=>A2 C rec pc N ops S (A1 C ops (AP ops) m) i s) s:=fun s=>
   Gc (fun i s=>A2 C rec pc N ops S (A1 C ops (AP ops) m) i s) m lp hlpn hlpm (fun b1 x b2 y e2 hy hlt2 s=>
    hcom x y ((hlpm x).1 (by rw [e2];simp)) hlt2 (H4 hopen e2 hy hlt2) (fun hh=>by have:=N6 e2 hlpn hy;rw [hh.1,hh.2] at this;omega) s) s
  refine hfinish ?_;rw [BL] at hA ⊢;rw [hrun];exact hA
 ·have hrun:∀s:Env×Heap,lp.foldlM (fun s i=>A2 C rec pc N ops S (A1 C ops (AP ops) m) i s) s=T.foldlM (fun s i=>A2 C rec pc N ops S (A1 C ops (AP ops) m) i s) s:=fun s=>
   sort_to (fun i s=>A2 C rec pc N ops S (A1 C ops (AP ops) m) i s) m T lp hT hlpn hlpm (fun b1 x b2 y e2 hy hlt2 s=>by
    have hx:=(hlpm x).1 (by rw [e2];simp);have hy':=(hlpm y).1 (by rw [e2];simp [hy]);have hib:=N6 e2 hlpn hy;rcases Nat.lt_trichotomy y x with hyx|hyx|hyx
    ·exact hcom x y hx hyx (H4 hopen e2 hy hyx) (fun hh=>by rw [hh.1,hh.2] at hlt2;omega) s
    ·subst hyx;rfl
    ·refine (hcom y x hy' hyx (YY hord (hT.mem_iff.2 (xP.2 hx)) (hT.mem_iff.2 (xP.2 hy')) hlt2) (fun hh => ?_) s).symm;rw [hh.1,hh.2] at hib;exact hcls hib) s
  refine hfinish ?_;rw [BL] at hB ⊢;rw [hrun];exact hB
theorem GN {σ:Type} (f:Nat→σ→Option σ) (p:Nat→Bool):∀(l:List Nat) (s:σ),l.foldlM (fun s i=>if p i=true then f i s else some s) s=(l.filter p).foldlM (fun s i=>f i s) s
 |[],s=>rfl
 |x::l,s=>by
  by_cases hx:p x=true
  ·rw [wB hx,wD,wD,if_pos hx];congr 1;funext s';exact GN f p l s'
  ·rw [wA hx,wD,if_neg hx];exact GN f p l s
theorem KG {σ:Type} (f:Nat→σ→Option σ) (p:Nat→Bool) (lo hi:Nat) (lp:List Nat) (hn:lp.Nodup) (hm:∀i,i∈lp↔lo≤i∧i<hi) (hle:lo≤hi) (hp:∀i,p i=true→lo≤i)
  (hcom:lp.Pairwise fun x y=>y<x→p x=true→p y=true→∀s,(f x s).bind (f y)=(f y s).bind (f x)) (s:σ) :
  (lp.filter p).foldlM (fun s i=>f i s) s=((List.range hi).filter p).foldlM (fun s i=>f i s) s:=by
 have hf0:(List.range lo).filter p=[]:=by rw [List.filter_eq_nil_iff];intro i hi;have:=xP.1 hi;intro h;have:=hp i h;omega
 have e:lp.filter p=(List.range lo++lp).filter p:=by rw [xZ,hf0,xR]
 rw [e,← GN,← GN];have hpw:(List.range lo++lp).Pairwise fun x y=>y<x→∀s,(if p x=true then f x s else some s).bind (fun s=>if p y=true then f y s else some s)=(if p y=true then f y s else some s).bind (fun s=>if p x=true then f x s else some s):=by
  have htriv:∀x y,¬(p x=true∧p y=true)→∀s,(if p x=true then f x s else some s).bind (fun s=>if p y=true then f y s else some s)=(if p y=true then f y s else some s).bind (fun s=>if p x=true then f x s else some s):=fun x y h s=>by
   by_cases hx:p x=true
   ·by_cases hy:p y=true
    ·exact absurd ⟨hx,hy⟩ h
    ·simp only [hx,hy,if_true,zF,if_false,Option.bind_some];cases f x s<;>rfl
   ·simp only [hx,zF,if_false,Option.bind_some];cases (if p y=true then f y s else some s)<;>rfl
  rw [wL];refine ⟨?_,?_,?_⟩
  ·refine List.Pairwise.imp_of_mem (R:=fun _ _=>True) (fun {x y} hx hy _ _=>htriv x y fun h => ?_) (List.pairwise_of_forall fun _ _=>trivial);have:=hp x h.1;have:=xP.1 hx;omega
  ·refine hcom.imp fun {x y} h hlt => ?_;by_cases hb:p x=true∧p y=true
   ·intro s;have:=h hlt hb.1 hb.2 s;simp only [hb.1,hb.2,if_true];exact this
   ·exact htriv x y hb
  ·intro x hx y hy _;refine htriv x y fun h => ?_;have:=hp x h.1;have:=xP.1 hx;omega
 refine Gc (fun i s=>if p i=true then f i s else some s) hi (List.range lo++lp) ?_ ?_ (fun l1 x l2 y e hy hlt s=>H4 hpw e hy hlt s) s
 ·rw [xS];refine ⟨wK,hn,fun x hx y hy h => ?_⟩;have:=xP.1 hx;have:=(hm y).1 hy;omega
 ·intro i;rw [xK,xP,hm];omega
theorem XC {R:Type} {x y:AF} {a:Option R} {r:R} (h:A8 x y a=some r):x=y∧a=some r:=by
 unfold A8 at h;by_cases hxy:x=y
 ·rw [if_pos hxy] at h;exact ⟨hxy,h⟩
 ·rw [if_neg hxy] at h;cases h
theorem Az {R:Type} (x:AF) (a:Option R):A8 x x a=a:=by unfold A8;exact if_pos rfl
theorem T2 {R:Type} {h h':Heap} {i:Nat} {a:Option R} {r:R} (hs:Pd h h' i a=some r):(At h' i=At h i∧ob i<h'.length)∧a=some r∧∀b:Option R,Pd h h' i b=b:=by
 unfold Pd at hs;split at hs
 ·rename_i x y h1 h2;obtain ⟨e,h3⟩:=XC hs;subst e;refine ⟨⟨h2.trans h1.symm,ZO h2⟩,h3,fun b => ?_⟩;unfold Pd;rw [h1,h2];exact Az x b
 ·cases hs
theorem Ee {R:Type} {h h':Heap}:∀{S:List Nat} {a:Option R} {r:R},FE h h' S a=some r→(∀i∈S,At h' i=At h i∧ob i<h'.length)∧a=some r∧∀b:Option R,FE h h' S b=b
 |[],a,r,hs=>⟨fun _ hi=>(by cases hi),hs,fun _=>rfl⟩
 |i::S,a,r,hs=>by
  obtain ⟨h1,h2,h3⟩:=T2 hs;obtain ⟨k1,k2,k3⟩:=Ee h2;refine ⟨fun j hj => ?_,k2,fun b => ?_⟩
  ·rcases xL.1 hj with rfl|hj
   ·exact h1
   ·exact k1 j hj
  ·show Pd h h' i (FE h h' S b)=b;rw [k3,h3]
theorem Nx {C:Cfg} {rec:Rec} {pc:BX} {N:Nat} {ops:Array Oper} {S:List Nat} {nf:Nat→Bool} {o:Oper} {l1 l2:List Nat} {env:Env} {h:Heap} {K:Env→Heap→Option R} {r:R} (hcg:∀(env' env1:Env) (h1:Heap) (K1:AV→Heap→Option R),(∀x∈o.op.operands,ev env1 x=ev env' x)→Ae C rec pc false env1 h1 o.op K1=Ae C rec pc false env' h1 o.op K1)
  (hq:∀y∈l2,∃o',ops[y]? = some o'∧An C o'.op=false∧nf y=true∧(∀d,o.dst=some d→d∉o'.looksAt ops)∧(∀d,o.dst=some d→o'.dst≠some d)∧∀d,o'.dst=some d→d∉o.looksAt ops)
  (hk:CB C rec pc N ops S nf (l1++l2) env h (fun env' h'=>Ny C rec pc N ops S o env' h' K)=some r) :
  Kw N o=true∧CB C rec pc N ops S nf l1 env h (fun env1 h1=>GY ops o env1 (fun env1=>Ae C rec pc false env1 h1 o.op fun v h'=>FE h1 h' S (CB C rec pc N ops S nf l2 (env1.put o.dst v) h' K))
   (fun env1=>cnd (Bd S h1=true) (CB C rec pc N ops S nf l2 (env1.put o.dst (.tuple [])) h1 K) none))=some r:=by
 rw [BL,xB] at hk;rw [BL];cases h1:l1.foldlM (fun s i=>A2 C rec pc N ops S nf i s) (env,h) with
 |none=>rw [h1] at hk;cases hk
 |some s1=>
  rw [h1] at hk;have hk:(l2.foldlM (fun s i=>A2 C rec pc N ops S nf i s) s1).bind (fun s=>Ny C rec pc N ops S o s.1 s.2 K)=some r:=hk;cases h2:l2.foldlM (fun s i=>A2 C rec pc N ops S nf i s) s1 with
  |none=>rw [h2] at hk;cases hk
  |some s2=>
   rw [h2] at hk;simp only [Option.bind_some] at hk;obtain ⟨e1,e2,e3⟩:=Jc C rec pc N ops S nf o l2 s1.1 s1.2 s2 hq h2;unfold Ny at hk;simp only [AB] at hk;obtain ⟨hd,hk⟩:=AD hk;refine ⟨hd,?_⟩;simp only [Option.bind_some];rw [Su] at hk ⊢;rw [N8 ops o e2] at hk;cases hgv:PJ ops o s1.1 with
   |none=>rw [hgv] at hk;cases hk
   |some bb=>
    rw [hgv] at hk;cases bb with
    |true=>
     simp only [Option.bind_some,if_true] at hk ⊢;rw [e1,hcg s1.1 s2.1 _ _ (Nu ops o e2)] at hk;rw [← hk];congr 1;funext v h';have key:∀q,FE s1.2 h' S (CB C rec pc N ops S nf l2 (s1.1.put o.dst v) h' K)=some q↔FE s1.2 h' S (K (s2.1.put o.dst v) h')=some q:=by
      have hback:(∀i∈S,At h' i=At s1.2 i∧ob i<h'.length)→CB C rec pc N ops S nf l2 (s1.1.put o.dst v) h' K=K (s2.1.put o.dst v) h':=fun hall=>by
       have hi':Bd S h'=true:=by unfold Bd;rw [yV];intro i hi;simpa using (hall i hi).2
       have hi:Bd S s1.2=true:=by unfold Bd;rw [yV];intro i hi;have h3:=hall i hi;simpa using QS h3.1 h3.2
       rw [BL,e3 v h' hi' hi fun i hi=>(hall i hi).1];rfl
      intro q;constructor
      ·intro hs;obtain ⟨k1,k2,k3⟩:=Ee hs;rw [k3,← hback k1];exact k2
      ·intro hs;obtain ⟨k1,k2,k3⟩:=Ee hs;rw [k3,hback k1];exact k2
     cases hA:FE s1.2 h' S (CB C rec pc N ops S nf l2 (s1.1.put o.dst v) h' K) with
     |some q=>exact ((key q).1 hA).symm
     |none=>
      cases hB:FE s1.2 h' S (K (s2.1.put o.dst v) h') with
      |none=>rfl
      |some q=>rw [(key q).2 hB] at hA;cases hA
    |false=>
     simp only [Option.bind_some,zF,if_false,AB] at hk ⊢;obtain ⟨hin,hk⟩:=AD hk;rw [e1] at hin hk;rw [if_pos hin,BL,e3 (.tuple []) s1.2 hin hin fun _ _=>rfl];exact hk
theorem LY {σ:Type} (f:Nat→σ→Option σ) (p:Nat→Bool):∀(l:List Nat),(l.Pairwise fun x y=>p x=false→p y=true→∀s,(f x s).bind (f y)=(f y s).bind (f x))→∀s,
  (l.filter p++l.filter fun i => !p i).foldlM (fun s i=>f i s) s=l.foldlM (fun s i=>f i s) s
 |[],_,s=>rfl
 |x::l,hp,s=>by
  obtain ⟨h1,h2⟩:=wM.1 hp;cases hx:p x with
  |true=>
   rw [wB hx,wA (by simp [hx]),yY,wD,wD];congr 1;funext s';exact LY f p l h2 s'
  |false=>
   rw [wA (by simp [hx]),wB (by simp [hx]),wD];have e0:(f x s).bind (fun s'=>l.foldlM (fun s i=>f i s) s')=(f x s).bind fun s'=>(l.filter p++l.filter fun i => !p i).foldlM (fun s i=>f i s) s':=by congr 1;funext s';exact (LY f p l h2 s').symm
   show _=(f x s).bind fun s'=>l.foldlM (fun s i=>f i s) s';rw [e0];have key:∀(q:List Nat),(∀y∈q,∀s,(f x s).bind (f y)=(f y s).bind (f x))→∀(t:List Nat) s,(q++x::t).foldlM (fun s i=>f i s) s=(f x s).bind fun s'=>(q++t).foldlM (fun s i=>f i s) s':=by
    intro q
    induction q with
    |nil=>intro _ t s;rfl
    |cons y q ih=>
     intro hq t s;rw [yY,wD];have e1:(f x s).bind (fun s'=>(y::q++t).foldlM (fun s i=>f i s) s')=((f x s).bind (f y)).bind fun s'=>(q++t).foldlM (fun s i=>f i s) s':=by rw [bind_assoc];rfl
     rw [e1,hq y (by simp),bind_assoc];show (f y s).bind _=(f y s).bind _;congr 1;funext s';exact ih (fun z hz=>hq z (by simp [hz])) t s'
   refine key _ (fun y hy s => ?_) _ s;rw [wH] at hy;exact h1 y hy.1 hx hy.2 s
theorem YX {C:Cfg} {rec:Rec} {pc:BX} (hrec:EY C.P rec) (hpc:Cg C.P pc) {ops:Array Oper} {K:Env→Heap→Option R} {r:R} {lo hi m:Nat} {u:Option Nat} {S:List Nat} {o:Oper} (hle:hi≤ops.size) (hlo:lo≤hi) (ho:ops[m]? = some o)
  (lp:List Nat) (hlpn:lp.Nodup) (hlpm:∀i,i∈lp↔lo≤i∧i<hi) (hopen:lp.Pairwise fun x y=>y<x→¬((AP ops).getD x 0).testBit y=true)
  (hso:UG C ops (AP ops) lo hi m u=true) (hcv:Ki o.op=true)
  (hkA:UH C rec pc N ops (AP ops) lo hi m none S (nf3 C ops (AP ops) lo hi (some m)) o env h K=some r)
  (hkB:∀u',u=some u'→UH C rec pc N ops (AP ops) lo hi m (some u') S (nf3 C ops (AP ops) lo hi (some m)) o env h K=some r)
  (hr:Rel B N κ env h a w) (Q:Exit→Act→World→Prop) (n:Nat) (ro:Option Nat) (rest:List Nat)
  (hcont:∀env1 h1 κ1 a1 w1,K env1 h1=some r→Rel B N κ1 env1 h1 a1 w1→Ext κ h w κ1 h1 w1→(∀i,i∉ops.toList.filterMap (·.dst)→env1 i=env i)→a1.defers=a.defers→wpOpsIn (Fr ro) n C.P ops Q rest a1 w1) :
  wpOpsIn (Fr ro) n C.P ops Q (lp++rest) a w:=by
 let g:Nat→Oper:=fun i=>ops.getD i default;have hlt:∀i∈lp,i<ops.size:=fun i hi=>by have:=(hlpm i).1 hi;omega
 have hsub:∀(l:List Nat),(∀i∈l,i<ops.size)→∀i,i∉ops.toList.filterMap (·.dst)→i∉(l.map g).filterMap (·.dst):=fun l hl i hni hm=>hni (by rw [wI] at hm ⊢;obtain ⟨o,ho,hd⟩:=hm;obtain ⟨x,hx,rfl⟩:=wJ.1 ho;refine ⟨g x,?_,hd⟩;have:=A6 (hl x hx);exact xN (i:=x) (by rw [yQ];exact this))
 unfold UG at hso;simp only [zE,decide_eq_true_eq] at hso;obtain ⟨hps,⟨hm1,hm2⟩,hbits,hdn,hdu⟩:=hso;have hbitm:∀i,i<hi→i≤m→¬((AP ops).getD i 0).testBit m=true:=fun i hi1 him=>by have:=(yV.1 hbits) i (xP.2 hi1);simp only [zE,yT,decide_eq_true_eq] at this;simpa using this.1.resolve_left (by omega)
 have hbitu:∀u',u=some u'→∀i,i<hi→i≤u'→¬((AP ops).getD i 0).testBit u'=true:=fun u' hu i hi1 hiu=>by have:=(yV.1 hbits) i (xP.2 hi1);rw [hu] at this;simp only [zE,yT,decide_eq_true_eq] at this;simpa using this.2.resolve_left (by omega)
 have hpair:∀x y,x<hi→lo≤y→y<x→¬((AP ops).getD x 0).testBit y=true→Lc m u y x=false→
   (C8 C ops (some m) y&&C8 C ops (some m) x)=false∧(∀d,(g y).dst=some d→d∉(g x).looksAt ops)∧(∀d,(g y).dst=some d→(g x).dst≠some d)∧(∀d,(g x).dst=some d→d∉(g y).looksAt ops)∧
   (C8 C ops (some m) x=true→nf3 C ops (AP ops) lo hi (some m) y=true)∧(C8 C ops (some m) y=true→nf3 C ops (AP ops) lo hi (some m) x=true):=fun x y hx hloy hlt2 h2 hip=>by
  have h0:=(yV.1 hps) x (xP.2 hx);rw [yT] at h0;have h1:=h0.resolve_left (by simp;omega);have h1:=(yV.1 h1) y (xP.2 hlt2);have ex:=A6 (show x<ops.size by omega);have ey:=A6 (show y<ops.size by omega);rw [ex,ey,hip] at h1;simp only [yT,zE,yS,decide_eq_true_eq,zF,false_or] at h1;obtain ⟨hnl,hap⟩:=(h1.resolve_left (by omega)).resolve_left h2;obtain ⟨q1,q2,q3⟩:=Oper.apart_spec hap;have hun:Ea (AP ops) x y=true:=by unfold Ea;rw [if_neg (by omega)];simpa using h2
  have hun':Ea (AP ops) y x=true:=by unfold Ea;rw [if_pos hlt2];simpa using h2
  refine ⟨hnl,q1,q2,q3,fun hlx => ?_,fun hly => ?_⟩
  ·unfold nf3;refine xX.2 ⟨x,xP.2 hx,?_⟩;simp only [zE,bne_iff_ne,decide_eq_true_eq];exact ⟨by omega,⟨hlx,by omega⟩,hun'⟩
  ·unfold nf3;refine xX.2 ⟨y,xP.2 (by omega),?_⟩;simp only [zE,bne_iff_ne,decide_eq_true_eq];exact ⟨by omega,⟨hly,by omega⟩,hun⟩
 generalize hnf:nf3 C ops (AP ops) lo hi (some m)=nf at *;have hcom:∀x y,x<hi→lo≤y→y<x→¬((AP ops).getD x 0).testBit y=true→x≠m→y≠m→∀s:Env×Heap,(A2 C rec pc N ops S nf x s).bind (A2 C rec pc N ops S nf y)=(A2 C rec pc N ops S nf y s).bind (A2 C rec pc N ops S nf x):=fun x y hx hloy hlt2 h2 hxm hym s=>by
  obtain ⟨hnl,q1,q2,q3,n1,n2⟩:=hpair x y hx hloy hlt2 h2 (by
   unfold Lc;cases u with
   |none=>rfl
   |some u=>simp [hxm,hym])
  have ex:=A6 (show x<ops.size by omega);have ey:=A6 (show y<ops.size by omega);have l3:∀z,z<ops.size→An C (g z).op=true→C8 C ops (some m) z=true:=fun z hz hl=>by unfold C8 Bb;rw [A6 hz];have hl':An C (ops.getD z default).op=true:=hl;show ((An C (ops.getD z default).op||Cv C (ops.getD z default).op)||_)=true;rw [hl'];rfl
  cases hlx:An C (g x).op with
  |true=>
   have hlx':=l3 x (by omega) hlx;have hly:An C (g y).op=false:=by
    cases hly:An C (g y).op with
    |false=>rfl
    |true=>
     rw [hlx',l3 y (by omega) hly] at hnl;cases hnl
   exact EW C rec pc N ops S _ ex ey q3 (fun d hd hd2=>q2 d hd2 hd) q1 hlx hly (n1 hlx') s
  |false=>
   cases hly:An C (g y).op with
   |true=>exact (EW C rec pc N ops S _ ey ex q1 q2 q3 hly hlx (n2 (l3 y (by omega) hly)) s).symm
   |false=>exact (G2 C rec pc N ops S _ ey ex q1 q2 q3 hly hlx s).symm
 obtain ⟨l1,l2,e⟩:=yX ((hlpm m).2 ⟨hm1,hm2⟩);have hn':=hlpn;rw [e,xS,xT] at hn';obtain ⟨n1,⟨n2,n3⟩,n4⟩:=hn';obtain ⟨v,hkv,hvu,hv2,hdv⟩:∃v:Option Nat,UH C rec pc N ops (AP ops) lo hi m v S nf o env h K=some r∧(∀u',u=some u'→u'∈l2→v=some u')∧(∀u',v=some u'→u=some u'∧u'∈l2)∧Ub (AP ops) lo hi m v=true:=by
  cases hu:u with
  |none=>exact ⟨none,hkA,(fun u' e=>by cases e),(fun u' e=>by cases e),hdn⟩
  |some u'=>
   rw [hu] at hdu;simp only [zE] at hdu;by_cases hin:u'∈l2
   ·exact ⟨some u',hkB u' hu,(fun q hq _=>hq),(fun q hq=>⟨hq,by cases hq;exact hin⟩),hdu.2⟩
   ·exact ⟨none,hkA,(fun q hq hq2=>by cases hq;exact absurd hq2 hin),(fun q hq=>by cases hq),hdn⟩
 let p:Nat→Bool:=Jo (AP ops) lo m v;have hbef:∀x∈l1,∀y∈m::l2,y<x→¬((AP ops).getD x 0).testBit y=true:=fun x hx y hy=>by have h1:=hopen;rw [e,wL] at h1;exact h1.2.2 x hx y hy
 have hp1:∀x∈l1,p x=true:=fun x hx=>by
  obtain ⟨hx1,hx2⟩:=(hlpm x).1 (by rw [e];simp [hx]);have hxm:x≠m:=fun h=>n4 x hx m (by simp) h;show Jo (AP ops) lo m v x=true;unfold Jo;have b1:((AP ops).getD x 0).testBit m=false:=by
   rcases yH m x with hlt3|hge
   ·simpa using hbef x hx m (by simp) hlt3
   ·simpa using hbitm x hx2 hge
  cases hv:v with
  |none=>rw [decide_eq_true hx1,b1,show (x != m)=true from by simpa using hxm];rfl
  |some u'=>
   obtain ⟨hu,hul⟩:=hv2 u' hv;have hxu:x≠u':=fun h=>n4 x hx u' (by simp [hul]) h;have b2:((AP ops).getD x 0).testBit u'=false:=by
    rcases yH u' x with hlt3|hge
    ·simpa using hbef x hx u' (by simp [hul]) hlt3
    ·simpa using hbitu u' hu x hx2 hge
   dsimp only;rw [decide_eq_true hx1,b1,b2,show (x != m)=true from by simpa using hxm,show (x != u')=true from by simpa using hxu];rfl
 have hpm:p m=false:=by show Jo (AP ops) lo m v m=false;unfold Jo;simp
 have hpd:∀y,p y=true→lo≤y∧y≠m∧¬((AP ops).getD y 0).testBit m=true∧∀u',v=some u'→y≠u':=fun y hy=>by have hy:Jo (AP ops) lo m v y=true:=hy;unfold Jo at hy;simp only [zE,decide_eq_true_eq,bne_iff_ne,yS] at hy;obtain ⟨h1,h2,h3,h4⟩:=hy;refine ⟨h1,h2,by simpa using h3,fun u' hv => ?_⟩;rw [hv] at h4;simp only [zE,bne_iff_ne] at h4;exact h4.1
 have hfil:lp.filter p=l1++l2.filter p:=by rw [e,xZ,wA (by simp [hpm]),wC.2 hp1]
 have hrun:∀s:Env×Heap,(l1++l2.filter p).foldlM (fun s i=>A2 C rec pc N ops S nf i s) s=((List.range hi).filter p).foldlM (fun s i=>A2 C rec pc N ops S nf i s) s:=fun s=>by rw [← hfil];refine KG (fun i s=>A2 C rec pc N ops S nf i s) p lo hi lp hlpn hlpm hlo (fun i h=>(hpd i h).1) ?_ s;refine hopen.imp_of_mem fun {x y} hx hy h hlt px py s => ?_;exact hcom x y ((hlpm x).1 hx).2 ((hlpm y).1 hy).1 hlt (h hlt) (hpd x px).2.1 (hpd y py).2.1 s
 have hrest:∀i∈l2,(GJ (AP ops) lo m v i=true↔p i=false):=fun i hi2=>by obtain ⟨hx1,_⟩:=(hlpm i).1 (by rw [e];simp [hi2]);have hne:i≠m:=fun h=>n2 (h ▸ hi2);unfold GJ;show _↔Jo (AP ops) lo m v i=false;simp [hx1,hne]
 have hfil2:lp.filter (GJ (AP ops) lo m v)=l2.filter fun i => !p i:=by
  rw [e,xZ,wA (by unfold GJ;simp),List.filter_eq_nil_iff.2 (fun x hx=>by have h1:Jo (AP ops) lo m v x=true:=hp1 x hx;unfold GJ;rw [h1];simp),xR]
  refine List.filter_congr fun i hi2 => ?_;rw [Bool.eq_iff_iff,hrest i hi2];simp
 have hrun2:∀s:Env×Heap,(l2.filter p++(List.range hi).filter (GJ (AP ops) lo m v)).foldlM (fun s i=>A2 C rec pc N ops S nf i s) s=l2.foldlM (fun s i=>A2 C rec pc N ops S nf i s) s:=fun s=>by
  have hs:∀s:Env×Heap,(l2.filter fun i => !p i).foldlM (fun s i=>A2 C rec pc N ops S nf i s) s=((List.range hi).filter (GJ (AP ops) lo m v)).foldlM (fun s i=>A2 C rec pc N ops S nf i s) s:=fun s=>by
   rw [← hfil2];refine KG (fun i s=>A2 C rec pc N ops S nf i s) (GJ (AP ops) lo m v) lo hi lp hlpn hlpm hlo (fun i h => ?_) ?_ s
   ·unfold GJ at h;simp only [zE,decide_eq_true_eq] at h;exact h.1
   ·refine hopen.imp_of_mem fun {x y} hx hy h hlt px py s => ?_;have hne:∀z,GJ (AP ops) lo m v z=true→z≠m:=fun z hz=>by unfold GJ at hz;simp only [zE,bne_iff_ne] at hz;exact hz.2.1
    exact hcom x y ((hlpm x).1 hx).2 ((hlpm y).1 hy).1 hlt (h hlt) (hne x px) (hne y py) s
  rw [xB];have h2:=LY (fun i s=>A2 C rec pc N ops S nf i s) p l2 (by
   have h1:=hopen;rw [e,wL] at h1;have h1:=(wM.1 h1.2.1).2;refine h1.imp_of_mem fun {x y} hx hy h px py s => ?_;obtain ⟨hx1,hx2⟩:=(hlpm x).1 (by rw [e];simp [hx]);obtain ⟨hy1,hy2⟩:=(hlpm y).1 (by rw [e];simp [hy]);have hxm:x≠m:=fun h=>n2 (h ▸ hx);have hym:y≠m:=fun h=>n2 (h ▸ hy);rcases Nat.lt_trichotomy y x with hlt3|heq|hgt
   ·exact hcom x y hx2 hy1 hlt3 (h hlt3) hxm hym s
   ·subst heq;exact absurd py (by rw [px];simp)
   ·have hd:=(yV.1 hdv) y (xP.2 hy2);have py':Jo (AP ops) lo m v y=true:=py;have px':Jo (AP ops) lo m v x=false:=px;rw [py',Bool.not_true,Bool.false_or] at hd;have hd:=(yV.1 hd) x (xP.2 hx2);rw [px'] at hd;simp only [yT,decide_eq_true_eq,zF,false_or] at hd;have hd:=hd.resolve_left (by omega);exact (hcom y x hy2 hx1 hgt (by simpa using hd) hym hxm s).symm) s
  rw [xB] at h2;rw [← h2];congr 1;funext s';exact (hs s').symm
 have hgo:g m=o:=by have h1:=A6 (show m<ops.size by omega);rw [ho] at h1;exact (Option.some.inj h1).symm
 unfold UH at hkv;have hk2:CB C rec pc N ops S nf (l1++l2.filter p) env h (fun env' h'=>Ny C rec pc N ops S o env' h' fun env2 h2=>CB C rec pc N ops S nf ((List.range hi).filter (GJ (AP ops) lo m v)) env2 h2 K)=some r:=by rw [BL] at hkv ⊢;rw [hrun];exact hkv
 have hlm:C8 C ops (some m) m=true:=by unfold C8;simp
 obtain ⟨hd,hk3⟩:=Nx (fun _ _ _ K1 hE=>MW C rec pc hcv hE K1) (fun y hy=>by
  rw [wH] at hy;obtain ⟨hy,py⟩:=hy;obtain ⟨_,hne,hnm,hnu⟩:=hpd y py;obtain ⟨hy1,hy2⟩:=(hlpm y).1 (by rw [e];simp [hy]);have ey:=A6 (show y<ops.size by omega);have hip:Lc m u m y=false∧Lc m u y m=false:=by
   unfold Lc;cases hu:u with
   |none=>exact ⟨rfl,rfl⟩
   |some u'=>
    have:y≠u':=fun h=>hnu u' (hvu u' hu (h ▸ hy)) h;simp [hne,this]
  have hquiet:(C8 C ops (some m) y)=false→An C (g y).op=false:=fun hq=>by unfold C8 Bb at hq;rw [ey] at hq;rw [xW,xW] at hq;exact hq.1.1
  rcases Nat.lt_or_gt_of_ne hne with hlt3|hlt3
  ·have hno:=H4 hopen e hy hlt3;obtain ⟨hnl,q1,q2,q3,f1,f2⟩:=hpair m y hm2 hy1 hlt3 hno hip.2;rw [hgo] at q1 q2 q3;refine ⟨g y,ey,hquiet ?_,f1 hlm,q3,fun d hd hd2=>q2 d hd2 hd,q1⟩;rw [hlm,Bool.and_true] at hnl;exact hnl
  ·obtain ⟨hnl,q1,q2,q3,f1,f2⟩:=hpair y m hy2 hm1 hlt3 hnm hip.1;rw [hgo] at q1 q2 q3;refine ⟨g y,ey,hquiet ?_,f2 hlm,q1,q2,q3⟩;rw [hlm,Bool.true_and] at hnl;exact hnl) hk2
 have hjoin:∀(e1:Env) (h1:Heap),CB C rec pc N ops S nf (l2.filter p) e1 h1 (fun env2 h2=>CB C rec pc N ops S nf ((List.range hi).filter (GJ (AP ops) lo m v)) env2 h2 K)=CB C rec pc N ops S nf l2 e1 h1 K:=fun e1 h1=>by
  rw [BL,BL,← hrun2,xB];cases (l2.filter p).foldlM (fun s i=>A2 C rec pc N ops S nf i s) (e1,h1) with
  |none=>rfl
  |some s'=>exact BL C rec pc N ops S nf _ s'.1 s'.2 K
 have hl1lt:∀i∈l1,i<ops.size:=fun i hi=>hlt i (by rw [e];simp [hi]);have hl2lt:∀i∈l2,i<ops.size:=fun i hi=>hlt i (by rw [e];simp [hi]);have hdm:∀i,i∉ops.toList.filterMap (·.dst)→∀d,o.dst=some d→d≠i:=fun i hni d hd' e'=>hni (by subst e';rw [wI];exact ⟨o,xN (i:=m) (by rw [yQ];exact ho),hd'⟩)
 rw [e,zH];refine DB hrec hpc ops S _ Q n ro (m::l2++rest) l1 hk3 hr fun env1 h1 κ1 a1 w1 k1 k2 k3 k4 k5 k6 => ?_;simp only [yY,wpOpsIn,ho];have hpd:∀val,(a1.put o.dst val).defers=a1.defers:=fun val=>by cases o.dst<;>rfl
 rcases IH k1 k2 with ⟨hw,hk4⟩|⟨hw,hk4⟩
 ·simp only [hw,if_true];refine KD hrec hpc o hk4 k2 _ Q n ro fun v' h' κ' val w' g1 g2 g3 g4 g5 => ?_;obtain ⟨_,g1,_⟩:=Ee g1;rw [hjoin] at g1;refine DB hrec hpc ops S _ Q n ro rest l2 g1 (Fm k2 g3 g4 g2 o hd) fun env2 h2 κ2 a2 w2 j1 j2 j3 j4 j5 j6 => ?_;refine hcont env2 h2 κ2 a2 w2 j1 j2 ((k3.trans g4).trans j3) (fun i hni => ?_) ((j5.trans (hpd _)).trans k5);exact (j4 i (hsub l2 hl2lt i hni)).trans ((C5 fun d hd'=>hdm i hni d hd').trans (k4 i (hsub l1 hl1lt i hni)))
 ·simp only [hw,zF,if_false];simp only [AB] at hk4;obtain ⟨_,hk4⟩:=AD hk4;rw [hjoin] at hk4;refine ⟨fun _ _=>trivial,?_⟩;refine DB hrec hpc ops S _ Q n ro rest l2 hk4 (Fm k2 k2.heap (Ext.refl _ _ _) (.tuple _ _ rfl fun j x hx=>by simp at hx) o hd) fun env2 h2 κ2 a2 w2 j1 j2 j3 j4 j5 j6 => ?_;refine hcont env2 h2 κ2 a2 w2 j1 j2 (k3.trans j3) (fun i hni => ?_) ((j5.trans (hpd _)).trans k5);exact (j4 i (hsub l2 hl2lt i hni)).trans ((C5 fun d hd'=>hdm i hni d hd').trans (k4 i (hsub l1 hl1lt i hni)))
theorem seg_ok {C:Cfg} {rec:Rec} {pc:BX} (hrec:EY C.P rec) (hpc:Cg C.P pc) {ops:Array Oper} {K:Env→Heap→Option R} {r:R} {lo hi:Nat} (hle:hi≤ops.size) (hlo:lo≤hi)
  (lp:List Nat) (hlpn:lp.Nodup) (hlpm:∀i,i∈lp↔lo≤i∧i<hi) (hopen:lp.Pairwise fun x y=>y<x→¬((AP ops).getD x 0).testBit y=true)
  (hk:segK C rec pc N ops (AP ops) lo hi env h K=some r) (hr:Rel B N κ env h a w) (Q:Exit→Act→World→Prop) (n:Nat) (ro:Option Nat) (rest:List Nat)
  (hcont:∀env1 h1 κ1 a1 w1,K env1 h1=some r→Rel B N κ1 env1 h1 a1 w1→Ext κ h w κ1 h1 w1→(∀i,i∉ops.toList.filterMap (·.dst)→env1 i=env i)→a1.defers=a.defers→wpOpsIn (Fr ro) n C.P ops Q rest a1 w1) :
  wpOpsIn (Fr ro) n C.P ops Q (lp++rest) a w:=by
 let g:Nat→Oper:=fun i=>ops.getD i default;have hlt:∀i∈lp,i<ops.size:=fun i hi=>by have:=(hlpm i).1 hi;omega
 have hsub:∀(l:List Nat),(∀i∈l,i<ops.size)→∀i,i∉ops.toList.filterMap (·.dst)→i∉(l.map g).filterMap (·.dst):=fun l hl i hni hm=>hni (by rw [wI] at hm ⊢;obtain ⟨o,ho,hd⟩:=hm;obtain ⟨x,hx,rfl⟩:=wJ.1 ho;refine ⟨g x,?_,hd⟩;have:=A6 (hl x hx);exact xN (i:=x) (by rw [yQ];exact this))
 have hpair:∀(m0:Option Nat),MG C ops (AP ops) lo hi m0=true→∀x y,x<hi→lo≤y→y<x→¬((AP ops).getD x 0).testBit y=true→
   (C8 C ops m0 y&&C8 C ops m0 x)=false∧(∀d,(g y).dst=some d→d∉(g x).looksAt ops)∧(∀d,(g y).dst=some d→(g x).dst≠some d)∧(∀d,(g x).dst=some d→d∉(g y).looksAt ops)∧
   (C8 C ops m0 x=true→nf3 C ops (AP ops) lo hi m0 y=true)∧(C8 C ops m0 y=true→nf3 C ops (AP ops) lo hi m0 x=true):=fun m0 hso x y hx hloy hlt2 h2=>by
  unfold MG at hso;rw [zE] at hso;have h0:=(yV.1 hso.1) x (xP.2 hx);have h1:((List.range x).all fun i=>decide (i<lo)||((AP ops).getD x 0).testBit i||(!(C8 C ops m0 i&&C8 C ops m0 x)&&(match ops[i]?,ops[x]? with
   |some x,some y=>x.apart ops y
   |_,_=>false)))=true:=by
   simp only [yT,decide_eq_true_eq] at h0;have:=h0.resolve_left (by omega);rw [yV] at this ⊢;intro i hi;rw [Bool.or_assoc];exact this i hi
  have h1:=(yV.1 h1) y (xP.2 hlt2);have ex:=A6 (show x<ops.size by omega);have ey:=A6 (show y<ops.size by omega);rw [ex,ey] at h1;simp only [yT,zE,yS,decide_eq_true_eq] at h1;obtain ⟨hnl,hap⟩:=h1.resolve_left (fun q=>q.elim (fun q=>by omega) h2);obtain ⟨q1,q2,q3⟩:=Oper.apart_spec hap;have hun:Ea (AP ops) x y=true:=by unfold Ea;rw [if_neg (by omega)];simpa using h2
  have hun':Ea (AP ops) y x=true:=by unfold Ea;rw [if_pos hlt2];simpa using h2
  refine ⟨hnl,q1,q2,q3,fun hlx => ?_,fun hly => ?_⟩
  ·unfold nf3;refine xX.2 ⟨x,xP.2 hx,?_⟩;simp only [zE,bne_iff_ne,decide_eq_true_eq];exact ⟨by omega,⟨hlx,by omega⟩,hun'⟩
  ·unfold nf3;refine xX.2 ⟨y,xP.2 (by omega),?_⟩;simp only [zE,bne_iff_ne,decide_eq_true_eq];exact ⟨by omega,⟨hly,by omega⟩,hun⟩
 have hcom:∀(m0:Option Nat) (S:List Nat),MG C ops (AP ops) lo hi m0=true→∀x y,x<hi→lo≤y→y<x→¬((AP ops).getD x 0).testBit y=true→∀s:Env×Heap,(A2 C rec pc N ops S (nf3 C ops (AP ops) lo hi m0) x s).bind (A2 C rec pc N ops S (nf3 C ops (AP ops) lo hi m0) y)=(A2 C rec pc N ops S (nf3 C ops (AP ops) lo hi m0) y s).bind (A2 C rec pc N ops S (nf3 C ops (AP ops) lo hi m0) x):=fun m0 S hso x y hx hloy hlt2 h2 s=>by
  obtain ⟨hnl,q1,q2,q3,n1,n2⟩:=hpair m0 hso x y hx hloy hlt2 h2;have ex:=A6 (show x<ops.size by omega);have ey:=A6 (show y<ops.size by omega);have l3:∀z,z<ops.size→An C (g z).op=true→C8 C ops m0 z=true:=fun z hz hl=>by unfold C8 Bb;rw [A6 hz];have hl':An C (ops.getD z default).op=true:=hl;show ((An C (ops.getD z default).op||Cv C (ops.getD z default).op)||_)=true;rw [hl'];rfl
  cases hlx:An C (g x).op with
  |true=>
   have hlx':=l3 x (by omega) hlx;have hly:An C (g y).op=false:=by
    cases hly:An C (g y).op with
    |false=>rfl
    |true=>
     rw [hlx',l3 y (by omega) hly] at hnl;cases hnl
   exact EW C rec pc N ops S _ ex ey q3 (fun d hd hd2=>q2 d hd2 hd) q1 hlx hly (n1 hlx') s
  |false=>
   cases hly:An C (g y).op with
   |true=>exact (EW C rec pc N ops S _ ey ex q1 q2 q3 hly hlx (n2 (l3 y (by omega) hly)) s).symm
   |false=>exact (G2 C rec pc N ops S _ ey ex q1 q2 q3 hly hlx s).symm
 unfold segK at hk;split at hk
 ·rename_i m0 hmc;split at hk
  ·rename_i o ho;by_cases hsf:MG C ops (AP ops) lo hi (some m0)=false
   ·rw [if_pos hsf] at hk;simp only [AB] at hk;obtain ⟨⟨hso,hcv⟩,hk1⟩:=AD hk;generalize looks C.P ops (nfS C ops (AP ops) lo hi m0) hi env h=S at hk1;cases hu:ordU C ops (AP ops) lo hi m0 with
    |none=>
     rw [hu] at hk1 hso;exact YX hrec hpc hle hlo ho lp hlpn hlpm hopen hso hcv hk1 (fun u' e=>by cases e) hr Q n ro rest hcont
    |some u=>
     rw [hu] at hk1 hso;obtain ⟨hA,hB⟩:=I6 hk1;exact YX hrec hpc hle hlo ho lp hlpn hlpm hopen hso hcv hA (fun u' e=>by cases e;exact hB) hr Q n ro rest hcont
   rw [if_neg hsf] at hk;simp only [AB] at hk;obtain ⟨⟨hso,hcv⟩,hk1⟩:=AD hk;generalize looks C.P ops (nfS C ops (AP ops) lo hi m0) hi env h=S at hk1;have hso2:=hso;unfold MG at hso2;simp only [zE,decide_eq_true_eq] at hso2;obtain ⟨_,⟨hm1,hm2⟩,hnone⟩:=hso2;have hnone:∀j,lo≤j→j<hi→¬((AP ops).getD j 0).testBit m0=true:=fun j hj1 hj2=>by have:=(yV.1 hnone) j (xP.2 hj2);simp only [yT,decide_eq_true_eq] at this;simpa using this.resolve_left (by omega)
   have hgo:g m0=o:=by have h1:=A6 (show m0<ops.size by omega);rw [ho] at h1;exact (Option.some.inj h1).symm
   obtain ⟨l1,l2,e⟩:=yX ((hlpm m0).2 ⟨hm1,hm2⟩);have hn':=hlpn;rw [e,xS,xT] at hn';obtain ⟨n1,⟨n2,n3⟩,n4⟩:=hn';have hfil:lp.filter (fun i=>decide (lo≤i)&&i != m0)=l1++l2:=by
    have hall:∀x∈lp,lo≤x:=fun x hx=>((hlpm x).1 hx).1;rw [e] at hall;rw [e,xZ,wA (by simp),wC.2 (fun x hx=>by have:=n4 x hx m0 (by simp);have:=hall x (by simp [hx]);simp [*]),wC.2 (fun x hx=>by have:x≠m0:=fun h=>n2 (h ▸ hx);have:=hall x (by simp [hx]);simp [*])]
   have hrun:∀s:Env×Heap,(l1++l2).foldlM (fun s i=>A2 C rec pc N ops S (nf3 C ops (AP ops) lo hi (some m0)) i s) s=((List.range hi).filter fun i=>decide (lo≤i)&&i != m0).foldlM (fun s i=>A2 C rec pc N ops S (nf3 C ops (AP ops) lo hi (some m0)) i s) s:=fun s=>by rw [← hfil];refine KG (fun i s=>A2 C rec pc N ops S (nf3 C ops (AP ops) lo hi (some m0)) i s) _ lo hi lp hlpn hlpm hlo (fun i h=>by simp only [zE,decide_eq_true_eq] at h;exact h.1) ?_ s;refine hopen.imp_of_mem fun {x y} hx hy h hlt px py s => ?_;exact hcom (some m0) S hso x y ((hlpm x).1 hx).2 ((hlpm y).1 hy).1 hlt (h hlt) s
   have hk2:CB C rec pc N ops S (nf3 C ops (AP ops) lo hi (some m0)) (l1++l2) env h (fun env' h'=>Ny C rec pc N ops S o env' h' K)=some r:=by rw [BL] at hk1 ⊢;rw [hrun];exact hk1
   have hlm:C8 C ops (some m0) m0=true:=by unfold C8;simp
   obtain ⟨hd,hk3⟩:=Nx (fun _ _ _ K1 hE=>MW C rec pc hcv hE K1) (fun y hy=>by
    have hne:y≠m0:=fun h=>n2 (h ▸ hy);obtain ⟨hy1,hy2⟩:=(hlpm y).1 (by rw [e];simp [hy]);have ey:=A6 (show y<ops.size by omega);have hquiet:(C8 C ops (some m0) y)=false→An C (g y).op=false:=fun hq=>by unfold C8 Bb at hq;rw [ey] at hq;rw [xW,xW] at hq;exact hq.1.1
    rcases Nat.lt_or_gt_of_ne hne with hlt3|hlt3
    ·have hno:=H4 hopen e hy hlt3;obtain ⟨hnl,q1,q2,q3,f1,f2⟩:=hpair (some m0) hso m0 y hm2 hy1 hlt3 hno;rw [hgo] at q1 q2 q3;refine ⟨g y,ey,hquiet ?_,f1 hlm,q3,fun d hd hd2=>q2 d hd2 hd,q1⟩;rw [hlm,Bool.and_true] at hnl;exact hnl
    ·have hno:=hnone y hy1 hy2;obtain ⟨hnl,q1,q2,q3,f1,f2⟩:=hpair (some m0) hso y m0 hy2 hm1 hlt3 hno;rw [hgo] at q1 q2 q3;refine ⟨g y,ey,hquiet ?_,f2 hlm,q1,q2,q3⟩;rw [hlm,Bool.true_and] at hnl;exact hnl) hk2
   have hl1lt:∀i∈l1,i<ops.size:=fun i hi=>hlt i (by rw [e];simp [hi]);have hl2lt:∀i∈l2,i<ops.size:=fun i hi=>hlt i (by rw [e];simp [hi]);have hdm:∀i,i∉ops.toList.filterMap (·.dst)→∀d,o.dst=some d→d≠i:=fun i hni d hd' e'=>hni (by subst e';rw [wI];exact ⟨o,xN (i:=m0) (by rw [yQ];exact ho),hd'⟩)
   rw [e,zH];refine DB hrec hpc ops S _ Q n ro (m0::l2++rest) l1 hk3 hr fun env1 h1 κ1 a1 w1 k1 k2 k3 k4 k5 k6 => ?_;simp only [yY,wpOpsIn,ho];have hpd:∀val,(a1.put o.dst val).defers=a1.defers:=fun val=>by cases o.dst<;>rfl
   rcases IH k1 k2 with ⟨hw,hk4⟩|⟨hw,hk4⟩
   ·simp only [hw,if_true];refine KD hrec hpc o hk4 k2 _ Q n ro fun v h' κ' val w' g1 g2 g3 g4 g5 => ?_;obtain ⟨_,g1,_⟩:=Ee g1;refine DB hrec hpc ops S _ Q n ro rest l2 g1 (Fm k2 g3 g4 g2 o hd) fun env2 h2 κ2 a2 w2 j1 j2 j3 j4 j5 j6 => ?_;refine hcont env2 h2 κ2 a2 w2 j1 j2 ((k3.trans g4).trans j3) (fun i hni => ?_) ((j5.trans (hpd _)).trans k5);exact (j4 i (hsub l2 hl2lt i hni)).trans ((C5 fun d hd'=>hdm i hni d hd').trans (k4 i (hsub l1 hl1lt i hni)))
   ·simp only [hw,zF,if_false];simp only [AB] at hk4;obtain ⟨_,hk4⟩:=AD hk4;refine ⟨fun _ _=>trivial,?_⟩;refine DB hrec hpc ops S _ Q n ro rest l2 hk4 (Fm k2 k2.heap (Ext.refl _ _ _) (.tuple _ _ rfl fun j x hx=>by simp at hx) o hd) fun env2 h2 κ2 a2 w2 j1 j2 j3 j4 j5 j6 => ?_;refine hcont env2 h2 κ2 a2 w2 j1 j2 (k3.trans j3) (fun i hni => ?_) ((j5.trans (hpd _)).trans k5);exact (j4 i (hsub l2 hl2lt i hni)).trans ((C5 fun d hd'=>hdm i hni d hd').trans (k4 i (hsub l1 hl1lt i hni)))
  ·cases hk
 ·rename_i hmc;simp only [AB] at hk;obtain ⟨hso,hk1⟩:=AD hk;generalize looks C.P ops (nf3 C ops (AP ops) lo hi none) hi env h=S at hk1;have hfil:lp.filter (fun i=>decide (lo≤i))=lp:=wC.2 fun x hx=>by simpa using ((hlpm x).1 hx).1
  have hrun:∀s:Env×Heap,lp.foldlM (fun s i=>A2 C rec pc N ops S (nf3 C ops (AP ops) lo hi none) i s) s=((List.range hi).filter fun i=>decide (lo≤i)).foldlM (fun s i=>A2 C rec pc N ops S (nf3 C ops (AP ops) lo hi none) i s) s:=fun s=>by have:=KG (fun i s=>A2 C rec pc N ops S (nf3 C ops (AP ops) lo hi none) i s) (fun i=>decide (lo≤i)) lo hi lp hlpn hlpm hlo (fun i h=>by simpa using h) (hopen.imp_of_mem fun {x y} hx hy h hlt px py s=>hcom none S hso x y ((hlpm x).1 hx).2 ((hlpm y).1 hy).1 hlt (h hlt) s) s;rw [hfil] at this;exact this
  have hk2:CB C rec pc N ops S (nf3 C ops (AP ops) lo hi none) lp env h K=some r:=by rw [BL] at hk1 ⊢;rw [hrun];exact hk1
  refine DB hrec hpc ops S _ Q n ro rest lp hk2 hr fun env1 h1 κ1 a1 w1 k1 k2 k3 k4 k5 k6 => ?_;exact hcont env1 h1 κ1 a1 w1 k1 k2 k3 (fun i hni=>k4 i (hsub lp hlt i hni)) k5
theorem QF (k:Nat):∀(l:List Nat),(l.Pairwise fun x y=>¬(k≤x∧y<k))→l=(l.filter fun i=>decide (i<k))++l.filter fun i => !decide (i<k)
 |[],_=>rfl
 |x::l,h=>by
  obtain ⟨h1,h2⟩:=wM.1 h;by_cases hx:x<k
  ·rw [wB (by simpa using hx),wA (by simpa using hx),yY,← QF k l h2]
  ·have e:l.filter (fun i=>decide (i<k))=[]:=by rw [List.filter_eq_nil_iff];intro y hy;have:=h1 y hy;simp only [decide_eq_true_eq];omega
   have e2:l.filter (fun i => !decide (i<k))=l:=wC.2 fun y hy=>by have:=h1 y hy;simp;omega
   rw [wA (by simpa using hx),wB (by simpa using hx),e,e2,xR]
theorem VO {C:Cfg} {rec:Rec} {pc:BX} (hrec:EY C.P rec) (hpc:Cg C.P pc) {ops:Array Oper} {K:Env→Heap→Option R} {r:R} {m:Nat} (hff:EP (AP ops) ops.size m=true) (hle:m≤ops.size) (Q:Exit→Act→World→Prop) (n:Nat) (ro:Option Nat) :
  ∀(ks:List Nat) (lo:Nat) (l:List Nat) {env:Env} {h:Heap} {κ:BG} {a:Act} {w:World},Lm (AP ops) ops.size m ks lo=true→l.Nodup→(∀i,i∈l↔lo≤i∧i<ops.size)→
   (∀l1 x l2,l=l1++x::l2→∀y,lo≤y→((AP ops).getD x 0).testBit y=true→y∈l1)→
   Pc C rec pc N ops (AP ops) ks lo env h K=some r→Rel B N κ env h a w→
   (∀env1 h1 κ1 a1 w1,K env1 h1=some r→Rel B N κ1 env1 h1 a1 w1→Ext κ h w κ1 h1 w1→(∀i,i∉ops.toList.filterMap (·.dst)→env1 i=env i)→a1.defers=a.defers→wpOpsIn (Fr ro) n C.P ops Q (List.range' m (ops.size-m)) a1 w1)→
   wpOpsIn (Fr ro) n C.P ops Q l a w
 |[],lo,l,env,h,κ,a,w,hc,hn,hm,hord,hk,hr,hcont=>by
  unfold Lm at hc;have hlo:lo=m:=by simpa using hc
  subst hlo;have hmem:∀i,i∈List.range lo++l↔i<lo+(ops.size-lo):=fun i=>by rw [xK,xP,hm];omega
  have hnd:(List.range lo++l).Nodup:=by rw [xS];refine ⟨wK,hn,fun x hx y hy h => ?_⟩;have:=xP.1 hx;have:=(hm y).1 hy;omega
  obtain ⟨lp,hL,hlpn,hlpm⟩:=GM (n:=lo) (ops.size-lo) (List.range lo++l) hnd hmem (fun l1 x l2 e hx y hy=>by
   have hxs:x<ops.size:=by have:=(hmem x).1 (by rw [e];simp);omega
   have hxl:x∈l:=by
    have:x∈List.range lo++l:=by rw [e];simp
    rcases xK.1 this with h|h
    ·have:=xP.1 h;omega
    ·exact h
   obtain ⟨b1,b2,eb⟩:=yX hxl;have e3:List.range lo++l=(List.range lo++b1)++x::b2:=by rw [eb,zH]
   have e4:l1=List.range lo++b1:=by
    have hnx:∀{u1 u2 v1 v2:List Nat},(u1++x::u2).Nodup→u1++x::u2=v1++x::v2→u1=v1:=by
     intro u1
     induction u1 with
     |nil=>
      intro u2 v1 v2 hn he;cases v1 with
      |nil=>rfl
      |cons z v1=>
       simp only [xR,yY,List.cons.injEq] at he;obtain ⟨h1,h2⟩:=he;simp only [xR,xT] at hn;exact absurd (by rw [h2];simp) hn.1
     |cons z u1 ih=>
      intro u2 v1 v2 hn he;cases v1 with
      |nil=>
       simp only [xR,yY,List.cons.injEq] at he;obtain ⟨h1,h2⟩:=he;simp only [yY,xT] at hn;exact absurd (by rw [h1];simp) hn.1
      |cons z' v1=>
       simp only [yY,List.cons.injEq] at he;obtain ⟨h1,h2⟩:=he;simp only [yY,xT] at hn;rw [h1,ih hn.2 h2]
    rw [e] at hnd e3;exact hnx hnd e3
   rw [e4];by_cases hyl:y<lo
   ·exact xK.2 (.inl (xP.2 hyl))
   ·have h1:=(yV.1 hff) x (xP.2 hxs);have h2:(AP ops).getD x 0=2 ^ x-1:=by simp only [yT,decide_eq_true_eq,beq_iff_eq] at h1;exact h1.resolve_left (by omega)
    refine xK.2 (.inr (hord b1 x b2 eb y (by omega) ?_));rw [h2,Nat.testBit_two_pow_sub_one];simpa using hy)
  have hlen:lp.length=(List.range lo).length:=by
   have h1:=congrArg length hL;have h2:l.length=ops.size-lo:=by
    have h3:(List.range lo++l).length=ops.size:=by
     have hp:(List.range lo++l).Perm (List.range ops.size):=by refine (List.perm_ext_iff_of_nodup hnd wK).2 fun i => ?_;rw [hmem,xP];omega
     rw [hp.length_eq,wF]
    simp only [xE,wF] at h3;omega
   simp only [xE,wF,List.length_range'] at h1 ⊢;omega
  have hl:l=List.range' lo (ops.size-lo):=(List.append_inj hL hlen.symm).2;rw [hl];unfold Pc at hk;exact hcont env h κ a w hk hr (Ext.refl _ _ _) (fun _ _=>rfl) rfl
 |k::ks,lo,l,env,h,κ,a,w,hc,hn,hm,hord,hk,hr,hcont=>by
  unfold Lm at hc;simp only [zE,decide_eq_true_eq] at hc;obtain ⟨⟨hlk,hkm⟩,hcut,hc⟩:=hc;have hbit:∀x,k≤x→x<ops.size→∀y,y<k→((AP ops).getD x 0).testBit y=true:=fun x hx hxs y hy=>by unfold cutAt at hcut;have:=(yV.1 hcut) x (xP.2 hxs);simp only [yT,decide_eq_true_eq] at this;exact (yV.1 (this.resolve_left (by omega))) y (xP.2 hy)
  have hpw:l.Pairwise fun x y=>¬(k≤x∧y<k):=SH l fun l1 x l2 y e hy hh=>by have hx:=(hm x).1 (by rw [e];simp);have hyl:=(hm y).1 (by rw [e];simp [hy]);have hy1:=hord l1 x l2 e y hyl.1 (hbit x hh.1 hx.2 y hh.2);rw [e,xS] at hn;exact hn.2.2 y hy1 y (by simp [hy]) rfl
  have hsplit:=QF k l hpw;generalize hlp:(l.filter fun i=>decide (i<k))=lp at hsplit;generalize hlr:(l.filter fun i => !decide (i<k))=lr at hsplit;have hlpm:∀i,i∈lp↔lo≤i∧i<k:=fun i=>by rw [← hlp,wH,hm,decide_eq_true_eq];omega
  have hlrm:∀i,i∈lr↔k≤i∧i<ops.size:=fun i=>by rw [← hlr,wH,hm];simp;omega
  have hnn:=hn;rw [hsplit,xS] at hnn;rw [hsplit];unfold Pc at hk;refine seg_ok hrec hpc (by omega) (by omega) lp hnn.1 hlpm (SH lp fun l1 x l2 y e hy hlt2 hb => ?_) hk hr Q n ro lr fun env1 h1 κ1 a1 w1 k1 k2 k3 k4 k5 => ?_
  ·have hyl:=(hlpm y).1 (by rw [e];simp [hy]);have hy1:=hord l1 x (l2++lr) (by rw [hsplit,e];simp) y hyl.1 hb;have:=hnn.1;rw [e,xS] at this;exact this.2.2 y hy1 y (by simp [hy]) rfl
  ·refine VO hrec hpc hff hle Q n ro ks k lr hc hnn.2.1 hlrm (fun l1 x l2 e y hy hb => ?_) k1 k2 fun env2 h2 κ2 a2 w2 j1 j2 j3 j4 j5=>hcont env2 h2 κ2 a2 w2 j1 j2 (k3.trans j3) (fun i hi=>(j4 i hi).trans (k4 i hi)) (j5.trans k5);have hy1:=hord (lp++l1) x l2 (by rw [hsplit,e,zH]) y (by omega) hb;rcases xK.1 hy1 with h|h
   ·have:=(hlpm y).1 h;omega
   ·exact h
theorem NY {C:Cfg} {rec:Rec} {pc:BX} (hrec:EY C.P rec) (hpc:Cg C.P pc) (hmix:C.P.follows .mixedOrders=true) {id:Nat} {ops:Array Oper} {K:Env→Heap→Option R} {r:R} {m:Nat} {ks:List Nat}
  (hcs:Lm (AP ops) ops.size m ks 0=true) (hff:EP (AP ops) ops.size m=true) (hed:HA ops=true) (hle:m≤ops.size)
  (hk1:Pc C rec pc N ops (AP ops) ks 0 env h (fun env' h'=>En C rec pc N false ops (ops.toList.drop m) env' h' K)=some r)
  (hr:Rel B N κ env h a w) (Q:Exit→Act→World→Prop) (n:Nat) (ro:Option Nat)
  (hn:LD B N κ h w false ops.toList env a K r fun a' w'=>Q .normal a' w'):(Code.region id ops true).wpIn (Fr ro) n C.P Q a w:=by
 refine wpIn_region_draw fun t => ?_;have hsch:Region.schedule (C.P.follows .mixedOrders) ops t=Region.linearise .any ops t:=by simp only [Region.schedule,hmix,Bool.true_or,if_true]
 rw [hsch];obtain ⟨p1,p2,p3,p4⟩:=Hn hed (FY ops t) (fun i hi=>by cases hi);have hx0:=IN hr.heap;refine VO hrec hpc hff hle Q n ro ks 0 (Region.linearise .any ops t) hcs p1 (fun i => ?_) (fun l1 x l2 e y _ hb=>(p4 l1 x l2 e y hb).resolve_left (by simp)) hk1 (KM hr) fun env1 h1 κ1 a1 w1 k1 k2 k3 k4 k5 => ?_
 ·constructor
  ·intro hi;exact ⟨zero_le _,(p2 i hi).2⟩
  ·intro hi;exact (p3 i hi.2).resolve_left (by simp)
 ·have:=I8 hrec hpc ops Q n ro [] (ops.toList.drop m) (List.range' m (ops.size-m)) (by simp) (fun j i o hj ho=>by
   have hjl:j<ops.size-m:=by simpa using AS hj
   rw [List.getElem?_range' hjl] at hj;cases hj;rw [zN] at ho;simpa using ho) k1 k2 (fun env2 h2 κ2 a2 w2 j1 j2 j3 j4 j5 j6=>by
    refine hn env2 h2 κ2 a2 w2 j1 j2 ((hx0.trans k3).trans j3) (fun i hni => ?_) (j5.trans k5) (fun e=>by cases e);have hsub1:i∉(ops.toList.drop m).filterMap (·.dst):=fun hm=>hni (by rw [wI] at hm ⊢;obtain ⟨o,ho,hd⟩:=hm;exact ⟨o,xO ho,hd⟩)
    exact (j4 i hsub1).trans (k4 i hni))
  simpa using this
theorem Pe {C:Cfg} {rec:Rec} {pc:BX} (hrec:EY C.P rec) (hpc:Cg C.P pc) (hmix:C.P.follows .mixedOrders=true) {id:Nat} {ops:Array Oper} {draw:Bool} {K:Env→Heap→Option R} {r:R}
  (hk:Mp C rec pc N ops draw env h K=some r) (hr:Rel B N κ env h a w) (Q:Exit→Act→World→Prop) (n:Nat) (ro:Option Nat)
  (hn:LD B N κ h w false ops.toList env a K r fun a' w'=>Q .normal a' w'):(Code.region id ops draw).wpIn (Fr ro) n C.P Q a w:=by
 unfold Mp at hk
 try simp only [AB] at hk
 cases draw with
 |false=>
  simp only [zF,if_false] at hk;refine wpIn_region ?_;have:=I8 hrec hpc ops Q n ro [] ops.toList (List.range ops.size) (by simp) (fun j i o hj ho=>by
   have hjl:j<ops.size:=by simpa using AS hj
   rw [zR hjl] at hj;cases hj;simpa using ho) hk hr hn
  simpa using this
 |true=>
  simp only [if_true] at hk;split at hk
  ·rename_i i0 j0 heq0;obtain ⟨⟨hp,hff,hed,hle⟩,hk1⟩:=AD hk;obtain ⟨hA,hB⟩:=I6 hk1;exact NZ hrec hpc hmix hp hff hed hle hA hB hr Q n ro hn
  split at hk
  ·rename_i heqm;obtain ⟨⟨hcs,hff,hed,hle⟩,hk1⟩:=AD hk;exact NY hrec hpc hmix hcs hff hed hle hk1 hr Q n ro hn
  obtain ⟨⟨hdo,hff,hed,hle⟩,hk1⟩:=AD hk;clear hk;refine wpIn_region_draw fun t => ?_;have hsch:Region.schedule (C.P.follows .mixedOrders) ops t=Region.linearise .any ops t:=by simp only [Region.schedule,hmix,Bool.true_or,if_true]
  rw [hsch];generalize QD (AP ops) ops.size=m at *;generalize hS:looks C.P ops (A1 C ops (AP ops) m) m env h=S at *;clear hS;obtain ⟨p1,p2,p3,p4⟩:=Hn hed (FY ops t) (fun i hi=>by cases hi);obtain ⟨lp,hL,hlpn,hlpm⟩:=GM (n:=m) (ops.size-m) (Region.linearise .any ops t) p1 (fun i=>by
   constructor
   ·intro hi;have:=(p2 i hi).2;omega
   ·intro hi;exact (p3 i (by omega)).resolve_left (by simp)) (fun l1 x l2 e hx y hy=>by
    have hxs:x<ops.size:=(p2 x (by rw [e];simp)).2;have h1:=(yV.1 hff) x (xP.2 hxs);have h2:(AP ops).getD x 0=2 ^ x-1:=by simp only [yT,decide_eq_true_eq,beq_iff_eq] at h1;exact h1.resolve_left (by omega)
    refine (p4 l1 x l2 e y ?_).resolve_left (by simp);rw [h2,Nat.testBit_two_pow_sub_one];simpa using hy)
  rw [hL];let g:Nat→Oper:=fun i=>ops.getD i default;have hlt:∀i∈lp,i<ops.size:=fun i hi=>by have:=(hlpm i).1 hi;omega
  have hpair:∀x y,x<m→y<x→¬((AP ops).getD x 0).testBit y=true→
    (Bb C ops y&&Bb C ops x)=false∧(∀d,(g y).dst=some d→d∉(g x).looksAt ops)∧(∀d,(g y).dst=some d→(g x).dst≠some d)∧(∀d,(g x).dst=some d→d∉(g y).looksAt ops)∧
    (Bb C ops x=true→A1 C ops (AP ops) m y=true)∧(Bb C ops y=true→A1 C ops (AP ops) m x=true):=fun x y hx hlt2 h2=>by
   have h1:=(yV.1 ((yV.1 hdo) x (xP.2 hx))) y (xP.2 hlt2);have ex:=A6 (show x<ops.size by omega);have ey:=A6 (show y<ops.size by omega);rw [ex,ey] at h1;simp only [yT,zE,yS] at h1;obtain ⟨hnl,hap⟩:=h1.resolve_left h2;obtain ⟨q1,q2,q3⟩:=Oper.apart_spec hap;have hun:Ea (AP ops) x y=true:=by unfold Ea;rw [if_neg (by omega)];simpa using h2
   have hun':Ea (AP ops) y x=true:=by unfold Ea;rw [if_pos hlt2];simpa using h2
   refine ⟨hnl,q1,q2,q3,fun hlx => ?_,fun hly => ?_⟩
   ·unfold A1;refine xX.2 ⟨x,xP.2 hx,?_⟩;simp only [zE,bne_iff_ne];exact ⟨⟨hlx,by omega⟩,hun'⟩
   ·unfold A1;refine xX.2 ⟨y,xP.2 (by omega),?_⟩;simp only [zE,bne_iff_ne];exact ⟨⟨hly,by omega⟩,hun⟩
  have hopen:lp.Pairwise fun x y=>y<x→¬((AP ops).getD x 0).testBit y=true:=SH lp fun l1 x l2 y e hy hlt2 hb=>by have:=(p4 l1 x (l2++List.range' m (ops.size-m)) (by rw [hL,e];simp) y hb).resolve_left (by simp);rw [e,xS] at hlpn;exact hlpn.2.2 y this y (by simp [hy]) rfl
  have hcom:∀x y,x<m→y<x→¬((AP ops).getD x 0).testBit y=true→∀s:Env×Heap,(A2 C rec pc N ops S (A1 C ops (AP ops) m) x s).bind (A2 C rec pc N ops S (A1 C ops (AP ops) m) y)=(A2 C rec pc N ops S (A1 C ops (AP ops) m) y s).bind (A2 C rec pc N ops S (A1 C ops (AP ops) m) x):=fun x y hx hlt2 h2 s=>by
   obtain ⟨hnl,q1,q2,q3,n1,n2⟩:=hpair x y hx hlt2 h2;have ex:=A6 (show x<ops.size by omega);have ey:=A6 (show y<ops.size by omega);have lx:Bb C ops x=(An C (g x).op||Cv C (g x).op):=by unfold Bb;rw [ex]
   have ly:Bb C ops y=(An C (g y).op||Cv C (g y).op):=by unfold Bb;rw [ey]
   cases hlx:An C (g x).op with
   |true=>
    have hlx':Bb C ops x=true:=by rw [lx,hlx];rfl
    have hly:An C (g y).op=false:=by rw [hlx',Bool.and_true,ly,xW] at hnl;exact hnl.1
    exact EW C rec pc N ops S _ ex ey q3 (fun d hd hd2=>q2 d hd2 hd) q1 hlx hly (n1 hlx') s
   |false=>
    cases hly:An C (g y).op with
    |true=>exact (EW C rec pc N ops S _ ey ex q1 q2 q3 hly hlx (n2 (by rw [ly,hly];rfl)) s).symm
    |false=>exact (G2 C rec pc N ops S _ ey ex q1 q2 q3 hly hlx s).symm
  have hsub:∀(l:List Nat),(∀i∈l,i<ops.size)→∀i,i∉ops.toList.filterMap (·.dst)→i∉(l.map g).filterMap (·.dst):=fun l hl i hni hm=>hni (by rw [wI] at hm ⊢;obtain ⟨o,ho,hd⟩:=hm;obtain ⟨x,hx,rfl⟩:=wJ.1 ho;refine ⟨g x,?_,hd⟩;have:=A6 (hl x hx);exact xN (i:=x) (by rw [yQ];exact this))
  have hrest:∀env1 h1 κ1 a1 w1,En C rec pc N false ops (ops.toList.drop m) env1 h1 K=some r→Rel B N κ1 env1 h1 a1 w1→Ext κ h w κ1 h1 w1→(∀i,i∉ops.toList.filterMap (·.dst)→env1 i=env i)→a1.defers=a.defers→
    wpOpsIn (Fr ro) n C.P ops Q (List.range' m (ops.size-m)) a1 w1:=fun env1 h1 κ1 a1 w1 k1 k2 k3 k4 k5=>by
   have:=I8 hrec hpc ops Q n ro [] (ops.toList.drop m) (List.range' m (ops.size-m)) (by simp) (fun j i o hj ho=>by
    have hjl:j<ops.size-m:=by simpa using AS hj
    rw [List.getElem?_range' hjl] at hj;cases hj;rw [zN] at ho;simpa using ho) k1 k2 (fun env2 h2 κ2 a2 w2 j1 j2 j3 j4 j5 j6=>by
     refine hn env2 h2 κ2 a2 w2 j1 j2 (k3.trans j3) (fun i hni => ?_) (j5.trans k5) (fun e=>by cases e);have hsub1:i∉(ops.toList.drop m).filterMap (·.dst):=fun hm=>hni (by rw [wI] at hm ⊢;obtain ⟨o,ho,hd⟩:=hm;exact ⟨o,xO ho,hd⟩)
     exact (j4 i hsub1).trans (k4 i hni))
   simpa using this
  have hx0:=IN hr.heap;split at hk1
  ·
   rename_i m0 o heq;have hsel:m=m0+1∧ops[m0]? = some o∧Cv C o.op=true:=by
    split at heq
    ·rename_i k;split at heq
     ·rename_i o' ho';split at heq
      ·cases heq;exact ⟨rfl,ho',by assumption⟩
      ·cases heq
     ·cases heq
    ·cases heq
   obtain ⟨hm0,ho,hhc⟩:=hsel;have hgo:g m0=o:=by have h1:=A6 (show m0<ops.size by omega);rw [ho] at h1;exact (Option.some.inj h1).symm
   obtain ⟨l1,l2,e⟩:=yX ((hlpm m0).2 (by omega));have hn':=hlpn;rw [e,xS,xT] at hn';obtain ⟨n1,⟨n2,n3⟩,n4⟩:=hn';have hm2:∀i,i∈l1++l2↔i<m0:=fun i=>by
    constructor
    ·intro hi;have h5:=(hlpm i).1 (by rw [e];simp only [xK,xL];rcases xK.1 hi with h|h;exact .inl h;exact .inr (.inr h));have h6:i≠m0:=fun h=>by
      subst h;rcases xK.1 hi with h|h
      ·exact n4 i h i (by simp) rfl
      ·exact n2 h
     omega
    ·intro hi;have h5:=(hlpm i).2 (by omega);rw [e] at h5;simp only [xK,xL] at h5 ⊢;rcases h5 with h5|h5|h5
     ·exact .inl h5
     ·omega
     ·exact .inr h5
   have hpw:(l1++l2).Pairwise fun x y=>y<x→¬((AP ops).getD x 0).testBit y=true:=by refine hopen.sublist ?_;rw [e];exact List.Sublist.append (List.Sublist.refl _) (List.sublist_cons_self _ _)
   have hrun:∀s:Env×Heap,(l1++l2).foldlM (fun s i=>A2 C rec pc N ops S (A1 C ops (AP ops) m) i s) s=(List.range m0).foldlM (fun s i=>A2 C rec pc N ops S (A1 C ops (AP ops) m) i s) s:=fun s=>
    Gc (fun i s=>A2 C rec pc N ops S (A1 C ops (AP ops) m) i s) m0 (l1++l2) (xS.2 ⟨n1,n3,fun a ha b hb=>n4 a ha b (by simp [hb])⟩) hm2 (fun b1 x b2 y e2 hy hlt2 s=>
     hcom x y (by have:=(hm2 x).1 (by rw [e2];simp);omega) hlt2 (H4 hpw e2 hy hlt2) s) s
   have hk2:CB C rec pc N ops S (A1 C ops (AP ops) m) (l1++l2) env h (fun env' h'=>Sm C rec pc N S o env' h' fun env' h'=>En C rec pc N false ops (ops.toList.drop m) env' h' K)=some r:=by rw [BL] at hk1 ⊢;rw [hrun];exact hk1
   have hl2:∀y∈l2,y<m0:=fun y hy=>(hm2 y).1 (by simp [hy]);obtain ⟨hd,hg,hk3⟩:=Wu (fun _ _ _ K1 hE=>Up C rec pc hhc hE K1) (fun y hy=>by
    have hym:=hl2 y hy;have hno:=H4 hopen e hy hym;obtain ⟨hnl,q1,q2,q3,f1,f2⟩:=hpair m0 y (by omega) hym hno;have hlm:Bb C ops m0=true:=by unfold Bb;rw [ho];simp [hhc]
    have ey:=A6 (show y<ops.size by omega);rw [hgo] at q1 q2 q3;refine ⟨g y,ey,?_,f1 hlm,q3,fun d hd hd2=>q2 d hd2 hd,q1⟩;rw [hlm,Bool.and_true] at hnl;unfold Bb at hnl;rw [ey] at hnl;rw [xW] at hnl;exact hnl.1) hk2
   have hl1lt:∀i∈l1,i<ops.size:=fun i hi=>hlt i (by rw [e];simp [hi]);have hl2lt:∀i∈l2,i<ops.size:=fun i hi=>hlt i (by rw [e];simp [hi]);rw [e,zH];refine DB hrec hpc ops S _ Q n ro (m0::l2++List.range' m (ops.size-m)) l1 hk3 (KM hr) fun env1 h1 κ1 a1 w1 k1 k2 k3 k4 k5 k6 => ?_;simp only [yY,wpOpsIn,ho];have hgk:GY ops o env1 (fun env1=>Ae C rec pc false env1 h1 o.op fun v h'=>cnd (S.all (sameAt h1 h')=true) (CB C rec pc N ops S (A1 C ops (AP ops) m) l2 (env1.put o.dst v) h' fun env' h'=>En C rec pc N false ops (ops.toList.drop m) env' h' K) none) (fun _=>none)=some r:=by unfold GY;rw [hg];exact k1
   rcases IH hgk k2 with ⟨hw,hk4⟩|⟨hw,hk4⟩
   ·simp only [hw,if_true];refine KD hrec hpc o hk4 k2 _ Q n ro fun v h' κ' val w' g1 g2 g3 g4 g5 => ?_;simp only [AB] at g1;obtain ⟨_,g1⟩:=AD g1;refine DB hrec hpc ops S _ Q n ro (List.range' m (ops.size-m)) l2 g1 (Fm k2 g3 g4 g2 o hd) fun env2 h2 κ2 a2 w2 j1 j2 j3 j4 j5 j6 => ?_;have hpd:∀val,(a1.put o.dst val).defers=a1.defers:=fun val=>by cases o.dst<;>rfl
    refine hrest env2 h2 κ2 a2 w2 j1 j2 (((hx0.trans k3).trans g4).trans j3) (fun i hni => ?_) ((j5.trans (hpd _)).trans k5);refine (j4 i (hsub l2 hl2lt i hni)).trans (Eq.trans ?_ (k4 i (hsub l1 hl1lt i hni)));refine C5 fun d hd' e'=>hni ?_;subst e';rw [wI];exact ⟨o,xN (i:=m0) (by rw [yQ];exact ho),hd'⟩
   ·cases hk4
  ·have hrun:∀s:Env×Heap,lp.foldlM (fun s i=>A2 C rec pc N ops S (A1 C ops (AP ops) m) i s) s=(List.range m).foldlM (fun s i=>A2 C rec pc N ops S (A1 C ops (AP ops) m) i s) s:=fun s=>
    Gc (fun i s=>A2 C rec pc N ops S (A1 C ops (AP ops) m) i s) m lp hlpn hlpm (fun b1 x b2 y e2 hy hlt2 s=>
     hcom x y ((hlpm x).1 (by rw [e2];simp)) hlt2 (H4 hopen e2 hy hlt2) s) s
   have hk2:CB C rec pc N ops S (A1 C ops (AP ops) m) lp env h (fun env' h'=>En C rec pc N false ops (ops.toList.drop m) env' h' K)=some r:=by rw [BL] at hk1 ⊢;rw [hrun];exact hk1
   refine DB hrec hpc ops S _ Q n ro (List.range' m (ops.size-m)) lp hk2 (KM hr) fun env1 h1 κ1 a1 w1 k1 k2 k3 k4 k5 k6 => ?_;exact hrest env1 h1 κ1 a1 w1 k1 k2 (hx0.trans k3) (fun i hni=>k4 i (hsub lp hlt i hni)) k5
end Ab
namespace Ab
open Go
variable {R:Type} {P:Program} {B:Nat→Prop} {κ:BG} {h:Heap} {w:World} {N:Nat} {env:Env} {a:Act} {ro:Option Nat} {base:Nat}
def mark (r:Nat):Deferred:={target :=.collected r,args := #[]}
def Marks (base:Nat) (κ:BG) (h:Heap) (w:World) (ds:List Deferred):Prop:=
 ∃rs:List Nat,ds=rs.map mark∧rs.Nodup∧∀r∈rs,base≤r∧w.heap[r]? = some (.deferred (some []))∧¬Ex κ h r
def LC (ro:Option Nat) (κ:BG) (h:Heap):Prop:=∀b,ro=some b→∃(i d:Nat) (l:Dg),κ[i]? = some (some (b,d))∧h[i]? = some (.loop l)
structure St (B:Nat→Prop) (N:Nat) (ro:Option Nat) (base:Nat) (κ:BG) (env:Env) (h:Heap) (a:Act) (w:World):Prop where
 rel:Rel B N κ env h a w
 marks:Marks base κ h w a.defers
 round:LC ro κ h
 bsz:base≤w.heap.size
theorem Marks.ext {κ':BG} {h':Heap} {w':World} (x:Ext κ h w κ' h' w') {ds:List Deferred} (hm:Marks base κ h w ds):Marks base κ' h' w' ds:=by
 obtain ⟨rs,h1,h2,h3⟩:=hm;refine ⟨rs,h1,h2,fun r hr => ?_⟩;obtain ⟨h4,h5,h6⟩:=h3 r hr;have hlt:=Dx h5;refine ⟨h4,(x.keep r hlt h6).trans h5,fun he => ?_⟩;rcases x.ex r he with y|y
 ·exact h6 y
 ·omega
theorem LC.ext {κ':BG} {h':Heap} {w':World} (x:Ext κ h w κ' h' w') (hm:LC ro κ h):LC ro κ' h':=by
 intro b hb;obtain ⟨i,d,l,h1,h2⟩:=hm b hb;obtain ⟨o',h3,h4⟩:=x.obj i _ h2;have hk:=h4.1;cases o' with
 |loop l'=>exact ⟨i,d,l',(x.kap i _ _ h2 h3 rfl).trans h1,h3⟩
 |box cs=>simp [AF.kind] at hk
 |row a b c d=>simp [AF.kind] at hk
 |mapo a b c=>simp [AF.kind] at hk
theorem St.next (hs:St B N ro base κ env h a w) {κ':BG} {env':Env} {h':Heap} {a':Act} {w':World} (hr:Rel B N κ' env' h' a' w') (x:Ext κ h w κ' h' w') (hd:a'.defers=a.defers):St B N ro base κ' env' h' a' w':=
 ⟨hr,by rw [hd];exact hs.marks.ext x,hs.round.ext x,yF hs.bsz x.size⟩
def JJ (B:Nat→Prop) (N:Nat) (ro:Option Nat) (base:Nat) (κ:BG) (env:Env) (h:Heap) (w:World) (W:List Tmp) (K:Exit→Env→Heap→Option R) (r:R) (e:Exit) (a':Act) (w':World):Prop:=
 ∃env' h' κ',K e env' h'=some r∧St B N ro base κ' env' h' a' w'∧Ext κ h w κ' h' w'∧∀i,i∉W→env' i=env i
theorem OF:∀(L:List Tmp) (i:Tmp) (k j:Nat),findIdx i L k=some j→∃m,j=k+m∧L[m]? = some i
 |[],i,k,j,h=>by simp [findIdx] at h
 |x::L,i,k,j,h=>by
  simp only [findIdx] at h;split at h
  ·rename_i e;cases h;exact ⟨0,rfl,by simp [e]⟩
  ·obtain ⟨m,h1,h2⟩:=OF L i (k+1) j h;exact ⟨m+1,by omega,by simpa using h2⟩
theorem Vd {tm:Tmp→AV} {env0:Env} {h0:Heap} {κ0:BG} {w0:World} {a0:Act} {L W:List Tmp} {K:List AV→Heap→Option R} {r:R} (hk:HV tm env0 h0 L env h K=some r) (hs0:Rel B N κ0 env0 h0 a0 w0) (hr:Rel B N κ env h a w) (x:Ext κ0 h0 w0 κ h w)
  (hW:∀i,i∉W→env i=env0 i) :
  ∃s hs,K s hs=some r∧Rel B N (κ.take h0.length) (DZ tm W L env0 s) (CR h0 0 hs) a w∧Ext κ0 h0 w0 (κ.take h0.length) (CR h0 0 hs) w∧(∀i,i∉W→DZ tm W L env0 s i=env0 i)∧∀b,Ex (κ.take h0.length) (CR h0 0 hs) b→Ex κ h b:=by
 unfold HV at hk
 try simp only [AB] at hk
 obtain ⟨hL,hk1⟩:=AD hk;obtain ⟨hs,hk2,hun,hbe⟩:=WA hk1 (P6 x);have hLi:∀(m:Nat) (i:Tmp),L[m]? = some i→below 4 h0.length (env i)=true∧NK (WC tm env0 i) (env i)=true:=fun m i hm=>by have:=FL hL hm;simpa using this
 have hget:∀(i:Tmp) (k:Nat),findIdx i L 0=some k→H2 (WC tm env0 i) ((L.map env).getD k .undef)=env i∧below 4 h0.length (env i)=true:=fun i k hf=>by
  obtain ⟨m,rfl,hm⟩:=OF L i 0 k hf;have h1:(L.map env).getD (0+m) .undef=env i:=by simp [List.getD,hm]
  rw [h1];exact ⟨SE (hLi m i hm).2,(hLi m i hm).1⟩
 refine ⟨_,hs,hk2,⟨?_,hr.size,fun i => ?_⟩,?_,fun i hi => ?_,fun b hb => ?_⟩
 ·rw [hun];exact hr.heap.Ec hbe
 ·rw [hun];unfold DZ;cases hf:findIdx i L 0 with
  |some k=>
   obtain ⟨h1,h2⟩:=hget i k hf;simp only [h1];exact (hr.slot i).Ec (EU 4 h2)
  |none=>
   dsimp only;split
   ·exact .undef _
   ·rename_i hc;have hni:i∉W:=fun hm=>hc (by simpa using hm);rw [← hW i hni];refine (hr.slot i).Ec ?_;rw [hW i hni];exact (hs0.slot i).refs
 ·rw [hun];exact x.Ec (yE _)
 ·unfold DZ;cases hf:findIdx i L 0 with
  |some k=>
   obtain ⟨h1,_⟩:=hget i k hf;simp only [h1];exact hW i hi
  |none=>
   dsimp only;rw [if_neg (by simpa using hi)]
 ·rw [hun] at hb;exact hb.take
theorem Marks.less {κ':BG} {h':Heap} (hx:∀b,Ex κ' h' b→Ex κ h b) {ds:List Deferred} (hm:Marks base κ h w ds):Marks base κ' h' w ds:=by obtain ⟨rs,h1,h2,h3⟩:=hm;exact ⟨rs,h1,h2,fun r hr=>⟨(h3 r hr).1,(h3 r hr).2.1,fun he=>(h3 r hr).2.2 (hx r he)⟩⟩
theorem KS {tm:Tmp→AV} {env0:Env} {h0:Heap} {κ0:BG} {w0:World} {a0:Act} {L W:List Tmp} {K:List AV→Heap→Option R} {r:R} (hk:HV tm env0 h0 L env h K=some r) (hs0:St B N ro base κ0 env0 h0 a0 w0) (hr:St B N ro base κ env h a w) (x:Ext κ0 h0 w0 κ h w)
  (hW:∀i,i∉W→env i=env0 i) :
  ∃s hs,K s hs=some r∧St B N ro base (κ.take h0.length) (DZ tm W L env0 s) (CR h0 0 hs) a w∧Ext κ0 h0 w0 (κ.take h0.length) (CR h0 0 hs) w∧∀i,i∉W→DZ tm W L env0 s i=env0 i:=by
 obtain ⟨s,hs,k1,k2,k3,k4,k5⟩:=Vd hk hs0.rel hr.rel x hW;exact ⟨s,hs,k1,⟨k2,hr.marks.less k5,hs0.round.ext k3,hr.bsz⟩,k3,k4⟩
theorem Ez {hi:Hints} {W:List Tmp}:∀{L:List Tmp} {env:Env} {h:Heap} {κ:BG} {K:Env→Heap→Option R} {r:R},GI hi L env h K=some r→Rel B N κ env h a w→(∀i∈L,i∈W)→
  ∃env' h' κ',K env' h'=some r∧Rel B N κ' env' h' a w∧Ext κ h w κ' h' w∧∀i,i∉W→env' i=env i
 |[],env,h,κ,K,r,hk,hr,hL=>⟨env,h,κ,hk,hr,Ext.refl _ _ _,fun _ _=>rfl⟩
 |i::L,env,h,κ,K,r,hk,hr,hL=>by
  simp only [GI] at hk;split at hk
  ·rename_i hn;have hh:=hr.heap;have hv:=hr.slot i;rw [hn] at hv;obtain ⟨a0,hval⟩:∃a0,a.tmps.getD i undef = .slice a0 0 0:=by generalize a.tmps.getD i undef=u at hv;cases hv with|nilsl a0=>exact ⟨a0,rfl⟩
   split at hk
   ·have hr1:Rel B N κ (env.put (some i) (.t (.sl (hi.rowsz i) []))) h a w:=by
     refine ⟨hh,hr.size,fun j => ?_⟩;simp only [Env.put];by_cases hj:j=i
     ·rw [if_pos hj,hj,hval];exact .t _ _ (.nil _ _ _)
     ·rw [if_neg hj];exact hr.slot j
    obtain ⟨env',h',κ',k1,k2,k3,k4⟩:=Ez (W:=W) hk hr1 fun j hj=>hL j (by simp [hj]);refine ⟨env',h',κ',k1,k2,k3,fun j hj => ?_⟩;rw [k4 j hj];simp only [Env.put];rw [if_neg fun e=>hj (hL j (by simp [e]))]
   generalize hi.rowsz i=z0 at hk;have x1:Ext κ h w (κ++[none]) (h++[.row false 0 z0 []]) w:=B9 hh rfl rfl rfl (yE _) (fun _ _=>rfl) (fun b base e=>by cases e);have hh1:=Bj hh (fun _ _=>rfl) x1 (fun b base e=>by cases e) (show HI B (κ++[none]) (h++[.row false 0 z0 []]) w none (.row false 0 z0 []) from rfl);have hr1:Rel B N (κ++[none]) (env.put (some i) (.sref h.length 0 0 0)) (h++[.row false 0 z0 []]) a w:=by
    refine ⟨hh1,hr.size,fun j => ?_⟩;simp only [Env.put];by_cases hj:j=i
    ·rw [if_pos hj,hj,hval];exact Cc (by rw [← hh.len];exact Ao κ _) (Ao h _)
    ·rw [if_neg hj];exact (hr.slot j).ext x1
   obtain ⟨env',h',κ',k1,k2,k3,k4⟩:=Ez (W:=W) hk hr1 fun j hj=>hL j (by simp [hj]);refine ⟨env',h',κ',k1,k2,x1.trans k3,fun j hj => ?_⟩;rw [k4 j hj];simp only [Env.put];rw [if_neg fun e=>hj (hL j (by simp [e]))]
  ·exact Ez hk hr fun j hj=>hL j (by simp [hj])
theorem Jl {W L:List Tmp}:∀i∈L.filter (fun i=>W.contains i),i∈W:=fun i hi=>by simpa using (wH.1 hi).2
end Ab
namespace Ab
open Go
variable {R:Type} {B:Nat→Prop} {κ:BG} {h:Heap} {w:World} {N:Nat} {env:Env} {a:Act} {ro:Option Nat} {base:Nat}
theorem JJ.of {W W':List Tmp} {K:Exit→Env→Heap→Option R} {r:R} {e:Exit} {a':Act} {w':World} {κ1:BG} {env1:Env} {h1:Heap} {w1:World} (x:Ext κ h w κ1 h1 w1) (hW:∀i,i∉W→env1 i=env i) (hsub:∀i,i∉W→i∉W')
  (hp:JJ B N ro base κ1 env1 h1 w1 W' K r e a' w'):JJ B N ro base κ env h w W K r e a' w':=by
 obtain ⟨env',h',κ',k1,k2,k3,k4⟩:=hp;exact ⟨env',h',κ',k1,k2,x.trans k3,fun i hi=>(k4 i (hsub i hi)).trans (hW i hi)⟩
def WI (C:Cfg) (fn:FuncId) (N:Nat) (rec:Rec):Prop:=∀{R:Type} (B:Nat→Prop) (ro:Option Nat) (base n:Nat) (f:Operand) (params:Array Tmp) (assign body:Code) (env:Env) (h:Heap) (K:Exit→Env→Heap→Option R) (r:R) (κ:BG) (a:Act) (w:World),
 (match ev env f with
  | .func (.func g) first captured=>if enters C.P g=false then none else
   rec R (.fn g (first++[.yld h.length]++captured)) (h++[.loop {fn,size:=N,env,params:=params.toList,assign,body,busy:=false,pending:=none,ended:=false,hl:=h.length}]) fun _ h1=>
    (UQ h1 h.length).bind fun j=>if (((h1.take h.length).all (H8 h.length))=true) then (match j with
     |none=>K .normal env (h1.take h.length)
     |some c=>(Ua c).bind fun e=>K e env (h1.take h.length)) else none
  |_=>none)=some r→St B N ro base κ env h a w→(Code.rangeFunc f params assign body).wpIn (Fr ro) n C.P (JJ B N ro base κ env h w [] K r) a w
theorem Oh {C:Cfg} {hi:Hints} {fn:FuncId} {rec:Rec} {pc:BX} {fuel:Nat} (hrec:EY C.P rec) (hpc:Cg C.P pc) (hmix:C.P.follows .mixedOrders=true) (hrange:WI C fn N rec) (n:Nat) :
  ∀(c:Code) {env:Env} {h:Heap} {K:Exit→Env→Heap→Option R} {r:R} {κ:BG} {a:Act} {w:World},DT C hi fn N rec pc fuel c env h K=some r→St B N ro base κ env h a w→
   c.wpIn (Fr ro) n C.P (JJ B N ro base κ env h w (writes c) K r) a w:=by
 intro c
 induction c with
 |skip=>intro env h K r κ a w hk hs;exact wpIn_skip ⟨env,h,κ,hk,hs,Ext.refl _ _ _,fun _ _=>rfl⟩
 |label l=>intro env h K r κ a w hk hs;exact wpIn_label ⟨env,h,κ,hk,hs,Ext.refl _ _ _,fun _ _=>rfl⟩
 |ret=>intro env h K r κ a w hk hs;exact wpIn_ret ⟨env,h,κ,hk,hs,Ext.refl _ _ _,fun _ _=>rfl⟩
 |exit id=>intro env h K r κ a w hk hs;exact wpIn_exit ⟨env,h,κ,hk,hs,Ext.refl _ _ _,fun _ _=>rfl⟩
 |goto l=>intro env h K r κ a w hk hs;simp [DT] at hk
 |refuse why=>intro env h K r κ a w hk hs;simp [DT] at hk
 |scope c _=>intro env h K r κ a w hk hs;simp [DT] at hk
 |region id ops draw=>
  intro env h K r κ a w hk hs;simp only [DT] at hk;obtain ⟨hf,xf⟩:=Fq ((hi.pre id).map env) hs.rel.heap;have hs0:St B N ro base κ env (AX h ((hi.pre id).map env)) a w:=hs.next ⟨hf,hs.rel.size,fun i=>(hs.rel.slot i).ext xf⟩ xf rfl;split at hk
  ·unfold join at hk;refine Pe hrec hpc hmix hk hs0.rel _ n ro fun env' h' κ' a' w' k1 k2 k3 k4 k5 k6 => ?_;obtain ⟨s,hs',k7,k8,k9,k10,_⟩:=Vd (W:=dsts ops) k1 hs.rel k2 (xf.trans k3) k4;exact ⟨_,_,_,k7,hs.next k8 k9 k5,k9,k10⟩
  ·refine Pe hrec hpc hmix hk hs0.rel _ n ro fun env' h' κ' a' w' k1 k2 k3 k4 k5 k6 => ?_;exact ⟨env',h',κ',k1,hs0.next k2 k3 k5,xf.trans k3,k4⟩
 |seq x y ihx ihy=>
  intro env h K r κ a w hk hs;simp only [DT] at hk;refine wpIn_seq (wpIn_mono (ihx hk hs) ?_);intro e a' w' hp;obtain ⟨env',h',κ',k1,k2,k3,k4⟩:=hp;cases e with
  |normal=>
   show y.wpIn (Fr ro) n C.P _ a' w';refine wpIn_mono (ihy k1 k2) fun e2 a2 w2 hp2 => ?_;exact JJ.of k3 (fun i hni=>k4 i fun hm=>hni (by simp [writes,hm])) (fun i hni hm=>hni (by simp [writes,hm])) hp2
  |exit id=>exact ⟨env',h',κ',k1,k2,k3,fun i hni=>k4 i fun hm=>hni (by simp [writes,hm])⟩
  |goto l=>exact ⟨env',h',κ',k1,k2,k3,fun i hni=>k4 i fun hm=>hni (by simp [writes,hm])⟩
  |ret=>exact ⟨env',h',κ',k1,k2,k3,fun i hni=>k4 i fun hm=>hni (by simp [writes,hm])⟩
  |panic ch=>exact ⟨env',h',κ',k1,k2,k3,fun i hni=>k4 i fun hm=>hni (by simp [writes,hm])⟩
  |outgrown=>exact ⟨env',h',κ',k1,k2,k3,fun i hni=>k4 i fun hm=>hni (by simp [writes,hm])⟩
 |cond c x y ihx ihy=>
  intro env h K r κ a w hk hs;simp only [DT,AB] at hk;obtain ⟨t,ht,hk1⟩:=bind_some hk;have hcv:=E8 ht (BR hs.rel c);refine wpIn_cond hcv ?_;split at hk1
  ·cases t with
   |true=>exact wpIn_mono (ihx hk1 hs) fun e a' w' hp=>JJ.of (Ext.refl _ _ _) (fun _ _=>rfl) (fun i hni hm=>hni (by simp [writes,hm])) hp
   |false=>cases hk1
  split at hk1
  ·cases t with
   |true=>cases hk1
   |false=>exact wpIn_mono (ihy hk1 hs) fun e a' w' hp=>JJ.of (Ext.refl _ _ _) (fun _ _=>rfl) (fun i hni hm=>hni (by simp [writes,hm])) hp
  split at hk1
  ·obtain ⟨env1,h1,κ1,k1,k2,k3,k4⟩:=Ez (W:=writes x++writes y) hk1 hs.rel Jl;have hs1:St B N ro base κ1 env1 h1 a w:=hs.next k2 k3 rfl;unfold join at k1;have fin:∀(z:Code) (hz:∀i,i∈writes z→i∈writes x++writes y),z.wpIn (Fr ro) n C.P (JJ B N ro base κ1 env1 h1 w (writes z) (fun e env' h'=>match e with
      | .normal=>HV hi.tm env1 h1 (hi.cond (EK c)) env' h' fun s hs=>K .normal (DZ hi.tm (writes x++writes y) (hi.cond (EK c)) env1 s) (CR h1 0 hs)
      |e=>K e env' h') r) a w→z.wpIn (Fr ro) n C.P (JJ B N ro base κ env h w (writes (.cond c x y)) K r) a w:=by
    intro z hz hw;refine wpIn_mono hw fun e a' w' hp => ?_;obtain ⟨env',h',κ',j1,j2,j3,j4⟩:=hp;have j4':∀i,i∉writes x++writes y→env' i=env1 i:=fun i hni=>j4 i fun hm=>hni (hz i hm);cases e with
    |normal=>
     obtain ⟨s,hs',k7,k8,k9,k10⟩:=KS (W:=writes x++writes y) j1 hs1 j2 j3 j4';exact ⟨_,_,_,k7,k8,k3.trans k9,fun i hni=>(k10 i hni).trans (k4 i hni)⟩
    |exit id=>exact ⟨env',h',κ',j1,j2,k3.trans j3,fun i hni=>(j4' i hni).trans (k4 i hni)⟩
    |goto l=>exact ⟨env',h',κ',j1,j2,k3.trans j3,fun i hni=>(j4' i hni).trans (k4 i hni)⟩
    |ret=>exact ⟨env',h',κ',j1,j2,k3.trans j3,fun i hni=>(j4' i hni).trans (k4 i hni)⟩
    |panic ch=>exact ⟨env',h',κ',j1,j2,k3.trans j3,fun i hni=>(j4' i hni).trans (k4 i hni)⟩
    |outgrown=>exact ⟨env',h',κ',j1,j2,k3.trans j3,fun i hni=>(j4' i hni).trans (k4 i hni)⟩
   cases t with
   |true=>exact fin x (fun i hm=>by simp [hm]) (ihx k1 hs1)
   |false=>exact fin y (fun i hm=>by simp [hm]) (ihy k1 hs1)
  ·cases t with
   |true=>exact wpIn_mono (ihx hk1 hs) fun e a' w' hp=>JJ.of (Ext.refl _ _ _) (fun _ _=>rfl) (fun i hni hm=>hni (by simp [writes,hm])) hp
   |false=>exact wpIn_mono (ihy hk1 hs) fun e a' w' hp=>JJ.of (Ext.refl _ _ _) (fun _ _=>rfl) (fun i hni hm=>hni (by simp [writes,hm])) hp
 |block id x ih=>
  intro env h K r κ a w hk hs;simp only [DT] at hk;refine wpIn_block ?_;generalize (if MQ x=true then 1 else 0)=one at hk;split at hk
  ·refine wpIn_mono (ih hk hs) fun e a' w' hp => ?_;obtain ⟨env',h',κ',j1,j2,j3,j4⟩:=hp;cases e with
   |exit id'=>
    simp only [Exit.inBlock];dsimp only at j1;split at j1
    ·rename_i he;rw [if_pos he];exact ⟨env',h',κ',j1,j2,j3,j4⟩
    ·rename_i he;rw [if_neg he];exact ⟨env',h',κ',j1,j2,j3,j4⟩
   |normal=>exact ⟨env',h',κ',j1,j2,j3,j4⟩
   |goto l=>exact ⟨env',h',κ',j1,j2,j3,j4⟩
   |ret=>exact ⟨env',h',κ',j1,j2,j3,j4⟩
   |panic ch=>exact ⟨env',h',κ',j1,j2,j3,j4⟩
   |outgrown=>exact ⟨env',h',κ',j1,j2,j3,j4⟩
  ·obtain ⟨env1,h1,κ1,k1,k2,k3,k4⟩:=Ez (W:=writes x) hk hs.rel Jl;have hs1:St B N ro base κ1 env1 h1 a w:=hs.next k2 k3 rfl;unfold join at k1;refine wpIn_mono (ih k1 hs1) fun e a' w' hp => ?_;obtain ⟨env',h',κ',j1,j2,j3,j4⟩:=hp;have k5:∀i,i∉writes x→env' i=env i:=fun i hni=>(j4 i hni).trans (k4 i hni);cases e with
   |exit id'=>
    simp only [Exit.inBlock];dsimp only at j1;split at j1
    ·rename_i he;rw [if_pos he];obtain ⟨s,hs',k7,k8,k9,k10⟩:=KS (W:=writes x) j1 hs1 j2 j3 j4;exact ⟨_,_,_,k7,k8,k3.trans k9,fun i hni=>(k10 i hni).trans (k4 i hni)⟩
    ·rename_i he;rw [if_neg he];exact ⟨env',h',κ',j1,j2,k3.trans j3,k5⟩
   |normal=>
    obtain ⟨s,hs',k7,k8,k9,k10⟩:=KS (W:=writes x) j1 hs1 j2 j3 j4;exact ⟨_,_,_,k7,k8,k3.trans k9,fun i hni=>(k10 i hni).trans (k4 i hni)⟩
   |goto l=>exact ⟨env',h',κ',j1,j2,k3.trans j3,k5⟩
   |ret=>exact ⟨env',h',κ',j1,j2,k3.trans j3,k5⟩
   |panic ch=>exact ⟨env',h',κ',j1,j2,k3.trans j3,k5⟩
   |outgrown=>exact ⟨env',h',κ',j1,j2,k3.trans j3,k5⟩
 |loop x ih=>
  intro env h K r κ a w hk hs;simp only [DT] at hk;obtain ⟨env1,h1,κ1,k1,k2,k3,k4⟩:=Ez (W:=writes x) hk hs.rel Jl;have hs1:St B N ro base κ1 env1 h1 a w:=hs.next k2 k3 rfl;obtain ⟨s,hs',k7,k8,k9,k10⟩:=KS (W:=writes x) k1 hs1 hs1 (Ext.refl _ _ _) (fun _ _=>rfl);refine wpIn_loop_rounds fuel ?_
  revert k7 k8 k9 k10
  generalize κ1.take h1.length=κ2;have key:∀(m:Nat) (s:List AV) (hs':Heap) (κ2:BG) (a2:Act) (w2:World),AH (fun (p:List AV×Heap) again=>DT C hi fn N rec pc fuel x (DZ hi.tm (writes x) (hi.loop (C9 x)) env1 p.1) (CR h1 0 p.2) fun e env' h'=>match e with
    | .normal=>HV hi.tm env1 h1 (hi.loop (C9 x)) env' h' fun s hs=>again (s,hs)
    |e=>K e env' h') m (s,hs')=some r→St B N ro base κ2 (DZ hi.tm (writes x) (hi.loop (C9 x)) env1 s) (CR h1 0 hs') a2 w2→Ext κ1 h1 w κ2 (CR h1 0 hs') w2→
    (∀i,i∉writes x→DZ hi.tm (writes x) (hi.loop (C9 x)) env1 s i=env1 i)→Code.roundsIn (Fr ro) n C.P x (JJ B N ro base κ env h w (writes x) K r) m a2 w2:=by
   intro m
   induction m with
   |zero=>intro s hs' κ2 a2 w2 q1 q2 q3 q4;simp [AH] at q1
   |succ m ihm=>
    intro s hs' κ2 a2 w2 q1 q2 q3 q4;simp only [AH] at q1;show x.wpIn (Fr ro) n C.P (Exit.then (Code.roundsIn (Fr ro) n C.P x (JJ B N ro base κ env h w (writes x) K r) m) (JJ B N ro base κ env h w (writes x) K r)) a2 w2;refine wpIn_mono (ih q1 q2) fun e a' w' hp => ?_;obtain ⟨env',h',κ',j1,j2,j3,j4⟩:=hp;have j4':∀i,i∉writes x→env' i=env1 i:=fun i hni=>(j4 i hni).trans (q4 i hni);have k5:∀i,i∉writes x→env' i=env i:=fun i hni=>(j4' i hni).trans (k4 i hni);cases e with
    |normal=>
     obtain ⟨s3,hs3,k7,k8,k9,k10⟩:=KS (W:=writes x) j1 hs1 j2 (q3.trans j3) j4';exact ihm s3 hs3 _ a' w' k7 k8 k9 k10
    |exit id'=>exact ⟨env',h',κ',j1,j2,k3.trans (q3.trans j3),k5⟩
    |goto l=>exact ⟨env',h',κ',j1,j2,k3.trans (q3.trans j3),k5⟩
    |ret=>exact ⟨env',h',κ',j1,j2,k3.trans (q3.trans j3),k5⟩
    |panic ch=>exact ⟨env',h',κ',j1,j2,k3.trans (q3.trans j3),k5⟩
    |outgrown=>exact ⟨env',h',κ',j1,j2,k3.trans (q3.trans j3),k5⟩
  exact fun k7 k8 k9 k10=>key fuel s hs' κ2 a w k7 k8 k9 k10
 |rangeFunc f params assign body _ _=>
  intro env h K r κ a w hk hs;simp only [DT,AB] at hk;exact hrange B ro base n f params assign body env h K r κ a w hk hs
end Ab
namespace Ab
open Go
variable {R:Type} {B:Nat→Prop} {κ:BG} {h:Heap} {w:World} {N:Nat} {env:Env} {a:Act} {ro:Option Nat} {base:Nat}
theorem Ws (hr:Rel B N κ env h a w) {w1:World} {l d:Nat} {fn f:FuncId} {params:Array Tmp} {assign body:Code} {LR:Dg} (hLR:LR={fn,size:=N,env,params:=params.toList,assign,body,busy:=false,pending:=none,ended:=false,hl:=h.length}) (h1:w1.os=w.os) (h2:w1.tape=w.tape) (h3:w1.output=w.output) (h4:w.heap.size≤w1.heap.size)
  (h5:∀b,b<w.heap.size→w1.heap[b]? = w.heap[b]?) (hl:w.heap.size≤l) (hl1:l<w1.heap.size) (hld:d≠l) (hd:w1.heap[d]? = some (.deferred (some []))) (hnd:¬Ex κ h d)
  (hlo:w1.heap[l]? = some (.loop {state :=.ready,pending:=none,fn:=f,tmps:=a.tmps,params,assign,body,defers:=d})) :
  Ap B (κ++[some (l,d)]) (h++[.loop LR]) w1∧
  Ext κ h w (κ++[some (l,d)]) (h++[.loop LR]) w1:=by
 have x:Ext κ h w (κ++[some (l,d)]) (h++[.loop LR]) w1:=
  B9 hr.heap h1 h2 h3 h4 h5 (fun b bs e=>by cases e;exact hl)
 refine ⟨Bj hr.heap h5 x (fun b bs e=>by cases e;exact ⟨hl,hl1⟩) ?_,x⟩;subst hLR;refine ⟨f,a.tmps,?_,hr.size,fun i=>(hr.slot i).ext x,fun i=>(hr.slot i).refs,hd,?_⟩
 ·simpa using hlo
 ·rintro ⟨i,bs,o,k1,k2,k3⟩
  rcases Ca κ _ i k1 with ⟨_,k1⟩|⟨rfl,e⟩
  ·rcases Ca h _ i k2 with ⟨_,k2⟩|⟨rfl,e⟩
   ·exact hnd ⟨i,bs,o,k1,k2,k3⟩
   ·have:=AS k1;rw [hr.heap.len] at this;omega
  ·cases e;exact hld rfl
theorem Nt (hh:Ap B κ h w) {i b d:Nat} {l l':Dg} (hi:h[i]? = some (.loop l)) (hk:κ[i]? = some (some (b,d))) (hrec:(AF.loop l').rec? = (AF.loop l).rec?) :
  ∃(f:FuncId) (tmps:Array Value) (r:Loop),w.heap[b]? = some (.loop r)∧r={state:=if l.ended then .exhausted else if l.busy then .busy else if l.pending.isSome then .done else .ready,pending:=l.pending,fn:=f,tmps,params:=l.params.toArray,assign:=l.assign,body:=l.body,defers:=d}∧
   tmps.size=l.size∧(∀j,AO B κ h w (l.env j) (tmps.getD j undef))∧w.heap[d]? = some (.deferred (some []))∧
   ∀(o:Obj),o = .loop {r with state:=if l'.ended then .exhausted else if l'.busy then .busy else if l'.pending.isSome then .done else .ready,pending:=l'.pending}→
    Ap B κ (h.set i (.loop l')) (w.putObj b o)∧Ext κ h w κ (h.set i (.loop l')) (w.putObj b o):=by
 have ho:=hh.obj i _ _ hi hk;obtain ⟨f,tmps,h1,h2,h3,h4,h5,h6⟩:=ho;refine ⟨f,tmps,_,h1,rfl,h2,h3,h5,?_⟩;intro o ho;have hlt:=Dx h1;have hset:κ.set i (some (b,d))=κ:=by
  apply zJ;intro j;by_cases hij:j=i
  ·rw [hij,A5 hk,hk]
  ·rw [DI hij]
 have hne:∀b',b'<w.heap.size→(∀bs,(some (b,d):Option (Nat×Nat))≠some (b',bs))→(w.putObj b o).heap[b']? = w.heap[b']? :=fun b' _ hn=>World.putObj_heap_other fun e=>hn d (by rw [e]);have x:Ext κ h w κ (h.set i (.loop l')) (w.putObj b o):=by
  have x':Ext κ h w (κ.set i (some (b,d))) (h.set i (.loop l')) (w.putObj b o):=
   DH (o :=.loop l) (o' :=.loop l') (k:=some (b,d)) hh hi rfl ⟨rfl,yE _,fun _=>⟨rfl,rfl⟩,fun e=>(by cases e),fun e=>(by cases e),hrec⟩ hk rfl rfl rfl (by simp) hne (fun b' bs e =>.inl ⟨bs,e⟩)
    (fun _=>⟨rfl,fun b' bs e cells elem fr hc=>by cases e;rw [World.putObj_heap_same hlt] at hc;rw [ho] at hc;cases hc⟩)
  rw [hset] at x';exact x'
 refine ⟨?_,x⟩;have hbd:d≠b:=fun e=>by rw [e] at h5;rw [h1] at h5;cases h5
 have hre:=hrec;simp only [AF.rec?,Option.some.injEq] at hre;have hr1:l'.size=l.size:=by have:=congrArg Dg.size hre;exact this
 have hr2:l'.env=l.env:=by have:=congrArg Dg.env hre;exact this
 have hr3:l'.params=l.params:=by have:=congrArg Dg.params hre;exact this
 have hr4:l'.assign=l.assign:=by have:=congrArg Dg.assign hre;exact this
 have hr5:l'.body=l.body:=by have:=congrArg Dg.body hre;exact this
 have hr6:l'.hl=l.hl:=by have:=congrArg Dg.hl hre;exact this
 have hh':Ap B (κ.set i (some (b,d))) (h.set i (.loop l')) (w.putObj b o):=
  CZ hh hi hk hne (fun b' bs e=>⟨.inl ⟨bs,e⟩,by cases e;simpa using hlt⟩) (by rw [hset];exact x) (by
   rw [hset];refine ⟨f,tmps,?_,h2.trans hr1.symm,fun j=>by rw [hr2];exact (h3 j).ext x,fun j=>by rw [hr2,hr6];exact h4 j,(World.putObj_heap_other hbd).trans h5,fun he => ?_⟩
   ·rw [World.putObj_heap_same hlt,ho,hr3,hr4,hr5]
   ·rcases x.ex d he with y|y
    ·exact h6 y
    ·have:=Dx h5;omega)
 rw [hset] at hh';exact hh'
theorem take_set {α:Type} {l:List α} {m i:Nat} {x:α} (hi:m≤i):(l.set i x).take m=l.take m:=by
 apply zJ;intro j;rcases yH j m with hj|hj
 ·rw [zT hj,zT hj,DI (by omega)]
 ·simp [zS,not_lt.2 hj]
theorem Ke:∀{xs ys:List Nat},xs.map mark=ys.map mark→xs=ys
 |[],[],_=>rfl
 |[],y::ys,h=>by simp at h
 |x::xs,[],h=>by simp at h
 |x::xs,y::ys,h=>by
  simp only [map_cons,List.cons.injEq] at h;have h1:x=y:=by have:=congrArg Deferred.target h.1;simpa [mark] using this
  rw [h1,Ke h.2]
theorem Nd {C:Cfg} {fn:FuncId} {rec:Rec} (hrec:EY C.P rec):WI C fn N rec:=by
 intro R B ro base n f params assign body env h K r κ a w hk hs;split at hk
 ·rename_i g first captured hfv
  split at hk
  ·cases hk
  ·rename_i hent;have hent':enters C.P g=true:=by simpa using hent
   obtain ⟨LR,hLR⟩:∃LR:Dg,LR={fn,size:=N,env,params:=params.toList,assign,body,busy:=false,pending:=none,ended:=false,hl:=h.length}:=⟨_,rfl⟩
   rw [← hLR] at hk;have hcall:=hrec _ _ _ _ _ hk;dsimp only at hcall;have hval:=BR hs.rel f;rw [hfv] at hval;generalize hav:a.eval f=fv at hval;cases hval with
   |func _ _ _ fs cs q1 q2 q3 q4=>
    have go:∀(fn0:FuncId) (l d:Nat) (mk:List Deferred) (w1:World),(Instr.enterLoop fn0 a.tmps params assign body ro).run C.P w = .ok (l,mk) w1→w1.os=w.os→w1.tape=w.tape→w1.output=w.output→w.heap.size≤w1.heap.size→
      (∀b,b<w.heap.size→w1.heap[b]? = w.heap[b]?)→w.heap.size≤l→l<w1.heap.size→d≠l→w1.heap[d]? = some (.deferred (some []))→¬Ex κ h d→
      w1.heap[l]? = some (.loop {state :=.ready,pending:=none,fn:=fn0,tmps:=a.tmps,params,assign,body,defers:=d})→
      (∀κ4 h4 w4,Ext κ h w κ4 h4 w4→w4.heap[d]? = some (.deferred (some []))→¬Ex κ4 h4 d→Marks base κ4 h4 w4 (mk++a.defers))→
      ∃(l:Nat) (mark:List Deferred) (w₁:World) (d:Deferred) (w₁':World) (f':FuncId) (args:Array Value) (w₂:World),
       (Instr.enterLoop fn0 a.tmps params assign body (Fr ro).round).run C.P w = .ok (l,mark) w₁∧
       (resolve a.eval (rangeCall f l) 0).run C.P w₁ = .ok d w₁'∧
       (∀f',Target.leads C.P w₁' d.target d.args=some f'→(Fr ro).fn f')∧
       (invoke d.target d.args).run C.P w₁' = .ok (.enter f' args) w₂∧
       ((Fr ro).depth.isSome=true→1≤n)∧
       CallsIn (Fr ro) (n-1) C.P f' args w₂ (rangePost (Fr ro) n C.P l (JJ B N ro base κ env h w [] K r) {a with defers:=mark++a.defers}):=by
     intro fn0 l d mk w1 he o1 o2 o3 o4 o5 o6 o7 o8 o9 o10 o11 hmarks;obtain ⟨hh1,x1⟩:=Ws hs.rel hLR o1 o2 o3 o4 o5 o6 o7 o8 o9 o10 o11;have hyl:AO B (κ++[some (l,d)]) (h++[.loop LR]) w1 (.yld h.length) (.func (.yield l) #[] #[]):=
      .yld _ l d (by rw [← hs.rel.heap.len];exact Ao κ _) ⟨_,Ao h _⟩
     have hc:AY B (κ++[some (l,d)]) (h++[.loop LR]) w1 (first++[.yld h.length]++captured) (fs ++ #[.func (.yield l) #[] #[]]++cs):=
      EL (EL ⟨q1,fun j x hx=>(q3 j x hx).ext x1⟩ ⟨rfl,fun j x hx=>by
       cases j with
       |zero=>cases hx;exact hyl
       |succ j=>simp at hx⟩) ⟨q2,fun j x hx=>(q4 j x hx).ext x1⟩
     have hcl:=hcall B _ w1 _ (n-1) hh1 hc;refine ⟨l,mk,w1,{target :=.fn (.func g) cs,args:=fs ++ #[.func (.yield l) #[] #[]]},w1,g,fs ++ #[.func (.yield l) #[] #[]]++cs,w1,he,?_,fun _ _=>trivial,?_,fun e=>(by simp [Fr] at e),?_⟩
     ·have e1:a.eval (.const (.func (.yield l) #[] #[]))= .func (.yield l) #[] #[]:=rfl;simp [resolve,hav,e1,Deferred.ofValue]
     ·simp [invoke,G0 hent']
     ·refine (CallsIn.fr hcl).mono ?_
      rintro e w3 ⟨v,rv,κ3,rs,h2,rfl,hK,hm,hv,hh3,x3⟩
      obtain ⟨j,hj,hk2⟩:=bind_some hK;unfold UQ at hj;split at hj
      ·rename_i l2 hl2;split at hj
       ·cases hj
       ·rename_i hbe;simp only [yT,not_or,Bool.not_eq_true] at hbe;cases hj;obtain ⟨k3,k1⟩:=AD hk2;have hk3:κ3[h.length]? = some (some (l,d)):=(x3.kap h.length _ _ (Ao h _) hl2 rfl).trans (by rw [← hs.rel.heap.len];exact Ao κ _);obtain ⟨f3,tmps3,r3,g1,g2,g3,g4,g5,g6⟩:=Nt (l':={l2 with ended:=true}) hh3 hl2 hk3 rfl;have hst:r3.state ≠ .busy:=by rw [g2,hbe.1,hbe.2];simp only [zF,if_false];split<;>simp
        have hpe:r3.pending=l2.pending:=by rw [g2]
        obtain ⟨hh4,x4⟩:=g6 (.loop {r3 with state :=.exhausted}) (by rw [g2];simp);have x5:=(x1.trans x3).trans x4;have htk:(h2.set h.length (.loop {l2 with ended:=true})).take h.length=h2.take h.length:=take_set (yE _);have x6:=x5.Ec (m:=h.length) (yE _);rw [htk] at x6;have hh6:=hh4.Ec (m:=h.length) (by rw [htk];exact k3);rw [htk] at hh6;have hlo4:=hh4.obj h.length _ _ (A5 hl2) hk3;obtain ⟨_,_,_,_,_,_,d1,d2⟩:=hlo4;have hst6:St B N ro base (κ3.take h.length) env (h2.take h.length) {a with defers:=mk++a.defers} (w3.putObj l (.loop {r3 with state :=.exhausted})):=by
         refine ⟨⟨hh6,hs.rel.size,fun i => ?_⟩,hmarks _ _ _ x6 d1 fun he=>d2 ?_,hs.round.ext x6,yF hs.bsz x6.size⟩
         ·have:=((hs.rel.slot i).ext x5).Ec (m:=h.length) (hs.rel.slot i).refs;rw [htk] at this;exact this
         ·rw [← htk] at he;exact he.take
        refine ⟨l2.pending,w3.putObj l (.loop {r3 with state :=.exhausted}),(run_endLoop g1 hst).trans (congrArg (fun z=>Result.ok z (w3.putObj l (.loop {r3 with state :=.exhausted}))) hpe),?_⟩;cases hpd:l2.pending with
        |none=>
         rw [hpd] at k1;exact ⟨_,_,_,k1,hst6,x6,fun _ _=>rfl⟩
        |some c=>
         rw [hpd] at k1;obtain ⟨e,he2,k1⟩:=bind_some k1;cases c<;>simp only [Ua] at he2<;>first|cases he2|skip
         ·exact wpIn_exit ⟨_,_,_,k1,hst6,x6,fun _ _=>rfl⟩
         ·exact wpIn_ret ⟨_,_,_,k1,hst6,x6,fun _ _=>rfl⟩
      ·cases hj
    refine wpIn_rangeFunc fun fn0 _ => ?_;cases ro with
    |none=>
     refine go fn0 (w.heap.size+1) w.heap.size _ _ (run_enterLoop_outer fn0 a.tmps params assign body) rfl rfl rfl (by simp [World.size_alloc];omega) (fun b hb => ?_) (by omega) (by simp [World.size_alloc]) (by omega) ?_ ?_ ?_ ?_
     ·rw [Av _ _ (by simp;omega),Av _ _ hb]
     ·rw [Av _ _ (by simp)];exact World.alloc_heap_new _ _
     ·rintro ⟨i,bs,o,y1,y2,y3⟩
      have:=hs.rel.heap.lt i _ _ y1;omega
     ·have:=World.alloc_heap_new (w.alloc (.deferred (some []))) (.loop {state :=.ready,pending:=none,fn:=fn0,tmps:=a.tmps,params:=params,assign:=assign,body:=body,defers:=w.heap.size});rw [World.size_alloc] at this;exact this
     ·intro κ4 h4 w4 x y1 y2;obtain ⟨rs4,z1,z2,z3⟩:=hs.marks.ext x;obtain ⟨rs5,z4,z5,z6⟩:=hs.marks;refine ⟨w.heap.size::rs5,by rw [z4];rfl,?_,fun q hq => ?_⟩
      ·refine xT.2 ⟨fun hm => ?_,z5⟩;have:=Dx (z6 _ hm).2.1;omega
      ·rcases xL.1 hq with rfl|hq
       ·exact ⟨hs.bsz,y1,y2⟩
       ·have e:rs5=rs4:=by have e1:rs5.map mark=rs4.map mark:=z4.symm.trans z1;exact Ke e1
        rw [e] at hq;exact z3 q hq
    |some b0=>
     obtain ⟨i,d,l0,r1,r2⟩:=hs.round b0 rfl;obtain ⟨f0,t0,e1,e2,e3,e4,e5,e6⟩:=hs.rel.heap.obj i _ _ r2 r1;refine go fn0 w.heap.size d _ _ (run_enterLoop_inner e1 fn0 a.tmps params assign body) rfl rfl rfl (by simp [World.size_alloc]) (fun b hb => ?_) (yE _) (by simp [World.size_alloc]) ?_ ?_ e6 ?_ ?_
     ·exact Av _ _ hb
     ·have:=Dx e5;omega
     ·rw [Av _ _ (Dx e5)];exact e5
     ·exact World.alloc_heap_new _ _
     ·intro κ4 h4 w4 x _ _;exact hs.marks.ext x
 ·cases hk
end Ab
namespace Ab
open Go
variable {R:Type} {P:Program} {B:Nat→Prop} {κ:BG} {h:Heap} {w:World} {N:Nat} {env:Env} {a:Act} {ro:Option Nat} {base:Nat}
theorem Ph:∀(ps:List Tmp) (args:List AV) (us:List Value) (env:Env) (tmps:Array Value),args.length=ps.length→us.length=ps.length→(∀t∈ps,t<tmps.size)→(∀j x,args[j]? = some x→AO B κ h w x (us.getD j undef))→
  (∀i,AO B κ h w (env i) (tmps.getD i undef))→((ps.zip us).foldl (fun (tmps:Array Value) (p:Tmp×Value)=>tmps.setIfInBounds p.1 p.2) tmps).size=tmps.size∧∀i,AO B κ h w (Nh env ps args i) (((ps.zip us).foldl (fun (tmps:Array Value) (p:Tmp×Value)=>tmps.setIfInBounds p.1 p.2) tmps).getD i undef)
 |[],[],[],env,tmps,_,_,_,_,hv=>⟨rfl,hv⟩
 |[],x::args,us,env,tmps,h1,_,_,_,_=>by simp at h1
 |[],[],u::us,env,tmps,_,h2,_,_,_=>by simp at h2
 |p::ps,[],us,env,tmps,h1,_,_,_,_=>by simp at h1
 |p::ps,x::args,[],env,tmps,_,h2,_,_,_=>by simp at h2
 |p::ps,x::args,u::us,env,tmps,h1,h2,hlt,ha,hv=>by
  have hp:p<tmps.size:=hlt p (by simp);obtain ⟨e1,e2⟩:=Ph ps args us (env.put (some p) x) (tmps.setIfInBounds p u) (by simpa using h1) (by simpa using h2) (fun t ht=>by simpa using hlt t (by simp [ht]))
   (fun j y hy=>by simpa using ha (j+1) y (by simpa using hy)) (fun i=>by
    simp only [Env.put];by_cases hi:i=p
    ·subst hi;rw [if_pos rfl];have:(tmps.setIfInBounds i u).getD i undef=u:=by simp [Array.getD,hp]
     rw [this];simpa using ha 0 x rfl
    ·rw [if_neg hi];have:(tmps.setIfInBounds p u).getD i undef=tmps.getD i undef:=by simp only [Array.getD_eq_getD_getElem?];rw [Array.getElem?_setIfInBounds_ne (Ne.symm hi)]
     rw [this];exact hv i)
  refine ⟨by simpa using e1,fun i => ?_⟩;simpa [Nh] using e2 i
theorem NM {i:Nat} {l:Dg} (hi:h[i]? = some (.loop l)) (bz:Bool) (pd:Option Code):Gz h i bz pd=h.set i (.loop {l with busy:=bz,pending:=pd}):=by unfold Gz;rw [hi]
theorem Pn {i:Nat} (ho:Qw h i=true):∃l,h[i]? = some (.loop l)∧l.ended=false:=by
 unfold Qw at ho;split at ho
 ·rename_i l hl;exact ⟨l,hl,by simpa using ho⟩
 ·cases ho
theorem T8 {i:Nat} (ho:Qr h i=true):∃l,h[i]? = some (.loop l)∧l.ended=false∧l.busy=false∧l.pending=none:=by
 unfold Qr at ho;split at ho
 ·rename_i l hl;simp only [zE,yS,Option.isNone_iff_eq_none] at ho;exact ⟨l,hl,ho.1.1,ho.1.2,ho.2⟩
 ·cases ho
theorem Ll {i b d:Nat} (hh:Ap B κ h w) (ho:Qw h i=true) (hk:κ[i]? = some (some (b,d))) (jump:Option Code) :
  ∃w',(Instr.endRound b jump).run P w = .ok (.bool jump.isNone) w'∧Ap B κ (Gz h i false jump) w'∧Ext κ h w κ (Gz h i false jump) w':=by
 obtain ⟨l,hl,he⟩:=Pn ho;obtain ⟨f3,tmps3,r3,g1,g2,g3,g4,g5,g6⟩:=Nt (l':={l with busy:=false,pending:=jump}) hh hl hk rfl;obtain ⟨hh4,x4⟩:=g6 (.loop {r3 with state:=if jump.isNone then .ready else .done,pending:=jump}) (by cases jump<;>simp [he])
 rw [NM hl];exact ⟨_,run_endRound jump g1,hh4,x4⟩
theorem YE {C:Cfg} {rec:Rec} {pc:BX} (hrec:EY C.P rec) (hpc:Cg C.P pc) (hmix:C.P.follows .mixedOrders=true) {m i:Nat} {args:List AV} {K:List AV→Heap→Option R} {res:R} (hk:NT C rec pc m i args h K=some res):WE C.P i args h K res:=by
 intro B κ w vs b d n hh hc hki;unfold NT at hk
 try simp only [AB] at hk
 split at hk
 ·rename_i l hi;obtain ⟨⟨hb,he,hp,hal,hpl⟩,hk1⟩:=AD hk;obtain ⟨f,tmps,h1,h2,h3,h4,h5,h6⟩:=hh.obj i _ _ hi hki;have hpn:l.pending=none:=by simpa using hp
  have h1':w.heap[b]? = some (.loop {state :=.ready,pending:=none,fn:=f,tmps,params:=l.params.toArray,assign:=l.assign,body:=l.body,defers:=d}):=by rw [h1,he,hb,hpn];rfl
  have hsz:vs.size=l.params.length:=hc.1.trans hal;have hfold:(l.params.toArray.zip vs).foldl (fun tmps (t,a)=>tmps.setIfInBounds t a) tmps=(l.params.zip vs.toList).foldl (fun (tmps:Array Value) (p:Tmp×Value)=>tmps.setIfInBounds p.1 p.2) tmps:=by obtain ⟨us⟩:=vs;have e:l.params.toArray.zip ({toList:=us}:Array Value)=(l.params.zip us).toArray:=List.zip_toArray ..;rw [e];simp
  obtain ⟨p1,p2⟩:=Ph l.params args vs.toList l.env tmps hal (by simpa using hsz) (fun t ht=>by
    rw [h2];have:=yV.1 hpl t ht;simpa using this) (fun j x hx=>by
    have:=hc.2 j x hx;rw [← toArray_toList (xs:=vs),Bt] at this;exact this) h3
  refine ⟨f,_,l.assign,l.body,run_yield h1' (by simpa using hsz),?_⟩;rw [hfold];refine roundIn_of_wpIn trivial ?_;have hs:St B l.size (some b) w.heap.size κ (Nh l.env l.params args) h {tmps:=(l.params.zip vs.toList).foldl (fun (tmps:Array Value) (p:Tmp×Value)=>tmps.setIfInBounds p.1 p.2) tmps,defers:=[]} w:=
   ⟨⟨hh,p1.trans h2,p2⟩,⟨[],rfl,nodup_nil,fun r hr=>by simp at hr⟩,fun b' hb'=>by cases hb';exact ⟨i,d,l,hki,hi⟩,yE _⟩
  refine wpIn_mono (Oh (C:=C.at l.fn) hrec hpc hmix (Nd hrec) n l.assign hk1 hs) fun e a1 w1 hp1 => ?_;obtain ⟨env1,ha,κ1,j1,j2,j3,j4⟩:=hp1;cases e with
  |normal=>
   dsimp only at j1;obtain ⟨hrd,j1⟩:=AD j1;obtain ⟨l1,hl1,r1,r2,r3⟩:=T8 hrd;have hk1':κ1[i]? = some (some (b,d)):=(j3.kap i _ _ hi hl1 rfl).trans hki;obtain ⟨f3,tmps3,rr,g1,g2,g3,g4,g5,g6⟩:=Nt (l':={l1 with busy:=true,pending:=none}) j2.rel.heap hl1 hk1' rfl;obtain ⟨hh4,x4⟩:=g6 (.loop {rr with state :=.busy}) (by rw [g2];simp [r1,r3]);rw [NM hl1] at j1;refine ⟨_,run_beginRound g1 (by rw [g2];simp [r1,r2,r3]),?_⟩;have hs4:St B l.size (some b) w.heap.size κ1 env1 (ha.set i (.loop {l1 with busy:=true,pending:=none})) a1 (w1.putObj b (.loop {rr with state :=.busy})):=
    j2.next ⟨hh4,j2.rel.size,fun j=>(j2.rel.slot j).ext x4⟩ x4 rfl
   refine wpIn_mono (Oh (C:=C.at l.fn) hrec hpc hmix (Nd hrec) n l.body j1 hs4) fun e a2 w2 hp2 => ?_;obtain ⟨env2,hb2,κ2,q1,q2,q3,q4⟩:=hp2;obtain ⟨hop,q1⟩:=AD q1;obtain ⟨l5,hl5,_⟩:=Pn hop;have hk2':κ2[i]? = some (some (b,d)):=(q3.kap i _ _ (A5 hl1) hl5 rfl).trans hk1';cases e with
   |normal=>
    obtain ⟨w6,e1,e2,e3⟩:=Ll (P:=C.P) q2.rel.heap hop hk2' none;exact ⟨_,w6,e1,_,κ2,_,_,rfl,q1,.t _ _ (.bool _),e2,((j3.trans x4).trans q3).trans e3⟩
   |ret=>
    obtain ⟨w6,e1,e2,e3⟩:=Ll (P:=C.P) q2.rel.heap hop hk2' (some .ret);exact ⟨_,w6,e1,_,κ2,_,_,rfl,q1,.t _ _ (.bool _),e2,((j3.trans x4).trans q3).trans e3⟩
   |exit id=>
    obtain ⟨w6,e1,e2,e3⟩:=Ll (P:=C.P) q2.rel.heap hop hk2' (some (.exit id));exact ⟨_,w6,e1,_,κ2,_,_,rfl,q1,.t _ _ (.bool _),e2,((j3.trans x4).trans q3).trans e3⟩
   |goto t=>cases q1
   |panic ch=>cases q1
   |outgrown=>cases q1
  |exit id=>cases j1
  |goto t=>cases j1
  |ret=>cases j1
  |panic ch=>cases j1
  |outgrown=>cases j1
 ·cases hk
structure MD (w w':World):Prop where
 size:w'.heap.size=w.heap.size
 blk:∀(b:Nat) cells elem fr,w'.heap[b]? = some (.cells cells elem fr)↔w.heap[b]? = some (.cells cells elem fr)
 mp:∀(b:Nat) es clock,w.heap[b]? = some (.map es clock)→w'.heap[b]? = some (.map es clock)
theorem MD.cell {w':World} (c:MD w w') (x:Addr):w'.cell? x=w.cell? x:=by
 unfold World.cell?;cases h1:w'.heap[x.block]? with
 |none=>
  cases h2:w.heap[x.block]? with
  |none=>rfl
  |some o=>
   cases o with
   |cells cs e f=>rw [(c.blk _ cs e f).2 h2] at h1;cases h1
   |_=>rfl
 |some o=>
  cases o with
  |cells cs e f=>rw [(c.blk _ cs e f).1 h1]
  |_=>
   cases h2:w.heap[x.block]? with
   |none=>rfl
   |some o'=>
    cases o' with
    |cells cs e f=>rw [(c.blk _ cs e f).2 h2] at h1;cases h1
    |_=>rfl
theorem Bv.Jq {w':World} (c:MD w w') {A:Nat→Prop} {x:Tree} {v:Value} (hx:Bv w A x v):Bv w' A x v:=by
 induction hx with
 |int k n=>exact .int k n
 |bool b=>exact .bool b
 |str s=>exact .str s
 |const v h=>exact .const v h
 |mp k m b es clock h1 h2 h3 h4=>exact .mp k m b es clock (by rw [c.size];exact h1) h2 (c.mp _ _ _ h3) h4
 |nil size cap a=>exact .nil size cap a
 |sl size es b off cap u h1 h2 h3 h4 h5 _ ih=>exact .sl size es b off cap u h1 (by rw [c.size];exact h2) h3 h4 (fun j e cc x he hx=>(c.cell _).trans (h5 j e cc x he hx)) ih
theorem AO.Jq {w':World} (c:MD w w') {x:AV} {v:Value} (hx:AO B κ h w x v):AO B κ h w' x v:=by
 induction hx with
 |undef v=>exact .undef v
 |t y v ht=>exact .t y v (ht.Jq c)
 |nilsl a=>exact .nilsl a
 |ptr i off b base hk hb=>exact .ptr _ _ _ _ hk hb
 |rptr i ver k off v h1 hex hv=>exact .rptr _ _ _ _ _ h1 hex hv
 |eptr size cells off b base u h1 h2 h3 h4 h5=>exact .eptr _ _ _ _ _ u h1 (by rw [c.size];exact h2) h3 (fun j y hy=>(c.cell _).trans (h4 j y hy)) fun j y hy=>(h5 j y hy).Jq c
 |sref i ver off len v h1 hex hs=>
  refine .sref _ _ _ _ _ h1 hex fun k o hk ho he => ?_;obtain ⟨e1,e2,e3⟩:=hs k o hk ho he;refine ⟨e1,e2,?_⟩;rcases e3 with e3|⟨b,bs,rfl,cap,f1,f2,f3⟩
  ·exact .inl e3
  ·exact .inr ⟨b,bs,rfl,cap,f1,f2,fun cells elem fr hc=>f3 cells elem fr ((c.blk _ _ _ _).1 hc)⟩
 |bsl i off len size cap b hk hb hl=>exact .bsl _ _ _ _ _ _ hk hb hl
 |yld i b base hk hb=>exact .yld _ _ _ hk hb
 |mref i b hk hb=>exact .mref _ _ hk hb
 |func fn first captured fs cs h1 h2 _ _ i1 i2=>exact .func _ _ _ _ _ h1 h2 i1 i2
 |agg xs vs h1 _ ih=>exact .agg _ _ h1 ih
 |tuple xs vs h1 _ ih=>exact .tuple _ _ h1 ih
def Uy (κ:BG) (h:Heap) (r:Nat):Prop:=∀(i b d:Nat) (l:Dg),κ[i]? = some (some (b,d))→h[i]? = some (.loop l)→d≠r
theorem Hl {r:Nat} {x:Option (List Deferred)} {y:Option (List Deferred)} (hr:w.heap[r]? = some (.deferred x)):MD w (w.putObj r (.deferred y)):=by
 refine ⟨by simp,fun b cells elem fr => ?_,fun b es clock h => ?_⟩;rotate_left
 ·by_cases hb:b=r
  ·subst hb;rw [hr] at h;cases h
  ·rw [World.putObj_heap_other hb];exact h
 by_cases hb:b=r
 ·subst hb;rw [World.putObj_heap_same (Dx hr),hr];simp
 ·rw [World.putObj_heap_other hb]
theorem WY {r:Nat} {x y:Option (List Deferred)} (hh:Ap B κ h w) (hr:w.heap[r]? = some (.deferred x)) (hn:Uy κ h r):Ap B κ h (w.putObj r (.deferred y)):=by
 have c:MD w (w.putObj r (.deferred y)):=Hl hr;refine ⟨hh.len,hh.inj,hh.notB,fun i b bs hi=>by rw [c.size];exact hh.lt i b bs hi,fun b hb=>by rw [c.size];exact hh.ltB b hb,fun i o k ho hk => ?_⟩;have hob:=hh.obj i o k ho hk;cases k with
 |none=>cases o<;>exact hob
 |some p=>
  obtain ⟨b,bs⟩:=p;cases o with
  |box cs=>
   obtain ⟨h0,cells,elem,hc,hs,hv⟩:=hob;exact ⟨h0,cells,elem,(c.blk _ _ _ _).2 hc,hs,fun j y hy=>(hv j y hy).Jq c⟩
  |row f v s es=>
   obtain ⟨hz,cells,elem,fr,hc,hth,hs,hl,hv⟩:=hob;exact ⟨hz,cells,elem,fr,(c.blk _ _ _ _).2 hc,hth,hs,hl,fun j e cc y he hy=>(hv j e cc y he hy).Jq c⟩
  |mapo k ke es=>
   obtain ⟨h0,en,clock,hc,hs⟩:=hob;exact ⟨h0,en,clock,c.mp _ _ _ hc,hs⟩
  |loop l=>
   obtain ⟨f,tmps,hc,hs,hv,hrf,hd,hnx⟩:=hob;have hbr:b≠r:=fun e=>by rw [e,hr] at hc;cases hc
   have hdr:bs≠r:=hn i b bs l hk ho;exact ⟨f,tmps,(World.putObj_heap_other hbr).trans hc,hs,fun j=>(hv j).Jq c,hrf,(World.putObj_heap_other hdr).trans hd,hnx⟩
theorem X2 {κ':BG} {h':Heap} {w':World} {r:Nat} {x y:Option (List Deferred)} (e:Ext κ h w κ' h' w') (hr:w'.heap[r]? = some (.deferred x)) (hb:w.heap.size≤r):Ext κ h w κ' h' (w'.putObj r (.deferred y)) where
 os:=e.os
 tape:=e.tape
 output:=e.output
 size:=by simpa using e.size
 keep:=fun b hlt hn=>(World.putObj_heap_other (by omega)).trans (e.keep b hlt hn)
 ex:=e.ex
 obj:=e.obj
 kap:=e.kap
 cells:=fun i o o' ho ho' hv b bs hk cells elem fr hc=>e.cells i o o' ho ho' hv b bs hk cells elem fr (((Hl (y:=y) hr).blk _ _ _ _).1 hc)
end Ab
namespace Ab
open Go
variable {R:Type} {P:Program} {B:Nat→Prop} {κ:BG} {h:Heap} {w:World} {N:Nat} {env:Env} {a:Act} {ro:Option Nat} {base:Nat}
def YL (tmps:Array Value):ResultVar→Sem Value
 | .tmp t=>pure (tmps.getD t undef)
 | .cell a t=>do loadVar t (← asAddr (tmps.getD a undef))
theorem T5 (fn:Func) (tmps:Array Value):results fn tmps=(do let vs ← fn.results.mapM (YL tmps);pure (LU vs)):=rfl
theorem UN {t:TypeId} {v val:Value} (hl:(Instr.loadAt t v).run P w = .ok val w):(do loadVar t (← asAddr v):Sem Value).run P w = .ok val w:=by
 unfold Instr.loadAt at hl;cases v with
 |pointer p=>
  cases p with
  |some x=>exact hl
  |none=>simp [Instr.sureAddr] at hl
 |_=>simp [Instr.sureAddr] at hl
theorem T6 (hr:Rel B N κ env h a w):∀{rv:List ResultVar} {K:List AV→Option R} {r:R},T7 P env h rv K=some r→
  ∃(avs:List AV) (us:List Value),K avs=some r∧(rv.mapM (YL a.tmps)).run P w = .ok us w∧AY B κ h w avs us.toArray
 |[],K,r,hk=>⟨[],[],hk,by simp,rfl,fun j x hx=>by simp at hx⟩
 | .tmp t::rv,K,r,hk=>by simp only [T7] at hk;obtain ⟨avs,us,h1,h2,h3⟩:=T6 hr hk;refine ⟨_,_::us,h1,?_,Cy (hr.slot t) h3⟩;simp only [wG,YL,Sem.run_bind,Sem.run_pure,Result.andThen_ok,h2]
 | .cell x t::rv,K,r,hk=>by simp only [T7] at hk;obtain ⟨v,val,h4,h5,h6⟩:=TU (P:=P) hk hr.heap (hr.slot x);obtain ⟨avs,us,h1,h2,h3⟩:=T6 hr h4;refine ⟨_,val::us,h1,?_,Cy h6 h3⟩;have h7:=UN h5;rw [wG,Sem.run_bind];have h8:(YL a.tmps (.cell x t)).run P w = .ok val w:=h7;rw [h8,Result.andThen_ok,Sem.run_bind,h2,Result.andThen_ok,Sem.run_pure]
theorem SB {fn:Func} {tmps:Array Value} {us:List Value} (hm:(fn.results.toList.mapM (YL tmps)).run P w = .ok us w):(results fn tmps).run P w = .ok (LU us.toArray) w:=by rw [T5,Array.mapM_eq_mapM_toList];simp only [Sem.run_bind,map_eq_pure_bind,hm,Result.andThen_ok,Sem.run_pure]
theorem ML {fn:Func} {n:Nat} {κ0:BG} {h0:Heap} {w0:World} {Q:Ending→World→Prop} (hb:w0.heap.size≤base)
  (fin:∀w,Rel B N κ env h a w→Ext κ0 h0 w0 κ h w→∃v,(results fn a.tmps).run P w = .ok v w∧Q (.returned v) w) :
  ∀(rs:List Nat) (w:World),rs.Nodup→(∀r∈rs,base≤r∧w.heap[r]? = some (.deferred (some []))∧Uy κ h r)→Rel B N κ env h a w→Ext κ0 h0 w0 κ h w→LeavesInM (Fr none) n P fn a.tmps Q (rs.map mark) .returning w
 |[],w,_,_,hr,hx=>fin w hr hx
 |r::rs,w,hnd,hall,hr,hx=>by obtain ⟨h1,h2,h3⟩:=hall r (by simp);refine ⟨by simp,.inl ⟨r,w.putObj r (.deferred none),rfl,run_takeDeferred h2,?_⟩⟩;refine ML hb fin rs _ (xT.1 hnd).2 (fun q hq => ?_) ⟨WY hr.heap h2 h3,hr.size,fun i=>(hr.slot i).Jq (Hl h2)⟩ (X2 hx h2 (yF hb h1));obtain ⟨h4,h5,h6⟩:=hall q (by simp [hq]);have hne:q≠r:=fun e=>(xT.1 hnd).1 (e ▸ hq);exact ⟨h4,(World.putObj_heap_other hne).trans h5,h6⟩
theorem Wl {κ':BG} {h':Heap} {w':World} (hh:Ap B κ h w) (x:Ext κ h w κ' h' w') (hd:(h'.drop h.length).all Qz=true) {r:Nat} (hr:w.heap.size≤r):Uy κ' h' r:=by
 intro i b d l hk hi he;rcases yH i h.length with hl|hl
 ·have hg:h[i]? = some h[i]:=zO hl;obtain ⟨o',h1,h2⟩:=x.obj i _ hg;rw [hi] at h1;cases h1;have hkd:=h2.1;cases ho:h[i] with
  |box cs=>rw [ho] at hkd;cases hkd
  |row a b c d=>rw [ho] at hkd;cases hkd
  |mapo a b c=>rw [ho] at hkd;cases hkd
  |loop l0=>
   rw [ho] at hg;have hk0:=(x.kap i _ _ hg hi rfl).symm.trans hk;obtain ⟨_,_,_,_,_,_,h5,_⟩:=hh.obj i _ _ hg hk0;have:=Dx h5;omega
 ·have:(h'.drop h.length)[i-h.length]? = some (.loop l):=by rw [zN,show h.length+(i-h.length)=i from by omega];exact hi
  have:=FL hd this;cases this
theorem ZP {vs:Array Value} {avs:List AV} (hh:Ap B κ h w) (hc:AY B κ h w avs vs) {M:Nat} (hM:avs.length≤M):Rel B M κ (fun i=>avs.getD i .undef) h {tmps:=vs++Array.replicate (M-vs.size) undef,defers:=[]} w:=by
 have hsz:=hc.1;refine ⟨hh,by simp;omega,fun i => ?_⟩;rcases yH i avs.length with hi|hi
 ·have hg:avs[i]? = some avs[i]:=zO hi;have:=hc.2 i _ hg;have e:avs.getD i .undef=avs[i]:=by simp [List.getD,hg]
  rw [e];have e2:(vs++Array.replicate (M-vs.size) undef).getD i undef=vs.getD i undef:=by simp only [Array.getD_eq_getD_getElem?];rw [Array.getElem?_append_left (by omega)]
  rw [e2];exact this
 ·have e:avs.getD i .undef = .undef:=by simp [List.getD,zP hi]
  rw [e];exact .undef _
theorem Mv {C:Cfg} {rec:Rec} {pc:BX} (hrec:EY C.P rec) (hpc:Cg C.P pc) (hmix:C.P.follows .mixedOrders=true) {m:Nat} {g:FuncId} {avs:List AV} {K:List AV→Heap→Option R} {r:R} (hk:Et C rec pc m g avs h K=some r)
  {vs:Array Value} (n:Nat) (hh:Ap B κ h w) (hc:AY B κ h w avs vs) (Q:Ending→World→Prop)
  (fin:∀(ls:List AV) (us:List Value) (h':Heap) (κ':BG) (w':World) (res:Value),K ls h'=some r→AY B κ' h' w' ls us.toArray→Ap B κ' h' w'→Ext κ h w κ' h' w'→
   (∀(B2:Nat→Prop) (κ2:BG) (h2:Heap) (w2:World) (leaf:Nat→AV),(∀j u,us[j]? = some u→AO B2 κ2 h2 w2 (leaf j) u)→∃rv,C7 C.P g leaf=some rv∧AO B2 κ2 h2 w2 rv res)→Q (.returned res) w') :
  CallsIn (Fr none) n C.P g vs w Q:=by
 unfold Et at hk
 try simp only [AB] at hk
 split at hk
 ·rename_i fn hf;split at hk
  ·rename_i c hb;obtain ⟨hN,hk1⟩:=AD hk;refine callsIn_of_wp_marks hf hb trivial ?_;have hs:St B fn.ntmps none w.heap.size κ (fun i=>avs.getD i .undef) h {tmps:=vs++Array.replicate (fn.ntmps-vs.size) undef,defers:=[]} w:=
    ⟨ZP hh hc hN,⟨[],rfl,nodup_nil,fun r hr=>by simp at hr⟩,fun b' hb'=>(by cases hb'),yE _⟩
   refine wpIn_mono (Oh (C:=C.at g) hrec hpc hmix (Nd hrec) n c hk1 hs) fun e a1 w1 hp1 => ?_;obtain ⟨env1,h1,κ1,j1,j2,j3,j4⟩:=hp1;have go:(if ((h1.drop h.length).all Qz)=true then T7 C.P env1 h1 fn.results.toList fun vs=>D9 C.P fn.resultTypes.toList vs fun rs=>K rs h1 else none)=some r→LeavesInM (Fr none) n C.P fn a1.tmps Q a1.defers .returning w1:=by
    intro j1;obtain ⟨hnl,j1⟩:=AD j1;obtain ⟨rs,m1,m2,m3⟩:=j2.marks;rw [m1];refine ML (base:=w.heap.size) (yE _) ?_ rs w1 m2 (fun q hq=>⟨(m3 q hq).1,(m3 q hq).2.1,Wl hh j3 hnl (m3 q hq).1⟩) j2.rel j3;intro w2 hr2 x2;obtain ⟨avs2,us2,k1,k2,k3⟩:=T6 (P:=C.P) hr2 j1;obtain ⟨ls,us,f1,f2,f3⟩:=Kl k1 k3;refine ⟨_,SB k2,fin ls us h1 κ1 w2 _ f1 f2 hr2.heap x2 fun B2 κ2 h2 w2 leaf hl => ?_⟩;obtain ⟨avs',e1,e2⟩:=f3 B2 κ2 h2 w2 leaf 0 fun j u hu=>by rw [yN];exact hl j u hu
    exact Yh hf e1 e2
   cases e with
   |normal=>exact go j1
   |ret=>exact go j1
   |exit id=>cases j1
   |goto t=>cases j1
   |panic ch=>cases j1
   |outgrown=>cases j1
  ·cases hk
 ·cases hk
theorem call_ok {C:Cfg} {rec:Rec} {pc:BX} (hrec:EY C.P rec) (hpc:Cg C.P pc) (hmix:C.P.follows .mixedOrders=true) {m:Nat} {g:FuncId} {avs:List AV} {K:List AV→Heap→Option R} {res:R} (hk:Et C rec pc m g avs h K=some res):aQ C.P g avs h K res:=by
 intro B κ w vs n hh hc;refine Mv hrec hpc hmix hk n hh hc _ fun ls us h1 κ' w' rv0 k1 k2 k3 k4 k5 => ?_;obtain ⟨rv,e1,e2⟩:=k5 B κ' h1 w' (fun i=>ls.getD i .undef) fun j u hu=>by
  have hj:j<ls.length:=by have:=AS hu;have h2:=k2.1;simp at h2;omega
  have hg:ls[j]? = some ls[j]:=zO hj;have:=k2.2 j _ hg;rw [Bt] at this;simp only [List.getD,hg,hu,Option.getD_some] at this ⊢;exact this
 exact ⟨rv0,rv,κ',ls,h1,rfl,k1,e1,e2,k3,k4⟩
theorem Vb {C:Cfg} {rec:Rec} {pc:BX} (hrec:EY C.P rec) (hpc:Cg C.P pc) (hmix:C.P.follows .mixedOrders=true) {m:Nat} {g:FuncId} {xs ys:List Tree} (hk:JN C rec pc m g xs=some ys):Ib C.P g xs ys:=by
 unfold JN at hk
 try simp only [AB] at hk
 split at hk
 ·rename_i avs hm;intro B w avs' vs n hm' hB hc;rw [hm] at hm';cases hm';rw [show dqLT=dqAny (List Tree) from Y8 _ _] at hk;refine Mv hrec hpc hmix hk n (Jj hB) hc _ fun ls us h1 κ' w' res k1 k2 k3 k4 k5 => ?_;have hlen:us.length=ls.length:=by simpa using k2.1
  obtain ⟨zs,c1,c2,c3,c4⟩:=DS (P:=C.P) k1 k3 (vs:=us) hlen (fun j x v hx hv=>by have:=k2.2 j x hx;rw [Bt] at this;simp only [List.getD,hv,Option.getD_some] at this;exact this)
  obtain ⟨hsc,c1⟩:=AD c1;cases c1;obtain ⟨rv,e1,e2⟩:=k5 B [] [] w' (fun i =>.t (ys.getD i default)) fun j u hu=>by
   have hj:j<ys.length:=by have:=AS hu;omega
   have hg:ys[j]? = some ys[j]:=zO hj;have:=c4 j _ u hg hu;have e:ys.getD j default=ys[j]:=by simp [List.getD,hg]
   rw [e];exact .t _ _ (this.less fun b hb=>by
    rcases hb with hb|hb
    ·exact .inl hb
    ·exact (EA hb).elim)
  exact ⟨res,rv,rfl,e1,e2,⟨k4.os,k4.tape,k4.output,k4.size,fun b hb=>k4.keep b hb fun he=>EA he⟩,hsc⟩
 ·cases hk
theorem We {P:Program} {g:FuncId} (hp:Nj P g=true) (leaf:Nat→AV):C7 P g leaf=some (leaf 0):=by
 unfold Nj at hp;unfold C7;split at hp
 ·rename_i fn hf
  try rw [hf]
  split at hp
  ·rename_i t ht;have ha:BF P t=some false:=by simpa using hp
   try dsimp only
   rw [ht];cases hs:B6 P t<;>simp [Ck,IA,ha,hs]
  ·cases hp
 ·cases hp
theorem YU {C:Cfg} {rec:Rec} {pc:BX} (hrec:EY C.P rec) (hpc:Cg C.P pc) (hmix:C.P.follows .mixedOrders=true) {m:Nat} {g:FuncId} {xs ys:List Tree} (hk:KU C rec pc m g xs=some ys):Zg C.P g xs ys:=by
 unfold KU at hk
 try simp only [AB] at hk
 split at hk
 ·rename_i avs t hm ht;obtain ⟨z,hz,hk⟩:=bind_some hk;obtain ⟨hplain,hk⟩:=AD hk;intro B w avs' vs n hm' hB hc;rw [hm] at hm';cases hm';rw [show dqLT=dqAny (List Tree) from Y8 _ _] at hk;refine Mv hrec hpc hmix hk n (Jj hB) hc _ fun ls us h1 κ' w' res k1 k2 k3 k4 k5 => ?_;have hgrow:MC w w':=⟨k4.os,k4.tape,k4.output,k4.size,fun b hb=>k4.keep b hb fun he=>EA he⟩
  have hlen:us.length=ls.length:=by simpa using k2.1
  obtain ⟨rv,e1,e2⟩:=k5 B κ' h1 w' (fun i=>ls.getD i .undef) fun j u hu=>by
   have hj:j<ls.length:=by have:=AS hu;omega
   have hg:ls[j]? = some ls[j]:=zO hj;have:=k2.2 j _ hg;rw [Bt] at this;simp only [List.getD,hg,hu,Option.getD_some] at this ⊢;exact this
  rw [We hplain] at e1;cases e1;split at k1
  ·cases k1;have e3:AO B κ' h1 w' .nilsl res:=e2;cases e3 with
   |nilsl a0=>exact ⟨_,z,[],rfl,rfl,hgrow,.inl ⟨rfl,a0,rfl⟩⟩
  ·rename_i i ver off len;split at k1
   ·rename_i ver' size es hi;obtain ⟨hvs,k1'⟩:=AD k1;clear k1;obtain ⟨rfl,rfl⟩:=hvs;cases k1';have e3:AO B κ' h1 w' (.sref i ver' off len) res:=e2;refine ⟨res,size,_,rfl,rfl,hgrow,?_⟩;cases e3 with
    |sref _ _ _ _ _ _ _ hsr=>
     obtain ⟨kk,hkk⟩:=CH k3 hi;obtain ⟨_,hle,hmm⟩:=hsr kk _ hkk hi rfl;simp only [AF.len] at hle;have ho:=k3.obj i _ _ hi hkk;rcases hmm with ⟨rfl,hof,a0,rfl⟩|⟨b,base,rfl,cap,rfl,hcap',hcs⟩
     ·exact .inl ⟨by simp,a0,rfl⟩
     ·skip
      have hcap:len≤cap:=by simp only [AF.len] at hcap';omega
      obtain ⟨hz0,cells,elem,fr,hb,hth,hbs,hel,hT⟩:=ho;have hex:Ex κ' h1 b:=⟨i,base,_,hkk,hi,rfl⟩
      have hnew:w.heap.size≤b:=by
       rcases k4.ex b hex with h|h
       ·exact (EA h).elim
       ·exact h
      have hcsz:=hcs cells elem _ hb;have hlen2:((es.drop off).take len).length=len:=by simp;omega
      have hget:∀(j:Nat) (e:List Tree),((es.drop off).take len)[j]? = some e→es[off+j]? = some e:=fun j e he=>by have:=CF he;rw [zN] at this;exact this.2
      refine .inr ⟨b,base+off*size,cap,cells,elem,fr,by simp only [AF.size];rw [hlen2],by rw [hlen2];exact hcap,hnew,k3.lt i b base hkk,hz0,hb,hth,?_,fun j e he=>hel _ e (hget j e he),fun j e c x he hx => ?_⟩
      ·have:base+(off+cap)*size≤cells.size:=hcsz;rw [yC] at this;omega
      ·have h8:=hT (off+j) e c x (hget j e he) hx;rw [show base+off*size+(j*size+c)=base+((off+j)*size+c) by rw [yC];omega];exact h8.less fun b' hb'=>by
        rcases hb' with hb'|rfl
        ·exact .inl hb'
        ·exact .inr hex
   ·cases k1
  ·cases k1
 ·cases hk
theorem Ve {C:Cfg} {rec:Rec} {pc:BX} (hrec:EY C.P rec) (hpc:Cg C.P pc) (hmix:C.P.follows .mixedOrders=true) {m j:Nat} {g:FuncId} {xs ys:List Tree} (hk:Is C rec pc m j g xs=some ys):Ux C.P j g xs ys:=by
 unfold Is at hk
 try simp only [AB] at hk
 split at hk
 ·rename_i avs t hm ht;obtain ⟨z,hz,hk⟩:=bind_some hk;intro B w avs' vs n hm' hB hc;rw [hm] at hm';cases hm';rw [show dqLT=dqAny (List Tree) from Y8 _ _] at hk;refine Mv hrec hpc hmix hk n (Jj hB) hc _ fun ls us h1 κ' w' res k1 k2 k3 k4 k5 => ?_;have hgrow:MC w w':=⟨k4.os,k4.tape,k4.output,k4.size,fun b hb=>k4.keep b hb fun he=>EA he⟩
  have hlen:us.length=ls.length:=by simpa using k2.1
  have hleaf:∀(i:Nat) (x:AV) (u:Value),ls[i]? = some x→us[i]? = some u→AO B κ' h1 w' x u:=fun i x u hx hu=>by have:=k2.2 i x hx;rw [Bt] at this;simp only [List.getD,hu,Option.getD_some] at this;exact this
  have hend:∀(x:Tree) (u:Value),us[j]? = some u→Mq C.P h1 (Bm C.P g) ls j x=some ys→us.length=ys.length∧ys[j]? = some x∧
    ∀(i:Nat) (y:Tree) (v:Value),i≠j→ys[i]? = some y→us[i]? = some v→Bv w' (fun b=>B b∨Ex κ' h1 b) y v:=fun x u hu he=>by
   unfold Mq at he
   try simp only [AB] at he
   obtain ⟨hts,he⟩:=AD he;have hjl:j<ls.length:=by rw [← hlen];exact AS hu
   obtain ⟨pa,he1,l1,_,t1⟩:=DS (P:=C.P) he k3 (vs:=us.take j) (by simp [hlen]) (fun i x v hx hv=>hleaf i x v (by rw [zS] at hx;split at hx;exact hx;cases hx) (by rw [zS] at hv;split at hv;exact hv;cases hv));obtain ⟨pb,he2,l2,_,t2⟩:=DS (P:=C.P) he1 k3 (vs:=us.drop (j+1)) (by simp [hlen]) (fun i x v hx hv=>hleaf (j+1+i) x v (by rw [zN] at hx;exact hx) (by rw [zN] at hv;exact hv));cases he2;have la:pa.length=j:=by rw [l1];simp;omega
   have lb:pb.length=ls.length-(j+1):=by rw [l2];simp
   refine ⟨by simp [la,lb];omega,by rw [zM (by omega),la];simp,fun i y v hij hy hv => ?_⟩;rcases yH i j with hi|hi
   ·rw [zL (by omega)] at hy;exact (t1 i y v hy (by rw [zT hi];exact hv)).less fun b hb=>hb.imp id fun e=>⟨rfl,e⟩
   ·rw [zM (by omega),la,show i-j=(i-j-1)+1 by omega,getElem?_cons_succ] at hy;exact (t2 (i-j-1) y v hy (by rw [zN,show j+1+(i-j-1)=i by omega];exact hv)).less fun b hb=>hb.imp id fun e=>⟨rfl,e⟩
  have hbld:∀(B2:Nat→Prop) (κ2:BG) (h2:Heap) (w2:World) (leaf:Nat→AV),(∀i x,us[i]? = some x→AO B2 κ2 h2 w2 (leaf i) x)→∃rv,C7 C.P g leaf=some rv∧AO B2 κ2 h2 w2 rv res:=fun B2 κ2 h2 w2 leaf hl=>k5 B2 κ2 h2 w2 leaf hl;split at k1
  ·rename_i hj;obtain ⟨u,hu⟩:∃u,us[j]? = some u:=⟨us[j]'(by rw [hlen];exact AS hj),zO _⟩
   obtain ⟨e1,e2,e3⟩:=hend _ u hu k1;have hv:=hleaf j _ u hj hu;cases hv with
   |nilsl a0=>exact ⟨res,us,z,[],_,rfl,hgrow,e2,e1,hu,.inl ⟨rfl,a0,rfl⟩,(fun i y v hij hy hv=>(e3 i y v hij hy hv).less fun b hb=>hb.imp id fun ⟨o,nn,cc,e,hc⟩=>by injection e with e1 e2 e3;omega),hbld⟩
  ·rename_i i ver off len hj;obtain ⟨u,hu⟩:∃u,us[j]? = some u:=⟨us[j]'(by rw [hlen];exact AS hj),zO _⟩
   split at k1
   ·rename_i ver' size es hi;obtain ⟨hvs,k1'⟩:=AD k1;clear k1;obtain ⟨rfl,rfl⟩:=hvs;obtain ⟨e1,e2,e3⟩:=hend _ u hu k1';have hv:=hleaf j _ u hj hu;cases hv with
    |sref _ _ _ _ _ _ _ hsr=>
     obtain ⟨kk,hkk⟩:=CH k3 hi;obtain ⟨_,hle,hmm⟩:=hsr kk _ hkk hi rfl;simp only [AF.len] at hle;have ho:=k3.obj i _ _ hi hkk;rcases hmm with ⟨rfl,hof,a0,rfl⟩|⟨b,base,rfl,cap,rfl,hcap',hcs⟩
     ·exact ⟨res,us,size,_,_,rfl,hgrow,e2,e1,hu,.inl ⟨by simp,a0,rfl⟩,(fun i y v hij hy hv=>(e3 i y v hij hy hv).less fun b hb=>hb.imp id fun ⟨o,nn,cc,e,hc⟩=>by injection e with e1 e2 e3;omega),hbld⟩
     ·have hcap:len≤cap:=by simp only [AF.len] at hcap';omega
      obtain ⟨hz0,cells,elem,fr,hb,hth,hbs,hel,hT⟩:=ho;have hex:Ex κ' h1 b:=⟨i,base,_,hkk,hi,rfl⟩
      have hnew:w.heap.size≤b:=by
       rcases k4.ex b hex with h|h
       ·exact (EA h).elim
       ·exact h
      have hcsz:=hcs cells elem _ hb;have hlen2:((es.drop off).take len).length=len:=by simp;omega
      have hget:∀(j:Nat) (e:List Tree),((es.drop off).take len)[j]? = some e→es[off+j]? = some e:=fun j e he=>by have:=CF he;rw [zN] at this;exact this.2
      refine ⟨res,us,size,_,_,rfl,hgrow,e2,e1,hu,.inr ⟨b,base+off*size,cap,cells,elem,fr,by simp only [AF.size];rw [hlen2],by rw [hlen2];exact hcap,hnew,k3.lt i b base hkk,hz0,hb,hth,?_,fun j e he=>hel _ e (hget j e he),fun j e c x he hx => ?_⟩,(fun i2 y v hij hy hv=>(e3 i2 y v hij hy hv).less fun b2 hb2=>hb2.imp id fun ⟨o,nn,cc,e,hc⟩=> ?_),hbld⟩
      ·have:base+(off+cap)*size≤cells.size:=hcsz;rw [yC] at this;omega
      ·have h8:=hT (off+j) e c x (hget j e he) hx;rw [show base+off*size+(j*size+c)=base+((off+j)*size+c) by rw [yC];omega];exact h8.less fun b' hb'=>by
        rcases hb' with hb'|rfl
        ·exact .inl hb'
        ·exact .inr hex
      ·injection e with e4 e5 e6;injection e4 with e4;injection e4 with e7;rw [← e7];exact hex
   ·cases k1
  ·cases k1
 ·cases hk
theorem IF {C:Cfg} (hmix:C.P.follows .mixedOrders=true) {pc:BX} (hpc:Cg C.P pc) (n:Nat):∀d,EY C.P (inl C pc n d)
 |0=>fun R r h K res hk=>(by cases hk)
 |d+1=>fun R r h K res hk=>by
  cases r with
  |fn g avs=>exact call_ok (IF hmix hpc n d) hpc hmix hk
  |yield i args=>exact YE (IF hmix hpc n d) hpc hmix hk
def O7 (C:Cfg):Prop:=∀g xs ys,g<OWN→C.ext g xs=some ys→Ib C.P g xs ys
theorem Jd {C:Cfg} {pc:BX} (hext:O7 C) (hpc:Cg C.P pc):Cg C.P (pcx C pc):=fun g xs ys hk=>by
 unfold pcx at hk;split at hk
 ·split at hk
  ·rename_i hg;split at hk
   ·rename_i he;cases hk;rw [if_pos hg];exact hext g [] _ hg he
   ·exact hpc g _ _ hk
  ·exact hpc g _ _ hk
 ·exact hpc g _ _ hk
theorem E9 {C:Cfg} (hmix:C.P.follows .mixedOrders=true) (hext:O7 C):∀n,Cg C.P (AA C n)
 |0=>fun g xs ys hk=>(by cases hk)
 |n+1=>fun g xs ys hk=>by
  unfold AA at hk;by_cases hg:g<OWN
  ·rw [if_pos hg] at hk ⊢;split at hk
   ·rename_i ys' he;cases hk;exact hext g xs _ hg he
   exact Vb (IF hmix (Jd hext (E9 hmix hext n)) n C.depth) (Jd hext (E9 hmix hext n)) hmix hk
  ·rw [if_neg hg] at hk ⊢;by_cases hg2:g<FT
   ·rw [if_pos hg2] at hk ⊢;exact YU (IF hmix (Jd hext (E9 hmix hext n)) n C.depth) (Jd hext (E9 hmix hext n)) hmix hk
   ·rw [if_neg hg2] at hk ⊢;exact Ve (IF hmix (Jd hext (E9 hmix hext n)) n C.depth) (Jd hext (E9 hmix hext n)) hmix hk
theorem TO {C:Cfg} (hmix:C.P.follows .mixedOrders=true) (hext:O7 C) {n:Nat} {g:FuncId} {xs ys:List Tree} (hg:g<OWN) (hk:AA C n g xs=some ys):Ib C.P g xs ys:=by have:=E9 hmix hext n g xs ys hk;rwa [if_pos hg] at this
#print axioms TO
end Ab
namespace Ab
open Go
variable {P:Program} {w w':World} {H:Type} {enc:TypeId×Value→H} {base:Nat} {held:Bool}
def cover (P:Program):List Field→Nat→Option Nat
 |[],off=>some off
 |f::fs,off=>if f.offset=off then cover P fs (off+P.cellsOf f.type) else none
def PI (P:Program):Nat→TypeId→Bool
 |0,_=>false
 |d+1,t=>match P.underlying t with
  |some .bool|some (.int _)|some .string=>true
  |some (.slice e)=>P.cellsOf e != 0&&PI P d e
  |some (.struct fs)=>cover P fs.toList 0==some (P.cellsOf t)&&fs.toList.all fun f=>PI P d f.type
  |_=>false
def GC (Ty:TypeId→List Tree→Prop):List TypeId→List Tree→Prop
 |[],ts=>ts=[]
 |t::l,ts=>∃a b,ts=a++b∧Ty t a∧GC Ty l b
def Typed (P:Program):Nat→TypeId→List Tree→Prop
 |0,_,_=>False
 |d+1,t,ts=>match P.underlying t with
  |some .bool=>∃b,ts=[.bool b]
  |some (.int k)=>∃n,ts=[.int k n]∧(Lit.int k n).wf=true
  |some .string=>∃s:ByteArray,ts=[.str s]∧s.size≤maxLen
  |some (.slice e)=>∃es,ts=[.sl (P.cellsOf e) es]∧es.length≤maxLen∧∀x∈es,Typed P d e x
  |some (.struct fs)=>GC (Typed P d) (fs.toList.map (·.type)) ts
  |_=>False
def Cells (w:World) (ts:List Tree) (cs:List Value):Prop:=ts.length=cs.length∧∀(j:Nat) y v,ts[j]? = some y→cs[j]? = some v→Bv w (fun _=>False) y v
theorem Cells.append {ts ts':List Tree} {cs cs':List Value} (h1:Cells w ts cs) (h2:Cells w ts' cs'):Cells w (ts++ts') (cs++cs'):=by
 refine ⟨by simp [h1.1,h2.1],fun j y v hy hv => ?_⟩;rcases yH j ts.length with hj|hj
 ·rw [zL hj] at hy;rw [zL (by rw [← h1.1];exact hj)] at hv;exact h1.2 j y v hy hv
 ·rw [zM hj] at hy;rw [zM (by rw [← h1.1];exact hj),← h1.1] at hv;exact h2.2 _ y v hy hv
theorem Cells.one {y:Tree} {v:Value} (h:Bv w (fun _=>False) y v):Cells w [y] [v]:=by
 refine ⟨rfl,fun j z u hz hu => ?_⟩;cases j with
 |zero=>cases hz;cases hu;exact h
 |succ j=>simp at hz
theorem MT {α:Type} {p:Nat→α→Prop}:∀(len:Nat),(∀i,i<len→∃x,p i x)→∃l:List α,l.length=len∧∀i x,l[i]? = some x→p i x
 |0,_=>⟨[],rfl,fun i x hx=>by simp at hx⟩
 |n+1,h=>by
  obtain ⟨l,h1,h2⟩:=MT n fun i hi=>h i (by omega);obtain ⟨x,hx⟩:=h n (by omega);refine ⟨l++[x],by simp [h1],fun i y hy => ?_⟩;rcases yH i n with hi|hi
  ·rw [zL (by omega)] at hy;exact h2 i y hy
  ·rw [zM (by omega)] at hy;have:=AS hy;simp at this;have e:i=n:=by omega
   subst e;rw [h1] at hy;simp at hy;subst hy;exact hx
theorem Nq {α β:Type} {f:α→Option β}:∀{l:List α} {ys:List β},l.mapM f=some ys→ys.length=l.length∧∀(i:Nat) x,l[i]? = some x→∃y,ys[i]? = some y∧f x=some y
 |[],ys,h=>by simp at h;subst h;exact ⟨rfl,fun i x hx=>by simp at hx⟩
 |a::l,ys,h=>by
  rw [wG] at h;cases ha:f a with
  |none=>rw [ha] at h;cases h
  |some b=>
   rw [ha] at h;cases hl:l.mapM f with
   |none=>rw [hl] at h;cases h
   |some bs=>
    rw [hl] at h;cases h;obtain ⟨h1,h2⟩:=Nq hl;refine ⟨by simp [h1],fun i x hx => ?_⟩;cases i with
    |zero=>simp at hx;subst hx;exact ⟨b,rfl,ha⟩
    |succ i=>simpa using h2 i x (by simpa using hx)
theorem mapM_congr {α β:Type} {f g:α→Option β}:∀{l:List α},(∀x∈l,g x=f x)→l.mapM g=l.mapM f
 |[],_=>by simp
 |a::l,h=>by rw [wG,wG,h a (by simp),mapM_congr fun x hx=>h x (by simp [hx])]
theorem Mr {α β:Type} {f:α→Option β}:∀{l:List α} (ys:List β),ys.length=l.length→(∀(i:Nat) x,l[i]? = some x→∃y,ys[i]? = some y∧f x=some y)→l.mapM f=some ys
 |[],[],_,_=>by simp
 |[],y::ys,h,_=>by simp at h
 |a::l,[],h,_=>by simp at h
 |a::l,y::ys,h,hf=>by
  obtain ⟨z,h1,h2⟩:=hf 0 a rfl;cases h1;have ih:=Mr ys (by simpa using h) fun i x hx=>by simpa using hf (i+1) x (by simpa using hx)
  rw [wG,h2,ih];rfl
theorem Ip {n i:Nat} (h:i<n):(List.range n)[i]? = some i:=by simp [h]
theorem QM {a:Addr} {n:Nat} {cs:List Value} (h:w.cells? base a n=some cs):base≤a.block∧cs.length=n∧∀i v,cs[i]? = some v→w.cell? (a.add i)=some v:=by
 unfold World.cells? at h;obtain ⟨hb,h⟩:=AD h;obtain ⟨h1,h2⟩:=Nq h;have h1':cs.length=n:=by simpa using h1
 refine ⟨hb,h1',fun i v hv => ?_⟩;have hi:i<n:=by have:=AS hv;omega
 obtain ⟨y,hy,hc⟩:=h2 i i (Ip hi);rw [hv] at hy;cases hy;exact hc
theorem Lq {a:Addr} {v:Value} (h:w.cell? a=some v):a.spot=none∧a.block<w.heap.size:=by
 unfold World.cell? at h;split at h
 ·rename_i c e f hb;split at h
  ·cases h
  ·rename_i hs;exact ⟨by simpa using hs,Dx hb⟩
 ·cases h
theorem TY (b o i:Nat):(⟨b,o,none⟩:Addr).add i=⟨b,o+i,none⟩:=by
 simp only [Addr.add];split
 ·rename_i h;simp
 ·rfl
theorem KC {cs:List Value} (Ty:TypeId→List Tree→Prop):∀(fs:List Field) (off m:Nat),cover P fs off=some m→m≤cs.length→(∀f∈fs,∃ts,Ty f.type ts∧Cells w ts ((cs.drop f.offset).take (P.cellsOf f.type)))→
  off≤m∧∃ts,GC Ty (fs.map (·.type)) ts∧Cells w ts ((cs.drop off).take (m-off))
 |[],off,m,hc,hm,_=>by cases hc;exact ⟨yE _,[],rfl,by simp,fun j y v hy=>by simp at hy⟩
 |f::fs,off,m,hc,hm,hall=>by
  simp only [cover] at hc;obtain ⟨ho,hc⟩:=AD hc;obtain ⟨h1,ts,h2,h3⟩:=KC Ty fs _ m hc hm fun g hg=>hall g (by simp [hg]);obtain ⟨ts0,h4,h5⟩:=hall f (by simp);refine ⟨by omega,ts0++ts,⟨ts0,ts,rfl,h4,h2⟩,?_⟩;have e:(cs.drop off).take (m-off)=(cs.drop f.offset).take (P.cellsOf f.type)++(cs.drop (off+P.cellsOf f.type)).take (m-(off+P.cellsOf f.type)):=by rw [ho,show m-off=P.cellsOf f.type+(m-(off+P.cellsOf f.type)) from by omega,List.take_add,drop_drop]
  rw [e];exact h5.append h3
theorem PB {spare:Nat→Bool}:∀(d:Nat) {t:TypeId} {fuel:Nat} {cs:List Value} {x:DataW H×List MemPlace},PI P d t=true→DataW.trod enc P w base spare held fuel t cs=some x→∃ts,Typed P d t ts∧Cells w ts cs:=by
 intro d
 induction d with
 |zero=>intro t fuel cs x ho;cases ho
 |succ d ih=>
  intro t fuel cs x ho h;unfold PI at ho;unfold Typed;cases hu:P.underlying t with
  |none=>rw [hu] at ho;cases ho
  |some u=>
   rw [hu] at ho;cases u with
   |bool=>
    obtain ⟨b,rfl,_⟩:=DataW.trod_bool hu h;exact ⟨_,⟨b,rfl⟩,Cells.one (.bool b)⟩
   |int k=>
    obtain ⟨n,rfl,_,hw⟩:=DataW.trod_int hu h;exact ⟨_,⟨n,rfl,hw⟩,Cells.one (.int k n)⟩
   |string=>
    obtain ⟨n,rfl,_,hw⟩:=DataW.trod_string hu h;exact ⟨_,⟨n,rfl,hw⟩,Cells.one (.str n)⟩
   |slice e=>
    simp only [zE,bne_iff_ne,ne_eq] at ho;rcases Go.Deep.open_slice hu h with ⟨rfl,_⟩|⟨a,len,cap,m,n,D,Pl,rfl,hb,hl,hm,hmm,_,hi⟩
    ·exact ⟨_,⟨[],rfl,zero_le _,fun x hx=>by cases hx⟩,Cells.one (.nil _ _ _)⟩
    ·have hlm:len≤m:=by rw [hmm];split<;>omega
     obtain ⟨es,he1,he2⟩:=MT (p:=fun i ts=>Typed P d e ts∧∃cs',w.cells? base (a.add (i*P.cellsOf e)) (P.cellsOf e)=some cs'∧Cells w ts cs') len fun i him=>by obtain ⟨cs',h1,h2⟩:=hi i (by omega);obtain ⟨ts,h3,h4⟩:=ih ho.2 h2;exact ⟨ts,h3,cs',h1,h4⟩
     refine ⟨_,⟨es,rfl,by omega,fun x hx => ?_⟩,?_⟩
     ·obtain ⟨i,hi2,hx2⟩:=zU hx;exact (he2 i x (by rw [zO hi2,hx2])).1
     ·cases hes:es with
      |nil=>
       rw [hes] at he1;obtain rfl:len=0:=he1.symm;exact Cells.one (.nil _ _ _)
      |cons e0 es0=>
       have hsp:a.spot=none:=by
        have h0:es[0]? = some e0:=by rw [hes];rfl
        obtain ⟨_,cs',hc,hcl⟩:=he2 0 e0 h0;obtain ⟨_,hlen,hget⟩:=QM hc;have hcc:0<cs'.length:=by rw [hlen];exact yL ho.1
        have hg:=hget 0 cs'[0] (zO hcc);have:=(Lq hg).1;simpa [Addr.add] using this
       obtain ⟨ab,ao,asp⟩:=a;dsimp only at hsp;subst hsp;have key:∀(j:Nat) (el:List Tree),es[j]? = some el→el.length=P.cellsOf e∧∀(c:Nat) (y:Tree),el[c]? = some y→∃v,w.cell? ⟨ab,ao+(j*P.cellsOf e+c),none⟩=some v∧ab<w.heap.size∧Bv w (fun _=>False) y v:=by
        intro j el hj;obtain ⟨_,cs',hc,hcl⟩:=he2 j el hj;obtain ⟨_,hlen,hget⟩:=QM hc;refine ⟨hcl.1.trans hlen,fun c y hy => ?_⟩;have hcc:c<cs'.length:=by rw [← hcl.1];exact AS hy
        have hg:=hget c cs'[c] (zO hcc);rw [TY,TY,add_assoc] at hg;exact ⟨cs'[c],hg,(Lq hg).2,hcl.2 c y _ hy (zO hcc)⟩
       have h0:es[0]? = some e0:=by rw [hes];rfl
       obtain ⟨hl0,hc0⟩:=key 0 e0 h0;have hne:0<e0.length:=by rw [hl0];exact yL ho.1
       obtain ⟨v0,_,hbl,_⟩:=hc0 0 e0[0] (zO hne);rw [← hes,← he1];refine Cells.one (.sl _ es ab ao cap (fun j c=>(w.cell? ⟨ab,ao+(j*P.cellsOf e+c),none⟩).getD undef) (by omega) hbl (fun hf=>hf) (fun j el hj=>(key j el hj).1) (fun j el c y hj hy => ?_) (fun j el c y hj hy => ?_))
       ·obtain ⟨v,h1,_⟩:=(key j el hj).2 c y hy;rw [h1];rfl
       ·obtain ⟨v,h1,_,h4⟩:=(key j el hj).2 c y hy;rw [h1];exact h4
   |struct fs=>
    simp only [zE,beq_iff_eq] at ho;obtain ⟨xs,n,_,_,hlen,hxl,hf⟩:=DataW.trod_struct hu h;obtain ⟨_,ts,h1,h2⟩:=KC (w:=w) (cs:=cs) (Typed P d) fs.toList 0 _ ho.1 (by omega) fun f hfm=>by
     obtain ⟨i,hi,he⟩:=zU hfm;have hg:fs[i]? = some f:=by rw [← yQ,zO hi,he]
     have:=hf i f hg;have hil:i<xs.length:=by rw [hxl];simpa using hi
     rw [zO hil] at this;exact ih (yV.1 ho.2 f hfm) this
    refine ⟨ts,h1,?_⟩;simpa [← hlen] using h2
   |_=>cases ho
theorem Un {a:Addr} {n:Nat} {cs:List Value} (hk:∀b,b<w.heap.size→w'.heap[b]? = w.heap[b]?) (h:w.cells? base a n=some cs):w'.cells? base a n=some cs:=by
 rw [← h];unfold World.cells? at h ⊢;obtain ⟨hb,h⟩:=AD h;rw [if_pos hb,if_pos hb];obtain ⟨h1,h2⟩:=Nq h;refine mapM_congr fun i hi => ?_;have hin:i<n:=by simpa using hi
 obtain ⟨y,_,hc⟩:=h2 i i (Ip hin);unfold World.cell? at hc ⊢;rw [hk];have:=Lq (w:=w) (a:=a.add i) (v:=y) hc;exact this.2
theorem WW {sp:Nat→Bool} (hk:∀b,b<w.heap.size→w'.heap[b]? = w.heap[b]?):∀(d:Nat) {t:TypeId} {fuel:Nat} {cs:List Value} {x:DataW H×List MemPlace},PI P d t=true→DataW.trod enc P w base (fun _=>true) held fuel t cs=some x→
  (∀p∈x.2,sp p.block=true)→DataW.trod enc P w' base sp held fuel t cs=some x:=by
 intro d
 induction d with
 |zero=>intro t fuel cs x ho;cases ho
 |succ d ih=>
  intro t fuel cs x ho h hp;unfold PI at ho;cases hu:P.underlying t with
  |none=>rw [hu] at ho;cases ho
  |some u=>
   rw [hu] at ho;cases u with
   |bool=>
    cases fuel with
    |zero=>cases h
    |succ n=>
     obtain ⟨b,rfl,rfl⟩:=DataW.trod_bool hu h;simp [DataW.trod,hu]
   |int k=>
    cases fuel with
    |zero=>cases h
    |succ n=>
     obtain ⟨b,rfl,rfl,hw⟩:=DataW.trod_int hu h;simp [DataW.trod,hu,hw]
   |string=>
    cases fuel with
    |zero=>cases h
    |succ n=>
     obtain ⟨b,rfl,rfl,hw⟩:=DataW.trod_string hu h;simp [DataW.trod,hu,hw]
   |slice e=>
    simp only [zE,bne_iff_ne,ne_eq] at ho;rcases DataW.trod_slice hu h with ⟨rfl,rfl⟩|⟨a,len,cap,elems,rest,n,rfl,rfl,hx,hb,hl,hm,hel,he,hr,_⟩
    ·cases fuel with
     |zero=>cases h
     |succ n=>simp [DataW.trod,hu]
    ·obtain ⟨hrl,hr⟩:=hr rfl;have hmem:∀y∈elems++rest,∀p∈y.2,sp p.block=true:=fun y hy p hpy=>hp p (by rw [hx];exact List.mem_append_right _ (mem_flatMap.2 ⟨y,hy,hpy⟩));have step:∀(i:Nat) (y:DataW H×List MemPlace),y∈elems++rest→(w.cells? base (a.add (i*P.cellsOf e)) (P.cellsOf e)).bind (DataW.trod enc P w base (fun _=>true) held n e)=some y→
       (w'.cells? base (a.add (i*P.cellsOf e)) (P.cellsOf e)).bind (DataW.trod enc P w' base sp held n e)=some y:=by
      intro i y hy hi;obtain ⟨cs',h1,h2⟩:=bind_some hi;rw [Un hk h1];exact ih ho.2 h2 (hmem y hy)
     have e1:(List.range len).mapM (fun i=>(w'.cells? base (a.add (i*P.cellsOf e)) (P.cellsOf e)).bind (DataW.trod enc P w' base sp held n e))=some elems:=Mr elems (by simp [hel]) fun i j hij=>by
      have hil:i<len:=by have:=AS hij;simpa using this
      have:j=i:=by rw [Ip hil] at hij;cases hij;rfl
      subst this;have hj:=he j hil;have hjl:j<elems.length:=by omega
      rw [zO hjl] at hj;exact ⟨_,zO hjl,step j _ (List.mem_append_left _ (wE hjl)) hj⟩
     have e2:(if sp a.block=true then (List.range (cap-len)).mapM (fun j=>(w'.cells? base (a.add ((len+j)*P.cellsOf e)) (P.cellsOf e)).bind (DataW.trod enc P w' base sp held n e)) else some [])=some rest:=by
      by_cases hsp:sp a.block=true
      ·rw [if_pos hsp];refine Mr rest (by simp [hrl]) fun i j hij => ?_;have hil:i<cap-len:=by have:=AS hij;simpa using this
       have:j=i:=by rw [Ip hil] at hij;cases hij;rfl
       subst this;have hj:=hr j hil;have hjl:j<rest.length:=by omega
       rw [zO hjl] at hj;exact ⟨_,zO hjl,step (len+j) _ (List.mem_append_right _ (wE hjl)) hj⟩
      ·rw [if_neg hsp];cases hre:rest with
       |nil=>rfl
       |cons y ys=>
        exfalso;refine hsp (hp (.cell a.block (a.off+0)) ?_);rw [hx];refine List.mem_append_left _ (wJ.2 ⟨0,xP.2 ?_,rfl⟩);rw [hre];exact Nat.mul_pos (by simp;omega) (yL ho.1)
     unfold DataW.trod;rw [hu];dsimp only;rw [if_pos ⟨hb,hl,hm⟩,e1];simp only [Option.bind_some];rw [e2,hx];rfl
   |struct fs=>
    simp only [zE,beq_iff_eq] at ho;obtain ⟨xs,n,rfl,hx,hlen,hxl,hf⟩:=DataW.trod_struct hu h;have e1:(fs.toList.mapM fun f=>DataW.trod enc P w' base sp held n f.type ((cs.drop f.offset).take (P.cellsOf f.type)))=some xs:=Mr xs (by simpa using hxl) fun i f hif=>by
     have hg:fs[i]? = some f:=by rw [← yQ];exact hif
     have hil:i<xs.length:=by rw [hxl];have:=AS hif;simpa using this
     have hj:=hf i f hg;rw [zO hil] at hj;refine ⟨_,zO hil,ih (yV.1 ho.2 f (xN hif)) hj fun p hpy=>hp p ?_⟩;rw [hx];exact mem_flatMap.2 ⟨_,wE hil,hpy⟩
    unfold DataW.trod;rw [hu];split<;>simp_all
   |_=>cases ho
end Ab
namespace Ab
open Go Go.RowKit Go.WideShapes Go.ChangeShapes
variable {P:Program} {w w':World} {H:Type} {enc:TypeId×Value→H} {base:Nat} {held:Bool}
theorem MC.below (g:MC w w'):Below w.heap.size w w':=⟨g.os,g.tape,g.output,g.size,fun b hb=>g.block b hb⟩
theorem Tw {t:TypeId} {n:Nat} (h:B6 P t=some n):P.cellsOf t=n:=by unfold B6 at h;unfold Program.cellsOf;rw [h];rfl
theorem K6 {d:Nat} {spare:Nat→Bool} {b0:Nat}:∀{ts:List TypeId} {vs:List Value} {ds:List (DataW H)} {p:List MemPlace},ts.all (PI P d)=true→(ts.all fun t=>(B6 P t).isSome)=true→
  (∀(j:Nat) t v,ts[j]? = some t→vs[j]? = some v→Value.okWide P w .any b0 t v)→DataW.TrodAll enc P w base spare held ts vs ds p→
  ∃xs,GC (Typed P d) ts xs∧∀(leaf:Nat→AV) (off:Nat),(∀j x,xs[j]? = some x→leaf (off+j)= .t x)→∃avs,Ck P leaf ts off=some avs∧AY (fun _=>False) [] [] w avs vs.toArray
 |[],vs,ds,p,_,_,_,h=>by obtain ⟨rfl,rfl,rfl⟩:=trodAll_nil h;exact ⟨[],rfl,fun leaf off _=>⟨[],rfl,rfl,fun j x hx=>by simp at hx⟩⟩
 |t::ts,vs,ds,p,hok,hsz,hval,h=>by
  obtain ⟨v,vs',d1,ds',p1,q,rfl,rfl,rfl,h1,h2⟩:=trodAll_cons h;simp only [all_cons,zE] at hok hsz;obtain ⟨xs,h3,h4⟩:=K6 hok.2 hsz.2 (fun j t' v' ht hv=>hval (j+1) t' v' (by simpa using ht) (by simpa using hv)) h2;obtain ⟨fuel,h1⟩:=h1;obtain ⟨ys,h5,h6⟩:=PB d hok.1 h1;have hv:=hval 0 t v rfl rfl;obtain ⟨n,hn⟩:=Option.isSome_iff_exists.1 hsz.1;have hc:=Tw hn;refine ⟨ys++xs,⟨ys,xs,rfl,h5,h3⟩,fun leaf off hl => ?_⟩;obtain ⟨avs,e1,e2⟩:=h4 leaf (off+ys.length) fun j x hx=>by have:=hl (ys.length+j) x (by rw [zM (by omega)];simpa using hx);rwa [← add_assoc] at this
  have hT:∀j v',v.cells.toList[j]? = some v'→AO (fun _=>False) [] [] w (leaf (off+j)) v':=fun j v' hv'=>by
   have hj:j<ys.length:=by rw [h6.1];exact AS hv'
   have hg:ys[j]? = some ys[j]:=zO hj;rw [hl j ys[j] (by rw [zL hj];exact hg)];exact .t _ _ ((h6.2 j _ v' hg hv').less fun b hb=>by
    rcases hb with hb|hb
    ·exact hb
    ·exact (EA hb).elim)
  have leafCase:BF P t=some false→v.cells = #[v]→∃avs,Ck P leaf (t::ts) off=some avs∧AY (fun _=>False) [] [] w avs (v::vs').toArray:=by
   intro ha hcv;have hl1:ys.length=1:=by rw [h6.1,hcv];rfl
   refine ⟨leaf off::avs,?_,Cy (by simpa using hT 0 v (by rw [hcv];rfl)) e2⟩;rw [hl1] at e1;cases hs:B6 P t<;>simp only [Ck,IA,ha,hs,e1,yP]
  have hok1:=hok.1;cases d with
  |zero=>cases hok1
  |succ d=>
   unfold PI at hok1;cases hu:P.underlying t with
   |none=>rw [hu] at hok1;cases hok1
   |some u=>
    rw [hu] at hok1;cases u with
    |bool=>obtain ⟨b,rfl⟩:=okWide_bool hu hv;exact leafCase (by simp [BF,hu]) rfl
    |int k=>obtain ⟨b,rfl⟩:=okWide_int hu hv;exact leafCase (by simp [BF,hu]) rfl
    |string=>obtain ⟨b,rfl⟩:=okWide_string hu hv;exact leafCase (by simp [BF,hu]) rfl
    |slice e=>obtain ⟨a,len,cap,rfl⟩:=okWide_slice hu hv;exact leafCase (by simp [BF,hu]) rfl
    |struct fs=>
     obtain ⟨cs,rfl,hcs⟩:=okWide_struct hu hv;have ha:BF P t=some true:=by simp [BF,hu]
     have hl1:ys.length=n:=by rw [h6.1];simp [Value.cells,hcs,hc]
     refine ⟨.agg (BK leaf off n)::avs,?_,Cy (.agg _ _ (by simp [BK,hcs,hc]) fun j y hy => ?_) e2⟩
     ·rw [hl1] at e1;simp only [Ck,IA,ha,hn,e1,yP]
     ·have hj:j<n:=by have:=AS hy;simpa [BK] using this
      rw [FF leaf off _ _ hj] at hy;cases hy;have hj2:j<cs.size:=by omega
      exact hT j _ (by simp [Value.cells,Array.getD,hj2])
    |_=>cases hok1
theorem MF {spare:Nat→Bool}:∀{ts:List TypeId} {vs:List Value} {ds:List (DataW H)} {p:List MemPlace},DataW.TrodAll enc P w base spare held ts vs ds p→ds.length=ts.length
 |[],vs,ds,p,h=>by obtain ⟨rfl,rfl,rfl⟩:=trodAll_nil h;rfl
 |t::ts,vs,ds,p,h=>by obtain ⟨v,vs',d1,ds',p1,q,rfl,rfl,rfl,h1,h2⟩:=trodAll_cons h;simp [MF h2]
theorem J7 {sp:Nat→Bool} (hk:∀b,b<w.heap.size→w'.heap[b]? = w.heap[b]?) {d:Nat}:∀{ts:List TypeId} {vs:List Value} {ds:List (DataW H)} {p:List MemPlace},ts.all (PI P d)=true→
  DataW.TrodAll enc P w base (fun _=>true) held ts vs ds p→(∀x∈p,sp x.block=true)→DataW.TrodAll enc P w' base sp held ts vs ds p
 |[],vs,ds,p,_,h,_=>by obtain ⟨rfl,rfl,rfl⟩:=trodAll_nil h;exact rfl
 |t::ts,vs,ds,p,hok,h,hp=>by obtain ⟨v,vs',d1,ds',p1,q,rfl,rfl,rfl,h1,h2⟩:=trodAll_cons h;simp only [all_cons,zE] at hok;obtain ⟨fuel,h1⟩:=h1;exact trodAll_cons_mk ⟨fuel,WW hk d hok.1 h1 fun x hx=>hp x (List.mem_append_left _ hx)⟩ (J7 hk hok.2 h2 fun x hx=>hp x (List.mem_append_right _ hx))
theorem PH {f:Func} {s:ChangeSpec} {apart fresh handsOn again:Bool} {W W':World} {args:Array Value} {v:Value} {ds gs:List (DataW H)} {before pa pv:List MemPlace}
  (hW:DataW.Whole enc P f.params.toList s.vars apart W args.toList ds gs before)
  (hres:∀(b:Nat) (sp:Nat→Bool) (hd:Bool),DataW.TrodAll enc P W' b sp hd f.resultTypes.toList (v.resultList f.resultTypes.size) (s.fn H (ds++gs)).results [])
  (hargs:∀sp:Nat→Bool,(∀p∈before,sp p.block=true)→DataW.TrodAll enc P W' 0 sp true f.params.toList args.toList (s.fn H (ds++gs)).args pa)
  (hvars:∀sp:Nat→Bool,(∀p∈before,sp p.block=true)→DataW.TrodVars enc P W' sp s.vars (s.fn H (ds++gs)).vars pv)
  (hps:before=pa++pv) (hb:Below W.heap.size W W')
  (hok:∀(j:Nat) (t:TypeId) (r:Value),f.resultTypes[j]? = some t→(v.resultList f.resultTypes.size)[j]? = some r→Value.okWide P W' .any 0 t r) :
  s.post enc P f apart fresh handsOn again W args v W':=by
 have hlt:∀p∈before,p.block<W.heap.size:=fun p hp=>hW.lt p hp;have hold:∀p∈before,(fun b=>decide (b<W.heap.size)) p.block=true:=fun p hp=>by simpa using hlt p hp
 refine ⟨ds,gs,before,[],pa,pv,hW,hres _ _ _,hargs _ hold,hvars _ hold,World.keptBut_mono (fun p hp=>⟨hp,?_⟩) (hb.frame (· ∈before)),fun _ => ?_⟩
 ·rw [hps,xK] at hp;exact Or.inr hp
 ·obtain ⟨_,_,_,_,_,hz,hn⟩:=hW;refine ⟨hok,_,_,([]++pa)++pv,⟨[]++pa,pv,trodAll_append (hargs _ (fun _ _=>rfl)) (hres _ _ _),hvars _ (fun _ _=>rfl),rfl,?_,?_⟩,?_⟩
  ·intro b off hp;have hin:MemPlace.cell b off∈before:=by rw [hps];simpa using hp
   rw [hb.frozen (hlt _ hin)];exact hz b off hin
  ·intro ha;have:=hn ha;rw [hps] at this;simpa using this
  ·intro p hp _;rw [hps];simpa using hp
theorem Kh {C:Cfg} (hmix:C.P.follows .mixedOrders=true) (hext:O7 C) {f:FuncId} {fn:Func} {s:ChangeSpec} {bt:TypeId} {d:Nat} (hlt:f<OWN) (hf:C.P.funcs[f]? = some fn) (hvars:s.vars=[]) (hps:fn.params.toList.all (PI C.P d)=true) (hsz:(fn.params.toList.all fun t=>(B6 C.P t).isSome)=true)
  (hrt:fn.resultTypes = #[bt]) (hbt:C.P.underlying bt=some .bool)
  (hspec:∀(H:Type) (ds:List (DataW H)),ds.length=fn.params.size→(s.fn H ds).results=[.lit (.bool true)]∧(s.fn H ds).args=ds∧(s.fn H ds).vars=[])
  (law:∀xs,GC (Typed C.P d) fn.params.toList xs→∃n,AA C n f xs=some [.bool true])
  {apart fresh handsOn again:Bool} (W:World) (b0:Nat) (args:Array Value) (ds gs:List (DataW H)) (before:List MemPlace)
  (hval:∀(j:Nat) t v,fn.params[j]? = some t→args[j]? = some v→Value.okWide C.P W .any b0 t v)
  (hW:DataW.Whole enc C.P fn.params.toList s.vars apart W args.toList ds gs before) :
  Calls C.P f args W fun e W'=>∃v,e = .returned v∧s.post enc C.P fn apart fresh handsOn again W args v W':=by
 have hW':=hW;obtain ⟨p,q,hA,hV,hbf,hfz,hnd⟩:=hW;rw [hvars] at hV;obtain ⟨rfl,rfl⟩:=trodVars_none hV;have hlen:ds.length=fn.params.size:=by have:=MF hA;simpa using this
 obtain ⟨s1,s2,s3⟩:=hspec H (ds++[]) (by simpa using hlen);obtain ⟨xs,h1,h2⟩:=K6 (b0:=b0) hps hsz (fun j t v ht hv=>hval j t v (by rw [← yQ];exact ht) (by rw [← yQ];exact hv)) hA;obtain ⟨n,hn⟩:=law xs h1;obtain ⟨avs,h3,h4⟩:=h2 (fun i =>.t (xs.getD i default)) 0 fun j x hx=>by rw [yN];simp [List.getD,hx]
 have hm:D3 C.P f (fun i =>.t (xs.getD i default))=some avs:=by unfold D3;rw [hf];exact h3
 have h4':AY (fun _=>False) [] [] W avs args:=by simpa using h4
 have hpure:=TO hmix hext hlt hn (fun _=>False) W avs args 0 hm (fun b hb=>hb.elim) h4';refine (callsIn_wide (n:=0)).1 (CallsIn.mono hpure ?_)
 rintro e W' ⟨v,r,rfl,hr,hv,hg,_⟩
 have hbv:v = .bool true:=by
  unfold C7 at hr;rw [hf] at hr;simp only [hrt] at hr;have:BF C.P bt=some false:=by simp [BF,hbt]
  cases hs:B6 C.P bt<;>simp [Ck,IA,this,hs] at hr<;>subst hr<;>(cases hv with|t _ _ ht=>cases ht;rfl)
 subst hbv;refine ⟨_,rfl,?_⟩;simp only [append_nil] at hbf;subst hbf;refine PH (pa:=before) (pv:=[]) hW' (fun b sp hd => ?_) (fun sp hsp => ?_) (fun sp _ => ?_) (by simp) hg.below ?_
 ·rw [s1,hrt];exact trodAll_cons_mk (shut_bool hbt _) trodAll_mk0
 ·rw [s2,append_nil];exact J7 hg.block hps hA hsp
 ·rw [hvars,s3];rfl
 ·exact ok_one hrt rfl (okWide_bool_mk hbt _)
#print axioms Kh
end Ab
namespace Ab
open Go
def hk (l:List (Nat×List Nat)) (i:Nat):List Nat:=(l.lookup i).getD []
def kinds:List IntKind:=[.i8,.i16,.i32,.i64,.u8,.u16,.u32,.u64]
def tmOf:Option Nat→AV
 |none =>.undef
 |some 0 =>.t (.bool false)
 |some (n+1)=>if n<8 then .t (.int (kinds.getD n .i64) 0) else if n=19 then .t (.str ByteArray.empty) else if 99≤n then .t (.sl (n-99) []) else .undef
abbrev HTab:=List (Nat×List (Nat×List Nat)×List (Nat×List Nat)×List (Nat×List Nat)×List (Nat×List Nat)×List (Nat×Nat)×List Nat×List Nat×List Nat×List Nat×List (Nat×Nat))
def Xr (tab:HTab) (f:Nat):Hints:=
 match tab.lookup f with
 |some (a,b,c,d,r,t,i,j,k,m)=>{loop:=hk a,block:=hk b,cond:=hk c,reg:=hk d,rowsz:=fun x=>(r.lookup x).getD 0,tree:=t.contains,imm:=i.contains,immT:=j.contains,nilT:=k.contains,tm:=fun x=>tmOf (m.lookup x),split:=fun x=>(hk c x).contains 999999,only:=fun x=>if (hk c x).contains 999998 then 1 else if (hk c x).contains 999997 then 2 else 0}
 |none=>{loop:=fun _=>[],block:=fun _=>[],cond:=fun _=>[],reg:=fun _=>[],rowsz:=fun _=>0,tree:=fun _=>false,imm:=fun _=>false,immT:=fun _=>false,nilT:=fun _=>false,tm:=fun _ =>.undef}
end Ab
namespace Ab
open Go
def Ev (p:Nat→Prop):Prop:=∃N,∀n,N≤n→p n
theorem Ev.of {p:Nat→Prop} (h:∀n,p n):Ev p:=⟨0,fun n _=>h n⟩
theorem Ev.mono {p q:Nat→Prop} (h:∀n,p n→q n):Ev p→Ev q
 |⟨N,hN⟩=>⟨N,fun n hn=>h n (hN n hn)⟩
theorem Ev.and {p q:Nat→Prop}:Ev p→Ev q→Ev fun n=>p n∧q n
 |⟨N,hN⟩,⟨M,hM⟩=>⟨max N M,fun n hn=>⟨hN n (by omega),hM n (by omega)⟩⟩
theorem Ev.rw {R:Type} {H:Nat→Prop} {T T':Nat→R} {r:R} (hH:Ev H) (h:∀n,H n→T n=T' n) (k:Ev fun n=>T' n=r):Ev fun n=>T n=r:=
 (hH.and k).mono fun n x=>(h n x.1).trans x.2
theorem Ev.conv' {P Q:Nat→Prop} (h:∀n,Q n→P n) (k:Ev Q):Ev P:=k.mono h
theorem Ev.succ {p:Nat→Prop}:(Ev fun n=>p (n+1))→Ev p
 |⟨N,hN⟩=>⟨N+1,fun n hn=>by
  obtain ⟨m,rfl⟩:∃m,n=m+1:=⟨n-1,by omega⟩
  exact hN m (by omega)⟩
theorem Ev.ge (k:Nat):Ev fun n=>k≤n:=⟨k,fun _ h=>h⟩
def AL (C:Cfg) (f:FuncId) (xs ys:List Tree):Prop:=Ev fun n=>AA C n f xs=some ys
theorem AL.of {C:Cfg} {f:FuncId} {xs ys:List Tree} {g:Nat→Option (List Tree)} (h:∀n,AA C (n+1) f xs=g n) (k:Ev fun n=>g n=some ys):AL C f xs ys:=
 Ev.succ (k.mono fun n e=>(h n).trans e)
variable {R S α σ:Type}
theorem A9 {c:Prop} [Decidable c] (h:c) (a b:Option R):cnd c a b=a:=by rw [AB,if_pos h]
theorem CT {c:Prop} [Decidable c] (h:¬c) (a b:Option R):cnd c a b=b:=by rw [AB,if_neg h]
inductive Rd (σ Q:Type) where
 |next (s:σ)
 |done (r:Q)
def Rd.go {Q:Type} (again:σ→Option R) (out:Q→Option R):Rd σ Q→Option R
 | .next s=>again s
 | .done r=>out r
def Rd.fin {Q:Type} (res:σ→Q):Rd σ Q→Q
 | .next s=>res s
 | .done r=>r
theorem Rd.Aw {Q:Type} (again:σ→Option R) (out:Q→Option R) (s:σ):(Rd.next s:Rd σ Q).go again out=again s:=rfl
theorem Rd.Be {Q:Type} (again:σ→Option R) (out:Q→Option R) (r:Q):(Rd.done r:Rd σ Q).go again out=out r:=rfl
def CJ {Q:Type} (step:Nat→σ→α→Rd σ Q) (fin:σ→Q):Nat→List α→σ→Q
 |_,[],s=>fin s
 |i,x::l,s=>match step i s x with
  | .next s'=>CJ step fin (i+1) l s'
  | .done r=>r
theorem Pv {Z Q:Type} {B:Nat→Z→S→(S→Option R)→Option R} (l:List α) (st:Nat→σ→S) (step:Nat→σ→α→Rd σ Q) (fin:σ→Q) (out:Z→Q→Option R) (Inv:Nat→σ→Prop)
  (hstep:∀i s x,l[i]? = some x→Inv i s→Ev fun n=>∀z again,B n z (st i s) again=(step i s x).go (fun s'=>again (st (i+1) s')) (out z))
  (hinv:∀i s x s',l[i]? = some x→Inv i s→step i s x = .next s'→Inv (i+1) s')
  (hend:∀s,Inv l.length s→Ev fun n=>∀z again,B n z (st l.length s) again=out z (fin s)) :
  ∀(k i:Nat) (s:σ),i+k=l.length→Inv i s→Ev fun n=>∀z m,k<m→AH (B n z) m (st i s)=out z (CJ step fin i (l.drop i) s)
 |0,i,s,hi,hI=>by
  obtain rfl:i=l.length:=by omega
  refine (hend s hI).mono fun n h z m hm => ?_;obtain ⟨m,rfl⟩:∃q,m=q+1:=⟨m-1,by omega⟩
  show B n z _ _=_;rw [h];simp [CJ]
 |k+1,i,s,hi,hI=>by
  have hlt:i<l.length:=by omega
  have hx:l[i]? = some l[i]:=zO hlt;have hd:l.drop i=l[i]::l.drop (i+1):=xY hlt;cases hs:step i s l[i] with
  |next s'=>
   have ih:=Pv l st step fin out Inv hstep hinv hend k (i+1) s' (by omega) (hinv i s _ s' hx hI hs);refine ((hstep i s _ hx hI).and ih).mono fun n h z m hm => ?_;obtain ⟨m,rfl⟩:∃q,m=q+1:=⟨m-1,by omega⟩
   show B n z _ (AH (B n z) m)=_;rw [h.1,hs,hd];simp only [Rd.Aw,CJ,hs];exact h.2 z m (by omega)
  |done r=>
   refine (hstep i s _ hx hI).mono fun n h z m hm => ?_;obtain ⟨m,rfl⟩:∃q,m=q+1:=⟨m-1,by omega⟩
   show B n z _ (AH (B n z) m)=_;rw [h,hs,hd];simp only [Rd.Be,CJ,hs]
theorem S0 {Z Q:Type} {B:Nat→Z→S→(S→Option R)→Option R} (l:List α) (st:Nat→σ→S) (step:Nat→σ→α→Rd σ Q) (fin:σ→Q) (out:Z→Q→Option R) (Inv:Nat→σ→Prop) (s0:σ) (h0:Inv 0 s0)
  (hstep:∀i s x,l[i]? = some x→Inv i s→Ev fun n=>∀z again,B n z (st i s) again=(step i s x).go (fun s'=>again (st (i+1) s')) (out z))
  (hinv:∀i s x s',l[i]? = some x→Inv i s→step i s x = .next s'→Inv (i+1) s')
  (hend:∀s,Inv l.length s→Ev fun n=>∀z again,B n z (st l.length s) again=out z (fin s)) :
  Ev fun n=>∀z,AH (B n z) n (st 0 s0)=out z (CJ step fin 0 l s0):=by
 have h:=Pv l st step fin out Inv hstep hinv hend l.length 0 s0 (by omega) h0;refine (h.and (Ev.ge (l.length+1))).mono fun n x z => ?_;have:=x.1 z n (by omega);simpa using this
theorem My {Z Q:Type} {B:Nat→Z→S→(S→Option R)→Option R} (st:σ→S) (step:σ→Rd σ Q) (out:Z→Q→Option R) (Inv:σ→Prop) (μ:σ→Nat)
  (hstep:∀s,Inv s→Ev fun n=>∀z again,B n z (st s) again=(step s).go (fun s'=>again (st s')) (out z))
  (hinv:∀s s',Inv s→step s = .next s'→Inv s'∧μ s'<μ s) (res:σ→Q) (hres:∀s,Inv s→res s=(step s).fin res) :
  ∀(k:Nat) (s:σ),μ s≤k→Inv s→Ev fun n=>∀z m,k<m→AH (B n z) m (st s)=out z (res s)
 |k,s,hk,hI=>by
  cases hs:step s with
  |next s'=>
   obtain ⟨h1,h2⟩:=hinv s s' hI hs;obtain ⟨k,rfl⟩:∃q,k=q+1:=⟨k-1,by omega⟩
   have ih:=My st step out Inv μ hstep hinv res hres k s' (by omega) h1;refine ((hstep s hI).and ih).mono fun n h z m hm => ?_;obtain ⟨m,rfl⟩:∃q,m=q+1:=⟨m-1,by omega⟩
   show B n z _ (AH (B n z) m)=_;rw [h.1,hs,Rd.Aw,hres s hI,hs];show _=out z (res s');exact h.2 z m (by omega)
  |done r=>
   refine (hstep s hI).mono fun n h z m hm => ?_;obtain ⟨m,rfl⟩:∃q,m=q+1:=⟨m-1,by omega⟩
   show B n z _ (AH (B n z) m)=_;rw [h,hs,Rd.Be,hres s hI,hs];rfl
theorem W3 {Z Q:Type} {B:Nat→Z→S→(S→Option R)→Option R} (st:σ→S) (step:σ→Rd σ Q) (out:Z→Q→Option R) (Inv:σ→Prop) (μ:σ→Nat) (s0:σ) (h0:Inv s0)
  (hstep:∀s,Inv s→Ev fun n=>∀z again,B n z (st s) again=(step s).go (fun s'=>again (st s')) (out z))
  (hinv:∀s s',Inv s→step s = .next s'→Inv s'∧μ s'<μ s) (res:σ→Q) (hres:∀s,Inv s→res s=(step s).fin res) :
  Ev fun n=>∀z,AH (B n z) n (st s0)=out z (res s0):=by
 have h:=My st step out Inv μ hstep hinv res hres (μ s0) s0 (yE _) h0;exact (h.and (Ev.ge (μ s0+1))).mono fun n x z=>x.1 z n (by omega)
theorem F7 {Z Q:Type} {B:Nat→Z→S→(S→Option R)→Option R} {s:S} {r:Q} (l:List α) (st:Nat→σ→S) (step:Nat→σ→α→Rd σ Q) (fin:σ→Q) (out:Z→Q→Option R) (Inv:Nat→σ→Prop) (s0:σ) (hs:s=st 0 s0) (h0:Inv 0 s0) (hr:CJ step fin 0 l s0=r)
  (hstep:∀i s x,l[i]? = some x→Inv i s→Ev fun n=>∀z again,B n z (st i s) again=(step i s x).go (fun s'=>again (st (i+1) s')) (out z))
  (hinv:∀i s x s',l[i]? = some x→Inv i s→step i s x = .next s'→Inv (i+1) s')
  (hend:∀s,Inv l.length s→Ev fun n=>∀z again,B n z (st l.length s) again=out z (fin s)) :
  Ev fun n=>∀z,AH (B n z) n s=out z r:=by
 subst hs;subst hr;exact S0 l st step fin out Inv s0 h0 hstep hinv hend
theorem TC {i:Decidable True} (a b:Option R):cnd True a b=a:=A9 trivial a b
theorem QK {i:Decidable False} (a b:Option R):cnd False a b=b:=CT id a b
theorem wrap64 (x:Int):IntKind.wrap .i64 x=(x+9223372036854775808) % 18446744073709551616-9223372036854775808:=by simp only [IntKind.wrap,IntKind.signed,IntKind.bits];simp;omega
theorem wrap_id {x:Int} (h1 : -9223372036854775808≤x) (h2:x<9223372036854775808):IntKind.wrap .i64 x=x:=by rw [wrap64];omega
abbrev tI (n:Int):Tree :=.int .i64 n
abbrev w64 (n:Int):Int:=IntKind.wrap .i64 n
def vI (p:List AV×Heap) (k:Nat):Int:=intOf (AG (p.1.getD k .undef))
def vB (p:List AV×Heap) (k:Nat):Bool:=BN (AG (p.1.getD k .undef))
def vS (p:List AV×Heap) (k:Nat):ByteArray:=strOf (AG (p.1.getD k .undef))
def vL (p:List AV×Heap) (k:Nat):List (List Tree):=Cx (AG (p.1.getD k .undef))
def Bg (p:List AV×Heap) (k:Nat):Nat:=FN (p.1.getD k .undef)
def CO (p:List AV×Heap) (k:Nat):Nat:=HT (p.1.getD k .undef)
def Ak (p:List AV×Heap) (k:Nat):Nat:=HU (p.1.getD k .undef)
def AE (p:List AV×Heap) (k:Nat):Nat:=AF.ver (p.2.getD k default)
def oMs (p:List AV×Heap) (k:Nat):List (Int×Int):=Nr (p.2.getD k default)
def oEs (p:List AV×Heap) (k:Nat):List (List Tree):=CA (p.2.getD k default)
def cI (p:List AV×Heap) (k j:Nat):Int:=intOf (AG (cellOf (p.2.getD k default) j))
def cB (p:List AV×Heap) (k j:Nat):Bool:=BN (AG (cellOf (p.2.getD k default) j))
def cS (p:List AV×Heap) (k j:Nat):ByteArray:=strOf (AG (cellOf (p.2.getD k default) j))
def cL (p:List AV×Heap) (k j:Nat):List (List Tree):=Cx (AG (cellOf (p.2.getD k default) j))
def AK (p:List AV×Heap) (k j:Nat):Nat:=FN (cellOf (p.2.getD k default) j)
def AR (p:List AV×Heap) (k j:Nat):Nat:=HT (cellOf (p.2.getD k default) j)
def AJ (p:List AV×Heap) (k j:Nat):Nat:=HU (cellOf (p.2.getD k default) j)
def aI (p:List AV×Heap) (k j:Nat):Int:=intOf (AG (cellOf (.box (D1 (p.1.getD k .undef))) j))
def aB (p:List AV×Heap) (k j:Nat):Bool:=BN (AG (cellOf (.box (D1 (p.1.getD k .undef))) j))
def aS (p:List AV×Heap) (k j:Nat):ByteArray:=strOf (AG (cellOf (.box (D1 (p.1.getD k .undef))) j))
def aL (p:List AV×Heap) (k j:Nat):List (List Tree):=Cx (AG (cellOf (.box (D1 (p.1.getD k .undef))) j))
def gI (y:List Tree) (k:Nat):Int:=intOf (y.getD k default)
def gB (y:List Tree) (k:Nat):Bool:=BN (y.getD k default)
def gS (y:List Tree) (k:Nat):ByteArray:=strOf (y.getD k default)
def gL (y:List Tree) (k:Nat):List (List Tree):=Cx (y.getD k default)
def okI (y:List Tree) (k:Nat):Prop:=EO .i64 (y.getD k default)=true
def okB (y:List Tree) (k:Nat):Prop:=EJ (y.getD k default)=true
def okS (y:List Tree) (k:Nat):Prop:=FZ (y.getD k default)=true
def okL (z:Nat) (y:List Tree) (k:Nat):Prop:=Fh z (y.getD k default)=true
instance (y:List Tree) (k:Nat):Decidable (okI y k):=inferInstanceAs (Decidable (_=true))
instance (y:List Tree) (k:Nat):Decidable (okB y k):=inferInstanceAs (Decidable (_=true))
instance (y:List Tree) (k:Nat):Decidable (okS y k):=inferInstanceAs (Decidable (_=true))
instance (z:Nat) (y:List Tree) (k:Nat):Decidable (okL z y k):=inferInstanceAs (Decidable (_=true))
theorem BE {i:Nat} (h:i<4611686018427387904):w64 ((i:Int)+1)=((i+1:Nat):Int):=by show IntKind.wrap .i64 _=_;rw [wrap64];omega
theorem Mz {i:Nat} (h:i<4611686018427387904) (h0:0<i):w64 ((i:Int)-1)=((i-1:Nat):Int):=by show IntKind.wrap .i64 _=_;rw [wrap64];omega
theorem AN {x:Int} (h1 : -9223372036854775808≤x) (h2:x<9223372036854775808):w64 x=x:=wrap_id h1 h2
theorem C4 {Q:Type} (f:σ→α→σ) (fin:σ→Q):∀(i:Nat) (l:List α) (s:σ),CJ (fun _ s x =>.next (f s x)) fin i l s=fin (l.foldl f s)
 |_,[],_=>rfl
 |i,x::l,s=>by show CJ (fun _ s x =>.next (f s x)) fin (i+1) l (f s x)=_;rw [C4 f fin (i+1) l];rfl
theorem AW {l:List α} {i:Nat} {x:α} (h:l[i]? = some x):i<l.length:=(List.getElem?_eq_some_iff.1 h).1
theorem JX (c:Prop) [Decidable c] (a b:Bool):cnd c (some [Tree.bool a]) (some [Tree.bool b])=some [Tree.bool (if c then a else b)]:=by rw [AB];split<;>rfl
theorem A7 {Q:Type} {B:Nat→S→(S→Option R)→Option R} {s:S} (out:Q→R) (l:List α) (st:Nat→σ→S) (step:Nat→σ→α→Rd σ Q) (fin:σ→Q) (Inv:Nat→σ→Prop) (s0:σ) (hs:s=st 0 s0) (h0:Inv 0 s0) {r:Q} (hr:CJ step fin 0 l s0=r)
  (hstep:∀i s x,l[i]? = some x→Inv i s→Ev fun n=>∀again,B n (st i s) again=(step i s x).go (fun s'=>again (st (i+1) s')) (fun q=>some (out q)))
  (hinv:∀i s x s',l[i]? = some x→Inv i s→step i s x = .next s'→Inv (i+1) s')
  (hend:∀s,Inv l.length s→Ev fun n=>∀again,B n (st l.length s) again=some (out (fin s))) :
  Ev fun n=>AH (B n) n s=some (out r):=by
 subst hs;subst hr;exact (S0 (Z:=Unit) (B:=fun n _=>B n) l st step fin (fun _ q=>some (out q)) Inv s0 h0 (fun i s x hx hI=>(hstep i s x hx hI).mono fun n h _=>h) hinv fun s hI=>(hend s hI).mono fun n h _=>h).mono fun n h=>h ()
theorem Dj {Z Q:Type} {B:Nat→Z→S→(S→Option R)→Option R} {s:S} {r:Q} (out:Z→Q→Option R) (st:σ→S) (step:σ→Rd σ Q) (Inv:σ→Prop) (μ:σ→Nat) (res:σ→Q) (s0:σ) (hs:s=st s0) (h0:Inv s0) (hr:res s0=r)
  (hstep:∀s,Inv s→Ev fun n=>∀z again,B n z (st s) again=(step s).go (fun s'=>again (st s')) (out z))
  (hinv:∀s s',Inv s→step s = .next s'→Inv s'∧μ s'<μ s) (hres:∀s,Inv s→res s=(step s).fin res) :
  Ev fun n=>∀z,AH (B n z) n s=out z r:=by
 subst hs;subst hr;exact W3 st step out Inv μ s0 h0 hstep hinv res hres
theorem Hh {Q:Type} {B:Nat→S→(S→Option R)→Option R} {s:S} {r:Q} (out:Q→R) (st:σ→S) (step:σ→Rd σ Q) (Inv:σ→Prop) (μ:σ→Nat) (res:σ→Q) (s0:σ) (hs:s=st s0) (h0:Inv s0) (hr:res s0=r)
  (hstep:∀s,Inv s→Ev fun n=>∀again,B n (st s) again=(step s).go (fun s'=>again (st s')) (fun q=>some (out q)))
  (hinv:∀s s',Inv s→step s = .next s'→Inv s'∧μ s'<μ s) (hres:∀s,Inv s→res s=(step s).fin res) :
  Ev fun n=>AH (B n) n s=some (out r):=
 (Dj (Z:=Unit) (B:=fun n _=>B n) (fun _ q=>some (out q)) st step Inv μ res s0 hs h0 hr (fun s hI=>(hstep s hI).mono fun n h _=>h) hinv hres).mono fun n h=>h ()
theorem R9 (p:α→Bool):∀(i:Nat) (l:List α),CJ (fun _ (_:Unit) x=>if p x=true then .done true else .next ()) (fun _=>false) i l ()=l.any p
 |_,[]=>rfl
 |i,x::l=>by
  by_cases h:p x=true
  ·simp [CJ,h]
  ·simp only [CJ,h,List.any_cons];simp at h;simp [R9 p (i+1) l]
theorem SA {Q:Type} (p:α→Bool) (a b:Q):∀(i:Nat) (l:List α),CJ (fun _ (_:Unit) x=>if p x=true then .next () else .done a) (fun _=>b) i l ()=if l.all p=true then b else a
 |_,[]=>rfl
 |i,x::l=>by
  by_cases h:p x=true
  ·simp [CJ,h,SA p a b (i+1) l]
  ·simp [CJ,h]
def RD [DecidableEq α] (b:List α) (i:Nat) (_:Unit) (x:α):Rd Unit Bool:=if b[i]? = some x then .next () else .done false
theorem Y1 [DecidableEq α] (b:List α):∀(a:List α) (i:Nat),i+a.length=b.length→CJ (RD b) (fun _=>true) i a ()=decide (a=b.drop i)
 |[],i,h=>by have:b.drop i=[]:=List.drop_eq_nil_of_le (by simp at h;omega);simp [CJ,this]
 |x::a,i,h=>by
  have hi:i<b.length:=by simp at h;omega
  have hd:b.drop i=b[i]::b.drop (i+1):=xY hi;have hb:b[i]? = some b[i]:=zO hi;have ih:=Y1 b a (i+1) (by simp at h;omega);simp only [CJ,RD,hb,hd];by_cases hx:b[i]=x
  ·simp only [hx,if_true];exact ih.trans (by simp)
  ·have hx2:¬x=b[i]:=fun e=>hx e.symm;simp only [Option.some.injEq,hx,if_false,List.cons.injEq,hx2,false_and,decide_false]
theorem vI_mk (e:List AV) (h:Heap) (k:Nat):vI (e,h) k=intOf (AG (e.getD k .undef)):=id rfl
theorem PV (e:List AV) (h:Heap) (k:Nat):vB (e,h) k=BN (AG (e.getD k .undef)):=id rfl
theorem vS_mk (e:List AV) (h:Heap) (k:Nat):vS (e,h) k=strOf (AG (e.getD k .undef)):=id rfl
theorem vL_mk (e:List AV) (h:Heap) (k:Nat):vL (e,h) k=Cx (AG (e.getD k .undef)):=id rfl
theorem VQ (e:List AV) (h:Heap) (k:Nat):Bg (e,h) k=FN (e.getD k .undef):=id rfl
theorem VR (e:List AV) (h:Heap) (k:Nat):CO (e,h) k=HT (e.getD k .undef):=id rfl
theorem VS (e:List AV) (h:Heap) (k:Nat):Ak (e,h) k=HU (e.getD k .undef):=id rfl
theorem oVer_mk (e:List AV) (h:Heap) (k:Nat):AE (e,h) k=AF.ver (h.getD k default):=id rfl
theorem oMs_mk (e:List AV) (h:Heap) (k:Nat):oMs (e,h) k=Nr (h.getD k default):=id rfl
theorem UK (k ke:IntKind) (es:List (Int×Int)):Nr (.mapo k ke es)=es:=id rfl
theorem oEs_mk (e:List AV) (h:Heap) (k:Nat):oEs (e,h) k=CA (h.getD k default):=id rfl
theorem cI_mk (e:List AV) (h:Heap) (k j:Nat):cI (e,h) k j=intOf (AG (cellOf (h.getD k default) j)):=id rfl
theorem cB_mk (e:List AV) (h:Heap) (k j:Nat):cB (e,h) k j=BN (AG (cellOf (h.getD k default) j)):=id rfl
theorem cS_mk (e:List AV) (h:Heap) (k j:Nat):cS (e,h) k j=strOf (AG (cellOf (h.getD k default) j)):=id rfl
theorem cL_mk (e:List AV) (h:Heap) (k j:Nat):cL (e,h) k j=Cx (AG (cellOf (h.getD k default) j)):=id rfl
theorem cVer_mk (e:List AV) (h:Heap) (k j:Nat):AK (e,h) k j=FN (cellOf (h.getD k default) j):=id rfl
theorem cOff_mk (e:List AV) (h:Heap) (k j:Nat):AR (e,h) k j=HT (cellOf (h.getD k default) j):=id rfl
theorem cLen_mk (e:List AV) (h:Heap) (k j:Nat):AJ (e,h) k j=HU (cellOf (h.getD k default) j):=id rfl
theorem aI_mk (e:List AV) (h:Heap) (k j:Nat):aI (e,h) k j=intOf (AG ((D1 (e.getD k .undef)).getD j .undef)):=id rfl
theorem aB_mk (e:List AV) (h:Heap) (k j:Nat):aB (e,h) k j=BN (AG ((D1 (e.getD k .undef)).getD j .undef)):=id rfl
theorem aS_mk (e:List AV) (h:Heap) (k j:Nat):aS (e,h) k j=strOf (AG ((D1 (e.getD k .undef)).getD j .undef)):=id rfl
theorem aL_mk (e:List AV) (h:Heap) (k j:Nat):aL (e,h) k j=Cx (AG ((D1 (e.getD k .undef)).getD j .undef)):=id rfl
theorem QY (cs:List AV):D1 (.agg cs)=cs:=id rfl
theorem join_eq {S:Type} (J:S→Option R) (f:(S→Option R)→Option R):join J f=f J:=id rfl
theorem Vz (x:Tree) (l:List Tree):gI (x::l) 0=intOf x:=id rfl
theorem V0 (x:Tree) (l:List Tree) (k:Nat):gI (x::l) (k+1)=gI l k:=id rfl
theorem V1 (x:Tree) (l:List Tree):gB (x::l) 0=BN x:=id rfl
theorem V2 (x:Tree) (l:List Tree) (k:Nat):gB (x::l) (k+1)=gB l k:=id rfl
theorem Vv (x:Tree) (l:List Tree):gS (x::l) 0=strOf x:=id rfl
theorem Vw (x:Tree) (l:List Tree) (k:Nat):gS (x::l) (k+1)=gS l k:=id rfl
theorem Vx (x:Tree) (l:List Tree):gL (x::l) 0=Cx x:=id rfl
theorem Vy (x:Tree) (l:List Tree) (k:Nat):gL (x::l) (k+1)=gL l k:=id rfl
theorem SR (x:Tree) (l:List Tree):okI (x::l) 0=(EO .i64 x=true):=id rfl
theorem SS (x:Tree) (l:List Tree) (k:Nat):okI (x::l) (k+1)=okI l k:=id rfl
theorem SU (x:Tree) (l:List Tree):okB (x::l) 0=(EJ x=true):=id rfl
theorem SV (x:Tree) (l:List Tree) (k:Nat):okB (x::l) (k+1)=okB l k:=id rfl
theorem SN (x:Tree) (l:List Tree):okS (x::l) 0=(FZ x=true):=id rfl
theorem SO (x:Tree) (l:List Tree) (k:Nat):okS (x::l) (k+1)=okS l k:=id rfl
theorem SP (z:Nat) (x:Tree) (l:List Tree):okL z (x::l) 0=(Fh z x=true):=id rfl
theorem SQ (z:Nat) (x:Tree) (l:List Tree) (k:Nat):okL z (x::l) (k+1)=okL z l k:=id rfl
theorem N1 (k:IntKind) (n:Int):EO k (.int k n)=true:=decide_eq_true rfl
theorem Kj (b:Bool):EJ (.bool b)=true:=id rfl
theorem N0 (b:ByteArray):FZ (.str b)=true:=id rfl
theorem Sn (z:Nat) (es:List (List Tree)):Fh z (.sl z es)=true:=by simp [Fh]
theorem intOf_int (k:IntKind) (n:Int):intOf (.int k n)=n:=id rfl
theorem MX (b:Bool):BN (.bool b)=b:=id rfl
theorem PZ (b:ByteArray):strOf (.str b)=b:=id rfl
theorem VM (z:Nat) (es:List (List Tree)):Cx (.sl z es)=es:=id rfl
theorem Rv (x:Tree):AG (.t x)=x:=id rfl
theorem NG (i v o l:Nat):FN (.sref i v o l)=v:=id rfl
theorem NH (i v k o:Nat):FN (.rptr i v k o)=v:=id rfl
theorem NI (i v o l:Nat):HT (.sref i v o l)=o:=id rfl
theorem NJ (i v o l:Nat):HU (.sref i v o l)=l:=id rfl
theorem J5 (f:Bool) (v z:Nat) (es:List (List Tree)):AF.ver (.row f v z es)=v:=id rfl
theorem IL (f:Bool) (v z:Nat) (es:List (List Tree)):CA (.row f v z es)=es:=id rfl
theorem OP (cs:List AV) (j:Nat):cellOf (.box cs) j=cs.getD j .undef:=id rfl
end Ab
namespace Ab
open Go
variable {R S α σ Q:Type}
theorem W4 {α:Type} {p:Nat→Prop} (h:Ev p):Ev fun n=>∀_:α,p n:=h.mono fun n x _=>x
theorem wrapU64 (x:Int):IntKind.wrap .u64 x=x % 18446744073709551616:=by simp only [IntKind.wrap,IntKind.signed,IntKind.bits];simp
theorem halfU (a b:Nat) (h:a+b<4611686018427387904):w64 (EM .u64 (IntKind.wrap .u64 (w64 ((a:Int)+(b:Int)))) 1)=(((a+b) / 2:Nat):Int):=by
 have e1:IntKind.wrap .u64 (w64 ((a:Int)+(b:Int)))=((a+b:Nat):Int):=by rw [AN (by omega) (by omega),wrapU64];omega
 have e2:EM .u64 ((a+b:Nat):Int) 1=(((a+b) / 2:Nat):Int):=by show Int.fdiv ((a+b:Nat):Int) (2 ^ min (toNat 1) (IntKind.bits .u64))=_;rw [show (2:Int) ^ min (toNat 1) (IntKind.bits .u64)=2 from rfl,Int.fdiv_eq_ediv_of_nonneg _ (by omega)];omega
 rw [e1,e2,AN (by omega) (by omega)]
def Ls (lt:α→Bool) (l:List α) (fin:Nat→Q) (s:Nat×Nat):Rd (Nat×Nat) Q:=
 if s.1<s.2 then match l[(s.1+s.2) / 2]? with
  |some x=>if lt x=true then .next ((s.1+s.2) / 2+1,s.2) else .next (s.1,(s.1+s.2) / 2)
  |none =>.next (s.2,s.2)
 else .done (fin s.1)
def BsInv (lt:α→Bool) (l:List α) (s:Nat×Nat):Prop:=s.1≤s.2∧s.2≤l.length∧(∀(j:Nat) x,j<s.1→l[j]? = some x→lt x=true)∧∀(j:Nat) x,s.2≤j→l[j]? = some x→lt x=false
theorem QJ {lt:α→Bool} {l:List α} {k:Nat} (hk:k≤l.length) (h1:∀(j:Nat) x,j<k→l[j]? = some x→lt x=true) (h2:∀(j:Nat) x,k≤j→l[j]? = some x→lt x=false):k=l.countP lt:=by
 conv=>rhs;rw [← take_append_drop k l]
 rw [List.countP_append,List.countP_eq_length.2,List.countP_eq_zero.2]
 ·simp;omega
 ·intro x hx;obtain ⟨j,hj⟩:=List.mem_iff_getElem?.1 hx;rw [zN] at hj;simp [h2 _ _ (by omega) hj]
 ·intro x hx;obtain ⟨j,hj⟩:=List.mem_iff_getElem?.1 hx;have hjk:j<k:=by have:=AW hj;simp at this;omega
  rw [zT hjk] at hj;exact h1 _ _ hjk hj
def Down (lt:α→Bool) (l:List α):Prop:=∀(i j:Nat) x y,i≤j→l[i]? = some x→l[j]? = some y→lt y=true→lt x=true
theorem ZK {Z:Type} {B:Nat→Z→S→(S→Option R)→Option R} {s:S} (out:Z→Q→Option R) (lt:α→Bool) (l:List α) (fin:Nat→Q) (st:Nat×Nat→S) (hd:Down lt l) (hs:s=st (0,l.length))
  (hstep:∀s,s.1≤s.2→s.2≤l.length→(¬s.1<s.2→s.1=l.countP lt)→Ev fun n=>∀z again,B n z (st s) again=(Ls lt l fin s).go (fun s'=>again (st s')) (out z)) :
  Ev fun n=>∀z,AH (B n z) n s=out z (fin (l.countP lt)):=by
 refine Dj (r:=fin (l.countP lt)) out st (Ls lt l fin) (BsInv lt l) (fun s=>s.2-s.1) (fun _=>fin (l.countP lt)) (0,l.length) hs ⟨by simp,by simp,fun j x h=>by simp at h,fun j x h hx=>by have:=AW hx;simp at h;omega⟩ rfl
  (fun s hI=>hstep s hI.1 hI.2.1 fun hn => ?_) (fun s s' hI hs' => ?_) (fun s hI => ?_)
 ·obtain ⟨a,b⟩:=s;obtain ⟨i1,i2,i3,i4⟩:=hI;simp only at i1 i2 i3 i4 hn ⊢;obtain rfl:a=b:=by omega
  exact QJ i2 i3 i4
 ·obtain ⟨a,b⟩:=s;obtain ⟨i1,i2,i3,i4⟩:=hI;simp only at i1 i2 i3 i4;unfold Ls at hs';simp only at hs';split at hs'
  ·rename_i hab;split at hs'
   ·rename_i x hx;split at hs'
    ·rename_i hxe;cases hs';refine ⟨⟨by simp only;omega,i2,fun j y hj hy => ?_,i4⟩,by simp only;omega⟩;simp only at hj;exact hd j ((a+b) / 2) y x (by omega) hy hx hxe
    ·rename_i hxe;cases hs';refine ⟨⟨by simp only;omega,by simp only;omega,i3,fun j y hj hy => ?_⟩,by simp only;omega⟩;simp only at hj;cases hye:lt y with
     |false=>rfl
     |true=>exact absurd (hd ((a+b) / 2) j x y hj hx hy hye) hxe
   ·rename_i hx;rw [zO (by omega)] at hx;cases hx
  ·cases hs'
 ·obtain ⟨a,b⟩:=s;obtain ⟨i1,i2,i3,i4⟩:=hI;simp only at i1 i2 i3 i4;unfold Ls;simp only;split
  ·split
   ·split<;>rfl
   ·rfl
  ·obtain rfl:a=b:=by omega
   simp only [Rd.fin];rw [← QJ i2 i3 i4]
theorem MV {lt:α→Bool}:∀{l:List α},Down lt l→l.take (l.countP lt)=l.takeWhile lt∧l.drop (l.countP lt)=l.dropWhile lt
 |[],_=>⟨rfl,rfl⟩
 |x::l,hd=>by
  have hd':Down lt l:=fun i j a b hij ha hb h=>hd (i+1) (j+1) a b (by omega) (by simpa using ha) (by simpa using hb) h;obtain ⟨h1,h2⟩:=MV hd';cases hx:lt x with
  |true=>simp [hx,h1,h2]
  |false=>
   have hz:l.countP lt=0:=by rw [List.countP_eq_zero];intro y hy hly;obtain ⟨j,hj⟩:=List.mem_iff_getElem?.1 hy;have:=hd 0 (j+1) x y (by omega) rfl (by simpa using hj) hly;rw [hx] at this;cases this
   simp [hx,hz]
def Ji (g:α→Bool) (b:α):List α→List α
 |[]=>[b]
 |x::l=>if g x=true then b::x::l else x::Ji g b l
theorem Vp (g:α→Bool) (b:α):∀(l:List α),Ji g b l=l.takeWhile (fun x => !g x)++b::l.dropWhile (fun x => !g x)
 |[]=>rfl
 |x::l=>by
  unfold Ji;cases h:g x with
  |true=>simp [h]
  |false=>simp [h,Vp g b l]
theorem N4 (g:α→Bool) (b:α):∀(l:List α) (x:α),x∈Ji g b l↔x=b∨x∈l
 |[],x=>by simp [Ji]
 |y::l,x=>by
  unfold Ji;split
  ·simp
  ·rw [xL,N4 g b l,xL];constructor
   ·rintro (h|h|h)
    ·exact .inr (.inl h)
    ·exact .inl h
    ·exact .inr (.inr h)
   ·rintro (h|h|h)
    ·exact .inr (.inl h)
    ·exact .inl h
    ·exact .inr (.inr h)
theorem Ss (g:α→Bool) (b:α):∀(l:List α),(Ji g b l).length=l.length+1
 |[]=>rfl
 |y::l=>by
  unfold Ji;split
  ·simp
  ·simp [Ss g b l]
theorem JP {Rl:α→α→Prop} {g:α→Bool} {b:α}:∀{l:List α},l.Pairwise Rl→(∀x∈l,g x=true→Rl b x)→(∀x∈l,g x=false→Rl x b)→(∀x∈l,∀y∈l,Rl x y→g x=true→g y=true)→(Ji g b l).Pairwise Rl
 |[],_,_,_,_=>by simp [Ji]
 |x::l,hp,h1,h2,h3=>by
  rw [wM] at hp;unfold Ji;split
  ·rename_i hg;rw [wM];refine ⟨fun y hy => ?_,wM.2 hp⟩;rcases xL.1 hy with rfl|hm
   ·exact h1 _ (by simp) hg
   ·exact h1 y hy (h3 x (by simp) y hy (hp.1 y hm) hg)
  ·rename_i hg;rw [wM];refine ⟨fun y hy => ?_,JP hp.2 (fun y hy=>h1 y (by simp [hy])) (fun y hy=>h2 y (by simp [hy])) fun y hy z hz=>h3 y (by simp [hy]) z (by simp [hz])⟩;rcases (N4 g b l y).1 hy with rfl|hy
   ·exact h2 x (by simp) (by simpa using hg)
   ·exact hp.1 y hy
theorem Sw (p:α→Bool):∀(l:List α) (i:Nat),CJ (fun i (_:Unit) (x:α)=>if p x=true then .done (i:Int) else .next ()) (fun _=>(-1:Int)) i l ()=((l.findIdx? p).map fun j=>((i+j:Nat):Int)).getD (-1)
 |[],i=>rfl
 |x::l,i=>by
  cases hx:p x with
  |true=>simp [CJ,hx,List.findIdx?_cons]
  |false=>
   simp only [CJ,hx,List.findIdx?_cons];have:=Sw p l (i+1);simp only [zF,if_false] at this ⊢;rw [this,Option.map_map];congr 2;funext j;simp only [Function.comp_apply];omega
def idx (p:α→Bool) (l:List α):Int:=((l.findIdx? p).map fun j=>((j:Nat):Int)).getD (-1)
theorem W2 (p:α→Bool) (l:List α):CJ (fun i (_:Unit) (x:α)=>if p x=true then .done (i:Int) else .next ()) (fun _=>(-1:Int)) 0 l ()=idx p l:=by have:=Sw p l 0;simpa [idx] using this
theorem UT (p:α→Bool) (l:List α):0≤idx p l↔l.any p=true:=by
 unfold idx;cases h:l.findIdx? p with
 |none=>
  rw [List.findIdx?_eq_none_iff] at h;simp only [wN,getD_none];constructor
  ·intro h;omega
  ·intro h2;rw [xX] at h2;obtain ⟨x,hx,hp⟩:=h2;simp [h x hx] at hp
 |some j=>
  simp only [yP,Option.getD_some];rw [List.findIdx?_eq_some_iff_getElem] at h;obtain ⟨h1,h2,_⟩:=h;constructor
  ·intro _;rw [xX];exact ⟨_,wE h1,h2⟩
  ·intro _;omega
end Ab
namespace Ab
open Go
theorem vv :
  (∀(e:List AV) (h:Heap) (k:Nat),oMs (e,h) k=Nr (List.getD h k default))∧
  (∀(k ke:IntKind) (es:List (Int×Int)),Nr (.mapo k ke es)=es)∧
  (∀(e:List AV) (h:Heap) (k:Nat),vI (e,h) k=intOf (AG (List.getD e k AV.undef)))∧
  (∀(e:List AV) (h:Heap) (k:Nat),vB (e,h) k=BN (AG (List.getD e k AV.undef)))∧
  (∀(e:List AV) (h:Heap) (k:Nat),vS (e,h) k=strOf (AG (List.getD e k AV.undef)))∧
  (∀(e:List AV) (h:Heap) (k:Nat),vL (e,h) k=Cx (AG (List.getD e k AV.undef)))∧
  (∀(e:List AV) (h:Heap) (k:Nat),Bg (e,h) k=FN (List.getD e k AV.undef))∧
  (∀(e:List AV) (h:Heap) (k:Nat),CO (e,h) k=HT (List.getD e k AV.undef))∧
  (∀(e:List AV) (h:Heap) (k:Nat),Ak (e,h) k=HU (List.getD e k AV.undef))∧
  (∀(e:List AV) (h:Heap) (k:Nat),AE (e,h) k=AF.ver (List.getD h k default))∧
  (∀(e:List AV) (h:Heap) (k:Nat),oEs (e,h) k=CA (List.getD h k default))∧
  (∀(e:List AV) (h:Heap) (k j:Nat),cI (e,h) k j=intOf (AG (cellOf (List.getD h k default) j)))∧
  (∀(e:List AV) (h:Heap) (k j:Nat),cB (e,h) k j=BN (AG (cellOf (List.getD h k default) j)))∧
  (∀(e:List AV) (h:Heap) (k j:Nat),cS (e,h) k j=strOf (AG (cellOf (List.getD h k default) j)))∧
  (∀(e:List AV) (h:Heap) (k j:Nat),cL (e,h) k j=Cx (AG (cellOf (List.getD h k default) j)))∧
  (∀(e:List AV) (h:Heap) (k j:Nat),AK (e,h) k j=FN (cellOf (List.getD h k default) j))∧
  (∀(e:List AV) (h:Heap) (k j:Nat),AR (e,h) k j=HT (cellOf (List.getD h k default) j))∧
  (∀(e:List AV) (h:Heap) (k j:Nat),AJ (e,h) k j=HU (cellOf (List.getD h k default) j))∧
  (∀(x:Tree) (l:List Tree),gI (x::l) (0:Nat)=intOf x)∧
  (∀(x:Tree) (l:List Tree) (k:Nat),gI (x::l) (k+(1:Nat))=gI l k)∧
  (∀(x:Tree) (l:List Tree),gB (x::l) (0:Nat)=BN x)∧
  (∀(x:Tree) (l:List Tree) (k:Nat),gB (x::l) (k+(1:Nat))=gB l k)∧
  (∀(x:Tree) (l:List Tree),gS (x::l) (0:Nat)=strOf x)∧
  (∀(x:Tree) (l:List Tree) (k:Nat),gS (x::l) (k+(1:Nat))=gS l k)∧
  (∀(x:Tree) (l:List Tree),gL (x::l) (0:Nat)=Cx x)∧
  (∀(x:Tree) (l:List Tree) (k:Nat),gL (x::l) (k+(1:Nat))=gL l k)∧
  (∀(x:Tree) (l:List Tree),okI (x::l) (0:Nat)=(EO IntKind.i64 x=true))∧
  (∀(x:Tree) (l:List Tree) (k:Nat),okI (x::l) (k+(1:Nat))=okI l k)∧
  (∀(x:Tree) (l:List Tree),okB (x::l) (0:Nat)=(EJ x=true))∧
  (∀(x:Tree) (l:List Tree) (k:Nat),okB (x::l) (k+(1:Nat))=okB l k)∧
  (∀(x:Tree) (l:List Tree),okS (x::l) (0:Nat)=(FZ x=true))∧
  (∀(x:Tree) (l:List Tree) (k:Nat),okS (x::l) (k+(1:Nat))=okS l k)∧
  (∀(z:Nat) (x:Tree) (l:List Tree),okL z (x::l) (0:Nat)=(Fh z x=true))∧
  (∀(z:Nat) (x:Tree) (l:List Tree) (k:Nat),okL z (x::l) (k+(1:Nat))=okL z l k)∧
  (∀(k:IntKind) (n:Int),EO k (Tree.int k n)=true)∧
  (∀(b:Bool),EJ (Tree.bool b)=true)∧
  (∀(b:ByteArray),FZ (Tree.str b)=true)∧
  (∀(z:Nat) (es:List (List Tree)),Fh z (Tree.sl z es)=true)∧
  (∀(k:IntKind) (n:Int),intOf (Tree.int k n)=n)∧
  (∀(b:Bool),BN (Tree.bool b)=b)∧
  (∀(b:ByteArray),strOf (Tree.str b)=b)∧
  (∀(z:Nat) (es:List (List Tree)),Cx (Tree.sl z es)=es)∧
  (∀(x:Tree),AG (AV.t x)=x)∧
  (∀(i v o l:Nat),FN (AV.sref i v o l)=v)∧
  (∀(i v k o:Nat),FN (AV.rptr i v k o)=v)∧
  (∀(i v o l:Nat),HT (AV.sref i v o l)=o)∧
  (∀(i v o l:Nat),HU (AV.sref i v o l)=l)∧
  (∀(f:Bool) (v z:Nat) (es:List (List Tree)),AF.ver (AF.row f v z es)=v)∧
  (∀(f:Bool) (v z:Nat) (es:List (List Tree)),CA (AF.row f v z es)=es)∧
  (∀(cs:List AV) (j:Nat),cellOf (AF.box cs) j=List.getD cs j AV.undef)∧
  (∀(e:List AV) (h:Heap) (k j:Nat),aI (e,h) k j=intOf (AG (List.getD (D1 (List.getD e k AV.undef)) j AV.undef)))∧
  (∀(e:List AV) (h:Heap) (k j:Nat),aB (e,h) k j=BN (AG (List.getD (D1 (List.getD e k AV.undef)) j AV.undef)))∧
  (∀(e:List AV) (h:Heap) (k j:Nat),aS (e,h) k j=strOf (AG (List.getD (D1 (List.getD e k AV.undef)) j AV.undef)))∧
  (∀(e:List AV) (h:Heap) (k j:Nat),aL (e,h) k j=Cx (AG (List.getD (D1 (List.getD e k AV.undef)) j AV.undef)))∧
  (∀(cs:List AV),D1 (AV.agg cs)=cs)∧
  (∀{R S:Type} (J:S→Option R) (f:(S→Option R)→Option R),join J f=f J)∧
  (∀{α:Type} {x:α} {xs:List α} {d:α},List.getD (x::xs) (0:Nat) d=x)∧
  (∀{α:Type} {x:α} {xs:List α} {n:Nat} {d:α},List.getD (x::xs) (n+(1:Nat)) d=List.getD xs n d)∧
  (∀(h:Decidable True),@decide True h=true)∧
  (∀(h:Decidable False),@decide False h=false)∧
  (∀{R:Type} {i:Decidable True} (a b:Option R),@cnd R True i a b=a)∧
  (∀{R:Type} {i:Decidable False} (a b:Option R),@cnd R False i a b=b)∧
  (∀(p:Prop),(True∧p)=p)∧
  (∀(p:Prop),(p∧True)=p)∧
  (∀(p:Prop),(False∧p)=False)∧
  (∀(p:Prop),(p∧False)=False)∧
  (∀{α β:Type} (a:α) (f:α→Option β),Option.bind (some a) f=f a)∧
  (∀{α β:Type} (f:α→Option β),Option.bind (none:Option α) f=none)∧
  (∀{α:Type} {a:α} {l:List α},length (a::l)=length l+(1:Nat))∧
  (∀{α:Type},length ([]:List α)=(0:Nat))∧
  (∀{α β:Type} {l:List α} (f:α→β),length (List.map f l)=length l)∧
  (∀{α β:Type} {f:α→β} {l:List α} {i:Nat},(List.map f l)[i]? = Option.map f l[i]?)∧
  (∀{α β:Type} (a:α) (f:α→β),Option.map f (some a)=some (f a))∧
  (∀{α β:Type} (f:α→β),Option.map f (none:Option α)=none)∧
  (∀(n:Nat),toNat (n:Int)=n)∧
  (∀{α:Type} (a:α),(a=a)=True)∧
  (∀{α:Type} {x:Decidable True} (t e:α),@ite α True x t e=t)∧
  (∀{α:Type} {x:Decidable False} (t e:α),@ite α False x t e=e)∧
  (∀(n:Nat),(0:Nat)+n=n)∧
  (∀(n:Nat),(0:Int)≤(n:Int))∧
  (∀{α:Type} {l:List α},drop (0:Nat) l=l)∧
  (∀(p:Prop),(p∨True)=True)∧
  (∀(p:Prop),(True∨p)=True)∧
  (∀(p:Prop),(p∨False)=p)∧
  (∀(p:Prop),(False∨p)=p)∧
  ((!true)=false)∧
  ((!false)=true)∧
  ((false=true)=False)∧
  (∀{p:Prop} [inst:Decidable p],(decide p=true)=p)∧
  (∀{α:Type} [inst:LE α] {x y:α},x≥y↔y≤x)∧
  (∀{α:Type} [inst:LT α] {x y:α},x>y↔y<x):=
 ⟨@oMs_mk,@UK,@vI_mk,@PV,@vS_mk,@vL_mk,@VQ,@VR,@VS,@oVer_mk,@oEs_mk,@cI_mk,@cB_mk,@cS_mk,@cL_mk,@cVer_mk,@cOff_mk,@cLen_mk,@Vz,@V0,@V1,@V2,@Vv,@Vw,@Vx,@Vy,@SR,@SS,@SU,@SV,@SN,@SO,@SP,@SQ,@N1,@Kj,@N0,@Sn,@intOf_int,@MX,@PZ,@VM,@Rv,@NG,@NH,@NI,@NJ,@J5,@IL,@OP,@aI_mk,@aB_mk,@aS_mk,@aL_mk,@QY,@join_eq,@List.getD_cons_zero,@List.getD_cons_succ,@decide_true,@decide_false,@TC,@QK,@true_and,@and_true,@false_and,@and_false,@Option.bind_some,@bind_none,@length_cons,@length_nil,@length_map,@getElem?_map,@yP,@wN,@toNat_natCast,@eq_self,@if_true,@if_false,@yN,@natCast_nonneg,@drop_zero,@or_true,@true_or,@or_false,@false_or,@Bool.not_true,@Bool.not_false,@zF,@decide_eq_true_eq,@ge_iff_le,@gt_iff_lt⟩
end Ab
namespace Ab
open Go
abbrev ST:=List AV×Heap
abbrev RT:=Option (List Tree)
abbrev KT:=ST→RT
abbrev TT:=List (List Tree)
abbrev B0:ByteArray:=ByteArray.mk #[]
def bk:List Nat→Nat→List Tree→RT→RT
 |[],_,_,b=>b
 |0::l,j,y,b=>cnd (okI y j) (bk l (j+1) y b) none
 |1::l,j,y,b=>cnd (okB y j) (bk l (j+1) y b) none
 |2::l,j,y,b=>cnd (okS y j) (bk l (j+1) y b) none
 |(z+3)::l,j,y,b=>cnd (okL z y j) (bk l (j+1) y b) none
def bd (l:List Nat) (x:RT) (k:List Tree→RT):RT:=Option.bind x fun y=>cnd (length y=length l) (bk l 0 y (k y)) none
def ct:List Nat→ST→Nat→Nat→List Tree→List Tree
 |[],_,_,_,t=>t
 |0::l,p,j,i,t=>tI (cI p j i)::ct l p j (i+1) t
 |1::l,p,j,i,t =>.bool (cB p j i)::ct l p j (i+1) t
 |2::l,p,j,i,t =>.str (cS p j i)::ct l p j (i+1) t
 |(z+3)::l,p,j,i,t =>.sl z (cL p j i)::ct l p j (i+1) t
def gt:List Nat→List Tree→Nat→List Tree→List Tree
 |[],_,_,t=>t
 |0::l,y,i,t=>tI (gI y i)::gt l y (i+1) t
 |1::l,y,i,t =>.bool (gB y i)::gt l y (i+1) t
 |2::l,y,i,t =>.str (gS y i)::gt l y (i+1) t
 |(z+3)::l,y,i,t =>.sl z (gL y i)::gt l y (i+1) t
def zt:List Nat→List Tree→List Tree
 |[],t=>t
 |0::l,t=>tI 0::zt l t
 |1::l,t =>.bool false::zt l t
 |2::l,t =>.str B0::zt l t
 |(z+3)::l,t =>.sl z []::zt l t
def tv:List Tree→List AV
 |[]=>[]
 |x::l =>.t x::tv l
def kS:List Nat:=[0,0,0,0,0,0,0,0,2,0,0,0,5,0,0]
def kT:List Nat:=[0,0,0,0,0,0,0,0,2,0,0,0,5,0,0,12]
def kG:List Nat:=[0,0,0,0,0,1,2,5]
def kO:List Nat:=[1,0,1,0,0,0,0,0]
theorem vf :
  (∀(l:List Nat) (x:RT) (k:List Tree→RT),bd l x k=Option.bind x fun y=>cnd (length y=length l) (bk l 0 y (k y)) none)∧
  (∀(j:Nat) (y:List Tree) (b:RT),bk [] j y b=b)∧
  (∀(l:List Nat) (j:Nat) (y:List Tree) (b:RT),bk (0::l) j y b=cnd (okI y j) (bk l (j+1) y b) none)∧
  (∀(l:List Nat) (j:Nat) (y:List Tree) (b:RT),bk (1::l) j y b=cnd (okB y j) (bk l (j+1) y b) none)∧
  (∀(l:List Nat) (j:Nat) (y:List Tree) (b:RT),bk (2::l) j y b=cnd (okS y j) (bk l (j+1) y b) none)∧
  (∀(l:List Nat) (j:Nat) (y:List Tree) (b:RT),bk (4::l) j y b=cnd (okL 1 y j) (bk l (j+1) y b) none)∧
  (∀(l:List Nat) (j:Nat) (y:List Tree) (b:RT),bk (5::l) j y b=cnd (okL 2 y j) (bk l (j+1) y b) none)∧
  (∀(l:List Nat) (j:Nat) (y:List Tree) (b:RT),bk (11::l) j y b=cnd (okL 8 y j) (bk l (j+1) y b) none)∧
  (∀(l:List Nat) (j:Nat) (y:List Tree) (b:RT),bk (12::l) j y b=cnd (okL 9 y j) (bk l (j+1) y b) none)∧
  (∀(l:List Nat) (j:Nat) (y:List Tree) (b:RT),bk (13::l) j y b=cnd (okL 10 y j) (bk l (j+1) y b) none)∧
  (∀(p:ST) (j i:Nat) (t:List Tree),ct [] p j i t=t)∧
  (∀(l:List Nat) (p:ST) (j i:Nat) (t:List Tree),ct (0::l) p j i t=tI (cI p j i)::ct l p j (i+1) t)∧
  (∀(l:List Nat) (p:ST) (j i:Nat) (t:List Tree),ct (1::l) p j i t = .bool (cB p j i)::ct l p j (i+1) t)∧
  (∀(l:List Nat) (p:ST) (j i:Nat) (t:List Tree),ct (2::l) p j i t = .str (cS p j i)::ct l p j (i+1) t)∧
  (∀(l:List Nat) (p:ST) (j i:Nat) (t:List Tree),ct (4::l) p j i t = .sl 1 (cL p j i)::ct l p j (i+1) t)∧
  (∀(l:List Nat) (p:ST) (j i:Nat) (t:List Tree),ct (5::l) p j i t = .sl 2 (cL p j i)::ct l p j (i+1) t)∧
  (∀(l:List Nat) (p:ST) (j i:Nat) (t:List Tree),ct (13::l) p j i t = .sl 10 (cL p j i)::ct l p j (i+1) t)∧
  (∀(y:List Tree) (i:Nat) (t:List Tree),gt [] y i t=t)∧
  (∀(l:List Nat) (y:List Tree) (i:Nat) (t:List Tree),gt (0::l) y i t=tI (gI y i)::gt l y (i+1) t)∧
  (∀(l:List Nat) (y:List Tree) (i:Nat) (t:List Tree),gt (1::l) y i t = .bool (gB y i)::gt l y (i+1) t)∧
  (∀(l:List Nat) (y:List Tree) (i:Nat) (t:List Tree),gt (2::l) y i t = .str (gS y i)::gt l y (i+1) t)∧
  (∀(l:List Nat) (y:List Tree) (i:Nat) (t:List Tree),gt (5::l) y i t = .sl 2 (gL y i)::gt l y (i+1) t)∧
  (∀(l:List Nat) (y:List Tree) (i:Nat) (t:List Tree),gt (11::l) y i t = .sl 8 (gL y i)::gt l y (i+1) t)∧
  (∀(l:List Nat) (y:List Tree) (i:Nat) (t:List Tree),gt (12::l) y i t = .sl 9 (gL y i)::gt l y (i+1) t)∧
  (∀(l:List Nat) (y:List Tree) (i:Nat) (t:List Tree),gt (13::l) y i t = .sl 10 (gL y i)::gt l y (i+1) t)∧
  (∀(t:List Tree),zt [] t=t)∧
  (∀(l:List Nat) (t:List Tree),zt (0::l) t=tI 0::zt l t)∧
  (∀(l:List Nat) (t:List Tree),zt (1::l) t = .bool false::zt l t)∧
  (∀(l:List Nat) (t:List Tree),zt (2::l) t = .str (ByteArray.mk #[])::zt l t)∧
  (∀(l:List Nat) (t:List Tree),zt (4::l) t = .sl 1 []::zt l t)∧
  (∀(l:List Nat) (t:List Tree),zt (5::l) t = .sl 2 []::zt l t)∧
  (∀(l:List Nat) (t:List Tree),zt (11::l) t = .sl 8 []::zt l t)∧
  (∀(l:List Nat) (t:List Tree),zt (12::l) t = .sl 9 []::zt l t)∧
  (∀(l:List Nat) (t:List Tree),zt (13::l) t = .sl 10 []::zt l t)∧
  (tv []=[])∧(∀(x:Tree) (l:List Tree),tv (x::l)= .t x::tv l)∧
  (kS=[0,0,0,0,0,0,0,0,2,0,0,0,5,0,0])∧(kT=[0,0,0,0,0,0,0,0,2,0,0,0,5,0,0,12])∧(kG=[0,0,0,0,0,1,2,5])∧(kO=[1,0,1,0,0,0,0,0])∧(B0=ByteArray.mk #[]):=by
 refine ⟨?_,?_,?_,?_,?_,?_,?_,?_,?_,?_,?_,?_,?_,?_,?_,?_,?_,?_,?_,?_,?_,?_,?_,?_,?_,?_,?_,?_,?_,?_,?_,?_,?_,?_,?_,?_,?_,?_,?_,?_,?_⟩<;>intros<;>rfl
end Ab
namespace Ab
open Go
def R2 (r:Int):Int:=if r.tmod 2=1 then Ha .u32 (IntKind.u32.wrap (r.tdiv 2)) 2197175160 else IntKind.u32.wrap (r.tdiv 2)
def steps:Nat→Int→Int
 |0,r=>r
 |k+1,r=>steps k (R2 r)
theorem NB (k:Nat) (r:Int):steps (k+1) r=R2 (steps k r):=by
 induction k generalizing r with
 |zero=>rfl
 |succ k ih=>rw [steps,ih (R2 r)];rfl
def A0 (i:Nat):Array Value:=((List.range 256).map fun j=>if j<i then Value.int .u32 (steps 8 j) else .int .u32 0).toArray
theorem Dr (i:Nat):(A0 i).size=256:=by simp [A0]
theorem TG:A0 0=Array.replicate 256 (.int .u32 0):=by
 apply Array.ext
 ·simp [A0]
 ·intro j h1 h2;simp [A0]
theorem TH (i:Nat) (hi:i<256):A0 (i+1)=(A0 i).setIfInBounds i (.int .u32 (steps 8 i)):=by
 apply Array.ext
 ·simp [A0]
 ·intro j h1 h2;have hj:j<256:=by rw [Dr] at h1;exact h1
  rw [Array.getElem_setIfInBounds]
  ·simp only [A0,List.getElem_toArray,List.getElem_map,List.getElem_range];by_cases h:i=j
   ·subst h;simp
   ·by_cases h2:j<i
    ·simp [h,h2,show j<i+1 by omega]
    ·simp [h,h2,show ¬j<i+1 by omega]
  ·rw [Dr];exact hj
theorem Uo (i:Nat):(A0 i).all (·.oneCell')=true:=by rw [Array.all_eq_true_iff_forall_mem];intro v hv;simp only [A0,List.mem_toArray,wJ,xP] at hv;obtain ⟨j,_,rfl⟩:=hv;split<;>rfl
theorem OO (i j:Nat) (hj:j<256):(A0 i)[j]? = some (if j<i then Value.int .u32 (steps 8 j) else .int .u32 0):=by simp [A0,hj]
def J9:List Tree:=(List.range 256).map fun j =>.int .u32 (steps 8 (j:Nat))
end Ab
