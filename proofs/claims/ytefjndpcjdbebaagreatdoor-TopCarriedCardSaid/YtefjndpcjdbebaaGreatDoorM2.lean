/- A part of the proof: see the last text. -/
import Derived.Test.YtefjndpcjdbebaaGreatDoorM1
import Derived.Shelf.Spec.SlicesInsert
import Derived.Shelf.Spec.SlicesInsertGrow
import Derived.LoopNIn
set_option linter.unusedVariables false
set_option linter.unusedSimpArgs false
open Array (eq_empty_of_size_eq_zero getElem?_toList size_append)
open Bool (and_eq_true false_eq_true not_eq_true' or_eq_false_iff or_eq_true)
open Int (toNat toNat_natCast)
open List (all_cons all_eq_true any_eq_true append_assoc append_nil append_of_mem cons_append drop eq_nil_of_length_eq_zero ext_getElem? filterMap_cons filter_append filter_cons_of_neg filter_cons_of_pos filter_eq_self flatten_cons foldlM_append foldlM_cons foldl_cons getD_eq_getElem?_getD getElem?_append_left getElem?_append_right getElem?_cons_zero getElem?_drop getElem?_eq_getElem getElem?_eq_none getElem?_map getElem?_range getElem?_set_ne getElem?_take getElem?_take_of_lt getElem_mem length length_append length_cons length_drop length_nil length_pos_iff length_range length_take map_congr_left map_cons map_map mem_append mem_cons mem_cons_of_mem mem_filter mem_filterMap mem_map mem_of_getElem? mem_of_mem_drop mem_of_mem_take mem_range mem_singleton nil_append nodup_append nodup_cons nodup_nil nodup_range pairwise_cons replicate singleton_append size_toArray take take_of_length_le)
open Nat (add_assoc add_le_add_left add_mul add_zero le_refl le_succ le_trans lt_of_lt_of_le lt_or_ge min_def mod_lt mul_le_mul_right not_lt succ_mul zero_add zero_le)
open Option (bind_assoc map_none map_some)
namespace Ab
open Go
variable {R:Type} {P:Program} {B:Nat→Prop} {κ:Ay} {h:Heap} {w:World}
theorem BU {α:Type} {l:List α} {m i:Nat} {x:α} (hx:(l.take m)[i]? = some x):i<m∧l[i]? = some x:=by
 rcases lt_or_ge i m with h1|h1
 ·rw [getElem?_take_of_lt h1] at hx;exact ⟨h1,hx⟩
 ·simp [getElem?_take,not_lt.2 h1] at hx
theorem CN {α:Type} {l:List α} {m i:Nat} {x:α} (hi:i<m) (hx:l[i]? = some x):(l.take m)[i]? = some x:=by rw [getElem?_take_of_lt hi];exact hx
theorem Ex.take {m b:Nat} (hx:Ex (κ.take m) (h.take m) b):Ex κ h b:=by obtain ⟨i,base,o,h1,h2,h3⟩:=hx;exact ⟨i,base,o,(BU h1).2,(BU h2).2,h3⟩
theorem AM.DQ {m:Nat} {x:AV} {v:Value} (hv:AM B κ h w x v) (hr:Refs m x):AM B (κ.take m) (h.take m) w x v:=by
 induction hv with
 |undef v=>exact .undef v
 |t y v ht=>exact .t y v (ht.less fun b hb=>hb.imp id Ex.take)
 |nilsl a=>exact .nilsl a
 |ptr i off b base hk hb=>
  cases hr with
  |ptr _ _ hi=>obtain ⟨cs,hcs⟩:=hb;exact .ptr _ _ _ _ (CN hi hk) ⟨cs,CN hi hcs⟩
 |mref i b hk hb=>
  cases hr with
  |mref _ hi=>obtain ⟨k,ke,es,hes⟩:=hb;exact .mref _ _ (CN hi hk) ⟨k,ke,es,CN hi hes⟩
 |rptr i ver k off v h1 hex hv=>
  cases hr with
  |rptr _ _ _ _ hi=>
   obtain ⟨o,ho,hver⟩:=hex;refine .rptr _ _ _ _ _ h1 ⟨o,CN hi ho,hver⟩ fun o' ho' he => ?_;obtain ⟨b,base,e0,e1⟩:=hv o' (BU ho').2 he;exact ⟨b,base,CN hi e0,e1⟩
 |eptr size cells off b base u h1 h2 h3 h4 h5=>exact .eptr _ _ _ _ _ u h1 h2 (fun hh=>h3 (hh.imp id Ex.take)) h4 fun c y hy=>(h5 c y hy).less fun b hb=>hb.imp id Ex.take
 |sref i ver off len v h1 hex hs=>
  cases hr with
  |sref _ _ _ _ hi=>
   obtain ⟨o,ho,hver⟩:=hex;exact .sref _ _ _ _ _ h1 ⟨o,CN hi ho,hver⟩ fun k o' hk ho' he=>hs k o' (BU hk).2 (BU ho').2 he
 |bsl i off len size cap b hk hb hl=>
  cases hr with
  |bsl _ _ _ _ hi=>obtain ⟨cs,hcs,hc⟩:=hb;exact .bsl _ _ _ _ _ _ (CN hi hk) ⟨cs,CN hi hcs,hc⟩ hl
 |yld i b base hk hb=>
  cases hr with
  |yld _ hi=>obtain ⟨l,hl⟩:=hb;exact .yld _ _ _ (CN hi hk) ⟨l,CN hi hl⟩
 |func fn first captured fs cs h1 h2 _ _ i1 i2=>
  cases hr with
  |func _ _ _ r1 r2=>exact .func _ _ _ _ _ h1 h2 (fun j x hx=>i1 j x hx (r1 j x hx)) (fun j x hx=>i2 j x hx (r2 j x hx))
 |agg xs vs h1 _ ih=>
  cases hr with
  |agg _ r1=>exact .agg _ _ h1 fun j x hx=>ih j x hx (r1 j x hx)
 |tuple xs vs h1 _ ih=>
  cases hr with
  |tuple _ r1=>exact .tuple _ _ h1 fun j x hx=>ih j x hx (r1 j x hx)
theorem D1 {α:Type} {p:α→Bool} {l:List α} (hl:l.all p=true) {j:Nat} {x:α} (hx:l[j]? = some x):p x=true:=
 (all_eq_true.1 hl) x (mem_of_getElem? hx)
theorem DF:∀(d:Nat) {m:Nat} {x:AV},below d m x=true→Refs m x
 |0,m,x,hb=>by simp [below] at hb
 |d+1,m,x,hb=>by
  cases x with
  |undef=>exact .undef
  |t y=>exact .t y
  |nilsl=>exact .nilsl
  |eptr a b c=>exact .eptr _ _ _
  |ptr i off=>exact .ptr _ _ (by simpa [below] using hb)
  |rptr i v k o=>exact .rptr _ _ _ _ (by simpa [below] using hb)
  |sref i v k o=>exact .sref _ _ _ _ (by simpa [below] using hb)
  |bsl i v k o=>exact .bsl _ _ _ _ (by simpa [below] using hb)
  |yld i=>exact .yld _ (by simpa [below] using hb)
  |mref i=>exact .mref _ (by simpa [below] using hb)
  |func fn f c=>
   simp only [below,and_eq_true] at hb;exact .func _ _ _ (fun j x hx=>DF d (D1 hb.1 hx)) (fun j x hx=>DF d (D1 hb.2 hx))
  |agg cs=>simp only [below] at hb;exact .agg _ fun j x hx=>DF d (D1 hb hx)
  |tuple cs=>simp only [below] at hb;exact .tuple _ fun j x hx=>DF d (D1 hb hx)
theorem Refs.mono {m m':Nat} (hm:m≤m') {x:AV} (hx:Refs m x):Refs m' x:=by
 induction hx with
 |undef=>exact .undef
 |t y=>exact .t y
 |nilsl=>exact .nilsl
 |ptr i o hi=>exact .ptr _ _ (lt_of_lt_of_le hi hm)
 |rptr i v k o hi=>exact .rptr _ _ _ _ (lt_of_lt_of_le hi hm)
 |eptr a b c=>exact .eptr _ _ _
 |sref i v k o hi=>exact .sref _ _ _ _ (lt_of_lt_of_le hi hm)
 |bsl i v k o hi=>exact .bsl _ _ _ _ (lt_of_lt_of_le hi hm)
 |yld i hi=>exact .yld _ (lt_of_lt_of_le hi hm)
 |mref i hi=>exact .mref _ (lt_of_lt_of_le hi hm)
 |func fn f c _ _ i1 i2=>exact .func _ _ _ i1 i2
 |agg xs _ ih=>exact .agg _ ih
 |tuple xs _ ih=>exact .tuple _ ih
theorem Fs.DQ {m:Nat} {k:Option (Nat×Nat)} {o:AQ} (ho:Fs B κ h w k o) (hb:GP m o=true):Fs B (κ.take m) (h.take m) w k o:=by
 cases k with
 |none=>
  cases o with
  |row f v s es=>exact ho
  |box cs=>exact ho.elim
  |loop l=>exact ho.elim
  |mapo a b c=>exact ho.elim
 |some p=>
  obtain ⟨b,base⟩:=p;cases o with
  |box cs=>
   obtain ⟨h0,cells,elem,hc,hs,hv⟩:=ho;exact ⟨h0,cells,elem,hc,hs,fun j y hy=>(hv j y hy).DQ (DF 4 (D1 hb hy))⟩
  |row f v s es=>
   obtain ⟨hz,cells,elem,fr,hc,hth,hs,hl,hv⟩:=ho;exact ⟨hz,cells,elem,fr,hc,hth,hs,hl,fun j e c y he hy=>(hv j e c y he hy).less fun b hb=>hb.imp id Ex.take⟩
  |mapo a b c=>exact ho
  |loop l=>
   obtain ⟨f,tmps,hc,hs,hv,hrf,hd,hn⟩:=ho;have hle:l.hl≤m:=by simpa [GP] using hb
   exact ⟨f,tmps,hc,hs,fun i=>(hv i).DQ ((hrf i).mono hle),hrf,hd,fun he=>hn he.take⟩
theorem Af.DQ {m:Nat} (hh:Af B κ h w) (hb:(h.take m).all (GP m)=true):Af B (κ.take m) (h.take m) w:=
  ⟨by simp [hh.len],fun i j b bs bs' hi hj=>hh.inj i j b bs bs' (BU hi).2 (BU hj).2,fun i b bs hi=>hh.notB i b bs (BU hi).2,fun i b bs hi=>hh.lt i b bs (BU hi).2,hh.ltB,
   fun i o k ho hk=>(hh.obj i o k (BU ho).2 (BU hk).2).DQ (D1 hb ho)⟩
theorem Ext.DQ {κ':Ay} {h':Heap} {w':World} (x:Ext κ h w κ' h' w') {m:Nat} (hm:h.length≤m):Ext κ h w (κ'.take m) (h'.take m) w' where
 os:=x.os
 tape:=x.tape
 output:=x.output
 size:=x.size
 keep:=x.keep
 ex:=fun b hb=>x.ex b hb.take
 obj:=fun i o ho=>by obtain ⟨o',h1,h2⟩:=x.obj i o ho;exact ⟨o',CN (lt_of_lt_of_le (AO ho) hm) h1,h2⟩
 kap:=fun i o o' ho ho' hv=>by rw [getElem?_take_of_lt (lt_of_lt_of_le (AO ho) hm)];exact x.kap i o o' ho (BU ho').2 hv
 cells:=fun i o o' ho ho' hv b base hk cells elem fr hc=>x.cells i o o' ho (BU ho').2 hv b base hk cells elem fr hc
theorem OQ {x0 x:Tree} (hs:TS x0 x=true):OR x0 x=x:=by
 cases x0 with
 |int k n=>exact (Md hs).symm
 |bool b=>exact (LB hs).symm
 |str b=>exact (Mc hs).symm
 |sl a b=>exact (Oi hs).symm
 |const v=>rfl
 |mp k m=>rfl
theorem Kj (d:Nat) (ih:∀{v v':AV},FN d v v'=true→v=v'):∀{a b:List AV},FN.sameL d a b=true→a=b
 |[],[],_=>rfl
 |[],_::_,h=>by simp [FN.sameL] at h
 |_::_,[],h=>by simp [FN.sameL] at h
 |x::a,y::b,h=>by simp only [FN.sameL,and_eq_true] at h;rw [ih h.1,Kj d ih h.2]
theorem FM:∀(d:Nat) {v v':AV},FN d v v'=true→v=v'
 |0,v,v',h=>by simp [FN] at h
 |d+1,v,v',h=>by
  unfold FN at h;split at h
  ·simp only [and_eq_true,beq_iff_eq] at h;rw [h.1,h.2]
  ·simp only [beq_iff_eq] at h;rw [h]
  ·simp only [beq_iff_eq] at h;rw [h]
  ·rfl
  ·simp only [and_eq_true,beq_iff_eq] at h;rw [h.1.1,Kj d (FM d) h.1.2,Kj d (FM d) h.2]
  ·cases h
theorem GI {v0 v:AV} (hs:Hh v0 v=true):Ea v0 v=v:=by
 cases v0 with
 |t x=>
  simp only [Hh,and_eq_true] at hs;cases v with
  |t y=>
   simp only [Ea,Au] at hs ⊢;rw [OQ hs.2]
  |_=>simp [isT] at hs
 |sref r a b c=>cases v<;>simp_all [Hh,Ea,En,HR,HS]
 |rptr r a b c=>cases v<;>simp_all [Hh,Ea,En]
 |ptr i o=>exact FM 4 hs
 |yld i=>exact FM 4 hs
 |mref i=>exact FM 4 hs
 |func f a b=>exact FM 4 hs
 |_=>rfl
theorem EA:∀{cs0 cs:List AV} (pre:List AV),DD cs0 cs=true→CJ (.box (pre++cs)) cs0 pre.length=cs
 |[],[],pre,_=>rfl
 |[],c::cs,pre,hs=>by simp [DD] at hs
 |c0::cs0,[],pre,hs=>by simp [DD] at hs
 |c0::cs0,c::cs,pre,hs=>by
  simp only [DD,and_eq_true] at hs;have ih:=EA (pre++[c]) hs.2;simp only [append_assoc,singleton_append,length_append,length_cons,length_nil,zero_add] at ih;have hc:cellOf (.box (pre++c::cs)) pre.length=c:=by simp [cellOf]
  simp only [CJ,hc,GI hs.1,ih]
theorem OS {v0 v:AV} (hs:Kf v0 v=true):GK v0 v=v:=by
 cases v0 with
 |agg cs0=>
  simp only [Kf,and_eq_true] at hs;cases v with
  |agg cs=>
   simp only [GK,D7] at hs ⊢;rw [show CJ (.box cs) cs0 0=cs from EA [] hs.2]
  |_=>simp [isAgg] at hs
 |_=>
  simp only [Kf] at hs;simp only [GK];exact GI hs
theorem Kn {o0 o:AQ} (hs:Bo o0 o=true) (hf:o0.J1=true→o=o0) (hrec:o0.kind=1→o.rec? = o0.rec?) (hfx:FF o0=true→o=o0):reshape o0 o=o:=by
 by_cases hfo:FF o0=true
 ·have:=hfx hfo;subst this;cases o with
  |box cs=>simp only [reshape,hfo,if_true]
  |_=>simp [FF] at hfo
 cases o0 with
 |box cs0=>
  cases o with
  |box cs=>simp only [Bo,or_eq_true,hfo,false_eq_true,false_or] at hs;simp only [reshape,if_neg hfo];rw [show CJ (.box cs) cs0 0=cs from EA [] hs]
  |row a b c d=>simp [Bo] at hs
  |loop l=>simp [Bo] at hs
  |mapo a b c=>simp [Bo] at hs
 |mapo k ke es=>
  cases o with
  |box cs=>simp [Bo] at hs
  |row a b c d=>simp [Bo] at hs
  |loop l=>simp [Bo] at hs
  |mapo a b c=>
   simp only [Bo,decide_eq_true_eq] at hs;simp only [reshape,mapEs,hs.1,hs.2]
 |row f v s es=>
  cases f with
  |true=>rw [hf rfl];rfl
  |false=>
   cases o with
   |box cs=>simp [Bo] at hs
   |loop l=>simp [Bo] at hs
   |mapo a b c=>simp [Bo] at hs
   |row f' v' s' es'=>
    simp only [Bo,and_eq_true,not_eq_true',or_eq_true,beq_iff_eq] at hs;obtain ⟨rfl,hs⟩:=hs;simp only [reshape,AQ.ver,AQ.size,QX];rcases hs with rfl|rfl
    ·simp
    ·split<;>simp_all
 |loop l0=>
  cases o with
  |box cs=>simp [Bo] at hs
  |row a b c d=>simp [Bo] at hs
  |mapo a b c=>simp [Bo] at hs
  |loop l=>
   have hrec:=hrec rfl;simp only [AQ.rec?,Option.some.injEq] at hrec;simp only [Bo,and_eq_true,beq_iff_eq,Option.isNone_iff_eq_none] at hs;simp only [reshape];cases l;cases l0;simp_all
theorem L5 {o0 o o':AQ} (hs:still o0=true):reshape o0 o=reshape o0 o':=by
 cases o0 with
 |box cs=>have hs:FF (.box cs)=true:=hs;simp only [reshape,hs,if_true]
 |row f v s es=>cases f with
  |true=>rfl
  |false=>cases hs
 |mapo a b c=>cases hs
 |loop l=>rfl
theorem KV:∀{h0 h:Heap} (pre:Heap),GA h0 h=true→(∀(i:Nat) (o0 o:AQ),h0[i]? = some o0→h[i]? = some o→(o0.J1=true→o=o0)∧(o0.kind=1→o.rec? = o0.rec?)∧(FF o0=true→o=o0))→
  ∀(rest:Heap),Bd h0 pre.length (pre++(TQ h0 h++rest))=h.take h0.length
 |[],h,pre,_,_,rest=>by simp [Bd]
 |o0::h0,[],pre,hs,_,rest=>by simp [GA] at hs
 |o0::h0,o::h,pre,hs,hx,rest=>by
  simp only [GA,and_eq_true] at hs;have ih:=KV (h0:=h0) (h:=h) (pre++[if still o0 then .box [] else o]) hs.2 (fun i a b ha hb=>hx (i+1) a b (by simpa using ha) (by simpa using hb)) rest;simp only [append_assoc,singleton_append,length_append,length_cons,length_nil,zero_add] at ih;obtain ⟨h1,h2,h3⟩:=hx 0 o0 o rfl rfl;simp only [Bd,TQ,length_cons,List.take_succ_cons,cons_append];rw [ih];have hg:(pre++(if still o0 then .box [] else o)::(TQ h0 h++rest)).getD pre.length default=(if still o0 then .box [] else o):=by simp [List.getD]
  rw [hg];by_cases hst:still o0=true
  ·rw [L5 hst (o':=o),Kn hs.1 h1 h2 h3]
  ·rw [if_neg hst,Kn hs.1 h1 h2 h3]
theorem JX {r:R}:∀{h0 h:Heap} {a:Option R},SS h0 h a=some r→a=some r∧∀(i:Nat) (o0 o:AQ),h0[i]? = some o0→h[i]? = some o→FF o0=true→o=o0
 |[],h,a,hr=>⟨hr,fun i o0 o h0=>by simp at h0⟩
 |o0::h0,[],a,hr=>by simp [SS] at hr
 |o0::h0,o::h,a,hr=>by
  unfold SS at hr;split at hr
  ·unfold DM at hr;split at hr
   ·rename_i he;obtain ⟨h1,h2⟩:=JX hr;refine ⟨h1,fun i x y hx hy hf => ?_⟩;cases i with
    |zero=>simp at hx hy;rw [← hx,← hy,he]
    |succ i=>exact h2 i x y (by simpa using hx) (by simpa using hy) hf
   ·cases hr
  ·rename_i hn;obtain ⟨h1,h2⟩:=JX hr;refine ⟨h1,fun i x y hx hy hf => ?_⟩;cases i with
   |zero=>simp at hx;rw [← hx] at hf;exact absurd hf hn
   |succ i=>exact h2 i x y (by simpa using hx) (by simpa using hy) hf
theorem Rf {h0 h':Heap} {K:Heap→Option R} {r:R} (hr:cutK h0 h' K=some r) (hx:∀(i:Nat) (o0 o:AQ),h0[i]? = some o0→h'[i]? = some o→(o0.J1=true→o=o0)∧(o0.kind=1→o.rec? = o0.rec?)) :
  ∃hs,K hs=some r∧Bd h0 0 hs=h'.take h0.length∧(h'.take h0.length).all (GP h0.length)=true:=by
 unfold cutK at hr
 try simp only [AD] at hr
 obtain ⟨⟨h1,h2⟩,h3⟩:=AE hr;obtain ⟨h3,h4⟩:=JX h3;refine ⟨_,h3,?_,h1⟩;have:=KV [] h2 (fun i o0 o ha hb=>⟨(hx i o0 o ha hb).1,(hx i o0 o ha hb).2,h4 i o0 o ha hb⟩) [];simpa using this
theorem Ju {P:Program}:∀{ts:List TypeId} {vs:List AV} (pre:List AV),FB P ts vs=true→GJ P (pre++vs) ts pre.length=vs
 |[],[],pre,_=>rfl
 |[],v::vs,pre,h=>by simp [FB] at h
 |t::ts,[],pre,h=>by simp [FB] at h
 |t::ts,v::vs,pre,h=>by
  simp only [FB,and_eq_true] at h;have ih:=Ju (pre++[v]) h.2;simp only [append_assoc,singleton_append,length_append,length_cons,length_nil,zero_add] at ih;have hc:(pre++v::vs).getD pre.length .undef=v:=by simp
  simp only [GJ,hc,GI h.1.2,ih]
theorem OL {P:Program}:∀{ts:List TypeId} {vs:List AV},FB P ts vs=true→∀(i:Nat) (m:Nat),Refs m (vs.getD i .undef)
 |[],[],_,i,m=>by simp;exact .undef
 |[],v::vs,h,_,_=>by simp [FB] at h
 |t::ts,[],h,_,_=>by simp [FB] at h
 |t::ts,v::vs,h,i,m=>by
  simp only [FB,and_eq_true] at h;cases i with
  |zero=>
   have h1:=h.1.1;cases v<;>first|(exact .t _)|(simp [isT] at h1)
  |succ i=>simpa using OL h.2 i m
theorem MR {h:Heap}:∀{ls:List AV} {i v:Nat},FC h ls=some (i,v)→∃s es,h[i]? = some (.row false v s es)
 |[],i,v,hr=>by simp [FC] at hr
 |x::ls,i,v,hr=>by
  cases x with
  |sref j a b c=>
   simp only [FC] at hr;split at hr
   ·rename_i v' s es hj;cases hr;exact ⟨s,es,hj⟩
   ·cases hr
  |_=>exact MR (ls:=ls) hr
theorem Ga {i:Nat}:∀(ls:List AV) (h:Heap),NP i ls=true→∀j,j≠i→(AW h ls)[j]? = h[j]?
 |[],h,_,j,_=>rfl
 |x::ls,h,ho,j,hj=>by
  simp only [NP,all_cons,and_eq_true] at ho;show (AW (DV h x) ls)[j]? = h[j]?;rw [Ga ls (DV h x) ho.2 j hj];cases x with
  |sref k a b c=>
   have hk:k=i:=by simpa using ho.1
   simp only [DV];split
   ·rw [getElem?_set_ne (by omega)]
   ·rfl
  |_=>rfl
theorem Mk {κ':Ay} {h':Heap} {w':World} (x:Ext κ h w κ' h' w') (i:Nat) (o0 o:AQ) (h0:h[i]? = some o0) (h1:h'[i]? = some o):(o0.J1=true→o=o0)∧(o0.kind=1→o.rec? = o0.rec?):=by obtain ⟨o',h2,h3⟩:=x.obj i o0 h0;rw [h1] at h2;cases h2;exact ⟨h3.2.2.2.1,fun _=>h3.2.2.2.2.2⟩
end Ab
namespace Ab
open Go
variable {R:Type} {P:Program} {B:Nat→Prop} {κ:Ay} {h:Heap} {w:World}
theorem B6 {x:AV} {xs:List AV} {v:Value} {vs:List Value} (h1:AM B κ h w x v) (h2:AU B κ h w xs vs.toArray):AU B κ h w (x::xs) (v::vs).toArray:=by
 refine ⟨by simpa using h2.1,fun j y hy => ?_⟩;cases j with
 |zero=>simp at hy;subst hy;simpa using h1
 |succ j=>
  have:=h2.2 j y (by simpa using hy);rw [BI] at this ⊢;simpa using this
theorem KA {x:AV} {xs:List AV} {vs:Array Value} (hc:AU B κ h w (x::xs) vs):∃v rest,vs=(v::rest).toArray∧AM B κ h w x v∧AU B κ h w xs rest.toArray:=by
 obtain ⟨l⟩:=vs;cases l with
 |nil=>have:=hc.1;simp at this
 |cons v rest=>
  refine ⟨v,rest,rfl,by simpa using hc.2 0 x rfl,by simpa using hc.1,fun j y hy => ?_⟩;have:=hc.2 (j+1) y (by simpa using hy);have e1:({toList:=v::rest}:Array Value)=(v::rest).toArray:=rfl;rw [e1,BI] at this;rw [BI];simpa using this
theorem Dx (leaf:Nat→AV) (off n j:Nat) (hj:j<n):(Az leaf off n)[j]? = some (leaf (off+j)):=by simp [Az,hj]
theorem Il:∀{ts:List TypeId} {avs:List AV} {K:List AV→Option R} {r:R} {vs:Array Value},C0 P ts avs K=some r→AU B κ h w avs vs→
  ∃(ls:List AV) (us:List Value),K ls=some r∧AU B κ h w ls us.toArray∧
   ∀(B':Nat→Prop) (κ':Ay) (h':Heap) (w':World) (leaf:Nat→AV) (off:Nat),(∀j u,us[j]? = some u→AM B' κ' h' w' (leaf (off+j)) u)→∃avs',Bt P leaf ts off=some avs'∧AU B' κ' h' w' avs' vs
 |[],[],K,r,vs,hr,hc=>by have e:vs = #[]:=eq_empty_of_size_eq_zero hc.1;subst e;exact ⟨[],[],hr,⟨rfl,fun j x hx=>by simp at hx⟩,fun B' κ' h' w' leaf off _=>⟨[],rfl,rfl,fun j x hx=>by simp at hx⟩⟩
 |[],x::avs,K,r,vs,hr,hc=>by simp [C0] at hr
 |t::ts,[],K,r,vs,hr,hc=>by simp [C0] at hr
 |t::ts,x::avs,K,r,vs,hr,hc=>by
  obtain ⟨v,rest,rfl,hv,hrest⟩:=KA hc;simp only [C0,AD] at hr;split at hr
  ·rename_i ha;split at hr
   ·rename_i cs;obtain ⟨hsz,hr1⟩:=AE hr;obtain ⟨ls,us,h1,h2,h3⟩:=Il hr1 hrest;cases hv with
    |agg _ arr hs hall=>
     refine ⟨cs++ls,arr.toList++us,h1,⟨by simpa [hs] using h2.1,fun j y hy => ?_⟩,fun B' κ' h' w' leaf off hl => ?_⟩
     ·rw [BI];rcases lt_or_ge j cs.length with hj|hj
      ·rw [getElem?_append_left hj] at hy;have:=hall j y hy;have hj':j<arr.toList.length:=by simp [hs];exact hj
       simp only [List.getD];rw [getElem?_append_left hj'];have hj2:j<arr.size:=by rw [hs];exact hj
       simp only [Array.getD,hj2,dif_pos] at this;simpa [hj2] using this
      ·rw [getElem?_append_right hj] at hy;have:=h2.2 _ y hy;rw [BI] at this;simp only [List.getD] at this ⊢;rw [getElem?_append_right (by simp [hs];exact hj)];simpa [hs] using this
     ·obtain ⟨avs',e1,e2⟩:=h3 B' κ' h' w' leaf (off+cs.length) fun j u hu=>by have:=hl (cs.length+j) u (by rw [getElem?_append_right (by simp [hs])];simpa [hs] using hu);rwa [← add_assoc] at this
      refine ⟨.agg (Az leaf off cs.length)::avs',?_,B6 (.agg _ _ (by simp [Az,hs]) fun j y hy => ?_) e2⟩
      ·simp only [Bt,GR,ha,hsz,e1,map_some]
      ·have hj:j<cs.length:=by have:=AO hy;simpa [Az] using this
       rw [Dx leaf off _ _ hj] at hy;cases hy;have hj2:j<arr.size:=by rw [hs];exact hj
       exact hl j _ (by rw [getElem?_append_left (by simpa using hj2)];simp [Array.getD,hj2])
   ·cases hr
  ·rename_i ha;obtain ⟨hlf,hr1⟩:=AE hr;obtain ⟨ls,us,h1,h2,h3⟩:=Il hr1 hrest;refine ⟨x::ls,v::us,h1,B6 hv h2,fun B' κ' h' w' leaf off hl => ?_⟩;obtain ⟨avs',e1,e2⟩:=h3 B' κ' h' w' leaf (off+1) fun j u hu=>by have:=hl (j+1) u (by simpa using hu);rwa [show off+(j+1)=off+1+j from by omega] at this
   refine ⟨leaf off::avs',?_,B6 (by simpa using hl 0 v rfl) e2⟩;cases hsz:BO P t<;>simp only [Bt,GR,ha,hsz,e1,map_some]
  ·cases hr
def JM (vs:Array Value):Value:=if h:vs.size=1 then vs[0] else .tuple vs
theorem Tz {g:FuncId} {fn:Func} (hf:P.funcs[g]? = some fn) {leaf:Nat→AV} {avs:List AV} (hm:Bt P leaf fn.resultTypes.toList 0=some avs) {vs:Array Value} (hc:AU B κ h w avs vs) :
  ∃r,Br P g leaf=some r∧AM B κ h w r (JM vs):=by
 unfold Br;rw [hf];simp only [hm];cases avs with
 |nil=>
  refine ⟨_,rfl,?_⟩;have:¬vs.size=1:=by rw [hc.1];simp
  unfold JM;rw [dif_neg this];exact .tuple _ _ hc.1 hc.2
 |cons x rest=>
  cases rest with
  |nil=>
   refine ⟨x,rfl,?_⟩;have h1:vs.size=1:=by rw [hc.1];simp
   unfold JM;rw [dif_pos h1];have:=hc.2 0 x rfl;simpa [Array.getD,h1] using this
  |cons y rest=>
   refine ⟨_,rfl,?_⟩;have:¬vs.size=1:=by rw [hc.1];simp
   unfold JM;rw [dif_neg this];exact .tuple _ _ hc.1 hc.2
def Fr (ro:Option Nat):Fence:={fn:=fun _=>True,depth:=none,alive:=false,round:=ro}
def Vt {R:Type} (P:Program) (g:FuncId) (avs:List AV) (h:Heap) (K:List AV→Heap→Option R) (res:R):Prop:=
 ∀(B:Nat→Prop) (κ:Ay) (w:World) (vs:Array Value) (n:Nat),Af B κ h w→AU B κ h w avs vs→
  CallsIn (Fr none) n P g vs w fun e w'=>∃v r κ' rs h',e = .returned v∧K rs h'=some res∧Br P g (fun i=>rs.getD i .undef)=some r∧AM B κ' h' w' r v∧Af B κ' h' w'∧Ext κ h w κ' h' w'
structure MF (w w':World):Prop where
 os:w'.os=w.os
 tape:w'.tape=w.tape
 output:w'.output=w.output
 size:w.heap.size≤w'.heap.size
 block:∀b,b<w.heap.size→w'.heap[b]? = w.heap[b]?
def Du (P:Program) (g:FuncId) (xs ys:List Tree):Prop:=
 ∀(B:Nat→Prop) (w:World) (avs:List AV) (vs:Array Value) (n:Nat),CU P g (fun i =>.t (xs.getD i default))=some avs→(∀b,B b→b<w.heap.size)→AU B [] [] w avs vs→
  CallsIn (Fr none) n P g vs w fun e w'=>∃v r,e = .returned v∧Br P g (fun i =>.t (ys.getD i default))=some r∧AM B [] [] w' r v∧MF w w'∧(Bv P g=true→ys.all Tree.scalar=true)
def Ri {R:Type} (P:Program) (i:Nat) (args:List AV) (h:Heap) (K:List AV→Heap→Option R) (res:R):Prop:=
 ∀(B:Nat→Prop) (κ:Ay) (w:World) (vs:Array Value) (b base n:Nat),Af B κ h w→AU B κ h w args vs→κ[i]? = some (some (b,base))→
  ∃(f:FuncId) (tmps:Array Value) (assign body:Code),(Instr.yield b vs).run P w = .ok (.round b f tmps assign body) w∧
   RoundIn (Fr none) n P b f tmps assign body w fun e w'=>∃v κ' rs h',e = .returned v∧K rs h'=some res∧AM B κ' h' w' (rs.getD 0 .undef) v∧Af B κ' h' w'∧Ext κ h w κ' h' w'
def DL (P:Program) (rec:Rec):Prop:=∀(R:Type) (r:Req) (h:Heap) (K:List AV→Heap→Option R) (res:R),rec R r h K=some res→match r with
 | .fn g avs=>Vt P g avs h K res
 | .yield i args=>Ri P i args h K res
def NewSl (B:Nat→Prop) (w w':World) (s:Nat) (es:List (List Tree)) (v:Value):Prop:=
 (es=[]∧∃a,v = .slice a 0 0)∨∃b base cap cells elem fr,v = .slice (some ⟨b,base,none⟩) es.length cap∧es.length≤cap∧w.heap.size≤b∧b<w'.heap.size∧s≠0∧w'.heap[b]? = some (.cells cells elem fr)∧Ny s cells.size fr∧base+cap*s≤cells.size∧
  (∀(j:Nat) (e:List Tree),es[j]? = some e→e.length=s)∧∀(j:Nat) (e:List Tree) (c:Nat) (x:Tree),es[j]? = some e→e[c]? = some x→BH w' (fun b'=>B b'∨b'=b) x (cells.getD (base+(j*s+c)) undef)
def Us (P:Program) (g:FuncId) (xs ys:List Tree):Prop:=
 ∀(B:Nat→Prop) (w:World) (avs:List AV) (vs:Array Value) (n:Nat),CU P g (fun i =>.t (xs.getD i default))=some avs→(∀b,B b→b<w.heap.size)→AU B [] [] w avs vs→
  CallsIn (Fr none) n P g vs w fun e w'=>∃v s es,e = .returned v∧ys=[.sl s es]∧MF w w'∧NewSl B w w' s es v
def Uv (u:Value) (b:Nat):Prop:=∃off n cap,u = .slice (some ⟨b,off,none⟩) n cap∧0<cap
def Qy (P:Program) (j:Nat) (g:FuncId) (xs ys:List Tree):Prop:=
 ∀(B:Nat→Prop) (w:World) (avs:List AV) (vs:Array Value) (n:Nat),CU P g (fun i =>.t (xs.getD i default))=some avs→(∀b,B b→b<w.heap.size)→AU B [] [] w avs vs→
  CallsIn (Fr none) n P g vs w fun e w'=>∃(v:Value) (us:List Value) (z:Nat) (es:List (List Tree)) (u:Value),e = .returned v∧MF w w'∧ys[j]? = some (.sl z es)∧us.length=ys.length∧us[j]? = some u∧NewSl B w w' z es u∧
   (∀(i:Nat) (y:Tree) (x:Value),i≠j→ys[i]? = some y→us[i]? = some x→BH w' (fun b=>B b∨Uv u b) y x)∧
   ∀(B2:Nat→Prop) (κ2:Ay) (h2:Heap) (w2:World) (leaf:Nat→AV),(∀i x,us[i]? = some x→AM B2 κ2 h2 w2 (leaf i) x)→∃rv,Br P g leaf=some rv∧AM B2 κ2 h2 w2 rv v
def Bn (P:Program) (pc:A4):Prop:=∀g xs ys,pc g xs=some ys→if g<OWN then Du P g xs ys else if g<D8 then Us P (g-OWN) xs ys else Qy P ((g-D8) % 64) ((g-D8) / 64) xs ys
theorem CallsIn.fr {ro:Option Nat} {n:Nat} {g:FuncId} {vs:Array Value} {Q:Ending→World→Prop} (hc:CallsIn (Fr none) n P g vs w Q):CallsIn (Fr ro) n P g vs w Q:=hc
theorem RoundIn.fr {ro:Option Nat} {n b:Nat} {g:FuncId} {vs:Array Value} {x y:Code} {Q:Ending→World→Prop} (hc:RoundIn (Fr none) n P b g vs x y w Q):RoundIn (Fr ro) n P b g vs x y w Q:=hc
theorem Hr {B:Nat→Prop} {w:World} (hB:∀b,B b→b<w.heap.size):Af B [] [] w:=
 ⟨rfl,fun i j b bs bs' hi=>by simp at hi,fun i b bs hi=>by simp at hi,fun i b bs hi=>by simp at hi,hB,fun i o k ho=>by simp at ho⟩
theorem C3 {b:Nat} (hx:Ex [] [] b):False:=by obtain ⟨i,base,o,hk,_⟩:=hx;simp at hk
theorem GZ {w':World} (hh:Af B κ h w) (g:MF w w'):Ext κ h w κ h w':=LM hh g.os g.tape g.output g.size g.block
theorem G1 {w':World} (hh:Af B κ h w) (g:MF w w'):Af B κ h w':=G0 hh (GZ hh g) g.block
theorem LJ (hh:Af B κ h w) (v:AV):Af B κ (DV h v) w∧Ext κ h w κ (DV h v) w:=by
 unfold DV;split
 ·rename_i i _ _ _;split
  ·rename_i f ver s es hi;by_cases hf:f=true
   ·subst hf;have:h.set i (.row true ver s es)=h:=by
     apply ext_getElem?;intro j;by_cases hij:j=i
     ·rw [hij,An hi,hi]
     ·rw [CY hij]
    rw [this];exact ⟨hh,Ext.refl _ _ _⟩
   ·have hf':f=false:=by simpa using hf
    subst hf';obtain ⟨k,hk⟩:=Ba hh hi;have hset:κ.set i k=κ:=by
     apply ext_getElem?;intro j;by_cases hij:j=i
     ·rw [hij,An hk,hk]
     ·rw [CY hij]
    have x:Ext κ h w κ (h.set i (.row true ver s es)) w:=by
     have x':Ext κ h w (κ.set i k) (h.set i (.row true ver s es)) w:=
      CH (o' :=.row true ver s es) (k':=k) (w':=w) hh hi rfl ⟨rfl,le_refl _,(fun _=>⟨rfl,rfl⟩),(fun e=>by cases e),(fun e=>by cases e),rfl⟩ hk rfl rfl rfl (le_refl _) (fun _ _ _=>rfl)
       (fun b base e =>.inl ⟨base,e⟩) (fun _=>⟨rfl,fun b base _ cells elem fr hc=>⟨cells,hc,rfl⟩⟩)
     rw [hset] at x';exact x'
    refine ⟨?_,x⟩;have ho:=hh.obj i _ _ hi hk;have hh':Af B (κ.set i k) (h.set i (.row true ver s es)) w:=
     Bg hh hi hk (fun _ _ _=>rfl) (fun b base e=>⟨.inl ⟨base,e⟩,hh.lt i b base (by rw [hk,e])⟩) (by rw [hset];exact x) (by
      rw [hset];cases k with
      |none=>exact ho
      |some p=>
       obtain ⟨b,base⟩:=p;obtain ⟨hz,cells,elem,fr,hc,hth,hs,hl,ht⟩:=ho;exact ⟨hz,cells,elem,fr,hc,hth,hs,hl,fun j e c y he hy=>(ht j e c y he hy).ext x⟩)
    rw [hset] at hh';exact hh'
  ·exact ⟨hh,Ext.refl _ _ _⟩
 ·exact ⟨hh,Ext.refl _ _ _⟩
theorem Fj:∀(vs:List AV) {h:Heap},Af B κ h w→Af B κ (AW h vs) w∧Ext κ h w κ (AW h vs) w
 |[],h,hh=>⟨hh,Ext.refl _ _ _⟩
 |v::vs,h,hh=>by obtain ⟨h1,x1⟩:=LJ hh v;obtain ⟨h2,x2⟩:=Fj vs h1;exact ⟨h2,x1.trans x2⟩
theorem Py {x:Tree} {v:Value} {A A':Nat→Prop} {w w':World} (hs:x.scalar=true) (ht:BH w A x v):BH w' A' x v:=by
 cases ht with
 |int k n=>exact .int k n
 |bool b=>exact .bool b
 |str s=>exact .str s
 |const v _=>simp [Tree.scalar] at hs
 |mp _ _ _ _ _ _ _ _ _=>simp [Tree.scalar] at hs
 |nil _ _ _=>simp [Tree.scalar] at hs
 |sl _ _ _ _ _ _ _ _ _ _ _ _=>simp [Tree.scalar] at hs
end Ab
namespace Go.Proofs
open Go.Shelf Go.RowKit Go.Lib
variable {P:Program} {ρ:Ren}
set_option maxHeartbeats 4000000 in
set_option maxRecDepth 100000 in
theorem SP {z:Nat} (L:Fx P ρ z) (b off n c i vb voff m vc:Nat) (cs vs:List Value) (w:World) (hi:i<n) (hm:0<m) (hroom:n+m≤c) (hc63:n+m≤9223372036854775807) (hvb:vb≠b)
  (hcl:cs.length=n*z) (hvl:vs.length=m*z)
  (hcs:∀j v,cs[j]? = some v→w.cell? ⟨b,off+j,none⟩=some v) (hsp:∀j,j<(n+m)*z→(w.cell? ⟨b,off+j,none⟩).isSome=true) (hfz:∀j,w.frozen? ⟨b,j,none⟩=false)
  (hvs:∀j v,vs[j]? = some v→w.cell? ⟨vb,voff+j,none⟩=some v) (h1c:∀v∈cs,v.oneCell'=true) (h1v:∀v∈vs,v.oneCell'=true)
  (tA tB:TypeId) (kA kB:Nat) (hsa:w.shape? vb=some (tA,kA)) (hsb:w.shape? b=some (tB,kB)) (hkA:kA≠0) :
  Calls P (ρ.f 22) #[.slice (some ⟨b,off,none⟩) n c,.int .i64 i,.slice (some ⟨vb,voff,none⟩) m vc] w fun e w'=>
   e = .returned (.slice (some ⟨b,off,none⟩) (n+m) c)∧w'=(w.drew.setCells b (off+(i+m)*z) (cs.drop (i*z))).setCells b (off+i*z) vs:=by
 have t3:=L.t3;have a3:=L.a3;have z3:=L.z3;have v3:=L.v3;have t4:=L.t4;have a4:=L.a4;have z4:=L.z4;have v4:=L.v4;have t24:=L.t24;have a24:=L.a24;have z24:=L.z24;have v24:=L.v24;have z9:=L.z9;have u3:=run_underlying L.t3;have u4:=run_underlying L.t4;have u24:=run_underlying L.t24;have hz1:¬((m:Int)=0):=by omega
 have hz2:¬((i:Int)=(n:Int)):=by omega
 obtain ⟨fo,hfo,ho1,ho2,ho3,ho4⟩:=L.f29;have hov:∀lb cb,(callFunc (ρ.f 29) #[.slice (some ⟨vb,voff,none⟩) m vc,.slice (some ⟨b,off+(i+m)*z,none⟩) lb cb]).run P w = .ok (.value (.bool false)) w:=fun lb cb=>by
  rw [run_callFunc_extern hfo ho1 ho2 ho3 ho4,
   JJ w (ρ.t 24) (ρ.t 4) (ρ.t 9) L.t24 z L.z9 ⟨vb,voff,none⟩ ⟨b,off+(i+m)*z,none⟩ m vc lb cb hvb tA tB kA kB hsa hsb hkA (hfz _) (hfz _)]
  rfl
 have hdl:(cs.drop (i*z)).length=(n-i)*z:=by rw [length_drop,hcl,Nat.sub_mul]
 have mixed:=L.mixed;have hw1:IntKind.i64.wrap ((i:Int)+(m:Int))=(i:Int)+(m:Int):=by rw [IntKind.wrap_i64];omega
 have hb1:(0:Int)≤(i:Int)+(m:Int):=by omega
 have hin:i≤n:=by omega
 have htn:((i:Int)+(m:Int)).toNat=i+m:=by omega
 have hb2:¬(c=i+m):=by omega
 have hb3:(i:Int)≤(n:Int)+(m:Int):=by omega
 have hb4:¬(c=i):=by omega
 have hmul1:(i+m)*z+(n-i)*z=(n+m)*z:=by rw [← add_mul];congr 1;omega
 have hmul2:i*z+m*z≤(n+m)*z:=by rw [← add_mul];exact mul_le_mul_right _ (by omega)
 have hcp1:∀ty dc sc,(Builtin.copy_ #[(ρ.t 24),(ρ.t 24)] ty #[.slice (some ⟨b,off+(i+m)*z,none⟩) (n+m-(i+m)) dc,.slice (some ⟨b,off+i*z,none⟩) (n+m-i) sc]).run P w.drew = .ok (goInt ((n-i:Nat):Int)) (w.drew.setCells b (off+(i+m)*z) (cs.drop (i*z))):=fun ty dc sc=>
  C6 w.drew _ _ ty (ρ.t 9) z b (off+(i+m)*z) (n+m-(i+m)) dc ⟨b,off+i*z,none⟩ (n+m-i) sc (n-i) (cs.drop (i*z)) L.t24 L.z9 (by simp only [min_def];split<;>omega) hdl
   (fun j v hj=>by rw [Addr.add_lit,add_assoc];exact hcs (i*z+j) v (by rwa [getElem?_drop] at hj))
   (fun j hj=>by rw [add_assoc];exact hsp _ (by omega)) (fun j hj=>hfz _) (fun v hv=>h1c v (mem_of_mem_drop hv))
 obtain ⟨W1,hW1⟩:∃W1,W1=w.drew.setCells b (off+(i+m)*z) (cs.drop (i*z)):=⟨_,rfl⟩
 have hsp1:∀k,k<(n+m)*z→(W1.cell? ⟨b,off+k,none⟩).isSome=true:=fun k hk=>by rw [hW1];exact isSome_setCells b _ _ _ (fun j hj=>by rw [add_assoc];exact hsp _ (by omega)) _ (hsp k hk)
 have hcp2:∀(W:World),(∀x,W.cell? x=W1.cell? x)→(∀x,W.frozen? x=W1.frozen? x)→∀ty dc,(Builtin.copy_ #[(ρ.t 24),(ρ.t 24)] ty #[.slice (some ⟨b,off+i*z,none⟩) (n+m-i) dc,.slice (some ⟨vb,voff,none⟩) m vc]).run P W = .ok (goInt m) (W.setCells b (off+i*z) vs):=fun W hWc hWf ty dc=>
  C6 W _ _ ty (ρ.t 9) z b (off+i*z) (n+m-i) dc ⟨vb,voff,none⟩ m vc m vs L.t24 L.z9 (by simp only [min_def];split<;>omega) hvl
   (fun j v hj=>by rw [Addr.add_lit,hWc,hW1,World.cell?_setCells_out b _ _ _ _ (fun h _=>absurd h hvb)];exact hvs j v hj)
   (fun j hj=>by rw [hWc,add_assoc];exact hsp1 _ (by omega)) (fun j hj=>by rw [hWf,hW1,World.frozen?_setCells];exact hfz _) h1v
 rw [← hW1] at hcp1;clear hmul1 hmul2 hdl hsp1;obtain ⟨_,_,FG⟩:=L.f22
 go_enter FG,Body2.n22_ntmps ρ
 go_wp2_with (simp only [hov])
 go_region_law_o (refine step_copy_runI rfl _ _ (ρ.t 24) (ρ.t 24) rfl _ _ (by simp [Act.eval,Act.put]) (by simp [Act.eval,Act.put]) (hcp1 _ _ _) ?_)
 go_wp2_with (at_builtin;refine wpList_copy_runI _ rfl _ _ (ρ.t 24) (ρ.t 24) rfl _ _ rfl rfl (hcp2 _ (fun _=>rfl) (fun _=>rfl) _ _) ?_)
 go_ret
 first|exact ⟨rfl,rfl⟩|exact ⟨rfl,by rw [hW1]⟩
end Go.Proofs
namespace Go.Proofs
open Go.Shelf Go.RowKit Go.Lib
variable {P:Program} {ρ:Ren}
set_option maxHeartbeats 4000000 in
set_option maxRecDepth 100000 in
theorem ins_end {z:Nat} (L:Fx P ρ z) (b off n c m vc:Nat) (va:Option Addr) (w w1:World) (v1:Value) (hm:0<m) (hnc:n≤c) (hc63:n+m≤9223372036854775807)
  (hrun:∀ty,(Builtin.append_ #[(ρ.t 24),(ρ.t 24)] ty #[.slice (some ⟨b,off,none⟩) n c,.slice va m vc]).run P w = .ok v1 w1) :
  Calls P (ρ.f 22) #[.slice (some ⟨b,off,none⟩) n c,.int .i64 n,.slice va m vc] w fun e w'=>e = .returned v1∧w'=w1:=by
 have t3:=L.t3;have a3:=L.a3;have z3:=L.z3;have v3:=L.v3;have t4:=L.t4;have a4:=L.a4;have z4:=L.z4;have v4:=L.v4;have t24:=L.t24;have a24:=L.a24;have z24:=L.z24;have v24:=L.v24;have z9:=L.z9;have u3:=run_underlying L.t3;have u4:=run_underlying L.t4;have u24:=run_underlying L.t24;have mixed:=L.mixed;have hz1:¬((m:Int)=0):=by omega
 obtain ⟨_,_,FG⟩:=L.f22
 go_enter FG,Body2.n22_ntmps ρ
 go_wp2_with (at_builtin;refine Lib.wpList_append_run _ rfl _ _ _ _ rfl _ _ rfl rfl _ _ (hrun _) ?_)
 all_goals (go_ret;exact ⟨rfl,rfl⟩)
set_option maxHeartbeats 4000000 in
set_option maxRecDepth 100000 in
theorem RT {z:Nat} (L:Fx P ρ z) (a0:Option Addr) (m vc:Nat) (va:Option Addr) (w w1:World) (v1:Value) (hm:0<m)
  (hrun:∀ty,(Builtin.append_ #[(ρ.t 24),(ρ.t 24)] ty #[.slice a0 0 0,.slice va m vc]).run P w = .ok v1 w1) :
  Calls P (ρ.f 22) #[.slice a0 0 0,.int .i64 0,.slice va m vc] w fun e w'=>e = .returned v1∧w'=w1:=by
 have t3:=L.t3;have a3:=L.a3;have z3:=L.z3;have v3:=L.v3;have t4:=L.t4;have a4:=L.a4;have z4:=L.z4;have v4:=L.v4;have t24:=L.t24;have a24:=L.a24;have z24:=L.z24;have v24:=L.v24;have z9:=L.z9;have u3:=run_underlying L.t3;have u4:=run_underlying L.t4;have u24:=run_underlying L.t24;have mixed:=L.mixed;have hz1:¬((m:Int)=0):=by omega
 obtain ⟨_,_,FG⟩:=L.f22
 go_enter FG,Body2.n22_ntmps ρ
 cases a0 with
 |none=>
  go_wp2_with (at_builtin;refine Lib.wpList_append_run _ rfl _ _ _ _ rfl _ _ rfl rfl _ _ (hrun _) ?_)
  go_ret
  exact ⟨rfl,rfl⟩
 |some a=>
  obtain ⟨ab,ao,asp⟩:=a
  go_wp2_with (at_builtin;refine Lib.wpList_append_run _ rfl _ _ _ _ rfl _ _ rfl rfl _ _ (hrun _) ?_)
  all_goals (go_ret;exact ⟨rfl,rfl⟩)
set_option maxHeartbeats 4000000 in
set_option maxRecDepth 100000 in
theorem UA {z:Nat} (L:Fx P ρ z) (b off n c i vb voff m vc:Nat) (cs vs:List Value) (w:World) (hi:i<n) (hm:0<m) (hnc:n≤c) (hroom:c<n+m) (hbig:(n+m)*65536≤140737488355328)
  (hcl:cs.length=n*z) (hvl:vs.length=m*z)
  (hcs:∀j v,cs[j]? = some v→w.cell? ⟨b,off+j,none⟩=some v)
  (hvs:∀j v,vs[j]? = some v→w.cell? ⟨vb,voff+j,none⟩=some v) (h1c:∀v∈cs,v.oneCell'=true) (h1v:∀v∈vs,v.oneCell'=true) :
  ∃(ROW:Array Value) (G:Nat),n+m≤G∧ROW.size=G*z∧(∀j,j<i*z→ROW[j]? = cs[j]?)∧
  Calls P (ρ.f 22) #[.slice (some ⟨b,off,none⟩) n c,.int .i64 i,.slice (some ⟨vb,voff,none⟩) m vc] w fun e w'=>
   e = .returned (.slice (some ⟨w.heap.size,0,none⟩) (n+m) G)∧
   w'=(((w.alloc (.cells ROW (ρ.t 9))).drew.setCells w.heap.size (i*z) vs).drew).setCells w.heap.size ((i+m)*z) (cs.drop (i*z)):=by
 have t3:=L.t3;have a3:=L.a3;have z3:=L.z3;have v3:=L.v3;have t4:=L.t4;have a4:=L.a4;have z4:=L.z4;have v4:=L.v4;have t24:=L.t24;have a24:=L.a24;have z24:=L.z24;have v24:=L.v24;have z9:=L.z9;have u3:=run_underlying L.t3;have u4:=run_underlying L.t4;have u24:=run_underlying L.t24;have mixed:=L.mixed;obtain ⟨i0,zv,hi0,hz0,hzs,hzz,hzb⟩:=L.i9;have hpos:=L.pos;have hz1:¬((m:Int)=0):=by omega
 have hz2:¬((i:Int)=(n:Int)):=by omega
 have hz3:(c:Int)<(n:Int)+(m:Int):=by omega
 have hnz:i*z<n*z:=Nat.mul_lt_mul_of_pos_right hi hpos;have hmz:0<m*z:=Nat.mul_pos hm hpos;have hbw:b<w.heap.size:=block_lt_of_cell (hcs 0 _ (getElem?_eq_getElem (by omega)));have hvw:vb<w.heap.size:=block_lt_of_cell (hvs 0 _ (getElem?_eq_getElem (by omega)));have hkk:(n:Int)+(m:Int)-(i:Int)=((n+m-i:Nat):Int):=by omega
 have hik:i+(n+m-i)=n+m:=by omega
 have hold:(Builtin.firstCells i0.size i (.slice (some ⟨b,off,none⟩) i c)).run P w.drew = .ok (cs.take (i*z)).toArray w.drew:=by
  rw [hzs];exact run_firstCells_some w.drew z i ⟨b,off,none⟩ i c (cs.take (i*z)) (by rw [length_take];omega) (fun j v hj=>by
   rw [Addr.add_lit];rw [getElem?_take] at hj;split at hj
   ·exact hcs j v hj
   ·cases hj)
 have hb1:(n+m)*i0.bytes≤140737488355328:=le_trans (Nat.mul_le_mul_left _ hzb) hbig;have hb2:(n+m-i)*i0.bytes≤281474976710656:=le_trans (mul_le_mul_right _ (Nat.sub_le _ _)) (by omega);have hrz:∀ty,(Builtin.append_ #[(ρ.t 24),(ρ.t 3)] ty #[.slice (some ⟨b,off,none⟩) i c,.int .i64 ((n:Int)+(m:Int)-(i:Int))]).run P w =
   .ok (.slice (some ⟨w.heap.size,0,none⟩) (n+m) (grownCap w (n+m) c (ρ.t 9))) (w.drew.alloc (.cells ((cs.take (i*z)).toArray++Builtin.zeroCells zv.cells (n+m-i)++Builtin.zeroCells zv.cells (grownCap w (n+m) c (ρ.t 9)-(n+m))) (ρ.t 9))):=fun ty=>by
  have h:=Lib.run_append_grow_zeros w (ρ.t 24) (ρ.t 3) ty (ρ.t 9) i0 _ .i64 .i64 L.t24 L.t3 hi0 hz0 (some ⟨b,off,none⟩) i c (cs.take (i*z)) hold (n+m-i) (by omega) (by omega) (by omega) (by omega) hb2 (by rw [hik];exact growslice_fits hroom hb1);rw [hik] at h;rw [hkk];exact h
 have hzc:∀k,(Builtin.zeroCells zv.cells k).size=k*z:=fun k=>by simp [Builtin.zeroCells,hzz]
 obtain ⟨G,hG⟩:∃G,G=grownCap w (n+m) c (ρ.t 9):=⟨_,rfl⟩
 obtain ⟨ROW,hROW⟩:∃ROW:Array Value,ROW=(cs.take (i*z)).toArray++Builtin.zeroCells zv.cells (n+m-i)++Builtin.zeroCells zv.cells (G-(n+m)):=⟨_,rfl⟩
 rw [← hG] at hrz;rw [← hROW] at hrz;have hGn:n+m≤G:=by rw [hG];exact grownCap_ge w _ _ _
 have hRs:ROW.size=G*z:=by rw [hROW,size_append,size_append,hzc,hzc,size_toArray,length_take,hcl,Nat.min_eq_left (Nat.le_of_lt hnz),← add_mul,← add_mul];congr 1;omega
 have hRl:(n+m)*z≤ROW.size:=by rw [hRs];exact mul_le_mul_right _ hGn
 refine ⟨ROW,G,hGn,hRs,fun j hj => ?_,?_⟩
 ·have h8:j<(cs.take (i*z)).length:=by rw [length_take];omega
  rw [hROW,Array.append_assoc,Array.getElem?_append,if_pos (by simpa using h8)];simp [getElem?_take,hj]
 obtain ⟨W1,hW1⟩:∃W1,W1=w.drew.alloc (.cells ROW (ρ.t 9)):=⟨_,rfl⟩
 rw [← hW1] at hrz;have hN:∀j,j<(n+m)*z→(W1.cell? ⟨w.heap.size,j,none⟩).isSome=true:=fun j hj=>by rw [hW1,World.cell?_alloc_at (w:=w.drew) ROW _ w.heap.size j rfl,Array.getElem?_eq_getElem (by omega)];rfl
 have hNf:∀j,W1.frozen? ⟨w.heap.size,j,none⟩=false:=fun j=>by rw [hW1];exact World.frozen?_alloc_at (w:=w.drew) ROW _ w.heap.size j rfl
 have hOb:∀j v,w.cell? ⟨b,j,none⟩=some v→W1.cell? ⟨b,j,none⟩=some v:=fun j v h=>by rw [hW1,World.cell?_alloc_past (w:=w.drew) _ b j hbw];exact h
 have hOv:∀j v,w.cell? ⟨vb,j,none⟩=some v→W1.cell? ⟨vb,j,none⟩=some v:=fun j v h=>by rw [hW1,World.cell?_alloc_past (w:=w.drew) _ vb j hvw];exact h
 have hmul1:(i+m)*z+(n-i)*z=(n+m)*z:=by rw [← add_mul];congr 1;omega
 have hmul2:i*z+m*z≤(n+m)*z:=by rw [← add_mul];exact mul_le_mul_right _ (by omega)
 have hcpA:∀(W:World),(∀x,W.cell? x=W1.cell? x)→(∀x,W.frozen? x=W1.frozen? x)→∀ty dc,(Builtin.copy_ #[(ρ.t 24),(ρ.t 24)] ty #[.slice (some ⟨w.heap.size,i*z,none⟩) (n+m-i) dc,.slice (some ⟨vb,voff,none⟩) m vc]).run P W = .ok (goInt m) (W.setCells w.heap.size (i*z) vs):=fun W hWc hWf ty dc=>
  C6 W _ _ ty (ρ.t 9) z w.heap.size (i*z) (n+m-i) dc ⟨vb,voff,none⟩ m vc m vs L.t24 L.z9 (by simp only [min_def];split<;>omega) hvl
   (fun j v hj=>by rw [Addr.add_lit,hWc];exact hOv _ v (hvs j v hj))
   (fun j hj=>by rw [hWc];exact hN _ (by omega)) (fun j hj=>by rw [hWf];exact hNf _) h1v
 have hG63:G≤9223372036854775807:=by have:=grownCap_le_maxLen w (n+m) c (ρ.t 9) (by unfold maxLen;omega);rw [← hG] at this;unfold maxLen at this;omega
 have hGi:¬(G=i):=by omega
 have hGim:¬(G=i+m):=by omega
 have hci:¬(c=i):=by omega
 have hbN:b≠w.heap.size:=by omega
 have hdl:(cs.drop (i*z)).length=(n-i)*z:=by rw [length_drop,hcl,Nat.sub_mul]
 have hcpB:∀(W:World),(∀x,W.cell? x=(W1.setCells w.heap.size (i*z) vs).cell? x)→(∀x,W.frozen? x=(W1.setCells w.heap.size (i*z) vs).frozen? x)→∀ty dc sc,(Builtin.copy_ #[(ρ.t 24),(ρ.t 24)] ty #[.slice (some ⟨w.heap.size,(i+m)*z,none⟩) (n+m-(i+m)) dc,.slice (some ⟨b,off+i*z,none⟩) (n-i) sc]).run P W = .ok (goInt ((n-i:Nat):Int)) (W.setCells w.heap.size ((i+m)*z) (cs.drop (i*z))):=fun W hWc hWf ty dc sc=>
  C6 W _ _ ty (ρ.t 9) z w.heap.size ((i+m)*z) (n+m-(i+m)) dc ⟨b,off+i*z,none⟩ (n-i) sc (n-i) (cs.drop (i*z)) L.t24 L.z9 (by simp only [min_def];split<;>omega) hdl
   (fun j v hj=>by rw [Addr.add_lit,hWc,World.cell?_setCells_out _ _ _ _ _ (fun h _=>absurd h hbN),add_assoc];exact hOb _ v (hcs (i*z+j) v (by rwa [getElem?_drop] at hj)))
   (fun j hj=>by rw [hWc];exact isSome_setCells _ _ _ _ (fun t ht=>hN _ (by omega)) _ (hN _ (by omega)))
   (fun j hj=>by rw [hWf,World.frozen?_setCells];exact hNf _) (fun v hv=>h1c v (mem_of_mem_drop hv))
 subst hW1;have hE1:∀x,((w.alloc (.cells ROW (ρ.t 9))).drew).cell? x=(w.drew.alloc (.cells ROW (ρ.t 9))).cell? x:=fun x=>rfl;have hE2:∀x,((w.alloc (.cells ROW (ρ.t 9))).drew).frozen? x=(w.drew.alloc (.cells ROW (ρ.t 9))).frozen? x:=fun x=>rfl;have hF1:∀x,(((w.alloc (.cells ROW (ρ.t 9))).drew.setCells w.heap.size (i*z) vs).drew).cell? x=((w.drew.alloc (.cells ROW (ρ.t 9))).setCells w.heap.size (i*z) vs).cell? x:=fun x=>rfl;have hF2:∀x,(((w.alloc (.cells ROW (ρ.t 9))).drew.setCells w.heap.size (i*z) vs).drew).frozen? x=((w.drew.alloc (.cells ROW (ρ.t 9))).setCells w.heap.size (i*z) vs).frozen? x:=fun x=>rfl;have hw1:IntKind.i64.wrap ((i:Int)+(m:Int))=(i:Int)+(m:Int):=by rw [IntKind.wrap_i64];omega
 have hb1':(0:Int)≤(i:Int)+(m:Int):=by omega
 have hin:i≤n:=by omega
 have htn:((i:Int)+(m:Int)).toNat=i+m:=by omega
 have hb3:(i:Int)≤(n:Int):=by omega
 clear hkk hik hold hROW hG hRl hmul1 hmul2 hdl hRs hzc hb1 hb2 hnz hmz hN hNf hOb hOv;obtain ⟨_,_,FG⟩:=L.f22
 go_enter FG,Body2.n22_ntmps ρ
 go_wp2_with (first
  |(at_builtin;refine Lib.wpList_append_run _ rfl _ _ _ _ rfl _ _ rfl rfl _ _ (hrz _) ?_)
  |(at_builtin;refine wpList_copy_runI _ rfl _ _ (ρ.t 24) (ρ.t 24) rfl _ _ rfl rfl (hcpA _ hE1 hE2 _ _) ?_)
  |(at_builtin;refine wpList_copy_runI _ rfl _ _ (ρ.t 24) (ρ.t 24) rfl _ _ rfl rfl (hcpB _ (fun _=>rfl) (fun _=>rfl) _ _ _) ?_))
 go_region_law_o (refine step_copy_runI rfl _ _ (ρ.t 24) (ρ.t 24) rfl (.slice (some ⟨w.heap.size,(i+m)*z,none⟩) (n+m-(i+m)) (G-(i+m))) (.slice (some ⟨b,off+i*z,none⟩) (n-i) (c-i)) (by simp [Act.eval,Act.put]) (by simp [Act.eval,Act.put]) (hcpB _ hF1 hF2 (ρ.t 3) (G-(i+m)) (c-i)) ?_)
 go_wp2
 go_ret
 exact ⟨rfl,rfl⟩
end Go.Proofs
namespace Ab
open Go Go.Proofs Go.Shelf
variable {P:Program} {B:Nat→Prop} {κ:Ay} {h:Heap} {w:World} {R:Type}
theorem O6 {n:Nat} {f:FuncId} {args:Array Value} {Q:Ending→World→Prop} (hc:Calls P f args w Q):CallsIn (Fr none) n P f args w Q:=callsIn_wide.2 hc
theorem EL {b o:Nat} {cells:Array Value} {el:TypeId} (hb:w.heap[b]? = some (.cells cells el (0,0))) (vs:List Value) (hfit:o+vs.length≤cells.size) (h1:∀v∈vs,v.oneCell'=true) :
  w.setCells b o vs=w.setRow b (Al cells o vs):=by
 have e1:=run_storeCells_cells (P:=default) b o vs 0 w (fun j hj=>by
  rw [BK hb (by omega)];rfl) (fun j hj=>by
  simp [World.frozen?,hb]) h1
 have e2:=run_storeCells_at default b o el vs 0 cells w hb (by simpa using hfit) h1;rw [e1] at e2;simp only [add_zero] at e2;injection e2
theorem L4 {A:Nat→Prop} {z:Nat} {L:List (List Tree)} {f:Nat→Value} (hL:BA w A z L f) (k:Nat):BA w A z (L.take k) f∧BA w A z (L.drop k) fun q=>f (k*z+q):=by
 refine ⟨⟨fun j e he=>hL.1 j e (BU he).2,fun j e c x he hx=>hL.2 j e c x (BU he).2 hx⟩,⟨fun j e he => ?_,fun j e c x he hx => ?_⟩⟩
 ·rw [getElem?_drop] at he;exact hL.1 _ e he
 ·rw [getElem?_drop] at he;have:=hL.2 _ e c x he hx;rw [add_mul,add_assoc] at this;exact this
theorem IK {A:Nat→Prop} {z k:Nat} {L M:List (List Tree)} {f m g:Nat→Value} (hL:BA w A z L f) (hM:BA w A z M m) (hk:k≤L.length)
  (h1:∀q,q<k*z→g q=f q) (h2:∀q,q<M.length*z→g (k*z+q)=m q) (h3:∀q,q<(L.length-k)*z→g ((k+M.length)*z+q)=f (k*z+q)):BA w A z (L.take k++M++L.drop k) g:=by
 have hp:=L4 hL k;have hlt:(L.take k).length=k:=by rw [length_take];omega
 have cong:∀{L:List (List Tree)} {f g:Nat→Value},BA w A z L f→(∀q,q<L.length*z→g q=f q)→BA w A z L g:=fun {L f g} hL hfg=>⟨hL.1,fun j e c x he hx=>by
  have h1:j<L.length:=(List.getElem?_eq_some_iff.1 he).1;have hcl:c<z:=by rw [← hL.1 j e he];exact (List.getElem?_eq_some_iff.1 hx).1
  have:=mul_le_mul_right z (show j+1≤L.length from h1);rw [succ_mul] at this;rw [hfg _ (by omega)];exact hL.2 j e c x he hx⟩
 refine C7 (f:=g) (C7 hp.1 ?_ fun q hq=>by rw [hlt] at hq;exact h1 q hq) ?_ fun _ _=>rfl
 ·refine cong hM fun q hq => ?_;rw [hlt];exact h2 q hq
 ·refine cong hp.2 fun q hq => ?_;rw [length_append,hlt];rw [length_drop] at hq;exact h3 q hq
theorem QO {ρ:Ren} {z:Nat} (L:Fx P ρ z) (hh:Af B κ h w) {ri ver off len k:Nat} {es new:List (List Tree)} (hri:h[ri]? = some (.row false ver z es)) (hoff:off+len=es.length) (hk:k<len) (hnew:new≠[]) (hle:len+new.length≤1073741824) (hz1:z≠1)
  {vs vx:Value} (hs:AM B κ h w (.sref ri ver off len) vs) (hx:BH w (fun b=>B b∨Ex κ h b) (.sl z new) vx) :
  Calls P (ρ.f 22) #[vs,.int .i64 (k:Int),vx] w fun e w'=>∃val κ',e = .returned val∧AM B κ' (h.set ri (.row false (ver+1) z ((es.drop off).take k++new++(es.drop off).drop k))) w' (.sref ri (ver+1) 0 (len+new.length)) val∧
   Af B κ' (h.set ri (.row false (ver+1) z ((es.drop off).take k++new++(es.drop off).drop k))) w'∧Ext κ h w κ' (h.set ri (.row false (ver+1) z ((es.drop off).take k++new++(es.drop off).drop k))) w':=by
 have hz0:z≠0:=Nat.pos_iff_ne_zero.1 L.pos;have hOL:∀L,OLe (.row false ver z es) (.row false (ver+1) z L):=fun L=>⟨rfl,le_succ _,(fun e=>by simp [AQ.ver] at e),(fun e=>by cases e),(fun e=>by cases e),rfl⟩
 have hver:∀L,(AQ.row false ver z es).ver=(AQ.row false (ver+1) z L).ver→∀{p:Prop},p:=fun L e=>by simp [AQ.ver] at e
 cases hs with
 |sref _ _ _ _ _ _ hex hsr=>
 obtain ⟨kk,hkk⟩:=Ba hh hri;obtain ⟨_,_,hm⟩:=hsr kk _ hkk hri rfl;have ho:=hh.obj ri _ _ hri hkk;rcases hm with ⟨rfl,hof,a0,rfl⟩|⟨b,base,rfl,cap,rfl,hcap',hcs⟩
 ·omega
 have hcap:len≤cap:=by simp only [AQ.len] at hcap';omega
 obtain ⟨hsz0,cells,el,fr,hcell,hth,hcsz,hls,hct⟩:=ho;have hfr0:fr=(0,0):=hth.resolve_right fun h=>hz1 h.1;subst hfr0;have hcapc:=hcs cells el _ hcell;simp only [AQ.size] at hcapc ⊢;rw [add_mul] at hcapc;have hdl:(es.drop off).length=len:=by simp;omega
 have hold:BA w (fun b=>B b∨Ex κ h b) z (es.drop off) fun q=>cells.getD (base+off*z+q) undef:=by refine ⟨fun j e' he'=>hls _ e' (by rw [getElem?_drop] at he';exact he'),fun j e' c y he' hy => ?_⟩;rw [getElem?_drop] at he';have:=hct _ e' c y he' hy;rw [add_mul] at this;dsimp only;rw [show base+off*z+(j*z+c)=base+(off*z+j*z+c) from by omega];exact this
 have hbA:B b∨Ex κ h b :=.inr ⟨ri,base,_,hkk,hri,rfl⟩;have hpos:0<new.length:=length_pos_iff.2 hnew;have hnb:∀nb o m ncap,vx = .slice (some ⟨nb,o,none⟩) m ncap→nb≠b:=fun nb o m ncap e e2=>by
  cases hx with
  |nil=>exact hnew rfl
  |sl _ _ b0 o0 c0 u _ _ hA _ _ _=>
   injection e with e3 e4 e5;injection e3 with e3;injection e3 with e6;exact hA (by rw [e6,e2];exact hbA)
 obtain ⟨nb,o,ncap,news,hvx,hnl,hnc,hn1,hnt⟩:=Ia hz0 (Dh.IY hx) hnew;have hvb:=hnb _ _ _ _ hvx;subst hvx;have hne:es.drop off≠[]:=fun e=>by rw [e] at hdl;simp at hdl;omega
 have hmz:=mul_le_mul_right z hcap;have hslr:Dh w (fun b=>B b∨Ex κ h b) z (es.drop off) (.slice (some ⟨b,base+off*z,none⟩) len cap):=⟨hold.1,_,cap,by rw [hdl],by rw [hdl];exact hcap,.inr ⟨b,base+off*z,rfl,hh.lt ri b base hkk,fun j e c x he hx=>by
  have hj:j<len:=by rw [← hdl];exact (List.getElem?_eq_some_iff.1 he).1
  have hcl:c<z:=by rw [← hold.1 j e he];exact (List.getElem?_eq_some_iff.1 hx).1
  have hq:=mul_le_mul_right z (show j+1≤len from hj);rw [succ_mul] at hq;exact ⟨_,BK hcell (by omega),hold.2 j e c x he hx⟩⟩⟩
 obtain ⟨b',o',cap',cs,hvs,hcl,hcc,hc1,hct'⟩:=Ia hz0 hslr hne;injection hvs with hv1 hv2 hv3;injection hv1 with hv1;injection hv1 with hv4 hv5;subst hv4 hv5;rw [hdl] at hcl;have hcc':∀j v,cs[j]? = some v→w.cell? ⟨b,base+off*z+j,none⟩=some v:=fun j v hj=>by have:=hcc j v hj;rwa [Dc] at this
 have hnc':∀j v,news[j]? = some v→w.cell? ⟨nb,o+j,none⟩=some v:=fun j v hj=>by have:=hnc j v hj;rwa [Dc] at this
 have hcg:∀q,q<len*z→cells.getD (base+off*z+q) undef=cs.getD q undef:=fun q hq=>by have h1:=hcc' q _ (BG cs q undef (by omega));rw [BK hcell (by omega)] at h1;exact Option.some.inj h1
 have hold':BA w (fun b=>B b∨Ex κ h b) z (es.drop off) fun q=>cs.getD q undef:=⟨hold.1,hct'⟩
 have hnr:BA w (fun b=>B b∨Ex κ h b) z new fun q=>news.getD q undef:=⟨(Dh.IY hx).1,hnt⟩
 have hlen2:((es.drop off).take k++new++(es.drop off).drop k).length=len+new.length:=by simp only [length_append,length_take,length_drop];omega
 have hm1:(k+new.length)*z+(len-k)*z=(len+new.length)*z:=by rw [← add_mul];congr 1;omega
 have hm2:(k+new.length)*z=k*z+new.length*z:=add_mul _ _ _;have hm3:(len+new.length)*z=len*z+new.length*z:=add_mul _ _ _;have hdl2:(cs.drop (k*z)).length=(len-k)*z:=by rw [length_drop,hcl,Nat.sub_mul]
 have hdg:∀q,(cs.drop (k*z)).getD q undef=cs.getD (k*z+q) undef:=fun q=>by simp [List.getD,getElem?_drop]
 by_cases hroom:len+new.length≤cap
 ·have hmul:=mul_le_mul_right z hroom;obtain ⟨tA,kA,hsa,hkA⟩:∃tA kA,w.shape? nb=some (tA,kA)∧kA≠0:=by
   have h1:=hnc' 0 _ (BG news 0 undef (by rw [hnl];exact Nat.mul_pos hpos L.pos));cases hb0:w.heap[nb]? with
   |none=>simp [World.cell?,hb0] at h1
   |some ob=>
    cases ob with
    |cells c0 e0 f0=>
     refine ⟨e0,c0.size,by simp [World.shape?,hb0],fun e => ?_⟩;simp [World.cell?,hb0] at h1;obtain ⟨h2,_⟩:=Array.getElem?_eq_some_iff.1 h1;omega
    |_=>simp [World.cell?,hb0] at h1
  have hsb:w.shape? b=some (el,cells.size):=by simp [World.shape?,hcell]
  have key:=SP L b (base+off*z) len cap k nb o new.length ncap cs news w hk hpos hroom (by omega) hvb hcl hnl hcc'
   (fun j hj=>by rw [BK hcell (by omega)];rfl) (fun j=>by simp [World.frozen?,hcell]) hnc' hc1 hn1 tA el kA cells.size hsa hsb hkA
  refine key.mono ?_
  rintro e w' ⟨rfl,rfl⟩
  have hf1:base+off*z+(k+new.length)*z+(cs.drop (k*z)).length≤cells.size:=by omega
  have hs1:=CG cells _ _ hf1;have hf2:base+off*z+k*z+news.length≤(Al cells (base+off*z+(k+new.length)*z) (cs.drop (k*z))).size:=by rw [hs1];omega
  have hs2:=CG _ _ _ hf2;have e1:w.drew.setCells b (base+off*z+(k+new.length)*z) (cs.drop (k*z))=w.drew.setRow b (Al cells (base+off*z+(k+new.length)*z) (cs.drop (k*z))):=EL (w:=w.drew) hcell _ hf1 fun v hv=>hc1 v (mem_of_mem_drop hv);have hr1:=setRow_heap w.drew b cells (Al cells (base+off*z+(k+new.length)*z) (cs.drop (k*z))) el _ hcell;rw [e1,EL hr1 news hf2 hn1];have hr2:=setRow_heap _ b _ (Al (Al cells (base+off*z+(k+new.length)*z) (cs.drop (k*z))) (base+off*z+k*z) news) el _ hr1;generalize hW:(w.drew.setRow b (Al cells (base+off*z+(k+new.length)*z) (cs.drop (k*z)))).setRow b (Al (Al cells (base+off*z+(k+new.length)*z) (cs.drop (k*z))) (base+off*z+k*z) news)=W at hr2 ⊢;have h5:∀b',b'<w.heap.size→(∀base',(some (b,base):Option (Nat×Nat))≠some (b',base'))→W.heap[b']? = w.heap[b']? :=fun b' _ hb'=>by have hbn:b'≠b:=fun e=>hb' base (by rw [e]);rw [← hW,setRow_other _ b _ hbn,setRow_other _ b _ hbn];rfl
  have hsz:W.heap.size=w.heap.size:=by rw [← hW,setRow_size,setRow_size];rfl
  have x1:Ext κ h w (κ.set ri (some (b,base+off*z))) (h.set ri (.row false (ver+1) z ((es.drop off).take k++new++(es.drop off).drop k))) W:=
   CH (w':=W) hh hri rfl (hOL _) hkk (by rw [← hW];rfl) (by rw [← hW];rfl) (by rw [← hW];rfl) (by rw [hsz];exact le_refl _) h5 (fun b' base' e=>by injection e with e;injection e with e1 e2;subst e1;exact .inl ⟨base,rfl⟩) (fun e=>hver _ e)
  have hh1:=Bg hh hri hkk h5 (fun b' base' e=>by injection e with e;injection e with e1 e2;subst e1;exact ⟨.inl ⟨base,rfl⟩,by rw [hsz];exact hh.lt ri _ base hkk⟩) x1
   (Bj hz0 hr2 (.inl rfl) (by rw [hlen2,hs2,hs1];omega) (Co x1 (IK hold' hnr (by omega) (fun q hq=>by
    have hqk:q<len*z:=lt_of_lt_of_le hq (mul_le_mul_right z (by omega));rw [BF _ _ _ hf2,if_neg (by omega),BF _ _ _ hf1,if_neg (by omega),hcg q hqk]) (fun q hq=>by
    rw [BF _ _ _ hf2,if_pos ⟨by omega,by omega⟩];congr 1;omega) (fun q hq=>by
    rw [hdl] at hq;rw [BF _ _ _ hf2,if_neg (by omega),BF _ _ _ hf1,if_pos ⟨by omega,by omega⟩,← hdg];congr 1;omega))))
  exact ⟨_,_,rfl,Bf (An hkk) (An hri) hr2 (by rw [hs2,hs1];omega) hlen2 hroom,hh1,x1⟩
 ·have hbig:(len+new.length)*65536≤140737488355328:=le_trans (mul_le_mul_right _ hle) (by omega);obtain ⟨ROW,G,hG,hRs,hR,key⟩:=UA L b (base+off*z) len cap k nb o new.length ncap cs news w hk hpos hcap (by omega) hbig hcl hnl hcc' hnc' hc1 hn1;refine key.mono ?_
  rintro e w' ⟨rfl,rfl⟩
  have hGz:=mul_le_mul_right z hG;have ha:(w.alloc (.cells ROW (ρ.t 9))).drew.heap[w.heap.size]? = some (.cells ROW (ρ.t 9) (0,0)):=A5 w _;have hf1:k*z+news.length≤ROW.size:=by omega
  have hs1:=CG ROW _ _ hf1;have hf2:(k+new.length)*z+(cs.drop (k*z)).length≤(Al ROW (k*z) news).size:=by rw [hs1];omega
  have hs2:=CG _ _ _ hf2;have hr1:=setRow_heap (w.alloc (.cells ROW (ρ.t 9))).drew w.heap.size ROW (Al ROW (k*z) news) (ρ.t 9) _ ha;have hr1':(((w.alloc (.cells ROW (ρ.t 9))).drew.setRow w.heap.size (Al ROW (k*z) news)).drew).heap[w.heap.size]? = some (.cells (Al ROW (k*z) news) (ρ.t 9) (0,0)):=hr1;rw [EL ha news hf1 hn1,EL hr1' _ hf2 fun v hv=>hc1 v (mem_of_mem_drop hv)];have hr2:=setRow_heap _ w.heap.size _ (Al (Al ROW (k*z) news) ((k+new.length)*z) (cs.drop (k*z))) (ρ.t 9) _ hr1';generalize hW:(((w.alloc (.cells ROW (ρ.t 9))).drew.setRow w.heap.size (Al ROW (k*z) news)).drew).setRow w.heap.size (Al (Al ROW (k*z) news) ((k+new.length)*z) (cs.drop (k*z)))=W at hr2 ⊢;have h5:∀b',b'<w.heap.size→W.heap[b']? = w.heap[b']? :=fun b' hb'=>by rw [← hW,setRow_other _ _ _ (by omega)];show ((w.alloc (.cells ROW (ρ.t 9))).drew.setRow w.heap.size (Al ROW (k*z) news)).heap[b']? = _;rw [setRow_other _ _ _ (by omega)];exact Ag w _ hb'
  have hsz:W.heap.size=w.heap.size+1:=by rw [← hW,setRow_size];show ((w.alloc (.cells ROW (ρ.t 9))).drew.setRow w.heap.size (Al ROW (k*z) news)).heap.size=_;rw [setRow_size];simp
  have x1:Ext κ h w (κ.set ri (some (w.heap.size,0))) (h.set ri (.row false (ver+1) z ((es.drop off).take k++new++(es.drop off).drop k))) W:=
   CH (w':=W) hh hri rfl (hOL _) hkk (by rw [← hW];rfl) (by rw [← hW];rfl) (by rw [← hW];rfl) (by omega) (fun b' hb' _=>h5 b' hb') (fun b' base' e=>by injection e with e;injection e with e;exact .inr (by omega)) (fun e=>hver _ e)
  have hh1:=Bg hh hri hkk (fun b' hb' _=>h5 b' hb') (fun b' base' e=>by injection e with e;injection e with e;subst e;exact ⟨.inr (le_refl _),by omega⟩) x1
   (Bj hz0 hr2 (.inl rfl) (by rw [hlen2,hs2,hs1];omega) (Co x1 (IK hold' hnr (by omega) (fun q hq=>by
    rw [zero_add,BF _ _ _ hf2,if_neg (by omega),BF _ _ _ hf1,if_neg (by omega)];have:=hR q hq;simp only [Array.getD_eq_getD_getElem?,getD_eq_getElem?_getD,this]) (fun q hq=>by
    rw [zero_add,BF _ _ _ hf2,if_neg (by omega),BF _ _ _ hf1,if_pos ⟨by omega,by omega⟩];congr 1;omega) (fun q hq=>by
    rw [hdl] at hq;rw [zero_add,BF _ _ _ hf2,if_pos ⟨by omega,by omega⟩,← hdg];congr 1;omega))))
  exact ⟨_,_,rfl,Bf (An hkk) (An hri) hr2 (by rw [hs2,hs1];omega) hlen2 hG,hh1,x1⟩
end Ab
namespace Ab
open Go Go.Proofs Go.Shelf
variable {P:Program} {B:Nat→Prop} {κ:Ay} {h:Heap} {w:World} {R:Type}
theorem Mg {ρ:Ren} {z:Nat} (L:Fx P ρ z):Le P (ρ.t 24)=some z:=by obtain ⟨i,zv,h1,h2,h3,h4,h5⟩:=L.i9;have:=L.pos;simp only [Le,L.t24,h1,h2];rw [if_pos ⟨by omega,by omega,h5⟩,h3]
theorem ains_ok {ρ:Ren} {z:Nat} (L:Fx P ρ z) {avs:List AV} {K:AV→Heap→Option R} {r:R} (hr:ains z h avs K=some r) (hh:Af B κ h w) {vs:Array Value} (hc:AU B κ h w avs vs) (n:Nat) :
  CallsIn (Fr none) n P (ρ.f 22) vs w fun e w'=>∃val v h' κ',e = .returned val∧K v h'=some r∧AM B κ' h' w' v val∧Af B κ' h' w'∧Ext κ h w κ' h' w':=by
 refine O6 ?_;unfold ains at hr
 try simp only [AD] at hr
 split at hr
 ·rename_i s kx z' new;obtain ⟨k,hk,hr1⟩:=bind_some hr;obtain ⟨⟨rfl,hn0⟩,hr2⟩:=AE hr1;clear hr hr1;obtain ⟨vs⟩:=vs;have hl:vs.length=3:=by simpa using hc.1
  match vs,hl with
  |[v0,v1,v2],_=>
  have c0:AM B κ h w s v0:=hc.2 0 s rfl;have c1:AM B κ h w kx v1:=hc.2 1 kx rfl;have c2:AM B κ h w (.t (.sl z' new)) v2:=hc.2 2 _ rfl;have hk1:v1 = .int .i64 k:=Bz hk c1;subst hk1;have hnew:new≠[]:=fun e=>hn0 (by rw [e];rfl);have hpos:0<new.length:=length_pos_iff.2 hnew;obtain ⟨va,vc,hva⟩:∃va vc,v2 = .slice va new.length vc:=by
   cases c2 with
   |t _ _ ht=>cases ht with
    |nil=>exact (hnew rfl).elim
    |sl _ _ b0 o0 c0 u _ _ hA _ _ _=>exact ⟨_,_,rfl⟩
  split at hr2
  ·obtain ⟨⟨rfl,hle⟩,hK⟩:=AE hr2;have hap:Dd P (ρ.t 24) h .nilsl (.t (.sl z' new)) K=some r:=by simp [Dd,Mg L,HQ,elems,AD,hle,hK]
   obtain ⟨v,h',κ',val,w',h1,h2,h3,h4,h5⟩:=H7 (t':=ρ.t 24) (by simp [Gj]) hap hh c0 c2 0;cases c0 with
   |nilsl a0=>
    subst hva;refine (RT L a0 new.length vc va w w' val hpos fun ty=>h2).mono ?_
    rintro e w2 ⟨rfl,rfl⟩
    exact ⟨_,_,_,_,rfl,h1,h3,h4,h5⟩
  ·rename_i i ver off len;split at hr2
   ·rename_i ver' size es hi;obtain ⟨⟨rfl,rfl,hoff,hle,hk0,hkl,hz1⟩,hK⟩:=AE hr2;obtain ⟨k',rfl⟩:=Int.eq_ofNat_of_zero_le hk0;simp only [toNat_natCast] at hK;have hdl:(es.drop off).length=len:=by simp;omega
    by_cases hkk:k'=len
    ·subst hkk;have hap:Dd P (ρ.t 24) h (.sref i ver' off k') (.t (.sl size new)) K=some r:=by have hA:(es.drop off).take k'=es.drop off:=take_of_length_le (by omega);have hB:(es.drop off).drop k'=[]:=List.drop_eq_nil_of_le (by omega);rw [hA,hB,append_nil] at hK;simp [Dd,Mg L,HQ,elems,AD,hi,hoff,hle,hA,hK]
     obtain ⟨v,h',κ',val,w',h1,h2,h3,h4,h5⟩:=H7 (t':=ρ.t 24) (by simp [Gj]) hap hh c0 c2 0;cases c0 with
     |sref _ _ _ _ _ _ hex hsr=>
     obtain ⟨kk,hkk⟩:=Ba hh hi;obtain ⟨_,_,hm⟩:=hsr kk _ hkk hi rfl;have ho:=hh.obj i _ _ hi hkk;subst hva;rcases hm with ⟨rfl,hof,a0,rfl⟩|⟨b,base,rfl,cap,rfl,hcap',hcs⟩
     ·refine (RT L a0 new.length vc va w w' val hpos fun ty=>h2).mono ?_
      rintro e w2 ⟨rfl,rfl⟩
      exact ⟨_,_,_,_,rfl,h1,h3,h4,h5⟩
     ·have hcap:k'≤cap:=by simp only [AQ.len] at hcap';omega
      refine (ins_end L b _ k' cap new.length vc va w w' val hpos hcap (by omega) fun ty=>h2).mono ?_
      rintro e w2 ⟨rfl,rfl⟩
      exact ⟨_,_,_,_,rfl,h1,h3,h4,h5⟩
    ·refine (QO L hh hi hoff (by omega) hnew hle hz1 c0 (by cases c2 with|t _ _ ht=>exact ht)).mono ?_
     rintro e w' ⟨val,κ',rfl,h3,h4,h5⟩
     exact ⟨_,_,_,_,rfl,hK,h3,h4,h5⟩
   ·cases hr2
  ·cases hr2
 ·cases hr
theorem Ul {ρ:Ren} {z:Nat} (L:Rt P ρ z) {avs:List AV} {K:AV→Heap→Option R} {r:R} (hr:Um z h avs K=some r) (hh:Af B κ h w) {vs:Array Value} (hc:AU B κ h w avs vs) (n:Nat) :
  CallsIn (Fr none) n P (ρ.f 4) vs w fun e w'=>∃val v h' κ',e = .returned val∧K v h'=some r∧AM B κ' h' w' v val∧Af B κ' h' w'∧Ext κ h w κ' h' w':=by
 refine O6 ?_;unfold Um at hr
 try simp only [AD] at hr
 split at hr
 ·rename_i nx;obtain ⟨k,hk,hr1⟩:=bind_some hr;obtain ⟨⟨h0,hle⟩,hK⟩:=AE hr1;obtain ⟨vs⟩:=vs;have hl:vs.length=2:=by simpa using hc.1
  match vs,hl with
  |[v0,v1],_=>
  have c0:AM B κ h w .nilsl v0:=hc.2 0 _ rfl;have c1:AM B κ h w nx v1:=hc.2 1 nx rfl;obtain rfl:v1 = .int .i64 k:=Bz hk c1;obtain ⟨m,rfl⟩:=Int.eq_ofNat_of_zero_le h0;obtain ⟨i,zv,hi,hzv,hsz,hzs,hby⟩:=L.i25;have hz0:z≠0:=by have:=L.pos;omega
  cases c0 with
  |nilsl a0=>
   by_cases hm:m=0
   ·subst hm;refine (Any8.slices_Grow_room L.lay a0 0 0 0 w (le_refl _) (by omega) (by omega) (by omega)).mono ?_
    rintro e w' ⟨rfl,he⟩
    subst he;have x1:Ext κ h w' (κ++[none]) (h++[.row false 0 z []]) w':=BP hh rfl rfl rfl (le_refl _) (fun _ _=>rfl) (fun b base e=>by cases e);have hh1:=BC hh (fun _ _=>rfl) x1 (fun b base e=>by cases e) (show Fs B (κ++[none]) (h++[.row false 0 z []]) w' none (.row false 0 z []) from rfl);exact ⟨_,_,_,_,rfl,hK,Bi (by rw [← hh.len];exact Ae κ _) (Ae h _),hh1,x1⟩
   ·have hbig:(0+m)*i.bytes≤140737488355328:=by have h2:m*i.bytes≤1073741824*65536:=Nat.mul_le_mul (by omega) hby;rw [zero_add];omega
    refine (Any8.slices_Grow_grow L.lay i zv hi hzv (by omega) a0 0 0 m [] w (le_refl _) (by omega) hbig (by omega) (by simp) (fun _=>rfl) (fun a _ j v hj=>by simp at hj)).mono ?_
    rintro e w' ⟨rfl,rfl⟩
    generalize hC:([]:List Value).toArray++Builtin.zeroCells zv.cells (0+m-0)++Builtin.zeroCells zv.cells (grownCap w (0+m) 0 (ρ.t 25)-(0+m))=CS;have hge:=grownCap_ge w (0+m) 0 (ρ.t 25);have hCs:CS.size=grownCap w (0+m) 0 (ρ.t 25)*z:=by rw [← hC];simp only [size_append,size_toArray,length_nil,size_zeroCells,hzs];rw [zero_add,← add_mul];congr 1;omega
    have h5:∀b',b'<w.heap.size→(w.drew.alloc (.cells CS (ρ.t 25))).heap[b']? = w.heap[b']? :=fun b' hb'=>Ag w.drew _ hb';have x1:Ext κ h w (κ++[some (w.heap.size,0)]) (h++[.row false 0 z []]) (w.drew.alloc (.cells CS (ρ.t 25))):=
     BP (w':=w.drew.alloc _) hh rfl rfl rfl (by simp) h5 fun b base e=>by injection e with e;injection e with e;omega
    have hnew:=A5 w.drew (.cells CS (ρ.t 25));have hh1:=BC hh h5 x1 (fun b base e=>by injection e with e;injection e with e;subst e;exact ⟨le_refl _,by simp⟩)
     (Bj hz0 hnew (.inl rfl) (by simp) ⟨fun j e he=>by simp at he,fun j e c x he=>by simp at he⟩)
    exact ⟨_,_,_,_,rfl,hK,Bf (by rw [← hh.len];exact Ae κ _) (Ae h _) hnew (by rw [hCs];omega) rfl (zero_le _),hh1,x1⟩
 ·cases hr
theorem Ug {g:FuncId} {p:Prim} (L:Qx P g p) {avs:List AV} {K:AV→Heap→Option R} {r:R} (hr:aprim p h avs K=some r) (hh:Af B κ h w) {vs:Array Value} (hc:AU B κ h w avs vs) (n:Nat) :
  CallsIn (Fr none) n P g vs w fun e w'=>∃val v h' κ',e = .returned val∧K v h'=some r∧AM B κ' h' w' v val∧Af B κ' h' w'∧Ext κ h w κ' h' w':=by
 cases p with
 |ins z=>
  obtain ⟨ρ,rfl,hL⟩:=L;exact ains_ok hL hr hh hc n
 |grow z=>
  obtain ⟨ρ,rfl,hL⟩:=L;exact Ul hL hr hh hc n
end Ab
namespace Ab
open Go
variable {R:Type} {P:Program} {B:Nat→Prop} {κ:Ay} {h:Heap} {w:World}
theorem Kz {f:Nat→Tree} {t:TypeId} {off:Nat} {x:AV} {off':Nat} (hm:GR P t (fun i =>.t (f i)) off=some (x,off')) {B1 B2:Nat→Prop} {κ1 κ2:Ay} {h1 h2:Heap} {w1 w2:World} {v:Value} (hv:AM B1 κ1 h1 w1 x v)
  (ht:∀i u,BH w1 (fun b=>B1 b∨Ex κ1 h1 b) (f i) u→BH w2 (fun b=>B2 b∨Ex κ2 h2 b) (f i) u):AM B2 κ2 h2 w2 x v:=by
 unfold GR at hm;split at hm
 ·rename_i n _ _;simp only [Option.some.injEq,Prod.mk.injEq] at hm;obtain ⟨rfl,_⟩:=hm;cases hv with
  |agg _ vs hs hall=>
   refine .agg _ _ hs fun j y hy => ?_;have:=hall j y hy;have hj:j<n:=by have:=AO hy;simpa [Az] using this
   rw [Dx _ _ _ _ hj] at hy;cases hy;cases this with
   |t _ _ h3=>exact .t _ _ (ht _ _ h3)
 ·simp only [Option.some.injEq,Prod.mk.injEq] at hm;obtain ⟨rfl,_⟩:=hm;cases hv with
  |t _ _ h3=>exact .t _ _ (ht _ _ h3)
 ·cases hm
theorem EB {f:Nat→Tree}:∀{ts:List TypeId} {off:Nat} {avs:List AV},Bt P (fun i =>.t (f i)) ts off=some avs→∀{B1 B2:Nat→Prop} {κ1 κ2:Ay} {h1 h2:Heap} {w1 w2:World}
  (_:∀i u,BH w1 (fun b=>B1 b∨Ex κ1 h1 b) (f i) u→BH w2 (fun b=>B2 b∨Ex κ2 h2 b) (f i) u) (x:AV) (_:x∈avs) (v:Value),AM B1 κ1 h1 w1 x v→AM B2 κ2 h2 w2 x v
 |[],off,avs,hm,B1,B2,κ1,κ2,h1,h2,w1,w2,ht,x,hx,v,hv=>by simp only [Bt,Option.some.injEq] at hm;subst hm;cases hx
 |t::ts,off,avs,hm,B1,B2,κ1,κ2,h1,h2,w1,w2,ht,x,hx,v,hv=>by
  simp only [Bt] at hm;split at hm
  ·rename_i y off' hy;cases hr:Bt P (fun i =>.t (f i)) ts off' with
   |none=>rw [hr] at hm;cases hm
   |some rest=>
    rw [hr] at hm;simp only [map_some,Option.some.injEq] at hm;subst hm;cases hx with
    |head=>exact Kz hy hv ht
    |tail _ hx=>exact EB hr ht x hx v hv
  ·cases hm
theorem GS {f:Nat→Tree} {g:FuncId} {r:AV} (hm:Br P g (fun i =>.t (f i))=some r) {B1 B2:Nat→Prop} {κ1 κ2:Ay} {h1 h2:Heap} {w1 w2:World}
  (ht:∀i u,BH w1 (fun b=>B1 b∨Ex κ1 h1 b) (f i) u→BH w2 (fun b=>B2 b∨Ex κ2 h2 b) (f i) u) {v:Value} (hv:AM B1 κ1 h1 w1 r v):AM B2 κ2 h2 w2 r v:=by
 unfold Br at hm;split at hm
 ·rename_i fn hf;split at hm
  ·rename_i x hx;cases hm;exact EB hx ht _ (mem_singleton.2 rfl) v hv
  ·rename_i avs _ hx;cases hm;cases hv with
   |tuple _ vs hs hall=>exact .tuple _ _ hs fun j y hy=>EB hx ht y (mem_of_getElem? hy) _ (hall j y hy)
  ·cases hm
 ·cases hm
theorem GQ {m:Nat} {leaf:Nat→AV} (hl:∀i,Refs m (leaf i)):∀{ts:List TypeId} {off:Nat} {avs:List AV},Bt P leaf ts off=some avs→∀x∈avs,Refs m x
 |[],off,avs,hm,x,hx=>by simp only [Bt,Option.some.injEq] at hm;subst hm;cases hx
 |t::ts,off,avs,hm,x,hx=>by
  simp only [Bt] at hm;split at hm
  ·rename_i y off' hy;cases hr:Bt P leaf ts off' with
   |none=>rw [hr] at hm;cases hm
   |some rest=>
    rw [hr] at hm;simp only [map_some,Option.some.injEq] at hm;subst hm;cases hx with
    |tail _ hx=>exact GQ hl hr x hx
    |head=>
     unfold GR at hy;split at hy
     ·rename_i n _ _;simp only [Option.some.injEq,Prod.mk.injEq] at hy;obtain ⟨rfl,_⟩:=hy;refine .agg _ fun j z hz => ?_;have hj:j<n:=by have:=AO hz;simpa [Az] using this
      rw [Dx _ _ _ _ hj] at hz;cases hz;exact hl _
     ·simp only [Option.some.injEq,Prod.mk.injEq] at hy;obtain ⟨rfl,_⟩:=hy;exact hl _
     ·cases hy
  ·cases hm
theorem K2 {m:Nat} {leaf:Nat→AV} (hl:∀i,Refs m (leaf i)) {g:FuncId} {r:AV} (hm:Br P g leaf=some r):Refs m r:=by
 unfold Br at hm;split at hm
 ·split at hm
  ·rename_i x hx;cases hm;exact GQ hl hx _ (mem_singleton.2 rfl)
  ·rename_i avs _ hx;cases hm;exact .tuple _ fun j y hy=>GQ hl hx y (mem_of_getElem? hy)
  ·cases hm
 ·cases hm
def HL (B:Nat→Prop) (κ:Ay) (h:Heap) (w:World) (q:Bool) (K:AV→Heap→Option R) (r:R) (e:Ending) (w':World):Prop:=
 ∃val v h' κ',e = .returned val∧K v h'=some r∧AM B κ' h' w' v val∧Af B κ' h' w'∧Ext κ h w κ' h' w'∧(q=true→h'=h∧κ'=κ)
theorem ON {ys:List Tree} (hs:ys.all Tree.scalar=true) (i:Nat):(ys.getD i default).scalar=true:=by
 rcases lt_or_ge i ys.length with hi|hi
 ·exact D1 hs (BG ys i default hi)
 ·simp only [List.getD,getElem?_eq_none hi];rfl
theorem Q9 {m:Nat} {rs:List AV} {κ':Ay} {h1:Heap} {w':World} {rv:AV} {v:Value} (hh':Af B κ' h1 w') (x:Ext κ h w κ' h1 w') (hm:h.length≤m) (hrefs:(∀i,Refs m (rs.getD i .undef))→Refs m rv) (hv:AM B κ' h1 w' rv v) :
  ∃κ2,AM B κ2 (trim m rs h1) w' rv v∧Af B κ2 (trim m rs h1) w'∧Ext κ h w κ2 (trim m rs h1) w':=by
 unfold trim;split
 ·rename_i hc;simp only [and_eq_true] at hc;refine ⟨κ'.take m,hv.DQ (hrefs fun i => ?_),hh'.DQ hc.2,x.DQ hm⟩;rcases lt_or_ge i rs.length with hi|hi
  ·exact DF 4 (D1 hc.1 (BG rs i .undef hi))
  ·simp only [List.getD,getElem?_eq_none hi];exact .undef
 ·exact ⟨κ',hv,hh',x⟩
theorem SC (g j:Nat) (hj:j<64):¬D8+(64*g+j)<OWN∧¬D8+(64*g+j)<D8∧(D8+(64*g+j)-D8) % 64=j∧(D8+(64*g+j)-D8) / 64=g:=by unfold OWN D8;omega
theorem Th {g:Nat} (h:g<OWN):OWN+g<D8:=by unfold OWN at h;unfold OWN D8;omega
theorem On {C:Cfg} {rec:Rec} {pc:A4} (hrec:DL C.P rec) (hpc:Bn C.P pc) {q:Bool} {g:FuncId} {avs:List AV} {K:AV→Heap→Option R} {r:R} (hr:Ey C rec pc q g avs h K=some r)
  (hh:Af B κ h w) {vs:Array Value} (hc:AU B κ h w avs vs) (n:Nat):CallsIn (Fr none) n C.P g vs w (HL B κ h w q K r):=by
 unfold Ey at hr
 try simp only [AD] at hr
 split at hr
 ·split at hr
  ·cases hr
  ·rename_i hq;obtain ⟨ls,us,hr1,hls,hbuild⟩:=Il hr hc;clear hr;obtain ⟨hh1,x1⟩:=Fj ls hh;have hls1:=hls.ext x1;obtain ⟨xs,hr3,hxl,_,hxt⟩:=CO (vs:=us) hr1 hh1 (by simpa using hls1.1) (BT hls1);have hul:us.length=xs.length:=by rw [hxl];simpa using hls1.1
   have hargs:∃avs',CU C.P g (fun i =>.t (xs.getD i default))=some avs'∧AU (fun b=>B b∨Ex κ (AW h ls) b) [] [] w avs' vs:=by
    obtain ⟨avs',ha1,ha2⟩:=hbuild (fun b=>B b∨Ex κ (AW h ls) b) [] [] w (fun i =>.t (xs.getD i default)) 0 (fun j u hu=>by
     have hj:j<xs.length:=by rw [← hul];exact AO hu
     have:=hxt j _ u (BG xs j default hj) hu;rw [zero_add];exact .t _ _ (this.less fun b hb=>by
      rcases hb with (hb|hb)|hb
      ·exact .inl hb
      ·exact .inr ⟨rfl,hb⟩
      ·exact (C3 hb).elim))
    refine ⟨avs',?_,ha2⟩;unfold CU;unfold Gw at ha1;cases hf:C.P.funcs[g]? with
    |none=>
     have:Br C.P g (fun _ =>.undef)=none:=by unfold Br;rw [hf]
     exact absurd hf (by
      intro hf;have hn:=hr3;split at hn
      ·try simp only [AD] at hn
       obtain ⟨_,hn⟩:=AE hn;obtain ⟨ys,_,hn⟩:=bind_some hn;have hn:=IL hn;split at hn
       ·simp only [Br,hf] at hn;cases hn
       ·cases hn
      ·obtain ⟨ys,_,hn⟩:=bind_some hn;simp only [Cw,hf] at hn;cases hn)
    |some fn=>rw [hf] at ha1;exact ha1
   split at hr3
   ·rename_i j ho2
    try simp only [AD] at hr3
    obtain ⟨hj64,hr3⟩:=AE hr3;obtain ⟨ys,hy,hr4⟩:=bind_some hr3;have hown:=hpc (D8+(64*g+j)) xs ys hy;obtain ⟨o1,o2,o3,o4⟩:=SC g j hj64;rw [if_neg o1,if_neg o2,o3,o4] at hown;have hr4:=IL hr4;obtain ⟨avs',ha3,ha2⟩:=hargs;refine (hown (fun b=>B b∨Ex κ (AW h ls) b) w avs' vs n ha3 (fun b hb=>hb.elim (hh1.ltB b) fun ⟨i,base,o,hk,_,_⟩=>hh1.lt i b base hk) ha2).mono ?_
    rintro e w' ⟨v,us2,z,es,u,rfl,hg,hyj,hul2,huj,hnew,hoth,hbld⟩
    rw [hyj] at hr4;simp only at hr4;have hh2:=G1 hh1 hg;have x2:=GZ hh1 hg;have key:∀(k:Option (Nat×Nat)),Af B (κ++[k]) (AW h ls++[.row false 0 z es]) w'→Ext κ h w (κ++[k]) (AW h ls++[.row false 0 z es]) w'→AM B (κ++[k]) (AW h ls++[.row false 0 z es]) w' (.sref (AW h ls).length 0 0 es.length) u→
      (∀b,Ex (κ++[k]) (AW h ls++[.row false 0 z es]) b→Ex κ (AW h ls) b∨Uv u b)→HL B κ h w q K r (.returned v) w':=fun k q1 q2 q3 q4=>by
     obtain ⟨rv,e1,e2⟩:=hbld B (κ++[k]) (AW h ls++[.row false 0 z es]) w' (fun i=>if i=j then .sref (AW h ls).length 0 0 es.length else .t (ys.getD i default)) fun i x hx=>by
      by_cases hij:i=j
      ·subst hij;rw [if_pos rfl];rw [huj] at hx;cases hx;exact q3
      ·rw [if_neg hij];have hi:i<ys.length:=by rw [← hul2];exact AO hx
       refine .t _ _ ((hoth i _ x hij (BG ys i default hi) hx).less fun b hb => ?_);rcases hb with hb|hb
       ·exact .inl (.inl hb)
       ·rcases q4 b hb with hb|hb
        ·exact .inl (.inr hb)
        ·exact .inr hb
     rw [e1] at hr4;exact ⟨_,_,_,_,rfl,hr4,e2,q1,q2,fun e=>(hq e).elim⟩
    have hnil:es=[]→∀a0,u = .slice a0 0 0→HL B κ h w q K r (.returned v) w':=fun he a0 hu0=>by
     subst he;subst hu0;have x3:Ext κ (AW h ls) w' (κ++[none]) (AW h ls++[.row false 0 z []]) w':=BP hh2 rfl rfl rfl (le_refl _) (fun _ _=>rfl) (fun b base e=>by cases e);have hh3:=BC hh2 (fun _ _=>rfl) x3 (fun b base e=>by cases e) (show Fs B (κ++[none]) (AW h ls++[.row false 0 z []]) w' none (.row false 0 z []) from rfl);refine key none hh3 ((x1.trans x2).trans x3) (Bi (by rw [← hh2.len];exact Ae κ _) (Ae _ _)) fun b ⟨i,bs,o,k1,k2,k3⟩=> ?_;rcases Bh κ _ i k1 with ⟨_,k1'⟩|⟨rfl,k1'⟩
     ·have hi:i<(AW h ls).length:=by rw [← hh2.len];exact AO k1'
      rw [getElem?_append_left hi] at k2;exact .inl ⟨i,bs,o,k1',k2,k3⟩
     ·cases k1'
    rcases hnew with ⟨he,a0,hu0⟩|⟨b,base,cap,cells,elem,fr,hu0,h1,h2,h3,h4,h5,hth,h6,h7,h8⟩
    ·exact hnil he a0 hu0
    ·by_cases hcap0:cap=0
     ·exact hnil (eq_nil_of_length_eq_zero (by omega)) _ (by rw [hu0,hcap0,show es.length=0 by omega])
     subst hu0;have x3:Ext κ (AW h ls) w (κ++[some (b,base)]) (AW h ls++[.row false 0 z es]) w':=
      BP hh1 hg.os hg.tape hg.output hg.size hg.block fun b' base' e=>by injection e with e;injection e with e;omega
     have hEx:∀b',Ex (κ++[some (b,base)]) (AW h ls++[.row false 0 z es]) b'→Ex κ (AW h ls) b'∨b'=b:=fun b' ⟨i,bs,o,k1,k2,k3⟩=>by
      rcases Bh κ _ i k1 with ⟨_,k1'⟩|⟨rfl,k1'⟩
      ·have hi:i<(AW h ls).length:=by rw [← hh1.len];exact AO k1'
       rw [getElem?_append_left hi] at k2;exact .inl ⟨i,bs,o,k1',k2,k3⟩
      ·injection k1' with k1';injection k1' with k1';exact .inr k1'
     have hh3:=BC hh1 hg.block x3 (fun b' base' e=>by injection e with e;injection e with e;subst e;exact ⟨h2,h3⟩)
      (Bj h4 h5 hth (le_trans (add_le_add_left (mul_le_mul_right _ h1) _) h6) ⟨h7,fun j e' c x he hx=>(h8 j e' c x he hx).less fun b' hb'=>by
       rcases hb' with hb'|hb'
       ·exact .inl (.inl hb')
       ·rcases hEx b' hb' with hb'|hb'
        ·exact .inl (.inr hb')
        ·exact .inr hb'⟩)
     refine key (some (b,base)) hh3 (x1.trans x3) (Bf (by rw [← hh1.len];exact Ae κ _) (Ae _ _) h5 h6 rfl h1) fun b' hb' => ?_;rcases hEx b' hb' with hb'|rfl
     ·exact .inl hb'
     ·exact .inr ⟨_,_,_,rfl,by omega⟩
   obtain ⟨ys,hy,hr4⟩:=bind_some hr3;have hown:=hpc (OWN+g) xs ys hy;split at hr4
   ·rename_i t ht;obtain ⟨z,hz,hr5⟩:=bind_some hr4;obtain ⟨hgO,hr6⟩:=AE hr5;obtain ⟨⟨hyl,hys⟩,hK⟩:=AE hr6;rw [if_neg (not_lt.2 (Nat.le_add_right OWN g)),if_pos (Th hgO),Nat.add_sub_cancel_left] at hown;obtain ⟨avs',ha3,ha2⟩:=hargs;refine (hown (fun b=>B b∨Ex κ (AW h ls) b) w avs' vs n ha3 (fun b hb=>hb.elim (hh1.ltB b) fun ⟨i,base,o,hk,_,_⟩=>hh1.lt i b base hk) ha2).mono ?_
    rintro e w' ⟨v,s,es,rfl,rfl,hg,hnew⟩
    have hes:FK (([Tree.sl s es]:List Tree).getD 0 default)=es:=rfl;have hsz:s=z:=by have h1:Et z (Tree.sl s es)=true:=hys;simpa [Et] using h1
    subst hsz;rw [hes] at hK;have hh2:=G1 hh1 hg;have x2:=GZ hh1 hg;unfold NL at hK;split at hK
    ·rename_i i0 v0 hre;have hre:FC h ls=some (i0,v0):=by
      split at hre
      ·exact hre
      ·cases hre
     split at hK
     ·rename_i honly;obtain ⟨size0,es0,hi0⟩:=MR hre;obtain ⟨kk,hkk⟩:=Ba hh hi0;have hOL:∀L,OLe (.row false v0 size0 es0) (.row false (v0+1) s L):=fun L=>⟨rfl,le_succ _,(fun e=>by simp [AQ.ver] at e),(fun e=>by cases e),(fun e=>by cases e),rfl⟩
      have hver:∀L,(AQ.row false v0 size0 es0).ver=(AQ.row false (v0+1) s L).ver→∀{p:Prop},p:=fun L e=>by simp [AQ.ver] at e
      rcases hnew with ⟨rfl,a0,rfl⟩|⟨b,base,cap,cells,elem,fr,rfl,h1,h2,h3,h4,h5,hth,h6,h7,h8⟩
      ·have x3:Ext κ h w (κ.set i0 none) (h.set i0 (.row false (v0+1) s [])) w':=
        CH hh hi0 rfl (hOL []) hkk hg.os hg.tape hg.output hg.size (fun b' hb' _=>hg.block b' hb') (fun b base e=>by cases e) (fun e=>hver [] e)
       have hh3:=Bg hh hi0 hkk (fun b' hb' _=>hg.block b' hb') (fun b base e=>by cases e) x3 (show Fs B (κ.set i0 none) (h.set i0 (.row false (v0+1) s [])) w' none (.row false (v0+1) s []) from rfl);exact ⟨_,_,_,_,rfl,hK,Bi (An hkk) (An hi0),hh3,x3,fun e=>(hq e).elim⟩
      ·have x3:Ext κ h w (κ.set i0 (some (b,base))) (h.set i0 (.row false (v0+1) s es)) w':=
        CH hh hi0 rfl (hOL es) hkk hg.os hg.tape hg.output hg.size (fun b' hb' _=>hg.block b' hb') (fun b' base' e=>by injection e with e;injection e with e;exact .inr (by omega)) (fun e=>hver es e)
       have hh3:=Bg hh hi0 hkk (fun b' hb' _=>hg.block b' hb') (fun b' base' e=>by injection e with e;injection e with e;subst e;exact ⟨.inr h2,h3⟩) x3
        (Bj h4 h5 hth (le_trans (add_le_add_left (mul_le_mul_right _ h1) _) h6) ⟨h7,fun j e' c x he hx=>(h8 j e' c x he hx).less fun b' hb'=>by
         rcases hb' with hb'|⟨i,bs,o,k1,k2,k3⟩
         ·exact .inl (.inl hb')
         ·by_cases hii:i=i0
          ·subst hii;rw [An hkk] at k1;injection k1 with k1;injection k1 with k1;injection k1 with k1;exact .inr k1.symm
          ·rw [getElem?_set_ne (fun e=>hii e.symm)] at k1 k2;exact .inl (.inr ⟨i,bs,o,k1,by rw [Ga ls h honly i hii];exact k2,k3⟩)⟩)
       exact ⟨_,_,_,_,rfl,hK,Bf (An hkk) (An hi0) h5 h6 rfl h1,hh3,x3,fun e=>(hq e).elim⟩
     ·cases hK
    rcases hnew with ⟨rfl,a0,rfl⟩|⟨b,base,cap,cells,elem,fr,rfl,h1,h2,h3,h4,h5,hth,h6,h7,h8⟩
    ·have x3:Ext κ (AW h ls) w' (κ++[none]) (AW h ls++[.row false 0 s []]) w':=BP hh2 rfl rfl rfl (le_refl _) (fun _ _=>rfl) (fun b base e=>by cases e);have hh3:=BC hh2 (fun _ _=>rfl) x3 (fun b base e=>by cases e) (show Fs B (κ++[none]) (AW h ls++[.row false 0 s []]) w' none (.row false 0 s []) from rfl);exact ⟨_,_,_,_,rfl,hK,Bi (by rw [← hh2.len];exact Ae κ _) (Ae _ _),hh3,(x1.trans x2).trans x3,fun e=>(hq e).elim⟩
    ·
     have x3:Ext κ (AW h ls) w (κ++[some (b,base)]) (AW h ls++[.row false 0 s es]) w':=
      BP hh1 hg.os hg.tape hg.output hg.size hg.block fun b' base' e=>by injection e with e;injection e with e;omega
     have hh3:=BC hh1 hg.block x3 (fun b' base' e=>by injection e with e;injection e with e;subst e;exact ⟨h2,h3⟩)
      (Bj h4 h5 hth (le_trans (add_le_add_left (mul_le_mul_right _ h1) _) h6) ⟨h7,fun j e' c x he hx=>(h8 j e' c x he hx).less fun b' hb'=>by
       rcases hb' with hb'|⟨i,bs,o,k1,k2,k3⟩
       ·exact .inl (.inl hb')
       ·rcases Bh κ _ i k1 with ⟨_,k1'⟩|⟨rfl,k1'⟩
        ·have hi:i<(AW h ls).length:=by rw [← hh1.len];exact AO k1'
         rw [getElem?_append_left hi] at k2;exact .inl (.inr ⟨i,bs,o,k1',k2,k3⟩)
        ·injection k1' with k1';injection k1' with k1';exact .inr k1'⟩)
     exact ⟨_,_,_,_,rfl,hK,Bf (by rw [← hh1.len];exact Ae κ _) (Ae _ _) h5 h6 rfl h1,hh3,x1.trans x3,fun e=>(hq e).elim⟩
   ·cases hr4
 split at hr
 ·split at hr
  ·cases hr
  ·rename_i hq;split at hr
   ·rename_i p hp;refine (Ug (C.primOk g p hp) hr hh hc n).mono ?_
    rintro e w' ⟨val,v,h',κ',rfl,hK,y1,y2,y3⟩
    exact ⟨val,v,h',κ',rfl,hK,y1,y2,y3,fun e=>(hq e).elim⟩
   split at hr
   ·unfold join at hr;have hcall:=hrec _ _ _ _ _ hr;refine (hcall B κ w vs n hh hc).mono ?_
    rintro e w' ⟨v,rv,κ',rs,h1,rfl,hK,hm,hv,hh',x⟩
    simp only [AD] at hK;obtain ⟨hsh,hK⟩:=AE hK;obtain ⟨hs,hK2,hun,hbe⟩:=Rf hK (Mk x);have hrl:GJ C.P rs (Cw C.P g) 0=rs:=Ju [] hsh;simp only [hrl,hm,hun] at hK2;exact ⟨v,rv,_,κ'.take h.length,rfl,hK2,hv.DQ (K2 (fun i=>OL hsh i _) hm),hh'.DQ hbe,x.DQ (le_refl _),fun e=>(hq e).elim⟩
   have hcall:=hrec _ _ _ _ _ hr;refine (hcall B κ w vs n hh hc).mono ?_
   rintro e w' ⟨v,rv,κ',rs,h1,rfl,hK,hm,hv,hh',x⟩
   simp only [hm] at hK;obtain ⟨κ2,y1,y2,y3⟩:=Q9 (m:=h.length) hh' x (le_refl _) (fun hl=>K2 hl hm) hv;exact ⟨v,rv,_,κ2,rfl,hK,y1,y2,y3,fun e=>(hq e).elim⟩
 ·obtain ⟨ls,us,hr1,hls,hbuild⟩:=Il hr hc;clear hr;obtain ⟨h1,hh1,x1,hqq,hr2⟩:∃h1,Af B κ h1 w∧Ext κ h w κ h1 w∧(q=true→h1=h)∧(C5 C.P (!Bv C.P g) h1 (IU C.P g) ls fun xs=>if g<OWN then ((pc g xs).bind fun ys=>IM C.P (Cw C.P g) ys fun ys=>
    match Br C.P g (fun i =>.t (ys.getD i default)) with
    |some v=>K v h1
    |none=>none) else none)=some r:=by
   by_cases hb:(q||Bv C.P g)=true
   ·exact ⟨h,hh,Ext.refl _ _ _,fun _=>rfl,by simp only [hb,if_true] at hr1;exact hr1⟩
   ·have hb':(q||Bv C.P g)=false:=by simpa using hb
    obtain ⟨hh1,x1⟩:=Fj ls hh;refine ⟨AW h ls,hh1,x1,fun e => ?_,by simp only [hb',false_eq_true,if_false] at hr1;exact hr1⟩;rw [e] at hb';cases hb'
  clear hr1;have hls1:=hls.ext x1;obtain ⟨xs,hr3,hxl,_,hxt⟩:=CO (vs:=us) hr2 hh1 (by simpa using hls1.1) (BT hls1);clear hr2;obtain ⟨hgo,hr3⟩:=AE hr3;obtain ⟨ys,hy,hr4⟩:=bind_some hr3;clear hr3;have hr4:=IL hr4;split at hr4
  ·rename_i v hm;have hpure:=hpc g xs ys hy;rw [if_pos hgo] at hpure;have hfn:∃fn,C.P.funcs[g]? = some fn:=by
    unfold Br at hm;split at hm
    ·rename_i fn hf;exact ⟨fn,hf⟩
    ·cases hm
   obtain ⟨fn,hf⟩:=hfn;have hul:us.length=xs.length:=by rw [hxl];simpa using hls1.1
   have hleaf:∀(Bc:Nat→Prop),(∀b,Bc b→B b∨((!Bv C.P g)=true∧Ex κ h1 b))→∀j u,us[j]? = some u→AM Bc [] [] w (.t (xs.getD (0+j) default)) u:=by
    intro Bc hBc j u hu;have hj:j<xs.length:=by rw [← hul];exact AO hu
    have:=hxt j _ u (BG xs j default hj) hu;rw [zero_add];exact .t _ _ (this.less fun b hb=>hb.elim (hBc b) fun e=>(C3 e).elim)
   by_cases hscal:Bv C.P g=true
   ·obtain ⟨avs',ha1,ha2⟩:=hbuild (fun _=>False) [] [] w (fun i =>.t (xs.getD i default)) 0 (fun j u hu=>hleaf (fun _=>False) (fun b hb=>hb.elim) j u hu);have ha3:CU C.P g (fun i =>.t (xs.getD i default))=some avs':=by unfold CU;unfold Gw at ha1;rw [hf] at ha1 ⊢;exact ha1
    refine (hpure (fun _=>False) w avs' vs n ha3 (fun b hb=>hb.elim) ha2).mono ?_
    rintro e w' ⟨val,rv,rfl,hm',hv,hg,hsc⟩
    rw [hm] at hm';cases hm';have hsy:=hsc hscal;refine ⟨val,v,h1,κ,rfl,hr4,GS hm (fun i u ht=>Py (ON hsy i) ht) hv,G1 hh1 hg,x1.trans (GZ hh1 hg),fun e=>⟨hqq e,rfl⟩⟩
   ·have hns:(!Bv C.P g)=true:=by simpa using hscal
    obtain ⟨avs',ha1,ha2⟩:=hbuild (fun b=>B b∨Ex κ h1 b) [] [] w (fun i =>.t (xs.getD i default)) 0 (fun j u hu=>hleaf _ (fun b hb=>hb.imp id fun e=>⟨hns,e⟩) j u hu);have ha3:CU C.P g (fun i =>.t (xs.getD i default))=some avs':=by unfold CU;unfold Gw at ha1;rw [hf] at ha1 ⊢;exact ha1
    refine (hpure (fun b=>B b∨Ex κ h1 b) w avs' vs n ha3 (fun b hb=>hb.elim (hh1.ltB b) fun ⟨i,base,o,hk,_,_⟩=>hh1.lt i b base hk) ha2).mono ?_
    rintro e w' ⟨val,rv,rfl,hm',hv,hg,hsc⟩
    rw [hm] at hm';cases hm';exact ⟨val,v,h1,κ,rfl,hr4,GS hm (fun i u ht=>ht.less fun b hb =>.inl hb) hv,G1 hh1 hg,x1.trans (GZ hh1 hg),fun e=>⟨hqq e,rfl⟩⟩
  ·cases hr4
end Ab
namespace Ab
open Go
variable {R:Type} {P:Program} {B:Nat→Prop} {κ:Ay} {h:Heap} {w:World} {N:Nat} {env:Env} {a:Act}
theorem FY {g:FuncId} (he:enters P g=true) (vs:Array Value):(callFunc g vs).run P w = .ok (.enter g vs) w:=by
 unfold enters at he;split at he
 ·rename_i fn hf;simp only [and_eq_true,not_eq_true'] at he;obtain ⟨hb,hn⟩:=he;have hb':fn.body.isNone=false:=by cases h:fn.body<;>simp_all
  simp only [callFunc,Sem.run_bind,run_program,Result.andThen_ok,hf,hn,hb',false_eq_true,if_false,Sem.run_pure]
 ·cases he
theorem DC {xs ys:List AV} {us vs:Array Value} (h1:AU B κ h w xs us) (h2:AU B κ h w ys vs):AU B κ h w (xs++ys) (us++vs):=by
 obtain ⟨us⟩:=us;obtain ⟨vs⟩:=vs;have e1:us.length=xs.length:=by simpa using h1.1
 have e2:vs.length=ys.length:=by simpa using h2.1
 have eu:({toList:=us}:Array Value)=us.toArray:=rfl;have ev:({toList:=vs}:Array Value)=vs.toArray:=rfl;rw [eu,ev] at *;have e3:us.toArray++vs.toArray=(us++vs).toArray:=by simp
 rw [e3];refine ⟨by simp [e1,e2],fun j y hy => ?_⟩;rw [BI];rcases lt_or_ge j xs.length with hj|hj
 ·rw [getElem?_append_left hj] at hy;have:=h1.2 j y hy;rw [BI] at this;simp only [List.getD] at this ⊢;rw [getElem?_append_left (by omega)];exact this
 ·rw [getElem?_append_right hj] at hy;have:=h2.2 _ y hy;rw [BI] at this;simp only [List.getD] at this ⊢;rw [getElem?_append_right (by omega),e1];exact this
def Uu (B:Nat→Prop) (κ:Ay) (h:Heap) (w:World) (q:Bool) (K:AV→Heap→Option R) (r:R) (o:Oper) (a:Act) (next:Act→World→Prop):Prop:=
 ∀v h' κ' val w',K v h'=some r→AM B κ' h' w' v val→Af B κ' h' w'→Ext κ h w κ' h' w'→(q=true→h'=h∧κ'=κ)→next (a.put o.dst val) w'
theorem Lj {q:Bool} {K:AV→Heap→Option R} {r:R} {o:Oper} {next:Act→World→Prop} {Q:Exit→Act→World→Prop} (hn:Uu B κ h w q K r o a next) {e:Ending} {w':World} (ha:HL B κ h w q K r e w') :
  (match e,w' with
   | .returned v,w''=>next (a.put o.dst v) w''
   | .panicked chain,w''=>Q (.panic chain) a w''
   | .outgrown,_=>LetsOut Q):=by
 obtain ⟨val,v,h',κ',rfl,h1,h2,h3,h4,h5⟩:=ha;exact hn v h' κ' val w' h1 h2 h3 h4 h5
theorem Sk {C:Cfg} {rec:Rec} {pc:A4} (hrec:DL C.P rec) (hpc:Bn C.P pc) {q:Bool} {f:AV} {args:List AV} {K:AV→Heap→Option R} {r:R} (hr:LV C rec pc q f args h K=some r) (hh:Af B κ h w)
  {fv:Value} (hf:AM B κ h w f fv) {vs:Array Value} (hc:AU B κ h w args vs) (o:Oper) (next:Act→World→Prop) (Q:Exit→Act→World→Prop) (n:Nat) (ro:Option Nat) (hn:Uu B κ h w q K r o a next) :
  o.uponIn (Fr ro) n C.P a next Q ((do let d ← Deferred.ofValue fv vs;invoke d.target d.args:Sem Next).run C.P w):=by
 unfold LV at hr
 try simp only [AD] at hr
 split at hr
 ·rename_i g first captured
  obtain ⟨hent,hr1⟩:=AE hr;cases hf with
  |func _ _ _ fs cs h1 h2 h3 h4=>
   have hc2:AU B κ h w (first++args++captured) (fs++vs++cs):=DC (DC ⟨h1,h3⟩ hc) ⟨h2,h4⟩;have hcall:=On hrec hpc hr1 hh hc2 (n-1);have hrun:(do let d ← Deferred.ofValue (.func (.func g) fs cs) vs;invoke d.target d.args:Sem Next).run C.P w = .ok (.enter g (fs++vs++cs)) w:=by simp [Deferred.ofValue,invoke,FY hent]
   rw [hrun,Oper.uponIn_enter];refine ⟨fun e=>by simp [Fr] at e,(CallsIn.fr hcall).mono fun e w' ha => ?_⟩;have:=Lj (Q:=Q) hn ha;cases e<;>exact this
 ·rename_i g;obtain ⟨hent,hr1⟩:=AE hr;cases hf with
  |t _ _ ht=>
   cases ht with
   |const _ _=>
    have hcall:=On hrec hpc hr1 hh hc (n-1);have hrun:(do let d ← Deferred.ofValue (.func (.func g) ⟨[]⟩ ⟨[]⟩) vs;invoke d.target d.args:Sem Next).run C.P w = .ok (.enter g vs) w:=by
     have e1:(⟨[]⟩:Array Value)++vs=vs:=by simp
     have e2:vs++(⟨[]⟩:Array Value)=vs:=by simp
     simp [Deferred.ofValue,invoke,e1,e2,FY hent]
    rw [hrun,Oper.uponIn_enter];refine ⟨fun e=>by simp [Fr] at e,(CallsIn.fr hcall).mono fun e w' ha => ?_⟩;have:=Lj (Q:=Q) hn ha;cases e<;>exact this
 ·rename_i i;split at hr
  ·cases hr
  ·rename_i hq;have hy:=hrec _ _ _ _ _ hr;cases hf with
   |yld _ b base hk hb=>
    obtain ⟨f,tmps,assign,body,hrun,hround⟩:=hy B κ w vs b base (n-1) hh hc hk;have hrun2:(do let d ← Deferred.ofValue (.func (.yield b) #[] #[]) vs;invoke d.target d.args:Sem Next).run C.P w = .ok (.round b f tmps assign body) w:=by simp [Deferred.ofValue,invoke,hrun]
    rw [hrun2,Oper.uponIn_round];refine ⟨fun e=>by simp [Fr] at e,(RoundIn.fr hround).mono ?_⟩
    rintro e w' ⟨v,κ',rs,h1,rfl,hK,hv,hh',x⟩
    obtain ⟨κ2,y1,y2,y3⟩:=Q9 (m:=h.length) (rs:=[rs.getD 0 .undef]) hh' x (le_refl _) (fun hl=>hl 0) hv;exact hn _ _ _ v w' hK y1 y2 y3 (fun e=>(hq e).elim)
 ·cases hr
theorem IF {C:Cfg} {rec:Rec} {pc:A4} (hrec:DL C.P rec) (hpc:Bn C.P pc) {q:Bool} {K:AV→Heap→Option R} {r:R} (o:Oper) (hs:Aa C rec pc q env h o.op K=some r) (hr:Rel B N κ env h a w)
  (next:Act→World→Prop) (Q:Exit→Act→World→Prop) (n:Nat) (ro:Option Nat) (hn:Uu B κ h w q K r o a next):o.wpIn (Fr ro) n C.P a w next Q:=by
 refine ⟨fun _ _=>trivial,?_⟩;have hnd:∀c,o.op ≠ .defer c:=fun c e=>by rw [e] at hs;simp [Aa,Aq,qop] at hs
 rw [Oper.semAt_eq _ _ _ hnd];unfold Aa at hs
 try simp only [AD] at hs
 split at hs
 ·split at hs
  ·cases hs
  ·rename_i hq;split at hs
   ·rename_i t x himm;have hop:o.op = .box t x:=by cases hop:o.op<;>rw [hop] at himm<;>simp only [Bb] at himm<;>first|(cases himm;done)|(split at himm<;>first|(cases himm;rfl)|(cases himm;done)|(split at himm<;>first|(cases himm;rfl)|cases himm))
    obtain ⟨v,κ',val,w',h1,h2,h3,h4,h5⟩:=Sl hs hr o hop;rw [h2,Oper.uponIn_value];exact hn v h κ' val w' h1 h3 h4 h5 fun e=>(hq e).elim
   ·rename_i t himm;have hop:o.op = .alloc t:=by cases hop:o.op<;>rw [hop] at himm<;>simp only [Bb] at himm<;>first|(cases himm;done)|(split at himm<;>first|(cases himm;rfl)|(cases himm;done)|(split at himm<;>first|(cases himm;rfl)|cases himm))
    obtain ⟨v,h',κ',val,w',h1,h2,h3,h4,h5⟩:=PL hs hr o hop;rw [h2,Oper.uponIn_value];exact hn v h' κ' val w' h1 h3 h4 h5 fun e=>(hq e).elim
   ·rename_i t d himm;have hop:o.op = .alloc t:=by cases hop:o.op<;>rw [hop] at himm<;>simp only [Bb] at himm<;>first|cases himm|(split at himm<;>first|(cases himm;rfl)|(cases himm;done)|(split at himm<;>first|(cases himm;rfl)|cases himm))
    obtain ⟨v,h',κ',val,w',h1,h2,h3,h4,h5⟩:=PK hs hr o hop;rw [h2,Oper.uponIn_value];exact hn v h' κ' val w' h1 h3 h4 h5 fun e=>(hq e).elim
   ·rename_i t p x himm;have hop:o.op = .store t p x:=by cases hop:o.op<;>rw [hop] at himm<;>simp only [Bb] at himm<;>first|(cases himm;done)|(split at himm<;>first|(cases himm;rfl)|(cases himm;done)|(split at himm<;>first|(cases himm;rfl)|cases himm))
    obtain ⟨h',κ',w',h1,h2,h3,h4⟩:=M0 (P:=C.P) hs hr.heap (A2 hr _) (A2 hr _);obtain ⟨f1,f2⟩:=LJ h3 (KD (ev env p));have e2:(execOp a.eval o).run C.P w = .ok .skip w':=by unfold execOp;rw [hop];simp [h2]
    rw [e2,Oper.uponIn_skip];exact hn _ _ κ' undef w' h1 (.undef _) f1 (h4.trans f2) fun e=>(hq e).elim
   ·obtain ⟨v,h',κ',val,w',h1,h2,h3,h4,h5⟩:=hop_ok hs hr o rfl;rcases h2 with h2|⟨h2,rfl⟩
    ·rw [h2,Oper.uponIn_value];exact hn v h' κ' val w' h1 h3 h4 h5 fun e=>(hq e).elim
    ·rw [h2,Oper.uponIn_skip];exact hn v h' κ' undef w' h1 h3 h4 h5 fun e=>(hq e).elim
 ·split at hs
  ·rename_i f args argTypes ho;have hx:=Sk hrec hpc hs hr.heap (A2 hr f) (Hv hr args) o next Q n ro hn;have he:(execOp a.eval o).run C.P w=(do let d ← Deferred.ofValue (a.eval f) (args.map a.eval);invoke d.target d.args:Sem Next).run C.P w:=by unfold execOp;rw [ho];simp [resolve]
   rw [he];exact hx
  ·rename_i src dst x ho;split at hs
   ·rename_i hb;split at hs
    ·cases hs
    ·rename_i hq;obtain ⟨v,h',κ',val,w',h1,h2,h3,h4,h5⟩:=Tv hb hs hr o ho;rw [h2,Oper.uponIn_value];exact hn v h' κ' val w' h1 h3 h4 h5 fun e=>(hq e).elim
   ·obtain ⟨v,val,w',h1,h2,h3,h4,h5⟩:=P8 hs hr o ho;rw [h2,Oper.uponIn_value];exact hn v h κ val w' h1 h3 h4 h5 fun _=>⟨rfl,rfl⟩
  ·rename_i t len parts ho;split at hs
   ·split at hs
    ·cases hs
    ·rename_i hq;obtain ⟨v,h',κ',val,w',h1,h2,h3,h4,h5⟩:=O9 hs hr o ho;rw [h2,Oper.uponIn_value];exact hn v h' κ' val w' h1 h3 h4 h5 fun e=>(hq e).elim
   ·obtain ⟨v,val,w',h1,h2,h3,h4,h5⟩:=P8 hs hr o ho;rw [h2,Oper.uponIn_value];exact hn v h κ val w' h1 h3 h4 h5 fun _=>⟨rfl,rfl⟩
  ·obtain ⟨v,val,w',h1,h2,h3,h4,h5⟩:=P8 hs hr o rfl;rw [h2,Oper.uponIn_value];exact hn v h κ val w' h1 h3 h4 h5 fun _=>⟨rfl,rfl⟩
theorem OU {env:Env} {d:Tmp} {v:AV} (hv:env d=v):env.put (some d) v=env:=by
 funext i;simp only [Env.put];split
 ·rename_i e;rw [e,hv]
 ·rfl
theorem EN (hr:Rel B N κ env h a w) {κ':Ay} {h':Heap} {w':World} (hh:Af B κ' h' w') (x:Ext κ h w κ' h' w') {v:AV} {val:Value} (hv:AM B κ' h' w' v val) (o:Oper) (hd:Ir N o=true) :
  Rel B N κ' (env.put o.dst v) h' (a.put o.dst val) w':=by
 refine ⟨hh,?_,fun i => ?_⟩
 ·cases hdst:o.dst with
  |none=>exact hr.size
  |some d=>simpa [Act.put] using hr.size
 ·cases hdst:o.dst with
  |none=>exact (hr.slot i).ext x
  |some d=>
   have hdl:d<N:=by simpa [Ir,hdst] using hd
   have hdt:d<a.tmps.size:=by rw [hr.size];exact hdl
   simp only [Env.put,Act.put];by_cases hi:i=d
   ·subst hi;rw [if_pos rfl];have:(a.tmps.setIfInBounds i val).getD i undef=val:=by simp [Array.getD,hdt]
    rw [this];exact hv
   ·rw [if_neg hi];have:(a.tmps.setIfInBounds d val).getD i undef=a.tmps.getD i undef:=by
     by_cases h1:i<a.tmps.size
     ·simp [Array.getD,h1,Ne.symm hi]
     ·simp [Array.getD,h1]
    rw [this];exact (hr.slot i).ext x
theorem getD_some {arr:Array Value} {d:Nat} {v:Value} (hd:arr.getD d undef=v) (hne:v≠undef):arr[d]? = some v:=by
 by_cases h1:d<arr.size
 ·simp only [Array.getD,h1,dif_pos] at hd;rw [Array.getElem?_eq_getElem h1];exact congrArg some hd
 ·simp only [Array.getD,h1,dif_neg,not_false_eq_true] at hd;exact (hne hd.symm).elim
theorem GY {ops:Array Oper} {o:Oper} {K1 K0:Env→Option R} {r:R} (hg:FE ops o env K1 K0=some r) (hr:Rel B N κ env h a w) :
  (Region.wanted o (yielded ops a.tmps)=true∧K1 env=some r)∨(Region.wanted o (yielded ops a.tmps)=false∧K0 env=some r):=by
 unfold FE at hg
 try simp only [AD] at hg
 unfold Region.wanted;split at hg
 ·rename_i hgd;rw [hgd];exact .inl ⟨rfl,hg⟩
 ·rename_i j want hgd;rw [hgd];simp only;split at hg
  ·rename_i d hd;split at hg
   ·rename_i b hb;have hv:=hr.slot d;rw [hb] at hv;have hval:a.tmps.getD d undef = .bool b:=by
     generalize a.tmps.getD d undef=u at hv;cases hv with
     |t _ _ ht=>cases ht;rfl
    have hy:yielded ops a.tmps j=some b:=by unfold yielded;rw [hd];simp only [Option.bind_some];rw [getD_some hval (by simp [undef])]
    rw [hy];cases b<;>cases want<;>simp only [false_eq_true,if_false,if_true] at hg<;>rw [OU hb] at hg
    ·exact .inl ⟨rfl,hg⟩
    ·exact .inr ⟨rfl,hg⟩
    ·exact .inr ⟨rfl,hg⟩
    ·exact .inl ⟨rfl,hg⟩
   ·rename_i hb;have hv:=hr.slot d;rw [hb] at hv;have hval:a.tmps.getD d undef = .tuple #[]:=by
     generalize a.tmps.getD d undef=u at hv;cases hv with
     |tuple _ vs hs _=>rw [eq_empty_of_size_eq_zero hs]
    have hy:yielded ops a.tmps j=none:=by
     unfold yielded;rw [hd];simp only [Option.bind_some];by_cases h1:d<a.tmps.size
     ·simp only [Array.getD,h1,dif_pos] at hval;rw [Array.getElem?_eq_getElem h1];have:a.tmps[d]= .tuple #[]:=hval;rw [this]
     ·rw [Array.getElem?_eq_none (Nat.le_of_not_lt h1)]
    rw [hy];exact .inr ⟨rfl,hg⟩
   ·cases hg
  ·cases hg
def I3 (B:Nat→Prop) (N:Nat) (κ:Ay) (h:Heap) (w:World) (q:Bool) (os:List Oper) (env:Env) (a:Act) (K:Env→Heap→Option R) (r:R) (next:Act→World→Prop):Prop:=
 ∀env' h' κ' a' w',K env' h'=some r→Rel B N κ' env' h' a' w'→Ext κ h w κ' h' w'→(∀i,i∉os.filterMap (·.dst)→env' i=env i)→a'.defers=a.defers→(q=true→h'=h∧κ'=κ)→next a' w'
theorem HA {C:Cfg} {rec:Rec} {pc:A4} (hrec:DL C.P rec) (hpc:Bn C.P pc) {q:Bool} (ops:Array Oper) (Q:Exit→Act→World→Prop) (n:Nat) (ro:Option Nat) (rest:List Nat) :
  ∀(os:List Oper) (l:List Nat) {K:Env→Heap→Option R} {r:R} {env:Env} {h:Heap} {κ:Ay} {a:Act} {w:World},l.length=os.length→(∀(j i:Nat) (o:Oper),l[j]? = some i→os[j]? = some o→ops[i]? = some o)→
   Da C rec pc N q ops os env h K=some r→Rel B N κ env h a w→I3 B N κ h w q os env a K r (wpOpsIn (Fr ro) n C.P ops Q rest)→wpOpsIn (Fr ro) n C.P ops Q (l++rest) a w
 |[],l,K,r,env,h,κ,a,w,hl,hi,hk,hr,hn=>by obtain rfl:l=[]:=eq_nil_of_length_eq_zero (by simpa using hl);exact hn env h κ a w hk hr (Ext.refl _ _ _) (fun _ _=>rfl) rfl fun _=>⟨rfl,rfl⟩
 |o::os,l,K,r,env,h,κ,a,w,hl,hi,hk,hr,hn=>by
  cases l with
  |nil=>simp at hl
  |cons i l=>
   simp only [Da,AD] at hk;obtain ⟨hd,hk⟩:=AE hk;have ho:=hi 0 i o rfl rfl;have hi':∀(j i:Nat) (o:Oper),l[j]? = some i→os[j]? = some o→ops[i]? = some o:=fun j i o h1 h2=>hi (j+1) i o (by simpa using h1) (by simpa using h2);simp only [cons_append,wpOpsIn,ho];have hput:∀(v:AV) (i:Tmp),i∉(o::os).filterMap (·.dst)→(env.put o.dst v) i=env i:=fun v i hni=>by
    cases hdst:o.dst with
    |none=>rfl
    |some d=>
     simp only [Env.put];rw [if_neg fun e=>hni (by simp [hdst,e])]
   have hpd:∀val,(a.put o.dst val).defers=a.defers:=fun val=>by cases o.dst<;>rfl
   have hsub:∀i,i∉(o::os).filterMap (·.dst)→i∉os.filterMap (·.dst):=fun i hni hm=>hni (by
    simp only [filterMap_cons];split
    ·exact hm
    ·exact mem_cons_of_mem _ hm)
   rcases GY hk hr with ⟨hw,hk1⟩|⟨hw,hk1⟩
   ·simp only [hw,if_true];refine IF hrec hpc o hk1 hr _ Q n ro fun v h' κ' val w' h1 h2 h3 h4 h5 => ?_;refine HA hrec hpc ops Q n ro rest os l (by simpa using hl) hi' h1 (EN hr h3 h4 h2 o hd) fun env2 h2 κ2 a2 w2 k1 k2 k3 k4 k5 k6 => ?_;exact hn env2 h2 κ2 a2 w2 k1 k2 (h4.trans k3) (fun i hni=>(k4 i (hsub i hni)).trans (hput v i hni)) (k5.trans (hpd _)) fun e=>by obtain ⟨e1,e2⟩:=h5 e;obtain ⟨e3,e4⟩:=k6 e;exact ⟨e3.trans e1,e4.trans e2⟩
   ·simp only [hw,false_eq_true,if_false];refine ⟨fun _ _=>trivial,?_⟩;refine HA hrec hpc ops Q n ro rest os l (by simpa using hl) hi' hk1 (EN hr hr.heap (Ext.refl _ _ _) (.tuple _ _ rfl fun j x hx=>by simp at hx) o hd) fun env2 h2 κ2 a2 w2 k1 k2 k3 k4 k5 k6 => ?_;exact hn env2 h2 κ2 a2 w2 k1 k2 k3 (fun i hni=>(k4 i (hsub i hni)).trans (hput _ i hni)) (k5.trans (hpd _)) k6
end Ab
namespace Ab
open Go
def Det {α:Type} (f:∀R:Type,(α→Option R)→Option R):Prop:=(∃v,∀R K,f R K=K v)∨∀R K,f R K=none
theorem Det.none {α:Type}:Det (α:=α) (fun _ _=>Option.none):=.inr fun _ _=>rfl
theorem Det.val {α:Type} (v:α):Det (fun _ K=>K v):=.inl ⟨v,fun _ _=>rfl⟩
theorem Det.bind {α β:Type} (x:Option β) {f:β→∀R:Type,(α→Option R)→Option R} (hf:∀b,Det (f b)):Det (fun R K=>x.bind fun b=>f b R K):=by
 cases x with
 |none=>exact .none
 |some b=>exact hf b
theorem Det.ite {α:Type} {c:Prop} [Decidable c] {f:∀R:Type,(α→Option R)→Option R} (hf:Det f):Det (fun R K=>if c then f R K else Option.none):=by
 by_cases hc:c
 ·simp only [if_pos hc];exact hf
 ·simp only [if_neg hc];exact .none
theorem Det.SN {α:Type} {c:Prop} [Decidable c] {f g:∀R:Type,(α→Option R)→Option R} (hf:Det f) (hg:Det g):Det (fun R K=>if c then f R K else g R K):=by
 by_cases hc:c
 ·simp only [if_pos hc];exact hf
 ·simp only [if_neg hc];exact hg
theorem Det.comp {α β:Type} {f:∀R:Type,(β→Option R)→Option R} (hf:Det f) {g:β→∀R:Type,(α→Option R)→Option R} (hg:∀b,Det (g b)):Det (fun R K=>f R fun b=>g b R K):=by
 rcases hf with ⟨v,hv⟩|hn
 ·simp only [hv];exact hg v
 ·simp only [hn];exact .none
variable {P:Program} {h:Heap}
theorem QZ (t:TypeId) (total:Nat) (get:Nat→AV) (off:Nat):Det (fun R K=>rd (R:=R) P t total get off K):=by
 unfold rd
 try simp only [AD]
 cases Av P t with
 |none=>exact .none
 |some b=>
  cases b with
  |false=>exact .ite (.val _)
  |true=>
   cases BO P t with
   |none=>exact .none
   |some n=>exact .ite (.val _)
theorem SZ (t:TypeId) (a:AV):Det (fun R K=>Hb (R:=R) P t h a K):=by
 unfold Hb
 try simp only [AD]
 cases a with
 |ptr i off=>
  dsimp only;cases h[i]? with
  |none=>exact .none
  |some o=>cases o with
   |box cs=>exact QZ _ _ _ _
   |_=>exact .none
 |rptr i ver k off=>
  dsimp only;cases h[i]? with
  |none=>exact .none
  |some o=>cases o with
   |row f v s es=>exact .ite (.bind _ fun e=>QZ _ _ _ _)
   |_=>exact .none
 |eptr s c o=>exact QZ _ _ _ _
 |_=>exact .none
theorem UQ (fz:Bool) (ty:TypeId) (v:AV):Det (fun R K=>conv (R:=R) P fz h ty v K):=by
 unfold conv
 try simp only [AD]
 cases v with
 |t x=>exact .val _
 |nilsl=>exact .bind _ fun s =>.val _
 |sref i ver off len=>
  dsimp only;cases h[i]? with
  |none=>exact .none
  |some o=>cases o with
   |row f v s es=>exact .bind _ fun s =>.ite (.val _)
   |_=>exact .none
 |func fn a b=>
  cases a with
  |nil=>cases b with
   |nil=>exact .val _
   |cons x xs=>exact .none
  |cons x xs=>exact .none
 |_=>exact .none
theorem By (fz:Bool):∀(ts:List TypeId) (vs:List AV),Det (fun R K=>C5 (R:=R) P fz h ts vs K)
 |[],[]=>.val _
 |[],_::_ =>.none
 |_::_,[]=>.none
 |t::ts,v::vs =>.comp (UQ fz t v) fun x =>.comp (By fz ts vs) fun xs =>.val _
theorem Qi (op:BinOp) (k:IntKind) (a b:Int):Det (fun R K=>Lo (R:=R) op k a b K):=by
 unfold Lo
 try simp only [AD]
 cases op<;>first|exact .val _|exact .none|skip
 ·by_cases hb:b=0
  ·simp only [if_pos hb];exact .none
  ·simp only [if_neg hb];exact .val _
 ·by_cases hb:b=0
  ·simp only [if_pos hb];exact .none
  ·simp only [if_neg hb];exact .val _
theorem Qb (op:BinOp) (k:IntKind) (a b:Int):Det (fun R K=>Lb (R:=R) op k a b K):=by
 unfold Lb
 try simp only [AD]
 by_cases hb:b<0
 ·simp only [if_pos hb];cases op<;>exact .none
 ·simp only [if_neg hb];cases op<;>first|exact .val _|exact .none
theorem Ot:∀(d:Nat) (t:TypeId) (gx gy:Nat→AV) (off:Nat),Det (fun R K=>MB (R:=R) P d t gx gy off K)
 |0,t,gx,gy,off =>.none
 |d+1,t,gx,gy,off=>by
  unfold MB
  try simp only [AD]
  cases hu:P.underlying t with
  |none=>exact .none
  |some ty=>
   cases ty with
   |int k=>exact .bind _ fun a =>.bind _ fun b =>.val _
   |bool=>exact .bind _ fun a =>.bind _ fun b =>.val _
   |string=>exact .bind _ fun a =>.bind _ fun b =>.val _
   |struct fs=>
    cases hs:BO P t with
    |none=>exact .none
    |some n=>
     refine .ite ?_;have key:∀(l:List Field) (acc:Bool),Det (fun R (K:Bool→Option R)=>l.foldr (fun f (K':Bool→Option R) (acc:Bool)=>
       match BO P f.type with
       | some m => if f.name ≠ "_" ∧ f.offset + m ≤ n ∧ (Av P f.type = some true ∨ Av P f.type = some false ∧ m = 1) then MB P d f.type gx gy (off + f.offset) fun b => K' (acc && b) else none
       |none=>none) K acc):=by
      intro l
      induction l with
      |nil=>intro acc;exact .val _
      |cons f l ih=>
       intro acc;simp only [List.foldr_cons];cases BO P f.type with
       |none=>exact .none
       |some m=>exact .ite (.comp (Ot d _ _ _ _) fun b=>ih _)
     exact key fs.toList true
   |_=>exact .none
theorem US (op:BinOp) (t:TypeId) (x y:AV):Det (fun R K=>Up (R:=R) P op t x y K):=by
 unfold Up
 try simp only [AD]
 cases hu:P.underlying t with
 |none=>exact .none
 |some ty=>
  cases ty with
  |int k=>
   by_cases hs:RR op=true
   ·simp only [hs,if_true];exact .bind _ fun a =>.bind _ fun b=>Qb _ _ _ _
   ·simp only [hs,false_eq_true,if_false];exact .bind _ fun a =>.bind _ fun b=>Qi _ _ _ _
  |bool=>exact .bind _ fun a =>.bind _ fun b=>by cases op<;>first|exact .val _|exact .none
  |string=>exact .bind _ fun a =>.bind _ fun b=>by cases op<;>first|exact .val _|exact .ite (.val _)|exact .none
  |struct fs=>
   cases x with
   |agg xs=>
    cases y with
    |agg ys=>
     cases BO P t with
     |none=>exact .none
     |some n=>exact .ite (by cases op<;>first|exact .comp (Ot _ _ _ _ _) (fun b =>.val _)|exact .none)
    |_=>exact .none
   |_=>exact .none
  |_=>exact .none
theorem det_aun (op:UnOp) (x:AV):Det (fun R K=>aun (R:=R) op x K):=by
 unfold aun;cases op with
 |not=>exact .bind _ fun b =>.val _
 |neg=>cases x with
  |t y=>cases y<;>first|exact .val _|exact .none
  |_=>exact .none
 |_=>exact .none
theorem J4 (mx:Bool):∀(l:List AV) (a:Int),Det (fun R K=>Iz.go (R:=R) mx a l K)
 |[],a =>.val _
 |y::l,a =>.bind _ fun b=>J4 mx l _
theorem SX (mx:Bool) (l:List AV):Det (fun R K=>Iz (R:=R) mx l K):=by
 cases l with
 |nil=>exact .none
 |cons x l=>exact .bind _ fun a=>J4 mx l a
theorem Qe (t:TypeId) (a:AV) (f:Nat):Det (fun R K=>H5 (R:=R) P t h a f K):=by
 unfold H5
 try simp only [AD]
 refine .bind _ fun o => ?_;cases a with
 |ptr i off=>exact .val _
 |eptr s c o=>exact .val _
 |rptr i v k o=>exact .bind _ fun ob =>.ite (.val _)
 |_=>exact .none
theorem G5 {α:Type} (i:Int) {f:Nat→α}:∀(n:Nat),Det (fun R (K:α→Option R)=>IQ i n fun j=>K (f j))
 |0 =>.none
 |n+1=>by simp only [IQ,AD];exact .SN (.val _) (G5 i n)
theorem Qd (t:TypeId) (x ix:AV):Det (fun R K=>Jj (R:=R) P t h x ix K):=by
 unfold Jj
 try simp only [AD]
 refine .bind _ fun i => ?_;cases P.underlying t with
 |none=>exact .none
 |some ty=>
  cases ty with
  |slice e=>
   refine .bind _ fun s => ?_;cases x with
   |t y=>cases y with
    |sl size es=>exact .ite (.bind _ fun c =>.val _)
    |_=>exact .none
   |sref r v o l=>
    dsimp only;cases h[r]? with
    |none=>exact .none
    |some o=>cases o with
     |row f v s es=>exact .ite (.val _)
     |_=>exact .none
   |bsl r o l s=>exact .ite (.SN (G5 i l) (.val _))
   |_=>exact .none
  |array n e=>
   refine .bind _ fun s => ?_;cases x with
   |ptr r off=>exact .ite (.SN (G5 i n) (.val _))
   |eptr size cells off=>exact .ite (.val _)
   |rptr r ver k off=>exact .bind _ fun ob =>.ite (.val _)
   |_=>exact .none
  |_=>exact .none
theorem UR (t:TypeId) (x:AV):Det (fun R K=>Su (R:=R) P t h x K):=by
 unfold Su
 try simp only [AD]
 cases P.underlying t with
 |none=>exact .none
 |some ty=>
  cases ty with
  |slice e=>
   cases x with
   |t y=>cases y with
    |sl size es=>exact .val _
    |_=>exact .none
   |nilsl=>exact .val _
   |sref r v o l=>
    dsimp only;cases h[r]? with
    |none=>exact .none
    |some o=>cases o with
     |row f v s es=>exact .ite (.val _)
     |_=>exact .none
   |bsl r o l s=>exact .val _
   |_=>exact .none
  |string=>exact .bind _ fun s =>.val _
  |array n e=>exact .val _
  |_=>exact .none
theorem A3 (x:Option AV) (d hi:Nat):Det (fun R K=>B7 (R:=R) x d hi K):=by
 unfold B7
 try simp only [AD]
 cases x with
 |none=>exact .val _
 |some v=>exact .bind _ fun i =>.ite (.val _)
theorem Qa (t:TypeId) (x:AV) (lo hi mx:Option AV):Det (fun R K=>Jf (R:=R) P t h x lo hi mx K):=by
 unfold Jf
 try simp only [AD]
 cases mx with
 |some m=>
  cases P.underlying t with
  |none=>exact .none
  |some ty=>
   cases ty with
   |slice e=>
    refine .bind _ fun z => ?_;cases hi with
    |none=>cases x with
     |t y=>cases y<;>exact .none
     |_=>exact .none
    |some b=>
     cases x with
     |t y=>cases y with
      |sl size es=>exact .ite (.comp (A3 _ _ _) fun m =>.comp (A3 _ _ _) fun b =>.comp (A3 _ _ _) fun a =>.val _)
      |_=>exact .none
     |nilsl=>exact .comp (A3 _ _ _) fun m =>.comp (A3 _ _ _) fun b =>.comp (A3 _ _ _) fun a =>.val _
     |sref r v o l=>
      dsimp only;cases h[r]? with
      |none=>exact .none
      |some o=>cases o with
       |row f v s es=>exact .ite (.comp (A3 _ _ _) fun m =>.comp (A3 _ _ _) fun b =>.comp (A3 _ _ _) fun a =>.val _)
       |_=>exact .none
     |_=>exact .none
   |_=>exact .none
 |none=>
  cases P.underlying t with
  |none=>exact .none
  |some ty=>
   cases ty with
   |string=>exact .bind _ fun s =>.comp (A3 _ _ _) fun b =>.comp (A3 _ _ _) fun a =>.val _
   |slice e=>
    refine .bind _ fun z => ?_;cases x with
    |t y=>cases y with
     |sl size es=>exact .ite (.comp (A3 _ _ _) fun b =>.comp (A3 _ _ _) fun a =>.val _)
     |_=>exact .none
    |nilsl=>exact .comp (A3 _ _ _) fun b =>.comp (A3 _ _ _) fun a =>.val _
    |sref r v o l=>
     dsimp only;cases h[r]? with
     |none=>exact .none
     |some o=>cases o with
      |row f v s es=>exact .ite (.comp (A3 _ _ _) fun b =>.comp (A3 _ _ _) fun a =>.val _)
      |_=>exact .none
    |_=>exact .none
   |_=>exact .none
theorem Qh (t:TypeId) (parts:List (Nat×AV)):Det (fun R K=>Ln (R:=R) P t parts K):=by
 unfold Ln;cases P.underlying t with
 |none=>exact .none
 |some ty=>
  cases ty with
  |struct fs=>
   dsimp only;cases fs.toList.mapM (fun f=>(P.info? f.type).map fun i=>(f.offset,i.size)) with
   |none=>exact .none
   |some places=>exact .bind _ fun z =>.bind _ fun cs =>.val _
  |array n e=>exact .bind _ fun s =>.bind _ fun z =>.bind _ fun cs =>.val _
  |_=>exact .none
theorem J9 (t:TypeId) (len:Nat) (parts:List (Nat×AV)):Det (fun R K=>DK (R:=R) P t h len parts K):=by
 unfold DK
 try simp only [AD]
 cases P.underlying t with
 |none=>exact .none
 |some ty=>
  cases ty with
  |slice e=>exact .bind _ fun s =>.bind _ fun z =>.ite (.bind _ fun cs =>.comp (By _ _ _) fun xs =>.val _)
  |_=>exact .none
theorem G6:∀(ts:List TypeId) (vs:List AV),Det (fun R K=>C0 (R:=R) P ts vs K)
 |[],[]=>.val _
 |[],_::_ =>.none
 |_::_,[]=>.none
 |t::ts,v::vs=>by
  simp only [C0,AD];cases Av P t with
  |none=>exact .none
  |some b=>
   cases b with
   |true=>cases v with
    |agg cs=>exact .ite (.comp (G6 ts vs) fun rs =>.val _)
    |_=>exact .none
   |false=>exact .ite (.comp (G6 ts vs) fun rs =>.val _)
theorem UO (t:TypeId) (v:AV):Det (fun R K=>NI (R:=R) P t v K):=by
 rcases Kl P t v with h|h
 ·exact .inl ⟨v,h⟩
 ·exact .inr h
theorem Mp (ts:List TypeId) (ys:List Tree):Det (fun R K=>IM (R:=R) P ts ys K):=by
 rcases Jt P ts ys with h|h
 ·exact .inl ⟨ys,h⟩
 ·exact .inr h
theorem Nl (src dst:TypeId) (x:AV):Det (fun R K=>Gn (R:=R) P src dst x K):=by
 unfold Gn;cases P.underlying src with
 |none=>exact .none
 |some a=>
  cases P.underlying dst with
  |none=>cases a<;>exact .none
  |some b=>cases a<;>cases b<;>first|exact .none|exact .bind _ fun n =>.val _
theorem LP (n:Int):∀(m:List (Int×Nat)),Det (fun R K=>Jh (R:=R) n m K)
 |[]=>.val _
 |p::m=>by simp only [Jh,AD];exact .SN (.val _) (LP n m)
theorem Ov (t:TypeId) (m x:AV):Det (fun R K=>I0 (R:=R) P t m x K):=by
 unfold I0;simp only [AD];split
 ·exact .ite (LP _ _)
 ·exact .none
theorem G7 (h:Heap) (z:Nat) (x:AV):Det (fun R (K:List (List Tree)→Option R)=>elems (R:=R) h z x K):=by
 unfold elems
 try simp only [AD]
 cases x with
 |t y=>
  cases y with
  |sl s es=>exact .ite (.val _)
  |_=>exact .none
 |nilsl=>exact .val _
 |sref i ver off len=>
  dsimp only;cases h[i]? with
  |none=>exact .none
  |some o=>
   cases o with
   |row f ver' s es=>exact .ite (.val _)
   |_=>exact .none
 |_=>exact .none
theorem G4 (h:Heap) (z:Nat) (x:AV):Det (fun R (K:List (List Tree)→Option R)=>HQ (R:=R) h z x K):=by
 unfold HQ
 try simp only [AD]
 split
 ·exact .ite (.val _)
 ·exact G7 _ _ _
theorem Qf (src dst:TypeId) (x:AV):Det (fun R K=>Jk (R:=R) P h src dst x K):=by
 unfold Jk;simp only [AD];split
 ·split
  ·exact .comp (G7 _ _ _) fun es =>.ite (.val _)
  ·exact .none
 ·exact Nl _ _ _
theorem Ow (t:TypeId) (x ix:AV):Det (fun R K=>I1 (R:=R) P t x ix K):=by
 unfold I1;simp only [AD];split
 ·exact .ite (.val _)
 ·exact .ite (.ite (G5 _ _))
 ·exact .none
theorem Qc (t:TypeId) (h:Heap) (i:Nat) (x:AV) (co:Bool):Det (fun R K=>Ji (R:=R) P t h i x co K):=by
 unfold Ji
 try simp only [AD]
 split
 ·exact .ite (.val _)
 ·exact .none
theorem Nj (t:TypeId) (h:Heap):Det (fun R (K:AV×Heap→Option R)=>FT (R:=R) P t h fun v h'=>K (v,h')):=by
 unfold FT;split
 ·exact .val (_,_)
 ·exact .none
theorem Ou (t:TypeId) (h:Heap) (m x v:AV):Det (fun R (K:Heap→Option R)=>HB (R:=R) P t h m x v K):=by
 unfold HB
 try simp only [AD]
 split
 ·split
  ·exact .ite (.val _)
  ·exact .none
 ·exact .none
theorem det_qop (env:Env) (op:Op):Det (fun R K=>qop (R:=R) P env h op K):=by
 cases op with
 |move x=>exact .val _
 |assign x=>exact .val _
 |pick c a b=>
  simp only [qop,AD];exact .bind _ fun t =>.SN (.val _) (.val _)
 |build t parts=>exact Qh _ _
 |buildSlice t len parts=>exact J9 _ _ _
 |load t a=>exact .comp (SZ _ _) fun v=>UO _ _
 |binOp op t x y yt=>exact US _ _ _ _
 |unOp op t x=>exact det_aun _ _
 |convert src dst x=>exact Qf _ _ _
 |makeFunc fn first captured=>cases fn<;>first|exact .val _|exact .none
 |slice t x lo hi mx=>exact Qa _ _ _ _ _
 |fieldAddr t x f=>exact Qe _ _ _
 |indexAddr t x ix=>exact Qd _ _ _
 |extract t i=>
  simp only [qop,AD];cases ev env t with
  |tuple vs=>cases hv:vs[i]? with
   |none=>simp only [hv];exact .none
   |some v=>simp only [hv];exact .val _
  |_=>exact .none
 |lookup t m x ok=>
  simp only [qop];cases ev env m with
  |mref i=>exact Qc _ _ _ _ _
  |_=>
   cases ok with
   |true=>simp only [if_true];exact Ov _ _ _
   |false=>simp only [false_eq_true,if_false];exact .none
 |index t x ix=>exact Ow _ _ _
 |nilCheck x=>
  simp only [qop,AD];cases ev env x with
  |ptr i off=>exact .val _
  |eptr s c o=>exact .val _
  |yld i=>exact .val _
  |rptr i v k o=>exact .val _
  |func fn a b=>cases fn<;>first|exact .val _|exact .none
  |_=>exact .none
 |call c=>
  obtain ⟨callee,args,argTypes⟩:=c;cases callee with
  |builtin b=>
   cases b<;>first|exact SX _ _|exact .none|skip
   simp only [qop,AD]
   match args.toList,argTypes.toList with
   |[x],[t]=>exact UR _ _
   |[],_=>exact .none
   |_::_::_,_=>exact .none
   |[x],[]=>exact .none
   |[x],_::_::_=>exact .none
  |value f=>exact .none
  |invoke r m=>exact .none
 |_=>exact .none
theorem UN (C:Cfg) (rec:Rec) (pc:A4) (env:Env) (op:Op) :
  (∃v,∀(R:Type) (K:AV→Heap→Option R),Aa C rec pc true env h op K=K v h)∨∀(R:Type) (K:AV→Heap→Option R),Aa C rec pc true env h op K=none:=by
 have lift:∀{f:∀R:Type,(AV→Option R)→Option R},Det f→(∃v,∀(R:Type) (K:AV→Heap→Option R),f R (fun v=>K v h)=K v h)∨∀(R:Type) (K:AV→Heap→Option R),f R (fun v=>K v h)=none:=by
  intro f hf;rcases hf with ⟨v,hv⟩|hn
  ·exact .inl ⟨v,fun R K=>hv R _⟩
  ·exact .inr fun R K=>hn R _
 have hfc:∀(g:FuncId) (avs:List AV),(∃v,∀(R:Type) (K:AV→Heap→Option R),Ey C rec pc true g avs h K=K v h)∨∀(R:Type) (K:AV→Heap→Option R),Ey C rec pc true g avs h K=none:=by
  intro g avs;unfold Ey
  try simp only [AD]
  by_cases ho:C.own g=true
  ·exact .inr fun R K=>by simp [ho]
  have ho':C.own g=false:=by simpa using ho
  by_cases hg:C.heapful g=true
  ·exact .inr fun R K=>by simp [ho',hg]
  ·have hg':C.heapful g=false:=by simpa using hg
   simp only [ho',hg',false_eq_true,if_false,Bool.true_or,if_true];have hd:Det (fun R (K:AV→Option R)=>C0 C.P (Gw C.P g) avs fun ls=>C5 C.P (!Bv C.P g) h (IU C.P g) ls fun xs=>if g<OWN then ((pc g xs).bind fun ys=>IM C.P (Cw C.P g) ys fun ys=>
     match Br C.P g (fun i =>.t (ys.getD i default)) with
     |some v=>K v
     |none=>none) else none):=
    .comp (G6 _ _) fun ls =>.comp (By _ _ _) fun xs =>.ite (.bind _ fun ys =>.comp (Mp _ _) fun ys=>by
     cases Br C.P g (fun i =>.t (ys.getD i default)) with
     |none=>exact .none
     |some v=>exact .val _)
   exact lift hd
 unfold Aa
 try simp only [AD]
 by_cases hh:Aq op=true
 ·exact .inr fun R K=>by simp [hh]
 ·have hh':Aq op=false:=by simpa using hh
  simp only [hh',false_eq_true,if_false];have hq:=lift (det_qop (P:=C.P) (h:=h) env op);cases op with
  |convert src dst x=>
   dsimp only;by_cases hf:L3 C.P src dst=true
   ·simp only [hf,if_true];exact .inr fun _ _=>trivial
   ·simp only [hf,false_eq_true,if_false];exact hq
  |buildSlice t len parts=>
   dsimp only;by_cases hf:C.fnTy t=true
   ·simp only [hf,if_true];exact .inr fun _ _=>trivial
   ·simp only [hf,false_eq_true,if_false];exact hq
  |call c=>
   obtain ⟨callee,args,argTypes⟩:=c;cases callee with
   |value f=>
    dsimp only;unfold LV
    try simp only [AD]
    have hif:∀(g:FuncId) (avs:List AV),(∃v,∀(R:Type) (K:AV→Heap→Option R),(if enters C.P g=true then Ey C rec pc true g avs h K else none)=K v h)∨∀(R:Type) (K:AV→Heap→Option R),(if enters C.P g=true then Ey C rec pc true g avs h K else none)=none:=by
     intro g avs;by_cases he:enters C.P g=true
     ·simp only [if_pos he];exact hfc g avs
     ·simp only [if_neg he];exact .inr fun _ _=>trivial
    cases ev env f with
    |func fn a b=>
     cases fn with
     |func g=>exact hif g _
     |_=>exact .inr fun _ _=>rfl
    |t x=>
     cases x with
     |const v=>
      cases v with
      |func fn a b=>
       cases fn with
       |func g=>
        obtain ⟨a⟩:=a;obtain ⟨b⟩:=b;cases a with
        |nil=>cases b with
         |nil=>exact hif g _
         |cons x xs=>exact .inr fun _ _=>rfl
        |cons x xs=>exact .inr fun _ _=>rfl
       |_=>exact .inr fun _ _=>rfl
      |_=>exact .inr fun _ _=>rfl
     |_=>exact .inr fun _ _=>rfl
    |yld i=>exact .inr fun _ _=>by simp
    |_=>exact .inr fun _ _=>rfl
   |builtin b=>exact hq
   |invoke a b=>exact hq
  |_=>exact hq
noncomputable def F5 (C:Cfg) (rec:Rec) (pc:A4) (h:Heap) (env:Env) (op:Op):Option AV:=Aa C rec pc true env h op fun v _=>some v
theorem step_eq {R:Type} (C:Cfg) (rec:Rec) (pc:A4) (env:Env) (op:Op) (K:AV→Heap→Option R):Aa C rec pc true env h op K=(F5 C rec pc h env op).bind fun v=>K v h:=by
 unfold F5;rcases UN (h:=h) C rec pc env op with ⟨v,hv⟩|hn
 ·rw [hv,hv];rfl
 ·rw [hn,hn];rfl
def MA (ops:Array Oper) (o:Oper) (env:Env):Option Bool:=
 match o.guard with
 |none=>some true
 |some (j,want)=>
  match (ops[j]?).bind (·.dst) with
  |some d=>match env d with
   | .t (.bool b)=>some (b==want)
   | .tuple []=>some false
   |_=>none
  |none=>none
theorem Oj {R:Type} (ops:Array Oper) (o:Oper) (env:Env) (K1 K0:Env→Option R):FE ops o env K1 K0=(MA ops o env).bind fun b=>if b then K1 env else K0 env:=by
 unfold FE MA
 try simp only [AD]
 cases hg:o.guard with
 |none=>rfl
 |some p=>
  obtain ⟨j,want⟩:=p;dsimp only;cases hd:(ops[j]?).bind (·.dst) with
  |none=>rfl
  |some d=>
   dsimp only;cases hb:env d with
   |t x=>
    cases x with
    |bool b=>cases b<;>cases want<;>simp [OU hb]
    |_=>rfl
   |tuple vs=>cases vs<;>rfl
   |_=>rfl
theorem P7 (C:Cfg) (rec:Rec) (pc:A4) {env env':Env} (op:Op) (hE:∀x∈op.operands,ev env x=ev env' x):F5 C rec pc h env op=F5 C rec pc h env' op:=by
 have hmap:∀(xs:Array Operand),(∀x∈xs,ev env x=ev env' x)→xs.toList.map (ev env)=xs.toList.map (ev env'):=fun xs hx=>
  map_congr_left fun x hm=>hx x (by simpa using hm)
 have hparts:∀(ps:Array (Nat×Operand)),(∀x∈(ps.toList.map (·.2)).toArray,ev env x=ev env' x)→ps.toList.map (fun p=>(p.1,ev env p.2))=ps.toList.map (fun p=>(p.1,ev env' p.2)):=fun ps hx=>
  map_congr_left fun p hm=>by rw [hx p.2 (by simp;exact ⟨p.1,by simpa using hm⟩)]
 have hopt:∀(x:Option Operand),(∀y∈x.toArray,ev env y=ev env' y)→IX env x=IX env' x:=fun x hx=>by
  cases x with
  |none=>rfl
  |some y=>simp only [IX];rw [hx y (by simp)]
 unfold F5;cases op with
 |move x=>have h1:=hE x (by simp [Op.operands]);simp only [Aa,Aq,false_eq_true,if_false,qop,h1,AD]
 |assign x=>have h1:=hE x (by simp [Op.operands]);simp only [Aa,Aq,false_eq_true,if_false,qop,h1,AD]
 |pick c a b=>
  have h1:=hE c (by simp [Op.operands]);have h2:=hE a (by simp [Op.operands]);have h3:=hE b (by simp [Op.operands]);simp only [Aa,Aq,false_eq_true,if_false,qop,h1,h2,h3,AD]
 |alloc t=>simp [Aa,Aq,AD]
 |box t x=>simp [Aa,Aq,AD]
 |store t a x=>simp [Aa,Aq,AD]
 |build t ps=>have h1:=hparts ps hE;simp only [Aa,Aq,false_eq_true,if_false,qop,h1,AD]
 |buildSlice t l ps=>have h1:=hparts ps hE;simp only [Aa,Aq,false_eq_true,if_false,qop,if_true,h1,AD]
 |load t x=>have h1:=hE x (by simp [Op.operands]);simp only [Aa,Aq,false_eq_true,if_false,qop,h1,AD]
 |nilCheck x=>have h1:=hE x (by simp [Op.operands]);simp only [Aa,Aq,false_eq_true,if_false,qop,h1,AD]
 |binOp op t x y yt=>
  have h1:=hE x (by simp [Op.operands]);have h2:=hE y (by simp [Op.operands]);by_cases hi:Aq (.binOp op t x y yt)=true
  ·simp only [Aa,hi,if_true]
  ·simp only [Aa,hi,false_eq_true,if_false,qop,h1,h2,AD]
 |unOp op t x=>have h1:=hE x (by simp [Op.operands]);simp only [Aa,Aq,false_eq_true,if_false,qop,h1,AD]
 |convert src dst x=>have h1:=hE x (by simp [Op.operands]);simp only [Aa,Aq,false_eq_true,if_false,qop,h1,AD]
 |makeSlice t n c=>simp [Aa,Aq,AD]
 |makeMap t r=>
  cases r with
  |none=>simp [Aa,Aq,AD]
  |some r=>simp only [Aa,Aq,false_eq_true,if_false,qop,AD]
 |mapUpdate t m x v=>simp [Aa,Aq,AD]
 |makeFunc fn first captured=>
  have h1:=hmap first fun x hx=>hE x (by simp [Op.operands,hx])
  have h2:=hmap captured fun x hx=>hE x (by simp [Op.operands,hx]);simp only [Aa,Aq,false_eq_true,if_false,qop,h1,h2,AD]
 |slice t x lo hi mx=>
  have h1:=hE x (by simp [Op.operands]);have h2:=hopt lo fun y hy=>hE y (by simp [Op.operands] at hy ⊢;simp [hy]);have h3:=hopt hi fun y hy=>hE y (by simp [Op.operands] at hy ⊢;simp [hy]);have h4:=hopt mx fun y hy=>hE y (by simp [Op.operands] at hy ⊢;simp [hy]);simp only [Aa,Aq,false_eq_true,if_false,qop,h1,h2,h3,h4,AD]
 |fieldAddr t x f=>have h1:=hE x (by simp [Op.operands]);simp only [Aa,Aq,false_eq_true,if_false,qop,h1,AD]
 |indexAddr t x y=>
  have h1:=hE x (by simp [Op.operands]);have h2:=hE y (by simp [Op.operands]);simp only [Aa,Aq,false_eq_true,if_false,qop,h1,h2,AD]
 |lookup t m x ok=>have h1:=hE m (by simp [Op.operands]);have h2:=hE x (by simp [Op.operands]);cases ok<;>simp only [Aa,Aq,false_eq_true,if_false,qop,h1,h2,AD]
 |index t x y=>
  have h1:=hE x (by simp [Op.operands]);have h2:=hE y (by simp [Op.operands]);simp only [Aa,Aq,false_eq_true,if_false,qop,h1,h2,AD]
 |extract x i=>have h1:=hE x (by simp [Op.operands]);simp only [Aa,Aq,false_eq_true,if_false,qop,h1,AD]
 |call c=>
  obtain ⟨callee,args,argTypes⟩:=c;cases callee with
  |value f=>
   have h1:=hE f (by simp [Op.operands,Call.operands]);have h2:=hmap args fun x hx=>hE x (by simp [Op.operands,Call.operands,hx]);simp only [Aa,Aq,false_eq_true,if_false,h1,h2,AD]
  |builtin b=>
   have h2:∀x∈args.toList,ev env x=ev env' x:=fun x hx=>hE x (by simp [Op.operands,Call.operands];simpa using hx);have h3:=hmap args fun x hx=>h2 x (by simpa using hx);cases b<;>first|(simp [Aa,Aq,AD];done)|(simp only [Aa,Aq,false_eq_true,if_false,qop,h3,AD];done)|(simp only [Aa,Aq,false_eq_true,if_false,qop,AD];done)|skip
   simp only [Aa,Aq,false_eq_true,if_false,qop,AD]
   match hl:args.toList,argTypes.toList with
   |[x],[t]=>simp only [h2 x (by rw [hl];simp)]
   |[],_=>rfl
   |_::_::_,_=>rfl
   |[x],[]=>rfl
   |[x],_::_::_=>rfl
  |invoke r m=>simp only [Aa,Aq,false_eq_true,if_false,qop,AD]
 |_=>simp only [Aa,Aq,false_eq_true,if_false,qop,AD]
theorem LG (ops:Array Oper) (o:Oper) {env env':Env} (hE:∀t∈o.looksAt ops,env t=env' t):MA ops o env=MA ops o env':=by
 unfold MA;cases hg:o.guard with
 |none=>rfl
 |some p=>
  obtain ⟨j,want⟩:=p;dsimp only;cases hd:(ops[j]?).bind (·.dst) with
  |none=>rfl
  |some d=>
   dsimp only;rw [hE d (by simp [Oper.looksAt,hg,hd])]
theorem K7 (ops:Array Oper) (o:Oper) {env env':Env} (hE:∀t∈o.looksAt ops,env t=env' t):∀x∈o.op.operands,ev env x=ev env' x:=by
 intro x hx;cases x with
 |tmp t=>exact hE t (by simp only [Oper.looksAt,mem_append,mem_filterMap];exact .inl ⟨.tmp t,by simpa using hx,rfl⟩)
 |_=>rfl
theorem CA {env:Env} {o:Oper} {v:AV} {t:Tmp} (ht:∀d,o.dst=some d→d≠t):(env.put o.dst v) t=env t:=by
 cases hd:o.dst with
 |none=>rfl
 |some d=>simp only [Env.put];rw [if_neg fun e=>ht d hd e.symm]
theorem put_comm {env:Env} {x y:Oper} {v u:AV} (hxy:∀d,x.dst=some d→y.dst≠some d):(env.put x.dst v).put y.dst u=(env.put y.dst u).put x.dst v:=by
 cases hx:x.dst with
 |none=>cases y.dst<;>rfl
 |some d=>
  cases hy:y.dst with
  |none=>rfl
  |some e=>
   funext i;simp only [Env.put];have hne:d≠e:=fun h=>hxy d hx (by rw [hy,h]);by_cases h1:i=e
   ·rw [if_pos h1];by_cases h2:i=d
    ·exact (hne (h2.symm.trans h1)).elim
    ·rw [if_neg h2,if_pos h1]
   ·rw [if_neg h1];by_cases h2:i=d
    ·rw [if_pos h2,if_pos h2]
    ·rw [if_neg h2,if_neg h2,if_neg h1]
theorem Hw {h:Heap}:∀(os vs:List AV),Det (fun R (K:List AV→Option R)=>CT (R:=R) h os vs K)
 |os,[]=>by
  have:(fun R (K:List AV→Option R)=>CT (R:=R) h os [] K)=fun R K=>K []:=by funext R K;cases os<;>rfl
  rw [this];exact .val _
 |[],v::vs =>.val _
 |o::os,v::vs=>by
  have plain:∀x:AV,Det (fun R (K:List AV→Option R)=>CT (R:=R) h os vs fun vs'=>K (x::vs')):=fun x =>.comp (Hw os vs) fun vs' =>.val _;unfold CT
  try simp only [AD]
  split
  ·split
   ·exact .ite (plain _)
   ·exact plain _
  ·exact plain _
theorem Fl:∀(ts:List TypeId) (vs:List AV) (h:Heap),Det (fun R (K:List AV×Heap→Option R)=>Cd (R:=R) P ts vs h fun vs' h'=>K (vs',h'))
 |ts,[],h =>.val ([],h)
 |ts,v::vs,h=>by
  cases v with
  |nilsl=>
   have:=Fl ts.tail vs (h++[.row false 0 ((EH P (ts.headD 0)).getD 0) []]);rcases this with ⟨p,hp⟩|hn
   ·exact .inl ⟨(.sref h.length 0 0 0::p.1,p.2),fun R K=>hp R fun q=>K (.sref h.length 0 0 0::q.1,q.2)⟩
   ·exact .inr fun R K=>hn R fun q=>K (.sref h.length 0 0 0::q.1,q.2)
  |_=>
   have:=Fl ts.tail vs h;rcases this with ⟨p,hp⟩|hn
   ·exact .inl ⟨(_::p.1,p.2),fun R K=>hp R fun q=>K (_::q.1,q.2)⟩
   ·exact .inr fun R K=>hn R fun q=>K (_::q.1,q.2)
theorem Is (t:TypeId) (cs:List AV) (h:Heap):Det (fun R (K:AV×Heap→Option R)=>Db (R:=R) P t cs h fun v h'=>K (v,h')):=by
 unfold Db;rcases Fl (P:=P) (BS P 16 t) cs h with ⟨p,hp⟩|hn
 ·exact .inl ⟨(.ptr p.2.length 0,p.2++[.box p.1]),fun R K=>hp R fun q=>K (.ptr q.2.length 0,q.2++[.box q.1])⟩
 ·exact .inr fun R K=>hn R fun q=>K (.ptr q.2.length 0,q.2++[.box q.1])
theorem LO (t:TypeId) (h:Heap) (a v:AV):Det (fun R (K:Heap→Option R)=>Ej (R:=R) P t h a v K):=by
 unfold Ej
 try simp only [AD]
 cases v.cells with
 |none=>exact .none
 |some vs=>
  cases BO P t with
  |none=>exact .none
  |some n=>
   refine .ite ?_;cases a with
   |ptr i off=>
    dsimp only;cases h[i]? with
    |none=>exact .none
    |some o=>
     cases o with
     |box cs=>
      refine .ite ?_;refine .comp (Hw _ _) fun vs => ?_;rcases Fl (P:=P) (BS P 16 t) vs h with ⟨p,hp⟩|hn
      ·exact .inl ⟨_,fun R K=>hp R fun q=>K (q.2.set i (.box (setAt cs off q.1)))⟩
      ·exact .inr fun R K=>hn R fun q=>K (q.2.set i (.box (setAt cs off q.1)))
     |row f ver s es=>exact .none
     |loop l=>exact .none
     |mapo a b c=>exact .none
   |rptr i ver k off=>
    dsimp only;cases h[i]? with
    |none=>exact .none
    |some o=>
     cases o with
     |box cs=>exact .none
     |loop l=>exact .none
     |mapo a b c=>exact .none
     |row f ver' s es=>
      cases f with
      |true=>exact .none
      |false=>exact .ite (.bind _ fun e =>.comp (By _ _ _) fun xs =>.val _)
   |_=>exact .none
theorem Ox (t:TypeId) (h:Heap) (s x:AV):Det (fun R (K:AV×Heap→Option R)=>Dd (R:=R) P t h s x fun v h'=>K (v,h')):=by
 unfold Dd
 try simp only [AD]
 refine .bind _ fun z =>.comp (G4 h z x) fun new => ?_;cases s with
 |nilsl=>exact .ite (.val (_,_))
 |sref i ver off len=>
  dsimp only;cases h[i]? with
  |none=>exact .none
  |some o=>
   cases o with
   |row f ver' sz es=>
    cases f with
    |true=>exact .none
    |false=>exact .SN (.ite (.val (_,_))) (.ite (.val (_,_)))
   |_=>exact .none
 |_=>exact .none
theorem MD (t:TypeId) (h:Heap) (s x:AV):Det (fun R (K:AV×Heap→Option R)=>Dt (R:=R) P t h s x fun v h'=>K (v,h')):=by
 unfold Dt
 try simp only [AD]
 refine .bind _ fun z =>.comp (G7 h z x) fun new => ?_;cases s with
 |sref i ver off len=>
  dsimp only;cases h[i]? with
  |none=>exact .none
  |some o=>
   cases o with
   |row f ver' sz es=>
    cases f with
    |true=>exact .none
    |false=>exact .ite (.val (_,_))
   |_=>exact .none
 |_=>exact .none
theorem G3 (h:Heap) (e:TypeId):Det (fun R (K:List Tree→Option R)=>MH (R:=R) P h e K):=by
 unfold MH
 try simp only [AD]
 cases zeroCells? P e with
 |none=>exact .none
 |some z=>
  cases BO P e with
  |none=>exact .none
  |some n=>exact .ite (By _ _ _)
theorem Qg (t:TypeId) (h:Heap) (x:AV):Det (fun R (K:Heap→Option R)=>H6 (R:=R) P t h x K):=by
 unfold H6
 try simp only [AD]
 cases P.underlying t with
 |none=>exact .none
 |some ty=>
  cases ty with
  |slice e=>
   cases x with
   |t y=>cases y with
    |sl z es=>exact .ite (.val _)
    |_=>exact .none
   |nilsl=>exact .val _
   |sref i ver off len=>
    dsimp only;refine .comp (G3 h e) fun zs => ?_;cases h[i]? with
    |none=>exact .none
    |some o=>
     cases o with
     |row f ver' sz es=>
      cases f with
      |true=>exact .none
      |false=>exact .ite (.val _)
     |_=>exact .none
   |_=>exact .none
  |_=>exact .none
theorem Sa (t:TypeId) (h:Heap) (d x:AV):Det (fun R (K:AV×Heap→Option R)=>Ll (R:=R) P t h d x fun v h'=>K (v,h')):=by
 unfold Ll
 try simp only [AD]
 refine .bind _ fun z =>.comp (G4 h z x) fun new => ?_;cases d with
 |sref i ver off len=>
  dsimp only;cases h[i]? with
  |none=>exact .none
  |some o=>
   cases o with
   |row f ver' sz es=>
    cases f with
    |true=>exact .none
    |false=>exact .ite (.val (_,_))
   |_=>exact .none
 |_=>exact .none
theorem SY (t:TypeId) (h:Heap) (n c:AV):Det (fun R (K:AV×Heap→Option R)=>Lh (R:=R) P t h n c fun v h'=>K (v,h')):=by
 unfold Lh
 try simp only [AD]
 refine .bind _ fun z => ?_;cases P.underlying t with
 |none=>exact .none
 |some ty=>
  cases ty with
  |slice e=>exact .bind _ fun a =>.bind _ fun b =>.comp (G3 h e) fun zs =>.ite (.val (_,_))
  |_=>exact .none
theorem LN (t:TypeId) (v:AV) (h:Heap):Det (fun R (K:AV×Heap→Option R)=>Je (R:=R) P t v h fun v=>K (v,h)):=by
 unfold Je
 try simp only [AD]
 cases v.cells with
 |none=>exact .none
 |some cs=>
  cases BO P t with
  |none=>exact .none
  |some n=>exact .ite (.comp (By _ _ _) fun xs =>.val (_,_))
theorem Nk (t:TypeId) (h:Heap):Det (fun R (K:AV×Heap→Option R)=>FU (R:=R) P t h fun v h'=>K (v,h')):=by
 unfold FU
 try simp only [AD]
 cases zeroCells? P t with
 |none=>exact .none
 |some z=>
  cases BO P t with
  |none=>exact .none
  |some n=>exact .ite (.comp (By _ _ _) fun xs =>.val (_,_))
theorem MC {P:Program} {t:TypeId} {h:Heap} (len:Nat) (parts:List (Nat×AV)):Det (fun R (K:AV×Heap→Option R)=>Ds (R:=R) P t h len parts fun v h'=>K (v,h')):=by
 unfold Ds
 try simp only [AD]
 cases P.underlying t with
 |none=>exact .none
 |some u=>cases u with
  |slice e=>exact .bind _ fun s =>.bind _ fun z =>.ite (.bind _ fun cs =>.val (_,_))
  |_=>exact .none
theorem UP (C:Cfg) (rec:Rec) (pc:A4) (env:Env) (op:Op) (hl:Ad C op=true):Det (fun R (K:AV×Heap→Option R)=>Aa (R:=R) C rec pc false env h op fun v h'=>K (v,h')):=by
 by_cases hh:Aq op=true
 case neg=>
  have hw:(∃g args argTypes,op = .call {callee :=.value (.func g),args,argTypes})∨(∃t len parts,op = .buildSlice t len parts)∨∃src dst x,op = .convert src dst x:=by unfold Ad at hl;split at hl<;>first|(exact absurd rfl hh)|(exact .inl ⟨_,_,_,rfl⟩)|(exact .inr (.inl ⟨_,_,_,rfl⟩))|(exact .inr (.inr ⟨_,_,_,rfl⟩))|cases hl
  rcases hw with ⟨g,args,argTypes,rfl⟩|⟨t,len,parts,rfl⟩|⟨src,dst,x,rfl⟩
  case inr.inr=>
   have hf:L3 C.P src dst=true:=hl;show Det (fun R (K:AV×Heap→Option R)=>Aa (R:=R) C rec pc false env h (.convert src dst x) fun v h'=>K (v,h'));simp only [Aa,Aq,false_eq_true,if_false,hf,if_true,Jg];exact .bind _ fun s =>.val (_,_)
  case inr.inl=>
   have hf:C.fnTy t=true:=hl;show Det (fun R (K:AV×Heap→Option R)=>Aa (R:=R) C rec pc false env h (.buildSlice t len parts) fun v h'=>K (v,h'));simp only [Aa,Aq,false_eq_true,if_false,hf,if_true];exact MC _ _
  have hown:C.own g=true:=hl;have hh':Aq (.call {callee :=.value (.func g),args,argTypes})=false:=by simpa using hh
  unfold Aa;simp only [hh',false_eq_true,if_false,ev,LV,AD];refine .ite ?_;unfold Ey;simp only [hown,if_true,false_eq_true,if_false,AD];refine .comp (G6 _ _) fun ls =>.comp (By _ _ _) fun xs => ?_;split
  ·rename_i j ho2;refine .ite (.bind _ fun ys =>.comp (Mp _ _) fun ys => ?_);split
   ·rename_i z es _;split
    ·exact .val (_,_)
    ·exact .none
   ·exact .none
  refine .bind _ fun ys => ?_;split
  ·refine .bind _ fun z =>.ite (.ite ?_);unfold NL;split
   ·split
    ·exact .val (_,_)
    ·exact .none
   ·exact .val (_,_)
  ·exact .none
 unfold Aa;simp only [hh,if_true,false_eq_true,if_false];cases op with
 |alloc t=>
  have hrn:C.ren t=none:=by simpa [Ad] using hl
  simp only [Bb,hrn];split
  ·exact (by simpa using LN (P:=C.P) _ _ _)
  ·rename_i t' himm;exact Nk _ _
  ·rename_i t' d himm;split at himm<;>cases himm
  ·rename_i t' a x himm;split at himm<;>cases himm
  ·simp only [hop];cases zeroCells? C.P t with
   |none=>exact .none
   |some z=>exact Is _ _ _
 |box t x=>
  simp only [Bb];split
  ·exact LN _ _ _
  ·rename_i t' himm;split at himm<;>cases himm
  ·rename_i t' d himm;split at himm<;>cases himm
  ·rename_i t' a x' himm;split at himm<;>cases himm
  ·simp only [hop];cases (ev env x).cells with
   |none=>exact .none
   |some cs=>exact Is _ _ _
 |store t a x=>
  simp only [Bb];split
  ·rename_i himm;split at himm<;>cases himm
  ·rename_i himm;split at himm<;>cases himm
  ·rename_i himm;split at himm<;>cases himm
  ·rename_i t' a' x' himm;exact .comp (LO _ _ _ _) fun h' =>.val (_,_)
  ·simp only [hop];exact .comp (LO _ _ _ _) fun h' =>.val (_,_)
 |call c=>
  obtain ⟨callee,args,argTypes⟩:=c;cases callee with
  |builtin b=>
   cases b<;>first|(simp [Ad] at hl;done)|skip
   ·simp only [Bb,hop,AD];split
    ·rename_i s x t t' _ _;refine .ite ?_;by_cases hsr:NH (ev env s) (ev env x)=true
     ·simp only [hsr,if_true];exact MD _ _ _ _
     ·simp only [hsr,false_eq_true,if_false];exact Ox _ _ _ _
    ·exact .none
   ·simp only [Bb,hop,AD];split
    ·exact .comp (Qg _ _ _) fun h' =>.val (_,_)
    ·exact .none
   ·simp only [Bb,hop,AD];split
    ·exact Sa _ _ _ _
    ·exact .none
  |_=>simp [Aq] at hh
 |makeSlice t n c=>simp only [Bb,hop];exact SY _ _ _ _
 |makeMap t r=>
  cases r with
  |none=>simp only [Bb,hop];exact Nj _ _
  |some r=>simp [Ad] at hl
 |mapUpdate t m x v=>simp only [Bb,hop];exact .comp (Ou _ _ _ _ _) fun h' =>.val (_,_)
 |_=>first|(simp [Ad] at hl;done)|(simp [Aq] at hh;done)
def HF (h h':Heap) (v:AV):Prop:=(∃d,F3 d v=true)∨∃i,BE v=some i∧h[i]? = h'[i]?
theorem HF.cells {h h':Heap} {v:AV} {cs:List AV} (hv:HF h h' v) (hc:v.cells=some cs):∀x∈cs,HF h h' x:=by
 rcases hv with ⟨d,hd⟩|⟨i,hi,he⟩
 ·cases d with
  |zero=>cases hd
  |succ d=>
   cases v<;>simp only [AV.cells,Option.some.injEq,reduceCtorEq] at hc<;>first|(cases hc;done)|skip
   all_goals first
    |(subst hc;intro x hx;simp at hx;subst hx;exact .inl ⟨d+1,hd⟩)
    |(subst hc;intro x hx;simp only [F3] at hd;exact .inl ⟨d,all_eq_true.1 hd x hx⟩)
 ·cases v<;>simp only [BE,reduceCtorEq] at hi<;>simp only [AV.cells,Option.some.injEq] at hc<;>(subst hc;intro x hx;simp at hx;subst hx;exact .inr ⟨i,by simpa [BE] using hi,he⟩)
theorem Sc {R:Type} {fz:Bool} {h h':Heap} {ty:TypeId} {v:AV} (hv:HF h h' v) (K:Tree→Option R):conv P fz h ty v K=conv P fz h' ty v K:=by
 cases v with
 |sref i ver off len=>
  rcases hv with ⟨d,hd⟩|⟨j,hj,he⟩
  ·cases d with
   |zero=>cases hd
   |succ d=>simp [F3] at hd
  ·simp only [BE,Option.some.injEq] at hj;subst hj;simp only [conv,he]
 |func fn f c=>cases f<;>cases c<;>rfl
 |_=>rfl
theorem Hz {R:Type} {fz:Bool} {h h':Heap}:∀(ts:List TypeId) (vs:List AV),(∀v∈vs,HF h h' v)→∀(K:List Tree→Option R),C5 P fz h ts vs K=C5 P fz h' ts vs K
 |[],[],_,K=>rfl
 |[],_::_,_,K=>rfl
 |_::_,[],_,K=>rfl
 |t::ts,v::vs,hv,K=>by simp only [C5];rw [Sc (h':=h') (hv v (by simp))];congr 1;funext x;exact Hz ts vs (fun u hu=>hv u (by simp [hu])) _
theorem Ht {R:Type} {h h':Heap}:∀(ts:List TypeId) (vs:List AV),(∀v∈vs,HF h h' v)→∀(K K':List AV→Option R),(∀ls,(∀v∈ls,HF h h' v)→K ls=K' ls)→C0 P ts vs K=C0 P ts vs K'
 |[],[],_,K,K',hk=>hk [] (by simp)
 |[],_::_,_,K,K',hk=>rfl
 |_::_,[],_,K,K',hk=>rfl
 |t::ts,v::vs,hv,K,K',hk=>by
  have hv1:=hv v (by simp);have hvs:∀u∈vs,HF h h' u:=fun u hu=>hv u (by simp [hu]);simp only [C0,AD];cases Av P t with
  |none=>rfl
  |some b=>
   cases b with
   |true=>
    cases v with
    |agg cs=>
     dsimp only;split
     ·refine Ht ts vs hvs _ _ fun ls hl=>hk _ fun u hu => ?_;rcases mem_append.1 hu with hu|hu
      ·exact hv1.cells (cs:=cs) rfl u hu
      ·exact hl u hu
     ·rfl
    |_=>rfl
   |false=>
    dsimp only;split
    ·refine Ht ts vs hvs _ _ fun ls hl=>hk _ fun u hu => ?_;rcases mem_cons.1 hu with rfl|hu
     ·exact hv1
     ·exact hl u hu
    ·rfl
theorem Mj {h h':Heap} {place:Nat→Option (Nat×Nat)}:∀(ps:List (Nat×AV)) (cs cs':List AV),(∀p∈ps,HF h h' p.2)→(∀v∈cs,HF h h' v)→BY place cs ps=some cs'→∀v∈cs',HF h h' v
 |[],cs,cs',_,hc,h=>by cases h;exact hc
 |(i,v)::ps,cs,cs',hp,hc,h=>by
  simp only [BY] at h;split at h
  ·rename_i off size vs hpl hvc;split at h
   ·refine Mj ps _ cs' (fun p hpp=>hp p (by simp [hpp])) (fun u hu => ?_) h;simp only [setAt,mem_append] at hu;rcases hu with hu|hu|hu
    ·exact hc u (mem_of_mem_take hu)
    ·exact (hp (i,v) (by simp)).cells hvc u hu
    ·exact hc u (mem_of_mem_drop hu)
   ·cases h
  ·cases h
theorem GV (d:Nat) (v:Value):F3 (d+2) (ES v)=true:=by unfold ES;split<;>rfl
theorem NQ (v:Value):F3 4 (ofConst v)=true:=by
 unfold ofConst;split
 ·simp only [F3];exact all_eq_true.2 fun x hx=>by obtain ⟨u,_,rfl⟩:=mem_map.1 hx;exact GV 1 u
 ·exact GV 2 _
theorem Rv {h h':Heap} {e:TypeId} {z:List AV} (hz:zeroCells? P e=some z):∀v∈z,HF h h' v:=by
 unfold zeroCells? at hz;split at hz
 ·exact HF.cells (.inl ⟨4,NQ _⟩) hz
 ·cases hz
theorem HF.obj {h h':Heap} {v:AV} (hv:HF h h' v) {i:Nat} (hi:BE v=some i):h[i]? = h'[i]? :=by
 rcases hv with ⟨d,hd⟩|⟨j,hj,he⟩
 ·cases d with
  |zero=>cases hd
  |succ d=>cases v<;>simp only [BE,reduceCtorEq] at hi<;>simp [F3] at hd
 ·rw [hi] at hj;cases hj;exact he
theorem Ku {R:Type} {h h':Heap} {env:Env} {op:Op} (hf:∀x∈op.operands,HF h h' (ev env x)) (K:AV→Option R):qop P env h op K=qop P env h' op K:=by
 cases op with
 |load t x=>
  have h1:=hf x (by simp [Op.operands]);simp only [qop,Hb];generalize ev env x=v at h1;cases v<;>first|rfl|(simp only [h1.obj rfl])
 |fieldAddr t x f=>
  have h1:=hf x (by simp [Op.operands]);simp only [qop,H5];generalize ev env x=v at h1;cases v<;>first|rfl|(simp only [h1.obj rfl])
 |indexAddr t x y=>
  have h1:=hf x (by simp [Op.operands]);simp only [qop,Jj];generalize ev env x=v at h1;cases v with
  |sref i ver off len=>simp only [h1.obj rfl]
  |rptr i ver k off=>simp only [h1.obj rfl]
  |t y=>cases y<;>rfl
  |_=>rfl
 |convert src dst x=>
  have h1:=hf x (by simp [Op.operands]);simp only [qop,Jk];generalize ev env x=v at h1;split
  ·split
   ·unfold elems;cases v with
    |sref i ver off len=>simp only [h1.obj rfl]
    |t y=>cases y<;>rfl
    |_=>rfl
   ·rfl
  ·rfl
 |slice t x lo hi mx=>
  have h1:=hf x (by simp [Op.operands]);simp only [qop,Jf];generalize ev env x=v at h1;generalize IX env hi=oh;generalize IX env mx=om;cases v with
  |sref i ver off len=>cases oh<;>simp only [h1.obj rfl]
  |t y=>cases y<;>cases oh<;>rfl
  |_=>cases oh<;>rfl
 |buildSlice t len ps=>
  simp only [qop,DK,AD];split
  ·rename_i e hu;congr 1;funext s;cases hzc:zeroCells? P e with
   |none=>rfl
   |some z=>
    simp only [Option.bind_some];split
    ·cases hfc:BY (fun i=>some (i*s,s)) (replicate len z).flatten (ps.toList.map fun p=>(p.1,ev env p.2)) with
     |none=>rfl
     |some cs=>
      simp only [Option.bind_some];refine Hz _ _ (Mj _ _ _ (fun p hp => ?_) (fun v hv => ?_) hfc) _
      ·obtain ⟨q,hq,rfl⟩:=mem_map.1 hp;exact hf q.2 (by simp [Op.operands];exact ⟨q.1,by simpa using hq⟩)
      ·obtain ⟨l,hl,hv⟩:=List.mem_flatten.1 hv;rw [(List.mem_replicate.1 hl).2] at hv;exact Rv hzc v hv
    ·rfl
  ·rfl
 |call c=>
  obtain ⟨callee,args,argTypes⟩:=c;cases callee with
  |builtin b=>
   cases b<;>first|rfl|skip
   simp only [qop];split
   ·rename_i x t hx _;have h1:=hf x (by
     have:x∈args.toList:=by rw [hx];simp
     simp [Op.operands,Call.operands];simpa using this)
    simp only [Su];generalize ev env x=v at h1;cases v with
    |sref i ver off len=>simp only [h1.obj rfl]
    |t y=>cases y<;>rfl
    |_=>rfl
   ·rfl
  |_=>rfl
 |lookup t m x ok=>
  have h1:=hf m (by simp [Op.operands]);simp only [qop];generalize ev env m=v at h1;cases v with
  |mref i=>simp only [Ji,h1.obj rfl]
  |_=>rfl
 |_=>rfl
theorem Qo {C:Cfg} {rec:Rec} {pc:A4} {h h':Heap} {env:Env} {op:Op} (hb:Fq op=true):F5 C rec pc h env op=F5 C rec pc h' env op:=by
 unfold F5 Aa;by_cases hh:Aq op=true
 ·simp [hh]
 ·have hh':Aq op=false:=by simpa using hh
  simp only [hh',false_eq_true,if_false];cases op<;>first|(simp [Fq] at hb;done)|rfl|skip
  rename_i c;obtain ⟨callee,args,argTypes⟩:=c;cases callee with
  |builtin b=>cases b<;>first|(simp [Fq] at hb;done)|rfl
  |_=>simp [Fq] at hb
theorem PE {h:Heap} {i:Nat} (hi:i<1024):At h i=h[i]? :=by unfold At;rw [if_pos hi]
theorem Tb {S:List Nat} {h h':Heap} (hag:∀i∈S,At h i=At h' i) {v:AV} (hv:NK S v=true):HF h h' v:=by
 unfold NK at hv;rw [or_eq_true] at hv;rcases hv with hv|hv
 ·exact .inl ⟨4,hv⟩
 ·cases ho:BE v with
  |none=>rw [ho] at hv;cases hv
  |some i=>
   rw [ho] at hv;simp only [and_eq_true,decide_eq_true_eq] at hv;have h1:=hag i (by simpa using hv.2);rw [PE hv.1,PE hv.1] at h1;exact .inr ⟨i,ho,h1⟩
theorem QA {g g':Nat→AV}:∀(n off:Nat),(∀j,j<n→g (off+j)=g' (off+j))→Az g off n=Az g' off n:=by intro n off hj;unfold Az;exact map_congr_left fun j hm=>hj j (mem_range.1 hm)
theorem SA {P:Program} {t:TypeId} {h h':Heap} {i off n:Nat} (hi:i<1024) (ho:off<4096) (hn:ldN P t=some n) (hag:At h (HV i off n)=At h' (HV i off n)) {R:Type} (K:AV→Option R) :
  Hb P t h (.ptr i off) K=Hb P t h' (.ptr i off) K:=by
 have e1:¬HV i off n<1024:=by unfold HV;omega
 have e2:HV i off n % 1024=i:=by unfold HV;omega
 have e3:HV i off n / 1024-1=off+4096*n:=by unfold HV;omega
 have e4:(off+4096*n) % 4096=off:=by omega
 have e5:(off+4096*n) / 4096=n:=by omega
 unfold At at hag;rw [if_neg e1,if_neg e1,e2,e3,e4,e5] at hag;unfold Hb;dsimp only;cases h1:h[i]? with
 |none=>
  rw [h1] at hag;cases h2:h'[i]? with
  |none=>rfl
  |some o=>rw [h2] at hag;cases hag
 |some o=>
  rw [h1] at hag;cases h2:h'[i]? with
  |none=>rw [h2] at hag;cases hag
  |some o'=>
   rw [h2] at hag;simp only [map_some,Option.some.injEq] at hag;cases o with
   |box cs=>
    cases o' with
    |box cs'=>
     simp only [IA,AQ.box.injEq,List.cons.injEq,AV.yld.injEq] at hag;obtain ⟨hl,hm⟩:=hag;have hcell:∀j,j<n→cs.getD (off+j) .undef=cs'.getD (off+j) .undef:=fun j hj=>by have:=congrArg (fun l:List AV=>l[j]?) hm;simpa [getElem?_map,getElem?_range hj] using this
     unfold ldN at hn;unfold rd;dsimp only;rw [hl];cases ha:Av P t with
     |none=>rfl
     |some b=>
      rw [ha] at hn;cases b with
      |true=>
       have hn:BO P t=some n:=hn;rw [hn];dsimp only;rw [QA (g:=fun c=>cs.getD c .undef) (g':=fun c=>cs'.getD c .undef) n off hcell]
      |false=>
       have hn:some 1=some n:=hn;cases hn;have:=hcell 0 (by omega);simp only [add_zero] at this;simp only [this]
    |row a b c d=>simp [IA] at hag
    |loop l=>simp [IA] at hag
    |mapo a b c=>simp [IA] at hag
   |row a b c d=>
    cases o' with
    |box cs'=>simp [IA] at hag
    |_=>rfl
   |loop l=>
    cases o' with
    |box cs'=>simp [IA] at hag
    |_=>rfl
   |mapo a b c=>
    cases o' with
    |box cs'=>simp [IA] at hag
    |_=>rfl
theorem SB {C:Cfg} {rec:Rec} {pc:A4} {h h':Heap} {env:Env} {op:Op} {S:List Nat} (hag:∀i∈S,At h i=At h' i) (hf:partAt C.P S env op=true):F5 C rec pc h env op=F5 C rec pc h' env op:=by
 unfold partAt at hf;split at hf
 ·rename_i t a;split at hf
  ·rename_i i off n he hn;simp only [and_eq_true,decide_eq_true_eq] at hf;unfold F5 Aa;simp only [Aq,false_eq_true,if_false,qop];rw [he];exact SA hf.1.1 hf.1.2 hn (hag _ (by simpa using hf.2)) _
  ·cases hf
 ·rename_i t x f;split at hf
  ·rename_i i off he;unfold F5 Aa;simp only [Aq,false_eq_true,if_false,qop,H5];rw [he]
  ·cases hf
 ·cases hf
theorem R8 {C:Cfg} {rec:Rec} {pc:A4} {h h':Heap} {env:Env} {op:Op} {S:List Nat} (hag:∀i∈S,At h i=At h' i) (hf:Fh C.P S env op=true):F5 C rec pc h env op=F5 C rec pc h' env op:=by
 unfold Fh at hf;rw [or_eq_true,or_eq_true] at hf;rcases hf with hf|hf|hf
 ·exact Qo hf
 ·exact SB hag hf
 have hf':∀x∈op.operands,HF h h' (ev env x):=fun x hx=>Tb hag (all_eq_true.1 hf x (by simpa using hx));unfold F5 Aa;by_cases hh:Aq op=true
 ·simp [hh]
 ·have hh':Aq op=false:=by simpa using hh
  simp only [hh',false_eq_true,if_false];split
  ·rename_i f args argTypes;have hcall:∀(g:FuncId) (avs:List AV),(∀v∈avs,HF h h' v)→Ey C rec pc true g avs h (fun v _=>some v)=Ey C rec pc true g avs h' (fun v _=>some v):=by
    intro g avs hav;unfold Ey;by_cases ho:C.own g=true
    ·simp [ho]
    have ho':C.own g=false:=by simpa using ho
    by_cases hg:C.heapful g=true
    ·simp [ho',hg]
    ·have hg':C.heapful g=false:=by simpa using hg
     simp only [ho',hg',false_eq_true,if_false,Bool.true_or,if_true];refine Ht _ _ hav _ _ fun ls hl => ?_;rw [Hz (h':=h') _ _ hl]
   have hargs:∀v∈args.toList.map (ev env),HF h h' v:=fun v hv=>by obtain ⟨x,hx,rfl⟩:=mem_map.1 hv;exact hf' x (by simp [Op.operands,Call.operands];right;simpa using hx)
   have hfun:HF h h' (ev env f):=hf' f (by simp [Op.operands,Call.operands]);unfold LV
   try simp only [AD]
   split
   ·rename_i g first captured he
    rw [he] at hfun;rcases hfun with ⟨d,hd⟩|⟨i,hi,_⟩
    ·cases d with
     |zero=>cases hd
     |succ d=>
      simp only [F3,and_eq_true] at hd;rw [hcall g _ (fun v hv=>by
       simp only [mem_append] at hv;rcases hv with (hv|hv)|hv
       ·exact .inl ⟨d,all_eq_true.1 hd.1 v hv⟩
       ·exact hargs v hv
       ·exact .inl ⟨d,all_eq_true.1 hd.2 v hv⟩)]
    ·cases hi
   ·rw [hcall _ _ hargs]
   ·rfl
   ·rfl
  ·split
   ·rfl
   ·exact Ku hf' _
  ·split
   ·rfl
   ·exact Ku hf' _
  ·exact Ku hf' _
end Ab
namespace Ab
open Go
def JF (ops:Array Oper) (S:List Nat) (i:Nat):Prop:=∀o,ops[i]? = some o→∀e∈o.after.toList,Region.binds .any e=true→e.on∈S
def Rj (ops:Array Oper) (S:List Nat) (i:Nat):Prop:=i<ops.size∧i∉S∧JF ops S i
inductive Lp (ops:Array Oper):List Nat→List Nat→Prop
 |nil (S:List Nat):(∀i,¬Rj ops S i)→Lp ops S []
 |cons (S:List Nat) (i:Nat) (l:List Nat):Rj ops S i→Lp ops (i::S) l→Lp ops S (i::l)
def N1 (ops:Array Oper) (listed:Array Bool) (S:List Nat):Prop:=listed.size=ops.size∧∀i,i<ops.size→(listed.getD i true=true↔i∈S)
theorem MN {ops:Array Oper} {listed:Array Bool} {S:List Nat} (hl:N1 ops listed S) (hS:∀i∈S,i<ops.size) (i:Nat):i∈Region.ready .any ops listed↔Rj ops S i:=by
 unfold Region.ready Rj JF;simp only [mem_filter,mem_range,and_eq_true,not_eq_true'];constructor
 ·rintro ⟨hi,hn,he⟩
  refine ⟨hi,fun hm => ?_,fun o ho e hem hb => ?_⟩
  ·have:=(hl.2 i hi).2 hm;rw [this] at hn;cases hn
  ·rw [ho] at he;simp only [map_some,Option.getD_some] at he;have h1:=(Array.all_eq_true_iff_forall_mem.1 he) e (by simpa using hem);rw [hb] at h1;simp only [Bool.not_true,Bool.false_or] at h1;have hlt:e.on<ops.size:=by
    rcases lt_or_ge e.on ops.size with h|h
    ·exact h
    ·have:listed.getD e.on false=false:=by
      have h2:¬e.on<listed.size:=by rw [hl.1];omega
      simp only [Array.getD,h2,dif_neg,not_false_eq_true]
     rw [this] at h1;cases h1
   refine (hl.2 e.on hlt).1 ?_;have h2:e.on<listed.size:=by rw [hl.1];exact hlt
   simp only [Array.getD,h2,dif_pos] at h1 ⊢;exact h1
 ·rintro ⟨hi,hn,he⟩
  refine ⟨hi,?_,?_⟩
  ·cases hg:listed.getD i true with
   |false=>rfl
   |true=>exact (hn ((hl.2 i hi).1 hg)).elim
  ·have ho:ops[i]? = some ops[i]:=Array.getElem?_eq_getElem hi;rw [ho];simp only [map_some,Option.getD_some];refine Array.all_eq_true_iff_forall_mem.2 fun e hem => ?_;cases hb:Region.binds .any e with
   |false=>rfl
   |true=>
    have h1:=he _ ho e (by simpa using hem) hb;have hlt:=hS _ h1;have h2:=(hl.2 e.on hlt).2 h1;have h3:e.on<listed.size:=by rw [hl.1];exact hlt
    simp only [Array.getD,h3,dif_pos] at h2 ⊢;simpa using h2
theorem QJ {ops:Array Oper} {listed:Array Bool} {S:List Nat} (hl:N1 ops listed S) {i:Nat} (hi:i<ops.size):N1 ops (listed.setIfInBounds i true) (i::S):=by
 refine ⟨by simpa using hl.1,fun j hj => ?_⟩;have h1:j<listed.size:=by rw [hl.1];exact hj
 have:=hl.2 j hj;simp only [Array.getD,h1,dif_pos] at this;by_cases hij:j=i
 ·subst hij;simp [Array.getD,h1]
 ·simp only [Array.getD,Array.size_setIfInBounds,h1,dif_pos,mem_cons,hij,false_or];rw [← this];have e:(listed.setIfInBounds i true)[j]'(by simpa using h1)=listed[j]:=Array.getElem_setIfInBounds_ne (by simpa using h1) (Ne.symm hij);show (listed.setIfInBounds i true)[j]'(by simpa using h1)=true↔listed[j]=true;rw [e]
theorem JT:∀(n:Nat) (l:List Nat),l.Nodup→(∀x∈l,x<n)→l.length≤n
 |0,l,hn,hl=>by
  cases l with
  |nil=>simp
  |cons x xs=>exact absurd (hl x (by simp)) (by omega)
 |n+1,l,hn,hl=>by
  by_cases hm:n∈l
  ·have h1:=JT n (l.erase n) (hn.erase n) fun x hx=>by have h2:=(List.Nodup.mem_erase_iff hn).1 hx;have h3:=hl x h2.2;have h4:=h2.1;omega
   rw [List.length_erase_of_mem hm] at h1;omega
  ·have:=JT n l hn fun x hx=>by have h3:=hl x hx;have h4:x≠n:=fun e=>hm (e ▸ hx);omega
   omega
theorem NA {n:Nat} {S:List Nat} (hn:S.Nodup) (hS:∀i∈S,i<n) {i:Nat} (hi:i<n) (hni:i∉S):S.length<n:=by
 have:=JT n (i::S) (nodup_cons.2 ⟨hni,hn⟩) fun x hx=>by
  rcases mem_cons.1 hx with rfl|hx
  ·exact hi
  ·exact hS x hx
 simp only [length_cons] at this;omega
theorem Ok (ops:Array Oper):∀(fuel t:Nat) (listed:Array Bool) (S:List Nat),N1 ops listed S→S.Nodup→(∀i∈S,i<ops.size)→ops.size≤fuel+S.length→Lp ops S (Region.linearise.go .any ops fuel t listed [])
 |0,t,listed,S,hl,hn,hS,hf=>by refine .nil S fun i hr => ?_;have:=NA hn hS hr.1 hr.2.1;omega
 |fuel+1,t,listed,S,hl,hn,hS,hf=>by
  simp only [Region.linearise.go];change Lp ops S (match (Region.ready .any ops listed)[t % (Region.ready .any ops listed).length]? with
   |some i=>Region.linearise.go .any ops fuel (t / (Region.ready .any ops listed).length) (listed.setIfInBounds i true) [i]
   |none=>[].reverse)
  cases hi:(Region.ready .any ops listed)[t % (Region.ready .any ops listed).length]? with
  |none=>
   have hnil:Region.ready .any ops listed=[]:=by
    cases hr:Region.ready .any ops listed with
    |nil=>rfl
    |cons x xs=>
     rw [hr] at hi;have hlt:t % (x::xs).length<(x::xs).length:=mod_lt _ (by simp);rw [getElem?_eq_getElem hlt] at hi;cases hi
   refine .nil S fun i hr => ?_;have:=(MN hl hS i).2 hr;rw [hnil] at this;cases this
  |some i=>
   simp only [];rw [linearise_go_acc,List.reverse_singleton,singleton_append];have hr:=(MN hl hS i).1 (mem_of_getElem? hi);refine .cons S i _ hr (Ok ops fuel _ _ (i::S) (QJ hl hr.1) (nodup_cons.2 ⟨hr.2.1,hn⟩) (fun j hj => ?_) (by simp;omega));rcases mem_cons.1 hj with rfl|hj
   ·exact hr.1
   ·exact hS j hj
theorem EC (ops:Array Oper) (t:Nat):Lp ops [] (Region.linearise .any ops t):=by refine Ok ops ops.size t _ [] ⟨by simp,fun i hi => ?_⟩ nodup_nil (fun i hi=>by cases hi) (by simp);simp [Array.getD,hi]
def Q7 (ops:Array Oper) (S:List Nat):Prop:=∀i∈S,JF ops S i
theorem MY {acc:List Nat} {i:Nat}:∀(es:List Edge) (s:Nat),(es.foldl (fun s e=>if Region.binds .any e then s ||| (2 ^ e.on ||| acc.getD e.on 0) else s) s).testBit i=true→
  s.testBit i=true∨∃e∈es,Region.binds .any e=true∧(e.on=i∨(acc.getD e.on 0).testBit i=true)
 |[],s,h =>.inl h
 |e::es,s,h=>by
  simp only [foldl_cons] at h;rcases MY es _ h with h1|⟨e',h1,h2⟩
  ·by_cases hb:Region.binds .any e=true
   ·rw [if_pos hb] at h1;simp only [Nat.testBit_or,or_eq_true] at h1;rcases h1 with h1|h1|h1
    ·exact .inl h1
    ·refine .inr ⟨e,by simp,hb,.inl ?_⟩;rw [Nat.testBit_two_pow] at h1;simpa using h1
    ·exact .inr ⟨e,by simp,hb,.inr h1⟩
   ·rw [if_neg hb] at h1;exact .inl h1
  ·exact .inr ⟨e',by simp [h1],h2⟩
theorem Cy:∀(os:List Oper) (acc:List Nat) (j:Nat),(j<acc.length→(Dk os acc)[j]? = acc[j]?)∧∀o,os[j]? = some o→(Dk os acc)[acc.length+j]? = some (Fe ((Dk os acc).take (acc.length+j)) o)
 |[],acc,j=>⟨fun _=>rfl,fun o ho=>by simp at ho⟩
 |o'::os,acc,j=>by
  simp only [Dk];obtain ⟨h1,_⟩:=Cy os (acc++[Fe acc o']) j;refine ⟨fun hj => ?_,fun o ho => ?_⟩
  ·rw [h1 (by simp;omega),getElem?_append_left hj]
  ·cases j with
   |zero=>
    simp only [getElem?_cons_zero,Option.some.injEq] at ho;subst ho;have h0:=(Cy os (acc++[Fe acc o']) acc.length).1 (by simp);have ht:(Dk os (acc++[Fe acc o'])).take acc.length=acc:=by
     apply ext_getElem?;intro i;rcases lt_or_ge i acc.length with hi|hi
     ·rw [getElem?_take_of_lt hi,(Cy os (acc++[Fe acc o']) i).1 (by simp;omega),getElem?_append_left hi]
     ·rw [getElem?_eq_none (by simp;omega),getElem?_eq_none hi]
    rw [add_zero,ht,h0];simp
   |succ j=>
    have h2:=(Cy os (acc++[Fe acc o']) j).2 o (by simpa using ho);have e:(acc++[Fe acc o']).length+j=acc.length+(j+1):=by simp;omega
    rw [e] at h2;exact h2
theorem SK (ops:Array Oper) {j:Nat} {o:Oper} (ho:ops[j]? = some o):(AN ops)[j]? = some (Fe ((AN ops).take j) o):=by have:=(Cy ops.toList [] j).2 o (by simpa using ho);simpa [AN] using this
theorem O0 {ops:Array Oper} {S:List Nat} (hc:Q7 ops S):∀(k:Nat) (j:Nat),j≤k→(j∈S∨JF ops S j)→j<ops.size→∀i,((AN ops).getD j 0).testBit i=true→i∈S:=by
 intro k
 induction k using Nat.strongRecOn with
 |_ k ih=>
  intro j hjk hj hjs i hi;have ho:ops[j]? = some ops[j]:=Array.getElem?_eq_getElem hjs;have he:JF ops S j:=hj.elim (hc j) id;have hm:=SK ops ho;simp only [List.getD,hm,Option.getD_some] at hi;rcases MY _ _ hi with h0|⟨e,hem,hb,h1⟩
  ·simp at h0
  ·have hin:=he _ ho e hem hb;rcases h1 with rfl|h1
   ·exact hin
   ·have hlt:e.on<j:=by
     rcases lt_or_ge e.on j with h|h
     ·exact h
     ·simp [List.getD,getElem?_take,not_lt.2 h] at h1
    have h2:((AN ops).getD e.on 0).testBit i=true:=by simp only [List.getD] at h1 ⊢;rw [getElem?_take_of_lt hlt] at h1;exact h1
    exact ih e.on (by omega) e.on (le_refl _) (.inl hin) (by omega) i h2
theorem GC {ops:Array Oper} (hed:Fk ops=true):∀{S l:List Nat},Lp ops S l→Q7 ops S→
  l.Nodup∧(∀x∈l,x∉S∧x<ops.size)∧(∀i,i<ops.size→i∈S∨i∈l)∧∀l1 x l2,l=l1++x::l2→∀y,((AN ops).getD x 0).testBit y=true→y∈S∨y∈l1:=by
 intro S l hs
 induction hs with
 |nil S hno=>
  intro hc;refine ⟨nodup_nil,(fun x hx=>by cases hx),fun i hi => ?_,(fun l1 x l2 e=>by simp at e)⟩;have key:∀k i,i≤k→i<ops.size→i∈S:=by
   intro k
   induction k using Nat.strongRecOn with
   |_ k ih=>
    intro i hik his;by_cases hm:i∈S
    ·exact hm
    ·refine (hno i ⟨his,hm,fun o ho e hem hb => ?_⟩).elim;unfold Fk at hed;have h1:=(all_eq_true.1 hed) i (mem_range.2 his);rw [ho] at h1;have h2:=(all_eq_true.1 h1) e hem;rw [hb] at h2;have h3:e.on<i:=by simpa using h2
     exact ih e.on (by omega) e.on (le_refl _) (by omega)
  exact .inl (key i i (le_refl _) hi)
 |cons S i l hr hs ih=>
  intro hc;have hc':Q7 ops (i::S):=fun j hj o ho e hem hb=>by
   rcases mem_cons.1 hj with rfl|hj
   ·exact mem_cons_of_mem _ (hr.2.2 o ho e hem hb)
   ·exact mem_cons_of_mem _ (hc j hj o ho e hem hb)
  obtain ⟨h1,h2,h3,h4⟩:=ih hc';refine ⟨nodup_cons.2 ⟨fun hm=>(h2 i hm).1 (by simp),h1⟩,fun x hx => ?_,fun j hj => ?_,fun l1 x l2 e y hy => ?_⟩
  ·rcases mem_cons.1 hx with rfl|hx
   ·exact ⟨hr.2.1,hr.1⟩
   ·exact ⟨fun hm=>(h2 x hx).1 (mem_cons_of_mem _ hm),(h2 x hx).2⟩
  ·rcases h3 j hj with h|h
   ·rcases mem_cons.1 h with rfl|h
    ·exact .inr (by simp)
    ·exact .inl h
   ·exact .inr (mem_cons_of_mem _ h)
  ·cases l1 with
   |nil=>
    simp only [nil_append,List.cons.injEq] at e;obtain ⟨rfl,rfl⟩:=e;exact .inl (O0 hc i i (le_refl _) (.inr hr.2.2) hr.1 y hy)
   |cons z l1=>
    simp only [cons_append,List.cons.injEq] at e;obtain ⟨rfl,rfl⟩:=e;rcases h4 l1 x l2 rfl y hy with h|h
    ·rcases mem_cons.1 h with rfl|h
     ·exact .inr (by simp)
     ·exact .inl h
    ·exact .inr (mem_cons_of_mem _ h)
theorem Eu {n:Nat}:∀(k:Nat) (l:List Nat),l.Nodup→(∀i,i∈l↔i<n+k)→(∀l1 x l2,l=l1++x::l2→n≤x→∀y,y<x→y∈l1)→∃lp,l=lp++List.range' n k∧lp.Nodup∧∀i,i∈lp↔i<n
 |0,l,hn,hm,hf=>⟨l,by simp,hn,by simpa using hm⟩
 |k+1,l,hn,hm,hf=>by
  have hlast:n+k∈l:=(hm _).2 (by omega);obtain ⟨l1,l2,e⟩:=append_of_mem hlast;have hall:=hf l1 (n+k) l2 e (by omega);have hnil:l2=[]:=by
   cases l2 with
   |nil=>rfl
   |cons z l2=>
    have hz:z∈l:=by rw [e];simp
    have hzl:=(hm z).1 hz;rw [e] at hn;rw [nodup_append] at hn;obtain ⟨_,hn2,hn3⟩:=hn;by_cases hzk:z=n+k
    ·subst hzk;simp at hn2
    ·exact (hn3 z (hall z (by omega)) z (by simp) rfl).elim
  subst hnil;have hn':=hn;rw [e,nodup_append] at hn';obtain ⟨lp,h1,h2,h3⟩:=Eu (n:=n) k l1 hn'.1 (fun i=>by
   constructor
   ·intro hi;have h4:=(hm i).1 (by rw [e];simp [hi]);have h5:i≠n+k:=fun h=>hn'.2.2 i hi (n+k) (by simp) h;omega
   ·intro hi;exact hall i (by omega)) (fun a x b e2 hx y hy=>by exact hf a x (b++[n+k]) (by rw [e,e2];simp) hx y hy)
  refine ⟨lp,?_,h2,h3⟩;rw [e,h1,List.range'_concat,append_assoc];simp
theorem MX {σ:Type} (f:Nat→σ→Option σ) (x:Nat):∀(l:List Nat),(∀y∈l,∀s,(f x s).bind (f y)=(f y s).bind (f x))→∀s,(f x s).bind (fun s'=>l.foldlM (fun s i=>f i s) s')=(l.foldlM (fun s i=>f i s) s).bind (f x)
 |[],_,s=>by simp
 |y::l,hc,s=>by
  have ih:=MX f x l fun z hz=>hc z (by simp [hz]);simp only [foldlM_cons];have h1:=hc y (by simp) s;cases hy:f y s with
  |none=>
   rw [hy] at h1;cases hx:f x s with
   |none=>rfl
   |some s1=>rw [hx] at h1;simp only [Option.bind_some,Option.bind_none] at h1;simp [h1]
  |some s2=>
   rw [hy] at h1;simp only [Option.bind_some] at h1;have h2:=ih s2;rw [← h1] at h2;show (f x s).bind (fun s'=>(f y s').bind fun s''=>l.foldlM (fun s i=>f i s) s'')=((some s2).bind fun s''=>l.foldlM (fun s i=>f i s) s'').bind (f x);rw [← bind_assoc,h2];rfl
theorem FJ {σ:Type} (f:Nat→σ→Option σ):∀(n:Nat) (l:List Nat),l.Nodup→(∀i,i∈l↔i<n)→(∀l1 x l2 y,l=l1++x::l2→y∈l2→y<x→∀s,(f x s).bind (f y)=(f y s).bind (f x))→
  ∀s,l.foldlM (fun s i=>f i s) s=(List.range n).foldlM (fun s i=>f i s) s
 |0,l,hn,hm,hc,s=>by
  cases l with
  |nil=>rfl
  |cons x xs=>exact absurd ((hm x).1 (by simp)) (by omega)
 |n+1,l,hn,hm,hc,s=>by
  have hlast:n∈l:=(hm _).2 (by omega);obtain ⟨l1,l2,e⟩:=append_of_mem hlast;have hn':=hn;rw [e,nodup_append,nodup_cons] at hn';obtain ⟨n1,⟨n2,n3⟩,n4⟩:=hn';have hm2:∀i,i∈l1++l2↔i<n:=fun i=>by
   constructor
   ·intro hi;have h5:=(hm i).1 (by rw [e];simp only [mem_append,mem_cons];rcases mem_append.1 hi with h|h;exact .inl h;exact .inr (.inr h));have h6:i≠n:=fun h=>by
     subst h;rcases mem_append.1 hi with h|h
     ·exact n4 i h i (by simp) rfl
     ·exact n2 h
    omega
   ·intro hi;have h5:=(hm i).2 (by omega);rw [e] at h5;simp only [mem_append,mem_cons] at h5 ⊢;rcases h5 with h5|h5|h5
    ·exact .inl h5
    ·omega
    ·exact .inr h5
  have ih:=FJ f n (l1++l2) (nodup_append.2 ⟨n1,n3,fun a ha b hb=>n4 a ha b (by simp [hb])⟩) hm2 (fun a x b y e2 hy hlt=>by
   rcases List.append_eq_append_iff.1 e2 with ⟨a',h1,h2⟩|⟨c',h1,h2⟩
   ·
    exact hc (l1++n::a') x b y (by rw [e,h2];simp) hy hlt
   ·cases c' with
    |nil=>
     simp only [append_nil] at h1;simp only [nil_append] at h2;exact hc (l1++[n]) x b y (by rw [e,← h2];simp) hy hlt
    |cons z c'=>
     simp only [cons_append,List.cons.injEq] at h2;obtain ⟨rfl,h2⟩:=h2;exact hc a x (c'++n::l2) y (by rw [e,h1];simp) (by rw [h2] at hy;simp only [mem_append,mem_cons] at hy ⊢;rcases hy with h|h;exact .inl h;exact .inr (.inr h)) hlt) s
  have hmv:=fun s=>MX f n l2 (fun y hy s=>hc l1 n l2 y e hy (by have h5:=(hm y).1 (by rw [e];simp [hy]);have h6:y≠n:=fun h=>n2 (h ▸ hy);omega) s) s
  rw [e,List.range_succ,foldlM_append,foldlM_append,← ih,foldlM_append];show (l1.foldlM (fun s i=>f i s) s).bind _=((l1.foldlM (fun s i=>f i s) s).bind _).bind _;cases l1.foldlM (fun s i=>f i s) s with
  |none=>rfl
  |some s1=>
   simp only [Option.bind_some,foldlM_cons];have:=hmv s1;show (f n s1).bind (fun s'=>l2.foldlM (fun s i=>f i s) s')=(l2.foldlM (fun s i=>f i s) s1).bind (fun s'=>(f n s').bind fun s''=>List.foldlM (fun s i=>f i s) s'' []);rw [this];congr 1;funext s';cases f n s'<;>rfl
end Ab
namespace Ab
open Go
variable {R:Type} {P:Program} {h:Heap}
def Bs (T:List Nat) (h h':Heap):Prop:=h.length≤h'.length∧∀i,i<h.length→i∉T→h'[i]? = h[i]?
theorem Bs.refl (T:List Nat) (h:Heap):Bs T h h:=⟨le_refl _,fun _ _ _=>rfl⟩
theorem Bs.trans {T:List Nat} {a b c:Heap} (x:Bs T a b) (y:Bs T b c):Bs T a c:=
 ⟨le_trans x.1 y.1,fun i hi hn=>(y.2 i (lt_of_lt_of_le hi x.1) hn).trans (x.2 i hi hn)⟩
theorem Bs.push (T:List Nat) (h:Heap) (o:AQ):Bs T h (h++[o]):=
 ⟨by simp,fun i hi _=>getElem?_append_left hi⟩
theorem Bs.set {T:List Nat} (h:Heap) {i:Nat} (hi:i∈T) (o:AQ):Bs T h (h.set i o):=
 ⟨by simp,fun j _ hn=>by rw [getElem?_set_ne];intro e;exact hn (e ▸ hi)⟩
theorem Bs.mono {T T':List Nat} (hT:∀i∈T,i∈T') {a b:Heap} (x:Bs T a b):Bs T' a b:=
 ⟨x.1,fun i hi hn=>x.2 i hi fun hm=>hn (hT i hm)⟩
theorem EM (T:List Nat):∀(vs:List AV) (ts:List TypeId) (h:Heap) {K:List AV→Heap→Option R} {r:R},Cd P ts vs h K=some r→∃vs' h',K vs' h'=some r∧Bs T h h'
 |[],ts,h,K,r,hr=>⟨[],h,by simpa [Cd] using hr,.refl _ _⟩
 |v::vs,ts,h,K,r,hr=>by
  cases v with
  |nilsl=>
   simp only [Cd] at hr;obtain ⟨vs',h',h1,h2⟩:=EM T vs _ _ hr;exact ⟨_,h',h1,(Bs.push T h _).trans h2⟩
  |_=>
   simp only [Cd] at hr;obtain ⟨vs',h',h1,h2⟩:=EM T vs _ _ hr;exact ⟨_,h',h1,h2⟩
theorem Gl (T:List Nat) {t:TypeId} {cs:List AV} {K:AV→Heap→Option R} {r:R} (hr:Db P t cs h K=some r):∃v h',K v h'=some r∧Bs T h h':=by unfold Db at hr;obtain ⟨vs',h',h1,h2⟩:=EM T _ _ _ hr;exact ⟨_,_,h1,h2.trans (.push T _ _)⟩
theorem C4 {α:Type} {f:∀R:Type,(α→Option R)→Option R} (hd:Det f) {R:Type} {K:α→Option R} {r:R} (hr:f R K=some r):∃v,K v=some r:=by
 rcases hd with ⟨v,hv⟩|hn
 ·exact ⟨v,(hv R K).symm.trans hr⟩
 ·rw [hn] at hr;cases hr
theorem Iw {t:TypeId} {a v:AV} {K:Heap→Option R} {r:R} (hr:Ej P t h a v K=some r):∃h',K h'=some r∧Bs (BE a).toList h h':=by
 unfold Ej at hr
 try simp only [AD] at hr
 split at hr
 ·obtain ⟨_,hr⟩:=AE hr;split at hr
  ·split at hr
   ·obtain ⟨_,hr⟩:=AE hr;obtain ⟨vs1,hr⟩:=C4 (Hw (h:=h) _ _) hr;obtain ⟨vs',h',h1,h2⟩:=EM _ _ _ _ hr;exact ⟨_,h1,h2.trans (.set _ (by simp [BE]) _)⟩
   ·cases hr
  ·split at hr
   ·obtain ⟨_,hr⟩:=AE hr;obtain ⟨e,_,hr⟩:=bind_some hr;obtain ⟨xs,hK⟩:=C4 (By (P:=P) (h:=h) _ _ _) hr;exact ⟨_,hK,.set _ (by simp [BE]) _⟩
   ·cases hr
  ·cases hr
 ·cases hr
theorem ME {t:TypeId} {s x:AV} {K:AV→Heap→Option R} {r:R} (hr:Dd P t h s x K=some r):∃v h',K v h'=some r∧Bs (BE s).toList h h':=by
 unfold Dd at hr
 try simp only [AD] at hr
 obtain ⟨z,_,hr⟩:=bind_some hr;obtain ⟨new,hr⟩:=C4 (G4 h z x) hr;split at hr
 ·obtain ⟨_,hr⟩:=AE hr;exact ⟨_,_,hr,.push _ _ _⟩
 ·split at hr
  ·split at hr
   ·obtain ⟨_,hr⟩:=AE hr;exact ⟨_,_,hr,.refl _ _⟩
   ·obtain ⟨_,hr⟩:=AE hr;exact ⟨_,_,hr,.set _ (by simp [BE]) _⟩
  ·cases hr
 ·cases hr
theorem KC {t:TypeId} {s x:AV} {K:AV→Heap→Option R} {r:R} (hr:Dt P t h s x K=some r):∃v h',K v h'=some r∧Bs (BE s).toList h h':=by
 unfold Dt at hr
 try simp only [AD] at hr
 obtain ⟨z,_,hr⟩:=bind_some hr;obtain ⟨new,hr⟩:=C4 (G7 h z x) hr;split at hr
 ·split at hr
  ·obtain ⟨_,hr⟩:=AE hr;exact ⟨_,_,hr,.set _ (by simp [BE]) _⟩
  ·cases hr
 ·cases hr
theorem PQ {t:TypeId} {d x:AV} {K:AV→Heap→Option R} {r:R} (hr:Ll P t h d x K=some r):∃v h',K v h'=some r∧Bs (BE d).toList h h':=by
 unfold Ll at hr
 try simp only [AD] at hr
 obtain ⟨z,_,hr⟩:=bind_some hr;obtain ⟨new,hr⟩:=C4 (G4 h z x) hr;split at hr
 ·split at hr
  ·obtain ⟨_,hr⟩:=AE hr;exact ⟨_,_,hr,.set _ (by simp [BE]) _⟩
  ·cases hr
 ·cases hr
theorem Nv {t:TypeId} {x:AV} {K:Heap→Option R} {r:R} (hr:H6 P t h x K=some r):∃h',K h'=some r∧Bs (BE x).toList h h':=by
 unfold H6 at hr
 try simp only [AD] at hr
 split at hr
 ·split at hr
  ·obtain ⟨_,hr⟩:=AE hr;exact ⟨_,hr,.refl _ _⟩
  ·exact ⟨_,hr,.refl _ _⟩
  ·obtain ⟨zs,hr⟩:=C4 (G3 (P:=P) h _) hr;split at hr
   ·obtain ⟨_,hr⟩:=AE hr;exact ⟨_,hr,.set _ (by simp [BE]) _⟩
   ·cases hr
  ·cases hr
 ·cases hr
theorem PH (T:List Nat) {t:TypeId} {n c:AV} {K:AV→Heap→Option R} {r:R} (hr:Lh P t h n c K=some r):∃v h',K v h'=some r∧Bs T h h':=by
 unfold Lh at hr
 try simp only [AD] at hr
 obtain ⟨z,_,hr⟩:=bind_some hr;split at hr
 ·obtain ⟨a,_,hr⟩:=bind_some hr;obtain ⟨b,_,hr⟩:=bind_some hr;obtain ⟨zs,hr⟩:=C4 (G3 (P:=P) h _) hr;obtain ⟨_,hr⟩:=AE hr;exact ⟨_,_,hr,.push _ _ _⟩
 ·cases hr
theorem HW (h:Heap) (v:AV):Bs (BE v).toList h (DV h v):=by
 unfold DV;split
 ·split
  ·exact .set _ (by simp [BE]) _
  ·exact .refl _ _
 ·exact .refl _ _
theorem EF:∀(vs:List AV) (h:Heap),Bs (vs.filterMap BE) h (AW h vs)
 |[],h =>.refl _ _
 |v::vs,h=>by
  have h1:=EF vs (DV h v);have h2:=HW h v;refine (h2.mono fun i hi => ?_).trans (h1.mono fun i hi => ?_)
  ·rw [filterMap_cons];cases ho:BE v with
   |none=>rw [ho] at hi;simp at hi
   |some j=>rw [ho] at hi;simp at hi;simp [hi]
  ·rw [filterMap_cons];split
   ·exact hi
   ·exact mem_cons_of_mem _ hi
theorem Ho {h:Heap}:∀{ls:List AV} {i v:Nat},FC h ls=some (i,v)→i∈ls.filterMap BE
 |[],i,v,hr=>by simp [FC] at hr
 |x::ls,i,v,hr=>by
  cases x with
  |sref j a b c=>
   simp only [FC] at hr;split at hr
   ·cases hr;simp [BE]
   ·cases hr
  |_=>first
   |(have:=Ho (ls:=ls) hr;simp only [filterMap_cons,BE];exact this)
   |(have:=Ho (ls:=ls) hr;simp only [filterMap_cons,BE,mem_cons];exact .inr this)
theorem JW:∀(ts:List TypeId) (avs:List AV) {K:List AV→Option R} {r:R},C0 P ts avs K=some r→∃ls,K ls=some r∧∀i∈ls.filterMap BE,i∈(avs.map fun v=>match v.cells with|some cs=>cs.filterMap BE|none=>[]).flatten
 |[],[],K,r,hr=>⟨[],by simpa [C0] using hr,fun i hi=>by simp at hi⟩
 |t::ts,v::vs,K,r,hr=>by
  unfold C0 at hr
  try simp only [AD] at hr
  split at hr
  ·split at hr
   ·rename_i cs;obtain ⟨_,hr⟩:=AE hr;obtain ⟨ls,h1,h2⟩:=JW ts vs hr;refine ⟨_,h1,fun i hi => ?_⟩;rw [List.filterMap_append,mem_append] at hi;rw [map_cons,flatten_cons,mem_append];rcases hi with hi|hi
    ·exact .inl (by simpa [AV.cells] using hi)
    ·exact .inr (h2 i hi)
   ·cases hr
  ·obtain ⟨hlf,hr⟩:=AE hr;obtain ⟨ls,h1,h2⟩:=JW ts vs hr;refine ⟨_,h1,fun i hi => ?_⟩;rw [filterMap_cons] at hi;rw [map_cons,flatten_cons,mem_append];cases ho:BE v with
   |none=>rw [ho] at hi;exact .inr (h2 i hi)
   |some j=>
    rw [ho] at hi;simp only [mem_cons] at hi;rcases hi with hi|hi
    ·refine .inl ?_;cases v<;>simp [BE] at ho<;>simp [AV.cells,BE,hi,ho]
    ·exact .inr (h2 i hi)
  ·cases hr
 |[],v::vs,K,r,hr=>by simp [C0] at hr
 |t::ts,[],K,r,hr=>by simp [C0] at hr
theorem K5 {C:Cfg} {rec:Rec} {pc:A4} {env:Env} {op:Op} {K:AV→Heap→Option R} {r:R} (hl:Ad C op=true) (hr:Aa C rec pc false env h op K=some r):∃v h',K v h'=some r∧Bs (EI env op) h h':=by
 by_cases hh:Aq op=true
 case neg=>
  have hw:(∃g args argTypes,op = .call {callee :=.value (.func g),args,argTypes})∨(∃t len parts,op = .buildSlice t len parts)∨∃src dst x,op = .convert src dst x:=by unfold Ad at hl;split at hl<;>first|(exact absurd rfl hh)|(exact .inl ⟨_,_,_,rfl⟩)|(exact .inr (.inl ⟨_,_,_,rfl⟩))|(exact .inr (.inr ⟨_,_,_,rfl⟩))|cases hl
  rcases hw with ⟨g,args,argTypes,rfl⟩|⟨t,len,parts,rfl⟩|⟨src,dst,x,rfl⟩
  case inr.inr=>
   have hf:L3 C.P src dst=true:=hl;simp only [Aa,Aq,false_eq_true,if_false,hf,if_true,Jg] at hr;obtain ⟨s,_,hr⟩:=bind_some hr;exact ⟨_,_,hr,.push _ _ _⟩
  case inr.inl=>
   have hf:C.fnTy t=true:=hl;simp only [Aa,Aq,false_eq_true,if_false,hf,if_true] at hr;unfold Ds at hr
   try simp only [AD] at hr
   split at hr
   ·obtain ⟨s,_,hr⟩:=bind_some hr;obtain ⟨z,_,hr⟩:=bind_some hr;obtain ⟨_,hr⟩:=AE hr;obtain ⟨cs,_,hr⟩:=bind_some hr;exact ⟨_,_,hr,.push _ _ _⟩
   ·cases hr
  have hown:C.own g=true:=hl;have hh':Aq (.call {callee :=.value (.func g),args,argTypes})=false:=by simpa using hh
  unfold Aa at hr;simp only [hh',false_eq_true,if_false,ev,LV,AD] at hr;obtain ⟨_,hr⟩:=AE hr;unfold Ey at hr;simp only [hown,if_true,false_eq_true,if_false,AD] at hr;obtain ⟨ls,hr,hls⟩:=JW _ _ hr;obtain ⟨xs,hr⟩:=C4 (By (P:=C.P) (h:=AW h ls) _ _ _) hr;have hsub0:∀i∈ls.filterMap BE,i∈EI env (.call {callee :=.value (.func g),args,argTypes}):=fun i hi=>by have:=hls i hi;rw [nil_append,append_nil,map_map] at this;exact this
  split at hr
  ·obtain ⟨_,hr⟩:=AE hr;obtain ⟨ys,_,hr⟩:=bind_some hr;have hr:=IL hr;split at hr
   ·split at hr
    ·exact ⟨_,_,hr,((EF ls h).mono hsub0).trans (.push _ _ _)⟩
    ·cases hr
   ·cases hr
  obtain ⟨ys,_,hr⟩:=bind_some hr;split at hr
  ·obtain ⟨z,_,hr⟩:=bind_some hr;obtain ⟨_,hr⟩:=AE hr;obtain ⟨_,hr⟩:=AE hr;have hsub:∀i∈ls.filterMap BE,i∈EI env (.call {callee :=.value (.func g),args,argTypes}):=fun i hi=>by have:=hls i hi;rw [nil_append,append_nil,map_map] at this;exact this
   unfold NL at hr;split at hr
   ·rename_i i0 v0 hre;split at hr
    ·refine ⟨_,_,hr,.set _ (hsub i0 ?_) _⟩;have hre:FC h ls=some (i0,v0):=by
      split at hre
      ·exact hre
      ·cases hre
     exact Ho hre
    ·cases hr
   ·exact ⟨_,_,hr,((EF ls h).mono hsub).trans (.push _ _ _)⟩
  ·cases hr
 unfold Aa at hr;simp only [hh,if_true,false_eq_true,if_false] at hr;cases op with
 |alloc t=>
  have hrn:C.ren t=none:=by simpa [Ad] using hl
  simp only [Bb,hrn] at hr;by_cases hc:C.curT t=true
  ·simp only [hc,if_true] at hr;unfold FU at hr
   try simp only [AD] at hr
   split at hr
   ·obtain ⟨_,hr⟩:=AE hr;obtain ⟨xs,hr⟩:=C4 (By (P:=C.P) (h:=h) _ _ _) hr;exact ⟨_,_,hr,.push _ _ _⟩
   ·cases hr
  ·simp only [hc,false_eq_true,if_false,hop] at hr;split at hr
   ·exact Gl _ hr
   ·cases hr
 |box t x=>
  simp only [Bb] at hr;by_cases hc:C.cur (DB x)=true
  ·simp only [hc,if_true] at hr;unfold Je at hr
   try simp only [AD] at hr
   split at hr
   ·obtain ⟨_,hr⟩:=AE hr;obtain ⟨xs,hr⟩:=C4 (By (P:=C.P) (h:=h) _ _ _) hr;exact ⟨_,_,hr,.refl _ _⟩
   ·cases hr
  ·simp only [hc,false_eq_true,if_false,hop] at hr;split at hr
   ·exact Gl _ hr
   ·cases hr
 |store t a x=>
  simp only [Bb] at hr;by_cases hc:C.curT t=true
  ·simp only [hc,if_true] at hr;obtain ⟨h',hr,hk⟩:=Iw hr;refine ⟨_,_,hr,?_⟩;refine hk.trans ?_;cases hv:ev env a<;>first|(simp only [KD];exact .refl _ _)|skip
   ·simp only [KD,EI,hv];exact (HW h' _).mono fun i hi=>by simpa [BE] using hi
  ·simp only [hc,false_eq_true,if_false,hop] at hr;obtain ⟨h',hr,hk⟩:=Iw hr;exact ⟨_,_,hr,hk⟩
 |call c=>
  obtain ⟨callee,args,argTypes⟩:=c;cases callee with
  |builtin b=>
   cases b<;>first|(simp [Ad] at hl;done)|skip
   ·simp only [Bb,hop,AD] at hr;split at hr
    ·rename_i s x t t' hx _;obtain ⟨_,hr⟩:=AE hr;by_cases hsr:NH (ev env s) (ev env x)=true
     ·simp only [hsr,if_true] at hr;obtain ⟨v,h',hr,hk⟩:=KC hr;exact ⟨v,h',hr,hk.mono fun i hi=>by simp only [EI,hx];exact hi⟩
     ·simp only [hsr,false_eq_true,if_false] at hr;obtain ⟨v,h',hr,hk⟩:=ME hr;exact ⟨v,h',hr,hk.mono fun i hi=>by simp only [EI,hx];exact hi⟩
    ·cases hr
   ·simp only [Bb,hop,AD] at hr;split at hr
    ·rename_i x t hx _;obtain ⟨h',hr,hk⟩:=Nv hr;exact ⟨_,h',hr,hk.mono fun i hi=>by simp only [EI,hx];exact hi⟩
    ·cases hr
   ·simp only [Bb,hop,AD] at hr;split at hr
    ·rename_i d x t _ hx _;obtain ⟨v,h',hr,hk⟩:=PQ hr;exact ⟨v,h',hr,hk.mono fun i hi=>by simp only [EI,hx];exact hi⟩
    ·cases hr
  |_=>simp [Aq] at hh
 |makeSlice t n c=>simp only [Bb,hop] at hr;exact PH _ hr
 |makeMap t r=>
  cases r with
  |none=>
   simp only [Bb,hop] at hr;unfold FT at hr;split at hr
   ·exact ⟨_,_,hr,.push _ _ _⟩
   ·cases hr
  |some r=>simp [Ad] at hl
 |mapUpdate t m x v=>
  simp only [Bb,hop] at hr;unfold HB at hr;simp only [AD] at hr;split at hr
  ·rename_i hm _ _;split at hr
   ·obtain ⟨_,hr⟩:=AE hr;exact ⟨_,_,hr,.set _ (by simp only [EI,hm];simp [BE]) _⟩
   ·cases hr
  ·cases hr
 |_=>first|(simp [Ad] at hl;done)|(simp [Aq] at hh;done)
end Ab
namespace Ab
open Go
variable {R:Type} {P:Program} {B:Nat→Prop} {κ:Ay} {h:Heap} {w:World} {N:Nat} {env:Env} {a:Act}
theorem IN (hr:Rel B N κ env h a w):Rel B N κ env h a {w with drawn:=w.drawn+1}:=
 ⟨G0 hr.heap (Gd hr.heap) fun _ _=>rfl,hr.size,fun i=>(hr.slot i).ext (Gd hr.heap)⟩
theorem Am {ops:Array Oper} {i:Nat} (hi:i<ops.size):ops[i]? = some (ops.getD i default):=by simp only [Array.getD,hi,dif_pos];exact Array.getElem?_eq_getElem hi
theorem QH {R:Type} (C:Cfg) (rec:Rec) (pc:A4) {env env':Env} {op:Op} (hl:Ad C op=true) (hE:∀x∈op.operands,ev env x=ev env' x) (K:AV→Heap→Option R) :
  Aa C rec pc false env h op K=Aa C rec pc false env' h op K:=by
 by_cases hh:Aq op=true
 case neg=>
  have hw:(∃g args argTypes,op = .call {callee :=.value (.func g),args,argTypes})∨(∃t len parts,op = .buildSlice t len parts)∨∃src dst x,op = .convert src dst x:=by unfold Ad at hl;split at hl<;>first|(exact absurd rfl hh)|(exact .inl ⟨_,_,_,rfl⟩)|(exact .inr (.inl ⟨_,_,_,rfl⟩))|(exact .inr (.inr ⟨_,_,_,rfl⟩))|cases hl
  rcases hw with ⟨g,args,argTypes,rfl⟩|⟨t,len,parts,rfl⟩|⟨src,dst,x,rfl⟩
  case inr.inr=>
   have hf:L3 C.P src dst=true:=hl;have hx:=hE x (by simp [Op.operands]);simp only [Aa,Aq,false_eq_true,if_false,hf,if_true,hx]
  case inr.inl=>
   have hf:C.fnTy t=true:=hl;have hparts:parts.toList.map (fun p=>(p.1,ev env p.2))=parts.toList.map (fun p=>(p.1,ev env' p.2)):=
    map_congr_left fun p hm=>by rw [hE p.2 (by simp [Op.operands];exact ⟨p.1,by simpa using hm⟩)]
   simp only [Aa,Aq,false_eq_true,if_false,hf,if_true,hparts]
  have hh':Aq (.call {callee :=.value (.func g),args,argTypes})=false:=by simpa using hh
  have hm:args.toList.map (ev env)=args.toList.map (ev env'):=map_congr_left fun y hy=>hE y (by simp [Op.operands,Call.operands];right;simpa using hy);unfold Aa;simp only [hh',false_eq_true,if_false,hm];rfl
 unfold Aa;simp only [hh,if_true,false_eq_true,if_false];cases op with
 |alloc t=>
  have hrn:C.ren t=none:=by simpa [Ad] using hl
  simp only [Bb,hrn];by_cases hc:C.curT t=true<;>simp [hc,hop]
 |box t x=>
  have h1:=hE x (by simp [Op.operands]);simp only [Bb];by_cases hc:C.cur (DB x)=true<;>simp [hc,hop,h1]
 |store t a x=>
  have h1:=hE a (by simp [Op.operands]);have h2:=hE x (by simp [Op.operands]);simp only [Bb];by_cases hc:C.curT t=true<;>simp [hc,hop,h1,h2]
 |call c=>
  obtain ⟨callee,args,argTypes⟩:=c;cases callee with
  |builtin b=>
   cases b<;>first|(simp [Ad] at hl;done)|skip
   ·simp only [Bb,hop];split
    ·rename_i s x t t' hx _;have hm:∀y∈args.toList,ev env y=ev env' y:=fun y hy=>hE y (by simp [Op.operands,Call.operands];simpa using hy);rw [hm s (by rw [hx];simp),hm x (by rw [hx];simp)]
    ·rfl
   ·simp only [Bb,hop];split
    ·rename_i x t hx _;have hm:∀y∈args.toList,ev env y=ev env' y:=fun y hy=>hE y (by simp [Op.operands,Call.operands];simpa using hy);rw [hm x (by rw [hx];simp)]
    ·rfl
   ·simp only [Bb,hop];split
    ·rename_i d x t _ hx _;have hm:∀y∈args.toList,ev env y=ev env' y:=fun y hy=>hE y (by simp [Op.operands,Call.operands];simpa using hy);rw [hm d (by rw [hx];simp),hm x (by rw [hx];simp)]
    ·rfl
  |_=>simp [Aq] at hh
 |makeSlice t n c=>
  have h1:=hE n (by simp [Op.operands]);have h2:=hE c (by simp [Op.operands]);simp [Bb,hop,h1,h2]
 |makeMap t r=>
  cases r with
  |none=>simp [Bb,hop]
  |some r=>simp [Ad] at hl
 |mapUpdate t m x v=>
  have h1:=hE m (by simp [Op.operands]);have h2:=hE x (by simp [Op.operands]);have h3:=hE v (by simp [Op.operands]);simp [Bb,hop,h1,h2,h3]
 |_=>first|(simp [Ad] at hl;done)|(simp [Aq] at hh;done)
noncomputable def Ni (C:Cfg) (rec:Rec) (pc:A4) (env:Env) (h:Heap) (op:Op):Option (AV×Heap):=Aa C rec pc (!Ad C op) env h op fun v h'=>some (v,h')
theorem dval_eq {R:Type} (C:Cfg) (rec:Rec) (pc:A4) (env:Env) (op:Op) (K:AV→Heap→Option R):Aa C rec pc (!Ad C op) env h op K=(Ni C rec pc env h op).bind fun p=>K p.1 p.2:=by
 unfold Ni;cases hl:Ad C op with
 |false=>
  simp only [Bool.not_false,step_eq];cases F5 C rec pc h env op<;>rfl
 |true=>
  simp only [Bool.not_true];rcases UP (h:=h) C rec pc env op hl with ⟨p,hp⟩|hn
  ·rw [show Aa C rec pc false env h op K=K p.1 p.2 from hp R fun q=>K q.1 q.2,show (Aa C rec pc false env h op fun v h'=>some (v,h'))=some p from hp (AV×Heap) some];rfl
  ·rw [show Aa C rec pc false env h op K=none from hn R fun q=>K q.1 q.2,show (Aa C rec pc false env h op fun v h'=>some (v,h'))=none from hn (AV×Heap) some];rfl
def FV (C:Cfg) (N:Nat) (S:List Nat) (nf:Bool) (o:Oper) (env:Env) (h:Heap):Prop:=Ir N o=true∧(nf=true→Fh C.P S env o.op=true)∧A8 S h=true∧(Ad C o.op=true→H4 C.P S env o.op=true)
instance (C:Cfg) (N:Nat) (S:List Nat) (nf:Bool) (o:Oper) (env:Env) (h:Heap):Decidable (FV C N S nf o env h):=by unfold FV;infer_instance
noncomputable def EO (C:Cfg) (rec:Rec) (pc:A4) (N:Nat) (ops:Array Oper) (S:List Nat) (nf:Bool) (o:Oper) (env:Env) (h:Heap):Option (AV×Heap):=
 if FV C N S nf o env h then (MA ops o env).bind fun b=>if b then Ni C rec pc env h o.op else some (.tuple [],h) else none
noncomputable def Aj (C:Cfg) (rec:Rec) (pc:A4) (N:Nat) (ops:Array Oper) (S:List Nat) (nf:Nat→Bool) (i:Nat) (s:Env×Heap):Option (Env×Heap):=
 match ops[i]? with
 |some o=>(EO C rec pc N ops S (nf i) o s.1 s.2).map fun p=>(s.1.put o.dst p.1,p.2)
 |none=>none
theorem A0 {R:Type} (C:Cfg) (rec:Rec) (pc:A4) (N:Nat) (ops:Array Oper) (S:List Nat) (nf:Nat→Bool):∀(l:List Nat) (env:Env) (h:Heap) (K:Env→Heap→Option R),
  BQ C rec pc N ops S nf l env h K=(l.foldlM (fun s i=>Aj C rec pc N ops S nf i s) (env,h)).bind fun s=>K s.1 s.2
 |[],env,h,K=>rfl
 |i::l,env,h,K=>by
  simp only [BQ,foldlM_cons,Aj];cases ho:ops[i]? with
  |none=>rfl
  |some o=>
   simp only [EO,AD];by_cases hd:FV C N S (nf i) o env h
   ·rw [if_pos (show _∧_ from hd),if_pos hd,Oj];cases MA ops o env with
    |none=>rfl
    |some b=>
     cases b with
     |true=>
      simp only [Option.bind_some,if_true,dval_eq];cases Ni C rec pc env h o.op with
      |none=>rfl
      |some p=>simp only [Option.bind_some,map_some,A0 C rec pc N ops S nf l];rfl
     |false=>simp only [Option.bind_some,false_eq_true,if_false,A0 C rec pc N ops S nf l];rfl
   ·rw [if_neg (show ¬(_∧_) from hd),if_neg hd];rfl
theorem QB {P:Program} {S:List Nat} {env env':Env} {op:Op} (hE:∀x∈op.operands,ev env x=ev env' x):partAt P S env op=partAt P S env' op:=by
 cases op with
 |load t a=>simp only [partAt,hE a (by simp [Op.operands])]
 |fieldAddr t a f=>simp only [partAt,hE a (by simp [Op.operands])]
 |_=>rfl
theorem QS {P:Program} {S:List Nat} {env env':Env} {op:Op} (hE:∀x∈op.operands,ev env x=ev env' x):Fh P S env op=Fh P S env' op:=by
 unfold Fh;rw [QB hE];cases Fq op with
 |true=>rfl
 |false=>
  simp only [Bool.false_or];congr 1;rw [Bool.eq_iff_iff,all_eq_true,all_eq_true];constructor
  ·intro hh x hx;rw [← hE x (by simpa using hx)];exact hh x hx
  ·intro hh x hx;rw [hE x (by simpa using hx)];exact hh x hx
theorem OG {env env':Env} {op:Op} (hE:∀x∈op.operands,ev env x=ev env' x):EI env op=EI env' op:=by
 cases op with
 |store t a x=>
  have h1:=hE a (by simp [Op.operands]);simp only [EI,h1]
 |mapUpdate t m x v=>
  have h1:=hE m (by simp [Op.operands]);simp only [EI,h1]
 |call c=>
  obtain ⟨callee,args,argTypes⟩:=c;cases callee with
  |builtin b=>
   simp only [EI];split
   ·rename_i s rest hx;have hm:∀y∈args.toList,ev env y=ev env' y:=fun y hy=>hE y (by simp [Op.operands,Call.operands];simpa using hy);rw [hm s (by rw [hx];simp)]
   ·rfl
  |value f=>
   have hm:∀y∈args.toList,ev env y=ev env' y:=fun y hy=>hE y (by simp [Op.operands,Call.operands];right;simpa using hy);simp only [EI];congr 1;exact map_congr_left fun y hy=>by rw [hm y hy]
  |_=>rfl
 |_=>rfl
theorem Nt {P:Program} {S:List Nat} {env env':Env} {op:Op} (hE:∀x∈op.operands,ev env x=ev env' x):H4 P S env op=H4 P S env' op:=by
 unfold H4;rw [OG hE];congr 1;cases op with
 |store t a x=>
  have h1:=hE a (by simp [Op.operands]);simp only [h1]
 |_=>rfl
theorem J6 (C:Cfg) (N:Nat) (S:List Nat) (nf:Bool) (o:Oper) {env env':Env} (hE:∀x∈o.op.operands,ev env x=ev env' x):FV C N S nf o env h↔FV C N S nf o env' h:=by unfold FV;rw [QS hE,Nt hE]
theorem Eg (C:Cfg) (rec:Rec) (pc:A4) (N:Nat) (ops:Array Oper) (S:List Nat) (nf:Bool) (o:Oper) {env env':Env} (hE:∀t∈o.looksAt ops,env t=env' t):EO C rec pc N ops S nf o env h=EO C rec pc N ops S nf o env' h:=by
 have h1:=K7 ops o hE;unfold EO;rw [LG ops o hE];have:Ni C rec pc env h o.op=Ni C rec pc env' h o.op:=by
  unfold Ni;cases hl:Ad C o.op with
  |true=>exact QH C rec pc hl h1 _
  |false=>
   simp only [Bool.not_false,step_eq];rw [P7 C rec pc o.op h1]
 rw [this];by_cases hd:FV C N S nf o env h
 ·rw [if_pos hd,if_pos ((J6 C N S nf o h1).1 hd)]
 ·rw [if_neg hd,if_neg fun hd'=>hd ((J6 C N S nf o h1).2 hd')]
noncomputable def FO (C:Cfg) (rec:Rec) (pc:A4) (N:Nat) (ops:Array Oper) (S:List Nat) (nf:Bool) (o:Oper) (env:Env) (h:Heap):Option AV:=
 if FV C N S nf o env h then (MA ops o env).bind fun b=>if b then F5 C rec pc h env o.op else some (.tuple []) else none
theorem Dl (C:Cfg) (rec:Rec) (pc:A4) (N:Nat) (ops:Array Oper) (S:List Nat) (nf:Bool) (o:Oper) (env:Env) (hl:Ad C o.op=false):EO C rec pc N ops S nf o env h=(FO C rec pc N ops S nf o env h).map fun v=>(v,h):=by
 unfold EO FO Ni;rw [hl];simp only [Bool.not_false,step_eq];split
 ·cases MA ops o env with
  |none=>rfl
  |some b=>
   cases b
   ·rfl
   ·simp only [Option.bind_some,if_true];cases F5 C rec pc h env o.op<;>rfl
 ·rfl
theorem Kt (C:Cfg) (rec:Rec) (pc:A4) (N:Nat) (ops:Array Oper) (S:List Nat) (o:Oper) (env:Env) {h h':Heap} (hin:A8 S h=true) (hin':A8 S h'=true) (hag:∀i∈S,At h i=At h' i):FO C rec pc N ops S true o env h=FO C rec pc N ops S true o env h':=by
 unfold FO;have hiff:FV C N S true o env h↔FV C N S true o env h':=by unfold FV;rw [hin,hin']
 by_cases hd:FV C N S true o env h
 ·rw [if_pos hd,if_pos (hiff.1 hd),R8 hag (hd.2.1 rfl)]
 ·rw [if_neg hd,if_neg fun hd'=>hd (hiff.2 hd')]
theorem at_of {h h':Heap} {c:Nat} (he:h'[ob c]? = h[ob c]?):At h' c=At h c:=by
 unfold At;unfold ob at he;by_cases hc:c<1024
 ·rw [if_pos hc] at he;rw [if_pos hc,if_pos hc,he]
 ·rw [if_neg hc] at he;rw [if_neg hc,if_neg hc,he]
theorem Ue {h:Heap} {c:Nat} {o:AQ} (he:At h c=some o):ob c<h.length:=by
 unfold At at he;unfold ob;by_cases hc:c<1024
 ·rw [if_pos hc] at he;rw [if_pos hc];exact (List.getElem?_eq_some_iff.1 he).1
 ·rw [if_neg hc] at he;rw [if_neg hc];cases h1:h[c % 1024]? with
  |none=>rw [h1] at he;cases he
  |some o'=>exact (List.getElem?_eq_some_iff.1 h1).1
theorem at_some {h:Heap} {c:Nat} (hi:ob c<h.length):∃o,At h c=some o:=by
 unfold ob at hi;unfold At;by_cases hc:c<1024
 ·rw [if_pos hc] at hi;rw [if_pos hc];exact ⟨_,getElem?_eq_getElem hi⟩
 ·rw [if_neg hc] at hi;rw [if_neg hc,getElem?_eq_getElem hi];exact ⟨_,rfl⟩
theorem Mz {h h':Heap} {c:Nat} (he:At h' c=At h c) (hi:ob c<h'.length):ob c<h.length:=by obtain ⟨o,ho⟩:=at_some hi;exact Ue (he.symm.trans ho)
theorem NY {S T:List Nat} {h h':Heap} (hin:A8 S h=true) (hk:Bs T h h'):A8 S h'=true:=by unfold A8 at *;rw [all_eq_true] at *;intro i hi;have:=hin i hi;simp only [decide_eq_true_eq] at *;have:=hk.1;omega
theorem PN {S T:List Nat} {h h':Heap} (hin:A8 S h=true) (hap:Qq S T=true) (hk:Bs T h h'):∀i∈S,At h' i=At h i:=by intro i hi;unfold A8 at hin;rw [all_eq_true] at hin;refine at_of (hk.2 (ob i) (by simpa using hin i hi) fun hT => ?_);unfold Qq at hap;rw [all_eq_true] at hap;have:=hap i hi;simp at this;exact this hT
theorem QR {cs vs:List AV} {off j:Nat} (hle:off+vs.length≤cs.length) (hj:j<off∨off+vs.length≤j):(setAt cs off vs).getD j .undef=cs.getD j .undef:=by obtain ⟨_,hg⟩:=FL cs vs off hle;rw [getD_eq_getElem?_getD,getD_eq_getElem?_getD,hg j,if_neg (by omega)]
theorem TM {h h1:Heap} {i off:Nat} {cs vs:List AV} (hi:h[i]? = some (.box cs)) (hle:off+vs.length≤cs.length) (hk:Bs [] h h1) {c:Nat} (hc:ob c<h.length) (hd:ob c≠i∨GO c off vs.length=true) :
  At (h1.set i (.box (setAt cs off vs))) c=At h c:=by
 have hil:=AO hi;have h1i:h1[i]? = some (.box cs):=(hk.2 i hil (by simp)).trans hi;by_cases hne:ob c=i
 ·have hd:GO c off vs.length=true:=by
   rcases hd with hd|hd
   ·exact absurd hne hd
   ·exact hd
  unfold GO at hd;simp only [and_eq_true,or_eq_true,decide_eq_true_eq] at hd;have hci:c % 1024=i:=by unfold ob at hne;rw [if_neg (by omega)] at hne;exact hne
  unfold At;rw [if_neg (by omega),if_neg (by omega),hci,hi,List.getElem?_set_self (AO h1i)];simp only [map_some,IA,Option.some.injEq,AQ.box.injEq,List.cons.injEq,AV.yld.injEq];refine ⟨(FL cs vs off hle).1,map_congr_left fun j hj => ?_⟩;have hj:=mem_range.1 hj;exact QR hle (by omega)
 ·refine at_of ?_;rw [getElem?_set_ne (Ne.symm hne)];exact hk.2 _ hc (by simp)
theorem Hj {P:Program} {R:Type}:∀(vs:List AV) (ts:List TypeId) (h:Heap) {K:List AV→Heap→Option R} {r:R},Cd P ts vs h K=some r→∃vs' h',K vs' h'=some r∧vs'.length=vs.length∧Bs [] h h'
 |[],ts,h,K,r,hr=>⟨[],h,by simpa [Cd] using hr,rfl,.refl _ _⟩
 |v::vs,ts,h,K,r,hr=>by
  cases v with
  |nilsl=>
   simp only [Cd] at hr;obtain ⟨vs',h',h1,h2,h3⟩:=Hj vs _ _ hr;exact ⟨_,h',h1,by simp [h2],(Bs.push [] h _).trans h3⟩
  |_=>
   simp only [Cd] at hr;obtain ⟨vs',h',h1,h2,h3⟩:=Hj vs _ _ hr;exact ⟨_,h',h1,by simp [h2],h3⟩
theorem Ko {h:Heap} {R:Type}:∀(os vs:List AV) {K:List AV→Option R} {r:R},CT h os vs K=some r→∃vs',K vs'=some r∧vs'.length=vs.length
 |_,[],K,r,hr=>⟨[],by cases ‹List AV› <;>simpa [CT] using hr,rfl⟩
 |[],v::vs,K,r,hr=>⟨v::vs,by simpa [CT] using hr,rfl⟩
 |o::os,v::vs,K,r,hr=>by
  have plain:∀x:AV,(CT h os vs fun vs'=>K (x::vs'))=some r→∃vs',K vs'=some r∧vs'.length=(v::vs).length:=fun x hx=>by obtain ⟨vs',h1,h2⟩:=Ko os vs hx;exact ⟨_,h1,by simp [h2]⟩
  unfold CT at hr;split at hr
  ·split at hr
   ·rw [AD] at hr;exact plain _ (AE hr).2
   ·exact plain _ hr
  ·exact plain _ hr
theorem Nq {P:Program} {R:Type} {t:TypeId} {i off n:Nat} {h:Heap} {v:AV} {K:Heap→Option R} {r:R} (hr:Ej P t h (.ptr i off) v K=some r) (hn:BO P t=some n) :
  ∃h',K h'=some r∧∀c,ob c<h.length→(ob c≠i∨GO c off n=true)→At h' c=At h c:=by
 unfold Ej at hr;simp only [AD,hn] at hr;split at hr
 ·rename_i vs n' hvs hn';cases hn';obtain ⟨⟨hl,_⟩,hr⟩:=AE hr;split at hr
  ·rename_i cs hi;obtain ⟨hle,hr⟩:=AE hr;obtain ⟨vs1,hr,l1⟩:=Ko _ _ hr;obtain ⟨vs2,h1,hr,l2,hk⟩:=Hj _ _ _ hr;have l3:vs2.length=n:=by omega
   exact ⟨_,hr,fun c hc hd=>TM hi (by omega) hk hc (by rw [l3];exact hd)⟩
  ·cases hr
 ·cases hr
theorem Un {C:Cfg} {rec:Rec} {pc:A4} {S:List Nat} {env:Env} {h h':Heap} {op:Op} {v:AV} (hl:Ad C op=true) (hin:A8 S h=true) (hap:H4 C.P S env op=true) (hv:Aa C rec pc false env h op (fun v h'=>some (v,h'))=some (v,h')):∀c∈S,At h' c=At h c:=by
 unfold H4 at hap;rw [or_eq_true] at hap;rcases hap with hap|hap
 ·obtain ⟨v',h'',e,hk⟩:=K5 hl hv;cases e;exact PN hin hap hk
 ·split at hap
  ·rename_i t a x;split at hap
   ·rename_i i off n ha hn;have key:∀(y:AV) (K:Heap→Option (AV×Heap)),Ej C.P t h (ev env a) y K=some (v,h')→(∀h'',K h''=some (.undef,h''))→∀c∈S,At h' c=At h c:=fun y K hs hK c hc=>by rw [ha] at hs;obtain ⟨h2,e,hat⟩:=Nq hs hn;rw [hK] at e;cases e;unfold A8 at hin;rw [all_eq_true] at hin hap;have h1:=hap c hc;simp only [or_eq_true,decide_eq_true_eq] at h1;exact hat c (by simpa using hin c hc) h1
    unfold Aa at hv;simp only [Aq,if_true,false_eq_true,if_false,Bb] at hv;by_cases hc:C.curT t=true
    ·simp only [hc,if_true] at hv;exact key _ _ hv fun h''=>by rw [ha];rfl
    ·simp only [hc,false_eq_true,if_false,hop] at hv;exact key _ _ hv fun h''=>rfl
   ·cases hap
  ·cases hap
theorem SW {C:Cfg} {rec:Rec} {pc:A4} {N:Nat} {ops:Array Oper} {S:List Nat} {nf:Bool} {o:Oper} {env:Env} {h:Heap} {p:AV×Heap} (hl:Ad C o.op=true) (hd:EO C rec pc N ops S nf o env h=some p):A8 S h=true∧A8 S p.2=true∧∀i∈S,At p.2 i=At h i:=by
 unfold EO at hd;obtain ⟨ha,hd⟩:=AE hd;have hin:=ha.2.2.1;obtain ⟨b,_,hd⟩:=bind_some hd;cases b with
 |false=>
  simp only [false_eq_true,if_false,Option.some.injEq] at hd;subst hd;exact ⟨hin,hin,fun _ _=>rfl⟩
 |true=>
  simp only [if_true] at hd;unfold Ni at hd;rw [hl] at hd;simp only [Bool.not_true] at hd;obtain ⟨v,h',hv,hk⟩:=K5 hl hd;cases hv;exact ⟨hin,NY hin hk,Un hl hin (ha.2.2.2 hl) hd⟩
theorem DI (C:Cfg) (rec:Rec) (pc:A4) (N:Nat) (ops:Array Oper) (S:List Nat) (nf:Nat→Bool) {i j:Nat} {a b:Oper} (hi:ops[i]? = some a) (hj:ops[j]? = some b) (h1:∀d,a.dst=some d→d∉b.looksAt ops) (h2:∀d,a.dst=some d→b.dst≠some d) (h3:∀d,b.dst=some d→d∉a.looksAt ops)
  (ha:Ad C a.op=true) (hb:Ad C b.op=false) (hnf:nf j=true) (s:Env×Heap):(Aj C rec pc N ops S nf i s).bind (Aj C rec pc N ops S nf j)=(Aj C rec pc N ops S nf j s).bind (Aj C rec pc N ops S nf i):=by
 obtain ⟨env,h⟩:=s;have hA:∀v,EO C rec pc N ops S (nf i) a (env.put b.dst v) h=EO C rec pc N ops S (nf i) a env h:=fun v=>Eg C rec pc N ops S _ a fun t ht=>CA fun d hd e=>h3 d hd (e ▸ ht);have hB:∀v h',A8 S h=true→A8 S h'=true→(∀i∈S,At h' i=At h i)→EO C rec pc N ops S (nf j) b (env.put a.dst v) h'=(FO C rec pc N ops S true b env h).map fun u=>(u,h'):=fun v h' hi1 hi2 hag=>by rw [Eg (env':=env) C rec pc N ops S _ b fun t ht=>CA fun d hd e=>h1 d hd (e ▸ ht),hnf,Dl C rec pc N ops S true b env hb,Kt C rec pc N ops S b env hi2 hi1 hag]
 have hB0:EO C rec pc N ops S (nf j) b env h=(FO C rec pc N ops S true b env h).map fun u=>(u,h):=by rw [hnf,Dl C rec pc N ops S true b env hb]
 have fi:Aj C rec pc N ops S nf i=fun s=>(EO C rec pc N ops S (nf i) a s.1 s.2).map fun p=>(s.1.put a.dst p.1,p.2):=by funext s;simp only [Aj,hi]
 have fj:Aj C rec pc N ops S nf j=fun s=>(EO C rec pc N ops S (nf j) b s.1 s.2).map fun p=>(s.1.put b.dst p.1,p.2):=by funext s;simp only [Aj,hj]
 simp only [fi,fj];cases hd:EO C rec pc N ops S (nf i) a env h with
 |none=>
  rw [hB0];cases FO C rec pc N ops S true b env h with
  |none=>rfl
  |some u=>simp [hA,hd]
 |some p=>
  obtain ⟨hi1,hi2,hag⟩:=SW ha hd;simp only [map_some,Option.bind_some,hB _ _ hi1 hi2 hag,hB0];cases FO C rec pc N ops S true b env h with
  |none=>rfl
  |some u=>
   simp only [map_some,Option.bind_some,hA,hd];rw [put_comm h2]
theorem Fa (C:Cfg) (rec:Rec) (pc:A4) (N:Nat) (ops:Array Oper) (S:List Nat) (nf:Nat→Bool) {i j:Nat} {a b:Oper} (hi:ops[i]? = some a) (hj:ops[j]? = some b) (h1:∀d,a.dst=some d→d∉b.looksAt ops) (h2:∀d,a.dst=some d→b.dst≠some d) (h3:∀d,b.dst=some d→d∉a.looksAt ops)
  (ha:Ad C a.op=false) (hb:Ad C b.op=false) (s:Env×Heap):(Aj C rec pc N ops S nf i s).bind (Aj C rec pc N ops S nf j)=(Aj C rec pc N ops S nf j s).bind (Aj C rec pc N ops S nf i):=by
 obtain ⟨env,h⟩:=s;have hA:∀v,EO C rec pc N ops S (nf i) a (env.put b.dst v) h=EO C rec pc N ops S (nf i) a env h:=fun v=>Eg C rec pc N ops S _ a fun t ht=>CA fun d hd e=>h3 d hd (e ▸ ht);have hB:∀v,EO C rec pc N ops S (nf j) b (env.put a.dst v) h=EO C rec pc N ops S (nf j) b env h:=fun v=>Eg C rec pc N ops S _ b fun t ht=>CA fun d hd e=>h1 d hd (e ▸ ht);have qa:=Dl (h:=h) C rec pc N ops S (nf i) a env ha;have qb:=Dl (h:=h) C rec pc N ops S (nf j) b env hb;have fi:Aj C rec pc N ops S nf i=fun s=>(EO C rec pc N ops S (nf i) a s.1 s.2).map fun p=>(s.1.put a.dst p.1,p.2):=by funext s;simp only [Aj,hi]
 have fj:Aj C rec pc N ops S nf j=fun s=>(EO C rec pc N ops S (nf j) b s.1 s.2).map fun p=>(s.1.put b.dst p.1,p.2):=by funext s;simp only [Aj,hj]
 simp only [fi,fj];cases hqa:FO C rec pc N ops S (nf i) a env h with
 |none=>
  rw [hqa] at qa;rw [qa];cases hqb:FO C rec pc N ops S (nf j) b env h with
  |none=>rw [hqb] at qb;rw [qb];rfl
  |some u=>rw [hqb] at qb;rw [qb];simp [hA,qa]
 |some v=>
  rw [hqa] at qa;rw [qa];cases hqb:FO C rec pc N ops S (nf j) b env h with
  |none=>rw [hqb] at qb;simp [hB,qb]
  |some u=>
   rw [hqb] at qb;simp only [map_some,Option.bind_some,hA,hB,qa,qb];rw [put_comm h2]
theorem CF {C:Cfg} {rec:Rec} {pc:A4} (hrec:DL C.P rec) (hpc:Bn C.P pc) (ops:Array Oper) (S:List Nat) (nf:Nat→Bool) (Q:Exit→Act→World→Prop) (n:Nat) (ro:Option Nat) (rest:List Nat) :
  ∀(l:List Nat) {K:Env→Heap→Option R} {r:R} {env:Env} {h:Heap} {κ:Ay} {a:Act} {w:World},
   BQ C rec pc N ops S nf l env h K=some r→Rel B N κ env h a w→I3 B N κ h w false (l.map fun i=>ops.getD i default) env a K r (wpOpsIn (Fr ro) n C.P ops Q rest)→wpOpsIn (Fr ro) n C.P ops Q (l++rest) a w
 |[],K,r,env,h,κ,a,w,hk,hr,hn=>hn env h κ a w hk hr (Ext.refl _ _ _) (fun _ _=>rfl) rfl fun e=>by cases e
 |i::l,K,r,env,h,κ,a,w,hk,hr,hn=>by
  simp only [BQ,AD] at hk;split at hk
  ·rename_i o ho;obtain ⟨⟨hd,_⟩,hk⟩:=AE hk;have hgo:ops.getD i default=o:=by have hlt:i<ops.size:=(Array.getElem?_eq_some_iff.1 ho).1;have:=Am hlt;rw [ho] at this;exact (Option.some.inj this).symm
   simp only [cons_append,wpOpsIn,ho];simp only [map_cons,hgo] at hn;have hput:∀(v:AV) (t:Tmp),t∉(o::l.map fun i=>ops.getD i default).filterMap (·.dst)→(env.put o.dst v) t=env t:=fun v t hni=>by
    cases hdst:o.dst with
    |none=>rfl
    |some d=>
     simp only [Env.put];rw [if_neg fun e=>hni (by simp [hdst,e])]
   have hpd:∀val,(a.put o.dst val).defers=a.defers:=fun val=>by cases o.dst<;>rfl
   have hsub:∀t,t∉(o::l.map fun i=>ops.getD i default).filterMap (·.dst)→t∉(l.map fun i=>ops.getD i default).filterMap (·.dst):=fun t hni hm=>hni (by
    simp only [filterMap_cons];split
    ·exact hm
    ·exact mem_cons_of_mem _ hm)
   rcases GY hk hr with ⟨hw,hk1⟩|⟨hw,hk1⟩
   ·simp only [hw,if_true];refine IF hrec hpc o hk1 hr _ Q n ro fun v h' κ' val w' h1 h2 h3 h4 h5 => ?_;refine CF hrec hpc ops S nf Q n ro rest l h1 (EN hr h3 h4 h2 o hd) fun env2 h2 κ2 a2 w2 k1 k2 k3 k4 k5 k6 => ?_;exact hn env2 h2 κ2 a2 w2 k1 k2 (h4.trans k3) (fun t hni=>(k4 t (hsub t hni)).trans (hput v t hni)) (k5.trans (hpd _)) fun e=>by cases e
   ·simp only [hw,false_eq_true,if_false];refine ⟨fun _ _=>trivial,?_⟩;refine CF hrec hpc ops S nf Q n ro rest l hk1 (EN hr hr.heap (Ext.refl _ _ _) (.tuple _ _ rfl fun j x hx=>by simp at hx) o hd) fun env2 h2 κ2 a2 w2 k1 k2 k3 k4 k5 k6 => ?_;exact hn env2 h2 κ2 a2 w2 k1 k2 k3 (fun t hni=>(k4 t (hsub t hni)).trans (hput _ t hni)) (k5.trans (hpd _)) fun e=>by cases e
  ·cases hk
theorem GD:∀(xs ys:List AV),EZ xs ys=true→xs=ys
 |[],[],_=>rfl
 |x::xs,y::ys,hs=>by
  cases x<;>cases y<;>simp only [EZ,and_eq_true,beq_iff_eq] at hs<;>first|(cases hs;done)|skip
  ·obtain ⟨⟨rfl,rfl⟩,h3⟩:=hs;rw [GD xs ys h3]
  ·obtain ⟨rfl,h3⟩:=hs;rw [GD xs ys h3]
 |[],_::_,hs=>by simp [EZ] at hs
 |x::_,[],hs=>by cases x<;>simp [EZ] at hs
theorem JI {h h':Heap} {i:Nat} (hs:sameAt h h' i=true):At h' i=At h i∧ob i<h'.length:=by
 unfold sameAt at hs;split at hs
 ·rename_i xs ys h1 h2;rw [GD _ _ hs] at h1;exact ⟨h2.trans h1.symm,Ue h2⟩
 ·cases hs
theorem Qn {R:Type} (C:Cfg) (rec:Rec) (pc:A4) {env env':Env} {op:Op} (hl:B3 C op=true) (hE:∀x∈op.operands,ev env x=ev env' x) (K:AV→Heap→Option R) :
  Aa C rec pc false env h op K=Aa C rec pc false env' h op K:=by
 obtain ⟨g,args,argTypes,rfl⟩:∃g args argTypes,op = .call {callee :=.value (.func g),args,argTypes}:=by
  unfold B3 at hl;split at hl
  ·exact ⟨_,_,_,rfl⟩
  ·cases hl
 have hh':Aq (.call {callee :=.value (.func g),args,argTypes})=false:=rfl;have hm:args.toList.map (ev env)=args.toList.map (ev env'):=map_congr_left fun y hy=>hE y (by simp [Op.operands,Call.operands];right;simpa using hy);unfold Aa;simp only [hh',false_eq_true,if_false,hm];rfl
theorem J5 {R:Type} (C:Cfg) (rec:Rec) (pc:A4) {env env':Env} {op:Op} (hl:Ih op=true) (hE:∀x∈op.operands,ev env x=ev env' x) (K:AV→Heap→Option R) :
  Aa C rec pc false env h op K=Aa C rec pc false env' h op K:=by
 obtain ⟨f,args,argTypes,rfl⟩:∃f args argTypes,op = .call {callee :=.value f,args,argTypes}:=by
  unfold Ih at hl;split at hl
  ·exact ⟨_,_,_,rfl⟩
  ·cases hl
 have hh':Aq (.call {callee :=.value f,args,argTypes})=false:=rfl;have hm:args.toList.map (ev env)=args.toList.map (ev env'):=map_congr_left fun y hy=>hE y (by simp [Op.operands,Call.operands];right;simpa using hy);have hf:ev env f=ev env' f:=hE f (by simp [Op.operands,Call.operands]);unfold Aa;simp only [hh',false_eq_true,if_false,hm,hf]
theorem Hm (C:Cfg) (rec:Rec) (pc:A4) (N:Nat) (ops:Array Oper) (S:List Nat) (nf:Nat→Bool) (o:Oper):∀(l:List Nat) (env:Env) (h:Heap) (s2:Env×Heap),
  (∀y∈l,∃o',ops[y]? = some o'∧Ad C o'.op=false∧nf y=true∧(∀d,o.dst=some d→d∉o'.looksAt ops)∧(∀d,o.dst=some d→o'.dst≠some d)∧∀d,o'.dst=some d→d∉o.looksAt ops)→
  l.foldlM (fun s i=>Aj C rec pc N ops S nf i s) (env,h)=some s2→s2.2=h∧(∀t∈o.looksAt ops,s2.1 t=env t)∧∀v h',A8 S h'=true→A8 S h=true→(∀i∈S,At h' i=At h i)→
   l.foldlM (fun s i=>Aj C rec pc N ops S nf i s) (env.put o.dst v,h')=some (s2.1.put o.dst v,h')
 |[],env,h,s2,_,hf=>by simp only [List.foldlM_nil] at hf;cases hf;exact ⟨rfl,fun _ _=>rfl,fun v h' _ _ _=>rfl⟩
 |y::l,env,h,s2,hq,hf=>by
  obtain ⟨o',ho',hl,hnf,q1,q2,q3⟩:=hq y (by simp);have fy:∀s,Aj C rec pc N ops S nf y s=(EO C rec pc N ops S (nf y) o' s.1 s.2).map fun p=>(s.1.put o'.dst p.1,p.2):=fun s=>by simp only [Aj,ho']
  rw [foldlM_cons,fy,hnf,Dl C rec pc N ops S true o' env hl] at hf;cases hu:FO C rec pc N ops S true o' env h with
  |none=>rw [hu] at hf;cases hf
  |some u=>
   rw [hu] at hf;have hf':l.foldlM (fun s i=>Aj C rec pc N ops S nf i s) (env.put o'.dst u,h)=some s2:=hf;obtain ⟨e1,e2,e3⟩:=Hm C rec pc N ops S nf o l (env.put o'.dst u) h s2 (fun z hz=>hq z (by simp [hz])) hf';refine ⟨e1,fun t ht=>(e2 t ht).trans (CA fun d hd e=>q3 d hd (e ▸ ht)),fun v h' hi' hi hag => ?_⟩;have h1:EO C rec pc N ops S true o' (env.put o.dst v) h'=some (u,h'):=by rw [Eg (env':=env) C rec pc N ops S true o' fun t ht=>CA fun d hd e=>q1 d hd (e ▸ ht),Dl C rec pc N ops S true o' env hl,Kt C rec pc N ops S o' env hi' hi hag,hu];rfl
   rw [foldlM_cons,fy,hnf];simp only [h1,map_some];rw [put_comm q2];exact e3 v h' hi' hi hag
theorem SM {C:Cfg} {rec:Rec} {pc:A4} {N:Nat} {ops:Array Oper} {S:List Nat} {nf:Nat→Bool} {o:Oper} {l1 l2:List Nat} {env:Env} {h:Heap} {K:Env→Heap→Option R} {r:R} (hcg:∀(env' env1:Env) (h1:Heap) (K1:AV→Heap→Option R),(∀x∈o.op.operands,ev env1 x=ev env' x)→Aa C rec pc false env1 h1 o.op K1=Aa C rec pc false env' h1 o.op K1)
  (hq:∀y∈l2,∃o',ops[y]? = some o'∧Ad C o'.op=false∧nf y=true∧(∀d,o.dst=some d→d∉o'.looksAt ops)∧(∀d,o.dst=some d→o'.dst≠some d)∧∀d,o'.dst=some d→d∉o.looksAt ops)
  (hk:BQ C rec pc N ops S nf (l1++l2) env h (fun env' h'=>Oh C rec pc N S o env' h' K)=some r) :
  Ir N o=true∧o.guard=none∧BQ C rec pc N ops S nf l1 env h (fun env1 h1=>Aa C rec pc false env1 h1 o.op fun v h'=>cnd (S.all (sameAt h1 h')=true) (BQ C rec pc N ops S nf l2 (env1.put o.dst v) h' K) none)=some r:=by
 rw [A0,foldlM_append] at hk;rw [A0];cases h1:l1.foldlM (fun s i=>Aj C rec pc N ops S nf i s) (env,h) with
 |none=>rw [h1] at hk;cases hk
 |some s1=>
  rw [h1] at hk;have hk:(l2.foldlM (fun s i=>Aj C rec pc N ops S nf i s) s1).bind (fun s=>Oh C rec pc N S o s.1 s.2 K)=some r:=hk;cases h2:l2.foldlM (fun s i=>Aj C rec pc N ops S nf i s) s1 with
  |none=>rw [h2] at hk;cases hk
  |some s2=>
   rw [h2] at hk;simp only [Option.bind_some] at hk;obtain ⟨e1,e2,e3⟩:=Hm C rec pc N ops S nf o l2 s1.1 s1.2 s2 hq h2;unfold Oh at hk;simp only [AD] at hk;obtain ⟨⟨hd,hg⟩,hk⟩:=AE hk;refine ⟨hd,hg,?_⟩;simp only [Option.bind_some];rw [e1,hcg s1.1 s2.1 _ _ (K7 ops o e2)] at hk;rw [← hk];congr 1;funext v h';simp only [AD];by_cases hs:S.all (sameAt s1.2 h')=true
   ·rw [if_pos hs,if_pos hs,A0];have hall:=all_eq_true.1 hs;have hi':A8 S h'=true:=by unfold A8;rw [all_eq_true];intro i hi;simpa using (JI (hall i hi)).2
    have hi:A8 S s1.2=true:=by unfold A8;rw [all_eq_true];intro i hi;have h3:=JI (hall i hi);simpa using Mz h3.1 h3.2
    rw [e3 v h' hi' hi fun i hi=>(JI (hall i hi)).1];rfl
   ·rw [if_neg hs,if_neg hs]
theorem OT {Q:Nat→Nat→Prop}:∀(l:List Nat),(∀a x b y,l=a++x::b→y∈b→Q x y)→l.Pairwise Q
 |[],_ =>.nil
 |z::l,hh=>pairwise_cons.2 ⟨fun y hy=>hh [] z l y rfl hy,OT l fun a x b y e hy=>hh (z::a) x b y (by rw [e];rfl) hy⟩
theorem GL {Q:Nat→Nat→Prop} {l a b:List Nat} {x y:Nat} (hp:l.Pairwise Q) (e:l=a++x::b) (hy:y∈b):Q x y:=by subst e;rw [List.pairwise_append] at hp;exact (pairwise_cons.1 hp.2.1).1 y hy
theorem sort_to {σ:Type} (f:Nat→σ→Option σ) (m:Nat) (T l:List Nat) (hT:T.Perm (List.range m)) (hn:l.Nodup) (hm:∀i,i∈l↔i<m)
  (hc:∀l1 x l2 y,l=l1++x::l2→y∈l2→T.idxOf y<T.idxOf x→∀s,(f x s).bind (f y)=(f y s).bind (f x)) (s:σ) :
  l.foldlM (fun s i=>f i s) s=T.foldlM (fun s i=>f i s) s:=by
 have hTn:T.Nodup:=hT.nodup_iff.2 nodup_range;have hTl:T.length=m:=by rw [hT.length_eq,length_range]
 have hTm:∀i,i∈T↔i<m:=fun i=>by rw [hT.mem_iff,mem_range]
 have hget:∀x,x<m→T.getD (T.idxOf x) 0=x:=fun x hx=>by have hlt:=List.idxOf_lt_length_of_mem ((hTm x).2 hx);rw [getD_eq_getElem?_getD,getElem?_eq_getElem hlt,Option.getD_some];exact List.getElem_idxOf hlt
 have hidx:∀k,k<m→T.idxOf (T.getD k 0)=k:=fun k hk=>by rw [getD_eq_getElem?_getD,getElem?_eq_getElem (by omega),Option.getD_some];exact hTn.idxOf_getElem k (by omega)
 have key:=FJ (fun k=>f (T.getD k 0)) m (l.map T.idxOf) ?_ ?_ ?_ s
 ·rw [List.foldlM_map] at key;have e1:∀(q:List Nat),(∀i∈q,i<m)→∀s,q.foldlM (fun s i=>f (T.getD (T.idxOf i) 0) s) s=q.foldlM (fun s i=>f i s) s:=by
   intro q
   induction q with
   |nil=>intro _ s;rfl
   |cons x q ih=>
    intro hq s;rw [foldlM_cons,foldlM_cons,hget x (hq x (by simp))];congr 1;funext s';exact ih (fun i hi=>hq i (by simp [hi])) s'
  rw [e1 l (fun i hi=>(hm i).1 hi)] at key;rw [key];have e2:T=(List.range m).map fun k=>T.getD k 0:=by
   apply ext_getElem?;intro k;rw [getElem?_map];by_cases hk:k<m
   ·rw [getElem?_range hk,getElem?_eq_getElem (by omega),map_some,getD_eq_getElem?_getD,getElem?_eq_getElem (by omega),Option.getD_some]
   ·rw [getElem?_eq_none (by omega),getElem?_eq_none (by simp;omega),map_none]
  conv=>rhs;rw [e2]
  rw [List.foldlM_map]
 ·rw [List.nodup_iff_pairwise_ne,List.pairwise_map];refine (List.nodup_iff_pairwise_ne.1 hn).imp_of_mem fun {a b} ha hb hab e=>hab ?_;rw [← hget a ((hm a).1 ha),← hget b ((hm b).1 hb),e]
 ·intro k;rw [mem_map];constructor
  ·rintro ⟨x,hx,rfl⟩
   have:=List.idxOf_lt_length_of_mem ((hTm x).2 ((hm x).1 hx));omega
  ·intro hk;refine ⟨T.getD k 0,(hm _).2 ((hTm _).1 ?_),hidx k hk⟩;rw [getD_eq_getElem?_getD,getElem?_eq_getElem (by omega),Option.getD_some];exact getElem_mem _
 ·intro l1 x l2 y e hy hlt s;obtain ⟨a1,a2,rfl,rfl,e2⟩:=List.map_eq_append_iff.1 e;obtain ⟨z,b2,rfl,rfl,rfl⟩:=List.map_eq_cons_iff.1 e2;obtain ⟨w,hw,rfl⟩:=mem_map.1 hy;have hz:=(hm z).1 (by simp);have hwm:=(hm w).1 (by simp [hw]);simp only [hget z hz,hget w hwm];exact hc a1 z b2 w rfl hw hlt s
theorem Tj {b:List Nat}:∀{T:List Nat} {x y:Nat},RM b T=true→x∈T→y∈T→T.idxOf y<T.idxOf x→¬(b.getD y 0).testBit x=true
 |[],_,_,_,hx,_,_=>by cases hx
 |z::T,x,y,ho,hx,hy,hlt=>by
  simp only [RM,and_eq_true,all_eq_true,not_eq_true'] at ho;by_cases hyz:z=y
  ·subst hyz;rcases mem_cons.1 hx with rfl|hx
   ·omega
   ·rw [ho.1 x hx];exact Bool.false_ne_true
  ·by_cases hxz:z=x
   ·subst hxz;rw [List.idxOf_cons_self] at hlt;omega
   ·have e1:(z::T).idxOf y=T.idxOf y+1:=by rw [List.idxOf_cons,beq_false_of_ne hyz];rfl
    have e2:(z::T).idxOf x=T.idxOf x+1:=by rw [List.idxOf_cons,beq_false_of_ne hxz];rfl
    rw [e1,e2] at hlt;refine Tj ho.2 ?_ ?_ (by omega)
    ·exact (mem_cons.1 hx).resolve_left fun e=>hxz e.symm
    ·exact (mem_cons.1 hy).resolve_left fun e=>hyz e.symm
theorem LD {l l1 l2:List Nat} {x y:Nat} (e:l=l1++x::l2) (hn:l.Nodup) (hy:y∈l2):l.idxOf x<l.idxOf y:=by
 subst e;rw [nodup_append,nodup_cons] at hn;obtain ⟨n1,⟨n2,n3⟩,n4⟩:=hn;have hx1:x∉l1:=fun h=>n4 x h x (by simp) rfl;have hy1:y∉l1:=fun h=>n4 y h y (by simp [hy]) rfl;have hxy:x≠y:=fun h=>n2 (h ▸ hy);have e1:(x::l2).idxOf y=l2.idxOf y+1:=by rw [List.idxOf_cons,beq_false_of_ne hxy];rfl
 rw [List.idxOf_append,List.idxOf_append,if_neg hx1,if_neg hy1,List.idxOf_cons_self,e1];omega
theorem Kq {C:Cfg} {rec:Rec} {pc:A4} (hrec:DL C.P rec) (hpc:Bn C.P pc) (hmix:C.P.follows .mixedOrders=true) {id:Nat} {ops:Array Oper} {K:Env→Heap→Option R} {r:R} {S:List Nat} {m i0 j0:Nat}
  (hp:QC C ops (AN ops) m i0 j0=true) (hff:DE (AN ops) ops.size m=true) (hed:Fk ops=true) (hle:m≤ops.size)
  (hA:BQ C rec pc N ops S (Ai C ops (AN ops) m) (List.range m) env h (fun env' h'=>Da C rec pc N false ops (ops.toList.drop m) env' h' K)=some r)
  (hB:BQ C rec pc N ops S (Ai C ops (AN ops) m) (Hq (AN ops) m i0 j0) env h (fun env' h'=>Da C rec pc N false ops (ops.toList.drop m) env' h' K)=some r)
  (hr:Rel B N κ env h a w) (Q:Exit→Act→World→Prop) (n:Nat) (ro:Option Nat)
  (hn:I3 B N κ h w false ops.toList env a K r fun a' w'=>Q .normal a' w'):(Code.region id ops true).wpIn (Fr ro) n C.P Q a w:=by
 unfold QC at hp;simp only [and_eq_true,decide_eq_true_eq] at hp;obtain ⟨hdo,hperm,hord,hidx⟩:=hp;have hT:=List.isPerm_iff.1 hperm;generalize Hq (AN ops) m i0 j0=T at *;refine wpIn_region_draw fun t => ?_;have hsch:Region.schedule (C.P.follows .mixedOrders) ops t=Region.linearise .any ops t:=by simp only [Region.schedule,hmix,Bool.true_or,if_true]
 rw [hsch];obtain ⟨p1,p2,p3,p4⟩:=GC hed (EC ops t) (fun i hi=>by cases hi);obtain ⟨lp,hL,hlpn,hlpm⟩:=Eu (n:=m) (ops.size-m) (Region.linearise .any ops t) p1 (fun i=>by
  constructor
  ·intro hi;have:=(p2 i hi).2;omega
  ·intro hi;exact (p3 i (by omega)).resolve_left (by simp)) (fun l1 x l2 e hx y hy=>by
   have hxs:x<ops.size:=(p2 x (by rw [e];simp)).2;have h1:=(all_eq_true.1 hff) x (mem_range.2 hxs);have h2:(AN ops).getD x 0=2 ^ x-1:=by simp only [or_eq_true,decide_eq_true_eq,beq_iff_eq] at h1;exact h1.resolve_left (by omega)
   refine (p4 l1 x l2 e y ?_).resolve_left (by simp);rw [h2,Nat.testBit_two_pow_sub_one];simpa using hy)
 rw [hL];let g:Nat→Oper:=fun i=>ops.getD i default;have hlt:∀i∈lp,i<ops.size:=fun i hi=>by have:=(hlpm i).1 hi;omega
 have hpair:∀x y,x<m→y<x→¬((AN ops).getD x 0).testBit y=true→¬(y=i0∧x=j0)→
   (A7 C ops y&&A7 C ops x)=false∧(∀d,(g y).dst=some d→d∉(g x).looksAt ops)∧(∀d,(g y).dst=some d→(g x).dst≠some d)∧(∀d,(g x).dst=some d→d∉(g y).looksAt ops)∧
   (A7 C ops x=true→Ai C ops (AN ops) m y=true)∧(A7 C ops y=true→Ai C ops (AN ops) m x=true):=fun x y hx hlt2 h2 hne=>by
  have h1:=(all_eq_true.1 ((all_eq_true.1 hdo) x (mem_range.2 hx))) y (mem_range.2 hlt2);have ex:=Am (show x<ops.size by omega);have ey:=Am (show y<ops.size by omega);rw [ex,ey] at h1;simp only [or_eq_true,and_eq_true,not_eq_true',beq_iff_eq] at h1;obtain ⟨hnl,hap⟩:=h1.resolve_left (fun h=>h.elim h2 hne);obtain ⟨q1,q2,q3⟩:=Oper.apart_spec hap;have hun:DP (AN ops) x y=true:=by unfold DP;rw [if_neg (by omega)];simpa using h2
  have hun':DP (AN ops) y x=true:=by unfold DP;rw [if_pos hlt2];simpa using h2
  refine ⟨hnl,q1,q2,q3,fun hlx => ?_,fun hly => ?_⟩
  ·unfold Ai;refine any_eq_true.2 ⟨x,mem_range.2 hx,?_⟩;simp only [and_eq_true,bne_iff_ne];exact ⟨⟨hlx,by omega⟩,hun'⟩
  ·unfold Ai;refine any_eq_true.2 ⟨y,mem_range.2 (by omega),?_⟩;simp only [and_eq_true,bne_iff_ne];exact ⟨⟨hly,by omega⟩,hun⟩
 have hopen:lp.Pairwise fun x y=>y<x→¬((AN ops).getD x 0).testBit y=true:=OT lp fun l1 x l2 y e hy hlt2 hb=>by have:=(p4 l1 x (l2++List.range' m (ops.size-m)) (by rw [hL,e];simp) y hb).resolve_left (by simp);rw [e,nodup_append] at hlpn;exact hlpn.2.2 y this y (by simp [hy]) rfl
 have hcom:∀x y,x<m→y<x→¬((AN ops).getD x 0).testBit y=true→¬(y=i0∧x=j0)→∀s:Env×Heap,(Aj C rec pc N ops S (Ai C ops (AN ops) m) x s).bind (Aj C rec pc N ops S (Ai C ops (AN ops) m) y)=(Aj C rec pc N ops S (Ai C ops (AN ops) m) y s).bind (Aj C rec pc N ops S (Ai C ops (AN ops) m) x):=fun x y hx hlt2 h2 hne s=>by
  obtain ⟨hnl,q1,q2,q3,n1,n2⟩:=hpair x y hx hlt2 h2 hne;have ex:=Am (show x<ops.size by omega);have ey:=Am (show y<ops.size by omega);have lx:A7 C ops x=(Ad C (g x).op||B3 C (g x).op):=by unfold A7;rw [ex]
  have ly:A7 C ops y=(Ad C (g y).op||B3 C (g y).op):=by unfold A7;rw [ey]
  cases hlx:Ad C (g x).op with
  |true=>
   have hlx':A7 C ops x=true:=by rw [lx,hlx];rfl
   have hly:Ad C (g y).op=false:=by rw [hlx',Bool.and_true,ly,or_eq_false_iff] at hnl;exact hnl.1
   exact DI C rec pc N ops S _ ex ey q3 (fun d hd hd2=>q2 d hd2 hd) q1 hlx hly (n1 hlx') s
  |false=>
   cases hly:Ad C (g y).op with
   |true=>exact (DI C rec pc N ops S _ ey ex q1 q2 q3 hly hlx (n2 (by rw [ly,hly];rfl)) s).symm
   |false=>exact (Fa C rec pc N ops S _ ey ex q1 q2 q3 hly hlx s).symm
 have hsub:∀(l:List Nat),(∀i∈l,i<ops.size)→∀i,i∉ops.toList.filterMap (·.dst)→i∉(l.map g).filterMap (·.dst):=fun l hl i hni hm=>hni (by rw [mem_filterMap] at hm ⊢;obtain ⟨o,ho,hd⟩:=hm;obtain ⟨x,hx,rfl⟩:=mem_map.1 ho;refine ⟨g x,?_,hd⟩;have:=Am (hl x hx);exact mem_of_getElem? (i:=x) (by rw [getElem?_toList];exact this))
 have hrest:∀env1 h1 κ1 a1 w1,Da C rec pc N false ops (ops.toList.drop m) env1 h1 K=some r→Rel B N κ1 env1 h1 a1 w1→Ext κ h w κ1 h1 w1→(∀i,i∉ops.toList.filterMap (·.dst)→env1 i=env i)→a1.defers=a.defers→
   wpOpsIn (Fr ro) n C.P ops Q (List.range' m (ops.size-m)) a1 w1:=fun env1 h1 κ1 a1 w1 k1 k2 k3 k4 k5=>by
  have:=HA hrec hpc ops Q n ro [] (ops.toList.drop m) (List.range' m (ops.size-m)) (by simp) (fun j i o hj ho=>by
   have hjl:j<ops.size-m:=by simpa using AO hj
   rw [List.getElem?_range' hjl] at hj;cases hj;rw [getElem?_drop] at ho;simpa using ho) k1 k2 (fun env2 h2 κ2 a2 w2 j1 j2 j3 j4 j5 j6=>by
    refine hn env2 h2 κ2 a2 w2 j1 j2 (k3.trans j3) (fun i hni => ?_) (j5.trans k5) (fun e=>by cases e);have hsub1:i∉(ops.toList.drop m).filterMap (·.dst):=fun hm=>hni (by rw [mem_filterMap] at hm ⊢;obtain ⟨o,ho,hd⟩:=hm;exact ⟨o,mem_of_mem_drop ho,hd⟩)
    exact (j4 i hsub1).trans (k4 i hni))
  simpa using this
 have hx0:=Gd hr.heap;have hfinish:BQ C rec pc N ops S (Ai C ops (AN ops) m) lp env h (fun env' h'=>Da C rec pc N false ops (ops.toList.drop m) env' h' K)=some r→wpOpsIn (Fr ro) n C.P ops Q (lp++List.range' m (ops.size-m)) a {w with drawn:=w.drawn+1}:=fun hk2=>by refine CF hrec hpc ops S _ Q n ro (List.range' m (ops.size-m)) lp hk2 (IN hr) fun env1 h1 κ1 a1 w1 k1 k2 k3 k4 k5 k6 => ?_;exact hrest env1 h1 κ1 a1 w1 k1 k2 (hx0.trans k3) (fun i hni=>k4 i (hsub lp hlt i hni)) k5
 by_cases hcls:lp.idxOf i0<lp.idxOf j0
 ·have hrun:∀s:Env×Heap,lp.foldlM (fun s i=>Aj C rec pc N ops S (Ai C ops (AN ops) m) i s) s=(List.range m).foldlM (fun s i=>Aj C rec pc N ops S (Ai C ops (AN ops) m) i s) s:=fun s=>
   FJ (fun i s=>Aj C rec pc N ops S (Ai C ops (AN ops) m) i s) m lp hlpn hlpm (fun b1 x b2 y e2 hy hlt2 s=>
    hcom x y ((hlpm x).1 (by rw [e2];simp)) hlt2 (GL hopen e2 hy hlt2) (fun hh=>by have:=LD e2 hlpn hy;rw [hh.1,hh.2] at this;omega) s) s
  refine hfinish ?_;rw [A0] at hA ⊢;rw [hrun];exact hA
 ·have hrun:∀s:Env×Heap,lp.foldlM (fun s i=>Aj C rec pc N ops S (Ai C ops (AN ops) m) i s) s=T.foldlM (fun s i=>Aj C rec pc N ops S (Ai C ops (AN ops) m) i s) s:=fun s=>
   sort_to (fun i s=>Aj C rec pc N ops S (Ai C ops (AN ops) m) i s) m T lp hT hlpn hlpm (fun b1 x b2 y e2 hy hlt2 s=>by
    have hx:=(hlpm x).1 (by rw [e2];simp);have hy':=(hlpm y).1 (by rw [e2];simp [hy]);have hib:=LD e2 hlpn hy;rcases Nat.lt_trichotomy y x with hyx|hyx|hyx
    ·exact hcom x y hx hyx (GL hopen e2 hy hyx) (fun hh=>by rw [hh.1,hh.2] at hlt2;omega) s
    ·subst hyx;rfl
    ·refine (hcom y x hy' hyx (Tj hord (hT.mem_iff.2 (mem_range.2 hx)) (hT.mem_iff.2 (mem_range.2 hy')) hlt2) (fun hh => ?_) s).symm;rw [hh.1,hh.2] at hib;exact hcls hib) s
  refine hfinish ?_;rw [A0] at hB ⊢;rw [hrun];exact hB
theorem Ew {σ:Type} (f:Nat→σ→Option σ) (p:Nat→Bool):∀(l:List Nat) (s:σ),l.foldlM (fun s i=>if p i=true then f i s else some s) s=(l.filter p).foldlM (fun s i=>f i s) s
 |[],s=>rfl
 |x::l,s=>by
  by_cases hx:p x=true
  ·rw [filter_cons_of_pos hx,foldlM_cons,foldlM_cons,if_pos hx];congr 1;funext s';exact Ew f p l s'
  ·rw [filter_cons_of_neg hx,foldlM_cons,if_neg hx];exact Ew f p l s
theorem IH {σ:Type} (f:Nat→σ→Option σ) (p:Nat→Bool) (lo hi:Nat) (lp:List Nat) (hn:lp.Nodup) (hm:∀i,i∈lp↔lo≤i∧i<hi) (hle:lo≤hi) (hp:∀i,p i=true→lo≤i)
  (hcom:lp.Pairwise fun x y=>y<x→p x=true→p y=true→∀s,(f x s).bind (f y)=(f y s).bind (f x)) (s:σ) :
  (lp.filter p).foldlM (fun s i=>f i s) s=((List.range hi).filter p).foldlM (fun s i=>f i s) s:=by
 have hf0:(List.range lo).filter p=[]:=by rw [List.filter_eq_nil_iff];intro i hi;have:=mem_range.1 hi;intro h;have:=hp i h;omega
 have e:lp.filter p=(List.range lo++lp).filter p:=by rw [filter_append,hf0,nil_append]
 rw [e,← Ew,← Ew];have hpw:(List.range lo++lp).Pairwise fun x y=>y<x→∀s,(if p x=true then f x s else some s).bind (fun s=>if p y=true then f y s else some s)=(if p y=true then f y s else some s).bind (fun s=>if p x=true then f x s else some s):=by
  have htriv:∀x y,¬(p x=true∧p y=true)→∀s,(if p x=true then f x s else some s).bind (fun s=>if p y=true then f y s else some s)=(if p y=true then f y s else some s).bind (fun s=>if p x=true then f x s else some s):=fun x y h s=>by
   by_cases hx:p x=true
   ·by_cases hy:p y=true
    ·exact absurd ⟨hx,hy⟩ h
    ·simp only [hx,hy,if_true,false_eq_true,if_false,Option.bind_some];cases f x s<;>rfl
   ·simp only [hx,false_eq_true,if_false,Option.bind_some];cases (if p y=true then f y s else some s)<;>rfl
  rw [List.pairwise_append];refine ⟨?_,?_,?_⟩
  ·refine List.Pairwise.imp_of_mem (R:=fun _ _=>True) (fun {x y} hx hy _ _=>htriv x y fun h => ?_) (List.pairwise_of_forall fun _ _=>trivial);have:=hp x h.1;have:=mem_range.1 hx;omega
  ·refine hcom.imp fun {x y} h hlt => ?_;by_cases hb:p x=true∧p y=true
   ·intro s;have:=h hlt hb.1 hb.2 s;simp only [hb.1,hb.2,if_true];exact this
   ·exact htriv x y hb
  ·intro x hx y hy _;refine htriv x y fun h => ?_;have:=hp x h.1;have:=mem_range.1 hx;omega
 refine FJ (fun i s=>if p i=true then f i s else some s) hi (List.range lo++lp) ?_ ?_ (fun l1 x l2 y e hy hlt s=>GL hpw e hy hlt s) s
 ·rw [nodup_append];refine ⟨nodup_range,hn,fun x hx y hy h => ?_⟩;have:=mem_range.1 hx;have:=(hm y).1 hy;omega
 ·intro i;rw [mem_append,mem_range,hm];omega
theorem Sf {R:Type} {x y:AQ} {a:Option R} {r:R} (h:DM x y a=some r):x=y∧a=some r:=by
 unfold DM at h;by_cases hxy:x=y
 ·rw [if_pos hxy] at h;exact ⟨hxy,h⟩
 ·rw [if_neg hxy] at h;cases h
theorem CR {R:Type} (x:AQ) (a:Option R):DM x x a=a:=by unfold DM;exact if_pos rfl
theorem Pz {R:Type} {h h':Heap} {i:Nat} {a:Option R} {r:R} (hs:ML h h' i a=some r):(At h' i=At h i∧ob i<h'.length)∧a=some r∧∀b:Option R,ML h h' i b=b:=by
 unfold ML at hs;split at hs
 ·rename_i x y h1 h2;obtain ⟨e,h3⟩:=Sf hs;subst e;refine ⟨⟨h2.trans h1.symm,Ue h2⟩,h3,fun b => ?_⟩;unfold ML;rw [h1,h2];exact CR x b
 ·cases hs
theorem DS {R:Type} {h h':Heap}:∀{S:List Nat} {a:Option R} {r:R},Dw h h' S a=some r→(∀i∈S,At h' i=At h i∧ob i<h'.length)∧a=some r∧∀b:Option R,Dw h h' S b=b
 |[],a,r,hs=>⟨fun _ hi=>(by cases hi),hs,fun _=>rfl⟩
 |i::S,a,r,hs=>by
  obtain ⟨h1,h2,h3⟩:=Pz hs;obtain ⟨k1,k2,k3⟩:=DS h2;refine ⟨fun j hj => ?_,k2,fun b => ?_⟩
  ·rcases mem_cons.1 hj with rfl|hj
   ·exact h1
   ·exact k1 j hj
  ·show ML h h' i (Dw h h' S b)=b;rw [k3,h3]
theorem K9 {C:Cfg} {rec:Rec} {pc:A4} {N:Nat} {ops:Array Oper} {S:List Nat} {nf:Nat→Bool} {o:Oper} {l1 l2:List Nat} {env:Env} {h:Heap} {K:Env→Heap→Option R} {r:R} (hcg:∀(env' env1:Env) (h1:Heap) (K1:AV→Heap→Option R),(∀x∈o.op.operands,ev env1 x=ev env' x)→Aa C rec pc false env1 h1 o.op K1=Aa C rec pc false env' h1 o.op K1)
  (hq:∀y∈l2,∃o',ops[y]? = some o'∧Ad C o'.op=false∧nf y=true∧(∀d,o.dst=some d→d∉o'.looksAt ops)∧(∀d,o.dst=some d→o'.dst≠some d)∧∀d,o'.dst=some d→d∉o.looksAt ops)
  (hk:BQ C rec pc N ops S nf (l1++l2) env h (fun env' h'=>LA C rec pc N ops S o env' h' K)=some r) :
  Ir N o=true∧BQ C rec pc N ops S nf l1 env h (fun env1 h1=>FE ops o env1 (fun env1=>Aa C rec pc false env1 h1 o.op fun v h'=>Dw h1 h' S (BQ C rec pc N ops S nf l2 (env1.put o.dst v) h' K))
   (fun env1=>cnd (A8 S h1=true) (BQ C rec pc N ops S nf l2 (env1.put o.dst (.tuple [])) h1 K) none))=some r:=by
 rw [A0,foldlM_append] at hk;rw [A0];cases h1:l1.foldlM (fun s i=>Aj C rec pc N ops S nf i s) (env,h) with
 |none=>rw [h1] at hk;cases hk
 |some s1=>
  rw [h1] at hk;have hk:(l2.foldlM (fun s i=>Aj C rec pc N ops S nf i s) s1).bind (fun s=>LA C rec pc N ops S o s.1 s.2 K)=some r:=hk;cases h2:l2.foldlM (fun s i=>Aj C rec pc N ops S nf i s) s1 with
  |none=>rw [h2] at hk;cases hk
  |some s2=>
   rw [h2] at hk;simp only [Option.bind_some] at hk;obtain ⟨e1,e2,e3⟩:=Hm C rec pc N ops S nf o l2 s1.1 s1.2 s2 hq h2;unfold LA at hk;simp only [AD] at hk;obtain ⟨hd,hk⟩:=AE hk;refine ⟨hd,?_⟩;simp only [Option.bind_some];rw [Oj] at hk ⊢;rw [LG ops o e2] at hk;cases hgv:MA ops o s1.1 with
   |none=>rw [hgv] at hk;cases hk
   |some bb=>
    rw [hgv] at hk;cases bb with
    |true=>
     simp only [Option.bind_some,if_true] at hk ⊢;rw [e1,hcg s1.1 s2.1 _ _ (K7 ops o e2)] at hk;rw [← hk];congr 1;funext v h';have key:∀q,Dw s1.2 h' S (BQ C rec pc N ops S nf l2 (s1.1.put o.dst v) h' K)=some q↔Dw s1.2 h' S (K (s2.1.put o.dst v) h')=some q:=by
      have hback:(∀i∈S,At h' i=At s1.2 i∧ob i<h'.length)→BQ C rec pc N ops S nf l2 (s1.1.put o.dst v) h' K=K (s2.1.put o.dst v) h':=fun hall=>by
       have hi':A8 S h'=true:=by unfold A8;rw [all_eq_true];intro i hi;simpa using (hall i hi).2
       have hi:A8 S s1.2=true:=by unfold A8;rw [all_eq_true];intro i hi;have h3:=hall i hi;simpa using Mz h3.1 h3.2
       rw [A0,e3 v h' hi' hi fun i hi=>(hall i hi).1];rfl
      intro q;constructor
      ·intro hs;obtain ⟨k1,k2,k3⟩:=DS hs;rw [k3,← hback k1];exact k2
      ·intro hs;obtain ⟨k1,k2,k3⟩:=DS hs;rw [k3,hback k1];exact k2
     cases hA:Dw s1.2 h' S (BQ C rec pc N ops S nf l2 (s1.1.put o.dst v) h' K) with
     |some q=>exact ((key q).1 hA).symm
     |none=>
      cases hB:Dw s1.2 h' S (K (s2.1.put o.dst v) h') with
      |none=>rfl
      |some q=>rw [(key q).2 hB] at hA;cases hA
    |false=>
     simp only [Option.bind_some,false_eq_true,if_false,AD] at hk ⊢;obtain ⟨hin,hk⟩:=AE hk;rw [e1] at hin hk;rw [if_pos hin,A0,e3 (.tuple []) s1.2 hin hin fun _ _=>rfl];exact hk
theorem JS {σ:Type} (f:Nat→σ→Option σ) (p:Nat→Bool):∀(l:List Nat),(l.Pairwise fun x y=>p x=false→p y=true→∀s,(f x s).bind (f y)=(f y s).bind (f x))→∀s,
  (l.filter p++l.filter fun i => !p i).foldlM (fun s i=>f i s) s=l.foldlM (fun s i=>f i s) s
 |[],_,s=>rfl
 |x::l,hp,s=>by
  obtain ⟨h1,h2⟩:=pairwise_cons.1 hp;cases hx:p x with
  |true=>
   rw [filter_cons_of_pos hx,filter_cons_of_neg (by simp [hx]),cons_append,foldlM_cons,foldlM_cons];congr 1;funext s';exact JS f p l h2 s'
  |false=>
   rw [filter_cons_of_neg (by simp [hx]),filter_cons_of_pos (by simp [hx]),foldlM_cons];have e0:(f x s).bind (fun s'=>l.foldlM (fun s i=>f i s) s')=(f x s).bind fun s'=>(l.filter p++l.filter fun i => !p i).foldlM (fun s i=>f i s) s':=by congr 1;funext s';exact (JS f p l h2 s').symm
   show _=(f x s).bind fun s'=>l.foldlM (fun s i=>f i s) s';rw [e0];have key:∀(q:List Nat),(∀y∈q,∀s,(f x s).bind (f y)=(f y s).bind (f x))→∀(t:List Nat) s,(q++x::t).foldlM (fun s i=>f i s) s=(f x s).bind fun s'=>(q++t).foldlM (fun s i=>f i s) s':=by
    intro q
    induction q with
    |nil=>intro _ t s;rfl
    |cons y q ih=>
     intro hq t s;rw [cons_append,foldlM_cons];have e1:(f x s).bind (fun s'=>(y::q++t).foldlM (fun s i=>f i s) s')=((f x s).bind (f y)).bind fun s'=>(q++t).foldlM (fun s i=>f i s) s':=by rw [bind_assoc];rfl
     rw [e1,hq y (by simp),bind_assoc];show (f y s).bind _=(f y s).bind _;congr 1;funext s';exact ih (fun z hz=>hq z (by simp [hz])) t s'
   refine key _ (fun y hy s => ?_) _ s;rw [mem_filter] at hy;exact h1 y hy.1 hx hy.2 s
theorem Ti {C:Cfg} {rec:Rec} {pc:A4} (hrec:DL C.P rec) (hpc:Bn C.P pc) {ops:Array Oper} {K:Env→Heap→Option R} {r:R} {lo hi m:Nat} {u:Option Nat} {S:List Nat} {o:Oper} (hle:hi≤ops.size) (hlo:lo≤hi) (ho:ops[m]? = some o)
  (lp:List Nat) (hlpn:lp.Nodup) (hlpm:∀i,i∈lp↔lo≤i∧i<hi) (hopen:lp.Pairwise fun x y=>y<x→¬((AN ops).getD x 0).testBit y=true)
  (hso:QD C ops (AN ops) lo hi m u=true) (hcv:Ih o.op=true)
  (hkA:QE C rec pc N ops (AN ops) lo hi m none S (nf3 C ops (AN ops) lo hi (some m)) o env h K=some r)
  (hkB:∀u',u=some u'→QE C rec pc N ops (AN ops) lo hi m (some u') S (nf3 C ops (AN ops) lo hi (some m)) o env h K=some r)
  (hr:Rel B N κ env h a w) (Q:Exit→Act→World→Prop) (n:Nat) (ro:Option Nat) (rest:List Nat)
  (hcont:∀env1 h1 κ1 a1 w1,K env1 h1=some r→Rel B N κ1 env1 h1 a1 w1→Ext κ h w κ1 h1 w1→(∀i,i∉ops.toList.filterMap (·.dst)→env1 i=env i)→a1.defers=a.defers→wpOpsIn (Fr ro) n C.P ops Q rest a1 w1) :
  wpOpsIn (Fr ro) n C.P ops Q (lp++rest) a w:=by
 let g:Nat→Oper:=fun i=>ops.getD i default;have hlt:∀i∈lp,i<ops.size:=fun i hi=>by have:=(hlpm i).1 hi;omega
 have hsub:∀(l:List Nat),(∀i∈l,i<ops.size)→∀i,i∉ops.toList.filterMap (·.dst)→i∉(l.map g).filterMap (·.dst):=fun l hl i hni hm=>hni (by rw [mem_filterMap] at hm ⊢;obtain ⟨o,ho,hd⟩:=hm;obtain ⟨x,hx,rfl⟩:=mem_map.1 ho;refine ⟨g x,?_,hd⟩;have:=Am (hl x hx);exact mem_of_getElem? (i:=x) (by rw [getElem?_toList];exact this))
 unfold QD at hso;simp only [and_eq_true,decide_eq_true_eq] at hso;obtain ⟨hps,⟨hm1,hm2⟩,hbits,hdn,hdu⟩:=hso;have hbitm:∀i,i<hi→i≤m→¬((AN ops).getD i 0).testBit m=true:=fun i hi1 him=>by have:=(all_eq_true.1 hbits) i (mem_range.2 hi1);simp only [and_eq_true,or_eq_true,decide_eq_true_eq] at this;simpa using this.1.resolve_left (by omega)
 have hbitu:∀u',u=some u'→∀i,i<hi→i≤u'→¬((AN ops).getD i 0).testBit u'=true:=fun u' hu i hi1 hiu=>by have:=(all_eq_true.1 hbits) i (mem_range.2 hi1);rw [hu] at this;simp only [and_eq_true,or_eq_true,decide_eq_true_eq] at this;simpa using this.2.resolve_left (by omega)
 have hpair:∀x y,x<hi→lo≤y→y<x→¬((AN ops).getD x 0).testBit y=true→JU m u y x=false→
   (CB C ops (some m) y&&CB C ops (some m) x)=false∧(∀d,(g y).dst=some d→d∉(g x).looksAt ops)∧(∀d,(g y).dst=some d→(g x).dst≠some d)∧(∀d,(g x).dst=some d→d∉(g y).looksAt ops)∧
   (CB C ops (some m) x=true→nf3 C ops (AN ops) lo hi (some m) y=true)∧(CB C ops (some m) y=true→nf3 C ops (AN ops) lo hi (some m) x=true):=fun x y hx hloy hlt2 h2 hip=>by
  have h0:=(all_eq_true.1 hps) x (mem_range.2 hx);rw [or_eq_true] at h0;have h1:=h0.resolve_left (by simp;omega);have h1:=(all_eq_true.1 h1) y (mem_range.2 hlt2);have ex:=Am (show x<ops.size by omega);have ey:=Am (show y<ops.size by omega);rw [ex,ey,hip] at h1;simp only [or_eq_true,and_eq_true,not_eq_true',decide_eq_true_eq,false_eq_true,false_or] at h1;obtain ⟨hnl,hap⟩:=(h1.resolve_left (by omega)).resolve_left h2;obtain ⟨q1,q2,q3⟩:=Oper.apart_spec hap;have hun:DP (AN ops) x y=true:=by unfold DP;rw [if_neg (by omega)];simpa using h2
  have hun':DP (AN ops) y x=true:=by unfold DP;rw [if_pos hlt2];simpa using h2
  refine ⟨hnl,q1,q2,q3,fun hlx => ?_,fun hly => ?_⟩
  ·unfold nf3;refine any_eq_true.2 ⟨x,mem_range.2 hx,?_⟩;simp only [and_eq_true,bne_iff_ne,decide_eq_true_eq];exact ⟨by omega,⟨hlx,by omega⟩,hun'⟩
  ·unfold nf3;refine any_eq_true.2 ⟨y,mem_range.2 (by omega),?_⟩;simp only [and_eq_true,bne_iff_ne,decide_eq_true_eq];exact ⟨by omega,⟨hly,by omega⟩,hun⟩
 generalize hnf:nf3 C ops (AN ops) lo hi (some m)=nf at *;have hcom:∀x y,x<hi→lo≤y→y<x→¬((AN ops).getD x 0).testBit y=true→x≠m→y≠m→∀s:Env×Heap,(Aj C rec pc N ops S nf x s).bind (Aj C rec pc N ops S nf y)=(Aj C rec pc N ops S nf y s).bind (Aj C rec pc N ops S nf x):=fun x y hx hloy hlt2 h2 hxm hym s=>by
  obtain ⟨hnl,q1,q2,q3,n1,n2⟩:=hpair x y hx hloy hlt2 h2 (by
   unfold JU;cases u with
   |none=>rfl
   |some u=>simp [hxm,hym])
  have ex:=Am (show x<ops.size by omega);have ey:=Am (show y<ops.size by omega);have l3:∀z,z<ops.size→Ad C (g z).op=true→CB C ops (some m) z=true:=fun z hz hl=>by unfold CB A7;rw [Am hz];have hl':Ad C (ops.getD z default).op=true:=hl;show ((Ad C (ops.getD z default).op||B3 C (ops.getD z default).op)||_)=true;rw [hl'];rfl
  cases hlx:Ad C (g x).op with
  |true=>
   have hlx':=l3 x (by omega) hlx;have hly:Ad C (g y).op=false:=by
    cases hly:Ad C (g y).op with
    |false=>rfl
    |true=>
     rw [hlx',l3 y (by omega) hly] at hnl;cases hnl
   exact DI C rec pc N ops S _ ex ey q3 (fun d hd hd2=>q2 d hd2 hd) q1 hlx hly (n1 hlx') s
  |false=>
   cases hly:Ad C (g y).op with
   |true=>exact (DI C rec pc N ops S _ ey ex q1 q2 q3 hly hlx (n2 (l3 y (by omega) hly)) s).symm
   |false=>exact (Fa C rec pc N ops S _ ey ex q1 q2 q3 hly hlx s).symm
 obtain ⟨l1,l2,e⟩:=append_of_mem ((hlpm m).2 ⟨hm1,hm2⟩);have hn':=hlpn;rw [e,nodup_append,nodup_cons] at hn';obtain ⟨n1,⟨n2,n3⟩,n4⟩:=hn';obtain ⟨v,hkv,hvu,hv2,hdv⟩:∃v:Option Nat,QE C rec pc N ops (AN ops) lo hi m v S nf o env h K=some r∧(∀u',u=some u'→u'∈l2→v=some u')∧(∀u',v=some u'→u=some u'∧u'∈l2)∧QY (AN ops) lo hi m v=true:=by
  cases hu:u with
  |none=>exact ⟨none,hkA,(fun u' e=>by cases e),(fun u' e=>by cases e),hdn⟩
  |some u'=>
   rw [hu] at hdu;simp only [and_eq_true] at hdu;by_cases hin:u'∈l2
   ·exact ⟨some u',hkB u' hu,(fun q hq _=>hq),(fun q hq=>⟨hq,by cases hq;exact hin⟩),hdu.2⟩
   ·exact ⟨none,hkA,(fun q hq hq2=>by cases hq;exact absurd hq2 hin),(fun q hq=>by cases hq),hdn⟩
 let p:Nat→Bool:=Hy (AN ops) lo m v;have hbef:∀x∈l1,∀y∈m::l2,y<x→¬((AN ops).getD x 0).testBit y=true:=fun x hx y hy=>by have h1:=hopen;rw [e,List.pairwise_append] at h1;exact h1.2.2 x hx y hy
 have hp1:∀x∈l1,p x=true:=fun x hx=>by
  obtain ⟨hx1,hx2⟩:=(hlpm x).1 (by rw [e];simp [hx]);have hxm:x≠m:=fun h=>n4 x hx m (by simp) h;show Hy (AN ops) lo m v x=true;unfold Hy;have b1:((AN ops).getD x 0).testBit m=false:=by
   rcases lt_or_ge m x with hlt3|hge
   ·simpa using hbef x hx m (by simp) hlt3
   ·simpa using hbitm x hx2 hge
  cases hv:v with
  |none=>rw [decide_eq_true hx1,b1,show (x != m)=true from by simpa using hxm];rfl
  |some u'=>
   obtain ⟨hu,hul⟩:=hv2 u' hv;have hxu:x≠u':=fun h=>n4 x hx u' (by simp [hul]) h;have b2:((AN ops).getD x 0).testBit u'=false:=by
    rcases lt_or_ge u' x with hlt3|hge
    ·simpa using hbef x hx u' (by simp [hul]) hlt3
    ·simpa using hbitu u' hu x hx2 hge
   dsimp only;rw [decide_eq_true hx1,b1,b2,show (x != m)=true from by simpa using hxm,show (x != u')=true from by simpa using hxu];rfl
 have hpm:p m=false:=by show Hy (AN ops) lo m v m=false;unfold Hy;simp
 have hpd:∀y,p y=true→lo≤y∧y≠m∧¬((AN ops).getD y 0).testBit m=true∧∀u',v=some u'→y≠u':=fun y hy=>by have hy:Hy (AN ops) lo m v y=true:=hy;unfold Hy at hy;simp only [and_eq_true,decide_eq_true_eq,bne_iff_ne,not_eq_true'] at hy;obtain ⟨h1,h2,h3,h4⟩:=hy;refine ⟨h1,h2,by simpa using h3,fun u' hv => ?_⟩;rw [hv] at h4;simp only [and_eq_true,bne_iff_ne] at h4;exact h4.1
 have hfil:lp.filter p=l1++l2.filter p:=by rw [e,filter_append,filter_cons_of_neg (by simp [hpm]),filter_eq_self.2 hp1]
 have hrun:∀s:Env×Heap,(l1++l2.filter p).foldlM (fun s i=>Aj C rec pc N ops S nf i s) s=((List.range hi).filter p).foldlM (fun s i=>Aj C rec pc N ops S nf i s) s:=fun s=>by rw [← hfil];refine IH (fun i s=>Aj C rec pc N ops S nf i s) p lo hi lp hlpn hlpm hlo (fun i h=>(hpd i h).1) ?_ s;refine hopen.imp_of_mem fun {x y} hx hy h hlt px py s => ?_;exact hcom x y ((hlpm x).1 hx).2 ((hlpm y).1 hy).1 hlt (h hlt) (hpd x px).2.1 (hpd y py).2.1 s
 have hrest:∀i∈l2,(Ep (AN ops) lo m v i=true↔p i=false):=fun i hi2=>by obtain ⟨hx1,_⟩:=(hlpm i).1 (by rw [e];simp [hi2]);have hne:i≠m:=fun h=>n2 (h ▸ hi2);unfold Ep;show _↔Hy (AN ops) lo m v i=false;simp [hx1,hne]
 have hfil2:lp.filter (Ep (AN ops) lo m v)=l2.filter fun i => !p i:=by
  rw [e,filter_append,filter_cons_of_neg (by unfold Ep;simp),List.filter_eq_nil_iff.2 (fun x hx=>by have h1:Hy (AN ops) lo m v x=true:=hp1 x hx;unfold Ep;rw [h1];simp),nil_append]
  refine List.filter_congr fun i hi2 => ?_;rw [Bool.eq_iff_iff,hrest i hi2];simp
 have hrun2:∀s:Env×Heap,(l2.filter p++(List.range hi).filter (Ep (AN ops) lo m v)).foldlM (fun s i=>Aj C rec pc N ops S nf i s) s=l2.foldlM (fun s i=>Aj C rec pc N ops S nf i s) s:=fun s=>by
  have hs:∀s:Env×Heap,(l2.filter fun i => !p i).foldlM (fun s i=>Aj C rec pc N ops S nf i s) s=((List.range hi).filter (Ep (AN ops) lo m v)).foldlM (fun s i=>Aj C rec pc N ops S nf i s) s:=fun s=>by
   rw [← hfil2];refine IH (fun i s=>Aj C rec pc N ops S nf i s) (Ep (AN ops) lo m v) lo hi lp hlpn hlpm hlo (fun i h => ?_) ?_ s
   ·unfold Ep at h;simp only [and_eq_true,decide_eq_true_eq] at h;exact h.1
   ·refine hopen.imp_of_mem fun {x y} hx hy h hlt px py s => ?_;have hne:∀z,Ep (AN ops) lo m v z=true→z≠m:=fun z hz=>by unfold Ep at hz;simp only [and_eq_true,bne_iff_ne] at hz;exact hz.2.1
    exact hcom x y ((hlpm x).1 hx).2 ((hlpm y).1 hy).1 hlt (h hlt) (hne x px) (hne y py) s
  rw [foldlM_append];have h2:=JS (fun i s=>Aj C rec pc N ops S nf i s) p l2 (by
   have h1:=hopen;rw [e,List.pairwise_append] at h1;have h1:=(pairwise_cons.1 h1.2.1).2;refine h1.imp_of_mem fun {x y} hx hy h px py s => ?_;obtain ⟨hx1,hx2⟩:=(hlpm x).1 (by rw [e];simp [hx]);obtain ⟨hy1,hy2⟩:=(hlpm y).1 (by rw [e];simp [hy]);have hxm:x≠m:=fun h=>n2 (h ▸ hx);have hym:y≠m:=fun h=>n2 (h ▸ hy);rcases Nat.lt_trichotomy y x with hlt3|heq|hgt
   ·exact hcom x y hx2 hy1 hlt3 (h hlt3) hxm hym s
   ·subst heq;exact absurd py (by rw [px];simp)
   ·have hd:=(all_eq_true.1 hdv) y (mem_range.2 hy2);have py':Hy (AN ops) lo m v y=true:=py;have px':Hy (AN ops) lo m v x=false:=px;rw [py',Bool.not_true,Bool.false_or] at hd;have hd:=(all_eq_true.1 hd) x (mem_range.2 hx2);rw [px'] at hd;simp only [or_eq_true,decide_eq_true_eq,false_eq_true,false_or] at hd;have hd:=hd.resolve_left (by omega);exact (hcom y x hy2 hx1 hgt (by simpa using hd) hym hxm s).symm) s
  rw [foldlM_append] at h2;rw [← h2];congr 1;funext s';exact (hs s').symm
 have hgo:g m=o:=by have h1:=Am (show m<ops.size by omega);rw [ho] at h1;exact (Option.some.inj h1).symm
 unfold QE at hkv;have hk2:BQ C rec pc N ops S nf (l1++l2.filter p) env h (fun env' h'=>LA C rec pc N ops S o env' h' fun env2 h2=>BQ C rec pc N ops S nf ((List.range hi).filter (Ep (AN ops) lo m v)) env2 h2 K)=some r:=by rw [A0] at hkv ⊢;rw [hrun];exact hkv
 have hlm:CB C ops (some m) m=true:=by unfold CB;simp
 obtain ⟨hd,hk3⟩:=K9 (fun _ _ _ K1 hE=>J5 C rec pc hcv hE K1) (fun y hy=>by
  rw [mem_filter] at hy;obtain ⟨hy,py⟩:=hy;obtain ⟨_,hne,hnm,hnu⟩:=hpd y py;obtain ⟨hy1,hy2⟩:=(hlpm y).1 (by rw [e];simp [hy]);have ey:=Am (show y<ops.size by omega);have hip:JU m u m y=false∧JU m u y m=false:=by
   unfold JU;cases hu:u with
   |none=>exact ⟨rfl,rfl⟩
   |some u'=>
    have:y≠u':=fun h=>hnu u' (hvu u' hu (h ▸ hy)) h;simp [hne,this]
  have hquiet:(CB C ops (some m) y)=false→Ad C (g y).op=false:=fun hq=>by unfold CB A7 at hq;rw [ey] at hq;rw [or_eq_false_iff,or_eq_false_iff] at hq;exact hq.1.1
  rcases Nat.lt_or_gt_of_ne hne with hlt3|hlt3
  ·have hno:=GL hopen e hy hlt3;obtain ⟨hnl,q1,q2,q3,f1,f2⟩:=hpair m y hm2 hy1 hlt3 hno hip.2;rw [hgo] at q1 q2 q3;refine ⟨g y,ey,hquiet ?_,f1 hlm,q3,fun d hd hd2=>q2 d hd2 hd,q1⟩;rw [hlm,Bool.and_true] at hnl;exact hnl
  ·obtain ⟨hnl,q1,q2,q3,f1,f2⟩:=hpair y m hy2 hm1 hlt3 hnm hip.1;rw [hgo] at q1 q2 q3;refine ⟨g y,ey,hquiet ?_,f2 hlm,q1,q2,q3⟩;rw [hlm,Bool.true_and] at hnl;exact hnl) hk2
 have hjoin:∀(e1:Env) (h1:Heap),BQ C rec pc N ops S nf (l2.filter p) e1 h1 (fun env2 h2=>BQ C rec pc N ops S nf ((List.range hi).filter (Ep (AN ops) lo m v)) env2 h2 K)=BQ C rec pc N ops S nf l2 e1 h1 K:=fun e1 h1=>by
  rw [A0,A0,← hrun2,foldlM_append];cases (l2.filter p).foldlM (fun s i=>Aj C rec pc N ops S nf i s) (e1,h1) with
  |none=>rfl
  |some s'=>exact A0 C rec pc N ops S nf _ s'.1 s'.2 K
 have hl1lt:∀i∈l1,i<ops.size:=fun i hi=>hlt i (by rw [e];simp [hi]);have hl2lt:∀i∈l2,i<ops.size:=fun i hi=>hlt i (by rw [e];simp [hi]);have hdm:∀i,i∉ops.toList.filterMap (·.dst)→∀d,o.dst=some d→d≠i:=fun i hni d hd' e'=>hni (by subst e';rw [mem_filterMap];exact ⟨o,mem_of_getElem? (i:=m) (by rw [getElem?_toList];exact ho),hd'⟩)
 rw [e,append_assoc];refine CF hrec hpc ops S _ Q n ro (m::l2++rest) l1 hk3 hr fun env1 h1 κ1 a1 w1 k1 k2 k3 k4 k5 k6 => ?_;simp only [cons_append,wpOpsIn,ho];have hpd:∀val,(a1.put o.dst val).defers=a1.defers:=fun val=>by cases o.dst<;>rfl
 rcases GY k1 k2 with ⟨hw,hk4⟩|⟨hw,hk4⟩
 ·simp only [hw,if_true];refine IF hrec hpc o hk4 k2 _ Q n ro fun v' h' κ' val w' g1 g2 g3 g4 g5 => ?_;obtain ⟨_,g1,_⟩:=DS g1;rw [hjoin] at g1;refine CF hrec hpc ops S _ Q n ro rest l2 g1 (EN k2 g3 g4 g2 o hd) fun env2 h2 κ2 a2 w2 j1 j2 j3 j4 j5 j6 => ?_;refine hcont env2 h2 κ2 a2 w2 j1 j2 ((k3.trans g4).trans j3) (fun i hni => ?_) ((j5.trans (hpd _)).trans k5);exact (j4 i (hsub l2 hl2lt i hni)).trans ((CA fun d hd'=>hdm i hni d hd').trans (k4 i (hsub l1 hl1lt i hni)))
 ·simp only [hw,false_eq_true,if_false];simp only [AD] at hk4;obtain ⟨_,hk4⟩:=AE hk4;rw [hjoin] at hk4;refine ⟨fun _ _=>trivial,?_⟩;refine CF hrec hpc ops S _ Q n ro rest l2 hk4 (EN k2 k2.heap (Ext.refl _ _ _) (.tuple _ _ rfl fun j x hx=>by simp at hx) o hd) fun env2 h2 κ2 a2 w2 j1 j2 j3 j4 j5 j6 => ?_;refine hcont env2 h2 κ2 a2 w2 j1 j2 (k3.trans j3) (fun i hni => ?_) ((j5.trans (hpd _)).trans k5);exact (j4 i (hsub l2 hl2lt i hni)).trans ((CA fun d hd'=>hdm i hni d hd').trans (k4 i (hsub l1 hl1lt i hni)))
theorem seg_ok {C:Cfg} {rec:Rec} {pc:A4} (hrec:DL C.P rec) (hpc:Bn C.P pc) {ops:Array Oper} {K:Env→Heap→Option R} {r:R} {lo hi:Nat} (hle:hi≤ops.size) (hlo:lo≤hi)
  (lp:List Nat) (hlpn:lp.Nodup) (hlpm:∀i,i∈lp↔lo≤i∧i<hi) (hopen:lp.Pairwise fun x y=>y<x→¬((AN ops).getD x 0).testBit y=true)
  (hk:segK C rec pc N ops (AN ops) lo hi env h K=some r) (hr:Rel B N κ env h a w) (Q:Exit→Act→World→Prop) (n:Nat) (ro:Option Nat) (rest:List Nat)
  (hcont:∀env1 h1 κ1 a1 w1,K env1 h1=some r→Rel B N κ1 env1 h1 a1 w1→Ext κ h w κ1 h1 w1→(∀i,i∉ops.toList.filterMap (·.dst)→env1 i=env i)→a1.defers=a.defers→wpOpsIn (Fr ro) n C.P ops Q rest a1 w1) :
  wpOpsIn (Fr ro) n C.P ops Q (lp++rest) a w:=by
 let g:Nat→Oper:=fun i=>ops.getD i default;have hlt:∀i∈lp,i<ops.size:=fun i hi=>by have:=(hlpm i).1 hi;omega
 have hsub:∀(l:List Nat),(∀i∈l,i<ops.size)→∀i,i∉ops.toList.filterMap (·.dst)→i∉(l.map g).filterMap (·.dst):=fun l hl i hni hm=>hni (by rw [mem_filterMap] at hm ⊢;obtain ⟨o,ho,hd⟩:=hm;obtain ⟨x,hx,rfl⟩:=mem_map.1 ho;refine ⟨g x,?_,hd⟩;have:=Am (hl x hx);exact mem_of_getElem? (i:=x) (by rw [getElem?_toList];exact this))
 have hpair:∀(m0:Option Nat),Js C ops (AN ops) lo hi m0=true→∀x y,x<hi→lo≤y→y<x→¬((AN ops).getD x 0).testBit y=true→
   (CB C ops m0 y&&CB C ops m0 x)=false∧(∀d,(g y).dst=some d→d∉(g x).looksAt ops)∧(∀d,(g y).dst=some d→(g x).dst≠some d)∧(∀d,(g x).dst=some d→d∉(g y).looksAt ops)∧
   (CB C ops m0 x=true→nf3 C ops (AN ops) lo hi m0 y=true)∧(CB C ops m0 y=true→nf3 C ops (AN ops) lo hi m0 x=true):=fun m0 hso x y hx hloy hlt2 h2=>by
  unfold Js at hso;rw [and_eq_true] at hso;have h0:=(all_eq_true.1 hso.1) x (mem_range.2 hx);have h1:((List.range x).all fun i=>decide (i<lo)||((AN ops).getD x 0).testBit i||(!(CB C ops m0 i&&CB C ops m0 x)&&(match ops[i]?,ops[x]? with
   |some x,some y=>x.apart ops y
   |_,_=>false)))=true:=by
   simp only [or_eq_true,decide_eq_true_eq] at h0;have:=h0.resolve_left (by omega);rw [all_eq_true] at this ⊢;intro i hi;rw [Bool.or_assoc];exact this i hi
  have h1:=(all_eq_true.1 h1) y (mem_range.2 hlt2);have ex:=Am (show x<ops.size by omega);have ey:=Am (show y<ops.size by omega);rw [ex,ey] at h1;simp only [or_eq_true,and_eq_true,not_eq_true',decide_eq_true_eq] at h1;obtain ⟨hnl,hap⟩:=h1.resolve_left (fun q=>q.elim (fun q=>by omega) h2);obtain ⟨q1,q2,q3⟩:=Oper.apart_spec hap;have hun:DP (AN ops) x y=true:=by unfold DP;rw [if_neg (by omega)];simpa using h2
  have hun':DP (AN ops) y x=true:=by unfold DP;rw [if_pos hlt2];simpa using h2
  refine ⟨hnl,q1,q2,q3,fun hlx => ?_,fun hly => ?_⟩
  ·unfold nf3;refine any_eq_true.2 ⟨x,mem_range.2 hx,?_⟩;simp only [and_eq_true,bne_iff_ne,decide_eq_true_eq];exact ⟨by omega,⟨hlx,by omega⟩,hun'⟩
  ·unfold nf3;refine any_eq_true.2 ⟨y,mem_range.2 (by omega),?_⟩;simp only [and_eq_true,bne_iff_ne,decide_eq_true_eq];exact ⟨by omega,⟨hly,by omega⟩,hun⟩
 have hcom:∀(m0:Option Nat) (S:List Nat),Js C ops (AN ops) lo hi m0=true→∀x y,x<hi→lo≤y→y<x→¬((AN ops).getD x 0).testBit y=true→∀s:Env×Heap,(Aj C rec pc N ops S (nf3 C ops (AN ops) lo hi m0) x s).bind (Aj C rec pc N ops S (nf3 C ops (AN ops) lo hi m0) y)=(Aj C rec pc N ops S (nf3 C ops (AN ops) lo hi m0) y s).bind (Aj C rec pc N ops S (nf3 C ops (AN ops) lo hi m0) x):=fun m0 S hso x y hx hloy hlt2 h2 s=>by
  obtain ⟨hnl,q1,q2,q3,n1,n2⟩:=hpair m0 hso x y hx hloy hlt2 h2;have ex:=Am (show x<ops.size by omega);have ey:=Am (show y<ops.size by omega);have l3:∀z,z<ops.size→Ad C (g z).op=true→CB C ops m0 z=true:=fun z hz hl=>by unfold CB A7;rw [Am hz];have hl':Ad C (ops.getD z default).op=true:=hl;show ((Ad C (ops.getD z default).op||B3 C (ops.getD z default).op)||_)=true;rw [hl'];rfl
  cases hlx:Ad C (g x).op with
  |true=>
   have hlx':=l3 x (by omega) hlx;have hly:Ad C (g y).op=false:=by
    cases hly:Ad C (g y).op with
    |false=>rfl
    |true=>
     rw [hlx',l3 y (by omega) hly] at hnl;cases hnl
   exact DI C rec pc N ops S _ ex ey q3 (fun d hd hd2=>q2 d hd2 hd) q1 hlx hly (n1 hlx') s
  |false=>
   cases hly:Ad C (g y).op with
   |true=>exact (DI C rec pc N ops S _ ey ex q1 q2 q3 hly hlx (n2 (l3 y (by omega) hly)) s).symm
   |false=>exact (Fa C rec pc N ops S _ ey ex q1 q2 q3 hly hlx s).symm
 unfold segK at hk;split at hk
 ·rename_i m0 hmc;split at hk
  ·rename_i o ho;by_cases hsf:Js C ops (AN ops) lo hi (some m0)=false
   ·rw [if_pos hsf] at hk;simp only [AD] at hk;obtain ⟨⟨hso,hcv⟩,hk1⟩:=AE hk;generalize looks C.P ops (nfS C ops (AN ops) lo hi m0) hi env h=S at hk1;cases hu:ordU C ops (AN ops) lo hi m0 with
    |none=>
     rw [hu] at hk1 hso;exact Ti hrec hpc hle hlo ho lp hlpn hlpm hopen hso hcv hk1 (fun u' e=>by cases e) hr Q n ro rest hcont
    |some u=>
     rw [hu] at hk1 hso;obtain ⟨hA,hB⟩:=G8 hk1;exact Ti hrec hpc hle hlo ho lp hlpn hlpm hopen hso hcv hA (fun u' e=>by cases e;exact hB) hr Q n ro rest hcont
   rw [if_neg hsf] at hk;simp only [AD] at hk;obtain ⟨⟨hso,hcv⟩,hk1⟩:=AE hk;generalize looks C.P ops (nfS C ops (AN ops) lo hi m0) hi env h=S at hk1;have hso2:=hso;unfold Js at hso2;simp only [and_eq_true,decide_eq_true_eq] at hso2;obtain ⟨_,⟨hm1,hm2⟩,hnone⟩:=hso2;have hnone:∀j,lo≤j→j<hi→¬((AN ops).getD j 0).testBit m0=true:=fun j hj1 hj2=>by have:=(all_eq_true.1 hnone) j (mem_range.2 hj2);simp only [or_eq_true,decide_eq_true_eq] at this;simpa using this.resolve_left (by omega)
   have hgo:g m0=o:=by have h1:=Am (show m0<ops.size by omega);rw [ho] at h1;exact (Option.some.inj h1).symm
   obtain ⟨l1,l2,e⟩:=append_of_mem ((hlpm m0).2 ⟨hm1,hm2⟩);have hn':=hlpn;rw [e,nodup_append,nodup_cons] at hn';obtain ⟨n1,⟨n2,n3⟩,n4⟩:=hn';have hfil:lp.filter (fun i=>decide (lo≤i)&&i != m0)=l1++l2:=by
    have hall:∀x∈lp,lo≤x:=fun x hx=>((hlpm x).1 hx).1;rw [e] at hall;rw [e,filter_append,filter_cons_of_neg (by simp),filter_eq_self.2 (fun x hx=>by have:=n4 x hx m0 (by simp);have:=hall x (by simp [hx]);simp [*]),filter_eq_self.2 (fun x hx=>by have:x≠m0:=fun h=>n2 (h ▸ hx);have:=hall x (by simp [hx]);simp [*])]
   have hrun:∀s:Env×Heap,(l1++l2).foldlM (fun s i=>Aj C rec pc N ops S (nf3 C ops (AN ops) lo hi (some m0)) i s) s=((List.range hi).filter fun i=>decide (lo≤i)&&i != m0).foldlM (fun s i=>Aj C rec pc N ops S (nf3 C ops (AN ops) lo hi (some m0)) i s) s:=fun s=>by rw [← hfil];refine IH (fun i s=>Aj C rec pc N ops S (nf3 C ops (AN ops) lo hi (some m0)) i s) _ lo hi lp hlpn hlpm hlo (fun i h=>by simp only [and_eq_true,decide_eq_true_eq] at h;exact h.1) ?_ s;refine hopen.imp_of_mem fun {x y} hx hy h hlt px py s => ?_;exact hcom (some m0) S hso x y ((hlpm x).1 hx).2 ((hlpm y).1 hy).1 hlt (h hlt) s
   have hk2:BQ C rec pc N ops S (nf3 C ops (AN ops) lo hi (some m0)) (l1++l2) env h (fun env' h'=>LA C rec pc N ops S o env' h' K)=some r:=by rw [A0] at hk1 ⊢;rw [hrun];exact hk1
   have hlm:CB C ops (some m0) m0=true:=by unfold CB;simp
   obtain ⟨hd,hk3⟩:=K9 (fun _ _ _ K1 hE=>J5 C rec pc hcv hE K1) (fun y hy=>by
    have hne:y≠m0:=fun h=>n2 (h ▸ hy);obtain ⟨hy1,hy2⟩:=(hlpm y).1 (by rw [e];simp [hy]);have ey:=Am (show y<ops.size by omega);have hquiet:(CB C ops (some m0) y)=false→Ad C (g y).op=false:=fun hq=>by unfold CB A7 at hq;rw [ey] at hq;rw [or_eq_false_iff,or_eq_false_iff] at hq;exact hq.1.1
    rcases Nat.lt_or_gt_of_ne hne with hlt3|hlt3
    ·have hno:=GL hopen e hy hlt3;obtain ⟨hnl,q1,q2,q3,f1,f2⟩:=hpair (some m0) hso m0 y hm2 hy1 hlt3 hno;rw [hgo] at q1 q2 q3;refine ⟨g y,ey,hquiet ?_,f1 hlm,q3,fun d hd hd2=>q2 d hd2 hd,q1⟩;rw [hlm,Bool.and_true] at hnl;exact hnl
    ·have hno:=hnone y hy1 hy2;obtain ⟨hnl,q1,q2,q3,f1,f2⟩:=hpair (some m0) hso y m0 hy2 hm1 hlt3 hno;rw [hgo] at q1 q2 q3;refine ⟨g y,ey,hquiet ?_,f2 hlm,q1,q2,q3⟩;rw [hlm,Bool.true_and] at hnl;exact hnl) hk2
   have hl1lt:∀i∈l1,i<ops.size:=fun i hi=>hlt i (by rw [e];simp [hi]);have hl2lt:∀i∈l2,i<ops.size:=fun i hi=>hlt i (by rw [e];simp [hi]);have hdm:∀i,i∉ops.toList.filterMap (·.dst)→∀d,o.dst=some d→d≠i:=fun i hni d hd' e'=>hni (by subst e';rw [mem_filterMap];exact ⟨o,mem_of_getElem? (i:=m0) (by rw [getElem?_toList];exact ho),hd'⟩)
   rw [e,append_assoc];refine CF hrec hpc ops S _ Q n ro (m0::l2++rest) l1 hk3 hr fun env1 h1 κ1 a1 w1 k1 k2 k3 k4 k5 k6 => ?_;simp only [cons_append,wpOpsIn,ho];have hpd:∀val,(a1.put o.dst val).defers=a1.defers:=fun val=>by cases o.dst<;>rfl
   rcases GY k1 k2 with ⟨hw,hk4⟩|⟨hw,hk4⟩
   ·simp only [hw,if_true];refine IF hrec hpc o hk4 k2 _ Q n ro fun v h' κ' val w' g1 g2 g3 g4 g5 => ?_;obtain ⟨_,g1,_⟩:=DS g1;refine CF hrec hpc ops S _ Q n ro rest l2 g1 (EN k2 g3 g4 g2 o hd) fun env2 h2 κ2 a2 w2 j1 j2 j3 j4 j5 j6 => ?_;refine hcont env2 h2 κ2 a2 w2 j1 j2 ((k3.trans g4).trans j3) (fun i hni => ?_) ((j5.trans (hpd _)).trans k5);exact (j4 i (hsub l2 hl2lt i hni)).trans ((CA fun d hd'=>hdm i hni d hd').trans (k4 i (hsub l1 hl1lt i hni)))
   ·simp only [hw,false_eq_true,if_false];simp only [AD] at hk4;obtain ⟨_,hk4⟩:=AE hk4;refine ⟨fun _ _=>trivial,?_⟩;refine CF hrec hpc ops S _ Q n ro rest l2 hk4 (EN k2 k2.heap (Ext.refl _ _ _) (.tuple _ _ rfl fun j x hx=>by simp at hx) o hd) fun env2 h2 κ2 a2 w2 j1 j2 j3 j4 j5 j6 => ?_;refine hcont env2 h2 κ2 a2 w2 j1 j2 (k3.trans j3) (fun i hni => ?_) ((j5.trans (hpd _)).trans k5);exact (j4 i (hsub l2 hl2lt i hni)).trans ((CA fun d hd'=>hdm i hni d hd').trans (k4 i (hsub l1 hl1lt i hni)))
  ·cases hk
 ·rename_i hmc;simp only [AD] at hk;obtain ⟨hso,hk1⟩:=AE hk;generalize looks C.P ops (nf3 C ops (AN ops) lo hi none) hi env h=S at hk1;have hfil:lp.filter (fun i=>decide (lo≤i))=lp:=filter_eq_self.2 fun x hx=>by simpa using ((hlpm x).1 hx).1
  have hrun:∀s:Env×Heap,lp.foldlM (fun s i=>Aj C rec pc N ops S (nf3 C ops (AN ops) lo hi none) i s) s=((List.range hi).filter fun i=>decide (lo≤i)).foldlM (fun s i=>Aj C rec pc N ops S (nf3 C ops (AN ops) lo hi none) i s) s:=fun s=>by have:=IH (fun i s=>Aj C rec pc N ops S (nf3 C ops (AN ops) lo hi none) i s) (fun i=>decide (lo≤i)) lo hi lp hlpn hlpm hlo (fun i h=>by simpa using h) (hopen.imp_of_mem fun {x y} hx hy h hlt px py s=>hcom none S hso x y ((hlpm x).1 hx).2 ((hlpm y).1 hy).1 hlt (h hlt) s) s;rw [hfil] at this;exact this
  have hk2:BQ C rec pc N ops S (nf3 C ops (AN ops) lo hi none) lp env h K=some r:=by rw [A0] at hk1 ⊢;rw [hrun];exact hk1
  refine CF hrec hpc ops S _ Q n ro rest lp hk2 hr fun env1 h1 κ1 a1 w1 k1 k2 k3 k4 k5 k6 => ?_;exact hcont env1 h1 κ1 a1 w1 k1 k2 k3 (fun i hni=>k4 i (hsub lp hlt i hni)) k5
theorem Mq (k:Nat):∀(l:List Nat),(l.Pairwise fun x y=>¬(k≤x∧y<k))→l=(l.filter fun i=>decide (i<k))++l.filter fun i => !decide (i<k)
 |[],_=>rfl
 |x::l,h=>by
  obtain ⟨h1,h2⟩:=pairwise_cons.1 h;by_cases hx:x<k
  ·rw [filter_cons_of_pos (by simpa using hx),filter_cons_of_neg (by simpa using hx),cons_append,← Mq k l h2]
  ·have e:l.filter (fun i=>decide (i<k))=[]:=by rw [List.filter_eq_nil_iff];intro y hy;have:=h1 y hy;simp only [decide_eq_true_eq];omega
   have e2:l.filter (fun i => !decide (i<k))=l:=filter_eq_self.2 fun y hy=>by have:=h1 y hy;simp;omega
   rw [filter_cons_of_neg (by simpa using hx),filter_cons_of_pos (by simpa using hx),e,e2,nil_append]
theorem RC {C:Cfg} {rec:Rec} {pc:A4} (hrec:DL C.P rec) (hpc:Bn C.P pc) {ops:Array Oper} {K:Env→Heap→Option R} {r:R} {m:Nat} (hff:DE (AN ops) ops.size m=true) (hle:m≤ops.size) (Q:Exit→Act→World→Prop) (n:Nat) (ro:Option Nat) :
  ∀(ks:List Nat) (lo:Nat) (l:List Nat) {env:Env} {h:Heap} {κ:Ay} {a:Act} {w:World},JZ (AN ops) ops.size m ks lo=true→l.Nodup→(∀i,i∈l↔lo≤i∧i<ops.size)→
   (∀l1 x l2,l=l1++x::l2→∀y,lo≤y→((AN ops).getD x 0).testBit y=true→y∈l1)→
   MK C rec pc N ops (AN ops) ks lo env h K=some r→Rel B N κ env h a w→
   (∀env1 h1 κ1 a1 w1,K env1 h1=some r→Rel B N κ1 env1 h1 a1 w1→Ext κ h w κ1 h1 w1→(∀i,i∉ops.toList.filterMap (·.dst)→env1 i=env i)→a1.defers=a.defers→wpOpsIn (Fr ro) n C.P ops Q (List.range' m (ops.size-m)) a1 w1)→
   wpOpsIn (Fr ro) n C.P ops Q l a w
 |[],lo,l,env,h,κ,a,w,hc,hn,hm,hord,hk,hr,hcont=>by
  unfold JZ at hc;have hlo:lo=m:=by simpa using hc
  subst hlo;have hmem:∀i,i∈List.range lo++l↔i<lo+(ops.size-lo):=fun i=>by rw [mem_append,mem_range,hm];omega
  have hnd:(List.range lo++l).Nodup:=by rw [nodup_append];refine ⟨nodup_range,hn,fun x hx y hy h => ?_⟩;have:=mem_range.1 hx;have:=(hm y).1 hy;omega
  obtain ⟨lp,hL,hlpn,hlpm⟩:=Eu (n:=lo) (ops.size-lo) (List.range lo++l) hnd hmem (fun l1 x l2 e hx y hy=>by
   have hxs:x<ops.size:=by have:=(hmem x).1 (by rw [e];simp);omega
   have hxl:x∈l:=by
    have:x∈List.range lo++l:=by rw [e];simp
    rcases mem_append.1 this with h|h
    ·have:=mem_range.1 h;omega
    ·exact h
   obtain ⟨b1,b2,eb⟩:=append_of_mem hxl;have e3:List.range lo++l=(List.range lo++b1)++x::b2:=by rw [eb,append_assoc]
   have e4:l1=List.range lo++b1:=by
    have hnx:∀{u1 u2 v1 v2:List Nat},(u1++x::u2).Nodup→u1++x::u2=v1++x::v2→u1=v1:=by
     intro u1
     induction u1 with
     |nil=>
      intro u2 v1 v2 hn he;cases v1 with
      |nil=>rfl
      |cons z v1=>
       simp only [nil_append,cons_append,List.cons.injEq] at he;obtain ⟨h1,h2⟩:=he;simp only [nil_append,nodup_cons] at hn;exact absurd (by rw [h2];simp) hn.1
     |cons z u1 ih=>
      intro u2 v1 v2 hn he;cases v1 with
      |nil=>
       simp only [nil_append,cons_append,List.cons.injEq] at he;obtain ⟨h1,h2⟩:=he;simp only [cons_append,nodup_cons] at hn;exact absurd (by rw [h1];simp) hn.1
      |cons z' v1=>
       simp only [cons_append,List.cons.injEq] at he;obtain ⟨h1,h2⟩:=he;simp only [cons_append,nodup_cons] at hn;rw [h1,ih hn.2 h2]
    rw [e] at hnd e3;exact hnx hnd e3
   rw [e4];by_cases hyl:y<lo
   ·exact mem_append.2 (.inl (mem_range.2 hyl))
   ·have h1:=(all_eq_true.1 hff) x (mem_range.2 hxs);have h2:(AN ops).getD x 0=2 ^ x-1:=by simp only [or_eq_true,decide_eq_true_eq,beq_iff_eq] at h1;exact h1.resolve_left (by omega)
    refine mem_append.2 (.inr (hord b1 x b2 eb y (by omega) ?_));rw [h2,Nat.testBit_two_pow_sub_one];simpa using hy)
  have hlen:lp.length=(List.range lo).length:=by
   have h1:=congrArg length hL;have h2:l.length=ops.size-lo:=by
    have h3:(List.range lo++l).length=ops.size:=by
     have hp:(List.range lo++l).Perm (List.range ops.size):=by refine (List.perm_ext_iff_of_nodup hnd nodup_range).2 fun i => ?_;rw [hmem,mem_range];omega
     rw [hp.length_eq,length_range]
    simp only [length_append,length_range] at h3;omega
   simp only [length_append,length_range,List.length_range'] at h1 ⊢;omega
  have hl:l=List.range' lo (ops.size-lo):=(List.append_inj hL hlen.symm).2;rw [hl];unfold MK at hk;exact hcont env h κ a w hk hr (Ext.refl _ _ _) (fun _ _=>rfl) rfl
 |k::ks,lo,l,env,h,κ,a,w,hc,hn,hm,hord,hk,hr,hcont=>by
  unfold JZ at hc;simp only [and_eq_true,decide_eq_true_eq] at hc;obtain ⟨⟨hlk,hkm⟩,hcut,hc⟩:=hc;have hbit:∀x,k≤x→x<ops.size→∀y,y<k→((AN ops).getD x 0).testBit y=true:=fun x hx hxs y hy=>by unfold cutAt at hcut;have:=(all_eq_true.1 hcut) x (mem_range.2 hxs);simp only [or_eq_true,decide_eq_true_eq] at this;exact (all_eq_true.1 (this.resolve_left (by omega))) y (mem_range.2 hy)
  have hpw:l.Pairwise fun x y=>¬(k≤x∧y<k):=OT l fun l1 x l2 y e hy hh=>by have hx:=(hm x).1 (by rw [e];simp);have hyl:=(hm y).1 (by rw [e];simp [hy]);have hy1:=hord l1 x l2 e y hyl.1 (hbit x hh.1 hx.2 y hh.2);rw [e,nodup_append] at hn;exact hn.2.2 y hy1 y (by simp [hy]) rfl
  have hsplit:=Mq k l hpw;generalize hlp:(l.filter fun i=>decide (i<k))=lp at hsplit;generalize hlr:(l.filter fun i => !decide (i<k))=lr at hsplit;have hlpm:∀i,i∈lp↔lo≤i∧i<k:=fun i=>by rw [← hlp,mem_filter,hm,decide_eq_true_eq];omega
  have hlrm:∀i,i∈lr↔k≤i∧i<ops.size:=fun i=>by rw [← hlr,mem_filter,hm];simp;omega
  have hnn:=hn;rw [hsplit,nodup_append] at hnn;rw [hsplit];unfold MK at hk;refine seg_ok hrec hpc (by omega) (by omega) lp hnn.1 hlpm (OT lp fun l1 x l2 y e hy hlt2 hb => ?_) hk hr Q n ro lr fun env1 h1 κ1 a1 w1 k1 k2 k3 k4 k5 => ?_
  ·have hyl:=(hlpm y).1 (by rw [e];simp [hy]);have hy1:=hord l1 x (l2++lr) (by rw [hsplit,e];simp) y hyl.1 hb;have:=hnn.1;rw [e,nodup_append] at this;exact this.2.2 y hy1 y (by simp [hy]) rfl
  ·refine RC hrec hpc hff hle Q n ro ks k lr hc hnn.2.1 hlrm (fun l1 x l2 e y hy hb => ?_) k1 k2 fun env2 h2 κ2 a2 w2 j1 j2 j3 j4 j5=>hcont env2 h2 κ2 a2 w2 j1 j2 (k3.trans j3) (fun i hi=>(j4 i hi).trans (k4 i hi)) (j5.trans k5);have hy1:=hord (lp++l1) x l2 (by rw [hsplit,e,append_assoc]) y (by omega) hb;rcases mem_append.1 hy1 with h|h
   ·have:=(hlpm y).1 h;omega
   ·exact h
theorem Kp {C:Cfg} {rec:Rec} {pc:A4} (hrec:DL C.P rec) (hpc:Bn C.P pc) (hmix:C.P.follows .mixedOrders=true) {id:Nat} {ops:Array Oper} {K:Env→Heap→Option R} {r:R} {m:Nat} {ks:List Nat}
  (hcs:JZ (AN ops) ops.size m ks 0=true) (hff:DE (AN ops) ops.size m=true) (hed:Fk ops=true) (hle:m≤ops.size)
  (hk1:MK C rec pc N ops (AN ops) ks 0 env h (fun env' h'=>Da C rec pc N false ops (ops.toList.drop m) env' h' K)=some r)
  (hr:Rel B N κ env h a w) (Q:Exit→Act→World→Prop) (n:Nat) (ro:Option Nat)
  (hn:I3 B N κ h w false ops.toList env a K r fun a' w'=>Q .normal a' w'):(Code.region id ops true).wpIn (Fr ro) n C.P Q a w:=by
 refine wpIn_region_draw fun t => ?_;have hsch:Region.schedule (C.P.follows .mixedOrders) ops t=Region.linearise .any ops t:=by simp only [Region.schedule,hmix,Bool.true_or,if_true]
 rw [hsch];obtain ⟨p1,p2,p3,p4⟩:=GC hed (EC ops t) (fun i hi=>by cases hi);have hx0:=Gd hr.heap;refine RC hrec hpc hff hle Q n ro ks 0 (Region.linearise .any ops t) hcs p1 (fun i => ?_) (fun l1 x l2 e y _ hb=>(p4 l1 x l2 e y hb).resolve_left (by simp)) hk1 (IN hr) fun env1 h1 κ1 a1 w1 k1 k2 k3 k4 k5 => ?_
 ·constructor
  ·intro hi;exact ⟨zero_le _,(p2 i hi).2⟩
  ·intro hi;exact (p3 i hi.2).resolve_left (by simp)
 ·have:=HA hrec hpc ops Q n ro [] (ops.toList.drop m) (List.range' m (ops.size-m)) (by simp) (fun j i o hj ho=>by
   have hjl:j<ops.size-m:=by simpa using AO hj
   rw [List.getElem?_range' hjl] at hj;cases hj;rw [getElem?_drop] at ho;simpa using ho) k1 k2 (fun env2 h2 κ2 a2 w2 j1 j2 j3 j4 j5 j6=>by
    refine hn env2 h2 κ2 a2 w2 j1 j2 ((hx0.trans k3).trans j3) (fun i hni => ?_) (j5.trans k5) (fun e=>by cases e);have hsub1:i∉(ops.toList.drop m).filterMap (·.dst):=fun hm=>hni (by rw [mem_filterMap] at hm ⊢;obtain ⟨o,ho,hd⟩:=hm;exact ⟨o,mem_of_mem_drop ho,hd⟩)
    exact (j4 i hsub1).trans (k4 i hni))
  simpa using this
theorem MM {C:Cfg} {rec:Rec} {pc:A4} (hrec:DL C.P rec) (hpc:Bn C.P pc) (hmix:C.P.follows .mixedOrders=true) {id:Nat} {ops:Array Oper} {draw:Bool} {K:Env→Heap→Option R} {r:R}
  (hk:KF C rec pc N ops draw env h K=some r) (hr:Rel B N κ env h a w) (Q:Exit→Act→World→Prop) (n:Nat) (ro:Option Nat)
  (hn:I3 B N κ h w false ops.toList env a K r fun a' w'=>Q .normal a' w'):(Code.region id ops draw).wpIn (Fr ro) n C.P Q a w:=by
 unfold KF at hk
 try simp only [AD] at hk
 cases draw with
 |false=>
  simp only [false_eq_true,if_false] at hk;refine wpIn_region ?_;have:=HA hrec hpc ops Q n ro [] ops.toList (List.range ops.size) (by simp) (fun j i o hj ho=>by
   have hjl:j<ops.size:=by simpa using AO hj
   rw [getElem?_range hjl] at hj;cases hj;simpa using ho) hk hr hn
  simpa using this
 |true=>
  simp only [if_true] at hk;split at hk
  ·rename_i i0 j0 heq0;obtain ⟨⟨hp,hff,hed,hle⟩,hk1⟩:=AE hk;obtain ⟨hA,hB⟩:=G8 hk1;exact Kq hrec hpc hmix hp hff hed hle hA hB hr Q n ro hn
  split at hk
  ·rename_i heqm;obtain ⟨⟨hcs,hff,hed,hle⟩,hk1⟩:=AE hk;exact Kp hrec hpc hmix hcs hff hed hle hk1 hr Q n ro hn
  obtain ⟨⟨hdo,hff,hed,hle⟩,hk1⟩:=AE hk;clear hk;refine wpIn_region_draw fun t => ?_;have hsch:Region.schedule (C.P.follows .mixedOrders) ops t=Region.linearise .any ops t:=by simp only [Region.schedule,hmix,Bool.true_or,if_true]
  rw [hsch];generalize Mo (AN ops) ops.size=m at *;generalize hS:looks C.P ops (Ai C ops (AN ops) m) m env h=S at *;clear hS;obtain ⟨p1,p2,p3,p4⟩:=GC hed (EC ops t) (fun i hi=>by cases hi);obtain ⟨lp,hL,hlpn,hlpm⟩:=Eu (n:=m) (ops.size-m) (Region.linearise .any ops t) p1 (fun i=>by
   constructor
   ·intro hi;have:=(p2 i hi).2;omega
   ·intro hi;exact (p3 i (by omega)).resolve_left (by simp)) (fun l1 x l2 e hx y hy=>by
    have hxs:x<ops.size:=(p2 x (by rw [e];simp)).2;have h1:=(all_eq_true.1 hff) x (mem_range.2 hxs);have h2:(AN ops).getD x 0=2 ^ x-1:=by simp only [or_eq_true,decide_eq_true_eq,beq_iff_eq] at h1;exact h1.resolve_left (by omega)
    refine (p4 l1 x l2 e y ?_).resolve_left (by simp);rw [h2,Nat.testBit_two_pow_sub_one];simpa using hy)
  rw [hL];let g:Nat→Oper:=fun i=>ops.getD i default;have hlt:∀i∈lp,i<ops.size:=fun i hi=>by have:=(hlpm i).1 hi;omega
  have hpair:∀x y,x<m→y<x→¬((AN ops).getD x 0).testBit y=true→
    (A7 C ops y&&A7 C ops x)=false∧(∀d,(g y).dst=some d→d∉(g x).looksAt ops)∧(∀d,(g y).dst=some d→(g x).dst≠some d)∧(∀d,(g x).dst=some d→d∉(g y).looksAt ops)∧
    (A7 C ops x=true→Ai C ops (AN ops) m y=true)∧(A7 C ops y=true→Ai C ops (AN ops) m x=true):=fun x y hx hlt2 h2=>by
   have h1:=(all_eq_true.1 ((all_eq_true.1 hdo) x (mem_range.2 hx))) y (mem_range.2 hlt2);have ex:=Am (show x<ops.size by omega);have ey:=Am (show y<ops.size by omega);rw [ex,ey] at h1;simp only [or_eq_true,and_eq_true,not_eq_true'] at h1;obtain ⟨hnl,hap⟩:=h1.resolve_left h2;obtain ⟨q1,q2,q3⟩:=Oper.apart_spec hap;have hun:DP (AN ops) x y=true:=by unfold DP;rw [if_neg (by omega)];simpa using h2
   have hun':DP (AN ops) y x=true:=by unfold DP;rw [if_pos hlt2];simpa using h2
   refine ⟨hnl,q1,q2,q3,fun hlx => ?_,fun hly => ?_⟩
   ·unfold Ai;refine any_eq_true.2 ⟨x,mem_range.2 hx,?_⟩;simp only [and_eq_true,bne_iff_ne];exact ⟨⟨hlx,by omega⟩,hun'⟩
   ·unfold Ai;refine any_eq_true.2 ⟨y,mem_range.2 (by omega),?_⟩;simp only [and_eq_true,bne_iff_ne];exact ⟨⟨hly,by omega⟩,hun⟩
  have hopen:lp.Pairwise fun x y=>y<x→¬((AN ops).getD x 0).testBit y=true:=OT lp fun l1 x l2 y e hy hlt2 hb=>by have:=(p4 l1 x (l2++List.range' m (ops.size-m)) (by rw [hL,e];simp) y hb).resolve_left (by simp);rw [e,nodup_append] at hlpn;exact hlpn.2.2 y this y (by simp [hy]) rfl
  have hcom:∀x y,x<m→y<x→¬((AN ops).getD x 0).testBit y=true→∀s:Env×Heap,(Aj C rec pc N ops S (Ai C ops (AN ops) m) x s).bind (Aj C rec pc N ops S (Ai C ops (AN ops) m) y)=(Aj C rec pc N ops S (Ai C ops (AN ops) m) y s).bind (Aj C rec pc N ops S (Ai C ops (AN ops) m) x):=fun x y hx hlt2 h2 s=>by
   obtain ⟨hnl,q1,q2,q3,n1,n2⟩:=hpair x y hx hlt2 h2;have ex:=Am (show x<ops.size by omega);have ey:=Am (show y<ops.size by omega);have lx:A7 C ops x=(Ad C (g x).op||B3 C (g x).op):=by unfold A7;rw [ex]
   have ly:A7 C ops y=(Ad C (g y).op||B3 C (g y).op):=by unfold A7;rw [ey]
   cases hlx:Ad C (g x).op with
   |true=>
    have hlx':A7 C ops x=true:=by rw [lx,hlx];rfl
    have hly:Ad C (g y).op=false:=by rw [hlx',Bool.and_true,ly,or_eq_false_iff] at hnl;exact hnl.1
    exact DI C rec pc N ops S _ ex ey q3 (fun d hd hd2=>q2 d hd2 hd) q1 hlx hly (n1 hlx') s
   |false=>
    cases hly:Ad C (g y).op with
    |true=>exact (DI C rec pc N ops S _ ey ex q1 q2 q3 hly hlx (n2 (by rw [ly,hly];rfl)) s).symm
    |false=>exact (Fa C rec pc N ops S _ ey ex q1 q2 q3 hly hlx s).symm
  have hsub:∀(l:List Nat),(∀i∈l,i<ops.size)→∀i,i∉ops.toList.filterMap (·.dst)→i∉(l.map g).filterMap (·.dst):=fun l hl i hni hm=>hni (by rw [mem_filterMap] at hm ⊢;obtain ⟨o,ho,hd⟩:=hm;obtain ⟨x,hx,rfl⟩:=mem_map.1 ho;refine ⟨g x,?_,hd⟩;have:=Am (hl x hx);exact mem_of_getElem? (i:=x) (by rw [getElem?_toList];exact this))
  have hrest:∀env1 h1 κ1 a1 w1,Da C rec pc N false ops (ops.toList.drop m) env1 h1 K=some r→Rel B N κ1 env1 h1 a1 w1→Ext κ h w κ1 h1 w1→(∀i,i∉ops.toList.filterMap (·.dst)→env1 i=env i)→a1.defers=a.defers→
    wpOpsIn (Fr ro) n C.P ops Q (List.range' m (ops.size-m)) a1 w1:=fun env1 h1 κ1 a1 w1 k1 k2 k3 k4 k5=>by
   have:=HA hrec hpc ops Q n ro [] (ops.toList.drop m) (List.range' m (ops.size-m)) (by simp) (fun j i o hj ho=>by
    have hjl:j<ops.size-m:=by simpa using AO hj
    rw [List.getElem?_range' hjl] at hj;cases hj;rw [getElem?_drop] at ho;simpa using ho) k1 k2 (fun env2 h2 κ2 a2 w2 j1 j2 j3 j4 j5 j6=>by
     refine hn env2 h2 κ2 a2 w2 j1 j2 (k3.trans j3) (fun i hni => ?_) (j5.trans k5) (fun e=>by cases e);have hsub1:i∉(ops.toList.drop m).filterMap (·.dst):=fun hm=>hni (by rw [mem_filterMap] at hm ⊢;obtain ⟨o,ho,hd⟩:=hm;exact ⟨o,mem_of_mem_drop ho,hd⟩)
     exact (j4 i hsub1).trans (k4 i hni))
   simpa using this
  have hx0:=Gd hr.heap;split at hk1
  ·
   rename_i m0 o heq;have hsel:m=m0+1∧ops[m0]? = some o∧B3 C o.op=true:=by
    split at heq
    ·rename_i k;split at heq
     ·rename_i o' ho';split at heq
      ·cases heq;exact ⟨rfl,ho',by assumption⟩
      ·cases heq
     ·cases heq
    ·cases heq
   obtain ⟨hm0,ho,hhc⟩:=hsel;have hgo:g m0=o:=by have h1:=Am (show m0<ops.size by omega);rw [ho] at h1;exact (Option.some.inj h1).symm
   obtain ⟨l1,l2,e⟩:=append_of_mem ((hlpm m0).2 (by omega));have hn':=hlpn;rw [e,nodup_append,nodup_cons] at hn';obtain ⟨n1,⟨n2,n3⟩,n4⟩:=hn';have hm2:∀i,i∈l1++l2↔i<m0:=fun i=>by
    constructor
    ·intro hi;have h5:=(hlpm i).1 (by rw [e];simp only [mem_append,mem_cons];rcases mem_append.1 hi with h|h;exact .inl h;exact .inr (.inr h));have h6:i≠m0:=fun h=>by
      subst h;rcases mem_append.1 hi with h|h
      ·exact n4 i h i (by simp) rfl
      ·exact n2 h
     omega
    ·intro hi;have h5:=(hlpm i).2 (by omega);rw [e] at h5;simp only [mem_append,mem_cons] at h5 ⊢;rcases h5 with h5|h5|h5
     ·exact .inl h5
     ·omega
     ·exact .inr h5
   have hpw:(l1++l2).Pairwise fun x y=>y<x→¬((AN ops).getD x 0).testBit y=true:=by refine hopen.sublist ?_;rw [e];exact List.Sublist.append (List.Sublist.refl _) (List.sublist_cons_self _ _)
   have hrun:∀s:Env×Heap,(l1++l2).foldlM (fun s i=>Aj C rec pc N ops S (Ai C ops (AN ops) m) i s) s=(List.range m0).foldlM (fun s i=>Aj C rec pc N ops S (Ai C ops (AN ops) m) i s) s:=fun s=>
    FJ (fun i s=>Aj C rec pc N ops S (Ai C ops (AN ops) m) i s) m0 (l1++l2) (nodup_append.2 ⟨n1,n3,fun a ha b hb=>n4 a ha b (by simp [hb])⟩) hm2 (fun b1 x b2 y e2 hy hlt2 s=>
     hcom x y (by have:=(hm2 x).1 (by rw [e2];simp);omega) hlt2 (GL hpw e2 hy hlt2) s) s
   have hk2:BQ C rec pc N ops S (Ai C ops (AN ops) m) (l1++l2) env h (fun env' h'=>Oh C rec pc N S o env' h' fun env' h'=>Da C rec pc N false ops (ops.toList.drop m) env' h' K)=some r:=by rw [A0] at hk1 ⊢;rw [hrun];exact hk1
   have hl2:∀y∈l2,y<m0:=fun y hy=>(hm2 y).1 (by simp [hy]);obtain ⟨hd,hg,hk3⟩:=SM (fun _ _ _ K1 hE=>Qn C rec pc hhc hE K1) (fun y hy=>by
    have hym:=hl2 y hy;have hno:=GL hopen e hy hym;obtain ⟨hnl,q1,q2,q3,f1,f2⟩:=hpair m0 y (by omega) hym hno;have hlm:A7 C ops m0=true:=by unfold A7;rw [ho];simp [hhc]
    have ey:=Am (show y<ops.size by omega);rw [hgo] at q1 q2 q3;refine ⟨g y,ey,?_,f1 hlm,q3,fun d hd hd2=>q2 d hd2 hd,q1⟩;rw [hlm,Bool.and_true] at hnl;unfold A7 at hnl;rw [ey] at hnl;rw [or_eq_false_iff] at hnl;exact hnl.1) hk2
   have hl1lt:∀i∈l1,i<ops.size:=fun i hi=>hlt i (by rw [e];simp [hi]);have hl2lt:∀i∈l2,i<ops.size:=fun i hi=>hlt i (by rw [e];simp [hi]);rw [e,append_assoc];refine CF hrec hpc ops S _ Q n ro (m0::l2++List.range' m (ops.size-m)) l1 hk3 (IN hr) fun env1 h1 κ1 a1 w1 k1 k2 k3 k4 k5 k6 => ?_;simp only [cons_append,wpOpsIn,ho];have hgk:FE ops o env1 (fun env1=>Aa C rec pc false env1 h1 o.op fun v h'=>cnd (S.all (sameAt h1 h')=true) (BQ C rec pc N ops S (Ai C ops (AN ops) m) l2 (env1.put o.dst v) h' fun env' h'=>Da C rec pc N false ops (ops.toList.drop m) env' h' K) none) (fun _=>none)=some r:=by unfold FE;rw [hg];exact k1
   rcases GY hgk k2 with ⟨hw,hk4⟩|⟨hw,hk4⟩
   ·simp only [hw,if_true];refine IF hrec hpc o hk4 k2 _ Q n ro fun v h' κ' val w' g1 g2 g3 g4 g5 => ?_;simp only [AD] at g1;obtain ⟨_,g1⟩:=AE g1;refine CF hrec hpc ops S _ Q n ro (List.range' m (ops.size-m)) l2 g1 (EN k2 g3 g4 g2 o hd) fun env2 h2 κ2 a2 w2 j1 j2 j3 j4 j5 j6 => ?_;have hpd:∀val,(a1.put o.dst val).defers=a1.defers:=fun val=>by cases o.dst<;>rfl
    refine hrest env2 h2 κ2 a2 w2 j1 j2 (((hx0.trans k3).trans g4).trans j3) (fun i hni => ?_) ((j5.trans (hpd _)).trans k5);refine (j4 i (hsub l2 hl2lt i hni)).trans (Eq.trans ?_ (k4 i (hsub l1 hl1lt i hni)));refine CA fun d hd' e'=>hni ?_;subst e';rw [mem_filterMap];exact ⟨o,mem_of_getElem? (i:=m0) (by rw [getElem?_toList];exact ho),hd'⟩
   ·cases hk4
  ·have hrun:∀s:Env×Heap,lp.foldlM (fun s i=>Aj C rec pc N ops S (Ai C ops (AN ops) m) i s) s=(List.range m).foldlM (fun s i=>Aj C rec pc N ops S (Ai C ops (AN ops) m) i s) s:=fun s=>
    FJ (fun i s=>Aj C rec pc N ops S (Ai C ops (AN ops) m) i s) m lp hlpn hlpm (fun b1 x b2 y e2 hy hlt2 s=>
     hcom x y ((hlpm x).1 (by rw [e2];simp)) hlt2 (GL hopen e2 hy hlt2) s) s
   have hk2:BQ C rec pc N ops S (Ai C ops (AN ops) m) lp env h (fun env' h'=>Da C rec pc N false ops (ops.toList.drop m) env' h' K)=some r:=by rw [A0] at hk1 ⊢;rw [hrun];exact hk1
   refine CF hrec hpc ops S _ Q n ro (List.range' m (ops.size-m)) lp hk2 (IN hr) fun env1 h1 κ1 a1 w1 k1 k2 k3 k4 k5 k6 => ?_;exact hrest env1 h1 κ1 a1 w1 k1 k2 (hx0.trans k3) (fun i hni=>k4 i (hsub lp hlt i hni)) k5
end Ab
namespace Ab
open Go
variable {R:Type} {P:Program} {B:Nat→Prop} {κ:Ay} {h:Heap} {w:World} {N:Nat} {env:Env} {a:Act} {ro:Option Nat} {base:Nat}
def mark (r:Nat):Deferred:={target :=.collected r,args := #[]}
def Marks (base:Nat) (κ:Ay) (h:Heap) (w:World) (ds:List Deferred):Prop:=
 ∃rs:List Nat,ds=rs.map mark∧rs.Nodup∧∀r∈rs,base≤r∧w.heap[r]? = some (.deferred (some []))∧¬Ex κ h r
def I2 (ro:Option Nat) (κ:Ay) (h:Heap):Prop:=∀b,ro=some b→∃(i d:Nat) (l:Ca),κ[i]? = some (some (b,d))∧h[i]? = some (.loop l)
structure St (B:Nat→Prop) (N:Nat) (ro:Option Nat) (base:Nat) (κ:Ay) (env:Env) (h:Heap) (a:Act) (w:World):Prop where
 rel:Rel B N κ env h a w
 marks:Marks base κ h w a.defers
 round:I2 ro κ h
 bsz:base≤w.heap.size
theorem Marks.ext {κ':Ay} {h':Heap} {w':World} (x:Ext κ h w κ' h' w') {ds:List Deferred} (hm:Marks base κ h w ds):Marks base κ' h' w' ds:=by
 obtain ⟨rs,h1,h2,h3⟩:=hm;refine ⟨rs,h1,h2,fun r hr => ?_⟩;obtain ⟨h4,h5,h6⟩:=h3 r hr;have hlt:=Cp h5;refine ⟨h4,(x.keep r hlt h6).trans h5,fun he => ?_⟩;rcases x.ex r he with y|y
 ·exact h6 y
 ·omega
theorem I2.ext {κ':Ay} {h':Heap} {w':World} (x:Ext κ h w κ' h' w') (hm:I2 ro κ h):I2 ro κ' h':=by
 intro b hb;obtain ⟨i,d,l,h1,h2⟩:=hm b hb;obtain ⟨o',h3,h4⟩:=x.obj i _ h2;have hk:=h4.1;cases o' with
 |loop l'=>exact ⟨i,d,l',(x.kap i _ _ h2 h3 rfl).trans h1,h3⟩
 |box cs=>simp [AQ.kind] at hk
 |row a b c d=>simp [AQ.kind] at hk
 |mapo a b c=>simp [AQ.kind] at hk
theorem St.next (hs:St B N ro base κ env h a w) {κ':Ay} {env':Env} {h':Heap} {a':Act} {w':World} (hr:Rel B N κ' env' h' a' w') (x:Ext κ h w κ' h' w') (hd:a'.defers=a.defers):St B N ro base κ' env' h' a' w':=
 ⟨hr,by rw [hd];exact hs.marks.ext x,hs.round.ext x,le_trans hs.bsz x.size⟩
def HO (B:Nat→Prop) (N:Nat) (ro:Option Nat) (base:Nat) (κ:Ay) (env:Env) (h:Heap) (w:World) (W:List Tmp) (K:Exit→Env→Heap→Option R) (r:R) (e:Exit) (a':Act) (w':World):Prop:=
 ∃env' h' κ',K e env' h'=some r∧St B N ro base κ' env' h' a' w'∧Ext κ h w κ' h' w'∧∀i,i∉W→env' i=env i
theorem LK:∀(L:List Tmp) (i:Tmp) (k j:Nat),findIdx i L k=some j→∃m,j=k+m∧L[m]? = some i
 |[],i,k,j,h=>by simp [findIdx] at h
 |x::L,i,k,j,h=>by
  simp only [findIdx] at h;split at h
  ·rename_i e;cases h;exact ⟨0,rfl,by simp [e]⟩
  ·obtain ⟨m,h1,h2⟩:=LK L i (k+1) j h;exact ⟨m+1,by omega,by simpa using h2⟩
theorem RJ {tm:Tmp→AV} {env0:Env} {h0:Heap} {κ0:Ay} {w0:World} {a0:Act} {L W:List Tmp} {K:List AV→Heap→Option R} {r:R} (hk:Fy tm env0 h0 L env h K=some r) (hs0:Rel B N κ0 env0 h0 a0 w0) (hr:Rel B N κ env h a w) (x:Ext κ0 h0 w0 κ h w)
  (hW:∀i,i∉W→env i=env0 i) :
  ∃s hs,K s hs=some r∧Rel B N (κ.take h0.length) (CX tm W L env0 s) (Bd h0 0 hs) a w∧Ext κ0 h0 w0 (κ.take h0.length) (Bd h0 0 hs) w∧(∀i,i∉W→CX tm W L env0 s i=env0 i)∧∀b,Ex (κ.take h0.length) (Bd h0 0 hs) b→Ex κ h b:=by
 unfold Fy at hk
 try simp only [AD] at hk
 obtain ⟨hL,hk1⟩:=AE hk;obtain ⟨hs,hk2,hun,hbe⟩:=Rf hk1 (Mk x);have hLi:∀(m:Nat) (i:Tmp),L[m]? = some i→below 4 h0.length (env i)=true∧Kf (Rh tm env0 i) (env i)=true:=fun m i hm=>by have:=D1 hL hm;simpa using this
 have hget:∀(i:Tmp) (k:Nat),findIdx i L 0=some k→GK (Rh tm env0 i) ((L.map env).getD k .undef)=env i∧below 4 h0.length (env i)=true:=fun i k hf=>by
  obtain ⟨m,rfl,hm⟩:=LK L i 0 k hf;have h1:(L.map env).getD (0+m) .undef=env i:=by simp [List.getD,hm]
  rw [h1];exact ⟨OS (hLi m i hm).2,(hLi m i hm).1⟩
 refine ⟨_,hs,hk2,⟨?_,hr.size,fun i => ?_⟩,?_,fun i hi => ?_,fun b hb => ?_⟩
 ·rw [hun];exact hr.heap.DQ hbe
 ·rw [hun];unfold CX;cases hf:findIdx i L 0 with
  |some k=>
   obtain ⟨h1,h2⟩:=hget i k hf;simp only [h1];exact (hr.slot i).DQ (DF 4 h2)
  |none=>
   dsimp only;split
   ·exact .undef _
   ·rename_i hc;have hni:i∉W:=fun hm=>hc (by simpa using hm);rw [← hW i hni];refine (hr.slot i).DQ ?_;rw [hW i hni];exact (hs0.slot i).refs
 ·rw [hun];exact x.DQ (le_refl _)
 ·unfold CX;cases hf:findIdx i L 0 with
  |some k=>
   obtain ⟨h1,_⟩:=hget i k hf;simp only [h1];exact hW i hi
  |none=>
   dsimp only;rw [if_neg (by simpa using hi)]
 ·rw [hun] at hb;exact hb.take
theorem Marks.less {κ':Ay} {h':Heap} (hx:∀b,Ex κ' h' b→Ex κ h b) {ds:List Deferred} (hm:Marks base κ h w ds):Marks base κ' h' w ds:=by obtain ⟨rs,h1,h2,h3⟩:=hm;exact ⟨rs,h1,h2,fun r hr=>⟨(h3 r hr).1,(h3 r hr).2.1,fun he=>(h3 r hr).2.2 (hx r he)⟩⟩
theorem IV {tm:Tmp→AV} {env0:Env} {h0:Heap} {κ0:Ay} {w0:World} {a0:Act} {L W:List Tmp} {K:List AV→Heap→Option R} {r:R} (hk:Fy tm env0 h0 L env h K=some r) (hs0:St B N ro base κ0 env0 h0 a0 w0) (hr:St B N ro base κ env h a w) (x:Ext κ0 h0 w0 κ h w)
  (hW:∀i,i∉W→env i=env0 i) :
  ∃s hs,K s hs=some r∧St B N ro base (κ.take h0.length) (CX tm W L env0 s) (Bd h0 0 hs) a w∧Ext κ0 h0 w0 (κ.take h0.length) (Bd h0 0 hs) w∧∀i,i∉W→CX tm W L env0 s i=env0 i:=by
 obtain ⟨s,hs,k1,k2,k3,k4,k5⟩:=RJ hk hs0.rel hr.rel x hW;exact ⟨s,hs,k1,⟨k2,hr.marks.less k5,hs0.round.ext k3,hr.bsz⟩,k3,k4⟩
theorem Dj {hi:Hints} {W:List Tmp}:∀{L:List Tmp} {env:Env} {h:Heap} {κ:Ay} {K:Env→Heap→Option R} {r:R},Eo hi L env h K=some r→Rel B N κ env h a w→(∀i∈L,i∈W)→
  ∃env' h' κ',K env' h'=some r∧Rel B N κ' env' h' a w∧Ext κ h w κ' h' w∧∀i,i∉W→env' i=env i
 |[],env,h,κ,K,r,hk,hr,hL=>⟨env,h,κ,hk,hr,Ext.refl _ _ _,fun _ _=>rfl⟩
 |i::L,env,h,κ,K,r,hk,hr,hL=>by
  simp only [Eo] at hk;split at hk
  ·rename_i hn;have hh:=hr.heap;have hv:=hr.slot i;rw [hn] at hv;obtain ⟨a0,hval⟩:∃a0,a.tmps.getD i undef = .slice a0 0 0:=by generalize a.tmps.getD i undef=u at hv;cases hv with|nilsl a0=>exact ⟨a0,rfl⟩
   split at hk
   ·have hr1:Rel B N κ (env.put (some i) (.t (.sl (hi.rowsz i) []))) h a w:=by
     refine ⟨hh,hr.size,fun j => ?_⟩;simp only [Env.put];by_cases hj:j=i
     ·rw [if_pos hj,hj,hval];exact .t _ _ (.nil _ _ _)
     ·rw [if_neg hj];exact hr.slot j
    obtain ⟨env',h',κ',k1,k2,k3,k4⟩:=Dj (W:=W) hk hr1 fun j hj=>hL j (by simp [hj]);refine ⟨env',h',κ',k1,k2,k3,fun j hj => ?_⟩;rw [k4 j hj];simp only [Env.put];rw [if_neg fun e=>hj (hL j (by simp [e]))]
   generalize hi.rowsz i=z0 at hk;have x1:Ext κ h w (κ++[none]) (h++[.row false 0 z0 []]) w:=BP hh rfl rfl rfl (le_refl _) (fun _ _=>rfl) (fun b base e=>by cases e);have hh1:=BC hh (fun _ _=>rfl) x1 (fun b base e=>by cases e) (show Fs B (κ++[none]) (h++[.row false 0 z0 []]) w none (.row false 0 z0 []) from rfl);have hr1:Rel B N (κ++[none]) (env.put (some i) (.sref h.length 0 0 0)) (h++[.row false 0 z0 []]) a w:=by
    refine ⟨hh1,hr.size,fun j => ?_⟩;simp only [Env.put];by_cases hj:j=i
    ·rw [if_pos hj,hj,hval];exact Bi (by rw [← hh.len];exact Ae κ _) (Ae h _)
    ·rw [if_neg hj];exact (hr.slot j).ext x1
   obtain ⟨env',h',κ',k1,k2,k3,k4⟩:=Dj (W:=W) hk hr1 fun j hj=>hL j (by simp [hj]);refine ⟨env',h',κ',k1,k2,x1.trans k3,fun j hj => ?_⟩;rw [k4 j hj];simp only [Env.put];rw [if_neg fun e=>hj (hL j (by simp [e]))]
  ·exact Dj hk hr fun j hj=>hL j (by simp [hj])
theorem Hu {W L:List Tmp}:∀i∈L.filter (fun i=>W.contains i),i∈W:=fun i hi=>by simpa using (mem_filter.1 hi).2
end Ab
namespace Ab
open Go
variable {R:Type} {B:Nat→Prop} {κ:Ay} {h:Heap} {w:World} {N:Nat} {env:Env} {a:Act} {ro:Option Nat} {base:Nat}
theorem HO.of {W W':List Tmp} {K:Exit→Env→Heap→Option R} {r:R} {e:Exit} {a':Act} {w':World} {κ1:Ay} {env1:Env} {h1:Heap} {w1:World} (x:Ext κ h w κ1 h1 w1) (hW:∀i,i∉W→env1 i=env i) (hsub:∀i,i∉W→i∉W')
  (hp:HO B N ro base κ1 env1 h1 w1 W' K r e a' w'):HO B N ro base κ env h w W K r e a' w':=by
 obtain ⟨env',h',κ',k1,k2,k3,k4⟩:=hp;exact ⟨env',h',κ',k1,k2,x.trans k3,fun i hi=>(k4 i (hsub i hi)).trans (hW i hi)⟩
def Rk (C:Cfg) (fn:FuncId) (N:Nat) (rec:Rec):Prop:=∀{R:Type} (B:Nat→Prop) (ro:Option Nat) (base n:Nat) (f:Operand) (params:Array Tmp) (assign body:Code) (env:Env) (h:Heap) (K:Exit→Env→Heap→Option R) (r:R) (κ:Ay) (a:Act) (w:World),
 (match ev env f with
  | .func (.func g) first captured=>if enters C.P g=false then none else
   rec R (.fn g (first++[.yld h.length]++captured)) (h++[.loop {fn,size:=N,env,params:=params.toList,assign,body,busy:=false,pending:=none,ended:=false,hl:=h.length}]) fun _ h1=>
    (QL h1 h.length).bind fun j=>if (((h1.take h.length).all (GP h.length))=true) then (match j with
     |none=>K .normal env (h1.take h.length)
     |some c=>(QW c).bind fun e=>K e env (h1.take h.length)) else none
  |_=>none)=some r→St B N ro base κ env h a w→(Code.rangeFunc f params assign body).wpIn (Fr ro) n C.P (HO B N ro base κ env h w [] K r) a w
theorem Lk {C:Cfg} {hi:Hints} {fn:FuncId} {rec:Rec} {pc:A4} {fuel:Nat} (hrec:DL C.P rec) (hpc:Bn C.P pc) (hmix:C.P.follows .mixedOrders=true) (hrange:Rk C fn N rec) (n:Nat) :
  ∀(c:Code) {env:Env} {h:Heap} {K:Exit→Env→Heap→Option R} {r:R} {κ:Ay} {a:Act} {w:World},CP C hi fn N rec pc fuel c env h K=some r→St B N ro base κ env h a w→
   c.wpIn (Fr ro) n C.P (HO B N ro base κ env h w (writes c) K r) a w:=by
 intro c
 induction c with
 |skip=>intro env h K r κ a w hk hs;exact wpIn_skip ⟨env,h,κ,hk,hs,Ext.refl _ _ _,fun _ _=>rfl⟩
 |label l=>intro env h K r κ a w hk hs;exact wpIn_label ⟨env,h,κ,hk,hs,Ext.refl _ _ _,fun _ _=>rfl⟩
 |ret=>intro env h K r κ a w hk hs;exact wpIn_ret ⟨env,h,κ,hk,hs,Ext.refl _ _ _,fun _ _=>rfl⟩
 |exit id=>intro env h K r κ a w hk hs;exact wpIn_exit ⟨env,h,κ,hk,hs,Ext.refl _ _ _,fun _ _=>rfl⟩
 |goto l=>intro env h K r κ a w hk hs;simp [CP,AD] at hk
 |refuse why=>intro env h K r κ a w hk hs;simp [CP,AD] at hk
 |scope c _=>intro env h K r κ a w hk hs;simp [CP,AD] at hk
 |region id ops draw=>
  intro env h K r κ a w hk hs;simp only [CP,AD] at hk;split at hk
  ·unfold join at hk;refine MM hrec hpc hmix hk hs.rel _ n ro fun env' h' κ' a' w' k1 k2 k3 k4 k5 k6 => ?_;obtain ⟨s,hs',k7,k8,k9,k10,_⟩:=RJ (W:=dsts ops) k1 hs.rel k2 k3 k4;exact ⟨_,_,_,k7,hs.next k8 k9 k5,k9,k10⟩
  ·refine MM hrec hpc hmix hk hs.rel _ n ro fun env' h' κ' a' w' k1 k2 k3 k4 k5 k6 => ?_;exact ⟨env',h',κ',k1,hs.next k2 k3 k5,k3,k4⟩
 |seq x y ihx ihy=>
  intro env h K r κ a w hk hs;simp only [CP,AD] at hk;refine wpIn_seq (wpIn_mono (ihx hk hs) ?_);intro e a' w' hp;obtain ⟨env',h',κ',k1,k2,k3,k4⟩:=hp;cases e with
  |normal=>
   show y.wpIn (Fr ro) n C.P _ a' w';refine wpIn_mono (ihy k1 k2) fun e2 a2 w2 hp2 => ?_;exact HO.of k3 (fun i hni=>k4 i fun hm=>hni (by simp [writes,hm])) (fun i hni hm=>hni (by simp [writes,hm])) hp2
  |exit id=>exact ⟨env',h',κ',k1,k2,k3,fun i hni=>k4 i fun hm=>hni (by simp [writes,hm])⟩
  |goto l=>exact ⟨env',h',κ',k1,k2,k3,fun i hni=>k4 i fun hm=>hni (by simp [writes,hm])⟩
  |ret=>exact ⟨env',h',κ',k1,k2,k3,fun i hni=>k4 i fun hm=>hni (by simp [writes,hm])⟩
  |panic ch=>exact ⟨env',h',κ',k1,k2,k3,fun i hni=>k4 i fun hm=>hni (by simp [writes,hm])⟩
  |outgrown=>exact ⟨env',h',κ',k1,k2,k3,fun i hni=>k4 i fun hm=>hni (by simp [writes,hm])⟩
 |cond c x y ihx ihy=>
  intro env h K r κ a w hk hs;simp only [CP,AD] at hk;obtain ⟨t,ht,hk1⟩:=bind_some hk;have hcv:=Dp ht (A2 hs.rel c);refine wpIn_cond hcv ?_;split at hk1
  ·cases t with
   |true=>exact wpIn_mono (ihx hk1 hs) fun e a' w' hp=>HO.of (Ext.refl _ _ _) (fun _ _=>rfl) (fun i hni hm=>hni (by simp [writes,hm])) hp
   |false=>cases hk1
  split at hk1
  ·cases t with
   |true=>cases hk1
   |false=>exact wpIn_mono (ihy hk1 hs) fun e a' w' hp=>HO.of (Ext.refl _ _ _) (fun _ _=>rfl) (fun i hni hm=>hni (by simp [writes,hm])) hp
  split at hk1
  ·obtain ⟨env1,h1,κ1,k1,k2,k3,k4⟩:=Dj (W:=writes x++writes y) hk1 hs.rel Hu;have hs1:St B N ro base κ1 env1 h1 a w:=hs.next k2 k3 rfl;unfold join at k1;have fin:∀(z:Code) (hz:∀i,i∈writes z→i∈writes x++writes y),z.wpIn (Fr ro) n C.P (HO B N ro base κ1 env1 h1 w (writes z) (fun e env' h'=>match e with
      | .normal=>Fy hi.tm env1 h1 (hi.cond (DB c)) env' h' fun s hs=>K .normal (CX hi.tm (writes x++writes y) (hi.cond (DB c)) env1 s) (Bd h1 0 hs)
      |e=>K e env' h') r) a w→z.wpIn (Fr ro) n C.P (HO B N ro base κ env h w (writes (.cond c x y)) K r) a w:=by
    intro z hz hw;refine wpIn_mono hw fun e a' w' hp => ?_;obtain ⟨env',h',κ',j1,j2,j3,j4⟩:=hp;have j4':∀i,i∉writes x++writes y→env' i=env1 i:=fun i hni=>j4 i fun hm=>hni (hz i hm);cases e with
    |normal=>
     obtain ⟨s,hs',k7,k8,k9,k10⟩:=IV (W:=writes x++writes y) j1 hs1 j2 j3 j4';exact ⟨_,_,_,k7,k8,k3.trans k9,fun i hni=>(k10 i hni).trans (k4 i hni)⟩
    |exit id=>exact ⟨env',h',κ',j1,j2,k3.trans j3,fun i hni=>(j4' i hni).trans (k4 i hni)⟩
    |goto l=>exact ⟨env',h',κ',j1,j2,k3.trans j3,fun i hni=>(j4' i hni).trans (k4 i hni)⟩
    |ret=>exact ⟨env',h',κ',j1,j2,k3.trans j3,fun i hni=>(j4' i hni).trans (k4 i hni)⟩
    |panic ch=>exact ⟨env',h',κ',j1,j2,k3.trans j3,fun i hni=>(j4' i hni).trans (k4 i hni)⟩
    |outgrown=>exact ⟨env',h',κ',j1,j2,k3.trans j3,fun i hni=>(j4' i hni).trans (k4 i hni)⟩
   cases t with
   |true=>exact fin x (fun i hm=>by simp [hm]) (ihx k1 hs1)
   |false=>exact fin y (fun i hm=>by simp [hm]) (ihy k1 hs1)
  ·cases t with
   |true=>exact wpIn_mono (ihx hk1 hs) fun e a' w' hp=>HO.of (Ext.refl _ _ _) (fun _ _=>rfl) (fun i hni hm=>hni (by simp [writes,hm])) hp
   |false=>exact wpIn_mono (ihy hk1 hs) fun e a' w' hp=>HO.of (Ext.refl _ _ _) (fun _ _=>rfl) (fun i hni hm=>hni (by simp [writes,hm])) hp
 |block id x ih=>
  intro env h K r κ a w hk hs;simp only [CP,AD] at hk;refine wpIn_block ?_;generalize (if J2 x=true then 1 else 0)=one at hk;split at hk
  ·refine wpIn_mono (ih hk hs) fun e a' w' hp => ?_;obtain ⟨env',h',κ',j1,j2,j3,j4⟩:=hp;cases e with
   |exit id'=>
    simp only [Exit.inBlock];dsimp only at j1;split at j1
    ·rename_i he;rw [if_pos he];exact ⟨env',h',κ',j1,j2,j3,j4⟩
    ·rename_i he;rw [if_neg he];exact ⟨env',h',κ',j1,j2,j3,j4⟩
   |normal=>exact ⟨env',h',κ',j1,j2,j3,j4⟩
   |goto l=>exact ⟨env',h',κ',j1,j2,j3,j4⟩
   |ret=>exact ⟨env',h',κ',j1,j2,j3,j4⟩
   |panic ch=>exact ⟨env',h',κ',j1,j2,j3,j4⟩
   |outgrown=>exact ⟨env',h',κ',j1,j2,j3,j4⟩
  ·obtain ⟨env1,h1,κ1,k1,k2,k3,k4⟩:=Dj (W:=writes x) hk hs.rel Hu;have hs1:St B N ro base κ1 env1 h1 a w:=hs.next k2 k3 rfl;unfold join at k1;refine wpIn_mono (ih k1 hs1) fun e a' w' hp => ?_;obtain ⟨env',h',κ',j1,j2,j3,j4⟩:=hp;have k5:∀i,i∉writes x→env' i=env i:=fun i hni=>(j4 i hni).trans (k4 i hni);cases e with
   |exit id'=>
    simp only [Exit.inBlock];dsimp only at j1;split at j1
    ·rename_i he;rw [if_pos he];obtain ⟨s,hs',k7,k8,k9,k10⟩:=IV (W:=writes x) j1 hs1 j2 j3 j4;exact ⟨_,_,_,k7,k8,k3.trans k9,fun i hni=>(k10 i hni).trans (k4 i hni)⟩
    ·rename_i he;rw [if_neg he];exact ⟨env',h',κ',j1,j2,k3.trans j3,k5⟩
   |normal=>
    obtain ⟨s,hs',k7,k8,k9,k10⟩:=IV (W:=writes x) j1 hs1 j2 j3 j4;exact ⟨_,_,_,k7,k8,k3.trans k9,fun i hni=>(k10 i hni).trans (k4 i hni)⟩
   |goto l=>exact ⟨env',h',κ',j1,j2,k3.trans j3,k5⟩
   |ret=>exact ⟨env',h',κ',j1,j2,k3.trans j3,k5⟩
   |panic ch=>exact ⟨env',h',κ',j1,j2,k3.trans j3,k5⟩
   |outgrown=>exact ⟨env',h',κ',j1,j2,k3.trans j3,k5⟩
 |loop x ih=>
  intro env h K r κ a w hk hs;simp only [CP,AD] at hk;obtain ⟨env1,h1,κ1,k1,k2,k3,k4⟩:=Dj (W:=writes x) hk hs.rel Hu;have hs1:St B N ro base κ1 env1 h1 a w:=hs.next k2 k3 rfl;obtain ⟨s,hs',k7,k8,k9,k10⟩:=IV (W:=writes x) k1 hs1 hs1 (Ext.refl _ _ _) (fun _ _=>rfl);refine wpIn_loop_rounds fuel ?_
  revert k7 k8 k9 k10
  generalize κ1.take h1.length=κ2;have key:∀(m:Nat) (s:List AV) (hs':Heap) (κ2:Ay) (a2:Act) (w2:World),AH (fun (p:List AV×Heap) again=>CP C hi fn N rec pc fuel x (CX hi.tm (writes x) (hi.loop (CC x)) env1 p.1) (Bd h1 0 p.2) fun e env' h'=>match e with
    | .normal=>Fy hi.tm env1 h1 (hi.loop (CC x)) env' h' fun s hs=>again (s,hs)
    |e=>K e env' h') m (s,hs')=some r→St B N ro base κ2 (CX hi.tm (writes x) (hi.loop (CC x)) env1 s) (Bd h1 0 hs') a2 w2→Ext κ1 h1 w κ2 (Bd h1 0 hs') w2→
    (∀i,i∉writes x→CX hi.tm (writes x) (hi.loop (CC x)) env1 s i=env1 i)→Code.roundsIn (Fr ro) n C.P x (HO B N ro base κ env h w (writes x) K r) m a2 w2:=by
   intro m
   induction m with
   |zero=>intro s hs' κ2 a2 w2 q1 q2 q3 q4;simp [AH] at q1
   |succ m ihm=>
    intro s hs' κ2 a2 w2 q1 q2 q3 q4;simp only [AH] at q1;show x.wpIn (Fr ro) n C.P (Exit.then (Code.roundsIn (Fr ro) n C.P x (HO B N ro base κ env h w (writes x) K r) m) (HO B N ro base κ env h w (writes x) K r)) a2 w2;refine wpIn_mono (ih q1 q2) fun e a' w' hp => ?_;obtain ⟨env',h',κ',j1,j2,j3,j4⟩:=hp;have j4':∀i,i∉writes x→env' i=env1 i:=fun i hni=>(j4 i hni).trans (q4 i hni);have k5:∀i,i∉writes x→env' i=env i:=fun i hni=>(j4' i hni).trans (k4 i hni);cases e with
    |normal=>
     obtain ⟨s3,hs3,k7,k8,k9,k10⟩:=IV (W:=writes x) j1 hs1 j2 (q3.trans j3) j4';exact ihm s3 hs3 _ a' w' k7 k8 k9 k10
    |exit id'=>exact ⟨env',h',κ',j1,j2,k3.trans (q3.trans j3),k5⟩
    |goto l=>exact ⟨env',h',κ',j1,j2,k3.trans (q3.trans j3),k5⟩
    |ret=>exact ⟨env',h',κ',j1,j2,k3.trans (q3.trans j3),k5⟩
    |panic ch=>exact ⟨env',h',κ',j1,j2,k3.trans (q3.trans j3),k5⟩
    |outgrown=>exact ⟨env',h',κ',j1,j2,k3.trans (q3.trans j3),k5⟩
  exact fun k7 k8 k9 k10=>key fuel s hs' κ2 a w k7 k8 k9 k10
 |rangeFunc f params assign body _ _=>
  intro env h K r κ a w hk hs;simp only [CP,AD] at hk;exact hrange B ro base n f params assign body env h K r κ a w hk hs
end Ab
