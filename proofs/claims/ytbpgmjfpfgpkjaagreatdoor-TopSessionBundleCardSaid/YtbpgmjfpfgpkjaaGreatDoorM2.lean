/- A part of the proof: see the last text. -/
import Derived.Test.YtbpgmjfpfgpkjaaGreatDoorM1
import Derived.WideMake
import Derived.RangeFuncRecord
import Derived.RangeFuncLeaves
import Derived.Shelf.Spec.SlicesInsert
import Derived.Shelf.Spec.SlicesInsertGrow
set_option linter.unusedVariables false
set_option linter.unusedSimpArgs false
open Array renaming eq_empty_of_size_eq_zero → zA, getElem?_toList → yQ, size_append → zD, toArray_toList → yR
open Bool renaming and_eq_true → zE, false_eq_true → zF, not_eq_true' → yS, or_eq_true → yT
open Int (toNat toNat_natCast)
open List (drop foldlM_cons foldl_cons getD_eq_getElem?_getD getElem?_cons_succ getElem?_range length map_map mem_filter mem_filterMap mem_map nodup_nil replicate size_toArray take take_of_length_le)
open List renaming all_cons → yU, all_eq_true → yV, append_assoc → zH, append_nil → yW, append_of_mem → yX, cons_append → yY, eq_nil_of_length_eq_zero → zI, ext_getElem? → zJ, filterMap_cons → yZ, flatten_cons → xA, foldlM_append → xB, getElem?_append_left → zL, getElem?_append_right → zM, getElem?_cons_zero → xC, getElem?_drop → zN, getElem?_eq_getElem → zO, getElem?_eq_none → zP, getElem?_map → zQ, getElem?_set_ne → xD, getElem?_take → zS, getElem?_take_of_lt → zT, length_append → xE, length_cons → xF, length_drop → xG, length_map → xH, length_nil → zV, length_pos_iff → zW, length_take → zX, map_congr_left → xI, map_cons → xJ, mem_append → xK, mem_cons → xL, mem_cons_of_mem → xM, mem_of_getElem? → xN, mem_of_mem_drop → xO, mem_range → xP, mem_singleton → xQ, nil_append → xR, nodup_append → xS, nodup_cons → xT, singleton_append → xU
open Nat (le_succ mod_lt mul_comm not_lt pos_of_ne_zero zero_le)
open Nat renaming add_assoc → yA, add_le_add_left → yB, add_mul → yC, add_zero → yD, le_refl → yE, le_trans → yF, lt_of_lt_of_le → yG, lt_or_ge → yH, min_def → xV, mul_le_mul_right → yJ, succ_mul → yM, zero_add → yN
open Option (bind_assoc bind_none)
open Option renaming map_some → yP
namespace Ab
open Go
variable {R:Type} {P:Program} {B:Nat→Prop} {κ:BG} {h:Heap} {w:World} {N:Nat} {env:Env} {a:Act}
theorem Qb (hr:Rel B N κ env h a w) (x:Option Operand):Ze B κ h w (KV env x) (x.map a.eval):=by
 cases x with
 |none=>exact trivial
 |some x=>exact BR hr x
theorem Gk (hr:Rel B N κ env h a w) (parts:Array (Nat×Operand)):(parts.map fun (i,x)=>(i,a.eval x)).size=(parts.toList.map fun p=>(p.1,ev env p.2)).length∧
  ∀(j i:Nat) (x:AV),(parts.toList.map fun p=>(p.1,ev env p.2))[j]? = some (i,x)→∃v,(parts.map fun (i,x)=>(i,a.eval x)).toList[j]? = some (i,v)∧AO B κ h w x v:=by
 refine ⟨by simp,fun j i x hx => ?_⟩;rw [zQ] at hx;cases hp:parts.toList[j]? with
 |none=>rw [hp] at hx;cases hx
 |some p=>
  rw [hp] at hx;simp only [yP,Option.some.injEq,Prod.mk.injEq] at hx;obtain ⟨rfl,rfl⟩:=hx;refine ⟨a.eval p.2,?_,BR hr p.2⟩;rw [Array.toList_map,zQ,hp];rfl
theorem Jm (hr:Rel B N κ env h a w) (xs:Array Operand):(xs.map a.eval).size=(xs.toList.map (ev env)).length∧∀(j:Nat) (x:AV),(xs.toList.map (ev env))[j]? = some x→AO B κ h w x ((xs.map a.eval).getD j undef):=by
 refine ⟨by simp,fun j x hx => ?_⟩;rw [zQ] at hx;cases hp:xs.toList[j]? with
 |none=>rw [hp] at hx;cases hx
 |some p=>
  rw [hp] at hx;simp only [yP,Option.some.injEq] at hx;subst hx;have hj:j<xs.size:=by simpa using (List.getElem?_eq_some_iff.1 hp).1
  have he:xs[j]=p:=by simpa [hj] using hp
  simp only [Array.getD,Array.size_map,hj,dif_pos];simpa [he] using BR hr p
theorem Od (mx:Bool):∀{l:List AV} {x:Int} {K:AV→Option R} {r:R} {vs:List Value},K7.go mx x l K=some r→vs.length=l.length→(∀(j:Nat) (y:AV) (v:Value),l[j]? = some y→vs[j]? = some v→AO B κ h w y v)→
  ∃n:Int,K (.t (.int .i64 n))=some r∧(vs.foldlM (if mx then Builtin.max2 else Builtin.min2) (.int .i64 x):Sem Value).run P w = .ok (.int .i64 n) w
 |[],x,K,r,vs,hr,hl,hv=>by obtain rfl:vs=[]:=zI (by simpa using hl);exact ⟨x,hr,by simp⟩
 |y::l,x,K,r,vs,hr,hl,hv=>by
  cases vs with
  |nil=>simp at hl
  |cons v vs=>
   simp only [K7.go] at hr;obtain ⟨b,hb,hr1⟩:=bind_some hr;obtain rfl:=Cs hb (hv 0 y v rfl rfl);obtain ⟨n,h1,h2⟩:=Od mx (vs:=vs) hr1 (by simpa using hl) fun j y' v' hy hv'=>hv (j+1) y' v' (by simpa using hy) (by simpa using hv');refine ⟨n,h1,?_⟩;cases mx
   ·simp only [zF,if_false] at h2 ⊢;simp [Builtin.min2,h2]
   ·simp only [if_true] at h2 ⊢;simp [Builtin.max2,h2]
theorem TQ (mx:Bool) {l:List AV} {K:AV→Option R} {r:R} {vs:List Value} (hr:K7 mx l K=some r) (hl:vs.length=l.length) (hv:∀(j:Nat) (y:AV) (v:Value),l[j]? = some y→vs[j]? = some v→AO B κ h w y v) (ts:Array TypeId) (ty:TypeId) :
  ∃n:Int,K (.t (.int .i64 n))=some r∧(if mx then Builtin.max_ ts ty vs.toArray else Builtin.min_ ts ty vs.toArray).run P w = .ok (.int .i64 n) w:=by
 cases l with
 |nil=>simp [K7] at hr
 |cons x l=>
  cases vs with
  |nil=>simp at hl
  |cons v vs=>
   simp only [K7] at hr;obtain ⟨b,hb,hr1⟩:=bind_some hr;obtain rfl:=Cs hb (hv 0 x v rfl rfl);obtain ⟨n,h1,h2⟩:=Od (P:=P) mx (vs:=vs) hr1 (by simpa using hl) fun j y' v' hy hv'=>hv (j+1) y' v' (by simpa using hy) (by simpa using hv');refine ⟨n,h1,?_⟩;cases mx<;>simpa [Builtin.max_,Builtin.min_] using h2
theorem QV {k:IntKind} {n:Int}:∀{m:List (Int×Nat)} {K:AV→Option R} {r:R} {es:List MapEntry} {i:Nat},Ly n m K=some r→es.map (fun e=>(e.key,e.val))=m.map (fun p=>(.int k p.1,.func (.func p.2) #[] #[]))→
  ∃v,K v=some r∧((Instr.findNow (.int k) (.int k n) es i=some none∧∀z,AO B κ h w v (.tuple #[z,.bool false]))∨∃j val,Instr.findNow (.int k) (.int k n) es i=some (some (j,val))∧AO B κ h w v (.tuple #[val,.bool true]))
 |[],K,r,[],i,hq,he=>⟨_,hq,.inl ⟨rfl,fun z =>.tuple _ _ rfl (fun j x hx=>by
   match j,hx with
   |0,hx=>cases hx;exact .undef _
   |1,hx=>cases hx;exact .t _ _ (.bool _))⟩⟩
 |[],K,r,e::es,i,hq,he=>by simp at he
 |p::m,K,r,[],i,hq,he=>by simp at he
 |p::m,K,r,e::es,i,hq,he=>by
  simp only [xJ,List.cons.injEq,Prod.mk.injEq] at he;obtain ⟨⟨h1,h2⟩,h3⟩:=he;simp only [Ly,AB] at hq;split at hq
  ·rename_i hn;refine ⟨_,hq,.inr ⟨i,.func (.func p.2) #[] #[],?_,.tuple _ _ rfl (fun j x hx => ?_)⟩⟩
   ·simp only [Instr.findNow,Instr.sameNow,h1,h2,hn,if_true,beq_self_eq_true]
   ·match j,hx with
    |0,hx=>cases hx;exact .func _ _ _ #[] #[] rfl rfl (fun j x hx=>by simp at hx) (fun j x hx=>by simp at hx)
    |1,hx=>cases hx;exact .t _ _ (.bool _)
  ·rename_i hn;obtain ⟨v,g1,g3⟩:=QV (i:=i+1) hq h3;refine ⟨v,g1,?_⟩;simp only [Instr.findNow,Instr.sameNow,h1,if_true];rw [show (n==p.1)=false by simpa using hn];exact g3
theorem DJ {P:Program} {w:World} {b:Nat} {es:Array MapEntry} {clock:Nat} (hb:w.heap[b]? = some (.map es clock)):(getObj b).run P w = .ok (.map es clock) w:=by simp [getObj,Sem.run,hb]
theorem OT (P:Program) (w:World) (f:Nat→Value):∀(js:List Nat) (bs:List UInt8) (s:ByteArray),js.length=bs.length→(∀(k j:Nat) (b:UInt8),js[k]? = some j→bs[k]? = some b→∃n:Int,f j = .int .u8 n∧UInt8.ofNat n.toNat=b)→
  (forIn js s (fun a y=>match f a with
   | .int .u8 n=>pure (ForInStep.yield (y.push (UInt8.ofNat n.toNat)))
   | _ => (fun _ => ForInStep.yield y) <$> (stuck "bytesToString: byte expected" : Sem PUnit)) : Sem ByteArray).run P w = .ok (bs.foldl ByteArray.push s) w
 |[],[],s,_,_=>by simp
 |v::vs,b::bs,s,hl,h=>by obtain ⟨n,hf,hb⟩:=h 0 v b rfl rfl;have ih:=OT P w f vs bs (s.push b) (by simpa using hl) fun k j b hv hb=>h (k+1) j b (by simpa using hv) (by simpa using hb);rw [List.forIn_cons];simp [hf,hb,ih]
 |[],_::_,_,hl,_=>by simp at hl
 |_::_,[],_,hl,_=>by simp at hl
def TJ:Option (List Tree)→Value
 |some [.int .u8 n]=>.int .u8 n
 |_ =>.int .u8 0
theorem XT {src dst:TypeId} {x:AV} {K:AV→Option R} {r:R} (hq:L4 P h src dst x K=some r) (hh:Ap B κ h w) {vx:Value} (hx:AO B κ h w x vx) :
  ∃v val,K v=some r∧(convert src dst vx).run P w = .ok val w∧AO B κ h w v val:=by
 unfold L4 at hq;simp only [AB] at hq;split at hq
 ·rename_i e hu1 hu2;split at hq
  ·rename_i hu3;obtain ⟨es,hq1,hs⟩:=Kv hq hh hx;obtain ⟨hb,hK⟩:=AD hq1;obtain ⟨_,a,cap,rfl,hcap,hc⟩:=hs;refine ⟨_,.string (bytesOf es),hK,?_,.t _ _ (.str _)⟩;have hby:∀(j:Nat) (e:List Tree),es[j]? = some e→∃n:Int,e=[.int .u8 n]:=fun j e he=>by
    have:=(yV.1 hb) e (xN he);unfold Vn at this;split at this
    ·exact ⟨_,rfl⟩
    ·cases this
   rcases hc with rfl|⟨b,off,rfl,hlt,hcells⟩
   ·cases a with
    |none=>simp [convert,run_underlying hu1,run_underlying hu2,run_underlying hu3,Conv.bytesToString,bytesOf]
    |some a=>simp [convert,run_underlying hu1,run_underlying hu2,run_underlying hu3,Conv.bytesToString,bytesOf,loadCells,loadCellsFrom]
   ·have hcell:∀j,j<es.length→∃n:Int,es[j]? = some [.int .u8 n]∧w.cell? ⟨b,off+j,none⟩=some (.int .u8 n):=fun j hj=>by
     obtain ⟨n,hn⟩:=hby j es[j] (zO hj);have he:es[j]? = some [.int .u8 n]:=by rw [zO hj,hn]
     obtain ⟨u,hu,ht⟩:=hcells j [.int .u8 n] 0 (.int .u8 n) he rfl;cases ht;exact ⟨n,he,by simpa using hu⟩
    have hl:=run_loadCells (P:=P) w ⟨b,off,none⟩ es.length (fun j=>TJ es[j]?) (fun j hj=>by
      obtain ⟨n,he,hc⟩:=hcell j hj;unfold Addr.add;split
      ·rename_i h0;subst h0;simp only [he,TJ];simpa using hc
      ·simp only [he,TJ];simpa using hc)
    have hloop:=OT P w (fun j=>TJ es[j]?) (List.range es.length) (es.map JS) ByteArray.empty (by simp) (fun k j bb hj hbb=>by
     obtain ⟨h1,h2⟩:=List.getElem?_eq_some_iff.1 hj;have h1:k<es.length:=by simpa using h1
     have h2:j=k:=by simpa using h2.symm
     subst h2;obtain ⟨n,he,_⟩:=hcell j h1;rw [zQ,he] at hbb;simp only [yP,Option.some.injEq] at hbb;exact ⟨n,by simp [he,TJ],by rw [← hbb];rfl⟩)
    simp [convert,run_underlying hu1,run_underlying hu2,run_underlying hu3,Conv.bytesToString,hl];exact (congrArg (fun z=>z.andThen fun a w'=>Result.ok (Value.string a) w') (show _=Result.ok (bytesOf es) w from hloop)).trans rfl
  ·cases hq
 ·exact Ta (P:=P) hq hx
theorem Uu {t:TypeId} {x ix:AV} {K:AV→Option R} {r:R} (hq:K9 P t x ix K=some r) {vx vi:Value} (hx:AO B κ h w x vx) (hi:AO B κ h w ix vi) :
  ∃v val,K v=some r∧(Instr.index t vx vi).run P w = .ok val w∧AO B κ h w v val:=by
 unfold K9 at hq;simp only [AB] at hq;split at hq
 ·rename_i s k i hu;obtain ⟨⟨h0,h1⟩,hq1⟩:=AD hq;cases hx with|t _ _ hx=>
  cases hx;cases hi with|t _ _ hi=>
  cases hi;have hlt:i.toNat<s.size:=by omega
  refine ⟨_,.int .u8 (CU s i.toNat),hq1,?_,.t _ _ (.int _ _)⟩;have hb:s[i.toNat]? = some s[i.toNat]:=by simp [hlt]
  simp [Instr.index,Go.asIntOf,run_underlying hu,h0,hb,CU]
 ·rename_i n e cs k i hu;obtain ⟨⟨ha,hz,hl⟩,hq1⟩:=AD hq;obtain ⟨⟨h0,h1⟩,hq2⟩:=AD hq1;have hq3:=KN hq2;cases hi with|t _ _ hi=>
  cases hi;cases hx with
  |agg _ vs hvs hve=>
   obtain ⟨v,hv1,hv2⟩:=Qv (P:=P) (B:=B) (κ:=κ) (h:=h) (w:=w) (g:=fun j=>cs.getD j .undef) (off:=0) (n:=cs.length) (o:=i.toNat) (m:=1) (vs:=vs) (t:=e) (fun j hj=>by have hg:cs[j]? = some cs[j]:=zO hj;have:=hve j _ hg;simpa [List.getD,hg] using this) hvs hz (by omega) ha (fun _=>rfl)
   unfold Fits at hv2;rw [ha] at hv2;refine ⟨_,v,hq3,?_,by simpa using hv2⟩;simp [Instr.index,Go.asIntOf,run_underlying hu,h0,h1,Bk hz,hv1]
 ·cases hq
theorem Ut {t:TypeId} {m x:AV} {K:AV→Option R} {r:R} (hq:K8 P t m x K=some r) {vm vx:Value} (hm:AO B κ h w m vm) (hx:AO B κ h w x vx) :
  ∃v val,K v=some r∧(Instr.lookup t vm vx true).run P w = .ok val w∧AO B κ h w v val:=by
 unfold K8 at hq;simp only [AB] at hq;split at hq
 ·rename_i k l k' n;obtain ⟨⟨rfl,hT⟩,hq1⟩:=AD hq;clear hq;cases hx with|t _ _ hx=>
  cases hx;cases hm with|t _ _ hm=>
  cases hm with|mp _ _ b es clock h1 h2 h3 h4=>
  unfold mapTy at hT;split at hT
  ·rename_i key elem hu;rw [zE] at hT;obtain ⟨hT,hz⟩:=hT;split at hT
   ·rename_i k2 hk;obtain rfl:k2=k':=by simpa using hT
    obtain ⟨i,z,hi,hz⟩:∃i z,P.info? elem=some i∧i.zero=some z:=by
     cases hi:P.info? elem with
     |none=>simp [hi] at hz
     |some i=>cases hz':i.zero with
      |none=>simp [hi,hz'] at hz
      |some z=>exact ⟨i,z,rfl,hz'⟩
    obtain ⟨v,g1,g3⟩:=QV (B:=B) (κ:=κ) (h:=h) (w:=w) (i:=0) hq1 h4;have hck:∀(e:Bool),(Instr.checkKey e 10000 key (.int k2 n)).run P w = .ok () w:=fun e=>by
     have:∀m:Nat,(Instr.checkKey e (m+1) key (.int k2 n)).run P w = .ok () w:=fun m=>by simp [Instr.checkKey,run_underlying hk]
     exact this 9999
    rcases g3 with ⟨g3,g2⟩|⟨j,val,g3,g2⟩
    ·refine ⟨v,_,g1,?_,g2 z⟩;simp [Instr.lookup,run_underlying hu,DJ h3,hck,Instr.findKey,run_underlying hk,g3,zeroValue,typeInfo,hi,hz]
    ·refine ⟨v,_,g1,?_,g2⟩;simp [Instr.lookup,run_underlying hu,DJ h3,hck,Instr.findKey,run_underlying hk,g3]
   ·cases hT
  ·cases hT
 ·cases hq
theorem MN {t:TypeId} {k ke:IntKind} (h:ID P t=some (k,ke)):∃key elem i,P.underlying t=some (.map key elem)∧P.underlying key=some (.int k)∧P.info? elem=some i∧i.zero=some (.int ke 0):=by
 unfold ID at h;split at h
 ·rename_i key elem hu;split at h
  ·rename_i k1 ke1 h1 h2;split at h
   ·rename_i hz;cases h;unfold VF at hz;split at hz
    ·rename_i k2 z hb;simp only [zE,decide_eq_true_eq] at hz;obtain ⟨rfl,rfl⟩:=hz;cases hi:P.info? elem with
     |none=>rw [hi] at hb;cases hb
     |some i=>rw [hi] at hb;exact ⟨key,elem,i,hu,h1,hi,hb⟩
    ·cases hz
   ·cases h
  ·cases h
 ·cases h
theorem RB {k ke:IntKind} {n:Int}:∀(l:List MapEntry) (es:List (Int×Int)) (i:Nat),l.map (fun e=>(e.key,e.val))=es.map (fun p=>((.int k p.1:Value),(.int ke p.2:Value)))→
  (F6 n es=none∧Instr.findNow (.int k) (.int k n) l i=some none)∨∃j v,F6 n es=some v∧es[j]? = some (n,v)∧Instr.findNow (.int k) (.int k n) l i=some (some (i+j,.int ke v))∧∀y,G7 n y es=es.set j (n,y)
 |[],es,i,h=>by
  have:es=[]:=by
   cases es with
   |nil=>rfl
   |cons p l=>simp at h
  subst this;exact .inl ⟨rfl,rfl⟩
 |e::l,[],i,h=>by simp at h
 |e::l,p::es,i,h=>by
  simp only [xJ,List.cons.injEq,Prod.mk.injEq] at h;obtain ⟨⟨h1,h2⟩,h3⟩:=h;by_cases hn:n=p.1
  ·refine .inr ⟨0,p.2,by simp [F6,hn],by simp [hn],?_,fun y=>by simp [G7,hn]⟩;simp [Instr.findNow,Instr.sameNow,h1,h2,hn]
  ·have hb:(n==p.1)=false:=by simpa using hn
   rcases RB (n:=n) l es (i+1) h3 with ⟨a1,a2⟩|⟨j,v,a1,a2,a3,a4⟩
   ·exact .inl ⟨by simp [F6,hn,a1],by simp [Instr.findNow,Instr.sameNow,h1,hb,a2]⟩
   ·refine .inr ⟨j+1,v,by simp [F6,hn,a1],by simpa using a2,?_,fun y=>by simp [G7,hn,a4 y]⟩;simp only [Instr.findNow,Instr.sameNow,h1,if_true,hb,a3];rw [show i+1+j=i+(j+1) by omega]
theorem MM {n y:Int}:∀{es:List (Int×Int)},F6 n es=none→G7 n y es=es++[(n,y)]
 |[],_=>rfl
 |p::es,h=>by
  unfold F6 at h;split at h
  ·cases h
  ·rename_i hn;simp [G7,hn,MM h]
theorem Gp {key:TypeId} {k:IntKind} (hk:P.underlying key=some (.int k)) (e:Bool) (n:Int) (w:World):(Instr.checkKey e 10000 key (.int k n)).run P w = .ok () w:=by
 have:∀m:Nat,(Instr.checkKey e (m+1) key (.int k n)).run P w = .ok () w:=fun m=>by simp [Instr.checkKey,run_underlying hk]
 exact this 9999
theorem XO {t:TypeId} {i:Nat} {x:AV} {co:Bool} {K:AV→Option R} {r:R} (hq:L0 P t h i x co K=some r) (hh:Ap B κ h w) {vm vx:Value} (hm:AO B κ h w (.mref i) vm) (hx:AO B κ h w x vx) :
  ∃v val,K v=some r∧(Instr.lookup t vm vx co).run P w = .ok val w∧AO B κ h w v val:=by
 unfold L0 at hq;simp only [AB] at hq;split at hq
 ·rename_i k ke es kx n k' ke' hi hmk;obtain ⟨⟨rfl,rfl,rfl⟩,hq1⟩:=AD hq;cases hm with|mref _ b hk _=>
  obtain ⟨h0,en,clock,hb,hs⟩:=hh.obj i _ _ hi hk;cases hx with|t _ _ hx=>
  cases hx;obtain ⟨key,elem,io,hu,hku,hio,hz⟩:=MN hmk;rcases RB (n:=n) en.toList es 0 hs with ⟨a1,a2⟩|⟨j,v,a1,a2,a3,a4⟩
  ·rw [a1] at hq1;cases co with
   |true=>exact ⟨_,_,hq1,by simp [Instr.lookup,run_underlying hu,DJ hb,Gp hku,Instr.findKey,run_underlying hku,a2,zeroValue,typeInfo,hio,hz];rfl,.tuple _ _ rfl fun j y hy=>by
     match j,hy with
     |0,hy=>cases hy;exact .t _ _ (.int _ _)
     |1,hy=>cases hy;exact .t _ _ (.bool _)⟩
   |false=>exact ⟨_,_,hq1,by simp [Instr.lookup,run_underlying hu,DJ hb,Gp hku,Instr.findKey,run_underlying hku,a2,zeroValue,typeInfo,hio,hz],.t _ _ (.int _ _)⟩
  ·rw [a1] at hq1;cases co with
   |true=>exact ⟨_,_,hq1,by simp [Instr.lookup,run_underlying hu,DJ hb,Gp hku,Instr.findKey,run_underlying hku,a3];rfl,.tuple _ _ rfl fun j y hy=>by
     match j,hy with
     |0,hy=>cases hy;exact .t _ _ (.int _ _)
     |1,hy=>cases hy;exact .t _ _ (.bool _)⟩
   |false=>exact ⟨_,_,hq1,by simp [Instr.lookup,run_underlying hu,DJ hb,Gp hku,Instr.findKey,run_underlying hku,a3],.t _ _ (.int _ _)⟩
 ·cases hq
theorem Dx {r:Nat} {o:Obj} (hr:w.heap[r]? = some o):r<w.heap.size:=by
 rcases yH r w.heap.size with y|y
 ·exact y
 ·rw [Array.getElem?_eq_none y] at hr;cases hr
theorem Pu (hh:Ap B κ h w) {i b:Nat} {k ke:IntKind} {es es':List (Int×Int)} {en en':Array MapEntry} {clock clock':Nat} (hi:h[i]? = some (.mapo k ke es)) (hk:κ[i]? = some (some (b,0)))
  (hb:w.heap[b]? = some (.map en clock)) (hs:en'.toList.map (fun e=>(e.key,e.val))=es'.map fun p=>((.int k p.1:Value),(.int ke p.2:Value))) :
  Ap B κ (h.set i (.mapo k ke es')) (w.putObj b (.map en' clock'))∧Ext κ h w κ (h.set i (.mapo k ke es')) (w.putObj b (.map en' clock')):=by
 have hlt:=Dx hb;have hil:=AS hi;have hE:Ex κ h b:=⟨i,0,_,hk,hi,rfl⟩
 have hget:∀(j:Nat) (o:AF),(h.set i (.mapo k ke es'))[j]? = some o→(j=i∧o = .mapo k ke es')∨(j≠i∧h[j]? = some o):=fun j o hj=>by
  by_cases e:j=i
  ·subst e;rw [List.getElem?_set_self hil] at hj;cases hj;exact .inl ⟨rfl,rfl⟩
  ·rw [xD (Ne.symm e)] at hj;exact .inr ⟨e,hj⟩
 have x:Ext κ h w κ (h.set i (.mapo k ke es')) (w.putObj b (.map en' clock')):=by
  refine ⟨rfl,rfl,rfl,by simp,fun b' hb' hn=>World.putObj_heap_other fun e=>hn (e ▸ hE),fun b' he => ?_,fun j o ho => ?_,fun _ _ _ _ _ _=>rfl,fun j o o' ho ho' _ b' base hb' cells elem fr hc => ?_⟩
  ·obtain ⟨j,base,o,h1,h2,h3⟩:=he;rcases hget j o h2 with ⟨rfl,rfl⟩|⟨_,h2⟩
   ·exact .inl ⟨j,base,_,h1,hi,rfl⟩
   ·exact .inl ⟨j,base,o,h1,h2,h3⟩
  ·by_cases e:j=i
   ·subst e;rw [hi] at ho;cases ho;exact ⟨.mapo k ke es',List.getElem?_set_self hil,rfl,yE _,fun _=>⟨rfl,rfl⟩,(fun e=>by cases e),(fun e=>by cases e),rfl⟩
   ·exact ⟨o,(xD (Ne.symm e)).trans ho,.refl o⟩
  ·by_cases e:b'=b
   ·subst e;rw [World.putObj_heap_same hlt] at hc;cases hc
   ·rw [World.putObj_heap_other e] at hc;exact ⟨cells,hc,rfl⟩
 refine ⟨⟨by simp [hh.len],hh.inj,hh.notB,fun j b' bs hj=>by simpa using hh.lt j b' bs hj,fun b' hb'=>by simpa using hh.ltB b' hb',fun j o k' ho hk' => ?_⟩,x⟩;rcases hget j o ho with ⟨rfl,rfl⟩|⟨hne,ho⟩
 ·rw [hk] at hk';cases hk';exact ⟨rfl,en',clock',World.putObj_heap_same hlt,hs⟩
 ·refine (hh.obj j o k' ho hk').ext x fun b' base e=>World.putObj_heap_other fun e2 => ?_;subst e e2;exact hne (hh.inj j i _ _ _ hk' hk)
theorem TS {t:TypeId} {K:AV→Heap→Option R} {r:R} (hq:Gs P t h K=some r) (hh:Ap B κ h w) :
  ∃v h' κ' val w',K v h'=some r∧(Instr.makeMap t none).run P w = .ok val w'∧AO B κ' h' w' v val∧Ap B κ' h' w'∧Ext κ h w κ' h' w':=by
 unfold Gs at hq;split at hq
 ·rename_i k ke hmk;have x:=B9 hh (w':=w.alloc (.map #[] 0)) (k:=some (w.heap.size,0)) (o :=.mapo k ke []) rfl rfl rfl (by simp) (fun b hb=>Av w _ hb) (fun b base e=>by cases e;exact yE _);refine ⟨_,_,_,_,_,hq,run_makeMap_plain _ t,.mref _ _ (by rw [← hh.len];exact Ao κ _) ⟨k,ke,[],Ao _ _⟩,Bj hh (fun b hb=>Av w _ hb) x (fun b base e=>by cases e;exact ⟨yE _,by simp⟩) ⟨rfl,#[],0,Ba w _,rfl⟩,x⟩
 ·cases hq
theorem Us {t:TypeId} {m x v:AV} {K:Heap→Option R} {r:R} (hq:I9 P t h m x v K=some r) (hh:Ap B κ h w) {vm vx vv:Value} (hm:AO B κ h w m vm) (hx:AO B κ h w x vx) (hv:AO B κ h w v vv) :
  ∃h' w',K h'=some r∧(Instr.mapUpdate t vm vx vv).run P w = .ok () w'∧Ap B κ h' w'∧Ext κ h w κ h' w':=by
 unfold I9 at hq;simp only [AB] at hq;split at hq
 ·rename_i i kx n kv y;split at hq
  ·rename_i k ke es k' ke' hi hmk;obtain ⟨⟨rfl,rfl,rfl,rfl⟩,hq1⟩:=AD hq;cases hm with|mref _ b hk _=>
   obtain ⟨h0,en,clock,hb,hs⟩:=hh.obj i _ _ hi hk;cases hx with|t _ _ hx=>
   cases hx;cases hv with|t _ _ hv=>
   cases hv;obtain ⟨key,elem,io,hu,hku,hio,hz⟩:=MN hmk;rcases RB (n:=n) en.toList es 0 hs with ⟨a1,a2⟩|⟨j,v,a1,a2,a3,a4⟩
   ·have hp:=Pu (en':=en.push {key :=.int kx n,val :=.int kv y,born:=clock}) (clock':=clock+1) hh hi hk hb (es':=G7 n y es) (by rw [MM a1];simp [hs]);refine ⟨_,_,hq1,?_,hp⟩;simp only [Instr.mapUpdate,Sem.run_bind,run_underlying hu,Result.andThen_ok,DJ hb,Gp hku,Instr.findKey,run_underlying hku,a2,Sem.run_pure];simp [setObj,Sem.run,hb,World.putObj]
   ·rw [yN] at a3;have he:∃e:MapEntry,en[j]? = some e∧e.key = .int kx n:=by
     have:=congrArg (fun l=>l[j]?) hs;simp only [zQ,a2,yP,yQ] at this;cases hj:en[j]? with
     |none=>rw [hj] at this;cases this
     |some e=>rw [hj] at this;simp only [yP,Option.some.injEq,Prod.mk.injEq] at this;exact ⟨e,rfl,this.1⟩
    obtain ⟨e,hj,hek⟩:=he;have hp:=Pu (en':=en.modify j fun e=>{e with key :=.int kx n,val :=.int kv y}) (clock':=clock) hh hi hk hb (es':=G7 n y es) (by
     rw [a4 y];refine zJ fun q => ?_;have hq:=congrArg (fun l=>l[q]?) hs;simp only [zQ,yQ] at hq;simp only [zQ,yQ,Array.getElem?_modify,List.getElem?_set];by_cases hqj:j=q
     ·subst hqj;simp [hj,AS a2]
     ·simp [hqj,hq])
    refine ⟨_,_,hq1,?_,hp⟩;have hst:(Instr.keyThatStays (((en[j]?).map (·.key)).getD (.int kx n)) (.int kx n)).run P w = .ok (.int kx n) w:=by rw [hj];simp [Instr.keyThatStays,Instr.sameBits,hek]
    simp only [Instr.mapUpdate,Sem.run_bind,run_underlying hu,Result.andThen_ok,DJ hb,Gp hku,Instr.findKey,run_underlying hku,a3,Sem.run_pure,hst];simp [setObj,Sem.run,hb,World.putObj]
  ·cases hq
 ·cases hq
theorem TK {t:TypeId} {len:Nat} {parts:Array (Nat×Operand)} {K:AV→Heap→Option R} {r:R} (hq:FA P t h len (parts.toList.map fun p=>(p.1,ev env p.2)) K=some r) (hr:Rel B N κ env h a w) (o:Oper) (ho:o.op = .buildSlice t len parts) :
  ∃v h' κ' val w',K v h'=some r∧(execOp a.eval o).run P w = .ok (.value val) w'∧AO B κ' h' w' v val∧Ap B κ' h' w'∧Ext κ h w κ' h' w':=by
 unfold execOp;rw [ho];obtain ⟨v,h',κ',val,w',h1,h2,h3,h4,h5⟩:=RX (P:=P) hq (Gk hr parts).1 (Gk hr parts).2 hr.heap;exact ⟨v,h',κ',val,w',h1,by simp [h2],h3,h4,h5⟩
theorem Yc {src dst:TypeId} {x:Operand} {K:AV→Heap→Option R} {r:R} (hb:PC P src dst=true) (hq:Lx h (ev env x) K=some r) (hr:Rel B N κ env h a w) (o:Oper) (ho:o.op = .convert src dst x) :
  ∃v h' κ' val w',K v h'=some r∧(execOp a.eval o).run P w = .ok (.value val) w'∧AO B κ' h' w' v val∧Ap B κ' h' w'∧Ext κ h w κ' h' w':=by
 unfold execOp;rw [ho];obtain ⟨v,h',κ',val,w',h1,h2,h3,h4,h5⟩:=XN (P:=P) hb hq hr.heap (BR hr x);exact ⟨v,h',κ',val,w',h1,by simp [h2],h3,h4,h5⟩
theorem UA {op:Op} {K:AV→Option R} {r:R} (hq:qop P env h op K=some r) (hr:Rel B N κ env h a w) (o:Oper) (ho:o.op=op) :
  ∃v val w',K v=some r∧(execOp a.eval o).run P w = .ok (.value val) w'∧AO B κ h w' v val∧Ap B κ h w'∧Ext κ h w κ h w':=by
 have hx:=Ext.refl κ h w;unfold execOp;rw [ho];unfold qop at hq
 try simp only [AB] at hq
 split at hq
 ·exact ⟨_,_,w,hq,rfl,BR hr _,hr.heap,hx⟩
 ·exact ⟨_,_,w,hq,rfl,BR hr _,hr.heap,hx⟩
 ·rename_i c x y;obtain ⟨t,ht,hq1⟩:=bind_some hq;have hc:=E8 ht (BR hr c);cases t
  ·exact ⟨_,_,w,by simpa using hq1,by simp [hc,Go.asBool],BR hr y,hr.heap,hx⟩
  ·exact ⟨_,_,w,by simpa using hq1,by simp [hc,Go.asBool],BR hr x,hr.heap,hx⟩
 ·rename_i t parts;obtain ⟨v,val,h1,h2,h3⟩:=XV (P:=P) hq (Gk hr parts).1 (Gk hr parts).2;exact ⟨v,val,w,h1,by simp [h2],h3,hr.heap,hx⟩
 ·rename_i t len parts;obtain ⟨v,val,w',h1,h2,h3,h4,h5⟩:=Oj (P:=P) hq (Gk hr parts).1 (Gk hr parts).2 hr.heap;exact ⟨v,val,w',h1,by simp [h2],h3,h4,h5⟩
 ·obtain ⟨v,val,h1,h2,h3⟩:=TU hq hr.heap (BR hr _);have h1:=retV_ok h1;exact ⟨v,val,w,h1,by simp [h2],h3,hr.heap,hx⟩
 ·obtain ⟨v,val,h1,h2,h3⟩:=abin_ok hq (BR hr _) (BR hr _) _ _;exact ⟨v,val,w,h1,by simp only [Sem.run_bind] at h2 ⊢;rw [h2];rfl,h3,hr.heap,hx⟩
 ·obtain ⟨v,val,h1,h2,h3⟩:=aun_ok (P:=P) hq (BR hr _);exact ⟨v,val,w,h1,by simp [h2],h3,hr.heap,hx⟩
 ·obtain ⟨v,val,h1,h2,h3⟩:=XT (P:=P) hq hr.heap (BR hr _);exact ⟨v,val,w,h1,by simp [h2],h3,hr.heap,hx⟩
 ·rename_i fn first captured
  split at hq
  ·cases hq
  ·refine ⟨_,_,w,hq,by simp [Instr.makeFunc],.func _ _ _ _ _ (Jm hr first).1 (Jm hr captured).1 (Jm hr first).2 (Jm hr captured).2,hr.heap,hx⟩
 ·obtain ⟨v,val,h1,h2,h3⟩:=XL (P:=P) hq (BR hr _) (Qb hr _) (Qb hr _) (Qb hr _) hr.heap;exact ⟨v,val,w,h1,by simp [h2],h3,hr.heap,hx⟩
 ·obtain ⟨v,val,h1,h2,h3⟩:=XS (P:=P) hq (BR hr _);exact ⟨v,val,w,h1,by simp [h2],h3,hr.heap,hx⟩
 ·obtain ⟨v,val,h1,h2,h3⟩:=XQ (P:=P) hq (BR hr _) (BR hr _) hr.heap;exact ⟨v,val,w,h1,by simp [h2],h3,hr.heap,hx⟩
 ·rename_i t i;split at hq
  ·rename_i vs hvs;split at hq
   ·rename_i v hv;have ht:=BR hr t;rw [hvs] at ht;generalize hgt:a.eval t=tv at ht;cases ht with
    |tuple _ arr hs hall=>
     have hi:i<arr.size:=by rw [hs];exact AS hv
     have he:arr[i]? = some (arr.getD i undef):=by rw [Array.getElem?_eq_getElem hi];simp only [Array.getD,hi,dif_pos];rfl
     have hrun:(Instr.extract (.tuple arr) i).run P w = .ok (arr.getD i undef) w:=by show (match arr[i]? with | some v => (pure v : Sem Value) | none => stuck "Extract: no such component").run P w = _;rw [he];rfl
     exact ⟨v,_,w,hq,by simp only [Sem.run_bind,hgt,hrun,Result.andThen_ok,Sem.run_pure],hall i v hv,hr.heap,hx⟩
   ·cases hq
  ·cases hq
 ·rename_i x;have hv:=BR hr x;split at hq
  ·rename_i i off he;rw [he] at hv;generalize hg:a.eval x=vx at hv;cases hv with
   |ptr _ _ b base hk hb=>exact ⟨_,_,w,hq,by simp [hg],.ptr i off b base hk hb,hr.heap,hx⟩
  ·rename_i s c off he;rw [he] at hv;generalize hg:a.eval x=vx at hv;cases hv with
   |eptr _ _ _ b base u h1 h2 h3 h4 h5=>exact ⟨_,_,w,hq,by simp [hg],.eptr s c off b base u h1 h2 h3 h4 h5,hr.heap,hx⟩
  ·rename_i f aa bb he;rw [he] at hv;generalize hg:a.eval x=vx at hv;cases hv with
   |func _ _ _ fs cs h1 h2 h3 h4=>exact ⟨_,_,w,hq,by simp [hg],.func _ _ _ fs cs h1 h2 h3 h4,hr.heap,hx⟩
  ·rename_i i he;rw [he] at hv;generalize hg:a.eval x=vx at hv;cases hv with
   |yld _ b base hk hb=>exact ⟨_,_,w,hq,by simp [hg],.yld i b base hk hb,hr.heap,hx⟩
  ·rename_i i ver k off he;rw [he] at hv;generalize hg:a.eval x=vx at hv;cases hv with
   |rptr _ _ _ _ _ h1 h2 h3=>
    obtain ⟨p,rfl⟩:=h1;exact ⟨_,_,w,hq,by simp [hg],.rptr i ver k off _ ⟨p,rfl⟩ h2 h3,hr.heap,hx⟩
  ·cases hq
 ·rename_i t m x co;split at hq
  ·rename_i i he;have hm:=BR hr m;rw [he] at hm;obtain ⟨v,val,h1,h2,h3⟩:=XO (P:=P) hq hr.heap hm (BR hr _);exact ⟨v,val,w,h1,by simp [h2],h3,hr.heap,hx⟩
  ·obtain ⟨hco,hq⟩:=AD hq;subst hco;obtain ⟨v,val,h1,h2,h3⟩:=Ut (P:=P) hq (BR hr _) (BR hr _);exact ⟨v,val,w,h1,by simp [h2],h3,hr.heap,hx⟩
 ·obtain ⟨v,val,h1,h2,h3⟩:=Uu (P:=P) hq (BR hr _) (BR hr _);exact ⟨v,val,w,h1,by simp [h2],h3,hr.heap,hx⟩
 ·rename_i args argTypes;split at hq
  ·rename_i x t hxa hta;obtain ⟨v,val,h1,h2,h3⟩:=alen_ok (P:=P) hq (BR hr x) hr.heap o.type;have e1:args = #[x]:=by cases args;simp_all
   have e2:argTypes = #[t]:=by cases argTypes;simp_all
   subst e1 e2;exact ⟨v,val,w,h1,by simp [resolve,invoke,builtin,h2],h3,hr.heap,hx⟩
  ·cases hq
 ·rename_i args argTypes;obtain ⟨n,h1,h2⟩:=TQ (P:=P) true (vs:=(args.map a.eval).toList) hq (by simp) (fun j y v hy hv=>by have:=(Jm hr args).2 j y hy;rwa [F9 _ j undef hv] at this) argTypes o.type
  simp only [if_true] at h2;exact ⟨_,_,w,h1,by
   rw [yR] at h2;simp [resolve,invoke,builtin,h2],.t _ _ (.int _ _),hr.heap,hx⟩
 ·rename_i args argTypes;obtain ⟨n,h1,h2⟩:=TQ (P:=P) false (vs:=(args.map a.eval).toList) hq (by simp) (fun j y v hy hv=>by have:=(Jm hr args).2 j y hy;rwa [F9 _ j undef hv] at this) argTypes o.type
  simp only [zF,if_false] at h2;exact ⟨_,_,w,h1,by
   rw [yR] at h2;simp [resolve,invoke,builtin,h2],.t _ _ (.int _ _),hr.heap,hx⟩
 ·cases hq
theorem nilK_ok {v:AV} {K:Bool→Option R} {r:R} (hq:nilK v K=some r) {val:Value} (hv:AO B κ h w v val) {t e:TypeId} (hu:P.underlying t=some (.slice e)) :
  ∃b,K b=some r∧(∀ox oy,(eqGuard .eql t ox oy val (.slice none 0 0)).run P w = .ok () w)∧(binOp .eql t val (.slice none 0 0)).run P w = .ok (.bool b) w:=by
 have hrun:∀(a:Option Addr) (n c:Nat),(∀ox oy,(eqGuard .eql t ox oy (.slice a n c) (.slice none 0 0)).run P w = .ok () w)∧(binOp .eql t (.slice a n c) (.slice none 0 0)).run P w = .ok (.bool a.isNone) w:=by
  intro a n c;have he:(Op.equalIn (9999+1) t (.slice a n c) (.slice none 0 0)).run P w = .ok a.isNone w:=by rw [Op.equalIn];cases a<;>simp [run_underlying hu]
  refine ⟨fun ox oy=>Dp rfl,?_⟩;simp only [binOp,Op.equal,Op.maxDepth,Sem.run_bind];rw [he];rfl
 unfold nilK at hq
 try simp only [AB] at hq
 split at hq
 ·rename_i z es;cases hv with
  |t _ _ ht=>
   split at hq
   ·rename_i hne;cases ht with
    |nil=>simp at hne
    |sl=>exact ⟨_,hq,hrun (some _) _ _⟩
   ·obtain ⟨h1,h2⟩:=I6 hq;cases ht with
    |nil _ cap a0=>exact ⟨a0.isNone,by cases a0<;>assumption,hrun _ _ _⟩
    |sl=>exact ⟨_,h2,hrun (some _) _ _⟩
 ·obtain ⟨h1,h2⟩:=I6 hq;cases hv with
  |nilsl a0=>exact ⟨a0.isNone,by cases a0<;>assumption,hrun _ _ _⟩
 ·cases hq
theorem SZ {v:Value} (z:Nat) (hv:AO B κ h w .nilsl v):AO B κ h w (.t (.sl z [])) v:=by cases hv with|nilsl a0=>exact .t _ _ (.nil _ _ _)
theorem Sa {P:Program} {tf:TypeId→Bool}:∀{ts:List TypeId} {cs:List AV} {vs:List Value},cs.length=vs.length→(∀(j:Nat) (x:AV) (v:Value),cs[j]? = some x→vs[j]? = some v→AO B κ h w x v)→
  (HW P tf ts cs).length=vs.length∧∀(j:Nat) (x:AV) (v:Value),(HW P tf ts cs)[j]? = some x→vs[j]? = some v→AO B κ h w x v
 |ts,[],vs,hl,hv=>⟨hl,fun j x v hx=>by simp [HW] at hx⟩
 |ts,c::cs,[],hl,hv=>by simp at hl
 |ts,c::cs,u::vs,hl,hv=>by
  obtain ⟨i1,i2⟩:=Sa (P:=P) (tf:=tf) (ts:=ts.tail) (cs:=cs) (vs:=vs) (by simpa using hl) fun j x v hx hv'=>hv (j+1) x v (by simpa using hx) (by simpa using hv');refine ⟨by simp [HW,i1],fun j x v hx hv' => ?_⟩;cases j with
  |zero=>
   have h0:=hv 0 c u rfl rfl;simp only [HW,xC,Option.some.injEq] at hx hv';subst hx hv';cases c<;>first|exact h0|(simp only;split;exact SZ _ h0;exact h0)
  |succ j=>
   simp only [HW,getElem?_cons_succ] at hx hv';exact i2 j x v hx hv'
theorem GL {P:Program} {tf:TypeId→Bool} {ts:List TypeId} {cs:List AV} {arr:Array Value} (hc:AY B κ h w cs arr):AY B κ h w (HW P tf ts cs) arr:=by
 obtain ⟨h1,h2⟩:=Sa (P:=P) (tf:=tf) (ts:=ts) (cs:=cs) (vs:=arr.toList) (by simp [hc.1]) fun j x v hx hv=>by have:=hc.2 j x hx;rwa [F9 arr.toList j undef hv] at this
 refine ⟨by simp [h1],fun j x hx => ?_⟩;have hj:j<arr.size:=by have:=(List.getElem?_eq_some_iff.1 hx).1;rw [h1] at this;simpa using this
 exact h2 j x _ hx (by simp [Array.getD,hj])
theorem nilV_ok {P:Program} {tf:TypeId→Bool} {t:TypeId} {v:AV} {u:Value} (hv:AO B κ h w v u):AO B κ h w (nilV P tf t v) u:=by
 cases v with
 |agg cs=>
  cases hv with|agg _ vs h1 h2=>
  obtain ⟨k1,k2⟩:=GL (P:=P) (tf:=tf) (ts:=CD P 16 t) (show AY B κ h w cs vs from ⟨h1,h2⟩);exact .agg _ _ k1 k2
 |nilsl=>
  simp only [nilV];split
  ·exact SZ _ hv
  ·exact hv
 |_=>exact hv
theorem hop_ok {op:Op} {K:AV→Heap→Option R} {r:R} {tf:TypeId→Bool} (hq:hop P tf env h op K=some r) (hr:Rel B N κ env h a w) (o:Oper) (ho:o.op=op) :
  ∃v h' κ' val w',K v h'=some r∧((execOp a.eval o).run P w = .ok (.value val) w'∨((execOp a.eval o).run P w = .ok .skip w'∧val=undef))∧AO B κ' h' w' v val∧Ap B κ' h' w'∧Ext κ h w κ' h' w':=by
 unfold execOp;rw [ho];unfold hop at hq
 try simp only [AB] at hq
 split at hq
 ·rename_i t;split at hq
  ·rename_i z hz;obtain ⟨i,v,hi,hv,hc⟩:=Ct (B:=B) (κ:=κ) (h:=h) (w:=w) hz;obtain ⟨v',h',κ',h1,h2,h3,h4⟩:=IX hq hr.heap (GL hc) t;exact ⟨v',h',κ',_,_,h1,.inl (by simp [Instr.alloc,zeroValue,typeInfo,hi,hv,newVar,newRow]),h2,h3,h4⟩
  ·cases hq
 ·rename_i t x;split at hq
  ·rename_i cs hcs;obtain ⟨v',h',κ',h1,h2,h3,h4⟩:=IX hq hr.heap (GL (IP hcs (BR hr x))) t;exact ⟨v',h',κ',_,_,h1,.inl (by simp [Instr.box,newVar,newRow]),h2,h3,h4⟩
  ·cases hq
 ·obtain ⟨h',κ',w',h1,h2,h3,h4⟩:=QT (P:=P) hq hr.heap (BR hr _) (nilV_ok (BR hr _));exact ⟨_,h',κ',undef,w',h1,.inr ⟨by simp [h2],rfl⟩,.undef _,h3,h4⟩
 ·rename_i t x ty;split at hq
  ·rename_i e hu;obtain ⟨b,h1,h2,h3⟩:=nilK_ok (P:=P) hq (BR hr x) hu;refine ⟨_,h,κ,.bool b,w,h1,.inl ?_,.t _ _ (.bool _),hr.heap,Ext.refl _ _ _⟩;have e1:a.eval (.const (.slice none 0 0))= .slice none 0 0:=rfl;simp only [e1];simp [h2,h3]
  ·cases hq
 ·rename_i args argTypes;split at hq
  ·rename_i s x t t' hxa hta;obtain ⟨htt,hq1⟩:=AD hq;obtain ⟨v,h',κ',val,w',h1,h2,h3,h4,h5⟩:∃v h' κ' val w',K v h'=some r∧(Builtin.append_ #[t,t'] o.type #[a.eval s,a.eval x]).run P w = .ok val w'∧AO B κ' h' w' v val∧Ap B κ' h' w'∧Ext κ h w κ' h' w':=by
    split at hq1
    ·exact RY (P:=P) htt hq1 hr.heap (BR hr s) (BR hr x) o.type
    ·exact Jw (P:=P) htt hq1 hr.heap (BR hr s) (BR hr x) o.type
   have e1:args = #[s,x]:=by cases args;simp_all
   have e2:argTypes = #[t,t']:=by cases argTypes;simp_all
   subst e1 e2;exact ⟨v,h',κ',val,w',h1,.inl (by simp [resolve,invoke,builtin,h2]),h3,h4,h5⟩
  ·cases hq
 ·rename_i args argTypes;split at hq
  ·rename_i x t hxa hta;obtain ⟨h',w',h1,h2,h3,h4⟩:=XU (P:=P) hq hr.heap (BR hr x) o.type;have e1:args = #[x]:=by cases args;simp_all
   have e2:argTypes = #[t]:=by cases argTypes;simp_all
   subst e1 e2;exact ⟨_,h',κ,.tuple #[],w',h1,.inl (by simp [resolve,invoke,builtin,h2]),.tuple _ _ rfl (fun j x hx=>by simp at hx),h3,h4⟩
  ·cases hq
 ·rename_i args argTypes;split at hq
  ·rename_i d x t t' hxa hta;obtain ⟨v,h',val,w',h1,h2,h3,h4,h5⟩:=ZZ (P:=P) (t':=t') hq hr.heap (BR hr d) (BR hr x) o.type;have e1:args = #[d,x]:=by cases args;simp_all
   have e2:argTypes = #[t,t']:=by cases argTypes;simp_all
   subst e1 e2;exact ⟨v,h',κ,val,w',h1,.inl (by simp [resolve,invoke,builtin,h2]),h3,h4,h5⟩
  ·cases hq
 ·obtain ⟨v,h',κ',val,w',h1,h2,h3,h4,h5⟩:=ZU (P:=P) hq hr.heap (BR hr _) (BR hr _);exact ⟨v,h',κ',val,w',h1,.inl (by simp [h2]),h3,h4,h5⟩
 ·obtain ⟨v,h',κ',val,w',h1,h2,h3,h4,h5⟩:=TS (P:=P) hq hr.heap;exact ⟨v,h',κ',val,w',h1,.inl (by simp [h2]),h3,h4,h5⟩
 ·obtain ⟨h',w',h1,h2,h3,h4⟩:=Us (P:=P) hq hr.heap (BR hr _) (BR hr _) (BR hr _);exact ⟨_,h',κ,undef,w',h1,.inr ⟨by simp [h2],rfl⟩,.undef _,h3,h4⟩
 ·cases hq
theorem XI {t:TypeId} {x:Operand} {K:AV→Option R} {r:R} (hq:Lt P t (ev env x) h K=some r) (hr:Rel B N κ env h a w) (o:Oper) (ho:o.op = .box t x) :
  ∃v κ' val w',K v=some r∧(execOp a.eval o).run P w = .ok (.value val) w'∧AO B κ' h w' v val∧Ap B κ' h w'∧Ext κ h w κ' h w':=by
 unfold Lt at hq
 try simp only [AB] at hq
 split at hq
 ·rename_i cs n hcs hn;obtain ⟨hl,hq⟩:=AD hq;have hc:=IP hcs (BR hr x);obtain ⟨xs,hK,hxl,_,hT⟩:=DS (P:=P) hq hr.heap (vs:=(a.eval x).cells.toList) (by simpa using hc.1) (CE hc);have x1:Ext κ h w κ h (w.alloc (.cells (a.eval x).cells t)):=Iy hr.heap _;have hh1:Ap B κ h (w.alloc (.cells (a.eval x).cells t)):=Ix hr.heap x1 fun b hb=>Av w _ hb;have hnew:(w.alloc (.cells (a.eval x).cells t)).heap[w.heap.size]? = some (.cells (a.eval x).cells t):=by show (w.heap.push (.cells (a.eval x).cells t))[w.heap.size]? = _;simp
  refine ⟨_,κ,.pointer (some ⟨w.heap.size,0,none⟩),w.alloc (.cells (a.eval x).cells t),hK,?_,?_,hh1,x1⟩
  ·unfold execOp;rw [ho];simp [Instr.box,newVar,newRow]
  ·have hsz:xs.length=(a.eval x).cells.size:=by rw [hxl];exact hc.1.symm
   refine .eptr n xs 0 w.heap.size 0 (fun c=>(a.eval x).cells.getD c undef) (by omega) (by simp [World.size_alloc]) ?_ (fun c y hy => ?_) (fun c y hy => ?_)
   ·rintro (hb|⟨i,base,ob,y1,_,_⟩)
    ·have:=hr.heap.ltB _ hb;omega
    ·have:=hr.heap.lt i _ _ y1;omega
   ·have hlt:c<(a.eval x).cells.size:=by rw [← hsz];exact AS hy
    rw [yN,Bz hnew hlt]
   ·have hlt:c<(a.eval x).cells.size:=by rw [← hsz];exact AS hy
    have:=hT c y ((a.eval x).cells.getD c undef) hy (by simp [Array.getD,hlt]);refine Bv.ext x1 (this.less ?_)
    rintro b (hb|hb)
    ·exact .inl hb
    ·exact .inr ⟨rfl,hb⟩
 ·cases hq
theorem TW {t:TypeId} {K:AV→Heap→Option R} {r:R} (hq:Gt P t h K=some r) (hr:Rel B N κ env h a w) (o:Oper) (ho:o.op = .alloc t) :
  ∃v h' κ' val w',K v h'=some r∧(execOp a.eval o).run P w = .ok (.value val) w'∧AO B κ' h' w' v val∧Ap B κ' h' w'∧Ext κ h w κ' h' w':=by
 unfold Gt at hq
 try simp only [AB] at hq
 split at hq
 ·rename_i z n hz hn;obtain ⟨⟨hn0,hl⟩,hq⟩:=AD hq;obtain ⟨i,v,hi,hv,hc⟩:=Ct (B:=B) (κ:=κ) (h:=h) (w:=w) hz;obtain ⟨xs,hK,hxl,_,hT⟩:=DS (P:=P) hq hr.heap (vs:=v.cells.toList) (by simpa using hc.1) (CE hc);have h5:∀b,b<w.heap.size→(w.alloc (.cells v.cells t)).heap[b]? = w.heap[b]? :=fun b hb=>Av w _ hb;have x2:Ext κ h w (κ++[some (w.heap.size,0)]) (h++[.row false 0 n [xs]]) (w.alloc (.cells v.cells t)):=
   B9 (w':=w.alloc (.cells v.cells t)) hr.heap rfl rfl rfl (by simp) h5 fun b base e=>by injection e with e;injection e with e;omega
  have hsz:v.cells.size=n:=by rw [hc.1,hl]
  have hh2:=Bj hr.heap h5 x2 (fun b base e=>by injection e with e;injection e with e;subst e;exact ⟨yE _,by simp⟩)
   (Cd hn0 (Ba w _) (.inl rfl) (by simp [hsz]) ⟨fun j e he=>by
     cases j with
     |zero=>simp at he;subst he;rw [hxl,hl]
     |succ j=>simp at he,fun j e c y he hy=>by
     cases j with
     |zero=>
      simp at he;subst he;have hc2:c<v.cells.size:=by rw [hsz,← hl,← hxl];exact AS hy
      have:=hT c y (v.cells.getD c undef) hy (by simp [Array.getD,hc2]);have t2:=Bv.ext x2 (this.less (A':=fun b=>B b∨Ex κ h b) (by
       rintro b (hb|hb)
       ·exact .inl hb
       ·exact .inr ⟨rfl,hb⟩))
      simpa using t2
     |succ j=>simp at he⟩)
  refine ⟨_,_,_,.pointer (some ⟨w.heap.size,0,none⟩),w.alloc (.cells v.cells t),hK,?_,?_,hh2,x2⟩
  ·unfold execOp;rw [ho];simp [Instr.alloc,zeroValue,typeInfo,hi,hv,newVar,newRow]
  ·refine .rptr _ _ _ _ _ ⟨_,rfl⟩ ⟨_,Ao h _,yE _⟩ fun o' ho' _ => ?_;rw [Ao h _] at ho';cases ho';exact ⟨w.heap.size,0,by rw [← hr.heap.len];exact Ao κ _,by simp,rfl,by simp [AF.len]⟩
 ·cases hq
theorem VZ {κ':BG} {h':Heap} {t:TypeId} {v:Value} {n ver:Nat} {xs:List Tree} (hn0:n≠0) (hxl:xs.length=n) (hsz:v.cells.size=n)
  (x2:Ext κ h w κ' h' (w.alloc (.cells v.cells t))) (hT:∀(c:Nat) (y:Tree) (u:Value),xs[c]? = some y→v.cells.toList[c]? = some u→Bv w (fun b=>B b∨(true=true∧Ex κ h b)) y u) :
  HI B κ' h' (w.alloc (.cells v.cells t)) (some (w.heap.size,0)) (.row false ver n [xs]):=
 Cd hn0 (Ba w _) (.inl rfl) (by simp [hsz]) ⟨fun j e he=>by
  cases j with
  |zero=>simp at he;subst he;exact hxl
  |succ j=>simp at he,fun j e c y he hy=>by
  cases j with
  |zero=>
   simp at he;subst he;have hc2:c<v.cells.size:=by rw [hsz,← hxl];exact AS hy
   have:=hT c y (v.cells.getD c undef) hy (by simp [Array.getD,hc2]);have t2:=Bv.ext x2 (this.less (A':=fun b=>B b∨Ex κ h b) (by
    rintro b (hb|hb)
    ·exact .inl hb
    ·exact .inr ⟨rfl,hb⟩))
   simpa using t2
  |succ j=>simp at he⟩
theorem TV {tf:TypeId→Bool} {t:TypeId} {u u2:AV} {K:AV→Heap→Option R} {r:R} (hq:Of P tf t u u2 h K=some r) (hr:Rel B N κ env h a w) (o:Oper) (ho:o.op = .alloc t) :
  ∃v h' κ' val w',K v h'=some r∧(execOp a.eval o).run P w = .ok (.value val) w'∧AO B κ' h' w' v val∧Ap B κ' h' w'∧Ext κ h w κ' h' w':=by
 unfold Of at hq
 try simp only [AB] at hq
 split at hq
 ·rename_i z n hz hn;obtain ⟨⟨hn0,hl⟩,hq⟩:=AD hq;obtain ⟨i,v,hi,hv,hc⟩:=Ct (B:=B) (κ:=κ) (h:=h) (w:=w) hz;obtain ⟨xs,hK,hxl,_,hT⟩:=DS (P:=P) hq hr.heap (vs:=v.cells.toList) (by simpa using hc.1) (CE hc);have h5:∀b,b<w.heap.size→(w.alloc (.cells v.cells t)).heap[b]? = w.heap[b]? :=fun b hb=>Av w _ hb;have hsz:v.cells.size=n:=by rw [hc.1,hl]
  have hxn:xs.length=n:=by rw [hxl,hl]
  have hrun:(execOp a.eval o).run P w = .ok (.value (.pointer (some ⟨w.heap.size,0,none⟩))) (w.alloc (.cells v.cells t)):=by unfold execOp;rw [ho];simp [Instr.alloc,zeroValue,typeInfo,hi,hv,newVar,newRow]
  split at hK
  ·rename_i ri rv rk ro _;split at hK
   ·split at hK
    ·rename_i ver' size es hri;obtain ⟨kk,hkk⟩:=CH hr.heap hri;have hOL:OLe (.row false ver' size es) (.row false (ver'+1) n [xs]):=⟨rfl,le_succ _,(fun e=>by simp [AF.ver] at e),(fun e=>by cases e),(fun e=>by cases e),rfl⟩
     have x1:Ext κ h w (κ.set ri (some (w.heap.size,0))) (h.set ri (.row false (ver'+1) n [xs])) (w.alloc (.cells v.cells t)):=
      DH (w':=w.alloc _) hr.heap hri rfl hOL hkk rfl rfl rfl (by simp) (fun b' hb' _=>h5 b' hb') (fun b base e=>by injection e with e;injection e with e;exact .inr (by omega)) (fun e=>by simp [AF.ver] at e)
     have hh1:=CZ hr.heap hri hkk (fun b' hb' _=>h5 b' hb') (fun b base e=>by injection e with e;injection e with e;subst e;exact ⟨.inr (yE _),by simp⟩) x1 (VZ hn0 hxn hsz x1 hT);refine ⟨_,_,_,_,_,hK,hrun,?_,hh1,x1⟩;refine .rptr _ _ _ _ _ ⟨_,rfl⟩ ⟨_,A5 hri,yE _⟩ fun o' ho' _ => ?_;rw [A5 hri] at ho';cases ho';exact ⟨w.heap.size,0,A5 hkk,by simp,rfl,by simp [AF.len]⟩
    ·cases hK
   ·obtain ⟨v',h',κ',h1,h2,h3,h4⟩:=IX hK hr.heap (GL hc) t;exact ⟨v',h',κ',_,_,h1,hrun,h2,h3,h4⟩
  ·have x2:Ext κ h w (κ++[some (w.heap.size,0)]) (h++[.row false 0 n [xs]]) (w.alloc (.cells v.cells t)):=
    B9 (w':=w.alloc (.cells v.cells t)) hr.heap rfl rfl rfl (by simp) h5 fun b base e=>by injection e with e;injection e with e;omega
   have hh2:=Bj hr.heap h5 x2 (fun b base e=>by injection e with e;injection e with e;subst e;exact ⟨yE _,by simp⟩) (VZ hn0 hxn hsz x2 hT);refine ⟨_,_,_,_,_,hK,hrun,?_,hh2,x2⟩;refine .rptr _ _ _ _ _ ⟨_,rfl⟩ ⟨_,Ao h _,yE _⟩ fun o' ho' _ => ?_;rw [Ao h _] at ho';cases ho';exact ⟨w.heap.size,0,by rw [← hr.heap.len];exact Ao κ _,by simp,rfl,by simp [AF.len]⟩
 ·cases hq
end Ab
namespace Ab
open Go
variable {R:Type} {P:Program} {B:Nat→Prop} {κ:BG} {h:Heap} {w:World}
theorem CF {α:Type} {l:List α} {m i:Nat} {x:α} (hx:(l.take m)[i]? = some x):i<m∧l[i]? = some x:=by
 rcases yH i m with h1|h1
 ·rw [zT h1] at hx;exact ⟨h1,hx⟩
 ·simp [zS,not_lt.2 h1] at hx
theorem DP {α:Type} {l:List α} {m i:Nat} {x:α} (hi:i<m) (hx:l[i]? = some x):(l.take m)[i]? = some x:=by rw [zT hi];exact hx
theorem Ex.take {m b:Nat} (hx:Ex (κ.take m) (h.take m) b):Ex κ h b:=by obtain ⟨i,base,o,h1,h2,h3⟩:=hx;exact ⟨i,base,o,(CF h1).2,(CF h2).2,h3⟩
theorem AO.Ec {m:Nat} {x:AV} {v:Value} (hv:AO B κ h w x v) (hr:Refs m x):AO B (κ.take m) (h.take m) w x v:=by
 induction hv with
 |undef v=>exact .undef v
 |t y v ht=>exact .t y v (ht.less fun b hb=>hb.imp id Ex.take)
 |nilsl a=>exact .nilsl a
 |ptr i off b base hk hb=>
  cases hr with
  |ptr _ _ hi=>obtain ⟨cs,hcs⟩:=hb;exact .ptr _ _ _ _ (DP hi hk) ⟨cs,DP hi hcs⟩
 |mref i b hk hb=>
  cases hr with
  |mref _ hi=>obtain ⟨k,ke,es,hes⟩:=hb;exact .mref _ _ (DP hi hk) ⟨k,ke,es,DP hi hes⟩
 |rptr i ver k off v h1 hex hv=>
  cases hr with
  |rptr _ _ _ _ hi=>
   obtain ⟨o,ho,hver⟩:=hex;refine .rptr _ _ _ _ _ h1 ⟨o,DP hi ho,hver⟩ fun o' ho' he => ?_;obtain ⟨b,base,e0,e1⟩:=hv o' (CF ho').2 he;exact ⟨b,base,DP hi e0,e1⟩
 |eptr size cells off b base u h1 h2 h3 h4 h5=>exact .eptr _ _ _ _ _ u h1 h2 (fun hh=>h3 (hh.imp id Ex.take)) h4 fun c y hy=>(h5 c y hy).less fun b hb=>hb.imp id Ex.take
 |sref i ver off len v h1 hex hs=>
  cases hr with
  |sref _ _ _ _ hi=>
   obtain ⟨o,ho,hver⟩:=hex;exact .sref _ _ _ _ _ h1 ⟨o,DP hi ho,hver⟩ fun k o' hk ho' he=>hs k o' (CF hk).2 (CF ho').2 he
 |bsl i off len size cap b hk hb hl=>
  cases hr with
  |bsl _ _ _ _ hi=>obtain ⟨cs,hcs,hc⟩:=hb;exact .bsl _ _ _ _ _ _ (DP hi hk) ⟨cs,DP hi hcs,hc⟩ hl
 |yld i b base hk hb=>
  cases hr with
  |yld _ hi=>obtain ⟨l,hl⟩:=hb;exact .yld _ _ _ (DP hi hk) ⟨l,DP hi hl⟩
 |func fn first captured fs cs h1 h2 _ _ i1 i2=>
  cases hr with
  |func _ _ _ r1 r2=>exact .func _ _ _ _ _ h1 h2 (fun j x hx=>i1 j x hx (r1 j x hx)) (fun j x hx=>i2 j x hx (r2 j x hx))
 |agg xs vs h1 _ ih=>
  cases hr with
  |agg _ r1=>exact .agg _ _ h1 fun j x hx=>ih j x hx (r1 j x hx)
 |tuple xs vs h1 _ ih=>
  cases hr with
  |tuple _ r1=>exact .tuple _ _ h1 fun j x hx=>ih j x hx (r1 j x hx)
theorem FL {α:Type} {p:α→Bool} {l:List α} (hl:l.all p=true) {j:Nat} {x:α} (hx:l[j]? = some x):p x=true:=
 (yV.1 hl) x (xN hx)
theorem EU:∀(d:Nat) {m:Nat} {x:AV},below d m x=true→Refs m x
 |0,m,x,hb=>by simp [below] at hb
 |d+1,m,x,hb=>by
  cases x with
  |undef=>exact .undef
  |t y=>exact .t y
  |nilsl=>exact .nilsl
  |eptr a b c=>exact .eptr _ _ _
  |ptr i off=>exact .ptr _ _ (by simpa [below] using hb)
  |rptr i v k o=>exact .rptr _ _ _ _ (by simpa [below] using hb)
  |sref i v k o=>exact .sref _ _ _ _ (by simpa [below] using hb)
  |bsl i v k o=>exact .bsl _ _ _ _ (by simpa [below] using hb)
  |yld i=>exact .yld _ (by simpa [below] using hb)
  |mref i=>exact .mref _ (by simpa [below] using hb)
  |func fn f c=>
   simp only [below,zE] at hb;exact .func _ _ _ (fun j x hx=>EU d (FL hb.1 hx)) (fun j x hx=>EU d (FL hb.2 hx))
  |agg cs=>simp only [below] at hb;exact .agg _ fun j x hx=>EU d (FL hb hx)
  |tuple cs=>simp only [below] at hb;exact .tuple _ fun j x hx=>EU d (FL hb hx)
theorem Refs.mono {m m':Nat} (hm:m≤m') {x:AV} (hx:Refs m x):Refs m' x:=by
 induction hx with
 |undef=>exact .undef
 |t y=>exact .t y
 |nilsl=>exact .nilsl
 |ptr i o hi=>exact .ptr _ _ (yG hi hm)
 |rptr i v k o hi=>exact .rptr _ _ _ _ (yG hi hm)
 |eptr a b c=>exact .eptr _ _ _
 |sref i v k o hi=>exact .sref _ _ _ _ (yG hi hm)
 |bsl i v k o hi=>exact .bsl _ _ _ _ (yG hi hm)
 |yld i hi=>exact .yld _ (yG hi hm)
 |mref i hi=>exact .mref _ (yG hi hm)
 |func fn f c _ _ i1 i2=>exact .func _ _ _ i1 i2
 |agg xs _ ih=>exact .agg _ ih
 |tuple xs _ ih=>exact .tuple _ ih
theorem HI.Ec {m:Nat} {k:Option (Nat×Nat)} {o:AF} (ho:HI B κ h w k o) (hb:H8 m o=true):HI B (κ.take m) (h.take m) w k o:=by
 cases k with
 |none=>
  cases o with
  |row f v s es=>exact ho
  |box cs=>exact ho.elim
  |loop l=>exact ho.elim
  |mapo a b c=>exact ho.elim
 |some p=>
  obtain ⟨b,base⟩:=p;cases o with
  |box cs=>
   obtain ⟨h0,cells,elem,hc,hs,hv⟩:=ho;exact ⟨h0,cells,elem,hc,hs,fun j y hy=>(hv j y hy).Ec (EU 4 (FL hb hy))⟩
  |row f v s es=>
   obtain ⟨hz,cells,elem,fr,hc,hth,hs,hl,hv⟩:=ho;exact ⟨hz,cells,elem,fr,hc,hth,hs,hl,fun j e c y he hy=>(hv j e c y he hy).less fun b hb=>hb.imp id Ex.take⟩
  |mapo a b c=>exact ho
  |loop l=>
   obtain ⟨f,tmps,hc,hs,hv,hrf,hd,hn⟩:=ho;have hle:l.hl≤m:=by simpa [H8] using hb
   exact ⟨f,tmps,hc,hs,fun i=>(hv i).Ec ((hrf i).mono hle),hrf,hd,fun he=>hn he.take⟩
theorem Ap.Ec {m:Nat} (hh:Ap B κ h w) (hb:(h.take m).all (H8 m)=true):Ap B (κ.take m) (h.take m) w:=
  ⟨by simp [hh.len],fun i j b bs bs' hi hj=>hh.inj i j b bs bs' (CF hi).2 (CF hj).2,fun i b bs hi=>hh.notB i b bs (CF hi).2,fun i b bs hi=>hh.lt i b bs (CF hi).2,hh.ltB,
   fun i o k ho hk=>(hh.obj i o k (CF ho).2 (CF hk).2).Ec (FL hb ho)⟩
theorem Ext.Ec {κ':BG} {h':Heap} {w':World} (x:Ext κ h w κ' h' w') {m:Nat} (hm:h.length≤m):Ext κ h w (κ'.take m) (h'.take m) w' where
 os:=x.os
 tape:=x.tape
 output:=x.output
 size:=x.size
 keep:=x.keep
 ex:=fun b hb=>x.ex b hb.take
 obj:=fun i o ho=>by obtain ⟨o',h1,h2⟩:=x.obj i o ho;exact ⟨o',DP (yG (AS ho) hm) h1,h2⟩
 kap:=fun i o o' ho ho' hv=>by rw [zT (yG (AS ho) hm)];exact x.kap i o o' ho (CF ho').2 hv
 cells:=fun i o o' ho ho' hv b base hk cells elem fr hc=>x.cells i o o' ho (CF ho').2 hv b base hk cells elem fr hc
theorem SC {x0 x:Tree} (hs:X3 x0 x=true):SD x0 x=x:=by
 cases x0 with
 |int k n=>exact (Px hs).symm
 |bool b=>exact (N2 hs).symm
 |str b=>exact (Pw hs).symm
 |sl a b=>exact (So hs).symm
 |const v=>rfl
 |mp k m=>rfl
theorem NP (d:Nat) (ih:∀{v v':AV},Gg d v v'=true→v=v'):∀{a b:List AV},Gg.sameL d a b=true→a=b
 |[],[],_=>rfl
 |[],_::_,h=>by simp [Gg.sameL] at h
 |_::_,[],h=>by simp [Gg.sameL] at h
 |x::a,y::b,h=>by simp only [Gg.sameL,zE] at h;rw [ih h.1,NP d ih h.2]
theorem Gf:∀(d:Nat) {v v':AV},Gg d v v'=true→v=v'
 |0,v,v',h=>by simp [Gg] at h
 |d+1,v,v',h=>by
  unfold Gg at h;split at h
  ·simp only [zE,beq_iff_eq] at h;rw [h.1,h.2]
  ·simp only [beq_iff_eq] at h;rw [h]
  ·simp only [beq_iff_eq] at h;rw [h]
  ·rfl
  ·simp only [zE,beq_iff_eq] at h;rw [h.1.1,NP d (Gf d) h.1.2,NP d (Gf d) h.2]
  ·cases h
theorem Hy {v0 v:AV} (hs:JZ v0 v=true):F4 v0 v=v:=by
 cases v0 with
 |t x=>
  simp only [JZ,zE] at hs;cases v with
  |t y=>
   simp only [F4,AG] at hs ⊢;rw [SC hs.2]
  |_=>simp [isT] at hs
 |sref r a b c=>cases v<;>simp_all [JZ,F4,FN,HT,HU]
 |rptr r a b c=>cases v<;>simp_all [JZ,F4,FN]
 |ptr i o=>exact Gf 4 hs
 |yld i=>exact Gf 4 hs
 |mref i=>exact Gf 4 hs
 |func f a b=>exact Gf 4 hs
 |_=>rfl
theorem FW:∀{cs0 cs:List AV} (pre:List AV),EN cs0 cs=true→DK (.box (pre++cs)) cs0 pre.length=cs
 |[],[],pre,_=>rfl
 |[],c::cs,pre,hs=>by simp [EN] at hs
 |c0::cs0,[],pre,hs=>by simp [EN] at hs
 |c0::cs0,c::cs,pre,hs=>by
  simp only [EN,zE] at hs;have ih:=FW (pre++[c]) hs.2;simp only [zH,xU,xE,xF,zV,yN] at ih;have hc:cellOf (.box (pre++c::cs)) pre.length=c:=by simp [cellOf]
  simp only [DK,hc,Hy hs.1,ih]
theorem SE {v0 v:AV} (hs:NK v0 v=true):H2 v0 v=v:=by
 cases v0 with
 |agg cs0=>
  simp only [NK,zE] at hs;cases v with
  |agg cs=>
   simp only [H2,D1] at hs ⊢;rw [show DK (.box cs) cs0 0=cs from FW [] hs.2]
  |_=>simp [isAgg] at hs
 |_=>
  simp only [NK] at hs;simp only [H2];exact Hy hs
theorem NW {o0 o:AF} (hs:Ch o0 o=true) (hf:o0.MO=true→o=o0) (hrec:o0.kind=1→o.rec? = o0.rec?) (hfx:GZ o0=true→o=o0):reshape o0 o=o:=by
 by_cases hfo:GZ o0=true
 ·have:=hfx hfo;subst this;cases o with
  |box cs=>simp only [reshape,hfo,if_true]
  |_=>simp [GZ] at hfo
 cases o0 with
 |box cs0=>
  cases o with
  |box cs=>simp only [Ch,yT,hfo,zF,false_or] at hs;simp only [reshape,if_neg hfo];rw [show DK (.box cs) cs0 0=cs from FW [] hs]
  |row a b c d=>simp [Ch] at hs
  |loop l=>simp [Ch] at hs
  |mapo a b c=>simp [Ch] at hs
 |mapo k ke es=>
  cases o with
  |box cs=>simp [Ch] at hs
  |row a b c d=>simp [Ch] at hs
  |loop l=>simp [Ch] at hs
  |mapo a b c=>
   simp only [Ch,decide_eq_true_eq] at hs;simp only [reshape,Nr,hs.1,hs.2]
 |row f v s es=>
  cases f with
  |true=>rw [hf rfl];rfl
  |false=>
   cases o with
   |box cs=>simp [Ch] at hs
   |loop l=>simp [Ch] at hs
   |mapo a b c=>simp [Ch] at hs
   |row f' v' s' es'=>
    simp only [Ch,zE,yS,yT,beq_iff_eq] at hs;obtain ⟨rfl,hs⟩:=hs;simp only [reshape,AF.ver,AF.size,CA];rcases hs with rfl|rfl
    ·simp
    ·split<;>simp_all
 |loop l0=>
  cases o with
  |box cs=>simp [Ch] at hs
  |row a b c d=>simp [Ch] at hs
  |mapo a b c=>simp [Ch] at hs
  |loop l=>
   have hrec:=hrec rfl;simp only [AF.rec?,Option.some.injEq] at hrec;simp only [Ch,zE,beq_iff_eq] at hs;have hp:=R6 hs.2;simp only [reshape];cases l;cases l0;simp_all
theorem PG {o0 o o':AF} (hs:still o0=true):reshape o0 o=reshape o0 o':=by
 cases o0 with
 |box cs=>have hs:GZ (.box cs)=true:=hs;simp only [reshape,hs,if_true]
 |row f v s es=>cases f with
  |true=>rfl
  |false=>cases hs
 |mapo a b c=>cases hs
 |loop l=>rfl
theorem M0:∀{h0 h:Heap} (pre:Heap),Hm h0 h=true→(∀(i:Nat) (o0 o:AF),h0[i]? = some o0→h[i]? = some o→(o0.MO=true→o=o0)∧(o0.kind=1→o.rec? = o0.rec?)∧(GZ o0=true→o=o0))→
  ∀(rest:Heap),CR h0 pre.length (pre++(X1 h0 h++rest))=h.take h0.length
 |[],h,pre,_,_,rest=>by simp [CR]
 |o0::h0,[],pre,hs,_,rest=>by simp [Hm] at hs
 |o0::h0,o::h,pre,hs,hx,rest=>by
  simp only [Hm,zE] at hs;have ih:=M0 (h0:=h0) (h:=h) (pre++[if still o0 then .box [] else o]) hs.2 (fun i a b ha hb=>hx (i+1) a b (by simpa using ha) (by simpa using hb)) rest;simp only [zH,xU,xE,xF,zV,yN] at ih;obtain ⟨h1,h2,h3⟩:=hx 0 o0 o rfl rfl;simp only [CR,X1,xF,List.take_succ_cons,yY];rw [ih];have hg:(pre++(if still o0 then .box [] else o)::(X1 h0 h++rest)).getD pre.length default=(if still o0 then .box [] else o):=by simp [List.getD]
  rw [hg];by_cases hst:still o0=true
  ·rw [PG hst (o':=o),NW hs.1 h1 h2 h3]
  ·rw [if_neg hst,NW hs.1 h1 h2 h3]
theorem Lk {r:R}:∀{h0 h:Heap} {a:Option R},W0 h0 h a=some r→a=some r∧∀(i:Nat) (o0 o:AF),h0[i]? = some o0→h[i]? = some o→GZ o0=true→o=o0
 |[],h,a,hr=>⟨hr,fun i o0 o h0=>by simp at h0⟩
 |o0::h0,[],a,hr=>by simp [W0] at hr
 |o0::h0,o::h,a,hr=>by
  unfold W0 at hr;split at hr
  ·unfold A8 at hr;split at hr
   ·rename_i he;obtain ⟨h1,h2⟩:=Lk hr;refine ⟨h1,fun i x y hx hy hf => ?_⟩;cases i with
    |zero=>simp at hx hy;rw [← hx,← hy,he]
    |succ i=>exact h2 i x y (by simpa using hx) (by simpa using hy) hf
   ·cases hr
  ·rename_i hn;obtain ⟨h1,h2⟩:=Lk hr;refine ⟨h1,fun i x y hx hy hf => ?_⟩;cases i with
   |zero=>simp at hx;rw [← hx] at hf;exact absurd hf hn
   |succ i=>exact h2 i x y (by simpa using hx) (by simpa using hy) hf
theorem WA {h0 h':Heap} {K:Heap→Option R} {r:R} (hr:Gn h0 h' K=some r) (hx:∀(i:Nat) (o0 o:AF),h0[i]? = some o0→h'[i]? = some o→(o0.MO=true→o=o0)∧(o0.kind=1→o.rec? = o0.rec?)) :
  ∃hs,K hs=some r∧CR h0 0 hs=h'.take h0.length∧(h'.take h0.length).all (H8 h0.length)=true:=by
 unfold Gn at hr
 try simp only [AB] at hr
 obtain ⟨⟨h1,h2⟩,h3⟩:=AD hr;obtain ⟨h3,h4⟩:=Lk h3;refine ⟨_,h3,?_,h1⟩;have:=M0 [] h2 (fun i o0 o ha hb=>⟨(hx i o0 o ha hb).1,(hx i o0 o ha hb).2,h4 i o0 o ha hb⟩) [];simpa using this
theorem MI {P:Program}:∀{ts:List TypeId} {vs:List AV} (pre:List AV),CG P ts vs=true→Hz P (pre++vs) ts pre.length=vs
 |[],[],pre,_=>rfl
 |[],v::vs,pre,h=>by simp [CG] at h
 |t::ts,[],pre,h=>by simp [CG] at h
 |t::ts,v::vs,pre,h=>by
  simp only [CG,zE] at h;have ih:=MI (pre++[v]) h.2;simp only [zH,xU,xE,xF,zV,yN] at ih;have hc:(pre++v::vs).getD pre.length .undef=v:=by simp
  simp only [Hz,hc,Hy h.1.2,ih]
theorem R4 {P:Program}:∀{ts:List TypeId} {vs:List AV},CG P ts vs=true→∀(i:Nat) (m:Nat),Refs m (vs.getD i .undef)
 |[],[],_,i,m=>by simp;exact .undef
 |[],v::vs,h,_,_=>by simp [CG] at h
 |t::ts,[],h,_,_=>by simp [CG] at h
 |t::ts,v::vs,h,i,m=>by
  simp only [CG,zE] at h;cases i with
  |zero=>
   have h1:=h.1.1;cases v<;>first|(exact .t _)|(simp [isT] at h1)
  |succ i=>simpa using R4 h.2 i m
theorem Pm {h:Heap}:∀{ls:List AV} {i v:Nat},GU h ls=some (i,v)→∃s es,h[i]? = some (.row false v s es)
 |[],i,v,hr=>by simp [GU] at hr
 |x::ls,i,v,hr=>by
  cases x with
  |sref j a b c=>
   simp only [GU] at hr;split at hr
   ·rename_i v' s es hj;cases hr;exact ⟨s,es,hj⟩
   ·cases hr
  |_=>exact Pm (ls:=ls) hr
theorem II {i:Nat}:∀(ls:List AV) (h:Heap),Qx i ls=true→∀j,j≠i→(AX h ls)[j]? = h[j]?
 |[],h,_,j,_=>rfl
 |x::ls,h,ho,j,hj=>by
  simp only [Qx,yU,zE] at ho;show (AX (Ek h x) ls)[j]? = h[j]?;rw [II ls (Ek h x) ho.2 j hj];cases x with
  |sref k a b c=>
   have hk:k=i:=by simpa using ho.1
   simp only [Ek];split
   ·rw [xD (by omega)]
   ·rfl
  |_=>rfl
theorem P6 {κ':BG} {h':Heap} {w':World} (x:Ext κ h w κ' h' w') (i:Nat) (o0 o:AF) (h0:h[i]? = some o0) (h1:h'[i]? = some o):(o0.MO=true→o=o0)∧(o0.kind=1→o.rec? = o0.rec?):=by obtain ⟨o',h2,h3⟩:=x.obj i o0 h0;rw [h1] at h2;cases h2;exact ⟨h3.2.2.2.1,fun _=>h3.2.2.2.2.2⟩
end Ab
namespace Ab
open Go
variable {R:Type} {P:Program} {B:Nat→Prop} {κ:BG} {h:Heap} {w:World}
theorem Cy {x:AV} {xs:List AV} {v:Value} {vs:List Value} (h1:AO B κ h w x v) (h2:AY B κ h w xs vs.toArray):AY B κ h w (x::xs) (v::vs).toArray:=by
 refine ⟨by simpa using h2.1,fun j y hy => ?_⟩;cases j with
 |zero=>simp at hy;subst hy;simpa using h1
 |succ j=>
  have:=h2.2 j y (by simpa using hy);rw [Bt] at this ⊢;simpa using this
theorem Mk {x:AV} {xs:List AV} {vs:Array Value} (hc:AY B κ h w (x::xs) vs):∃v rest,vs=(v::rest).toArray∧AO B κ h w x v∧AY B κ h w xs rest.toArray:=by
 obtain ⟨l⟩:=vs;cases l with
 |nil=>have:=hc.1;simp at this
 |cons v rest=>
  refine ⟨v,rest,rfl,by simpa using hc.2 0 x rfl,by simpa using hc.1,fun j y hy => ?_⟩;have:=hc.2 (j+1) y (by simpa using hy);have e1:({toList:=v::rest}:Array Value)=(v::rest).toArray:=rfl;rw [e1,Bt] at this;rw [Bt];simpa using this
theorem FF (leaf:Nat→AV) (off n j:Nat) (hj:j<n):(BK leaf off n)[j]? = some (leaf (off+j)):=by simp [BK,hj]
theorem Kl:∀{ts:List TypeId} {avs:List AV} {K:List AV→Option R} {r:R} {vs:Array Value},D9 P ts avs K=some r→AY B κ h w avs vs→
  ∃(ls:List AV) (us:List Value),K ls=some r∧AY B κ h w ls us.toArray∧
   ∀(B':Nat→Prop) (κ':BG) (h':Heap) (w':World) (leaf:Nat→AV) (off:Nat),(∀j u,us[j]? = some u→AO B' κ' h' w' (leaf (off+j)) u)→∃avs',Ck P leaf ts off=some avs'∧AY B' κ' h' w' avs' vs
 |[],[],K,r,vs,hr,hc=>by have e:vs = #[]:=zA hc.1;subst e;exact ⟨[],[],hr,⟨rfl,fun j x hx=>by simp at hx⟩,fun B' κ' h' w' leaf off _=>⟨[],rfl,rfl,fun j x hx=>by simp at hx⟩⟩
 |[],x::avs,K,r,vs,hr,hc=>by simp [D9] at hr
 |t::ts,[],K,r,vs,hr,hc=>by simp [D9] at hr
 |t::ts,x::avs,K,r,vs,hr,hc=>by
  obtain ⟨v,rest,rfl,hv,hrest⟩:=Mk hc;simp only [D9,AB] at hr;split at hr
  ·rename_i ha;split at hr
   ·rename_i cs;obtain ⟨hsz,hr1⟩:=AD hr;obtain ⟨ls,us,h1,h2,h3⟩:=Kl hr1 hrest;cases hv with
    |agg _ arr hs hall=>
     refine ⟨cs++ls,arr.toList++us,h1,⟨by simpa [hs] using h2.1,fun j y hy => ?_⟩,fun B' κ' h' w' leaf off hl => ?_⟩
     ·rw [Bt];rcases yH j cs.length with hj|hj
      ·rw [zL hj] at hy;have:=hall j y hy;have hj':j<arr.toList.length:=by simp [hs];exact hj
       simp only [List.getD];rw [zL hj'];have hj2:j<arr.size:=by rw [hs];exact hj
       simp only [Array.getD,hj2,dif_pos] at this;simpa [hj2] using this
      ·rw [zM hj] at hy;have:=h2.2 _ y hy;rw [Bt] at this;simp only [List.getD] at this ⊢;rw [zM (by simp [hs];exact hj)];simpa [hs] using this
     ·obtain ⟨avs',e1,e2⟩:=h3 B' κ' h' w' leaf (off+cs.length) fun j u hu=>by have:=hl (cs.length+j) u (by rw [zM (by simp [hs])];simpa [hs] using hu);rwa [← yA] at this
      refine ⟨.agg (BK leaf off cs.length)::avs',?_,Cy (.agg _ _ (by simp [BK,hs]) fun j y hy => ?_) e2⟩
      ·simp only [Ck,IA,ha,hsz,e1,yP]
      ·have hj:j<cs.length:=by have:=AS hy;simpa [BK] using this
       rw [FF leaf off _ _ hj] at hy;cases hy;have hj2:j<arr.size:=by rw [hs];exact hj
       exact hl j _ (by rw [zL (by simpa using hj2)];simp [Array.getD,hj2])
   ·cases hr
  ·rename_i ha;obtain ⟨hlf,hr1⟩:=AD hr;obtain ⟨ls,us,h1,h2,h3⟩:=Kl hr1 hrest;refine ⟨x::ls,v::us,h1,Cy hv h2,fun B' κ' h' w' leaf off hl => ?_⟩;obtain ⟨avs',e1,e2⟩:=h3 B' κ' h' w' leaf (off+1) fun j u hu=>by have:=hl (j+1) u (by simpa using hu);rwa [show off+(j+1)=off+1+j from by omega] at this
   refine ⟨leaf off::avs',?_,Cy (by simpa using hl 0 v rfl) e2⟩;cases hsz:B6 P t<;>simp only [Ck,IA,ha,hsz,e1,yP]
  ·cases hr
def LU (vs:Array Value):Value:=if h:vs.size=1 then vs[0] else .tuple vs
theorem Yh {g:FuncId} {fn:Func} (hf:P.funcs[g]? = some fn) {leaf:Nat→AV} {avs:List AV} (hm:Ck P leaf fn.resultTypes.toList 0=some avs) {vs:Array Value} (hc:AY B κ h w avs vs) :
  ∃r,C7 P g leaf=some r∧AO B κ h w r (LU vs):=by
 unfold C7;rw [hf];simp only [hm];cases avs with
 |nil=>
  refine ⟨_,rfl,?_⟩;have:¬vs.size=1:=by rw [hc.1];simp
  unfold LU;rw [dif_neg this];exact .tuple _ _ hc.1 hc.2
 |cons x rest=>
  cases rest with
  |nil=>
   refine ⟨x,rfl,?_⟩;have h1:vs.size=1:=by rw [hc.1];simp
   unfold LU;rw [dif_pos h1];have:=hc.2 0 x rfl;simpa [Array.getD,h1] using this
  |cons y rest=>
   refine ⟨_,rfl,?_⟩;have:¬vs.size=1:=by rw [hc.1];simp
   unfold LU;rw [dif_neg this];exact .tuple _ _ hc.1 hc.2
def Fr (ro:Option Nat):Fence:={fn:=fun _=>True,depth:=none,alive:=false,round:=ro}
def aQ {R:Type} (P:Program) (g:FuncId) (avs:List AV) (h:Heap) (K:List AV→Heap→Option R) (res:R):Prop:=
 ∀(B:Nat→Prop) (κ:BG) (w:World) (vs:Array Value) (n:Nat),Ap B κ h w→AY B κ h w avs vs→
  CallsIn (Fr none) n P g vs w fun e w'=>∃v r κ' rs h',e = .returned v∧K rs h'=some res∧C7 P g (fun i=>rs.getD i .undef)=some r∧AO B κ' h' w' r v∧Ap B κ' h' w'∧Ext κ h w κ' h' w'
def Ib (P:Program) (g:FuncId) (xs ys:List Tree):Prop:=
 ∀(B:Nat→Prop) (w:World) (avs:List AV) (vs:Array Value) (n:Nat),D3 P g (fun i =>.t (xs.getD i default))=some avs→(∀b,B b→b<w.heap.size)→AY B [] [] w avs vs→
  CallsIn (Fr none) n P g vs w fun e w'=>∃v r,e = .returned v∧C7 P g (fun i =>.t (ys.getD i default))=some r∧AO B [] [] w' r v∧MC w w'∧(Co P g=true→ys.all Tree.scalar=true)
def WE {R:Type} (P:Program) (i:Nat) (args:List AV) (h:Heap) (K:List AV→Heap→Option R) (res:R):Prop:=
 ∀(B:Nat→Prop) (κ:BG) (w:World) (vs:Array Value) (b base n:Nat),Ap B κ h w→AY B κ h w args vs→κ[i]? = some (some (b,base))→
  ∃(f:FuncId) (tmps:Array Value) (assign body:Code),(Instr.yield b vs).run P w = .ok (.round b f tmps assign body) w∧
   RoundIn (Fr none) n P b f tmps assign body w fun e w'=>∃v κ' rs h',e = .returned v∧K rs h'=some res∧AO B κ' h' w' (rs.getD 0 .undef) v∧Ap B κ' h' w'∧Ext κ h w κ' h' w'
def EY (P:Program) (rec:Rec):Prop:=∀(R:Type) (r:Req) (h:Heap) (K:List AV→Heap→Option R) (res:R),rec R r h K=some res→match r with
 | .fn g avs=>aQ P g avs h K res
 | .yield i args=>WE P i args h K res
def NewSl (B:Nat→Prop) (w w':World) (s:Nat) (es:List (List Tree)) (v:Value):Prop:=
 (es=[]∧∃a,v = .slice a 0 0)∨∃b base cap cells elem fr,v = .slice (some ⟨b,base,none⟩) es.length cap∧es.length≤cap∧w.heap.size≤b∧b<w'.heap.size∧s≠0∧w'.heap[b]? = some (.cells cells elem fr)∧PS s cells.size fr∧base+cap*s≤cells.size∧
  (∀(j:Nat) (e:List Tree),es[j]? = some e→e.length=s)∧∀(j:Nat) (e:List Tree) (c:Nat) (x:Tree),es[j]? = some e→e[c]? = some x→Bv w' (fun b'=>B b'∨b'=b) x (cells.getD (base+(j*s+c)) undef)
def Zg (P:Program) (g:FuncId) (xs ys:List Tree):Prop:=
 ∀(B:Nat→Prop) (w:World) (avs:List AV) (vs:Array Value) (n:Nat),D3 P g (fun i =>.t (xs.getD i default))=some avs→(∀b,B b→b<w.heap.size)→AY B [] [] w avs vs→
  CallsIn (Fr none) n P g vs w fun e w'=>∃v s es,e = .returned v∧ys=[.sl s es]∧MC w w'∧NewSl B w w' s es v
def Zi (u:Value) (b:Nat):Prop:=∃off n cap,u = .slice (some ⟨b,off,none⟩) n cap∧0<cap
def Ux (P:Program) (j:Nat) (g:FuncId) (xs ys:List Tree):Prop:=
 ∀(B:Nat→Prop) (w:World) (avs:List AV) (vs:Array Value) (n:Nat),D3 P g (fun i =>.t (xs.getD i default))=some avs→(∀b,B b→b<w.heap.size)→AY B [] [] w avs vs→
  CallsIn (Fr none) n P g vs w fun e w'=>∃(v:Value) (us:List Value) (z:Nat) (es:List (List Tree)) (u:Value),e = .returned v∧MC w w'∧ys[j]? = some (.sl z es)∧us.length=ys.length∧us[j]? = some u∧NewSl B w w' z es u∧
   (∀(i:Nat) (y:Tree) (x:Value),i≠j→ys[i]? = some y→us[i]? = some x→Bv w' (fun b=>B b∨Zi u b) y x)∧
   ∀(B2:Nat→Prop) (κ2:BG) (h2:Heap) (w2:World) (leaf:Nat→AV),(∀i x,us[i]? = some x→AO B2 κ2 h2 w2 (leaf i) x)→∃rv,C7 P g leaf=some rv∧AO B2 κ2 h2 w2 rv v
def Cg (P:Program) (pc:BX):Prop:=∀g xs ys,pc g xs=some ys→if g<OWN then Ib P g xs ys else if g<FT then Zg P (g-OWN) xs ys else Ux P ((g-FT) % 64) ((g-FT) / 64) xs ys
theorem CallsIn.fr {ro:Option Nat} {n:Nat} {g:FuncId} {vs:Array Value} {Q:Ending→World→Prop} (hc:CallsIn (Fr none) n P g vs w Q):CallsIn (Fr ro) n P g vs w Q:=hc
theorem RoundIn.fr {ro:Option Nat} {n b:Nat} {g:FuncId} {vs:Array Value} {x y:Code} {Q:Ending→World→Prop} (hc:RoundIn (Fr none) n P b g vs x y w Q):RoundIn (Fr ro) n P b g vs x y w Q:=hc
theorem Jj {B:Nat→Prop} {w:World} (hB:∀b,B b→b<w.heap.size):Ap B [] [] w:=
 ⟨rfl,fun i j b bs bs' hi=>by simp at hi,fun i b bs hi=>by simp at hi,fun i b bs hi=>by simp at hi,hB,fun i o k ho=>by simp at ho⟩
theorem EA {b:Nat} (hx:Ex [] [] b):False:=by obtain ⟨i,base,o,hk,_⟩:=hx;simp at hk
theorem FP {w':World} (hh:Ap B κ h w) (g:MC w w'):Ext κ h w κ h w':=OJ hh g.os g.tape g.output g.size g.block
theorem E3 {w':World} (hh:Ap B κ h w) (g:MC w w'):Ap B κ h w':=Ix hh (FP hh g) g.block
theorem OD (hh:Ap B κ h w) (v:AV):Ap B κ (Ek h v) w∧Ext κ h w κ (Ek h v) w:=by
 unfold Ek;split
 ·rename_i i _ _ _;split
  ·rename_i f ver s es hi;by_cases hf:f=true
   ·subst hf;have:h.set i (.row true ver s es)=h:=by
     apply zJ;intro j;by_cases hij:j=i
     ·rw [hij,A5 hi,hi]
     ·rw [DI hij]
    rw [this];exact ⟨hh,Ext.refl _ _ _⟩
   ·have hf':f=false:=by simpa using hf
    subst hf';obtain ⟨k,hk⟩:=CH hh hi;have hset:κ.set i k=κ:=by
     apply zJ;intro j;by_cases hij:j=i
     ·rw [hij,A5 hk,hk]
     ·rw [DI hij]
    have x:Ext κ h w κ (h.set i (.row true ver s es)) w:=by
     have x':Ext κ h w (κ.set i k) (h.set i (.row true ver s es)) w:=
      DH (o' :=.row true ver s es) (k':=k) (w':=w) hh hi rfl ⟨rfl,yE _,(fun _=>⟨rfl,rfl⟩),(fun e=>by cases e),(fun e=>by cases e),rfl⟩ hk rfl rfl rfl (yE _) (fun _ _ _=>rfl)
       (fun b base e =>.inl ⟨base,e⟩) (fun _=>⟨rfl,fun b base _ cells elem fr hc=>⟨cells,hc,rfl⟩⟩)
     rw [hset] at x';exact x'
    refine ⟨?_,x⟩;have ho:=hh.obj i _ _ hi hk;have hh':Ap B (κ.set i k) (h.set i (.row true ver s es)) w:=
     CZ hh hi hk (fun _ _ _=>rfl) (fun b base e=>⟨.inl ⟨base,e⟩,hh.lt i b base (by rw [hk,e])⟩) (by rw [hset];exact x) (by
      rw [hset];cases k with
      |none=>exact ho
      |some p=>
       obtain ⟨b,base⟩:=p;obtain ⟨hz,cells,elem,fr,hc,hth,hs,hl,ht⟩:=ho;exact ⟨hz,cells,elem,fr,hc,hth,hs,hl,fun j e c y he hy=>(ht j e c y he hy).ext x⟩)
    rw [hset] at hh';exact hh'
  ·exact ⟨hh,Ext.refl _ _ _⟩
 ·exact ⟨hh,Ext.refl _ _ _⟩
theorem Fq:∀(vs:List AV) {h:Heap},Ap B κ h w→Ap B κ (AX h vs) w∧Ext κ h w κ (AX h vs) w
 |[],h,hh=>⟨hh,Ext.refl _ _ _⟩
 |v::vs,h,hh=>by obtain ⟨h1,x1⟩:=OD hh v;obtain ⟨h2,x2⟩:=Fq vs h1;exact ⟨h2,x1.trans x2⟩
theorem T1 {x:Tree} {v:Value} {A A':Nat→Prop} {w w':World} (hs:x.scalar=true) (ht:Bv w A x v):Bv w' A' x v:=by
 cases ht with
 |int k n=>exact .int k n
 |bool b=>exact .bool b
 |str s=>exact .str s
 |const v _=>simp [Tree.scalar] at hs
 |mp _ _ _ _ _ _ _ _ _=>simp [Tree.scalar] at hs
 |nil _ _ _=>simp [Tree.scalar] at hs
 |sl _ _ _ _ _ _ _ _ _ _ _ _=>simp [Tree.scalar] at hs
end Ab
namespace Go.Proofs
open Go.Shelf Go.RowKit Go.Lib
variable {P:Program} {ρ:Ren}
set_option maxHeartbeats 4000000 in
set_option maxRecDepth 100000 in
theorem Ww {z:Nat} (L:HS P ρ z) (b off n c i vb voff m vc:Nat) (cs vs:List Value) (w:World) (hi:i<n) (hm:0<m) (hroom:n+m≤c) (hc63:n+m≤9223372036854775807) (hvb:vb≠b)
  (hcl:cs.length=n*z) (hvl:vs.length=m*z)
  (hcs:∀j v,cs[j]? = some v→w.cell? ⟨b,off+j,none⟩=some v) (hsp:∀j,j<(n+m)*z→(w.cell? ⟨b,off+j,none⟩).isSome=true) (hfz:∀j,w.frozen? ⟨b,j,none⟩=false)
  (hvs:∀j v,vs[j]? = some v→w.cell? ⟨vb,voff+j,none⟩=some v) (h1c:∀v∈cs,v.oneCell'=true) (h1v:∀v∈vs,v.oneCell'=true)
  (tA tB:TypeId) (kA kB:Nat) (hsa:w.shape? vb=some (tA,kA)) (hsb:w.shape? b=some (tB,kB)) (hkA:kA≠0) :
  Calls P (ρ.f 22) #[.slice (some ⟨b,off,none⟩) n c,.int .i64 i,.slice (some ⟨vb,voff,none⟩) m vc] w fun e w'=>
   e = .returned (.slice (some ⟨b,off,none⟩) (n+m) c)∧w'=(w.drew.setCells b (off+(i+m)*z) (cs.drop (i*z))).setCells b (off+i*z) vs:=by
 have t3:=L.t3;have a3:=L.a3;have z3:=L.z3;have v3:=L.v3;have t4:=L.t4;have a4:=L.a4;have z4:=L.z4;have v4:=L.v4;have t24:=L.t24;have a24:=L.a24;have z24:=L.z24;have v24:=L.v24;have z9:=L.z9;have u3:=run_underlying L.t3;have u4:=run_underlying L.t4;have u24:=run_underlying L.t24;have hz1:¬((m:Int)=0):=by omega
 have hz2:¬((i:Int)=(n:Int)):=by omega
 obtain ⟨fo,hfo,ho1,ho2,ho3,ho4⟩:=L.f29;have hov:∀lb cb,(callFunc (ρ.f 29) #[.slice (some ⟨vb,voff,none⟩) m vc,.slice (some ⟨b,off+(i+m)*z,none⟩) lb cb]).run P w = .ok (.value (.bool false)) w:=fun lb cb=>by
  rw [run_callFunc_extern hfo ho1 ho2 ho3 ho4,
   LQ w (ρ.t 24) (ρ.t 4) (ρ.t 9) L.t24 z L.z9 ⟨vb,voff,none⟩ ⟨b,off+(i+m)*z,none⟩ m vc lb cb hvb tA tB kA kB hsa hsb hkA (hfz _) (hfz _)]
  rfl
 have hdl:(cs.drop (i*z)).length=(n-i)*z:=by rw [xG,hcl,Nat.sub_mul]
 have mixed:=L.mixed;have hw1:IntKind.i64.wrap ((i:Int)+(m:Int))=(i:Int)+(m:Int):=by rw [IntKind.wrap_i64];omega
 have hb1:(0:Int)≤(i:Int)+(m:Int):=by omega
 have hin:i≤n:=by omega
 have htn:((i:Int)+(m:Int)).toNat=i+m:=by omega
 have hb2:¬(c=i+m):=by omega
 have hb3:(i:Int)≤(n:Int)+(m:Int):=by omega
 have hb4:¬(c=i):=by omega
 have hmul1:(i+m)*z+(n-i)*z=(n+m)*z:=by rw [← yC];congr 1;omega
 have hmul2:i*z+m*z≤(n+m)*z:=by rw [← yC];exact yJ _ (by omega)
 have hcp1:∀ty dc sc,(Builtin.copy_ #[(ρ.t 24),(ρ.t 24)] ty #[.slice (some ⟨b,off+(i+m)*z,none⟩) (n+m-(i+m)) dc,.slice (some ⟨b,off+i*z,none⟩) (n+m-i) sc]).run P w.drew = .ok (goInt ((n-i:Nat):Int)) (w.drew.setCells b (off+(i+m)*z) (cs.drop (i*z))):=fun ty dc sc=>
  EG w.drew _ _ ty (ρ.t 9) z b (off+(i+m)*z) (n+m-(i+m)) dc ⟨b,off+i*z,none⟩ (n+m-i) sc (n-i) (cs.drop (i*z)) L.t24 L.z9 (by simp only [xV];split<;>omega) hdl
   (fun j v hj=>by rw [Addr.add_lit,yA];exact hcs (i*z+j) v (by rwa [zN] at hj))
   (fun j hj=>by rw [yA];exact hsp _ (by omega)) (fun j hj=>hfz _) (fun v hv=>h1c v (xO hv))
 obtain ⟨W1,hW1⟩:∃W1,W1=w.drew.setCells b (off+(i+m)*z) (cs.drop (i*z)):=⟨_,rfl⟩
 have hsp1:∀k,k<(n+m)*z→(W1.cell? ⟨b,off+k,none⟩).isSome=true:=fun k hk=>by rw [hW1];exact isSome_setCells b _ _ _ (fun j hj=>by rw [yA];exact hsp _ (by omega)) _ (hsp k hk)
 have hcp2:∀(W:World),(∀x,W.cell? x=W1.cell? x)→(∀x,W.frozen? x=W1.frozen? x)→∀ty dc,(Builtin.copy_ #[(ρ.t 24),(ρ.t 24)] ty #[.slice (some ⟨b,off+i*z,none⟩) (n+m-i) dc,.slice (some ⟨vb,voff,none⟩) m vc]).run P W = .ok (goInt m) (W.setCells b (off+i*z) vs):=fun W hWc hWf ty dc=>
  EG W _ _ ty (ρ.t 9) z b (off+i*z) (n+m-i) dc ⟨vb,voff,none⟩ m vc m vs L.t24 L.z9 (by simp only [xV];split<;>omega) hvl
   (fun j v hj=>by rw [Addr.add_lit,hWc,hW1,World.cell?_setCells_out b _ _ _ _ (fun h _=>absurd h hvb)];exact hvs j v hj)
   (fun j hj=>by rw [hWc,yA];exact hsp1 _ (by omega)) (fun j hj=>by rw [hWf,hW1,World.frozen?_setCells];exact hfz _) h1v
 rw [← hW1] at hcp1;clear hmul1 hmul2 hdl hsp1;obtain ⟨_,_,FG⟩:=L.f22
 go_enter FG,Body2.n22_ntmps ρ
 go_wp2_with (simp only [hov])
 go_region_law_o (refine step_copy_runI rfl _ _ (ρ.t 24) (ρ.t 24) rfl _ _ (by simp [Act.eval,Act.put]) (by simp [Act.eval,Act.put]) (hcp1 _ _ _) ?_)
 go_wp2_with (at_builtin;refine wpList_copy_runI _ rfl _ _ (ρ.t 24) (ρ.t 24) rfl _ _ rfl rfl (hcp2 _ (fun _=>rfl) (fun _=>rfl) _ _) ?_)
 go_ret
 first|exact ⟨rfl,rfl⟩|exact ⟨rfl,by rw [hW1]⟩
end Go.Proofs
namespace Go.Proofs
open Go.Shelf Go.RowKit Go.Lib
variable {P:Program} {ρ:Ren}
set_option maxHeartbeats 4000000 in
set_option maxRecDepth 100000 in
theorem ins_end {z:Nat} (L:HS P ρ z) (b off n c m vc:Nat) (va:Option Addr) (w w1:World) (v1:Value) (hm:0<m) (hnc:n≤c) (hc63:n+m≤9223372036854775807)
  (hrun:∀ty,(Builtin.append_ #[(ρ.t 24),(ρ.t 24)] ty #[.slice (some ⟨b,off,none⟩) n c,.slice va m vc]).run P w = .ok v1 w1) :
  Calls P (ρ.f 22) #[.slice (some ⟨b,off,none⟩) n c,.int .i64 n,.slice va m vc] w fun e w'=>e = .returned v1∧w'=w1:=by
 have t3:=L.t3;have a3:=L.a3;have z3:=L.z3;have v3:=L.v3;have t4:=L.t4;have a4:=L.a4;have z4:=L.z4;have v4:=L.v4;have t24:=L.t24;have a24:=L.a24;have z24:=L.z24;have v24:=L.v24;have z9:=L.z9;have u3:=run_underlying L.t3;have u4:=run_underlying L.t4;have u24:=run_underlying L.t24;have mixed:=L.mixed;have hz1:¬((m:Int)=0):=by omega
 obtain ⟨_,_,FG⟩:=L.f22
 go_enter FG,Body2.n22_ntmps ρ
 go_wp2_with (at_builtin;refine Lib.wpList_append_run _ rfl _ _ _ _ rfl _ _ rfl rfl _ _ (hrun _) ?_)
 all_goals (go_ret;exact ⟨rfl,rfl⟩)
set_option maxHeartbeats 4000000 in
set_option maxRecDepth 100000 in
theorem Vo {z:Nat} (L:HS P ρ z) (a0:Option Addr) (m vc:Nat) (va:Option Addr) (w w1:World) (v1:Value) (hm:0<m)
  (hrun:∀ty,(Builtin.append_ #[(ρ.t 24),(ρ.t 24)] ty #[.slice a0 0 0,.slice va m vc]).run P w = .ok v1 w1) :
  Calls P (ρ.f 22) #[.slice a0 0 0,.int .i64 0,.slice va m vc] w fun e w'=>e = .returned v1∧w'=w1:=by
 have t3:=L.t3;have a3:=L.a3;have z3:=L.z3;have v3:=L.v3;have t4:=L.t4;have a4:=L.a4;have z4:=L.z4;have v4:=L.v4;have t24:=L.t24;have a24:=L.a24;have z24:=L.z24;have v24:=L.v24;have z9:=L.z9;have u3:=run_underlying L.t3;have u4:=run_underlying L.t4;have u24:=run_underlying L.t24;have mixed:=L.mixed;have hz1:¬((m:Int)=0):=by omega
 obtain ⟨_,_,FG⟩:=L.f22
 go_enter FG,Body2.n22_ntmps ρ
 cases a0 with
 |none=>
  go_wp2_with (at_builtin;refine Lib.wpList_append_run _ rfl _ _ _ _ rfl _ _ rfl rfl _ _ (hrun _) ?_)
  go_ret
  exact ⟨rfl,rfl⟩
 |some a=>
  obtain ⟨ab,ao,asp⟩:=a
  go_wp2_with (at_builtin;refine Lib.wpList_append_run _ rfl _ _ _ _ rfl _ _ rfl rfl _ _ (hrun _) ?_)
  all_goals (go_ret;exact ⟨rfl,rfl⟩)
set_option maxHeartbeats 4000000 in
set_option maxRecDepth 100000 in
theorem Yr {z:Nat} (L:HS P ρ z) (b off n c i vb voff m vc:Nat) (cs vs:List Value) (w:World) (hi:i<n) (hm:0<m) (hnc:n≤c) (hroom:c<n+m) (hbig:(n+m)*65536≤140737488355328)
  (hcl:cs.length=n*z) (hvl:vs.length=m*z)
  (hcs:∀j v,cs[j]? = some v→w.cell? ⟨b,off+j,none⟩=some v)
  (hvs:∀j v,vs[j]? = some v→w.cell? ⟨vb,voff+j,none⟩=some v) (h1c:∀v∈cs,v.oneCell'=true) (h1v:∀v∈vs,v.oneCell'=true) :
  ∃(ROW:Array Value) (G:Nat),n+m≤G∧ROW.size=G*z∧(∀j,j<i*z→ROW[j]? = cs[j]?)∧
  Calls P (ρ.f 22) #[.slice (some ⟨b,off,none⟩) n c,.int .i64 i,.slice (some ⟨vb,voff,none⟩) m vc] w fun e w'=>
   e = .returned (.slice (some ⟨w.heap.size,0,none⟩) (n+m) G)∧
   w'=(((w.alloc (.cells ROW (ρ.t 9))).drew.setCells w.heap.size (i*z) vs).drew).setCells w.heap.size ((i+m)*z) (cs.drop (i*z)):=by
 have t3:=L.t3;have a3:=L.a3;have z3:=L.z3;have v3:=L.v3;have t4:=L.t4;have a4:=L.a4;have z4:=L.z4;have v4:=L.v4;have t24:=L.t24;have a24:=L.a24;have z24:=L.z24;have v24:=L.v24;have z9:=L.z9;have u3:=run_underlying L.t3;have u4:=run_underlying L.t4;have u24:=run_underlying L.t24;have mixed:=L.mixed;obtain ⟨i0,zv,hi0,hz0,hzs,hzz,hzb⟩:=L.i9;have hpos:=L.pos;have hz1:¬((m:Int)=0):=by omega
 have hz2:¬((i:Int)=(n:Int)):=by omega
 have hz3:(c:Int)<(n:Int)+(m:Int):=by omega
 have hnz:i*z<n*z:=Nat.mul_lt_mul_of_pos_right hi hpos;have hmz:0<m*z:=Nat.mul_pos hm hpos;have hbw:b<w.heap.size:=block_lt_of_cell (hcs 0 _ (zO (by omega)));have hvw:vb<w.heap.size:=block_lt_of_cell (hvs 0 _ (zO (by omega)));have hkk:(n:Int)+(m:Int)-(i:Int)=((n+m-i:Nat):Int):=by omega
 have hik:i+(n+m-i)=n+m:=by omega
 have hold:(Builtin.firstCells i0.size i (.slice (some ⟨b,off,none⟩) i c)).run P w.drew = .ok (cs.take (i*z)).toArray w.drew:=by
  rw [hzs];exact run_firstCells_some w.drew z i ⟨b,off,none⟩ i c (cs.take (i*z)) (by rw [zX];omega) (fun j v hj=>by
   rw [Addr.add_lit];rw [zS] at hj;split at hj
   ·exact hcs j v hj
   ·cases hj)
 have hb1:(n+m)*i0.bytes≤140737488355328:=yF (Nat.mul_le_mul_left _ hzb) hbig;have hb2:(n+m-i)*i0.bytes≤281474976710656:=yF (yJ _ (Nat.sub_le _ _)) (by omega);have hrz:∀ty,(Builtin.append_ #[(ρ.t 24),(ρ.t 3)] ty #[.slice (some ⟨b,off,none⟩) i c,.int .i64 ((n:Int)+(m:Int)-(i:Int))]).run P w =
   .ok (.slice (some ⟨w.heap.size,0,none⟩) (n+m) (grownCap w (n+m) c (ρ.t 9))) (w.drew.alloc (.cells ((cs.take (i*z)).toArray++Builtin.zeroCells zv.cells (n+m-i)++Builtin.zeroCells zv.cells (grownCap w (n+m) c (ρ.t 9)-(n+m))) (ρ.t 9))):=fun ty=>by
  have h:=Lib.run_append_grow_zeros w (ρ.t 24) (ρ.t 3) ty (ρ.t 9) i0 _ .i64 .i64 L.t24 L.t3 hi0 hz0 (some ⟨b,off,none⟩) i c (cs.take (i*z)) hold (n+m-i) (by omega) (by omega) (by omega) (by omega) hb2 (by rw [hik];exact growslice_fits hroom hb1);rw [hik] at h;rw [hkk];exact h
 have hzc:∀k,(Builtin.zeroCells zv.cells k).size=k*z:=fun k=>by simp [Builtin.zeroCells,hzz]
 obtain ⟨G,hG⟩:∃G,G=grownCap w (n+m) c (ρ.t 9):=⟨_,rfl⟩
 obtain ⟨ROW,hROW⟩:∃ROW:Array Value,ROW=(cs.take (i*z)).toArray++Builtin.zeroCells zv.cells (n+m-i)++Builtin.zeroCells zv.cells (G-(n+m)):=⟨_,rfl⟩
 rw [← hG] at hrz;rw [← hROW] at hrz;have hGn:n+m≤G:=by rw [hG];exact grownCap_ge w _ _ _
 have hRs:ROW.size=G*z:=by rw [hROW,zD,zD,hzc,hzc,size_toArray,zX,hcl,Nat.min_eq_left (Nat.le_of_lt hnz),← yC,← yC];congr 1;omega
 have hRl:(n+m)*z≤ROW.size:=by rw [hRs];exact yJ _ hGn
 refine ⟨ROW,G,hGn,hRs,fun j hj => ?_,?_⟩
 ·have h8:j<(cs.take (i*z)).length:=by rw [zX];omega
  rw [hROW,Array.append_assoc,Array.getElem?_append,if_pos (by simpa using h8)];simp [hj]
 obtain ⟨W1,hW1⟩:∃W1,W1=w.drew.alloc (.cells ROW (ρ.t 9)):=⟨_,rfl⟩
 rw [← hW1] at hrz;have hN:∀j,j<(n+m)*z→(W1.cell? ⟨w.heap.size,j,none⟩).isSome=true:=fun j hj=>by rw [hW1,World.cell?_alloc_at (w:=w.drew) ROW _ w.heap.size j rfl,Array.getElem?_eq_getElem (by omega)];rfl
 have hNf:∀j,W1.frozen? ⟨w.heap.size,j,none⟩=false:=fun j=>by rw [hW1];exact World.frozen?_alloc_at (w:=w.drew) ROW _ w.heap.size j rfl
 have hOb:∀j v,w.cell? ⟨b,j,none⟩=some v→W1.cell? ⟨b,j,none⟩=some v:=fun j v h=>by rw [hW1,World.cell?_alloc_past (w:=w.drew) _ b j hbw];exact h
 have hOv:∀j v,w.cell? ⟨vb,j,none⟩=some v→W1.cell? ⟨vb,j,none⟩=some v:=fun j v h=>by rw [hW1,World.cell?_alloc_past (w:=w.drew) _ vb j hvw];exact h
 have hmul1:(i+m)*z+(n-i)*z=(n+m)*z:=by rw [← yC];congr 1;omega
 have hmul2:i*z+m*z≤(n+m)*z:=by rw [← yC];exact yJ _ (by omega)
 have hcpA:∀(W:World),(∀x,W.cell? x=W1.cell? x)→(∀x,W.frozen? x=W1.frozen? x)→∀ty dc,(Builtin.copy_ #[(ρ.t 24),(ρ.t 24)] ty #[.slice (some ⟨w.heap.size,i*z,none⟩) (n+m-i) dc,.slice (some ⟨vb,voff,none⟩) m vc]).run P W = .ok (goInt m) (W.setCells w.heap.size (i*z) vs):=fun W hWc hWf ty dc=>
  EG W _ _ ty (ρ.t 9) z w.heap.size (i*z) (n+m-i) dc ⟨vb,voff,none⟩ m vc m vs L.t24 L.z9 (by simp only [xV];split<;>omega) hvl
   (fun j v hj=>by rw [Addr.add_lit,hWc];exact hOv _ v (hvs j v hj))
   (fun j hj=>by rw [hWc];exact hN _ (by omega)) (fun j hj=>by rw [hWf];exact hNf _) h1v
 have hG63:G≤9223372036854775807:=by have:=grownCap_le_maxLen w (n+m) c (ρ.t 9) (by unfold maxLen;omega);rw [← hG] at this;unfold maxLen at this;omega
 have hGi:¬(G=i):=by omega
 have hGim:¬(G=i+m):=by omega
 have hci:¬(c=i):=by omega
 have hbN:b≠w.heap.size:=by omega
 have hdl:(cs.drop (i*z)).length=(n-i)*z:=by rw [xG,hcl,Nat.sub_mul]
 have hcpB:∀(W:World),(∀x,W.cell? x=(W1.setCells w.heap.size (i*z) vs).cell? x)→(∀x,W.frozen? x=(W1.setCells w.heap.size (i*z) vs).frozen? x)→∀ty dc sc,(Builtin.copy_ #[(ρ.t 24),(ρ.t 24)] ty #[.slice (some ⟨w.heap.size,(i+m)*z,none⟩) (n+m-(i+m)) dc,.slice (some ⟨b,off+i*z,none⟩) (n-i) sc]).run P W = .ok (goInt ((n-i:Nat):Int)) (W.setCells w.heap.size ((i+m)*z) (cs.drop (i*z))):=fun W hWc hWf ty dc sc=>
  EG W _ _ ty (ρ.t 9) z w.heap.size ((i+m)*z) (n+m-(i+m)) dc ⟨b,off+i*z,none⟩ (n-i) sc (n-i) (cs.drop (i*z)) L.t24 L.z9 (by simp only [xV];split<;>omega) hdl
   (fun j v hj=>by rw [Addr.add_lit,hWc,World.cell?_setCells_out _ _ _ _ _ (fun h _=>absurd h hbN),yA];exact hOb _ v (hcs (i*z+j) v (by rwa [zN] at hj)))
   (fun j hj=>by rw [hWc];exact isSome_setCells _ _ _ _ (fun t ht=>hN _ (by omega)) _ (hN _ (by omega)))
   (fun j hj=>by rw [hWf,World.frozen?_setCells];exact hNf _) (fun v hv=>h1c v (xO hv))
 subst hW1;have hE1:∀x,((w.alloc (.cells ROW (ρ.t 9))).drew).cell? x=(w.drew.alloc (.cells ROW (ρ.t 9))).cell? x:=fun x=>rfl;have hE2:∀x,((w.alloc (.cells ROW (ρ.t 9))).drew).frozen? x=(w.drew.alloc (.cells ROW (ρ.t 9))).frozen? x:=fun x=>rfl;have hF1:∀x,(((w.alloc (.cells ROW (ρ.t 9))).drew.setCells w.heap.size (i*z) vs).drew).cell? x=((w.drew.alloc (.cells ROW (ρ.t 9))).setCells w.heap.size (i*z) vs).cell? x:=fun x=>rfl;have hF2:∀x,(((w.alloc (.cells ROW (ρ.t 9))).drew.setCells w.heap.size (i*z) vs).drew).frozen? x=((w.drew.alloc (.cells ROW (ρ.t 9))).setCells w.heap.size (i*z) vs).frozen? x:=fun x=>rfl;have hw1:IntKind.i64.wrap ((i:Int)+(m:Int))=(i:Int)+(m:Int):=by rw [IntKind.wrap_i64];omega
 have hb1':(0:Int)≤(i:Int)+(m:Int):=by omega
 have hin:i≤n:=by omega
 have htn:((i:Int)+(m:Int)).toNat=i+m:=by omega
 have hb3:(i:Int)≤(n:Int):=by omega
 clear hkk hik hold hROW hG hRl hmul1 hmul2 hdl hRs hzc hb1 hb2 hnz hmz hN hNf hOb hOv;obtain ⟨_,_,FG⟩:=L.f22
 go_enter FG,Body2.n22_ntmps ρ
 go_wp2_with (first
  |(at_builtin;refine Lib.wpList_append_run _ rfl _ _ _ _ rfl _ _ rfl rfl _ _ (hrz _) ?_)
  |(at_builtin;refine wpList_copy_runI _ rfl _ _ (ρ.t 24) (ρ.t 24) rfl _ _ rfl rfl (hcpA _ hE1 hE2 _ _) ?_)
  |(at_builtin;refine wpList_copy_runI _ rfl _ _ (ρ.t 24) (ρ.t 24) rfl _ _ rfl rfl (hcpB _ (fun _=>rfl) (fun _=>rfl) _ _ _) ?_))
 go_region_law_o (refine step_copy_runI rfl _ _ (ρ.t 24) (ρ.t 24) rfl (.slice (some ⟨w.heap.size,(i+m)*z,none⟩) (n+m-(i+m)) (G-(i+m))) (.slice (some ⟨b,off+i*z,none⟩) (n-i) (c-i)) (by simp [Act.eval,Act.put]) (by simp [Act.eval,Act.put]) (hcpB _ hF1 hF2 (ρ.t 3) (G-(i+m)) (c-i)) ?_)
 go_wp2
 go_ret
 exact ⟨rfl,rfl⟩
end Go.Proofs
namespace Ab
open Go Go.Proofs Go.Shelf
variable {P:Program} {B:Nat→Prop} {κ:BG} {h:Heap} {w:World} {R:Type}
theorem OR {n:Nat} {f:FuncId} {args:Array Value} {Q:Ending→World→Prop} (hc:Calls P f args w Q):CallsIn (Fr none) n P f args w Q:=callsIn_wide.2 hc
theorem Fk {b o:Nat} {cells:Array Value} {el:TypeId} (hb:w.heap[b]? = some (.cells cells el (0,0))) (vs:List Value) (hfit:o+vs.length≤cells.size) (h1:∀v∈vs,v.oneCell'=true) :
  w.setCells b o vs=w.setRow b (A3 cells o vs):=by
 have e1:=run_storeCells_cells (P:=default) b o vs 0 w (fun j hj=>by
  rw [Bz hb (by omega)];rfl) (fun j hj=>by
  simp [World.frozen?,hb]) h1
 have e2:=run_storeCells_at default b o el vs 0 cells w hb (by simpa using hfit) h1;rw [e1] at e2;simp only [yD] at e2;injection e2
theorem PF {A:Nat→Prop} {z:Nat} {L:List (List Tree)} {f:Nat→Value} (hL:BZ w A z L f) (k:Nat):BZ w A z (L.take k) f∧BZ w A z (L.drop k) fun q=>f (k*z+q):=by
 refine ⟨⟨fun j e he=>hL.1 j e (CF he).2,fun j e c x he hx=>hL.2 j e c x (CF he).2 hx⟩,⟨fun j e he => ?_,fun j e c x he hx => ?_⟩⟩
 ·rw [zN] at he;exact hL.1 _ e he
 ·rw [zN] at he;have:=hL.2 _ e c x he hx;rw [yC,yA] at this;exact this
theorem KJ {A:Nat→Prop} {z k:Nat} {L M:List (List Tree)} {f m g:Nat→Value} (hL:BZ w A z L f) (hM:BZ w A z M m) (hk:k≤L.length)
  (h1:∀q,q<k*z→g q=f q) (h2:∀q,q<M.length*z→g (k*z+q)=m q) (h3:∀q,q<(L.length-k)*z→g ((k+M.length)*z+q)=f (k*z+q)):BZ w A z (L.take k++M++L.drop k) g:=by
 have hp:=PF hL k;have hlt:(L.take k).length=k:=by rw [zX];omega
 have cong:∀{L:List (List Tree)} {f g:Nat→Value},BZ w A z L f→(∀q,q<L.length*z→g q=f q)→BZ w A z L g:=fun {L f g} hL hfg=>⟨hL.1,fun j e c x he hx=>by
  have h1:j<L.length:=(List.getElem?_eq_some_iff.1 he).1;have hcl:c<z:=by rw [← hL.1 j e he];exact (List.getElem?_eq_some_iff.1 hx).1
  have:=yJ z (show j+1≤L.length from h1);rw [yM] at this;rw [hfg _ (by omega)];exact hL.2 j e c x he hx⟩
 refine EH (f:=g) (EH hp.1 ?_ fun q hq=>by rw [hlt] at hq;exact h1 q hq) ?_ fun _ _=>rfl
 ·refine cong hM fun q hq => ?_;rw [hlt];exact h2 q hq
 ·refine cong hp.2 fun q hq => ?_;rw [xE,hlt];rw [xG] at hq;exact h3 q hq
theorem UR {ρ:Ren} {z:Nat} (L:HS P ρ z) (hh:Ap B κ h w) {ri ver off len k:Nat} {es new:List (List Tree)} (hri:h[ri]? = some (.row false ver z es)) (hoff:off+len=es.length) (hk:k<len) (hnew:new≠[]) (hle:len+new.length≤1073741824) (hz1:z≠1)
  {vs vx:Value} (hs:AO B κ h w (.sref ri ver off len) vs) (hx:Bv w (fun b=>B b∨Ex κ h b) (.sl z new) vx) :
  Calls P (ρ.f 22) #[vs,.int .i64 (k:Int),vx] w fun e w'=>∃val κ',e = .returned val∧AO B κ' (h.set ri (.row false (ver+1) z ((es.drop off).take k++new++(es.drop off).drop k))) w' (.sref ri (ver+1) 0 (len+new.length)) val∧
   Ap B κ' (h.set ri (.row false (ver+1) z ((es.drop off).take k++new++(es.drop off).drop k))) w'∧Ext κ h w κ' (h.set ri (.row false (ver+1) z ((es.drop off).take k++new++(es.drop off).drop k))) w':=by
 have hz0:z≠0:=Nat.pos_iff_ne_zero.1 L.pos;have hOL:∀L,OLe (.row false ver z es) (.row false (ver+1) z L):=fun L=>⟨rfl,le_succ _,(fun e=>by simp [AF.ver] at e),(fun e=>by cases e),(fun e=>by cases e),rfl⟩
 have hver:∀L,(AF.row false ver z es).ver=(AF.row false (ver+1) z L).ver→∀{p:Prop},p:=fun L e=>by simp [AF.ver] at e
 cases hs with
 |sref _ _ _ _ _ _ hex hsr=>
 obtain ⟨kk,hkk⟩:=CH hh hri;obtain ⟨_,_,hm⟩:=hsr kk _ hkk hri rfl;have ho:=hh.obj ri _ _ hri hkk;rcases hm with ⟨rfl,hof,a0,rfl⟩|⟨b,base,rfl,cap,rfl,hcap',hcs⟩
 ·omega
 have hcap:len≤cap:=by simp only [AF.len] at hcap';omega
 obtain ⟨hsz0,cells,el,fr,hcell,hth,hcsz,hls,hct⟩:=ho;have hfr0:fr=(0,0):=hth.resolve_right fun h=>hz1 h.1;subst hfr0;have hcapc:=hcs cells el _ hcell;simp only [AF.size] at hcapc ⊢;rw [yC] at hcapc;have hdl:(es.drop off).length=len:=by simp;omega
 have hold:BZ w (fun b=>B b∨Ex κ h b) z (es.drop off) fun q=>cells.getD (base+off*z+q) undef:=by refine ⟨fun j e' he'=>hls _ e' (by rw [zN] at he';exact he'),fun j e' c y he' hy => ?_⟩;rw [zN] at he';have:=hct _ e' c y he' hy;rw [yC] at this;dsimp only;rw [show base+off*z+(j*z+c)=base+(off*z+j*z+c) from by omega];exact this
 have hbA:B b∨Ex κ h b :=.inr ⟨ri,base,_,hkk,hri,rfl⟩;have hpos:0<new.length:=zW.2 hnew;have hnb:∀nb o m ncap,vx = .slice (some ⟨nb,o,none⟩) m ncap→nb≠b:=fun nb o m ncap e e2=>by
  cases hx with
  |nil=>exact hnew rfl
  |sl _ _ b0 o0 c0 u _ _ hA _ _ _=>
   injection e with e3 e4 e5;injection e3 with e3;injection e3 with e6;exact hA (by rw [e6,e2];exact hbA)
 obtain ⟨nb,o,ncap,news,hvx,hnl,hnc,hn1,hnt⟩:=Ka hz0 (Eu.KW hx) hnew;have hvb:=hnb _ _ _ _ hvx;subst hvx;have hne:es.drop off≠[]:=fun e=>by rw [e] at hdl;simp at hdl;omega
 have hmz:=yJ z hcap;have hslr:Eu w (fun b=>B b∨Ex κ h b) z (es.drop off) (.slice (some ⟨b,base+off*z,none⟩) len cap):=⟨hold.1,_,cap,by rw [hdl],by rw [hdl];exact hcap,.inr ⟨b,base+off*z,rfl,hh.lt ri b base hkk,fun j e c x he hx=>by
  have hj:j<len:=by rw [← hdl];exact (List.getElem?_eq_some_iff.1 he).1
  have hcl:c<z:=by rw [← hold.1 j e he];exact (List.getElem?_eq_some_iff.1 hx).1
  have hq:=yJ z (show j+1≤len from hj);rw [yM] at hq;exact ⟨_,Bz hcell (by omega),hold.2 j e c x he hx⟩⟩⟩
 obtain ⟨b',o',cap',cs,hvs,hcl,hcc,hc1,hct'⟩:=Ka hz0 hslr hne;injection hvs with hv1 hv2 hv3;injection hv1 with hv1;injection hv1 with hv4 hv5;subst hv4 hv5;rw [hdl] at hcl;have hcc':∀j v,cs[j]? = some v→w.cell? ⟨b,base+off*z+j,none⟩=some v:=fun j v hj=>by have:=hcc j v hj;rwa [Ep] at this
 have hnc':∀j v,news[j]? = some v→w.cell? ⟨nb,o+j,none⟩=some v:=fun j v hj=>by have:=hnc j v hj;rwa [Ep] at this
 have hcg:∀q,q<len*z→cells.getD (base+off*z+q) undef=cs.getD q undef:=fun q hq=>by have h1:=hcc' q _ (Bs cs q undef (by omega));rw [Bz hcell (by omega)] at h1;exact Option.some.inj h1
 have hold':BZ w (fun b=>B b∨Ex κ h b) z (es.drop off) fun q=>cs.getD q undef:=⟨hold.1,hct'⟩
 have hnr:BZ w (fun b=>B b∨Ex κ h b) z new fun q=>news.getD q undef:=⟨(Eu.KW hx).1,hnt⟩
 have hlen2:((es.drop off).take k++new++(es.drop off).drop k).length=len+new.length:=by simp only [xE,zX,xG];omega
 have hm1:(k+new.length)*z+(len-k)*z=(len+new.length)*z:=by rw [← yC];congr 1;omega
 have hm2:(k+new.length)*z=k*z+new.length*z:=yC _ _ _;have hm3:(len+new.length)*z=len*z+new.length*z:=yC _ _ _;have hdl2:(cs.drop (k*z)).length=(len-k)*z:=by rw [xG,hcl,Nat.sub_mul]
 have hdg:∀q,(cs.drop (k*z)).getD q undef=cs.getD (k*z+q) undef:=fun q=>by simp [List.getD,zN]
 by_cases hroom:len+new.length≤cap
 ·have hmul:=yJ z hroom;obtain ⟨tA,kA,hsa,hkA⟩:∃tA kA,w.shape? nb=some (tA,kA)∧kA≠0:=by
   have h1:=hnc' 0 _ (Bs news 0 undef (by rw [hnl];exact Nat.mul_pos hpos L.pos));cases hb0:w.heap[nb]? with
   |none=>simp [World.cell?,hb0] at h1
   |some ob=>
    cases ob with
    |cells c0 e0 f0=>
     refine ⟨e0,c0.size,by simp [World.shape?,hb0],fun e => ?_⟩;simp [World.cell?,hb0] at h1;obtain ⟨h2,_⟩:=Array.getElem?_eq_some_iff.1 h1;omega
    |_=>simp [World.cell?,hb0] at h1
  have hsb:w.shape? b=some (el,cells.size):=by simp [World.shape?,hcell]
  have key:=Ww L b (base+off*z) len cap k nb o new.length ncap cs news w hk hpos hroom (by omega) hvb hcl hnl hcc'
   (fun j hj=>by rw [Bz hcell (by omega)];rfl) (fun j=>by simp [World.frozen?,hcell]) hnc' hc1 hn1 tA el kA cells.size hsa hsb hkA
  refine key.mono ?_
  rintro e w' ⟨rfl,rfl⟩
  have hf1:base+off*z+(k+new.length)*z+(cs.drop (k*z)).length≤cells.size:=by omega
  have hs1:=DG cells _ _ hf1;have hf2:base+off*z+k*z+news.length≤(A3 cells (base+off*z+(k+new.length)*z) (cs.drop (k*z))).size:=by rw [hs1];omega
  have hs2:=DG _ _ _ hf2;have e1:w.drew.setCells b (base+off*z+(k+new.length)*z) (cs.drop (k*z))=w.drew.setRow b (A3 cells (base+off*z+(k+new.length)*z) (cs.drop (k*z))):=Fk (w:=w.drew) hcell _ hf1 fun v hv=>hc1 v (xO hv);have hr1:=setRow_heap w.drew b cells (A3 cells (base+off*z+(k+new.length)*z) (cs.drop (k*z))) el _ hcell;rw [e1,Fk hr1 news hf2 hn1];have hr2:=setRow_heap _ b _ (A3 (A3 cells (base+off*z+(k+new.length)*z) (cs.drop (k*z))) (base+off*z+k*z) news) el _ hr1;generalize hW:(w.drew.setRow b (A3 cells (base+off*z+(k+new.length)*z) (cs.drop (k*z)))).setRow b (A3 (A3 cells (base+off*z+(k+new.length)*z) (cs.drop (k*z))) (base+off*z+k*z) news)=W at hr2 ⊢;have h5:∀b',b'<w.heap.size→(∀base',(some (b,base):Option (Nat×Nat))≠some (b',base'))→W.heap[b']? = w.heap[b']? :=fun b' _ hb'=>by have hbn:b'≠b:=fun e=>hb' base (by rw [e]);rw [← hW,setRow_other _ b _ hbn,setRow_other _ b _ hbn];rfl
  have hsz:W.heap.size=w.heap.size:=by rw [← hW,setRow_size,setRow_size];rfl
  have x1:Ext κ h w (κ.set ri (some (b,base+off*z))) (h.set ri (.row false (ver+1) z ((es.drop off).take k++new++(es.drop off).drop k))) W:=
   DH (w':=W) hh hri rfl (hOL _) hkk (by rw [← hW];rfl) (by rw [← hW];rfl) (by rw [← hW];rfl) (by rw [hsz];exact yE _) h5 (fun b' base' e=>by injection e with e;injection e with e1 e2;subst e1;exact .inl ⟨base,rfl⟩) (fun e=>hver _ e)
  have hh1:=CZ hh hri hkk h5 (fun b' base' e=>by injection e with e;injection e with e1 e2;subst e1;exact ⟨.inl ⟨base,rfl⟩,by rw [hsz];exact hh.lt ri _ base hkk⟩) x1
   (Cd hz0 hr2 (.inl rfl) (by rw [hlen2,hs2,hs1];omega) (Dv x1 (KJ hold' hnr (by omega) (fun q hq=>by
    have hqk:q<len*z:=yG hq (yJ z (by omega));rw [Bq _ _ _ hf2,if_neg (by omega),Bq _ _ _ hf1,if_neg (by omega),hcg q hqk]) (fun q hq=>by
    rw [Bq _ _ _ hf2,if_pos ⟨by omega,by omega⟩];congr 1;omega) (fun q hq=>by
    rw [hdl] at hq;rw [Bq _ _ _ hf2,if_neg (by omega),Bq _ _ _ hf1,if_pos ⟨by omega,by omega⟩,← hdg];congr 1;omega))))
  exact ⟨_,_,rfl,CY (A5 hkk) (A5 hri) hr2 (by rw [hs2,hs1];omega) hlen2 hroom,hh1,x1⟩
 ·have hbig:(len+new.length)*65536≤140737488355328:=yF (yJ _ hle) (by omega);obtain ⟨ROW,G,hG,hRs,hR,key⟩:=Yr L b (base+off*z) len cap k nb o new.length ncap cs news w hk hpos hcap (by omega) hbig hcl hnl hcc' hnc' hc1 hn1;refine key.mono ?_
  rintro e w' ⟨rfl,rfl⟩
  have hGz:=yJ z hG;have ha:(w.alloc (.cells ROW (ρ.t 9))).drew.heap[w.heap.size]? = some (.cells ROW (ρ.t 9) (0,0)):=Ba w _;have hf1:k*z+news.length≤ROW.size:=by omega
  have hs1:=DG ROW _ _ hf1;have hf2:(k+new.length)*z+(cs.drop (k*z)).length≤(A3 ROW (k*z) news).size:=by rw [hs1];omega
  have hs2:=DG _ _ _ hf2;have hr1:=setRow_heap (w.alloc (.cells ROW (ρ.t 9))).drew w.heap.size ROW (A3 ROW (k*z) news) (ρ.t 9) _ ha;have hr1':(((w.alloc (.cells ROW (ρ.t 9))).drew.setRow w.heap.size (A3 ROW (k*z) news)).drew).heap[w.heap.size]? = some (.cells (A3 ROW (k*z) news) (ρ.t 9) (0,0)):=hr1;rw [Fk ha news hf1 hn1,Fk hr1' _ hf2 fun v hv=>hc1 v (xO hv)];have hr2:=setRow_heap _ w.heap.size _ (A3 (A3 ROW (k*z) news) ((k+new.length)*z) (cs.drop (k*z))) (ρ.t 9) _ hr1';generalize hW:(((w.alloc (.cells ROW (ρ.t 9))).drew.setRow w.heap.size (A3 ROW (k*z) news)).drew).setRow w.heap.size (A3 (A3 ROW (k*z) news) ((k+new.length)*z) (cs.drop (k*z)))=W at hr2 ⊢;have h5:∀b',b'<w.heap.size→W.heap[b']? = w.heap[b']? :=fun b' hb'=>by rw [← hW,setRow_other _ _ _ (by omega)];show ((w.alloc (.cells ROW (ρ.t 9))).drew.setRow w.heap.size (A3 ROW (k*z) news)).heap[b']? = _;rw [setRow_other _ _ _ (by omega)];exact Av w _ hb'
  have hsz:W.heap.size=w.heap.size+1:=by rw [← hW,setRow_size];show ((w.alloc (.cells ROW (ρ.t 9))).drew.setRow w.heap.size (A3 ROW (k*z) news)).heap.size=_;rw [setRow_size];simp
  have x1:Ext κ h w (κ.set ri (some (w.heap.size,0))) (h.set ri (.row false (ver+1) z ((es.drop off).take k++new++(es.drop off).drop k))) W:=
   DH (w':=W) hh hri rfl (hOL _) hkk (by rw [← hW];rfl) (by rw [← hW];rfl) (by rw [← hW];rfl) (by omega) (fun b' hb' _=>h5 b' hb') (fun b' base' e=>by injection e with e;injection e with e;exact .inr (by omega)) (fun e=>hver _ e)
  have hh1:=CZ hh hri hkk (fun b' hb' _=>h5 b' hb') (fun b' base' e=>by injection e with e;injection e with e;subst e;exact ⟨.inr (yE _),by omega⟩) x1
   (Cd hz0 hr2 (.inl rfl) (by rw [hlen2,hs2,hs1];omega) (Dv x1 (KJ hold' hnr (by omega) (fun q hq=>by
    rw [yN,Bq _ _ _ hf2,if_neg (by omega),Bq _ _ _ hf1,if_neg (by omega)];have:=hR q hq;simp only [Array.getD_eq_getD_getElem?,getD_eq_getElem?_getD,this]) (fun q hq=>by
    rw [yN,Bq _ _ _ hf2,if_neg (by omega),Bq _ _ _ hf1,if_pos ⟨by omega,by omega⟩];congr 1;omega) (fun q hq=>by
    rw [hdl] at hq;rw [yN,Bq _ _ _ hf2,if_pos ⟨by omega,by omega⟩,← hdg];congr 1;omega))))
  exact ⟨_,_,rfl,CY (A5 hkk) (A5 hri) hr2 (by rw [hs2,hs1];omega) hlen2 hG,hh1,x1⟩
end Ab
namespace Ab
open Go Go.Proofs Go.Shelf
variable {P:Program} {B:Nat→Prop} {κ:BG} {h:Heap} {w:World} {R:Type}
theorem Pz {ρ:Ren} {z:Nat} (L:HS P ρ z):Oc P (ρ.t 24)=some z:=by obtain ⟨i,zv,h1,h2,h3,h4,h5⟩:=L.i9;have:=L.pos;simp only [Oc,L.t24,h1,h2];rw [if_pos ⟨by omega,by omega,h5⟩,h3]
theorem ains_ok {ρ:Ren} {z:Nat} (L:HS P ρ z) {avs:List AV} {K:AV→Heap→Option R} {r:R} (hr:ains z h avs K=some r) (hh:Ap B κ h w) {vs:Array Value} (hc:AY B κ h w avs vs) (n:Nat) :
  CallsIn (Fr none) n P (ρ.f 22) vs w fun e w'=>∃val v h' κ',e = .returned val∧K v h'=some r∧AO B κ' h' w' v val∧Ap B κ' h' w'∧Ext κ h w κ' h' w':=by
 refine OR ?_;unfold ains at hr
 try simp only [AB] at hr
 split at hr
 ·rename_i s kx z' new;obtain ⟨k,hk,hr1⟩:=bind_some hr;obtain ⟨⟨rfl,hn0⟩,hr2⟩:=AD hr1;clear hr hr1;obtain ⟨vs⟩:=vs;have hl:vs.length=3:=by simpa using hc.1
  match vs,hl with
  |[v0,v1,v2],_=>
  have c0:AO B κ h w s v0:=hc.2 0 s rfl;have c1:AO B κ h w kx v1:=hc.2 1 kx rfl;have c2:AO B κ h w (.t (.sl z' new)) v2:=hc.2 2 _ rfl;have hk1:v1 = .int .i64 k:=Cs hk c1;subst hk1;have hnew:new≠[]:=fun e=>hn0 (by rw [e];rfl);have hpos:0<new.length:=zW.2 hnew;obtain ⟨va,vc,hva⟩:∃va vc,v2 = .slice va new.length vc:=by
   cases c2 with
   |t _ _ ht=>cases ht with
    |nil=>exact (hnew rfl).elim
    |sl _ _ b0 o0 c0 u _ _ hA _ _ _=>exact ⟨_,_,rfl⟩
  split at hr2
  ·obtain ⟨⟨rfl,hle⟩,hK⟩:=AD hr2;have hap:Er P (ρ.t 24) h .nilsl (.t (.sl z' new)) K=some r:=by simp [Er,Pz L,JL,elems,AB,hle,hK]
   obtain ⟨v,h',κ',val,w',h1,h2,h3,h4,h5⟩:=Jw (t':=ρ.t 24) (by simp [IW]) hap hh c0 c2 0;cases c0 with
   |nilsl a0=>
    subst hva;refine (Vo L a0 new.length vc va w w' val hpos fun ty=>h2).mono ?_
    rintro e w2 ⟨rfl,rfl⟩
    exact ⟨_,_,_,_,rfl,h1,h3,h4,h5⟩
  ·rename_i i ver off len;split at hr2
   ·rename_i ver' size es hi;obtain ⟨⟨rfl,rfl,hoff,hle,hk0,hkl,hz1⟩,hK⟩:=AD hr2;obtain ⟨k',rfl⟩:=Int.eq_ofNat_of_zero_le hk0;simp only [toNat_natCast] at hK;have hdl:(es.drop off).length=len:=by simp;omega
    by_cases hkk:k'=len
    ·subst hkk;have hap:Er P (ρ.t 24) h (.sref i ver' off k') (.t (.sl size new)) K=some r:=by have hA:(es.drop off).take k'=es.drop off:=take_of_length_le (by omega);have hB:(es.drop off).drop k'=[]:=List.drop_eq_nil_of_le (by omega);rw [hA,hB,yW] at hK;simp [Er,Pz L,JL,elems,AB,hi,hoff,hle,hA,hK]
     obtain ⟨v,h',κ',val,w',h1,h2,h3,h4,h5⟩:=Jw (t':=ρ.t 24) (by simp [IW]) hap hh c0 c2 0;cases c0 with
     |sref _ _ _ _ _ _ hex hsr=>
     obtain ⟨kk,hkk⟩:=CH hh hi;obtain ⟨_,_,hm⟩:=hsr kk _ hkk hi rfl;have ho:=hh.obj i _ _ hi hkk;subst hva;rcases hm with ⟨rfl,hof,a0,rfl⟩|⟨b,base,rfl,cap,rfl,hcap',hcs⟩
     ·refine (Vo L a0 new.length vc va w w' val hpos fun ty=>h2).mono ?_
      rintro e w2 ⟨rfl,rfl⟩
      exact ⟨_,_,_,_,rfl,h1,h3,h4,h5⟩
     ·have hcap:k'≤cap:=by simp only [AF.len] at hcap';omega
      refine (ins_end L b _ k' cap new.length vc va w w' val hpos hcap (by omega) fun ty=>h2).mono ?_
      rintro e w2 ⟨rfl,rfl⟩
      exact ⟨_,_,_,_,rfl,h1,h3,h4,h5⟩
    ·refine (UR L hh hi hoff (by omega) hnew hle hz1 c0 (by cases c2 with|t _ _ ht=>exact ht)).mono ?_
     rintro e w' ⟨val,κ',rfl,h3,h4,h5⟩
     exact ⟨_,_,_,_,rfl,hK,h3,h4,h5⟩
   ·cases hr2
  ·cases hr2
 ·cases hr
theorem ZW {ρ:Ren} {z:Nat} (L:Rn P ρ z) {avs:List AV} {K:AV→Heap→Option R} {r:R} (hr:ZX z h avs K=some r) (hh:Ap B κ h w) {vs:Array Value} (hc:AY B κ h w avs vs) (n:Nat) :
  CallsIn (Fr none) n P (ρ.f 4) vs w fun e w'=>∃val v h' κ',e = .returned val∧K v h'=some r∧AO B κ' h' w' v val∧Ap B κ' h' w'∧Ext κ h w κ' h' w':=by
 refine OR ?_;unfold ZX at hr
 try simp only [AB] at hr
 split at hr
 ·rename_i nx;obtain ⟨k,hk,hr1⟩:=bind_some hr;obtain ⟨⟨h0,hle⟩,hK⟩:=AD hr1;obtain ⟨vs⟩:=vs;have hl:vs.length=2:=by simpa using hc.1
  match vs,hl with
  |[v0,v1],_=>
  have c0:AO B κ h w .nilsl v0:=hc.2 0 _ rfl;have c1:AO B κ h w nx v1:=hc.2 1 nx rfl;obtain rfl:v1 = .int .i64 k:=Cs hk c1;obtain ⟨m,rfl⟩:=Int.eq_ofNat_of_zero_le h0;obtain ⟨i,zv,hi,hzv,hsz,hzs,hby⟩:=L.i25;have hz0:z≠0:=by have:=L.pos;omega
  cases c0 with
  |nilsl a0=>
   by_cases hm:m=0
   ·subst hm;refine (Any8.slices_Grow_room L.lay a0 0 0 0 w (yE _) (by omega) (by omega) (by omega)).mono ?_
    rintro e w' ⟨rfl,he⟩
    subst he;have x1:Ext κ h w' (κ++[none]) (h++[.row false 0 z []]) w':=B9 hh rfl rfl rfl (yE _) (fun _ _=>rfl) (fun b base e=>by cases e);have hh1:=Bj hh (fun _ _=>rfl) x1 (fun b base e=>by cases e) (show HI B (κ++[none]) (h++[.row false 0 z []]) w' none (.row false 0 z []) from rfl);exact ⟨_,_,_,_,rfl,hK,Cc (by rw [← hh.len];exact Ao κ _) (Ao h _),hh1,x1⟩
   ·have hbig:(0+m)*i.bytes≤140737488355328:=by have h2:m*i.bytes≤1073741824*65536:=Nat.mul_le_mul (by omega) hby;rw [yN];omega
    refine (Any8.slices_Grow_grow L.lay i zv hi hzv (by omega) a0 0 0 m [] w (yE _) (by omega) hbig (by omega) (by simp) (fun _=>rfl) (fun a _ j v hj=>by simp at hj)).mono ?_
    rintro e w' ⟨rfl,rfl⟩
    generalize hC:([]:List Value).toArray++Builtin.zeroCells zv.cells (0+m-0)++Builtin.zeroCells zv.cells (grownCap w (0+m) 0 (ρ.t 25)-(0+m))=CS;have hge:=grownCap_ge w (0+m) 0 (ρ.t 25);have hCs:CS.size=grownCap w (0+m) 0 (ρ.t 25)*z:=by rw [← hC];simp only [zD,size_toArray,zV,size_zeroCells,hzs];rw [yN,← yC];congr 1;omega
    have h5:∀b',b'<w.heap.size→(w.drew.alloc (.cells CS (ρ.t 25))).heap[b']? = w.heap[b']? :=fun b' hb'=>Av w.drew _ hb';have x1:Ext κ h w (κ++[some (w.heap.size,0)]) (h++[.row false 0 z []]) (w.drew.alloc (.cells CS (ρ.t 25))):=
     B9 (w':=w.drew.alloc _) hh rfl rfl rfl (by simp) h5 fun b base e=>by injection e with e;injection e with e;omega
    have hnew:=Ba w.drew (.cells CS (ρ.t 25));have hh1:=Bj hh h5 x1 (fun b base e=>by injection e with e;injection e with e;subst e;exact ⟨yE _,by simp⟩)
     (Cd hz0 hnew (.inl rfl) (by simp) ⟨fun j e he=>by simp at he,fun j e c x he=>by simp at he⟩)
    exact ⟨_,_,_,_,rfl,hK,CY (by rw [← hh.len];exact Ao κ _) (Ao h _) hnew (by rw [hCs];omega) rfl (zero_le _),hh1,x1⟩
 ·cases hr
theorem isFn_vs {f:Option FuncId} {s:AV} {rest:List AV} (hf:isFn f rest=true) {vs:Array Value} (hc:AY B κ h w (s::rest) vs):∃v0,vs = #[v0]++fnV f∧AO B κ h w s v0:=by
 obtain ⟨vs⟩:=vs;have h0:=hc.1;have c0:=hc.2 0 s rfl;cases f with
 |none=>
  cases rest with
  |nil=>
   match vs,(by simpa using h0:vs.length=1) with
   |[v0],_=>exact ⟨v0,rfl,c0⟩
  |cons x l=>simp [isFn] at hf
 |some g=>
  match rest,hf with
  |[.func (.func g') [] []],hf=>
   match vs,(by simpa using h0:vs.length=2) with
   |[v0,v1],_=>
    have c1:AO B κ h w (.func (.func g') [] []) v1:=hc.2 1 _ rfl;obtain rfl:g=g':=by simpa [isFn] using hf
    cases c1 with
    |func _ _ _ fs cs h1 h2 _ _=>
     obtain rfl:fs = #[]:=zA (by simpa using h1);obtain rfl:cs = #[]:=zA (by simpa using h2);exact ⟨v0,rfl,c0⟩
theorem Km {z:Nat}:∀{d:List (List Tree)},Eh z d=true→(IJ d).length=d.length*z
 |[],_=>by simp [IJ]
 |e::d,h=>by simp only [Eh,yU,zE,beq_iff_eq] at h;have ih:=Km (z:=z) (d:=d) (by simpa [Eh] using h.2);simp only [IJ,xJ,xA,xE,xH] at ih ⊢;rw [ih,h.1.1,xF,yM];omega
theorem Lj {z:Nat}:∀{d:List (List Tree)},Eh z d=true→∀(j c:Nat) (e:List Tree) (x:Tree),d[j]? = some e→e[c]? = some x→(IJ d).getD (j*z+c) undef = .int .i64 (intOf x)∧x = .int .i64 (intOf x)∧e.length=z
 |[],_,j,c,e,x,hj,_=>by simp at hj
 |a::d,h,j,c,e,x,hj,hx=>by
  simp only [Eh,yU,zE,beq_iff_eq] at h;have ih:=Lj (z:=z) (d:=d) (by simpa [Eh] using h.2);have hfl:IJ (a::d)=a.map (fun x=>Value.int .i64 (intOf x))++IJ d:=by simp [IJ]
  rw [hfl];cases j with
  |zero=>
   obtain rfl:a=e:=by simpa using hj
   have hc:c<a.length:=(List.getElem?_eq_some_iff.1 hx).1;have hi:=yV.1 h.1.2 x (xN hx);refine ⟨?_,?_,h.1.1⟩
   ·simp only [Nat.zero_mul,yN,List.getD];rw [zL (by simpa using hc),zQ,hx];rfl
   ·cases x<;>simp [Yq] at hi;rename_i k n;cases k<;>simp at hi<;>rfl
  |succ j=>
   obtain ⟨h1,h2,h3⟩:=ih j c e x (by simpa using hj) hx;refine ⟨?_,h2,h3⟩;rw [← h1];simp only [List.getD];rw [zM (by rw [xH,h.1.1,yM];omega),xH,h.1.1];congr 2;rw [yM];omega
theorem Wz {w:World} {A:Nat→Prop} {z:Nat} {d:List (List Tree)} (h:Eh z d=true):BZ w A z d fun q=>(IJ d).getD q undef:=by
 refine ⟨fun j e he => ?_,fun j e c x he hx => ?_⟩
 ·have:=yV.1 h e (xN he);simp only [zE,beq_iff_eq] at this;exact this.1
 ·obtain ⟨h1,h2,_⟩:=Lj h j c e x he hx;simp only [h1];rw [h2];exact .int _ _
theorem ZS {g:FuncId} {z m:Nat} {f:Option FuncId} {F:List (List Tree)→List (List Tree)} (L:Zf P g z m f F) {avs:List AV} {K:AV→Heap→Option R} {r:R} (hr:ZT z m f F h avs K=some r) (hh:Ap B κ h w) {vs:Array Value} (hc:AY B κ h w avs vs) (n:Nat) :
  CallsIn (Fr none) n P g vs w fun e w'=>∃val v h' κ',e = .returned val∧K v h'=some r∧AO B κ' h' w' v val∧Ap B κ' h' w'∧Ext κ h w κ' h' w':=by
 refine OR ?_;unfold ZT at hr
 try simp only [AB] at hr
 split at hr
 ·rename_i s rest;split at hr
  ·rename_i hf;obtain ⟨v0,rfl,c0⟩:=isFn_vs hf hc;have hun:∀{κ:BG} {h:Heap} {w:World},AO B κ h w (.tuple []) (.tuple #[]):=.tuple _ _ rfl fun j x hx=>by simp at hx
   split at hr
   ·cases c0 with
    |nilsl a=>
     refine (L.nil a w).mono ?_
     rintro e w' ⟨rfl,hg⟩
     exact ⟨_,_,_,_,rfl,hr,hun,E3 hh hg,FP hh hg⟩
   ·rename_i i ver off len;split at hr
    ·rename_i ver' size es hi;obtain ⟨⟨rfl,rfl,hle,hle2,hint⟩,hK⟩:=AD hr;have hdl:((es.drop off).take len).length=len:=by simp;omega
     have hFl:=(L.len ((es.drop off).take len)).trans hdl;cases c0 with
     |sref _ _ _ _ _ _ hex hsr=>
      obtain ⟨kk,hkk⟩:=CH hh hi;obtain ⟨_,hle',hm⟩:=hsr kk _ hkk hi rfl;rcases hm with ⟨rfl,hof,a0,rfl⟩|⟨b,base,rfl,cap,rfl,hcap,hcs⟩
      ·refine (L.nil a0 w).mono ?_
       rintro e w' ⟨rfl,hg⟩
       have hF0:F ((es.drop off).take 0)=[]:=zI hFl;have hset:h.set i (.row false ver' size (BM es off (F ((es.drop off).take 0))))=h:=by
        rw [hF0];apply zJ;intro j;by_cases hij:j=i
        ·rw [hij,A5 hi,hi];simp [BM]
        ·rw [DI hij]
       rw [hset] at hK;exact ⟨_,_,_,_,rfl,hK,hun,E3 hh hg,FP hh hg⟩
      ·obtain ⟨hsz0,cells,el,fr,hcell,hth,hcsz,hls,hct⟩:=hh.obj i _ _ hi hkk;simp only [AF.size,AF.len] at hle' hcap hcs ⊢;have hint2:=L.int _ hint;have hvl:=Km hint2;rw [L.len] at hvl;obtain ⟨f1,f2,f3,f4,f5⟩:=Il (new:=F ((es.drop off).take len)) (p:=off) (vals:=IJ (F ((es.drop off).take len))) hh hi hkk hcell (by omega) (by rw [hvl,hFl,hdl]) (Wz hint2);have hrun:=L.run ((es.drop off).take len) w b (base+off*size) cap cells el fr hint (by omega) hcell hth (by rw [hdl];rw [hvl,hdl] at f1;exact f1) (fun q hq=>by
        rw [hdl] at hq;have hzp:0<size:=pos_of_ne_zero hsz0;have hj:q / size<len:=(Nat.div_lt_iff_lt_mul hzp).2 hq;have hc1:q % size<size:=mod_lt _ hzp;obtain ⟨e,he⟩:∃e,((es.drop off).take len)[q / size]? = some e:=⟨_,zO (by rw [hdl];exact hj)⟩
        have he2:es[off+q / size]? = some e:=by have:=(M7 he).2;rwa [zN] at this
        obtain ⟨x,hx⟩:∃x,e[q % size]? = some x:=⟨_,zO (by rw [hls _ e he2];exact hc1)⟩
        obtain ⟨g1,g2,_⟩:=Lj hint _ _ e x he hx;have hq2:q / size*size+q % size=q:=by rw [mul_comm];exact Nat.div_add_mod q size
        rw [hq2] at g1;rw [g1];have ht:=hct _ e _ x he2 hx;rw [g2] at ht;have hidx:base+((off+q / size)*size+q % size)=base+off*size+q:=by rw [yC];omega
        rw [hidx] at ht;generalize cells.getD (base+off*size+q) undef=vv at ht;cases ht;rfl)
       rw [hdl] at hrun;refine hrun.mono ?_
       rintro e w' ⟨rfl,hg⟩
       exact ⟨_,_,_,_,rfl,hK,hun,E3 f4 hg,f5.trans (FP f4 hg)⟩
    ·cases hr
   ·cases hr
  ·cases hr
 ·cases hr
theorem ZQ {g:FuncId} {p:Prim} (L:Uw P g p) {avs:List AV} {K:AV→Heap→Option R} {r:R} (hr:aprim p h avs K=some r) (hh:Ap B κ h w) {vs:Array Value} (hc:AY B κ h w avs vs) (n:Nat) :
  CallsIn (Fr none) n P g vs w fun e w'=>∃val v h' κ',e = .returned val∧K v h'=some r∧AO B κ' h' w' v val∧Ap B κ' h' w'∧Ext κ h w κ' h' w':=by
 cases p with
 |ins z=>
  obtain ⟨ρ,rfl,hL⟩:=L;exact ains_ok hL hr hh hc n
 |grow z=>
  obtain ⟨ρ,rfl,hL⟩:=L;exact ZW hL hr hh hc n
 |perm z m f F=>exact ZS L hr hh hc n
end Ab
namespace Ab
open Go
variable {R:Type} {P:Program} {B:Nat→Prop} {κ:BG} {h:Heap} {w:World}
theorem No {f:Nat→Tree} {t:TypeId} {off:Nat} {x:AV} {off':Nat} (hm:IA P t (fun i =>.t (f i)) off=some (x,off')) {B1 B2:Nat→Prop} {κ1 κ2:BG} {h1 h2:Heap} {w1 w2:World} {v:Value} (hv:AO B1 κ1 h1 w1 x v)
  (ht:∀i u,Bv w1 (fun b=>B1 b∨Ex κ1 h1 b) (f i) u→Bv w2 (fun b=>B2 b∨Ex κ2 h2 b) (f i) u):AO B2 κ2 h2 w2 x v:=by
 unfold IA at hm;split at hm
 ·rename_i n _ _;simp only [Option.some.injEq,Prod.mk.injEq] at hm;obtain ⟨rfl,_⟩:=hm;cases hv with
  |agg _ vs hs hall=>
   refine .agg _ _ hs fun j y hy => ?_;have:=hall j y hy;have hj:j<n:=by have:=AS hy;simpa [BK] using this
   rw [FF _ _ _ _ hj] at hy;cases hy;cases this with
   |t _ _ h3=>exact .t _ _ (ht _ _ h3)
 ·simp only [Option.some.injEq,Prod.mk.injEq] at hm;obtain ⟨rfl,_⟩:=hm;cases hv with
  |t _ _ h3=>exact .t _ _ (ht _ _ h3)
 ·cases hm
theorem FX {f:Nat→Tree}:∀{ts:List TypeId} {off:Nat} {avs:List AV},Ck P (fun i =>.t (f i)) ts off=some avs→∀{B1 B2:Nat→Prop} {κ1 κ2:BG} {h1 h2:Heap} {w1 w2:World}
  (_:∀i u,Bv w1 (fun b=>B1 b∨Ex κ1 h1 b) (f i) u→Bv w2 (fun b=>B2 b∨Ex κ2 h2 b) (f i) u) (x:AV) (_:x∈avs) (v:Value),AO B1 κ1 h1 w1 x v→AO B2 κ2 h2 w2 x v
 |[],off,avs,hm,B1,B2,κ1,κ2,h1,h2,w1,w2,ht,x,hx,v,hv=>by simp only [Ck,Option.some.injEq] at hm;subst hm;cases hx
 |t::ts,off,avs,hm,B1,B2,κ1,κ2,h1,h2,w1,w2,ht,x,hx,v,hv=>by
  simp only [Ck] at hm;split at hm
  ·rename_i y off' hy;cases hr:Ck P (fun i =>.t (f i)) ts off' with
   |none=>rw [hr] at hm;cases hm
   |some rest=>
    rw [hr] at hm;simp only [yP,Option.some.injEq] at hm;subst hm;cases hx with
    |head=>exact No hy hv ht
    |tail _ hx=>exact FX hr ht x hx v hv
  ·cases hm
theorem IB {f:Nat→Tree} {g:FuncId} {r:AV} (hm:C7 P g (fun i =>.t (f i))=some r) {B1 B2:Nat→Prop} {κ1 κ2:BG} {h1 h2:Heap} {w1 w2:World}
  (ht:∀i u,Bv w1 (fun b=>B1 b∨Ex κ1 h1 b) (f i) u→Bv w2 (fun b=>B2 b∨Ex κ2 h2 b) (f i) u) {v:Value} (hv:AO B1 κ1 h1 w1 r v):AO B2 κ2 h2 w2 r v:=by
 unfold C7 at hm;split at hm
 ·rename_i fn hf;split at hm
  ·rename_i x hx;cases hm;exact FX hx ht _ (xQ.2 rfl) v hv
  ·rename_i avs _ hx;cases hm;cases hv with
   |tuple _ vs hs hall=>exact .tuple _ _ hs fun j y hy=>FX hx ht y (xN hy) _ (hall j y hy)
  ·cases hm
 ·cases hm
theorem H9 {m:Nat} {leaf:Nat→AV} (hl:∀i,Refs m (leaf i)):∀{ts:List TypeId} {off:Nat} {avs:List AV},Ck P leaf ts off=some avs→∀x∈avs,Refs m x
 |[],off,avs,hm,x,hx=>by simp only [Ck,Option.some.injEq] at hm;subst hm;cases hx
 |t::ts,off,avs,hm,x,hx=>by
  simp only [Ck] at hm;split at hm
  ·rename_i y off' hy;cases hr:Ck P leaf ts off' with
   |none=>rw [hr] at hm;cases hm
   |some rest=>
    rw [hr] at hm;simp only [yP,Option.some.injEq] at hm;subst hm;cases hx with
    |tail _ hx=>exact H9 hl hr x hx
    |head=>
     unfold IA at hy;split at hy
     ·rename_i n _ _;simp only [Option.some.injEq,Prod.mk.injEq] at hy;obtain ⟨rfl,_⟩:=hy;refine .agg _ fun j z hz => ?_;have hj:j<n:=by have:=AS hz;simpa [BK] using this
      rw [FF _ _ _ _ hj] at hz;cases hz;exact hl _
     ·simp only [Option.some.injEq,Prod.mk.injEq] at hy;obtain ⟨rfl,_⟩:=hy;exact hl _
     ·cases hy
  ·cases hm
theorem Np {m:Nat} {leaf:Nat→AV} (hl:∀i,Refs m (leaf i)) {g:FuncId} {r:AV} (hm:C7 P g leaf=some r):Refs m r:=by
 unfold C7 at hm;split at hm
 ·split at hm
  ·rename_i x hx;cases hm;exact H9 hl hx _ (xQ.2 rfl)
  ·rename_i avs _ hx;cases hm;exact .tuple _ fun j y hy=>H9 hl hx y (xN hy)
  ·cases hm
 ·cases hm
def JG (B:Nat→Prop) (κ:BG) (h:Heap) (w:World) (q:Bool) (K:AV→Heap→Option R) (r:R) (e:Ending) (w':World):Prop:=
 ∃val v h' κ',e = .returned val∧K v h'=some r∧AO B κ' h' w' v val∧Ap B κ' h' w'∧Ext κ h w κ' h' w'∧(q=true→h'=h∧κ'=κ)
theorem R5 {ys:List Tree} (hs:ys.all Tree.scalar=true) (i:Nat):(ys.getD i default).scalar=true:=by
 rcases yH i ys.length with hi|hi
 ·exact FL hs (Bs ys i default hi)
 ·simp only [List.getD,zP hi];rfl
theorem VI {m:Nat} {rs:List AV} {κ':BG} {h1:Heap} {w':World} {rv:AV} {v:Value} (hh':Ap B κ' h1 w') (x:Ext κ h w κ' h1 w') (hm:h.length≤m) (hrefs:(∀i,Refs m (rs.getD i .undef))→Refs m rv) (hv:AO B κ' h1 w' rv v) :
  ∃κ2,AO B κ2 (trim m rs h1) w' rv v∧Ap B κ2 (trim m rs h1) w'∧Ext κ h w κ2 (trim m rs h1) w':=by
 unfold trim;split
 ·rename_i hc;simp only [zE] at hc;refine ⟨κ'.take m,hv.Ec (hrefs fun i => ?_),hh'.Ec hc.2,x.Ec hm⟩;rcases yH i rs.length with hi|hi
  ·exact EU 4 (FL hc.1 (Bs rs i .undef hi))
  ·simp only [List.getD,zP hi];exact .undef
 ·exact ⟨κ',hv,hh',x⟩
theorem Wi (g j:Nat) (hj:j<64):¬FT+(64*g+j)<OWN∧¬FT+(64*g+j)<FT∧(FT+(64*g+j)-FT) % 64=j∧(FT+(64*g+j)-FT) / 64=g:=by unfold OWN FT;omega
theorem YV {g:Nat} (h:g<OWN):OWN+g<FT:=by unfold OWN at h;unfold OWN FT;omega
theorem Sz {C:Cfg} {rec:Rec} {pc:BX} (hrec:EY C.P rec) (hpc:Cg C.P pc) {q:Bool} {g:FuncId} {avs:List AV} {K:AV→Heap→Option R} {r:R} (hr:GO C rec pc q g avs h K=some r)
  (hh:Ap B κ h w) {vs:Array Value} (hc:AY B κ h w avs vs) (n:Nat):CallsIn (Fr none) n C.P g vs w (JG B κ h w q K r):=by
 unfold GO at hr
 try simp only [AB] at hr
 split at hr
 ·split at hr
  ·cases hr
  ·rename_i hq;obtain ⟨ls,us,hr1,hls,hbuild⟩:=Kl hr hc;clear hr;obtain ⟨hh1,x1⟩:=Fq ls hh;have hls1:=hls.ext x1;obtain ⟨xs,hr3,hxl,_,hxt⟩:=DS (vs:=us) hr1 hh1 (by simpa using hls1.1) (CE hls1);have hul:us.length=xs.length:=by rw [hxl];simpa using hls1.1
   have hargs:∃avs',D3 C.P g (fun i =>.t (xs.getD i default))=some avs'∧AY (fun b=>B b∨Ex κ (AX h ls) b) [] [] w avs' vs:=by
    obtain ⟨avs',ha1,ha2⟩:=hbuild (fun b=>B b∨Ex κ (AX h ls) b) [] [] w (fun i =>.t (xs.getD i default)) 0 (fun j u hu=>by
     have hj:j<xs.length:=by rw [← hul];exact AS hu
     have:=hxt j _ u (Bs xs j default hj) hu;rw [yN];exact .t _ _ (this.less fun b hb=>by
      rcases hb with (hb|hb)|hb
      ·exact .inl hb
      ·exact .inr ⟨rfl,hb⟩
      ·exact (EA hb).elim))
    refine ⟨avs',?_,ha2⟩;unfold D3;unfold Ir at ha1;cases hf:C.P.funcs[g]? with
    |none=>
     have:C7 C.P g (fun _ =>.undef)=none:=by unfold C7;rw [hf]
     exact absurd hf (by
      intro hf;have hn:=hr3;split at hn
      ·try simp only [AB] at hn
       obtain ⟨_,hn⟩:=AD hn;obtain ⟨ys,_,hn⟩:=bind_some hn;have hn:=KK hn;split at hn
       ·simp only [C7,hf] at hn;cases hn
       ·cases hn
      ·obtain ⟨ys,_,hn⟩:=bind_some hn;simp only [Bm,hf] at hn;cases hn)
    |some fn=>rw [hf] at ha1;exact ha1
   split at hr3
   ·rename_i j ho2
    try simp only [AB] at hr3
    obtain ⟨hj64,hr3⟩:=AD hr3;obtain ⟨ys,hy,hr4⟩:=bind_some hr3;have hown:=hpc (FT+(64*g+j)) xs ys hy;obtain ⟨o1,o2,o3,o4⟩:=Wi g j hj64;rw [if_neg o1,if_neg o2,o3,o4] at hown;have hr4:=KK hr4;obtain ⟨avs',ha3,ha2⟩:=hargs;refine (hown (fun b=>B b∨Ex κ (AX h ls) b) w avs' vs n ha3 (fun b hb=>hb.elim (hh1.ltB b) fun ⟨i,base,o,hk,_,_⟩=>hh1.lt i b base hk) ha2).mono ?_
    rintro e w' ⟨v,us2,z,es,u,rfl,hg,hyj,hul2,huj,hnew,hoth,hbld⟩
    rw [hyj] at hr4;simp only at hr4;have hh2:=E3 hh1 hg;have x2:=FP hh1 hg;have key:∀(k:Option (Nat×Nat)),Ap B (κ++[k]) (AX h ls++[.row false 0 z es]) w'→Ext κ h w (κ++[k]) (AX h ls++[.row false 0 z es]) w'→AO B (κ++[k]) (AX h ls++[.row false 0 z es]) w' (.sref (AX h ls).length 0 0 es.length) u→
      (∀b,Ex (κ++[k]) (AX h ls++[.row false 0 z es]) b→Ex κ (AX h ls) b∨Zi u b)→JG B κ h w q K r (.returned v) w':=fun k q1 q2 q3 q4=>by
     obtain ⟨rv,e1,e2⟩:=hbld B (κ++[k]) (AX h ls++[.row false 0 z es]) w' (fun i=>if i=j then .sref (AX h ls).length 0 0 es.length else .t (ys.getD i default)) fun i x hx=>by
      by_cases hij:i=j
      ·subst hij;rw [if_pos rfl];rw [huj] at hx;cases hx;exact q3
      ·rw [if_neg hij];have hi:i<ys.length:=by rw [← hul2];exact AS hx
       refine .t _ _ ((hoth i _ x hij (Bs ys i default hi) hx).less fun b hb => ?_);rcases hb with hb|hb
       ·exact .inl (.inl hb)
       ·rcases q4 b hb with hb|hb
        ·exact .inl (.inr hb)
        ·exact .inr hb
     rw [e1] at hr4;exact ⟨_,_,_,_,rfl,hr4,e2,q1,q2,fun e=>(hq e).elim⟩
    have hnil:es=[]→∀a0,u = .slice a0 0 0→JG B κ h w q K r (.returned v) w':=fun he a0 hu0=>by
     subst he;subst hu0;have x3:Ext κ (AX h ls) w' (κ++[none]) (AX h ls++[.row false 0 z []]) w':=B9 hh2 rfl rfl rfl (yE _) (fun _ _=>rfl) (fun b base e=>by cases e);have hh3:=Bj hh2 (fun _ _=>rfl) x3 (fun b base e=>by cases e) (show HI B (κ++[none]) (AX h ls++[.row false 0 z []]) w' none (.row false 0 z []) from rfl);refine key none hh3 ((x1.trans x2).trans x3) (Cc (by rw [← hh2.len];exact Ao κ _) (Ao _ _)) fun b ⟨i,bs,o,k1,k2,k3⟩=> ?_;rcases Ca κ _ i k1 with ⟨_,k1'⟩|⟨rfl,k1'⟩
     ·have hi:i<(AX h ls).length:=by rw [← hh2.len];exact AS k1'
      rw [zL hi] at k2;exact .inl ⟨i,bs,o,k1',k2,k3⟩
     ·cases k1'
    rcases hnew with ⟨he,a0,hu0⟩|⟨b,base,cap,cells,elem,fr,hu0,h1,h2,h3,h4,h5,hth,h6,h7,h8⟩
    ·exact hnil he a0 hu0
    ·by_cases hcap0:cap=0
     ·exact hnil (zI (by omega)) _ (by rw [hu0,hcap0,show es.length=0 by omega])
     subst hu0;have x3:Ext κ (AX h ls) w (κ++[some (b,base)]) (AX h ls++[.row false 0 z es]) w':=
      B9 hh1 hg.os hg.tape hg.output hg.size hg.block fun b' base' e=>by injection e with e;injection e with e;omega
     have hEx:∀b',Ex (κ++[some (b,base)]) (AX h ls++[.row false 0 z es]) b'→Ex κ (AX h ls) b'∨b'=b:=fun b' ⟨i,bs,o,k1,k2,k3⟩=>by
      rcases Ca κ _ i k1 with ⟨_,k1'⟩|⟨rfl,k1'⟩
      ·have hi:i<(AX h ls).length:=by rw [← hh1.len];exact AS k1'
       rw [zL hi] at k2;exact .inl ⟨i,bs,o,k1',k2,k3⟩
      ·injection k1' with k1';injection k1' with k1';exact .inr k1'
     have hh3:=Bj hh1 hg.block x3 (fun b' base' e=>by injection e with e;injection e with e;subst e;exact ⟨h2,h3⟩)
      (Cd h4 h5 hth (yF (yB (yJ _ h1) _) h6) ⟨h7,fun j e' c x he hx=>(h8 j e' c x he hx).less fun b' hb'=>by
       rcases hb' with hb'|hb'
       ·exact .inl (.inl hb')
       ·rcases hEx b' hb' with hb'|hb'
        ·exact .inl (.inr hb')
        ·exact .inr hb'⟩)
     refine key (some (b,base)) hh3 (x1.trans x3) (CY (by rw [← hh1.len];exact Ao κ _) (Ao _ _) h5 h6 rfl h1) fun b' hb' => ?_;rcases hEx b' hb' with hb'|rfl
     ·exact .inl hb'
     ·exact .inr ⟨_,_,_,rfl,by omega⟩
   obtain ⟨ys,hy,hr4⟩:=bind_some hr3;have hown:=hpc (OWN+g) xs ys hy;split at hr4
   ·rename_i t ht;obtain ⟨z,hz,hr5⟩:=bind_some hr4;obtain ⟨hgO,hr6⟩:=AD hr5;obtain ⟨⟨hyl,hys⟩,hK⟩:=AD hr6;rw [if_neg (not_lt.2 (Nat.le_add_right OWN g)),if_pos (YV hgO),Nat.add_sub_cancel_left] at hown;obtain ⟨avs',ha3,ha2⟩:=hargs;refine (hown (fun b=>B b∨Ex κ (AX h ls) b) w avs' vs n ha3 (fun b hb=>hb.elim (hh1.ltB b) fun ⟨i,base,o,hk,_,_⟩=>hh1.lt i b base hk) ha2).mono ?_
    rintro e w' ⟨v,s,es,rfl,rfl,hg,hnew⟩
    have hes:Cx (([Tree.sl s es]:List Tree).getD 0 default)=es:=rfl;have hsz:s=z:=by have h1:Fh z (Tree.sl s es)=true:=hys;simpa [Fh] using h1
    subst hsz;rw [hes] at hK;have hh2:=E3 hh1 hg;have x2:=FP hh1 hg;unfold Qt at hK;split at hK
    ·rename_i i0 v0 hre;have hre:GU h ls=some (i0,v0):=by
      split at hre
      ·exact hre
      ·cases hre
     split at hK
     ·rename_i honly;obtain ⟨size0,es0,hi0⟩:=Pm hre;obtain ⟨kk,hkk⟩:=CH hh hi0;have hOL:∀L,OLe (.row false v0 size0 es0) (.row false (v0+1) s L):=fun L=>⟨rfl,le_succ _,(fun e=>by simp [AF.ver] at e),(fun e=>by cases e),(fun e=>by cases e),rfl⟩
      have hver:∀L,(AF.row false v0 size0 es0).ver=(AF.row false (v0+1) s L).ver→∀{p:Prop},p:=fun L e=>by simp [AF.ver] at e
      rcases hnew with ⟨rfl,a0,rfl⟩|⟨b,base,cap,cells,elem,fr,rfl,h1,h2,h3,h4,h5,hth,h6,h7,h8⟩
      ·have x3:Ext κ h w (κ.set i0 none) (h.set i0 (.row false (v0+1) s [])) w':=
        DH hh hi0 rfl (hOL []) hkk hg.os hg.tape hg.output hg.size (fun b' hb' _=>hg.block b' hb') (fun b base e=>by cases e) (fun e=>hver [] e)
       have hh3:=CZ hh hi0 hkk (fun b' hb' _=>hg.block b' hb') (fun b base e=>by cases e) x3 (show HI B (κ.set i0 none) (h.set i0 (.row false (v0+1) s [])) w' none (.row false (v0+1) s []) from rfl);exact ⟨_,_,_,_,rfl,hK,Cc (A5 hkk) (A5 hi0),hh3,x3,fun e=>(hq e).elim⟩
      ·have x3:Ext κ h w (κ.set i0 (some (b,base))) (h.set i0 (.row false (v0+1) s es)) w':=
        DH hh hi0 rfl (hOL es) hkk hg.os hg.tape hg.output hg.size (fun b' hb' _=>hg.block b' hb') (fun b' base' e=>by injection e with e;injection e with e;exact .inr (by omega)) (fun e=>hver es e)
       have hh3:=CZ hh hi0 hkk (fun b' hb' _=>hg.block b' hb') (fun b' base' e=>by injection e with e;injection e with e;subst e;exact ⟨.inr h2,h3⟩) x3
        (Cd h4 h5 hth (yF (yB (yJ _ h1) _) h6) ⟨h7,fun j e' c x he hx=>(h8 j e' c x he hx).less fun b' hb'=>by
         rcases hb' with hb'|⟨i,bs,o,k1,k2,k3⟩
         ·exact .inl (.inl hb')
         ·by_cases hii:i=i0
          ·subst hii;rw [A5 hkk] at k1;injection k1 with k1;injection k1 with k1;injection k1 with k1;exact .inr k1.symm
          ·rw [xD (fun e=>hii e.symm)] at k1 k2;exact .inl (.inr ⟨i,bs,o,k1,by rw [II ls h honly i hii];exact k2,k3⟩)⟩)
       exact ⟨_,_,_,_,rfl,hK,CY (A5 hkk) (A5 hi0) h5 h6 rfl h1,hh3,x3,fun e=>(hq e).elim⟩
     ·cases hK
    rcases hnew with ⟨rfl,a0,rfl⟩|⟨b,base,cap,cells,elem,fr,rfl,h1,h2,h3,h4,h5,hth,h6,h7,h8⟩
    ·have x3:Ext κ (AX h ls) w' (κ++[none]) (AX h ls++[.row false 0 s []]) w':=B9 hh2 rfl rfl rfl (yE _) (fun _ _=>rfl) (fun b base e=>by cases e);have hh3:=Bj hh2 (fun _ _=>rfl) x3 (fun b base e=>by cases e) (show HI B (κ++[none]) (AX h ls++[.row false 0 s []]) w' none (.row false 0 s []) from rfl);exact ⟨_,_,_,_,rfl,hK,Cc (by rw [← hh2.len];exact Ao κ _) (Ao _ _),hh3,(x1.trans x2).trans x3,fun e=>(hq e).elim⟩
    ·
     have x3:Ext κ (AX h ls) w (κ++[some (b,base)]) (AX h ls++[.row false 0 s es]) w':=
      B9 hh1 hg.os hg.tape hg.output hg.size hg.block fun b' base' e=>by injection e with e;injection e with e;omega
     have hh3:=Bj hh1 hg.block x3 (fun b' base' e=>by injection e with e;injection e with e;subst e;exact ⟨h2,h3⟩)
      (Cd h4 h5 hth (yF (yB (yJ _ h1) _) h6) ⟨h7,fun j e' c x he hx=>(h8 j e' c x he hx).less fun b' hb'=>by
       rcases hb' with hb'|⟨i,bs,o,k1,k2,k3⟩
       ·exact .inl (.inl hb')
       ·rcases Ca κ _ i k1 with ⟨_,k1'⟩|⟨rfl,k1'⟩
        ·have hi:i<(AX h ls).length:=by rw [← hh1.len];exact AS k1'
         rw [zL hi] at k2;exact .inl (.inr ⟨i,bs,o,k1',k2,k3⟩)
        ·injection k1' with k1';injection k1' with k1';exact .inr k1'⟩)
     exact ⟨_,_,_,_,rfl,hK,CY (by rw [← hh1.len];exact Ao κ _) (Ao _ _) h5 h6 rfl h1,hh3,x1.trans x3,fun e=>(hq e).elim⟩
   ·cases hr4
 split at hr
 ·split at hr
  ·cases hr
  ·rename_i hq;split at hr
   ·rename_i p hp;refine (ZQ (C.primOk g p hp) hr hh hc n).mono ?_
    rintro e w' ⟨val,v,h',κ',rfl,hK,y1,y2,y3⟩
    exact ⟨val,v,h',κ',rfl,hK,y1,y2,y3,fun e=>(hq e).elim⟩
   split at hr
   ·unfold join at hr;have hcall:=hrec _ _ _ _ _ hr;refine (hcall B κ w vs n hh hc).mono ?_
    rintro e w' ⟨v,rv,κ',rs,h1,rfl,hK,hm,hv,hh',x⟩
    simp only at hK;obtain ⟨hsh,hK⟩:=AD hK;obtain ⟨hs,hK2,hun,hbe⟩:=WA hK (P6 x);have hrl:Hz C.P rs (Bm C.P g) 0=rs:=MI [] hsh;simp only [hrl,hm,hun] at hK2;exact ⟨v,rv,_,κ'.take h.length,rfl,hK2,hv.Ec (Np (fun i=>R4 hsh i _) hm),hh'.Ec hbe,x.Ec (yE _),fun e=>(hq e).elim⟩
   have hcall:=hrec _ _ _ _ _ hr;refine (hcall B κ w vs n hh hc).mono ?_
   rintro e w' ⟨v,rv,κ',rs,h1,rfl,hK,hm,hv,hh',x⟩
   simp only [hm] at hK;obtain ⟨κ2,y1,y2,y3⟩:=VI (m:=h.length) hh' x (yE _) (fun hl=>Np hl hm) hv;exact ⟨v,rv,_,κ2,rfl,hK,y1,y2,y3,fun e=>(hq e).elim⟩
 ·obtain ⟨ls,us,hr1,hls,hbuild⟩:=Kl hr hc;clear hr;obtain ⟨h1,hh1,x1,hqq,hr2⟩:∃h1,Ap B κ h1 w∧Ext κ h w κ h1 w∧(q=true→h1=h)∧(EF C.P (!Co C.P g) h1 (KR C.P g) ls fun xs=>if g<OWN then ((pc g xs).bind fun ys=>KL C.P (Bm C.P g) ys fun ys=>
    match C7 C.P g (fun i =>.t (ys.getD i default)) with
    |some v=>K v h1
    |none=>none) else none)=some r:=by
   by_cases hb:(q||Co C.P g)=true
   ·exact ⟨h,hh,Ext.refl _ _ _,fun _=>rfl,by simp only [hb,if_true] at hr1;exact hr1⟩
   ·have hb':(q||Co C.P g)=false:=by simpa using hb
    obtain ⟨hh1,x1⟩:=Fq ls hh;refine ⟨AX h ls,hh1,x1,fun e => ?_,by simp only [hb',zF,if_false] at hr1;exact hr1⟩;rw [e] at hb';cases hb'
  clear hr1;have hls1:=hls.ext x1;obtain ⟨xs,hr3,hxl,_,hxt⟩:=DS (vs:=us) hr2 hh1 (by simpa using hls1.1) (CE hls1);clear hr2;obtain ⟨hgo,hr3⟩:=AD hr3;obtain ⟨ys,hy,hr4⟩:=bind_some hr3;clear hr3;have hr4:=KK hr4;split at hr4
  ·rename_i v hm;have hpure:=hpc g xs ys hy;rw [if_pos hgo] at hpure;have hfn:∃fn,C.P.funcs[g]? = some fn:=by
    unfold C7 at hm;split at hm
    ·rename_i fn hf;exact ⟨fn,hf⟩
    ·cases hm
   obtain ⟨fn,hf⟩:=hfn;have hul:us.length=xs.length:=by rw [hxl];simpa using hls1.1
   have hleaf:∀(Bc:Nat→Prop),(∀b,Bc b→B b∨((!Co C.P g)=true∧Ex κ h1 b))→∀j u,us[j]? = some u→AO Bc [] [] w (.t (xs.getD (0+j) default)) u:=by
    intro Bc hBc j u hu;have hj:j<xs.length:=by rw [← hul];exact AS hu
    have:=hxt j _ u (Bs xs j default hj) hu;rw [yN];exact .t _ _ (this.less fun b hb=>hb.elim (hBc b) fun e=>(EA e).elim)
   by_cases hscal:Co C.P g=true
   ·obtain ⟨avs',ha1,ha2⟩:=hbuild (fun _=>False) [] [] w (fun i =>.t (xs.getD i default)) 0 (fun j u hu=>hleaf (fun _=>False) (fun b hb=>hb.elim) j u hu);have ha3:D3 C.P g (fun i =>.t (xs.getD i default))=some avs':=by unfold D3;unfold Ir at ha1;rw [hf] at ha1 ⊢;exact ha1
    refine (hpure (fun _=>False) w avs' vs n ha3 (fun b hb=>hb.elim) ha2).mono ?_
    rintro e w' ⟨val,rv,rfl,hm',hv,hg,hsc⟩
    rw [hm] at hm';cases hm';have hsy:=hsc hscal;refine ⟨val,v,h1,κ,rfl,hr4,IB hm (fun i u ht=>T1 (R5 hsy i) ht) hv,E3 hh1 hg,x1.trans (FP hh1 hg),fun e=>⟨hqq e,rfl⟩⟩
   ·have hns:(!Co C.P g)=true:=by simpa using hscal
    obtain ⟨avs',ha1,ha2⟩:=hbuild (fun b=>B b∨Ex κ h1 b) [] [] w (fun i =>.t (xs.getD i default)) 0 (fun j u hu=>hleaf _ (fun b hb=>hb.imp id fun e=>⟨hns,e⟩) j u hu);have ha3:D3 C.P g (fun i =>.t (xs.getD i default))=some avs':=by unfold D3;unfold Ir at ha1;rw [hf] at ha1 ⊢;exact ha1
    refine (hpure (fun b=>B b∨Ex κ h1 b) w avs' vs n ha3 (fun b hb=>hb.elim (hh1.ltB b) fun ⟨i,base,o,hk,_,_⟩=>hh1.lt i b base hk) ha2).mono ?_
    rintro e w' ⟨val,rv,rfl,hm',hv,hg,hsc⟩
    rw [hm] at hm';cases hm';exact ⟨val,v,h1,κ,rfl,hr4,IB hm (fun i u ht=>ht.less fun b hb =>.inl hb) hv,E3 hh1 hg,x1.trans (FP hh1 hg),fun e=>⟨hqq e,rfl⟩⟩
  ·cases hr4
end Ab
namespace Ab
open Go
variable {R:Type} {P:Program} {B:Nat→Prop} {κ:BG} {h:Heap} {w:World} {N:Nat} {env:Env} {a:Act}
theorem G0 {g:FuncId} (he:enters P g=true) (vs:Array Value):(callFunc g vs).run P w = .ok (.enter g vs) w:=by
 unfold enters at he;split at he
 ·rename_i fn hf;simp only [zE,yS] at he;obtain ⟨hb,hn⟩:=he;have hb':fn.body.isNone=false:=by cases h:fn.body<;>simp_all
  simp only [callFunc,Sem.run_bind,run_program,Result.andThen_ok,hf,hn,hb',zF,if_false,Sem.run_pure]
 ·cases he
theorem EL {xs ys:List AV} {us vs:Array Value} (h1:AY B κ h w xs us) (h2:AY B κ h w ys vs):AY B κ h w (xs++ys) (us++vs):=by
 obtain ⟨us⟩:=us;obtain ⟨vs⟩:=vs;have e1:us.length=xs.length:=by simpa using h1.1
 have e2:vs.length=ys.length:=by simpa using h2.1
 have eu:({toList:=us}:Array Value)=us.toArray:=rfl;have ev:({toList:=vs}:Array Value)=vs.toArray:=rfl;rw [eu,ev] at *;have e3:us.toArray++vs.toArray=(us++vs).toArray:=by simp
 rw [e3];refine ⟨by simp [e1,e2],fun j y hy => ?_⟩;rw [Bt];rcases yH j xs.length with hj|hj
 ·rw [zL hj] at hy;have:=h1.2 j y hy;rw [Bt] at this;simp only [List.getD] at this ⊢;rw [zL (by omega)];exact this
 ·rw [zM hj] at hy;have:=h2.2 _ y hy;rw [Bt] at this;simp only [List.getD] at this ⊢;rw [zM (by omega),e1];exact this
def Zh (B:Nat→Prop) (κ:BG) (h:Heap) (w:World) (q:Bool) (K:AV→Heap→Option R) (r:R) (o:Oper) (a:Act) (next:Act→World→Prop):Prop:=
 ∀v h' κ' val w',K v h'=some r→AO B κ' h' w' v val→Ap B κ' h' w'→Ext κ h w κ' h' w'→(q=true→h'=h∧κ'=κ)→next (a.put o.dst val) w'
theorem Og {q:Bool} {K:AV→Heap→Option R} {r:R} {o:Oper} {next:Act→World→Prop} {Q:Exit→Act→World→Prop} (hn:Zh B κ h w q K r o a next) {e:Ending} {w':World} (ha:JG B κ h w q K r e w') :
  (match e,w' with
   | .returned v,w''=>next (a.put o.dst v) w''
   | .panicked chain,w''=>Q (.panic chain) a w''
   | .outgrown,_=>LetsOut Q):=by
 obtain ⟨val,v,h',κ',rfl,h1,h2,h3,h4,h5⟩:=ha;exact hn v h' κ' val w' h1 h2 h3 h4 h5
theorem XH {C:Cfg} {rec:Rec} {pc:BX} (hrec:EY C.P rec) (hpc:Cg C.P pc) {q:Bool} {f:AV} {args:List AV} {K:AV→Heap→Option R} {r:R} (hr:OS C rec pc q f args h K=some r) (hh:Ap B κ h w)
  {fv:Value} (hf:AO B κ h w f fv) {vs:Array Value} (hc:AY B κ h w args vs) (o:Oper) (next:Act→World→Prop) (Q:Exit→Act→World→Prop) (n:Nat) (ro:Option Nat) (hn:Zh B κ h w q K r o a next) :
  o.uponIn (Fr ro) n C.P a next Q ((do let d ← Deferred.ofValue fv vs;invoke d.target d.args:Sem Next).run C.P w):=by
 unfold OS at hr
 try simp only [AB] at hr
 split at hr
 ·rename_i g first captured
  obtain ⟨hent,hr1⟩:=AD hr;cases hf with
  |func _ _ _ fs cs h1 h2 h3 h4=>
   have hc2:AY B κ h w (first++args++captured) (fs++vs++cs):=EL (EL ⟨h1,h3⟩ hc) ⟨h2,h4⟩;have hcall:=Sz hrec hpc hr1 hh hc2 (n-1);have hrun:(do let d ← Deferred.ofValue (.func (.func g) fs cs) vs;invoke d.target d.args:Sem Next).run C.P w = .ok (.enter g (fs++vs++cs)) w:=by simp [Deferred.ofValue,invoke,G0 hent]
   rw [hrun,Oper.uponIn_enter];refine ⟨fun e=>by simp [Fr] at e,(CallsIn.fr hcall).mono fun e w' ha => ?_⟩;have:=Og (Q:=Q) hn ha;cases e<;>exact this
 ·rename_i g;obtain ⟨hent,hr1⟩:=AD hr;cases hf with
  |t _ _ ht=>
   cases ht with
   |const _ _=>
    have hcall:=Sz hrec hpc hr1 hh hc (n-1);have hrun:(do let d ← Deferred.ofValue (.func (.func g) ⟨[]⟩ ⟨[]⟩) vs;invoke d.target d.args:Sem Next).run C.P w = .ok (.enter g vs) w:=by
     have e1:(⟨[]⟩:Array Value)++vs=vs:=by simp
     have e2:vs++(⟨[]⟩:Array Value)=vs:=by simp
     simp [Deferred.ofValue,invoke,e1,e2,G0 hent]
    rw [hrun,Oper.uponIn_enter];refine ⟨fun e=>by simp [Fr] at e,(CallsIn.fr hcall).mono fun e w' ha => ?_⟩;have:=Og (Q:=Q) hn ha;cases e<;>exact this
 ·rename_i i;split at hr
  ·cases hr
  ·rename_i hq;have hy:=hrec _ _ _ _ _ hr;cases hf with
   |yld _ b base hk hb=>
    obtain ⟨f,tmps,assign,body,hrun,hround⟩:=hy B κ w vs b base (n-1) hh hc hk;have hrun2:(do let d ← Deferred.ofValue (.func (.yield b) #[] #[]) vs;invoke d.target d.args:Sem Next).run C.P w = .ok (.round b f tmps assign body) w:=by simp [Deferred.ofValue,invoke,hrun]
    rw [hrun2,Oper.uponIn_round];refine ⟨fun e=>by simp [Fr] at e,(RoundIn.fr hround).mono ?_⟩
    rintro e w' ⟨v,κ',rs,h1,rfl,hK,hv,hh',x⟩
    obtain ⟨κ2,y1,y2,y3⟩:=VI (m:=h.length) (rs:=[rs.getD 0 .undef]) hh' x (yE _) (fun hl=>hl 0) hv;exact hn _ _ _ v w' hK y1 y2 y3 (fun e=>(hq e).elim)
 ·cases hr
theorem KD {C:Cfg} {rec:Rec} {pc:BX} (hrec:EY C.P rec) (hpc:Cg C.P pc) {q:Bool} {K:AV→Heap→Option R} {r:R} (o:Oper) (hs:Ae C rec pc q env h o.op K=some r) (hr:Rel B N κ env h a w)
  (next:Act→World→Prop) (Q:Exit→Act→World→Prop) (n:Nat) (ro:Option Nat) (hn:Zh B κ h w q K r o a next):o.wpIn (Fr ro) n C.P a w next Q:=by
 refine ⟨fun _ _=>trivial,?_⟩;have hnd:∀c,o.op ≠ .defer c:=fun c e=>by rw [e] at hs;simp [Ae,BC,qop] at hs
 rw [Oper.semAt_eq _ _ _ hnd];unfold Ae at hs
 try simp only [AB] at hs
 split at hs
 ·split at hs
  ·cases hs
  ·rename_i hq;split at hs
   ·rename_i t x himm;have hop:o.op = .box t x:=by cases hop:o.op<;>rw [hop] at himm<;>simp only [CQ] at himm<;>first|(cases himm;done)|(split at himm<;>first|(cases himm;rfl)|(cases himm;done)|(split at himm<;>first|(cases himm;rfl)|cases himm))
    obtain ⟨v,κ',val,w',h1,h2,h3,h4,h5⟩:=XI hs hr o hop;rw [h2,Oper.uponIn_value];exact hn v h κ' val w' h1 h3 h4 h5 fun e=>(hq e).elim
   ·rename_i t himm;have hop:o.op = .alloc t:=by cases hop:o.op<;>rw [hop] at himm<;>simp only [CQ] at himm<;>first|(cases himm;done)|(split at himm<;>first|(cases himm;rfl)|(cases himm;done)|(split at himm<;>first|(cases himm;rfl)|cases himm))
    obtain ⟨v,h',κ',val,w',h1,h2,h3,h4,h5⟩:=TW hs hr o hop;rw [h2,Oper.uponIn_value];exact hn v h' κ' val w' h1 h3 h4 h5 fun e=>(hq e).elim
   ·rename_i t d himm;have hop:o.op = .alloc t:=by cases hop:o.op<;>rw [hop] at himm<;>simp only [CQ] at himm<;>first|cases himm|(split at himm<;>first|(cases himm;rfl)|(cases himm;done)|(split at himm<;>first|(cases himm;rfl)|cases himm))
    obtain ⟨v,h',κ',val,w',h1,h2,h3,h4,h5⟩:=TV hs hr o hop;rw [h2,Oper.uponIn_value];exact hn v h' κ' val w' h1 h3 h4 h5 fun e=>(hq e).elim
   ·rename_i t p x himm;have hop:o.op = .store t p x:=by cases hop:o.op<;>rw [hop] at himm<;>simp only [CQ] at himm<;>first|(cases himm;done)|(split at himm<;>first|(cases himm;rfl)|(cases himm;done)|(split at himm<;>first|(cases himm;rfl)|cases himm))
    obtain ⟨h',κ',w',h1,h2,h3,h4⟩:=QT (P:=C.P) hs hr.heap (BR hr _) (BR hr _);obtain ⟨f1,f2⟩:=OD h3 (Mn (ev env p));have e2:(execOp a.eval o).run C.P w = .ok .skip w':=by unfold execOp;rw [hop];simp [h2]
    rw [e2,Oper.uponIn_skip];exact hn _ _ κ' undef w' h1 (.undef _) f1 (h4.trans f2) fun e=>(hq e).elim
   ·obtain ⟨v,h',κ',val,w',h1,h2,h3,h4,h5⟩:=hop_ok hs hr o rfl;rcases h2 with h2|⟨h2,rfl⟩
    ·rw [h2,Oper.uponIn_value];exact hn v h' κ' val w' h1 h3 h4 h5 fun e=>(hq e).elim
    ·rw [h2,Oper.uponIn_skip];exact hn v h' κ' undef w' h1 h3 h4 h5 fun e=>(hq e).elim
 ·split at hs
  ·rename_i f args argTypes ho;have hx:=XH hrec hpc hs hr.heap (BR hr f) (Jm hr args) o next Q n ro hn;have he:(execOp a.eval o).run C.P w=(do let d ← Deferred.ofValue (a.eval f) (args.map a.eval);invoke d.target d.args:Sem Next).run C.P w:=by unfold execOp;rw [ho];simp [resolve]
   rw [he];exact hx
  ·rename_i src dst x ho;split at hs
   ·rename_i hb;split at hs
    ·cases hs
    ·rename_i hq;obtain ⟨v,h',κ',val,w',h1,h2,h3,h4,h5⟩:=Yc hb hs hr o ho;rw [h2,Oper.uponIn_value];exact hn v h' κ' val w' h1 h3 h4 h5 fun e=>(hq e).elim
   ·obtain ⟨v,val,w',h1,h2,h3,h4,h5⟩:=UA hs hr o ho;rw [h2,Oper.uponIn_value];exact hn v h κ val w' h1 h3 h4 h5 fun _=>⟨rfl,rfl⟩
  ·rename_i t len parts ho;split at hs
   ·split at hs
    ·cases hs
    ·rename_i hq;obtain ⟨v,h',κ',val,w',h1,h2,h3,h4,h5⟩:=TK hs hr o ho;rw [h2,Oper.uponIn_value];exact hn v h' κ' val w' h1 h3 h4 h5 fun e=>(hq e).elim
   ·obtain ⟨v,val,w',h1,h2,h3,h4,h5⟩:=UA hs hr o ho;rw [h2,Oper.uponIn_value];exact hn v h κ val w' h1 h3 h4 h5 fun _=>⟨rfl,rfl⟩
  ·obtain ⟨v,val,w',h1,h2,h3,h4,h5⟩:=UA hs hr o rfl;rw [h2,Oper.uponIn_value];exact hn v h κ val w' h1 h3 h4 h5 fun _=>⟨rfl,rfl⟩
theorem SI {env:Env} {d:Tmp} {v:AV} (hv:env d=v):env.put (some d) v=env:=by
 funext i;simp only [Env.put];split
 ·rename_i e;rw [e,hv]
 ·rfl
theorem Fm (hr:Rel B N κ env h a w) {κ':BG} {h':Heap} {w':World} (hh:Ap B κ' h' w') (x:Ext κ h w κ' h' w') {v:AV} {val:Value} (hv:AO B κ' h' w' v val) (o:Oper) (hd:Kw N o=true) :
  Rel B N κ' (env.put o.dst v) h' (a.put o.dst val) w':=by
 refine ⟨hh,?_,fun i => ?_⟩
 ·cases hdst:o.dst with
  |none=>exact hr.size
  |some d=>simpa [Act.put] using hr.size
 ·cases hdst:o.dst with
  |none=>exact (hr.slot i).ext x
  |some d=>
   have hdl:d<N:=by simpa [Kw,hdst] using hd
   have hdt:d<a.tmps.size:=by rw [hr.size];exact hdl
   simp only [Env.put,Act.put];by_cases hi:i=d
   ·subst hi;rw [if_pos rfl];have:(a.tmps.setIfInBounds i val).getD i undef=val:=by simp [Array.getD,hdt]
    rw [this];exact hv
   ·rw [if_neg hi];have:(a.tmps.setIfInBounds d val).getD i undef=a.tmps.getD i undef:=by
     by_cases h1:i<a.tmps.size
     ·simp [Array.getD,h1,Ne.symm hi]
     ·simp [Array.getD,h1]
    rw [this];exact (hr.slot i).ext x
theorem getD_some {arr:Array Value} {d:Nat} {v:Value} (hd:arr.getD d undef=v) (hne:v≠undef):arr[d]? = some v:=by
 by_cases h1:d<arr.size
 ·simp only [Array.getD,h1,dif_pos] at hd;rw [Array.getElem?_eq_getElem h1];exact congrArg some hd
 ·simp only [Array.getD,h1,dif_neg,not_false_eq_true] at hd;exact (hne hd.symm).elim
theorem IH {ops:Array Oper} {o:Oper} {K1 K0:Env→Option R} {r:R} (hg:GY ops o env K1 K0=some r) (hr:Rel B N κ env h a w) :
  (Region.wanted o (yielded ops a.tmps)=true∧K1 env=some r)∨(Region.wanted o (yielded ops a.tmps)=false∧K0 env=some r):=by
 unfold GY at hg
 try simp only [AB] at hg
 unfold Region.wanted;split at hg
 ·rename_i hgd;rw [hgd];exact .inl ⟨rfl,hg⟩
 ·rename_i j want hgd;rw [hgd];simp only;split at hg
  ·rename_i d hd;split at hg
   ·rename_i b hb;have hv:=hr.slot d;rw [hb] at hv;have hval:a.tmps.getD d undef = .bool b:=by
     generalize a.tmps.getD d undef=u at hv;cases hv with
     |t _ _ ht=>cases ht;rfl
    have hy:yielded ops a.tmps j=some b:=by unfold yielded;rw [hd];simp only [Option.bind_some];rw [getD_some hval (by simp [undef])]
    rw [hy];cases b<;>cases want<;>simp only [zF,if_false,if_true] at hg<;>rw [SI hb] at hg
    ·exact .inl ⟨rfl,hg⟩
    ·exact .inr ⟨rfl,hg⟩
    ·exact .inr ⟨rfl,hg⟩
    ·exact .inl ⟨rfl,hg⟩
   ·rename_i hb;have hv:=hr.slot d;rw [hb] at hv;have hval:a.tmps.getD d undef = .tuple #[]:=by
     generalize a.tmps.getD d undef=u at hv;cases hv with
     |tuple _ vs hs _=>rw [zA hs]
    have hy:yielded ops a.tmps j=none:=by
     unfold yielded;rw [hd];simp only [Option.bind_some];by_cases h1:d<a.tmps.size
     ·simp only [Array.getD,h1,dif_pos] at hval;rw [Array.getElem?_eq_getElem h1];have:a.tmps[d]= .tuple #[]:=hval;rw [this]
     ·rw [Array.getElem?_eq_none (Nat.le_of_not_lt h1)]
    rw [hy];exact .inr ⟨rfl,hg⟩
   ·cases hg
  ·cases hg
def LD (B:Nat→Prop) (N:Nat) (κ:BG) (h:Heap) (w:World) (q:Bool) (os:List Oper) (env:Env) (a:Act) (K:Env→Heap→Option R) (r:R) (next:Act→World→Prop):Prop:=
 ∀env' h' κ' a' w',K env' h'=some r→Rel B N κ' env' h' a' w'→Ext κ h w κ' h' w'→(∀i,i∉os.filterMap (·.dst)→env' i=env i)→a'.defers=a.defers→(q=true→h'=h∧κ'=κ)→next a' w'
theorem I8 {C:Cfg} {rec:Rec} {pc:BX} (hrec:EY C.P rec) (hpc:Cg C.P pc) {q:Bool} (ops:Array Oper) (Q:Exit→Act→World→Prop) (n:Nat) (ro:Option Nat) (rest:List Nat) :
  ∀(os:List Oper) (l:List Nat) {K:Env→Heap→Option R} {r:R} {env:Env} {h:Heap} {κ:BG} {a:Act} {w:World},l.length=os.length→(∀(j i:Nat) (o:Oper),l[j]? = some i→os[j]? = some o→ops[i]? = some o)→
   En C rec pc N q ops os env h K=some r→Rel B N κ env h a w→LD B N κ h w q os env a K r (wpOpsIn (Fr ro) n C.P ops Q rest)→wpOpsIn (Fr ro) n C.P ops Q (l++rest) a w
 |[],l,K,r,env,h,κ,a,w,hl,hi,hk,hr,hn=>by obtain rfl:l=[]:=zI (by simpa using hl);exact hn env h κ a w hk hr (Ext.refl _ _ _) (fun _ _=>rfl) rfl fun _=>⟨rfl,rfl⟩
 |o::os,l,K,r,env,h,κ,a,w,hl,hi,hk,hr,hn=>by
  cases l with
  |nil=>simp at hl
  |cons i l=>
   simp only [En,AB] at hk;obtain ⟨hd,hk⟩:=AD hk;have ho:=hi 0 i o rfl rfl;have hi':∀(j i:Nat) (o:Oper),l[j]? = some i→os[j]? = some o→ops[i]? = some o:=fun j i o h1 h2=>hi (j+1) i o (by simpa using h1) (by simpa using h2);simp only [yY,wpOpsIn,ho];have hput:∀(v:AV) (i:Tmp),i∉(o::os).filterMap (·.dst)→(env.put o.dst v) i=env i:=fun v i hni=>by
    cases hdst:o.dst with
    |none=>rfl
    |some d=>
     simp only [Env.put];rw [if_neg fun e=>hni (by simp [hdst,e])]
   have hpd:∀val,(a.put o.dst val).defers=a.defers:=fun val=>by cases o.dst<;>rfl
   have hsub:∀i,i∉(o::os).filterMap (·.dst)→i∉os.filterMap (·.dst):=fun i hni hm=>hni (by
    simp only [yZ];split
    ·exact hm
    ·exact xM _ hm)
   rcases IH hk hr with ⟨hw,hk1⟩|⟨hw,hk1⟩
   ·simp only [hw,if_true];refine KD hrec hpc o hk1 hr _ Q n ro fun v h' κ' val w' h1 h2 h3 h4 h5 => ?_;refine I8 hrec hpc ops Q n ro rest os l (by simpa using hl) hi' h1 (Fm hr h3 h4 h2 o hd) fun env2 h2 κ2 a2 w2 k1 k2 k3 k4 k5 k6 => ?_;exact hn env2 h2 κ2 a2 w2 k1 k2 (h4.trans k3) (fun i hni=>(k4 i (hsub i hni)).trans (hput v i hni)) (k5.trans (hpd _)) fun e=>by obtain ⟨e1,e2⟩:=h5 e;obtain ⟨e3,e4⟩:=k6 e;exact ⟨e3.trans e1,e4.trans e2⟩
   ·simp only [hw,zF,if_false];refine ⟨fun _ _=>trivial,?_⟩;refine I8 hrec hpc ops Q n ro rest os l (by simpa using hl) hi' hk1 (Fm hr hr.heap (Ext.refl _ _ _) (.tuple _ _ rfl fun j x hx=>by simp at hx) o hd) fun env2 h2 κ2 a2 w2 k1 k2 k3 k4 k5 k6 => ?_;exact hn env2 h2 κ2 a2 w2 k1 k2 k3 (fun i hni=>(k4 i (hsub i hni)).trans (hput _ i hni)) (k5.trans (hpd _)) k6
end Ab
namespace Ab
open Go
def Det {α:Type} (f:∀R:Type,(α→Option R)→Option R):Prop:=(∃v,∀R K,f R K=K v)∨∀R K,f R K=none
theorem Det.none {α:Type}:Det (α:=α) (fun _ _=>Option.none):=.inr fun _ _=>rfl
theorem Det.val {α:Type} (v:α):Det (fun _ K=>K v):=.inl ⟨v,fun _ _=>rfl⟩
theorem Det.bind {α β:Type} (x:Option β) {f:β→∀R:Type,(α→Option R)→Option R} (hf:∀b,Det (f b)):Det (fun R K=>x.bind fun b=>f b R K):=by
 cases x with
 |none=>exact .none
 |some b=>exact hf b
theorem Det.ite {α:Type} {c:Prop} [Decidable c] {f:∀R:Type,(α→Option R)→Option R} (hf:Det f):Det (fun R K=>if c then f R K else Option.none):=by
 by_cases hc:c
 ·simp only [if_pos hc];exact hf
 ·simp only [if_neg hc];exact .none
theorem Det.Wv {α:Type} {c:Prop} [Decidable c] {f g:∀R:Type,(α→Option R)→Option R} (hf:Det f) (hg:Det g):Det (fun R K=>if c then f R K else g R K):=by
 by_cases hc:c
 ·simp only [if_pos hc];exact hf
 ·simp only [if_neg hc];exact hg
theorem Det.comp {α β:Type} {f:∀R:Type,(β→Option R)→Option R} (hf:Det f) {g:β→∀R:Type,(α→Option R)→Option R} (hg:∀b,Det (g b)):Det (fun R K=>f R fun b=>g b R K):=by
 rcases hf with ⟨v,hv⟩|hn
 ·simp only [hv];exact hg v
 ·simp only [hn];exact .none
variable {P:Program} {h:Heap}
theorem Uc (t:TypeId) (total:Nat) (get:Nat→AV) (off:Nat):Det (fun R K=>rd (R:=R) P t total get off K):=by
 unfold rd
 try simp only [AB]
 cases BF P t with
 |none=>exact .none
 |some b=>
  cases b with
  |false=>exact .ite (.val _)
  |true=>
   cases B6 P t with
   |none=>exact .none
   |some n=>exact .ite (.val _)
theorem W9 (t:TypeId) (a:AV):Det (fun R K=>JU (R:=R) P t h a K):=by
 unfold JU
 try simp only [AB]
 cases a with
 |ptr i off=>
  dsimp only;cases h[i]? with
  |none=>exact .none
  |some o=>cases o with
   |box cs=>exact Uc _ _ _ _
   |_=>exact .none
 |rptr i ver k off=>
  dsimp only;cases h[i]? with
  |none=>exact .none
  |some o=>cases o with
   |row f v s es=>exact .ite (.bind _ fun e=>Uc _ _ _ _)
   |_=>exact .none
 |eptr s c o=>exact Uc _ _ _ _
 |_=>exact .none
theorem ZC (fz:Bool) (ty:TypeId) (v:AV):Det (fun R K=>conv (R:=R) P fz h ty v K):=by
 unfold conv
 try simp only [AB]
 cases v with
 |t x=>exact .val _
 |nilsl=>exact .bind _ fun s =>.val _
 |sref i ver off len=>
  dsimp only;cases h[i]? with
  |none=>exact .none
  |some o=>cases o with
   |row f v s es=>exact .bind _ fun s =>.ite (.val _)
   |_=>exact .none
 |func fn a b=>
  cases a with
  |nil=>cases b with
   |nil=>exact .val _
   |cons x xs=>exact .none
  |cons x xs=>exact .none
 |_=>exact .none
theorem Cr (fz:Bool):∀(ts:List TypeId) (vs:List AV),Det (fun R K=>EF (R:=R) P fz h ts vs K)
 |[],[]=>.val _
 |[],_::_ =>.none
 |_::_,[]=>.none
 |t::ts,v::vs =>.comp (ZC fz t v) fun x =>.comp (Cr fz ts vs) fun xs =>.val _
theorem Ul (op:BinOp) (k:IntKind) (a b:Int):Det (fun R K=>Ol (R:=R) op k a b K):=by
 unfold Ol
 try simp only [AB]
 cases op<;>first|exact .val _|exact .none|skip
 ·by_cases hb:b=0
  ·simp only [if_pos hb];exact .none
  ·simp only [if_neg hb];exact .val _
 ·by_cases hb:b=0
  ·simp only [if_pos hb];exact .none
  ·simp only [if_neg hb];exact .val _
theorem Ue (op:BinOp) (k:IntKind) (a b:Int):Det (fun R K=>OX (R:=R) op k a b K):=by
 unfold OX
 try simp only [AB]
 by_cases hb:b<0
 ·simp only [if_pos hb];cases op<;>exact .none
 ·simp only [if_neg hb];cases op<;>first|exact .val _|exact .none
theorem S4:∀(d:Nat) (t:TypeId) (gx gy:Nat→AV) (off:Nat),Det (fun R K=>PL (R:=R) P d t gx gy off K)
 |0,t,gx,gy,off =>.none
 |d+1,t,gx,gy,off=>by
  unfold PL
  try simp only [AB]
  cases hu:P.underlying t with
  |none=>exact .none
  |some ty=>
   cases ty with
   |int k=>exact .bind _ fun a =>.bind _ fun b =>.val _
   |bool=>exact .bind _ fun a =>.bind _ fun b =>.val _
   |string=>exact .bind _ fun a =>.bind _ fun b =>.val _
   |struct fs=>
    cases hs:B6 P t with
    |none=>exact .none
    |some n=>
     refine .ite ?_;have key:∀(l:List Field) (acc:Bool),Det (fun R (K:Bool→Option R)=>l.foldr (fun f (K':Bool→Option R) (acc:Bool)=>
       match B6 P f.type with
       | some m => if f.name ≠ "_" ∧ f.offset + m ≤ n ∧ (BF P f.type = some true ∨ BF P f.type = some false ∧ m = 1) then PL P d f.type gx gy (off + f.offset) fun b => K' (acc && b) else none
       |none=>none) K acc):=by
      intro l
      induction l with
      |nil=>intro acc;exact .val _
      |cons f l ih=>
       intro acc;simp only [List.foldr_cons];cases B6 P f.type with
       |none=>exact .none
       |some m=>exact .ite (.comp (S4 d _ _ _ _) fun b=>ih _)
     exact key fs.toList true
   |_=>exact .none
theorem ZE (op:BinOp) (t:TypeId) (x y:AV):Det (fun R K=>Za (R:=R) P op t x y K):=by
 unfold Za
 try simp only [AB]
 cases hu:P.underlying t with
 |none=>exact .none
 |some ty=>
  cases ty with
  |int k=>
   by_cases hs:Vm op=true
   ·simp only [hs,if_true];exact .bind _ fun a =>.bind _ fun b=>Ue _ _ _ _
   ·simp only [hs,zF,if_false];exact .bind _ fun a =>.bind _ fun b=>Ul _ _ _ _
  |bool=>exact .bind _ fun a =>.bind _ fun b=>by cases op<;>first|exact .val _|exact .none
  |string=>exact .bind _ fun a =>.bind _ fun b=>by cases op<;>first|exact .val _|exact .ite (.val _)|exact .none
  |struct fs=>
   cases x with
   |agg xs=>
    cases y with
    |agg ys=>
     cases B6 P t with
     |none=>exact .none
     |some n=>exact .ite (by cases op<;>first|exact .comp (S4 _ _ _ _ _) (fun b =>.val _)|exact .none)
    |_=>exact .none
   |_=>exact .none
  |_=>exact .none
theorem det_aun (op:UnOp) (x:AV):Det (fun R K=>aun (R:=R) op x K):=by
 unfold aun;cases op with
 |not=>exact .bind _ fun b =>.val _
 |neg=>cases x with
  |t y=>cases y<;>first|exact .val _|exact .none
  |_=>exact .none
 |_=>exact .none
theorem MU (mx:Bool):∀(l:List AV) (a:Int),Det (fun R K=>K7.go (R:=R) mx a l K)
 |[],a =>.val _
 |y::l,a =>.bind _ fun b=>MU mx l _
theorem W7 (mx:Bool) (l:List AV):Det (fun R K=>K7 (R:=R) mx l K):=by
 cases l with
 |nil=>exact .none
 |cons x l=>exact .bind _ fun a=>MU mx l a
theorem Uh (t:TypeId) (a:AV) (f:Nat):Det (fun R K=>Ju (R:=R) P t h a f K):=by
 unfold Ju
 try simp only [AB]
 refine .bind _ fun o => ?_;cases a with
 |ptr i off=>exact .val _
 |eptr s c o=>exact .val _
 |rptr i v k o=>exact .bind _ fun ob =>.ite (.val _)
 |_=>exact .none
theorem I2 {α:Type} (i:Int) {f:Nat→α}:∀(n:Nat),Det (fun R (K:α→Option R)=>KO i n fun j=>K (f j))
 |0 =>.none
 |n+1=>by simp only [KO,AB];exact .Wv (.val _) (I2 i n)
theorem Ug (t:TypeId) (x ix:AV):Det (fun R K=>L3 (R:=R) P t h x ix K):=by
 unfold L3
 try simp only [AB]
 refine .bind _ fun i => ?_;cases P.underlying t with
 |none=>exact .none
 |some ty=>
  cases ty with
  |slice e=>
   refine .bind _ fun s => ?_;cases x with
   |t y=>cases y with
    |sl size es=>exact .ite (.bind _ fun c =>.val _)
    |_=>exact .none
   |sref r v o l=>
    dsimp only;cases h[r]? with
    |none=>exact .none
    |some o=>cases o with
     |row f v s es=>exact .ite (.val _)
     |_=>exact .none
   |bsl r o l s=>exact .ite (.Wv (I2 i l) (.val _))
   |_=>exact .none
  |array n e=>
   refine .bind _ fun s => ?_;cases x with
   |ptr r off=>exact .ite (.Wv (I2 i n) (.val _))
   |eptr size cells off=>exact .ite (.val _)
   |rptr r ver k off=>exact .bind _ fun ob =>.ite (.val _)
   |_=>exact .none
  |_=>exact .none
theorem ZD (t:TypeId) (x:AV):Det (fun R K=>XP (R:=R) P t h x K):=by
 unfold XP
 try simp only [AB]
 cases P.underlying t with
 |none=>exact .none
 |some ty=>
  cases ty with
  |slice e=>
   cases x with
   |t y=>cases y with
    |sl size es=>exact .val _
    |_=>exact .none
   |nilsl=>exact .val _
   |sref r v o l=>
    dsimp only;cases h[r]? with
    |none=>exact .none
    |some o=>cases o with
     |row f v s es=>exact .ite (.val _)
     |_=>exact .none
   |bsl r o l s=>exact .val _
   |_=>exact .none
  |string=>exact .bind _ fun s =>.val _
  |array n e=>exact .val _
  |_=>exact .none
theorem BY (x:Option AV) (d hi:Nat):Det (fun R K=>Cz (R:=R) x d hi K):=by
 unfold Cz
 try simp only [AB]
 cases x with
 |none=>exact .val _
 |some v=>exact .bind _ fun i =>.ite (.val _)
theorem Ud (t:TypeId) (x:AV) (lo hi mx:Option AV):Det (fun R K=>Lv (R:=R) P t h x lo hi mx K):=by
 unfold Lv
 try simp only [AB]
 cases mx with
 |some m=>
  cases P.underlying t with
  |none=>exact .none
  |some ty=>
   cases ty with
   |slice e=>
    refine .bind _ fun z => ?_;cases hi with
    |none=>cases x with
     |t y=>cases y<;>exact .none
     |_=>exact .none
    |some b=>
     cases x with
     |t y=>cases y with
      |sl size es=>exact .ite (.comp (BY _ _ _) fun m =>.comp (BY _ _ _) fun b =>.comp (BY _ _ _) fun a =>.val _)
      |_=>exact .none
     |nilsl=>exact .comp (BY _ _ _) fun m =>.comp (BY _ _ _) fun b =>.comp (BY _ _ _) fun a =>.val _
     |sref r v o l=>
      dsimp only;cases h[r]? with
      |none=>exact .none
      |some o=>cases o with
       |row f v s es=>exact .ite (.comp (BY _ _ _) fun m =>.comp (BY _ _ _) fun b =>.comp (BY _ _ _) fun a =>.val _)
       |_=>exact .none
     |_=>exact .none
   |_=>exact .none
 |none=>
  cases P.underlying t with
  |none=>exact .none
  |some ty=>
   cases ty with
   |string=>exact .bind _ fun s =>.comp (BY _ _ _) fun b =>.comp (BY _ _ _) fun a =>.val _
   |slice e=>
    refine .bind _ fun z => ?_;cases x with
    |t y=>cases y with
     |sl size es=>exact .ite (.comp (BY _ _ _) fun b =>.comp (BY _ _ _) fun a =>.val _)
     |_=>exact .none
    |nilsl=>exact .comp (BY _ _ _) fun b =>.comp (BY _ _ _) fun a =>.val _
    |sref r v o l=>
     dsimp only;cases h[r]? with
     |none=>exact .none
     |some o=>cases o with
      |row f v s es=>exact .ite (.comp (BY _ _ _) fun b =>.comp (BY _ _ _) fun a =>.val _)
      |_=>exact .none
    |_=>exact .none
   |_=>exact .none
theorem Uk (t:TypeId) (parts:List (Nat×AV)):Det (fun R K=>Ok (R:=R) P t parts K):=by
 unfold Ok;cases P.underlying t with
 |none=>exact .none
 |some ty=>
  cases ty with
  |struct fs=>
   dsimp only;cases fs.toList.mapM (fun f=>(P.info? f.type).map fun i=>(f.offset,i.size)) with
   |none=>exact .none
   |some places=>exact .bind _ fun z =>.bind _ fun cs =>.val _
  |array n e=>exact .bind _ fun s =>.bind _ fun z =>.bind _ fun cs =>.val _
  |_=>exact .none
theorem Mj (t:TypeId) (len:Nat) (parts:List (Nat×AV)):Det (fun R K=>EX (R:=R) P t h len parts K):=by
 unfold EX
 try simp only [AB]
 cases P.underlying t with
 |none=>exact .none
 |some ty=>
  cases ty with
  |slice e=>exact .bind _ fun s =>.bind _ fun z =>.ite (.bind _ fun cs =>.comp (Cr _ _ _) fun xs =>.val _)
  |_=>exact .none
theorem I3:∀(ts:List TypeId) (vs:List AV),Det (fun R K=>D9 (R:=R) P ts vs K)
 |[],[]=>.val _
 |[],_::_ =>.none
 |_::_,[]=>.none
 |t::ts,v::vs=>by
  simp only [D9,AB];cases BF P t with
  |none=>exact .none
  |some b=>
   cases b with
   |true=>cases v with
    |agg cs=>exact .ite (.comp (I3 ts vs) fun rs =>.val _)
    |_=>exact .none
   |false=>exact .ite (.comp (I3 ts vs) fun rs =>.val _)
theorem ZA (t:TypeId) (v:AV):Det (fun R K=>Qq (R:=R) P t v K):=by
 rcases NU P t v with h|h
 ·exact .inl ⟨v,h⟩
 ·exact .inr h
theorem QE (ts:List TypeId) (ys:List Tree):Det (fun R K=>KL (R:=R) P ts ys K):=by
 rcases MH P ts ys with h|h
 ·exact .inl ⟨ys,h⟩
 ·exact .inr h
theorem RI (src dst:TypeId) (x:AV):Det (fun R K=>Ia (R:=R) P src dst x K):=by
 unfold Ia;cases P.underlying src with
 |none=>exact .none
 |some a=>
  cases P.underlying dst with
  |none=>cases a<;>exact .none
  |some b=>cases a<;>cases b<;>first|exact .none|exact .bind _ fun n =>.val _
theorem ON (n:Int):∀(m:List (Int×Nat)),Det (fun R K=>Ly (R:=R) n m K)
 |[]=>.val _
 |p::m=>by simp only [Ly,AB];exact .Wv (.val _) (ON n m)
theorem S6 (t:TypeId) (m x:AV):Det (fun R K=>K8 (R:=R) P t m x K):=by
 unfold K8;simp only [AB];split
 ·exact .ite (ON _ _)
 ·exact .none
theorem I4 (h:Heap) (z:Nat) (x:AV):Det (fun R (K:List (List Tree)→Option R)=>elems (R:=R) h z x K):=by
 unfold elems
 try simp only [AB]
 cases x with
 |t y=>
  cases y with
  |sl s es=>exact .ite (.val _)
  |_=>exact .none
 |nilsl=>exact .val _
 |sref i ver off len=>
  dsimp only;cases h[i]? with
  |none=>exact .none
  |some o=>
   cases o with
   |row f ver' s es=>exact .ite (.val _)
   |_=>exact .none
 |_=>exact .none
theorem I1 (h:Heap) (z:Nat) (x:AV):Det (fun R (K:List (List Tree)→Option R)=>JL (R:=R) h z x K):=by
 unfold JL
 try simp only [AB]
 split
 ·exact .ite (.val _)
 ·exact I4 _ _ _
theorem Ui (src dst:TypeId) (x:AV):Det (fun R K=>L4 (R:=R) P h src dst x K):=by
 unfold L4;simp only [AB];split
 ·split
  ·exact .comp (I4 _ _ _) fun es =>.ite (.val _)
  ·exact .none
 ·exact RI _ _ _
theorem S7 (t:TypeId) (x ix:AV):Det (fun R K=>K9 (R:=R) P t x ix K):=by
 unfold K9;simp only [AB];split
 ·exact .ite (.val _)
 ·exact .ite (.ite (I2 _ _))
 ·exact .none
theorem Uf (t:TypeId) (h:Heap) (i:Nat) (x:AV) (co:Bool):Det (fun R K=>L0 (R:=R) P t h i x co K):=by
 unfold L0
 try simp only [AB]
 split
 ·exact .ite (.val _)
 ·exact .none
theorem RG (t:TypeId) (h:Heap):Det (fun R (K:AV×Heap→Option R)=>Gs (R:=R) P t h fun v h'=>K (v,h')):=by
 unfold Gs;split
 ·exact .val (_,_)
 ·exact .none
theorem S5 (t:TypeId) (h:Heap) (m x v:AV):Det (fun R (K:Heap→Option R)=>I9 (R:=R) P t h m x v K):=by
 unfold I9
 try simp only [AB]
 split
 ·split
  ·exact .ite (.val _)
  ·exact .none
 ·exact .none
theorem det_qop (env:Env) (op:Op):Det (fun R K=>qop (R:=R) P env h op K):=by
 cases op with
 |move x=>exact .val _
 |assign x=>exact .val _
 |pick c a b=>
  simp only [qop,AB];exact .bind _ fun t =>.Wv (.val _) (.val _)
 |build t parts=>exact Uk _ _
 |buildSlice t len parts=>exact Mj _ _ _
 |load t a=>exact .comp (W9 _ _) fun v=>ZA _ _
 |binOp op t x y yt=>exact ZE _ _ _ _
 |unOp op t x=>exact det_aun _ _
 |convert src dst x=>exact Ui _ _ _
 |makeFunc fn first captured=>cases fn<;>first|exact .val _|exact .none
 |slice t x lo hi mx=>exact Ud _ _ _ _ _
 |fieldAddr t x f=>exact Uh _ _ _
 |indexAddr t x ix=>exact Ug _ _ _
 |extract t i=>
  simp only [qop];cases ev env t with
  |tuple vs=>cases hv:vs[i]? with
   |none=>simp only [hv];exact .none
   |some v=>simp only [hv];exact .val _
  |_=>exact .none
 |lookup t m x ok=>
  simp only [qop];cases ev env m with
  |mref i=>exact Uf _ _ _ _ _
  |_=>
   cases ok with
   |true=>simp only [if_true];exact S6 _ _ _
   |false=>simp only [zF,if_false];exact .none
 |index t x ix=>exact S7 _ _ _
 |nilCheck x=>
  simp only [qop];cases ev env x with
  |ptr i off=>exact .val _
  |eptr s c o=>exact .val _
  |yld i=>exact .val _
  |rptr i v k o=>exact .val _
  |func fn a b=>cases fn<;>first|exact .val _|exact .none
  |_=>exact .none
 |call c=>
  obtain ⟨callee,args,argTypes⟩:=c;cases callee with
  |builtin b=>
   cases b<;>first|exact W7 _ _|exact .none|skip
   simp only [qop]
   match args.toList,argTypes.toList with
   |[x],[t]=>exact ZD _ _
   |[],_=>exact .none
   |_::_::_,_=>exact .none
   |[x],[]=>exact .none
   |[x],_::_::_=>exact .none
  |value f=>exact .none
  |invoke r m=>exact .none
 |_=>exact .none
theorem Y9 (C:Cfg) (rec:Rec) (pc:BX) (env:Env) (op:Op) :
  (∃v,∀(R:Type) (K:AV→Heap→Option R),Ae C rec pc true env h op K=K v h)∨∀(R:Type) (K:AV→Heap→Option R),Ae C rec pc true env h op K=none:=by
 have lift:∀{f:∀R:Type,(AV→Option R)→Option R},Det f→(∃v,∀(R:Type) (K:AV→Heap→Option R),f R (fun v=>K v h)=K v h)∨∀(R:Type) (K:AV→Heap→Option R),f R (fun v=>K v h)=none:=by
  intro f hf;rcases hf with ⟨v,hv⟩|hn
  ·exact .inl ⟨v,fun R K=>hv R _⟩
  ·exact .inr fun R K=>hn R _
 have hfc:∀(g:FuncId) (avs:List AV),(∃v,∀(R:Type) (K:AV→Heap→Option R),GO C rec pc true g avs h K=K v h)∨∀(R:Type) (K:AV→Heap→Option R),GO C rec pc true g avs h K=none:=by
  intro g avs;unfold GO
  try simp only [AB]
  by_cases ho:C.own g=true
  ·exact .inr fun R K=>by simp [ho]
  have ho':C.own g=false:=by simpa using ho
  by_cases hg:C.heapful g=true
  ·exact .inr fun R K=>by simp [ho',hg]
  ·have hg':C.heapful g=false:=by simpa using hg
   simp only [ho',hg',zF,if_false,Bool.true_or,if_true];have hd:Det (fun R (K:AV→Option R)=>D9 C.P (Ir C.P g) avs fun ls=>EF C.P (!Co C.P g) h (KR C.P g) ls fun xs=>if g<OWN then ((pc g xs).bind fun ys=>KL C.P (Bm C.P g) ys fun ys=>
     match C7 C.P g (fun i =>.t (ys.getD i default)) with
     |some v=>K v
     |none=>none) else none):=
    .comp (I3 _ _) fun ls =>.comp (Cr _ _ _) fun xs =>.ite (.bind _ fun ys =>.comp (QE _ _) fun ys=>by
     cases C7 C.P g (fun i =>.t (ys.getD i default)) with
     |none=>exact .none
     |some v=>exact .val _)
   exact lift hd
 unfold Ae
 try simp only
 by_cases hh:BC op=true
 ·exact .inr fun R K=>by simp [hh]
 ·have hh':BC op=false:=by simpa using hh
  simp only [hh',zF,if_false];have hq:=lift (det_qop (P:=C.P) (h:=h) env op);cases op with
  |convert src dst x=>
   dsimp only;by_cases hf:PC C.P src dst=true
   ·simp only [hf,if_true];exact .inr fun _ _=>trivial
   ·simp only [hf,zF,if_false];exact hq
  |buildSlice t len parts=>
   dsimp only;by_cases hf:C.fnTy t=true
   ·simp only [hf,if_true];exact .inr fun _ _=>trivial
   ·simp only [hf,zF,if_false];exact hq
  |call c=>
   obtain ⟨callee,args,argTypes⟩:=c;cases callee with
   |value f=>
    dsimp only;unfold OS
    try simp only [AB]
    have hif:∀(g:FuncId) (avs:List AV),(∃v,∀(R:Type) (K:AV→Heap→Option R),(if enters C.P g=true then GO C rec pc true g avs h K else none)=K v h)∨∀(R:Type) (K:AV→Heap→Option R),(if enters C.P g=true then GO C rec pc true g avs h K else none)=none:=by
     intro g avs;by_cases he:enters C.P g=true
     ·simp only [if_pos he];exact hfc g avs
     ·simp only [if_neg he];exact .inr fun _ _=>trivial
    cases ev env f with
    |func fn a b=>
     cases fn with
     |func g=>exact hif g _
     |_=>exact .inr fun _ _=>rfl
    |t x=>
     cases x with
     |const v=>
      cases v with
      |func fn a b=>
       cases fn with
       |func g=>
        obtain ⟨a⟩:=a;obtain ⟨b⟩:=b;cases a with
        |nil=>cases b with
         |nil=>exact hif g _
         |cons x xs=>exact .inr fun _ _=>rfl
        |cons x xs=>exact .inr fun _ _=>rfl
       |_=>exact .inr fun _ _=>rfl
      |_=>exact .inr fun _ _=>rfl
     |_=>exact .inr fun _ _=>rfl
    |yld i=>exact .inr fun _ _=>by simp
    |_=>exact .inr fun _ _=>rfl
   |builtin b=>exact hq
   |invoke a b=>exact hq
  |_=>exact hq
noncomputable def Hb (C:Cfg) (rec:Rec) (pc:BX) (h:Heap) (env:Env) (op:Op):Option AV:=Ae C rec pc true env h op fun v _=>some v
theorem step_eq {R:Type} (C:Cfg) (rec:Rec) (pc:BX) (env:Env) (op:Op) (K:AV→Heap→Option R):Ae C rec pc true env h op K=(Hb C rec pc h env op).bind fun v=>K v h:=by
 unfold Hb;rcases Y9 (h:=h) C rec pc env op with ⟨v,hv⟩|hn
 ·rw [hv,hv];rfl
 ·rw [hn,hn];rfl
def PJ (ops:Array Oper) (o:Oper) (env:Env):Option Bool:=
 match o.guard with
 |none=>some true
 |some (j,want)=>
  match (ops[j]?).bind (·.dst) with
  |some d=>match env d with
   | .t (.bool b)=>some (b==want)
   | .tuple []=>some false
   |_=>none
  |none=>none
theorem Su {R:Type} (ops:Array Oper) (o:Oper) (env:Env) (K1 K0:Env→Option R):GY ops o env K1 K0=(PJ ops o env).bind fun b=>if b then K1 env else K0 env:=by
 unfold GY PJ
 try simp only [AB]
 cases hg:o.guard with
 |none=>rfl
 |some p=>
  obtain ⟨j,want⟩:=p;dsimp only;cases hd:(ops[j]?).bind (·.dst) with
  |none=>rfl
  |some d=>
   dsimp only;cases hb:env d with
   |t x=>
    cases x with
    |bool b=>cases b<;>cases want<;>simp [SI hb]
    |_=>rfl
   |tuple vs=>cases vs<;>rfl
   |_=>rfl
theorem T9 (C:Cfg) (rec:Rec) (pc:BX) {env env':Env} (op:Op) (hE:∀x∈op.operands,ev env x=ev env' x):Hb C rec pc h env op=Hb C rec pc h env' op:=by
 have hmap:∀(xs:Array Operand),(∀x∈xs,ev env x=ev env' x)→xs.toList.map (ev env)=xs.toList.map (ev env'):=fun xs hx=>
  xI fun x hm=>hx x (by simpa using hm)
 have hparts:∀(ps:Array (Nat×Operand)),(∀x∈(ps.toList.map (·.2)).toArray,ev env x=ev env' x)→ps.toList.map (fun p=>(p.1,ev env p.2))=ps.toList.map (fun p=>(p.1,ev env' p.2)):=fun ps hx=>
  xI fun p hm=>by rw [hx p.2 (by simp;exact ⟨p.1,by simpa using hm⟩)]
 have hopt:∀(x:Option Operand),(∀y∈x.toArray,ev env y=ev env' y)→KV env x=KV env' x:=fun x hx=>by
  cases x with
  |none=>rfl
  |some y=>simp only [KV];rw [hx y (by simp)]
 unfold Hb;cases op with
 |move x=>have h1:=hE x (by simp [Op.operands]);simp only [Ae,BC,zF,if_false,qop,h1]
 |assign x=>have h1:=hE x (by simp [Op.operands]);simp only [Ae,BC,zF,if_false,qop,h1]
 |pick c a b=>
  have h1:=hE c (by simp [Op.operands]);have h2:=hE a (by simp [Op.operands]);have h3:=hE b (by simp [Op.operands]);simp only [Ae,BC,zF,if_false,qop,h1,h2,h3,AB]
 |alloc t=>simp [Ae,BC]
 |box t x=>simp [Ae,BC]
 |store t a x=>simp [Ae,BC]
 |build t ps=>have h1:=hparts ps hE;simp only [Ae,BC,zF,if_false,qop,h1]
 |buildSlice t l ps=>have h1:=hparts ps hE;simp only [Ae,BC,zF,if_false,qop,if_true,h1]
 |load t x=>have h1:=hE x (by simp [Op.operands]);simp only [Ae,BC,zF,if_false,qop,h1]
 |nilCheck x=>have h1:=hE x (by simp [Op.operands]);simp only [Ae,BC,zF,if_false,qop,h1]
 |binOp op t x y yt=>
  have h1:=hE x (by simp [Op.operands]);have h2:=hE y (by simp [Op.operands]);by_cases hi:BC (.binOp op t x y yt)=true
  ·simp only [Ae,hi,if_true]
  ·simp only [Ae,hi,zF,if_false,qop,h1,h2]
 |unOp op t x=>have h1:=hE x (by simp [Op.operands]);simp only [Ae,BC,zF,if_false,qop,h1]
 |convert src dst x=>have h1:=hE x (by simp [Op.operands]);simp only [Ae,BC,zF,if_false,qop,h1]
 |makeSlice t n c=>simp [Ae,BC]
 |makeMap t r=>
  cases r with
  |none=>simp [Ae,BC]
  |some r=>simp only [Ae,BC,zF,if_false,qop]
 |mapUpdate t m x v=>simp [Ae,BC]
 |makeFunc fn first captured=>
  have h1:=hmap first fun x hx=>hE x (by simp [Op.operands,hx])
  have h2:=hmap captured fun x hx=>hE x (by simp [Op.operands,hx]);simp only [Ae,BC,zF,if_false,qop,h1,h2]
 |slice t x lo hi mx=>
  have h1:=hE x (by simp [Op.operands]);have h2:=hopt lo fun y hy=>hE y (by simp [Op.operands] at hy ⊢;simp [hy]);have h3:=hopt hi fun y hy=>hE y (by simp [Op.operands] at hy ⊢;simp [hy]);have h4:=hopt mx fun y hy=>hE y (by simp [Op.operands] at hy ⊢;simp [hy]);simp only [Ae,BC,zF,if_false,qop,h1,h2,h3,h4]
 |fieldAddr t x f=>have h1:=hE x (by simp [Op.operands]);simp only [Ae,BC,zF,if_false,qop,h1]
 |indexAddr t x y=>
  have h1:=hE x (by simp [Op.operands]);have h2:=hE y (by simp [Op.operands]);simp only [Ae,BC,zF,if_false,qop,h1,h2]
 |lookup t m x ok=>have h1:=hE m (by simp [Op.operands]);have h2:=hE x (by simp [Op.operands]);cases ok<;>simp only [Ae,BC,zF,if_false,qop,h1,h2]
 |index t x y=>
  have h1:=hE x (by simp [Op.operands]);have h2:=hE y (by simp [Op.operands]);simp only [Ae,BC,zF,if_false,qop,h1,h2]
 |extract x i=>have h1:=hE x (by simp [Op.operands]);simp only [Ae,BC,zF,if_false,qop,h1]
 |call c=>
  obtain ⟨callee,args,argTypes⟩:=c;cases callee with
  |value f=>
   have h1:=hE f (by simp [Op.operands,Call.operands]);have h2:=hmap args fun x hx=>hE x (by simp [Op.operands,Call.operands,hx]);simp only [Ae,BC,zF,if_false,h1,h2]
  |builtin b=>
   have h2:∀x∈args.toList,ev env x=ev env' x:=fun x hx=>hE x (by simp [Op.operands,Call.operands];simpa using hx);have h3:=hmap args fun x hx=>h2 x (by simpa using hx);cases b<;>first|(simp [Ae,BC];done)|(simp only [Ae,BC,zF,if_false,qop,h3];done)|(simp only [Ae,BC,zF,if_false,qop];done)|skip
   simp only [Ae,BC,zF,if_false,qop]
   match hl:args.toList,argTypes.toList with
   |[x],[t]=>simp only [h2 x (by rw [hl];simp)]
   |[],_=>rfl
   |_::_::_,_=>rfl
   |[x],[]=>rfl
   |[x],_::_::_=>rfl
  |invoke r m=>simp only [Ae,BC,zF,if_false,qop]
 |_=>simp only [Ae,BC,zF,if_false,qop]
theorem N8 (ops:Array Oper) (o:Oper) {env env':Env} (hE:∀t∈o.looksAt ops,env t=env' t):PJ ops o env=PJ ops o env':=by
 unfold PJ;cases hg:o.guard with
 |none=>rfl
 |some p=>
  obtain ⟨j,want⟩:=p;dsimp only;cases hd:(ops[j]?).bind (·.dst) with
  |none=>rfl
  |some d=>
   dsimp only;rw [hE d (by simp [Oper.looksAt,hg,hd])]
theorem Nu (ops:Array Oper) (o:Oper) {env env':Env} (hE:∀t∈o.looksAt ops,env t=env' t):∀x∈o.op.operands,ev env x=ev env' x:=by
 intro x hx;cases x with
 |tmp t=>exact hE t (by simp only [Oper.looksAt,xK,mem_filterMap];exact .inl ⟨.tmp t,by simpa using hx,rfl⟩)
 |_=>rfl
theorem C5 {env:Env} {o:Oper} {v:AV} {t:Tmp} (ht:∀d,o.dst=some d→d≠t):(env.put o.dst v) t=env t:=by
 cases hd:o.dst with
 |none=>rfl
 |some d=>simp only [Env.put];rw [if_neg fun e=>ht d hd e.symm]
theorem put_comm {env:Env} {x y:Oper} {v u:AV} (hxy:∀d,x.dst=some d→y.dst≠some d):(env.put x.dst v).put y.dst u=(env.put y.dst u).put x.dst v:=by
 cases hx:x.dst with
 |none=>cases y.dst<;>rfl
 |some d=>
  cases hy:y.dst with
  |none=>rfl
  |some e=>
   funext i;simp only [Env.put];have hne:d≠e:=fun h=>hxy d hx (by rw [hy,h]);by_cases h1:i=e
   ·rw [if_pos h1];by_cases h2:i=d
    ·exact (hne (h2.symm.trans h1)).elim
    ·rw [if_neg h2,if_pos h1]
   ·rw [if_neg h1];by_cases h2:i=d
    ·rw [if_pos h2,if_pos h2]
    ·rw [if_neg h2,if_neg h2,if_neg h1]
theorem Jn {h:Heap}:∀(os vs:List AV),Det (fun R (K:List AV→Option R)=>DX (R:=R) h os vs K)
 |os,[]=>by
  have:(fun R (K:List AV→Option R)=>DX (R:=R) h os [] K)=fun R K=>K []:=by funext R K;cases os<;>rfl
  rw [this];exact .val _
 |[],v::vs =>.val _
 |o::os,v::vs=>by
  have plain:∀x:AV,Det (fun R (K:List AV→Option R)=>DX (R:=R) h os vs fun vs'=>K (x::vs')):=fun x =>.comp (Jn os vs) fun vs' =>.val _;unfold DX
  try simp only [AB]
  split
  ·split
   ·exact .ite (plain _)
   ·exact plain _
  ·exact plain _
theorem HB:∀(ts:List TypeId) (vs:List AV) (h:Heap),Det (fun R (K:List AV×Heap→Option R)=>Dl (R:=R) P ts vs h fun vs' h'=>K (vs',h'))
 |ts,[],h =>.val ([],h)
 |ts,v::vs,h=>by
  cases v with
  |nilsl=>
   have:=HB ts.tail vs (h++[.row false 0 ((Fc P (ts.headD 0)).getD 0) []]);rcases this with ⟨p,hp⟩|hn
   ·exact .inl ⟨(.sref h.length 0 0 0::p.1,p.2),fun R K=>hp R fun q=>K (.sref h.length 0 0 0::q.1,q.2)⟩
   ·exact .inr fun R K=>hn R fun q=>K (.sref h.length 0 0 0::q.1,q.2)
  |_=>
   have:=HB ts.tail vs h;rcases this with ⟨p,hp⟩|hn
   ·exact .inl ⟨(_::p.1,p.2),fun R K=>hp R fun q=>K (_::q.1,q.2)⟩
   ·exact .inr fun R K=>hn R fun q=>K (_::q.1,q.2)
theorem Kx (t:TypeId) (cs:List AV) (h:Heap):Det (fun R (K:AV×Heap→Option R)=>Eo (R:=R) P t cs h fun v h'=>K (v,h')):=by
 unfold Eo;rcases HB (P:=P) (CD P 16 t) cs h with ⟨p,hp⟩|hn
 ·exact .inl ⟨(.ptr p.2.length 0,p.2++[.box p.1]),fun R K=>hp R fun q=>K (.ptr q.2.length 0,q.2++[.box q.1])⟩
 ·exact .inr fun R K=>hn R fun q=>K (.ptr q.2.length 0,q.2++[.box q.1])
theorem OM (t:TypeId) (h:Heap) (a v:AV):Det (fun R (K:Heap→Option R)=>GB (R:=R) P t h a v K):=by
 unfold GB
 try simp only [AB]
 cases v.cells with
 |none=>exact .none
 |some vs=>
  cases B6 P t with
  |none=>exact .none
  |some n=>
   refine .ite ?_;cases a with
   |ptr i off=>
    dsimp only;cases h[i]? with
    |none=>exact .none
    |some o=>
     cases o with
     |box cs=>
      refine .ite ?_;refine .comp (Jn _ _) fun vs => ?_;rcases HB (P:=P) (CD P 16 t) vs h with ⟨p,hp⟩|hn
      ·exact .inl ⟨_,fun R K=>hp R fun q=>K (q.2.set i (.box (setAt cs off q.1)))⟩
      ·exact .inr fun R K=>hn R fun q=>K (q.2.set i (.box (setAt cs off q.1)))
     |row f ver s es=>exact .none
     |loop l=>exact .none
     |mapo a b c=>exact .none
   |rptr i ver k off=>
    dsimp only;cases h[i]? with
    |none=>exact .none
    |some o=>
     cases o with
     |box cs=>exact .none
     |loop l=>exact .none
     |mapo a b c=>exact .none
     |row f ver' s es=>
      cases f with
      |true=>exact .none
      |false=>exact .ite (.bind _ fun e =>.comp (Cr _ _ _) fun xs =>.val _)
   |_=>exact .none
theorem S8 (t:TypeId) (h:Heap) (s x:AV):Det (fun R (K:AV×Heap→Option R)=>Er (R:=R) P t h s x fun v h'=>K (v,h')):=by
 unfold Er
 try simp only [AB]
 refine .bind _ fun z =>.comp (I1 h z x) fun new => ?_;cases s with
 |nilsl=>exact .ite (.val (_,_))
 |sref i ver off len=>
  dsimp only;cases h[i]? with
  |none=>exact .none
  |some o=>
   cases o with
   |row f ver' sz es=>
    cases f with
    |true=>exact .none
    |false=>exact .Wv (.ite (.val (_,_))) (.ite (.val (_,_)))
   |_=>exact .none
 |_=>exact .none
theorem PO (t:TypeId) (h:Heap) (s x:AV):Det (fun R (K:AV×Heap→Option R)=>FB (R:=R) P t h s x fun v h'=>K (v,h')):=by
 unfold FB
 try simp only [AB]
 refine .bind _ fun z =>.comp (I4 h z x) fun new => ?_;cases s with
 |sref i ver off len=>
  dsimp only;cases h[i]? with
  |none=>exact .none
  |some o=>
   cases o with
   |row f ver' sz es=>
    cases f with
    |true=>exact .none
    |false=>exact .ite (.val (_,_))
   |_=>exact .none
 |_=>exact .none
theorem I0 (h:Heap) (e:TypeId):Det (fun R (K:List Tree→Option R)=>PU (R:=R) P h e K):=by
 unfold PU
 try simp only [AB]
 cases zeroCells? P e with
 |none=>exact .none
 |some z=>
  cases B6 P e with
  |none=>exact .none
  |some n=>exact .ite (Cr _ _ _)
theorem Uj (t:TypeId) (h:Heap) (x:AV):Det (fun R (K:Heap→Option R)=>Jv (R:=R) P t h x K):=by
 unfold Jv
 try simp only [AB]
 cases P.underlying t with
 |none=>exact .none
 |some ty=>
  cases ty with
  |slice e=>
   cases x with
   |t y=>cases y with
    |sl z es=>exact .ite (.val _)
    |_=>exact .none
   |nilsl=>exact .val _
   |sref i ver off len=>
    dsimp only;refine .comp (I0 h e) fun zs => ?_;cases h[i]? with
    |none=>exact .none
    |some o=>
     cases o with
     |row f ver' sz es=>
      cases f with
      |true=>exact .none
      |false=>exact .ite (.val _)
     |_=>exact .none
   |_=>exact .none
  |_=>exact .none
theorem XA (t:TypeId) (h:Heap) (d x:AV):Det (fun R (K:AV×Heap→Option R)=>Oi (R:=R) P t h d x fun v h'=>K (v,h')):=by
 unfold Oi
 try simp only [AB]
 refine .bind _ fun z =>.comp (I1 h z x) fun new => ?_;cases d with
 |sref i ver off len=>
  dsimp only;cases h[i]? with
  |none=>exact .none
  |some o=>
   cases o with
   |row f ver' sz es=>
    cases f with
    |true=>exact .none
    |false=>exact .ite (.val (_,_))
   |_=>exact .none
 |_=>exact .none
theorem W8 (t:TypeId) (h:Heap) (n c:AV):Det (fun R (K:AV×Heap→Option R)=>Oe (R:=R) P t h n c fun v h'=>K (v,h')):=by
 unfold Oe
 try simp only [AB]
 refine .bind _ fun z => ?_;cases P.underlying t with
 |none=>exact .none
 |some ty=>
  cases ty with
  |slice e=>exact .bind _ fun a =>.bind _ fun b =>.comp (I0 h e) fun zs =>.ite (.val (_,_))
  |_=>exact .none
theorem OL (t:TypeId) (v:AV) (h:Heap):Det (fun R (K:AV×Heap→Option R)=>Lt (R:=R) P t v h fun v=>K (v,h)):=by
 unfold Lt
 try simp only [AB]
 cases v.cells with
 |none=>exact .none
 |some cs=>
  cases B6 P t with
  |none=>exact .none
  |some n=>exact .ite (.comp (Cr _ _ _) fun xs =>.val (_,_))
theorem RH (t:TypeId) (h:Heap):Det (fun R (K:AV×Heap→Option R)=>Gt (R:=R) P t h fun v h'=>K (v,h')):=by
 unfold Gt
 try simp only [AB]
 cases zeroCells? P t with
 |none=>exact .none
 |some z=>
  cases B6 P t with
  |none=>exact .none
  |some n=>exact .ite (.comp (Cr _ _ _) fun xs =>.val (_,_))
theorem PN {P:Program} {t:TypeId} {h:Heap} (len:Nat) (parts:List (Nat×AV)):Det (fun R (K:AV×Heap→Option R)=>FA (R:=R) P t h len parts fun v h'=>K (v,h')):=by
 unfold FA
 try simp only [AB]
 cases P.underlying t with
 |none=>exact .none
 |some u=>cases u with
  |slice e=>exact .bind _ fun s =>.bind _ fun z =>.ite (.bind _ fun cs =>.val (_,_))
  |_=>exact .none
theorem ZB (C:Cfg) (rec:Rec) (pc:BX) (env:Env) (op:Op) (hl:An C op=true):Det (fun R (K:AV×Heap→Option R)=>Ae (R:=R) C rec pc false env h op fun v h'=>K (v,h')):=by
 by_cases hh:BC op=true
 case neg=>
  have hw:(∃g args argTypes,op = .call {callee :=.value (.func g),args,argTypes})∨(∃t len parts,op = .buildSlice t len parts)∨∃src dst x,op = .convert src dst x:=by unfold An at hl;split at hl<;>first|(exact absurd rfl hh)|(exact .inl ⟨_,_,_,rfl⟩)|(exact .inr (.inl ⟨_,_,_,rfl⟩))|(exact .inr (.inr ⟨_,_,_,rfl⟩))|cases hl
  rcases hw with ⟨g,args,argTypes,rfl⟩|⟨t,len,parts,rfl⟩|⟨src,dst,x,rfl⟩
  case inr.inr=>
   have hf:PC C.P src dst=true:=hl;show Det (fun R (K:AV×Heap→Option R)=>Ae (R:=R) C rec pc false env h (.convert src dst x) fun v h'=>K (v,h'));simp only [Ae,BC,zF,if_false,hf,if_true,Lx];exact .bind _ fun s =>.val (_,_)
  case inr.inl=>
   have hf:C.fnTy t=true:=hl;show Det (fun R (K:AV×Heap→Option R)=>Ae (R:=R) C rec pc false env h (.buildSlice t len parts) fun v h'=>K (v,h'));simp only [Ae,BC,zF,if_false,hf,if_true];exact PN _ _
  have hown:C.own g=true:=hl;have hh':BC (.call {callee :=.value (.func g),args,argTypes})=false:=by simpa using hh
  unfold Ae;simp only [hh',zF,if_false,ev,OS,AB];refine .ite ?_;unfold GO;simp only [hown,if_true,zF,if_false,AB];refine .comp (I3 _ _) fun ls =>.comp (Cr _ _ _) fun xs => ?_;split
  ·rename_i j ho2;refine .ite (.bind _ fun ys =>.comp (QE _ _) fun ys => ?_);split
   ·rename_i z es _;split
    ·exact .val (_,_)
    ·exact .none
   ·exact .none
  refine .bind _ fun ys => ?_;split
  ·refine .bind _ fun z =>.ite (.ite ?_);unfold Qt;split
   ·split
    ·exact .val (_,_)
    ·exact .none
   ·exact .val (_,_)
  ·exact .none
 unfold Ae;simp only [hh,if_true,zF,if_false];cases op with
 |alloc t=>
  have hrn:C.ren t=none:=by simpa [An] using hl
  simp only [CQ,hrn];split
  ·exact (by simpa using OL (P:=C.P) _ _ _)
  ·rename_i t' himm;exact RH _ _
  ·rename_i t' d himm;split at himm<;>cases himm
  ·rename_i t' a x himm;split at himm<;>cases himm
  ·simp only [hop];cases zeroCells? C.P t with
   |none=>exact .none
   |some z=>exact Kx _ _ _
 |box t x=>
  simp only [CQ];split
  ·exact OL _ _ _
  ·rename_i t' himm;split at himm<;>cases himm
  ·rename_i t' d himm;split at himm<;>cases himm
  ·rename_i t' a x' himm;split at himm<;>cases himm
  ·simp only [hop];cases (ev env x).cells with
   |none=>exact .none
   |some cs=>exact Kx _ _ _
 |store t a x=>
  simp only [CQ];split
  ·rename_i himm;split at himm<;>cases himm
  ·rename_i himm;split at himm<;>cases himm
  ·rename_i himm;split at himm<;>cases himm
  ·rename_i t' a' x' himm;exact .comp (OM _ _ _ _) fun h' =>.val (_,_)
  ·simp only [hop];exact .comp (OM _ _ _ _) fun h' =>.val (_,_)
 |call c=>
  obtain ⟨callee,args,argTypes⟩:=c;cases callee with
  |builtin b=>
   cases b<;>first|(simp [An] at hl;done)|skip
   ·simp only [CQ,hop,AB];split
    ·rename_i s x t t' _ _;refine .ite ?_;by_cases hsr:Qn (ev env s) (ev env x)=true
     ·simp only [hsr,if_true];exact PO _ _ _ _
     ·simp only [hsr,zF,if_false];exact S8 _ _ _ _
    ·exact .none
   ·simp only [CQ,hop];split
    ·exact .comp (Uj _ _ _) fun h' =>.val (_,_)
    ·exact .none
   ·simp only [CQ,hop];split
    ·exact XA _ _ _ _
    ·exact .none
  |_=>simp [BC] at hh
 |makeSlice t n c=>simp only [CQ,hop];exact W8 _ _ _ _
 |makeMap t r=>
  cases r with
  |none=>simp only [CQ,hop];exact RG _ _
  |some r=>simp [An] at hl
 |mapUpdate t m x v=>simp only [CQ,hop];exact .comp (S5 _ _ _ _ _) fun h' =>.val (_,_)
 |_=>first|(simp [An] at hl;done)|(simp [BC] at hh;done)
def HF (h h':Heap) (v:AV):Prop:=(∃d,HX d v=true)∨∃i,Bp v=some i∧h[i]? = h'[i]?
theorem HF.cells {h h':Heap} {v:AV} {cs:List AV} (hv:HF h h' v) (hc:v.cells=some cs):∀x∈cs,HF h h' x:=by
 rcases hv with ⟨d,hd⟩|⟨i,hi,he⟩
 ·cases d with
  |zero=>cases hd
  |succ d=>
   cases v<;>simp only [AV.cells,Option.some.injEq,reduceCtorEq] at hc<;>first|(cases hc;done)|skip
   all_goals first
    |(subst hc;intro x hx;simp at hx;subst hx;exact .inl ⟨d+1,hd⟩)
    |(subst hc;intro x hx;simp only [HX] at hd;exact .inl ⟨d,yV.1 hd x hx⟩)
 ·cases v<;>simp only [Bp,reduceCtorEq] at hi<;>simp only [AV.cells,Option.some.injEq] at hc<;>(subst hc;intro x hx;simp at hx;subst hx;exact .inr ⟨i,by simpa [Bp] using hi,he⟩)
theorem XB {R:Type} {fz:Bool} {h h':Heap} {ty:TypeId} {v:AV} (hv:HF h h' v) (K:Tree→Option R):conv P fz h ty v K=conv P fz h' ty v K:=by
 cases v with
 |sref i ver off len=>
  rcases hv with ⟨d,hd⟩|⟨j,hj,he⟩
  ·cases d with
   |zero=>cases hd
   |succ d=>simp [HX] at hd
  ·simp only [Bp,Option.some.injEq] at hj;subst hj;simp only [conv,he]
 |func fn f c=>cases f<;>cases c<;>rfl
 |_=>rfl
theorem Jp {R:Type} {fz:Bool} {h h':Heap}:∀(ts:List TypeId) (vs:List AV),(∀v∈vs,HF h h' v)→∀(K:List Tree→Option R),EF P fz h ts vs K=EF P fz h' ts vs K
 |[],[],_,K=>rfl
 |[],_::_,_,K=>rfl
 |_::_,[],_,K=>rfl
 |t::ts,v::vs,hv,K=>by simp only [EF];rw [XB (h':=h') (hv v (by simp))];congr 1;funext x;exact Jp ts vs (fun u hu=>hv u (by simp [hu])) _
theorem Jk {R:Type} {h h':Heap}:∀(ts:List TypeId) (vs:List AV),(∀v∈vs,HF h h' v)→∀(K K':List AV→Option R),(∀ls,(∀v∈ls,HF h h' v)→K ls=K' ls)→D9 P ts vs K=D9 P ts vs K'
 |[],[],_,K,K',hk=>hk [] (by simp)
 |[],_::_,_,K,K',hk=>rfl
 |_::_,[],_,K,K',hk=>rfl
 |t::ts,v::vs,hv,K,K',hk=>by
  have hv1:=hv v (by simp);have hvs:∀u∈vs,HF h h' u:=fun u hu=>hv u (by simp [hu]);simp only [D9,AB];cases BF P t with
  |none=>rfl
  |some b=>
   cases b with
   |true=>
    cases v with
    |agg cs=>
     dsimp only;split
     ·refine Jk ts vs hvs _ _ fun ls hl=>hk _ fun u hu => ?_;rcases xK.1 hu with hu|hu
      ·exact hv1.cells (cs:=cs) rfl u hu
      ·exact hl u hu
     ·rfl
    |_=>rfl
   |false=>
    dsimp only;split
    ·refine Jk ts vs hvs _ _ fun ls hl=>hk _ fun u hu => ?_;rcases xL.1 hu with rfl|hu
     ·exact hv1
     ·exact hl u hu
    ·rfl
theorem P5 {h h':Heap} {place:Nat→Option (Nat×Nat)}:∀(ps:List (Nat×AV)) (cs cs':List AV),(∀p∈ps,HF h h' p.2)→(∀v∈cs,HF h h' v)→CM place cs ps=some cs'→∀v∈cs',HF h h' v
 |[],cs,cs',_,hc,h=>by cases h;exact hc
 |(i,v)::ps,cs,cs',hp,hc,h=>by
  simp only [CM] at h;split at h
  ·rename_i off size vs hpl hvc;split at h
   ·refine P5 ps _ cs' (fun p hpp=>hp p (by simp [hpp])) (fun u hu => ?_) h;simp only [setAt,xK] at hu;rcases hu with hu|hu|hu
    ·exact hc u (List.mem_of_mem_take hu)
    ·exact (hp (i,v) (by simp)).cells hvc u hu
    ·exact hc u (xO hu)
   ·cases h
  ·cases h
theorem IE (d:Nat) (v:Value):HX (d+2) (Fy v)=true:=by unfold Fy;split<;>rfl
theorem Qy (v:Value):HX 4 (ofConst v)=true:=by
 unfold ofConst;split
 ·simp only [HX];exact yV.2 fun x hx=>by obtain ⟨u,_,rfl⟩:=mem_map.1 hx;exact IE 1 u
 ·exact IE 2 _
theorem WT {h h':Heap} {e:TypeId} {z:List AV} (hz:zeroCells? P e=some z):∀v∈z,HF h h' v:=by
 unfold zeroCells? at hz;split at hz
 ·exact HF.cells (.inl ⟨4,Qy _⟩) hz
 ·cases hz
theorem HF.obj {h h':Heap} {v:AV} (hv:HF h h' v) {i:Nat} (hi:Bp v=some i):h[i]? = h'[i]? :=by
 rcases hv with ⟨d,hd⟩|⟨j,hj,he⟩
 ·cases d with
  |zero=>cases hd
  |succ d=>cases v<;>simp only [Bp,reduceCtorEq] at hi<;>simp [HX] at hd
 ·rw [hi] at hj;cases hj;exact he
theorem Ng {R:Type} {h h':Heap} {env:Env} {op:Op} (hf:∀x∈op.operands,HF h h' (ev env x)) (K:AV→Option R):qop P env h op K=qop P env h' op K:=by
 cases op with
 |load t x=>
  have h1:=hf x (by simp [Op.operands]);simp only [qop,JU];generalize ev env x=v at h1;cases v<;>first|rfl|(simp only [h1.obj rfl])
 |fieldAddr t x f=>
  have h1:=hf x (by simp [Op.operands]);simp only [qop,Ju];generalize ev env x=v at h1;cases v<;>first|rfl|(simp only [h1.obj rfl])
 |indexAddr t x y=>
  have h1:=hf x (by simp [Op.operands]);simp only [qop,L3];generalize ev env x=v at h1;cases v with
  |sref i ver off len=>simp only [h1.obj rfl]
  |rptr i ver k off=>simp only [h1.obj rfl]
  |t y=>cases y<;>rfl
  |_=>rfl
 |convert src dst x=>
  have h1:=hf x (by simp [Op.operands]);simp only [qop,L4];generalize ev env x=v at h1;split
  ·split
   ·unfold elems;cases v with
    |sref i ver off len=>simp only [h1.obj rfl]
    |t y=>cases y<;>rfl
    |_=>rfl
   ·rfl
  ·rfl
 |slice t x lo hi mx=>
  have h1:=hf x (by simp [Op.operands]);simp only [qop,Lv];generalize ev env x=v at h1;generalize KV env hi=oh;generalize KV env mx=om;cases v with
  |sref i ver off len=>cases oh<;>simp only [h1.obj rfl]
  |t y=>cases y<;>cases oh<;>rfl
  |_=>cases oh<;>rfl
 |buildSlice t len ps=>
  simp only [qop,EX,AB];split
  ·rename_i e hu;congr 1;funext s;cases hzc:zeroCells? P e with
   |none=>rfl
   |some z=>
    simp only [Option.bind_some];split
    ·cases hfc:CM (fun i=>some (i*s,s)) (replicate len z).flatten (ps.toList.map fun p=>(p.1,ev env p.2)) with
     |none=>rfl
     |some cs=>
      simp only [Option.bind_some];refine Jp _ _ (P5 _ _ _ (fun p hp => ?_) (fun v hv => ?_) hfc) _
      ·obtain ⟨q,hq,rfl⟩:=mem_map.1 hp;exact hf q.2 (by simp [Op.operands];exact ⟨q.1,by simpa using hq⟩)
      ·obtain ⟨l,hl,hv⟩:=List.mem_flatten.1 hv;rw [(List.mem_replicate.1 hl).2] at hv;exact WT hzc v hv
    ·rfl
  ·rfl
 |call c=>
  obtain ⟨callee,args,argTypes⟩:=c;cases callee with
  |builtin b=>
   cases b<;>first|rfl|skip
   simp only [qop];split
   ·rename_i x t hx _;have h1:=hf x (by
     have:x∈args.toList:=by rw [hx];simp
     simp [Op.operands,Call.operands];simpa using this)
    simp only [XP];generalize ev env x=v at h1;cases v with
    |sref i ver off len=>simp only [h1.obj rfl]
    |t y=>cases y<;>rfl
    |_=>rfl
   ·rfl
  |_=>rfl
 |lookup t m x ok=>
  have h1:=hf m (by simp [Op.operands]);simp only [qop];generalize ev env m=v at h1;cases v with
  |mref i=>simp only [L0,h1.obj rfl]
  |_=>rfl
 |_=>rfl
theorem Uq {C:Cfg} {rec:Rec} {pc:BX} {h h':Heap} {env:Env} {op:Op} (hb:HG op=true):Hb C rec pc h env op=Hb C rec pc h' env op:=by
 unfold Hb Ae;by_cases hh:BC op=true
 ·simp [hh]
 ·have hh':BC op=false:=by simpa using hh
  simp only [hh',zF,if_false];cases op<;>first|(simp [HG] at hb;done)|rfl|skip
  rename_i c;obtain ⟨callee,args,argTypes⟩:=c;cases callee with
  |builtin b=>cases b<;>first|(simp [HG] at hb;done)|rfl
  |_=>simp [HG] at hb
theorem TN {h:Heap} {i:Nat} (hi:i<1024):At h i=h[i]? :=by unfold At;rw [if_pos hi]
theorem YO {S:List Nat} {h h':Heap} (hag:∀i∈S,At h i=At h' i) {v:AV} (hv:Qs S v=true):HF h h' v:=by
 unfold Qs at hv;rw [yT] at hv;rcases hv with hv|hv
 ·exact .inl ⟨4,hv⟩
 ·cases ho:Bp v with
  |none=>rw [ho] at hv;cases hv
  |some i=>
   rw [ho] at hv;simp only [zE,decide_eq_true_eq] at hv;have h1:=hag i (by simpa using hv.2);rw [TN hv.1,TN hv.1] at h1;exact .inr ⟨i,ho,h1⟩
theorem UD {g g':Nat→AV}:∀(n off:Nat),(∀j,j<n→g (off+j)=g' (off+j))→BK g off n=BK g' off n:=by intro n off hj;unfold BK;exact xI fun j hm=>hj j (xP.1 hm)
theorem Wg {P:Program} {t:TypeId} {h h':Heap} {i off n:Nat} (hi:i<1024) (ho:off<4096) (hn:ldN P t=some n) (hag:At h (JO i off n)=At h' (JO i off n)) {R:Type} (K:AV→Option R) :
  JU P t h (.ptr i off) K=JU P t h' (.ptr i off) K:=by
 have e1:¬JO i off n<1024:=by unfold JO;omega
 have e2:JO i off n % 1024=i:=by unfold JO;omega
 have e3:JO i off n / 1024-1=off+4096*n:=by unfold JO;omega
 have e4:(off+4096*n) % 4096=off:=by omega
 have e5:(off+4096*n) / 4096=n:=by omega
 unfold At at hag;rw [if_neg e1,if_neg e1,e2,e3,e4,e5] at hag;unfold JU;dsimp only;cases h1:h[i]? with
 |none=>
  rw [h1] at hag;cases h2:h'[i]? with
  |none=>rfl
  |some o=>rw [h2] at hag;cases hag
 |some o=>
  rw [h1] at hag;cases h2:h'[i]? with
  |none=>rw [h2] at hag;cases hag
  |some o'=>
   rw [h2] at hag;simp only [yP,Option.some.injEq] at hag;cases o with
   |box cs=>
    cases o' with
    |box cs'=>
     simp only [J4,AF.box.injEq,List.cons.injEq,AV.yld.injEq] at hag;obtain ⟨hl,hm⟩:=hag;have hcell:∀j,j<n→cs.getD (off+j) .undef=cs'.getD (off+j) .undef:=fun j hj=>by have:=congrArg (fun l:List AV=>l[j]?) hm;simpa [zQ,getElem?_range hj] using this
     unfold ldN at hn;unfold rd;dsimp only;rw [hl];cases ha:BF P t with
     |none=>rfl
     |some b=>
      rw [ha] at hn;cases b with
      |true=>
       have hn:B6 P t=some n:=hn;rw [hn];dsimp only;rw [UD (g:=fun c=>cs.getD c .undef) (g':=fun c=>cs'.getD c .undef) n off hcell]
      |false=>
       have hn:some 1=some n:=hn;cases hn;have:=hcell 0 (by omega);simp only [yD] at this;simp only [this]
    |row a b c d=>simp [J4] at hag
    |loop l=>simp [J4] at hag
    |mapo a b c=>simp [J4] at hag
   |row a b c d=>
    cases o' with
    |box cs'=>simp [J4] at hag
    |_=>rfl
   |loop l=>
    cases o' with
    |box cs'=>simp [J4] at hag
    |_=>rfl
   |mapo a b c=>
    cases o' with
    |box cs'=>simp [J4] at hag
    |_=>rfl
theorem Wh {C:Cfg} {rec:Rec} {pc:BX} {h h':Heap} {env:Env} {op:Op} {S:List Nat} (hag:∀i∈S,At h i=At h' i) (hf:partAt C.P S env op=true):Hb C rec pc h env op=Hb C rec pc h' env op:=by
 unfold partAt at hf;split at hf
 ·rename_i t a;split at hf
  ·rename_i i off n he hn;simp only [zE,decide_eq_true_eq] at hf;unfold Hb Ae;simp only [BC,zF,if_false,qop];rw [he];exact Wg hf.1.1 hf.1.2 hn (hag _ (by simpa using hf.2)) _
  ·cases hf
 ·rename_i t x f;split at hf
  ·rename_i i off he;unfold Hb Ae;simp only [BC,zF,if_false,qop,Ju];rw [he]
  ·cases hf
 ·cases hf
theorem Wd {C:Cfg} {rec:Rec} {pc:BX} {h h':Heap} {env:Env} {op:Op} {S:List Nat} (hag:∀i∈S,At h i=At h' i) (hf:G8 C.P S env op=true):Hb C rec pc h env op=Hb C rec pc h' env op:=by
 unfold G8 at hf;rw [yT,yT] at hf;rcases hf with hf|hf|hf
 ·exact Uq hf
 ·exact Wh hag hf
 have hf':∀x∈op.operands,HF h h' (ev env x):=fun x hx=>YO hag (yV.1 hf x (by simpa using hx));unfold Hb Ae;by_cases hh:BC op=true
 ·simp [hh]
 ·have hh':BC op=false:=by simpa using hh
  simp only [hh',zF,if_false];split
  ·rename_i f args argTypes;have hcall:∀(g:FuncId) (avs:List AV),(∀v∈avs,HF h h' v)→GO C rec pc true g avs h (fun v _=>some v)=GO C rec pc true g avs h' (fun v _=>some v):=by
    intro g avs hav;unfold GO;by_cases ho:C.own g=true
    ·simp [ho]
    have ho':C.own g=false:=by simpa using ho
    by_cases hg:C.heapful g=true
    ·simp [ho',hg]
    ·have hg':C.heapful g=false:=by simpa using hg
     simp only [ho',hg',zF,if_false,Bool.true_or,if_true];refine Jk _ _ hav _ _ fun ls hl => ?_;rw [Jp (h':=h') _ _ hl]
   have hargs:∀v∈args.toList.map (ev env),HF h h' v:=fun v hv=>by obtain ⟨x,hx,rfl⟩:=mem_map.1 hv;exact hf' x (by simp [Op.operands,Call.operands];right;simpa using hx)
   have hfun:HF h h' (ev env f):=hf' f (by simp [Op.operands,Call.operands]);unfold OS
   try simp only [AB]
   split
   ·rename_i g first captured he
    rw [he] at hfun;rcases hfun with ⟨d,hd⟩|⟨i,hi,_⟩
    ·cases d with
     |zero=>cases hd
     |succ d=>
      simp only [HX,zE] at hd;rw [hcall g _ (fun v hv=>by
       simp only [xK] at hv;rcases hv with (hv|hv)|hv
       ·exact .inl ⟨d,yV.1 hd.1 v hv⟩
       ·exact hargs v hv
       ·exact .inl ⟨d,yV.1 hd.2 v hv⟩)]
    ·cases hi
   ·rw [hcall _ _ hargs]
   ·rfl
   ·rfl
  ·split
   ·rfl
   ·exact Ng hf' _
  ·split
   ·rfl
   ·exact Ng hf' _
  ·exact Ng hf' _
end Ab
namespace Ab
open Go
def LN (ops:Array Oper) (S:List Nat) (i:Nat):Prop:=∀o,ops[i]? = some o→∀e∈o.after.toList,Region.binds .any e=true→e.on∈S
def WH (ops:Array Oper) (S:List Nat) (i:Nat):Prop:=i<ops.size∧i∉S∧LN ops S i
inductive Ot (ops:Array Oper):List Nat→List Nat→Prop
 |nil (S:List Nat):(∀i,¬WH ops S i)→Ot ops S []
 |cons (S:List Nat) (i:Nat) (l:List Nat):WH ops S i→Ot ops (i::S) l→Ot ops S (i::l)
def RZ (ops:Array Oper) (listed:Array Bool) (S:List Nat):Prop:=listed.size=ops.size∧∀i,i<ops.size→(listed.getD i true=true↔i∈S)
theorem Pf {ops:Array Oper} {listed:Array Bool} {S:List Nat} (hl:RZ ops listed S) (hS:∀i∈S,i<ops.size) (i:Nat):i∈Region.ready .any ops listed↔WH ops S i:=by
 unfold Region.ready WH LN;simp only [mem_filter,xP,zE,yS];constructor
 ·rintro ⟨hi,hn,he⟩
  refine ⟨hi,fun hm => ?_,fun o ho e hem hb => ?_⟩
  ·have:=(hl.2 i hi).2 hm;rw [this] at hn;cases hn
  ·rw [ho] at he;simp only [yP,Option.getD_some] at he;have h1:=(Array.all_eq_true_iff_forall_mem.1 he) e (by simpa using hem);rw [hb] at h1;simp only [Bool.not_true,Bool.false_or] at h1;have hlt:e.on<ops.size:=by
    rcases yH e.on ops.size with h|h
    ·exact h
    ·have:listed.getD e.on false=false:=by
      have h2:¬e.on<listed.size:=by rw [hl.1];omega
      simp only [Array.getD,h2,dif_neg,not_false_eq_true]
     rw [this] at h1;cases h1
   refine (hl.2 e.on hlt).1 ?_;have h2:e.on<listed.size:=by rw [hl.1];exact hlt
   simp only [Array.getD,h2,dif_pos] at h1 ⊢;exact h1
 ·rintro ⟨hi,hn,he⟩
  refine ⟨hi,?_,?_⟩
  ·cases hg:listed.getD i true with
   |false=>rfl
   |true=>exact (hn ((hl.2 i hi).1 hg)).elim
  ·have ho:ops[i]? = some ops[i]:=Array.getElem?_eq_getElem hi;rw [ho];simp only [yP,Option.getD_some];refine Array.all_eq_true_iff_forall_mem.2 fun e hem => ?_;cases hb:Region.binds .any e with
   |false=>rfl
   |true=>
    have h1:=he _ ho e (by simpa using hem) hb;have hlt:=hS _ h1;have h2:=(hl.2 e.on hlt).2 h1;have h3:e.on<listed.size:=by rw [hl.1];exact hlt
    simp only [Array.getD,h3,dif_pos] at h2 ⊢;simpa using h2
theorem UO {ops:Array Oper} {listed:Array Bool} {S:List Nat} (hl:RZ ops listed S) {i:Nat} (hi:i<ops.size):RZ ops (listed.setIfInBounds i true) (i::S):=by
 refine ⟨by simpa using hl.1,fun j hj => ?_⟩;have h1:j<listed.size:=by rw [hl.1];exact hj
 have:=hl.2 j hj;simp only [Array.getD,h1,dif_pos] at this;by_cases hij:j=i
 ·subst hij;simp [Array.getD,h1]
 ·simp only [Array.getD,Array.size_setIfInBounds,h1,dif_pos,xL,hij,false_or];rw [← this];have e:(listed.setIfInBounds i true)[j]'(by simpa using h1)=listed[j]:=Array.getElem_setIfInBounds_ne (by simpa using h1) (Ne.symm hij);show (listed.setIfInBounds i true)[j]'(by simpa using h1)=true↔listed[j]=true;rw [e]
theorem LZ:∀(n:Nat) (l:List Nat),l.Nodup→(∀x∈l,x<n)→l.length≤n
 |0,l,hn,hl=>by
  cases l with
  |nil=>simp
  |cons x xs=>exact absurd (hl x (by simp)) (by omega)
 |n+1,l,hn,hl=>by
  by_cases hm:n∈l
  ·have h1:=LZ n (l.erase n) (hn.erase n) fun x hx=>by have h2:=(List.Nodup.mem_erase_iff hn).1 hx;have h3:=hl x h2.2;have h4:=h2.1;omega
   rw [List.length_erase_of_mem hm] at h1;omega
  ·have:=LZ n l hn fun x hx=>by have h3:=hl x hx;have h4:x≠n:=fun e=>hm (e ▸ hx);omega
   omega
theorem Qc {n:Nat} {S:List Nat} (hn:S.Nodup) (hS:∀i∈S,i<n) {i:Nat} (hi:i<n) (hni:i∉S):S.length<n:=by
 have:=LZ n (i::S) (xT.2 ⟨hni,hn⟩) fun x hx=>by
  rcases xL.1 hx with rfl|hx
  ·exact hi
  ·exact hS x hx
 simp only [xF] at this;omega
theorem Sv (ops:Array Oper):∀(fuel t:Nat) (listed:Array Bool) (S:List Nat),RZ ops listed S→S.Nodup→(∀i∈S,i<ops.size)→ops.size≤fuel+S.length→Ot ops S (Region.linearise.go .any ops fuel t listed [])
 |0,t,listed,S,hl,hn,hS,hf=>by refine .nil S fun i hr => ?_;have:=Qc hn hS hr.1 hr.2.1;omega
 |fuel+1,t,listed,S,hl,hn,hS,hf=>by
  simp only [Region.linearise.go];change Ot ops S (match (Region.ready .any ops listed)[t % (Region.ready .any ops listed).length]? with
   |some i=>Region.linearise.go .any ops fuel (t / (Region.ready .any ops listed).length) (listed.setIfInBounds i true) [i]
   |none=>[].reverse)
  cases hi:(Region.ready .any ops listed)[t % (Region.ready .any ops listed).length]? with
  |none=>
   have hnil:Region.ready .any ops listed=[]:=by
    cases hr:Region.ready .any ops listed with
    |nil=>rfl
    |cons x xs=>
     rw [hr] at hi;have hlt:t % (x::xs).length<(x::xs).length:=mod_lt _ (by simp);rw [zO hlt] at hi;cases hi
   refine .nil S fun i hr => ?_;have:=(Pf hl hS i).2 hr;rw [hnil] at this;cases this
  |some i=>
   simp only [];rw [linearise_go_acc,List.reverse_singleton,xU];have hr:=(Pf hl hS i).1 (xN hi);refine .cons S i _ hr (Sv ops fuel _ _ (i::S) (UO hl hr.1) (xT.2 ⟨hr.2.1,hn⟩) (fun j hj => ?_) (by simp;omega));rcases xL.1 hj with rfl|hj
   ·exact hr.1
   ·exact hS j hj
theorem FY (ops:Array Oper) (t:Nat):Ot ops [] (Region.linearise .any ops t):=by refine Sv ops ops.size t _ [] ⟨by simp,fun i hi => ?_⟩ nodup_nil (fun i hi=>by cases hi) (by simp);simp [Array.getD,hi]
def VE (ops:Array Oper) (S:List Nat):Prop:=∀i∈S,LN ops S i
theorem Pt {acc:List Nat} {i:Nat}:∀(es:List Edge) (s:Nat),(es.foldl (fun s e=>if Region.binds .any e then s ||| (2 ^ e.on ||| acc.getD e.on 0) else s) s).testBit i=true→
  s.testBit i=true∨∃e∈es,Region.binds .any e=true∧(e.on=i∨(acc.getD e.on 0).testBit i=true)
 |[],s,h =>.inl h
 |e::es,s,h=>by
  simp only [foldl_cons] at h;rcases Pt es _ h with h1|⟨e',h1,h2⟩
  ·by_cases hb:Region.binds .any e=true
   ·rw [if_pos hb] at h1;simp only [Nat.testBit_or,yT] at h1;rcases h1 with h1|h1|h1
    ·exact .inl h1
    ·refine .inr ⟨e,by simp,hb,.inl ?_⟩;rw [Nat.testBit_two_pow] at h1;simpa using h1
    ·exact .inr ⟨e,by simp,hb,.inr h1⟩
   ·rw [if_neg hb] at h1;exact .inl h1
  ·exact .inr ⟨e',by simp [h1],h2⟩
theorem D8:∀(os:List Oper) (acc:List Nat) (j:Nat),(j<acc.length→(E1 os acc)[j]? = acc[j]?)∧∀o,os[j]? = some o→(E1 os acc)[acc.length+j]? = some (G6 ((E1 os acc).take (acc.length+j)) o)
 |[],acc,j=>⟨fun _=>rfl,fun o ho=>by simp at ho⟩
 |o'::os,acc,j=>by
  simp only [E1];obtain ⟨h1,_⟩:=D8 os (acc++[G6 acc o']) j;refine ⟨fun hj => ?_,fun o ho => ?_⟩
  ·rw [h1 (by simp;omega),zL hj]
  ·cases j with
   |zero=>
    simp only [xC,Option.some.injEq] at ho;subst ho;have h0:=(D8 os (acc++[G6 acc o']) acc.length).1 (by simp);have ht:(E1 os (acc++[G6 acc o'])).take acc.length=acc:=by
     apply zJ;intro i;rcases yH i acc.length with hi|hi
     ·rw [zT hi,(D8 os (acc++[G6 acc o']) i).1 (by simp;omega),zL hi]
     ·rw [zP (by simp;omega),zP hi]
    rw [yD,ht,h0];simp
   |succ j=>
    have h2:=(D8 os (acc++[G6 acc o']) j).2 o (by simpa using ho);have e:(acc++[G6 acc o']).length+j=acc.length+(j+1):=by simp;omega
    rw [e] at h2;exact h2
theorem Wq (ops:Array Oper) {j:Nat} {o:Oper} (ho:ops[j]? = some o):(AP ops)[j]? = some (G6 ((AP ops).take j) o):=by have:=(D8 ops.toList [] j).2 o (by simpa using ho);simpa [AP] using this
theorem TD {ops:Array Oper} {S:List Nat} (hc:VE ops S):∀(k:Nat) (j:Nat),j≤k→(j∈S∨LN ops S j)→j<ops.size→∀i,((AP ops).getD j 0).testBit i=true→i∈S:=by
 intro k
 induction k using Nat.strongRecOn with
 |_ k ih=>
  intro j hjk hj hjs i hi;have ho:ops[j]? = some ops[j]:=Array.getElem?_eq_getElem hjs;have he:LN ops S j:=hj.elim (hc j) id;have hm:=Wq ops ho;simp only [List.getD,hm,Option.getD_some] at hi;rcases Pt _ _ hi with h0|⟨e,hem,hb,h1⟩
  ·simp at h0
  ·have hin:=he _ ho e hem hb;rcases h1 with rfl|h1
   ·exact hin
   ·have hlt:e.on<j:=by
     rcases yH e.on j with h|h
     ·exact h
     ·simp [List.getD,zS,not_lt.2 h] at h1
    have h2:((AP ops).getD e.on 0).testBit i=true:=by simp only [List.getD] at h1 ⊢;rw [zT hlt] at h1;exact h1
    exact ih e.on (by omega) e.on (yE _) (.inl hin) (by omega) i h2
theorem Hn {ops:Array Oper} (hed:HA ops=true):∀{S l:List Nat},Ot ops S l→VE ops S→
  l.Nodup∧(∀x∈l,x∉S∧x<ops.size)∧(∀i,i<ops.size→i∈S∨i∈l)∧∀l1 x l2,l=l1++x::l2→∀y,((AP ops).getD x 0).testBit y=true→y∈S∨y∈l1:=by
 intro S l hs
 induction hs with
 |nil S hno=>
  intro hc;refine ⟨nodup_nil,(fun x hx=>by cases hx),fun i hi => ?_,(fun l1 x l2 e=>by simp at e)⟩;have key:∀k i,i≤k→i<ops.size→i∈S:=by
   intro k
   induction k using Nat.strongRecOn with
   |_ k ih=>
    intro i hik his;by_cases hm:i∈S
    ·exact hm
    ·refine (hno i ⟨his,hm,fun o ho e hem hb => ?_⟩).elim;unfold HA at hed;have h1:=(yV.1 hed) i (xP.2 his);rw [ho] at h1;have h2:=(yV.1 h1) e hem;rw [hb] at h2;have h3:e.on<i:=by simpa using h2
     exact ih e.on (by omega) e.on (yE _) (by omega)
  exact .inl (key i i (yE _) hi)
 |cons S i l hr hs ih=>
  intro hc;have hc':VE ops (i::S):=fun j hj o ho e hem hb=>by
   rcases xL.1 hj with rfl|hj
   ·exact xM _ (hr.2.2 o ho e hem hb)
   ·exact xM _ (hc j hj o ho e hem hb)
  obtain ⟨h1,h2,h3,h4⟩:=ih hc';refine ⟨xT.2 ⟨fun hm=>(h2 i hm).1 (by simp),h1⟩,fun x hx => ?_,fun j hj => ?_,fun l1 x l2 e y hy => ?_⟩
  ·rcases xL.1 hx with rfl|hx
   ·exact ⟨hr.2.1,hr.1⟩
   ·exact ⟨fun hm=>(h2 x hx).1 (xM _ hm),(h2 x hx).2⟩
  ·rcases h3 j hj with h|h
   ·rcases xL.1 h with rfl|h
    ·exact .inr (by simp)
    ·exact .inl h
   ·exact .inr (xM _ h)
  ·cases l1 with
   |nil=>
    simp only [xR,List.cons.injEq] at e;obtain ⟨rfl,rfl⟩:=e;exact .inl (TD hc i i (yE _) (.inr hr.2.2) hr.1 y hy)
   |cons z l1=>
    simp only [yY,List.cons.injEq] at e;obtain ⟨rfl,rfl⟩:=e;rcases h4 l1 x l2 rfl y hy with h|h
    ·rcases xL.1 h with rfl|h
     ·exact .inr (by simp)
     ·exact .inl h
    ·exact .inr (xM _ h)
theorem GM {n:Nat}:∀(k:Nat) (l:List Nat),l.Nodup→(∀i,i∈l↔i<n+k)→(∀l1 x l2,l=l1++x::l2→n≤x→∀y,y<x→y∈l1)→∃lp,l=lp++List.range' n k∧lp.Nodup∧∀i,i∈lp↔i<n
 |0,l,hn,hm,hf=>⟨l,by simp,hn,by simpa using hm⟩
 |k+1,l,hn,hm,hf=>by
  have hlast:n+k∈l:=(hm _).2 (by omega);obtain ⟨l1,l2,e⟩:=yX hlast;have hall:=hf l1 (n+k) l2 e (by omega);have hnil:l2=[]:=by
   cases l2 with
   |nil=>rfl
   |cons z l2=>
    have hz:z∈l:=by rw [e];simp
    have hzl:=(hm z).1 hz;rw [e] at hn;rw [xS] at hn;obtain ⟨_,hn2,hn3⟩:=hn;by_cases hzk:z=n+k
    ·subst hzk;simp at hn2
    ·exact (hn3 z (hall z (by omega)) z (by simp) rfl).elim
  subst hnil;have hn':=hn;rw [e,xS] at hn';obtain ⟨lp,h1,h2,h3⟩:=GM (n:=n) k l1 hn'.1 (fun i=>by
   constructor
   ·intro hi;have h4:=(hm i).1 (by rw [e];simp [hi]);have h5:i≠n+k:=fun h=>hn'.2.2 i hi (n+k) (by simp) h;omega
   ·intro hi;exact hall i (by omega)) (fun a x b e2 hx y hy=>by exact hf a x (b++[n+k]) (by rw [e,e2];simp) hx y hy)
  refine ⟨lp,?_,h2,h3⟩;rw [e,h1,List.range'_concat,zH];simp
theorem Pr {σ:Type} (f:Nat→σ→Option σ) (x:Nat):∀(l:List Nat),(∀y∈l,∀s,(f x s).bind (f y)=(f y s).bind (f x))→∀s,(f x s).bind (fun s'=>l.foldlM (fun s i=>f i s) s')=(l.foldlM (fun s i=>f i s) s).bind (f x)
 |[],_,s=>by simp
 |y::l,hc,s=>by
  have ih:=Pr f x l fun z hz=>hc z (by simp [hz]);simp only [foldlM_cons];have h1:=hc y (by simp) s;cases hy:f y s with
  |none=>
   rw [hy] at h1;cases hx:f x s with
   |none=>rfl
   |some s1=>rw [hx] at h1;simp only [Option.bind_some,bind_none] at h1;simp [h1]
  |some s2=>
   rw [hy] at h1;simp only [Option.bind_some] at h1;have h2:=ih s2;rw [← h1] at h2;show (f x s).bind (fun s'=>(f y s').bind fun s''=>l.foldlM (fun s i=>f i s) s'')=((some s2).bind fun s''=>l.foldlM (fun s i=>f i s) s'').bind (f x);rw [← bind_assoc,h2];rfl
theorem Gc {σ:Type} (f:Nat→σ→Option σ):∀(n:Nat) (l:List Nat),l.Nodup→(∀i,i∈l↔i<n)→(∀l1 x l2 y,l=l1++x::l2→y∈l2→y<x→∀s,(f x s).bind (f y)=(f y s).bind (f x))→
  ∀s,l.foldlM (fun s i=>f i s) s=(List.range n).foldlM (fun s i=>f i s) s
 |0,l,hn,hm,hc,s=>by
  cases l with
  |nil=>rfl
  |cons x xs=>exact absurd ((hm x).1 (by simp)) (by omega)
 |n+1,l,hn,hm,hc,s=>by
  have hlast:n∈l:=(hm _).2 (by omega);obtain ⟨l1,l2,e⟩:=yX hlast;have hn':=hn;rw [e,xS,xT] at hn';obtain ⟨n1,⟨n2,n3⟩,n4⟩:=hn';have hm2:∀i,i∈l1++l2↔i<n:=fun i=>by
   constructor
   ·intro hi;have h5:=(hm i).1 (by rw [e];simp only [xK,xL];rcases xK.1 hi with h|h;exact .inl h;exact .inr (.inr h));have h6:i≠n:=fun h=>by
     subst h;rcases xK.1 hi with h|h
     ·exact n4 i h i (by simp) rfl
     ·exact n2 h
    omega
   ·intro hi;have h5:=(hm i).2 (by omega);rw [e] at h5;simp only [xK,xL] at h5 ⊢;rcases h5 with h5|h5|h5
    ·exact .inl h5
    ·omega
    ·exact .inr h5
  have ih:=Gc f n (l1++l2) (xS.2 ⟨n1,n3,fun a ha b hb=>n4 a ha b (by simp [hb])⟩) hm2 (fun a x b y e2 hy hlt=>by
   rcases List.append_eq_append_iff.1 e2 with ⟨a',h1,h2⟩|⟨c',h1,h2⟩
   ·
    exact hc (l1++n::a') x b y (by rw [e,h2];simp) hy hlt
   ·cases c' with
    |nil=>
     simp only [yW] at h1;simp only [xR] at h2;exact hc (l1++[n]) x b y (by rw [e,← h2];simp) hy hlt
    |cons z c'=>
     simp only [yY,List.cons.injEq] at h2;obtain ⟨rfl,h2⟩:=h2;exact hc a x (c'++n::l2) y (by rw [e,h1];simp) (by rw [h2] at hy;simp only [xK,xL] at hy ⊢;rcases hy with h|h;exact .inl h;exact .inr (.inr h)) hlt) s
  have hmv:=fun s=>Pr f n l2 (fun y hy s=>hc l1 n l2 y e hy (by have h5:=(hm y).1 (by rw [e];simp [hy]);have h6:y≠n:=fun h=>n2 (h ▸ hy);omega) s) s
  rw [e,List.range_succ,xB,xB,← ih,xB];show (l1.foldlM (fun s i=>f i s) s).bind _=((l1.foldlM (fun s i=>f i s) s).bind _).bind _;cases l1.foldlM (fun s i=>f i s) s with
  |none=>rfl
  |some s1=>
   simp only [Option.bind_some,foldlM_cons];have:=hmv s1;show (f n s1).bind (fun s'=>l2.foldlM (fun s i=>f i s) s')=(l2.foldlM (fun s i=>f i s) s1).bind (fun s'=>(f n s').bind fun s''=>List.foldlM (fun s i=>f i s) s'' []);rw [this];congr 1;funext s';cases f n s'<;>rfl
end Ab
namespace Ab
open Go
variable {R:Type} {P:Program} {h:Heap}
def Cj (T:List Nat) (h h':Heap):Prop:=h.length≤h'.length∧∀i,i<h.length→i∉T→h'[i]? = h[i]?
theorem Cj.refl (T:List Nat) (h:Heap):Cj T h h:=⟨yE _,fun _ _ _=>rfl⟩
theorem Cj.trans {T:List Nat} {a b c:Heap} (x:Cj T a b) (y:Cj T b c):Cj T a c:=
 ⟨yF x.1 y.1,fun i hi hn=>(y.2 i (yG hi x.1) hn).trans (x.2 i hi hn)⟩
theorem Cj.push (T:List Nat) (h:Heap) (o:AF):Cj T h (h++[o]):=
 ⟨by simp,fun i hi _=>zL hi⟩
theorem Cj.set {T:List Nat} (h:Heap) {i:Nat} (hi:i∈T) (o:AF):Cj T h (h.set i o):=
 ⟨by simp,fun j _ hn=>by rw [xD];intro e;exact hn (e ▸ hi)⟩
theorem Cj.mono {T T':List Nat} (hT:∀i∈T,i∈T') {a b:Heap} (x:Cj T a b):Cj T' a b:=
 ⟨x.1,fun i hi hn=>x.2 i hi fun hm=>hn (hT i hm)⟩
theorem Fl (T:List Nat):∀(vs:List AV) (ts:List TypeId) (h:Heap) {K:List AV→Heap→Option R} {r:R},Dl P ts vs h K=some r→∃vs' h',K vs' h'=some r∧Cj T h h'
 |[],ts,h,K,r,hr=>⟨[],h,by simpa [Dl] using hr,.refl _ _⟩
 |v::vs,ts,h,K,r,hr=>by
  cases v with
  |nilsl=>
   simp only [Dl] at hr;obtain ⟨vs',h',h1,h2⟩:=Fl T vs _ _ hr;exact ⟨_,h',h1,(Cj.push T h _).trans h2⟩
  |_=>
   simp only [Dl] at hr;obtain ⟨vs',h',h1,h2⟩:=Fl T vs _ _ hr;exact ⟨_,h',h1,h2⟩
theorem IY (T:List Nat) {t:TypeId} {cs:List AV} {K:AV→Heap→Option R} {r:R} (hr:Eo P t cs h K=some r):∃v h',K v h'=some r∧Cj T h h':=by unfold Eo at hr;obtain ⟨vs',h',h1,h2⟩:=Fl T _ _ _ hr;exact ⟨_,_,h1,h2.trans (.push T _ _)⟩
theorem EC {α:Type} {f:∀R:Type,(α→Option R)→Option R} (hd:Det f) {R:Type} {K:α→Option R} {r:R} (hr:f R K=some r):∃v,K v=some r:=by
 rcases hd with ⟨v,hv⟩|hn
 ·exact ⟨v,(hv R K).symm.trans hr⟩
 ·rw [hn] at hr;cases hr
theorem K5 {t:TypeId} {a v:AV} {K:Heap→Option R} {r:R} (hr:GB P t h a v K=some r):∃h',K h'=some r∧Cj (Bp a).toList h h':=by
 unfold GB at hr
 try simp only [AB] at hr
 split at hr
 ·obtain ⟨_,hr⟩:=AD hr;split at hr
  ·split at hr
   ·obtain ⟨_,hr⟩:=AD hr;obtain ⟨vs1,hr⟩:=EC (Jn (h:=h) _ _) hr;obtain ⟨vs',h',h1,h2⟩:=Fl _ _ _ _ hr;exact ⟨_,h1,h2.trans (.set _ (by simp [Bp]) _)⟩
   ·cases hr
  ·split at hr
   ·obtain ⟨_,hr⟩:=AD hr;obtain ⟨e,_,hr⟩:=bind_some hr;obtain ⟨xs,hK⟩:=EC (Cr (P:=P) (h:=h) _ _ _) hr;exact ⟨_,hK,.set _ (by simp [Bp]) _⟩
   ·cases hr
  ·cases hr
 ·cases hr
theorem PR {t:TypeId} {s x:AV} {K:AV→Heap→Option R} {r:R} (hr:Er P t h s x K=some r):∃v h',K v h'=some r∧Cj (Bp s).toList h h':=by
 unfold Er at hr
 try simp only [AB] at hr
 obtain ⟨z,_,hr⟩:=bind_some hr;obtain ⟨new,hr⟩:=EC (I1 h z x) hr;split at hr
 ·obtain ⟨_,hr⟩:=AD hr;exact ⟨_,_,hr,.push _ _ _⟩
 ·split at hr
  ·split at hr
   ·obtain ⟨_,hr⟩:=AD hr;exact ⟨_,_,hr,.refl _ _⟩
   ·obtain ⟨_,hr⟩:=AD hr;exact ⟨_,_,hr,.set _ (by simp [Bp]) _⟩
  ·cases hr
 ·cases hr
theorem Ml {t:TypeId} {s x:AV} {K:AV→Heap→Option R} {r:R} (hr:FB P t h s x K=some r):∃v h',K v h'=some r∧Cj (Bp s).toList h h':=by
 unfold FB at hr
 try simp only [AB] at hr
 obtain ⟨z,_,hr⟩:=bind_some hr;obtain ⟨new,hr⟩:=EC (I4 h z x) hr;split at hr
 ·split at hr
  ·obtain ⟨_,hr⟩:=AD hr;exact ⟨_,_,hr,.set _ (by simp [Bp]) _⟩
  ·cases hr
 ·cases hr
theorem TZ {t:TypeId} {d x:AV} {K:AV→Heap→Option R} {r:R} (hr:Oi P t h d x K=some r):∃v h',K v h'=some r∧Cj (Bp d).toList h h':=by
 unfold Oi at hr
 try simp only [AB] at hr
 obtain ⟨z,_,hr⟩:=bind_some hr;obtain ⟨new,hr⟩:=EC (I1 h z x) hr;split at hr
 ·split at hr
  ·obtain ⟨_,hr⟩:=AD hr;exact ⟨_,_,hr,.set _ (by simp [Bp]) _⟩
  ·cases hr
 ·cases hr
theorem RW {t:TypeId} {x:AV} {K:Heap→Option R} {r:R} (hr:Jv P t h x K=some r):∃h',K h'=some r∧Cj (Bp x).toList h h':=by
 unfold Jv at hr
 try simp only [AB] at hr
 split at hr
 ·split at hr
  ·obtain ⟨_,hr⟩:=AD hr;exact ⟨_,hr,.refl _ _⟩
  ·exact ⟨_,hr,.refl _ _⟩
  ·obtain ⟨zs,hr⟩:=EC (I0 (P:=P) h _) hr;split at hr
   ·obtain ⟨_,hr⟩:=AD hr;exact ⟨_,hr,.set _ (by simp [Bp]) _⟩
   ·cases hr
  ·cases hr
 ·cases hr
theorem TR (T:List Nat) {t:TypeId} {n c:AV} {K:AV→Heap→Option R} {r:R} (hr:Oe P t h n c K=some r):∃v h',K v h'=some r∧Cj T h h':=by
 unfold Oe at hr
 try simp only [AB] at hr
 obtain ⟨z,_,hr⟩:=bind_some hr;split at hr
 ·obtain ⟨a,_,hr⟩:=bind_some hr;obtain ⟨b,_,hr⟩:=bind_some hr;obtain ⟨zs,hr⟩:=EC (I0 (P:=P) h _) hr;obtain ⟨_,hr⟩:=AD hr;exact ⟨_,_,hr,.push _ _ _⟩
 ·cases hr
theorem JQ (h:Heap) (v:AV):Cj (Bp v).toList h (Ek h v):=by
 unfold Ek;split
 ·split
  ·exact .set _ (by simp [Bp]) _
  ·exact .refl _ _
 ·exact .refl _ _
theorem Fa:∀(vs:List AV) (h:Heap),Cj (vs.filterMap Bp) h (AX h vs)
 |[],h =>.refl _ _
 |v::vs,h=>by
  have h1:=Fa vs (Ek h v);have h2:=JQ h v;refine (h2.mono fun i hi => ?_).trans (h1.mono fun i hi => ?_)
  ·rw [yZ];cases ho:Bp v with
   |none=>rw [ho] at hi;simp at hi
   |some j=>rw [ho] at hi;simp at hi;simp [hi]
  ·rw [yZ];split
   ·exact hi
   ·exact xM _ hi
theorem Jf {h:Heap}:∀{ls:List AV} {i v:Nat},GU h ls=some (i,v)→i∈ls.filterMap Bp
 |[],i,v,hr=>by simp [GU] at hr
 |x::ls,i,v,hr=>by
  cases x with
  |sref j a b c=>
   simp only [GU] at hr;split at hr
   ·cases hr;simp [Bp]
   ·cases hr
  |_=>first
   |(have:=Jf (ls:=ls) hr;simp only [yZ,Bp];exact this)
   |(have:=Jf (ls:=ls) hr;simp only [yZ,Bp,xL];exact .inr this)
theorem Li:∀(ts:List TypeId) (avs:List AV) {K:List AV→Option R} {r:R},D9 P ts avs K=some r→∃ls,K ls=some r∧∀i∈ls.filterMap Bp,i∈(avs.map fun v=>match v.cells with|some cs=>cs.filterMap Bp|none=>[]).flatten
 |[],[],K,r,hr=>⟨[],by simpa [D9] using hr,fun i hi=>by simp at hi⟩
 |t::ts,v::vs,K,r,hr=>by
  unfold D9 at hr
  try simp only [AB] at hr
  split at hr
  ·split at hr
   ·rename_i cs;obtain ⟨_,hr⟩:=AD hr;obtain ⟨ls,h1,h2⟩:=Li ts vs hr;refine ⟨_,h1,fun i hi => ?_⟩;rw [List.filterMap_append,xK] at hi;rw [xJ,xA,xK];rcases hi with hi|hi
    ·exact .inl (by simpa [AV.cells] using hi)
    ·exact .inr (h2 i hi)
   ·cases hr
  ·obtain ⟨hlf,hr⟩:=AD hr;obtain ⟨ls,h1,h2⟩:=Li ts vs hr;refine ⟨_,h1,fun i hi => ?_⟩;rw [yZ] at hi;rw [xJ,xA,xK];cases ho:Bp v with
   |none=>rw [ho] at hi;exact .inr (h2 i hi)
   |some j=>
    rw [ho] at hi;simp only [xL] at hi;rcases hi with hi|hi
    ·refine .inl ?_;cases v<;>simp [Bp] at ho<;>simp [AV.cells,Bp,hi,ho]
    ·exact .inr (h2 i hi)
  ·cases hr
 |[],v::vs,K,r,hr=>by simp [D9] at hr
 |t::ts,[],K,r,hr=>by simp [D9] at hr
theorem Ns {C:Cfg} {rec:Rec} {pc:BX} {env:Env} {op:Op} {K:AV→Heap→Option R} {r:R} (hl:An C op=true) (hr:Ae C rec pc false env h op K=some r):∃v h',K v h'=some r∧Cj (Ff env op) h h':=by
 by_cases hh:BC op=true
 case neg=>
  have hw:(∃g args argTypes,op = .call {callee :=.value (.func g),args,argTypes})∨(∃t len parts,op = .buildSlice t len parts)∨∃src dst x,op = .convert src dst x:=by unfold An at hl;split at hl<;>first|(exact absurd rfl hh)|(exact .inl ⟨_,_,_,rfl⟩)|(exact .inr (.inl ⟨_,_,_,rfl⟩))|(exact .inr (.inr ⟨_,_,_,rfl⟩))|cases hl
  rcases hw with ⟨g,args,argTypes,rfl⟩|⟨t,len,parts,rfl⟩|⟨src,dst,x,rfl⟩
  case inr.inr=>
   have hf:PC C.P src dst=true:=hl;simp only [Ae,BC,zF,if_false,hf,if_true,Lx] at hr;obtain ⟨s,_,hr⟩:=bind_some hr;exact ⟨_,_,hr,.push _ _ _⟩
  case inr.inl=>
   have hf:C.fnTy t=true:=hl;simp only [Ae,BC,zF,if_false,hf,if_true] at hr;unfold FA at hr
   try simp only [AB] at hr
   split at hr
   ·obtain ⟨s,_,hr⟩:=bind_some hr;obtain ⟨z,_,hr⟩:=bind_some hr;obtain ⟨_,hr⟩:=AD hr;obtain ⟨cs,_,hr⟩:=bind_some hr;exact ⟨_,_,hr,.push _ _ _⟩
   ·cases hr
  have hown:C.own g=true:=hl;have hh':BC (.call {callee :=.value (.func g),args,argTypes})=false:=by simpa using hh
  unfold Ae at hr;simp only [hh',zF,if_false,ev,OS,AB] at hr;obtain ⟨_,hr⟩:=AD hr;unfold GO at hr;simp only [hown,if_true,zF,if_false,AB] at hr;obtain ⟨ls,hr,hls⟩:=Li _ _ hr;obtain ⟨xs,hr⟩:=EC (Cr (P:=C.P) (h:=AX h ls) _ _ _) hr;have hsub0:∀i∈ls.filterMap Bp,i∈Ff env (.call {callee :=.value (.func g),args,argTypes}):=fun i hi=>by have:=hls i hi;rw [xR,yW,map_map] at this;exact this
  split at hr
  ·obtain ⟨_,hr⟩:=AD hr;obtain ⟨ys,_,hr⟩:=bind_some hr;have hr:=KK hr;split at hr
   ·split at hr
    ·exact ⟨_,_,hr,((Fa ls h).mono hsub0).trans (.push _ _ _)⟩
    ·cases hr
   ·cases hr
  obtain ⟨ys,_,hr⟩:=bind_some hr;split at hr
  ·obtain ⟨z,_,hr⟩:=bind_some hr;obtain ⟨_,hr⟩:=AD hr;obtain ⟨_,hr⟩:=AD hr;have hsub:∀i∈ls.filterMap Bp,i∈Ff env (.call {callee :=.value (.func g),args,argTypes}):=fun i hi=>by have:=hls i hi;rw [xR,yW,map_map] at this;exact this
   unfold Qt at hr;split at hr
   ·rename_i i0 v0 hre;split at hr
    ·refine ⟨_,_,hr,.set _ (hsub i0 ?_) _⟩;have hre:GU h ls=some (i0,v0):=by
      split at hre
      ·exact hre
      ·cases hre
     exact Jf hre
    ·cases hr
   ·exact ⟨_,_,hr,((Fa ls h).mono hsub).trans (.push _ _ _)⟩
  ·cases hr
 unfold Ae at hr;simp only [hh,if_true,zF,if_false] at hr;cases op with
 |alloc t=>
  have hrn:C.ren t=none:=by simpa [An] using hl
  simp only [CQ,hrn] at hr;by_cases hc:C.curT t=true
  ·simp only [hc,if_true] at hr;unfold Gt at hr
   try simp only [AB] at hr
   split at hr
   ·obtain ⟨_,hr⟩:=AD hr;obtain ⟨xs,hr⟩:=EC (Cr (P:=C.P) (h:=h) _ _ _) hr;exact ⟨_,_,hr,.push _ _ _⟩
   ·cases hr
  ·simp only [hc,zF,if_false,hop] at hr;split at hr
   ·exact IY _ hr
   ·cases hr
 |box t x=>
  simp only [CQ] at hr;by_cases hc:C.cur (EK x)=true
  ·simp only [hc,if_true] at hr;unfold Lt at hr
   try simp only [AB] at hr
   split at hr
   ·obtain ⟨_,hr⟩:=AD hr;obtain ⟨xs,hr⟩:=EC (Cr (P:=C.P) (h:=h) _ _ _) hr;exact ⟨_,_,hr,.refl _ _⟩
   ·cases hr
  ·simp only [hc,zF,if_false,hop] at hr;split at hr
   ·exact IY _ hr
   ·cases hr
 |store t a x=>
  simp only [CQ] at hr;by_cases hc:C.curT t=true
  ·simp only [hc,if_true] at hr;obtain ⟨h',hr,hk⟩:=K5 hr;refine ⟨_,_,hr,?_⟩;refine hk.trans ?_;cases hv:ev env a<;>first|(simp only [Mn];exact .refl _ _)|skip
   ·simp only [Mn];exact (JQ h' _).mono fun i hi=>by simpa [Bp] using hi
  ·simp only [hc,zF,if_false,hop] at hr;obtain ⟨h',hr,hk⟩:=K5 hr;exact ⟨_,_,hr,hk⟩
 |call c=>
  obtain ⟨callee,args,argTypes⟩:=c;cases callee with
  |builtin b=>
   cases b<;>first|(simp [An] at hl;done)|skip
   ·simp only [CQ,hop,AB] at hr;split at hr
    ·rename_i s x t t' hx _;obtain ⟨_,hr⟩:=AD hr;by_cases hsr:Qn (ev env s) (ev env x)=true
     ·simp only [hsr,if_true] at hr;obtain ⟨v,h',hr,hk⟩:=Ml hr;exact ⟨v,h',hr,hk.mono fun i hi=>by simp only [Ff,hx];exact hi⟩
     ·simp only [hsr,zF,if_false] at hr;obtain ⟨v,h',hr,hk⟩:=PR hr;exact ⟨v,h',hr,hk.mono fun i hi=>by simp only [Ff,hx];exact hi⟩
    ·cases hr
   ·simp only [CQ,hop] at hr;split at hr
    ·rename_i x t hx _;obtain ⟨h',hr,hk⟩:=RW hr;exact ⟨_,h',hr,hk.mono fun i hi=>by simp only [Ff,hx];exact hi⟩
    ·cases hr
   ·simp only [CQ,hop] at hr;split at hr
    ·rename_i d x t _ hx _;obtain ⟨v,h',hr,hk⟩:=TZ hr;exact ⟨v,h',hr,hk.mono fun i hi=>by simp only [Ff,hx];exact hi⟩
    ·cases hr
  |_=>simp [BC] at hh
 |makeSlice t n c=>simp only [CQ,hop] at hr;exact TR _ hr
 |makeMap t r=>
  cases r with
  |none=>
   simp only [CQ,hop] at hr;unfold Gs at hr;split at hr
   ·exact ⟨_,_,hr,.push _ _ _⟩
   ·cases hr
  |some r=>simp [An] at hl
 |mapUpdate t m x v=>
  simp only [CQ,hop] at hr;unfold I9 at hr;simp only [AB] at hr;split at hr
  ·rename_i hm _ _;split at hr
   ·obtain ⟨_,hr⟩:=AD hr;exact ⟨_,_,hr,.set _ (by simp only [Ff,hm];simp [Bp]) _⟩
   ·cases hr
  ·cases hr
 |_=>first|(simp [An] at hl;done)|(simp [BC] at hh;done)
end Ab
