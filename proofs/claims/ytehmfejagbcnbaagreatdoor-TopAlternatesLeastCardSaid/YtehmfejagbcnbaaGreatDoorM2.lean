/- A part of the proof: see the last text. -/
import Derived.Test.YtehmfejagbcnbaaGreatDoorM1
import Derived.WideMake
import Derived.RangeFuncRecord
import Derived.RangeFuncLeaves
import Derived.Shelf.Spec.SlicesInsert
import Derived.Shelf.Spec.SlicesInsertGrow
set_option linter.unusedVariables false
set_option linter.unusedSimpArgs false
open Array (eq_empty_of_size_eq_zero getElem?_modify getElem?_toList size_append toArray_toList)
open Bool (and_eq_true false_eq_true not_eq_true' or_eq_true)
open Int (le_of_lt toNat toNat_natCast)
open List (all_cons all_eq_true append_assoc append_nil append_of_mem cons_append drop eq_nil_of_length_eq_zero ext_getElem? filterMap_cons flatten_cons foldlM_append foldlM_cons foldl_cons getD_eq_getElem?_getD getElem?_append_left getElem?_append_right getElem?_cons_succ getElem?_drop getElem?_eq_getElem getElem?_eq_none getElem?_map getElem?_range getElem?_set_ne getElem?_set_self getElem?_take getElem?_take_of_lt length length_append length_cons length_drop length_map length_nil length_pos_iff length_take map_congr_left map_cons map_map mem_append mem_cons mem_cons_of_mem mem_filter mem_filterMap mem_flatten mem_map mem_of_getElem? mem_of_mem_drop mem_range mem_singleton nil_append nodup_append nodup_cons nodup_nil replicate singleton_append size_toArray take take_of_length_le)
open Nat (add_assoc add_le_add_left add_mul add_zero le_refl le_succ le_trans lt_of_lt_of_le lt_or_ge min_def mod_lt mul_comm mul_le_mul_right not_lt pos_of_ne_zero succ_mul zero_add zero_le)
open Option (bind_assoc map_some)
namespace Ab
open Go
variable {R:Type} {P:Program} {B:Nat→Prop} {κ:A1} {h:Heap} {w:World} {N:Nat} {env:Env} {a:Act}
theorem OA (hr:Rel B N κ env h a w) (x:Option Operand):WY B κ h w (Iz env x) (x.map a.eval):=by
 cases x with
 |none=>exact trivial
 |some x=>exact BB hr x
theorem Fg (hr:Rel B N κ env h a w) (parts:Array (Nat×Operand)):(parts.map fun (i,x)=>(i,a.eval x)).size=(parts.toList.map fun p=>(p.1,ev env p.2)).length∧
  ∀(j i:Nat) (x:AV),(parts.toList.map fun p=>(p.1,ev env p.2))[j]? = some (i,x)→∃v,(parts.map fun (i,x)=>(i,a.eval x)).toList[j]? = some (i,v)∧AR B κ h w x v:=by
 refine ⟨by simp,fun j i x hx => ?_⟩;rw [getElem?_map] at hx;cases hp:parts.toList[j]? with
 |none=>rw [hp] at hx;cases hx
 |some p=>
  rw [hp] at hx;simp only [map_some,Option.some.injEq,Prod.mk.injEq] at hx;obtain ⟨rfl,rfl⟩:=hx;refine ⟨a.eval p.2,?_,BB hr p.2⟩;rw [Array.toList_map,getElem?_map,hp];rfl
theorem IL (hr:Rel B N κ env h a w) (xs:Array Operand):(xs.map a.eval).size=(xs.toList.map (ev env)).length∧∀(j:Nat) (x:AV),(xs.toList.map (ev env))[j]? = some x→AR B κ h w x ((xs.map a.eval).getD j undef):=by
 refine ⟨by simp,fun j x hx => ?_⟩;rw [getElem?_map] at hx;cases hp:xs.toList[j]? with
 |none=>rw [hp] at hx;cases hx
 |some p=>
  rw [hp] at hx;simp only [map_some,Option.some.injEq] at hx;subst hx;have hj:j<xs.size:=by simpa using (List.getElem?_eq_some_iff.1 hp).1
  have he:xs[j]=p:=by simpa [hj] using hp
  simp only [Array.getD,Array.size_map,hj,dif_pos];simpa [he] using BB hr p
theorem Mh (mx:Bool):∀{l:List AV} {x:Int} {K:AV→Option R} {r:R} {vs:List Value},JP.go mx x l K=some r→vs.length=l.length→(∀(j:Nat) (y:AV) (v:Value),l[j]? = some y→vs[j]? = some v→AR B κ h w y v)→
  ∃n:Int,K (.t (.int .i64 n))=some r∧(vs.foldlM (if mx then Builtin.max2 else Builtin.min2) (.int .i64 x):Sem Value).run P w = .ok (.int .i64 n) w
 |[],x,K,r,vs,hr,hl,hv=>by obtain rfl:vs=[]:=eq_nil_of_length_eq_zero (by simpa using hl);exact ⟨x,hr,by simp⟩
 |y::l,x,K,r,vs,hr,hl,hv=>by
  cases vs with
  |nil=>simp at hl
  |cons v vs=>
   simp only [JP.go] at hr;obtain ⟨b,hb,hr1⟩:=bind_some hr;obtain rfl:=CH hb (hv 0 y v rfl rfl);obtain ⟨n,h1,h2⟩:=Mh mx (vs:=vs) hr1 (by simpa using hl) fun j y' v' hy hv'=>hv (j+1) y' v' (by simpa using hy) (by simpa using hv');refine ⟨n,h1,?_⟩;cases mx
   ·simp only [false_eq_true,if_false] at h2 ⊢;simp [Builtin.min2,h2]
   ·simp only [if_true] at h2 ⊢;simp [Builtin.max2,h2]
theorem Qn (mx:Bool) {l:List AV} {K:AV→Option R} {r:R} {vs:List Value} (hr:JP mx l K=some r) (hl:vs.length=l.length) (hv:∀(j:Nat) (y:AV) (v:Value),l[j]? = some y→vs[j]? = some v→AR B κ h w y v) (ts:Array TypeId) (ty:TypeId) :
  ∃n:Int,K (.t (.int .i64 n))=some r∧(if mx then Builtin.max_ ts ty vs.toArray else Builtin.min_ ts ty vs.toArray).run P w = .ok (.int .i64 n) w:=by
 cases l with
 |nil=>simp [JP] at hr
 |cons x l=>
  cases vs with
  |nil=>simp at hl
  |cons v vs=>
   simp only [JP] at hr;obtain ⟨b,hb,hr1⟩:=bind_some hr;obtain rfl:=CH hb (hv 0 x v rfl rfl);obtain ⟨n,h1,h2⟩:=Mh (P:=P) mx (vs:=vs) hr1 (by simpa using hl) fun j y' v' hy hv'=>hv (j+1) y' v' (by simpa using hy) (by simpa using hv');refine ⟨n,h1,?_⟩;cases mx<;>simpa [Builtin.max_,Builtin.min_] using h2
theorem N5 {k:IntKind} {n:Int}:∀{m:List (Int×Nat)} {K:AV→Option R} {r:R} {es:List MapEntry} {i:Nat},KB n m K=some r→es.map (fun e=>(e.key,e.val))=m.map (fun p=>(.int k p.1,.func (.func p.2) #[] #[]))→
  ∃v,K v=some r∧((Instr.findNow (.int k) (.int k n) es i=some none∧∀z,AR B κ h w v (.tuple #[z,.bool false]))∨∃j val,Instr.findNow (.int k) (.int k n) es i=some (some (j,val))∧AR B κ h w v (.tuple #[val,.bool true]))
 |[],K,r,[],i,hq,he=>⟨_,hq,.inl ⟨rfl,fun z =>.tuple _ _ rfl (fun j x hx=>by
   match j,hx with
   |0,hx=>cases hx;exact .undef _
   |1,hx=>cases hx;exact .t _ _ (.bool _))⟩⟩
 |[],K,r,e::es,i,hq,he=>by simp at he
 |p::m,K,r,[],i,hq,he=>by simp at he
 |p::m,K,r,e::es,i,hq,he=>by
  simp only [map_cons,List.cons.injEq,Prod.mk.injEq] at he;obtain ⟨⟨h1,h2⟩,h3⟩:=he;simp only [KB,AF] at hq;split at hq
  ·rename_i hn;refine ⟨_,hq,.inr ⟨i,.func (.func p.2) #[] #[],?_,.tuple _ _ rfl (fun j x hx => ?_)⟩⟩
   ·simp only [Instr.findNow,Instr.sameNow,h1,h2,hn,if_true,beq_self_eq_true]
   ·match j,hx with
    |0,hx=>cases hx;exact .func _ _ _ #[] #[] rfl rfl (fun j x hx=>by simp at hx) (fun j x hx=>by simp at hx)
    |1,hx=>cases hx;exact .t _ _ (.bool _)
  ·rename_i hn;obtain ⟨v,g1,g3⟩:=N5 (i:=i+1) hq h3;refine ⟨v,g1,?_⟩;simp only [Instr.findNow,Instr.sameNow,h1,if_true];rw [show (n==p.1)=false by simpa using hn];exact g3
theorem Cd {P:Program} {w:World} {b:Nat} {es:Array MapEntry} {clock:Nat} (hb:w.heap[b]? = some (.map es clock)):(getObj b).run P w = .ok (.map es clock) w:=by simp [getObj,Sem.run,hb]
theorem MV (P:Program) (w:World) (f:Nat→Value):∀(js:List Nat) (bs:List UInt8) (s:ByteArray),js.length=bs.length→(∀(k j:Nat) (b:UInt8),js[k]? = some j→bs[k]? = some b→∃n:Int,f j = .int .u8 n∧UInt8.ofNat n.toNat=b)→
  (forIn js s (fun a y=>match f a with
   | .int .u8 n=>pure (ForInStep.yield (y.push (UInt8.ofNat n.toNat)))
   | _ => (fun _ => ForInStep.yield y) <$> (stuck "bytesToString: byte expected" : Sem PUnit)) : Sem ByteArray).run P w = .ok (bs.foldl ByteArray.push s) w
 |[],[],s,_,_=>by simp
 |v::vs,b::bs,s,hl,h=>by obtain ⟨n,hf,hb⟩:=h 0 v b rfl rfl;have ih:=MV P w f vs bs (s.push b) (by simpa using hl) fun k j b hv hb=>h (k+1) j b (by simpa using hv) (by simpa using hb);rw [List.forIn_cons];simp [hf,hb,ih]
 |[],_::_,_,hl,_=>by simp at hl
 |_::_,[],_,hl,_=>by simp at hl
def Qc:Option (List Tree)→Value
 |some [.int .u8 n]=>.int .u8 n
 |_ =>.int .u8 0
theorem Ud {src dst:TypeId} {x:AV} {K:AV→Option R} {r:R} (hq:KF P h src dst x K=some r) (hh:Ak B κ h w) {vx:Value} (hx:AR B κ h w x vx) :
  ∃v val,K v=some r∧(convert src dst vx).run P w = .ok val w∧AR B κ h w v val:=by
 unfold KF at hq;simp only [AF] at hq;split at hq
 ·rename_i e hu1 hu2;split at hq
  ·rename_i hu3;obtain ⟨es,hq1,hs⟩:=JF hq hh hx;obtain ⟨hb,hK⟩:=AH hq1;obtain ⟨_,a,cap,rfl,hcap,hc⟩:=hs;refine ⟨_,.string (bytesOf es),hK,?_,.t _ _ (.str _)⟩;have hby:∀(j:Nat) (e:List Tree),es[j]? = some e→∃n:Int,e=[.int .u8 n]:=fun j e he=>by
    have:=(all_eq_true.1 hb) e (mem_of_getElem? he);unfold S1 at this;split at this
    ·exact ⟨_,rfl⟩
    ·cases this
   rcases hc with rfl|⟨b,off,rfl,hlt,hcells⟩
   ·cases a with
    |none=>simp [convert,run_underlying hu1,run_underlying hu2,run_underlying hu3,Conv.bytesToString,bytesOf]
    |some a=>simp [convert,run_underlying hu1,run_underlying hu2,run_underlying hu3,Conv.bytesToString,bytesOf,loadCells,loadCellsFrom]
   ·have hcell:∀j,j<es.length→∃n:Int,es[j]? = some [.int .u8 n]∧w.cell? ⟨b,off+j,none⟩=some (.int .u8 n):=fun j hj=>by
     obtain ⟨n,hn⟩:=hby j es[j] (getElem?_eq_getElem hj);have he:es[j]? = some [.int .u8 n]:=by rw [getElem?_eq_getElem hj,hn]
     obtain ⟨u,hu,ht⟩:=hcells j [.int .u8 n] 0 (.int .u8 n) he rfl;cases ht;exact ⟨n,he,by simpa using hu⟩
    have hl:=run_loadCells (P:=P) w ⟨b,off,none⟩ es.length (fun j=>Qc es[j]?) (fun j hj=>by
      obtain ⟨n,he,hc⟩:=hcell j hj;unfold Addr.add;split
      ·rename_i h0;subst h0;simp only [he,Qc];simpa using hc
      ·simp only [he,Qc];simpa using hc)
    have hloop:=MV P w (fun j=>Qc es[j]?) (List.range es.length) (es.map byteL) ByteArray.empty (by simp) (fun k j bb hj hbb=>by
     obtain ⟨h1,h2⟩:=List.getElem?_eq_some_iff.1 hj;have h1:k<es.length:=by simpa using h1
     have h2:j=k:=by simpa using h2.symm
     subst h2;obtain ⟨n,he,_⟩:=hcell j h1;rw [getElem?_map,he] at hbb;simp only [map_some,Option.some.injEq] at hbb;exact ⟨n,by simp [he,Qc],by rw [← hbb];rfl⟩)
    simp [convert,run_underlying hu1,run_underlying hu2,run_underlying hu3,Conv.bytesToString,hl];exact (congrArg (fun z=>z.andThen fun a w'=>Result.ok (Value.string a) w') (show _=Result.ok (bytesOf es) w from hloop)).trans rfl
  ·cases hq
 ·exact Qw (P:=P) hq hx
theorem SH {t:TypeId} {x ix:AV} {K:AV→Option R} {r:R} (hq:JR P t x ix K=some r) {vx vi:Value} (hx:AR B κ h w x vx) (hi:AR B κ h w ix vi) :
  ∃v val,K v=some r∧(Instr.index t vx vi).run P w = .ok val w∧AR B κ h w v val:=by
 unfold JR at hq;simp only [AF] at hq;split at hq
 ·rename_i s k i hu;obtain ⟨⟨h0,h1⟩,hq1⟩:=AH hq;cases hx with|t _ _ hx=>
  cases hx;cases hi with|t _ _ hi=>
  cases hi;have hlt:i.toNat<s.size:=by omega
  refine ⟨_,.int .u8 (SB s i.toNat),hq1,?_,.t _ _ (.int _ _)⟩;have hb:s[i.toNat]? = some s[i.toNat]:=by simp [hlt]
  simp [Instr.index,Go.asIntOf,run_underlying hu,h0,hb,SB]
 ·rename_i n e cs k i hu;obtain ⟨⟨ha,hz,hl⟩,hq1⟩:=AH hq;obtain ⟨⟨h0,h1⟩,hq2⟩:=AH hq1;have hq3:=Iu hq2;cases hi with|t _ _ hi=>
  cases hi;cases hx with
  |agg _ vs hvs hve=>
   obtain ⟨v,hv1,hv2⟩:=OR (P:=P) (B:=B) (κ:=κ) (h:=h) (w:=w) (g:=fun j=>cs.getD j .undef) (off:=0) (n:=cs.length) (o:=i.toNat) (m:=1) (vs:=vs) (t:=e) (fun j hj=>by have hg:cs[j]? = some cs[j]:=getElem?_eq_getElem hj;have:=hve j _ hg;simpa [List.getD,hg] using this) hvs hz (by omega) ha (fun _=>rfl)
   unfold Fits at hv2;rw [ha] at hv2;refine ⟨_,v,hq3,?_,by simpa using hv2⟩;simp [Instr.index,Go.asIntOf,run_underlying hu,h0,h1,BN hz,hv1]
 ·cases hq
theorem SF {t:TypeId} {m x:AV} {K:AV→Option R} {r:R} (hq:JQ P t m x K=some r) {vm vx:Value} (hm:AR B κ h w m vm) (hx:AR B κ h w x vx) :
  ∃v val,K v=some r∧(Instr.lookup t vm vx true).run P w = .ok val w∧AR B κ h w v val:=by
 unfold JQ at hq;simp only [AF] at hq;split at hq
 ·rename_i k l k' n;obtain ⟨⟨rfl,hT⟩,hq1⟩:=AH hq;clear hq;cases hx with|t _ _ hx=>
  cases hx;cases hm with|t _ _ hm=>
  cases hm with|mp _ _ b es clock h1 h2 h3 h4=>
  unfold mapTy at hT;split at hT
  ·rename_i key elem hu;rw [and_eq_true] at hT;obtain ⟨hT,hz⟩:=hT;split at hT
   ·rename_i k2 hk;obtain rfl:k2=k':=by simpa using hT
    obtain ⟨i,z,hi,hz⟩:∃i z,P.info? elem=some i∧i.zero=some z:=by
     cases hi:P.info? elem with
     |none=>simp [hi] at hz
     |some i=>cases hz':i.zero with
      |none=>simp [hi,hz'] at hz
      |some z=>exact ⟨i,z,rfl,hz'⟩
    obtain ⟨v,g1,g3⟩:=N5 (B:=B) (κ:=κ) (h:=h) (w:=w) (i:=0) hq1 h4;have hck:∀(e:Bool),(Instr.checkKey e 10000 key (.int k2 n)).run P w = .ok () w:=fun e=>by
     have:∀m:Nat,(Instr.checkKey e (m+1) key (.int k2 n)).run P w = .ok () w:=fun m=>by simp [Instr.checkKey,run_underlying hk]
     exact this 9999
    rcases g3 with ⟨g3,g2⟩|⟨j,val,g3,g2⟩
    ·refine ⟨v,_,g1,?_,g2 z⟩;simp [Instr.lookup,run_underlying hu,Cd h3,hck,Instr.findKey,run_underlying hk,g3,zeroValue,typeInfo,hi,hz]
    ·refine ⟨v,_,g1,?_,g2⟩;simp [Instr.lookup,run_underlying hu,Cd h3,hck,Instr.findKey,run_underlying hk,g3]
   ·cases hT
  ·cases hT
 ·cases hq
theorem KR {t:TypeId} {k ke:IntKind} (h:Gt P t=some (k,ke)):∃key elem i,P.underlying t=some (.map key elem)∧P.underlying key=some (.int k)∧P.info? elem=some i∧i.zero=some (.int ke 0):=by
 unfold Gt at h;split at h
 ·rename_i key elem hu;split at h
  ·rename_i k1 ke1 h1 h2;split at h
   ·rename_i hz;cases h;unfold SQ at hz;split at hz
    ·rename_i k2 z hb;simp only [and_eq_true,decide_eq_true_eq] at hz;obtain ⟨rfl,rfl⟩:=hz;cases hi:P.info? elem with
     |none=>rw [hi] at hb;cases hb
     |some i=>rw [hi] at hb;exact ⟨key,elem,i,hu,h1,hi,hb⟩
    ·cases hz
   ·cases h
  ·cases h
 ·cases h
theorem On {k ke:IntKind} {n:Int}:∀(l:List MapEntry) (es:List (Int×Int)) (i:Nat),l.map (fun e=>(e.key,e.val))=es.map (fun p=>((.int k p.1:Value),(.int ke p.2:Value)))→
  (As n es=none∧Instr.findNow (.int k) (.int k n) l i=some none)∨∃j v,As n es=some v∧es[j]? = some (n,v)∧Instr.findNow (.int k) (.int k n) l i=some (some (i+j,.int ke v))∧∀y,BO n y es=es.set j (n,y)
 |[],es,i,h=>by
  have:es=[]:=by
   cases es with
   |nil=>rfl
   |cons p l=>simp at h
  subst this;exact .inl ⟨rfl,rfl⟩
 |e::l,[],i,h=>by simp at h
 |e::l,p::es,i,h=>by
  simp only [map_cons,List.cons.injEq,Prod.mk.injEq] at h;obtain ⟨⟨h1,h2⟩,h3⟩:=h;by_cases hn:n=p.1
  ·refine .inr ⟨0,p.2,by simp [As,hn],by simp [hn],?_,fun y=>by simp [BO,hn]⟩;simp [Instr.findNow,Instr.sameNow,h1,h2,hn]
  ·have hb:(n==p.1)=false:=by simpa using hn
   rcases On (n:=n) l es (i+1) h3 with ⟨a1,a2⟩|⟨j,v,a1,a2,a3,a4⟩
   ·exact .inl ⟨by simp [As,hn,a1],by simp [Instr.findNow,Instr.sameNow,h1,hb,a2]⟩
   ·refine .inr ⟨j+1,v,by simp [As,hn,a1],by simpa using a2,?_,fun y=>by simp [BO,hn,a4 y]⟩;simp only [Instr.findNow,Instr.sameNow,h1,if_true,hb,a3];rw [show i+1+j=i+(j+1) by omega]
theorem KQ {n y:Int}:∀{es:List (Int×Int)},As n es=none→BO n y es=es++[(n,y)]
 |[],_=>rfl
 |p::es,h=>by
  unfold As at h;split at h
  ·cases h
  ·rename_i hn;simp [BO,hn,KQ h]
theorem Fm {key:TypeId} {k:IntKind} (hk:P.underlying key=some (.int k)) (e:Bool) (n:Int) (w:World):(Instr.checkKey e 10000 key (.int k n)).run P w = .ok () w:=by
 have:∀m:Nat,(Instr.checkKey e (m+1) key (.int k n)).run P w = .ok () w:=fun m=>by simp [Instr.checkKey,run_underlying hk]
 exact this 9999
theorem UY {t:TypeId} {i:Nat} {x:AV} {co:Bool} {K:AV→Option R} {r:R} (hq:KC P t h i x co K=some r) (hh:Ak B κ h w) {vm vx:Value} (hm:AR B κ h w (.mref i) vm) (hx:AR B κ h w x vx) :
  ∃v val,K v=some r∧(Instr.lookup t vm vx co).run P w = .ok val w∧AR B κ h w v val:=by
 unfold KC at hq;simp only [AF] at hq;split at hq
 ·rename_i k ke es kx n k' ke' hi hmk;obtain ⟨⟨rfl,rfl,rfl⟩,hq1⟩:=AH hq;cases hm with|mref _ b hk _=>
  obtain ⟨h0,en,clock,hb,hs⟩:=hh.obj i _ _ hi hk;cases hx with|t _ _ hx=>
  cases hx;obtain ⟨key,elem,io,hu,hku,hio,hz⟩:=KR hmk;rcases On (n:=n) en.toList es 0 hs with ⟨a1,a2⟩|⟨j,v,a1,a2,a3,a4⟩
  ·rw [a1] at hq1;cases co with
   |true=>exact ⟨_,_,hq1,by simp [Instr.lookup,run_underlying hu,Cd hb,Fm hku,Instr.findKey,run_underlying hku,a2,zeroValue,typeInfo,hio,hz];rfl,.tuple _ _ rfl fun j y hy=>by
     match j,hy with
     |0,hy=>cases hy;exact .t _ _ (.int _ _)
     |1,hy=>cases hy;exact .t _ _ (.bool _)⟩
   |false=>exact ⟨_,_,hq1,by simp [Instr.lookup,run_underlying hu,Cd hb,Fm hku,Instr.findKey,run_underlying hku,a2,zeroValue,typeInfo,hio,hz],.t _ _ (.int _ _)⟩
  ·rw [a1] at hq1;cases co with
   |true=>exact ⟨_,_,hq1,by simp [Instr.lookup,run_underlying hu,Cd hb,Fm hku,Instr.findKey,run_underlying hku,a3];rfl,.tuple _ _ rfl fun j y hy=>by
     match j,hy with
     |0,hy=>cases hy;exact .t _ _ (.int _ _)
     |1,hy=>cases hy;exact .t _ _ (.bool _)⟩
   |false=>exact ⟨_,_,hq1,by simp [Instr.lookup,run_underlying hu,Cd hb,Fm hku,Instr.findKey,run_underlying hku,a3],.t _ _ (.int _ _)⟩
 ·cases hq
theorem DA {r:Nat} {o:Obj} (hr:w.heap[r]? = some o):r<w.heap.size:=by
 rcases lt_or_ge r w.heap.size with y|y
 ·exact y
 ·rw [Array.getElem?_eq_none y] at hr;cases hr
theorem NU (hh:Ak B κ h w) {i b:Nat} {k ke:IntKind} {es es':List (Int×Int)} {en en':Array MapEntry} {clock clock':Nat} (hi:h[i]? = some (.mapo k ke es)) (hk:κ[i]? = some (some (b,0)))
  (hb:w.heap[b]? = some (.map en clock)) (hs:en'.toList.map (fun e=>(e.key,e.val))=es'.map fun p=>((.int k p.1:Value),(.int ke p.2:Value))) :
  Ak B κ (h.set i (.mapo k ke es')) (w.putObj b (.map en' clock'))∧Ext κ h w κ (h.set i (.mapo k ke es')) (w.putObj b (.map en' clock')):=by
 have hlt:=DA hb;have hil:=AU hi;have hE:Ex κ h b:=⟨i,0,_,hk,hi,rfl⟩
 have hget:∀(j:Nat) (o:AE),(h.set i (.mapo k ke es'))[j]? = some o→(j=i∧o = .mapo k ke es')∨(j≠i∧h[j]? = some o):=fun j o hj=>by
  by_cases e:j=i
  ·subst e;rw [getElem?_set_self hil] at hj;cases hj;exact .inl ⟨rfl,rfl⟩
  ·rw [getElem?_set_ne (Ne.symm e)] at hj;exact .inr ⟨e,hj⟩
 have x:Ext κ h w κ (h.set i (.mapo k ke es')) (w.putObj b (.map en' clock')):=by
  refine ⟨rfl,rfl,rfl,by simp,fun b' hb' hn=>World.putObj_heap_other fun e=>hn (e ▸ hE),fun b' he => ?_,fun j o ho => ?_,fun _ _ _ _ _ _=>rfl,fun j o o' ho ho' _ b' base hb' cells elem fr hc => ?_⟩
  ·obtain ⟨j,base,o,h1,h2,h3⟩:=he;rcases hget j o h2 with ⟨rfl,rfl⟩|⟨_,h2⟩
   ·exact .inl ⟨j,base,_,h1,hi,rfl⟩
   ·exact .inl ⟨j,base,o,h1,h2,h3⟩
  ·by_cases e:j=i
   ·subst e;rw [hi] at ho;cases ho;exact ⟨.mapo k ke es',getElem?_set_self hil,rfl,le_refl _,fun _=>⟨rfl,rfl⟩,(fun e=>by cases e),(fun e=>by cases e),rfl⟩
   ·exact ⟨o,(getElem?_set_ne (Ne.symm e)).trans ho,.refl o⟩
  ·by_cases e:b'=b
   ·subst e;rw [World.putObj_heap_same hlt] at hc;cases hc
   ·rw [World.putObj_heap_other e] at hc;exact ⟨cells,hc,rfl⟩
 refine ⟨⟨by simp [hh.len],hh.inj,hh.notB,fun j b' bs hj=>by simpa using hh.lt j b' bs hj,fun b' hb'=>by simpa using hh.ltB b' hb',fun j o k' ho hk' => ?_⟩,x⟩;rcases hget j o ho with ⟨rfl,rfl⟩|⟨hne,ho⟩
 ·rw [hk] at hk';cases hk';exact ⟨rfl,en',clock',World.putObj_heap_same hlt,hs⟩
 ·refine (hh.obj j o k' ho hk').ext x fun b' base e=>World.putObj_heap_other fun e2 => ?_;subst e e2;exact hne (hh.inj j i _ _ _ hk' hk)
theorem Qp {t:TypeId} {K:AV→Heap→Option R} {r:R} (hq:Fq P t h K=some r) (hh:Ak B κ h w) :
  ∃v h' κ' val w',K v h'=some r∧(Instr.makeMap t none).run P w = .ok val w'∧AR B κ' h' w' v val∧Ak B κ' h' w'∧Ext κ h w κ' h' w':=by
 unfold Fq at hq;split at hq
 ·rename_i k ke hmk;have x:=Be hh (w':=w.alloc (.map #[] 0)) (k:=some (w.heap.size,0)) (o :=.mapo k ke []) rfl rfl rfl (by simp) (fun b hb=>Al w _ hb) (fun b base e=>by cases e;exact le_refl _);refine ⟨_,_,_,_,_,hq,run_makeMap_plain _ t,.mref _ _ (by rw [← hh.len];exact Ai κ _) ⟨k,ke,[],Ai _ _⟩,BM hh (fun b hb=>Al w _ hb) x (fun b base e=>by cases e;exact ⟨le_refl _,by simp⟩) ⟨rfl,#[],0,A8 w _,rfl⟩,x⟩
 ·cases hq
theorem SE {t:TypeId} {m x v:AV} {K:Heap→Option R} {r:R} (hq:Hf P t h m x v K=some r) (hh:Ak B κ h w) {vm vx vv:Value} (hm:AR B κ h w m vm) (hx:AR B κ h w x vx) (hv:AR B κ h w v vv) :
  ∃h' w',K h'=some r∧(Instr.mapUpdate t vm vx vv).run P w = .ok () w'∧Ak B κ h' w'∧Ext κ h w κ h' w':=by
 unfold Hf at hq;simp only [AF] at hq;split at hq
 ·rename_i i kx n kv y;split at hq
  ·rename_i k ke es k' ke' hi hmk;obtain ⟨⟨rfl,rfl,rfl,rfl⟩,hq1⟩:=AH hq;cases hm with|mref _ b hk _=>
   obtain ⟨h0,en,clock,hb,hs⟩:=hh.obj i _ _ hi hk;cases hx with|t _ _ hx=>
   cases hx;cases hv with|t _ _ hv=>
   cases hv;obtain ⟨key,elem,io,hu,hku,hio,hz⟩:=KR hmk;rcases On (n:=n) en.toList es 0 hs with ⟨a1,a2⟩|⟨j,v,a1,a2,a3,a4⟩
   ·have hp:=NU (en':=en.push {key :=.int kx n,val :=.int kv y,born:=clock}) (clock':=clock+1) hh hi hk hb (es':=BO n y es) (by rw [KQ a1];simp [hs]);refine ⟨_,_,hq1,?_,hp⟩;simp only [Instr.mapUpdate,Sem.run_bind,run_underlying hu,Result.andThen_ok,Cd hb,Fm hku,Instr.findKey,run_underlying hku,a2,Sem.run_pure];simp [setObj,Sem.run,hb,World.putObj]
   ·rw [zero_add] at a3;have he:∃e:MapEntry,en[j]? = some e∧e.key = .int kx n:=by
     have:=congrArg (fun l=>l[j]?) hs;simp only [getElem?_map,a2,map_some,getElem?_toList] at this;cases hj:en[j]? with
     |none=>rw [hj] at this;cases this
     |some e=>rw [hj] at this;simp only [map_some,Option.some.injEq,Prod.mk.injEq] at this;exact ⟨e,rfl,this.1⟩
    obtain ⟨e,hj,hek⟩:=he;have hp:=NU (en':=en.modify j fun e=>{e with key :=.int kx n,val :=.int kv y}) (clock':=clock) hh hi hk hb (es':=BO n y es) (by
     rw [a4 y];refine ext_getElem? fun q => ?_;have hq:=congrArg (fun l=>l[q]?) hs;simp only [getElem?_map,getElem?_toList] at hq;simp only [getElem?_map,getElem?_toList,getElem?_modify,List.getElem?_set];by_cases hqj:j=q
     ·subst hqj;simp [hj,AU a2]
     ·simp [hqj,hq])
    refine ⟨_,_,hq1,?_,hp⟩;have hst:(Instr.keyThatStays (((en[j]?).map (·.key)).getD (.int kx n)) (.int kx n)).run P w = .ok (.int kx n) w:=by rw [hj];simp [Instr.keyThatStays,Instr.sameBits,hek]
    simp only [Instr.mapUpdate,Sem.run_bind,run_underlying hu,Result.andThen_ok,Cd hb,Fm hku,Instr.findKey,run_underlying hku,a3,Sem.run_pure,hst];simp [setObj,Sem.run,hb,World.putObj]
  ·cases hq
 ·cases hq
theorem Qd {t:TypeId} {len:Nat} {parts:Array (Nat×Operand)} {K:AV→Heap→Option R} {r:R} (hq:EC P t h len (parts.toList.map fun p=>(p.1,ev env p.2)) K=some r) (hr:Rel B N κ env h a w) (o:Oper) (ho:o.op = .buildSlice t len parts) :
  ∃v h' κ' val w',K v h'=some r∧(execOp a.eval o).run P w = .ok (.value val) w'∧AR B κ' h' w' v val∧Ak B κ' h' w'∧Ext κ h w κ' h' w':=by
 unfold execOp;rw [ho];obtain ⟨v,h',κ',val,w',h1,h2,h3,h4,h5⟩:=PA (P:=P) hq (Fg hr parts).1 (Fg hr parts).2 hr.heap;exact ⟨v,h',κ',val,w',h1,by simp [h2],h3,h4,h5⟩
theorem VT {src dst:TypeId} {x:Operand} {K:AV→Heap→Option R} {r:R} (hb:Mz P src dst=true) (hq:J9 h (ev env x) K=some r) (hr:Rel B N κ env h a w) (o:Oper) (ho:o.op = .convert src dst x) :
  ∃v h' κ' val w',K v h'=some r∧(execOp a.eval o).run P w = .ok (.value val) w'∧AR B κ' h' w' v val∧Ak B κ' h' w'∧Ext κ h w κ' h' w':=by
 unfold execOp;rw [ho];obtain ⟨v,h',κ',val,w',h1,h2,h3,h4,h5⟩:=UX (P:=P) hb hq hr.heap (BB hr x);exact ⟨v,h',κ',val,w',h1,by simp [h2],h3,h4,h5⟩
theorem RN {op:Op} {K:AV→Option R} {r:R} (hq:qop P env h op K=some r) (hr:Rel B N κ env h a w) (o:Oper) (ho:o.op=op) :
  ∃v val w',K v=some r∧(execOp a.eval o).run P w = .ok (.value val) w'∧AR B κ h w' v val∧Ak B κ h w'∧Ext κ h w κ h w':=by
 have hx:=Ext.refl κ h w;unfold execOp;rw [ho];unfold qop at hq
 try simp only [AF] at hq
 split at hq
 ·exact ⟨_,_,w,hq,rfl,BB hr _,hr.heap,hx⟩
 ·exact ⟨_,_,w,hq,rfl,BB hr _,hr.heap,hx⟩
 ·rename_i c x y;obtain ⟨t,ht,hq1⟩:=bind_some hq;have hc:=EA ht (BB hr c);cases t
  ·exact ⟨_,_,w,by simpa using hq1,by simp [hc,Go.asBool],BB hr y,hr.heap,hx⟩
  ·exact ⟨_,_,w,by simpa using hq1,by simp [hc,Go.asBool],BB hr x,hr.heap,hx⟩
 ·rename_i t parts;obtain ⟨v,val,h1,h2,h3⟩:=Uf (P:=P) hq (Fg hr parts).1 (Fg hr parts).2;exact ⟨v,val,w,h1,by simp [h2],h3,hr.heap,hx⟩
 ·rename_i t len parts;obtain ⟨v,val,w',h1,h2,h3,h4,h5⟩:=Mp (P:=P) hq (Fg hr parts).1 (Fg hr parts).2 hr.heap;exact ⟨v,val,w',h1,by simp [h2],h3,h4,h5⟩
 ·obtain ⟨v,val,h1,h2,h3⟩:=Qq hq hr.heap (BB hr _);have h1:=retV_ok h1;exact ⟨v,val,w,h1,by simp [h2],h3,hr.heap,hx⟩
 ·obtain ⟨v,val,h1,h2,h3⟩:=abin_ok hq (BB hr _) (BB hr _) _ _;exact ⟨v,val,w,h1,by simp only [Sem.run_bind] at h2 ⊢;rw [h2];rfl,h3,hr.heap,hx⟩
 ·obtain ⟨v,val,h1,h2,h3⟩:=aun_ok (P:=P) hq (BB hr _);exact ⟨v,val,w,h1,by simp [h2],h3,hr.heap,hx⟩
 ·obtain ⟨v,val,h1,h2,h3⟩:=Ud (P:=P) hq hr.heap (BB hr _);exact ⟨v,val,w,h1,by simp [h2],h3,hr.heap,hx⟩
 ·rename_i fn first captured
  split at hq
  ·cases hq
  ·refine ⟨_,_,w,hq,by simp [Instr.makeFunc],.func _ _ _ _ _ (IL hr first).1 (IL hr captured).1 (IL hr first).2 (IL hr captured).2,hr.heap,hx⟩
 ·obtain ⟨v,val,h1,h2,h3⟩:=UT (P:=P) hq (BB hr _) (OA hr _) (OA hr _) (OA hr _) hr.heap;exact ⟨v,val,w,h1,by simp [h2],h3,hr.heap,hx⟩
 ·obtain ⟨v,val,h1,h2,h3⟩:=Uc (P:=P) hq (BB hr _);exact ⟨v,val,w,h1,by simp [h2],h3,hr.heap,hx⟩
 ·obtain ⟨v,val,h1,h2,h3⟩:=Ua (P:=P) hq (BB hr _) (BB hr _) hr.heap;exact ⟨v,val,w,h1,by simp [h2],h3,hr.heap,hx⟩
 ·rename_i t i;split at hq
  ·rename_i vs hvs;split at hq
   ·rename_i v hv;have ht:=BB hr t;rw [hvs] at ht;generalize hgt:a.eval t=tv at ht;cases ht with
    |tuple _ arr hs hall=>
     have hi:i<arr.size:=by rw [hs];exact AU hv
     have he:arr[i]? = some (arr.getD i undef):=by rw [Array.getElem?_eq_getElem hi];simp only [Array.getD,hi,dif_pos];rfl
     have hrun:(Instr.extract (.tuple arr) i).run P w = .ok (arr.getD i undef) w:=by show (match arr[i]? with | some v => (pure v : Sem Value) | none => stuck "Extract: no such component").run P w = _;rw [he];rfl
     exact ⟨v,_,w,hq,by simp only [Sem.run_bind,hgt,hrun,Result.andThen_ok,Sem.run_pure],hall i v hv,hr.heap,hx⟩
   ·cases hq
  ·cases hq
 ·rename_i x;have hv:=BB hr x;split at hq
  ·rename_i i off he;rw [he] at hv;generalize hg:a.eval x=vx at hv;cases hv with
   |ptr _ _ b base hk hb=>exact ⟨_,_,w,hq,by simp [hg],.ptr i off b base hk hb,hr.heap,hx⟩
  ·rename_i s c off he;rw [he] at hv;generalize hg:a.eval x=vx at hv;cases hv with
   |eptr _ _ _ b base u h1 h2 h3 h4 h5=>exact ⟨_,_,w,hq,by simp [hg],.eptr s c off b base u h1 h2 h3 h4 h5,hr.heap,hx⟩
  ·rename_i f aa bb he;rw [he] at hv;generalize hg:a.eval x=vx at hv;cases hv with
   |func _ _ _ fs cs h1 h2 h3 h4=>exact ⟨_,_,w,hq,by simp [hg],.func _ _ _ fs cs h1 h2 h3 h4,hr.heap,hx⟩
  ·rename_i i he;rw [he] at hv;generalize hg:a.eval x=vx at hv;cases hv with
   |yld _ b base hk hb=>exact ⟨_,_,w,hq,by simp [hg],.yld i b base hk hb,hr.heap,hx⟩
  ·rename_i i ver k off he;rw [he] at hv;generalize hg:a.eval x=vx at hv;cases hv with
   |rptr _ _ _ _ _ h1 h2 h3=>
    obtain ⟨p,rfl⟩:=h1;exact ⟨_,_,w,hq,by simp [hg],.rptr i ver k off _ ⟨p,rfl⟩ h2 h3,hr.heap,hx⟩
  ·cases hq
 ·rename_i t m x co;split at hq
  ·rename_i i he;have hm:=BB hr m;rw [he] at hm;obtain ⟨v,val,h1,h2,h3⟩:=UY (P:=P) hq hr.heap hm (BB hr _);exact ⟨v,val,w,h1,by simp [h2],h3,hr.heap,hx⟩
  ·obtain ⟨hco,hq⟩:=AH hq;subst hco;obtain ⟨v,val,h1,h2,h3⟩:=SF (P:=P) hq (BB hr _) (BB hr _);exact ⟨v,val,w,h1,by simp [h2],h3,hr.heap,hx⟩
 ·obtain ⟨v,val,h1,h2,h3⟩:=SH (P:=P) hq (BB hr _) (BB hr _);exact ⟨v,val,w,h1,by simp [h2],h3,hr.heap,hx⟩
 ·rename_i args argTypes;split at hq
  ·rename_i x t hxa hta;obtain ⟨v,val,h1,h2,h3⟩:=alen_ok (P:=P) hq (BB hr x) hr.heap o.type;have e1:args = #[x]:=by cases args;simp_all
   have e2:argTypes = #[t]:=by cases argTypes;simp_all
   subst e1 e2;exact ⟨v,val,w,h1,by simp [resolve,invoke,builtin,h2],h3,hr.heap,hx⟩
  ·cases hq
 ·rename_i args argTypes;obtain ⟨n,h1,h2⟩:=Qn (P:=P) true (vs:=(args.map a.eval).toList) hq (by simp) (fun j y v hy hv=>by have:=(IL hr args).2 j y hy;rwa [Ez _ j undef hv] at this) argTypes o.type
  simp only [if_true] at h2;exact ⟨_,_,w,h1,by
   rw [toArray_toList] at h2;simp [resolve,invoke,builtin,h2],.t _ _ (.int _ _),hr.heap,hx⟩
 ·rename_i args argTypes;obtain ⟨n,h1,h2⟩:=Qn (P:=P) false (vs:=(args.map a.eval).toList) hq (by simp) (fun j y v hy hv=>by have:=(IL hr args).2 j y hy;rwa [Ez _ j undef hv] at this) argTypes o.type
  simp only [false_eq_true,if_false] at h2;exact ⟨_,_,w,h1,by
   rw [toArray_toList] at h2;simp [resolve,invoke,builtin,h2],.t _ _ (.int _ _),hr.heap,hx⟩
 ·cases hq
theorem nilK_ok {v:AV} {K:Bool→Option R} {r:R} (hq:nilK v K=some r) {val:Value} (hv:AR B κ h w v val) {t e:TypeId} (hu:P.underlying t=some (.slice e)) :
  ∃b,K b=some r∧(∀ox oy,(eqGuard .eql t ox oy val (.slice none 0 0)).run P w = .ok () w)∧(binOp .eql t val (.slice none 0 0)).run P w = .ok (.bool b) w:=by
 have hrun:∀(a:Option Addr) (n c:Nat),(∀ox oy,(eqGuard .eql t ox oy (.slice a n c) (.slice none 0 0)).run P w = .ok () w)∧(binOp .eql t (.slice a n c) (.slice none 0 0)).run P w = .ok (.bool a.isNone) w:=by
  intro a n c;have he:(Op.equalIn (9999+1) t (.slice a n c) (.slice none 0 0)).run P w = .ok a.isNone w:=by rw [Op.equalIn];cases a<;>simp [run_underlying hu]
  refine ⟨fun ox oy=>C4 rfl,?_⟩;simp only [binOp,Op.equal,Op.maxDepth,Sem.run_bind];rw [he];rfl
 unfold nilK at hq
 try simp only [AF] at hq
 split at hq
 ·rename_i z es;cases hv with
  |t _ _ ht=>
   split at hq
   ·rename_i hne;cases ht with
    |nil=>simp at hne
    |sl=>exact ⟨_,hq,hrun (some _) _ _⟩
   ·obtain ⟨h1,h2⟩:=Hd hq;cases ht with
    |nil _ cap a0=>exact ⟨a0.isNone,by cases a0<;>assumption,hrun _ _ _⟩
    |sl=>exact ⟨_,h2,hrun (some _) _ _⟩
 ·obtain ⟨h1,h2⟩:=Hd hq;cases hv with
  |nilsl a0=>exact ⟨a0.isNone,by cases a0<;>assumption,hrun _ _ _⟩
 ·cases hq
theorem Pw {v:Value} (z:Nat) (hv:AR B κ h w .nilsl v):AR B κ h w (.t (.sl z [])) v:=by cases hv with|nilsl a0=>exact .t _ _ (.nil _ _ _)
theorem Px {P:Program} {tf:TypeId→Bool}:∀{ts:List TypeId} {cs:List AV} {vs:List Value},cs.length=vs.length→(∀(j:Nat) (x:AV) (v:Value),cs[j]? = some x→vs[j]? = some v→AR B κ h w x v)→
  (GO P tf ts cs).length=vs.length∧∀(j:Nat) (x:AV) (v:Value),(GO P tf ts cs)[j]? = some x→vs[j]? = some v→AR B κ h w x v
 |ts,[],vs,hl,hv=>⟨hl,fun j x v hx=>by simp [GO] at hx⟩
 |ts,c::cs,[],hl,hv=>by simp at hl
 |ts,c::cs,u::vs,hl,hv=>by
  obtain ⟨i1,i2⟩:=Px (P:=P) (tf:=tf) (ts:=ts.tail) (cs:=cs) (vs:=vs) (by simpa using hl) fun j x v hx hv'=>hv (j+1) x v (by simpa using hx) (by simpa using hv');refine ⟨by simp [GO,i1],fun j x v hx hv' => ?_⟩;cases j with
  |zero=>
   have h0:=hv 0 c u rfl rfl;simp only [GO,List.getElem?_cons_zero,Option.some.injEq] at hx hv';subst hx hv';cases c<;>first|exact h0|(simp only;split;exact Pw _ h0;exact h0)
  |succ j=>
   simp only [GO,getElem?_cons_succ] at hx hv';exact i2 j x v hx hv'
theorem FD {P:Program} {tf:TypeId→Bool} {ts:List TypeId} {cs:List AV} {arr:Array Value} (hc:Aa B κ h w cs arr):Aa B κ h w (GO P tf ts cs) arr:=by
 obtain ⟨h1,h2⟩:=Px (P:=P) (tf:=tf) (ts:=ts) (cs:=cs) (vs:=arr.toList) (by simp [hc.1]) fun j x v hx hv=>by have:=hc.2 j x hx;rwa [Ez arr.toList j undef hv] at this
 refine ⟨by simp [h1],fun j x hx => ?_⟩;have hj:j<arr.size:=by have:=(List.getElem?_eq_some_iff.1 hx).1;rw [h1] at this;simpa using this
 exact h2 j x _ hx (by simp [Array.getD,hj])
theorem nilV_ok {P:Program} {tf:TypeId→Bool} {t:TypeId} {v:AV} {u:Value} (hv:AR B κ h w v u):AR B κ h w (nilV P tf t v) u:=by
 cases v with
 |agg cs=>
  cases hv with|agg _ vs h1 h2=>
  obtain ⟨k1,k2⟩:=FD (P:=P) (tf:=tf) (ts:=Bh P 16 t) (show Aa B κ h w cs vs from ⟨h1,h2⟩);exact .agg _ _ k1 k2
 |nilsl=>
  simp only [nilV];split
  ·exact Pw _ hv
  ·exact hv
 |_=>exact hv
theorem hop_ok {op:Op} {K:AV→Heap→Option R} {r:R} {tf:TypeId→Bool} (hq:hop P tf env h op K=some r) (hr:Rel B N κ env h a w) (o:Oper) (ho:o.op=op) :
  ∃v h' κ' val w',K v h'=some r∧((execOp a.eval o).run P w = .ok (.value val) w'∨((execOp a.eval o).run P w = .ok .skip w'∧val=undef))∧AR B κ' h' w' v val∧Ak B κ' h' w'∧Ext κ h w κ' h' w':=by
 unfold execOp;rw [ho];unfold hop at hq
 try simp only [AF] at hq
 split at hq
 ·rename_i t;split at hq
  ·rename_i z hz;obtain ⟨i,v,hi,hv,hc⟩:=CI (B:=B) (κ:=κ) (h:=h) (w:=w) hz;obtain ⟨v',h',κ',h1,h2,h3,h4⟩:=G8 hq hr.heap (FD hc) t;exact ⟨v',h',κ',_,_,h1,.inl (by simp [Instr.alloc,zeroValue,typeInfo,hi,hv,newVar,newRow]),h2,h3,h4⟩
  ·cases hq
 ·rename_i t x;split at hq
  ·rename_i cs hcs;obtain ⟨v',h',κ',h1,h2,h3,h4⟩:=G8 hq hr.heap (FD (G6 hcs (BB hr x))) t;exact ⟨v',h',κ',_,_,h1,.inl (by simp [Instr.box,newVar,newRow]),h2,h3,h4⟩
  ·cases hq
 ·obtain ⟨h',κ',w',h1,h2,h3,h4⟩:=N0 (P:=P) hq hr.heap (BB hr _) (nilV_ok (BB hr _));exact ⟨_,h',κ',undef,w',h1,.inr ⟨by simp [h2],rfl⟩,.undef _,h3,h4⟩
 ·rename_i t x ty;split at hq
  ·rename_i e hu;obtain ⟨b,h1,h2,h3⟩:=nilK_ok (P:=P) hq (BB hr x) hu;refine ⟨_,h,κ,.bool b,w,h1,.inl ?_,.t _ _ (.bool _),hr.heap,Ext.refl _ _ _⟩;have e1:a.eval (.const (.slice none 0 0))= .slice none 0 0:=rfl;simp only [e1];simp [h2,h3]
  ·cases hq
 ·rename_i args argTypes;split at hq
  ·rename_i s x t t' hxa hta;obtain ⟨htt,hq1⟩:=AH hq;obtain ⟨v,h',κ',val,w',h1,h2,h3,h4,h5⟩:∃v h' κ' val w',K v h'=some r∧(Builtin.append_ #[t,t'] o.type #[a.eval s,a.eval x]).run P w = .ok val w'∧AR B κ' h' w' v val∧Ak B κ' h' w'∧Ext κ h w κ' h' w':=by
    split at hq1
    ·exact PB (P:=P) htt hq1 hr.heap (BB hr s) (BB hr x) o.type
    ·exact IW (P:=P) htt hq1 hr.heap (BB hr s) (BB hr x) o.type
   have e1:args = #[s,x]:=by cases args;simp_all
   have e2:argTypes = #[t,t']:=by cases argTypes;simp_all
   subst e1 e2;exact ⟨v,h',κ',val,w',h1,.inl (by simp [resolve,invoke,builtin,h2]),h3,h4,h5⟩
  ·cases hq
 ·rename_i args argTypes;split at hq
  ·rename_i x t hxa hta;obtain ⟨h',w',h1,h2,h3,h4⟩:=Ue (P:=P) hq hr.heap (BB hr x) o.type;have e1:args = #[x]:=by cases args;simp_all
   have e2:argTypes = #[t]:=by cases argTypes;simp_all
   subst e1 e2;exact ⟨_,h',κ,.tuple #[],w',h1,.inl (by simp [resolve,invoke,builtin,h2]),.tuple _ _ rfl (fun j x hx=>by simp at hx),h3,h4⟩
  ·cases hq
 ·rename_i args argTypes;split at hq
  ·rename_i d x t t' hxa hta;obtain ⟨v,h',val,w',h1,h2,h3,h4,h5⟩:=WW (P:=P) (t':=t') hq hr.heap (BB hr d) (BB hr x) o.type;have e1:args = #[d,x]:=by cases args;simp_all
   have e2:argTypes = #[t,t']:=by cases argTypes;simp_all
   subst e1 e2;exact ⟨v,h',κ,val,w',h1,.inl (by simp [resolve,invoke,builtin,h2]),h3,h4,h5⟩
  ·cases hq
 ·obtain ⟨v,h',κ',val,w',h1,h2,h3,h4,h5⟩:=WR (P:=P) hq hr.heap (BB hr _) (BB hr _);exact ⟨v,h',κ',val,w',h1,.inl (by simp [h2]),h3,h4,h5⟩
 ·obtain ⟨v,h',κ',val,w',h1,h2,h3,h4,h5⟩:=Qp (P:=P) hq hr.heap;exact ⟨v,h',κ',val,w',h1,.inl (by simp [h2]),h3,h4,h5⟩
 ·obtain ⟨h',w',h1,h2,h3,h4⟩:=SE (P:=P) hq hr.heap (BB hr _) (BB hr _) (BB hr _);exact ⟨_,h',κ,undef,w',h1,.inr ⟨by simp [h2],rfl⟩,.undef _,h3,h4⟩
 ·cases hq
theorem US {t:TypeId} {x:Operand} {K:AV→Option R} {r:R} (hq:J5 P t (ev env x) h K=some r) (hr:Rel B N κ env h a w) (o:Oper) (ho:o.op = .box t x) :
  ∃v κ' val w',K v=some r∧(execOp a.eval o).run P w = .ok (.value val) w'∧AR B κ' h w' v val∧Ak B κ' h w'∧Ext κ h w κ' h w':=by
 unfold J5 at hq
 try simp only [AF] at hq
 split at hq
 ·rename_i cs n hcs hn;obtain ⟨hl,hq⟩:=AH hq;have hc:=G6 hcs (BB hr x);obtain ⟨xs,hK,hxl,_,hT⟩:=Cm (P:=P) hq hr.heap (vs:=(a.eval x).cells.toList) (by simpa using hc.1) (Bi hc);have x1:Ext κ h w κ h (w.alloc (.cells (a.eval x).cells t)):=HV hr.heap _;have hh1:Ak B κ h (w.alloc (.cells (a.eval x).cells t)):=HS hr.heap x1 fun b hb=>Al w _ hb;have hnew:(w.alloc (.cells (a.eval x).cells t)).heap[w.heap.size]? = some (.cells (a.eval x).cells t):=by show (w.heap.push (.cells (a.eval x).cells t))[w.heap.size]? = _;simp
  refine ⟨_,κ,.pointer (some ⟨w.heap.size,0,none⟩),w.alloc (.cells (a.eval x).cells t),hK,?_,?_,hh1,x1⟩
  ·unfold execOp;rw [ho];simp [Instr.box,newVar,newRow]
  ·have hsz:xs.length=(a.eval x).cells.size:=by rw [hxl];exact hc.1.symm
   refine .eptr n xs 0 w.heap.size 0 (fun c=>(a.eval x).cells.getD c undef) (by omega) (by simp [World.size_alloc]) ?_ (fun c y hy => ?_) (fun c y hy => ?_)
   ·rintro (hb|⟨i,base,ob,y1,_,_⟩)
    ·have:=hr.heap.ltB _ hb;omega
    ·have:=hr.heap.lt i _ _ y1;omega
   ·have hlt:c<(a.eval x).cells.size:=by rw [← hsz];exact AU hy
    rw [zero_add,BW hnew hlt]
   ·have hlt:c<(a.eval x).cells.size:=by rw [← hsz];exact AU hy
    have:=hT c y ((a.eval x).cells.getD c undef) hy (by simp [Array.getD,hlt]);refine BV.ext x1 (this.less ?_)
    rintro b (hb|hb)
    ·exact .inl hb
    ·exact .inr ⟨rfl,hb⟩
 ·cases hq
theorem Qs {t:TypeId} {K:AV→Heap→Option R} {r:R} (hq:Fs P t h K=some r) (hr:Rel B N κ env h a w) (o:Oper) (ho:o.op = .alloc t) :
  ∃v h' κ' val w',K v h'=some r∧(execOp a.eval o).run P w = .ok (.value val) w'∧AR B κ' h' w' v val∧Ak B κ' h' w'∧Ext κ h w κ' h' w':=by
 unfold Fs at hq
 try simp only [AF] at hq
 split at hq
 ·rename_i z n hz hn;obtain ⟨⟨hn0,hl⟩,hq⟩:=AH hq;obtain ⟨i,v,hi,hv,hc⟩:=CI (B:=B) (κ:=κ) (h:=h) (w:=w) hz;obtain ⟨xs,hK,hxl,_,hT⟩:=Cm (P:=P) hq hr.heap (vs:=v.cells.toList) (by simpa using hc.1) (Bi hc);have h5:∀b,b<w.heap.size→(w.alloc (.cells v.cells t)).heap[b]? = w.heap[b]? :=fun b hb=>Al w _ hb;have x2:Ext κ h w (κ++[some (w.heap.size,0)]) (h++[.row false 0 n [xs]]) (w.alloc (.cells v.cells t)):=
   Be (w':=w.alloc (.cells v.cells t)) hr.heap rfl rfl rfl (by simp) h5 fun b base e=>by injection e with e;injection e with e;omega
  have hsz:v.cells.size=n:=by rw [hc.1,hl]
  have hh2:=BM hr.heap h5 x2 (fun b base e=>by injection e with e;injection e with e;subst e;exact ⟨le_refl _,by simp⟩)
   (B6 hn0 (A8 w _) (.inl rfl) (by simp [hsz]) ⟨fun j e he=>by
     cases j with
     |zero=>simp at he;subst he;rw [hxl,hl]
     |succ j=>simp at he,fun j e c y he hy=>by
     cases j with
     |zero=>
      simp at he;subst he;have hc2:c<v.cells.size:=by rw [hsz,← hl,← hxl];exact AU hy
      have:=hT c y (v.cells.getD c undef) hy (by simp [Array.getD,hc2]);have t2:=BV.ext x2 (this.less (A':=fun b=>B b∨Ex κ h b) (by
       rintro b (hb|hb)
       ·exact .inl hb
       ·exact .inr ⟨rfl,hb⟩))
      simpa using t2
     |succ j=>simp at he⟩)
  refine ⟨_,_,_,.pointer (some ⟨w.heap.size,0,none⟩),w.alloc (.cells v.cells t),hK,?_,?_,hh2,x2⟩
  ·unfold execOp;rw [ho];simp [Instr.alloc,zeroValue,typeInfo,hi,hv,newVar,newRow]
  ·refine .rptr _ _ _ _ _ ⟨_,rfl⟩ ⟨_,Ai h _,le_refl _⟩ fun o' ho' _ => ?_;rw [Ai h _] at ho';cases ho';exact ⟨w.heap.size,0,by rw [← hr.heap.len];exact Ai κ _,by simp,rfl,by simp [AE.len]⟩
 ·cases hq
theorem Sc {κ':A1} {h':Heap} {t:TypeId} {v:Value} {n ver:Nat} {xs:List Tree} (hn0:n≠0) (hxl:xs.length=n) (hsz:v.cells.size=n)
  (x2:Ext κ h w κ' h' (w.alloc (.cells v.cells t))) (hT:∀(c:Nat) (y:Tree) (u:Value),xs[c]? = some y→v.cells.toList[c]? = some u→BV w (fun b=>B b∨(true=true∧Ex κ h b)) y u) :
  GH B κ' h' (w.alloc (.cells v.cells t)) (some (w.heap.size,0)) (.row false ver n [xs]):=
 B6 hn0 (A8 w _) (.inl rfl) (by simp [hsz]) ⟨fun j e he=>by
  cases j with
  |zero=>simp at he;subst he;exact hxl
  |succ j=>simp at he,fun j e c y he hy=>by
  cases j with
  |zero=>
   simp at he;subst he;have hc2:c<v.cells.size:=by rw [hsz,← hxl];exact AU hy
   have:=hT c y (v.cells.getD c undef) hy (by simp [Array.getD,hc2]);have t2:=BV.ext x2 (this.less (A':=fun b=>B b∨Ex κ h b) (by
    rintro b (hb|hb)
    ·exact .inl hb
    ·exact .inr ⟨rfl,hb⟩))
   simpa using t2
  |succ j=>simp at he⟩
theorem Qr {tf:TypeId→Bool} {t:TypeId} {u u2:AV} {K:AV→Heap→Option R} {r:R} (hq:Mj P tf t u u2 h K=some r) (hr:Rel B N κ env h a w) (o:Oper) (ho:o.op = .alloc t) :
  ∃v h' κ' val w',K v h'=some r∧(execOp a.eval o).run P w = .ok (.value val) w'∧AR B κ' h' w' v val∧Ak B κ' h' w'∧Ext κ h w κ' h' w':=by
 unfold Mj at hq
 try simp only [AF] at hq
 split at hq
 ·rename_i z n hz hn;obtain ⟨⟨hn0,hl⟩,hq⟩:=AH hq;obtain ⟨i,v,hi,hv,hc⟩:=CI (B:=B) (κ:=κ) (h:=h) (w:=w) hz;obtain ⟨xs,hK,hxl,_,hT⟩:=Cm (P:=P) hq hr.heap (vs:=v.cells.toList) (by simpa using hc.1) (Bi hc);have h5:∀b,b<w.heap.size→(w.alloc (.cells v.cells t)).heap[b]? = w.heap[b]? :=fun b hb=>Al w _ hb;have hsz:v.cells.size=n:=by rw [hc.1,hl]
  have hxn:xs.length=n:=by rw [hxl,hl]
  have hrun:(execOp a.eval o).run P w = .ok (.value (.pointer (some ⟨w.heap.size,0,none⟩))) (w.alloc (.cells v.cells t)):=by unfold execOp;rw [ho];simp [Instr.alloc,zeroValue,typeInfo,hi,hv,newVar,newRow]
  split at hK
  ·rename_i ri rv rk ro _;split at hK
   ·split at hK
    ·rename_i ver' size es hri;obtain ⟨kk,hkk⟩:=Bm hr.heap hri;have hOL:OLe (.row false ver' size es) (.row false (ver'+1) n [xs]):=⟨rfl,le_succ _,(fun e=>by simp [AE.ver] at e),(fun e=>by cases e),(fun e=>by cases e),rfl⟩
     have x1:Ext κ h w (κ.set ri (some (w.heap.size,0))) (h.set ri (.row false (ver'+1) n [xs])) (w.alloc (.cells v.cells t)):=
      Ca (w':=w.alloc _) hr.heap hri rfl hOL hkk rfl rfl rfl (by simp) (fun b' hb' _=>h5 b' hb') (fun b base e=>by injection e with e;injection e with e;exact .inr (by omega)) (fun e=>by simp [AE.ver] at e)
     have hh1:=Bz hr.heap hri hkk (fun b' hb' _=>h5 b' hb') (fun b base e=>by injection e with e;injection e with e;subst e;exact ⟨.inr (le_refl _),by simp⟩) x1 (Sc hn0 hxn hsz x1 hT);refine ⟨_,_,_,_,_,hK,hrun,?_,hh1,x1⟩;refine .rptr _ _ _ _ _ ⟨_,rfl⟩ ⟨_,Aq hri,le_refl _⟩ fun o' ho' _ => ?_;rw [Aq hri] at ho';cases ho';exact ⟨w.heap.size,0,Aq hkk,by simp,rfl,by simp [AE.len]⟩
    ·cases hK
   ·obtain ⟨v',h',κ',h1,h2,h3,h4⟩:=G8 hK hr.heap (FD hc) t;exact ⟨v',h',κ',_,_,h1,hrun,h2,h3,h4⟩
  ·have x2:Ext κ h w (κ++[some (w.heap.size,0)]) (h++[.row false 0 n [xs]]) (w.alloc (.cells v.cells t)):=
    Be (w':=w.alloc (.cells v.cells t)) hr.heap rfl rfl rfl (by simp) h5 fun b base e=>by injection e with e;injection e with e;omega
   have hh2:=BM hr.heap h5 x2 (fun b base e=>by injection e with e;injection e with e;subst e;exact ⟨le_refl _,by simp⟩) (Sc hn0 hxn hsz x2 hT);refine ⟨_,_,_,_,_,hK,hrun,?_,hh2,x2⟩;refine .rptr _ _ _ _ _ ⟨_,rfl⟩ ⟨_,Ai h _,le_refl _⟩ fun o' ho' _ => ?_;rw [Ai h _] at ho';cases ho';exact ⟨w.heap.size,0,by rw [← hr.heap.len];exact Ai κ _,by simp,rfl,by simp [AE.len]⟩
 ·cases hq
end Ab
namespace Ab
open Go
variable {R:Type} {P:Program} {B:Nat→Prop} {κ:A1} {h:Heap} {w:World}
theorem Bj {α:Type} {l:List α} {m i:Nat} {x:α} (hx:(l.take m)[i]? = some x):i<m∧l[i]? = some x:=by
 rcases lt_or_ge i m with h1|h1
 ·rw [getElem?_take_of_lt h1] at hx;exact ⟨h1,hx⟩
 ·simp [getElem?_take,not_lt.2 h1] at hx
theorem Cl {α:Type} {l:List α} {m i:Nat} {x:α} (hi:i<m) (hx:l[i]? = some x):(l.take m)[i]? = some x:=by rw [getElem?_take_of_lt hi];exact hx
theorem Ex.take {m b:Nat} (hx:Ex (κ.take m) (h.take m) b):Ex κ h b:=by obtain ⟨i,base,o,h1,h2,h3⟩:=hx;exact ⟨i,base,o,(Bj h1).2,(Bj h2).2,h3⟩
theorem AR.Dg {m:Nat} {x:AV} {v:Value} (hv:AR B κ h w x v) (hr:Refs m x):AR B (κ.take m) (h.take m) w x v:=by
 induction hv with
 |undef v=>exact .undef v
 |t y v ht=>exact .t y v (ht.less fun b hb=>hb.imp id Ex.take)
 |nilsl a=>exact .nilsl a
 |ptr i off b base hk hb=>
  cases hr with
  |ptr _ _ hi=>obtain ⟨cs,hcs⟩:=hb;exact .ptr _ _ _ _ (Cl hi hk) ⟨cs,Cl hi hcs⟩
 |mref i b hk hb=>
  cases hr with
  |mref _ hi=>obtain ⟨k,ke,es,hes⟩:=hb;exact .mref _ _ (Cl hi hk) ⟨k,ke,es,Cl hi hes⟩
 |rptr i ver k off v h1 hex hv=>
  cases hr with
  |rptr _ _ _ _ hi=>
   obtain ⟨o,ho,hver⟩:=hex;refine .rptr _ _ _ _ _ h1 ⟨o,Cl hi ho,hver⟩ fun o' ho' he => ?_;obtain ⟨b,base,e0,e1⟩:=hv o' (Bj ho').2 he;exact ⟨b,base,Cl hi e0,e1⟩
 |eptr size cells off b base u h1 h2 h3 h4 h5=>exact .eptr _ _ _ _ _ u h1 h2 (fun hh=>h3 (hh.imp id Ex.take)) h4 fun c y hy=>(h5 c y hy).less fun b hb=>hb.imp id Ex.take
 |sref i ver off len v h1 hex hs=>
  cases hr with
  |sref _ _ _ _ hi=>
   obtain ⟨o,ho,hver⟩:=hex;exact .sref _ _ _ _ _ h1 ⟨o,Cl hi ho,hver⟩ fun k o' hk ho' he=>hs k o' (Bj hk).2 (Bj ho').2 he
 |bsl i off len size cap b hk hb hl=>
  cases hr with
  |bsl _ _ _ _ hi=>obtain ⟨cs,hcs,hc⟩:=hb;exact .bsl _ _ _ _ _ _ (Cl hi hk) ⟨cs,Cl hi hcs,hc⟩ hl
 |yld i b base hk hb=>
  cases hr with
  |yld _ hi=>obtain ⟨l,hl⟩:=hb;exact .yld _ _ _ (Cl hi hk) ⟨l,Cl hi hl⟩
 |func fn first captured fs cs h1 h2 _ _ i1 i2=>
  cases hr with
  |func _ _ _ r1 r2=>exact .func _ _ _ _ _ h1 h2 (fun j x hx=>i1 j x hx (r1 j x hx)) (fun j x hx=>i2 j x hx (r2 j x hx))
 |agg xs vs h1 _ ih=>
  cases hr with
  |agg _ r1=>exact .agg _ _ h1 fun j x hx=>ih j x hx (r1 j x hx)
 |tuple xs vs h1 _ ih=>
  cases hr with
  |tuple _ r1=>exact .tuple _ _ h1 fun j x hx=>ih j x hx (r1 j x hx)
theorem EK {α:Type} {p:α→Bool} {l:List α} (hl:l.all p=true) {j:Nat} {x:α} (hx:l[j]? = some x):p x=true:=
 (all_eq_true.1 hl) x (mem_of_getElem? hx)
theorem DX:∀(d:Nat) {m:Nat} {x:AV},below d m x=true→Refs m x
 |0,m,x,hb=>by simp [below] at hb
 |d+1,m,x,hb=>by
  cases x with
  |undef=>exact .undef
  |t y=>exact .t y
  |nilsl=>exact .nilsl
  |eptr a b c=>exact .eptr _ _ _
  |ptr i off=>exact .ptr _ _ (by simpa [below] using hb)
  |rptr i v k o=>exact .rptr _ _ _ _ (by simpa [below] using hb)
  |sref i v k o=>exact .sref _ _ _ _ (by simpa [below] using hb)
  |bsl i v k o=>exact .bsl _ _ _ _ (by simpa [below] using hb)
  |yld i=>exact .yld _ (by simpa [below] using hb)
  |mref i=>exact .mref _ (by simpa [below] using hb)
  |func fn f c=>
   simp only [below,and_eq_true] at hb;exact .func _ _ _ (fun j x hx=>DX d (EK hb.1 hx)) (fun j x hx=>DX d (EK hb.2 hx))
  |agg cs=>simp only [below] at hb;exact .agg _ fun j x hx=>DX d (EK hb hx)
  |tuple cs=>simp only [below] at hb;exact .tuple _ fun j x hx=>DX d (EK hb hx)
theorem Refs.mono {m m':Nat} (hm:m≤m') {x:AV} (hx:Refs m x):Refs m' x:=by
 induction hx with
 |undef=>exact .undef
 |t y=>exact .t y
 |nilsl=>exact .nilsl
 |ptr i o hi=>exact .ptr _ _ (lt_of_lt_of_le hi hm)
 |rptr i v k o hi=>exact .rptr _ _ _ _ (lt_of_lt_of_le hi hm)
 |eptr a b c=>exact .eptr _ _ _
 |sref i v k o hi=>exact .sref _ _ _ _ (lt_of_lt_of_le hi hm)
 |bsl i v k o hi=>exact .bsl _ _ _ _ (lt_of_lt_of_le hi hm)
 |yld i hi=>exact .yld _ (lt_of_lt_of_le hi hm)
 |mref i hi=>exact .mref _ (lt_of_lt_of_le hi hm)
 |func fn f c _ _ i1 i2=>exact .func _ _ _ i1 i2
 |agg xs _ ih=>exact .agg _ ih
 |tuple xs _ ih=>exact .tuple _ ih
theorem GH.Dg {m:Nat} {k:Option (Nat×Nat)} {o:AE} (ho:GH B κ h w k o) (hb:Gm m o=true):GH B (κ.take m) (h.take m) w k o:=by
 cases k with
 |none=>
  cases o with
  |row f v s es=>exact ho
  |box cs=>exact ho.elim
  |loop l=>exact ho.elim
  |mapo a b c=>exact ho.elim
 |some p=>
  obtain ⟨b,base⟩:=p;cases o with
  |box cs=>
   obtain ⟨h0,cells,elem,hc,hs,hv⟩:=ho;exact ⟨h0,cells,elem,hc,hs,fun j y hy=>(hv j y hy).Dg (DX 4 (EK hb hy))⟩
  |row f v s es=>
   obtain ⟨hz,cells,elem,fr,hc,hth,hs,hl,hv⟩:=ho;exact ⟨hz,cells,elem,fr,hc,hth,hs,hl,fun j e c y he hy=>(hv j e c y he hy).less fun b hb=>hb.imp id Ex.take⟩
  |mapo a b c=>exact ho
  |loop l=>
   obtain ⟨f,tmps,hc,hs,hv,hrf,hd,hn⟩:=ho;have hle:l.hl≤m:=by simpa [Gm] using hb
   exact ⟨f,tmps,hc,hs,fun i=>(hv i).Dg ((hrf i).mono hle),hrf,hd,fun he=>hn he.take⟩
theorem Ak.Dg {m:Nat} (hh:Ak B κ h w) (hb:(h.take m).all (Gm m)=true):Ak B (κ.take m) (h.take m) w:=
  ⟨by simp [hh.len],fun i j b bs bs' hi hj=>hh.inj i j b bs bs' (Bj hi).2 (Bj hj).2,fun i b bs hi=>hh.notB i b bs (Bj hi).2,fun i b bs hi=>hh.lt i b bs (Bj hi).2,hh.ltB,
   fun i o k ho hk=>(hh.obj i o k (Bj ho).2 (Bj hk).2).Dg (EK hb ho)⟩
theorem Ext.Dg {κ':A1} {h':Heap} {w':World} (x:Ext κ h w κ' h' w') {m:Nat} (hm:h.length≤m):Ext κ h w (κ'.take m) (h'.take m) w' where
 os:=x.os
 tape:=x.tape
 output:=x.output
 size:=x.size
 keep:=x.keep
 ex:=fun b hb=>x.ex b hb.take
 obj:=fun i o ho=>by obtain ⟨o',h1,h2⟩:=x.obj i o ho;exact ⟨o',Cl (lt_of_lt_of_le (AU ho) hm) h1,h2⟩
 kap:=fun i o o' ho ho' hv=>by rw [getElem?_take_of_lt (lt_of_lt_of_le (AU ho) hm)];exact x.kap i o o' ho (Bj ho').2 hv
 cells:=fun i o o' ho ho' hv b base hk cells elem fr hc=>x.cells i o o' ho (Bj ho').2 hv b base hk cells elem fr hc
theorem Pp {x0 x:Tree} (hs:U3 x0 x=true):Pq x0 x=x:=by
 cases x0 with
 |int k n=>exact (Nb hs).symm
 |bool b=>exact (L1 hs).symm
 |str b=>exact (Na hs).symm
 |sl a b=>exact (P8 hs).symm
 |const v=>rfl
 |mp k m=>rfl
theorem LS (d:Nat) (ih:∀{v v':AV},Fe d v v'=true→v=v'):∀{a b:List AV},Fe.A0 d a b=true→a=b
 |[],[],_=>rfl
 |[],_::_,h=>by simp [Fe.A0] at h
 |_::_,[],h=>by simp [Fe.A0] at h
 |x::a,y::b,h=>by simp only [Fe.A0,and_eq_true] at h;rw [ih h.1,LS d ih h.2]
theorem Fc:∀(d:Nat) {v v':AV},Fe d v v'=true→v=v'
 |0,v,v',h=>by simp [Fe] at h
 |d+1,v,v',h=>by
  unfold Fe at h;split at h
  ·simp only [and_eq_true,beq_iff_eq] at h;rw [h.1,h.2]
  ·simp only [beq_iff_eq] at h;rw [h]
  ·simp only [beq_iff_eq] at h;rw [h]
  ·rfl
  ·simp only [and_eq_true,beq_iff_eq] at h;rw [h.1.1,LS d (Fc d) h.1.2,LS d (Fc d) h.2]
  ·cases h
theorem Gh {v0 v:AV} (hs:H8 v0 v=true):Eu v0 v=v:=by
 cases v0 with
 |t x=>
  simp only [H8,and_eq_true] at hs;cases v with
  |t y=>
   simp only [Eu,A2] at hs ⊢;rw [Pp hs.2]
  |_=>simp [isT] at hs
 |sref r a b c=>cases v<;>simp_all [H8,Eu,E9,Hu,Hv]
 |rptr r a b c=>cases v<;>simp_all [H8,Eu,E9]
 |ptr i o=>exact Fc 4 hs
 |yld i=>exact Fc 4 hs
 |mref i=>exact Fc 4 hs
 |func f a b=>exact Fc 4 hs
 |_=>rfl
theorem EU:∀{cs0 cs:List AV} (pre:List AV),DV cs0 cs=true→Cf (.box (pre++cs)) cs0 pre.length=cs
 |[],[],pre,_=>rfl
 |[],c::cs,pre,hs=>by simp [DV] at hs
 |c0::cs0,[],pre,hs=>by simp [DV] at hs
 |c0::cs0,c::cs,pre,hs=>by
  simp only [DV,and_eq_true] at hs;have ih:=EU (pre++[c]) hs.2;simp only [append_assoc,singleton_append,length_append,length_cons,length_nil,zero_add] at ih;have hc:cellOf (.box (pre++c::cs)) pre.length=c:=by simp [cellOf]
  simp only [Cf,hc,Gh hs.1,ih]
theorem Pr {v0 v:AV} (hs:LO v0 v=true):Gj v0 v=v:=by
 cases v0 with
 |agg cs0=>
  simp only [LO,and_eq_true] at hs;cases v with
  |agg cs=>
   simp only [Gj,ER] at hs ⊢;rw [show Cf (.box cs) cs0 0=cs from EU [] hs.2]
  |_=>simp [isAgg] at hs
 |_=>
  simp only [LO] at hs;simp only [Gj];exact Gh hs
theorem LY {o0 o:AE} (hs:B8 o0 o=true) (hf:o0.KT=true→o=o0) (hrec:o0.kind=1→o.rec? = o0.rec?) (hfx:FW o0=true→o=o0):reshape o0 o=o:=by
 by_cases hfo:FW o0=true
 ·have:=hfx hfo;subst this;cases o with
  |box cs=>simp only [reshape,hfo,if_true]
  |_=>simp [FW] at hfo
 cases o0 with
 |box cs0=>
  cases o with
  |box cs=>simp only [B8,or_eq_true,hfo,false_eq_true,false_or] at hs;simp only [reshape,if_neg hfo];rw [show Cf (.box cs) cs0 0=cs from EU [] hs]
  |row a b c d=>simp [B8] at hs
  |loop l=>simp [B8] at hs
  |mapo a b c=>simp [B8] at hs
 |mapo k ke es=>
  cases o with
  |box cs=>simp [B8] at hs
  |row a b c d=>simp [B8] at hs
  |loop l=>simp [B8] at hs
  |mapo a b c=>
   simp only [B8,decide_eq_true_eq] at hs;simp only [reshape,Lq,hs.1,hs.2]
 |row f v s es=>
  cases f with
  |true=>rw [hf rfl];rfl
  |false=>
   cases o with
   |box cs=>simp [B8] at hs
   |loop l=>simp [B8] at hs
   |mapo a b c=>simp [B8] at hs
   |row f' v' s' es'=>
    simp only [B8,and_eq_true,not_eq_true',or_eq_true,beq_iff_eq] at hs;obtain ⟨rfl,hs⟩:=hs;simp only [reshape,AE.ver,AE.size,Rs];rcases hs with rfl|rfl
    ·simp
    ·split<;>simp_all
 |loop l0=>
  cases o with
  |box cs=>simp [B8] at hs
  |row a b c d=>simp [B8] at hs
  |mapo a b c=>simp [B8] at hs
  |loop l=>
   have hrec:=hrec rfl;simp only [AE.rec?,Option.some.injEq] at hrec;simp only [B8,and_eq_true,beq_iff_eq] at hs;have hp:=Pk hs.2;simp only [reshape];cases l;cases l0;simp_all
theorem M3 {o0 o o':AE} (hs:still o0=true):reshape o0 o=reshape o0 o':=by
 cases o0 with
 |box cs=>have hs:FW (.box cs)=true:=hs;simp only [reshape,hs,if_true]
 |row f v s es=>cases f with
  |true=>rfl
  |false=>cases hs
 |mapo a b c=>cases hs
 |loop l=>rfl
theorem LB:∀{h0 h:Heap} (pre:Heap),Ga h0 h=true→(∀(i:Nat) (o0 o:AE),h0[i]? = some o0→h[i]? = some o→(o0.KT=true→o=o0)∧(o0.kind=1→o.rec? = o0.rec?)∧(FW o0=true→o=o0))→
  ∀(rest:Heap),Bt h0 pre.length (pre++(U0 h0 h++rest))=h.take h0.length
 |[],h,pre,_,_,rest=>by simp [Bt]
 |o0::h0,[],pre,hs,_,rest=>by simp [Ga] at hs
 |o0::h0,o::h,pre,hs,hx,rest=>by
  simp only [Ga,and_eq_true] at hs;have ih:=LB (h0:=h0) (h:=h) (pre++[if still o0 then .box [] else o]) hs.2 (fun i a b ha hb=>hx (i+1) a b (by simpa using ha) (by simpa using hb)) rest;simp only [append_assoc,singleton_append,length_append,length_cons,length_nil,zero_add] at ih;obtain ⟨h1,h2,h3⟩:=hx 0 o0 o rfl rfl;simp only [Bt,U0,length_cons,List.take_succ_cons,cons_append];rw [ih];have hg:(pre++(if still o0 then .box [] else o)::(U0 h0 h++rest)).getD pre.length default=(if still o0 then .box [] else o):=by simp [List.getD]
  rw [hg];by_cases hst:still o0=true
  ·rw [M3 hst (o':=o),LY hs.1 h1 h2 h3]
  ·rw [if_neg hst,LY hs.1 h1 h2 h3]
theorem Jx {r:R}:∀{h0 h:Heap} {a:Option R},UD h0 h a=some r→a=some r∧∀(i:Nat) (o0 o:AE),h0[i]? = some o0→h[i]? = some o→FW o0=true→o=o0
 |[],h,a,hr=>⟨hr,fun i o0 o h0=>by simp at h0⟩
 |o0::h0,[],a,hr=>by simp [UD] at hr
 |o0::h0,o::h,a,hr=>by
  unfold UD at hr;split at hr
  ·unfold Dn at hr;split at hr
   ·rename_i he;obtain ⟨h1,h2⟩:=Jx hr;refine ⟨h1,fun i x y hx hy hf => ?_⟩;cases i with
    |zero=>simp at hx hy;rw [← hx,← hy,he]
    |succ i=>exact h2 i x y (by simpa using hx) (by simpa using hy) hf
   ·cases hr
  ·rename_i hn;obtain ⟨h1,h2⟩:=Jx hr;refine ⟨h1,fun i x y hx hy hf => ?_⟩;cases i with
   |zero=>simp at hx;rw [← hx] at hf;exact absurd hf hn
   |succ i=>exact h2 i x y (by simpa using hx) (by simpa using hy) hf
theorem TH {h0 h':Heap} {K:Heap→Option R} {r:R} (hr:cutK h0 h' K=some r) (hx:∀(i:Nat) (o0 o:AE),h0[i]? = some o0→h'[i]? = some o→(o0.KT=true→o=o0)∧(o0.kind=1→o.rec? = o0.rec?)) :
  ∃hs,K hs=some r∧Bt h0 0 hs=h'.take h0.length∧(h'.take h0.length).all (Gm h0.length)=true:=by
 unfold cutK at hr
 try simp only [AF] at hr
 obtain ⟨⟨h1,h2⟩,h3⟩:=AH hr;obtain ⟨h3,h4⟩:=Jx h3;refine ⟨_,h3,?_,h1⟩;have:=LB [] h2 (fun i o0 o ha hb=>⟨(hx i o0 o ha hb).1,(hx i o0 o ha hb).2,h4 i o0 o ha hb⟩) [];simpa using this
theorem KN {P:Program}:∀{ts:List TypeId} {vs:List AV} (pre:List AV),FQ P ts vs=true→Gi P (pre++vs) ts pre.length=vs
 |[],[],pre,_=>rfl
 |[],v::vs,pre,h=>by simp [FQ] at h
 |t::ts,[],pre,h=>by simp [FQ] at h
 |t::ts,v::vs,pre,h=>by
  simp only [FQ,and_eq_true] at h;have ih:=KN (pre++[v]) h.2;simp only [append_assoc,singleton_append,length_append,length_cons,length_nil,zero_add] at ih;have hc:(pre++v::vs).getD pre.length .undef=v:=by simp
  simp only [Gi,hc,Gh h.1.2,ih]
theorem Pg {P:Program}:∀{ts:List TypeId} {vs:List AV},FQ P ts vs=true→∀(i:Nat) (m:Nat),Refs m (vs.getD i .undef)
 |[],[],_,i,m=>by simp;exact .undef
 |[],v::vs,h,_,_=>by simp [FQ] at h
 |t::ts,[],h,_,_=>by simp [FQ] at h
 |t::ts,v::vs,h,i,m=>by
  simp only [FQ,and_eq_true] at h;cases i with
  |zero=>
   have h1:=h.1.1;cases v<;>first|(exact .t _)|(simp [isT] at h1)
  |succ i=>simpa using Pg h.2 i m
theorem NP {h:Heap}:∀{ls:List AV} {i v:Nat},FR h ls=some (i,v)→∃s es,h[i]? = some (.row false v s es)
 |[],i,v,hr=>by simp [FR] at hr
 |x::ls,i,v,hr=>by
  cases x with
  |sref j a b c=>
   simp only [FR] at hr;split at hr
   ·rename_i v' s es hj;cases hr;exact ⟨s,es,hj⟩
   ·cases hr
  |_=>exact NP (ls:=ls) hr
theorem G0 {i:Nat}:∀(ls:List AV) (h:Heap),OV i ls=true→∀j,j≠i→(AZ h ls)[j]? = h[j]?
 |[],h,_,j,_=>rfl
 |x::ls,h,ho,j,hj=>by
  simp only [OV,all_cons,and_eq_true] at ho;show (AZ (Dl h x) ls)[j]? = h[j]?;rw [G0 ls (Dl h x) ho.2 j hj];cases x with
  |sref k a b c=>
   have hk:k=i:=by simpa using ho.1
   simp only [Dl];split
   ·rw [getElem?_set_ne (by omega)]
   ·rfl
  |_=>rfl
theorem No {κ':A1} {h':Heap} {w':World} (x:Ext κ h w κ' h' w') (i:Nat) (o0 o:AE) (h0:h[i]? = some o0) (h1:h'[i]? = some o):(o0.KT=true→o=o0)∧(o0.kind=1→o.rec? = o0.rec?):=by obtain ⟨o',h2,h3⟩:=x.obj i o0 h0;rw [h1] at h2;cases h2;exact ⟨h3.2.2.2.1,fun _=>h3.2.2.2.2.2⟩
end Ab
namespace Ab
open Go
variable {R:Type} {P:Program} {B:Nat→Prop} {κ:A1} {h:Heap} {w:World}
theorem CM {x:AV} {xs:List AV} {v:Value} {vs:List Value} (h1:AR B κ h w x v) (h2:Aa B κ h w xs vs.toArray):Aa B κ h w (x::xs) (v::vs).toArray:=by
 refine ⟨by simpa using h2.1,fun j y hy => ?_⟩;cases j with
 |zero=>simp at hy;subst hy;simpa using h1
 |succ j=>
  have:=h2.2 j y (by simpa using hy);rw [BT] at this ⊢;simpa using this
theorem Kf {x:AV} {xs:List AV} {vs:Array Value} (hc:Aa B κ h w (x::xs) vs):∃v rest,vs=(v::rest).toArray∧AR B κ h w x v∧Aa B κ h w xs rest.toArray:=by
 obtain ⟨l⟩:=vs;cases l with
 |nil=>have:=hc.1;simp at this
 |cons v rest=>
  refine ⟨v,rest,rfl,by simpa using hc.2 0 x rfl,by simpa using hc.1,fun j y hy => ?_⟩;have:=hc.2 (j+1) y (by simpa using hy);have e1:({toList:=v::rest}:Array Value)=(v::rest).toArray:=rfl;rw [e1,BT] at this;rw [BT];simpa using this
theorem EI (leaf:Nat→AV) (off n j:Nat) (hj:j<n):(A4 leaf off n)[j]? = some (leaf (off+j)):=by simp [A4,hj]
theorem JB:∀{ts:List TypeId} {avs:List AV} {K:List AV→Option R} {r:R} {vs:Array Value},flatK P ts avs K=some r→Aa B κ h w avs vs→
  ∃(ls:List AV) (us:List Value),K ls=some r∧Aa B κ h w ls us.toArray∧
   ∀(B':Nat→Prop) (κ':A1) (h':Heap) (w':World) (leaf:Nat→AV) (off:Nat),(∀j u,us[j]? = some u→AR B' κ' h' w' (leaf (off+j)) u)→∃avs',CB P leaf ts off=some avs'∧Aa B' κ' h' w' avs' vs
 |[],[],K,r,vs,hr,hc=>by have e:vs = #[]:=eq_empty_of_size_eq_zero hc.1;subst e;exact ⟨[],[],hr,⟨rfl,fun j x hx=>by simp at hx⟩,fun B' κ' h' w' leaf off _=>⟨[],rfl,rfl,fun j x hx=>by simp at hx⟩⟩
 |[],x::avs,K,r,vs,hr,hc=>by simp [flatK] at hr
 |t::ts,[],K,r,vs,hr,hc=>by simp [flatK] at hr
 |t::ts,x::avs,K,r,vs,hr,hc=>by
  obtain ⟨v,rest,rfl,hv,hrest⟩:=Kf hc;simp only [flatK,AF] at hr;split at hr
  ·rename_i ha;split at hr
   ·rename_i cs;obtain ⟨hsz,hr1⟩:=AH hr;obtain ⟨ls,us,h1,h2,h3⟩:=JB hr1 hrest;cases hv with
    |agg _ arr hs hall=>
     refine ⟨cs++ls,arr.toList++us,h1,⟨by simpa [hs] using h2.1,fun j y hy => ?_⟩,fun B' κ' h' w' leaf off hl => ?_⟩
     ·rw [BT];rcases lt_or_ge j cs.length with hj|hj
      ·rw [getElem?_append_left hj] at hy;have:=hall j y hy;have hj':j<arr.toList.length:=by simp [hs];exact hj
       simp only [List.getD];rw [getElem?_append_left hj'];have hj2:j<arr.size:=by rw [hs];exact hj
       simp only [Array.getD,hj2,dif_pos] at this;simpa [hj2] using this
      ·rw [getElem?_append_right hj] at hy;have:=h2.2 _ y hy;rw [BT] at this;simp only [List.getD] at this ⊢;rw [getElem?_append_right (by simp [hs];exact hj)];simpa [hs] using this
     ·obtain ⟨avs',e1,e2⟩:=h3 B' κ' h' w' leaf (off+cs.length) fun j u hu=>by have:=hl (cs.length+j) u (by rw [getElem?_append_right (by simp [hs])];simpa [hs] using hu);rwa [← add_assoc] at this
      refine ⟨.agg (A4 leaf off cs.length)::avs',?_,CM (.agg _ _ (by simp [A4,hs]) fun j y hy => ?_) e2⟩
      ·simp only [CB,Gq,ha,hsz,e1,map_some]
      ·have hj:j<cs.length:=by have:=AU hy;simpa [A4] using this
       rw [EI leaf off _ _ hj] at hy;cases hy;have hj2:j<arr.size:=by rw [hs];exact hj
       exact hl j _ (by rw [getElem?_append_left (by simpa using hj2)];simp [Array.getD,hj2])
   ·cases hr
  ·rename_i ha;obtain ⟨hlf,hr1⟩:=AH hr;obtain ⟨ls,us,h1,h2,h3⟩:=JB hr1 hrest;refine ⟨x::ls,v::us,h1,CM hv h2,fun B' κ' h' w' leaf off hl => ?_⟩;obtain ⟨avs',e1,e2⟩:=h3 B' κ' h' w' leaf (off+1) fun j u hu=>by have:=hl (j+1) u (by simpa using hu);rwa [show off+(j+1)=off+1+j from by omega] at this
   refine ⟨leaf off::avs',?_,CM (by simpa using hl 0 v rfl) e2⟩;cases hsz:BZ P t<;>simp only [CB,Gq,ha,hsz,e1,map_some]
  ·cases hr
def Jl (vs:Array Value):Value:=if h:vs.size=1 then vs[0] else .tuple vs
theorem VY {g:FuncId} {fn:Func} (hf:P.funcs[g]? = some fn) {leaf:Nat→AV} {avs:List AV} (hm:CB P leaf fn.resultTypes.toList 0=some avs) {vs:Array Value} (hc:Aa B κ h w avs vs) :
  ∃r,CQ P g leaf=some r∧AR B κ h w r (Jl vs):=by
 unfold CQ;rw [hf];simp only [hm];cases avs with
 |nil=>
  refine ⟨_,rfl,?_⟩;have:¬vs.size=1:=by rw [hc.1];simp
  unfold Jl;rw [dif_neg this];exact .tuple _ _ hc.1 hc.2
 |cons x rest=>
  cases rest with
  |nil=>
   refine ⟨x,rfl,?_⟩;have h1:vs.size=1:=by rw [hc.1];simp
   unfold Jl;rw [dif_pos h1];have:=hc.2 0 x rfl;simpa [Array.getD,h1] using this
  |cons y rest=>
   refine ⟨_,rfl,?_⟩;have:¬vs.size=1:=by rw [hc.1];simp
   unfold Jl;rw [dif_neg this];exact .tuple _ _ hc.1 hc.2
def Fr (ro:Option Nat):Fence:={fn:=fun _=>True,depth:=none,alive:=false,round:=ro}
def Wi {R:Type} (P:Program) (g:FuncId) (avs:List AV) (h:Heap) (K:List AV→Heap→Option R) (res:R):Prop:=
 ∀(B:Nat→Prop) (κ:A1) (w:World) (vs:Array Value) (n:Nat),Ak B κ h w→Aa B κ h w avs vs→
  CallsIn (Fr none) n P g vs w fun e w'=>∃v r κ' rs h',e = .returned v∧K rs h'=some res∧CQ P g (fun i=>rs.getD i .undef)=some r∧AR B κ' h' w' r v∧Ak B κ' h' w'∧Ext κ h w κ' h' w'
def HC (P:Program) (g:FuncId) (xs ys:List Tree):Prop:=
 ∀(B:Nat→Prop) (w:World) (avs:List AV) (vs:Array Value) (n:Nat),DH P g (fun i =>.t (xs.getD i default))=some avs→(∀b,B b→b<w.heap.size)→Aa B [] [] w avs vs→
  CallsIn (Fr none) n P g vs w fun e w'=>∃v r,e = .returned v∧CQ P g (fun i =>.t (ys.getD i default))=some r∧AR B [] [] w' r v∧Grow w w'∧(CC P g=true→ys.all Tree.scalar=true)
def TP {R:Type} (P:Program) (i:Nat) (args:List AV) (h:Heap) (K:List AV→Heap→Option R) (res:R):Prop:=
 ∀(B:Nat→Prop) (κ:A1) (w:World) (vs:Array Value) (b base n:Nat),Ak B κ h w→Aa B κ h w args vs→κ[i]? = some (some (b,base))→
  ∃(f:FuncId) (tmps:Array Value) (assign body:Code),(Instr.yield b vs).run P w = .ok (.round b f tmps assign body) w∧
   RoundIn (Fr none) n P b f tmps assign body w fun e w'=>∃v κ' rs h',e = .returned v∧K rs h'=some res∧AR B κ' h' w' (rs.getD 0 .undef) v∧Ak B κ' h' w'∧Ext κ h w κ' h' w'
def Dd (P:Program) (rec:Rec):Prop:=∀(R:Type) (r:Req) (h:Heap) (K:List AV→Heap→Option R) (res:R),rec R r h K=some res→match r with
 | .fn g avs=>Wi P g avs h K res
 | .yield i args=>TP P i args h K res
def NewSl (B:Nat→Prop) (w w':World) (s:Nat) (es:List (List Tree)) (v:Value):Prop:=
 (es=[]∧∃a,v = .slice a 0 0)∨∃b base cap cells elem fr,v = .slice (some ⟨b,base,none⟩) es.length cap∧es.length≤cap∧w.heap.size≤b∧b<w'.heap.size∧s≠0∧w'.heap[b]? = some (.cells cells elem fr)∧Mt s cells.size fr∧base+cap*s≤cells.size∧
  (∀(j:Nat) (e:List Tree),es[j]? = some e→e.length=s)∧∀(j:Nat) (e:List Tree) (c:Nat) (x:Tree),es[j]? = some e→e[c]? = some x→BV w' (fun b'=>B b'∨b'=b) x (cells.getD (base+(j*s+c)) undef)
def Wb (P:Program) (g:FuncId) (xs ys:List Tree):Prop:=
 ∀(B:Nat→Prop) (w:World) (avs:List AV) (vs:Array Value) (n:Nat),DH P g (fun i =>.t (xs.getD i default))=some avs→(∀b,B b→b<w.heap.size)→Aa B [] [] w avs vs→
  CallsIn (Fr none) n P g vs w fun e w'=>∃v s es,e = .returned v∧ys=[.sl s es]∧Grow w w'∧NewSl B w w' s es v
def Wd (u:Value) (b:Nat):Prop:=∃off n cap,u = .slice (some ⟨b,off,none⟩) n cap∧0<cap
def SK (P:Program) (j:Nat) (g:FuncId) (xs ys:List Tree):Prop:=
 ∀(B:Nat→Prop) (w:World) (avs:List AV) (vs:Array Value) (n:Nat),DH P g (fun i =>.t (xs.getD i default))=some avs→(∀b,B b→b<w.heap.size)→Aa B [] [] w avs vs→
  CallsIn (Fr none) n P g vs w fun e w'=>∃(v:Value) (us:List Value) (z:Nat) (es:List (List Tree)) (u:Value),e = .returned v∧Grow w w'∧ys[j]? = some (.sl z es)∧us.length=ys.length∧us[j]? = some u∧NewSl B w w' z es u∧
   (∀(i:Nat) (y:Tree) (x:Value),i≠j→ys[i]? = some y→us[i]? = some x→BV w' (fun b=>B b∨Wd u b) y x)∧
   ∀(B2:Nat→Prop) (κ2:A1) (h2:Heap) (w2:World) (leaf:Nat→AV),(∀i x,us[i]? = some x→AR B2 κ2 h2 w2 (leaf i) x)→∃rv,CQ P g leaf=some rv∧AR B2 κ2 h2 w2 rv v
def B7 (P:Program) (pc:BF):Prop:=∀g xs ys,pc g xs=some ys→if g<OWN then HC P g xs ys else if g<ES then Wb P (g-OWN) xs ys else SK P ((g-ES) % 64) ((g-ES) / 64) xs ys
theorem CallsIn.fr {ro:Option Nat} {n:Nat} {g:FuncId} {vs:Array Value} {Q:Ending→World→Prop} (hc:CallsIn (Fr none) n P g vs w Q):CallsIn (Fr ro) n P g vs w Q:=hc
theorem RoundIn.fr {ro:Option Nat} {n b:Nat} {g:FuncId} {vs:Array Value} {x y:Code} {Q:Ending→World→Prop} (hc:RoundIn (Fr none) n P b g vs x y w Q):RoundIn (Fr ro) n P b g vs x y w Q:=hc
theorem IF {B:Nat→Prop} {w:World} (hB:∀b,B b→b<w.heap.size):Ak B [] [] w:=
 ⟨rfl,fun i j b bs bs' hi=>by simp at hi,fun i b bs hi=>by simp at hi,fun i b bs hi=>by simp at hi,hB,fun i o k ho=>by simp at ho⟩
theorem DN {b:Nat} (hx:Ex [] [] b):False:=by obtain ⟨i,base,o,hk,_⟩:=hx;simp at hk
theorem EN {w':World} (hh:Ak B κ h w) (g:Grow w w'):Ext κ h w κ h w':=MI hh g.os g.tape g.output g.size g.block
theorem D7 {w':World} (hh:Ak B κ h w) (g:Grow w w'):Ak B κ h w':=HS hh (EN hh g) g.block
theorem MD (hh:Ak B κ h w) (v:AV):Ak B κ (Dl h v) w∧Ext κ h w κ (Dl h v) w:=by
 unfold Dl;split
 ·rename_i i _ _ _;split
  ·rename_i f ver s es hi;by_cases hf:f=true
   ·subst hf;have:h.set i (.row true ver s es)=h:=by
     apply ext_getElem?;intro j;by_cases hij:j=i
     ·rw [hij,Aq hi,hi]
     ·rw [Cc hij]
    rw [this];exact ⟨hh,Ext.refl _ _ _⟩
   ·have hf':f=false:=by simpa using hf
    subst hf';obtain ⟨k,hk⟩:=Bm hh hi;have hset:κ.set i k=κ:=by
     apply ext_getElem?;intro j;by_cases hij:j=i
     ·rw [hij,Aq hk,hk]
     ·rw [Cc hij]
    have x:Ext κ h w κ (h.set i (.row true ver s es)) w:=by
     have x':Ext κ h w (κ.set i k) (h.set i (.row true ver s es)) w:=
      Ca (o' :=.row true ver s es) (k':=k) (w':=w) hh hi rfl ⟨rfl,le_refl _,(fun _=>⟨rfl,rfl⟩),(fun e=>by cases e),(fun e=>by cases e),rfl⟩ hk rfl rfl rfl (le_refl _) (fun _ _ _=>rfl)
       (fun b base e =>.inl ⟨base,e⟩) (fun _=>⟨rfl,fun b base _ cells elem fr hc=>⟨cells,hc,rfl⟩⟩)
     rw [hset] at x';exact x'
    refine ⟨?_,x⟩;have ho:=hh.obj i _ _ hi hk;have hh':Ak B (κ.set i k) (h.set i (.row true ver s es)) w:=
     Bz hh hi hk (fun _ _ _=>rfl) (fun b base e=>⟨.inl ⟨base,e⟩,hh.lt i b base (by rw [hk,e])⟩) (by rw [hset];exact x) (by
      rw [hset];cases k with
      |none=>exact ho
      |some p=>
       obtain ⟨b,base⟩:=p;obtain ⟨hz,cells,elem,fr,hc,hth,hs,hl,ht⟩:=ho;exact ⟨hz,cells,elem,fr,hc,hth,hs,hl,fun j e c y he hy=>(ht j e c y he hy).ext x⟩)
    rw [hset] at hh';exact hh'
  ·exact ⟨hh,Ext.refl _ _ _⟩
 ·exact ⟨hh,Ext.refl _ _ _⟩
theorem Ee:∀(vs:List AV) {h:Heap},Ak B κ h w→Ak B κ (AZ h vs) w∧Ext κ h w κ (AZ h vs) w
 |[],h,hh=>⟨hh,Ext.refl _ _ _⟩
 |v::vs,h,hh=>by obtain ⟨h1,x1⟩:=MD hh v;obtain ⟨h2,x2⟩:=Ee vs h1;exact ⟨h2,x1.trans x2⟩
theorem RB {x:Tree} {v:Value} {A A':Nat→Prop} {w w':World} (hs:x.scalar=true) (ht:BV w A x v):BV w' A' x v:=by
 cases ht with
 |int k n=>exact .int k n
 |bool b=>exact .bool b
 |str s=>exact .str s
 |const v _=>simp [Tree.scalar] at hs
 |mp _ _ _ _ _ _ _ _ _=>simp [Tree.scalar] at hs
 |nil _ _ _=>simp [Tree.scalar] at hs
 |sl _ _ _ _ _ _ _ _ _ _ _ _=>simp [Tree.scalar] at hs
end Ab
namespace Go.Proofs
open Go.Shelf Go.RowKit Go.Lib
variable {P:Program} {ρ:Ren}
set_option maxHeartbeats 4000000 in
set_option maxRecDepth 100000 in
theorem T6 {z:Nat} (L:E7 P ρ z) (b off n c i vb voff m vc:Nat) (cs vs:List Value) (w:World) (hi:i<n) (hm:0<m) (hroom:n+m≤c) (hc63:n+m≤9223372036854775807) (hvb:vb≠b)
  (hcl:cs.length=n*z) (hvl:vs.length=m*z)
  (hcs:∀j v,cs[j]? = some v→w.cell? ⟨b,off+j,none⟩=some v) (hsp:∀j,j<(n+m)*z→(w.cell? ⟨b,off+j,none⟩).isSome=true) (hfz:∀j,w.frozen? ⟨b,j,none⟩=false)
  (hvs:∀j v,vs[j]? = some v→w.cell? ⟨vb,voff+j,none⟩=some v) (h1c:∀v∈cs,v.oneCell'=true) (h1v:∀v∈vs,v.oneCell'=true)
  (tA tB:TypeId) (kA kB:Nat) (hsa:w.shape? vb=some (tA,kA)) (hsb:w.shape? b=some (tB,kB)) (hkA:kA≠0) :
  Calls P (ρ.f 22) #[.slice (some ⟨b,off,none⟩) n c,.int .i64 i,.slice (some ⟨vb,voff,none⟩) m vc] w fun e w'=>
   e = .returned (.slice (some ⟨b,off,none⟩) (n+m) c)∧w'=(w.drew.setCells b (off+(i+m)*z) (cs.drop (i*z))).setCells b (off+i*z) vs:=by
 have t3:=L.t3;have a3:=L.a3;have z3:=L.z3;have v3:=L.v3;have t4:=L.t4;have a4:=L.a4;have z4:=L.z4;have v4:=L.v4;have t24:=L.t24;have a24:=L.a24;have z24:=L.z24;have v24:=L.v24;have z9:=L.z9;have u3:=run_underlying L.t3;have u4:=run_underlying L.t4;have u24:=run_underlying L.t24;have hz1:¬((m:Int)=0):=by omega
 have hz2:¬((i:Int)=(n:Int)):=by omega
 obtain ⟨fo,hfo,ho1,ho2,ho3,ho4⟩:=L.f29;have hov:∀lb cb,(callFunc (ρ.f 29) #[.slice (some ⟨vb,voff,none⟩) m vc,.slice (some ⟨b,off+(i+m)*z,none⟩) lb cb]).run P w = .ok (.value (.bool false)) w:=fun lb cb=>by
  rw [run_callFunc_extern hfo ho1 ho2 ho3 ho4,
   Ji w (ρ.t 24) (ρ.t 4) (ρ.t 9) L.t24 z L.z9 ⟨vb,voff,none⟩ ⟨b,off+(i+m)*z,none⟩ m vc lb cb hvb tA tB kA kB hsa hsb hkA (hfz _) (hfz _)]
  rfl
 have hdl:(cs.drop (i*z)).length=(n-i)*z:=by rw [length_drop,hcl,Nat.sub_mul]
 have mixed:=L.mixed;have hw1:IntKind.i64.wrap ((i:Int)+(m:Int))=(i:Int)+(m:Int):=by rw [IntKind.wrap_i64];omega
 have hb1:(0:Int)≤(i:Int)+(m:Int):=by omega
 have hin:i≤n:=by omega
 have htn:((i:Int)+(m:Int)).toNat=i+m:=by omega
 have hb2:¬(c=i+m):=by omega
 have hb3:(i:Int)≤(n:Int)+(m:Int):=by omega
 have hb4:¬(c=i):=by omega
 have hmul1:(i+m)*z+(n-i)*z=(n+m)*z:=by rw [← add_mul];congr 1;omega
 have hmul2:i*z+m*z≤(n+m)*z:=by rw [← add_mul];exact mul_le_mul_right _ (by omega)
 have hcp1:∀ty dc sc,(Builtin.copy_ #[(ρ.t 24),(ρ.t 24)] ty #[.slice (some ⟨b,off+(i+m)*z,none⟩) (n+m-(i+m)) dc,.slice (some ⟨b,off+i*z,none⟩) (n+m-i) sc]).run P w.drew = .ok (goInt ((n-i:Nat):Int)) (w.drew.setCells b (off+(i+m)*z) (cs.drop (i*z))):=fun ty dc sc=>
  DQ w.drew _ _ ty (ρ.t 9) z b (off+(i+m)*z) (n+m-(i+m)) dc ⟨b,off+i*z,none⟩ (n+m-i) sc (n-i) (cs.drop (i*z)) L.t24 L.z9 (by simp only [min_def];split<;>omega) hdl
   (fun j v hj=>by rw [Addr.add_lit,add_assoc];exact hcs (i*z+j) v (by rwa [getElem?_drop] at hj))
   (fun j hj=>by rw [add_assoc];exact hsp _ (by omega)) (fun j hj=>hfz _) (fun v hv=>h1c v (mem_of_mem_drop hv))
 obtain ⟨W1,hW1⟩:∃W1,W1=w.drew.setCells b (off+(i+m)*z) (cs.drop (i*z)):=⟨_,rfl⟩
 have hsp1:∀k,k<(n+m)*z→(W1.cell? ⟨b,off+k,none⟩).isSome=true:=fun k hk=>by rw [hW1];exact isSome_setCells b _ _ _ (fun j hj=>by rw [add_assoc];exact hsp _ (by omega)) _ (hsp k hk)
 have hcp2:∀(W:World),(∀x,W.cell? x=W1.cell? x)→(∀x,W.frozen? x=W1.frozen? x)→∀ty dc,(Builtin.copy_ #[(ρ.t 24),(ρ.t 24)] ty #[.slice (some ⟨b,off+i*z,none⟩) (n+m-i) dc,.slice (some ⟨vb,voff,none⟩) m vc]).run P W = .ok (goInt m) (W.setCells b (off+i*z) vs):=fun W hWc hWf ty dc=>
  DQ W _ _ ty (ρ.t 9) z b (off+i*z) (n+m-i) dc ⟨vb,voff,none⟩ m vc m vs L.t24 L.z9 (by simp only [min_def];split<;>omega) hvl
   (fun j v hj=>by rw [Addr.add_lit,hWc,hW1,World.cell?_setCells_out b _ _ _ _ (fun h _=>absurd h hvb)];exact hvs j v hj)
   (fun j hj=>by rw [hWc,add_assoc];exact hsp1 _ (by omega)) (fun j hj=>by rw [hWf,hW1,World.frozen?_setCells];exact hfz _) h1v
 rw [← hW1] at hcp1;clear hmul1 hmul2 hdl hsp1;obtain ⟨_,_,FG⟩:=L.f22
 go_enter FG,Body2.n22_ntmps ρ
 go_wp2_with (simp only [hov])
 go_region_law_o (refine step_copy_runI rfl _ _ (ρ.t 24) (ρ.t 24) rfl _ _ (by simp [Act.eval,Act.put]) (by simp [Act.eval,Act.put]) (hcp1 _ _ _) ?_)
 go_wp2_with (at_builtin;refine wpList_copy_runI _ rfl _ _ (ρ.t 24) (ρ.t 24) rfl _ _ rfl rfl (hcp2 _ (fun _=>rfl) (fun _=>rfl) _ _) ?_)
 go_ret
 first|exact ⟨rfl,rfl⟩|exact ⟨rfl,by rw [hW1]⟩
end Go.Proofs
namespace Go.Proofs
open Go.Shelf Go.RowKit Go.Lib
variable {P:Program} {ρ:Ren}
set_option maxHeartbeats 4000000 in
set_option maxRecDepth 100000 in
theorem ins_end {z:Nat} (L:E7 P ρ z) (b off n c m vc:Nat) (va:Option Addr) (w w1:World) (v1:Value) (hm:0<m) (hnc:n≤c) (hc63:n+m≤9223372036854775807)
  (hrun:∀ty,(Builtin.append_ #[(ρ.t 24),(ρ.t 24)] ty #[.slice (some ⟨b,off,none⟩) n c,.slice va m vc]).run P w = .ok v1 w1) :
  Calls P (ρ.f 22) #[.slice (some ⟨b,off,none⟩) n c,.int .i64 n,.slice va m vc] w fun e w'=>e = .returned v1∧w'=w1:=by
 have t3:=L.t3;have a3:=L.a3;have z3:=L.z3;have v3:=L.v3;have t4:=L.t4;have a4:=L.a4;have z4:=L.z4;have v4:=L.v4;have t24:=L.t24;have a24:=L.a24;have z24:=L.z24;have v24:=L.v24;have z9:=L.z9;have u3:=run_underlying L.t3;have u4:=run_underlying L.t4;have u24:=run_underlying L.t24;have mixed:=L.mixed;have hz1:¬((m:Int)=0):=by omega
 obtain ⟨_,_,FG⟩:=L.f22
 go_enter FG,Body2.n22_ntmps ρ
 go_wp2_with (at_builtin;refine Lib.wpList_append_run _ rfl _ _ _ _ rfl _ _ rfl rfl _ _ (hrun _) ?_)
 all_goals (go_ret;exact ⟨rfl,rfl⟩)
set_option maxHeartbeats 4000000 in
set_option maxRecDepth 100000 in
theorem S2 {z:Nat} (L:E7 P ρ z) (a0:Option Addr) (m vc:Nat) (va:Option Addr) (w w1:World) (v1:Value) (hm:0<m)
  (hrun:∀ty,(Builtin.append_ #[(ρ.t 24),(ρ.t 24)] ty #[.slice a0 0 0,.slice va m vc]).run P w = .ok v1 w1) :
  Calls P (ρ.f 22) #[.slice a0 0 0,.int .i64 0,.slice va m vc] w fun e w'=>e = .returned v1∧w'=w1:=by
 have t3:=L.t3;have a3:=L.a3;have z3:=L.z3;have v3:=L.v3;have t4:=L.t4;have a4:=L.a4;have z4:=L.z4;have v4:=L.v4;have t24:=L.t24;have a24:=L.a24;have z24:=L.z24;have v24:=L.v24;have z9:=L.z9;have u3:=run_underlying L.t3;have u4:=run_underlying L.t4;have u24:=run_underlying L.t24;have mixed:=L.mixed;have hz1:¬((m:Int)=0):=by omega
 obtain ⟨_,_,FG⟩:=L.f22
 go_enter FG,Body2.n22_ntmps ρ
 cases a0 with
 |none=>
  go_wp2_with (at_builtin;refine Lib.wpList_append_run _ rfl _ _ _ _ rfl _ _ rfl rfl _ _ (hrun _) ?_)
  go_ret
  exact ⟨rfl,rfl⟩
 |some a=>
  obtain ⟨ab,ao,asp⟩:=a
  go_wp2_with (at_builtin;refine Lib.wpList_append_run _ rfl _ _ _ _ rfl _ _ rfl rfl _ _ (hrun _) ?_)
  all_goals (go_ret;exact ⟨rfl,rfl⟩)
set_option maxHeartbeats 4000000 in
set_option maxRecDepth 100000 in
theorem Vg {z:Nat} (L:E7 P ρ z) (b off n c i vb voff m vc:Nat) (cs vs:List Value) (w:World) (hi:i<n) (hm:0<m) (hnc:n≤c) (hroom:c<n+m) (hbig:(n+m)*65536≤140737488355328)
  (hcl:cs.length=n*z) (hvl:vs.length=m*z)
  (hcs:∀j v,cs[j]? = some v→w.cell? ⟨b,off+j,none⟩=some v)
  (hvs:∀j v,vs[j]? = some v→w.cell? ⟨vb,voff+j,none⟩=some v) (h1c:∀v∈cs,v.oneCell'=true) (h1v:∀v∈vs,v.oneCell'=true) :
  ∃(ROW:Array Value) (G:Nat),n+m≤G∧ROW.size=G*z∧(∀j,j<i*z→ROW[j]? = cs[j]?)∧
  Calls P (ρ.f 22) #[.slice (some ⟨b,off,none⟩) n c,.int .i64 i,.slice (some ⟨vb,voff,none⟩) m vc] w fun e w'=>
   e = .returned (.slice (some ⟨w.heap.size,0,none⟩) (n+m) G)∧
   w'=(((w.alloc (.cells ROW (ρ.t 9))).drew.setCells w.heap.size (i*z) vs).drew).setCells w.heap.size ((i+m)*z) (cs.drop (i*z)):=by
 have t3:=L.t3;have a3:=L.a3;have z3:=L.z3;have v3:=L.v3;have t4:=L.t4;have a4:=L.a4;have z4:=L.z4;have v4:=L.v4;have t24:=L.t24;have a24:=L.a24;have z24:=L.z24;have v24:=L.v24;have z9:=L.z9;have u3:=run_underlying L.t3;have u4:=run_underlying L.t4;have u24:=run_underlying L.t24;have mixed:=L.mixed;obtain ⟨i0,zv,hi0,hz0,hzs,hzz,hzb⟩:=L.i9;have hpos:=L.pos;have hz1:¬((m:Int)=0):=by omega
 have hz2:¬((i:Int)=(n:Int)):=by omega
 have hz3:(c:Int)<(n:Int)+(m:Int):=by omega
 have hnz:i*z<n*z:=Nat.mul_lt_mul_of_pos_right hi hpos;have hmz:0<m*z:=Nat.mul_pos hm hpos;have hbw:b<w.heap.size:=block_lt_of_cell (hcs 0 _ (getElem?_eq_getElem (by omega)));have hvw:vb<w.heap.size:=block_lt_of_cell (hvs 0 _ (getElem?_eq_getElem (by omega)));have hkk:(n:Int)+(m:Int)-(i:Int)=((n+m-i:Nat):Int):=by omega
 have hik:i+(n+m-i)=n+m:=by omega
 have hold:(Builtin.firstCells i0.size i (.slice (some ⟨b,off,none⟩) i c)).run P w.drew = .ok (cs.take (i*z)).toArray w.drew:=by
  rw [hzs];exact run_firstCells_some w.drew z i ⟨b,off,none⟩ i c (cs.take (i*z)) (by rw [length_take];omega) (fun j v hj=>by
   rw [Addr.add_lit];rw [getElem?_take] at hj;split at hj
   ·exact hcs j v hj
   ·cases hj)
 have hb1:(n+m)*i0.bytes≤140737488355328:=le_trans (Nat.mul_le_mul_left _ hzb) hbig;have hb2:(n+m-i)*i0.bytes≤281474976710656:=le_trans (mul_le_mul_right _ (Nat.sub_le _ _)) (by omega);have hrz:∀ty,(Builtin.append_ #[(ρ.t 24),(ρ.t 3)] ty #[.slice (some ⟨b,off,none⟩) i c,.int .i64 ((n:Int)+(m:Int)-(i:Int))]).run P w =
   .ok (.slice (some ⟨w.heap.size,0,none⟩) (n+m) (grownCap w (n+m) c (ρ.t 9))) (w.drew.alloc (.cells ((cs.take (i*z)).toArray++Builtin.zeroCells zv.cells (n+m-i)++Builtin.zeroCells zv.cells (grownCap w (n+m) c (ρ.t 9)-(n+m))) (ρ.t 9))):=fun ty=>by
  have h:=Lib.run_append_grow_zeros w (ρ.t 24) (ρ.t 3) ty (ρ.t 9) i0 _ .i64 .i64 L.t24 L.t3 hi0 hz0 (some ⟨b,off,none⟩) i c (cs.take (i*z)) hold (n+m-i) (by omega) (by omega) (by omega) (by omega) hb2 (by rw [hik];exact growslice_fits hroom hb1);rw [hik] at h;rw [hkk];exact h
 have hzc:∀k,(Builtin.zeroCells zv.cells k).size=k*z:=fun k=>by simp [Builtin.zeroCells,hzz]
 obtain ⟨G,hG⟩:∃G,G=grownCap w (n+m) c (ρ.t 9):=⟨_,rfl⟩
 obtain ⟨ROW,hROW⟩:∃ROW:Array Value,ROW=(cs.take (i*z)).toArray++Builtin.zeroCells zv.cells (n+m-i)++Builtin.zeroCells zv.cells (G-(n+m)):=⟨_,rfl⟩
 rw [← hG] at hrz;rw [← hROW] at hrz;have hGn:n+m≤G:=by rw [hG];exact grownCap_ge w _ _ _
 have hRs:ROW.size=G*z:=by rw [hROW,size_append,size_append,hzc,hzc,size_toArray,length_take,hcl,Nat.min_eq_left (Nat.le_of_lt hnz),← add_mul,← add_mul];congr 1;omega
 have hRl:(n+m)*z≤ROW.size:=by rw [hRs];exact mul_le_mul_right _ hGn
 refine ⟨ROW,G,hGn,hRs,fun j hj => ?_,?_⟩
 ·have h8:j<(cs.take (i*z)).length:=by rw [length_take];omega
  rw [hROW,Array.append_assoc,Array.getElem?_append,if_pos (by simpa using h8)];simp [getElem?_take,hj]
 obtain ⟨W1,hW1⟩:∃W1,W1=w.drew.alloc (.cells ROW (ρ.t 9)):=⟨_,rfl⟩
 rw [← hW1] at hrz;have hN:∀j,j<(n+m)*z→(W1.cell? ⟨w.heap.size,j,none⟩).isSome=true:=fun j hj=>by rw [hW1,World.cell?_alloc_at (w:=w.drew) ROW _ w.heap.size j rfl,Array.getElem?_eq_getElem (by omega)];rfl
 have hNf:∀j,W1.frozen? ⟨w.heap.size,j,none⟩=false:=fun j=>by rw [hW1];exact World.frozen?_alloc_at (w:=w.drew) ROW _ w.heap.size j rfl
 have hOb:∀j v,w.cell? ⟨b,j,none⟩=some v→W1.cell? ⟨b,j,none⟩=some v:=fun j v h=>by rw [hW1,World.cell?_alloc_past (w:=w.drew) _ b j hbw];exact h
 have hOv:∀j v,w.cell? ⟨vb,j,none⟩=some v→W1.cell? ⟨vb,j,none⟩=some v:=fun j v h=>by rw [hW1,World.cell?_alloc_past (w:=w.drew) _ vb j hvw];exact h
 have hmul1:(i+m)*z+(n-i)*z=(n+m)*z:=by rw [← add_mul];congr 1;omega
 have hmul2:i*z+m*z≤(n+m)*z:=by rw [← add_mul];exact mul_le_mul_right _ (by omega)
 have hcpA:∀(W:World),(∀x,W.cell? x=W1.cell? x)→(∀x,W.frozen? x=W1.frozen? x)→∀ty dc,(Builtin.copy_ #[(ρ.t 24),(ρ.t 24)] ty #[.slice (some ⟨w.heap.size,i*z,none⟩) (n+m-i) dc,.slice (some ⟨vb,voff,none⟩) m vc]).run P W = .ok (goInt m) (W.setCells w.heap.size (i*z) vs):=fun W hWc hWf ty dc=>
  DQ W _ _ ty (ρ.t 9) z w.heap.size (i*z) (n+m-i) dc ⟨vb,voff,none⟩ m vc m vs L.t24 L.z9 (by simp only [min_def];split<;>omega) hvl
   (fun j v hj=>by rw [Addr.add_lit,hWc];exact hOv _ v (hvs j v hj))
   (fun j hj=>by rw [hWc];exact hN _ (by omega)) (fun j hj=>by rw [hWf];exact hNf _) h1v
 have hG63:G≤9223372036854775807:=by have:=grownCap_le_maxLen w (n+m) c (ρ.t 9) (by unfold maxLen;omega);rw [← hG] at this;unfold maxLen at this;omega
 have hGi:¬(G=i):=by omega
 have hGim:¬(G=i+m):=by omega
 have hci:¬(c=i):=by omega
 have hbN:b≠w.heap.size:=by omega
 have hdl:(cs.drop (i*z)).length=(n-i)*z:=by rw [length_drop,hcl,Nat.sub_mul]
 have hcpB:∀(W:World),(∀x,W.cell? x=(W1.setCells w.heap.size (i*z) vs).cell? x)→(∀x,W.frozen? x=(W1.setCells w.heap.size (i*z) vs).frozen? x)→∀ty dc sc,(Builtin.copy_ #[(ρ.t 24),(ρ.t 24)] ty #[.slice (some ⟨w.heap.size,(i+m)*z,none⟩) (n+m-(i+m)) dc,.slice (some ⟨b,off+i*z,none⟩) (n-i) sc]).run P W = .ok (goInt ((n-i:Nat):Int)) (W.setCells w.heap.size ((i+m)*z) (cs.drop (i*z))):=fun W hWc hWf ty dc sc=>
  DQ W _ _ ty (ρ.t 9) z w.heap.size ((i+m)*z) (n+m-(i+m)) dc ⟨b,off+i*z,none⟩ (n-i) sc (n-i) (cs.drop (i*z)) L.t24 L.z9 (by simp only [min_def];split<;>omega) hdl
   (fun j v hj=>by rw [Addr.add_lit,hWc,World.cell?_setCells_out _ _ _ _ _ (fun h _=>absurd h hbN),add_assoc];exact hOb _ v (hcs (i*z+j) v (by rwa [getElem?_drop] at hj)))
   (fun j hj=>by rw [hWc];exact isSome_setCells _ _ _ _ (fun t ht=>hN _ (by omega)) _ (hN _ (by omega)))
   (fun j hj=>by rw [hWf,World.frozen?_setCells];exact hNf _) (fun v hv=>h1c v (mem_of_mem_drop hv))
 subst hW1;have hE1:∀x,((w.alloc (.cells ROW (ρ.t 9))).drew).cell? x=(w.drew.alloc (.cells ROW (ρ.t 9))).cell? x:=fun x=>rfl;have hE2:∀x,((w.alloc (.cells ROW (ρ.t 9))).drew).frozen? x=(w.drew.alloc (.cells ROW (ρ.t 9))).frozen? x:=fun x=>rfl;have hF1:∀x,(((w.alloc (.cells ROW (ρ.t 9))).drew.setCells w.heap.size (i*z) vs).drew).cell? x=((w.drew.alloc (.cells ROW (ρ.t 9))).setCells w.heap.size (i*z) vs).cell? x:=fun x=>rfl;have hF2:∀x,(((w.alloc (.cells ROW (ρ.t 9))).drew.setCells w.heap.size (i*z) vs).drew).frozen? x=((w.drew.alloc (.cells ROW (ρ.t 9))).setCells w.heap.size (i*z) vs).frozen? x:=fun x=>rfl;have hw1:IntKind.i64.wrap ((i:Int)+(m:Int))=(i:Int)+(m:Int):=by rw [IntKind.wrap_i64];omega
 have hb1':(0:Int)≤(i:Int)+(m:Int):=by omega
 have hin:i≤n:=by omega
 have htn:((i:Int)+(m:Int)).toNat=i+m:=by omega
 have hb3:(i:Int)≤(n:Int):=by omega
 clear hkk hik hold hROW hG hRl hmul1 hmul2 hdl hRs hzc hb1 hb2 hnz hmz hN hNf hOb hOv;obtain ⟨_,_,FG⟩:=L.f22
 go_enter FG,Body2.n22_ntmps ρ
 go_wp2_with (first
  |(at_builtin;refine Lib.wpList_append_run _ rfl _ _ _ _ rfl _ _ rfl rfl _ _ (hrz _) ?_)
  |(at_builtin;refine wpList_copy_runI _ rfl _ _ (ρ.t 24) (ρ.t 24) rfl _ _ rfl rfl (hcpA _ hE1 hE2 _ _) ?_)
  |(at_builtin;refine wpList_copy_runI _ rfl _ _ (ρ.t 24) (ρ.t 24) rfl _ _ rfl rfl (hcpB _ (fun _=>rfl) (fun _=>rfl) _ _ _) ?_))
 go_region_law_o (refine step_copy_runI rfl _ _ (ρ.t 24) (ρ.t 24) rfl (.slice (some ⟨w.heap.size,(i+m)*z,none⟩) (n+m-(i+m)) (G-(i+m))) (.slice (some ⟨b,off+i*z,none⟩) (n-i) (c-i)) (by simp [Act.eval,Act.put]) (by simp [Act.eval,Act.put]) (hcpB _ hF1 hF2 (ρ.t 3) (G-(i+m)) (c-i)) ?_)
 go_wp2
 go_ret
 exact ⟨rfl,rfl⟩
end Go.Proofs
namespace Ab
open Go Go.Proofs Go.Shelf
variable {P:Program} {B:Nat→Prop} {κ:A1} {h:Heap} {w:World} {R:Type}
theorem MT {n:Nat} {f:FuncId} {args:Array Value} {Q:Ending→World→Prop} (hc:Calls P f args w Q):CallsIn (Fr none) n P f args w Q:=callsIn_wide.2 hc
theorem Eb {b o:Nat} {cells:Array Value} {el:TypeId} (hb:w.heap[b]? = some (.cells cells el (0,0))) (vs:List Value) (hfit:o+vs.length≤cells.size) (h1:∀v∈vs,v.oneCell'=true) :
  w.setCells b o vs=w.setRow b (Aj cells o vs):=by
 have e1:=run_storeCells_cells (P:=default) b o vs 0 w (fun j hj=>by
  rw [BW hb (by omega)];rfl) (fun j hj=>by
  simp [World.frozen?,hb]) h1
 have e2:=run_storeCells_at default b o el vs 0 cells w hb (by simpa using hfit) h1;rw [e1] at e2;simp only [add_zero] at e2;injection e2
theorem M1 {A:Nat→Prop} {z:Nat} {L:List (List Tree)} {f:Nat→Value} (hL:BE w A z L f) (k:Nat):BE w A z (L.take k) f∧BE w A z (L.drop k) fun q=>f (k*z+q):=by
 refine ⟨⟨fun j e he=>hL.1 j e (Bj he).2,fun j e c x he hx=>hL.2 j e c x (Bj he).2 hx⟩,⟨fun j e he => ?_,fun j e c x he hx => ?_⟩⟩
 ·rw [getElem?_drop] at he;exact hL.1 _ e he
 ·rw [getElem?_drop] at he;have:=hL.2 _ e c x he hx;rw [add_mul,add_assoc] at this;exact this
theorem Im {A:Nat→Prop} {z k:Nat} {L M:List (List Tree)} {f m g:Nat→Value} (hL:BE w A z L f) (hM:BE w A z M m) (hk:k≤L.length)
  (h1:∀q,q<k*z→g q=f q) (h2:∀q,q<M.length*z→g (k*z+q)=m q) (h3:∀q,q<(L.length-k)*z→g ((k+M.length)*z+q)=f (k*z+q)):BE w A z (L.take k++M++L.drop k) g:=by
 have hp:=M1 hL k;have hlt:(L.take k).length=k:=by rw [length_take];omega
 have cong:∀{L:List (List Tree)} {f g:Nat→Value},BE w A z L f→(∀q,q<L.length*z→g q=f q)→BE w A z L g:=fun {L f g} hL hfg=>⟨hL.1,fun j e c x he hx=>by
  have h1:j<L.length:=(List.getElem?_eq_some_iff.1 he).1;have hcl:c<z:=by rw [← hL.1 j e he];exact (List.getElem?_eq_some_iff.1 hx).1
  have:=mul_le_mul_right z (show j+1≤L.length from h1);rw [succ_mul] at this;rw [hfg _ (by omega)];exact hL.2 j e c x he hx⟩
 refine DR (f:=g) (DR hp.1 ?_ fun q hq=>by rw [hlt] at hq;exact h1 q hq) ?_ fun _ _=>rfl
 ·refine cong hM fun q hq => ?_;rw [hlt];exact h2 q hq
 ·refine cong hp.2 fun q hq => ?_;rw [length_append,hlt];rw [length_drop] at hq;exact h3 q hq
theorem Ri {ρ:Ren} {z:Nat} (L:E7 P ρ z) (hh:Ak B κ h w) {ri ver off len k:Nat} {es new:List (List Tree)} (hri:h[ri]? = some (.row false ver z es)) (hoff:off+len=es.length) (hk:k<len) (hnew:new≠[]) (hle:len+new.length≤1073741824) (hz1:z≠1)
  {vs vx:Value} (hs:AR B κ h w (.sref ri ver off len) vs) (hx:BV w (fun b=>B b∨Ex κ h b) (.sl z new) vx) :
  Calls P (ρ.f 22) #[vs,.int .i64 (k:Int),vx] w fun e w'=>∃val κ',e = .returned val∧AR B κ' (h.set ri (.row false (ver+1) z ((es.drop off).take k++new++(es.drop off).drop k))) w' (.sref ri (ver+1) 0 (len+new.length)) val∧
   Ak B κ' (h.set ri (.row false (ver+1) z ((es.drop off).take k++new++(es.drop off).drop k))) w'∧Ext κ h w κ' (h.set ri (.row false (ver+1) z ((es.drop off).take k++new++(es.drop off).drop k))) w':=by
 have hz0:z≠0:=Nat.pos_iff_ne_zero.1 L.pos;have hOL:∀L,OLe (.row false ver z es) (.row false (ver+1) z L):=fun L=>⟨rfl,le_succ _,(fun e=>by simp [AE.ver] at e),(fun e=>by cases e),(fun e=>by cases e),rfl⟩
 have hver:∀L,(AE.row false ver z es).ver=(AE.row false (ver+1) z L).ver→∀{p:Prop},p:=fun L e=>by simp [AE.ver] at e
 cases hs with
 |sref _ _ _ _ _ _ hex hsr=>
 obtain ⟨kk,hkk⟩:=Bm hh hri;obtain ⟨_,_,hm⟩:=hsr kk _ hkk hri rfl;have ho:=hh.obj ri _ _ hri hkk;rcases hm with ⟨rfl,hof,a0,rfl⟩|⟨b,base,rfl,cap,rfl,hcap',hcs⟩
 ·omega
 have hcap:len≤cap:=by simp only [AE.len] at hcap';omega
 obtain ⟨hsz0,cells,el,fr,hcell,hth,hcsz,hls,hct⟩:=ho;have hfr0:fr=(0,0):=hth.resolve_right fun h=>hz1 h.1;subst hfr0;have hcapc:=hcs cells el _ hcell;simp only [AE.size] at hcapc ⊢;rw [add_mul] at hcapc;have hdl:(es.drop off).length=len:=by simp;omega
 have hold:BE w (fun b=>B b∨Ex κ h b) z (es.drop off) fun q=>cells.getD (base+off*z+q) undef:=by refine ⟨fun j e' he'=>hls _ e' (by rw [getElem?_drop] at he';exact he'),fun j e' c y he' hy => ?_⟩;rw [getElem?_drop] at he';have:=hct _ e' c y he' hy;rw [add_mul] at this;dsimp only;rw [show base+off*z+(j*z+c)=base+(off*z+j*z+c) from by omega];exact this
 have hbA:B b∨Ex κ h b :=.inr ⟨ri,base,_,hkk,hri,rfl⟩;have hpos:0<new.length:=length_pos_iff.2 hnew;have hnb:∀nb o m ncap,vx = .slice (some ⟨nb,o,none⟩) m ncap→nb≠b:=fun nb o m ncap e e2=>by
  cases hx with
  |nil=>exact hnew rfl
  |sl _ _ b0 o0 c0 u _ _ hA _ _ _=>
   injection e with e3 e4 e5;injection e3 with e3;injection e3 with e6;exact hA (by rw [e6,e2];exact hbA)
 obtain ⟨nb,o,ncap,news,hvx,hnl,hnc,hn1,hnt⟩:=I2 hz0 (Dw.I0 hx) hnew;have hvb:=hnb _ _ _ _ hvx;subst hvx;have hne:es.drop off≠[]:=fun e=>by rw [e] at hdl;simp at hdl;omega
 have hmz:=mul_le_mul_right z hcap;have hslr:Dw w (fun b=>B b∨Ex κ h b) z (es.drop off) (.slice (some ⟨b,base+off*z,none⟩) len cap):=⟨hold.1,_,cap,by rw [hdl],by rw [hdl];exact hcap,.inr ⟨b,base+off*z,rfl,hh.lt ri b base hkk,fun j e c x he hx=>by
  have hj:j<len:=by rw [← hdl];exact (List.getElem?_eq_some_iff.1 he).1
  have hcl:c<z:=by rw [← hold.1 j e he];exact (List.getElem?_eq_some_iff.1 hx).1
  have hq:=mul_le_mul_right z (show j+1≤len from hj);rw [succ_mul] at hq;exact ⟨_,BW hcell (by omega),hold.2 j e c x he hx⟩⟩⟩
 obtain ⟨b',o',cap',cs,hvs,hcl,hcc,hc1,hct'⟩:=I2 hz0 hslr hne;injection hvs with hv1 hv2 hv3;injection hv1 with hv1;injection hv1 with hv4 hv5;subst hv4 hv5;rw [hdl] at hcl;have hcc':∀j v,cs[j]? = some v→w.cell? ⟨b,base+off*z+j,none⟩=some v:=fun j v hj=>by have:=hcc j v hj;rwa [Dt] at this
 have hnc':∀j v,news[j]? = some v→w.cell? ⟨nb,o+j,none⟩=some v:=fun j v hj=>by have:=hnc j v hj;rwa [Dt] at this
 have hcg:∀q,q<len*z→cells.getD (base+off*z+q) undef=cs.getD q undef:=fun q hq=>by have h1:=hcc' q _ (BS cs q undef (by omega));rw [BW hcell (by omega)] at h1;exact Option.some.inj h1
 have hold':BE w (fun b=>B b∨Ex κ h b) z (es.drop off) fun q=>cs.getD q undef:=⟨hold.1,hct'⟩
 have hnr:BE w (fun b=>B b∨Ex κ h b) z new fun q=>news.getD q undef:=⟨(Dw.I0 hx).1,hnt⟩
 have hlen2:((es.drop off).take k++new++(es.drop off).drop k).length=len+new.length:=by simp only [length_append,length_take,length_drop];omega
 have hm1:(k+new.length)*z+(len-k)*z=(len+new.length)*z:=by rw [← add_mul];congr 1;omega
 have hm2:(k+new.length)*z=k*z+new.length*z:=add_mul _ _ _;have hm3:(len+new.length)*z=len*z+new.length*z:=add_mul _ _ _;have hdl2:(cs.drop (k*z)).length=(len-k)*z:=by rw [length_drop,hcl,Nat.sub_mul]
 have hdg:∀q,(cs.drop (k*z)).getD q undef=cs.getD (k*z+q) undef:=fun q=>by simp [List.getD,getElem?_drop]
 by_cases hroom:len+new.length≤cap
 ·have hmul:=mul_le_mul_right z hroom;obtain ⟨tA,kA,hsa,hkA⟩:∃tA kA,w.shape? nb=some (tA,kA)∧kA≠0:=by
   have h1:=hnc' 0 _ (BS news 0 undef (by rw [hnl];exact Nat.mul_pos hpos L.pos));cases hb0:w.heap[nb]? with
   |none=>simp [World.cell?,hb0] at h1
   |some ob=>
    cases ob with
    |cells c0 e0 f0=>
     refine ⟨e0,c0.size,by simp [World.shape?,hb0],fun e => ?_⟩;simp [World.cell?,hb0] at h1;obtain ⟨h2,_⟩:=Array.getElem?_eq_some_iff.1 h1;omega
    |_=>simp [World.cell?,hb0] at h1
  have hsb:w.shape? b=some (el,cells.size):=by simp [World.shape?,hcell]
  have key:=T6 L b (base+off*z) len cap k nb o new.length ncap cs news w hk hpos hroom (by omega) hvb hcl hnl hcc'
   (fun j hj=>by rw [BW hcell (by omega)];rfl) (fun j=>by simp [World.frozen?,hcell]) hnc' hc1 hn1 tA el kA cells.size hsa hsb hkA
  refine key.mono ?_
  rintro e w' ⟨rfl,rfl⟩
  have hf1:base+off*z+(k+new.length)*z+(cs.drop (k*z)).length≤cells.size:=by omega
  have hs1:=CJ cells _ _ hf1;have hf2:base+off*z+k*z+news.length≤(Aj cells (base+off*z+(k+new.length)*z) (cs.drop (k*z))).size:=by rw [hs1];omega
  have hs2:=CJ _ _ _ hf2;have e1:w.drew.setCells b (base+off*z+(k+new.length)*z) (cs.drop (k*z))=w.drew.setRow b (Aj cells (base+off*z+(k+new.length)*z) (cs.drop (k*z))):=Eb (w:=w.drew) hcell _ hf1 fun v hv=>hc1 v (mem_of_mem_drop hv);have hr1:=setRow_heap w.drew b cells (Aj cells (base+off*z+(k+new.length)*z) (cs.drop (k*z))) el _ hcell;rw [e1,Eb hr1 news hf2 hn1];have hr2:=setRow_heap _ b _ (Aj (Aj cells (base+off*z+(k+new.length)*z) (cs.drop (k*z))) (base+off*z+k*z) news) el _ hr1;generalize hW:(w.drew.setRow b (Aj cells (base+off*z+(k+new.length)*z) (cs.drop (k*z)))).setRow b (Aj (Aj cells (base+off*z+(k+new.length)*z) (cs.drop (k*z))) (base+off*z+k*z) news)=W at hr2 ⊢;have h5:∀b',b'<w.heap.size→(∀base',(some (b,base):Option (Nat×Nat))≠some (b',base'))→W.heap[b']? = w.heap[b']? :=fun b' _ hb'=>by have hbn:b'≠b:=fun e=>hb' base (by rw [e]);rw [← hW,setRow_other _ b _ hbn,setRow_other _ b _ hbn];rfl
  have hsz:W.heap.size=w.heap.size:=by rw [← hW,setRow_size,setRow_size];rfl
  have x1:Ext κ h w (κ.set ri (some (b,base+off*z))) (h.set ri (.row false (ver+1) z ((es.drop off).take k++new++(es.drop off).drop k))) W:=
   Ca (w':=W) hh hri rfl (hOL _) hkk (by rw [← hW];rfl) (by rw [← hW];rfl) (by rw [← hW];rfl) (by rw [hsz];exact le_refl _) h5 (fun b' base' e=>by injection e with e;injection e with e1 e2;subst e1;exact .inl ⟨base,rfl⟩) (fun e=>hver _ e)
  have hh1:=Bz hh hri hkk h5 (fun b' base' e=>by injection e with e;injection e with e1 e2;subst e1;exact ⟨.inl ⟨base,rfl⟩,by rw [hsz];exact hh.lt ri _ base hkk⟩) x1
   (B6 hz0 hr2 (.inl rfl) (by rw [hlen2,hs2,hs1];omega) (C9 x1 (Im hold' hnr (by omega) (fun q hq=>by
    have hqk:q<len*z:=lt_of_lt_of_le hq (mul_le_mul_right z (by omega));rw [BL _ _ _ hf2,if_neg (by omega),BL _ _ _ hf1,if_neg (by omega),hcg q hqk]) (fun q hq=>by
    rw [BL _ _ _ hf2,if_pos ⟨by omega,by omega⟩];congr 1;omega) (fun q hq=>by
    rw [hdl] at hq;rw [BL _ _ _ hf2,if_neg (by omega),BL _ _ _ hf1,if_pos ⟨by omega,by omega⟩,← hdg];congr 1;omega))))
  exact ⟨_,_,rfl,By (Aq hkk) (Aq hri) hr2 (by rw [hs2,hs1];omega) hlen2 hroom,hh1,x1⟩
 ·have hbig:(len+new.length)*65536≤140737488355328:=le_trans (mul_le_mul_right _ hle) (by omega);obtain ⟨ROW,G,hG,hRs,hR,key⟩:=Vg L b (base+off*z) len cap k nb o new.length ncap cs news w hk hpos hcap (by omega) hbig hcl hnl hcc' hnc' hc1 hn1;refine key.mono ?_
  rintro e w' ⟨rfl,rfl⟩
  have hGz:=mul_le_mul_right z hG;have ha:(w.alloc (.cells ROW (ρ.t 9))).drew.heap[w.heap.size]? = some (.cells ROW (ρ.t 9) (0,0)):=A8 w _;have hf1:k*z+news.length≤ROW.size:=by omega
  have hs1:=CJ ROW _ _ hf1;have hf2:(k+new.length)*z+(cs.drop (k*z)).length≤(Aj ROW (k*z) news).size:=by rw [hs1];omega
  have hs2:=CJ _ _ _ hf2;have hr1:=setRow_heap (w.alloc (.cells ROW (ρ.t 9))).drew w.heap.size ROW (Aj ROW (k*z) news) (ρ.t 9) _ ha;have hr1':(((w.alloc (.cells ROW (ρ.t 9))).drew.setRow w.heap.size (Aj ROW (k*z) news)).drew).heap[w.heap.size]? = some (.cells (Aj ROW (k*z) news) (ρ.t 9) (0,0)):=hr1;rw [Eb ha news hf1 hn1,Eb hr1' _ hf2 fun v hv=>hc1 v (mem_of_mem_drop hv)];have hr2:=setRow_heap _ w.heap.size _ (Aj (Aj ROW (k*z) news) ((k+new.length)*z) (cs.drop (k*z))) (ρ.t 9) _ hr1';generalize hW:(((w.alloc (.cells ROW (ρ.t 9))).drew.setRow w.heap.size (Aj ROW (k*z) news)).drew).setRow w.heap.size (Aj (Aj ROW (k*z) news) ((k+new.length)*z) (cs.drop (k*z)))=W at hr2 ⊢;have h5:∀b',b'<w.heap.size→W.heap[b']? = w.heap[b']? :=fun b' hb'=>by rw [← hW,setRow_other _ _ _ (by omega)];show ((w.alloc (.cells ROW (ρ.t 9))).drew.setRow w.heap.size (Aj ROW (k*z) news)).heap[b']? = _;rw [setRow_other _ _ _ (by omega)];exact Al w _ hb'
  have hsz:W.heap.size=w.heap.size+1:=by rw [← hW,setRow_size];show ((w.alloc (.cells ROW (ρ.t 9))).drew.setRow w.heap.size (Aj ROW (k*z) news)).heap.size=_;rw [setRow_size];simp
  have x1:Ext κ h w (κ.set ri (some (w.heap.size,0))) (h.set ri (.row false (ver+1) z ((es.drop off).take k++new++(es.drop off).drop k))) W:=
   Ca (w':=W) hh hri rfl (hOL _) hkk (by rw [← hW];rfl) (by rw [← hW];rfl) (by rw [← hW];rfl) (by omega) (fun b' hb' _=>h5 b' hb') (fun b' base' e=>by injection e with e;injection e with e;exact .inr (by omega)) (fun e=>hver _ e)
  have hh1:=Bz hh hri hkk (fun b' hb' _=>h5 b' hb') (fun b' base' e=>by injection e with e;injection e with e;subst e;exact ⟨.inr (le_refl _),by omega⟩) x1
   (B6 hz0 hr2 (.inl rfl) (by rw [hlen2,hs2,hs1];omega) (C9 x1 (Im hold' hnr (by omega) (fun q hq=>by
    rw [zero_add,BL _ _ _ hf2,if_neg (by omega),BL _ _ _ hf1,if_neg (by omega)];have:=hR q hq;simp only [Array.getD_eq_getD_getElem?,getD_eq_getElem?_getD,this]) (fun q hq=>by
    rw [zero_add,BL _ _ _ hf2,if_neg (by omega),BL _ _ _ hf1,if_pos ⟨by omega,by omega⟩];congr 1;omega) (fun q hq=>by
    rw [hdl] at hq;rw [zero_add,BL _ _ _ hf2,if_pos ⟨by omega,by omega⟩,← hdg];congr 1;omega))))
  exact ⟨_,_,rfl,By (Aq hkk) (Aq hri) hr2 (by rw [hs2,hs1];omega) hlen2 hG,hh1,x1⟩
end Ab
namespace Ab
open Go Go.Proofs Go.Shelf
variable {P:Program} {B:Nat→Prop} {κ:A1} {h:Heap} {w:World} {R:Type}
theorem Nc {ρ:Ren} {z:Nat} (L:E7 P ρ z):Mg P (ρ.t 24)=some z:=by obtain ⟨i,zv,h1,h2,h3,h4,h5⟩:=L.i9;have:=L.pos;simp only [Mg,L.t24,h1,h2];rw [if_pos ⟨by omega,by omega,h5⟩,h3]
theorem ains_ok {ρ:Ren} {z:Nat} (L:E7 P ρ z) {avs:List AV} {K:AV→Heap→Option R} {r:R} (hr:ains z h avs K=some r) (hh:Ak B κ h w) {vs:Array Value} (hc:Aa B κ h w avs vs) (n:Nat) :
  CallsIn (Fr none) n P (ρ.f 22) vs w fun e w'=>∃val v h' κ',e = .returned val∧K v h'=some r∧AR B κ' h' w' v val∧Ak B κ' h' w'∧Ext κ h w κ' h' w':=by
 refine MT ?_;unfold ains at hr
 try simp only [AF] at hr
 split at hr
 ·rename_i s kx z' new;obtain ⟨k,hk,hr1⟩:=bind_some hr;obtain ⟨⟨rfl,hn0⟩,hr2⟩:=AH hr1;clear hr hr1;obtain ⟨vs⟩:=vs;have hl:vs.length=3:=by simpa using hc.1
  match vs,hl with
  |[v0,v1,v2],_=>
  have c0:AR B κ h w s v0:=hc.2 0 s rfl;have c1:AR B κ h w kx v1:=hc.2 1 kx rfl;have c2:AR B κ h w (.t (.sl z' new)) v2:=hc.2 2 _ rfl;have hk1:v1 = .int .i64 k:=CH hk c1;subst hk1;have hnew:new≠[]:=fun e=>hn0 (by rw [e];rfl);have hpos:0<new.length:=length_pos_iff.2 hnew;obtain ⟨va,vc,hva⟩:∃va vc,v2 = .slice va new.length vc:=by
   cases c2 with
   |t _ _ ht=>cases ht with
    |nil=>exact (hnew rfl).elim
    |sl _ _ b0 o0 c0 u _ _ hA _ _ _=>exact ⟨_,_,rfl⟩
  split at hr2
  ·obtain ⟨⟨rfl,hle⟩,hK⟩:=AH hr2;have hap:Du P (ρ.t 24) h .nilsl (.t (.sl z' new)) K=some r:=by simp [Du,Nc L,Ht,elems,AF,hle,hK]
   obtain ⟨v,h',κ',val,w',h1,h2,h3,h4,h5⟩:=IW (t':=ρ.t 24) (by simp [G7]) hap hh c0 c2 0;cases c0 with
   |nilsl a0=>
    subst hva;refine (S2 L a0 new.length vc va w w' val hpos fun ty=>h2).mono ?_
    rintro e w2 ⟨rfl,rfl⟩
    exact ⟨_,_,_,_,rfl,h1,h3,h4,h5⟩
  ·rename_i i ver off len;split at hr2
   ·rename_i ver' size es hi;obtain ⟨⟨rfl,rfl,hoff,hle,hk0,hkl,hz1⟩,hK⟩:=AH hr2;obtain ⟨k',rfl⟩:=Int.eq_ofNat_of_zero_le hk0;simp only [toNat_natCast] at hK;have hdl:(es.drop off).length=len:=by simp;omega
    by_cases hkk:k'=len
    ·subst hkk;have hap:Du P (ρ.t 24) h (.sref i ver' off k') (.t (.sl size new)) K=some r:=by have hA:(es.drop off).take k'=es.drop off:=take_of_length_le (by omega);have hB:(es.drop off).drop k'=[]:=List.drop_eq_nil_of_le (by omega);rw [hA,hB,append_nil] at hK;simp [Du,Nc L,Ht,elems,AF,hi,hoff,hle,hA,hK]
     obtain ⟨v,h',κ',val,w',h1,h2,h3,h4,h5⟩:=IW (t':=ρ.t 24) (by simp [G7]) hap hh c0 c2 0;cases c0 with
     |sref _ _ _ _ _ _ hex hsr=>
     obtain ⟨kk,hkk⟩:=Bm hh hi;obtain ⟨_,_,hm⟩:=hsr kk _ hkk hi rfl;have ho:=hh.obj i _ _ hi hkk;subst hva;rcases hm with ⟨rfl,hof,a0,rfl⟩|⟨b,base,rfl,cap,rfl,hcap',hcs⟩
     ·refine (S2 L a0 new.length vc va w w' val hpos fun ty=>h2).mono ?_
      rintro e w2 ⟨rfl,rfl⟩
      exact ⟨_,_,_,_,rfl,h1,h3,h4,h5⟩
     ·have hcap:k'≤cap:=by simp only [AE.len] at hcap';omega
      refine (ins_end L b _ k' cap new.length vc va w w' val hpos hcap (by omega) fun ty=>h2).mono ?_
      rintro e w2 ⟨rfl,rfl⟩
      exact ⟨_,_,_,_,rfl,h1,h3,h4,h5⟩
    ·refine (Ri L hh hi hoff (by omega) hnew hle hz1 c0 (by cases c2 with|t _ _ ht=>exact ht)).mono ?_
     rintro e w' ⟨val,κ',rfl,h3,h4,h5⟩
     exact ⟨_,_,_,_,rfl,hK,h3,h4,h5⟩
   ·cases hr2
  ·cases hr2
 ·cases hr
theorem WT {ρ:Ren} {z:Nat} (L:TX P ρ z) {avs:List AV} {K:AV→Heap→Option R} {r:R} (hr:WU z h avs K=some r) (hh:Ak B κ h w) {vs:Array Value} (hc:Aa B κ h w avs vs) (n:Nat) :
  CallsIn (Fr none) n P (ρ.f 4) vs w fun e w'=>∃val v h' κ',e = .returned val∧K v h'=some r∧AR B κ' h' w' v val∧Ak B κ' h' w'∧Ext κ h w κ' h' w':=by
 refine MT ?_;unfold WU at hr
 try simp only [AF] at hr
 split at hr
 ·rename_i nx;obtain ⟨k,hk,hr1⟩:=bind_some hr;obtain ⟨⟨h0,hle⟩,hK⟩:=AH hr1;obtain ⟨vs⟩:=vs;have hl:vs.length=2:=by simpa using hc.1
  match vs,hl with
  |[v0,v1],_=>
  have c0:AR B κ h w .nilsl v0:=hc.2 0 _ rfl;have c1:AR B κ h w nx v1:=hc.2 1 nx rfl;obtain rfl:v1 = .int .i64 k:=CH hk c1;obtain ⟨m,rfl⟩:=Int.eq_ofNat_of_zero_le h0;obtain ⟨i,zv,hi,hzv,hsz,hzs,hby⟩:=L.i25;have hz0:z≠0:=by have:=L.pos;omega
  cases c0 with
  |nilsl a0=>
   by_cases hm:m=0
   ·subst hm;refine (Any8.slices_Grow_room L.lay a0 0 0 0 w (le_refl _) (by omega) (by omega) (by omega)).mono ?_
    rintro e w' ⟨rfl,he⟩
    subst he;have x1:Ext κ h w' (κ++[none]) (h++[.row false 0 z []]) w':=Be hh rfl rfl rfl (le_refl _) (fun _ _=>rfl) (fun b base e=>by cases e);have hh1:=BM hh (fun _ _=>rfl) x1 (fun b base e=>by cases e) (show GH B (κ++[none]) (h++[.row false 0 z []]) w' none (.row false 0 z []) from rfl);exact ⟨_,_,_,_,rfl,hK,B4 (by rw [← hh.len];exact Ai κ _) (Ai h _),hh1,x1⟩
   ·have hbig:(0+m)*i.bytes≤140737488355328:=by have h2:m*i.bytes≤1073741824*65536:=Nat.mul_le_mul (by omega) hby;rw [zero_add];omega
    refine (Any8.slices_Grow_grow L.lay i zv hi hzv (by omega) a0 0 0 m [] w (le_refl _) (by omega) hbig (by omega) (by simp) (fun _=>rfl) (fun a _ j v hj=>by simp at hj)).mono ?_
    rintro e w' ⟨rfl,rfl⟩
    generalize hC:([]:List Value).toArray++Builtin.zeroCells zv.cells (0+m-0)++Builtin.zeroCells zv.cells (grownCap w (0+m) 0 (ρ.t 25)-(0+m))=CS;have hge:=grownCap_ge w (0+m) 0 (ρ.t 25);have hCs:CS.size=grownCap w (0+m) 0 (ρ.t 25)*z:=by rw [← hC];simp only [size_append,size_toArray,length_nil,size_zeroCells,hzs];rw [zero_add,← add_mul];congr 1;omega
    have h5:∀b',b'<w.heap.size→(w.drew.alloc (.cells CS (ρ.t 25))).heap[b']? = w.heap[b']? :=fun b' hb'=>Al w.drew _ hb';have x1:Ext κ h w (κ++[some (w.heap.size,0)]) (h++[.row false 0 z []]) (w.drew.alloc (.cells CS (ρ.t 25))):=
     Be (w':=w.drew.alloc _) hh rfl rfl rfl (by simp) h5 fun b base e=>by injection e with e;injection e with e;omega
    have hnew:=A8 w.drew (.cells CS (ρ.t 25));have hh1:=BM hh h5 x1 (fun b base e=>by injection e with e;injection e with e;subst e;exact ⟨le_refl _,by simp⟩)
     (B6 hz0 hnew (.inl rfl) (by simp) ⟨fun j e he=>by simp at he,fun j e c x he=>by simp at he⟩)
    exact ⟨_,_,_,_,rfl,hK,By (by rw [← hh.len];exact Ai κ _) (Ai h _) hnew (by rw [hCs];omega) rfl (zero_le _),hh1,x1⟩
 ·cases hr
theorem isFn_vs {f:Option FuncId} {s:AV} {rest:List AV} (hf:isFn f rest=true) {vs:Array Value} (hc:Aa B κ h w (s::rest) vs):∃v0,vs = #[v0]++fnV f∧AR B κ h w s v0:=by
 obtain ⟨vs⟩:=vs;have h0:=hc.1;have c0:=hc.2 0 s rfl;cases f with
 |none=>
  cases rest with
  |nil=>
   match vs,(by simpa using h0:vs.length=1) with
   |[v0],_=>exact ⟨v0,rfl,c0⟩
  |cons x l=>simp [isFn] at hf
 |some g=>
  match rest,hf with
  |[.func (.func g') [] []],hf=>
   match vs,(by simpa using h0:vs.length=2) with
   |[v0,v1],_=>
    have c1:AR B κ h w (.func (.func g') [] []) v1:=hc.2 1 _ rfl;obtain rfl:g=g':=by simpa [isFn] using hf
    cases c1 with
    |func _ _ _ fs cs h1 h2 _ _=>
     obtain rfl:fs = #[]:=eq_empty_of_size_eq_zero (by simpa using h1);obtain rfl:cs = #[]:=eq_empty_of_size_eq_zero (by simpa using h2);exact ⟨v0,rfl,c0⟩
theorem F7 {z:Nat}:∀{d:List (List Tree)},Ax z d=true→(Ct d).length=d.length*z
 |[],_=>by simp [Ct]
 |e::d,h=>by simp only [Ax,all_cons,and_eq_true,beq_iff_eq] at h;have ih:=F7 (z:=z) (d:=d) (by simpa [Ax] using h.2);simp only [Ct,map_cons,flatten_cons,length_append,length_map] at ih ⊢;rw [ih,h.1.1,length_cons,succ_mul];omega
theorem HU {z:Nat}:∀{d:List (List Tree)},Ax z d=true→∀(j c:Nat) (e:List Tree) (x:Tree),d[j]? = some e→e[c]? = some x→(Ct d).getD (j*z+c) undef = .int .i64 (intOf x)∧x = .int .i64 (intOf x)∧e.length=z
 |[],_,j,c,e,x,hj,_=>by simp at hj
 |a::d,h,j,c,e,x,hj,hx=>by
  simp only [Ax,all_cons,and_eq_true,beq_iff_eq] at h;have ih:=HU (z:=z) (d:=d) (by simpa [Ax] using h.2);have hfl:Ct (a::d)=a.map (fun x=>Value.int .i64 (intOf x))++Ct d:=by simp [Ct]
  rw [hfl];cases j with
  |zero=>
   obtain rfl:a=e:=by simpa using hj
   have hc:c<a.length:=(List.getElem?_eq_some_iff.1 hx).1;have hi:=all_eq_true.1 h.1.2 x (mem_of_getElem? hx);refine ⟨?_,?_,h.1.1⟩
   ·simp only [Nat.zero_mul,zero_add,List.getD];rw [getElem?_append_left (by simpa using hc),getElem?_map,hx];rfl
   ·cases x<;>simp [H0] at hi;rename_i k n;cases k<;>simp [H0] at hi<;>rfl
  |succ j=>
   obtain ⟨h1,h2,h3⟩:=ih j c e x (by simpa using hj) hx;refine ⟨?_,h2,h3⟩;rw [← h1];simp only [List.getD];rw [getElem?_append_right (by rw [length_map,h.1.1,succ_mul];omega),length_map,h.1.1];congr 2;rw [succ_mul];omega
theorem UC {w:World} {A:Nat→Prop} {z:Nat} {d:List (List Tree)} (h:Ax z d=true):BE w A z d fun q=>(Ct d).getD q undef:=by
 refine ⟨fun j e he => ?_,fun j e c x he hx => ?_⟩
 ·have:=all_eq_true.1 h e (mem_of_getElem? he);simp only [and_eq_true,beq_iff_eq] at this;exact this.1
 ·obtain ⟨h1,h2,_⟩:=HU h j c e x he hx;simp only [h1];rw [h2];exact .int _ _
theorem WO {g:FuncId} {z m:Nat} {f:Option FuncId} {F:List (List Tree)→List (List Tree)} (L:HD P g z m f F) {avs:List AV} {K:AV→Heap→Option R} {r:R} (hr:WQ z m f F h avs K=some r) (hh:Ak B κ h w) {vs:Array Value} (hc:Aa B κ h w avs vs) (n:Nat) :
  CallsIn (Fr none) n P g vs w fun e w'=>∃val v h' κ',e = .returned val∧K v h'=some r∧AR B κ' h' w' v val∧Ak B κ' h' w'∧Ext κ h w κ' h' w':=by
 refine MT ?_;unfold WQ at hr
 try simp only [AF] at hr
 split at hr
 ·rename_i s rest;split at hr
  ·rename_i hf;obtain ⟨v0,rfl,c0⟩:=isFn_vs hf hc;have hun:∀{κ:A1} {h:Heap} {w:World},AR B κ h w (.tuple []) (.tuple #[]):=.tuple _ _ rfl fun j x hx=>by simp at hx
   split at hr
   ·cases c0 with
    |nilsl a=>
     refine (L.nil a w).mono ?_
     rintro e w' ⟨rfl,hg⟩
     exact ⟨_,_,_,_,rfl,hr,hun,D7 hh hg,EN hh hg⟩
   ·rename_i i ver off len;split at hr
    ·rename_i ver' size es hi;obtain ⟨⟨rfl,rfl,hle,hle2,hint⟩,hK⟩:=AH hr;have hdl:((es.drop off).take len).length=len:=by simp;omega
     have hFl:=(L.len ((es.drop off).take len)).trans hdl;cases c0 with
     |sref _ _ _ _ _ _ hex hsr=>
      obtain ⟨kk,hkk⟩:=Bm hh hi;obtain ⟨_,hle',hm⟩:=hsr kk _ hkk hi rfl;rcases hm with ⟨rfl,hof,a0,rfl⟩|⟨b,base,rfl,cap,rfl,hcap,hcs⟩
      ·refine (L.nil a0 w).mono ?_
       rintro e w' ⟨rfl,hg⟩
       have hF0:F ((es.drop off).take 0)=[]:=eq_nil_of_length_eq_zero hFl;have hset:h.set i (.row false ver' size (A3 es off (F ((es.drop off).take 0))))=h:=by
        rw [hF0];apply ext_getElem?;intro j;by_cases hij:j=i
        ·rw [hij,Aq hi,hi];simp [A3]
        ·rw [Cc hij]
       rw [hset] at hK;exact ⟨_,_,_,_,rfl,hK,hun,D7 hh hg,EN hh hg⟩
      ·obtain ⟨hsz0,cells,el,fr,hcell,hth,hcsz,hls,hct⟩:=hh.obj i _ _ hi hkk;simp only [AE.size,AE.len] at hle' hcap hcs ⊢;have hint2:=L.int _ hint;have hvl:=F7 hint2;rw [L.len] at hvl;obtain ⟨f1,f2,f3,f4,f5⟩:=HL (new:=F ((es.drop off).take len)) (p:=off) (vals:=Ct (F ((es.drop off).take len))) hh hi hkk hcell (by omega) (by rw [hvl,hFl,hdl]) (UC hint2);have hrun:=L.run ((es.drop off).take len) w b (base+off*size) cap cells el fr hint (by omega) hcell hth (by rw [hdl];rw [hvl,hdl] at f1;exact f1) (fun q hq=>by
        rw [hdl] at hq;have hzp:0<size:=pos_of_ne_zero hsz0;have hj:q / size<len:=(Nat.div_lt_iff_lt_mul hzp).2 hq;have hc1:q % size<size:=mod_lt _ hzp;obtain ⟨e,he⟩:∃e,((es.drop off).take len)[q / size]? = some e:=⟨_,getElem?_eq_getElem (by rw [hdl];exact hj)⟩
        have he2:es[off+q / size]? = some e:=by have:=(LC he).2;rwa [getElem?_drop] at this
        obtain ⟨x,hx⟩:∃x,e[q % size]? = some x:=⟨_,getElem?_eq_getElem (by rw [hls _ e he2];exact hc1)⟩
        obtain ⟨g1,g2,_⟩:=HU hint _ _ e x he hx;have hq2:q / size*size+q % size=q:=by rw [mul_comm];exact Nat.div_add_mod q size
        rw [hq2] at g1;rw [g1];have ht:=hct _ e _ x he2 hx;rw [g2] at ht;have hidx:base+((off+q / size)*size+q % size)=base+off*size+q:=by rw [add_mul];omega
        rw [hidx] at ht;generalize cells.getD (base+off*size+q) undef=vv at ht;cases ht;rfl)
       rw [hdl] at hrun;refine hrun.mono ?_
       rintro e w' ⟨rfl,hg⟩
       exact ⟨_,_,_,_,rfl,hK,hun,D7 f4 hg,f5.trans (EN f4 hg)⟩
    ·cases hr
   ·cases hr
  ·cases hr
 ·cases hr
theorem WM {g:FuncId} {p:Prim} (L:SJ P g p) {avs:List AV} {K:AV→Heap→Option R} {r:R} (hr:aprim p h avs K=some r) (hh:Ak B κ h w) {vs:Array Value} (hc:Aa B κ h w avs vs) (n:Nat) :
  CallsIn (Fr none) n P g vs w fun e w'=>∃val v h' κ',e = .returned val∧K v h'=some r∧AR B κ' h' w' v val∧Ak B κ' h' w'∧Ext κ h w κ' h' w':=by
 cases p with
 |ins z=>
  obtain ⟨ρ,rfl,hL⟩:=L;exact ains_ok hL hr hh hc n
 |grow z=>
  obtain ⟨ρ,rfl,hL⟩:=L;exact WT hL hr hh hc n
 |perm z m f F=>exact WO L hr hh hc n
end Ab
namespace Ab
open Go
variable {R:Type} {P:Program} {B:Nat→Prop} {κ:A1} {h:Heap} {w:World}
theorem Ln {f:Nat→Tree} {t:TypeId} {off:Nat} {x:AV} {off':Nat} (hm:Gq P t (fun i =>.t (f i)) off=some (x,off')) {B1 B2:Nat→Prop} {κ1 κ2:A1} {h1 h2:Heap} {w1 w2:World} {v:Value} (hv:AR B1 κ1 h1 w1 x v)
  (ht:∀i u,BV w1 (fun b=>B1 b∨Ex κ1 h1 b) (f i) u→BV w2 (fun b=>B2 b∨Ex κ2 h2 b) (f i) u):AR B2 κ2 h2 w2 x v:=by
 unfold Gq at hm;split at hm
 ·rename_i n _ _;simp only [Option.some.injEq,Prod.mk.injEq] at hm;obtain ⟨rfl,_⟩:=hm;cases hv with
  |agg _ vs hs hall=>
   refine .agg _ _ hs fun j y hy => ?_;have:=hall j y hy;have hj:j<n:=by have:=AU hy;simpa [A4] using this
   rw [EI _ _ _ _ hj] at hy;cases hy;cases this with
   |t _ _ h3=>exact .t _ _ (ht _ _ h3)
 ·simp only [Option.some.injEq,Prod.mk.injEq] at hm;obtain ⟨rfl,_⟩:=hm;cases hv with
  |t _ _ h3=>exact .t _ _ (ht _ _ h3)
 ·cases hm
theorem EV {f:Nat→Tree}:∀{ts:List TypeId} {off:Nat} {avs:List AV},CB P (fun i =>.t (f i)) ts off=some avs→∀{B1 B2:Nat→Prop} {κ1 κ2:A1} {h1 h2:Heap} {w1 w2:World}
  (_:∀i u,BV w1 (fun b=>B1 b∨Ex κ1 h1 b) (f i) u→BV w2 (fun b=>B2 b∨Ex κ2 h2 b) (f i) u) (x:AV) (_:x∈avs) (v:Value),AR B1 κ1 h1 w1 x v→AR B2 κ2 h2 w2 x v
 |[],off,avs,hm,B1,B2,κ1,κ2,h1,h2,w1,w2,ht,x,hx,v,hv=>by simp only [CB,Option.some.injEq] at hm;subst hm;cases hx
 |t::ts,off,avs,hm,B1,B2,κ1,κ2,h1,h2,w1,w2,ht,x,hx,v,hv=>by
  simp only [CB] at hm;split at hm
  ·rename_i y off' hy;cases hr:CB P (fun i =>.t (f i)) ts off' with
   |none=>rw [hr] at hm;cases hm
   |some rest=>
    rw [hr] at hm;simp only [map_some,Option.some.injEq] at hm;subst hm;cases hx with
    |head=>exact Ln hy hv ht
    |tail _ hx=>exact EV hr ht x hx v hv
  ·cases hm
theorem Gs {f:Nat→Tree} {g:FuncId} {r:AV} (hm:CQ P g (fun i =>.t (f i))=some r) {B1 B2:Nat→Prop} {κ1 κ2:A1} {h1 h2:Heap} {w1 w2:World}
  (ht:∀i u,BV w1 (fun b=>B1 b∨Ex κ1 h1 b) (f i) u→BV w2 (fun b=>B2 b∨Ex κ2 h2 b) (f i) u) {v:Value} (hv:AR B1 κ1 h1 w1 r v):AR B2 κ2 h2 w2 r v:=by
 unfold CQ at hm;split at hm
 ·rename_i fn hf;split at hm
  ·rename_i x hx;cases hm;exact EV hx ht _ (mem_singleton.2 rfl) v hv
  ·rename_i avs _ hx;cases hm;cases hv with
   |tuple _ vs hs hall=>exact .tuple _ _ hs fun j y hy=>EV hx ht y (mem_of_getElem? hy) _ (hall j y hy)
  ·cases hm
 ·cases hm
theorem Gp {m:Nat} {leaf:Nat→AV} (hl:∀i,Refs m (leaf i)):∀{ts:List TypeId} {off:Nat} {avs:List AV},CB P leaf ts off=some avs→∀x∈avs,Refs m x
 |[],off,avs,hm,x,hx=>by simp only [CB,Option.some.injEq] at hm;subst hm;cases hx
 |t::ts,off,avs,hm,x,hx=>by
  simp only [CB] at hm;split at hm
  ·rename_i y off' hy;cases hr:CB P leaf ts off' with
   |none=>rw [hr] at hm;cases hm
   |some rest=>
    rw [hr] at hm;simp only [map_some,Option.some.injEq] at hm;subst hm;cases hx with
    |tail _ hx=>exact Gp hl hr x hx
    |head=>
     unfold Gq at hy;split at hy
     ·rename_i n _ _;simp only [Option.some.injEq,Prod.mk.injEq] at hy;obtain ⟨rfl,_⟩:=hy;refine .agg _ fun j z hz => ?_;have hj:j<n:=by have:=AU hz;simpa [A4] using this
      rw [EI _ _ _ _ hj] at hz;cases hz;exact hl _
     ·simp only [Option.some.injEq,Prod.mk.injEq] at hy;obtain ⟨rfl,_⟩:=hy;exact hl _
     ·cases hy
  ·cases hm
theorem Lo {m:Nat} {leaf:Nat→AV} (hl:∀i,Refs m (leaf i)) {g:FuncId} {r:AV} (hm:CQ P g leaf=some r):Refs m r:=by
 unfold CQ at hm;split at hm
 ·split at hm
  ·rename_i x hx;cases hm;exact Gp hl hx _ (mem_singleton.2 rfl)
  ·rename_i avs _ hx;cases hm;exact .tuple _ fun j y hy=>Gp hl hx y (mem_of_getElem? hy)
  ·cases hm
 ·cases hm
def Hm (B:Nat→Prop) (κ:A1) (h:Heap) (w:World) (q:Bool) (K:AV→Heap→Option R) (r:R) (e:Ending) (w':World):Prop:=
 ∃val v h' κ',e = .returned val∧K v h'=some r∧AR B κ' h' w' v val∧Ak B κ' h' w'∧Ext κ h w κ' h' w'∧(q=true→h'=h∧κ'=κ)
theorem Pj {ys:List Tree} (hs:ys.all Tree.scalar=true) (i:Nat):(ys.getD i default).scalar=true:=by
 rcases lt_or_ge i ys.length with hi|hi
 ·exact EK hs (BS ys i default hi)
 ·simp only [List.getD,getElem?_eq_none hi];rfl
theorem SU {m:Nat} {rs:List AV} {κ':A1} {h1:Heap} {w':World} {rv:AV} {v:Value} (hh':Ak B κ' h1 w') (x:Ext κ h w κ' h1 w') (hm:h.length≤m) (hrefs:(∀i,Refs m (rs.getD i .undef))→Refs m rv) (hv:AR B κ' h1 w' rv v) :
  ∃κ2,AR B κ2 (trim m rs h1) w' rv v∧Ak B κ2 (trim m rs h1) w'∧Ext κ h w κ2 (trim m rs h1) w':=by
 unfold trim;split
 ·rename_i hc;simp only [and_eq_true] at hc;refine ⟨κ'.take m,hv.Dg (hrefs fun i => ?_),hh'.Dg hc.2,x.Dg hm⟩;rcases lt_or_ge i rs.length with hi|hi
  ·exact DX 4 (EK hc.1 (BS rs i .undef hi))
  ·simp only [List.getD,getElem?_eq_none hi];exact .undef
 ·exact ⟨κ',hv,hh',x⟩
theorem Tv (g j:Nat) (hj:j<64):¬ES+(64*g+j)<OWN∧¬ES+(64*g+j)<ES∧(ES+(64*g+j)-ES) % 64=j∧(ES+(64*g+j)-ES) / 64=g:=by unfold OWN ES;omega
theorem VG {g:Nat} (h:g<OWN):OWN+g<ES:=by unfold OWN at h;unfold OWN ES;omega
theorem QK {C:Cfg} {rec:Rec} {pc:BF} (hrec:Dd C.P rec) (hpc:B7 C.P pc) {q:Bool} {g:FuncId} {avs:List AV} {K:AV→Heap→Option R} {r:R} (hr:FM C rec pc q g avs h K=some r)
  (hh:Ak B κ h w) {vs:Array Value} (hc:Aa B κ h w avs vs) (n:Nat):CallsIn (Fr none) n C.P g vs w (Hm B κ h w q K r):=by
 unfold FM at hr
 try simp only [AF] at hr
 split at hr
 ·split at hr
  ·cases hr
  ·rename_i hq;obtain ⟨ls,us,hr1,hls,hbuild⟩:=JB hr hc;clear hr;obtain ⟨hh1,x1⟩:=Ee ls hh;have hls1:=hls.ext x1;obtain ⟨xs,hr3,hxl,_,hxt⟩:=Cm (vs:=us) hr1 hh1 (by simpa using hls1.1) (Bi hls1);have hul:us.length=xs.length:=by rw [hxl];simpa using hls1.1
   have hargs:∃avs',DH C.P g (fun i =>.t (xs.getD i default))=some avs'∧Aa (fun b=>B b∨Ex κ (AZ h ls) b) [] [] w avs' vs:=by
    obtain ⟨avs',ha1,ha2⟩:=hbuild (fun b=>B b∨Ex κ (AZ h ls) b) [] [] w (fun i =>.t (xs.getD i default)) 0 (fun j u hu=>by
     have hj:j<xs.length:=by rw [← hul];exact AU hu
     have:=hxt j _ u (BS xs j default hj) hu;rw [zero_add];exact .t _ _ (this.less fun b hb=>by
      rcases hb with (hb|hb)|hb
      ·exact .inl hb
      ·exact .inr ⟨rfl,hb⟩
      ·exact (DN hb).elim))
    refine ⟨avs',?_,ha2⟩;unfold DH;unfold HO at ha1;cases hf:C.P.funcs[g]? with
    |none=>
     have:CQ C.P g (fun _ =>.undef)=none:=by unfold CQ;rw [hf]
     exact absurd hf (by
      intro hf;have hn:=hr3;split at hn
      ·try simp only [AF] at hn
       obtain ⟨_,hn⟩:=AH hn;obtain ⟨ys,_,hn⟩:=bind_some hn;have hn:=Ip hn;split at hn
       ·simp only [CQ,hf] at hn;cases hn
       ·cases hn
      ·obtain ⟨ys,_,hn⟩:=bind_some hn;simp only [DG,hf] at hn;cases hn)
    |some fn=>rw [hf] at ha1;exact ha1
   split at hr3
   ·rename_i j ho2
    try simp only [AF] at hr3
    obtain ⟨hj64,hr3⟩:=AH hr3;obtain ⟨ys,hy,hr4⟩:=bind_some hr3;have hown:=hpc (ES+(64*g+j)) xs ys hy;obtain ⟨o1,o2,o3,o4⟩:=Tv g j hj64;rw [if_neg o1,if_neg o2,o3,o4] at hown;have hr4:=Ip hr4;obtain ⟨avs',ha3,ha2⟩:=hargs;refine (hown (fun b=>B b∨Ex κ (AZ h ls) b) w avs' vs n ha3 (fun b hb=>hb.elim (hh1.ltB b) fun ⟨i,base,o,hk,_,_⟩=>hh1.lt i b base hk) ha2).mono ?_
    rintro e w' ⟨v,us2,z,es,u,rfl,hg,hyj,hul2,huj,hnew,hoth,hbld⟩
    rw [hyj] at hr4;simp only at hr4;have hh2:=D7 hh1 hg;have x2:=EN hh1 hg;have key:∀(k:Option (Nat×Nat)),Ak B (κ++[k]) (AZ h ls++[.row false 0 z es]) w'→Ext κ h w (κ++[k]) (AZ h ls++[.row false 0 z es]) w'→AR B (κ++[k]) (AZ h ls++[.row false 0 z es]) w' (.sref (AZ h ls).length 0 0 es.length) u→
      (∀b,Ex (κ++[k]) (AZ h ls++[.row false 0 z es]) b→Ex κ (AZ h ls) b∨Wd u b)→Hm B κ h w q K r (.returned v) w':=fun k q1 q2 q3 q4=>by
     obtain ⟨rv,e1,e2⟩:=hbld B (κ++[k]) (AZ h ls++[.row false 0 z es]) w' (fun i=>if i=j then .sref (AZ h ls).length 0 0 es.length else .t (ys.getD i default)) fun i x hx=>by
      by_cases hij:i=j
      ·subst hij;rw [if_pos rfl];rw [huj] at hx;cases hx;exact q3
      ·rw [if_neg hij];have hi:i<ys.length:=by rw [← hul2];exact AU hx
       refine .t _ _ ((hoth i _ x hij (BS ys i default hi) hx).less fun b hb => ?_);rcases hb with hb|hb
       ·exact .inl (.inl hb)
       ·rcases q4 b hb with hb|hb
        ·exact .inl (.inr hb)
        ·exact .inr hb
     rw [e1] at hr4;exact ⟨_,_,_,_,rfl,hr4,e2,q1,q2,fun e=>(hq e).elim⟩
    have hnil:es=[]→∀a0,u = .slice a0 0 0→Hm B κ h w q K r (.returned v) w':=fun he a0 hu0=>by
     subst he;subst hu0;have x3:Ext κ (AZ h ls) w' (κ++[none]) (AZ h ls++[.row false 0 z []]) w':=Be hh2 rfl rfl rfl (le_refl _) (fun _ _=>rfl) (fun b base e=>by cases e);have hh3:=BM hh2 (fun _ _=>rfl) x3 (fun b base e=>by cases e) (show GH B (κ++[none]) (AZ h ls++[.row false 0 z []]) w' none (.row false 0 z []) from rfl);refine key none hh3 ((x1.trans x2).trans x3) (B4 (by rw [← hh2.len];exact Ai κ _) (Ai _ _)) fun b ⟨i,bs,o,k1,k2,k3⟩=> ?_;rcases B3 κ _ i k1 with ⟨_,k1'⟩|⟨rfl,k1'⟩
     ·have hi:i<(AZ h ls).length:=by rw [← hh2.len];exact AU k1'
      rw [getElem?_append_left hi] at k2;exact .inl ⟨i,bs,o,k1',k2,k3⟩
     ·cases k1'
    rcases hnew with ⟨he,a0,hu0⟩|⟨b,base,cap,cells,elem,fr,hu0,h1,h2,h3,h4,h5,hth,h6,h7,h8⟩
    ·exact hnil he a0 hu0
    ·by_cases hcap0:cap=0
     ·exact hnil (eq_nil_of_length_eq_zero (by omega)) _ (by rw [hu0,hcap0,show es.length=0 by omega])
     subst hu0;have x3:Ext κ (AZ h ls) w (κ++[some (b,base)]) (AZ h ls++[.row false 0 z es]) w':=
      Be hh1 hg.os hg.tape hg.output hg.size hg.block fun b' base' e=>by injection e with e;injection e with e;omega
     have hEx:∀b',Ex (κ++[some (b,base)]) (AZ h ls++[.row false 0 z es]) b'→Ex κ (AZ h ls) b'∨b'=b:=fun b' ⟨i,bs,o,k1,k2,k3⟩=>by
      rcases B3 κ _ i k1 with ⟨_,k1'⟩|⟨rfl,k1'⟩
      ·have hi:i<(AZ h ls).length:=by rw [← hh1.len];exact AU k1'
       rw [getElem?_append_left hi] at k2;exact .inl ⟨i,bs,o,k1',k2,k3⟩
      ·injection k1' with k1';injection k1' with k1';exact .inr k1'
     have hh3:=BM hh1 hg.block x3 (fun b' base' e=>by injection e with e;injection e with e;subst e;exact ⟨h2,h3⟩)
      (B6 h4 h5 hth (le_trans (add_le_add_left (mul_le_mul_right _ h1) _) h6) ⟨h7,fun j e' c x he hx=>(h8 j e' c x he hx).less fun b' hb'=>by
       rcases hb' with hb'|hb'
       ·exact .inl (.inl hb')
       ·rcases hEx b' hb' with hb'|hb'
        ·exact .inl (.inr hb')
        ·exact .inr hb'⟩)
     refine key (some (b,base)) hh3 (x1.trans x3) (By (by rw [← hh1.len];exact Ai κ _) (Ai _ _) h5 h6 rfl h1) fun b' hb' => ?_;rcases hEx b' hb' with hb'|rfl
     ·exact .inl hb'
     ·exact .inr ⟨_,_,_,rfl,by omega⟩
   obtain ⟨ys,hy,hr4⟩:=bind_some hr3;have hown:=hpc (OWN+g) xs ys hy;split at hr4
   ·rename_i t ht;obtain ⟨z,hz,hr5⟩:=bind_some hr4;obtain ⟨hgO,hr6⟩:=AH hr5;obtain ⟨⟨hyl,hys⟩,hK⟩:=AH hr6;rw [if_neg (not_lt.2 (Nat.le_add_right OWN g)),if_pos (VG hgO),Nat.add_sub_cancel_left] at hown;obtain ⟨avs',ha3,ha2⟩:=hargs;refine (hown (fun b=>B b∨Ex κ (AZ h ls) b) w avs' vs n ha3 (fun b hb=>hb.elim (hh1.ltB b) fun ⟨i,base,o,hk,_,_⟩=>hh1.lt i b base hk) ha2).mono ?_
    rintro e w' ⟨v,s,es,rfl,rfl,hg,hnew⟩
    have hes:Fa (([Tree.sl s es]:List Tree).getD 0 default)=es:=rfl;have hsz:s=z:=by have h1:FF z (Tree.sl s es)=true:=hys;simpa [FF] using h1
    subst hsz;rw [hes] at hK;have hh2:=D7 hh1 hg;have x2:=EN hh1 hg;unfold OO at hK;split at hK
    ·rename_i i0 v0 hre;have hre:FR h ls=some (i0,v0):=by
      split at hre
      ·exact hre
      ·cases hre
     split at hK
     ·rename_i honly;obtain ⟨size0,es0,hi0⟩:=NP hre;obtain ⟨kk,hkk⟩:=Bm hh hi0;have hOL:∀L,OLe (.row false v0 size0 es0) (.row false (v0+1) s L):=fun L=>⟨rfl,le_succ _,(fun e=>by simp [AE.ver] at e),(fun e=>by cases e),(fun e=>by cases e),rfl⟩
      have hver:∀L,(AE.row false v0 size0 es0).ver=(AE.row false (v0+1) s L).ver→∀{p:Prop},p:=fun L e=>by simp [AE.ver] at e
      rcases hnew with ⟨rfl,a0,rfl⟩|⟨b,base,cap,cells,elem,fr,rfl,h1,h2,h3,h4,h5,hth,h6,h7,h8⟩
      ·have x3:Ext κ h w (κ.set i0 none) (h.set i0 (.row false (v0+1) s [])) w':=
        Ca hh hi0 rfl (hOL []) hkk hg.os hg.tape hg.output hg.size (fun b' hb' _=>hg.block b' hb') (fun b base e=>by cases e) (fun e=>hver [] e)
       have hh3:=Bz hh hi0 hkk (fun b' hb' _=>hg.block b' hb') (fun b base e=>by cases e) x3 (show GH B (κ.set i0 none) (h.set i0 (.row false (v0+1) s [])) w' none (.row false (v0+1) s []) from rfl);exact ⟨_,_,_,_,rfl,hK,B4 (Aq hkk) (Aq hi0),hh3,x3,fun e=>(hq e).elim⟩
      ·have x3:Ext κ h w (κ.set i0 (some (b,base))) (h.set i0 (.row false (v0+1) s es)) w':=
        Ca hh hi0 rfl (hOL es) hkk hg.os hg.tape hg.output hg.size (fun b' hb' _=>hg.block b' hb') (fun b' base' e=>by injection e with e;injection e with e;exact .inr (by omega)) (fun e=>hver es e)
       have hh3:=Bz hh hi0 hkk (fun b' hb' _=>hg.block b' hb') (fun b' base' e=>by injection e with e;injection e with e;subst e;exact ⟨.inr h2,h3⟩) x3
        (B6 h4 h5 hth (le_trans (add_le_add_left (mul_le_mul_right _ h1) _) h6) ⟨h7,fun j e' c x he hx=>(h8 j e' c x he hx).less fun b' hb'=>by
         rcases hb' with hb'|⟨i,bs,o,k1,k2,k3⟩
         ·exact .inl (.inl hb')
         ·by_cases hii:i=i0
          ·subst hii;rw [Aq hkk] at k1;injection k1 with k1;injection k1 with k1;injection k1 with k1;exact .inr k1.symm
          ·rw [getElem?_set_ne (fun e=>hii e.symm)] at k1 k2;exact .inl (.inr ⟨i,bs,o,k1,by rw [G0 ls h honly i hii];exact k2,k3⟩)⟩)
       exact ⟨_,_,_,_,rfl,hK,By (Aq hkk) (Aq hi0) h5 h6 rfl h1,hh3,x3,fun e=>(hq e).elim⟩
     ·cases hK
    rcases hnew with ⟨rfl,a0,rfl⟩|⟨b,base,cap,cells,elem,fr,rfl,h1,h2,h3,h4,h5,hth,h6,h7,h8⟩
    ·have x3:Ext κ (AZ h ls) w' (κ++[none]) (AZ h ls++[.row false 0 s []]) w':=Be hh2 rfl rfl rfl (le_refl _) (fun _ _=>rfl) (fun b base e=>by cases e);have hh3:=BM hh2 (fun _ _=>rfl) x3 (fun b base e=>by cases e) (show GH B (κ++[none]) (AZ h ls++[.row false 0 s []]) w' none (.row false 0 s []) from rfl);exact ⟨_,_,_,_,rfl,hK,B4 (by rw [← hh2.len];exact Ai κ _) (Ai _ _),hh3,(x1.trans x2).trans x3,fun e=>(hq e).elim⟩
    ·
     have x3:Ext κ (AZ h ls) w (κ++[some (b,base)]) (AZ h ls++[.row false 0 s es]) w':=
      Be hh1 hg.os hg.tape hg.output hg.size hg.block fun b' base' e=>by injection e with e;injection e with e;omega
     have hh3:=BM hh1 hg.block x3 (fun b' base' e=>by injection e with e;injection e with e;subst e;exact ⟨h2,h3⟩)
      (B6 h4 h5 hth (le_trans (add_le_add_left (mul_le_mul_right _ h1) _) h6) ⟨h7,fun j e' c x he hx=>(h8 j e' c x he hx).less fun b' hb'=>by
       rcases hb' with hb'|⟨i,bs,o,k1,k2,k3⟩
       ·exact .inl (.inl hb')
       ·rcases B3 κ _ i k1 with ⟨_,k1'⟩|⟨rfl,k1'⟩
        ·have hi:i<(AZ h ls).length:=by rw [← hh1.len];exact AU k1'
         rw [getElem?_append_left hi] at k2;exact .inl (.inr ⟨i,bs,o,k1',k2,k3⟩)
        ·injection k1' with k1';injection k1' with k1';exact .inr k1'⟩)
     exact ⟨_,_,_,_,rfl,hK,By (by rw [← hh1.len];exact Ai κ _) (Ai _ _) h5 h6 rfl h1,hh3,x1.trans x3,fun e=>(hq e).elim⟩
   ·cases hr4
 split at hr
 ·split at hr
  ·cases hr
  ·rename_i hq;split at hr
   ·rename_i p hp;refine (WM (C.primOk g p hp) hr hh hc n).mono ?_
    rintro e w' ⟨val,v,h',κ',rfl,hK,y1,y2,y3⟩
    exact ⟨val,v,h',κ',rfl,hK,y1,y2,y3,fun e=>(hq e).elim⟩
   split at hr
   ·unfold join at hr;have hcall:=hrec _ _ _ _ _ hr;refine (hcall B κ w vs n hh hc).mono ?_
    rintro e w' ⟨v,rv,κ',rs,h1,rfl,hK,hm,hv,hh',x⟩
    simp only [AF] at hK;obtain ⟨hsh,hK⟩:=AH hK;obtain ⟨hs,hK2,hun,hbe⟩:=TH hK (No x);have hrl:Gi C.P rs (DG C.P g) 0=rs:=KN [] hsh;simp only [hrl,hm,hun] at hK2;exact ⟨v,rv,_,κ'.take h.length,rfl,hK2,hv.Dg (Lo (fun i=>Pg hsh i _) hm),hh'.Dg hbe,x.Dg (le_refl _),fun e=>(hq e).elim⟩
   have hcall:=hrec _ _ _ _ _ hr;refine (hcall B κ w vs n hh hc).mono ?_
   rintro e w' ⟨v,rv,κ',rs,h1,rfl,hK,hm,hv,hh',x⟩
   simp only [hm] at hK;obtain ⟨κ2,y1,y2,y3⟩:=SU (m:=h.length) hh' x (le_refl _) (fun hl=>Lo hl hm) hv;exact ⟨v,rv,_,κ2,rfl,hK,y1,y2,y3,fun e=>(hq e).elim⟩
 ·obtain ⟨ls,us,hr1,hls,hbuild⟩:=JB hr hc;clear hr;obtain ⟨h1,hh1,x1,hqq,hr2⟩:∃h1,Ak B κ h1 w∧Ext κ h w κ h1 w∧(q=true→h1=h)∧(DP C.P (!CC C.P g) h1 (Iw C.P g) ls fun xs=>if g<OWN then ((pc g xs).bind fun ys=>Iq C.P (DG C.P g) ys fun ys=>
    match CQ C.P g (fun i =>.t (ys.getD i default)) with
    |some v=>K v h1
    |none=>none) else none)=some r:=by
   by_cases hb:(q||CC C.P g)=true
   ·exact ⟨h,hh,Ext.refl _ _ _,fun _=>rfl,by simp only [hb,if_true] at hr1;exact hr1⟩
   ·have hb':(q||CC C.P g)=false:=by simpa using hb
    obtain ⟨hh1,x1⟩:=Ee ls hh;refine ⟨AZ h ls,hh1,x1,fun e => ?_,by simp only [hb',false_eq_true,if_false] at hr1;exact hr1⟩;rw [e] at hb';cases hb'
  clear hr1;have hls1:=hls.ext x1;obtain ⟨xs,hr3,hxl,_,hxt⟩:=Cm (vs:=us) hr2 hh1 (by simpa using hls1.1) (Bi hls1);clear hr2;obtain ⟨hgo,hr3⟩:=AH hr3;obtain ⟨ys,hy,hr4⟩:=bind_some hr3;clear hr3;have hr4:=Ip hr4;split at hr4
  ·rename_i v hm;have hpure:=hpc g xs ys hy;rw [if_pos hgo] at hpure;have hfn:∃fn,C.P.funcs[g]? = some fn:=by
    unfold CQ at hm;split at hm
    ·rename_i fn hf;exact ⟨fn,hf⟩
    ·cases hm
   obtain ⟨fn,hf⟩:=hfn;have hul:us.length=xs.length:=by rw [hxl];simpa using hls1.1
   have hleaf:∀(Bc:Nat→Prop),(∀b,Bc b→B b∨((!CC C.P g)=true∧Ex κ h1 b))→∀j u,us[j]? = some u→AR Bc [] [] w (.t (xs.getD (0+j) default)) u:=by
    intro Bc hBc j u hu;have hj:j<xs.length:=by rw [← hul];exact AU hu
    have:=hxt j _ u (BS xs j default hj) hu;rw [zero_add];exact .t _ _ (this.less fun b hb=>hb.elim (hBc b) fun e=>(DN e).elim)
   by_cases hscal:CC C.P g=true
   ·obtain ⟨avs',ha1,ha2⟩:=hbuild (fun _=>False) [] [] w (fun i =>.t (xs.getD i default)) 0 (fun j u hu=>hleaf (fun _=>False) (fun b hb=>hb.elim) j u hu);have ha3:DH C.P g (fun i =>.t (xs.getD i default))=some avs':=by unfold DH;unfold HO at ha1;rw [hf] at ha1 ⊢;exact ha1
    refine (hpure (fun _=>False) w avs' vs n ha3 (fun b hb=>hb.elim) ha2).mono ?_
    rintro e w' ⟨val,rv,rfl,hm',hv,hg,hsc⟩
    rw [hm] at hm';cases hm';have hsy:=hsc hscal;refine ⟨val,v,h1,κ,rfl,hr4,Gs hm (fun i u ht=>RB (Pj hsy i) ht) hv,D7 hh1 hg,x1.trans (EN hh1 hg),fun e=>⟨hqq e,rfl⟩⟩
   ·have hns:(!CC C.P g)=true:=by simpa using hscal
    obtain ⟨avs',ha1,ha2⟩:=hbuild (fun b=>B b∨Ex κ h1 b) [] [] w (fun i =>.t (xs.getD i default)) 0 (fun j u hu=>hleaf _ (fun b hb=>hb.imp id fun e=>⟨hns,e⟩) j u hu);have ha3:DH C.P g (fun i =>.t (xs.getD i default))=some avs':=by unfold DH;unfold HO at ha1;rw [hf] at ha1 ⊢;exact ha1
    refine (hpure (fun b=>B b∨Ex κ h1 b) w avs' vs n ha3 (fun b hb=>hb.elim (hh1.ltB b) fun ⟨i,base,o,hk,_,_⟩=>hh1.lt i b base hk) ha2).mono ?_
    rintro e w' ⟨val,rv,rfl,hm',hv,hg,hsc⟩
    rw [hm] at hm';cases hm';exact ⟨val,v,h1,κ,rfl,hr4,Gs hm (fun i u ht=>ht.less fun b hb =>.inl hb) hv,D7 hh1 hg,x1.trans (EN hh1 hg),fun e=>⟨hqq e,rfl⟩⟩
  ·cases hr4
end Ab
namespace Ab
open Go
variable {R:Type} {P:Program} {B:Nat→Prop} {κ:A1} {h:Heap} {w:World} {N:Nat} {env:Env} {a:Act}
theorem Fy {g:FuncId} (he:enters P g=true) (vs:Array Value):(callFunc g vs).run P w = .ok (.enter g vs) w:=by
 unfold enters at he;split at he
 ·rename_i fn hf;simp only [and_eq_true,not_eq_true'] at he;obtain ⟨hb,hn⟩:=he;have hb':fn.body.isNone=false:=by cases h:fn.body<;>simp_all
  simp only [callFunc,Sem.run_bind,run_program,Result.andThen_ok,hf,hn,hb',false_eq_true,if_false,Sem.run_pure]
 ·cases he
theorem DT {xs ys:List AV} {us vs:Array Value} (h1:Aa B κ h w xs us) (h2:Aa B κ h w ys vs):Aa B κ h w (xs++ys) (us++vs):=by
 obtain ⟨us⟩:=us;obtain ⟨vs⟩:=vs;have e1:us.length=xs.length:=by simpa using h1.1
 have e2:vs.length=ys.length:=by simpa using h2.1
 have eu:({toList:=us}:Array Value)=us.toArray:=rfl;have ev:({toList:=vs}:Array Value)=vs.toArray:=rfl;rw [eu,ev] at *;have e3:us.toArray++vs.toArray=(us++vs).toArray:=by simp
 rw [e3];refine ⟨by simp [e1,e2],fun j y hy => ?_⟩;rw [BT];rcases lt_or_ge j xs.length with hj|hj
 ·rw [getElem?_append_left hj] at hy;have:=h1.2 j y hy;rw [BT] at this;simp only [List.getD] at this ⊢;rw [getElem?_append_left (by omega)];exact this
 ·rw [getElem?_append_right hj] at hy;have:=h2.2 _ y hy;rw [BT] at this;simp only [List.getD] at this ⊢;rw [getElem?_append_right (by omega),e1];exact this
def Wc (B:Nat→Prop) (κ:A1) (h:Heap) (w:World) (q:Bool) (K:AV→Heap→Option R) (r:R) (o:Oper) (a:Act) (next:Act→World→Prop):Prop:=
 ∀v h' κ' val w',K v h'=some r→AR B κ' h' w' v val→Ak B κ' h' w'→Ext κ h w κ' h' w'→(q=true→h'=h∧κ'=κ)→next (a.put o.dst val) w'
theorem Mk {q:Bool} {K:AV→Heap→Option R} {r:R} {o:Oper} {next:Act→World→Prop} {Q:Exit→Act→World→Prop} (hn:Wc B κ h w q K r o a next) {e:Ending} {w':World} (ha:Hm B κ h w q K r e w') :
  (match e,w' with
   | .returned v,w''=>next (a.put o.dst v) w''
   | .panicked chain,w''=>Q (.panic chain) a w''
   | .outgrown,_=>LetsOut Q):=by
 obtain ⟨val,v,h',κ',rfl,h1,h2,h3,h4,h5⟩:=ha;exact hn v h' κ' val w' h1 h2 h3 h4 h5
theorem UR {C:Cfg} {rec:Rec} {pc:BF} (hrec:Dd C.P rec) (hpc:B7 C.P pc) {q:Bool} {f:AV} {args:List AV} {K:AV→Heap→Option R} {r:R} (hr:MU C rec pc q f args h K=some r) (hh:Ak B κ h w)
  {fv:Value} (hf:AR B κ h w f fv) {vs:Array Value} (hc:Aa B κ h w args vs) (o:Oper) (next:Act→World→Prop) (Q:Exit→Act→World→Prop) (n:Nat) (ro:Option Nat) (hn:Wc B κ h w q K r o a next) :
  o.uponIn (Fr ro) n C.P a next Q ((do let d ← Deferred.ofValue fv vs;invoke d.target d.args:Sem Next).run C.P w):=by
 unfold MU at hr
 try simp only [AF] at hr
 split at hr
 ·rename_i g first captured
  obtain ⟨hent,hr1⟩:=AH hr;cases hf with
  |func _ _ _ fs cs h1 h2 h3 h4=>
   have hc2:Aa B κ h w (first++args++captured) (fs++vs++cs):=DT (DT ⟨h1,h3⟩ hc) ⟨h2,h4⟩;have hcall:=QK hrec hpc hr1 hh hc2 (n-1);have hrun:(do let d ← Deferred.ofValue (.func (.func g) fs cs) vs;invoke d.target d.args:Sem Next).run C.P w = .ok (.enter g (fs++vs++cs)) w:=by simp [Deferred.ofValue,invoke,Fy hent]
   rw [hrun,Oper.uponIn_enter];refine ⟨fun e=>by simp [Fr] at e,(CallsIn.fr hcall).mono fun e w' ha => ?_⟩;have:=Mk (Q:=Q) hn ha;cases e<;>exact this
 ·rename_i g;obtain ⟨hent,hr1⟩:=AH hr;cases hf with
  |t _ _ ht=>
   cases ht with
   |const _ _=>
    have hcall:=QK hrec hpc hr1 hh hc (n-1);have hrun:(do let d ← Deferred.ofValue (.func (.func g) ⟨[]⟩ ⟨[]⟩) vs;invoke d.target d.args:Sem Next).run C.P w = .ok (.enter g vs) w:=by
     have e1:(⟨[]⟩:Array Value)++vs=vs:=by simp
     have e2:vs++(⟨[]⟩:Array Value)=vs:=by simp
     simp [Deferred.ofValue,invoke,e1,e2,Fy hent]
    rw [hrun,Oper.uponIn_enter];refine ⟨fun e=>by simp [Fr] at e,(CallsIn.fr hcall).mono fun e w' ha => ?_⟩;have:=Mk (Q:=Q) hn ha;cases e<;>exact this
 ·rename_i i;split at hr
  ·cases hr
  ·rename_i hq;have hy:=hrec _ _ _ _ _ hr;cases hf with
   |yld _ b base hk hb=>
    obtain ⟨f,tmps,assign,body,hrun,hround⟩:=hy B κ w vs b base (n-1) hh hc hk;have hrun2:(do let d ← Deferred.ofValue (.func (.yield b) #[] #[]) vs;invoke d.target d.args:Sem Next).run C.P w = .ok (.round b f tmps assign body) w:=by simp [Deferred.ofValue,invoke,hrun]
    rw [hrun2,Oper.uponIn_round];refine ⟨fun e=>by simp [Fr] at e,(RoundIn.fr hround).mono ?_⟩
    rintro e w' ⟨v,κ',rs,h1,rfl,hK,hv,hh',x⟩
    obtain ⟨κ2,y1,y2,y3⟩:=SU (m:=h.length) (rs:=[rs.getD 0 .undef]) hh' x (le_refl _) (fun hl=>hl 0) hv;exact hn _ _ _ v w' hK y1 y2 y3 (fun e=>(hq e).elim)
 ·cases hr
theorem Ic {C:Cfg} {rec:Rec} {pc:BF} (hrec:Dd C.P rec) (hpc:B7 C.P pc) {q:Bool} {K:AV→Heap→Option R} {r:R} (o:Oper) (hs:Af C rec pc q env h o.op K=some r) (hr:Rel B N κ env h a w)
  (next:Act→World→Prop) (Q:Exit→Act→World→Prop) (n:Nat) (ro:Option Nat) (hn:Wc B κ h w q K r o a next):o.wpIn (Fr ro) n C.P a w next Q:=by
 refine ⟨fun _ _=>trivial,?_⟩;have hnd:∀c,o.op ≠ .defer c:=fun c e=>by rw [e] at hs;simp [Af,Au,qop] at hs
 rw [Oper.semAt_eq _ _ _ hnd];unfold Af at hs
 try simp only [AF] at hs
 split at hs
 ·split at hs
  ·cases hs
  ·rename_i hq;split at hs
   ·rename_i t x himm;have hop:o.op = .box t x:=by cases hop:o.op<;>rw [hop] at himm<;>simp only [Bq] at himm<;>first|(cases himm;done)|(split at himm<;>first|(cases himm;rfl)|(cases himm;done)|(split at himm<;>first|(cases himm;rfl)|cases himm))
    obtain ⟨v,κ',val,w',h1,h2,h3,h4,h5⟩:=US hs hr o hop;rw [h2,Oper.uponIn_value];exact hn v h κ' val w' h1 h3 h4 h5 fun e=>(hq e).elim
   ·rename_i t himm;have hop:o.op = .alloc t:=by cases hop:o.op<;>rw [hop] at himm<;>simp only [Bq] at himm<;>first|(cases himm;done)|(split at himm<;>first|(cases himm;rfl)|(cases himm;done)|(split at himm<;>first|(cases himm;rfl)|cases himm))
    obtain ⟨v,h',κ',val,w',h1,h2,h3,h4,h5⟩:=Qs hs hr o hop;rw [h2,Oper.uponIn_value];exact hn v h' κ' val w' h1 h3 h4 h5 fun e=>(hq e).elim
   ·rename_i t d himm;have hop:o.op = .alloc t:=by cases hop:o.op<;>rw [hop] at himm<;>simp only [Bq] at himm<;>first|cases himm|(split at himm<;>first|(cases himm;rfl)|(cases himm;done)|(split at himm<;>first|(cases himm;rfl)|cases himm))
    obtain ⟨v,h',κ',val,w',h1,h2,h3,h4,h5⟩:=Qr hs hr o hop;rw [h2,Oper.uponIn_value];exact hn v h' κ' val w' h1 h3 h4 h5 fun e=>(hq e).elim
   ·rename_i t p x himm;have hop:o.op = .store t p x:=by cases hop:o.op<;>rw [hop] at himm<;>simp only [Bq] at himm<;>first|(cases himm;done)|(split at himm<;>first|(cases himm;rfl)|(cases himm;done)|(split at himm<;>first|(cases himm;rfl)|cases himm))
    obtain ⟨h',κ',w',h1,h2,h3,h4⟩:=N0 (P:=C.P) hs hr.heap (BB hr _) (BB hr _);obtain ⟨f1,f2⟩:=MD h3 (Kj (ev env p));have e2:(execOp a.eval o).run C.P w = .ok .skip w':=by unfold execOp;rw [hop];simp [h2]
    rw [e2,Oper.uponIn_skip];exact hn _ _ κ' undef w' h1 (.undef _) f1 (h4.trans f2) fun e=>(hq e).elim
   ·obtain ⟨v,h',κ',val,w',h1,h2,h3,h4,h5⟩:=hop_ok hs hr o rfl;rcases h2 with h2|⟨h2,rfl⟩
    ·rw [h2,Oper.uponIn_value];exact hn v h' κ' val w' h1 h3 h4 h5 fun e=>(hq e).elim
    ·rw [h2,Oper.uponIn_skip];exact hn v h' κ' undef w' h1 h3 h4 h5 fun e=>(hq e).elim
 ·split at hs
  ·rename_i f args argTypes ho;have hx:=UR hrec hpc hs hr.heap (BB hr f) (IL hr args) o next Q n ro hn;have he:(execOp a.eval o).run C.P w=(do let d ← Deferred.ofValue (a.eval f) (args.map a.eval);invoke d.target d.args:Sem Next).run C.P w:=by unfold execOp;rw [ho];simp [resolve]
   rw [he];exact hx
  ·rename_i src dst x ho;split at hs
   ·rename_i hb;split at hs
    ·cases hs
    ·rename_i hq;obtain ⟨v,h',κ',val,w',h1,h2,h3,h4,h5⟩:=VT hb hs hr o ho;rw [h2,Oper.uponIn_value];exact hn v h' κ' val w' h1 h3 h4 h5 fun e=>(hq e).elim
   ·obtain ⟨v,val,w',h1,h2,h3,h4,h5⟩:=RN hs hr o ho;rw [h2,Oper.uponIn_value];exact hn v h κ val w' h1 h3 h4 h5 fun _=>⟨rfl,rfl⟩
  ·rename_i t len parts ho;split at hs
   ·split at hs
    ·cases hs
    ·rename_i hq;obtain ⟨v,h',κ',val,w',h1,h2,h3,h4,h5⟩:=Qd hs hr o ho;rw [h2,Oper.uponIn_value];exact hn v h' κ' val w' h1 h3 h4 h5 fun e=>(hq e).elim
   ·obtain ⟨v,val,w',h1,h2,h3,h4,h5⟩:=RN hs hr o ho;rw [h2,Oper.uponIn_value];exact hn v h κ val w' h1 h3 h4 h5 fun _=>⟨rfl,rfl⟩
  ·obtain ⟨v,val,w',h1,h2,h3,h4,h5⟩:=RN hs hr o rfl;rw [h2,Oper.uponIn_value];exact hn v h κ val w' h1 h3 h4 h5 fun _=>⟨rfl,rfl⟩
theorem Pu {env:Env} {d:Tmp} {v:AV} (hv:env d=v):env.put (some d) v=env:=by
 funext i;simp only [Env.put];split
 ·rename_i e;rw [e,hv]
 ·rfl
theorem Ed (hr:Rel B N κ env h a w) {κ':A1} {h':Heap} {w':World} (hh:Ak B κ' h' w') (x:Ext κ h w κ' h' w') {v:AV} {val:Value} (hv:AR B κ' h' w' v val) (o:Oper) (hd:JH N o=true) :
  Rel B N κ' (env.put o.dst v) h' (a.put o.dst val) w':=by
 refine ⟨hh,?_,fun i => ?_⟩
 ·cases hdst:o.dst with
  |none=>exact hr.size
  |some d=>simpa [Act.put] using hr.size
 ·cases hdst:o.dst with
  |none=>exact (hr.slot i).ext x
  |some d=>
   have hdl:d<N:=by simpa [JH,hdst] using hd
   have hdt:d<a.tmps.size:=by rw [hr.size];exact hdl
   simp only [Env.put,Act.put];by_cases hi:i=d
   ·subst hi;rw [if_pos rfl];have:(a.tmps.setIfInBounds i val).getD i undef=val:=by simp [Array.getD,hdt]
    rw [this];exact hv
   ·rw [if_neg hi];have:(a.tmps.setIfInBounds d val).getD i undef=a.tmps.getD i undef:=by
     by_cases h1:i<a.tmps.size
     ·simp [Array.getD,h1,Ne.symm hi]
     ·simp [Array.getD,h1]
    rw [this];exact (hr.slot i).ext x
theorem getD_some {arr:Array Value} {d:Nat} {v:Value} (hd:arr.getD d undef=v) (hne:v≠undef):arr[d]? = some v:=by
 by_cases h1:d<arr.size
 ·simp only [Array.getD,h1,dif_pos] at hd;rw [Array.getElem?_eq_getElem h1];exact congrArg some hd
 ·simp only [Array.getD,h1,dif_neg,not_false_eq_true] at hd;exact (hne hd.symm).elim
theorem Gy {ops:Array Oper} {o:Oper} {K1 K0:Env→Option R} {r:R} (hg:FV ops o env K1 K0=some r) (hr:Rel B N κ env h a w) :
  (Region.wanted o (yielded ops a.tmps)=true∧K1 env=some r)∨(Region.wanted o (yielded ops a.tmps)=false∧K0 env=some r):=by
 unfold FV at hg
 try simp only [AF] at hg
 unfold Region.wanted;split at hg
 ·rename_i hgd;rw [hgd];exact .inl ⟨rfl,hg⟩
 ·rename_i j want hgd;rw [hgd];simp only;split at hg
  ·rename_i d hd;split at hg
   ·rename_i b hb;have hv:=hr.slot d;rw [hb] at hv;have hval:a.tmps.getD d undef = .bool b:=by
     generalize a.tmps.getD d undef=u at hv;cases hv with
     |t _ _ ht=>cases ht;rfl
    have hy:yielded ops a.tmps j=some b:=by unfold yielded;rw [hd];simp only [Option.bind_some];rw [getD_some hval (by simp [undef])]
    rw [hy];cases b<;>cases want<;>simp only [false_eq_true,if_false,if_true] at hg<;>rw [Pu hb] at hg
    ·exact .inl ⟨rfl,hg⟩
    ·exact .inr ⟨rfl,hg⟩
    ·exact .inr ⟨rfl,hg⟩
    ·exact .inl ⟨rfl,hg⟩
   ·rename_i hb;have hv:=hr.slot d;rw [hb] at hv;have hval:a.tmps.getD d undef = .tuple #[]:=by
     generalize a.tmps.getD d undef=u at hv;cases hv with
     |tuple _ vs hs _=>rw [eq_empty_of_size_eq_zero hs]
    have hy:yielded ops a.tmps j=none:=by
     unfold yielded;rw [hd];simp only [Option.bind_some];by_cases h1:d<a.tmps.size
     ·simp only [Array.getD,h1,dif_pos] at hval;rw [Array.getElem?_eq_getElem h1];have:a.tmps[d]= .tuple #[]:=hval;rw [this]
     ·rw [Array.getElem?_eq_none (Nat.le_of_not_lt h1)]
    rw [hy];exact .inr ⟨rfl,hg⟩
   ·cases hg
  ·cases hg
def JT (B:Nat→Prop) (N:Nat) (κ:A1) (h:Heap) (w:World) (q:Bool) (os:List Oper) (env:Env) (a:Act) (K:Env→Heap→Option R) (r:R) (next:Act→World→Prop):Prop:=
 ∀env' h' κ' a' w',K env' h'=some r→Rel B N κ' env' h' a' w'→Ext κ h w κ' h' w'→(∀i,i∉os.filterMap (·.dst)→env' i=env i)→a'.defers=a.defers→(q=true→h'=h∧κ'=κ)→next a' w'
theorem He {C:Cfg} {rec:Rec} {pc:BF} (hrec:Dd C.P rec) (hpc:B7 C.P pc) {q:Bool} (ops:Array Oper) (Q:Exit→Act→World→Prop) (n:Nat) (ro:Option Nat) (rest:List Nat) :
  ∀(os:List Oper) (l:List Nat) {K:Env→Heap→Option R} {r:R} {env:Env} {h:Heap} {κ:A1} {a:Act} {w:World},l.length=os.length→(∀(j i:Nat) (o:Oper),l[j]? = some i→os[j]? = some o→ops[i]? = some o)→
   Dr C rec pc N q ops os env h K=some r→Rel B N κ env h a w→JT B N κ h w q os env a K r (wpOpsIn (Fr ro) n C.P ops Q rest)→wpOpsIn (Fr ro) n C.P ops Q (l++rest) a w
 |[],l,K,r,env,h,κ,a,w,hl,hi,hk,hr,hn=>by obtain rfl:l=[]:=eq_nil_of_length_eq_zero (by simpa using hl);exact hn env h κ a w hk hr (Ext.refl _ _ _) (fun _ _=>rfl) rfl fun _=>⟨rfl,rfl⟩
 |o::os,l,K,r,env,h,κ,a,w,hl,hi,hk,hr,hn=>by
  cases l with
  |nil=>simp at hl
  |cons i l=>
   simp only [Dr,AF] at hk;obtain ⟨hd,hk⟩:=AH hk;have ho:=hi 0 i o rfl rfl;have hi':∀(j i:Nat) (o:Oper),l[j]? = some i→os[j]? = some o→ops[i]? = some o:=fun j i o h1 h2=>hi (j+1) i o (by simpa using h1) (by simpa using h2);simp only [cons_append,wpOpsIn,ho];have hput:∀(v:AV) (i:Tmp),i∉(o::os).filterMap (·.dst)→(env.put o.dst v) i=env i:=fun v i hni=>by
    cases hdst:o.dst with
    |none=>rfl
    |some d=>
     simp only [Env.put];rw [if_neg fun e=>hni (by simp [hdst,e])]
   have hpd:∀val,(a.put o.dst val).defers=a.defers:=fun val=>by cases o.dst<;>rfl
   have hsub:∀i,i∉(o::os).filterMap (·.dst)→i∉os.filterMap (·.dst):=fun i hni hm=>hni (by
    simp only [filterMap_cons];split
    ·exact hm
    ·exact mem_cons_of_mem _ hm)
   rcases Gy hk hr with ⟨hw,hk1⟩|⟨hw,hk1⟩
   ·simp only [hw,if_true];refine Ic hrec hpc o hk1 hr _ Q n ro fun v h' κ' val w' h1 h2 h3 h4 h5 => ?_;refine He hrec hpc ops Q n ro rest os l (by simpa using hl) hi' h1 (Ed hr h3 h4 h2 o hd) fun env2 h2 κ2 a2 w2 k1 k2 k3 k4 k5 k6 => ?_;exact hn env2 h2 κ2 a2 w2 k1 k2 (h4.trans k3) (fun i hni=>(k4 i (hsub i hni)).trans (hput v i hni)) (k5.trans (hpd _)) fun e=>by obtain ⟨e1,e2⟩:=h5 e;obtain ⟨e3,e4⟩:=k6 e;exact ⟨e3.trans e1,e4.trans e2⟩
   ·simp only [hw,false_eq_true,if_false];refine ⟨fun _ _=>trivial,?_⟩;refine He hrec hpc ops Q n ro rest os l (by simpa using hl) hi' hk1 (Ed hr hr.heap (Ext.refl _ _ _) (.tuple _ _ rfl fun j x hx=>by simp at hx) o hd) fun env2 h2 κ2 a2 w2 k1 k2 k3 k4 k5 k6 => ?_;exact hn env2 h2 κ2 a2 w2 k1 k2 k3 (fun i hni=>(k4 i (hsub i hni)).trans (hput _ i hni)) (k5.trans (hpd _)) k6
end Ab
namespace Ab
open Go
def Det {α:Type} (f:∀R:Type,(α→Option R)→Option R):Prop:=(∃v,∀R K,f R K=K v)∨∀R K,f R K=none
theorem Det.none {α:Type}:Det (α:=α) (fun _ _=>Option.none):=.inr fun _ _=>rfl
theorem Det.val {α:Type} (v:α):Det (fun _ K=>K v):=.inl ⟨v,fun _ _=>rfl⟩
theorem Det.bind {α β:Type} (x:Option β) {f:β→∀R:Type,(α→Option R)→Option R} (hf:∀b,Det (f b)):Det (fun R K=>x.bind fun b=>f b R K):=by
 cases x with
 |none=>exact .none
 |some b=>exact hf b
theorem Det.ite {α:Type} {c:Prop} [Decidable c] {f:∀R:Type,(α→Option R)→Option R} (hf:Det f):Det (fun R K=>if c then f R K else Option.none):=by
 by_cases hc:c
 ·simp only [if_pos hc];exact hf
 ·simp only [if_neg hc];exact .none
theorem Det.T5 {α:Type} {c:Prop} [Decidable c] {f g:∀R:Type,(α→Option R)→Option R} (hf:Det f) (hg:Det g):Det (fun R K=>if c then f R K else g R K):=by
 by_cases hc:c
 ·simp only [if_pos hc];exact hf
 ·simp only [if_neg hc];exact hg
theorem Det.comp {α β:Type} {f:∀R:Type,(β→Option R)→Option R} (hf:Det f) {g:β→∀R:Type,(α→Option R)→Option R} (hg:∀b,Det (g b)):Det (fun R K=>f R fun b=>g b R K):=by
 rcases hf with ⟨v,hv⟩|hn
 ·simp only [hv];exact hg v
 ·simp only [hn];exact .none
variable {P:Program} {h:Heap}
theorem Ru (t:TypeId) (total:Nat) (get:Nat→AV) (off:Nat):Det (fun R K=>rd (R:=R) P t total get off K):=by
 unfold rd
 try simp only [AF]
 cases Az P t with
 |none=>exact .none
 |some b=>
  cases b with
  |false=>exact .ite (.val _)
  |true=>
   cases BZ P t with
   |none=>exact .none
   |some n=>exact .ite (.val _)
theorem UJ (t:TypeId) (a:AV):Det (fun R K=>H6 (R:=R) P t h a K):=by
 unfold H6
 try simp only [AF]
 cases a with
 |ptr i off=>
  dsimp only;cases h[i]? with
  |none=>exact .none
  |some o=>cases o with
   |box cs=>exact Ru _ _ _ _
   |_=>exact .none
 |rptr i ver k off=>
  dsimp only;cases h[i]? with
  |none=>exact .none
  |some o=>cases o with
   |row f v s es=>exact .ite (.bind _ fun e=>Ru _ _ _ _)
   |_=>exact .none
 |eptr s c o=>exact Ru _ _ _ _
 |_=>exact .none
theorem Vv (fz:Bool) (ty:TypeId) (v:AV):Det (fun R K=>conv (R:=R) P fz h ty v K):=by
 unfold conv
 try simp only [AF]
 cases v with
 |t x=>exact .val _
 |nilsl=>exact .bind _ fun s =>.val _
 |sref i ver off len=>
  dsimp only;cases h[i]? with
  |none=>exact .none
  |some o=>cases o with
   |row f v s es=>exact .bind _ fun s =>.ite (.val _)
   |_=>exact .none
 |func fn a b=>
  cases a with
  |nil=>cases b with
   |nil=>exact .val _
   |cons x xs=>exact .none
  |cons x xs=>exact .none
 |_=>exact .none
theorem CF (fz:Bool):∀(ts:List TypeId) (vs:List AV),Det (fun R K=>DP (R:=R) P fz h ts vs K)
 |[],[]=>.val _
 |[],_::_ =>.none
 |_::_,[]=>.none
 |t::ts,v::vs =>.comp (Vv fz t v) fun x =>.comp (CF fz ts vs) fun xs =>.val _
theorem R3 (op:BinOp) (k:IntKind) (a b:Int):Det (fun R K=>Mr (R:=R) op k a b K):=by
 unfold Mr
 try simp only [AF]
 cases op<;>first|exact .val _|exact .none|skip
 ·by_cases hb:b=0
  ·simp only [if_pos hb];exact .none
  ·simp only [if_neg hb];exact .val _
 ·by_cases hb:b=0
  ·simp only [if_pos hb];exact .none
  ·simp only [if_neg hb];exact .val _
theorem Rw (op:BinOp) (k:IntKind) (a b:Int):Det (fun R K=>Md (R:=R) op k a b K):=by
 unfold Md
 try simp only [AF]
 by_cases hb:b<0
 ·simp only [if_pos hb];cases op<;>exact .none
 ·simp only [if_neg hb];cases op<;>first|exact .val _|exact .none
theorem QP:∀(d:Nat) (t:TypeId) (gx gy:Nat→AV) (off:Nat),Det (fun R K=>M7 (R:=R) P d t gx gy off K)
 |0,t,gx,gy,off =>.none
 |d+1,t,gx,gy,off=>by
  unfold M7
  try simp only [AF]
  cases hu:P.underlying t with
  |none=>exact .none
  |some ty=>
   cases ty with
   |int k=>exact .bind _ fun a =>.bind _ fun b =>.val _
   |bool=>exact .bind _ fun a =>.bind _ fun b =>.val _
   |string=>exact .bind _ fun a =>.bind _ fun b =>.val _
   |struct fs=>
    cases hs:BZ P t with
    |none=>exact .none
    |some n=>
     refine .ite ?_;have key:∀(l:List Field) (acc:Bool),Det (fun R (K:Bool→Option R)=>l.foldr (fun f (K':Bool→Option R) (acc:Bool)=>
       match BZ P f.type with
       | some m => if f.name ≠ "_" ∧ f.offset + m ≤ n ∧ (Az P f.type = some true ∨ Az P f.type = some false ∧ m = 1) then M7 P d f.type gx gy (off + f.offset) fun b => K' (acc && b) else none
       |none=>none) K acc):=by
      intro l
      induction l with
      |nil=>intro acc;exact .val _
      |cons f l ih=>
       intro acc;simp only [List.foldr_cons];cases BZ P f.type with
       |none=>exact .none
       |some m=>exact .ite (.comp (QP d _ _ _ _) fun b=>ih _)
     exact key fs.toList true
   |_=>exact .none
theorem Vx (op:BinOp) (t:TypeId) (x y:AV):Det (fun R K=>WX (R:=R) P op t x y K):=by
 unfold WX
 try simp only [AF]
 cases hu:P.underlying t with
 |none=>exact .none
 |some ty=>
  cases ty with
  |int k=>
   by_cases hs:S0 op=true
   ·simp only [hs,if_true];exact .bind _ fun a =>.bind _ fun b=>Rw _ _ _ _
   ·simp only [hs,false_eq_true,if_false];exact .bind _ fun a =>.bind _ fun b=>R3 _ _ _ _
  |bool=>exact .bind _ fun a =>.bind _ fun b=>by cases op<;>first|exact .val _|exact .none
  |string=>exact .bind _ fun a =>.bind _ fun b=>by cases op<;>first|exact .val _|exact .ite (.val _)|exact .none
  |struct fs=>
   cases x with
   |agg xs=>
    cases y with
    |agg ys=>
     cases BZ P t with
     |none=>exact .none
     |some n=>exact .ite (by cases op<;>first|exact .comp (QP _ _ _ _ _) (fun b =>.val _)|exact .none)
    |_=>exact .none
   |_=>exact .none
  |_=>exact .none
theorem det_aun (op:UnOp) (x:AV):Det (fun R K=>aun (R:=R) op x K):=by
 unfold aun;cases op with
 |not=>exact .bind _ fun b =>.val _
 |neg=>cases x with
  |t y=>cases y<;>first|exact .val _|exact .none
  |_=>exact .none
 |_=>exact .none
theorem KW (mx:Bool):∀(l:List AV) (a:Int),Det (fun R K=>JP.go (R:=R) mx a l K)
 |[],a =>.val _
 |y::l,a =>.bind _ fun b=>KW mx l _
theorem UH (mx:Bool) (l:List AV):Det (fun R K=>JP (R:=R) mx l K):=by
 cases l with
 |nil=>exact .none
 |cons x l=>exact .bind _ fun a=>KW mx l a
theorem Rz (t:TypeId) (a:AV) (f:Nat):Det (fun R K=>IU (R:=R) P t h a f K):=by
 unfold IU
 try simp only [AF]
 refine .bind _ fun o => ?_;cases a with
 |ptr i off=>exact .val _
 |eptr s c o=>exact .val _
 |rptr i v k o=>exact .bind _ fun ob =>.ite (.val _)
 |_=>exact .none
theorem HY {α:Type} (i:Int) {f:Nat→α}:∀(n:Nat),Det (fun R (K:α→Option R)=>Iv i n fun j=>K (f j))
 |0 =>.none
 |n+1=>by simp only [Iv,AF];exact .T5 (.val _) (HY i n)
theorem Ry (t:TypeId) (x ix:AV):Det (fun R K=>KE (R:=R) P t h x ix K):=by
 unfold KE
 try simp only [AF]
 refine .bind _ fun i => ?_;cases P.underlying t with
 |none=>exact .none
 |some ty=>
  cases ty with
  |slice e=>
   refine .bind _ fun s => ?_;cases x with
   |t y=>cases y with
    |sl size es=>exact .ite (.bind _ fun c =>.val _)
    |_=>exact .none
   |sref r v o l=>
    dsimp only;cases h[r]? with
    |none=>exact .none
    |some o=>cases o with
     |row f v s es=>exact .ite (.val _)
     |_=>exact .none
   |bsl r o l s=>exact .ite (.T5 (HY i l) (.val _))
   |_=>exact .none
  |array n e=>
   refine .bind _ fun s => ?_;cases x with
   |ptr r off=>exact .ite (.T5 (HY i n) (.val _))
   |eptr size cells off=>exact .ite (.val _)
   |rptr r ver k off=>exact .bind _ fun ob =>.ite (.val _)
   |_=>exact .none
  |_=>exact .none
theorem Vw (t:TypeId) (x:AV):Det (fun R K=>UZ (R:=R) P t h x K):=by
 unfold UZ
 try simp only [AF]
 cases P.underlying t with
 |none=>exact .none
 |some ty=>
  cases ty with
  |slice e=>
   cases x with
   |t y=>cases y with
    |sl size es=>exact .val _
    |_=>exact .none
   |nilsl=>exact .val _
   |sref r v o l=>
    dsimp only;cases h[r]? with
    |none=>exact .none
    |some o=>cases o with
     |row f v s es=>exact .ite (.val _)
     |_=>exact .none
   |bsl r o l s=>exact .val _
   |_=>exact .none
  |string=>exact .bind _ fun s =>.val _
  |array n e=>exact .val _
  |_=>exact .none
theorem BD (x:Option AV) (d hi:Nat):Det (fun R K=>CN (R:=R) x d hi K):=by
 unfold CN
 try simp only [AF]
 cases x with
 |none=>exact .val _
 |some v=>exact .bind _ fun i =>.ite (.val _)
theorem Rv (t:TypeId) (x:AV) (lo hi mx:Option AV):Det (fun R K=>J7 (R:=R) P t h x lo hi mx K):=by
 unfold J7
 try simp only [AF]
 cases mx with
 |some m=>
  cases P.underlying t with
  |none=>exact .none
  |some ty=>
   cases ty with
   |slice e=>
    refine .bind _ fun z => ?_;cases hi with
    |none=>cases x with
     |t y=>cases y<;>exact .none
     |_=>exact .none
    |some b=>
     cases x with
     |t y=>cases y with
      |sl size es=>exact .ite (.comp (BD _ _ _) fun m =>.comp (BD _ _ _) fun b =>.comp (BD _ _ _) fun a =>.val _)
      |_=>exact .none
     |nilsl=>exact .comp (BD _ _ _) fun m =>.comp (BD _ _ _) fun b =>.comp (BD _ _ _) fun a =>.val _
     |sref r v o l=>
      dsimp only;cases h[r]? with
      |none=>exact .none
      |some o=>cases o with
       |row f v s es=>exact .ite (.comp (BD _ _ _) fun m =>.comp (BD _ _ _) fun b =>.comp (BD _ _ _) fun a =>.val _)
       |_=>exact .none
     |_=>exact .none
   |_=>exact .none
 |none=>
  cases P.underlying t with
  |none=>exact .none
  |some ty=>
   cases ty with
   |string=>exact .bind _ fun s =>.comp (BD _ _ _) fun b =>.comp (BD _ _ _) fun a =>.val _
   |slice e=>
    refine .bind _ fun z => ?_;cases x with
    |t y=>cases y with
     |sl size es=>exact .ite (.comp (BD _ _ _) fun b =>.comp (BD _ _ _) fun a =>.val _)
     |_=>exact .none
    |nilsl=>exact .comp (BD _ _ _) fun b =>.comp (BD _ _ _) fun a =>.val _
    |sref r v o l=>
     dsimp only;cases h[r]? with
     |none=>exact .none
     |some o=>cases o with
      |row f v s es=>exact .ite (.comp (BD _ _ _) fun b =>.comp (BD _ _ _) fun a =>.val _)
      |_=>exact .none
    |_=>exact .none
   |_=>exact .none
theorem R2 (t:TypeId) (parts:List (Nat×AV)):Det (fun R K=>Mq (R:=R) P t parts K):=by
 unfold Mq;cases P.underlying t with
 |none=>exact .none
 |some ty=>
  cases ty with
  |struct fs=>
   dsimp only;cases fs.toList.mapM (fun f=>(P.info? f.type).map fun i=>(f.offset,i.size)) with
   |none=>exact .none
   |some places=>exact .bind _ fun z =>.bind _ fun cs =>.val _
  |array n e=>exact .bind _ fun s =>.bind _ fun z =>.bind _ fun cs =>.val _
  |_=>exact .none
theorem Ke (t:TypeId) (len:Nat) (parts:List (Nat×AV)):Det (fun R K=>Dc (R:=R) P t h len parts K):=by
 unfold Dc
 try simp only [AF]
 cases P.underlying t with
 |none=>exact .none
 |some ty=>
  cases ty with
  |slice e=>exact .bind _ fun s =>.bind _ fun z =>.ite (.bind _ fun cs =>.comp (CF _ _ _) fun xs =>.val _)
  |_=>exact .none
theorem HZ:∀(ts:List TypeId) (vs:List AV),Det (fun R K=>flatK (R:=R) P ts vs K)
 |[],[]=>.val _
 |[],_::_ =>.none
 |_::_,[]=>.none
 |t::ts,v::vs=>by
  simp only [flatK,AF];cases Az P t with
  |none=>exact .none
  |some b=>
   cases b with
   |true=>cases v with
    |agg cs=>exact .ite (.comp (HZ ts vs) fun rs =>.val _)
    |_=>exact .none
   |false=>exact .ite (.comp (HZ ts vs) fun rs =>.val _)
theorem Vt (t:TypeId) (v:AV):Det (fun R K=>OL (R:=R) P t v K):=by
 rcases LW P t v with h|h
 ·exact .inl ⟨v,h⟩
 ·exact .inr h
theorem Nq (ts:List TypeId) (ys:List Tree):Det (fun R K=>Iq (R:=R) P ts ys K):=by
 rcases KM P ts ys with h|h
 ·exact .inl ⟨ys,h⟩
 ·exact .inr h
theorem Ow (src dst:TypeId) (x:AV):Det (fun R K=>HB (R:=R) P src dst x K):=by
 unfold HB;cases P.underlying src with
 |none=>exact .none
 |some a=>
  cases P.underlying dst with
  |none=>cases a<;>exact .none
  |some b=>cases a<;>cases b<;>first|exact .none|exact .bind _ fun n =>.val _
theorem MN (n:Int):∀(m:List (Int×Nat)),Det (fun R K=>KB (R:=R) n m K)
 |[]=>.val _
 |p::m=>by simp only [KB,AF];exact .T5 (.val _) (MN n m)
theorem QR (t:TypeId) (m x:AV):Det (fun R K=>JQ (R:=R) P t m x K):=by
 unfold JQ;simp only [AF];split
 ·exact .ite (MN _ _)
 ·exact .none
theorem Ha (h:Heap) (z:Nat) (x:AV):Det (fun R (K:List (List Tree)→Option R)=>elems (R:=R) h z x K):=by
 unfold elems
 try simp only [AF]
 cases x with
 |t y=>
  cases y with
  |sl s es=>exact .ite (.val _)
  |_=>exact .none
 |nilsl=>exact .val _
 |sref i ver off len=>
  dsimp only;cases h[i]? with
  |none=>exact .none
  |some o=>
   cases o with
   |row f ver' s es=>exact .ite (.val _)
   |_=>exact .none
 |_=>exact .none
theorem HX (h:Heap) (z:Nat) (x:AV):Det (fun R (K:List (List Tree)→Option R)=>Ht (R:=R) h z x K):=by
 unfold Ht
 try simp only [AF]
 split
 ·exact .ite (.val _)
 ·exact Ha _ _ _
theorem R0 (src dst:TypeId) (x:AV):Det (fun R K=>KF (R:=R) P h src dst x K):=by
 unfold KF;simp only [AF];split
 ·split
  ·exact .comp (Ha _ _ _) fun es =>.ite (.val _)
  ·exact .none
 ·exact Ow _ _ _
theorem QS (t:TypeId) (x ix:AV):Det (fun R K=>JR (R:=R) P t x ix K):=by
 unfold JR;simp only [AF];split
 ·exact .ite (.val _)
 ·exact .ite (.ite (HY _ _))
 ·exact .none
theorem Rx (t:TypeId) (h:Heap) (i:Nat) (x:AV) (co:Bool):Det (fun R K=>KC (R:=R) P t h i x co K):=by
 unfold KC
 try simp only [AF]
 split
 ·exact .ite (.val _)
 ·exact .none
theorem Ou (t:TypeId) (h:Heap):Det (fun R (K:AV×Heap→Option R)=>Fq (R:=R) P t h fun v h'=>K (v,h')):=by
 unfold Fq;split
 ·exact .val (_,_)
 ·exact .none
theorem QQ (t:TypeId) (h:Heap) (m x v:AV):Det (fun R (K:Heap→Option R)=>Hf (R:=R) P t h m x v K):=by
 unfold Hf
 try simp only [AF]
 split
 ·split
  ·exact .ite (.val _)
  ·exact .none
 ·exact .none
theorem det_qop (env:Env) (op:Op):Det (fun R K=>qop (R:=R) P env h op K):=by
 cases op with
 |move x=>exact .val _
 |assign x=>exact .val _
 |pick c a b=>
  simp only [qop,AF];exact .bind _ fun t =>.T5 (.val _) (.val _)
 |build t parts=>exact R2 _ _
 |buildSlice t len parts=>exact Ke _ _ _
 |load t a=>exact .comp (UJ _ _) fun v=>Vt _ _
 |binOp op t x y yt=>exact Vx _ _ _ _
 |unOp op t x=>exact det_aun _ _
 |convert src dst x=>exact R0 _ _ _
 |makeFunc fn first captured=>cases fn<;>first|exact .val _|exact .none
 |slice t x lo hi mx=>exact Rv _ _ _ _ _
 |fieldAddr t x f=>exact Rz _ _ _
 |indexAddr t x ix=>exact Ry _ _ _
 |extract t i=>
  simp only [qop,AF];cases ev env t with
  |tuple vs=>cases hv:vs[i]? with
   |none=>simp only [hv];exact .none
   |some v=>simp only [hv];exact .val _
  |_=>exact .none
 |lookup t m x ok=>
  simp only [qop];cases ev env m with
  |mref i=>exact Rx _ _ _ _ _
  |_=>
   cases ok with
   |true=>simp only [if_true];exact QR _ _ _
   |false=>simp only [false_eq_true,if_false];exact .none
 |index t x ix=>exact QS _ _ _
 |nilCheck x=>
  simp only [qop,AF];cases ev env x with
  |ptr i off=>exact .val _
  |eptr s c o=>exact .val _
  |yld i=>exact .val _
  |rptr i v k o=>exact .val _
  |func fn a b=>cases fn<;>first|exact .val _|exact .none
  |_=>exact .none
 |call c=>
  obtain ⟨callee,args,argTypes⟩:=c;cases callee with
  |builtin b=>
   cases b<;>first|exact UH _ _|exact .none|skip
   simp only [qop,AF]
   match args.toList,argTypes.toList with
   |[x],[t]=>exact Vw _ _
   |[],_=>exact .none
   |_::_::_,_=>exact .none
   |[x],[]=>exact .none
   |[x],_::_::_=>exact .none
  |value f=>exact .none
  |invoke r m=>exact .none
 |_=>exact .none
theorem Vs (C:Cfg) (rec:Rec) (pc:BF) (env:Env) (op:Op) :
  (∃v,∀(R:Type) (K:AV→Heap→Option R),Af C rec pc true env h op K=K v h)∨∀(R:Type) (K:AV→Heap→Option R),Af C rec pc true env h op K=none:=by
 have lift:∀{f:∀R:Type,(AV→Option R)→Option R},Det f→(∃v,∀(R:Type) (K:AV→Heap→Option R),f R (fun v=>K v h)=K v h)∨∀(R:Type) (K:AV→Heap→Option R),f R (fun v=>K v h)=none:=by
  intro f hf;rcases hf with ⟨v,hv⟩|hn
  ·exact .inl ⟨v,fun R K=>hv R _⟩
  ·exact .inr fun R K=>hn R _
 have hfc:∀(g:FuncId) (avs:List AV),(∃v,∀(R:Type) (K:AV→Heap→Option R),FM C rec pc true g avs h K=K v h)∨∀(R:Type) (K:AV→Heap→Option R),FM C rec pc true g avs h K=none:=by
  intro g avs;unfold FM
  try simp only [AF]
  by_cases ho:C.own g=true
  ·exact .inr fun R K=>by simp [ho]
  have ho':C.own g=false:=by simpa using ho
  by_cases hg:C.heapful g=true
  ·exact .inr fun R K=>by simp [ho',hg]
  ·have hg':C.heapful g=false:=by simpa using hg
   simp only [ho',hg',false_eq_true,if_false,Bool.true_or,if_true];have hd:Det (fun R (K:AV→Option R)=>flatK C.P (HO C.P g) avs fun ls=>DP C.P (!CC C.P g) h (Iw C.P g) ls fun xs=>if g<OWN then ((pc g xs).bind fun ys=>Iq C.P (DG C.P g) ys fun ys=>
     match CQ C.P g (fun i =>.t (ys.getD i default)) with
     |some v=>K v
     |none=>none) else none):=
    .comp (HZ _ _) fun ls =>.comp (CF _ _ _) fun xs =>.ite (.bind _ fun ys =>.comp (Nq _ _) fun ys=>by
     cases CQ C.P g (fun i =>.t (ys.getD i default)) with
     |none=>exact .none
     |some v=>exact .val _)
   exact lift hd
 unfold Af
 try simp only [AF]
 by_cases hh:Au op=true
 ·exact .inr fun R K=>by simp [hh]
 ·have hh':Au op=false:=by simpa using hh
  simp only [hh',false_eq_true,if_false];have hq:=lift (det_qop (P:=C.P) (h:=h) env op);cases op with
  |convert src dst x=>
   dsimp only;by_cases hf:Mz C.P src dst=true
   ·simp only [hf,if_true];exact .inr fun _ _=>trivial
   ·simp only [hf,false_eq_true,if_false];exact hq
  |buildSlice t len parts=>
   dsimp only;by_cases hf:C.fnTy t=true
   ·simp only [hf,if_true];exact .inr fun _ _=>trivial
   ·simp only [hf,false_eq_true,if_false];exact hq
  |call c=>
   obtain ⟨callee,args,argTypes⟩:=c;cases callee with
   |value f=>
    dsimp only;unfold MU
    try simp only [AF]
    have hif:∀(g:FuncId) (avs:List AV),(∃v,∀(R:Type) (K:AV→Heap→Option R),(if enters C.P g=true then FM C rec pc true g avs h K else none)=K v h)∨∀(R:Type) (K:AV→Heap→Option R),(if enters C.P g=true then FM C rec pc true g avs h K else none)=none:=by
     intro g avs;by_cases he:enters C.P g=true
     ·simp only [if_pos he];exact hfc g avs
     ·simp only [if_neg he];exact .inr fun _ _=>trivial
    cases ev env f with
    |func fn a b=>
     cases fn with
     |func g=>exact hif g _
     |_=>exact .inr fun _ _=>rfl
    |t x=>
     cases x with
     |const v=>
      cases v with
      |func fn a b=>
       cases fn with
       |func g=>
        obtain ⟨a⟩:=a;obtain ⟨b⟩:=b;cases a with
        |nil=>cases b with
         |nil=>exact hif g _
         |cons x xs=>exact .inr fun _ _=>rfl
        |cons x xs=>exact .inr fun _ _=>rfl
       |_=>exact .inr fun _ _=>rfl
      |_=>exact .inr fun _ _=>rfl
     |_=>exact .inr fun _ _=>rfl
    |yld i=>exact .inr fun _ _=>by simp
    |_=>exact .inr fun _ _=>rfl
   |builtin b=>exact hq
   |invoke a b=>exact hq
  |_=>exact hq
noncomputable def GS (C:Cfg) (rec:Rec) (pc:BF) (h:Heap) (env:Env) (op:Op):Option AV:=Af C rec pc true env h op fun v _=>some v
theorem step_eq {R:Type} (C:Cfg) (rec:Rec) (pc:BF) (env:Env) (op:Op) (K:AV→Heap→Option R):Af C rec pc true env h op K=(GS C rec pc h env op).bind fun v=>K v h:=by
 unfold GS;rcases Vs (h:=h) C rec pc env op with ⟨v,hv⟩|hn
 ·rw [hv,hv];rfl
 ·rw [hn,hn];rfl
def M6 (ops:Array Oper) (o:Oper) (env:Env):Option Bool:=
 match o.guard with
 |none=>some true
 |some (j,want)=>
  match (ops[j]?).bind (·.dst) with
  |some d=>match env d with
   | .t (.bool b)=>some (b==want)
   | .tuple []=>some false
   |_=>none
  |none=>none
theorem QD {R:Type} (ops:Array Oper) (o:Oper) (env:Env) (K1 K0:Env→Option R):FV ops o env K1 K0=(M6 ops o env).bind fun b=>if b then K1 env else K0 env:=by
 unfold FV M6
 try simp only [AF]
 cases hg:o.guard with
 |none=>rfl
 |some p=>
  obtain ⟨j,want⟩:=p;dsimp only;cases hd:(ops[j]?).bind (·.dst) with
  |none=>rfl
  |some d=>
   dsimp only;cases hb:env d with
   |t x=>
    cases x with
    |bool b=>cases b<;>cases want<;>simp [Pu hb]
    |_=>rfl
   |tuple vs=>cases vs<;>rfl
   |_=>rfl
theorem RM (C:Cfg) (rec:Rec) (pc:BF) {env env':Env} (op:Op) (hE:∀x∈op.operands,ev env x=ev env' x):GS C rec pc h env op=GS C rec pc h env' op:=by
 have hmap:∀(xs:Array Operand),(∀x∈xs,ev env x=ev env' x)→xs.toList.map (ev env)=xs.toList.map (ev env'):=fun xs hx=>
  map_congr_left fun x hm=>hx x (by simpa using hm)
 have hparts:∀(ps:Array (Nat×Operand)),(∀x∈(ps.toList.map (·.2)).toArray,ev env x=ev env' x)→ps.toList.map (fun p=>(p.1,ev env p.2))=ps.toList.map (fun p=>(p.1,ev env' p.2)):=fun ps hx=>
  map_congr_left fun p hm=>by rw [hx p.2 (by simp;exact ⟨p.1,by simpa using hm⟩)]
 have hopt:∀(x:Option Operand),(∀y∈x.toArray,ev env y=ev env' y)→Iz env x=Iz env' x:=fun x hx=>by
  cases x with
  |none=>rfl
  |some y=>simp only [Iz];rw [hx y (by simp)]
 unfold GS;cases op with
 |move x=>have h1:=hE x (by simp [Op.operands]);simp only [Af,Au,false_eq_true,if_false,qop,h1,AF]
 |assign x=>have h1:=hE x (by simp [Op.operands]);simp only [Af,Au,false_eq_true,if_false,qop,h1,AF]
 |pick c a b=>
  have h1:=hE c (by simp [Op.operands]);have h2:=hE a (by simp [Op.operands]);have h3:=hE b (by simp [Op.operands]);simp only [Af,Au,false_eq_true,if_false,qop,h1,h2,h3,AF]
 |alloc t=>simp [Af,Au,AF]
 |box t x=>simp [Af,Au,AF]
 |store t a x=>simp [Af,Au,AF]
 |build t ps=>have h1:=hparts ps hE;simp only [Af,Au,false_eq_true,if_false,qop,h1,AF]
 |buildSlice t l ps=>have h1:=hparts ps hE;simp only [Af,Au,false_eq_true,if_false,qop,if_true,h1,AF]
 |load t x=>have h1:=hE x (by simp [Op.operands]);simp only [Af,Au,false_eq_true,if_false,qop,h1,AF]
 |nilCheck x=>have h1:=hE x (by simp [Op.operands]);simp only [Af,Au,false_eq_true,if_false,qop,h1,AF]
 |binOp op t x y yt=>
  have h1:=hE x (by simp [Op.operands]);have h2:=hE y (by simp [Op.operands]);by_cases hi:Au (.binOp op t x y yt)=true
  ·simp only [Af,hi,if_true]
  ·simp only [Af,hi,false_eq_true,if_false,qop,h1,h2,AF]
 |unOp op t x=>have h1:=hE x (by simp [Op.operands]);simp only [Af,Au,false_eq_true,if_false,qop,h1,AF]
 |convert src dst x=>have h1:=hE x (by simp [Op.operands]);simp only [Af,Au,false_eq_true,if_false,qop,h1,AF]
 |makeSlice t n c=>simp [Af,Au,AF]
 |makeMap t r=>
  cases r with
  |none=>simp [Af,Au,AF]
  |some r=>simp only [Af,Au,false_eq_true,if_false,qop,AF]
 |mapUpdate t m x v=>simp [Af,Au,AF]
 |makeFunc fn first captured=>
  have h1:=hmap first fun x hx=>hE x (by simp [Op.operands,hx])
  have h2:=hmap captured fun x hx=>hE x (by simp [Op.operands,hx]);simp only [Af,Au,false_eq_true,if_false,qop,h1,h2,AF]
 |slice t x lo hi mx=>
  have h1:=hE x (by simp [Op.operands]);have h2:=hopt lo fun y hy=>hE y (by simp [Op.operands] at hy ⊢;simp [hy]);have h3:=hopt hi fun y hy=>hE y (by simp [Op.operands] at hy ⊢;simp [hy]);have h4:=hopt mx fun y hy=>hE y (by simp [Op.operands] at hy ⊢;simp [hy]);simp only [Af,Au,false_eq_true,if_false,qop,h1,h2,h3,h4,AF]
 |fieldAddr t x f=>have h1:=hE x (by simp [Op.operands]);simp only [Af,Au,false_eq_true,if_false,qop,h1,AF]
 |indexAddr t x y=>
  have h1:=hE x (by simp [Op.operands]);have h2:=hE y (by simp [Op.operands]);simp only [Af,Au,false_eq_true,if_false,qop,h1,h2,AF]
 |lookup t m x ok=>have h1:=hE m (by simp [Op.operands]);have h2:=hE x (by simp [Op.operands]);cases ok<;>simp only [Af,Au,false_eq_true,if_false,qop,h1,h2,AF]
 |index t x y=>
  have h1:=hE x (by simp [Op.operands]);have h2:=hE y (by simp [Op.operands]);simp only [Af,Au,false_eq_true,if_false,qop,h1,h2,AF]
 |extract x i=>have h1:=hE x (by simp [Op.operands]);simp only [Af,Au,false_eq_true,if_false,qop,h1,AF]
 |call c=>
  obtain ⟨callee,args,argTypes⟩:=c;cases callee with
  |value f=>
   have h1:=hE f (by simp [Op.operands,Call.operands]);have h2:=hmap args fun x hx=>hE x (by simp [Op.operands,Call.operands,hx]);simp only [Af,Au,false_eq_true,if_false,h1,h2,AF]
  |builtin b=>
   have h2:∀x∈args.toList,ev env x=ev env' x:=fun x hx=>hE x (by simp [Op.operands,Call.operands];simpa using hx);have h3:=hmap args fun x hx=>h2 x (by simpa using hx);cases b<;>first|(simp [Af,Au,AF];done)|(simp only [Af,Au,false_eq_true,if_false,qop,h3,AF];done)|(simp only [Af,Au,false_eq_true,if_false,qop,AF];done)|skip
   simp only [Af,Au,false_eq_true,if_false,qop,AF]
   match hl:args.toList,argTypes.toList with
   |[x],[t]=>simp only [h2 x (by rw [hl];simp)]
   |[],_=>rfl
   |_::_::_,_=>rfl
   |[x],[]=>rfl
   |[x],_::_::_=>rfl
  |invoke r m=>simp only [Af,Au,false_eq_true,if_false,qop,AF]
 |_=>simp only [Af,Au,false_eq_true,if_false,qop,AF]
theorem L6 (ops:Array Oper) (o:Oper) {env env':Env} (hE:∀t∈o.looksAt ops,env t=env' t):M6 ops o env=M6 ops o env':=by
 unfold M6;cases hg:o.guard with
 |none=>rfl
 |some p=>
  obtain ⟨j,want⟩:=p;dsimp only;cases hd:(ops[j]?).bind (·.dst) with
  |none=>rfl
  |some d=>
   dsimp only;rw [hE d (by simp [Oper.looksAt,hg,hd])]
theorem Lt (ops:Array Oper) (o:Oper) {env env':Env} (hE:∀t∈o.looksAt ops,env t=env' t):∀x∈o.op.operands,ev env x=ev env' x:=by
 intro x hx;cases x with
 |tmp t=>exact hE t (by simp only [Oper.looksAt,mem_append,mem_filterMap];exact .inl ⟨.tmp t,by simpa using hx,rfl⟩)
 |_=>rfl
theorem CP {env:Env} {o:Oper} {v:AV} {t:Tmp} (ht:∀d,o.dst=some d→d≠t):(env.put o.dst v) t=env t:=by
 cases hd:o.dst with
 |none=>rfl
 |some d=>simp only [Env.put];rw [if_neg fun e=>ht d hd e.symm]
theorem put_comm {env:Env} {x y:Oper} {v u:AV} (hxy:∀d,x.dst=some d→y.dst≠some d):(env.put x.dst v).put y.dst u=(env.put y.dst u).put x.dst v:=by
 cases hx:x.dst with
 |none=>cases y.dst<;>rfl
 |some d=>
  cases hy:y.dst with
  |none=>rfl
  |some e=>
   funext i;simp only [Env.put];have hne:d≠e:=fun h=>hxy d hx (by rw [hy,h]);by_cases h1:i=e
   ·rw [if_pos h1];by_cases h2:i=d
    ·exact (hne (h2.symm.trans h1)).elim
    ·rw [if_neg h2,if_pos h1]
   ·rw [if_neg h1];by_cases h2:i=d
    ·rw [if_pos h2,if_pos h2]
    ·rw [if_neg h2,if_neg h2,if_neg h1]
theorem IM {h:Heap}:∀(os vs:List AV),Det (fun R (K:List AV→Option R)=>Cp (R:=R) h os vs K)
 |os,[]=>by
  have:(fun R (K:List AV→Option R)=>Cp (R:=R) h os [] K)=fun R K=>K []:=by funext R K;cases os<;>rfl
  rw [this];exact .val _
 |[],v::vs =>.val _
 |o::os,v::vs=>by
  have plain:∀x:AV,Det (fun R (K:List AV→Option R)=>Cp (R:=R) h os vs fun vs'=>K (x::vs')):=fun x =>.comp (IM os vs) fun vs' =>.val _;unfold Cp
  try simp only [AF]
  split
  ·split
   ·exact .ite (plain _)
   ·exact plain _
  ·exact plain _
theorem F9:∀(ts:List TypeId) (vs:List AV) (h:Heap),Det (fun R (K:List AV×Heap→Option R)=>C1 (R:=R) P ts vs h fun vs' h'=>K (vs',h'))
 |ts,[],h =>.val ([],h)
 |ts,v::vs,h=>by
  cases v with
  |nilsl=>
   have:=F9 ts.tail vs (h++[.row false 0 ((EZ P (ts.headD 0)).getD 0) []]);rcases this with ⟨p,hp⟩|hn
   ·exact .inl ⟨(.sref h.length 0 0 0::p.1,p.2),fun R K=>hp R fun q=>K (.sref h.length 0 0 0::q.1,q.2)⟩
   ·exact .inr fun R K=>hn R fun q=>K (.sref h.length 0 0 0::q.1,q.2)
  |_=>
   have:=F9 ts.tail vs h;rcases this with ⟨p,hp⟩|hn
   ·exact .inl ⟨(_::p.1,p.2),fun R K=>hp R fun q=>K (_::q.1,q.2)⟩
   ·exact .inr fun R K=>hn R fun q=>K (_::q.1,q.2)
theorem JI (t:TypeId) (cs:List AV) (h:Heap):Det (fun R (K:AV×Heap→Option R)=>Ds (R:=R) P t cs h fun v h'=>K (v,h')):=by
 unfold Ds;rcases F9 (P:=P) (Bh P 16 t) cs h with ⟨p,hp⟩|hn
 ·exact .inl ⟨(.ptr p.2.length 0,p.2++[.box p.1]),fun R K=>hp R fun q=>K (.ptr q.2.length 0,q.2++[.box q.1])⟩
 ·exact .inr fun R K=>hn R fun q=>K (.ptr q.2.length 0,q.2++[.box q.1])
theorem MM (t:TypeId) (h:Heap) (a v:AV):Det (fun R (K:Heap→Option R)=>E5 (R:=R) P t h a v K):=by
 unfold E5
 try simp only [AF]
 cases v.cells with
 |none=>exact .none
 |some vs=>
  cases BZ P t with
  |none=>exact .none
  |some n=>
   refine .ite ?_;cases a with
   |ptr i off=>
    dsimp only;cases h[i]? with
    |none=>exact .none
    |some o=>
     cases o with
     |box cs=>
      refine .ite ?_;refine .comp (IM _ _) fun vs => ?_;rcases F9 (P:=P) (Bh P 16 t) vs h with ⟨p,hp⟩|hn
      ·exact .inl ⟨_,fun R K=>hp R fun q=>K (q.2.set i (.box (setAt cs off q.1)))⟩
      ·exact .inr fun R K=>hn R fun q=>K (q.2.set i (.box (setAt cs off q.1)))
     |row f ver s es=>exact .none
     |loop l=>exact .none
     |mapo a b c=>exact .none
   |rptr i ver k off=>
    dsimp only;cases h[i]? with
    |none=>exact .none
    |some o=>
     cases o with
     |box cs=>exact .none
     |loop l=>exact .none
     |mapo a b c=>exact .none
     |row f ver' s es=>
      cases f with
      |true=>exact .none
      |false=>exact .ite (.bind _ fun e =>.comp (CF _ _ _) fun xs =>.val _)
   |_=>exact .none
theorem QT (t:TypeId) (h:Heap) (s x:AV):Det (fun R (K:AV×Heap→Option R)=>Du (R:=R) P t h s x fun v h'=>K (v,h')):=by
 unfold Du
 try simp only [AF]
 refine .bind _ fun z =>.comp (HX h z x) fun new => ?_;cases s with
 |nilsl=>exact .ite (.val (_,_))
 |sref i ver off len=>
  dsimp only;cases h[i]? with
  |none=>exact .none
  |some o=>
   cases o with
   |row f ver' sz es=>
    cases f with
    |true=>exact .none
    |false=>exact .T5 (.ite (.val (_,_))) (.ite (.val (_,_)))
   |_=>exact .none
 |_=>exact .none
theorem M9 (t:TypeId) (h:Heap) (s x:AV):Det (fun R (K:AV×Heap→Option R)=>ED (R:=R) P t h s x fun v h'=>K (v,h')):=by
 unfold ED
 try simp only [AF]
 refine .bind _ fun z =>.comp (Ha h z x) fun new => ?_;cases s with
 |sref i ver off len=>
  dsimp only;cases h[i]? with
  |none=>exact .none
  |some o=>
   cases o with
   |row f ver' sz es=>
    cases f with
    |true=>exact .none
    |false=>exact .ite (.val (_,_))
   |_=>exact .none
 |_=>exact .none
theorem HW (h:Heap) (e:TypeId):Det (fun R (K:List Tree→Option R)=>NC (R:=R) P h e K):=by
 unfold NC
 try simp only [AF]
 cases zeroCells? P e with
 |none=>exact .none
 |some z=>
  cases BZ P e with
  |none=>exact .none
  |some n=>exact .ite (CF _ _ _)
theorem R1 (t:TypeId) (h:Heap) (x:AV):Det (fun R (K:Heap→Option R)=>IV (R:=R) P t h x K):=by
 unfold IV
 try simp only [AF]
 cases P.underlying t with
 |none=>exact .none
 |some ty=>
  cases ty with
  |slice e=>
   cases x with
   |t y=>cases y with
    |sl z es=>exact .ite (.val _)
    |_=>exact .none
   |nilsl=>exact .val _
   |sref i ver off len=>
    dsimp only;refine .comp (HW h e) fun zs => ?_;cases h[i]? with
    |none=>exact .none
    |some o=>
     cases o with
     |row f ver' sz es=>
      cases f with
      |true=>exact .none
      |false=>exact .ite (.val _)
     |_=>exact .none
   |_=>exact .none
  |_=>exact .none
theorem UK (t:TypeId) (h:Heap) (d x:AV):Det (fun R (K:AV×Heap→Option R)=>Mo (R:=R) P t h d x fun v h'=>K (v,h')):=by
 unfold Mo
 try simp only [AF]
 refine .bind _ fun z =>.comp (HX h z x) fun new => ?_;cases d with
 |sref i ver off len=>
  dsimp only;cases h[i]? with
  |none=>exact .none
  |some o=>
   cases o with
   |row f ver' sz es=>
    cases f with
    |true=>exact .none
    |false=>exact .ite (.val (_,_))
   |_=>exact .none
 |_=>exact .none
theorem UI (t:TypeId) (h:Heap) (n c:AV):Det (fun R (K:AV×Heap→Option R)=>Mi (R:=R) P t h n c fun v h'=>K (v,h')):=by
 unfold Mi
 try simp only [AF]
 refine .bind _ fun z => ?_;cases P.underlying t with
 |none=>exact .none
 |some ty=>
  cases ty with
  |slice e=>exact .bind _ fun a =>.bind _ fun b =>.comp (HW h e) fun zs =>.ite (.val (_,_))
  |_=>exact .none
theorem ML (t:TypeId) (v:AV) (h:Heap):Det (fun R (K:AV×Heap→Option R)=>J5 (R:=R) P t v h fun v=>K (v,h)):=by
 unfold J5
 try simp only [AF]
 cases v.cells with
 |none=>exact .none
 |some cs=>
  cases BZ P t with
  |none=>exact .none
  |some n=>exact .ite (.comp (CF _ _ _) fun xs =>.val (_,_))
theorem Ov (t:TypeId) (h:Heap):Det (fun R (K:AV×Heap→Option R)=>Fs (R:=R) P t h fun v h'=>K (v,h')):=by
 unfold Fs
 try simp only [AF]
 cases zeroCells? P t with
 |none=>exact .none
 |some z=>
  cases BZ P t with
  |none=>exact .none
  |some n=>exact .ite (.comp (CF _ _ _) fun xs =>.val (_,_))
theorem M8 {P:Program} {t:TypeId} {h:Heap} (len:Nat) (parts:List (Nat×AV)):Det (fun R (K:AV×Heap→Option R)=>EC (R:=R) P t h len parts fun v h'=>K (v,h')):=by
 unfold EC
 try simp only [AF]
 cases P.underlying t with
 |none=>exact .none
 |some u=>cases u with
  |slice e=>exact .bind _ fun s =>.bind _ fun z =>.ite (.bind _ fun cs =>.val (_,_))
  |_=>exact .none
theorem Vu (C:Cfg) (rec:Rec) (pc:BF) (env:Env) (op:Op) (hl:Ag C op=true):Det (fun R (K:AV×Heap→Option R)=>Af (R:=R) C rec pc false env h op fun v h'=>K (v,h')):=by
 by_cases hh:Au op=true
 case neg=>
  have hw:(∃g args argTypes,op = .call {callee :=.value (.func g),args,argTypes})∨(∃t len parts,op = .buildSlice t len parts)∨∃src dst x,op = .convert src dst x:=by unfold Ag at hl;split at hl<;>first|(exact absurd rfl hh)|(exact .inl ⟨_,_,_,rfl⟩)|(exact .inr (.inl ⟨_,_,_,rfl⟩))|(exact .inr (.inr ⟨_,_,_,rfl⟩))|cases hl
  rcases hw with ⟨g,args,argTypes,rfl⟩|⟨t,len,parts,rfl⟩|⟨src,dst,x,rfl⟩
  case inr.inr=>
   have hf:Mz C.P src dst=true:=hl;show Det (fun R (K:AV×Heap→Option R)=>Af (R:=R) C rec pc false env h (.convert src dst x) fun v h'=>K (v,h'));simp only [Af,Au,false_eq_true,if_false,hf,if_true,J9];exact .bind _ fun s =>.val (_,_)
  case inr.inl=>
   have hf:C.fnTy t=true:=hl;show Det (fun R (K:AV×Heap→Option R)=>Af (R:=R) C rec pc false env h (.buildSlice t len parts) fun v h'=>K (v,h'));simp only [Af,Au,false_eq_true,if_false,hf,if_true];exact M8 _ _
  have hown:C.own g=true:=hl;have hh':Au (.call {callee :=.value (.func g),args,argTypes})=false:=by simpa using hh
  unfold Af;simp only [hh',false_eq_true,if_false,ev,MU,AF];refine .ite ?_;unfold FM;simp only [hown,if_true,false_eq_true,if_false,AF];refine .comp (HZ _ _) fun ls =>.comp (CF _ _ _) fun xs => ?_;split
  ·rename_i j ho2;refine .ite (.bind _ fun ys =>.comp (Nq _ _) fun ys => ?_);split
   ·rename_i z es _;split
    ·exact .val (_,_)
    ·exact .none
   ·exact .none
  refine .bind _ fun ys => ?_;split
  ·refine .bind _ fun z =>.ite (.ite ?_);unfold OO;split
   ·split
    ·exact .val (_,_)
    ·exact .none
   ·exact .val (_,_)
  ·exact .none
 unfold Af;simp only [hh,if_true,false_eq_true,if_false];cases op with
 |alloc t=>
  have hrn:C.ren t=none:=by simpa [Ag] using hl
  simp only [Bq,hrn];split
  ·exact (by simpa using ML (P:=C.P) _ _ _)
  ·rename_i t' himm;exact Ov _ _
  ·rename_i t' d himm;split at himm<;>cases himm
  ·rename_i t' a x himm;split at himm<;>cases himm
  ·simp only [hop];cases zeroCells? C.P t with
   |none=>exact .none
   |some z=>exact JI _ _ _
 |box t x=>
  simp only [Bq];split
  ·exact ML _ _ _
  ·rename_i t' himm;split at himm<;>cases himm
  ·rename_i t' d himm;split at himm<;>cases himm
  ·rename_i t' a x' himm;split at himm<;>cases himm
  ·simp only [hop];cases (ev env x).cells with
   |none=>exact .none
   |some cs=>exact JI _ _ _
 |store t a x=>
  simp only [Bq];split
  ·rename_i himm;split at himm<;>cases himm
  ·rename_i himm;split at himm<;>cases himm
  ·rename_i himm;split at himm<;>cases himm
  ·rename_i t' a' x' himm;exact .comp (MM _ _ _ _) fun h' =>.val (_,_)
  ·simp only [hop];exact .comp (MM _ _ _ _) fun h' =>.val (_,_)
 |call c=>
  obtain ⟨callee,args,argTypes⟩:=c;cases callee with
  |builtin b=>
   cases b<;>first|(simp [Ag] at hl;done)|skip
   ·simp only [Bq,hop,AF];split
    ·rename_i s x t t' _ _;refine .ite ?_;by_cases hsr:OJ (ev env s) (ev env x)=true
     ·simp only [hsr,if_true];exact M9 _ _ _ _
     ·simp only [hsr,false_eq_true,if_false];exact QT _ _ _ _
    ·exact .none
   ·simp only [Bq,hop,AF];split
    ·exact .comp (R1 _ _ _) fun h' =>.val (_,_)
    ·exact .none
   ·simp only [Bq,hop,AF];split
    ·exact UK _ _ _ _
    ·exact .none
  |_=>simp [Au] at hh
 |makeSlice t n c=>simp only [Bq,hop];exact UI _ _ _ _
 |makeMap t r=>
  cases r with
  |none=>simp only [Bq,hop];exact Ou _ _
  |some r=>simp [Ag] at hl
 |mapUpdate t m x v=>simp only [Bq,hop];exact .comp (QQ _ _ _ _ _) fun h' =>.val (_,_)
 |_=>first|(simp [Ag] at hl;done)|(simp [Au] at hh;done)
def HF (h h':Heap) (v:AV):Prop:=(∃d,GR d v=true)∨∃i,BR v=some i∧h[i]? = h'[i]?
theorem HF.cells {h h':Heap} {v:AV} {cs:List AV} (hv:HF h h' v) (hc:v.cells=some cs):∀x∈cs,HF h h' x:=by
 rcases hv with ⟨d,hd⟩|⟨i,hi,he⟩
 ·cases d with
  |zero=>cases hd
  |succ d=>
   cases v<;>simp only [AV.cells,Option.some.injEq,reduceCtorEq] at hc<;>first|(cases hc;done)|skip
   all_goals first
    |(subst hc;intro x hx;simp at hx;subst hx;exact .inl ⟨d+1,hd⟩)
    |(subst hc;intro x hx;simp only [GR] at hd;exact .inl ⟨d,all_eq_true.1 hd x hx⟩)
 ·cases v<;>simp only [BR,reduceCtorEq] at hi<;>simp only [AV.cells,Option.some.injEq] at hc<;>(subst hc;intro x hx;simp at hx;subst hx;exact .inr ⟨i,by simpa [BR] using hi,he⟩)
theorem UM {R:Type} {fz:Bool} {h h':Heap} {ty:TypeId} {v:AV} (hv:HF h h' v) (K:Tree→Option R):conv P fz h ty v K=conv P fz h' ty v K:=by
 cases v with
 |sref i ver off len=>
  rcases hv with ⟨d,hd⟩|⟨j,hj,he⟩
  ·cases d with
   |zero=>cases hd
   |succ d=>simp [GR] at hd
  ·simp only [BR,Option.some.injEq] at hj;subst hj;simp only [conv,he]
 |func fn f c=>cases f<;>cases c<;>rfl
 |_=>rfl
theorem IP {R:Type} {fz:Bool} {h h':Heap}:∀(ts:List TypeId) (vs:List AV),(∀v∈vs,HF h h' v)→∀(K:List Tree→Option R),DP P fz h ts vs K=DP P fz h' ts vs K
 |[],[],_,K=>rfl
 |[],_::_,_,K=>rfl
 |_::_,[],_,K=>rfl
 |t::ts,v::vs,hv,K=>by simp only [DP];rw [UM (h':=h') (hv v (by simp))];congr 1;funext x;exact IP ts vs (fun u hu=>hv u (by simp [hu])) _
theorem IJ {R:Type} {h h':Heap}:∀(ts:List TypeId) (vs:List AV),(∀v∈vs,HF h h' v)→∀(K K':List AV→Option R),(∀ls,(∀v∈ls,HF h h' v)→K ls=K' ls)→flatK P ts vs K=flatK P ts vs K'
 |[],[],_,K,K',hk=>hk [] (by simp)
 |[],_::_,_,K,K',hk=>rfl
 |_::_,[],_,K,K',hk=>rfl
 |t::ts,v::vs,hv,K,K',hk=>by
  have hv1:=hv v (by simp);have hvs:∀u∈vs,HF h h' u:=fun u hu=>hv u (by simp [hu]);simp only [flatK,AF];cases Az P t with
  |none=>rfl
  |some b=>
   cases b with
   |true=>
    cases v with
    |agg cs=>
     dsimp only;split
     ·refine IJ ts vs hvs _ _ fun ls hl=>hk _ fun u hu => ?_;rcases mem_append.1 hu with hu|hu
      ·exact hv1.cells (cs:=cs) rfl u hu
      ·exact hl u hu
     ·rfl
    |_=>rfl
   |false=>
    dsimp only;split
    ·refine IJ ts vs hvs _ _ fun ls hl=>hk _ fun u hu => ?_;rcases mem_cons.1 hu with rfl|hu
     ·exact hv1
     ·exact hl u hu
    ·rfl
theorem Nn {h h':Heap} {place:Nat→Option (Nat×Nat)}:∀(ps:List (Nat×AV)) (cs cs':List AV),(∀p∈ps,HF h h' p.2)→(∀v∈cs,HF h h' v)→Bo place cs ps=some cs'→∀v∈cs',HF h h' v
 |[],cs,cs',_,hc,h=>by cases h;exact hc
 |(i,v)::ps,cs,cs',hp,hc,h=>by
  simp only [Bo] at h;split at h
  ·rename_i off size vs hpl hvc;split at h
   ·refine Nn ps _ cs' (fun p hpp=>hp p (by simp [hpp])) (fun u hu => ?_) h;simp only [setAt,mem_append] at hu;rcases hu with hu|hu|hu
    ·exact hc u (List.mem_of_mem_take hu)
    ·exact (hp (i,v) (by simp)).cells hvc u hu
    ·exact hc u (mem_of_mem_drop hu)
   ·cases h
  ·cases h
theorem Gv (d:Nat) (v:Value):GR (d+2) (Ek v)=true:=by unfold Ek;split<;>rfl
theorem OW (v:Value):GR 4 (ofConst v)=true:=by
 unfold ofConst;split
 ·simp only [GR];exact all_eq_true.2 fun x hx=>by obtain ⟨u,_,rfl⟩:=mem_map.1 hx;exact Gv 1 u
 ·exact Gv 2 _
theorem TZ {h h':Heap} {e:TypeId} {z:List AV} (hz:zeroCells? P e=some z):∀v∈z,HF h h' v:=by
 unfold zeroCells? at hz;split at hz
 ·exact HF.cells (.inl ⟨4,OW _⟩) hz
 ·cases hz
theorem HF.obj {h h':Heap} {v:AV} (hv:HF h h' v) {i:Nat} (hi:BR v=some i):h[i]? = h'[i]? :=by
 rcases hv with ⟨d,hd⟩|⟨j,hj,he⟩
 ·cases d with
  |zero=>cases hd
  |succ d=>cases v<;>simp only [BR,reduceCtorEq] at hi<;>simp [GR] at hd
 ·rw [hi] at hj;cases hj;exact he
theorem Lf {R:Type} {h h':Heap} {env:Env} {op:Op} (hf:∀x∈op.operands,HF h h' (ev env x)) (K:AV→Option R):qop P env h op K=qop P env h' op K:=by
 cases op with
 |load t x=>
  have h1:=hf x (by simp [Op.operands]);simp only [qop,H6];generalize ev env x=v at h1;cases v<;>first|rfl|(simp only [h1.obj rfl])
 |fieldAddr t x f=>
  have h1:=hf x (by simp [Op.operands]);simp only [qop,IU];generalize ev env x=v at h1;cases v<;>first|rfl|(simp only [h1.obj rfl])
 |indexAddr t x y=>
  have h1:=hf x (by simp [Op.operands]);simp only [qop,KE];generalize ev env x=v at h1;cases v with
  |sref i ver off len=>simp only [h1.obj rfl]
  |rptr i ver k off=>simp only [h1.obj rfl]
  |t y=>cases y<;>rfl
  |_=>rfl
 |convert src dst x=>
  have h1:=hf x (by simp [Op.operands]);simp only [qop,KF];generalize ev env x=v at h1;split
  ·split
   ·unfold elems;cases v with
    |sref i ver off len=>simp only [h1.obj rfl]
    |t y=>cases y<;>rfl
    |_=>rfl
   ·rfl
  ·rfl
 |slice t x lo hi mx=>
  have h1:=hf x (by simp [Op.operands]);simp only [qop,J7];generalize ev env x=v at h1;generalize Iz env hi=oh;generalize Iz env mx=om;cases v with
  |sref i ver off len=>cases oh<;>simp only [h1.obj rfl]
  |t y=>cases y<;>cases oh<;>rfl
  |_=>cases oh<;>rfl
 |buildSlice t len ps=>
  simp only [qop,Dc,AF];split
  ·rename_i e hu;congr 1;funext s;cases hzc:zeroCells? P e with
   |none=>rfl
   |some z=>
    simp only [Option.bind_some];split
    ·cases hfc:Bo (fun i=>some (i*s,s)) (replicate len z).flatten (ps.toList.map fun p=>(p.1,ev env p.2)) with
     |none=>rfl
     |some cs=>
      simp only [Option.bind_some];refine IP _ _ (Nn _ _ _ (fun p hp => ?_) (fun v hv => ?_) hfc) _
      ·obtain ⟨q,hq,rfl⟩:=mem_map.1 hp;exact hf q.2 (by simp [Op.operands];exact ⟨q.1,by simpa using hq⟩)
      ·obtain ⟨l,hl,hv⟩:=mem_flatten.1 hv;rw [(List.mem_replicate.1 hl).2] at hv;exact TZ hzc v hv
    ·rfl
  ·rfl
 |call c=>
  obtain ⟨callee,args,argTypes⟩:=c;cases callee with
  |builtin b=>
   cases b<;>first|rfl|skip
   simp only [qop];split
   ·rename_i x t hx _;have h1:=hf x (by
     have:x∈args.toList:=by rw [hx];simp
     simp [Op.operands,Call.operands];simpa using this)
    simp only [UZ];generalize ev env x=v at h1;cases v with
    |sref i ver off len=>simp only [h1.obj rfl]
    |t y=>cases y<;>rfl
    |_=>rfl
   ·rfl
  |_=>rfl
 |lookup t m x ok=>
  have h1:=hf m (by simp [Op.operands]);simp only [qop];generalize ev env m=v at h1;cases v with
  |mref i=>simp only [KC,h1.obj rfl]
  |_=>rfl
 |_=>rfl
theorem SC {C:Cfg} {rec:Rec} {pc:BF} {h h':Heap} {env:Env} {op:Op} (hb:GA op=true):GS C rec pc h env op=GS C rec pc h' env op:=by
 unfold GS Af;by_cases hh:Au op=true
 ·simp [hh]
 ·have hh':Au op=false:=by simpa using hh
  simp only [hh',false_eq_true,if_false];cases op<;>first|(simp [GA] at hb;done)|rfl|skip
  rename_i c;obtain ⟨callee,args,argTypes⟩:=c;cases callee with
  |builtin b=>cases b<;>first|(simp [GA] at hb;done)|rfl
  |_=>simp [GA] at hb
theorem Qi {h:Heap} {i:Nat} (hi:i<1024):At h i=h[i]? :=by unfold At;rw [if_pos hi]
theorem VD {S:List Nat} {h h':Heap} (hag:∀i∈S,At h i=At h' i) {v:AV} (hv:ON S v=true):HF h h' v:=by
 unfold ON at hv;rw [or_eq_true] at hv;rcases hv with hv|hv
 ·exact .inl ⟨4,hv⟩
 ·cases ho:BR v with
  |none=>rw [ho] at hv;cases hv
  |some i=>
   rw [ho] at hv;simp only [and_eq_true,decide_eq_true_eq] at hv;have h1:=hag i (by simpa using hv.2);rw [Qi hv.1,Qi hv.1] at h1;exact .inr ⟨i,ho,h1⟩
theorem RP {g g':Nat→AV}:∀(n off:Nat),(∀j,j<n→g (off+j)=g' (off+j))→A4 g off n=A4 g' off n:=by intro n off hj;unfold A4;exact map_congr_left fun j hm=>hj j (mem_range.1 hm)
theorem Tt {P:Program} {t:TypeId} {h h':Heap} {i off n:Nat} (hi:i<1024) (ho:off<4096) (hn:ldN P t=some n) (hag:At h (Hz i off n)=At h' (Hz i off n)) {R:Type} (K:AV→Option R) :
  H6 P t h (.ptr i off) K=H6 P t h' (.ptr i off) K:=by
 have e1:¬Hz i off n<1024:=by unfold Hz;omega
 have e2:Hz i off n % 1024=i:=by unfold Hz;omega
 have e3:Hz i off n / 1024-1=off+4096*n:=by unfold Hz;omega
 have e4:(off+4096*n) % 4096=off:=by omega
 have e5:(off+4096*n) / 4096=n:=by omega
 unfold At at hag;rw [if_neg e1,if_neg e1,e2,e3,e4,e5] at hag;unfold H6;dsimp only;cases h1:h[i]? with
 |none=>
  rw [h1] at hag;cases h2:h'[i]? with
  |none=>rfl
  |some o=>rw [h2] at hag;cases hag
 |some o=>
  rw [h1] at hag;cases h2:h'[i]? with
  |none=>rw [h2] at hag;cases hag
  |some o'=>
   rw [h2] at hag;simp only [map_some,Option.some.injEq] at hag;cases o with
   |box cs=>
    cases o' with
    |box cs'=>
     simp only [IY,AE.box.injEq,List.cons.injEq,AV.yld.injEq] at hag;obtain ⟨hl,hm⟩:=hag;have hcell:∀j,j<n→cs.getD (off+j) .undef=cs'.getD (off+j) .undef:=fun j hj=>by have:=congrArg (fun l:List AV=>l[j]?) hm;simpa [getElem?_map,getElem?_range hj] using this
     unfold ldN at hn;unfold rd;dsimp only;rw [hl];cases ha:Az P t with
     |none=>rfl
     |some b=>
      rw [ha] at hn;cases b with
      |true=>
       have hn:BZ P t=some n:=hn;rw [hn];dsimp only;rw [RP (g:=fun c=>cs.getD c .undef) (g':=fun c=>cs'.getD c .undef) n off hcell]
      |false=>
       have hn:some 1=some n:=hn;cases hn;have:=hcell 0 (by omega);simp only [add_zero] at this;simp only [this]
    |row a b c d=>simp [IY] at hag
    |loop l=>simp [IY] at hag
    |mapo a b c=>simp [IY] at hag
   |row a b c d=>
    cases o' with
    |box cs'=>simp [IY] at hag
    |_=>rfl
   |loop l=>
    cases o' with
    |box cs'=>simp [IY] at hag
    |_=>rfl
   |mapo a b c=>
    cases o' with
    |box cs'=>simp [IY] at hag
    |_=>rfl
theorem Tu {C:Cfg} {rec:Rec} {pc:BF} {h h':Heap} {env:Env} {op:Op} {S:List Nat} (hag:∀i∈S,At h i=At h' i) (hf:partAt C.P S env op=true):GS C rec pc h env op=GS C rec pc h' env op:=by
 unfold partAt at hf;split at hf
 ·rename_i t a;split at hf
  ·rename_i i off n he hn;simp only [and_eq_true,decide_eq_true_eq] at hf;unfold GS Af;simp only [Au,false_eq_true,if_false,qop];rw [he];exact Tt hf.1.1 hf.1.2 hn (hag _ (by simpa using hf.2)) _
  ·cases hf
 ·rename_i t x f;split at hf
  ·rename_i i off he;unfold GS Af;simp only [Au,false_eq_true,if_false,qop,IU];rw [he]
  ·cases hf
 ·cases hf
theorem To {C:Cfg} {rec:Rec} {pc:BF} {h h':Heap} {env:Env} {op:Op} {S:List Nat} (hag:∀i∈S,At h i=At h' i) (hf:F6 C.P S env op=true):GS C rec pc h env op=GS C rec pc h' env op:=by
 unfold F6 at hf;rw [or_eq_true,or_eq_true] at hf;rcases hf with hf|hf|hf
 ·exact SC hf
 ·exact Tu hag hf
 have hf':∀x∈op.operands,HF h h' (ev env x):=fun x hx=>VD hag (all_eq_true.1 hf x (by simpa using hx));unfold GS Af;by_cases hh:Au op=true
 ·simp [hh]
 ·have hh':Au op=false:=by simpa using hh
  simp only [hh',false_eq_true,if_false];split
  ·rename_i f args argTypes;have hcall:∀(g:FuncId) (avs:List AV),(∀v∈avs,HF h h' v)→FM C rec pc true g avs h (fun v _=>some v)=FM C rec pc true g avs h' (fun v _=>some v):=by
    intro g avs hav;unfold FM;by_cases ho:C.own g=true
    ·simp [ho]
    have ho':C.own g=false:=by simpa using ho
    by_cases hg:C.heapful g=true
    ·simp [ho',hg]
    ·have hg':C.heapful g=false:=by simpa using hg
     simp only [ho',hg',false_eq_true,if_false,Bool.true_or,if_true];refine IJ _ _ hav _ _ fun ls hl => ?_;rw [IP (h':=h') _ _ hl]
   have hargs:∀v∈args.toList.map (ev env),HF h h' v:=fun v hv=>by obtain ⟨x,hx,rfl⟩:=mem_map.1 hv;exact hf' x (by simp [Op.operands,Call.operands];right;simpa using hx)
   have hfun:HF h h' (ev env f):=hf' f (by simp [Op.operands,Call.operands]);unfold MU
   try simp only [AF]
   split
   ·rename_i g first captured he
    rw [he] at hfun;rcases hfun with ⟨d,hd⟩|⟨i,hi,_⟩
    ·cases d with
     |zero=>cases hd
     |succ d=>
      simp only [GR,and_eq_true] at hd;rw [hcall g _ (fun v hv=>by
       simp only [mem_append] at hv;rcases hv with (hv|hv)|hv
       ·exact .inl ⟨d,all_eq_true.1 hd.1 v hv⟩
       ·exact hargs v hv
       ·exact .inl ⟨d,all_eq_true.1 hd.2 v hv⟩)]
    ·cases hi
   ·rw [hcall _ _ hargs]
   ·rfl
   ·rfl
  ·split
   ·rfl
   ·exact Lf hf' _
  ·split
   ·rfl
   ·exact Lf hf' _
  ·exact Lf hf' _
end Ab
namespace Ab
open Go
def Je (ops:Array Oper) (S:List Nat) (i:Nat):Prop:=∀o,ops[i]? = some o→∀e∈o.after.toList,Region.binds .any e=true→e.on∈S
def TQ (ops:Array Oper) (S:List Nat) (i:Nat):Prop:=i<ops.size∧i∉S∧Je ops S i
inductive Mu (ops:Array Oper):List Nat→List Nat→Prop
 |nil (S:List Nat):(∀i,¬TQ ops S i)→Mu ops S []
 |cons (S:List Nat) (i:Nat) (l:List Nat):TQ ops S i→Mu ops (i::S) l→Mu ops S (i::l)
def PC (ops:Array Oper) (listed:Array Bool) (S:List Nat):Prop:=listed.size=ops.size∧∀i,i<ops.size→(listed.getD i true=true↔i∈S)
theorem NN {ops:Array Oper} {listed:Array Bool} {S:List Nat} (hl:PC ops listed S) (hS:∀i∈S,i<ops.size) (i:Nat):i∈Region.ready .any ops listed↔TQ ops S i:=by
 unfold Region.ready TQ Je;simp only [mem_filter,mem_range,and_eq_true,not_eq_true'];constructor
 ·rintro ⟨hi,hn,he⟩
  refine ⟨hi,fun hm => ?_,fun o ho e hem hb => ?_⟩
  ·have:=(hl.2 i hi).2 hm;rw [this] at hn;cases hn
  ·rw [ho] at he;simp only [map_some,Option.getD_some] at he;have h1:=(Array.all_eq_true_iff_forall_mem.1 he) e (by simpa using hem);rw [hb] at h1;simp only [Bool.not_true,Bool.false_or] at h1;have hlt:e.on<ops.size:=by
    rcases lt_or_ge e.on ops.size with h|h
    ·exact h
    ·have:listed.getD e.on false=false:=by
      have h2:¬e.on<listed.size:=by rw [hl.1];omega
      simp only [Array.getD,h2,dif_neg,not_false_eq_true]
     rw [this] at h1;cases h1
   refine (hl.2 e.on hlt).1 ?_;have h2:e.on<listed.size:=by rw [hl.1];exact hlt
   simp only [Array.getD,h2,dif_pos] at h1 ⊢;exact h1
 ·rintro ⟨hi,hn,he⟩
  refine ⟨hi,?_,?_⟩
  ·cases hg:listed.getD i true with
   |false=>rfl
   |true=>exact (hn ((hl.2 i hi).1 hg)).elim
  ·have ho:ops[i]? = some ops[i]:=Array.getElem?_eq_getElem hi;rw [ho];simp only [map_some,Option.getD_some];refine Array.all_eq_true_iff_forall_mem.2 fun e hem => ?_;cases hb:Region.binds .any e with
   |false=>rfl
   |true=>
    have h1:=he _ ho e (by simpa using hem) hb;have hlt:=hS _ h1;have h2:=(hl.2 e.on hlt).2 h1;have h3:e.on<listed.size:=by rw [hl.1];exact hlt
    simp only [Array.getD,h3,dif_pos] at h2 ⊢;simpa using h2
theorem Rc {ops:Array Oper} {listed:Array Bool} {S:List Nat} (hl:PC ops listed S) {i:Nat} (hi:i<ops.size):PC ops (listed.setIfInBounds i true) (i::S):=by
 refine ⟨by simpa using hl.1,fun j hj => ?_⟩;have h1:j<listed.size:=by rw [hl.1];exact hj
 have:=hl.2 j hj;simp only [Array.getD,h1,dif_pos] at this;by_cases hij:j=i
 ·subst hij;simp [Array.getD,h1]
 ·simp only [Array.getD,Array.size_setIfInBounds,h1,dif_pos,mem_cons,hij,false_or];rw [← this];have e:(listed.setIfInBounds i true)[j]'(by simpa using h1)=listed[j]:=Array.getElem_setIfInBounds_ne (by simpa using h1) (Ne.symm hij);show (listed.setIfInBounds i true)[j]'(by simpa using h1)=true↔listed[j]=true;rw [e]
theorem Jq:∀(n:Nat) (l:List Nat),l.Nodup→(∀x∈l,x<n)→l.length≤n
 |0,l,hn,hl=>by
  cases l with
  |nil=>simp
  |cons x xs=>exact absurd (hl x (by simp)) (by omega)
 |n+1,l,hn,hl=>by
  by_cases hm:n∈l
  ·have h1:=Jq n (l.erase n) (hn.erase n) fun x hx=>by have h2:=(List.Nodup.mem_erase_iff hn).1 hx;have h3:=hl x h2.2;have h4:=h2.1;omega
   rw [List.length_erase_of_mem hm] at h1;omega
  ·have:=Jq n l hn fun x hx=>by have h3:=hl x hx;have h4:x≠n:=fun e=>hm (e ▸ hx);omega
   omega
theorem OB {n:Nat} {S:List Nat} (hn:S.Nodup) (hS:∀i∈S,i<n) {i:Nat} (hi:i<n) (hni:i∉S):S.length<n:=by
 have:=Jq n (i::S) (nodup_cons.2 ⟨hni,hn⟩) fun x hx=>by
  rcases mem_cons.1 hx with rfl|hx
  ·exact hi
  ·exact hS x hx
 simp only [length_cons] at this;omega
theorem QE (ops:Array Oper):∀(fuel t:Nat) (listed:Array Bool) (S:List Nat),PC ops listed S→S.Nodup→(∀i∈S,i<ops.size)→ops.size≤fuel+S.length→Mu ops S (Region.linearise.go .any ops fuel t listed [])
 |0,t,listed,S,hl,hn,hS,hf=>by refine .nil S fun i hr => ?_;have:=OB hn hS hr.1 hr.2.1;omega
 |fuel+1,t,listed,S,hl,hn,hS,hf=>by
  simp only [Region.linearise.go];change Mu ops S (match (Region.ready .any ops listed)[t % (Region.ready .any ops listed).length]? with
   |some i=>Region.linearise.go .any ops fuel (t / (Region.ready .any ops listed).length) (listed.setIfInBounds i true) [i]
   |none=>[].reverse)
  cases hi:(Region.ready .any ops listed)[t % (Region.ready .any ops listed).length]? with
  |none=>
   have hnil:Region.ready .any ops listed=[]:=by
    cases hr:Region.ready .any ops listed with
    |nil=>rfl
    |cons x xs=>
     rw [hr] at hi;have hlt:t % (x::xs).length<(x::xs).length:=mod_lt _ (by simp);rw [getElem?_eq_getElem hlt] at hi;cases hi
   refine .nil S fun i hr => ?_;have:=(NN hl hS i).2 hr;rw [hnil] at this;cases this
  |some i=>
   simp only [];rw [linearise_go_acc,List.reverse_singleton,singleton_append];have hr:=(NN hl hS i).1 (mem_of_getElem? hi);refine .cons S i _ hr (QE ops fuel _ _ (i::S) (Rc hl hr.1) (nodup_cons.2 ⟨hr.2.1,hn⟩) (fun j hj => ?_) (by simp;omega));rcases mem_cons.1 hj with rfl|hj
   ·exact hr.1
   ·exact hS j hj
theorem EW (ops:Array Oper) (t:Nat):Mu ops [] (Region.linearise .any ops t):=by refine QE ops ops.size t _ [] ⟨by simp,fun i hi => ?_⟩ nodup_nil (fun i hi=>by cases hi) (by simp);simp [Array.getD,hi]
def SO (ops:Array Oper) (S:List Nat):Prop:=∀i∈S,Je ops S i
theorem NT {acc:List Nat} {i:Nat}:∀(es:List Edge) (s:Nat),(es.foldl (fun s e=>if Region.binds .any e then s ||| (2 ^ e.on ||| acc.getD e.on 0) else s) s).testBit i=true→
  s.testBit i=true∨∃e∈es,Region.binds .any e=true∧(e.on=i∨(acc.getD e.on 0).testBit i=true)
 |[],s,h =>.inl h
 |e::es,s,h=>by
  simp only [foldl_cons] at h;rcases NT es _ h with h1|⟨e',h1,h2⟩
  ·by_cases hb:Region.binds .any e=true
   ·rw [if_pos hb] at h1;simp only [Nat.testBit_or,or_eq_true] at h1;rcases h1 with h1|h1|h1
    ·exact .inl h1
    ·refine .inr ⟨e,by simp,hb,.inl ?_⟩;rw [Nat.testBit_two_pow] at h1;simpa using h1
    ·exact .inr ⟨e,by simp,hb,.inr h1⟩
   ·rw [if_neg hb] at h1;exact .inl h1
  ·exact .inr ⟨e',by simp [h1],h2⟩
theorem DL:∀(os:List Oper) (acc:List Nat) (j:Nat),(j<acc.length→(D3 os acc)[j]? = acc[j]?)∧∀o,os[j]? = some o→(D3 os acc)[acc.length+j]? = some (F2 ((D3 os acc).take (acc.length+j)) o)
 |[],acc,j=>⟨fun _=>rfl,fun o ho=>by simp at ho⟩
 |o'::os,acc,j=>by
  simp only [D3];obtain ⟨h1,_⟩:=DL os (acc++[F2 acc o']) j;refine ⟨fun hj => ?_,fun o ho => ?_⟩
  ·rw [h1 (by simp;omega),getElem?_append_left hj]
  ·cases j with
   |zero=>
    simp only [List.getElem?_cons_zero,Option.some.injEq] at ho;subst ho;have h0:=(DL os (acc++[F2 acc o']) acc.length).1 (by simp);have ht:(D3 os (acc++[F2 acc o'])).take acc.length=acc:=by
     apply ext_getElem?;intro i;rcases lt_or_ge i acc.length with hi|hi
     ·rw [getElem?_take_of_lt hi,(DL os (acc++[F2 acc o']) i).1 (by simp;omega),getElem?_append_left hi]
     ·rw [getElem?_eq_none (by simp;omega),getElem?_eq_none hi]
    rw [add_zero,ht,h0];simp
   |succ j=>
    have h2:=(DL os (acc++[F2 acc o']) j).2 o (by simpa using ho);have e:(acc++[F2 acc o']).length+j=acc.length+(j+1):=by simp;omega
    rw [e] at h2;exact h2
theorem T0 (ops:Array Oper) {j:Nat} {o:Oper} (ho:ops[j]? = some o):(AS ops)[j]? = some (F2 ((AS ops).take j) o):=by have:=(DL ops.toList [] j).2 o (by simpa using ho);simpa [AS] using this
theorem QX {ops:Array Oper} {S:List Nat} (hc:SO ops S):∀(k:Nat) (j:Nat),j≤k→(j∈S∨Je ops S j)→j<ops.size→∀i,((AS ops).getD j 0).testBit i=true→i∈S:=by
 intro k
 induction k using Nat.strongRecOn with
 |_ k ih=>
  intro j hjk hj hjs i hi;have ho:ops[j]? = some ops[j]:=Array.getElem?_eq_getElem hjs;have he:Je ops S j:=hj.elim (hc j) id;have hm:=T0 ops ho;simp only [List.getD,hm,Option.getD_some] at hi;rcases NT _ _ hi with h0|⟨e,hem,hb,h1⟩
  ·simp at h0
  ·have hin:=he _ ho e hem hb;rcases h1 with rfl|h1
   ·exact hin
   ·have hlt:e.on<j:=by
     rcases lt_or_ge e.on j with h|h
     ·exact h
     ·simp [List.getD,getElem?_take,not_lt.2 h] at h1
    have h2:((AS ops).getD e.on 0).testBit i=true:=by simp only [List.getD] at h1 ⊢;rw [getElem?_take_of_lt hlt] at h1;exact h1
    exact ih e.on (by omega) e.on (le_refl _) (.inl hin) (by omega) i h2
theorem Gb {ops:Array Oper} (hed:F8 ops=true):∀{S l:List Nat},Mu ops S l→SO ops S→
  l.Nodup∧(∀x∈l,x∉S∧x<ops.size)∧(∀i,i<ops.size→i∈S∨i∈l)∧∀l1 x l2,l=l1++x::l2→∀y,((AS ops).getD x 0).testBit y=true→y∈S∨y∈l1:=by
 intro S l hs
 induction hs with
 |nil S hno=>
  intro hc;refine ⟨nodup_nil,(fun x hx=>by cases hx),fun i hi => ?_,(fun l1 x l2 e=>by simp at e)⟩;have key:∀k i,i≤k→i<ops.size→i∈S:=by
   intro k
   induction k using Nat.strongRecOn with
   |_ k ih=>
    intro i hik his;by_cases hm:i∈S
    ·exact hm
    ·refine (hno i ⟨his,hm,fun o ho e hem hb => ?_⟩).elim;unfold F8 at hed;have h1:=(all_eq_true.1 hed) i (mem_range.2 his);rw [ho] at h1;have h2:=(all_eq_true.1 h1) e hem;rw [hb] at h2;have h3:e.on<i:=by simpa using h2
     exact ih e.on (by omega) e.on (le_refl _) (by omega)
  exact .inl (key i i (le_refl _) hi)
 |cons S i l hr hs ih=>
  intro hc;have hc':SO ops (i::S):=fun j hj o ho e hem hb=>by
   rcases mem_cons.1 hj with rfl|hj
   ·exact mem_cons_of_mem _ (hr.2.2 o ho e hem hb)
   ·exact mem_cons_of_mem _ (hc j hj o ho e hem hb)
  obtain ⟨h1,h2,h3,h4⟩:=ih hc';refine ⟨nodup_cons.2 ⟨fun hm=>(h2 i hm).1 (by simp),h1⟩,fun x hx => ?_,fun j hj => ?_,fun l1 x l2 e y hy => ?_⟩
  ·rcases mem_cons.1 hx with rfl|hx
   ·exact ⟨hr.2.1,hr.1⟩
   ·exact ⟨fun hm=>(h2 x hx).1 (mem_cons_of_mem _ hm),(h2 x hx).2⟩
  ·rcases h3 j hj with h|h
   ·rcases mem_cons.1 h with rfl|h
    ·exact .inr (by simp)
    ·exact .inl h
   ·exact .inr (mem_cons_of_mem _ h)
  ·cases l1 with
   |nil=>
    simp only [nil_append,List.cons.injEq] at e;obtain ⟨rfl,rfl⟩:=e;exact .inl (QX hc i i (le_refl _) (.inr hr.2.2) hr.1 y hy)
   |cons z l1=>
    simp only [cons_append,List.cons.injEq] at e;obtain ⟨rfl,rfl⟩:=e;rcases h4 l1 x l2 rfl y hy with h|h
    ·rcases mem_cons.1 h with rfl|h
     ·exact .inr (by simp)
     ·exact .inl h
    ·exact .inr (mem_cons_of_mem _ h)
theorem FK {n:Nat}:∀(k:Nat) (l:List Nat),l.Nodup→(∀i,i∈l↔i<n+k)→(∀l1 x l2,l=l1++x::l2→n≤x→∀y,y<x→y∈l1)→∃lp,l=lp++List.range' n k∧lp.Nodup∧∀i,i∈lp↔i<n
 |0,l,hn,hm,hf=>⟨l,by simp,hn,by simpa using hm⟩
 |k+1,l,hn,hm,hf=>by
  have hlast:n+k∈l:=(hm _).2 (by omega);obtain ⟨l1,l2,e⟩:=append_of_mem hlast;have hall:=hf l1 (n+k) l2 e (by omega);have hnil:l2=[]:=by
   cases l2 with
   |nil=>rfl
   |cons z l2=>
    have hz:z∈l:=by rw [e];simp
    have hzl:=(hm z).1 hz;rw [e] at hn;rw [nodup_append] at hn;obtain ⟨_,hn2,hn3⟩:=hn;by_cases hzk:z=n+k
    ·subst hzk;simp at hn2
    ·exact (hn3 z (hall z (by omega)) z (by simp) rfl).elim
  subst hnil;have hn':=hn;rw [e,nodup_append] at hn';obtain ⟨lp,h1,h2,h3⟩:=FK (n:=n) k l1 hn'.1 (fun i=>by
   constructor
   ·intro hi;have h4:=(hm i).1 (by rw [e];simp [hi]);have h5:i≠n+k:=fun h=>hn'.2.2 i hi (n+k) (by simp) h;omega
   ·intro hi;exact hall i (by omega)) (fun a x b e2 hx y hy=>by exact hf a x (b++[n+k]) (by rw [e,e2];simp) hx y hy)
  refine ⟨lp,?_,h2,h3⟩;rw [e,h1,List.range'_concat,append_assoc];simp
theorem NS {σ:Type} (f:Nat→σ→Option σ) (x:Nat):∀(l:List Nat),(∀y∈l,∀s,(f x s).bind (f y)=(f y s).bind (f x))→∀s,(f x s).bind (fun s'=>l.foldlM (fun s i=>f i s) s')=(l.foldlM (fun s i=>f i s) s).bind (f x)
 |[],_,s=>by simp
 |y::l,hc,s=>by
  have ih:=NS f x l fun z hz=>hc z (by simp [hz]);simp only [foldlM_cons];have h1:=hc y (by simp) s;cases hy:f y s with
  |none=>
   rw [hy] at h1;cases hx:f x s with
   |none=>rfl
   |some s1=>rw [hx] at h1;simp only [Option.bind_some,Option.bind_none] at h1;simp [h1]
  |some s2=>
   rw [hy] at h1;simp only [Option.bind_some] at h1;have h2:=ih s2;rw [← h1] at h2;show (f x s).bind (fun s'=>(f y s').bind fun s''=>l.foldlM (fun s i=>f i s) s'')=((some s2).bind fun s''=>l.foldlM (fun s i=>f i s) s'').bind (f x);rw [← bind_assoc,h2];rfl
theorem FY {σ:Type} (f:Nat→σ→Option σ):∀(n:Nat) (l:List Nat),l.Nodup→(∀i,i∈l↔i<n)→(∀l1 x l2 y,l=l1++x::l2→y∈l2→y<x→∀s,(f x s).bind (f y)=(f y s).bind (f x))→
  ∀s,l.foldlM (fun s i=>f i s) s=(List.range n).foldlM (fun s i=>f i s) s
 |0,l,hn,hm,hc,s=>by
  cases l with
  |nil=>rfl
  |cons x xs=>exact absurd ((hm x).1 (by simp)) (by omega)
 |n+1,l,hn,hm,hc,s=>by
  have hlast:n∈l:=(hm _).2 (by omega);obtain ⟨l1,l2,e⟩:=append_of_mem hlast;have hn':=hn;rw [e,nodup_append,nodup_cons] at hn';obtain ⟨n1,⟨n2,n3⟩,n4⟩:=hn';have hm2:∀i,i∈l1++l2↔i<n:=fun i=>by
   constructor
   ·intro hi;have h5:=(hm i).1 (by rw [e];simp only [mem_append,mem_cons];rcases mem_append.1 hi with h|h;exact .inl h;exact .inr (.inr h));have h6:i≠n:=fun h=>by
     subst h;rcases mem_append.1 hi with h|h
     ·exact n4 i h i (by simp) rfl
     ·exact n2 h
    omega
   ·intro hi;have h5:=(hm i).2 (by omega);rw [e] at h5;simp only [mem_append,mem_cons] at h5 ⊢;rcases h5 with h5|h5|h5
    ·exact .inl h5
    ·omega
    ·exact .inr h5
  have ih:=FY f n (l1++l2) (nodup_append.2 ⟨n1,n3,fun a ha b hb=>n4 a ha b (by simp [hb])⟩) hm2 (fun a x b y e2 hy hlt=>by
   rcases List.append_eq_append_iff.1 e2 with ⟨a',h1,h2⟩|⟨c',h1,h2⟩
   ·
    exact hc (l1++n::a') x b y (by rw [e,h2];simp) hy hlt
   ·cases c' with
    |nil=>
     simp only [append_nil] at h1;simp only [nil_append] at h2;exact hc (l1++[n]) x b y (by rw [e,← h2];simp) hy hlt
    |cons z c'=>
     simp only [cons_append,List.cons.injEq] at h2;obtain ⟨rfl,h2⟩:=h2;exact hc a x (c'++n::l2) y (by rw [e,h1];simp) (by rw [h2] at hy;simp only [mem_append,mem_cons] at hy ⊢;rcases hy with h|h;exact .inl h;exact .inr (.inr h)) hlt) s
  have hmv:=fun s=>NS f n l2 (fun y hy s=>hc l1 n l2 y e hy (by have h5:=(hm y).1 (by rw [e];simp [hy]);have h6:y≠n:=fun h=>n2 (h ▸ hy);omega) s) s
  rw [e,List.range_succ,foldlM_append,foldlM_append,← ih,foldlM_append];show (l1.foldlM (fun s i=>f i s) s).bind _=((l1.foldlM (fun s i=>f i s) s).bind _).bind _;cases l1.foldlM (fun s i=>f i s) s with
  |none=>rfl
  |some s1=>
   simp only [Option.bind_some,foldlM_cons];have:=hmv s1;show (f n s1).bind (fun s'=>l2.foldlM (fun s i=>f i s) s')=(l2.foldlM (fun s i=>f i s) s1).bind (fun s'=>(f n s').bind fun s''=>List.foldlM (fun s i=>f i s) s'' []);rw [this];congr 1;funext s';cases f n s'<;>rfl
end Ab
namespace Ab
open Go
variable {R:Type} {P:Program} {h:Heap}
def B9 (T:List Nat) (h h':Heap):Prop:=h.length≤h'.length∧∀i,i<h.length→i∉T→h'[i]? = h[i]?
theorem B9.refl (T:List Nat) (h:Heap):B9 T h h:=⟨le_refl _,fun _ _ _=>rfl⟩
theorem B9.trans {T:List Nat} {a b c:Heap} (x:B9 T a b) (y:B9 T b c):B9 T a c:=
 ⟨le_trans x.1 y.1,fun i hi hn=>(y.2 i (lt_of_lt_of_le hi x.1) hn).trans (x.2 i hi hn)⟩
theorem B9.push (T:List Nat) (h:Heap) (o:AE):B9 T h (h++[o]):=
 ⟨by simp,fun i hi _=>getElem?_append_left hi⟩
theorem B9.set {T:List Nat} (h:Heap) {i:Nat} (hi:i∈T) (o:AE):B9 T h (h.set i o):=
 ⟨by simp,fun j _ hn=>by rw [getElem?_set_ne];intro e;exact hn (e ▸ hi)⟩
theorem B9.mono {T T':List Nat} (hT:∀i∈T,i∈T') {a b:Heap} (x:B9 T a b):B9 T' a b:=
 ⟨x.1,fun i hi hn=>x.2 i hi fun hm=>hn (hT i hm)⟩
theorem Ec (T:List Nat):∀(vs:List AV) (ts:List TypeId) (h:Heap) {K:List AV→Heap→Option R} {r:R},C1 P ts vs h K=some r→∃vs' h',K vs' h'=some r∧B9 T h h'
 |[],ts,h,K,r,hr=>⟨[],h,by simpa [C1] using hr,.refl _ _⟩
 |v::vs,ts,h,K,r,hr=>by
  cases v with
  |nilsl=>
   simp only [C1] at hr;obtain ⟨vs',h',h1,h2⟩:=Ec T vs _ _ hr;exact ⟨_,h',h1,(B9.push T h _).trans h2⟩
  |_=>
   simp only [C1] at hr;obtain ⟨vs',h',h1,h2⟩:=Ec T vs _ _ hr;exact ⟨_,h',h1,h2⟩
theorem G9 (T:List Nat) {t:TypeId} {cs:List AV} {K:AV→Heap→Option R} {r:R} (hr:Ds P t cs h K=some r):∃v h',K v h'=some r∧B9 T h h':=by unfold Ds at hr;obtain ⟨vs',h',h1,h2⟩:=Ec T _ _ _ hr;exact ⟨_,_,h1,h2.trans (.push T _ _)⟩
theorem DO {α:Type} {f:∀R:Type,(α→Option R)→Option R} (hd:Det f) {R:Type} {K:α→Option R} {r:R} (hr:f R K=some r):∃v,K v=some r:=by
 rcases hd with ⟨v,hv⟩|hn
 ·exact ⟨v,(hv R K).symm.trans hr⟩
 ·rw [hn] at hr;cases hr
theorem JN {t:TypeId} {a v:AV} {K:Heap→Option R} {r:R} (hr:E5 P t h a v K=some r):∃h',K h'=some r∧B9 (BR a).toList h h':=by
 unfold E5 at hr
 try simp only [AF] at hr
 split at hr
 ·obtain ⟨_,hr⟩:=AH hr;split at hr
  ·split at hr
   ·obtain ⟨_,hr⟩:=AH hr;obtain ⟨vs1,hr⟩:=DO (IM (h:=h) _ _) hr;obtain ⟨vs',h',h1,h2⟩:=Ec _ _ _ _ hr;exact ⟨_,h1,h2.trans (.set _ (by simp [BR]) _)⟩
   ·cases hr
  ·split at hr
   ·obtain ⟨_,hr⟩:=AH hr;obtain ⟨e,_,hr⟩:=bind_some hr;obtain ⟨xs,hK⟩:=DO (CF (P:=P) (h:=h) _ _ _) hr;exact ⟨_,hK,.set _ (by simp [BR]) _⟩
   ·cases hr
  ·cases hr
 ·cases hr
theorem NB {t:TypeId} {s x:AV} {K:AV→Heap→Option R} {r:R} (hr:Du P t h s x K=some r):∃v h',K v h'=some r∧B9 (BR s).toList h h':=by
 unfold Du at hr
 try simp only [AF] at hr
 obtain ⟨z,_,hr⟩:=bind_some hr;obtain ⟨new,hr⟩:=DO (HX h z x) hr;split at hr
 ·obtain ⟨_,hr⟩:=AH hr;exact ⟨_,_,hr,.push _ _ _⟩
 ·split at hr
  ·split at hr
   ·obtain ⟨_,hr⟩:=AH hr;exact ⟨_,_,hr,.refl _ _⟩
   ·obtain ⟨_,hr⟩:=AH hr;exact ⟨_,_,hr,.set _ (by simp [BR]) _⟩
  ·cases hr
 ·cases hr
theorem Ki {t:TypeId} {s x:AV} {K:AV→Heap→Option R} {r:R} (hr:ED P t h s x K=some r):∃v h',K v h'=some r∧B9 (BR s).toList h h':=by
 unfold ED at hr
 try simp only [AF] at hr
 obtain ⟨z,_,hr⟩:=bind_some hr;obtain ⟨new,hr⟩:=DO (Ha h z x) hr;split at hr
 ·split at hr
  ·obtain ⟨_,hr⟩:=AH hr;exact ⟨_,_,hr,.set _ (by simp [BR]) _⟩
  ·cases hr
 ·cases hr
theorem Qv {t:TypeId} {d x:AV} {K:AV→Heap→Option R} {r:R} (hr:Mo P t h d x K=some r):∃v h',K v h'=some r∧B9 (BR d).toList h h':=by
 unfold Mo at hr
 try simp only [AF] at hr
 obtain ⟨z,_,hr⟩:=bind_some hr;obtain ⟨new,hr⟩:=DO (HX h z x) hr;split at hr
 ·split at hr
  ·obtain ⟨_,hr⟩:=AH hr;exact ⟨_,_,hr,.set _ (by simp [BR]) _⟩
  ·cases hr
 ·cases hr
theorem O9 {t:TypeId} {x:AV} {K:Heap→Option R} {r:R} (hr:IV P t h x K=some r):∃h',K h'=some r∧B9 (BR x).toList h h':=by
 unfold IV at hr
 try simp only [AF] at hr
 split at hr
 ·split at hr
  ·obtain ⟨_,hr⟩:=AH hr;exact ⟨_,hr,.refl _ _⟩
  ·exact ⟨_,hr,.refl _ _⟩
  ·obtain ⟨zs,hr⟩:=DO (HW (P:=P) h _) hr;split at hr
   ·obtain ⟨_,hr⟩:=AH hr;exact ⟨_,hr,.set _ (by simp [BR]) _⟩
   ·cases hr
  ·cases hr
 ·cases hr
theorem Qo (T:List Nat) {t:TypeId} {n c:AV} {K:AV→Heap→Option R} {r:R} (hr:Mi P t h n c K=some r):∃v h',K v h'=some r∧B9 T h h':=by
 unfold Mi at hr
 try simp only [AF] at hr
 obtain ⟨z,_,hr⟩:=bind_some hr;split at hr
 ·obtain ⟨a,_,hr⟩:=bind_some hr;obtain ⟨b,_,hr⟩:=bind_some hr;obtain ⟨zs,hr⟩:=DO (HW (P:=P) h _) hr;obtain ⟨_,hr⟩:=AH hr;exact ⟨_,_,hr,.push _ _ _⟩
 ·cases hr
theorem H3 (h:Heap) (v:AV):B9 (BR v).toList h (Dl h v):=by
 unfold Dl;split
 ·split
  ·exact .set _ (by simp [BR]) _
  ·exact .refl _ _
 ·exact .refl _ _
theorem EX:∀(vs:List AV) (h:Heap),B9 (vs.filterMap BR) h (AZ h vs)
 |[],h =>.refl _ _
 |v::vs,h=>by
  have h1:=EX vs (Dl h v);have h2:=H3 h v;refine (h2.mono fun i hi => ?_).trans (h1.mono fun i hi => ?_)
  ·rw [filterMap_cons];cases ho:BR v with
   |none=>rw [ho] at hi;simp at hi
   |some j=>rw [ho] at hi;simp at hi;simp [hi]
  ·rw [filterMap_cons];split
   ·exact hi
   ·exact mem_cons_of_mem _ hi
theorem IE {h:Heap}:∀{ls:List AV} {i v:Nat},FR h ls=some (i,v)→i∈ls.filterMap BR
 |[],i,v,hr=>by simp [FR] at hr
 |x::ls,i,v,hr=>by
  cases x with
  |sref j a b c=>
   simp only [FR] at hr;split at hr
   ·cases hr;simp [BR]
   ·cases hr
  |_=>first
   |(have:=IE (ls:=ls) hr;simp only [filterMap_cons,BR];exact this)
   |(have:=IE (ls:=ls) hr;simp only [filterMap_cons,BR,mem_cons];exact .inr this)
theorem Jw:∀(ts:List TypeId) (avs:List AV) {K:List AV→Option R} {r:R},flatK P ts avs K=some r→∃ls,K ls=some r∧∀i∈ls.filterMap BR,i∈(avs.map fun v=>match v.cells with|some cs=>cs.filterMap BR|none=>[]).flatten
 |[],[],K,r,hr=>⟨[],by simpa [flatK] using hr,fun i hi=>by simp at hi⟩
 |t::ts,v::vs,K,r,hr=>by
  unfold flatK at hr
  try simp only [AF] at hr
  split at hr
  ·split at hr
   ·rename_i cs;obtain ⟨_,hr⟩:=AH hr;obtain ⟨ls,h1,h2⟩:=Jw ts vs hr;refine ⟨_,h1,fun i hi => ?_⟩;rw [List.filterMap_append,mem_append] at hi;rw [map_cons,flatten_cons,mem_append];rcases hi with hi|hi
    ·exact .inl (by simpa [AV.cells] using hi)
    ·exact .inr (h2 i hi)
   ·cases hr
  ·obtain ⟨hlf,hr⟩:=AH hr;obtain ⟨ls,h1,h2⟩:=Jw ts vs hr;refine ⟨_,h1,fun i hi => ?_⟩;rw [filterMap_cons] at hi;rw [map_cons,flatten_cons,mem_append];cases ho:BR v with
   |none=>rw [ho] at hi;exact .inr (h2 i hi)
   |some j=>
    rw [ho] at hi;simp only [mem_cons] at hi;rcases hi with hi|hi
    ·refine .inl ?_;cases v<;>simp [BR] at ho<;>simp [AV.cells,BR,hi,ho]
    ·exact .inr (h2 i hi)
  ·cases hr
 |[],v::vs,K,r,hr=>by simp [flatK] at hr
 |t::ts,[],K,r,hr=>by simp [flatK] at hr
theorem Lr {C:Cfg} {rec:Rec} {pc:BF} {env:Env} {op:Op} {K:AV→Heap→Option R} {r:R} (hl:Ag C op=true) (hr:Af C rec pc false env h op K=some r):∃v h',K v h'=some r∧B9 (Ea env op) h h':=by
 by_cases hh:Au op=true
 case neg=>
  have hw:(∃g args argTypes,op = .call {callee :=.value (.func g),args,argTypes})∨(∃t len parts,op = .buildSlice t len parts)∨∃src dst x,op = .convert src dst x:=by unfold Ag at hl;split at hl<;>first|(exact absurd rfl hh)|(exact .inl ⟨_,_,_,rfl⟩)|(exact .inr (.inl ⟨_,_,_,rfl⟩))|(exact .inr (.inr ⟨_,_,_,rfl⟩))|cases hl
  rcases hw with ⟨g,args,argTypes,rfl⟩|⟨t,len,parts,rfl⟩|⟨src,dst,x,rfl⟩
  case inr.inr=>
   have hf:Mz C.P src dst=true:=hl;simp only [Af,Au,false_eq_true,if_false,hf,if_true,J9] at hr;obtain ⟨s,_,hr⟩:=bind_some hr;exact ⟨_,_,hr,.push _ _ _⟩
  case inr.inl=>
   have hf:C.fnTy t=true:=hl;simp only [Af,Au,false_eq_true,if_false,hf,if_true] at hr;unfold EC at hr
   try simp only [AF] at hr
   split at hr
   ·obtain ⟨s,_,hr⟩:=bind_some hr;obtain ⟨z,_,hr⟩:=bind_some hr;obtain ⟨_,hr⟩:=AH hr;obtain ⟨cs,_,hr⟩:=bind_some hr;exact ⟨_,_,hr,.push _ _ _⟩
   ·cases hr
  have hown:C.own g=true:=hl;have hh':Au (.call {callee :=.value (.func g),args,argTypes})=false:=by simpa using hh
  unfold Af at hr;simp only [hh',false_eq_true,if_false,ev,MU,AF] at hr;obtain ⟨_,hr⟩:=AH hr;unfold FM at hr;simp only [hown,if_true,false_eq_true,if_false,AF] at hr;obtain ⟨ls,hr,hls⟩:=Jw _ _ hr;obtain ⟨xs,hr⟩:=DO (CF (P:=C.P) (h:=AZ h ls) _ _ _) hr;have hsub0:∀i∈ls.filterMap BR,i∈Ea env (.call {callee :=.value (.func g),args,argTypes}):=fun i hi=>by have:=hls i hi;rw [nil_append,append_nil,map_map] at this;exact this
  split at hr
  ·obtain ⟨_,hr⟩:=AH hr;obtain ⟨ys,_,hr⟩:=bind_some hr;have hr:=Ip hr;split at hr
   ·split at hr
    ·exact ⟨_,_,hr,((EX ls h).mono hsub0).trans (.push _ _ _)⟩
    ·cases hr
   ·cases hr
  obtain ⟨ys,_,hr⟩:=bind_some hr;split at hr
  ·obtain ⟨z,_,hr⟩:=bind_some hr;obtain ⟨_,hr⟩:=AH hr;obtain ⟨_,hr⟩:=AH hr;have hsub:∀i∈ls.filterMap BR,i∈Ea env (.call {callee :=.value (.func g),args,argTypes}):=fun i hi=>by have:=hls i hi;rw [nil_append,append_nil,map_map] at this;exact this
   unfold OO at hr;split at hr
   ·rename_i i0 v0 hre;split at hr
    ·refine ⟨_,_,hr,.set _ (hsub i0 ?_) _⟩;have hre:FR h ls=some (i0,v0):=by
      split at hre
      ·exact hre
      ·cases hre
     exact IE hre
    ·cases hr
   ·exact ⟨_,_,hr,((EX ls h).mono hsub).trans (.push _ _ _)⟩
  ·cases hr
 unfold Af at hr;simp only [hh,if_true,false_eq_true,if_false] at hr;cases op with
 |alloc t=>
  have hrn:C.ren t=none:=by simpa [Ag] using hl
  simp only [Bq,hrn] at hr;by_cases hc:C.curT t=true
  ·simp only [hc,if_true] at hr;unfold Fs at hr
   try simp only [AF] at hr
   split at hr
   ·obtain ⟨_,hr⟩:=AH hr;obtain ⟨xs,hr⟩:=DO (CF (P:=C.P) (h:=h) _ _ _) hr;exact ⟨_,_,hr,.push _ _ _⟩
   ·cases hr
  ·simp only [hc,false_eq_true,if_false,hop] at hr;split at hr
   ·exact G9 _ hr
   ·cases hr
 |box t x=>
  simp only [Bq] at hr;by_cases hc:C.cur (DS x)=true
  ·simp only [hc,if_true] at hr;unfold J5 at hr
   try simp only [AF] at hr
   split at hr
   ·obtain ⟨_,hr⟩:=AH hr;obtain ⟨xs,hr⟩:=DO (CF (P:=C.P) (h:=h) _ _ _) hr;exact ⟨_,_,hr,.refl _ _⟩
   ·cases hr
  ·simp only [hc,false_eq_true,if_false,hop] at hr;split at hr
   ·exact G9 _ hr
   ·cases hr
 |store t a x=>
  simp only [Bq] at hr;by_cases hc:C.curT t=true
  ·simp only [hc,if_true] at hr;obtain ⟨h',hr,hk⟩:=JN hr;refine ⟨_,_,hr,?_⟩;refine hk.trans ?_;cases hv:ev env a<;>first|(simp only [Kj];exact .refl _ _)|skip
   ·simp only [Kj,Ea,hv];exact (H3 h' _).mono fun i hi=>by simpa [BR] using hi
  ·simp only [hc,false_eq_true,if_false,hop] at hr;obtain ⟨h',hr,hk⟩:=JN hr;exact ⟨_,_,hr,hk⟩
 |call c=>
  obtain ⟨callee,args,argTypes⟩:=c;cases callee with
  |builtin b=>
   cases b<;>first|(simp [Ag] at hl;done)|skip
   ·simp only [Bq,hop,AF] at hr;split at hr
    ·rename_i s x t t' hx _;obtain ⟨_,hr⟩:=AH hr;by_cases hsr:OJ (ev env s) (ev env x)=true
     ·simp only [hsr,if_true] at hr;obtain ⟨v,h',hr,hk⟩:=Ki hr;exact ⟨v,h',hr,hk.mono fun i hi=>by simp only [Ea,hx];exact hi⟩
     ·simp only [hsr,false_eq_true,if_false] at hr;obtain ⟨v,h',hr,hk⟩:=NB hr;exact ⟨v,h',hr,hk.mono fun i hi=>by simp only [Ea,hx];exact hi⟩
    ·cases hr
   ·simp only [Bq,hop,AF] at hr;split at hr
    ·rename_i x t hx _;obtain ⟨h',hr,hk⟩:=O9 hr;exact ⟨_,h',hr,hk.mono fun i hi=>by simp only [Ea,hx];exact hi⟩
    ·cases hr
   ·simp only [Bq,hop,AF] at hr;split at hr
    ·rename_i d x t _ hx _;obtain ⟨v,h',hr,hk⟩:=Qv hr;exact ⟨v,h',hr,hk.mono fun i hi=>by simp only [Ea,hx];exact hi⟩
    ·cases hr
  |_=>simp [Au] at hh
 |makeSlice t n c=>simp only [Bq,hop] at hr;exact Qo _ hr
 |makeMap t r=>
  cases r with
  |none=>
   simp only [Bq,hop] at hr;unfold Fq at hr;split at hr
   ·exact ⟨_,_,hr,.push _ _ _⟩
   ·cases hr
  |some r=>simp [Ag] at hl
 |mapUpdate t m x v=>
  simp only [Bq,hop] at hr;unfold Hf at hr;simp only [AF] at hr;split at hr
  ·rename_i hm _ _;split at hr
   ·obtain ⟨_,hr⟩:=AH hr;exact ⟨_,_,hr,.set _ (by simp only [Ea,hm];simp [BR]) _⟩
   ·cases hr
  ·cases hr
 |_=>first|(simp [Ag] at hl;done)|(simp [Au] at hh;done)
end Ab
