/- A part of the proof: see the last text. -/
import Derived.Test.YtehmfejagbcnbaaGreatDoorM1
import Derived.WideMake
import Derived.RangeFuncRecord
import Derived.RangeFuncLeaves
import Derived.Shelf.Spec.SlicesInsert
import Derived.Shelf.Spec.SlicesInsertGrow
set_option linter.unusedVariables false
set_option linter.unusedSimpArgs false
open Array (eq_empty_of_size_eq_zero getElem?_modify getElem?_toList size_append toArray_toList)
open Bool (and_eq_true false_eq_true not_eq_true' or_eq_true)
open Int (toNat toNat_natCast)
open List (all_cons all_eq_true append_assoc append_nil append_of_mem cons_append drop eq_nil_of_length_eq_zero ext_getElem? filterMap_cons flatten_cons foldlM_append foldlM_cons foldl_cons getD_eq_getElem?_getD getElem?_append_left getElem?_append_right getElem?_cons_succ getElem?_drop getElem?_eq_getElem getElem?_eq_none getElem?_map getElem?_range getElem?_set_ne getElem?_set_self getElem?_take getElem?_take_of_lt length length_append length_cons length_drop length_map length_nil length_pos_iff length_take map_congr_left map_cons map_map mem_append mem_cons mem_cons_of_mem mem_filter mem_filterMap mem_flatten mem_map mem_of_getElem? mem_of_mem_drop mem_range mem_singleton nil_append nodup_append nodup_cons nodup_nil replicate singleton_append size_toArray take take_of_length_le)
open Nat (add_assoc add_le_add_left add_mul add_zero le_refl le_succ le_trans lt_of_lt_of_le lt_or_ge min_def mod_lt mul_comm mul_le_mul mul_le_mul_right not_lt pos_of_ne_zero succ_mul zero_add zero_le)
open Option (bind_assoc map_some)
namespace Ab
open Go
variable {R:Type} {P:Program} {B:Nat→Prop} {κ:A0} {h:Heap} {w:World} {N:Nat} {env:Env} {a:Act}
theorem Nz (hr:Rel B N κ env h a w) (x:Option Operand):WA B κ h w (Iw env x) (x.map a.eval):=by
 cases x with
 |none=>exact trivial
 |some x=>exact BA hr x
theorem Fb (hr:Rel B N κ env h a w) (parts:Array (Nat×Operand)):(parts.map fun (i,x)=>(i,a.eval x)).size=(parts.toList.map fun p=>(p.1,ev env p.2)).length∧
  ∀(j i:Nat) (x:AV),(parts.toList.map fun p=>(p.1,ev env p.2))[j]? = some (i,x)→∃v,(parts.map fun (i,x)=>(i,a.eval x)).toList[j]? = some (i,v)∧AP B κ h w x v:=by
 refine ⟨by simp,fun j i x hx => ?_⟩;rw [getElem?_map] at hx;cases hp:parts.toList[j]? with
 |none=>rw [hp] at hx;cases hx
 |some p=>
  rw [hp] at hx;simp only [map_some,Option.some.injEq,Prod.mk.injEq] at hx;obtain ⟨rfl,rfl⟩:=hx;refine ⟨a.eval p.2,?_,BA hr p.2⟩;rw [Array.toList_map,getElem?_map,hp];rfl
theorem II (hr:Rel B N κ env h a w) (xs:Array Operand):(xs.map a.eval).size=(xs.toList.map (ev env)).length∧∀(j:Nat) (x:AV),(xs.toList.map (ev env))[j]? = some x→AP B κ h w x ((xs.map a.eval).getD j undef):=by
 refine ⟨by simp,fun j x hx => ?_⟩;rw [getElem?_map] at hx;cases hp:xs.toList[j]? with
 |none=>rw [hp] at hx;cases hx
 |some p=>
  rw [hp] at hx;simp only [map_some,Option.some.injEq] at hx;subst hx;have hj:j<xs.size:=by simpa using (List.getElem?_eq_some_iff.1 hp).1
  have he:xs[j]=p:=by simpa [hj] using hp
  simp only [Array.getD,Array.size_map,hj,dif_pos];simpa [he] using BA hr p
theorem Mh (mx:Bool):∀{l:List AV} {x:Int} {K:AV→Option R} {r:R} {vs:List Value},JM.go mx x l K=some r→vs.length=l.length→(∀(j:Nat) (y:AV) (v:Value),l[j]? = some y→vs[j]? = some v→AP B κ h w y v)→
  ∃n:Int,K (.t (.int .i64 n))=some r∧(vs.foldlM (if mx then Builtin.max2 else Builtin.min2) (.int .i64 x):Sem Value).run P w = .ok (.int .i64 n) w
 |[],x,K,r,vs,hr,hl,hv=>by obtain rfl:vs=[]:=eq_nil_of_length_eq_zero (by simpa using hl);exact ⟨x,hr,by simp⟩
 |y::l,x,K,r,vs,hr,hl,hv=>by
  cases vs with
  |nil=>simp at hl
  |cons v vs=>
   simp only [JM.go] at hr;obtain ⟨b,hb,hr1⟩:=bind_some hr;obtain rfl:=CD hb (hv 0 y v rfl rfl);obtain ⟨n,h1,h2⟩:=Mh mx (vs:=vs) hr1 (by simpa using hl) fun j y' v' hy hv'=>hv (j+1) y' v' (by simpa using hy) (by simpa using hv');refine ⟨n,h1,?_⟩;cases mx
   ·simp only [false_eq_true,if_false] at h2 ⊢;simp [Builtin.min2,h2]
   ·simp only [if_true] at h2 ⊢;simp [Builtin.max2,h2]
theorem QZ (mx:Bool) {l:List AV} {K:AV→Option R} {r:R} {vs:List Value} (hr:JM mx l K=some r) (hl:vs.length=l.length) (hv:∀(j:Nat) (y:AV) (v:Value),l[j]? = some y→vs[j]? = some v→AP B κ h w y v) (ts:Array TypeId) (ty:TypeId) :
  ∃n:Int,K (.t (.int .i64 n))=some r∧(if mx then Builtin.max_ ts ty vs.toArray else Builtin.min_ ts ty vs.toArray).run P w = .ok (.int .i64 n) w:=by
 cases l with
 |nil=>simp [JM] at hr
 |cons x l=>
  cases vs with
  |nil=>simp at hl
  |cons v vs=>
   simp only [JM] at hr;obtain ⟨b,hb,hr1⟩:=bind_some hr;obtain rfl:=CD hb (hv 0 x v rfl rfl);obtain ⟨n,h1,h2⟩:=Mh (P:=P) mx (vs:=vs) hr1 (by simpa using hl) fun j y' v' hy hv'=>hv (j+1) y' v' (by simpa using hy) (by simpa using hv');refine ⟨n,h1,?_⟩;cases mx<;>simpa [Builtin.max_,Builtin.min_] using h2
theorem Ny {k:IntKind} {n:Int}:∀{m:List (Int×Nat)} {K:AV→Option R} {r:R} {es:List MapEntry} {i:Nat},J8 n m K=some r→es.map (fun e=>(e.key,e.val))=m.map (fun p=>(.int k p.1,.func (.func p.2) #[] #[]))→
  ∃v,K v=some r∧((Instr.findNow (.int k) (.int k n) es i=some none∧∀z,AP B κ h w v (.tuple #[z,.bool false]))∨∃j val,Instr.findNow (.int k) (.int k n) es i=some (some (j,val))∧AP B κ h w v (.tuple #[val,.bool true]))
 |[],K,r,[],i,hq,he=>⟨_,hq,.inl ⟨rfl,fun z =>.tuple _ _ rfl (fun j x hx=>by
   match j,hx with
   |0,hx=>cases hx;exact .undef _
   |1,hx=>cases hx;exact .t _ _ (.bool _))⟩⟩
 |[],K,r,e::es,i,hq,he=>by simp at he
 |p::m,K,r,[],i,hq,he=>by simp at he
 |p::m,K,r,e::es,i,hq,he=>by
  simp only [map_cons,List.cons.injEq,Prod.mk.injEq] at he;obtain ⟨⟨h1,h2⟩,h3⟩:=he;simp only [J8,AE] at hq;split at hq
  ·rename_i hn;refine ⟨_,hq,.inr ⟨i,.func (.func p.2) #[] #[],?_,.tuple _ _ rfl (fun j x hx => ?_)⟩⟩
   ·simp only [Instr.findNow,Instr.sameNow,h1,h2,hn,if_true,beq_self_eq_true]
   ·match j,hx with
    |0,hx=>cases hx;exact .func _ _ _ #[] #[] rfl rfl (fun j x hx=>by simp at hx) (fun j x hx=>by simp at hx)
    |1,hx=>cases hx;exact .t _ _ (.bool _)
  ·rename_i hn;obtain ⟨v,g1,g3⟩:=Ny (i:=i+1) hq h3;refine ⟨v,g1,?_⟩;simp only [Instr.findNow,Instr.sameNow,h1,if_true];rw [show (n==p.1)=false by simpa using hn];exact g3
theorem CY {P:Program} {w:World} {b:Nat} {es:Array MapEntry} {clock:Nat} (hb:w.heap[b]? = some (.map es clock)):(getObj b).run P w = .ok (.map es clock) w:=by simp [getObj,Sem.run,hb]
theorem MX (P:Program) (w:World) (f:Nat→Value):∀(js:List Nat) (bs:List UInt8) (s:ByteArray),js.length=bs.length→(∀(k j:Nat) (b:UInt8),js[k]? = some j→bs[k]? = some b→∃n:Int,f j = .int .u8 n∧UInt8.ofNat n.toNat=b)→
  (forIn js s (fun a y=>match f a with
   | .int .u8 n=>pure (ForInStep.yield (y.push (UInt8.ofNat n.toNat)))
   | _ => (fun _ => ForInStep.yield y) <$> (stuck "bytesToString: byte expected" : Sem PUnit)) : Sem ByteArray).run P w = .ok (bs.foldl ByteArray.push s) w
 |[],[],s,_,_=>by simp
 |v::vs,b::bs,s,hl,h=>by obtain ⟨n,hf,hb⟩:=h 0 v b rfl rfl;have ih:=MX P w f vs bs (s.push b) (by simpa using hl) fun k j b hv hb=>h (k+1) j b (by simpa using hv) (by simpa using hb);rw [List.forIn_cons];simp [hf,hb,ih]
 |[],_::_,_,hl,_=>by simp at hl
 |_::_,[],_,hl,_=>by simp at hl
def QN:Option (List Tree)→Value
 |some [.int .u8 n]=>.int .u8 n
 |_ =>.int .u8 0
theorem UG {src dst:TypeId} {x:AV} {K:AV→Option R} {r:R} (hq:KB P h src dst x K=some r) (hh:Ai B κ h w) {vx:Value} (hx:AP B κ h w x vx) :
  ∃v val,K v=some r∧(convert src dst vx).run P w = .ok val w∧AP B κ h w v val:=by
 unfold KB at hq;simp only [AE] at hq;split at hq
 ·rename_i e hu1 hu2;split at hq
  ·rename_i hu3;obtain ⟨es,hq1,hs⟩:=JB hq hh hx;obtain ⟨hb,hK⟩:=AH hq1;obtain ⟨_,a,cap,rfl,hcap,hc⟩:=hs;refine ⟨_,.string (bytesOf es),hK,?_,.t _ _ (.str _)⟩;have hby:∀(j:Nat) (e:List Tree),es[j]? = some e→∃n:Int,e=[.int .u8 n]:=fun j e he=>by
    have:=(all_eq_true.1 hb) e (mem_of_getElem? he);unfold Sj at this;split at this
    ·exact ⟨_,rfl⟩
    ·cases this
   rcases hc with rfl|⟨b,off,rfl,hlt,hcells⟩
   ·cases a with
    |none=>simp [convert,run_underlying hu1,run_underlying hu2,run_underlying hu3,Conv.bytesToString,bytesOf]
    |some a=>simp [convert,run_underlying hu1,run_underlying hu2,run_underlying hu3,Conv.bytesToString,bytesOf,loadCells,loadCellsFrom]
   ·have hcell:∀j,j<es.length→∃n:Int,es[j]? = some [.int .u8 n]∧w.cell? ⟨b,off+j,none⟩=some (.int .u8 n):=fun j hj=>by
     obtain ⟨n,hn⟩:=hby j es[j] (getElem?_eq_getElem hj);have he:es[j]? = some [.int .u8 n]:=by rw [getElem?_eq_getElem hj,hn]
     obtain ⟨u,hu,ht⟩:=hcells j [.int .u8 n] 0 (.int .u8 n) he rfl;cases ht;exact ⟨n,he,by simpa using hu⟩
    have hl:=run_loadCells (P:=P) w ⟨b,off,none⟩ es.length (fun j=>QN es[j]?) (fun j hj=>by
      obtain ⟨n,he,hc⟩:=hcell j hj;unfold Addr.add;split
      ·rename_i h0;subst h0;simp only [he,QN];simpa using hc
      ·simp only [he,QN];simpa using hc)
    have hloop:=MX P w (fun j=>QN es[j]?) (List.range es.length) (es.map byteL) ByteArray.empty (by simp) (fun k j bb hj hbb=>by
     obtain ⟨h1,h2⟩:=List.getElem?_eq_some_iff.1 hj;have h1:k<es.length:=by simpa using h1
     have h2:j=k:=by simpa using h2.symm
     subst h2;obtain ⟨n,he,_⟩:=hcell j h1;rw [getElem?_map,he] at hbb;simp only [map_some,Option.some.injEq] at hbb;exact ⟨n,by simp [he,QN],by rw [← hbb];rfl⟩)
    simp [convert,run_underlying hu1,run_underlying hu2,run_underlying hu3,Conv.bytesToString,hl];exact (congrArg (fun z=>z.andThen fun a w'=>Result.ok (Value.string a) w') (show _=Result.ok (bytesOf es) w from hloop)).trans rfl
  ·cases hq
 ·exact Qi (P:=P) hq hx
theorem R6 {t:TypeId} {x ix:AV} {K:AV→Option R} {r:R} (hq:JO P t x ix K=some r) {vx vi:Value} (hx:AP B κ h w x vx) (hi:AP B κ h w ix vi) :
  ∃v val,K v=some r∧(Instr.index t vx vi).run P w = .ok val w∧AP B κ h w v val:=by
 unfold JO at hq;simp only [AE] at hq;split at hq
 ·rename_i s k i hu;obtain ⟨⟨h0,h1⟩,hq1⟩:=AH hq;cases hx with|t _ _ hx=>
  cases hx;cases hi with|t _ _ hi=>
  cases hi;have hlt:i.toNat<s.size:=by omega
  refine ⟨_,.int .u8 (R0 s i.toNat),hq1,?_,.t _ _ (.int _ _)⟩;have hb:s[i.toNat]? = some s[i.toNat]:=by simp [hlt]
  simp [Instr.index,Go.asIntOf,run_underlying hu,h0,hb,R0]
 ·rename_i n e cs k i hu;obtain ⟨⟨ha,hz,hl⟩,hq1⟩:=AH hq;obtain ⟨⟨h0,h1⟩,hq2⟩:=AH hq1;have hq3:=Ir hq2;cases hi with|t _ _ hi=>
  cases hi;cases hx with
  |agg _ vs hvs hve=>
   obtain ⟨v,hv1,hv2⟩:=OG (P:=P) (B:=B) (κ:=κ) (h:=h) (w:=w) (g:=fun j=>cs.getD j .undef) (off:=0) (n:=cs.length) (o:=i.toNat) (m:=1) (vs:=vs) (t:=e) (fun j hj=>by have hg:cs[j]? = some cs[j]:=getElem?_eq_getElem hj;have:=hve j _ hg;simpa [List.getD,hg] using this) hvs hz (by omega) ha (fun _=>rfl)
   unfold Fits at hv2;rw [ha] at hv2;refine ⟨_,v,hq3,?_,by simpa using hv2⟩;simp [Instr.index,Go.asIntOf,run_underlying hu,h0,h1,BL hz,hv1]
 ·cases hq
theorem R4 {t:TypeId} {m x:AV} {K:AV→Option R} {r:R} (hq:JN P t m x K=some r) {vm vx:Value} (hm:AP B κ h w m vm) (hx:AP B κ h w x vx) :
  ∃v val,K v=some r∧(Instr.lookup t vm vx true).run P w = .ok val w∧AP B κ h w v val:=by
 unfold JN at hq;simp only [AE] at hq;split at hq
 ·rename_i k l k' n;obtain ⟨⟨rfl,hT⟩,hq1⟩:=AH hq;clear hq;cases hx with|t _ _ hx=>
  cases hx;cases hm with|t _ _ hm=>
  cases hm with|mp _ _ b es clock h1 h2 h3 h4=>
  unfold mapTy at hT;split at hT
  ·rename_i key elem hu;rw [and_eq_true] at hT;obtain ⟨hT,hz⟩:=hT;split at hT
   ·rename_i k2 hk;obtain rfl:k2=k':=by simpa using hT
    obtain ⟨i,z,hi,hz⟩:∃i z,P.info? elem=some i∧i.zero=some z:=by
     cases hi:P.info? elem with
     |none=>simp [hi] at hz
     |some i=>cases hz':i.zero with
      |none=>simp [hi,hz'] at hz
      |some z=>exact ⟨i,z,rfl,hz'⟩
    obtain ⟨v,g1,g3⟩:=Ny (B:=B) (κ:=κ) (h:=h) (w:=w) (i:=0) hq1 h4;have hck:∀(e:Bool),(Instr.checkKey e 10000 key (.int k2 n)).run P w = .ok () w:=fun e=>by
     have:∀m:Nat,(Instr.checkKey e (m+1) key (.int k2 n)).run P w = .ok () w:=fun m=>by simp [Instr.checkKey,run_underlying hk]
     exact this 9999
    rcases g3 with ⟨g3,g2⟩|⟨j,val,g3,g2⟩
    ·refine ⟨v,_,g1,?_,g2 z⟩;simp [Instr.lookup,run_underlying hu,CY h3,hck,Instr.findKey,run_underlying hk,g3,zeroValue,typeInfo,hi,hz]
    ·refine ⟨v,_,g1,?_,g2⟩;simp [Instr.lookup,run_underlying hu,CY h3,hck,Instr.findKey,run_underlying hk,g3]
   ·cases hT
  ·cases hT
 ·cases hq
theorem KN {t:TypeId} {k ke:IntKind} (h:Gj P t=some (k,ke)):∃key elem i,P.underlying t=some (.map key elem)∧P.underlying key=some (.int k)∧P.info? elem=some i∧i.zero=some (.int ke 0):=by
 unfold Gj at h;split at h
 ·rename_i key elem hu;split at h
  ·rename_i k1 ke1 h1 h2;split at h
   ·rename_i hz;cases h;unfold SF at hz;split at hz
    ·rename_i k2 z hb;simp only [and_eq_true,decide_eq_true_eq] at hz;obtain ⟨rfl,rfl⟩:=hz;cases hi:P.info? elem with
     |none=>rw [hi] at hb;cases hb
     |some i=>rw [hi] at hb;exact ⟨key,elem,i,hu,h1,hi,hb⟩
    ·cases hz
   ·cases h
  ·cases h
 ·cases h
theorem OX {k ke:IntKind} {n:Int}:∀(l:List MapEntry) (es:List (Int×Int)) (i:Nat),l.map (fun e=>(e.key,e.val))=es.map (fun p=>((.int k p.1:Value),(.int ke p.2:Value)))→
  (Av n es=none∧Instr.findNow (.int k) (.int k n) l i=some none)∨∃j v,Av n es=some v∧es[j]? = some (n,v)∧Instr.findNow (.int k) (.int k n) l i=some (some (i+j,.int ke v))∧∀y,BN n y es=es.set j (n,y)
 |[],es,i,h=>by
  have:es=[]:=by
   cases es with
   |nil=>rfl
   |cons p l=>simp at h
  subst this;exact .inl ⟨rfl,rfl⟩
 |e::l,[],i,h=>by simp at h
 |e::l,p::es,i,h=>by
  simp only [map_cons,List.cons.injEq,Prod.mk.injEq] at h;obtain ⟨⟨h1,h2⟩,h3⟩:=h;by_cases hn:n=p.1
  ·refine .inr ⟨0,p.2,by simp [Av,hn],by simp [hn],?_,fun y=>by simp [BN,hn]⟩;simp [Instr.findNow,Instr.sameNow,h1,h2,hn]
  ·have hb:(n==p.1)=false:=by simpa using hn
   rcases OX (n:=n) l es (i+1) h3 with ⟨a1,a2⟩|⟨j,v,a1,a2,a3,a4⟩
   ·exact .inl ⟨by simp [Av,hn,a1],by simp [Instr.findNow,Instr.sameNow,h1,hb,a2]⟩
   ·refine .inr ⟨j+1,v,by simp [Av,hn,a1],by simpa using a2,?_,fun y=>by simp [BN,hn,a4 y]⟩;simp only [Instr.findNow,Instr.sameNow,h1,if_true,hb,a3];rw [show i+1+j=i+(j+1) by omega]
theorem KM {n y:Int}:∀{es:List (Int×Int)},Av n es=none→BN n y es=es++[(n,y)]
 |[],_=>rfl
 |p::es,h=>by
  unfold Av at h;split at h
  ·cases h
  ·rename_i hn;simp [BN,hn,KM h]
theorem Fl {key:TypeId} {k:IntKind} (hk:P.underlying key=some (.int k)) (e:Bool) (n:Int) (w:World):(Instr.checkKey e 10000 key (.int k n)).run P w = .ok () w:=by
 have:∀m:Nat,(Instr.checkKey e (m+1) key (.int k n)).run P w = .ok () w:=fun m=>by simp [Instr.checkKey,run_underlying hk]
 exact this 9999
theorem UB {t:TypeId} {i:Nat} {x:AV} {co:Bool} {K:AV→Option R} {r:R} (hq:J9 P t h i x co K=some r) (hh:Ai B κ h w) {vm vx:Value} (hm:AP B κ h w (.mref i) vm) (hx:AP B κ h w x vx) :
  ∃v val,K v=some r∧(Instr.lookup t vm vx co).run P w = .ok val w∧AP B κ h w v val:=by
 unfold J9 at hq;simp only [AE] at hq;split at hq
 ·rename_i k ke es kx n k' ke' hi hmk;obtain ⟨⟨rfl,rfl,rfl⟩,hq1⟩:=AH hq;cases hm with|mref _ b hk _=>
  obtain ⟨h0,en,clock,hb,hs⟩:=hh.obj i _ _ hi hk;cases hx with|t _ _ hx=>
  cases hx;obtain ⟨key,elem,io,hu,hku,hio,hz⟩:=KN hmk;rcases OX (n:=n) en.toList es 0 hs with ⟨a1,a2⟩|⟨j,v,a1,a2,a3,a4⟩
  ·rw [a1] at hq1;cases co with
   |true=>exact ⟨_,_,hq1,by simp [Instr.lookup,run_underlying hu,CY hb,Fl hku,Instr.findKey,run_underlying hku,a2,zeroValue,typeInfo,hio,hz];rfl,.tuple _ _ rfl fun j y hy=>by
     match j,hy with
     |0,hy=>cases hy;exact .t _ _ (.int _ _)
     |1,hy=>cases hy;exact .t _ _ (.bool _)⟩
   |false=>exact ⟨_,_,hq1,by simp [Instr.lookup,run_underlying hu,CY hb,Fl hku,Instr.findKey,run_underlying hku,a2,zeroValue,typeInfo,hio,hz],.t _ _ (.int _ _)⟩
  ·rw [a1] at hq1;cases co with
   |true=>exact ⟨_,_,hq1,by simp [Instr.lookup,run_underlying hu,CY hb,Fl hku,Instr.findKey,run_underlying hku,a3];rfl,.tuple _ _ rfl fun j y hy=>by
     match j,hy with
     |0,hy=>cases hy;exact .t _ _ (.int _ _)
     |1,hy=>cases hy;exact .t _ _ (.bool _)⟩
   |false=>exact ⟨_,_,hq1,by simp [Instr.lookup,run_underlying hu,CY hb,Fl hku,Instr.findKey,run_underlying hku,a3],.t _ _ (.int _ _)⟩
 ·cases hq
theorem C1 {r:Nat} {o:Obj} (hr:w.heap[r]? = some o):r<w.heap.size:=by
 rcases lt_or_ge r w.heap.size with y|y
 ·exact y
 ·rw [Array.getElem?_eq_none y] at hr;cases hr
theorem NP (hh:Ai B κ h w) {i b:Nat} {k ke:IntKind} {es es':List (Int×Int)} {en en':Array MapEntry} {clock clock':Nat} (hi:h[i]? = some (.mapo k ke es)) (hk:κ[i]? = some (some (b,0)))
  (hb:w.heap[b]? = some (.map en clock)) (hs:en'.toList.map (fun e=>(e.key,e.val))=es'.map fun p=>((.int k p.1:Value),(.int ke p.2:Value))) :
  Ai B κ (h.set i (.mapo k ke es')) (w.putObj b (.map en' clock'))∧Ext κ h w κ (h.set i (.mapo k ke es')) (w.putObj b (.map en' clock')):=by
 have hlt:=C1 hb;have hil:=AT hi;have hE:Ex κ h b:=⟨i,0,_,hk,hi,rfl⟩
 have hget:∀(j:Nat) (o:AF),(h.set i (.mapo k ke es'))[j]? = some o→(j=i∧o = .mapo k ke es')∨(j≠i∧h[j]? = some o):=fun j o hj=>by
  by_cases e:j=i
  ·subst e;rw [getElem?_set_self hil] at hj;cases hj;exact .inl ⟨rfl,rfl⟩
  ·rw [getElem?_set_ne (Ne.symm e)] at hj;exact .inr ⟨e,hj⟩
 have x:Ext κ h w κ (h.set i (.mapo k ke es')) (w.putObj b (.map en' clock')):=by
  refine ⟨rfl,rfl,rfl,by simp,fun b' hb' hn=>World.putObj_heap_other fun e=>hn (e ▸ hE),fun b' he => ?_,fun j o ho => ?_,fun _ _ _ _ _ _=>rfl,fun j o o' ho ho' _ b' base hb' cells elem fr hc => ?_⟩
  ·obtain ⟨j,base,o,h1,h2,h3⟩:=he;rcases hget j o h2 with ⟨rfl,rfl⟩|⟨_,h2⟩
   ·exact .inl ⟨j,base,_,h1,hi,rfl⟩
   ·exact .inl ⟨j,base,o,h1,h2,h3⟩
  ·by_cases e:j=i
   ·subst e;rw [hi] at ho;cases ho;exact ⟨.mapo k ke es',getElem?_set_self hil,rfl,le_refl _,fun _=>⟨rfl,rfl⟩,(fun e=>by cases e),(fun e=>by cases e),rfl⟩
   ·exact ⟨o,(getElem?_set_ne (Ne.symm e)).trans ho,.refl o⟩
  ·by_cases e:b'=b
   ·subst e;rw [World.putObj_heap_same hlt] at hc;cases hc
   ·rw [World.putObj_heap_other e] at hc;exact ⟨cells,hc,rfl⟩
 refine ⟨⟨by simp [hh.len],hh.inj,hh.notB,fun j b' bs hj=>by simpa using hh.lt j b' bs hj,fun b' hb'=>by simpa using hh.ltB b' hb',fun j o k' ho hk' => ?_⟩,x⟩;rcases hget j o ho with ⟨rfl,rfl⟩|⟨hne,ho⟩
 ·rw [hk] at hk';cases hk';exact ⟨rfl,en',clock',World.putObj_heap_same hlt,hs⟩
 ·refine (hh.obj j o k' ho hk').ext x fun b' base e=>World.putObj_heap_other fun e2 => ?_;subst e e2;exact hne (hh.inj j i _ _ _ hk' hk)
theorem Qb {t:TypeId} {K:AV→Heap→Option R} {r:R} (hq:Fp P t h K=some r) (hh:Ai B κ h w) :
  ∃v h' κ' val w',K v h'=some r∧(Instr.makeMap t none).run P w = .ok val w'∧AP B κ' h' w' v val∧Ai B κ' h' w'∧Ext κ h w κ' h' w':=by
 unfold Fp at hq;split at hq
 ·rename_i k ke hmk;have x:=Bb hh (w':=w.alloc (.map #[] 0)) (k:=some (w.heap.size,0)) (o :=.mapo k ke []) rfl rfl rfl (by simp) (fun b hb=>Ak w _ hb) (fun b base e=>by cases e;exact le_refl _);refine ⟨_,_,_,_,_,hq,run_makeMap_plain _ t,.mref _ _ (by rw [← hh.len];exact Ag κ _) ⟨k,ke,[],Ag _ _⟩,BK hh (fun b hb=>Ak w _ hb) x (fun b base e=>by cases e;exact ⟨le_refl _,by simp⟩) ⟨rfl,#[],0,A8 w _,rfl⟩,x⟩
 ·cases hq
theorem R3 {t:TypeId} {m x v:AV} {K:Heap→Option R} {r:R} (hq:HY P t h m x v K=some r) (hh:Ai B κ h w) {vm vx vv:Value} (hm:AP B κ h w m vm) (hx:AP B κ h w x vx) (hv:AP B κ h w v vv) :
  ∃h' w',K h'=some r∧(Instr.mapUpdate t vm vx vv).run P w = .ok () w'∧Ai B κ h' w'∧Ext κ h w κ h' w':=by
 unfold HY at hq;simp only [AE] at hq;split at hq
 ·rename_i i kx n kv y;split at hq
  ·rename_i k ke es k' ke' hi hmk;obtain ⟨⟨rfl,rfl,rfl,rfl⟩,hq1⟩:=AH hq;cases hm with|mref _ b hk _=>
   obtain ⟨h0,en,clock,hb,hs⟩:=hh.obj i _ _ hi hk;cases hx with|t _ _ hx=>
   cases hx;cases hv with|t _ _ hv=>
   cases hv;obtain ⟨key,elem,io,hu,hku,hio,hz⟩:=KN hmk;rcases OX (n:=n) en.toList es 0 hs with ⟨a1,a2⟩|⟨j,v,a1,a2,a3,a4⟩
   ·have hp:=NP (en':=en.push {key :=.int kx n,val :=.int kv y,born:=clock}) (clock':=clock+1) hh hi hk hb (es':=BN n y es) (by rw [KM a1];simp [hs]);refine ⟨_,_,hq1,?_,hp⟩;simp only [Instr.mapUpdate,Sem.run_bind,run_underlying hu,Result.andThen_ok,CY hb,Fl hku,Instr.findKey,run_underlying hku,a2,Sem.run_pure];simp [setObj,Sem.run,hb,World.putObj]
   ·rw [zero_add] at a3;have he:∃e:MapEntry,en[j]? = some e∧e.key = .int kx n:=by
     have:=congrArg (fun l=>l[j]?) hs;simp only [getElem?_map,a2,map_some,getElem?_toList] at this;cases hj:en[j]? with
     |none=>rw [hj] at this;cases this
     |some e=>rw [hj] at this;simp only [map_some,Option.some.injEq,Prod.mk.injEq] at this;exact ⟨e,rfl,this.1⟩
    obtain ⟨e,hj,hek⟩:=he;have hp:=NP (en':=en.modify j fun e=>{e with key :=.int kx n,val :=.int kv y}) (clock':=clock) hh hi hk hb (es':=BN n y es) (by
     rw [a4 y];refine ext_getElem? fun q => ?_;have hq:=congrArg (fun l=>l[q]?) hs;simp only [getElem?_map,getElem?_toList] at hq;simp only [getElem?_map,getElem?_toList,getElem?_modify,List.getElem?_set];by_cases hqj:j=q
     ·subst hqj;simp [hj,AT a2]
     ·simp [hqj,hq])
    refine ⟨_,_,hq1,?_,hp⟩;have hst:(Instr.keyThatStays (((en[j]?).map (·.key)).getD (.int kx n)) (.int kx n)).run P w = .ok (.int kx n) w:=by rw [hj];simp [Instr.keyThatStays,Instr.sameBits,hek]
    simp only [Instr.mapUpdate,Sem.run_bind,run_underlying hu,Result.andThen_ok,CY hb,Fl hku,Instr.findKey,run_underlying hku,a3,Sem.run_pure,hst];simp [setObj,Sem.run,hb,World.putObj]
  ·cases hq
 ·cases hq
theorem QP {t:TypeId} {len:Nat} {parts:Array (Nat×Operand)} {K:AV→Heap→Option R} {r:R} (hq:D2 P t h len (parts.toList.map fun p=>(p.1,ev env p.2)) K=some r) (hr:Rel B N κ env h a w) (o:Oper) (ho:o.op = .buildSlice t len parts) :
  ∃v h' κ' val w',K v h'=some r∧(execOp a.eval o).run P w = .ok (.value val) w'∧AP B κ' h' w' v val∧Ai B κ' h' w'∧Ext κ h w κ' h' w':=by
 unfold execOp;rw [ho];obtain ⟨v,h',κ',val,w',h1,h2,h3,h4,h5⟩:=Ou (P:=P) hq (Fb hr parts).1 (Fb hr parts).2 hr.heap;exact ⟨v,h',κ',val,w',h1,by simp [h2],h3,h4,h5⟩
theorem U9 {src dst:TypeId} {x:Operand} {K:AV→Heap→Option R} {r:R} (hb:Mx P src dst=true) (hq:J7 h (ev env x) K=some r) (hr:Rel B N κ env h a w) (o:Oper) (ho:o.op = .convert src dst x) :
  ∃v h' κ' val w',K v h'=some r∧(execOp a.eval o).run P w = .ok (.value val) w'∧AP B κ' h' w' v val∧Ai B κ' h' w'∧Ext κ h w κ' h' w':=by
 unfold execOp;rw [ho];obtain ⟨v,h',κ',val,w',h1,h2,h3,h4,h5⟩:=UA (P:=P) hb hq hr.heap (BA hr x);exact ⟨v,h',κ',val,w',h1,by simp [h2],h3,h4,h5⟩
theorem RA {op:Op} {K:AV→Option R} {r:R} (hq:qop P env h op K=some r) (hr:Rel B N κ env h a w) (o:Oper) (ho:o.op=op) :
  ∃v val w',K v=some r∧(execOp a.eval o).run P w = .ok (.value val) w'∧AP B κ h w' v val∧Ai B κ h w'∧Ext κ h w κ h w':=by
 have hx:=Ext.refl κ h w;unfold execOp;rw [ho];unfold qop at hq
 try simp only [AE] at hq
 split at hq
 ·exact ⟨_,_,w,hq,rfl,BA hr _,hr.heap,hx⟩
 ·exact ⟨_,_,w,hq,rfl,BA hr _,hr.heap,hx⟩
 ·rename_i c x y;obtain ⟨t,ht,hq1⟩:=bind_some hq;have hc:=D0 ht (BA hr c);cases t
  ·exact ⟨_,_,w,by simpa using hq1,by simp [hc,Go.asBool],BA hr y,hr.heap,hx⟩
  ·exact ⟨_,_,w,by simpa using hq1,by simp [hc,Go.asBool],BA hr x,hr.heap,hx⟩
 ·rename_i t parts;obtain ⟨v,val,h1,h2,h3⟩:=UI (P:=P) hq (Fb hr parts).1 (Fb hr parts).2;exact ⟨v,val,w,h1,by simp [h2],h3,hr.heap,hx⟩
 ·rename_i t len parts;obtain ⟨v,val,w',h1,h2,h3,h4,h5⟩:=Mp (P:=P) hq (Fb hr parts).1 (Fb hr parts).2 hr.heap;exact ⟨v,val,w',h1,by simp [h2],h3,h4,h5⟩
 ·obtain ⟨v,val,h1,h2,h3⟩:=Qc hq hr.heap (BA hr _);have h1:=retV_ok h1;exact ⟨v,val,w,h1,by simp [h2],h3,hr.heap,hx⟩
 ·obtain ⟨v,val,h1,h2,h3⟩:=abin_ok hq (BA hr _) (BA hr _) _ _;exact ⟨v,val,w,h1,by simp only [Sem.run_bind] at h2 ⊢;rw [h2];rfl,h3,hr.heap,hx⟩
 ·obtain ⟨v,val,h1,h2,h3⟩:=aun_ok (P:=P) hq (BA hr _);exact ⟨v,val,w,h1,by simp [h2],h3,hr.heap,hx⟩
 ·obtain ⟨v,val,h1,h2,h3⟩:=UG (P:=P) hq hr.heap (BA hr _);exact ⟨v,val,w,h1,by simp [h2],h3,hr.heap,hx⟩
 ·rename_i fn first captured
  split at hq
  ·cases hq
  ·refine ⟨_,_,w,hq,by simp [Instr.makeFunc],.func _ _ _ _ _ (II hr first).1 (II hr captured).1 (II hr first).2 (II hr captured).2,hr.heap,hx⟩
 ·obtain ⟨v,val,h1,h2,h3⟩:=T8 (P:=P) hq (BA hr _) (Nz hr _) (Nz hr _) (Nz hr _) hr.heap;exact ⟨v,val,w,h1,by simp [h2],h3,hr.heap,hx⟩
 ·obtain ⟨v,val,h1,h2,h3⟩:=UF (P:=P) hq (BA hr _);exact ⟨v,val,w,h1,by simp [h2],h3,hr.heap,hx⟩
 ·obtain ⟨v,val,h1,h2,h3⟩:=UD (P:=P) hq (BA hr _) (BA hr _) hr.heap;exact ⟨v,val,w,h1,by simp [h2],h3,hr.heap,hx⟩
 ·rename_i t i;split at hq
  ·rename_i vs hvs;split at hq
   ·rename_i v hv;have ht:=BA hr t;rw [hvs] at ht;generalize hgt:a.eval t=tv at ht;cases ht with
    |tuple _ arr hs hall=>
     have hi:i<arr.size:=by rw [hs];exact AT hv
     have he:arr[i]? = some (arr.getD i undef):=by rw [Array.getElem?_eq_getElem hi];simp only [Array.getD,hi,dif_pos];rfl
     have hrun:(Instr.extract (.tuple arr) i).run P w = .ok (arr.getD i undef) w:=by show (match arr[i]? with | some v => (pure v : Sem Value) | none => stuck "Extract: no such component").run P w = _;rw [he];rfl
     exact ⟨v,_,w,hq,by simp only [Sem.run_bind,hgt,hrun,Result.andThen_ok,Sem.run_pure],hall i v hv,hr.heap,hx⟩
   ·cases hq
  ·cases hq
 ·rename_i x;have hv:=BA hr x;split at hq
  ·rename_i i off he;rw [he] at hv;generalize hg:a.eval x=vx at hv;cases hv with
   |ptr _ _ b base hk hb=>exact ⟨_,_,w,hq,by simp [hg],.ptr i off b base hk hb,hr.heap,hx⟩
  ·rename_i s c off he;rw [he] at hv;generalize hg:a.eval x=vx at hv;cases hv with
   |eptr _ _ _ b base u h1 h2 h3 h4 h5=>exact ⟨_,_,w,hq,by simp [hg],.eptr s c off b base u h1 h2 h3 h4 h5,hr.heap,hx⟩
  ·rename_i f aa bb he;rw [he] at hv;generalize hg:a.eval x=vx at hv;cases hv with
   |func _ _ _ fs cs h1 h2 h3 h4=>exact ⟨_,_,w,hq,by simp [hg],.func _ _ _ fs cs h1 h2 h3 h4,hr.heap,hx⟩
  ·rename_i i he;rw [he] at hv;generalize hg:a.eval x=vx at hv;cases hv with
   |yld _ b base hk hb=>exact ⟨_,_,w,hq,by simp [hg],.yld i b base hk hb,hr.heap,hx⟩
  ·rename_i i ver k off he;rw [he] at hv;generalize hg:a.eval x=vx at hv;cases hv with
   |rptr _ _ _ _ _ h1 h2 h3=>
    obtain ⟨p,rfl⟩:=h1;exact ⟨_,_,w,hq,by simp [hg],.rptr i ver k off _ ⟨p,rfl⟩ h2 h3,hr.heap,hx⟩
  ·cases hq
 ·rename_i t m x co;split at hq
  ·rename_i i he;have hm:=BA hr m;rw [he] at hm;obtain ⟨v,val,h1,h2,h3⟩:=UB (P:=P) hq hr.heap hm (BA hr _);exact ⟨v,val,w,h1,by simp [h2],h3,hr.heap,hx⟩
  ·obtain ⟨hco,hq⟩:=AH hq;subst hco;obtain ⟨v,val,h1,h2,h3⟩:=R4 (P:=P) hq (BA hr _) (BA hr _);exact ⟨v,val,w,h1,by simp [h2],h3,hr.heap,hx⟩
 ·obtain ⟨v,val,h1,h2,h3⟩:=R6 (P:=P) hq (BA hr _) (BA hr _);exact ⟨v,val,w,h1,by simp [h2],h3,hr.heap,hx⟩
 ·rename_i args argTypes;split at hq
  ·rename_i x t hxa hta;obtain ⟨v,val,h1,h2,h3⟩:=alen_ok (P:=P) hq (BA hr x) hr.heap o.type;have e1:args = #[x]:=by cases args;simp_all
   have e2:argTypes = #[t]:=by cases argTypes;simp_all
   subst e1 e2;exact ⟨v,val,w,h1,by simp [resolve,invoke,builtin,h2],h3,hr.heap,hx⟩
  ·cases hq
 ·rename_i args argTypes;obtain ⟨n,h1,h2⟩:=QZ (P:=P) true (vs:=(args.map a.eval).toList) hq (by simp) (fun j y v hy hv=>by have:=(II hr args).2 j y hy;rwa [Em _ j undef hv] at this) argTypes o.type
  simp only [if_true] at h2;exact ⟨_,_,w,h1,by
   rw [toArray_toList] at h2;simp [resolve,invoke,builtin,h2],.t _ _ (.int _ _),hr.heap,hx⟩
 ·rename_i args argTypes;obtain ⟨n,h1,h2⟩:=QZ (P:=P) false (vs:=(args.map a.eval).toList) hq (by simp) (fun j y v hy hv=>by have:=(II hr args).2 j y hy;rwa [Em _ j undef hv] at this) argTypes o.type
  simp only [false_eq_true,if_false] at h2;exact ⟨_,_,w,h1,by
   rw [toArray_toList] at h2;simp [resolve,invoke,builtin,h2],.t _ _ (.int _ _),hr.heap,hx⟩
 ·cases hq
theorem nilK_ok {v:AV} {K:Bool→Option R} {r:R} (hq:nilK v K=some r) {val:Value} (hv:AP B κ h w v val) {t e:TypeId} (hu:P.underlying t=some (.slice e)) :
  ∃b,K b=some r∧(∀ox oy,(eqGuard .eql t ox oy val (.slice none 0 0)).run P w = .ok () w)∧(binOp .eql t val (.slice none 0 0)).run P w = .ok (.bool b) w:=by
 have hrun:∀(a:Option Addr) (n c:Nat),(∀ox oy,(eqGuard .eql t ox oy (.slice a n c) (.slice none 0 0)).run P w = .ok () w)∧(binOp .eql t (.slice a n c) (.slice none 0 0)).run P w = .ok (.bool a.isNone) w:=by
  intro a n c;have he:(Op.equalIn (9999+1) t (.slice a n c) (.slice none 0 0)).run P w = .ok a.isNone w:=by rw [Op.equalIn];cases a<;>simp [run_underlying hu]
  refine ⟨fun ox oy=>Cv rfl,?_⟩;simp only [binOp,Op.equal,Op.maxDepth,Sem.run_bind];rw [he];rfl
 unfold nilK at hq
 try simp only [AE] at hq
 split at hq
 ·rename_i z es;cases hv with
  |t _ _ ht=>
   split at hq
   ·rename_i hne;cases ht with
    |nil=>simp at hne
    |sl=>exact ⟨_,hq,hrun (some _) _ _⟩
   ·obtain ⟨h1,h2⟩:=HW hq;cases ht with
    |nil _ cap a0=>exact ⟨a0.isNone,by cases a0<;>assumption,hrun _ _ _⟩
    |sl=>exact ⟨_,h2,hrun (some _) _ _⟩
 ·obtain ⟨h1,h2⟩:=HW hq;cases hv with
  |nilsl a0=>exact ⟨a0.isNone,by cases a0<;>assumption,hrun _ _ _⟩
 ·cases hq
theorem Pg {v:Value} (z:Nat) (hv:AP B κ h w .nilsl v):AP B κ h w (.t (.sl z [])) v:=by cases hv with|nilsl a0=>exact .t _ _ (.nil _ _ _)
theorem Ph {P:Program} {tf:TypeId→Bool}:∀{ts:List TypeId} {cs:List AV} {vs:List Value},cs.length=vs.length→(∀(j:Nat) (x:AV) (v:Value),cs[j]? = some x→vs[j]? = some v→AP B κ h w x v)→
  (GK P tf ts cs).length=vs.length∧∀(j:Nat) (x:AV) (v:Value),(GK P tf ts cs)[j]? = some x→vs[j]? = some v→AP B κ h w x v
 |ts,[],vs,hl,hv=>⟨hl,fun j x v hx=>by simp [GK] at hx⟩
 |ts,c::cs,[],hl,hv=>by simp at hl
 |ts,c::cs,u::vs,hl,hv=>by
  obtain ⟨i1,i2⟩:=Ph (P:=P) (tf:=tf) (ts:=ts.tail) (cs:=cs) (vs:=vs) (by simpa using hl) fun j x v hx hv'=>hv (j+1) x v (by simpa using hx) (by simpa using hv');refine ⟨by simp [GK,i1],fun j x v hx hv' => ?_⟩;cases j with
  |zero=>
   have h0:=hv 0 c u rfl rfl;simp only [GK,List.getElem?_cons_zero,Option.some.injEq] at hx hv';subst hx hv';cases c<;>first|exact h0|(simp only;split;exact Pg _ h0;exact h0)
  |succ j=>
   simp only [GK,getElem?_cons_succ] at hx hv';exact i2 j x v hx hv'
theorem E4 {P:Program} {tf:TypeId→Bool} {ts:List TypeId} {cs:List AV} {arr:Array Value} (hc:AZ B κ h w cs arr):AZ B κ h w (GK P tf ts cs) arr:=by
 obtain ⟨h1,h2⟩:=Ph (P:=P) (tf:=tf) (ts:=ts) (cs:=cs) (vs:=arr.toList) (by simp [hc.1]) fun j x v hx hv=>by have:=hc.2 j x hx;rwa [Em arr.toList j undef hv] at this
 refine ⟨by simp [h1],fun j x hx => ?_⟩;have hj:j<arr.size:=by have:=(List.getElem?_eq_some_iff.1 hx).1;rw [h1] at this;simpa using this
 exact h2 j x _ hx (by simp [Array.getD,hj])
theorem nilV_ok {P:Program} {tf:TypeId→Bool} {t:TypeId} {v:AV} {u:Value} (hv:AP B κ h w v u):AP B κ h w (nilV P tf t v) u:=by
 cases v with
 |agg cs=>
  cases hv with|agg _ vs h1 h2=>
  obtain ⟨k1,k2⟩:=E4 (P:=P) (tf:=tf) (ts:=Bh P 16 t) (show AZ B κ h w cs vs from ⟨h1,h2⟩);exact .agg _ _ k1 k2
 |nilsl=>
  simp only [nilV];split
  ·exact Pg _ hv
  ·exact hv
 |_=>exact hv
theorem hop_ok {op:Op} {K:AV→Heap→Option R} {r:R} {tf:TypeId→Bool} (hq:hop P tf env h op K=some r) (hr:Rel B N κ env h a w) (o:Oper) (ho:o.op=op) :
  ∃v h' κ' val w',K v h'=some r∧((execOp a.eval o).run P w = .ok (.value val) w'∨((execOp a.eval o).run P w = .ok .skip w'∧val=undef))∧AP B κ' h' w' v val∧Ai B κ' h' w'∧Ext κ h w κ' h' w':=by
 unfold execOp;rw [ho];unfold hop at hq
 try simp only [AE] at hq
 split at hq
 ·rename_i t;split at hq
  ·rename_i z hz;obtain ⟨i,v,hi,hv,hc⟩:=CE (B:=B) (κ:=κ) (h:=h) (w:=w) hz;obtain ⟨v',h',κ',h1,h2,h3,h4⟩:=Gw hq hr.heap (E4 hc) t;exact ⟨v',h',κ',_,_,h1,.inl (by simp [Instr.alloc,zeroValue,typeInfo,hi,hv,newVar,newRow]),h2,h3,h4⟩
  ·cases hq
 ·rename_i t x;split at hq
  ·rename_i cs hcs;obtain ⟨v',h',κ',h1,h2,h3,h4⟩:=Gw hq hr.heap (E4 (Gt hcs (BA hr x))) t;exact ⟨v',h',κ',_,_,h1,.inl (by simp [Instr.box,newVar,newRow]),h2,h3,h4⟩
  ·cases hq
 ·obtain ⟨h',κ',w',h1,h2,h3,h4⟩:=Nv (P:=P) hq hr.heap (BA hr _) (nilV_ok (BA hr _));exact ⟨_,h',κ',undef,w',h1,.inr ⟨by simp [h2],rfl⟩,.undef _,h3,h4⟩
 ·rename_i t x ty;split at hq
  ·rename_i e hu;obtain ⟨b,h1,h2,h3⟩:=nilK_ok (P:=P) hq (BA hr x) hu;refine ⟨_,h,κ,.bool b,w,h1,.inl ?_,.t _ _ (.bool _),hr.heap,Ext.refl _ _ _⟩;have e1:a.eval (.const (.slice none 0 0))= .slice none 0 0:=rfl;simp only [e1];simp [h2,h3]
  ·cases hq
 ·rename_i args argTypes;split at hq
  ·rename_i s x t t' hxa hta;obtain ⟨htt,hq1⟩:=AH hq;obtain ⟨v,h',κ',val,w',h1,h2,h3,h4,h5⟩:∃v h' κ' val w',K v h'=some r∧(Builtin.append_ #[t,t'] o.type #[a.eval s,a.eval x]).run P w = .ok val w'∧AP B κ' h' w' v val∧Ai B κ' h' w'∧Ext κ h w κ' h' w':=by
    split at hq1
    ·exact Ov (P:=P) htt hq1 hr.heap (BA hr s) (BA hr x) o.type
    ·exact IT (P:=P) htt hq1 hr.heap (BA hr s) (BA hr x) o.type
   have e1:args = #[s,x]:=by cases args;simp_all
   have e2:argTypes = #[t,t']:=by cases argTypes;simp_all
   subst e1 e2;exact ⟨v,h',κ',val,w',h1,.inl (by simp [resolve,invoke,builtin,h2]),h3,h4,h5⟩
  ·cases hq
 ·rename_i args argTypes;split at hq
  ·rename_i x t hxa hta;obtain ⟨h',w',h1,h2,h3,h4⟩:=UH (P:=P) hq hr.heap (BA hr x) o.type;have e1:args = #[x]:=by cases args;simp_all
   have e2:argTypes = #[t]:=by cases argTypes;simp_all
   subst e1 e2;exact ⟨_,h',κ,.tuple #[],w',h1,.inl (by simp [resolve,invoke,builtin,h2]),.tuple _ _ rfl (fun j x hx=>by simp at hx),h3,h4⟩
  ·cases hq
 ·rename_i args argTypes;split at hq
  ·rename_i d x t t' hxa hta;obtain ⟨v,h',val,w',h1,h2,h3,h4,h5⟩:=V8 (P:=P) (t':=t') hq hr.heap (BA hr d) (BA hr x) o.type;have e1:args = #[d,x]:=by cases args;simp_all
   have e2:argTypes = #[t,t']:=by cases argTypes;simp_all
   subst e1 e2;exact ⟨v,h',κ,val,w',h1,.inl (by simp [resolve,invoke,builtin,h2]),h3,h4,h5⟩
  ·cases hq
 ·obtain ⟨v,h',κ',val,w',h1,h2,h3,h4,h5⟩:=V4 (P:=P) hq hr.heap (BA hr _) (BA hr _);exact ⟨v,h',κ',val,w',h1,.inl (by simp [h2]),h3,h4,h5⟩
 ·obtain ⟨v,h',κ',val,w',h1,h2,h3,h4,h5⟩:=Qb (P:=P) hq hr.heap;exact ⟨v,h',κ',val,w',h1,.inl (by simp [h2]),h3,h4,h5⟩
 ·obtain ⟨h',w',h1,h2,h3,h4⟩:=R3 (P:=P) hq hr.heap (BA hr _) (BA hr _) (BA hr _);exact ⟨_,h',κ,undef,w',h1,.inr ⟨by simp [h2],rfl⟩,.undef _,h3,h4⟩
 ·cases hq
theorem T7 {t:TypeId} {x:Operand} {K:AV→Option R} {r:R} (hq:J4 P t (ev env x) h K=some r) (hr:Rel B N κ env h a w) (o:Oper) (ho:o.op = .box t x) :
  ∃v κ' val w',K v=some r∧(execOp a.eval o).run P w = .ok (.value val) w'∧AP B κ' h w' v val∧Ai B κ' h w'∧Ext κ h w κ' h w':=by
 unfold J4 at hq
 try simp only [AE] at hq
 split at hq
 ·rename_i cs n hcs hn;obtain ⟨hl,hq⟩:=AH hq;have hc:=Gt hcs (BA hr x);obtain ⟨xs,hK,hxl,_,hT⟩:=Cc (P:=P) hq hr.heap (vs:=(a.eval x).cells.toList) (by simpa using hc.1) (Bi hc);have x1:Ext κ h w κ h (w.alloc (.cells (a.eval x).cells t)):=HN hr.heap _;have hh1:Ai B κ h (w.alloc (.cells (a.eval x).cells t)):=HD hr.heap x1 fun b hb=>Ak w _ hb;have hnew:(w.alloc (.cells (a.eval x).cells t)).heap[w.heap.size]? = some (.cells (a.eval x).cells t):=by show (w.heap.push (.cells (a.eval x).cells t))[w.heap.size]? = _;simp
  refine ⟨_,κ,.pointer (some ⟨w.heap.size,0,none⟩),w.alloc (.cells (a.eval x).cells t),hK,?_,?_,hh1,x1⟩
  ·unfold execOp;rw [ho];simp [Instr.box,newVar,newRow]
  ·have hsz:xs.length=(a.eval x).cells.size:=by rw [hxl];exact hc.1.symm
   refine .eptr n xs 0 w.heap.size 0 (fun c=>(a.eval x).cells.getD c undef) (by omega) (by simp [World.size_alloc]) ?_ (fun c y hy => ?_) (fun c y hy => ?_)
   ·rintro (hb|⟨i,base,ob,y1,_,_⟩)
    ·have:=hr.heap.ltB _ hb;omega
    ·have:=hr.heap.lt i _ _ y1;omega
   ·have hlt:c<(a.eval x).cells.size:=by rw [← hsz];exact AT hy
    rw [zero_add,BT hnew hlt]
   ·have hlt:c<(a.eval x).cells.size:=by rw [← hsz];exact AT hy
    have:=hT c y ((a.eval x).cells.getD c undef) hy (by simp [Array.getD,hlt]);refine BS.ext x1 (this.less ?_)
    rintro b (hb|hb)
    ·exact .inl hb
    ·exact .inr ⟨rfl,hb⟩
 ·cases hq
theorem Qe {t:TypeId} {K:AV→Heap→Option R} {r:R} (hq:Fq P t h K=some r) (hr:Rel B N κ env h a w) (o:Oper) (ho:o.op = .alloc t) :
  ∃v h' κ' val w',K v h'=some r∧(execOp a.eval o).run P w = .ok (.value val) w'∧AP B κ' h' w' v val∧Ai B κ' h' w'∧Ext κ h w κ' h' w':=by
 unfold Fq at hq
 try simp only [AE] at hq
 split at hq
 ·rename_i z n hz hn;obtain ⟨⟨hn0,hl⟩,hq⟩:=AH hq;obtain ⟨i,v,hi,hv,hc⟩:=CE (B:=B) (κ:=κ) (h:=h) (w:=w) hz;obtain ⟨xs,hK,hxl,_,hT⟩:=Cc (P:=P) hq hr.heap (vs:=v.cells.toList) (by simpa using hc.1) (Bi hc);have h5:∀b,b<w.heap.size→(w.alloc (.cells v.cells t)).heap[b]? = w.heap[b]? :=fun b hb=>Ak w _ hb;have x2:Ext κ h w (κ++[some (w.heap.size,0)]) (h++[.row false 0 n [xs]]) (w.alloc (.cells v.cells t)):=
   Bb (w':=w.alloc (.cells v.cells t)) hr.heap rfl rfl rfl (by simp) h5 fun b base e=>by injection e with e;injection e with e;omega
  have hsz:v.cells.size=n:=by rw [hc.1,hl]
  have hh2:=BK hr.heap h5 x2 (fun b base e=>by injection e with e;injection e with e;subst e;exact ⟨le_refl _,by simp⟩)
   (Bz hn0 (A8 w _) (.inl rfl) (by simp [hsz]) ⟨fun j e he=>by
     cases j with
     |zero=>simp at he;subst he;rw [hxl,hl]
     |succ j=>simp at he,fun j e c y he hy=>by
     cases j with
     |zero=>
      simp at he;subst he;have hc2:c<v.cells.size:=by rw [hsz,← hl,← hxl];exact AT hy
      have:=hT c y (v.cells.getD c undef) hy (by simp [Array.getD,hc2]);have t2:=BS.ext x2 (this.less (A':=fun b=>B b∨Ex κ h b) (by
       rintro b (hb|hb)
       ·exact .inl hb
       ·exact .inr ⟨rfl,hb⟩))
      simpa using t2
     |succ j=>simp at he⟩)
  refine ⟨_,_,_,.pointer (some ⟨w.heap.size,0,none⟩),w.alloc (.cells v.cells t),hK,?_,?_,hh2,x2⟩
  ·unfold execOp;rw [ho];simp [Instr.alloc,zeroValue,typeInfo,hi,hv,newVar,newRow]
  ·refine .rptr _ _ _ _ _ ⟨_,rfl⟩ ⟨_,Ag h _,le_refl _⟩ fun o' ho' _ => ?_;rw [Ag h _] at ho';cases ho';exact ⟨w.heap.size,0,by rw [← hr.heap.len];exact Ag κ _,by simp,rfl,by simp [AF.len]⟩
 ·cases hq
theorem SO {κ':A0} {h':Heap} {t:TypeId} {v:Value} {n ver:Nat} {xs:List Tree} (hn0:n≠0) (hxl:xs.length=n) (hsz:v.cells.size=n)
  (x2:Ext κ h w κ' h' (w.alloc (.cells v.cells t))) (hT:∀(c:Nat) (y:Tree) (u:Value),xs[c]? = some y→v.cells.toList[c]? = some u→BS w (fun b=>B b∨(true=true∧Ex κ h b)) y u) :
  GC B κ' h' (w.alloc (.cells v.cells t)) (some (w.heap.size,0)) (.row false ver n [xs]):=
 Bz hn0 (A8 w _) (.inl rfl) (by simp [hsz]) ⟨fun j e he=>by
  cases j with
  |zero=>simp at he;subst he;exact hxl
  |succ j=>simp at he,fun j e c y he hy=>by
  cases j with
  |zero=>
   simp at he;subst he;have hc2:c<v.cells.size:=by rw [hsz,← hxl];exact AT hy
   have:=hT c y (v.cells.getD c undef) hy (by simp [Array.getD,hc2]);have t2:=BS.ext x2 (this.less (A':=fun b=>B b∨Ex κ h b) (by
    rintro b (hb|hb)
    ·exact .inl hb
    ·exact .inr ⟨rfl,hb⟩))
   simpa using t2
  |succ j=>simp at he⟩
theorem Qd {tf:TypeId→Bool} {t:TypeId} {u u2:AV} {K:AV→Heap→Option R} {r:R} (hq:Mj P tf t u u2 h K=some r) (hr:Rel B N κ env h a w) (o:Oper) (ho:o.op = .alloc t) :
  ∃v h' κ' val w',K v h'=some r∧(execOp a.eval o).run P w = .ok (.value val) w'∧AP B κ' h' w' v val∧Ai B κ' h' w'∧Ext κ h w κ' h' w':=by
 unfold Mj at hq
 try simp only [AE] at hq
 split at hq
 ·rename_i z n hz hn;obtain ⟨⟨hn0,hl⟩,hq⟩:=AH hq;obtain ⟨i,v,hi,hv,hc⟩:=CE (B:=B) (κ:=κ) (h:=h) (w:=w) hz;obtain ⟨xs,hK,hxl,_,hT⟩:=Cc (P:=P) hq hr.heap (vs:=v.cells.toList) (by simpa using hc.1) (Bi hc);have h5:∀b,b<w.heap.size→(w.alloc (.cells v.cells t)).heap[b]? = w.heap[b]? :=fun b hb=>Ak w _ hb;have hsz:v.cells.size=n:=by rw [hc.1,hl]
  have hxn:xs.length=n:=by rw [hxl,hl]
  have hrun:(execOp a.eval o).run P w = .ok (.value (.pointer (some ⟨w.heap.size,0,none⟩))) (w.alloc (.cells v.cells t)):=by unfold execOp;rw [ho];simp [Instr.alloc,zeroValue,typeInfo,hi,hv,newVar,newRow]
  split at hK
  ·rename_i ri rv rk ro _;split at hK
   ·split at hK
    ·rename_i ver' size es hri;obtain ⟨kk,hkk⟩:=Bk hr.heap hri;have hOL:OLe (.row false ver' size es) (.row false (ver'+1) n [xs]):=⟨rfl,le_succ _,(fun e=>by simp [AF.ver] at e),(fun e=>by cases e),(fun e=>by cases e),rfl⟩
     have x1:Ext κ h w (κ.set ri (some (w.heap.size,0))) (h.set ri (.row false (ver'+1) n [xs])) (w.alloc (.cells v.cells t)):=
      CW (w':=w.alloc _) hr.heap hri rfl hOL hkk rfl rfl rfl (by simp) (fun b' hb' _=>h5 b' hb') (fun b base e=>by injection e with e;injection e with e;exact .inr (by omega)) (fun e=>by simp [AF.ver] at e)
     have hh1:=Bu hr.heap hri hkk (fun b' hb' _=>h5 b' hb') (fun b base e=>by injection e with e;injection e with e;subst e;exact ⟨.inr (le_refl _),by simp⟩) x1 (SO hn0 hxn hsz x1 hT);refine ⟨_,_,_,_,_,hK,hrun,?_,hh1,x1⟩;refine .rptr _ _ _ _ _ ⟨_,rfl⟩ ⟨_,Aq hri,le_refl _⟩ fun o' ho' _ => ?_;rw [Aq hri] at ho';cases ho';exact ⟨w.heap.size,0,Aq hkk,by simp,rfl,by simp [AF.len]⟩
    ·cases hK
   ·obtain ⟨v',h',κ',h1,h2,h3,h4⟩:=Gw hK hr.heap (E4 hc) t;exact ⟨v',h',κ',_,_,h1,hrun,h2,h3,h4⟩
  ·have x2:Ext κ h w (κ++[some (w.heap.size,0)]) (h++[.row false 0 n [xs]]) (w.alloc (.cells v.cells t)):=
    Bb (w':=w.alloc (.cells v.cells t)) hr.heap rfl rfl rfl (by simp) h5 fun b base e=>by injection e with e;injection e with e;omega
   have hh2:=BK hr.heap h5 x2 (fun b base e=>by injection e with e;injection e with e;subst e;exact ⟨le_refl _,by simp⟩) (SO hn0 hxn hsz x2 hT);refine ⟨_,_,_,_,_,hK,hrun,?_,hh2,x2⟩;refine .rptr _ _ _ _ _ ⟨_,rfl⟩ ⟨_,Ag h _,le_refl _⟩ fun o' ho' _ => ?_;rw [Ag h _] at ho';cases ho';exact ⟨w.heap.size,0,by rw [← hr.heap.len];exact Ag κ _,by simp,rfl,by simp [AF.len]⟩
 ·cases hq
end Ab
namespace Ab
open Go
variable {R:Type} {P:Program} {B:Nat→Prop} {κ:A0} {h:Heap} {w:World}
theorem Bj {α:Type} {l:List α} {m i:Nat} {x:α} (hx:(l.take m)[i]? = some x):i<m∧l[i]? = some x:=by
 rcases lt_or_ge i m with h1|h1
 ·rw [getElem?_take_of_lt h1] at hx;exact ⟨h1,hx⟩
 ·simp [getElem?_take,not_lt.2 h1] at hx
theorem Cb {α:Type} {l:List α} {m i:Nat} {x:α} (hi:i<m) (hx:l[i]? = some x):(l.take m)[i]? = some x:=by rw [getElem?_take_of_lt hi];exact hx
theorem Ex.take {m b:Nat} (hx:Ex (κ.take m) (h.take m) b):Ex κ h b:=by obtain ⟨i,base,o,h1,h2,h3⟩:=hx;exact ⟨i,base,o,(Bj h1).2,(Bj h2).2,h3⟩
theorem AP.Da {m:Nat} {x:AV} {v:Value} (hv:AP B κ h w x v) (hr:Refs m x):AP B (κ.take m) (h.take m) w x v:=by
 induction hv with
 |undef v=>exact .undef v
 |t y v ht=>exact .t y v (ht.less fun b hb=>hb.imp id Ex.take)
 |nilsl a=>exact .nilsl a
 |ptr i off b base hk hb=>
  cases hr with
  |ptr _ _ hi=>obtain ⟨cs,hcs⟩:=hb;exact .ptr _ _ _ _ (Cb hi hk) ⟨cs,Cb hi hcs⟩
 |mref i b hk hb=>
  cases hr with
  |mref _ hi=>obtain ⟨k,ke,es,hes⟩:=hb;exact .mref _ _ (Cb hi hk) ⟨k,ke,es,Cb hi hes⟩
 |rptr i ver k off v h1 hex hv=>
  cases hr with
  |rptr _ _ _ _ hi=>
   obtain ⟨o,ho,hver⟩:=hex;refine .rptr _ _ _ _ _ h1 ⟨o,Cb hi ho,hver⟩ fun o' ho' he => ?_;obtain ⟨b,base,e0,e1⟩:=hv o' (Bj ho').2 he;exact ⟨b,base,Cb hi e0,e1⟩
 |eptr size cells off b base u h1 h2 h3 h4 h5=>exact .eptr _ _ _ _ _ u h1 h2 (fun hh=>h3 (hh.imp id Ex.take)) h4 fun c y hy=>(h5 c y hy).less fun b hb=>hb.imp id Ex.take
 |sref i ver off len v h1 hex hs=>
  cases hr with
  |sref _ _ _ _ hi=>
   obtain ⟨o,ho,hver⟩:=hex;exact .sref _ _ _ _ _ h1 ⟨o,Cb hi ho,hver⟩ fun k o' hk ho' he=>hs k o' (Bj hk).2 (Bj ho').2 he
 |bsl i off len size cap b hk hb hl=>
  cases hr with
  |bsl _ _ _ _ hi=>obtain ⟨cs,hcs,hc⟩:=hb;exact .bsl _ _ _ _ _ _ (Cb hi hk) ⟨cs,Cb hi hcs,hc⟩ hl
 |yld i b base hk hb=>
  cases hr with
  |yld _ hi=>obtain ⟨l,hl⟩:=hb;exact .yld _ _ _ (Cb hi hk) ⟨l,Cb hi hl⟩
 |func fn first captured fs cs h1 h2 _ _ i1 i2=>
  cases hr with
  |func _ _ _ r1 r2=>exact .func _ _ _ _ _ h1 h2 (fun j x hx=>i1 j x hx (r1 j x hx)) (fun j x hx=>i2 j x hx (r2 j x hx))
 |agg xs vs h1 _ ih=>
  cases hr with
  |agg _ r1=>exact .agg _ _ h1 fun j x hx=>ih j x hx (r1 j x hx)
 |tuple xs vs h1 _ ih=>
  cases hr with
  |tuple _ r1=>exact .tuple _ _ h1 fun j x hx=>ih j x hx (r1 j x hx)
theorem D9 {α:Type} {p:α→Bool} {l:List α} (hl:l.all p=true) {j:Nat} {x:α} (hx:l[j]? = some x):p x=true:=
 (all_eq_true.1 hl) x (mem_of_getElem? hx)
theorem DS:∀(d:Nat) {m:Nat} {x:AV},below d m x=true→Refs m x
 |0,m,x,hb=>by simp [below] at hb
 |d+1,m,x,hb=>by
  cases x with
  |undef=>exact .undef
  |t y=>exact .t y
  |nilsl=>exact .nilsl
  |eptr a b c=>exact .eptr _ _ _
  |ptr i off=>exact .ptr _ _ (by simpa [below] using hb)
  |rptr i v k o=>exact .rptr _ _ _ _ (by simpa [below] using hb)
  |sref i v k o=>exact .sref _ _ _ _ (by simpa [below] using hb)
  |bsl i v k o=>exact .bsl _ _ _ _ (by simpa [below] using hb)
  |yld i=>exact .yld _ (by simpa [below] using hb)
  |mref i=>exact .mref _ (by simpa [below] using hb)
  |func fn f c=>
   simp only [below,and_eq_true] at hb;exact .func _ _ _ (fun j x hx=>DS d (D9 hb.1 hx)) (fun j x hx=>DS d (D9 hb.2 hx))
  |agg cs=>simp only [below] at hb;exact .agg _ fun j x hx=>DS d (D9 hb hx)
  |tuple cs=>simp only [below] at hb;exact .tuple _ fun j x hx=>DS d (D9 hb hx)
theorem Refs.mono {m m':Nat} (hm:m≤m') {x:AV} (hx:Refs m x):Refs m' x:=by
 induction hx with
 |undef=>exact .undef
 |t y=>exact .t y
 |nilsl=>exact .nilsl
 |ptr i o hi=>exact .ptr _ _ (lt_of_lt_of_le hi hm)
 |rptr i v k o hi=>exact .rptr _ _ _ _ (lt_of_lt_of_le hi hm)
 |eptr a b c=>exact .eptr _ _ _
 |sref i v k o hi=>exact .sref _ _ _ _ (lt_of_lt_of_le hi hm)
 |bsl i v k o hi=>exact .bsl _ _ _ _ (lt_of_lt_of_le hi hm)
 |yld i hi=>exact .yld _ (lt_of_lt_of_le hi hm)
 |mref i hi=>exact .mref _ (lt_of_lt_of_le hi hm)
 |func fn f c _ _ i1 i2=>exact .func _ _ _ i1 i2
 |agg xs _ ih=>exact .agg _ ih
 |tuple xs _ ih=>exact .tuple _ ih
theorem GC.Da {m:Nat} {k:Option (Nat×Nat)} {o:AF} (ho:GC B κ h w k o) (hb:Ge m o=true):GC B (κ.take m) (h.take m) w k o:=by
 cases k with
 |none=>
  cases o with
  |row f v s es=>exact ho
  |box cs=>exact ho.elim
  |loop l=>exact ho.elim
  |mapo a b c=>exact ho.elim
 |some p=>
  obtain ⟨b,base⟩:=p;cases o with
  |box cs=>
   obtain ⟨h0,cells,elem,hc,hs,hv⟩:=ho;exact ⟨h0,cells,elem,hc,hs,fun j y hy=>(hv j y hy).Da (DS 4 (D9 hb hy))⟩
  |row f v s es=>
   obtain ⟨hz,cells,elem,fr,hc,hth,hs,hl,hv⟩:=ho;exact ⟨hz,cells,elem,fr,hc,hth,hs,hl,fun j e c y he hy=>(hv j e c y he hy).less fun b hb=>hb.imp id Ex.take⟩
  |mapo a b c=>exact ho
  |loop l=>
   obtain ⟨f,tmps,hc,hs,hv,hrf,hd,hn⟩:=ho;have hle:l.hl≤m:=by simpa [Ge] using hb
   exact ⟨f,tmps,hc,hs,fun i=>(hv i).Da ((hrf i).mono hle),hrf,hd,fun he=>hn he.take⟩
theorem Ai.Da {m:Nat} (hh:Ai B κ h w) (hb:(h.take m).all (Ge m)=true):Ai B (κ.take m) (h.take m) w:=
  ⟨by simp [hh.len],fun i j b bs bs' hi hj=>hh.inj i j b bs bs' (Bj hi).2 (Bj hj).2,fun i b bs hi=>hh.notB i b bs (Bj hi).2,fun i b bs hi=>hh.lt i b bs (Bj hi).2,hh.ltB,
   fun i o k ho hk=>(hh.obj i o k (Bj ho).2 (Bj hk).2).Da (D9 hb ho)⟩
theorem Ext.Da {κ':A0} {h':Heap} {w':World} (x:Ext κ h w κ' h' w') {m:Nat} (hm:h.length≤m):Ext κ h w (κ'.take m) (h'.take m) w' where
 os:=x.os
 tape:=x.tape
 output:=x.output
 size:=x.size
 keep:=x.keep
 ex:=fun b hb=>x.ex b hb.take
 obj:=fun i o ho=>by obtain ⟨o',h1,h2⟩:=x.obj i o ho;exact ⟨o',Cb (lt_of_lt_of_le (AT ho) hm) h1,h2⟩
 kap:=fun i o o' ho ho' hv=>by rw [getElem?_take_of_lt (lt_of_lt_of_le (AT ho) hm)];exact x.kap i o o' ho (Bj ho').2 hv
 cells:=fun i o o' ho ho' hv b base hk cells elem fr hc=>x.cells i o o' ho (Bj ho').2 hv b base hk cells elem fr hc
theorem PZ {x0 x:Tree} (hs:Ug x0 x=true):Pb x0 x=x:=by
 cases x0 with
 |int k n=>exact (NW hs).symm
 |bool b=>exact (Ly hs).symm
 |str b=>exact (NV hs).symm
 |sl a b=>exact (Pv hs).symm
 |const v=>rfl
 |mp k m=>rfl
theorem LS (d:Nat) (ih:∀{v v':AV},FW d v v'=true→v=v'):∀{a b:List AV},FW.Az d a b=true→a=b
 |[],[],_=>rfl
 |[],_::_,h=>by simp [FW.Az] at h
 |_::_,[],h=>by simp [FW.Az] at h
 |x::a,y::b,h=>by simp only [FW.Az,and_eq_true] at h;rw [ih h.1,LS d ih h.2]
theorem FV:∀(d:Nat) {v v':AV},FW d v v'=true→v=v'
 |0,v,v',h=>by simp [FW] at h
 |d+1,v,v',h=>by
  unfold FW at h;split at h
  ·simp only [and_eq_true,beq_iff_eq] at h;rw [h.1,h.2]
  ·simp only [beq_iff_eq] at h;rw [h]
  ·simp only [beq_iff_eq] at h;rw [h]
  ·rfl
  ·simp only [and_eq_true,beq_iff_eq] at h;rw [h.1.1,LS d (FV d) h.1.2,LS d (FV d) h.2]
  ·cases h
theorem GZ {v0 v:AV} (hs:H3 v0 v=true):Ei v0 v=v:=by
 cases v0 with
 |t x=>
  simp only [H3,and_eq_true] at hs;cases v with
  |t y=>
   simp only [Ei,A1] at hs ⊢;rw [PZ hs.2]
  |_=>simp [isT] at hs
 |sref r a b c=>cases v<;>simp_all [H3,Ei,E0,Hp,Hq]
 |rptr r a b c=>cases v<;>simp_all [H3,Ei,E0]
 |ptr i o=>exact FV 4 hs
 |yld i=>exact FV 4 hs
 |mref i=>exact FV 4 hs
 |func f a b=>exact FV 4 hs
 |_=>rfl
theorem EJ:∀{cs0 cs:List AV} (pre:List AV),DO cs0 cs=true→CZ (.box (pre++cs)) cs0 pre.length=cs
 |[],[],pre,_=>rfl
 |[],c::cs,pre,hs=>by simp [DO] at hs
 |c0::cs0,[],pre,hs=>by simp [DO] at hs
 |c0::cs0,c::cs,pre,hs=>by
  simp only [DO,and_eq_true] at hs;have ih:=EJ (pre++[c]) hs.2;simp only [append_assoc,singleton_append,length_append,length_cons,length_nil,zero_add] at ih;have hc:cellOf (.box (pre++c::cs)) pre.length=c:=by simp [cellOf]
  simp only [CZ,hc,GZ hs.1,ih]
theorem Pc {v0 v:AV} (hs:LM v0 v=true):Gb v0 v=v:=by
 cases v0 with
 |agg cs0=>
  simp only [LM,and_eq_true] at hs;cases v with
  |agg cs=>
   simp only [Gb,EG] at hs ⊢;rw [show CZ (.box cs) cs0 0=cs from EJ [] hs.2]
  |_=>simp [isAgg] at hs
 |_=>
  simp only [LM] at hs;simp only [Gb];exact GZ hs
theorem LY {o0 o:AF} (hs:B4 o0 o=true) (hf:o0.KP=true→o=o0) (hrec:o0.kind=1→o.rec? = o0.rec?) (hfx:FP o0=true→o=o0):reshape o0 o=o:=by
 by_cases hfo:FP o0=true
 ·have:=hfx hfo;subst this;cases o with
  |box cs=>simp only [reshape,hfo,if_true]
  |_=>simp [FP] at hfo
 cases o0 with
 |box cs0=>
  cases o with
  |box cs=>simp only [B4,or_eq_true,hfo,false_eq_true,false_or] at hs;simp only [reshape,if_neg hfo];rw [show CZ (.box cs) cs0 0=cs from EJ [] hs]
  |row a b c d=>simp [B4] at hs
  |loop l=>simp [B4] at hs
  |mapo a b c=>simp [B4] at hs
 |mapo k ke es=>
  cases o with
  |box cs=>simp [B4] at hs
  |row a b c d=>simp [B4] at hs
  |loop l=>simp [B4] at hs
  |mapo a b c=>
   simp only [B4,decide_eq_true_eq] at hs;simp only [reshape,Lq,hs.1,hs.2]
 |row f v s es=>
  cases f with
  |true=>rw [hf rfl];rfl
  |false=>
   cases o with
   |box cs=>simp [B4] at hs
   |loop l=>simp [B4] at hs
   |mapo a b c=>simp [B4] at hs
   |row f' v' s' es'=>
    simp only [B4,and_eq_true,not_eq_true',or_eq_true,beq_iff_eq] at hs;obtain ⟨rfl,hs⟩:=hs;simp only [reshape,AF.ver,AF.size,Re];rcases hs with rfl|rfl
    ·simp
    ·split<;>simp_all
 |loop l0=>
  cases o with
  |box cs=>simp [B4] at hs
  |row a b c d=>simp [B4] at hs
  |mapo a b c=>simp [B4] at hs
  |loop l=>
   have hrec:=hrec rfl;simp only [AF.rec?,Option.some.injEq] at hrec;simp only [B4,and_eq_true,beq_iff_eq] at hs;have hp:=PU hs.2;simp only [reshape];cases l;cases l0;simp_all
theorem M0 {o0 o o':AF} (hs:still o0=true):reshape o0 o=reshape o0 o':=by
 cases o0 with
 |box cs=>have hs:FP (.box cs)=true:=hs;simp only [reshape,hs,if_true]
 |row f v s es=>cases f with
  |true=>rfl
  |false=>cases hs
 |mapo a b c=>cases hs
 |loop l=>rfl
theorem LB:∀{h0 h:Heap} (pre:Heap),GQ h0 h=true→(∀(i:Nat) (o0 o:AF),h0[i]? = some o0→h[i]? = some o→(o0.KP=true→o=o0)∧(o0.kind=1→o.rec? = o0.rec?)∧(FP o0=true→o=o0))→
  ∀(rest:Heap),Bq h0 pre.length (pre++(Ud h0 h++rest))=h.take h0.length
 |[],h,pre,_,_,rest=>by simp [Bq]
 |o0::h0,[],pre,hs,_,rest=>by simp [GQ] at hs
 |o0::h0,o::h,pre,hs,hx,rest=>by
  simp only [GQ,and_eq_true] at hs;have ih:=LB (h0:=h0) (h:=h) (pre++[if still o0 then .box [] else o]) hs.2 (fun i a b ha hb=>hx (i+1) a b (by simpa using ha) (by simpa using hb)) rest;simp only [append_assoc,singleton_append,length_append,length_cons,length_nil,zero_add] at ih;obtain ⟨h1,h2,h3⟩:=hx 0 o0 o rfl rfl;simp only [Bq,Ud,length_cons,List.take_succ_cons,cons_append];rw [ih];have hg:(pre++(if still o0 then .box [] else o)::(Ud h0 h++rest)).getD pre.length default=(if still o0 then .box [] else o):=by simp [List.getD]
  rw [hg];by_cases hst:still o0=true
  ·rw [M0 hst (o':=o),LY hs.1 h1 h2 h3]
  ·rw [if_neg hst,LY hs.1 h1 h2 h3]
theorem Jv {r:R}:∀{h0 h:Heap} {a:Option R},Ts h0 h a=some r→a=some r∧∀(i:Nat) (o0 o:AF),h0[i]? = some o0→h[i]? = some o→FP o0=true→o=o0
 |[],h,a,hr=>⟨hr,fun i o0 o h0=>by simp at h0⟩
 |o0::h0,[],a,hr=>by simp [Ts] at hr
 |o0::h0,o::h,a,hr=>by
  unfold Ts at hr;split at hr
  ·unfold Ru at hr;split at hr
   ·rename_i he;obtain ⟨h1,h2⟩:=Jv hr;refine ⟨h1,fun i x y hx hy hf => ?_⟩;cases i with
    |zero=>simp at hx hy;rw [← hx,← hy,he]
    |succ i=>exact h2 i x y (by simpa using hx) (by simpa using hy) hf
   ·cases hr
  ·rename_i hn;obtain ⟨h1,h2⟩:=Jv hr;refine ⟨h1,fun i x y hx hy hf => ?_⟩;cases i with
   |zero=>simp at hx;rw [← hx] at hf;exact absurd hf hn
   |succ i=>exact h2 i x y (by simpa using hx) (by simpa using hy) hf
theorem S0 {h0 h':Heap} {K:Heap→Option R} {r:R} (hr:cutK h0 h' K=some r) (hx:∀(i:Nat) (o0 o:AF),h0[i]? = some o0→h'[i]? = some o→(o0.KP=true→o=o0)∧(o0.kind=1→o.rec? = o0.rec?)) :
  ∃hs,K hs=some r∧Bq h0 0 hs=h'.take h0.length∧(h'.take h0.length).all (Ge h0.length)=true:=by
 unfold cutK at hr
 try simp only [AE] at hr
 obtain ⟨⟨h1,h2⟩,h3⟩:=AH hr;obtain ⟨h3,h4⟩:=Jv h3;refine ⟨_,h3,?_,h1⟩;have:=LB [] h2 (fun i o0 o ha hb=>⟨(hx i o0 o ha hb).1,(hx i o0 o ha hb).2,h4 i o0 o ha hb⟩) [];simpa using this
theorem KJ {P:Program}:∀{ts:List TypeId} {vs:List AV} (pre:List AV),FI P ts vs=true→Ga P (pre++vs) ts pre.length=vs
 |[],[],pre,_=>rfl
 |[],v::vs,pre,h=>by simp [FI] at h
 |t::ts,[],pre,h=>by simp [FI] at h
 |t::ts,v::vs,pre,h=>by
  simp only [FI,and_eq_true] at h;have ih:=KJ (pre++[v]) h.2;simp only [append_assoc,singleton_append,length_append,length_cons,length_nil,zero_add] at ih;have hc:(pre++v::vs).getD pre.length .undef=v:=by simp
  simp only [Ga,hc,GZ h.1.2,ih]
theorem PR {P:Program}:∀{ts:List TypeId} {vs:List AV},FI P ts vs=true→∀(i:Nat) (m:Nat),Refs m (vs.getD i .undef)
 |[],[],_,i,m=>by simp;exact .undef
 |[],v::vs,h,_,_=>by simp [FI] at h
 |t::ts,[],h,_,_=>by simp [FI] at h
 |t::ts,v::vs,h,i,m=>by
  simp only [FI,and_eq_true] at h;cases i with
  |zero=>
   have h1:=h.1.1;cases v<;>first|(exact .t _)|(simp [isT] at h1)
  |succ i=>simpa using PR h.2 i m
theorem NL {h:Heap}:∀{ls:List AV} {i v:Nat},FJ h ls=some (i,v)→∃s es,h[i]? = some (.row false v s es)
 |[],i,v,hr=>by simp [FJ] at hr
 |x::ls,i,v,hr=>by
  cases x with
  |sref j a b c=>
   simp only [FJ] at hr;split at hr
   ·rename_i v' s es hj;cases hr;exact ⟨s,es,hj⟩
   ·cases hr
  |_=>exact NL (ls:=ls) hr
theorem Gp {i:Nat}:∀(ls:List AV) (h:Heap),OK i ls=true→∀j,j≠i→(AY h ls)[j]? = h[j]?
 |[],h,_,j,_=>rfl
 |x::ls,h,ho,j,hj=>by
  simp only [OK,all_cons,and_eq_true] at ho;show (AY (Dd h x) ls)[j]? = h[j]?;rw [Gp ls (Dd h x) ho.2 j hj];cases x with
  |sref k a b c=>
   have hk:k=i:=by simpa using ho.1
   simp only [Dd];split
   ·rw [getElem?_set_ne (by omega)]
   ·rfl
  |_=>rfl
theorem Nj {κ':A0} {h':Heap} {w':World} (x:Ext κ h w κ' h' w') (i:Nat) (o0 o:AF) (h0:h[i]? = some o0) (h1:h'[i]? = some o):(o0.KP=true→o=o0)∧(o0.kind=1→o.rec? = o0.rec?):=by obtain ⟨o',h2,h3⟩:=x.obj i o0 h0;rw [h1] at h2;cases h2;exact ⟨h3.2.2.2.1,fun _=>h3.2.2.2.2.2⟩
end Ab
namespace Ab
open Go
variable {R:Type} {P:Program} {B:Nat→Prop} {κ:A0} {h:Heap} {w:World}
theorem CJ {x:AV} {xs:List AV} {v:Value} {vs:List Value} (h1:AP B κ h w x v) (h2:AZ B κ h w xs vs.toArray):AZ B κ h w (x::xs) (v::vs).toArray:=by
 refine ⟨by simpa using h2.1,fun j y hy => ?_⟩;cases j with
 |zero=>simp at hy;subst hy;simpa using h1
 |succ j=>
  have:=h2.2 j y (by simpa using hy);rw [BQ] at this ⊢;simpa using this
theorem Kd {x:AV} {xs:List AV} {vs:Array Value} (hc:AZ B κ h w (x::xs) vs):∃v rest,vs=(v::rest).toArray∧AP B κ h w x v∧AZ B κ h w xs rest.toArray:=by
 obtain ⟨l⟩:=vs;cases l with
 |nil=>have:=hc.1;simp at this
 |cons v rest=>
  refine ⟨v,rest,rfl,by simpa using hc.2 0 x rfl,by simpa using hc.1,fun j y hy => ?_⟩;have:=hc.2 (j+1) y (by simpa using hy);have e1:({toList:=v::rest}:Array Value)=(v::rest).toArray:=rfl;rw [e1,BQ] at this;rw [BQ];simpa using this
theorem D7 (leaf:Nat→AV) (off n j:Nat) (hj:j<n):(A2 leaf off n)[j]? = some (leaf (off+j)):=by simp [A2,hj]
theorem I7:∀{ts:List TypeId} {avs:List AV} {K:List AV→Option R} {r:R} {vs:Array Value},flatK P ts avs K=some r→AZ B κ h w avs vs→
  ∃(ls:List AV) (us:List Value),K ls=some r∧AZ B κ h w ls us.toArray∧
   ∀(B':Nat→Prop) (κ':A0) (h':Heap) (w':World) (leaf:Nat→AV) (off:Nat),(∀j u,us[j]? = some u→AP B' κ' h' w' (leaf (off+j)) u)→∃avs',B7 P leaf ts off=some avs'∧AZ B' κ' h' w' avs' vs
 |[],[],K,r,vs,hr,hc=>by have e:vs = #[]:=eq_empty_of_size_eq_zero hc.1;subst e;exact ⟨[],[],hr,⟨rfl,fun j x hx=>by simp at hx⟩,fun B' κ' h' w' leaf off _=>⟨[],rfl,rfl,fun j x hx=>by simp at hx⟩⟩
 |[],x::avs,K,r,vs,hr,hc=>by simp [flatK] at hr
 |t::ts,[],K,r,vs,hr,hc=>by simp [flatK] at hr
 |t::ts,x::avs,K,r,vs,hr,hc=>by
  obtain ⟨v,rest,rfl,hv,hrest⟩:=Kd hc;simp only [flatK,AE] at hr;split at hr
  ·rename_i ha;split at hr
   ·rename_i cs;obtain ⟨hsz,hr1⟩:=AH hr;obtain ⟨ls,us,h1,h2,h3⟩:=I7 hr1 hrest;cases hv with
    |agg _ arr hs hall=>
     refine ⟨cs++ls,arr.toList++us,h1,⟨by simpa [hs] using h2.1,fun j y hy => ?_⟩,fun B' κ' h' w' leaf off hl => ?_⟩
     ·rw [BQ];rcases lt_or_ge j cs.length with hj|hj
      ·rw [getElem?_append_left hj] at hy;have:=hall j y hy;have hj':j<arr.toList.length:=by simp [hs];exact hj
       simp only [List.getD];rw [getElem?_append_left hj'];have hj2:j<arr.size:=by rw [hs];exact hj
       simp only [Array.getD,hj2,dif_pos] at this;simpa [hj2] using this
      ·rw [getElem?_append_right hj] at hy;have:=h2.2 _ y hy;rw [BQ] at this;simp only [List.getD] at this ⊢;rw [getElem?_append_right (by simp [hs];exact hj)];simpa [hs] using this
     ·obtain ⟨avs',e1,e2⟩:=h3 B' κ' h' w' leaf (off+cs.length) fun j u hu=>by have:=hl (cs.length+j) u (by rw [getElem?_append_right (by simp [hs])];simpa [hs] using hu);rwa [← add_assoc] at this
      refine ⟨.agg (A2 leaf off cs.length)::avs',?_,CJ (.agg _ _ (by simp [A2,hs]) fun j y hy => ?_) e2⟩
      ·simp only [B7,Gh,ha,hsz,e1,map_some]
      ·have hj:j<cs.length:=by have:=AT hy;simpa [A2] using this
       rw [D7 leaf off _ _ hj] at hy;cases hy;have hj2:j<arr.size:=by rw [hs];exact hj
       exact hl j _ (by rw [getElem?_append_left (by simpa using hj2)];simp [Array.getD,hj2])
   ·cases hr
  ·rename_i ha;obtain ⟨hlf,hr1⟩:=AH hr;obtain ⟨ls,us,h1,h2,h3⟩:=I7 hr1 hrest;refine ⟨x::ls,v::us,h1,CJ hv h2,fun B' κ' h' w' leaf off hl => ?_⟩;obtain ⟨avs',e1,e2⟩:=h3 B' κ' h' w' leaf (off+1) fun j u hu=>by have:=hl (j+1) u (by simpa using hu);rwa [show off+(j+1)=off+1+j from by omega] at this
   refine ⟨leaf off::avs',?_,CJ (by simpa using hl 0 v rfl) e2⟩;cases hsz:BZ P t<;>simp only [B7,Gh,ha,hsz,e1,map_some]
  ·cases hr
def Jj (vs:Array Value):Value:=if h:vs.size=1 then vs[0] else .tuple vs
theorem VD {g:FuncId} {fn:Func} (hf:P.funcs[g]? = some fn) {leaf:Nat→AV} {avs:List AV} (hm:B7 P leaf fn.resultTypes.toList 0=some avs) {vs:Array Value} (hc:AZ B κ h w avs vs) :
  ∃r,CO P g leaf=some r∧AP B κ h w r (Jj vs):=by
 unfold CO;rw [hf];simp only [hm];cases avs with
 |nil=>
  refine ⟨_,rfl,?_⟩;have:¬vs.size=1:=by rw [hc.1];simp
  unfold Jj;rw [dif_neg this];exact .tuple _ _ hc.1 hc.2
 |cons x rest=>
  cases rest with
  |nil=>
   refine ⟨x,rfl,?_⟩;have h1:vs.size=1:=by rw [hc.1];simp
   unfold Jj;rw [dif_pos h1];have:=hc.2 0 x rfl;simpa [Array.getD,h1] using this
  |cons y rest=>
   refine ⟨_,rfl,?_⟩;have:¬vs.size=1:=by rw [hc.1];simp
   unfold Jj;rw [dif_neg this];exact .tuple _ _ hc.1 hc.2
def Fr (ro:Option Nat):Fence:={fn:=fun _=>True,depth:=none,alive:=false,round:=ro}
def WN {R:Type} (P:Program) (g:FuncId) (avs:List AV) (h:Heap) (K:List AV→Heap→Option R) (res:R):Prop:=
 ∀(B:Nat→Prop) (κ:A0) (w:World) (vs:Array Value) (n:Nat),Ai B κ h w→AZ B κ h w avs vs→
  CallsIn (Fr none) n P g vs w fun e w'=>∃v r κ' rs h',e = .returned v∧K rs h'=some res∧CO P g (fun i=>rs.getD i .undef)=some r∧AP B κ' h' w' r v∧Ai B κ' h' w'∧Ext κ h w κ' h' w'
def G0 (P:Program) (g:FuncId) (xs ys:List Tree):Prop:=
 ∀(B:Nat→Prop) (w:World) (avs:List AV) (vs:Array Value) (n:Nat),DA P g (fun i =>.t (xs.getD i default))=some avs→(∀b,B b→b<w.heap.size)→AZ B [] [] w avs vs→
  CallsIn (Fr none) n P g vs w fun e w'=>∃v r,e = .returned v∧CO P g (fun i =>.t (ys.getD i default))=some r∧AP B [] [] w' r v∧Grow w w'∧(B8 P g=true→ys.all Tree.scalar=true)
def S6 {R:Type} (P:Program) (i:Nat) (args:List AV) (h:Heap) (K:List AV→Heap→Option R) (res:R):Prop:=
 ∀(B:Nat→Prop) (κ:A0) (w:World) (vs:Array Value) (b base n:Nat),Ai B κ h w→AZ B κ h w args vs→κ[i]? = some (some (b,base))→
  ∃(f:FuncId) (tmps:Array Value) (assign body:Code),(Instr.yield b vs).run P w = .ok (.round b f tmps assign body) w∧
   RoundIn (Fr none) n P b f tmps assign body w fun e w'=>∃v κ' rs h',e = .returned v∧K rs h'=some res∧AP B κ' h' w' (rs.getD 0 .undef) v∧Ai B κ' h' w'∧Ext κ h w κ' h' w'
def DY (P:Program) (rec:Rec):Prop:=∀(R:Type) (r:Req) (h:Heap) (K:List AV→Heap→Option R) (res:R),rec R r h K=some res→match r with
 | .fn g avs=>WN P g avs h K res
 | .yield i args=>S6 P i args h K res
def NewSl (B:Nat→Prop) (w w':World) (s:Nat) (es:List (List Tree)) (v:Value):Prop:=
 (es=[]∧∃a,v = .slice a 0 0)∨∃b base cap cells elem fr,v = .slice (some ⟨b,base,none⟩) es.length cap∧es.length≤cap∧w.heap.size≤b∧b<w'.heap.size∧s≠0∧w'.heap[b]? = some (.cells cells elem fr)∧Ms s cells.size fr∧base+cap*s≤cells.size∧
  (∀(j:Nat) (e:List Tree),es[j]? = some e→e.length=s)∧∀(j:Nat) (e:List Tree) (c:Nat) (x:Tree),es[j]? = some e→e[c]? = some x→BS w' (fun b'=>B b'∨b'=b) x (cells.getD (base+(j*s+c)) undef)
def WC (P:Program) (g:FuncId) (xs ys:List Tree):Prop:=
 ∀(B:Nat→Prop) (w:World) (avs:List AV) (vs:Array Value) (n:Nat),DA P g (fun i =>.t (xs.getD i default))=some avs→(∀b,B b→b<w.heap.size)→AZ B [] [] w avs vs→
  CallsIn (Fr none) n P g vs w fun e w'=>∃v s es,e = .returned v∧ys=[.sl s es]∧Grow w w'∧NewSl B w w' s es v
def WE (u:Value) (b:Nat):Prop:=∃off n cap,u = .slice (some ⟨b,off,none⟩) n cap∧0<cap
def R8 (P:Program) (j:Nat) (g:FuncId) (xs ys:List Tree):Prop:=
 ∀(B:Nat→Prop) (w:World) (avs:List AV) (vs:Array Value) (n:Nat),DA P g (fun i =>.t (xs.getD i default))=some avs→(∀b,B b→b<w.heap.size)→AZ B [] [] w avs vs→
  CallsIn (Fr none) n P g vs w fun e w'=>∃(v:Value) (us:List Value) (z:Nat) (es:List (List Tree)) (u:Value),e = .returned v∧Grow w w'∧ys[j]? = some (.sl z es)∧us.length=ys.length∧us[j]? = some u∧NewSl B w w' z es u∧
   (∀(i:Nat) (y:Tree) (x:Value),i≠j→ys[i]? = some y→us[i]? = some x→BS w' (fun b=>B b∨WE u b) y x)∧
   ∀(B2:Nat→Prop) (κ2:A0) (h2:Heap) (w2:World) (leaf:Nat→AV),(∀i x,us[i]? = some x→AP B2 κ2 h2 w2 (leaf i) x)→∃rv,CO P g leaf=some rv∧AP B2 κ2 h2 w2 rv v
def B3 (P:Program) (pc:BE):Prop:=∀g xs ys,pc g xs=some ys→if g<OWN then G0 P g xs ys else if g<EH then WC P (g-OWN) xs ys else R8 P ((g-EH) % 64) ((g-EH) / 64) xs ys
theorem CallsIn.fr {ro:Option Nat} {n:Nat} {g:FuncId} {vs:Array Value} {Q:Ending→World→Prop} (hc:CallsIn (Fr none) n P g vs w Q):CallsIn (Fr ro) n P g vs w Q:=hc
theorem RoundIn.fr {ro:Option Nat} {n b:Nat} {g:FuncId} {vs:Array Value} {x y:Code} {Q:Ending→World→Prop} (hc:RoundIn (Fr none) n P b g vs x y w Q):RoundIn (Fr ro) n P b g vs x y w Q:=hc
theorem IB {B:Nat→Prop} {w:World} (hB:∀b,B b→b<w.heap.size):Ai B [] [] w:=
 ⟨rfl,fun i j b bs bs' hi=>by simp at hi,fun i b bs hi=>by simp at hi,fun i b bs hi=>by simp at hi,hB,fun i o k ho=>by simp at ho⟩
theorem DE {b:Nat} (hx:Ex [] [] b):False:=by obtain ⟨i,base,o,hk,_⟩:=hx;simp at hk
theorem ED {w':World} (hh:Ai B κ h w) (g:Grow w w'):Ext κ h w κ h w':=MI hh g.os g.tape g.output g.size g.block
theorem Dx {w':World} (hh:Ai B κ h w) (g:Grow w w'):Ai B κ h w':=HD hh (ED hh g) g.block
theorem MC (hh:Ai B κ h w) (v:AV):Ai B κ (Dd h v) w∧Ext κ h w κ (Dd h v) w:=by
 unfold Dd;split
 ·rename_i i _ _ _;split
  ·rename_i f ver s es hi;by_cases hf:f=true
   ·subst hf;have:h.set i (.row true ver s es)=h:=by
     apply ext_getElem?;intro j;by_cases hij:j=i
     ·rw [hij,Aq hi,hi]
     ·rw [CX hij]
    rw [this];exact ⟨hh,Ext.refl _ _ _⟩
   ·have hf':f=false:=by simpa using hf
    subst hf';obtain ⟨k,hk⟩:=Bk hh hi;have hset:κ.set i k=κ:=by
     apply ext_getElem?;intro j;by_cases hij:j=i
     ·rw [hij,Aq hk,hk]
     ·rw [CX hij]
    have x:Ext κ h w κ (h.set i (.row true ver s es)) w:=by
     have x':Ext κ h w (κ.set i k) (h.set i (.row true ver s es)) w:=
      CW (o' :=.row true ver s es) (k':=k) (w':=w) hh hi rfl ⟨rfl,le_refl _,(fun _=>⟨rfl,rfl⟩),(fun e=>by cases e),(fun e=>by cases e),rfl⟩ hk rfl rfl rfl (le_refl _) (fun _ _ _=>rfl)
       (fun b base e =>.inl ⟨base,e⟩) (fun _=>⟨rfl,fun b base _ cells elem fr hc=>⟨cells,hc,rfl⟩⟩)
     rw [hset] at x';exact x'
    refine ⟨?_,x⟩;have ho:=hh.obj i _ _ hi hk;have hh':Ai B (κ.set i k) (h.set i (.row true ver s es)) w:=
     Bu hh hi hk (fun _ _ _=>rfl) (fun b base e=>⟨.inl ⟨base,e⟩,hh.lt i b base (by rw [hk,e])⟩) (by rw [hset];exact x) (by
      rw [hset];cases k with
      |none=>exact ho
      |some p=>
       obtain ⟨b,base⟩:=p;obtain ⟨hz,cells,elem,fr,hc,hth,hs,hl,ht⟩:=ho;exact ⟨hz,cells,elem,fr,hc,hth,hs,hl,fun j e c y he hy=>(ht j e c y he hy).ext x⟩)
    rw [hset] at hh';exact hh'
  ·exact ⟨hh,Ext.refl _ _ _⟩
 ·exact ⟨hh,Ext.refl _ _ _⟩
theorem EU:∀(vs:List AV) {h:Heap},Ai B κ h w→Ai B κ (AY h vs) w∧Ext κ h w κ (AY h vs) w
 |[],h,hh=>⟨hh,Ext.refl _ _ _⟩
 |v::vs,h,hh=>by obtain ⟨h1,x1⟩:=MC hh v;obtain ⟨h2,x2⟩:=EU vs h1;exact ⟨h2,x1.trans x2⟩
theorem Qy {x:Tree} {v:Value} {A A':Nat→Prop} {w w':World} (hs:x.scalar=true) (ht:BS w A x v):BS w' A' x v:=by
 cases ht with
 |int k n=>exact .int k n
 |bool b=>exact .bool b
 |str s=>exact .str s
 |const v _=>simp [Tree.scalar] at hs
 |mp _ _ _ _ _ _ _ _ _=>simp [Tree.scalar] at hs
 |nil _ _ _=>simp [Tree.scalar] at hs
 |sl _ _ _ _ _ _ _ _ _ _ _ _=>simp [Tree.scalar] at hs
end Ab
namespace Go.Proofs
open Go.Shelf Go.RowKit Go.Lib
variable {P:Program} {ρ:Ren}
set_option maxHeartbeats 4000000 in
set_option maxRecDepth 100000 in
theorem Tn {z:Nat} (L:Ew P ρ z) (b off n c i vb voff m vc:Nat) (cs vs:List Value) (w:World) (hi:i<n) (hm:0<m) (hroom:n+m≤c) (hc63:n+m≤9223372036854775807) (hvb:vb≠b)
  (hcl:cs.length=n*z) (hvl:vs.length=m*z)
  (hcs:∀j v,cs[j]? = some v→w.cell? ⟨b,off+j,none⟩=some v) (hsp:∀j,j<(n+m)*z→(w.cell? ⟨b,off+j,none⟩).isSome=true) (hfz:∀j,w.frozen? ⟨b,j,none⟩=false)
  (hvs:∀j v,vs[j]? = some v→w.cell? ⟨vb,voff+j,none⟩=some v) (h1c:∀v∈cs,v.oneCell'=true) (h1v:∀v∈vs,v.oneCell'=true)
  (tA tB:TypeId) (kA kB:Nat) (hsa:w.shape? vb=some (tA,kA)) (hsb:w.shape? b=some (tB,kB)) (hkA:kA≠0) :
  Calls P (ρ.f 22) #[.slice (some ⟨b,off,none⟩) n c,.int .i64 i,.slice (some ⟨vb,voff,none⟩) m vc] w fun e w'=>
   e = .returned (.slice (some ⟨b,off,none⟩) (n+m) c)∧w'=(w.drew.setCells b (off+(i+m)*z) (cs.drop (i*z))).setCells b (off+i*z) vs:=by
 have t3:=L.t3;have a3:=L.a3;have z3:=L.z3;have v3:=L.v3;have t4:=L.t4;have a4:=L.a4;have z4:=L.z4;have v4:=L.v4;have t24:=L.t24;have a24:=L.a24;have z24:=L.z24;have v24:=L.v24;have z9:=L.z9;have u3:=run_underlying L.t3;have u4:=run_underlying L.t4;have u24:=run_underlying L.t24;have hz1:¬((m:Int)=0):=by omega
 have hz2:¬((i:Int)=(n:Int)):=by omega
 obtain ⟨fo,hfo,ho1,ho2,ho3,ho4⟩:=L.f29;have hov:∀lb cb,(callFunc (ρ.f 29) #[.slice (some ⟨vb,voff,none⟩) m vc,.slice (some ⟨b,off+(i+m)*z,none⟩) lb cb]).run P w = .ok (.value (.bool false)) w:=fun lb cb=>by
  rw [run_callFunc_extern hfo ho1 ho2 ho3 ho4,
   Jf w (ρ.t 24) (ρ.t 4) (ρ.t 9) L.t24 z L.z9 ⟨vb,voff,none⟩ ⟨b,off+(i+m)*z,none⟩ m vc lb cb hvb tA tB kA kB hsa hsb hkA (hfz _) (hfz _)]
  rfl
 have hdl:(cs.drop (i*z)).length=(n-i)*z:=by rw [length_drop,hcl,Nat.sub_mul]
 have mixed:=L.mixed;have hw1:IntKind.i64.wrap ((i:Int)+(m:Int))=(i:Int)+(m:Int):=by rw [IntKind.wrap_i64];omega
 have hb1:(0:Int)≤(i:Int)+(m:Int):=by omega
 have hin:i≤n:=by omega
 have htn:((i:Int)+(m:Int)).toNat=i+m:=by omega
 have hb2:¬(c=i+m):=by omega
 have hb3:(i:Int)≤(n:Int)+(m:Int):=by omega
 have hb4:¬(c=i):=by omega
 have hmul1:(i+m)*z+(n-i)*z=(n+m)*z:=by rw [← add_mul];congr 1;omega
 have hmul2:i*z+m*z≤(n+m)*z:=by rw [← add_mul];exact mul_le_mul_right _ (by omega)
 have hcp1:∀ty dc sc,(Builtin.copy_ #[(ρ.t 24),(ρ.t 24)] ty #[.slice (some ⟨b,off+(i+m)*z,none⟩) (n+m-(i+m)) dc,.slice (some ⟨b,off+i*z,none⟩) (n+m-i) sc]).run P w.drew = .ok (goInt ((n-i:Nat):Int)) (w.drew.setCells b (off+(i+m)*z) (cs.drop (i*z))):=fun ty dc sc=>
  DI w.drew _ _ ty (ρ.t 9) z b (off+(i+m)*z) (n+m-(i+m)) dc ⟨b,off+i*z,none⟩ (n+m-i) sc (n-i) (cs.drop (i*z)) L.t24 L.z9 (by simp only [min_def];split<;>omega) hdl
   (fun j v hj=>by rw [Addr.add_lit,add_assoc];exact hcs (i*z+j) v (by rwa [getElem?_drop] at hj))
   (fun j hj=>by rw [add_assoc];exact hsp _ (by omega)) (fun j hj=>hfz _) (fun v hv=>h1c v (mem_of_mem_drop hv))
 obtain ⟨W1,hW1⟩:∃W1,W1=w.drew.setCells b (off+(i+m)*z) (cs.drop (i*z)):=⟨_,rfl⟩
 have hsp1:∀k,k<(n+m)*z→(W1.cell? ⟨b,off+k,none⟩).isSome=true:=fun k hk=>by rw [hW1];exact isSome_setCells b _ _ _ (fun j hj=>by rw [add_assoc];exact hsp _ (by omega)) _ (hsp k hk)
 have hcp2:∀(W:World),(∀x,W.cell? x=W1.cell? x)→(∀x,W.frozen? x=W1.frozen? x)→∀ty dc,(Builtin.copy_ #[(ρ.t 24),(ρ.t 24)] ty #[.slice (some ⟨b,off+i*z,none⟩) (n+m-i) dc,.slice (some ⟨vb,voff,none⟩) m vc]).run P W = .ok (goInt m) (W.setCells b (off+i*z) vs):=fun W hWc hWf ty dc=>
  DI W _ _ ty (ρ.t 9) z b (off+i*z) (n+m-i) dc ⟨vb,voff,none⟩ m vc m vs L.t24 L.z9 (by simp only [min_def];split<;>omega) hvl
   (fun j v hj=>by rw [Addr.add_lit,hWc,hW1,World.cell?_setCells_out b _ _ _ _ (fun h _=>absurd h hvb)];exact hvs j v hj)
   (fun j hj=>by rw [hWc,add_assoc];exact hsp1 _ (by omega)) (fun j hj=>by rw [hWf,hW1,World.frozen?_setCells];exact hfz _) h1v
 rw [← hW1] at hcp1;clear hmul1 hmul2 hdl hsp1;obtain ⟨_,_,FG⟩:=L.f22
 go_enter FG,Body2.n22_ntmps ρ
 go_wp2_with (simp only [hov])
 go_region_law_o (refine step_copy_runI rfl _ _ (ρ.t 24) (ρ.t 24) rfl _ _ (by simp [Act.eval,Act.put]) (by simp [Act.eval,Act.put]) (hcp1 _ _ _) ?_)
 go_wp2_with (at_builtin;refine wpList_copy_runI _ rfl _ _ (ρ.t 24) (ρ.t 24) rfl _ _ rfl rfl (hcp2 _ (fun _=>rfl) (fun _=>rfl) _ _) ?_)
 go_ret
 first|exact ⟨rfl,rfl⟩|exact ⟨rfl,by rw [hW1]⟩
end Go.Proofs
namespace Go.Proofs
open Go.Shelf Go.RowKit Go.Lib
variable {P:Program} {ρ:Ren}
set_option maxHeartbeats 4000000 in
set_option maxRecDepth 100000 in
theorem ins_end {z:Nat} (L:Ew P ρ z) (b off n c m vc:Nat) (va:Option Addr) (w w1:World) (v1:Value) (hm:0<m) (hnc:n≤c) (hc63:n+m≤9223372036854775807)
  (hrun:∀ty,(Builtin.append_ #[(ρ.t 24),(ρ.t 24)] ty #[.slice (some ⟨b,off,none⟩) n c,.slice va m vc]).run P w = .ok v1 w1) :
  Calls P (ρ.f 22) #[.slice (some ⟨b,off,none⟩) n c,.int .i64 n,.slice va m vc] w fun e w'=>e = .returned v1∧w'=w1:=by
 have t3:=L.t3;have a3:=L.a3;have z3:=L.z3;have v3:=L.v3;have t4:=L.t4;have a4:=L.a4;have z4:=L.z4;have v4:=L.v4;have t24:=L.t24;have a24:=L.a24;have z24:=L.z24;have v24:=L.v24;have z9:=L.z9;have u3:=run_underlying L.t3;have u4:=run_underlying L.t4;have u24:=run_underlying L.t24;have mixed:=L.mixed;have hz1:¬((m:Int)=0):=by omega
 obtain ⟨_,_,FG⟩:=L.f22
 go_enter FG,Body2.n22_ntmps ρ
 go_wp2_with (at_builtin;refine Lib.wpList_append_run _ rfl _ _ _ _ rfl _ _ rfl rfl _ _ (hrun _) ?_)
 all_goals (go_ret;exact ⟨rfl,rfl⟩)
set_option maxHeartbeats 4000000 in
set_option maxRecDepth 100000 in
theorem Sk {z:Nat} (L:Ew P ρ z) (a0:Option Addr) (m vc:Nat) (va:Option Addr) (w w1:World) (v1:Value) (hm:0<m)
  (hrun:∀ty,(Builtin.append_ #[(ρ.t 24),(ρ.t 24)] ty #[.slice a0 0 0,.slice va m vc]).run P w = .ok v1 w1) :
  Calls P (ρ.f 22) #[.slice a0 0 0,.int .i64 0,.slice va m vc] w fun e w'=>e = .returned v1∧w'=w1:=by
 have t3:=L.t3;have a3:=L.a3;have z3:=L.z3;have v3:=L.v3;have t4:=L.t4;have a4:=L.a4;have z4:=L.z4;have v4:=L.v4;have t24:=L.t24;have a24:=L.a24;have z24:=L.z24;have v24:=L.v24;have z9:=L.z9;have u3:=run_underlying L.t3;have u4:=run_underlying L.t4;have u24:=run_underlying L.t24;have mixed:=L.mixed;have hz1:¬((m:Int)=0):=by omega
 obtain ⟨_,_,FG⟩:=L.f22
 go_enter FG,Body2.n22_ntmps ρ
 cases a0 with
 |none=>
  go_wp2_with (at_builtin;refine Lib.wpList_append_run _ rfl _ _ _ _ rfl _ _ rfl rfl _ _ (hrun _) ?_)
  go_ret
  exact ⟨rfl,rfl⟩
 |some a=>
  obtain ⟨ab,ao,asp⟩:=a
  go_wp2_with (at_builtin;refine Lib.wpList_append_run _ rfl _ _ _ _ rfl _ _ rfl rfl _ _ (hrun _) ?_)
  all_goals (go_ret;exact ⟨rfl,rfl⟩)
set_option maxHeartbeats 4000000 in
set_option maxRecDepth 100000 in
theorem VL {z:Nat} (L:Ew P ρ z) (b off n c i vb voff m vc:Nat) (cs vs:List Value) (w:World) (hi:i<n) (hm:0<m) (hnc:n≤c) (hroom:c<n+m) (hbig:(n+m)*65536≤140737488355328)
  (hcl:cs.length=n*z) (hvl:vs.length=m*z)
  (hcs:∀j v,cs[j]? = some v→w.cell? ⟨b,off+j,none⟩=some v)
  (hvs:∀j v,vs[j]? = some v→w.cell? ⟨vb,voff+j,none⟩=some v) (h1c:∀v∈cs,v.oneCell'=true) (h1v:∀v∈vs,v.oneCell'=true) :
  ∃(ROW:Array Value) (G:Nat),n+m≤G∧ROW.size=G*z∧(∀j,j<i*z→ROW[j]? = cs[j]?)∧
  Calls P (ρ.f 22) #[.slice (some ⟨b,off,none⟩) n c,.int .i64 i,.slice (some ⟨vb,voff,none⟩) m vc] w fun e w'=>
   e = .returned (.slice (some ⟨w.heap.size,0,none⟩) (n+m) G)∧
   w'=(((w.alloc (.cells ROW (ρ.t 9))).drew.setCells w.heap.size (i*z) vs).drew).setCells w.heap.size ((i+m)*z) (cs.drop (i*z)):=by
 have t3:=L.t3;have a3:=L.a3;have z3:=L.z3;have v3:=L.v3;have t4:=L.t4;have a4:=L.a4;have z4:=L.z4;have v4:=L.v4;have t24:=L.t24;have a24:=L.a24;have z24:=L.z24;have v24:=L.v24;have z9:=L.z9;have u3:=run_underlying L.t3;have u4:=run_underlying L.t4;have u24:=run_underlying L.t24;have mixed:=L.mixed;obtain ⟨i0,zv,hi0,hz0,hzs,hzz,hzb⟩:=L.i9;have hpos:=L.pos;have hz1:¬((m:Int)=0):=by omega
 have hz2:¬((i:Int)=(n:Int)):=by omega
 have hz3:(c:Int)<(n:Int)+(m:Int):=by omega
 have hnz:i*z<n*z:=Nat.mul_lt_mul_of_pos_right hi hpos;have hmz:0<m*z:=Nat.mul_pos hm hpos;have hbw:b<w.heap.size:=block_lt_of_cell (hcs 0 _ (getElem?_eq_getElem (by omega)));have hvw:vb<w.heap.size:=block_lt_of_cell (hvs 0 _ (getElem?_eq_getElem (by omega)));have hkk:(n:Int)+(m:Int)-(i:Int)=((n+m-i:Nat):Int):=by omega
 have hik:i+(n+m-i)=n+m:=by omega
 have hold:(Builtin.firstCells i0.size i (.slice (some ⟨b,off,none⟩) i c)).run P w.drew = .ok (cs.take (i*z)).toArray w.drew:=by
  rw [hzs];exact run_firstCells_some w.drew z i ⟨b,off,none⟩ i c (cs.take (i*z)) (by rw [length_take];omega) (fun j v hj=>by
   rw [Addr.add_lit];rw [getElem?_take] at hj;split at hj
   ·exact hcs j v hj
   ·cases hj)
 have hb1:(n+m)*i0.bytes≤140737488355328:=le_trans (Nat.mul_le_mul_left _ hzb) hbig;have hb2:(n+m-i)*i0.bytes≤281474976710656:=le_trans (mul_le_mul_right _ (Nat.sub_le _ _)) (by omega);have hrz:∀ty,(Builtin.append_ #[(ρ.t 24),(ρ.t 3)] ty #[.slice (some ⟨b,off,none⟩) i c,.int .i64 ((n:Int)+(m:Int)-(i:Int))]).run P w =
   .ok (.slice (some ⟨w.heap.size,0,none⟩) (n+m) (grownCap w (n+m) c (ρ.t 9))) (w.drew.alloc (.cells ((cs.take (i*z)).toArray++Builtin.zeroCells zv.cells (n+m-i)++Builtin.zeroCells zv.cells (grownCap w (n+m) c (ρ.t 9)-(n+m))) (ρ.t 9))):=fun ty=>by
  have h:=Lib.run_append_grow_zeros w (ρ.t 24) (ρ.t 3) ty (ρ.t 9) i0 _ .i64 .i64 L.t24 L.t3 hi0 hz0 (some ⟨b,off,none⟩) i c (cs.take (i*z)) hold (n+m-i) (by omega) (by omega) (by omega) (by omega) hb2 (by rw [hik];exact growslice_fits hroom hb1);rw [hik] at h;rw [hkk];exact h
 have hzc:∀k,(Builtin.zeroCells zv.cells k).size=k*z:=fun k=>by simp [Builtin.zeroCells,hzz]
 obtain ⟨G,hG⟩:∃G,G=grownCap w (n+m) c (ρ.t 9):=⟨_,rfl⟩
 obtain ⟨ROW,hROW⟩:∃ROW:Array Value,ROW=(cs.take (i*z)).toArray++Builtin.zeroCells zv.cells (n+m-i)++Builtin.zeroCells zv.cells (G-(n+m)):=⟨_,rfl⟩
 rw [← hG] at hrz;rw [← hROW] at hrz;have hGn:n+m≤G:=by rw [hG];exact grownCap_ge w _ _ _
 have hRs:ROW.size=G*z:=by rw [hROW,size_append,size_append,hzc,hzc,size_toArray,length_take,hcl,Nat.min_eq_left (Nat.le_of_lt hnz),← add_mul,← add_mul];congr 1;omega
 have hRl:(n+m)*z≤ROW.size:=by rw [hRs];exact mul_le_mul_right _ hGn
 refine ⟨ROW,G,hGn,hRs,fun j hj => ?_,?_⟩
 ·have h8:j<(cs.take (i*z)).length:=by rw [length_take];omega
  rw [hROW,Array.append_assoc,Array.getElem?_append,if_pos (by simpa using h8)];simp [getElem?_take,hj]
 obtain ⟨W1,hW1⟩:∃W1,W1=w.drew.alloc (.cells ROW (ρ.t 9)):=⟨_,rfl⟩
 rw [← hW1] at hrz;have hN:∀j,j<(n+m)*z→(W1.cell? ⟨w.heap.size,j,none⟩).isSome=true:=fun j hj=>by rw [hW1,World.cell?_alloc_at (w:=w.drew) ROW _ w.heap.size j rfl,Array.getElem?_eq_getElem (by omega)];rfl
 have hNf:∀j,W1.frozen? ⟨w.heap.size,j,none⟩=false:=fun j=>by rw [hW1];exact World.frozen?_alloc_at (w:=w.drew) ROW _ w.heap.size j rfl
 have hOb:∀j v,w.cell? ⟨b,j,none⟩=some v→W1.cell? ⟨b,j,none⟩=some v:=fun j v h=>by rw [hW1,World.cell?_alloc_past (w:=w.drew) _ b j hbw];exact h
 have hOv:∀j v,w.cell? ⟨vb,j,none⟩=some v→W1.cell? ⟨vb,j,none⟩=some v:=fun j v h=>by rw [hW1,World.cell?_alloc_past (w:=w.drew) _ vb j hvw];exact h
 have hmul1:(i+m)*z+(n-i)*z=(n+m)*z:=by rw [← add_mul];congr 1;omega
 have hmul2:i*z+m*z≤(n+m)*z:=by rw [← add_mul];exact mul_le_mul_right _ (by omega)
 have hcpA:∀(W:World),(∀x,W.cell? x=W1.cell? x)→(∀x,W.frozen? x=W1.frozen? x)→∀ty dc,(Builtin.copy_ #[(ρ.t 24),(ρ.t 24)] ty #[.slice (some ⟨w.heap.size,i*z,none⟩) (n+m-i) dc,.slice (some ⟨vb,voff,none⟩) m vc]).run P W = .ok (goInt m) (W.setCells w.heap.size (i*z) vs):=fun W hWc hWf ty dc=>
  DI W _ _ ty (ρ.t 9) z w.heap.size (i*z) (n+m-i) dc ⟨vb,voff,none⟩ m vc m vs L.t24 L.z9 (by simp only [min_def];split<;>omega) hvl
   (fun j v hj=>by rw [Addr.add_lit,hWc];exact hOv _ v (hvs j v hj))
   (fun j hj=>by rw [hWc];exact hN _ (by omega)) (fun j hj=>by rw [hWf];exact hNf _) h1v
 have hG63:G≤9223372036854775807:=by have:=grownCap_le_maxLen w (n+m) c (ρ.t 9) (by unfold maxLen;omega);rw [← hG] at this;unfold maxLen at this;omega
 have hGi:¬(G=i):=by omega
 have hGim:¬(G=i+m):=by omega
 have hci:¬(c=i):=by omega
 have hbN:b≠w.heap.size:=by omega
 have hdl:(cs.drop (i*z)).length=(n-i)*z:=by rw [length_drop,hcl,Nat.sub_mul]
 have hcpB:∀(W:World),(∀x,W.cell? x=(W1.setCells w.heap.size (i*z) vs).cell? x)→(∀x,W.frozen? x=(W1.setCells w.heap.size (i*z) vs).frozen? x)→∀ty dc sc,(Builtin.copy_ #[(ρ.t 24),(ρ.t 24)] ty #[.slice (some ⟨w.heap.size,(i+m)*z,none⟩) (n+m-(i+m)) dc,.slice (some ⟨b,off+i*z,none⟩) (n-i) sc]).run P W = .ok (goInt ((n-i:Nat):Int)) (W.setCells w.heap.size ((i+m)*z) (cs.drop (i*z))):=fun W hWc hWf ty dc sc=>
  DI W _ _ ty (ρ.t 9) z w.heap.size ((i+m)*z) (n+m-(i+m)) dc ⟨b,off+i*z,none⟩ (n-i) sc (n-i) (cs.drop (i*z)) L.t24 L.z9 (by simp only [min_def];split<;>omega) hdl
   (fun j v hj=>by rw [Addr.add_lit,hWc,World.cell?_setCells_out _ _ _ _ _ (fun h _=>absurd h hbN),add_assoc];exact hOb _ v (hcs (i*z+j) v (by rwa [getElem?_drop] at hj)))
   (fun j hj=>by rw [hWc];exact isSome_setCells _ _ _ _ (fun t ht=>hN _ (by omega)) _ (hN _ (by omega)))
   (fun j hj=>by rw [hWf,World.frozen?_setCells];exact hNf _) (fun v hv=>h1c v (mem_of_mem_drop hv))
 subst hW1;have hE1:∀x,((w.alloc (.cells ROW (ρ.t 9))).drew).cell? x=(w.drew.alloc (.cells ROW (ρ.t 9))).cell? x:=fun x=>rfl;have hE2:∀x,((w.alloc (.cells ROW (ρ.t 9))).drew).frozen? x=(w.drew.alloc (.cells ROW (ρ.t 9))).frozen? x:=fun x=>rfl;have hF1:∀x,(((w.alloc (.cells ROW (ρ.t 9))).drew.setCells w.heap.size (i*z) vs).drew).cell? x=((w.drew.alloc (.cells ROW (ρ.t 9))).setCells w.heap.size (i*z) vs).cell? x:=fun x=>rfl;have hF2:∀x,(((w.alloc (.cells ROW (ρ.t 9))).drew.setCells w.heap.size (i*z) vs).drew).frozen? x=((w.drew.alloc (.cells ROW (ρ.t 9))).setCells w.heap.size (i*z) vs).frozen? x:=fun x=>rfl;have hw1:IntKind.i64.wrap ((i:Int)+(m:Int))=(i:Int)+(m:Int):=by rw [IntKind.wrap_i64];omega
 have hb1':(0:Int)≤(i:Int)+(m:Int):=by omega
 have hin:i≤n:=by omega
 have htn:((i:Int)+(m:Int)).toNat=i+m:=by omega
 have hb3:(i:Int)≤(n:Int):=by omega
 clear hkk hik hold hROW hG hRl hmul1 hmul2 hdl hRs hzc hb1 hb2 hnz hmz hN hNf hOb hOv;obtain ⟨_,_,FG⟩:=L.f22
 go_enter FG,Body2.n22_ntmps ρ
 go_wp2_with (first
  |(at_builtin;refine Lib.wpList_append_run _ rfl _ _ _ _ rfl _ _ rfl rfl _ _ (hrz _) ?_)
  |(at_builtin;refine wpList_copy_runI _ rfl _ _ (ρ.t 24) (ρ.t 24) rfl _ _ rfl rfl (hcpA _ hE1 hE2 _ _) ?_)
  |(at_builtin;refine wpList_copy_runI _ rfl _ _ (ρ.t 24) (ρ.t 24) rfl _ _ rfl rfl (hcpB _ (fun _=>rfl) (fun _=>rfl) _ _ _) ?_))
 go_region_law_o (refine step_copy_runI rfl _ _ (ρ.t 24) (ρ.t 24) rfl (.slice (some ⟨w.heap.size,(i+m)*z,none⟩) (n+m-(i+m)) (G-(i+m))) (.slice (some ⟨b,off+i*z,none⟩) (n-i) (c-i)) (by simp [Act.eval,Act.put]) (by simp [Act.eval,Act.put]) (hcpB _ hF1 hF2 (ρ.t 3) (G-(i+m)) (c-i)) ?_)
 go_wp2
 go_ret
 exact ⟨rfl,rfl⟩
end Go.Proofs
namespace Ab
open Go Go.Proofs Go.Shelf
variable {P:Program} {B:Nat→Prop} {κ:A0} {h:Heap} {w:World} {R:Type}
theorem MV {n:Nat} {f:FuncId} {args:Array Value} {Q:Ending→World→Prop} (hc:Calls P f args w Q):CallsIn (Fr none) n P f args w Q:=callsIn_wide.2 hc
theorem ER {b o:Nat} {cells:Array Value} {el:TypeId} (hb:w.heap[b]? = some (.cells cells el (0,0))) (vs:List Value) (hfit:o+vs.length≤cells.size) (h1:∀v∈vs,v.oneCell'=true) :
  w.setCells b o vs=w.setRow b (Ah cells o vs):=by
 have e1:=run_storeCells_cells (P:=default) b o vs 0 w (fun j hj=>by
  rw [BT hb (by omega)];rfl) (fun j hj=>by
  simp [World.frozen?,hb]) h1
 have e2:=run_storeCells_at default b o el vs 0 cells w hb (by simpa using hfit) h1;rw [e1] at e2;simp only [add_zero] at e2;injection e2
theorem Mz {A:Nat→Prop} {z:Nat} {L:List (List Tree)} {f:Nat→Value} (hL:BD w A z L f) (k:Nat):BD w A z (L.take k) f∧BD w A z (L.drop k) fun q=>f (k*z+q):=by
 refine ⟨⟨fun j e he=>hL.1 j e (Bj he).2,fun j e c x he hx=>hL.2 j e c x (Bj he).2 hx⟩,⟨fun j e he => ?_,fun j e c x he hx => ?_⟩⟩
 ·rw [getElem?_drop] at he;exact hL.1 _ e he
 ·rw [getElem?_drop] at he;have:=hL.2 _ e c x he hx;rw [add_mul,add_assoc] at this;exact this
theorem Ij {A:Nat→Prop} {z k:Nat} {L M:List (List Tree)} {f m g:Nat→Value} (hL:BD w A z L f) (hM:BD w A z M m) (hk:k≤L.length)
  (h1:∀q,q<k*z→g q=f q) (h2:∀q,q<M.length*z→g (k*z+q)=m q) (h3:∀q,q<(L.length-k)*z→g ((k+M.length)*z+q)=f (k*z+q)):BD w A z (L.take k++M++L.drop k) g:=by
 have hp:=Mz hL k;have hlt:(L.take k).length=k:=by rw [length_take];omega
 have cong:∀{L:List (List Tree)} {f g:Nat→Value},BD w A z L f→(∀q,q<L.length*z→g q=f q)→BD w A z L g:=fun {L f g} hL hfg=>⟨hL.1,fun j e c x he hx=>by
  have h1:j<L.length:=(List.getElem?_eq_some_iff.1 he).1;have hcl:c<z:=by rw [← hL.1 j e he];exact (List.getElem?_eq_some_iff.1 hx).1
  have:=mul_le_mul_right z (show j+1≤L.length from h1);rw [succ_mul] at this;rw [hfg _ (by omega)];exact hL.2 j e c x he hx⟩
 refine DJ (f:=g) (DJ hp.1 ?_ fun q hq=>by rw [hlt] at hq;exact h1 q hq) ?_ fun _ _=>rfl
 ·refine cong hM fun q hq => ?_;rw [hlt];exact h2 q hq
 ·refine cong hp.2 fun q hq => ?_;rw [length_append,hlt];rw [length_drop] at hq;exact h3 q hq
theorem RV {ρ:Ren} {z:Nat} (L:Ew P ρ z) (hh:Ai B κ h w) {ri ver off len k:Nat} {es new:List (List Tree)} (hri:h[ri]? = some (.row false ver z es)) (hoff:off+len=es.length) (hk:k<len) (hnew:new≠[]) (hle:len+new.length≤1073741824) (hz1:z≠1)
  {vs vx:Value} (hs:AP B κ h w (.sref ri ver off len) vs) (hx:BS w (fun b=>B b∨Ex κ h b) (.sl z new) vx) :
  Calls P (ρ.f 22) #[vs,.int .i64 (k:Int),vx] w fun e w'=>∃val κ',e = .returned val∧AP B κ' (h.set ri (.row false (ver+1) z ((es.drop off).take k++new++(es.drop off).drop k))) w' (.sref ri (ver+1) 0 (len+new.length)) val∧
   Ai B κ' (h.set ri (.row false (ver+1) z ((es.drop off).take k++new++(es.drop off).drop k))) w'∧Ext κ h w κ' (h.set ri (.row false (ver+1) z ((es.drop off).take k++new++(es.drop off).drop k))) w':=by
 have hz0:z≠0:=Nat.pos_iff_ne_zero.1 L.pos;have hOL:∀L,OLe (.row false ver z es) (.row false (ver+1) z L):=fun L=>⟨rfl,le_succ _,(fun e=>by simp [AF.ver] at e),(fun e=>by cases e),(fun e=>by cases e),rfl⟩
 have hver:∀L,(AF.row false ver z es).ver=(AF.row false (ver+1) z L).ver→∀{p:Prop},p:=fun L e=>by simp [AF.ver] at e
 cases hs with
 |sref _ _ _ _ _ _ hex hsr=>
 obtain ⟨kk,hkk⟩:=Bk hh hri;obtain ⟨_,_,hm⟩:=hsr kk _ hkk hri rfl;have ho:=hh.obj ri _ _ hri hkk;rcases hm with ⟨rfl,hof,a0,rfl⟩|⟨b,base,rfl,cap,rfl,hcap',hcs⟩
 ·omega
 have hcap:len≤cap:=by simp only [AF.len] at hcap';omega
 obtain ⟨hsz0,cells,el,fr,hcell,hth,hcsz,hls,hct⟩:=ho;have hfr0:fr=(0,0):=hth.resolve_right fun h=>hz1 h.1;subst hfr0;have hcapc:=hcs cells el _ hcell;simp only [AF.size] at hcapc ⊢;rw [add_mul] at hcapc;have hdl:(es.drop off).length=len:=by simp;omega
 have hold:BD w (fun b=>B b∨Ex κ h b) z (es.drop off) fun q=>cells.getD (base+off*z+q) undef:=by refine ⟨fun j e' he'=>hls _ e' (by rw [getElem?_drop] at he';exact he'),fun j e' c y he' hy => ?_⟩;rw [getElem?_drop] at he';have:=hct _ e' c y he' hy;rw [add_mul] at this;dsimp only;rw [show base+off*z+(j*z+c)=base+(off*z+j*z+c) from by omega];exact this
 have hbA:B b∨Ex κ h b :=.inr ⟨ri,base,_,hkk,hri,rfl⟩;have hpos:0<new.length:=length_pos_iff.2 hnew;have hnb:∀nb o m ncap,vx = .slice (some ⟨nb,o,none⟩) m ncap→nb≠b:=fun nb o m ncap e e2=>by
  cases hx with
  |nil=>exact hnew rfl
  |sl _ _ b0 o0 c0 u _ _ hA _ _ _=>
   injection e with e3 e4 e5;injection e3 with e3;injection e3 with e6;exact hA (by rw [e6,e2];exact hbA)
 obtain ⟨nb,o,ncap,news,hvx,hnl,hnc,hn1,hnt⟩:=Iy hz0 (Dp.Ix hx) hnew;have hvb:=hnb _ _ _ _ hvx;subst hvx;have hne:es.drop off≠[]:=fun e=>by rw [e] at hdl;simp at hdl;omega
 have hmz:=mul_le_mul_right z hcap;have hslr:Dp w (fun b=>B b∨Ex κ h b) z (es.drop off) (.slice (some ⟨b,base+off*z,none⟩) len cap):=⟨hold.1,_,cap,by rw [hdl],by rw [hdl];exact hcap,.inr ⟨b,base+off*z,rfl,hh.lt ri b base hkk,fun j e c x he hx=>by
  have hj:j<len:=by rw [← hdl];exact (List.getElem?_eq_some_iff.1 he).1
  have hcl:c<z:=by rw [← hold.1 j e he];exact (List.getElem?_eq_some_iff.1 hx).1
  have hq:=mul_le_mul_right z (show j+1≤len from hj);rw [succ_mul] at hq;exact ⟨_,BT hcell (by omega),hold.2 j e c x he hx⟩⟩⟩
 obtain ⟨b',o',cap',cs,hvs,hcl,hcc,hc1,hct'⟩:=Iy hz0 hslr hne;injection hvs with hv1 hv2 hv3;injection hv1 with hv1;injection hv1 with hv4 hv5;subst hv4 hv5;rw [hdl] at hcl;have hcc':∀j v,cs[j]? = some v→w.cell? ⟨b,base+off*z+j,none⟩=some v:=fun j v hj=>by have:=hcc j v hj;rwa [Dj] at this
 have hnc':∀j v,news[j]? = some v→w.cell? ⟨nb,o+j,none⟩=some v:=fun j v hj=>by have:=hnc j v hj;rwa [Dj] at this
 have hcg:∀q,q<len*z→cells.getD (base+off*z+q) undef=cs.getD q undef:=fun q hq=>by have h1:=hcc' q _ (BP cs q undef (by omega));rw [BT hcell (by omega)] at h1;exact Option.some.inj h1
 have hold':BD w (fun b=>B b∨Ex κ h b) z (es.drop off) fun q=>cs.getD q undef:=⟨hold.1,hct'⟩
 have hnr:BD w (fun b=>B b∨Ex κ h b) z new fun q=>news.getD q undef:=⟨(Dp.Ix hx).1,hnt⟩
 have hlen2:((es.drop off).take k++new++(es.drop off).drop k).length=len+new.length:=by simp only [length_append,length_take,length_drop];omega
 have hm1:(k+new.length)*z+(len-k)*z=(len+new.length)*z:=by rw [← add_mul];congr 1;omega
 have hm2:(k+new.length)*z=k*z+new.length*z:=add_mul _ _ _;have hm3:(len+new.length)*z=len*z+new.length*z:=add_mul _ _ _;have hdl2:(cs.drop (k*z)).length=(len-k)*z:=by rw [length_drop,hcl,Nat.sub_mul]
 have hdg:∀q,(cs.drop (k*z)).getD q undef=cs.getD (k*z+q) undef:=fun q=>by simp [List.getD,getElem?_drop]
 by_cases hroom:len+new.length≤cap
 ·have hmul:=mul_le_mul_right z hroom;obtain ⟨tA,kA,hsa,hkA⟩:∃tA kA,w.shape? nb=some (tA,kA)∧kA≠0:=by
   have h1:=hnc' 0 _ (BP news 0 undef (by rw [hnl];exact Nat.mul_pos hpos L.pos));cases hb0:w.heap[nb]? with
   |none=>simp [World.cell?,hb0] at h1
   |some ob=>
    cases ob with
    |cells c0 e0 f0=>
     refine ⟨e0,c0.size,by simp [World.shape?,hb0],fun e => ?_⟩;simp [World.cell?,hb0] at h1;obtain ⟨h2,_⟩:=Array.getElem?_eq_some_iff.1 h1;omega
    |_=>simp [World.cell?,hb0] at h1
  have hsb:w.shape? b=some (el,cells.size):=by simp [World.shape?,hcell]
  have key:=Tn L b (base+off*z) len cap k nb o new.length ncap cs news w hk hpos hroom (by omega) hvb hcl hnl hcc'
   (fun j hj=>by rw [BT hcell (by omega)];rfl) (fun j=>by simp [World.frozen?,hcell]) hnc' hc1 hn1 tA el kA cells.size hsa hsb hkA
  refine key.mono ?_
  rintro e w' ⟨rfl,rfl⟩
  have hf1:base+off*z+(k+new.length)*z+(cs.drop (k*z)).length≤cells.size:=by omega
  have hs1:=CF cells _ _ hf1;have hf2:base+off*z+k*z+news.length≤(Ah cells (base+off*z+(k+new.length)*z) (cs.drop (k*z))).size:=by rw [hs1];omega
  have hs2:=CF _ _ _ hf2;have e1:w.drew.setCells b (base+off*z+(k+new.length)*z) (cs.drop (k*z))=w.drew.setRow b (Ah cells (base+off*z+(k+new.length)*z) (cs.drop (k*z))):=ER (w:=w.drew) hcell _ hf1 fun v hv=>hc1 v (mem_of_mem_drop hv);have hr1:=setRow_heap w.drew b cells (Ah cells (base+off*z+(k+new.length)*z) (cs.drop (k*z))) el _ hcell;rw [e1,ER hr1 news hf2 hn1];have hr2:=setRow_heap _ b _ (Ah (Ah cells (base+off*z+(k+new.length)*z) (cs.drop (k*z))) (base+off*z+k*z) news) el _ hr1;generalize hW:(w.drew.setRow b (Ah cells (base+off*z+(k+new.length)*z) (cs.drop (k*z)))).setRow b (Ah (Ah cells (base+off*z+(k+new.length)*z) (cs.drop (k*z))) (base+off*z+k*z) news)=W at hr2 ⊢;have h5:∀b',b'<w.heap.size→(∀base',(some (b,base):Option (Nat×Nat))≠some (b',base'))→W.heap[b']? = w.heap[b']? :=fun b' _ hb'=>by have hbn:b'≠b:=fun e=>hb' base (by rw [e]);rw [← hW,setRow_other _ b _ hbn,setRow_other _ b _ hbn];rfl
  have hsz:W.heap.size=w.heap.size:=by rw [← hW,setRow_size,setRow_size];rfl
  have x1:Ext κ h w (κ.set ri (some (b,base+off*z))) (h.set ri (.row false (ver+1) z ((es.drop off).take k++new++(es.drop off).drop k))) W:=
   CW (w':=W) hh hri rfl (hOL _) hkk (by rw [← hW];rfl) (by rw [← hW];rfl) (by rw [← hW];rfl) (by rw [hsz];exact le_refl _) h5 (fun b' base' e=>by injection e with e;injection e with e1 e2;subst e1;exact .inl ⟨base,rfl⟩) (fun e=>hver _ e)
  have hh1:=Bu hh hri hkk h5 (fun b' base' e=>by injection e with e;injection e with e1 e2;subst e1;exact ⟨.inl ⟨base,rfl⟩,by rw [hsz];exact hh.lt ri _ base hkk⟩) x1
   (Bz hz0 hr2 (.inl rfl) (by rw [hlen2,hs2,hs1];omega) (Cz x1 (Ij hold' hnr (by omega) (fun q hq=>by
    have hqk:q<len*z:=lt_of_lt_of_le hq (mul_le_mul_right z (by omega));rw [BI _ _ _ hf2,if_neg (by omega),BI _ _ _ hf1,if_neg (by omega),hcg q hqk]) (fun q hq=>by
    rw [BI _ _ _ hf2,if_pos ⟨by omega,by omega⟩];congr 1;omega) (fun q hq=>by
    rw [hdl] at hq;rw [BI _ _ _ hf2,if_neg (by omega),BI _ _ _ hf1,if_pos ⟨by omega,by omega⟩,← hdg];congr 1;omega))))
  exact ⟨_,_,rfl,Bt (Aq hkk) (Aq hri) hr2 (by rw [hs2,hs1];omega) hlen2 hroom,hh1,x1⟩
 ·have hbig:(len+new.length)*65536≤140737488355328:=le_trans (mul_le_mul_right _ hle) (by omega);obtain ⟨ROW,G,hG,hRs,hR,key⟩:=VL L b (base+off*z) len cap k nb o new.length ncap cs news w hk hpos hcap (by omega) hbig hcl hnl hcc' hnc' hc1 hn1;refine key.mono ?_
  rintro e w' ⟨rfl,rfl⟩
  have hGz:=mul_le_mul_right z hG;have ha:(w.alloc (.cells ROW (ρ.t 9))).drew.heap[w.heap.size]? = some (.cells ROW (ρ.t 9) (0,0)):=A8 w _;have hf1:k*z+news.length≤ROW.size:=by omega
  have hs1:=CF ROW _ _ hf1;have hf2:(k+new.length)*z+(cs.drop (k*z)).length≤(Ah ROW (k*z) news).size:=by rw [hs1];omega
  have hs2:=CF _ _ _ hf2;have hr1:=setRow_heap (w.alloc (.cells ROW (ρ.t 9))).drew w.heap.size ROW (Ah ROW (k*z) news) (ρ.t 9) _ ha;have hr1':(((w.alloc (.cells ROW (ρ.t 9))).drew.setRow w.heap.size (Ah ROW (k*z) news)).drew).heap[w.heap.size]? = some (.cells (Ah ROW (k*z) news) (ρ.t 9) (0,0)):=hr1;rw [ER ha news hf1 hn1,ER hr1' _ hf2 fun v hv=>hc1 v (mem_of_mem_drop hv)];have hr2:=setRow_heap _ w.heap.size _ (Ah (Ah ROW (k*z) news) ((k+new.length)*z) (cs.drop (k*z))) (ρ.t 9) _ hr1';generalize hW:(((w.alloc (.cells ROW (ρ.t 9))).drew.setRow w.heap.size (Ah ROW (k*z) news)).drew).setRow w.heap.size (Ah (Ah ROW (k*z) news) ((k+new.length)*z) (cs.drop (k*z)))=W at hr2 ⊢;have h5:∀b',b'<w.heap.size→W.heap[b']? = w.heap[b']? :=fun b' hb'=>by rw [← hW,setRow_other _ _ _ (by omega)];show ((w.alloc (.cells ROW (ρ.t 9))).drew.setRow w.heap.size (Ah ROW (k*z) news)).heap[b']? = _;rw [setRow_other _ _ _ (by omega)];exact Ak w _ hb'
  have hsz:W.heap.size=w.heap.size+1:=by rw [← hW,setRow_size];show ((w.alloc (.cells ROW (ρ.t 9))).drew.setRow w.heap.size (Ah ROW (k*z) news)).heap.size=_;rw [setRow_size];simp
  have x1:Ext κ h w (κ.set ri (some (w.heap.size,0))) (h.set ri (.row false (ver+1) z ((es.drop off).take k++new++(es.drop off).drop k))) W:=
   CW (w':=W) hh hri rfl (hOL _) hkk (by rw [← hW];rfl) (by rw [← hW];rfl) (by rw [← hW];rfl) (by omega) (fun b' hb' _=>h5 b' hb') (fun b' base' e=>by injection e with e;injection e with e;exact .inr (by omega)) (fun e=>hver _ e)
  have hh1:=Bu hh hri hkk (fun b' hb' _=>h5 b' hb') (fun b' base' e=>by injection e with e;injection e with e;subst e;exact ⟨.inr (le_refl _),by omega⟩) x1
   (Bz hz0 hr2 (.inl rfl) (by rw [hlen2,hs2,hs1];omega) (Cz x1 (Ij hold' hnr (by omega) (fun q hq=>by
    rw [zero_add,BI _ _ _ hf2,if_neg (by omega),BI _ _ _ hf1,if_neg (by omega)];have:=hR q hq;simp only [Array.getD_eq_getD_getElem?,getD_eq_getElem?_getD,this]) (fun q hq=>by
    rw [zero_add,BI _ _ _ hf2,if_neg (by omega),BI _ _ _ hf1,if_pos ⟨by omega,by omega⟩];congr 1;omega) (fun q hq=>by
    rw [hdl] at hq;rw [zero_add,BI _ _ _ hf2,if_pos ⟨by omega,by omega⟩,← hdg];congr 1;omega))))
  exact ⟨_,_,rfl,Bt (Aq hkk) (Aq hri) hr2 (by rw [hs2,hs1];omega) hlen2 hG,hh1,x1⟩
end Ab
namespace Ab
open Go Go.Proofs Go.Shelf
variable {P:Program} {B:Nat→Prop} {κ:A0} {h:Heap} {w:World} {R:Type}
theorem NX {ρ:Ren} {z:Nat} (L:Ew P ρ z):Mg P (ρ.t 24)=some z:=by obtain ⟨i,zv,h1,h2,h3,h4,h5⟩:=L.i9;have:=L.pos;simp only [Mg,L.t24,h1,h2];rw [if_pos ⟨by omega,by omega,h5⟩,h3]
theorem ains_ok {ρ:Ren} {z:Nat} (L:Ew P ρ z) {avs:List AV} {K:AV→Heap→Option R} {r:R} (hr:ains z h avs K=some r) (hh:Ai B κ h w) {vs:Array Value} (hc:AZ B κ h w avs vs) (n:Nat) :
  CallsIn (Fr none) n P (ρ.f 22) vs w fun e w'=>∃val v h' κ',e = .returned val∧K v h'=some r∧AP B κ' h' w' v val∧Ai B κ' h' w'∧Ext κ h w κ' h' w':=by
 refine MV ?_;unfold ains at hr
 try simp only [AE] at hr
 split at hr
 ·rename_i s kx z' new;obtain ⟨k,hk,hr1⟩:=bind_some hr;obtain ⟨⟨rfl,hn0⟩,hr2⟩:=AH hr1;clear hr hr1;obtain ⟨vs⟩:=vs;have hl:vs.length=3:=by simpa using hc.1
  match vs,hl with
  |[v0,v1,v2],_=>
  have c0:AP B κ h w s v0:=hc.2 0 s rfl;have c1:AP B κ h w kx v1:=hc.2 1 kx rfl;have c2:AP B κ h w (.t (.sl z' new)) v2:=hc.2 2 _ rfl;have hk1:v1 = .int .i64 k:=CD hk c1;subst hk1;have hnew:new≠[]:=fun e=>hn0 (by rw [e];rfl);have hpos:0<new.length:=length_pos_iff.2 hnew;obtain ⟨va,vc,hva⟩:∃va vc,v2 = .slice va new.length vc:=by
   cases c2 with
   |t _ _ ht=>cases ht with
    |nil=>exact (hnew rfl).elim
    |sl _ _ b0 o0 c0 u _ _ hA _ _ _=>exact ⟨_,_,rfl⟩
  split at hr2
  ·obtain ⟨⟨rfl,hle⟩,hK⟩:=AH hr2;have hap:Dk P (ρ.t 24) h .nilsl (.t (.sl z' new)) K=some r:=by simp [Dk,NX L,Ho,elems,AE,hle,hK]
   obtain ⟨v,h',κ',val,w',h1,h2,h3,h4,h5⟩:=IT (t':=ρ.t 24) (by simp [Gv]) hap hh c0 c2 0;cases c0 with
   |nilsl a0=>
    subst hva;refine (Sk L a0 new.length vc va w w' val hpos fun ty=>h2).mono ?_
    rintro e w2 ⟨rfl,rfl⟩
    exact ⟨_,_,_,_,rfl,h1,h3,h4,h5⟩
  ·rename_i i ver off len;split at hr2
   ·rename_i ver' size es hi;obtain ⟨⟨rfl,rfl,hoff,hle,hk0,hkl,hz1⟩,hK⟩:=AH hr2;obtain ⟨k',rfl⟩:=Int.eq_ofNat_of_zero_le hk0;simp only [toNat_natCast] at hK;have hdl:(es.drop off).length=len:=by simp;omega
    by_cases hkk:k'=len
    ·subst hkk;have hap:Dk P (ρ.t 24) h (.sref i ver' off k') (.t (.sl size new)) K=some r:=by have hA:(es.drop off).take k'=es.drop off:=take_of_length_le (by omega);have hB:(es.drop off).drop k'=[]:=List.drop_eq_nil_of_le (by omega);rw [hA,hB,append_nil] at hK;simp [Dk,NX L,Ho,elems,AE,hi,hoff,hle,hA,hK]
     obtain ⟨v,h',κ',val,w',h1,h2,h3,h4,h5⟩:=IT (t':=ρ.t 24) (by simp [Gv]) hap hh c0 c2 0;cases c0 with
     |sref _ _ _ _ _ _ hex hsr=>
     obtain ⟨kk,hkk⟩:=Bk hh hi;obtain ⟨_,_,hm⟩:=hsr kk _ hkk hi rfl;have ho:=hh.obj i _ _ hi hkk;subst hva;rcases hm with ⟨rfl,hof,a0,rfl⟩|⟨b,base,rfl,cap,rfl,hcap',hcs⟩
     ·refine (Sk L a0 new.length vc va w w' val hpos fun ty=>h2).mono ?_
      rintro e w2 ⟨rfl,rfl⟩
      exact ⟨_,_,_,_,rfl,h1,h3,h4,h5⟩
     ·have hcap:k'≤cap:=by simp only [AF.len] at hcap';omega
      refine (ins_end L b _ k' cap new.length vc va w w' val hpos hcap (by omega) fun ty=>h2).mono ?_
      rintro e w2 ⟨rfl,rfl⟩
      exact ⟨_,_,_,_,rfl,h1,h3,h4,h5⟩
    ·refine (RV L hh hi hoff (by omega) hnew hle hz1 c0 (by cases c2 with|t _ _ ht=>exact ht)).mono ?_
     rintro e w' ⟨val,κ',rfl,h3,h4,h5⟩
     exact ⟨_,_,_,_,rfl,hK,h3,h4,h5⟩
   ·cases hr2
  ·cases hr2
 ·cases hr
theorem V5 {ρ:Ren} {z:Nat} (L:TD P ρ z) {avs:List AV} {K:AV→Heap→Option R} {r:R} (hr:V6 z h avs K=some r) (hh:Ai B κ h w) {vs:Array Value} (hc:AZ B κ h w avs vs) (n:Nat) :
  CallsIn (Fr none) n P (ρ.f 4) vs w fun e w'=>∃val v h' κ',e = .returned val∧K v h'=some r∧AP B κ' h' w' v val∧Ai B κ' h' w'∧Ext κ h w κ' h' w':=by
 refine MV ?_;unfold V6 at hr
 try simp only [AE] at hr
 split at hr
 ·rename_i nx;obtain ⟨k,hk,hr1⟩:=bind_some hr;obtain ⟨⟨h0,hle⟩,hK⟩:=AH hr1;obtain ⟨vs⟩:=vs;have hl:vs.length=2:=by simpa using hc.1
  match vs,hl with
  |[v0,v1],_=>
  have c0:AP B κ h w .nilsl v0:=hc.2 0 _ rfl;have c1:AP B κ h w nx v1:=hc.2 1 nx rfl;obtain rfl:v1 = .int .i64 k:=CD hk c1;obtain ⟨m,rfl⟩:=Int.eq_ofNat_of_zero_le h0;obtain ⟨i,zv,hi,hzv,hsz,hzs,hby⟩:=L.i25;have hz0:z≠0:=by have:=L.pos;omega
  cases c0 with
  |nilsl a0=>
   by_cases hm:m=0
   ·subst hm;refine (Any8.slices_Grow_room L.lay a0 0 0 0 w (le_refl _) (by omega) (by omega) (by omega)).mono ?_
    rintro e w' ⟨rfl,he⟩
    subst he;have x1:Ext κ h w' (κ++[none]) (h++[.row false 0 z []]) w':=Bb hh rfl rfl rfl (le_refl _) (fun _ _=>rfl) (fun b base e=>by cases e);have hh1:=BK hh (fun _ _=>rfl) x1 (fun b base e=>by cases e) (show GC B (κ++[none]) (h++[.row false 0 z []]) w' none (.row false 0 z []) from rfl);exact ⟨_,_,_,_,rfl,hK,Bx (by rw [← hh.len];exact Ag κ _) (Ag h _),hh1,x1⟩
   ·have hbig:(0+m)*i.bytes≤140737488355328:=by have h2:m*i.bytes≤1073741824*65536:=mul_le_mul (by omega) hby;rw [zero_add];omega
    refine (Any8.slices_Grow_grow L.lay i zv hi hzv (by omega) a0 0 0 m [] w (le_refl _) (by omega) hbig (by omega) (by simp) (fun _=>rfl) (fun a _ j v hj=>by simp at hj)).mono ?_
    rintro e w' ⟨rfl,rfl⟩
    generalize hC:([]:List Value).toArray++Builtin.zeroCells zv.cells (0+m-0)++Builtin.zeroCells zv.cells (grownCap w (0+m) 0 (ρ.t 25)-(0+m))=CS;have hge:=grownCap_ge w (0+m) 0 (ρ.t 25);have hCs:CS.size=grownCap w (0+m) 0 (ρ.t 25)*z:=by rw [← hC];simp only [size_append,size_toArray,length_nil,size_zeroCells,hzs];rw [zero_add,← add_mul];congr 1;omega
    have h5:∀b',b'<w.heap.size→(w.drew.alloc (.cells CS (ρ.t 25))).heap[b']? = w.heap[b']? :=fun b' hb'=>Ak w.drew _ hb';have x1:Ext κ h w (κ++[some (w.heap.size,0)]) (h++[.row false 0 z []]) (w.drew.alloc (.cells CS (ρ.t 25))):=
     Bb (w':=w.drew.alloc _) hh rfl rfl rfl (by simp) h5 fun b base e=>by injection e with e;injection e with e;omega
    have hnew:=A8 w.drew (.cells CS (ρ.t 25));have hh1:=BK hh h5 x1 (fun b base e=>by injection e with e;injection e with e;subst e;exact ⟨le_refl _,by simp⟩)
     (Bz hz0 hnew (.inl rfl) (by simp) ⟨fun j e he=>by simp at he,fun j e c x he=>by simp at he⟩)
    exact ⟨_,_,_,_,rfl,hK,Bt (by rw [← hh.len];exact Ag κ _) (Ag h _) hnew (by rw [hCs];omega) rfl (zero_le _),hh1,x1⟩
 ·cases hr
theorem isFn_vs {f:Option FuncId} {s:AV} {rest:List AV} (hf:isFn f rest=true) {vs:Array Value} (hc:AZ B κ h w (s::rest) vs):∃v0,vs = #[v0]++fnV f∧AP B κ h w s v0:=by
 obtain ⟨vs⟩:=vs;have h0:=hc.1;have c0:=hc.2 0 s rfl;cases f with
 |none=>
  cases rest with
  |nil=>
   match vs,(by simpa using h0:vs.length=1) with
   |[v0],_=>exact ⟨v0,rfl,c0⟩
  |cons x l=>simp [isFn] at hf
 |some g=>
  match rest,hf with
  |[.func (.func g') [] []],hf=>
   match vs,(by simpa using h0:vs.length=2) with
   |[v0,v1],_=>
    have c1:AP B κ h w (.func (.func g') [] []) v1:=hc.2 1 _ rfl;obtain rfl:g=g':=by simpa [isFn] using hf
    cases c1 with
    |func _ _ _ fs cs h1 h2 _ _=>
     obtain rfl:fs = #[]:=eq_empty_of_size_eq_zero (by simpa using h1);obtain rfl:cs = #[]:=eq_empty_of_size_eq_zero (by simpa using h2);exact ⟨v0,rfl,c0⟩
theorem F5 {z:Nat}:∀{d:List (List Tree)},A7 z d=true→(Ck d).length=d.length*z
 |[],_=>by simp [Ck]
 |e::d,h=>by simp only [A7,all_cons,and_eq_true,beq_iff_eq] at h;have ih:=F5 (z:=z) (d:=d) (by simpa [A7] using h.2);simp only [Ck,map_cons,flatten_cons,length_append,length_map] at ih ⊢;rw [ih,h.1.1,length_cons,succ_mul];omega
theorem HL {z:Nat}:∀{d:List (List Tree)},A7 z d=true→∀(j c:Nat) (e:List Tree) (x:Tree),d[j]? = some e→e[c]? = some x→(Ck d).getD (j*z+c) undef = .int .i64 (intOf x)∧x = .int .i64 (intOf x)∧e.length=z
 |[],_,j,c,e,x,hj,_=>by simp at hj
 |a::d,h,j,c,e,x,hj,hx=>by
  simp only [A7,all_cons,and_eq_true,beq_iff_eq] at h;have ih:=HL (z:=z) (d:=d) (by simpa [A7] using h.2);have hfl:Ck (a::d)=a.map (fun x=>Value.int .i64 (intOf x))++Ck d:=by simp [Ck]
  rw [hfl];cases j with
  |zero=>
   obtain rfl:a=e:=by simpa using hj
   have hc:c<a.length:=(List.getElem?_eq_some_iff.1 hx).1;have hi:=all_eq_true.1 h.1.2 x (mem_of_getElem? hx);refine ⟨?_,?_,h.1.1⟩
   ·simp only [Nat.zero_mul,zero_add,List.getD];rw [getElem?_append_left (by simpa using hc),getElem?_map,hx];rfl
   ·cases x<;>simp [I3] at hi;rename_i k n;cases k<;>simp [I3] at hi<;>rfl
  |succ j=>
   obtain ⟨h1,h2,h3⟩:=ih j c e x (by simpa using hj) hx;refine ⟨?_,h2,h3⟩;rw [← h1];simp only [List.getD];rw [getElem?_append_right (by rw [length_map,h.1.1,succ_mul];omega),length_map,h.1.1];congr 2;rw [succ_mul];omega
theorem Tr {w:World} {A:Nat→Prop} {z:Nat} {d:List (List Tree)} (h:A7 z d=true):BD w A z d fun q=>(Ck d).getD q undef:=by
 refine ⟨fun j e he => ?_,fun j e c x he hx => ?_⟩
 ·have:=all_eq_true.1 h e (mem_of_getElem? he);simp only [and_eq_true,beq_iff_eq] at this;exact this.1
 ·obtain ⟨h1,h2,_⟩:=HL h j c e x he hx;simp only [h1];rw [h2];exact .int _ _
theorem V2 {g:FuncId} {z m:Nat} {f:Option FuncId} {F:List (List Tree)→List (List Tree)} (L:GB P g z m f F) {avs:List AV} {K:AV→Heap→Option R} {r:R} (hr:V3 z m f F h avs K=some r) (hh:Ai B κ h w) {vs:Array Value} (hc:AZ B κ h w avs vs) (n:Nat) :
  CallsIn (Fr none) n P g vs w fun e w'=>∃val v h' κ',e = .returned val∧K v h'=some r∧AP B κ' h' w' v val∧Ai B κ' h' w'∧Ext κ h w κ' h' w':=by
 refine MV ?_;unfold V3 at hr
 try simp only [AE] at hr
 split at hr
 ·rename_i s rest;split at hr
  ·rename_i hf;obtain ⟨v0,rfl,c0⟩:=isFn_vs hf hc;have hun:∀{κ:A0} {h:Heap} {w:World},AP B κ h w (.tuple []) (.tuple #[]):=.tuple _ _ rfl fun j x hx=>by simp at hx
   split at hr
   ·cases c0 with
    |nilsl a=>
     refine (L.nil a w).mono ?_
     rintro e w' ⟨rfl,hg⟩
     exact ⟨_,_,_,_,rfl,hr,hun,Dx hh hg,ED hh hg⟩
   ·rename_i i ver off len;split at hr
    ·rename_i ver' size es hi;obtain ⟨⟨rfl,rfl,hle,hle2,hint⟩,hK⟩:=AH hr;have hdl:((es.drop off).take len).length=len:=by simp;omega
     have hFl:=(L.len ((es.drop off).take len)).trans hdl;cases c0 with
     |sref _ _ _ _ _ _ hex hsr=>
      obtain ⟨kk,hkk⟩:=Bk hh hi;obtain ⟨_,hle',hm⟩:=hsr kk _ hkk hi rfl;rcases hm with ⟨rfl,hof,a0,rfl⟩|⟨b,base,rfl,cap,rfl,hcap,hcs⟩
      ·refine (L.nil a0 w).mono ?_
       rintro e w' ⟨rfl,hg⟩
       have hF0:F ((es.drop off).take 0)=[]:=eq_nil_of_length_eq_zero hFl;have hset:h.set i (.row false ver' size (BB es off (F ((es.drop off).take 0))))=h:=by
        rw [hF0];apply ext_getElem?;intro j;by_cases hij:j=i
        ·rw [hij,Aq hi,hi];simp [BB]
        ·rw [CX hij]
       rw [hset] at hK;exact ⟨_,_,_,_,rfl,hK,hun,Dx hh hg,ED hh hg⟩
      ·obtain ⟨hsz0,cells,el,fr,hcell,hth,hcsz,hls,hct⟩:=hh.obj i _ _ hi hkk;simp only [AF.size,AF.len] at hle' hcap hcs ⊢;have hint2:=L.int _ hint;have hvl:=F5 hint2;rw [L.len] at hvl;obtain ⟨f1,f2,f3,f4,f5⟩:=G5 (new:=F ((es.drop off).take len)) (p:=off) (vals:=Ck (F ((es.drop off).take len))) hh hi hkk hcell (by omega) (by rw [hvl,hFl,hdl]) (Tr hint2);have hrun:=L.run ((es.drop off).take len) w b (base+off*size) cap cells el fr hint (by omega) hcell hth (by rw [hdl];rw [hvl,hdl] at f1;exact f1) (fun q hq=>by
        rw [hdl] at hq;have hzp:0<size:=pos_of_ne_zero hsz0;have hj:q / size<len:=(Nat.div_lt_iff_lt_mul hzp).2 hq;have hc1:q % size<size:=mod_lt _ hzp;obtain ⟨e,he⟩:∃e,((es.drop off).take len)[q / size]? = some e:=⟨_,getElem?_eq_getElem (by rw [hdl];exact hj)⟩
        have he2:es[off+q / size]? = some e:=by have:=(LC he).2;rwa [getElem?_drop] at this
        obtain ⟨x,hx⟩:∃x,e[q % size]? = some x:=⟨_,getElem?_eq_getElem (by rw [hls _ e he2];exact hc1)⟩
        obtain ⟨g1,g2,_⟩:=HL hint _ _ e x he hx;have hq2:q / size*size+q % size=q:=by rw [mul_comm];exact Nat.div_add_mod q size
        rw [hq2] at g1;rw [g1];have ht:=hct _ e _ x he2 hx;rw [g2] at ht;have hidx:base+((off+q / size)*size+q % size)=base+off*size+q:=by rw [add_mul];omega
        rw [hidx] at ht;generalize cells.getD (base+off*size+q) undef=vv at ht;cases ht;rfl)
       rw [hdl] at hrun;refine hrun.mono ?_
       rintro e w' ⟨rfl,hg⟩
       exact ⟨_,_,_,_,rfl,hK,hun,Dx f4 hg,f5.trans (ED f4 hg)⟩
    ·cases hr
   ·cases hr
  ·cases hr
 ·cases hr
theorem V0 {g:FuncId} {p:Prim} (L:R7 P g p) {avs:List AV} {K:AV→Heap→Option R} {r:R} (hr:aprim p h avs K=some r) (hh:Ai B κ h w) {vs:Array Value} (hc:AZ B κ h w avs vs) (n:Nat) :
  CallsIn (Fr none) n P g vs w fun e w'=>∃val v h' κ',e = .returned val∧K v h'=some r∧AP B κ' h' w' v val∧Ai B κ' h' w'∧Ext κ h w κ' h' w':=by
 cases p with
 |ins z=>
  obtain ⟨ρ,rfl,hL⟩:=L;exact ains_ok hL hr hh hc n
 |grow z=>
  obtain ⟨ρ,rfl,hL⟩:=L;exact V5 hL hr hh hc n
 |perm z m f F=>exact V2 L hr hh hc n
end Ab
namespace Ab
open Go
variable {R:Type} {P:Program} {B:Nat→Prop} {κ:A0} {h:Heap} {w:World}
theorem Ln {f:Nat→Tree} {t:TypeId} {off:Nat} {x:AV} {off':Nat} (hm:Gh P t (fun i =>.t (f i)) off=some (x,off')) {B1 B2:Nat→Prop} {κ1 κ2:A0} {h1 h2:Heap} {w1 w2:World} {v:Value} (hv:AP B1 κ1 h1 w1 x v)
  (ht:∀i u,BS w1 (fun b=>B1 b∨Ex κ1 h1 b) (f i) u→BS w2 (fun b=>B2 b∨Ex κ2 h2 b) (f i) u):AP B2 κ2 h2 w2 x v:=by
 unfold Gh at hm;split at hm
 ·rename_i n _ _;simp only [Option.some.injEq,Prod.mk.injEq] at hm;obtain ⟨rfl,_⟩:=hm;cases hv with
  |agg _ vs hs hall=>
   refine .agg _ _ hs fun j y hy => ?_;have:=hall j y hy;have hj:j<n:=by have:=AT hy;simpa [A2] using this
   rw [D7 _ _ _ _ hj] at hy;cases hy;cases this with
   |t _ _ h3=>exact .t _ _ (ht _ _ h3)
 ·simp only [Option.some.injEq,Prod.mk.injEq] at hm;obtain ⟨rfl,_⟩:=hm;cases hv with
  |t _ _ h3=>exact .t _ _ (ht _ _ h3)
 ·cases hm
theorem EK {f:Nat→Tree}:∀{ts:List TypeId} {off:Nat} {avs:List AV},B7 P (fun i =>.t (f i)) ts off=some avs→∀{B1 B2:Nat→Prop} {κ1 κ2:A0} {h1 h2:Heap} {w1 w2:World}
  (_:∀i u,BS w1 (fun b=>B1 b∨Ex κ1 h1 b) (f i) u→BS w2 (fun b=>B2 b∨Ex κ2 h2 b) (f i) u) (x:AV) (_:x∈avs) (v:Value),AP B1 κ1 h1 w1 x v→AP B2 κ2 h2 w2 x v
 |[],off,avs,hm,B1,B2,κ1,κ2,h1,h2,w1,w2,ht,x,hx,v,hv=>by simp only [B7,Option.some.injEq] at hm;subst hm;cases hx
 |t::ts,off,avs,hm,B1,B2,κ1,κ2,h1,h2,w1,w2,ht,x,hx,v,hv=>by
  simp only [B7] at hm;split at hm
  ·rename_i y off' hy;cases hr:B7 P (fun i =>.t (f i)) ts off' with
   |none=>rw [hr] at hm;cases hm
   |some rest=>
    rw [hr] at hm;simp only [map_some,Option.some.injEq] at hm;subst hm;cases hx with
    |head=>exact Ln hy hv ht
    |tail _ hx=>exact EK hr ht x hx v hv
  ·cases hm
theorem Gi {f:Nat→Tree} {g:FuncId} {r:AV} (hm:CO P g (fun i =>.t (f i))=some r) {B1 B2:Nat→Prop} {κ1 κ2:A0} {h1 h2:Heap} {w1 w2:World}
  (ht:∀i u,BS w1 (fun b=>B1 b∨Ex κ1 h1 b) (f i) u→BS w2 (fun b=>B2 b∨Ex κ2 h2 b) (f i) u) {v:Value} (hv:AP B1 κ1 h1 w1 r v):AP B2 κ2 h2 w2 r v:=by
 unfold CO at hm;split at hm
 ·rename_i fn hf;split at hm
  ·rename_i x hx;cases hm;exact EK hx ht _ (mem_singleton.2 rfl) v hv
  ·rename_i avs _ hx;cases hm;cases hv with
   |tuple _ vs hs hall=>exact .tuple _ _ hs fun j y hy=>EK hx ht y (mem_of_getElem? hy) _ (hall j y hy)
  ·cases hm
 ·cases hm
theorem Gg {m:Nat} {leaf:Nat→AV} (hl:∀i,Refs m (leaf i)):∀{ts:List TypeId} {off:Nat} {avs:List AV},B7 P leaf ts off=some avs→∀x∈avs,Refs m x
 |[],off,avs,hm,x,hx=>by simp only [B7,Option.some.injEq] at hm;subst hm;cases hx
 |t::ts,off,avs,hm,x,hx=>by
  simp only [B7] at hm;split at hm
  ·rename_i y off' hy;cases hr:B7 P leaf ts off' with
   |none=>rw [hr] at hm;cases hm
   |some rest=>
    rw [hr] at hm;simp only [map_some,Option.some.injEq] at hm;subst hm;cases hx with
    |tail _ hx=>exact Gg hl hr x hx
    |head=>
     unfold Gh at hy;split at hy
     ·rename_i n _ _;simp only [Option.some.injEq,Prod.mk.injEq] at hy;obtain ⟨rfl,_⟩:=hy;refine .agg _ fun j z hz => ?_;have hj:j<n:=by have:=AT hz;simpa [A2] using this
      rw [D7 _ _ _ _ hj] at hz;cases hz;exact hl _
     ·simp only [Option.some.injEq,Prod.mk.injEq] at hy;obtain ⟨rfl,_⟩:=hy;exact hl _
     ·cases hy
  ·cases hm
theorem Lo {m:Nat} {leaf:Nat→AV} (hl:∀i,Refs m (leaf i)) {g:FuncId} {r:AV} (hm:CO P g leaf=some r):Refs m r:=by
 unfold CO at hm;split at hm
 ·split at hm
  ·rename_i x hx;cases hm;exact Gg hl hx _ (mem_singleton.2 rfl)
  ·rename_i avs _ hx;cases hm;exact .tuple _ fun j y hy=>Gg hl hx y (mem_of_getElem? hy)
  ·cases hm
 ·cases hm
def Hf (B:Nat→Prop) (κ:A0) (h:Heap) (w:World) (q:Bool) (K:AV→Heap→Option R) (r:R) (e:Ending) (w':World):Prop:=
 ∃val v h' κ',e = .returned val∧K v h'=some r∧AP B κ' h' w' v val∧Ai B κ' h' w'∧Ext κ h w κ' h' w'∧(q=true→h'=h∧κ'=κ)
theorem PT {ys:List Tree} (hs:ys.all Tree.scalar=true) (i:Nat):(ys.getD i default).scalar=true:=by
 rcases lt_or_ge i ys.length with hi|hi
 ·exact D9 hs (BP ys i default hi)
 ·simp only [List.getD,getElem?_eq_none hi];rfl
theorem SH {m:Nat} {rs:List AV} {κ':A0} {h1:Heap} {w':World} {rv:AV} {v:Value} (hh':Ai B κ' h1 w') (x:Ext κ h w κ' h1 w') (hm:h.length≤m) (hrefs:(∀i,Refs m (rs.getD i .undef))→Refs m rv) (hv:AP B κ' h1 w' rv v) :
  ∃κ2,AP B κ2 (trim m rs h1) w' rv v∧Ai B κ2 (trim m rs h1) w'∧Ext κ h w κ2 (trim m rs h1) w':=by
 unfold trim;split
 ·rename_i hc;simp only [and_eq_true] at hc;refine ⟨κ'.take m,hv.Da (hrefs fun i => ?_),hh'.Da hc.2,x.Da hm⟩;rcases lt_or_ge i rs.length with hi|hi
  ·exact DS 4 (D9 hc.1 (BP rs i .undef hi))
  ·simp only [List.getD,getElem?_eq_none hi];exact .undef
 ·exact ⟨κ',hv,hh',x⟩
theorem Ta (g j:Nat) (hj:j<64):¬EH+(64*g+j)<OWN∧¬EH+(64*g+j)<EH∧(EH+(64*g+j)-EH) % 64=j∧(EH+(64*g+j)-EH) / 64=g:=by unfold OWN EH;omega
theorem Uw {g:Nat} (h:g<OWN):OWN+g<EH:=by unfold OWN at h;unfold OWN EH;omega
theorem P4 {C:Cfg} {rec:Rec} {pc:BE} (hrec:DY C.P rec) (hpc:B3 C.P pc) {q:Bool} {g:FuncId} {avs:List AV} {K:AV→Heap→Option R} {r:R} (hr:FC C rec pc q g avs h K=some r)
  (hh:Ai B κ h w) {vs:Array Value} (hc:AZ B κ h w avs vs) (n:Nat):CallsIn (Fr none) n C.P g vs w (Hf B κ h w q K r):=by
 unfold FC at hr
 try simp only [AE] at hr
 split at hr
 ·split at hr
  ·cases hr
  ·rename_i hq;obtain ⟨ls,us,hr1,hls,hbuild⟩:=I7 hr hc;clear hr;obtain ⟨hh1,x1⟩:=EU ls hh;have hls1:=hls.ext x1;obtain ⟨xs,hr3,hxl,_,hxt⟩:=Cc (vs:=us) hr1 hh1 (by simpa using hls1.1) (Bi hls1);have hul:us.length=xs.length:=by rw [hxl];simpa using hls1.1
   have hargs:∃avs',DA C.P g (fun i =>.t (xs.getD i default))=some avs'∧AZ (fun b=>B b∨Ex κ (AY h ls) b) [] [] w avs' vs:=by
    obtain ⟨avs',ha1,ha2⟩:=hbuild (fun b=>B b∨Ex κ (AY h ls) b) [] [] w (fun i =>.t (xs.getD i default)) 0 (fun j u hu=>by
     have hj:j<xs.length:=by rw [← hul];exact AT hu
     have:=hxt j _ u (BP xs j default hj) hu;rw [zero_add];exact .t _ _ (this.less fun b hb=>by
      rcases hb with (hb|hb)|hb
      ·exact .inl hb
      ·exact .inr ⟨rfl,hb⟩
      ·exact (DE hb).elim))
    refine ⟨avs',?_,ha2⟩;unfold DA;unfold G9 at ha1;cases hf:C.P.funcs[g]? with
    |none=>
     have:CO C.P g (fun _ =>.undef)=none:=by unfold CO;rw [hf]
     exact absurd hf (by
      intro hf;have hn:=hr3;split at hn
      ·try simp only [AE] at hn
       obtain ⟨_,hn⟩:=AH hn;obtain ⟨ys,_,hn⟩:=bind_some hn;have hn:=Il hn;split at hn
       ·simp only [CO,hf] at hn;cases hn
       ·cases hn
      ·obtain ⟨ys,_,hn⟩:=bind_some hn;simp only [C9,hf] at hn;cases hn)
    |some fn=>rw [hf] at ha1;exact ha1
   split at hr3
   ·rename_i j ho2
    try simp only [AE] at hr3
    obtain ⟨hj64,hr3⟩:=AH hr3;obtain ⟨ys,hy,hr4⟩:=bind_some hr3;have hown:=hpc (EH+(64*g+j)) xs ys hy;obtain ⟨o1,o2,o3,o4⟩:=Ta g j hj64;rw [if_neg o1,if_neg o2,o3,o4] at hown;have hr4:=Il hr4;obtain ⟨avs',ha3,ha2⟩:=hargs;refine (hown (fun b=>B b∨Ex κ (AY h ls) b) w avs' vs n ha3 (fun b hb=>hb.elim (hh1.ltB b) fun ⟨i,base,o,hk,_,_⟩=>hh1.lt i b base hk) ha2).mono ?_
    rintro e w' ⟨v,us2,z,es,u,rfl,hg,hyj,hul2,huj,hnew,hoth,hbld⟩
    rw [hyj] at hr4;simp only at hr4;have hh2:=Dx hh1 hg;have x2:=ED hh1 hg;have key:∀(k:Option (Nat×Nat)),Ai B (κ++[k]) (AY h ls++[.row false 0 z es]) w'→Ext κ h w (κ++[k]) (AY h ls++[.row false 0 z es]) w'→AP B (κ++[k]) (AY h ls++[.row false 0 z es]) w' (.sref (AY h ls).length 0 0 es.length) u→
      (∀b,Ex (κ++[k]) (AY h ls++[.row false 0 z es]) b→Ex κ (AY h ls) b∨WE u b)→Hf B κ h w q K r (.returned v) w':=fun k q1 q2 q3 q4=>by
     obtain ⟨rv,e1,e2⟩:=hbld B (κ++[k]) (AY h ls++[.row false 0 z es]) w' (fun i=>if i=j then .sref (AY h ls).length 0 0 es.length else .t (ys.getD i default)) fun i x hx=>by
      by_cases hij:i=j
      ·subst hij;rw [if_pos rfl];rw [huj] at hx;cases hx;exact q3
      ·rw [if_neg hij];have hi:i<ys.length:=by rw [← hul2];exact AT hx
       refine .t _ _ ((hoth i _ x hij (BP ys i default hi) hx).less fun b hb => ?_);rcases hb with hb|hb
       ·exact .inl (.inl hb)
       ·rcases q4 b hb with hb|hb
        ·exact .inl (.inr hb)
        ·exact .inr hb
     rw [e1] at hr4;exact ⟨_,_,_,_,rfl,hr4,e2,q1,q2,fun e=>(hq e).elim⟩
    have hnil:es=[]→∀a0,u = .slice a0 0 0→Hf B κ h w q K r (.returned v) w':=fun he a0 hu0=>by
     subst he;subst hu0;have x3:Ext κ (AY h ls) w' (κ++[none]) (AY h ls++[.row false 0 z []]) w':=Bb hh2 rfl rfl rfl (le_refl _) (fun _ _=>rfl) (fun b base e=>by cases e);have hh3:=BK hh2 (fun _ _=>rfl) x3 (fun b base e=>by cases e) (show GC B (κ++[none]) (AY h ls++[.row false 0 z []]) w' none (.row false 0 z []) from rfl);refine key none hh3 ((x1.trans x2).trans x3) (Bx (by rw [← hh2.len];exact Ag κ _) (Ag _ _)) fun b ⟨i,bs,o,k1,k2,k3⟩=> ?_;rcases Bv κ _ i k1 with ⟨_,k1'⟩|⟨rfl,k1'⟩
     ·have hi:i<(AY h ls).length:=by rw [← hh2.len];exact AT k1'
      rw [getElem?_append_left hi] at k2;exact .inl ⟨i,bs,o,k1',k2,k3⟩
     ·cases k1'
    rcases hnew with ⟨he,a0,hu0⟩|⟨b,base,cap,cells,elem,fr,hu0,h1,h2,h3,h4,h5,hth,h6,h7,h8⟩
    ·exact hnil he a0 hu0
    ·by_cases hcap0:cap=0
     ·exact hnil (eq_nil_of_length_eq_zero (by omega)) _ (by rw [hu0,hcap0,show es.length=0 by omega])
     subst hu0;have x3:Ext κ (AY h ls) w (κ++[some (b,base)]) (AY h ls++[.row false 0 z es]) w':=
      Bb hh1 hg.os hg.tape hg.output hg.size hg.block fun b' base' e=>by injection e with e;injection e with e;omega
     have hEx:∀b',Ex (κ++[some (b,base)]) (AY h ls++[.row false 0 z es]) b'→Ex κ (AY h ls) b'∨b'=b:=fun b' ⟨i,bs,o,k1,k2,k3⟩=>by
      rcases Bv κ _ i k1 with ⟨_,k1'⟩|⟨rfl,k1'⟩
      ·have hi:i<(AY h ls).length:=by rw [← hh1.len];exact AT k1'
       rw [getElem?_append_left hi] at k2;exact .inl ⟨i,bs,o,k1',k2,k3⟩
      ·injection k1' with k1';injection k1' with k1';exact .inr k1'
     have hh3:=BK hh1 hg.block x3 (fun b' base' e=>by injection e with e;injection e with e;subst e;exact ⟨h2,h3⟩)
      (Bz h4 h5 hth (le_trans (add_le_add_left (mul_le_mul_right _ h1) _) h6) ⟨h7,fun j e' c x he hx=>(h8 j e' c x he hx).less fun b' hb'=>by
       rcases hb' with hb'|hb'
       ·exact .inl (.inl hb')
       ·rcases hEx b' hb' with hb'|hb'
        ·exact .inl (.inr hb')
        ·exact .inr hb'⟩)
     refine key (some (b,base)) hh3 (x1.trans x3) (Bt (by rw [← hh1.len];exact Ag κ _) (Ag _ _) h5 h6 rfl h1) fun b' hb' => ?_;rcases hEx b' hb' with hb'|rfl
     ·exact .inl hb'
     ·exact .inr ⟨_,_,_,rfl,by omega⟩
   obtain ⟨ys,hy,hr4⟩:=bind_some hr3;have hown:=hpc (OWN+g) xs ys hy;split at hr4
   ·rename_i t ht;obtain ⟨z,hz,hr5⟩:=bind_some hr4;obtain ⟨hgO,hr6⟩:=AH hr5;obtain ⟨⟨hyl,hys⟩,hK⟩:=AH hr6;rw [if_neg (not_lt.2 (Nat.le_add_right OWN g)),if_pos (Uw hgO),Nat.add_sub_cancel_left] at hown;obtain ⟨avs',ha3,ha2⟩:=hargs;refine (hown (fun b=>B b∨Ex κ (AY h ls) b) w avs' vs n ha3 (fun b hb=>hb.elim (hh1.ltB b) fun ⟨i,base,o,hk,_,_⟩=>hh1.lt i b base hk) ha2).mono ?_
    rintro e w' ⟨v,s,es,rfl,rfl,hg,hnew⟩
    have hes:FT (([Tree.sl s es]:List Tree).getD 0 default)=es:=rfl;have hsz:s=z:=by have h1:E6 z (Tree.sl s es)=true:=hys;simpa [E6] using h1
    subst hsz;rw [hes] at hK;have hh2:=Dx hh1 hg;have x2:=ED hh1 hg;unfold OD at hK;split at hK
    ·rename_i i0 v0 hre;have hre:FJ h ls=some (i0,v0):=by
      split at hre
      ·exact hre
      ·cases hre
     split at hK
     ·rename_i honly;obtain ⟨size0,es0,hi0⟩:=NL hre;obtain ⟨kk,hkk⟩:=Bk hh hi0;have hOL:∀L,OLe (.row false v0 size0 es0) (.row false (v0+1) s L):=fun L=>⟨rfl,le_succ _,(fun e=>by simp [AF.ver] at e),(fun e=>by cases e),(fun e=>by cases e),rfl⟩
      have hver:∀L,(AF.row false v0 size0 es0).ver=(AF.row false (v0+1) s L).ver→∀{p:Prop},p:=fun L e=>by simp [AF.ver] at e
      rcases hnew with ⟨rfl,a0,rfl⟩|⟨b,base,cap,cells,elem,fr,rfl,h1,h2,h3,h4,h5,hth,h6,h7,h8⟩
      ·have x3:Ext κ h w (κ.set i0 none) (h.set i0 (.row false (v0+1) s [])) w':=
        CW hh hi0 rfl (hOL []) hkk hg.os hg.tape hg.output hg.size (fun b' hb' _=>hg.block b' hb') (fun b base e=>by cases e) (fun e=>hver [] e)
       have hh3:=Bu hh hi0 hkk (fun b' hb' _=>hg.block b' hb') (fun b base e=>by cases e) x3 (show GC B (κ.set i0 none) (h.set i0 (.row false (v0+1) s [])) w' none (.row false (v0+1) s []) from rfl);exact ⟨_,_,_,_,rfl,hK,Bx (Aq hkk) (Aq hi0),hh3,x3,fun e=>(hq e).elim⟩
      ·have x3:Ext κ h w (κ.set i0 (some (b,base))) (h.set i0 (.row false (v0+1) s es)) w':=
        CW hh hi0 rfl (hOL es) hkk hg.os hg.tape hg.output hg.size (fun b' hb' _=>hg.block b' hb') (fun b' base' e=>by injection e with e;injection e with e;exact .inr (by omega)) (fun e=>hver es e)
       have hh3:=Bu hh hi0 hkk (fun b' hb' _=>hg.block b' hb') (fun b' base' e=>by injection e with e;injection e with e;subst e;exact ⟨.inr h2,h3⟩) x3
        (Bz h4 h5 hth (le_trans (add_le_add_left (mul_le_mul_right _ h1) _) h6) ⟨h7,fun j e' c x he hx=>(h8 j e' c x he hx).less fun b' hb'=>by
         rcases hb' with hb'|⟨i,bs,o,k1,k2,k3⟩
         ·exact .inl (.inl hb')
         ·by_cases hii:i=i0
          ·subst hii;rw [Aq hkk] at k1;injection k1 with k1;injection k1 with k1;injection k1 with k1;exact .inr k1.symm
          ·rw [getElem?_set_ne (fun e=>hii e.symm)] at k1 k2;exact .inl (.inr ⟨i,bs,o,k1,by rw [Gp ls h honly i hii];exact k2,k3⟩)⟩)
       exact ⟨_,_,_,_,rfl,hK,Bt (Aq hkk) (Aq hi0) h5 h6 rfl h1,hh3,x3,fun e=>(hq e).elim⟩
     ·cases hK
    rcases hnew with ⟨rfl,a0,rfl⟩|⟨b,base,cap,cells,elem,fr,rfl,h1,h2,h3,h4,h5,hth,h6,h7,h8⟩
    ·have x3:Ext κ (AY h ls) w' (κ++[none]) (AY h ls++[.row false 0 s []]) w':=Bb hh2 rfl rfl rfl (le_refl _) (fun _ _=>rfl) (fun b base e=>by cases e);have hh3:=BK hh2 (fun _ _=>rfl) x3 (fun b base e=>by cases e) (show GC B (κ++[none]) (AY h ls++[.row false 0 s []]) w' none (.row false 0 s []) from rfl);exact ⟨_,_,_,_,rfl,hK,Bx (by rw [← hh2.len];exact Ag κ _) (Ag _ _),hh3,(x1.trans x2).trans x3,fun e=>(hq e).elim⟩
    ·
     have x3:Ext κ (AY h ls) w (κ++[some (b,base)]) (AY h ls++[.row false 0 s es]) w':=
      Bb hh1 hg.os hg.tape hg.output hg.size hg.block fun b' base' e=>by injection e with e;injection e with e;omega
     have hh3:=BK hh1 hg.block x3 (fun b' base' e=>by injection e with e;injection e with e;subst e;exact ⟨h2,h3⟩)
      (Bz h4 h5 hth (le_trans (add_le_add_left (mul_le_mul_right _ h1) _) h6) ⟨h7,fun j e' c x he hx=>(h8 j e' c x he hx).less fun b' hb'=>by
       rcases hb' with hb'|⟨i,bs,o,k1,k2,k3⟩
       ·exact .inl (.inl hb')
       ·rcases Bv κ _ i k1 with ⟨_,k1'⟩|⟨rfl,k1'⟩
        ·have hi:i<(AY h ls).length:=by rw [← hh1.len];exact AT k1'
         rw [getElem?_append_left hi] at k2;exact .inl (.inr ⟨i,bs,o,k1',k2,k3⟩)
        ·injection k1' with k1';injection k1' with k1';exact .inr k1'⟩)
     exact ⟨_,_,_,_,rfl,hK,Bt (by rw [← hh1.len];exact Ag κ _) (Ag _ _) h5 h6 rfl h1,hh3,x1.trans x3,fun e=>(hq e).elim⟩
   ·cases hr4
 split at hr
 ·split at hr
  ·cases hr
  ·rename_i hq;split at hr
   ·rename_i p hp;refine (V0 (C.primOk g p hp) hr hh hc n).mono ?_
    rintro e w' ⟨val,v,h',κ',rfl,hK,y1,y2,y3⟩
    exact ⟨val,v,h',κ',rfl,hK,y1,y2,y3,fun e=>(hq e).elim⟩
   split at hr
   ·unfold join at hr;have hcall:=hrec _ _ _ _ _ hr;refine (hcall B κ w vs n hh hc).mono ?_
    rintro e w' ⟨v,rv,κ',rs,h1,rfl,hK,hm,hv,hh',x⟩
    simp only [AE] at hK;obtain ⟨hsh,hK⟩:=AH hK;obtain ⟨hs,hK2,hun,hbe⟩:=S0 hK (Nj x);have hrl:Ga C.P rs (C9 C.P g) 0=rs:=KJ [] hsh;simp only [hrl,hm,hun] at hK2;exact ⟨v,rv,_,κ'.take h.length,rfl,hK2,hv.Da (Lo (fun i=>PR hsh i _) hm),hh'.Da hbe,x.Da (le_refl _),fun e=>(hq e).elim⟩
   have hcall:=hrec _ _ _ _ _ hr;refine (hcall B κ w vs n hh hc).mono ?_
   rintro e w' ⟨v,rv,κ',rs,h1,rfl,hK,hm,hv,hh',x⟩
   simp only [hm] at hK;obtain ⟨κ2,y1,y2,y3⟩:=SH (m:=h.length) hh' x (le_refl _) (fun hl=>Lo hl hm) hv;exact ⟨v,rv,_,κ2,rfl,hK,y1,y2,y3,fun e=>(hq e).elim⟩
 ·obtain ⟨ls,us,hr1,hls,hbuild⟩:=I7 hr hc;clear hr;obtain ⟨h1,hh1,x1,hqq,hr2⟩:∃h1,Ai B κ h1 w∧Ext κ h w κ h1 w∧(q=true→h1=h)∧(DG C.P (!B8 C.P g) h1 (It C.P g) ls fun xs=>if g<OWN then ((pc g xs).bind fun ys=>Im C.P (C9 C.P g) ys fun ys=>
    match CO C.P g (fun i =>.t (ys.getD i default)) with
    |some v=>K v h1
    |none=>none) else none)=some r:=by
   by_cases hb:(q||B8 C.P g)=true
   ·exact ⟨h,hh,Ext.refl _ _ _,fun _=>rfl,by simp only [hb,if_true] at hr1;exact hr1⟩
   ·have hb':(q||B8 C.P g)=false:=by simpa using hb
    obtain ⟨hh1,x1⟩:=EU ls hh;refine ⟨AY h ls,hh1,x1,fun e => ?_,by simp only [hb',false_eq_true,if_false] at hr1;exact hr1⟩;rw [e] at hb';cases hb'
  clear hr1;have hls1:=hls.ext x1;obtain ⟨xs,hr3,hxl,_,hxt⟩:=Cc (vs:=us) hr2 hh1 (by simpa using hls1.1) (Bi hls1);clear hr2;obtain ⟨hgo,hr3⟩:=AH hr3;obtain ⟨ys,hy,hr4⟩:=bind_some hr3;clear hr3;have hr4:=Il hr4;split at hr4
  ·rename_i v hm;have hpure:=hpc g xs ys hy;rw [if_pos hgo] at hpure;have hfn:∃fn,C.P.funcs[g]? = some fn:=by
    unfold CO at hm;split at hm
    ·rename_i fn hf;exact ⟨fn,hf⟩
    ·cases hm
   obtain ⟨fn,hf⟩:=hfn;have hul:us.length=xs.length:=by rw [hxl];simpa using hls1.1
   have hleaf:∀(Bc:Nat→Prop),(∀b,Bc b→B b∨((!B8 C.P g)=true∧Ex κ h1 b))→∀j u,us[j]? = some u→AP Bc [] [] w (.t (xs.getD (0+j) default)) u:=by
    intro Bc hBc j u hu;have hj:j<xs.length:=by rw [← hul];exact AT hu
    have:=hxt j _ u (BP xs j default hj) hu;rw [zero_add];exact .t _ _ (this.less fun b hb=>hb.elim (hBc b) fun e=>(DE e).elim)
   by_cases hscal:B8 C.P g=true
   ·obtain ⟨avs',ha1,ha2⟩:=hbuild (fun _=>False) [] [] w (fun i =>.t (xs.getD i default)) 0 (fun j u hu=>hleaf (fun _=>False) (fun b hb=>hb.elim) j u hu);have ha3:DA C.P g (fun i =>.t (xs.getD i default))=some avs':=by unfold DA;unfold G9 at ha1;rw [hf] at ha1 ⊢;exact ha1
    refine (hpure (fun _=>False) w avs' vs n ha3 (fun b hb=>hb.elim) ha2).mono ?_
    rintro e w' ⟨val,rv,rfl,hm',hv,hg,hsc⟩
    rw [hm] at hm';cases hm';have hsy:=hsc hscal;refine ⟨val,v,h1,κ,rfl,hr4,Gi hm (fun i u ht=>Qy (PT hsy i) ht) hv,Dx hh1 hg,x1.trans (ED hh1 hg),fun e=>⟨hqq e,rfl⟩⟩
   ·have hns:(!B8 C.P g)=true:=by simpa using hscal
    obtain ⟨avs',ha1,ha2⟩:=hbuild (fun b=>B b∨Ex κ h1 b) [] [] w (fun i =>.t (xs.getD i default)) 0 (fun j u hu=>hleaf _ (fun b hb=>hb.imp id fun e=>⟨hns,e⟩) j u hu);have ha3:DA C.P g (fun i =>.t (xs.getD i default))=some avs':=by unfold DA;unfold G9 at ha1;rw [hf] at ha1 ⊢;exact ha1
    refine (hpure (fun b=>B b∨Ex κ h1 b) w avs' vs n ha3 (fun b hb=>hb.elim (hh1.ltB b) fun ⟨i,base,o,hk,_,_⟩=>hh1.lt i b base hk) ha2).mono ?_
    rintro e w' ⟨val,rv,rfl,hm',hv,hg,hsc⟩
    rw [hm] at hm';cases hm';exact ⟨val,v,h1,κ,rfl,hr4,Gi hm (fun i u ht=>ht.less fun b hb =>.inl hb) hv,Dx hh1 hg,x1.trans (ED hh1 hg),fun e=>⟨hqq e,rfl⟩⟩
  ·cases hr4
end Ab
namespace Ab
open Go
variable {R:Type} {P:Program} {B:Nat→Prop} {κ:A0} {h:Heap} {w:World} {N:Nat} {env:Env} {a:Act}
theorem Fy {g:FuncId} (he:enters P g=true) (vs:Array Value):(callFunc g vs).run P w = .ok (.enter g vs) w:=by
 unfold enters at he;split at he
 ·rename_i fn hf;simp only [and_eq_true,not_eq_true'] at he;obtain ⟨hb,hn⟩:=he;have hb':fn.body.isNone=false:=by cases h:fn.body<;>simp_all
  simp only [callFunc,Sem.run_bind,run_program,Result.andThen_ok,hf,hn,hb',false_eq_true,if_false,Sem.run_pure]
 ·cases he
theorem DL {xs ys:List AV} {us vs:Array Value} (h1:AZ B κ h w xs us) (h2:AZ B κ h w ys vs):AZ B κ h w (xs++ys) (us++vs):=by
 obtain ⟨us⟩:=us;obtain ⟨vs⟩:=vs;have e1:us.length=xs.length:=by simpa using h1.1
 have e2:vs.length=ys.length:=by simpa using h2.1
 have eu:({toList:=us}:Array Value)=us.toArray:=rfl;have ev:({toList:=vs}:Array Value)=vs.toArray:=rfl;rw [eu,ev] at *;have e3:us.toArray++vs.toArray=(us++vs).toArray:=by simp
 rw [e3];refine ⟨by simp [e1,e2],fun j y hy => ?_⟩;rw [BQ];rcases lt_or_ge j xs.length with hj|hj
 ·rw [getElem?_append_left hj] at hy;have:=h1.2 j y hy;rw [BQ] at this;simp only [List.getD] at this ⊢;rw [getElem?_append_left (by omega)];exact this
 ·rw [getElem?_append_right hj] at hy;have:=h2.2 _ y hy;rw [BQ] at this;simp only [List.getD] at this ⊢;rw [getElem?_append_right (by omega),e1];exact this
def WD (B:Nat→Prop) (κ:A0) (h:Heap) (w:World) (q:Bool) (K:AV→Heap→Option R) (r:R) (o:Oper) (a:Act) (next:Act→World→Prop):Prop:=
 ∀v h' κ' val w',K v h'=some r→AP B κ' h' w' v val→Ai B κ' h' w'→Ext κ h w κ' h' w'→(q=true→h'=h∧κ'=κ)→next (a.put o.dst val) w'
theorem Mk {q:Bool} {K:AV→Heap→Option R} {r:R} {o:Oper} {next:Act→World→Prop} {Q:Exit→Act→World→Prop} (hn:WD B κ h w q K r o a next) {e:Ending} {w':World} (ha:Hf B κ h w q K r e w') :
  (match e,w' with
   | .returned v,w''=>next (a.put o.dst v) w''
   | .panicked chain,w''=>Q (.panic chain) a w''
   | .outgrown,_=>LetsOut Q):=by
 obtain ⟨val,v,h',κ',rfl,h1,h2,h3,h4,h5⟩:=ha;exact hn v h' κ' val w' h1 h2 h3 h4 h5
theorem T6 {C:Cfg} {rec:Rec} {pc:BE} (hrec:DY C.P rec) (hpc:B3 C.P pc) {q:Bool} {f:AV} {args:List AV} {K:AV→Heap→Option R} {r:R} (hr:MW C rec pc q f args h K=some r) (hh:Ai B κ h w)
  {fv:Value} (hf:AP B κ h w f fv) {vs:Array Value} (hc:AZ B κ h w args vs) (o:Oper) (next:Act→World→Prop) (Q:Exit→Act→World→Prop) (n:Nat) (ro:Option Nat) (hn:WD B κ h w q K r o a next) :
  o.uponIn (Fr ro) n C.P a next Q ((do let d ← Deferred.ofValue fv vs;invoke d.target d.args:Sem Next).run C.P w):=by
 unfold MW at hr
 try simp only [AE] at hr
 split at hr
 ·rename_i g first captured
  obtain ⟨hent,hr1⟩:=AH hr;cases hf with
  |func _ _ _ fs cs h1 h2 h3 h4=>
   have hc2:AZ B κ h w (first++args++captured) (fs++vs++cs):=DL (DL ⟨h1,h3⟩ hc) ⟨h2,h4⟩;have hcall:=P4 hrec hpc hr1 hh hc2 (n-1);have hrun:(do let d ← Deferred.ofValue (.func (.func g) fs cs) vs;invoke d.target d.args:Sem Next).run C.P w = .ok (.enter g (fs++vs++cs)) w:=by simp [Deferred.ofValue,invoke,Fy hent]
   rw [hrun,Oper.uponIn_enter];refine ⟨fun e=>by simp [Fr] at e,(CallsIn.fr hcall).mono fun e w' ha => ?_⟩;have:=Mk (Q:=Q) hn ha;cases e<;>exact this
 ·rename_i g;obtain ⟨hent,hr1⟩:=AH hr;cases hf with
  |t _ _ ht=>
   cases ht with
   |const _ _=>
    have hcall:=P4 hrec hpc hr1 hh hc (n-1);have hrun:(do let d ← Deferred.ofValue (.func (.func g) ⟨[]⟩ ⟨[]⟩) vs;invoke d.target d.args:Sem Next).run C.P w = .ok (.enter g vs) w:=by
     have e1:(⟨[]⟩:Array Value)++vs=vs:=by simp
     have e2:vs++(⟨[]⟩:Array Value)=vs:=by simp
     simp [Deferred.ofValue,invoke,e1,e2,Fy hent]
    rw [hrun,Oper.uponIn_enter];refine ⟨fun e=>by simp [Fr] at e,(CallsIn.fr hcall).mono fun e w' ha => ?_⟩;have:=Mk (Q:=Q) hn ha;cases e<;>exact this
 ·rename_i i;split at hr
  ·cases hr
  ·rename_i hq;have hy:=hrec _ _ _ _ _ hr;cases hf with
   |yld _ b base hk hb=>
    obtain ⟨f,tmps,assign,body,hrun,hround⟩:=hy B κ w vs b base (n-1) hh hc hk;have hrun2:(do let d ← Deferred.ofValue (.func (.yield b) #[] #[]) vs;invoke d.target d.args:Sem Next).run C.P w = .ok (.round b f tmps assign body) w:=by simp [Deferred.ofValue,invoke,hrun]
    rw [hrun2,Oper.uponIn_round];refine ⟨fun e=>by simp [Fr] at e,(RoundIn.fr hround).mono ?_⟩
    rintro e w' ⟨v,κ',rs,h1,rfl,hK,hv,hh',x⟩
    obtain ⟨κ2,y1,y2,y3⟩:=SH (m:=h.length) (rs:=[rs.getD 0 .undef]) hh' x (le_refl _) (fun hl=>hl 0) hv;exact hn _ _ _ v w' hK y1 y2 y3 (fun e=>(hq e).elim)
 ·cases hr
theorem Ia {C:Cfg} {rec:Rec} {pc:BE} (hrec:DY C.P rec) (hpc:B3 C.P pc) {q:Bool} {K:AV→Heap→Option R} {r:R} (o:Oper) (hs:Ae C rec pc q env h o.op K=some r) (hr:Rel B N κ env h a w)
  (next:Act→World→Prop) (Q:Exit→Act→World→Prop) (n:Nat) (ro:Option Nat) (hn:WD B κ h w q K r o a next):o.wpIn (Fr ro) n C.P a w next Q:=by
 refine ⟨fun _ _=>trivial,?_⟩;have hnd:∀c,o.op ≠ .defer c:=fun c e=>by rw [e] at hs;simp [Ae,Aw,qop] at hs
 rw [Oper.semAt_eq _ _ _ hnd];unfold Ae at hs
 try simp only [AE] at hs
 split at hs
 ·split at hs
  ·cases hs
  ·rename_i hq;split at hs
   ·rename_i t x himm;have hop:o.op = .box t x:=by cases hop:o.op<;>rw [hop] at himm<;>simp only [Bo] at himm<;>first|(cases himm;done)|(split at himm<;>first|(cases himm;rfl)|(cases himm;done)|(split at himm<;>first|(cases himm;rfl)|cases himm))
    obtain ⟨v,κ',val,w',h1,h2,h3,h4,h5⟩:=T7 hs hr o hop;rw [h2,Oper.uponIn_value];exact hn v h κ' val w' h1 h3 h4 h5 fun e=>(hq e).elim
   ·rename_i t himm;have hop:o.op = .alloc t:=by cases hop:o.op<;>rw [hop] at himm<;>simp only [Bo] at himm<;>first|(cases himm;done)|(split at himm<;>first|(cases himm;rfl)|(cases himm;done)|(split at himm<;>first|(cases himm;rfl)|cases himm))
    obtain ⟨v,h',κ',val,w',h1,h2,h3,h4,h5⟩:=Qe hs hr o hop;rw [h2,Oper.uponIn_value];exact hn v h' κ' val w' h1 h3 h4 h5 fun e=>(hq e).elim
   ·rename_i t d himm;have hop:o.op = .alloc t:=by cases hop:o.op<;>rw [hop] at himm<;>simp only [Bo] at himm<;>first|cases himm|(split at himm<;>first|(cases himm;rfl)|(cases himm;done)|(split at himm<;>first|(cases himm;rfl)|cases himm))
    obtain ⟨v,h',κ',val,w',h1,h2,h3,h4,h5⟩:=Qd hs hr o hop;rw [h2,Oper.uponIn_value];exact hn v h' κ' val w' h1 h3 h4 h5 fun e=>(hq e).elim
   ·rename_i t p x himm;have hop:o.op = .store t p x:=by cases hop:o.op<;>rw [hop] at himm<;>simp only [Bo] at himm<;>first|(cases himm;done)|(split at himm<;>first|(cases himm;rfl)|(cases himm;done)|(split at himm<;>first|(cases himm;rfl)|cases himm))
    obtain ⟨h',κ',w',h1,h2,h3,h4⟩:=Nv (P:=C.P) hs hr.heap (BA hr _) (BA hr _);obtain ⟨f1,f2⟩:=MC h3 (Kh (ev env p));have e2:(execOp a.eval o).run C.P w = .ok .skip w':=by unfold execOp;rw [hop];simp [h2]
    rw [e2,Oper.uponIn_skip];exact hn _ _ κ' undef w' h1 (.undef _) f1 (h4.trans f2) fun e=>(hq e).elim
   ·obtain ⟨v,h',κ',val,w',h1,h2,h3,h4,h5⟩:=hop_ok hs hr o rfl;rcases h2 with h2|⟨h2,rfl⟩
    ·rw [h2,Oper.uponIn_value];exact hn v h' κ' val w' h1 h3 h4 h5 fun e=>(hq e).elim
    ·rw [h2,Oper.uponIn_skip];exact hn v h' κ' undef w' h1 h3 h4 h5 fun e=>(hq e).elim
 ·split at hs
  ·rename_i f args argTypes ho;have hx:=T6 hrec hpc hs hr.heap (BA hr f) (II hr args) o next Q n ro hn;have he:(execOp a.eval o).run C.P w=(do let d ← Deferred.ofValue (a.eval f) (args.map a.eval);invoke d.target d.args:Sem Next).run C.P w:=by unfold execOp;rw [ho];simp [resolve]
   rw [he];exact hx
  ·rename_i src dst x ho;split at hs
   ·rename_i hb;split at hs
    ·cases hs
    ·rename_i hq;obtain ⟨v,h',κ',val,w',h1,h2,h3,h4,h5⟩:=U9 hb hs hr o ho;rw [h2,Oper.uponIn_value];exact hn v h' κ' val w' h1 h3 h4 h5 fun e=>(hq e).elim
   ·obtain ⟨v,val,w',h1,h2,h3,h4,h5⟩:=RA hs hr o ho;rw [h2,Oper.uponIn_value];exact hn v h κ val w' h1 h3 h4 h5 fun _=>⟨rfl,rfl⟩
  ·rename_i t len parts ho;split at hs
   ·split at hs
    ·cases hs
    ·rename_i hq;obtain ⟨v,h',κ',val,w',h1,h2,h3,h4,h5⟩:=QP hs hr o ho;rw [h2,Oper.uponIn_value];exact hn v h' κ' val w' h1 h3 h4 h5 fun e=>(hq e).elim
   ·obtain ⟨v,val,w',h1,h2,h3,h4,h5⟩:=RA hs hr o ho;rw [h2,Oper.uponIn_value];exact hn v h κ val w' h1 h3 h4 h5 fun _=>⟨rfl,rfl⟩
  ·obtain ⟨v,val,w',h1,h2,h3,h4,h5⟩:=RA hs hr o rfl;rw [h2,Oper.uponIn_value];exact hn v h κ val w' h1 h3 h4 h5 fun _=>⟨rfl,rfl⟩
theorem Pf {env:Env} {d:Tmp} {v:AV} (hv:env d=v):env.put (some d) v=env:=by
 funext i;simp only [Env.put];split
 ·rename_i e;rw [e,hv]
 ·rfl
theorem ET (hr:Rel B N κ env h a w) {κ':A0} {h':Heap} {w':World} (hh:Ai B κ' h' w') (x:Ext κ h w κ' h' w') {v:AV} {val:Value} (hv:AP B κ' h' w' v val) (o:Oper) (hd:JC N o=true) :
  Rel B N κ' (env.put o.dst v) h' (a.put o.dst val) w':=by
 refine ⟨hh,?_,fun i => ?_⟩
 ·cases hdst:o.dst with
  |none=>exact hr.size
  |some d=>simpa [Act.put] using hr.size
 ·cases hdst:o.dst with
  |none=>exact (hr.slot i).ext x
  |some d=>
   have hdl:d<N:=by simpa [JC,hdst] using hd
   have hdt:d<a.tmps.size:=by rw [hr.size];exact hdl
   simp only [Env.put,Act.put];by_cases hi:i=d
   ·subst hi;rw [if_pos rfl];have:(a.tmps.setIfInBounds i val).getD i undef=val:=by simp [Array.getD,hdt]
    rw [this];exact hv
   ·rw [if_neg hi];have:(a.tmps.setIfInBounds d val).getD i undef=a.tmps.getD i undef:=by
     by_cases h1:i<a.tmps.size
     ·simp [Array.getD,h1,Ne.symm hi]
     ·simp [Array.getD,h1]
    rw [this];exact (hr.slot i).ext x
theorem getD_some {arr:Array Value} {d:Nat} {v:Value} (hd:arr.getD d undef=v) (hne:v≠undef):arr[d]? = some v:=by
 by_cases h1:d<arr.size
 ·simp only [Array.getD,h1,dif_pos] at hd;rw [Array.getElem?_eq_getElem h1];exact congrArg some hd
 ·simp only [Array.getD,h1,dif_neg,not_false_eq_true] at hd;exact (hne hd.symm).elim
theorem Gn {ops:Array Oper} {o:Oper} {K1 K0:Env→Option R} {r:R} (hg:FO ops o env K1 K0=some r) (hr:Rel B N κ env h a w) :
  (Region.wanted o (yielded ops a.tmps)=true∧K1 env=some r)∨(Region.wanted o (yielded ops a.tmps)=false∧K0 env=some r):=by
 unfold FO at hg
 try simp only [AE] at hg
 unfold Region.wanted;split at hg
 ·rename_i hgd;rw [hgd];exact .inl ⟨rfl,hg⟩
 ·rename_i j want hgd;rw [hgd];simp only;split at hg
  ·rename_i d hd;split at hg
   ·rename_i b hb;have hv:=hr.slot d;rw [hb] at hv;have hval:a.tmps.getD d undef = .bool b:=by
     generalize a.tmps.getD d undef=u at hv;cases hv with
     |t _ _ ht=>cases ht;rfl
    have hy:yielded ops a.tmps j=some b:=by unfold yielded;rw [hd];simp only [Option.bind_some];rw [getD_some hval (by simp [undef])]
    rw [hy];cases b<;>cases want<;>simp only [false_eq_true,if_false,if_true] at hg<;>rw [Pf hb] at hg
    ·exact .inl ⟨rfl,hg⟩
    ·exact .inr ⟨rfl,hg⟩
    ·exact .inr ⟨rfl,hg⟩
    ·exact .inl ⟨rfl,hg⟩
   ·rename_i hb;have hv:=hr.slot d;rw [hb] at hv;have hval:a.tmps.getD d undef = .tuple #[]:=by
     generalize a.tmps.getD d undef=u at hv;cases hv with
     |tuple _ vs hs _=>rw [eq_empty_of_size_eq_zero hs]
    have hy:yielded ops a.tmps j=none:=by
     unfold yielded;rw [hd];simp only [Option.bind_some];by_cases h1:d<a.tmps.size
     ·simp only [Array.getD,h1,dif_pos] at hval;rw [Array.getElem?_eq_getElem h1];have:a.tmps[d]= .tuple #[]:=hval;rw [this]
     ·rw [Array.getElem?_eq_none (Nat.le_of_not_lt h1)]
    rw [hy];exact .inr ⟨rfl,hg⟩
   ·cases hg
  ·cases hg
def JQ (B:Nat→Prop) (N:Nat) (κ:A0) (h:Heap) (w:World) (q:Bool) (os:List Oper) (env:Env) (a:Act) (K:Env→Heap→Option R) (r:R) (next:Act→World→Prop):Prop:=
 ∀env' h' κ' a' w',K env' h'=some r→Rel B N κ' env' h' a' w'→Ext κ h w κ' h' w'→(∀i,i∉os.filterMap (·.dst)→env' i=env i)→a'.defers=a.defers→(q=true→h'=h∧κ'=κ)→next a' w'
theorem HX {C:Cfg} {rec:Rec} {pc:BE} (hrec:DY C.P rec) (hpc:B3 C.P pc) {q:Bool} (ops:Array Oper) (Q:Exit→Act→World→Prop) (n:Nat) (ro:Option Nat) (rest:List Nat) :
  ∀(os:List Oper) (l:List Nat) {K:Env→Heap→Option R} {r:R} {env:Env} {h:Heap} {κ:A0} {a:Act} {w:World},l.length=os.length→(∀(j i:Nat) (o:Oper),l[j]? = some i→os[j]? = some o→ops[i]? = some o)→
   Dh C rec pc N q ops os env h K=some r→Rel B N κ env h a w→JQ B N κ h w q os env a K r (wpOpsIn (Fr ro) n C.P ops Q rest)→wpOpsIn (Fr ro) n C.P ops Q (l++rest) a w
 |[],l,K,r,env,h,κ,a,w,hl,hi,hk,hr,hn=>by obtain rfl:l=[]:=eq_nil_of_length_eq_zero (by simpa using hl);exact hn env h κ a w hk hr (Ext.refl _ _ _) (fun _ _=>rfl) rfl fun _=>⟨rfl,rfl⟩
 |o::os,l,K,r,env,h,κ,a,w,hl,hi,hk,hr,hn=>by
  cases l with
  |nil=>simp at hl
  |cons i l=>
   simp only [Dh,AE] at hk;obtain ⟨hd,hk⟩:=AH hk;have ho:=hi 0 i o rfl rfl;have hi':∀(j i:Nat) (o:Oper),l[j]? = some i→os[j]? = some o→ops[i]? = some o:=fun j i o h1 h2=>hi (j+1) i o (by simpa using h1) (by simpa using h2);simp only [cons_append,wpOpsIn,ho];have hput:∀(v:AV) (i:Tmp),i∉(o::os).filterMap (·.dst)→(env.put o.dst v) i=env i:=fun v i hni=>by
    cases hdst:o.dst with
    |none=>rfl
    |some d=>
     simp only [Env.put];rw [if_neg fun e=>hni (by simp [hdst,e])]
   have hpd:∀val,(a.put o.dst val).defers=a.defers:=fun val=>by cases o.dst<;>rfl
   have hsub:∀i,i∉(o::os).filterMap (·.dst)→i∉os.filterMap (·.dst):=fun i hni hm=>hni (by
    simp only [filterMap_cons];split
    ·exact hm
    ·exact mem_cons_of_mem _ hm)
   rcases Gn hk hr with ⟨hw,hk1⟩|⟨hw,hk1⟩
   ·simp only [hw,if_true];refine Ia hrec hpc o hk1 hr _ Q n ro fun v h' κ' val w' h1 h2 h3 h4 h5 => ?_;refine HX hrec hpc ops Q n ro rest os l (by simpa using hl) hi' h1 (ET hr h3 h4 h2 o hd) fun env2 h2 κ2 a2 w2 k1 k2 k3 k4 k5 k6 => ?_;exact hn env2 h2 κ2 a2 w2 k1 k2 (h4.trans k3) (fun i hni=>(k4 i (hsub i hni)).trans (hput v i hni)) (k5.trans (hpd _)) fun e=>by obtain ⟨e1,e2⟩:=h5 e;obtain ⟨e3,e4⟩:=k6 e;exact ⟨e3.trans e1,e4.trans e2⟩
   ·simp only [hw,false_eq_true,if_false];refine ⟨fun _ _=>trivial,?_⟩;refine HX hrec hpc ops Q n ro rest os l (by simpa using hl) hi' hk1 (ET hr hr.heap (Ext.refl _ _ _) (.tuple _ _ rfl fun j x hx=>by simp at hx) o hd) fun env2 h2 κ2 a2 w2 k1 k2 k3 k4 k5 k6 => ?_;exact hn env2 h2 κ2 a2 w2 k1 k2 k3 (fun i hni=>(k4 i (hsub i hni)).trans (hput _ i hni)) (k5.trans (hpd _)) k6
end Ab
namespace Ab
open Go
def Det {α:Type} (f:∀R:Type,(α→Option R)→Option R):Prop:=(∃v,∀R K,f R K=K v)∨∀R K,f R K=none
theorem Det.none {α:Type}:Det (α:=α) (fun _ _=>Option.none):=.inr fun _ _=>rfl
theorem Det.val {α:Type} (v:α):Det (fun _ K=>K v):=.inl ⟨v,fun _ _=>rfl⟩
theorem Det.bind {α β:Type} (x:Option β) {f:β→∀R:Type,(α→Option R)→Option R} (hf:∀b,Det (f b)):Det (fun R K=>x.bind fun b=>f b R K):=by
 cases x with
 |none=>exact .none
 |some b=>exact hf b
theorem Det.ite {α:Type} {c:Prop} [Decidable c] {f:∀R:Type,(α→Option R)→Option R} (hf:Det f):Det (fun R K=>if c then f R K else Option.none):=by
 by_cases hc:c
 ·simp only [if_pos hc];exact hf
 ·simp only [if_neg hc];exact .none
theorem Det.Tm {α:Type} {c:Prop} [Decidable c] {f g:∀R:Type,(α→Option R)→Option R} (hf:Det f) (hg:Det g):Det (fun R K=>if c then f R K else g R K):=by
 by_cases hc:c
 ·simp only [if_pos hc];exact hf
 ·simp only [if_neg hc];exact hg
theorem Det.comp {α β:Type} {f:∀R:Type,(β→Option R)→Option R} (hf:Det f) {g:β→∀R:Type,(α→Option R)→Option R} (hg:∀b,Det (g b)):Det (fun R K=>f R fun b=>g b R K):=by
 rcases hf with ⟨v,hv⟩|hn
 ·simp only [hv];exact hg v
 ·simp only [hn];exact .none
variable {P:Program} {h:Heap}
theorem Rh (t:TypeId) (total:Nat) (get:Nat→AV) (off:Nat):Det (fun R K=>rd (R:=R) P t total get off K):=by
 unfold rd
 try simp only [AE]
 cases Ay P t with
 |none=>exact .none
 |some b=>
  cases b with
  |false=>exact .ite (.val _)
  |true=>
   cases BZ P t with
   |none=>exact .none
   |some n=>exact .ite (.val _)
theorem Tx (t:TypeId) (a:AV):Det (fun R K=>H2 (R:=R) P t h a K):=by
 unfold H2
 try simp only [AE]
 cases a with
 |ptr i off=>
  dsimp only;cases h[i]? with
  |none=>exact .none
  |some o=>cases o with
   |box cs=>exact Rh _ _ _ _
   |_=>exact .none
 |rptr i ver k off=>
  dsimp only;cases h[i]? with
  |none=>exact .none
  |some o=>cases o with
   |row f v s es=>exact .ite (.bind _ fun e=>Rh _ _ _ _)
   |_=>exact .none
 |eptr s c o=>exact Rh _ _ _ _
 |_=>exact .none
theorem Vd (fz:Bool) (ty:TypeId) (v:AV):Det (fun R K=>conv (R:=R) P fz h ty v K):=by
 unfold conv
 try simp only [AE]
 cases v with
 |t x=>exact .val _
 |nilsl=>exact .bind _ fun s =>.val _
 |sref i ver off len=>
  dsimp only;cases h[i]? with
  |none=>exact .none
  |some o=>cases o with
   |row f v s es=>exact .bind _ fun s =>.ite (.val _)
   |_=>exact .none
 |func fn a b=>
  cases a with
  |nil=>cases b with
   |nil=>exact .val _
   |cons x xs=>exact .none
  |cons x xs=>exact .none
 |_=>exact .none
theorem CB (fz:Bool):∀(ts:List TypeId) (vs:List AV),Det (fun R K=>DG (R:=R) P fz h ts vs K)
 |[],[]=>.val _
 |[],_::_ =>.none
 |_::_,[]=>.none
 |t::ts,v::vs =>.comp (Vd fz t v) fun x =>.comp (CB fz ts vs) fun xs =>.val _
theorem Rr (op:BinOp) (k:IntKind) (a b:Int):Det (fun R K=>Mr (R:=R) op k a b K):=by
 unfold Mr
 try simp only [AE]
 cases op<;>first|exact .val _|exact .none|skip
 ·by_cases hb:b=0
  ·simp only [if_pos hb];exact .none
  ·simp only [if_neg hb];exact .val _
 ·by_cases hb:b=0
  ·simp only [if_pos hb];exact .none
  ·simp only [if_neg hb];exact .val _
theorem Rj (op:BinOp) (k:IntKind) (a b:Int):Det (fun R K=>Md (R:=R) op k a b K):=by
 unfold Md
 try simp only [AE]
 by_cases hb:b<0
 ·simp only [if_pos hb];cases op<;>exact .none
 ·simp only [if_neg hb];cases op<;>first|exact .val _|exact .none
theorem P9:∀(d:Nat) (t:TypeId) (gx gy:Nat→AV) (off:Nat),Det (fun R K=>M5 (R:=R) P d t gx gy off K)
 |0,t,gx,gy,off =>.none
 |d+1,t,gx,gy,off=>by
  unfold M5
  try simp only [AE]
  cases hu:P.underlying t with
  |none=>exact .none
  |some ty=>
   cases ty with
   |int k=>exact .bind _ fun a =>.bind _ fun b =>.val _
   |bool=>exact .bind _ fun a =>.bind _ fun b =>.val _
   |string=>exact .bind _ fun a =>.bind _ fun b =>.val _
   |struct fs=>
    cases hs:BZ P t with
    |none=>exact .none
    |some n=>
     refine .ite ?_;have key:∀(l:List Field) (acc:Bool),Det (fun R (K:Bool→Option R)=>l.foldr (fun f (K':Bool→Option R) (acc:Bool)=>
       match BZ P f.type with
       | some m => if f.name ≠ "_" ∧ f.offset + m ≤ n ∧ (Ay P f.type = some true ∨ Ay P f.type = some false ∧ m = 1) then M5 P d f.type gx gy (off + f.offset) fun b => K' (acc && b) else none
       |none=>none) K acc):=by
      intro l
      induction l with
      |nil=>intro acc;exact .val _
      |cons f l ih=>
       intro acc;simp only [List.foldr_cons];cases BZ P f.type with
       |none=>exact .none
       |some m=>exact .ite (.comp (P9 d _ _ _ _) fun b=>ih _)
     exact key fs.toList true
   |_=>exact .none
theorem Vf (op:BinOp) (t:TypeId) (x y:AV):Det (fun R K=>V9 (R:=R) P op t x y K):=by
 unfold V9
 try simp only [AE]
 cases hu:P.underlying t with
 |none=>exact .none
 |some ty=>
  cases ty with
  |int k=>
   by_cases hs:Si op=true
   ·simp only [hs,if_true];exact .bind _ fun a =>.bind _ fun b=>Rj _ _ _ _
   ·simp only [hs,false_eq_true,if_false];exact .bind _ fun a =>.bind _ fun b=>Rr _ _ _ _
  |bool=>exact .bind _ fun a =>.bind _ fun b=>by cases op<;>first|exact .val _|exact .none
  |string=>exact .bind _ fun a =>.bind _ fun b=>by cases op<;>first|exact .val _|exact .ite (.val _)|exact .none
  |struct fs=>
   cases x with
   |agg xs=>
    cases y with
    |agg ys=>
     cases BZ P t with
     |none=>exact .none
     |some n=>exact .ite (by cases op<;>first|exact .comp (P9 _ _ _ _ _) (fun b =>.val _)|exact .none)
    |_=>exact .none
   |_=>exact .none
  |_=>exact .none
theorem det_aun (op:UnOp) (x:AV):Det (fun R K=>aun (R:=R) op x K):=by
 unfold aun;cases op with
 |not=>exact .bind _ fun b =>.val _
 |neg=>cases x with
  |t y=>cases y<;>first|exact .val _|exact .none
  |_=>exact .none
 |_=>exact .none
theorem KV (mx:Bool):∀(l:List AV) (a:Int),Det (fun R K=>JM.go (R:=R) mx a l K)
 |[],a =>.val _
 |y::l,a =>.bind _ fun b=>KV mx l _
theorem Tv (mx:Bool) (l:List AV):Det (fun R K=>JM (R:=R) mx l K):=by
 cases l with
 |nil=>exact .none
 |cons x l=>exact .bind _ fun a=>KV mx l a
theorem Rn (t:TypeId) (a:AV) (f:Nat):Det (fun R K=>IQ (R:=R) P t h a f K):=by
 unfold IQ
 try simp only [AE]
 refine .bind _ fun o => ?_;cases a with
 |ptr i off=>exact .val _
 |eptr s c o=>exact .val _
 |rptr i v k o=>exact .bind _ fun ob =>.ite (.val _)
 |_=>exact .none
theorem HS {α:Type} (i:Int) {f:Nat→α}:∀(n:Nat),Det (fun R (K:α→Option R)=>Is i n fun j=>K (f j))
 |0 =>.none
 |n+1=>by simp only [Is,AE];exact .Tm (.val _) (HS i n)
theorem Rm (t:TypeId) (x ix:AV):Det (fun R K=>KA (R:=R) P t h x ix K):=by
 unfold KA
 try simp only [AE]
 refine .bind _ fun i => ?_;cases P.underlying t with
 |none=>exact .none
 |some ty=>
  cases ty with
  |slice e=>
   refine .bind _ fun s => ?_;cases x with
   |t y=>cases y with
    |sl size es=>exact .ite (.bind _ fun c =>.val _)
    |_=>exact .none
   |sref r v o l=>
    dsimp only;cases h[r]? with
    |none=>exact .none
    |some o=>cases o with
     |row f v s es=>exact .ite (.val _)
     |_=>exact .none
   |bsl r o l s=>exact .ite (.Tm (HS i l) (.val _))
   |_=>exact .none
  |array n e=>
   refine .bind _ fun s => ?_;cases x with
   |ptr r off=>exact .ite (.Tm (HS i n) (.val _))
   |eptr size cells off=>exact .ite (.val _)
   |rptr r ver k off=>exact .bind _ fun ob =>.ite (.val _)
   |_=>exact .none
  |_=>exact .none
theorem Ve (t:TypeId) (x:AV):Det (fun R K=>UC (R:=R) P t h x K):=by
 unfold UC
 try simp only [AE]
 cases P.underlying t with
 |none=>exact .none
 |some ty=>
  cases ty with
  |slice e=>
   cases x with
   |t y=>cases y with
    |sl size es=>exact .val _
    |_=>exact .none
   |nilsl=>exact .val _
   |sref r v o l=>
    dsimp only;cases h[r]? with
    |none=>exact .none
    |some o=>cases o with
     |row f v s es=>exact .ite (.val _)
     |_=>exact .none
   |bsl r o l s=>exact .val _
   |_=>exact .none
  |string=>exact .bind _ fun s =>.val _
  |array n e=>exact .val _
  |_=>exact .none
theorem BC (x:Option AV) (d hi:Nat):Det (fun R K=>CK (R:=R) x d hi K):=by
 unfold CK
 try simp only [AE]
 cases x with
 |none=>exact .val _
 |some v=>exact .bind _ fun i =>.ite (.val _)
theorem Ri (t:TypeId) (x:AV) (lo hi mx:Option AV):Det (fun R K=>J6 (R:=R) P t h x lo hi mx K):=by
 unfold J6
 try simp only [AE]
 cases mx with
 |some m=>
  cases P.underlying t with
  |none=>exact .none
  |some ty=>
   cases ty with
   |slice e=>
    refine .bind _ fun z => ?_;cases hi with
    |none=>cases x with
     |t y=>cases y<;>exact .none
     |_=>exact .none
    |some b=>
     cases x with
     |t y=>cases y with
      |sl size es=>exact .ite (.comp (BC _ _ _) fun m =>.comp (BC _ _ _) fun b =>.comp (BC _ _ _) fun a =>.val _)
      |_=>exact .none
     |nilsl=>exact .comp (BC _ _ _) fun m =>.comp (BC _ _ _) fun b =>.comp (BC _ _ _) fun a =>.val _
     |sref r v o l=>
      dsimp only;cases h[r]? with
      |none=>exact .none
      |some o=>cases o with
       |row f v s es=>exact .ite (.comp (BC _ _ _) fun m =>.comp (BC _ _ _) fun b =>.comp (BC _ _ _) fun a =>.val _)
       |_=>exact .none
     |_=>exact .none
   |_=>exact .none
 |none=>
  cases P.underlying t with
  |none=>exact .none
  |some ty=>
   cases ty with
   |string=>exact .bind _ fun s =>.comp (BC _ _ _) fun b =>.comp (BC _ _ _) fun a =>.val _
   |slice e=>
    refine .bind _ fun z => ?_;cases x with
    |t y=>cases y with
     |sl size es=>exact .ite (.comp (BC _ _ _) fun b =>.comp (BC _ _ _) fun a =>.val _)
     |_=>exact .none
    |nilsl=>exact .comp (BC _ _ _) fun b =>.comp (BC _ _ _) fun a =>.val _
    |sref r v o l=>
     dsimp only;cases h[r]? with
     |none=>exact .none
     |some o=>cases o with
      |row f v s es=>exact .ite (.comp (BC _ _ _) fun b =>.comp (BC _ _ _) fun a =>.val _)
      |_=>exact .none
    |_=>exact .none
   |_=>exact .none
theorem Rq (t:TypeId) (parts:List (Nat×AV)):Det (fun R K=>Mq (R:=R) P t parts K):=by
 unfold Mq;cases P.underlying t with
 |none=>exact .none
 |some ty=>
  cases ty with
  |struct fs=>
   dsimp only;cases fs.toList.mapM (fun f=>(P.info? f.type).map fun i=>(f.offset,i.size)) with
   |none=>exact .none
   |some places=>exact .bind _ fun z =>.bind _ fun cs =>.val _
  |array n e=>exact .bind _ fun s =>.bind _ fun z =>.bind _ fun cs =>.val _
  |_=>exact .none
theorem Kc (t:TypeId) (len:Nat) (parts:List (Nat×AV)):Det (fun R K=>DX (R:=R) P t h len parts K):=by
 unfold DX
 try simp only [AE]
 cases P.underlying t with
 |none=>exact .none
 |some ty=>
  cases ty with
  |slice e=>exact .bind _ fun s =>.bind _ fun z =>.ite (.bind _ fun cs =>.comp (CB _ _ _) fun xs =>.val _)
  |_=>exact .none
theorem HT:∀(ts:List TypeId) (vs:List AV),Det (fun R K=>flatK (R:=R) P ts vs K)
 |[],[]=>.val _
 |[],_::_ =>.none
 |_::_,[]=>.none
 |t::ts,v::vs=>by
  simp only [flatK,AE];cases Ay P t with
  |none=>exact .none
  |some b=>
   cases b with
   |true=>cases v with
    |agg cs=>exact .ite (.comp (HT ts vs) fun rs =>.val _)
    |_=>exact .none
   |false=>exact .ite (.comp (HT ts vs) fun rs =>.val _)
theorem Vb (t:TypeId) (v:AV):Det (fun R K=>OA (R:=R) P t v K):=by
 rcases LW P t v with h|h
 ·exact .inl ⟨v,h⟩
 ·exact .inr h
theorem Nl (ts:List TypeId) (ys:List Tree):Det (fun R K=>Im (R:=R) P ts ys K):=by
 rcases KI P ts ys with h|h
 ·exact .inl ⟨ys,h⟩
 ·exact .inr h
theorem Oe (src dst:TypeId) (x:AV):Det (fun R K=>Gz (R:=R) P src dst x K):=by
 unfold Gz;cases P.underlying src with
 |none=>exact .none
 |some a=>
  cases P.underlying dst with
  |none=>cases a<;>exact .none
  |some b=>cases a<;>cases b<;>first|exact .none|exact .bind _ fun n =>.val _
theorem MP (n:Int):∀(m:List (Int×Nat)),Det (fun R K=>J8 (R:=R) n m K)
 |[]=>.val _
 |p::m=>by simp only [J8,AE];exact .Tm (.val _) (MP n m)
theorem QB (t:TypeId) (m x:AV):Det (fun R K=>JN (R:=R) P t m x K):=by
 unfold JN;simp only [AE];split
 ·exact .ite (MP _ _)
 ·exact .none
theorem HU (h:Heap) (z:Nat) (x:AV):Det (fun R (K:List (List Tree)→Option R)=>elems (R:=R) h z x K):=by
 unfold elems
 try simp only [AE]
 cases x with
 |t y=>
  cases y with
  |sl s es=>exact .ite (.val _)
  |_=>exact .none
 |nilsl=>exact .val _
 |sref i ver off len=>
  dsimp only;cases h[i]? with
  |none=>exact .none
  |some o=>
   cases o with
   |row f ver' s es=>exact .ite (.val _)
   |_=>exact .none
 |_=>exact .none
theorem HQ (h:Heap) (z:Nat) (x:AV):Det (fun R (K:List (List Tree)→Option R)=>Ho (R:=R) h z x K):=by
 unfold Ho
 try simp only [AE]
 split
 ·exact .ite (.val _)
 ·exact HU _ _ _
theorem Ro (src dst:TypeId) (x:AV):Det (fun R K=>KB (R:=R) P h src dst x K):=by
 unfold KB;simp only [AE];split
 ·split
  ·exact .comp (HU _ _ _) fun es =>.ite (.val _)
  ·exact .none
 ·exact Oe _ _ _
theorem QC (t:TypeId) (x ix:AV):Det (fun R K=>JO (R:=R) P t x ix K):=by
 unfold JO;simp only [AE];split
 ·exact .ite (.val _)
 ·exact .ite (.ite (HS _ _))
 ·exact .none
theorem Rk (t:TypeId) (h:Heap) (i:Nat) (x:AV) (co:Bool):Det (fun R K=>J9 (R:=R) P t h i x co K):=by
 unfold J9
 try simp only [AE]
 split
 ·exact .ite (.val _)
 ·exact .none
theorem Oc (t:TypeId) (h:Heap):Det (fun R (K:AV×Heap→Option R)=>Fp (R:=R) P t h fun v h'=>K (v,h')):=by
 unfold Fp;split
 ·exact .val (_,_)
 ·exact .none
theorem QA (t:TypeId) (h:Heap) (m x v:AV):Det (fun R (K:Heap→Option R)=>HY (R:=R) P t h m x v K):=by
 unfold HY
 try simp only [AE]
 split
 ·split
  ·exact .ite (.val _)
  ·exact .none
 ·exact .none
theorem det_qop (env:Env) (op:Op):Det (fun R K=>qop (R:=R) P env h op K):=by
 cases op with
 |move x=>exact .val _
 |assign x=>exact .val _
 |pick c a b=>
  simp only [qop,AE];exact .bind _ fun t =>.Tm (.val _) (.val _)
 |build t parts=>exact Rq _ _
 |buildSlice t len parts=>exact Kc _ _ _
 |load t a=>exact .comp (Tx _ _) fun v=>Vb _ _
 |binOp op t x y yt=>exact Vf _ _ _ _
 |unOp op t x=>exact det_aun _ _
 |convert src dst x=>exact Ro _ _ _
 |makeFunc fn first captured=>cases fn<;>first|exact .val _|exact .none
 |slice t x lo hi mx=>exact Ri _ _ _ _ _
 |fieldAddr t x f=>exact Rn _ _ _
 |indexAddr t x ix=>exact Rm _ _ _
 |extract t i=>
  simp only [qop,AE];cases ev env t with
  |tuple vs=>cases hv:vs[i]? with
   |none=>simp only [hv];exact .none
   |some v=>simp only [hv];exact .val _
  |_=>exact .none
 |lookup t m x ok=>
  simp only [qop];cases ev env m with
  |mref i=>exact Rk _ _ _ _ _
  |_=>
   cases ok with
   |true=>simp only [if_true];exact QB _ _ _
   |false=>simp only [false_eq_true,if_false];exact .none
 |index t x ix=>exact QC _ _ _
 |nilCheck x=>
  simp only [qop,AE];cases ev env x with
  |ptr i off=>exact .val _
  |eptr s c o=>exact .val _
  |yld i=>exact .val _
  |rptr i v k o=>exact .val _
  |func fn a b=>cases fn<;>first|exact .val _|exact .none
  |_=>exact .none
 |call c=>
  obtain ⟨callee,args,argTypes⟩:=c;cases callee with
  |builtin b=>
   cases b<;>first|exact Tv _ _|exact .none|skip
   simp only [qop,AE]
   match args.toList,argTypes.toList with
   |[x],[t]=>exact Ve _ _
   |[],_=>exact .none
   |_::_::_,_=>exact .none
   |[x],[]=>exact .none
   |[x],_::_::_=>exact .none
  |value f=>exact .none
  |invoke r m=>exact .none
 |_=>exact .none
theorem Va (C:Cfg) (rec:Rec) (pc:BE) (env:Env) (op:Op) :
  (∃v,∀(R:Type) (K:AV→Heap→Option R),Ae C rec pc true env h op K=K v h)∨∀(R:Type) (K:AV→Heap→Option R),Ae C rec pc true env h op K=none:=by
 have lift:∀{f:∀R:Type,(AV→Option R)→Option R},Det f→(∃v,∀(R:Type) (K:AV→Heap→Option R),f R (fun v=>K v h)=K v h)∨∀(R:Type) (K:AV→Heap→Option R),f R (fun v=>K v h)=none:=by
  intro f hf;rcases hf with ⟨v,hv⟩|hn
  ·exact .inl ⟨v,fun R K=>hv R _⟩
  ·exact .inr fun R K=>hn R _
 have hfc:∀(g:FuncId) (avs:List AV),(∃v,∀(R:Type) (K:AV→Heap→Option R),FC C rec pc true g avs h K=K v h)∨∀(R:Type) (K:AV→Heap→Option R),FC C rec pc true g avs h K=none:=by
  intro g avs;unfold FC
  try simp only [AE]
  by_cases ho:C.own g=true
  ·exact .inr fun R K=>by simp [ho]
  have ho':C.own g=false:=by simpa using ho
  by_cases hg:C.heapful g=true
  ·exact .inr fun R K=>by simp [ho',hg]
  ·have hg':C.heapful g=false:=by simpa using hg
   simp only [ho',hg',false_eq_true,if_false,Bool.true_or,if_true];have hd:Det (fun R (K:AV→Option R)=>flatK C.P (G9 C.P g) avs fun ls=>DG C.P (!B8 C.P g) h (It C.P g) ls fun xs=>if g<OWN then ((pc g xs).bind fun ys=>Im C.P (C9 C.P g) ys fun ys=>
     match CO C.P g (fun i =>.t (ys.getD i default)) with
     |some v=>K v
     |none=>none) else none):=
    .comp (HT _ _) fun ls =>.comp (CB _ _ _) fun xs =>.ite (.bind _ fun ys =>.comp (Nl _ _) fun ys=>by
     cases CO C.P g (fun i =>.t (ys.getD i default)) with
     |none=>exact .none
     |some v=>exact .val _)
   exact lift hd
 unfold Ae
 try simp only [AE]
 by_cases hh:Aw op=true
 ·exact .inr fun R K=>by simp [hh]
 ·have hh':Aw op=false:=by simpa using hh
  simp only [hh',false_eq_true,if_false];have hq:=lift (det_qop (P:=C.P) (h:=h) env op);cases op with
  |convert src dst x=>
   dsimp only;by_cases hf:Mx C.P src dst=true
   ·simp only [hf,if_true];exact .inr fun _ _=>trivial
   ·simp only [hf,false_eq_true,if_false];exact hq
  |buildSlice t len parts=>
   dsimp only;by_cases hf:C.fnTy t=true
   ·simp only [hf,if_true];exact .inr fun _ _=>trivial
   ·simp only [hf,false_eq_true,if_false];exact hq
  |call c=>
   obtain ⟨callee,args,argTypes⟩:=c;cases callee with
   |value f=>
    dsimp only;unfold MW
    try simp only [AE]
    have hif:∀(g:FuncId) (avs:List AV),(∃v,∀(R:Type) (K:AV→Heap→Option R),(if enters C.P g=true then FC C rec pc true g avs h K else none)=K v h)∨∀(R:Type) (K:AV→Heap→Option R),(if enters C.P g=true then FC C rec pc true g avs h K else none)=none:=by
     intro g avs;by_cases he:enters C.P g=true
     ·simp only [if_pos he];exact hfc g avs
     ·simp only [if_neg he];exact .inr fun _ _=>trivial
    cases ev env f with
    |func fn a b=>
     cases fn with
     |func g=>exact hif g _
     |_=>exact .inr fun _ _=>rfl
    |t x=>
     cases x with
     |const v=>
      cases v with
      |func fn a b=>
       cases fn with
       |func g=>
        obtain ⟨a⟩:=a;obtain ⟨b⟩:=b;cases a with
        |nil=>cases b with
         |nil=>exact hif g _
         |cons x xs=>exact .inr fun _ _=>rfl
        |cons x xs=>exact .inr fun _ _=>rfl
       |_=>exact .inr fun _ _=>rfl
      |_=>exact .inr fun _ _=>rfl
     |_=>exact .inr fun _ _=>rfl
    |yld i=>exact .inr fun _ _=>by simp
    |_=>exact .inr fun _ _=>rfl
   |builtin b=>exact hq
   |invoke a b=>exact hq
  |_=>exact hq
noncomputable def GL (C:Cfg) (rec:Rec) (pc:BE) (h:Heap) (env:Env) (op:Op):Option AV:=Ae C rec pc true env h op fun v _=>some v
theorem step_eq {R:Type} (C:Cfg) (rec:Rec) (pc:BE) (env:Env) (op:Op) (K:AV→Heap→Option R):Ae C rec pc true env h op K=(GL C rec pc h env op).bind fun v=>K v h:=by
 unfold GL;rcases Va (h:=h) C rec pc env op with ⟨v,hv⟩|hn
 ·rw [hv,hv];rfl
 ·rw [hn,hn];rfl
def M4 (ops:Array Oper) (o:Oper) (env:Env):Option Bool:=
 match o.guard with
 |none=>some true
 |some (j,want)=>
  match (ops[j]?).bind (·.dst) with
  |some d=>match env d with
   | .t (.bool b)=>some (b==want)
   | .tuple []=>some false
   |_=>none
  |none=>none
theorem Pz {R:Type} (ops:Array Oper) (o:Oper) (env:Env) (K1 K0:Env→Option R):FO ops o env K1 K0=(M4 ops o env).bind fun b=>if b then K1 env else K0 env:=by
 unfold FO M4
 try simp only [AE]
 cases hg:o.guard with
 |none=>rfl
 |some p=>
  obtain ⟨j,want⟩:=p;dsimp only;cases hd:(ops[j]?).bind (·.dst) with
  |none=>rfl
  |some d=>
   dsimp only;cases hb:env d with
   |t x=>
    cases x with
    |bool b=>cases b<;>cases want<;>simp [Pf hb]
    |_=>rfl
   |tuple vs=>cases vs<;>rfl
   |_=>rfl
theorem Q9 (C:Cfg) (rec:Rec) (pc:BE) {env env':Env} (op:Op) (hE:∀x∈op.operands,ev env x=ev env' x):GL C rec pc h env op=GL C rec pc h env' op:=by
 have hmap:∀(xs:Array Operand),(∀x∈xs,ev env x=ev env' x)→xs.toList.map (ev env)=xs.toList.map (ev env'):=fun xs hx=>
  map_congr_left fun x hm=>hx x (by simpa using hm)
 have hparts:∀(ps:Array (Nat×Operand)),(∀x∈(ps.toList.map (·.2)).toArray,ev env x=ev env' x)→ps.toList.map (fun p=>(p.1,ev env p.2))=ps.toList.map (fun p=>(p.1,ev env' p.2)):=fun ps hx=>
  map_congr_left fun p hm=>by rw [hx p.2 (by simp;exact ⟨p.1,by simpa using hm⟩)]
 have hopt:∀(x:Option Operand),(∀y∈x.toArray,ev env y=ev env' y)→Iw env x=Iw env' x:=fun x hx=>by
  cases x with
  |none=>rfl
  |some y=>simp only [Iw];rw [hx y (by simp)]
 unfold GL;cases op with
 |move x=>have h1:=hE x (by simp [Op.operands]);simp only [Ae,Aw,false_eq_true,if_false,qop,h1,AE]
 |assign x=>have h1:=hE x (by simp [Op.operands]);simp only [Ae,Aw,false_eq_true,if_false,qop,h1,AE]
 |pick c a b=>
  have h1:=hE c (by simp [Op.operands]);have h2:=hE a (by simp [Op.operands]);have h3:=hE b (by simp [Op.operands]);simp only [Ae,Aw,false_eq_true,if_false,qop,h1,h2,h3,AE]
 |alloc t=>simp [Ae,Aw,AE]
 |box t x=>simp [Ae,Aw,AE]
 |store t a x=>simp [Ae,Aw,AE]
 |build t ps=>have h1:=hparts ps hE;simp only [Ae,Aw,false_eq_true,if_false,qop,h1,AE]
 |buildSlice t l ps=>have h1:=hparts ps hE;simp only [Ae,Aw,false_eq_true,if_false,qop,if_true,h1,AE]
 |load t x=>have h1:=hE x (by simp [Op.operands]);simp only [Ae,Aw,false_eq_true,if_false,qop,h1,AE]
 |nilCheck x=>have h1:=hE x (by simp [Op.operands]);simp only [Ae,Aw,false_eq_true,if_false,qop,h1,AE]
 |binOp op t x y yt=>
  have h1:=hE x (by simp [Op.operands]);have h2:=hE y (by simp [Op.operands]);by_cases hi:Aw (.binOp op t x y yt)=true
  ·simp only [Ae,hi,if_true]
  ·simp only [Ae,hi,false_eq_true,if_false,qop,h1,h2,AE]
 |unOp op t x=>have h1:=hE x (by simp [Op.operands]);simp only [Ae,Aw,false_eq_true,if_false,qop,h1,AE]
 |convert src dst x=>have h1:=hE x (by simp [Op.operands]);simp only [Ae,Aw,false_eq_true,if_false,qop,h1,AE]
 |makeSlice t n c=>simp [Ae,Aw,AE]
 |makeMap t r=>
  cases r with
  |none=>simp [Ae,Aw,AE]
  |some r=>simp only [Ae,Aw,false_eq_true,if_false,qop,AE]
 |mapUpdate t m x v=>simp [Ae,Aw,AE]
 |makeFunc fn first captured=>
  have h1:=hmap first fun x hx=>hE x (by simp [Op.operands,hx])
  have h2:=hmap captured fun x hx=>hE x (by simp [Op.operands,hx]);simp only [Ae,Aw,false_eq_true,if_false,qop,h1,h2,AE]
 |slice t x lo hi mx=>
  have h1:=hE x (by simp [Op.operands]);have h2:=hopt lo fun y hy=>hE y (by simp [Op.operands] at hy ⊢;simp [hy]);have h3:=hopt hi fun y hy=>hE y (by simp [Op.operands] at hy ⊢;simp [hy]);have h4:=hopt mx fun y hy=>hE y (by simp [Op.operands] at hy ⊢;simp [hy]);simp only [Ae,Aw,false_eq_true,if_false,qop,h1,h2,h3,h4,AE]
 |fieldAddr t x f=>have h1:=hE x (by simp [Op.operands]);simp only [Ae,Aw,false_eq_true,if_false,qop,h1,AE]
 |indexAddr t x y=>
  have h1:=hE x (by simp [Op.operands]);have h2:=hE y (by simp [Op.operands]);simp only [Ae,Aw,false_eq_true,if_false,qop,h1,h2,AE]
 |lookup t m x ok=>have h1:=hE m (by simp [Op.operands]);have h2:=hE x (by simp [Op.operands]);cases ok<;>simp only [Ae,Aw,false_eq_true,if_false,qop,h1,h2,AE]
 |index t x y=>
  have h1:=hE x (by simp [Op.operands]);have h2:=hE y (by simp [Op.operands]);simp only [Ae,Aw,false_eq_true,if_false,qop,h1,h2,AE]
 |extract x i=>have h1:=hE x (by simp [Op.operands]);simp only [Ae,Aw,false_eq_true,if_false,qop,h1,AE]
 |call c=>
  obtain ⟨callee,args,argTypes⟩:=c;cases callee with
  |value f=>
   have h1:=hE f (by simp [Op.operands,Call.operands]);have h2:=hmap args fun x hx=>hE x (by simp [Op.operands,Call.operands,hx]);simp only [Ae,Aw,false_eq_true,if_false,h1,h2,AE]
  |builtin b=>
   have h2:∀x∈args.toList,ev env x=ev env' x:=fun x hx=>hE x (by simp [Op.operands,Call.operands];simpa using hx);have h3:=hmap args fun x hx=>h2 x (by simpa using hx);cases b<;>first|(simp [Ae,Aw,AE];done)|(simp only [Ae,Aw,false_eq_true,if_false,qop,h3,AE];done)|(simp only [Ae,Aw,false_eq_true,if_false,qop,AE];done)|skip
   simp only [Ae,Aw,false_eq_true,if_false,qop,AE]
   match hl:args.toList,argTypes.toList with
   |[x],[t]=>simp only [h2 x (by rw [hl];simp)]
   |[],_=>rfl
   |_::_::_,_=>rfl
   |[x],[]=>rfl
   |[x],_::_::_=>rfl
  |invoke r m=>simp only [Ae,Aw,false_eq_true,if_false,qop,AE]
 |_=>simp only [Ae,Aw,false_eq_true,if_false,qop,AE]
theorem L5 (ops:Array Oper) (o:Oper) {env env':Env} (hE:∀t∈o.looksAt ops,env t=env' t):M4 ops o env=M4 ops o env':=by
 unfold M4;cases hg:o.guard with
 |none=>rfl
 |some p=>
  obtain ⟨j,want⟩:=p;dsimp only;cases hd:(ops[j]?).bind (·.dst) with
  |none=>rfl
  |some d=>
   dsimp only;rw [hE d (by simp [Oper.looksAt,hg,hd])]
theorem Lt (ops:Array Oper) (o:Oper) {env env':Env} (hE:∀t∈o.looksAt ops,env t=env' t):∀x∈o.op.operands,ev env x=ev env' x:=by
 intro x hx;cases x with
 |tmp t=>exact hE t (by simp only [Oper.looksAt,mem_append,mem_filterMap];exact .inl ⟨.tmp t,by simpa using hx,rfl⟩)
 |_=>rfl
theorem CN {env:Env} {o:Oper} {v:AV} {t:Tmp} (ht:∀d,o.dst=some d→d≠t):(env.put o.dst v) t=env t:=by
 cases hd:o.dst with
 |none=>rfl
 |some d=>simp only [Env.put];rw [if_neg fun e=>ht d hd e.symm]
theorem put_comm {env:Env} {x y:Oper} {v u:AV} (hxy:∀d,x.dst=some d→y.dst≠some d):(env.put x.dst v).put y.dst u=(env.put y.dst u).put x.dst v:=by
 cases hx:x.dst with
 |none=>cases y.dst<;>rfl
 |some d=>
  cases hy:y.dst with
  |none=>rfl
  |some e=>
   funext i;simp only [Env.put];have hne:d≠e:=fun h=>hxy d hx (by rw [hy,h]);by_cases h1:i=e
   ·rw [if_pos h1];by_cases h2:i=d
    ·exact (hne (h2.symm.trans h1)).elim
    ·rw [if_neg h2,if_pos h1]
   ·rw [if_neg h1];by_cases h2:i=d
    ·rw [if_pos h2,if_pos h2]
    ·rw [if_neg h2,if_neg h2,if_neg h1]
theorem IJ {h:Heap}:∀(os vs:List AV),Det (fun R (K:List AV→Option R)=>Cf (R:=R) h os vs K)
 |os,[]=>by
  have:(fun R (K:List AV→Option R)=>Cf (R:=R) h os [] K)=fun R K=>K []:=by funext R K;cases os<;>rfl
  rw [this];exact .val _
 |[],v::vs =>.val _
 |o::os,v::vs=>by
  have plain:∀x:AV,Det (fun R (K:List AV→Option R)=>Cf (R:=R) h os vs fun vs'=>K (x::vs')):=fun x =>.comp (IJ os vs) fun vs' =>.val _;unfold Cf
  try simp only [AE]
  split
  ·split
   ·exact .ite (plain _)
   ·exact plain _
  ·exact plain _
theorem F7:∀(ts:List TypeId) (vs:List AV) (h:Heap),Det (fun R (K:List AV×Heap→Option R)=>Cs (R:=R) P ts vs h fun vs' h'=>K (vs',h'))
 |ts,[],h =>.val ([],h)
 |ts,v::vs,h=>by
  cases v with
  |nilsl=>
   have:=F7 ts.tail vs (h++[.row false 0 ((EO P (ts.headD 0)).getD 0) []]);rcases this with ⟨p,hp⟩|hn
   ·exact .inl ⟨(.sref h.length 0 0 0::p.1,p.2),fun R K=>hp R fun q=>K (.sref h.length 0 0 0::q.1,q.2)⟩
   ·exact .inr fun R K=>hn R fun q=>K (.sref h.length 0 0 0::q.1,q.2)
  |_=>
   have:=F7 ts.tail vs h;rcases this with ⟨p,hp⟩|hn
   ·exact .inl ⟨(_::p.1,p.2),fun R K=>hp R fun q=>K (_::q.1,q.2)⟩
   ·exact .inr fun R K=>hn R fun q=>K (_::q.1,q.2)
theorem JD (t:TypeId) (cs:List AV) (h:Heap):Det (fun R (K:AV×Heap→Option R)=>Di (R:=R) P t cs h fun v h'=>K (v,h')):=by
 unfold Di;rcases F7 (P:=P) (Bh P 16 t) cs h with ⟨p,hp⟩|hn
 ·exact .inl ⟨(.ptr p.2.length 0,p.2++[.box p.1]),fun R K=>hp R fun q=>K (.ptr q.2.length 0,q.2++[.box q.1])⟩
 ·exact .inr fun R K=>hn R fun q=>K (.ptr q.2.length 0,q.2++[.box q.1])
theorem MO (t:TypeId) (h:Heap) (a v:AV):Det (fun R (K:Heap→Option R)=>Et (R:=R) P t h a v K):=by
 unfold Et
 try simp only [AE]
 cases v.cells with
 |none=>exact .none
 |some vs=>
  cases BZ P t with
  |none=>exact .none
  |some n=>
   refine .ite ?_;cases a with
   |ptr i off=>
    dsimp only;cases h[i]? with
    |none=>exact .none
    |some o=>
     cases o with
     |box cs=>
      refine .ite ?_;refine .comp (IJ _ _) fun vs => ?_;rcases F7 (P:=P) (Bh P 16 t) vs h with ⟨p,hp⟩|hn
      ·exact .inl ⟨_,fun R K=>hp R fun q=>K (q.2.set i (.box (setAt cs off q.1)))⟩
      ·exact .inr fun R K=>hn R fun q=>K (q.2.set i (.box (setAt cs off q.1)))
     |row f ver s es=>exact .none
     |loop l=>exact .none
     |mapo a b c=>exact .none
   |rptr i ver k off=>
    dsimp only;cases h[i]? with
    |none=>exact .none
    |some o=>
     cases o with
     |box cs=>exact .none
     |loop l=>exact .none
     |mapo a b c=>exact .none
     |row f ver' s es=>
      cases f with
      |true=>exact .none
      |false=>exact .ite (.bind _ fun e =>.comp (CB _ _ _) fun xs =>.val _)
   |_=>exact .none
theorem QD (t:TypeId) (h:Heap) (s x:AV):Det (fun R (K:AV×Heap→Option R)=>Dk (R:=R) P t h s x fun v h'=>K (v,h')):=by
 unfold Dk
 try simp only [AE]
 refine .bind _ fun z =>.comp (HQ h z x) fun new => ?_;cases s with
 |nilsl=>exact .ite (.val (_,_))
 |sref i ver off len=>
  dsimp only;cases h[i]? with
  |none=>exact .none
  |some o=>
   cases o with
   |row f ver' sz es=>
    cases f with
    |true=>exact .none
    |false=>exact .Tm (.ite (.val (_,_))) (.ite (.val (_,_)))
   |_=>exact .none
 |_=>exact .none
theorem M7 (t:TypeId) (h:Heap) (s x:AV):Det (fun R (K:AV×Heap→Option R)=>D3 (R:=R) P t h s x fun v h'=>K (v,h')):=by
 unfold D3
 try simp only [AE]
 refine .bind _ fun z =>.comp (HU h z x) fun new => ?_;cases s with
 |sref i ver off len=>
  dsimp only;cases h[i]? with
  |none=>exact .none
  |some o=>
   cases o with
   |row f ver' sz es=>
    cases f with
    |true=>exact .none
    |false=>exact .ite (.val (_,_))
   |_=>exact .none
 |_=>exact .none
theorem HP (h:Heap) (e:TypeId):Det (fun R (K:List Tree→Option R)=>NA (R:=R) P h e K):=by
 unfold NA
 try simp only [AE]
 cases zeroCells? P e with
 |none=>exact .none
 |some z=>
  cases BZ P e with
  |none=>exact .none
  |some n=>exact .ite (CB _ _ _)
theorem Rp (t:TypeId) (h:Heap) (x:AV):Det (fun R (K:Heap→Option R)=>IS (R:=R) P t h x K):=by
 unfold IS
 try simp only [AE]
 cases P.underlying t with
 |none=>exact .none
 |some ty=>
  cases ty with
  |slice e=>
   cases x with
   |t y=>cases y with
    |sl z es=>exact .ite (.val _)
    |_=>exact .none
   |nilsl=>exact .val _
   |sref i ver off len=>
    dsimp only;refine .comp (HP h e) fun zs => ?_;cases h[i]? with
    |none=>exact .none
    |some o=>
     cases o with
     |row f ver' sz es=>
      cases f with
      |true=>exact .none
      |false=>exact .ite (.val _)
     |_=>exact .none
   |_=>exact .none
  |_=>exact .none
theorem Tz (t:TypeId) (h:Heap) (d x:AV):Det (fun R (K:AV×Heap→Option R)=>Mo (R:=R) P t h d x fun v h'=>K (v,h')):=by
 unfold Mo
 try simp only [AE]
 refine .bind _ fun z =>.comp (HQ h z x) fun new => ?_;cases d with
 |sref i ver off len=>
  dsimp only;cases h[i]? with
  |none=>exact .none
  |some o=>
   cases o with
   |row f ver' sz es=>
    cases f with
    |true=>exact .none
    |false=>exact .ite (.val (_,_))
   |_=>exact .none
 |_=>exact .none
theorem Tw (t:TypeId) (h:Heap) (n c:AV):Det (fun R (K:AV×Heap→Option R)=>Mi (R:=R) P t h n c fun v h'=>K (v,h')):=by
 unfold Mi
 try simp only [AE]
 refine .bind _ fun z => ?_;cases P.underlying t with
 |none=>exact .none
 |some ty=>
  cases ty with
  |slice e=>exact .bind _ fun a =>.bind _ fun b =>.comp (HP h e) fun zs =>.ite (.val (_,_))
  |_=>exact .none
theorem MN (t:TypeId) (v:AV) (h:Heap):Det (fun R (K:AV×Heap→Option R)=>J4 (R:=R) P t v h fun v=>K (v,h)):=by
 unfold J4
 try simp only [AE]
 cases v.cells with
 |none=>exact .none
 |some cs=>
  cases BZ P t with
  |none=>exact .none
  |some n=>exact .ite (.comp (CB _ _ _) fun xs =>.val (_,_))
theorem Od (t:TypeId) (h:Heap):Det (fun R (K:AV×Heap→Option R)=>Fq (R:=R) P t h fun v h'=>K (v,h')):=by
 unfold Fq
 try simp only [AE]
 cases zeroCells? P t with
 |none=>exact .none
 |some z=>
  cases BZ P t with
  |none=>exact .none
  |some n=>exact .ite (.comp (CB _ _ _) fun xs =>.val (_,_))
theorem M6 {P:Program} {t:TypeId} {h:Heap} (len:Nat) (parts:List (Nat×AV)):Det (fun R (K:AV×Heap→Option R)=>D2 (R:=R) P t h len parts fun v h'=>K (v,h')):=by
 unfold D2
 try simp only [AE]
 cases P.underlying t with
 |none=>exact .none
 |some u=>cases u with
  |slice e=>exact .bind _ fun s =>.bind _ fun z =>.ite (.bind _ fun cs =>.val (_,_))
  |_=>exact .none
theorem Vc (C:Cfg) (rec:Rec) (pc:BE) (env:Env) (op:Op) (hl:Af C op=true):Det (fun R (K:AV×Heap→Option R)=>Ae (R:=R) C rec pc false env h op fun v h'=>K (v,h')):=by
 by_cases hh:Aw op=true
 case neg=>
  have hw:(∃g args argTypes,op = .call {callee :=.value (.func g),args,argTypes})∨(∃t len parts,op = .buildSlice t len parts)∨∃src dst x,op = .convert src dst x:=by unfold Af at hl;split at hl<;>first|(exact absurd rfl hh)|(exact .inl ⟨_,_,_,rfl⟩)|(exact .inr (.inl ⟨_,_,_,rfl⟩))|(exact .inr (.inr ⟨_,_,_,rfl⟩))|cases hl
  rcases hw with ⟨g,args,argTypes,rfl⟩|⟨t,len,parts,rfl⟩|⟨src,dst,x,rfl⟩
  case inr.inr=>
   have hf:Mx C.P src dst=true:=hl;show Det (fun R (K:AV×Heap→Option R)=>Ae (R:=R) C rec pc false env h (.convert src dst x) fun v h'=>K (v,h'));simp only [Ae,Aw,false_eq_true,if_false,hf,if_true,J7];exact .bind _ fun s =>.val (_,_)
  case inr.inl=>
   have hf:C.fnTy t=true:=hl;show Det (fun R (K:AV×Heap→Option R)=>Ae (R:=R) C rec pc false env h (.buildSlice t len parts) fun v h'=>K (v,h'));simp only [Ae,Aw,false_eq_true,if_false,hf,if_true];exact M6 _ _
  have hown:C.own g=true:=hl;have hh':Aw (.call {callee :=.value (.func g),args,argTypes})=false:=by simpa using hh
  unfold Ae;simp only [hh',false_eq_true,if_false,ev,MW,AE];refine .ite ?_;unfold FC;simp only [hown,if_true,false_eq_true,if_false,AE];refine .comp (HT _ _) fun ls =>.comp (CB _ _ _) fun xs => ?_;split
  ·rename_i j ho2;refine .ite (.bind _ fun ys =>.comp (Nl _ _) fun ys => ?_);split
   ·rename_i z es _;split
    ·exact .val (_,_)
    ·exact .none
   ·exact .none
  refine .bind _ fun ys => ?_;split
  ·refine .bind _ fun z =>.ite (.ite ?_);unfold OD;split
   ·split
    ·exact .val (_,_)
    ·exact .none
   ·exact .val (_,_)
  ·exact .none
 unfold Ae;simp only [hh,if_true,false_eq_true,if_false];cases op with
 |alloc t=>
  have hrn:C.ren t=none:=by simpa [Af] using hl
  simp only [Bo,hrn];split
  ·exact (by simpa using MN (P:=C.P) _ _ _)
  ·rename_i t' himm;exact Od _ _
  ·rename_i t' d himm;split at himm<;>cases himm
  ·rename_i t' a x himm;split at himm<;>cases himm
  ·simp only [hop];cases zeroCells? C.P t with
   |none=>exact .none
   |some z=>exact JD _ _ _
 |box t x=>
  simp only [Bo];split
  ·exact MN _ _ _
  ·rename_i t' himm;split at himm<;>cases himm
  ·rename_i t' d himm;split at himm<;>cases himm
  ·rename_i t' a x' himm;split at himm<;>cases himm
  ·simp only [hop];cases (ev env x).cells with
   |none=>exact .none
   |some cs=>exact JD _ _ _
 |store t a x=>
  simp only [Bo];split
  ·rename_i himm;split at himm<;>cases himm
  ·rename_i himm;split at himm<;>cases himm
  ·rename_i himm;split at himm<;>cases himm
  ·rename_i t' a' x' himm;exact .comp (MO _ _ _ _) fun h' =>.val (_,_)
  ·simp only [hop];exact .comp (MO _ _ _ _) fun h' =>.val (_,_)
 |call c=>
  obtain ⟨callee,args,argTypes⟩:=c;cases callee with
  |builtin b=>
   cases b<;>first|(simp [Af] at hl;done)|skip
   ·simp only [Bo,hop,AE];split
    ·rename_i s x t t' _ _;refine .ite ?_;by_cases hsr:N8 (ev env s) (ev env x)=true
     ·simp only [hsr,if_true];exact M7 _ _ _ _
     ·simp only [hsr,false_eq_true,if_false];exact QD _ _ _ _
    ·exact .none
   ·simp only [Bo,hop,AE];split
    ·exact .comp (Rp _ _ _) fun h' =>.val (_,_)
    ·exact .none
   ·simp only [Bo,hop,AE];split
    ·exact Tz _ _ _ _
    ·exact .none
  |_=>simp [Aw] at hh
 |makeSlice t n c=>simp only [Bo,hop];exact Tw _ _ _ _
 |makeMap t r=>
  cases r with
  |none=>simp only [Bo,hop];exact Oc _ _
  |some r=>simp [Af] at hl
 |mapUpdate t m x v=>simp only [Bo,hop];exact .comp (QA _ _ _ _ _) fun h' =>.val (_,_)
 |_=>first|(simp [Af] at hl;done)|(simp [Aw] at hh;done)
def HF (h h':Heap) (v:AV):Prop:=(∃d,El d v=true)∨∃i,BO v=some i∧h[i]? = h'[i]?
theorem HF.cells {h h':Heap} {v:AV} {cs:List AV} (hv:HF h h' v) (hc:v.cells=some cs):∀x∈cs,HF h h' x:=by
 rcases hv with ⟨d,hd⟩|⟨i,hi,he⟩
 ·cases d with
  |zero=>cases hd
  |succ d=>
   cases v<;>simp only [AV.cells,Option.some.injEq,reduceCtorEq] at hc<;>first|(cases hc;done)|skip
   all_goals first
    |(subst hc;intro x hx;simp at hx;subst hx;exact .inl ⟨d+1,hd⟩)
    |(subst hc;intro x hx;simp only [El] at hd;exact .inl ⟨d,all_eq_true.1 hd x hx⟩)
 ·cases v<;>simp only [BO,reduceCtorEq] at hi<;>simp only [AV.cells,Option.some.injEq] at hc<;>(subst hc;intro x hx;simp at hx;subst hx;exact .inr ⟨i,by simpa [BO] using hi,he⟩)
theorem T1 {R:Type} {fz:Bool} {h h':Heap} {ty:TypeId} {v:AV} (hv:HF h h' v) (K:Tree→Option R):conv P fz h ty v K=conv P fz h' ty v K:=by
 cases v with
 |sref i ver off len=>
  rcases hv with ⟨d,hd⟩|⟨j,hj,he⟩
  ·cases d with
   |zero=>cases hd
   |succ d=>simp [El] at hd
  ·simp only [BO,Option.some.injEq] at hj;subst hj;simp only [conv,he]
 |func fn f c=>cases f<;>cases c<;>rfl
 |_=>rfl
theorem IL {R:Type} {fz:Bool} {h h':Heap}:∀(ts:List TypeId) (vs:List AV),(∀v∈vs,HF h h' v)→∀(K:List Tree→Option R),DG P fz h ts vs K=DG P fz h' ts vs K
 |[],[],_,K=>rfl
 |[],_::_,_,K=>rfl
 |_::_,[],_,K=>rfl
 |t::ts,v::vs,hv,K=>by simp only [DG];rw [T1 (h':=h') (hv v (by simp))];congr 1;funext x;exact IL ts vs (fun u hu=>hv u (by simp [hu])) _
theorem IF {R:Type} {h h':Heap}:∀(ts:List TypeId) (vs:List AV),(∀v∈vs,HF h h' v)→∀(K K':List AV→Option R),(∀ls,(∀v∈ls,HF h h' v)→K ls=K' ls)→flatK P ts vs K=flatK P ts vs K'
 |[],[],_,K,K',hk=>hk [] (by simp)
 |[],_::_,_,K,K',hk=>rfl
 |_::_,[],_,K,K',hk=>rfl
 |t::ts,v::vs,hv,K,K',hk=>by
  have hv1:=hv v (by simp);have hvs:∀u∈vs,HF h h' u:=fun u hu=>hv u (by simp [hu]);simp only [flatK,AE];cases Ay P t with
  |none=>rfl
  |some b=>
   cases b with
   |true=>
    cases v with
    |agg cs=>
     dsimp only;split
     ·refine IF ts vs hvs _ _ fun ls hl=>hk _ fun u hu => ?_;rcases mem_append.1 hu with hu|hu
      ·exact hv1.cells (cs:=cs) rfl u hu
      ·exact hl u hu
     ·rfl
    |_=>rfl
   |false=>
    dsimp only;split
    ·refine IF ts vs hvs _ _ fun ls hl=>hk _ fun u hu => ?_;rcases mem_cons.1 hu with rfl|hu
     ·exact hv1
     ·exact hl u hu
    ·rfl
theorem Ni {h h':Heap} {place:Nat→Option (Nat×Nat)}:∀(ps:List (Nat×AV)) (cs cs':List AV),(∀p∈ps,HF h h' p.2)→(∀v∈cs,HF h h' v)→Bl place cs ps=some cs'→∀v∈cs',HF h h' v
 |[],cs,cs',_,hc,h=>by cases h;exact hc
 |(i,v)::ps,cs,cs',hp,hc,h=>by
  simp only [Bl] at h;split at h
  ·rename_i off size vs hpl hvc;split at h
   ·refine Ni ps _ cs' (fun p hpp=>hp p (by simp [hpp])) (fun u hu => ?_) h;simp only [setAt,mem_append] at hu;rcases hu with hu|hu|hu
    ·exact hc u (List.mem_of_mem_take hu)
    ·exact (hp (i,v) (by simp)).cells hvc u hu
    ·exact hc u (mem_of_mem_drop hu)
   ·cases h
  ·cases h
theorem Gk (d:Nat) (v:Value):El (d+2) (EZ v)=true:=by unfold EZ;split<;>rfl
theorem OL (v:Value):El 4 (ofConst v)=true:=by
 unfold ofConst;split
 ·simp only [El];exact all_eq_true.2 fun x hx=>by obtain ⟨u,_,rfl⟩:=mem_map.1 hx;exact Gk 1 u
 ·exact Gk 2 _
theorem TF {h h':Heap} {e:TypeId} {z:List AV} (hz:zeroCells? P e=some z):∀v∈z,HF h h' v:=by
 unfold zeroCells? at hz;split at hz
 ·exact HF.cells (.inl ⟨4,OL _⟩) hz
 ·cases hz
theorem HF.obj {h h':Heap} {v:AV} (hv:HF h h' v) {i:Nat} (hi:BO v=some i):h[i]? = h'[i]? :=by
 rcases hv with ⟨d,hd⟩|⟨j,hj,he⟩
 ·cases d with
  |zero=>cases hd
  |succ d=>cases v<;>simp only [BO,reduceCtorEq] at hi<;>simp [El] at hd
 ·rw [hi] at hj;cases hj;exact he
theorem Lf {R:Type} {h h':Heap} {env:Env} {op:Op} (hf:∀x∈op.operands,HF h h' (ev env x)) (K:AV→Option R):qop P env h op K=qop P env h' op K:=by
 cases op with
 |load t x=>
  have h1:=hf x (by simp [Op.operands]);simp only [qop,H2];generalize ev env x=v at h1;cases v<;>first|rfl|(simp only [h1.obj rfl])
 |fieldAddr t x f=>
  have h1:=hf x (by simp [Op.operands]);simp only [qop,IQ];generalize ev env x=v at h1;cases v<;>first|rfl|(simp only [h1.obj rfl])
 |indexAddr t x y=>
  have h1:=hf x (by simp [Op.operands]);simp only [qop,KA];generalize ev env x=v at h1;cases v with
  |sref i ver off len=>simp only [h1.obj rfl]
  |rptr i ver k off=>simp only [h1.obj rfl]
  |t y=>cases y<;>rfl
  |_=>rfl
 |convert src dst x=>
  have h1:=hf x (by simp [Op.operands]);simp only [qop,KB];generalize ev env x=v at h1;split
  ·split
   ·unfold elems;cases v with
    |sref i ver off len=>simp only [h1.obj rfl]
    |t y=>cases y<;>rfl
    |_=>rfl
   ·rfl
  ·rfl
 |slice t x lo hi mx=>
  have h1:=hf x (by simp [Op.operands]);simp only [qop,J6];generalize ev env x=v at h1;generalize Iw env hi=oh;generalize Iw env mx=om;cases v with
  |sref i ver off len=>cases oh<;>simp only [h1.obj rfl]
  |t y=>cases y<;>cases oh<;>rfl
  |_=>cases oh<;>rfl
 |buildSlice t len ps=>
  simp only [qop,DX,AE];split
  ·rename_i e hu;congr 1;funext s;cases hzc:zeroCells? P e with
   |none=>rfl
   |some z=>
    simp only [Option.bind_some];split
    ·cases hfc:Bl (fun i=>some (i*s,s)) (replicate len z).flatten (ps.toList.map fun p=>(p.1,ev env p.2)) with
     |none=>rfl
     |some cs=>
      simp only [Option.bind_some];refine IL _ _ (Ni _ _ _ (fun p hp => ?_) (fun v hv => ?_) hfc) _
      ·obtain ⟨q,hq,rfl⟩:=mem_map.1 hp;exact hf q.2 (by simp [Op.operands];exact ⟨q.1,by simpa using hq⟩)
      ·obtain ⟨l,hl,hv⟩:=mem_flatten.1 hv;rw [(List.mem_replicate.1 hl).2] at hv;exact TF hzc v hv
    ·rfl
  ·rfl
 |call c=>
  obtain ⟨callee,args,argTypes⟩:=c;cases callee with
  |builtin b=>
   cases b<;>first|rfl|skip
   simp only [qop];split
   ·rename_i x t hx _;have h1:=hf x (by
     have:x∈args.toList:=by rw [hx];simp
     simp [Op.operands,Call.operands];simpa using this)
    simp only [UC];generalize ev env x=v at h1;cases v with
    |sref i ver off len=>simp only [h1.obj rfl]
    |t y=>cases y<;>rfl
    |_=>rfl
   ·rfl
  |_=>rfl
 |lookup t m x ok=>
  have h1:=hf m (by simp [Op.operands]);simp only [qop];generalize ev env m=v at h1;cases v with
  |mref i=>simp only [J9,h1.obj rfl]
  |_=>rfl
 |_=>rfl
theorem R1 {C:Cfg} {rec:Rec} {pc:BE} {h h':Heap} {env:Env} {op:Op} (hb:F9 op=true):GL C rec pc h env op=GL C rec pc h' env op:=by
 unfold GL Ae;by_cases hh:Aw op=true
 ·simp [hh]
 ·have hh':Aw op=false:=by simpa using hh
  simp only [hh',false_eq_true,if_false];cases op<;>first|(simp [F9] at hb;done)|rfl|skip
  rename_i c;obtain ⟨callee,args,argTypes⟩:=c;cases callee with
  |builtin b=>cases b<;>first|(simp [F9] at hb;done)|rfl
  |_=>simp [F9] at hb
theorem QU {h:Heap} {i:Nat} (hi:i<1024):At h i=h[i]? :=by unfold At;rw [if_pos hi]
theorem Us {S:List Nat} {h h':Heap} (hag:∀i∈S,At h i=At h' i) {v:AV} (hv:OC S v=true):HF h h' v:=by
 unfold OC at hv;rw [or_eq_true] at hv;rcases hv with hv|hv
 ·exact .inl ⟨4,hv⟩
 ·cases ho:BO v with
  |none=>rw [ho] at hv;cases hv
  |some i=>
   rw [ho] at hv;simp only [and_eq_true,decide_eq_true_eq] at hv;have h1:=hag i (by simpa using hv.2);rw [QU hv.1,QU hv.1] at h1;exact .inr ⟨i,ho,h1⟩
theorem RC {g g':Nat→AV}:∀(n off:Nat),(∀j,j<n→g (off+j)=g' (off+j))→A2 g off n=A2 g' off n:=by intro n off hj;unfold A2;exact map_congr_left fun j hm=>hj j (mem_range.1 hm)
theorem TY {P:Program} {t:TypeId} {h h':Heap} {i off n:Nat} (hi:i<1024) (ho:off<4096) (hn:ldN P t=some n) (hag:At h (Hu i off n)=At h' (Hu i off n)) {R:Type} (K:AV→Option R) :
  H2 P t h (.ptr i off) K=H2 P t h' (.ptr i off) K:=by
 have e1:¬Hu i off n<1024:=by unfold Hu;omega
 have e2:Hu i off n % 1024=i:=by unfold Hu;omega
 have e3:Hu i off n / 1024-1=off+4096*n:=by unfold Hu;omega
 have e4:(off+4096*n) % 4096=off:=by omega
 have e5:(off+4096*n) / 4096=n:=by omega
 unfold At at hag;rw [if_neg e1,if_neg e1,e2,e3,e4,e5] at hag;unfold H2;dsimp only;cases h1:h[i]? with
 |none=>
  rw [h1] at hag;cases h2:h'[i]? with
  |none=>rfl
  |some o=>rw [h2] at hag;cases hag
 |some o=>
  rw [h1] at hag;cases h2:h'[i]? with
  |none=>rw [h2] at hag;cases hag
  |some o'=>
   rw [h2] at hag;simp only [map_some,Option.some.injEq] at hag;cases o with
   |box cs=>
    cases o' with
    |box cs'=>
     simp only [IV,AF.box.injEq,List.cons.injEq,AV.yld.injEq] at hag;obtain ⟨hl,hm⟩:=hag;have hcell:∀j,j<n→cs.getD (off+j) .undef=cs'.getD (off+j) .undef:=fun j hj=>by have:=congrArg (fun l:List AV=>l[j]?) hm;simpa [getElem?_map,getElem?_range hj] using this
     unfold ldN at hn;unfold rd;dsimp only;rw [hl];cases ha:Ay P t with
     |none=>rfl
     |some b=>
      rw [ha] at hn;cases b with
      |true=>
       have hn:BZ P t=some n:=hn;rw [hn];dsimp only;rw [RC (g:=fun c=>cs.getD c .undef) (g':=fun c=>cs'.getD c .undef) n off hcell]
      |false=>
       have hn:some 1=some n:=hn;cases hn;have:=hcell 0 (by omega);simp only [add_zero] at this;simp only [this]
    |row a b c d=>simp [IV] at hag
    |loop l=>simp [IV] at hag
    |mapo a b c=>simp [IV] at hag
   |row a b c d=>
    cases o' with
    |box cs'=>simp [IV] at hag
    |_=>rfl
   |loop l=>
    cases o' with
    |box cs'=>simp [IV] at hag
    |_=>rfl
   |mapo a b c=>
    cases o' with
    |box cs'=>simp [IV] at hag
    |_=>rfl
theorem TZ {C:Cfg} {rec:Rec} {pc:BE} {h h':Heap} {env:Env} {op:Op} {S:List Nat} (hag:∀i∈S,At h i=At h' i) (hf:partAt C.P S env op=true):GL C rec pc h env op=GL C rec pc h' env op:=by
 unfold partAt at hf;split at hf
 ·rename_i t a;split at hf
  ·rename_i i off n he hn;simp only [and_eq_true,decide_eq_true_eq] at hf;unfold GL Ae;simp only [Aw,false_eq_true,if_false,qop];rw [he];exact TY hf.1.1 hf.1.2 hn (hag _ (by simpa using hf.2)) _
  ·cases hf
 ·rename_i t x f;split at hf
  ·rename_i i off he;unfold GL Ae;simp only [Aw,false_eq_true,if_false,qop,IQ];rw [he]
  ·cases hf
 ·cases hf
theorem TS {C:Cfg} {rec:Rec} {pc:BE} {h h':Heap} {env:Env} {op:Op} {S:List Nat} (hag:∀i∈S,At h i=At h' i) (hf:F3 C.P S env op=true):GL C rec pc h env op=GL C rec pc h' env op:=by
 unfold F3 at hf;rw [or_eq_true,or_eq_true] at hf;rcases hf with hf|hf|hf
 ·exact R1 hf
 ·exact TZ hag hf
 have hf':∀x∈op.operands,HF h h' (ev env x):=fun x hx=>Us hag (all_eq_true.1 hf x (by simpa using hx));unfold GL Ae;by_cases hh:Aw op=true
 ·simp [hh]
 ·have hh':Aw op=false:=by simpa using hh
  simp only [hh',false_eq_true,if_false];split
  ·rename_i f args argTypes;have hcall:∀(g:FuncId) (avs:List AV),(∀v∈avs,HF h h' v)→FC C rec pc true g avs h (fun v _=>some v)=FC C rec pc true g avs h' (fun v _=>some v):=by
    intro g avs hav;unfold FC;by_cases ho:C.own g=true
    ·simp [ho]
    have ho':C.own g=false:=by simpa using ho
    by_cases hg:C.heapful g=true
    ·simp [ho',hg]
    ·have hg':C.heapful g=false:=by simpa using hg
     simp only [ho',hg',false_eq_true,if_false,Bool.true_or,if_true];refine IF _ _ hav _ _ fun ls hl => ?_;rw [IL (h':=h') _ _ hl]
   have hargs:∀v∈args.toList.map (ev env),HF h h' v:=fun v hv=>by obtain ⟨x,hx,rfl⟩:=mem_map.1 hv;exact hf' x (by simp [Op.operands,Call.operands];right;simpa using hx)
   have hfun:HF h h' (ev env f):=hf' f (by simp [Op.operands,Call.operands]);unfold MW
   try simp only [AE]
   split
   ·rename_i g first captured he
    rw [he] at hfun;rcases hfun with ⟨d,hd⟩|⟨i,hi,_⟩
    ·cases d with
     |zero=>cases hd
     |succ d=>
      simp only [El,and_eq_true] at hd;rw [hcall g _ (fun v hv=>by
       simp only [mem_append] at hv;rcases hv with (hv|hv)|hv
       ·exact .inl ⟨d,all_eq_true.1 hd.1 v hv⟩
       ·exact hargs v hv
       ·exact .inl ⟨d,all_eq_true.1 hd.2 v hv⟩)]
    ·cases hi
   ·rw [hcall _ _ hargs]
   ·rfl
   ·rfl
  ·split
   ·rfl
   ·exact Lf hf' _
  ·split
   ·rfl
   ·exact Lf hf' _
  ·exact Lf hf' _
end Ab
namespace Ab
open Go
def Jb (ops:Array Oper) (S:List Nat) (i:Nat):Prop:=∀o,ops[i]? = some o→∀e∈o.after.toList,Region.binds .any e=true→e.on∈S
def S7 (ops:Array Oper) (S:List Nat) (i:Nat):Prop:=i<ops.size∧i∉S∧Jb ops S i
inductive Mt (ops:Array Oper):List Nat→List Nat→Prop
 |nil (S:List Nat):(∀i,¬S7 ops S i)→Mt ops S []
 |cons (S:List Nat) (i:Nat) (l:List Nat):S7 ops S i→Mt ops (i::S) l→Mt ops S (i::l)
def Ow (ops:Array Oper) (listed:Array Bool) (S:List Nat):Prop:=listed.size=ops.size∧∀i,i<ops.size→(listed.getD i true=true↔i∈S)
theorem NJ {ops:Array Oper} {listed:Array Bool} {S:List Nat} (hl:Ow ops listed S) (hS:∀i∈S,i<ops.size) (i:Nat):i∈Region.ready .any ops listed↔S7 ops S i:=by
 unfold Region.ready S7 Jb;simp only [mem_filter,mem_range,and_eq_true,not_eq_true'];constructor
 ·rintro ⟨hi,hn,he⟩
  refine ⟨hi,fun hm => ?_,fun o ho e hem hb => ?_⟩
  ·have:=(hl.2 i hi).2 hm;rw [this] at hn;cases hn
  ·rw [ho] at he;simp only [map_some,Option.getD_some] at he;have h1:=(Array.all_eq_true_iff_forall_mem.1 he) e (by simpa using hem);rw [hb] at h1;simp only [Bool.not_true,Bool.false_or] at h1;have hlt:e.on<ops.size:=by
    rcases lt_or_ge e.on ops.size with h|h
    ·exact h
    ·have:listed.getD e.on false=false:=by
      have h2:¬e.on<listed.size:=by rw [hl.1];omega
      simp only [Array.getD,h2,dif_neg,not_false_eq_true]
     rw [this] at h1;cases h1
   refine (hl.2 e.on hlt).1 ?_;have h2:e.on<listed.size:=by rw [hl.1];exact hlt
   simp only [Array.getD,h2,dif_pos] at h1 ⊢;exact h1
 ·rintro ⟨hi,hn,he⟩
  refine ⟨hi,?_,?_⟩
  ·cases hg:listed.getD i true with
   |false=>rfl
   |true=>exact (hn ((hl.2 i hi).1 hg)).elim
  ·have ho:ops[i]? = some ops[i]:=Array.getElem?_eq_getElem hi;rw [ho];simp only [map_some,Option.getD_some];refine Array.all_eq_true_iff_forall_mem.2 fun e hem => ?_;cases hb:Region.binds .any e with
   |false=>rfl
   |true=>
    have h1:=he _ ho e (by simpa using hem) hb;have hlt:=hS _ h1;have h2:=(hl.2 e.on hlt).2 h1;have h3:e.on<listed.size:=by rw [hl.1];exact hlt
    simp only [Array.getD,h3,dif_pos] at h2 ⊢;simpa using h2
theorem RP {ops:Array Oper} {listed:Array Bool} {S:List Nat} (hl:Ow ops listed S) {i:Nat} (hi:i<ops.size):Ow ops (listed.setIfInBounds i true) (i::S):=by
 refine ⟨by simpa using hl.1,fun j hj => ?_⟩;have h1:j<listed.size:=by rw [hl.1];exact hj
 have:=hl.2 j hj;simp only [Array.getD,h1,dif_pos] at this;by_cases hij:j=i
 ·subst hij;simp [Array.getD,h1]
 ·simp only [Array.getD,Array.size_setIfInBounds,h1,dif_pos,mem_cons,hij,false_or];rw [← this];have e:(listed.setIfInBounds i true)[j]'(by simpa using h1)=listed[j]:=Array.getElem_setIfInBounds_ne (by simpa using h1) (Ne.symm hij);show (listed.setIfInBounds i true)[j]'(by simpa using h1)=true↔listed[j]=true;rw [e]
theorem Jq:∀(n:Nat) (l:List Nat),l.Nodup→(∀x∈l,x<n)→l.length≤n
 |0,l,hn,hl=>by
  cases l with
  |nil=>simp
  |cons x xs=>exact absurd (hl x (by simp)) (by omega)
 |n+1,l,hn,hl=>by
  by_cases hm:n∈l
  ·have h1:=Jq n (l.erase n) (hn.erase n) fun x hx=>by have h2:=(List.Nodup.mem_erase_iff hn).1 hx;have h3:=hl x h2.2;have h4:=h2.1;omega
   rw [List.length_erase_of_mem hm] at h1;omega
  ·have:=Jq n l hn fun x hx=>by have h3:=hl x hx;have h4:x≠n:=fun e=>hm (e ▸ hx);omega
   omega
theorem N0 {n:Nat} {S:List Nat} (hn:S.Nodup) (hS:∀i∈S,i<n) {i:Nat} (hi:i<n) (hni:i∉S):S.length<n:=by
 have:=Jq n (i::S) (nodup_cons.2 ⟨hni,hn⟩) fun x hx=>by
  rcases mem_cons.1 hx with rfl|hx
  ·exact hi
  ·exact hS x hx
 simp only [length_cons] at this;omega
theorem P0 (ops:Array Oper):∀(fuel t:Nat) (listed:Array Bool) (S:List Nat),Ow ops listed S→S.Nodup→(∀i∈S,i<ops.size)→ops.size≤fuel+S.length→Mt ops S (Region.linearise.go .any ops fuel t listed [])
 |0,t,listed,S,hl,hn,hS,hf=>by refine .nil S fun i hr => ?_;have:=N0 hn hS hr.1 hr.2.1;omega
 |fuel+1,t,listed,S,hl,hn,hS,hf=>by
  simp only [Region.linearise.go];change Mt ops S (match (Region.ready .any ops listed)[t % (Region.ready .any ops listed).length]? with
   |some i=>Region.linearise.go .any ops fuel (t / (Region.ready .any ops listed).length) (listed.setIfInBounds i true) [i]
   |none=>[].reverse)
  cases hi:(Region.ready .any ops listed)[t % (Region.ready .any ops listed).length]? with
  |none=>
   have hnil:Region.ready .any ops listed=[]:=by
    cases hr:Region.ready .any ops listed with
    |nil=>rfl
    |cons x xs=>
     rw [hr] at hi;have hlt:t % (x::xs).length<(x::xs).length:=mod_lt _ (by simp);rw [getElem?_eq_getElem hlt] at hi;cases hi
   refine .nil S fun i hr => ?_;have:=(NJ hl hS i).2 hr;rw [hnil] at this;cases this
  |some i=>
   simp only [];rw [linearise_go_acc,List.reverse_singleton,singleton_append];have hr:=(NJ hl hS i).1 (mem_of_getElem? hi);refine .cons S i _ hr (P0 ops fuel _ _ (i::S) (RP hl hr.1) (nodup_cons.2 ⟨hr.2.1,hn⟩) (fun j hj => ?_) (by simp;omega));rcases mem_cons.1 hj with rfl|hj
   ·exact hr.1
   ·exact hS j hj
theorem EL (ops:Array Oper) (t:Nat):Mt ops [] (Region.linearise .any ops t):=by refine P0 ops ops.size t _ [] ⟨by simp,fun i hi => ?_⟩ nodup_nil (fun i hi=>by cases hi) (by simp);simp [Array.getD,hi]
def SD (ops:Array Oper) (S:List Nat):Prop:=∀i∈S,Jb ops S i
theorem NO {acc:List Nat} {i:Nat}:∀(es:List Edge) (s:Nat),(es.foldl (fun s e=>if Region.binds .any e then s ||| (2 ^ e.on ||| acc.getD e.on 0) else s) s).testBit i=true→
  s.testBit i=true∨∃e∈es,Region.binds .any e=true∧(e.on=i∨(acc.getD e.on 0).testBit i=true)
 |[],s,h =>.inl h
 |e::es,s,h=>by
  simp only [foldl_cons] at h;rcases NO es _ h with h1|⟨e',h1,h2⟩
  ·by_cases hb:Region.binds .any e=true
   ·rw [if_pos hb] at h1;simp only [Nat.testBit_or,or_eq_true] at h1;rcases h1 with h1|h1|h1
    ·exact .inl h1
    ·refine .inr ⟨e,by simp,hb,.inl ?_⟩;rw [Nat.testBit_two_pow] at h1;simpa using h1
    ·exact .inr ⟨e,by simp,hb,.inr h1⟩
   ·rw [if_neg hb] at h1;exact .inl h1
  ·exact .inr ⟨e',by simp [h1],h2⟩
theorem DD:∀(os:List Oper) (acc:List Nat) (j:Nat),(j<acc.length→(Dv os acc)[j]? = acc[j]?)∧∀o,os[j]? = some o→(Dv os acc)[acc.length+j]? = some (F2 ((Dv os acc).take (acc.length+j)) o)
 |[],acc,j=>⟨fun _=>rfl,fun o ho=>by simp at ho⟩
 |o'::os,acc,j=>by
  simp only [Dv];obtain ⟨h1,_⟩:=DD os (acc++[F2 acc o']) j;refine ⟨fun hj => ?_,fun o ho => ?_⟩
  ·rw [h1 (by simp;omega),getElem?_append_left hj]
  ·cases j with
   |zero=>
    simp only [List.getElem?_cons_zero,Option.some.injEq] at ho;subst ho;have h0:=(DD os (acc++[F2 acc o']) acc.length).1 (by simp);have ht:(Dv os (acc++[F2 acc o'])).take acc.length=acc:=by
     apply ext_getElem?;intro i;rcases lt_or_ge i acc.length with hi|hi
     ·rw [getElem?_take_of_lt hi,(DD os (acc++[F2 acc o']) i).1 (by simp;omega),getElem?_append_left hi]
     ·rw [getElem?_eq_none (by simp;omega),getElem?_eq_none hi]
    rw [add_zero,ht,h0];simp
   |succ j=>
    have h2:=(DD os (acc++[F2 acc o']) j).2 o (by simpa using ho);have e:(acc++[F2 acc o']).length+j=acc.length+(j+1):=by simp;omega
    rw [e] at h2;exact h2
theorem Tg (ops:Array Oper) {j:Nat} {o:Oper} (ho:ops[j]? = some o):(AQ ops)[j]? = some (F2 ((AQ ops).take j) o):=by have:=(DD ops.toList [] j).2 o (by simpa using ho);simpa [AQ] using this
theorem QI {ops:Array Oper} {S:List Nat} (hc:SD ops S):∀(k:Nat) (j:Nat),j≤k→(j∈S∨Jb ops S j)→j<ops.size→∀i,((AQ ops).getD j 0).testBit i=true→i∈S:=by
 intro k
 induction k using Nat.strongRecOn with
 |_ k ih=>
  intro j hjk hj hjs i hi;have ho:ops[j]? = some ops[j]:=Array.getElem?_eq_getElem hjs;have he:Jb ops S j:=hj.elim (hc j) id;have hm:=Tg ops ho;simp only [List.getD,hm,Option.getD_some] at hi;rcases NO _ _ hi with h0|⟨e,hem,hb,h1⟩
  ·simp at h0
  ·have hin:=he _ ho e hem hb;rcases h1 with rfl|h1
   ·exact hin
   ·have hlt:e.on<j:=by
     rcases lt_or_ge e.on j with h|h
     ·exact h
     ·simp [List.getD,getElem?_take,not_lt.2 h] at h1
    have h2:((AQ ops).getD e.on 0).testBit i=true:=by simp only [List.getD] at h1 ⊢;rw [getElem?_take_of_lt hlt] at h1;exact h1
    exact ih e.on (by omega) e.on (le_refl _) (.inl hin) (by omega) i h2
theorem GR {ops:Array Oper} (hed:F6 ops=true):∀{S l:List Nat},Mt ops S l→SD ops S→
  l.Nodup∧(∀x∈l,x∉S∧x<ops.size)∧(∀i,i<ops.size→i∈S∨i∈l)∧∀l1 x l2,l=l1++x::l2→∀y,((AQ ops).getD x 0).testBit y=true→y∈S∨y∈l1:=by
 intro S l hs
 induction hs with
 |nil S hno=>
  intro hc;refine ⟨nodup_nil,(fun x hx=>by cases hx),fun i hi => ?_,(fun l1 x l2 e=>by simp at e)⟩;have key:∀k i,i≤k→i<ops.size→i∈S:=by
   intro k
   induction k using Nat.strongRecOn with
   |_ k ih=>
    intro i hik his;by_cases hm:i∈S
    ·exact hm
    ·refine (hno i ⟨his,hm,fun o ho e hem hb => ?_⟩).elim;unfold F6 at hed;have h1:=(all_eq_true.1 hed) i (mem_range.2 his);rw [ho] at h1;have h2:=(all_eq_true.1 h1) e hem;rw [hb] at h2;have h3:e.on<i:=by simpa using h2
     exact ih e.on (by omega) e.on (le_refl _) (by omega)
  exact .inl (key i i (le_refl _) hi)
 |cons S i l hr hs ih=>
  intro hc;have hc':SD ops (i::S):=fun j hj o ho e hem hb=>by
   rcases mem_cons.1 hj with rfl|hj
   ·exact mem_cons_of_mem _ (hr.2.2 o ho e hem hb)
   ·exact mem_cons_of_mem _ (hc j hj o ho e hem hb)
  obtain ⟨h1,h2,h3,h4⟩:=ih hc';refine ⟨nodup_cons.2 ⟨fun hm=>(h2 i hm).1 (by simp),h1⟩,fun x hx => ?_,fun j hj => ?_,fun l1 x l2 e y hy => ?_⟩
  ·rcases mem_cons.1 hx with rfl|hx
   ·exact ⟨hr.2.1,hr.1⟩
   ·exact ⟨fun hm=>(h2 x hx).1 (mem_cons_of_mem _ hm),(h2 x hx).2⟩
  ·rcases h3 j hj with h|h
   ·rcases mem_cons.1 h with rfl|h
    ·exact .inr (by simp)
    ·exact .inl h
   ·exact .inr (mem_cons_of_mem _ h)
  ·cases l1 with
   |nil=>
    simp only [nil_append,List.cons.injEq] at e;obtain ⟨rfl,rfl⟩:=e;exact .inl (QI hc i i (le_refl _) (.inr hr.2.2) hr.1 y hy)
   |cons z l1=>
    simp only [cons_append,List.cons.injEq] at e;obtain ⟨rfl,rfl⟩:=e;rcases h4 l1 x l2 rfl y hy with h|h
    ·rcases mem_cons.1 h with rfl|h
     ·exact .inr (by simp)
     ·exact .inl h
    ·exact .inr (mem_cons_of_mem _ h)
theorem FA {n:Nat}:∀(k:Nat) (l:List Nat),l.Nodup→(∀i,i∈l↔i<n+k)→(∀l1 x l2,l=l1++x::l2→n≤x→∀y,y<x→y∈l1)→∃lp,l=lp++List.range' n k∧lp.Nodup∧∀i,i∈lp↔i<n
 |0,l,hn,hm,hf=>⟨l,by simp,hn,by simpa using hm⟩
 |k+1,l,hn,hm,hf=>by
  have hlast:n+k∈l:=(hm _).2 (by omega);obtain ⟨l1,l2,e⟩:=append_of_mem hlast;have hall:=hf l1 (n+k) l2 e (by omega);have hnil:l2=[]:=by
   cases l2 with
   |nil=>rfl
   |cons z l2=>
    have hz:z∈l:=by rw [e];simp
    have hzl:=(hm z).1 hz;rw [e] at hn;rw [nodup_append] at hn;obtain ⟨_,hn2,hn3⟩:=hn;by_cases hzk:z=n+k
    ·subst hzk;simp at hn2
    ·exact (hn3 z (hall z (by omega)) z (by simp) rfl).elim
  subst hnil;have hn':=hn;rw [e,nodup_append] at hn';obtain ⟨lp,h1,h2,h3⟩:=FA (n:=n) k l1 hn'.1 (fun i=>by
   constructor
   ·intro hi;have h4:=(hm i).1 (by rw [e];simp [hi]);have h5:i≠n+k:=fun h=>hn'.2.2 i hi (n+k) (by simp) h;omega
   ·intro hi;exact hall i (by omega)) (fun a x b e2 hx y hy=>by exact hf a x (b++[n+k]) (by rw [e,e2];simp) hx y hy)
  refine ⟨lp,?_,h2,h3⟩;rw [e,h1,List.range'_concat,append_assoc];simp
theorem NN {σ:Type} (f:Nat→σ→Option σ) (x:Nat):∀(l:List Nat),(∀y∈l,∀s,(f x s).bind (f y)=(f y s).bind (f x))→∀s,(f x s).bind (fun s'=>l.foldlM (fun s i=>f i s) s')=(l.foldlM (fun s i=>f i s) s).bind (f x)
 |[],_,s=>by simp
 |y::l,hc,s=>by
  have ih:=NN f x l fun z hz=>hc z (by simp [hz]);simp only [foldlM_cons];have h1:=hc y (by simp) s;cases hy:f y s with
  |none=>
   rw [hy] at h1;cases hx:f x s with
   |none=>rfl
   |some s1=>rw [hx] at h1;simp only [Option.bind_some,Option.bind_none] at h1;simp [h1]
  |some s2=>
   rw [hy] at h1;simp only [Option.bind_some] at h1;have h2:=ih s2;rw [← h1] at h2;show (f x s).bind (fun s'=>(f y s').bind fun s''=>l.foldlM (fun s i=>f i s) s'')=((some s2).bind fun s''=>l.foldlM (fun s i=>f i s) s'').bind (f x);rw [← bind_assoc,h2];rfl
theorem FR {σ:Type} (f:Nat→σ→Option σ):∀(n:Nat) (l:List Nat),l.Nodup→(∀i,i∈l↔i<n)→(∀l1 x l2 y,l=l1++x::l2→y∈l2→y<x→∀s,(f x s).bind (f y)=(f y s).bind (f x))→
  ∀s,l.foldlM (fun s i=>f i s) s=(List.range n).foldlM (fun s i=>f i s) s
 |0,l,hn,hm,hc,s=>by
  cases l with
  |nil=>rfl
  |cons x xs=>exact absurd ((hm x).1 (by simp)) (by omega)
 |n+1,l,hn,hm,hc,s=>by
  have hlast:n∈l:=(hm _).2 (by omega);obtain ⟨l1,l2,e⟩:=append_of_mem hlast;have hn':=hn;rw [e,nodup_append,nodup_cons] at hn';obtain ⟨n1,⟨n2,n3⟩,n4⟩:=hn';have hm2:∀i,i∈l1++l2↔i<n:=fun i=>by
   constructor
   ·intro hi;have h5:=(hm i).1 (by rw [e];simp only [mem_append,mem_cons];rcases mem_append.1 hi with h|h;exact .inl h;exact .inr (.inr h));have h6:i≠n:=fun h=>by
     subst h;rcases mem_append.1 hi with h|h
     ·exact n4 i h i (by simp) rfl
     ·exact n2 h
    omega
   ·intro hi;have h5:=(hm i).2 (by omega);rw [e] at h5;simp only [mem_append,mem_cons] at h5 ⊢;rcases h5 with h5|h5|h5
    ·exact .inl h5
    ·omega
    ·exact .inr h5
  have ih:=FR f n (l1++l2) (nodup_append.2 ⟨n1,n3,fun a ha b hb=>n4 a ha b (by simp [hb])⟩) hm2 (fun a x b y e2 hy hlt=>by
   rcases List.append_eq_append_iff.1 e2 with ⟨a',h1,h2⟩|⟨c',h1,h2⟩
   ·
    exact hc (l1++n::a') x b y (by rw [e,h2];simp) hy hlt
   ·cases c' with
    |nil=>
     simp only [append_nil] at h1;simp only [nil_append] at h2;exact hc (l1++[n]) x b y (by rw [e,← h2];simp) hy hlt
    |cons z c'=>
     simp only [cons_append,List.cons.injEq] at h2;obtain ⟨rfl,h2⟩:=h2;exact hc a x (c'++n::l2) y (by rw [e,h1];simp) (by rw [h2] at hy;simp only [mem_append,mem_cons] at hy ⊢;rcases hy with h|h;exact .inl h;exact .inr (.inr h)) hlt) s
  have hmv:=fun s=>NN f n l2 (fun y hy s=>hc l1 n l2 y e hy (by have h5:=(hm y).1 (by rw [e];simp [hy]);have h6:y≠n:=fun h=>n2 (h ▸ hy);omega) s) s
  rw [e,List.range_succ,foldlM_append,foldlM_append,← ih,foldlM_append];show (l1.foldlM (fun s i=>f i s) s).bind _=((l1.foldlM (fun s i=>f i s) s).bind _).bind _;cases l1.foldlM (fun s i=>f i s) s with
  |none=>rfl
  |some s1=>
   simp only [Option.bind_some,foldlM_cons];have:=hmv s1;show (f n s1).bind (fun s'=>l2.foldlM (fun s i=>f i s) s')=(l2.foldlM (fun s i=>f i s) s1).bind (fun s'=>(f n s').bind fun s''=>List.foldlM (fun s i=>f i s) s'' []);rw [this];congr 1;funext s';cases f n s'<;>rfl
end Ab
namespace Ab
open Go
variable {R:Type} {P:Program} {h:Heap}
def B5 (T:List Nat) (h h':Heap):Prop:=h.length≤h'.length∧∀i,i<h.length→i∉T→h'[i]? = h[i]?
theorem B5.refl (T:List Nat) (h:Heap):B5 T h h:=⟨le_refl _,fun _ _ _=>rfl⟩
theorem B5.trans {T:List Nat} {a b c:Heap} (x:B5 T a b) (y:B5 T b c):B5 T a c:=
 ⟨le_trans x.1 y.1,fun i hi hn=>(y.2 i (lt_of_lt_of_le hi x.1) hn).trans (x.2 i hi hn)⟩
theorem B5.push (T:List Nat) (h:Heap) (o:AF):B5 T h (h++[o]):=
 ⟨by simp,fun i hi _=>getElem?_append_left hi⟩
theorem B5.set {T:List Nat} (h:Heap) {i:Nat} (hi:i∈T) (o:AF):B5 T h (h.set i o):=
 ⟨by simp,fun j _ hn=>by rw [getElem?_set_ne];intro e;exact hn (e ▸ hi)⟩
theorem B5.mono {T T':List Nat} (hT:∀i∈T,i∈T') {a b:Heap} (x:B5 T a b):B5 T' a b:=
 ⟨x.1,fun i hi hn=>x.2 i hi fun hm=>hn (hT i hm)⟩
theorem ES (T:List Nat):∀(vs:List AV) (ts:List TypeId) (h:Heap) {K:List AV→Heap→Option R} {r:R},Cs P ts vs h K=some r→∃vs' h',K vs' h'=some r∧B5 T h h'
 |[],ts,h,K,r,hr=>⟨[],h,by simpa [Cs] using hr,.refl _ _⟩
 |v::vs,ts,h,K,r,hr=>by
  cases v with
  |nilsl=>
   simp only [Cs] at hr;obtain ⟨vs',h',h1,h2⟩:=ES T vs _ _ hr;exact ⟨_,h',h1,(B5.push T h _).trans h2⟩
  |_=>
   simp only [Cs] at hr;obtain ⟨vs',h',h1,h2⟩:=ES T vs _ _ hr;exact ⟨_,h',h1,h2⟩
theorem Gx (T:List Nat) {t:TypeId} {cs:List AV} {K:AV→Heap→Option R} {r:R} (hr:Di P t cs h K=some r):∃v h',K v h'=some r∧B5 T h h':=by unfold Di at hr;obtain ⟨vs',h',h1,h2⟩:=ES T _ _ _ hr;exact ⟨_,_,h1,h2.trans (.push T _ _)⟩
theorem DF {α:Type} {f:∀R:Type,(α→Option R)→Option R} (hd:Det f) {R:Type} {K:α→Option R} {r:R} (hr:f R K=some r):∃v,K v=some r:=by
 rcases hd with ⟨v,hv⟩|hn
 ·exact ⟨v,(hv R K).symm.trans hr⟩
 ·rw [hn] at hr;cases hr
theorem JJ {t:TypeId} {a v:AV} {K:Heap→Option R} {r:R} (hr:Et P t h a v K=some r):∃h',K h'=some r∧B5 (BO a).toList h h':=by
 unfold Et at hr
 try simp only [AE] at hr
 split at hr
 ·obtain ⟨_,hr⟩:=AH hr;split at hr
  ·split at hr
   ·obtain ⟨_,hr⟩:=AH hr;obtain ⟨vs1,hr⟩:=DF (IJ (h:=h) _ _) hr;obtain ⟨vs',h',h1,h2⟩:=ES _ _ _ _ hr;exact ⟨_,h1,h2.trans (.set _ (by simp [BO]) _)⟩
   ·cases hr
  ·split at hr
   ·obtain ⟨_,hr⟩:=AH hr;obtain ⟨e,_,hr⟩:=bind_some hr;obtain ⟨xs,hK⟩:=DF (CB (P:=P) (h:=h) _ _ _) hr;exact ⟨_,hK,.set _ (by simp [BO]) _⟩
   ·cases hr
  ·cases hr
 ·cases hr
theorem M9 {t:TypeId} {s x:AV} {K:AV→Heap→Option R} {r:R} (hr:Dk P t h s x K=some r):∃v h',K v h'=some r∧B5 (BO s).toList h h':=by
 unfold Dk at hr
 try simp only [AE] at hr
 obtain ⟨z,_,hr⟩:=bind_some hr;obtain ⟨new,hr⟩:=DF (HQ h z x) hr;split at hr
 ·obtain ⟨_,hr⟩:=AH hr;exact ⟨_,_,hr,.push _ _ _⟩
 ·split at hr
  ·split at hr
   ·obtain ⟨_,hr⟩:=AH hr;exact ⟨_,_,hr,.refl _ _⟩
   ·obtain ⟨_,hr⟩:=AH hr;exact ⟨_,_,hr,.set _ (by simp [BO]) _⟩
  ·cases hr
 ·cases hr
theorem Kf {t:TypeId} {s x:AV} {K:AV→Heap→Option R} {r:R} (hr:D3 P t h s x K=some r):∃v h',K v h'=some r∧B5 (BO s).toList h h':=by
 unfold D3 at hr
 try simp only [AE] at hr
 obtain ⟨z,_,hr⟩:=bind_some hr;obtain ⟨new,hr⟩:=DF (HU h z x) hr;split at hr
 ·split at hr
  ·obtain ⟨_,hr⟩:=AH hr;exact ⟨_,_,hr,.set _ (by simp [BO]) _⟩
  ·cases hr
 ·cases hr
theorem Qh {t:TypeId} {d x:AV} {K:AV→Heap→Option R} {r:R} (hr:Mo P t h d x K=some r):∃v h',K v h'=some r∧B5 (BO d).toList h h':=by
 unfold Mo at hr
 try simp only [AE] at hr
 obtain ⟨z,_,hr⟩:=bind_some hr;obtain ⟨new,hr⟩:=DF (HQ h z x) hr;split at hr
 ·split at hr
  ·obtain ⟨_,hr⟩:=AH hr;exact ⟨_,_,hr,.set _ (by simp [BO]) _⟩
  ·cases hr
 ·cases hr
theorem Ot {t:TypeId} {x:AV} {K:Heap→Option R} {r:R} (hr:IS P t h x K=some r):∃h',K h'=some r∧B5 (BO x).toList h h':=by
 unfold IS at hr
 try simp only [AE] at hr
 split at hr
 ·split at hr
  ·obtain ⟨_,hr⟩:=AH hr;exact ⟨_,hr,.refl _ _⟩
  ·exact ⟨_,hr,.refl _ _⟩
  ·obtain ⟨zs,hr⟩:=DF (HP (P:=P) h _) hr;split at hr
   ·obtain ⟨_,hr⟩:=AH hr;exact ⟨_,hr,.set _ (by simp [BO]) _⟩
   ·cases hr
  ·cases hr
 ·cases hr
theorem Qa (T:List Nat) {t:TypeId} {n c:AV} {K:AV→Heap→Option R} {r:R} (hr:Mi P t h n c K=some r):∃v h',K v h'=some r∧B5 T h h':=by
 unfold Mi at hr
 try simp only [AE] at hr
 obtain ⟨z,_,hr⟩:=bind_some hr;split at hr
 ·obtain ⟨a,_,hr⟩:=bind_some hr;obtain ⟨b,_,hr⟩:=bind_some hr;obtain ⟨zs,hr⟩:=DF (HP (P:=P) h _) hr;obtain ⟨_,hr⟩:=AH hr;exact ⟨_,_,hr,.push _ _ _⟩
 ·cases hr
theorem Hy (h:Heap) (v:AV):B5 (BO v).toList h (Dd h v):=by
 unfold Dd;split
 ·split
  ·exact .set _ (by simp [BO]) _
  ·exact .refl _ _
 ·exact .refl _ _
theorem EM:∀(vs:List AV) (h:Heap),B5 (vs.filterMap BO) h (AY h vs)
 |[],h =>.refl _ _
 |v::vs,h=>by
  have h1:=EM vs (Dd h v);have h2:=Hy h v;refine (h2.mono fun i hi => ?_).trans (h1.mono fun i hi => ?_)
  ·rw [filterMap_cons];cases ho:BO v with
   |none=>rw [ho] at hi;simp at hi
   |some j=>rw [ho] at hi;simp at hi;simp [hi]
  ·rw [filterMap_cons];split
   ·exact hi
   ·exact mem_cons_of_mem _ hi
theorem H9 {h:Heap}:∀{ls:List AV} {i v:Nat},FJ h ls=some (i,v)→i∈ls.filterMap BO
 |[],i,v,hr=>by simp [FJ] at hr
 |x::ls,i,v,hr=>by
  cases x with
  |sref j a b c=>
   simp only [FJ] at hr;split at hr
   ·cases hr;simp [BO]
   ·cases hr
  |_=>first
   |(have:=H9 (ls:=ls) hr;simp only [filterMap_cons,BO];exact this)
   |(have:=H9 (ls:=ls) hr;simp only [filterMap_cons,BO,mem_cons];exact .inr this)
theorem Ju:∀(ts:List TypeId) (avs:List AV) {K:List AV→Option R} {r:R},flatK P ts avs K=some r→∃ls,K ls=some r∧∀i∈ls.filterMap BO,i∈(avs.map fun v=>match v.cells with|some cs=>cs.filterMap BO|none=>[]).flatten
 |[],[],K,r,hr=>⟨[],by simpa [flatK] using hr,fun i hi=>by simp at hi⟩
 |t::ts,v::vs,K,r,hr=>by
  unfold flatK at hr
  try simp only [AE] at hr
  split at hr
  ·split at hr
   ·rename_i cs;obtain ⟨_,hr⟩:=AH hr;obtain ⟨ls,h1,h2⟩:=Ju ts vs hr;refine ⟨_,h1,fun i hi => ?_⟩;rw [List.filterMap_append,mem_append] at hi;rw [map_cons,flatten_cons,mem_append];rcases hi with hi|hi
    ·exact .inl (by simpa [AV.cells] using hi)
    ·exact .inr (h2 i hi)
   ·cases hr
  ·obtain ⟨hlf,hr⟩:=AH hr;obtain ⟨ls,h1,h2⟩:=Ju ts vs hr;refine ⟨_,h1,fun i hi => ?_⟩;rw [filterMap_cons] at hi;rw [map_cons,flatten_cons,mem_append];cases ho:BO v with
   |none=>rw [ho] at hi;exact .inr (h2 i hi)
   |some j=>
    rw [ho] at hi;simp only [mem_cons] at hi;rcases hi with hi|hi
    ·refine .inl ?_;cases v<;>simp [BO] at ho<;>simp [AV.cells,BO,hi,ho]
    ·exact .inr (h2 i hi)
  ·cases hr
 |[],v::vs,K,r,hr=>by simp [flatK] at hr
 |t::ts,[],K,r,hr=>by simp [flatK] at hr
theorem Lr {C:Cfg} {rec:Rec} {pc:BE} {env:Env} {op:Op} {K:AV→Heap→Option R} {r:R} (hl:Af C op=true) (hr:Ae C rec pc false env h op K=some r):∃v h',K v h'=some r∧B5 (EP env op) h h':=by
 by_cases hh:Aw op=true
 case neg=>
  have hw:(∃g args argTypes,op = .call {callee :=.value (.func g),args,argTypes})∨(∃t len parts,op = .buildSlice t len parts)∨∃src dst x,op = .convert src dst x:=by unfold Af at hl;split at hl<;>first|(exact absurd rfl hh)|(exact .inl ⟨_,_,_,rfl⟩)|(exact .inr (.inl ⟨_,_,_,rfl⟩))|(exact .inr (.inr ⟨_,_,_,rfl⟩))|cases hl
  rcases hw with ⟨g,args,argTypes,rfl⟩|⟨t,len,parts,rfl⟩|⟨src,dst,x,rfl⟩
  case inr.inr=>
   have hf:Mx C.P src dst=true:=hl;simp only [Ae,Aw,false_eq_true,if_false,hf,if_true,J7] at hr;obtain ⟨s,_,hr⟩:=bind_some hr;exact ⟨_,_,hr,.push _ _ _⟩
  case inr.inl=>
   have hf:C.fnTy t=true:=hl;simp only [Ae,Aw,false_eq_true,if_false,hf,if_true] at hr;unfold D2 at hr
   try simp only [AE] at hr
   split at hr
   ·obtain ⟨s,_,hr⟩:=bind_some hr;obtain ⟨z,_,hr⟩:=bind_some hr;obtain ⟨_,hr⟩:=AH hr;obtain ⟨cs,_,hr⟩:=bind_some hr;exact ⟨_,_,hr,.push _ _ _⟩
   ·cases hr
  have hown:C.own g=true:=hl;have hh':Aw (.call {callee :=.value (.func g),args,argTypes})=false:=by simpa using hh
  unfold Ae at hr;simp only [hh',false_eq_true,if_false,ev,MW,AE] at hr;obtain ⟨_,hr⟩:=AH hr;unfold FC at hr;simp only [hown,if_true,false_eq_true,if_false,AE] at hr;obtain ⟨ls,hr,hls⟩:=Ju _ _ hr;obtain ⟨xs,hr⟩:=DF (CB (P:=C.P) (h:=AY h ls) _ _ _) hr;have hsub0:∀i∈ls.filterMap BO,i∈EP env (.call {callee :=.value (.func g),args,argTypes}):=fun i hi=>by have:=hls i hi;rw [nil_append,append_nil,map_map] at this;exact this
  split at hr
  ·obtain ⟨_,hr⟩:=AH hr;obtain ⟨ys,_,hr⟩:=bind_some hr;have hr:=Il hr;split at hr
   ·split at hr
    ·exact ⟨_,_,hr,((EM ls h).mono hsub0).trans (.push _ _ _)⟩
    ·cases hr
   ·cases hr
  obtain ⟨ys,_,hr⟩:=bind_some hr;split at hr
  ·obtain ⟨z,_,hr⟩:=bind_some hr;obtain ⟨_,hr⟩:=AH hr;obtain ⟨_,hr⟩:=AH hr;have hsub:∀i∈ls.filterMap BO,i∈EP env (.call {callee :=.value (.func g),args,argTypes}):=fun i hi=>by have:=hls i hi;rw [nil_append,append_nil,map_map] at this;exact this
   unfold OD at hr;split at hr
   ·rename_i i0 v0 hre;split at hr
    ·refine ⟨_,_,hr,.set _ (hsub i0 ?_) _⟩;have hre:FJ h ls=some (i0,v0):=by
      split at hre
      ·exact hre
      ·cases hre
     exact H9 hre
    ·cases hr
   ·exact ⟨_,_,hr,((EM ls h).mono hsub).trans (.push _ _ _)⟩
  ·cases hr
 unfold Ae at hr;simp only [hh,if_true,false_eq_true,if_false] at hr;cases op with
 |alloc t=>
  have hrn:C.ren t=none:=by simpa [Af] using hl
  simp only [Bo,hrn] at hr;by_cases hc:C.curT t=true
  ·simp only [hc,if_true] at hr;unfold Fq at hr
   try simp only [AE] at hr
   split at hr
   ·obtain ⟨_,hr⟩:=AH hr;obtain ⟨xs,hr⟩:=DF (CB (P:=C.P) (h:=h) _ _ _) hr;exact ⟨_,_,hr,.push _ _ _⟩
   ·cases hr
  ·simp only [hc,false_eq_true,if_false,hop] at hr;split at hr
   ·exact Gx _ hr
   ·cases hr
 |box t x=>
  simp only [Bo] at hr;by_cases hc:C.cur (DK x)=true
  ·simp only [hc,if_true] at hr;unfold J4 at hr
   try simp only [AE] at hr
   split at hr
   ·obtain ⟨_,hr⟩:=AH hr;obtain ⟨xs,hr⟩:=DF (CB (P:=C.P) (h:=h) _ _ _) hr;exact ⟨_,_,hr,.refl _ _⟩
   ·cases hr
  ·simp only [hc,false_eq_true,if_false,hop] at hr;split at hr
   ·exact Gx _ hr
   ·cases hr
 |store t a x=>
  simp only [Bo] at hr;by_cases hc:C.curT t=true
  ·simp only [hc,if_true] at hr;obtain ⟨h',hr,hk⟩:=JJ hr;refine ⟨_,_,hr,?_⟩;refine hk.trans ?_;cases hv:ev env a<;>first|(simp only [Kh];exact .refl _ _)|skip
   ·simp only [Kh,EP,hv];exact (Hy h' _).mono fun i hi=>by simpa [BO] using hi
  ·simp only [hc,false_eq_true,if_false,hop] at hr;obtain ⟨h',hr,hk⟩:=JJ hr;exact ⟨_,_,hr,hk⟩
 |call c=>
  obtain ⟨callee,args,argTypes⟩:=c;cases callee with
  |builtin b=>
   cases b<;>first|(simp [Af] at hl;done)|skip
   ·simp only [Bo,hop,AE] at hr;split at hr
    ·rename_i s x t t' hx _;obtain ⟨_,hr⟩:=AH hr;by_cases hsr:N8 (ev env s) (ev env x)=true
     ·simp only [hsr,if_true] at hr;obtain ⟨v,h',hr,hk⟩:=Kf hr;exact ⟨v,h',hr,hk.mono fun i hi=>by simp only [EP,hx];exact hi⟩
     ·simp only [hsr,false_eq_true,if_false] at hr;obtain ⟨v,h',hr,hk⟩:=M9 hr;exact ⟨v,h',hr,hk.mono fun i hi=>by simp only [EP,hx];exact hi⟩
    ·cases hr
   ·simp only [Bo,hop,AE] at hr;split at hr
    ·rename_i x t hx _;obtain ⟨h',hr,hk⟩:=Ot hr;exact ⟨_,h',hr,hk.mono fun i hi=>by simp only [EP,hx];exact hi⟩
    ·cases hr
   ·simp only [Bo,hop,AE] at hr;split at hr
    ·rename_i d x t _ hx _;obtain ⟨v,h',hr,hk⟩:=Qh hr;exact ⟨v,h',hr,hk.mono fun i hi=>by simp only [EP,hx];exact hi⟩
    ·cases hr
  |_=>simp [Aw] at hh
 |makeSlice t n c=>simp only [Bo,hop] at hr;exact Qa _ hr
 |makeMap t r=>
  cases r with
  |none=>
   simp only [Bo,hop] at hr;unfold Fp at hr;split at hr
   ·exact ⟨_,_,hr,.push _ _ _⟩
   ·cases hr
  |some r=>simp [Af] at hl
 |mapUpdate t m x v=>
  simp only [Bo,hop] at hr;unfold HY at hr;simp only [AE] at hr;split at hr
  ·rename_i hm _ _;split at hr
   ·obtain ⟨_,hr⟩:=AH hr;exact ⟨_,_,hr,.set _ (by simp only [EP,hm];simp [BO]) _⟩
   ·cases hr
  ·cases hr
 |_=>first|(simp [Af] at hl;done)|(simp [Aw] at hh;done)
end Ab
