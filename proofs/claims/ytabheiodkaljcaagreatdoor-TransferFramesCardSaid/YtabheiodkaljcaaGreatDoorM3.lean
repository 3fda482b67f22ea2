/- A part of the proof: see the last text. -/
import Derived.Test.YtabheiodkaljcaaGreatDoorM2
import Derived.OpenShut
import Derived.RowKit
import Derived.ChangeSame
import Derived.WideShapes
import Derived.ChangeShapes
import Derived.Deep.Slices
import Derived.Below
import Derived.CallsIn
import Derived.Lib.Repeat
import Derived.Test.YtabheiodkaljcaaGreatDoorProg
import Derived.KernelRfl
open Array (eq_empty_of_size_eq_zero)
open Array renaming getElem?_toList → yU
open Bool (not_eq_true')
open Bool renaming and_eq_true → zC, false_eq_true → zD
open Classical (not_not)
open Int (toNat_natCast)
open Int renaming lt_irrefl → wE, tdiv → wF, tmod → wG, toNat → wH
open List (all_cons all_eq_true any_eq_true append_nil cons_append drop drop_zero foldl_cons getElem?_drop getElem?_map getElem?_take_of_lt length length_map map_map mem_append mem_flatMap mem_map mem_range nil_append tail_cons take)
open List renaming getElem?_append_left → zK, getElem?_append_right → zL, getElem?_eq_getElem → zO, getElem_mem → wI, getElem_of_mem → zU, length_append → zV, length_cons → zW, length_nil → zX, length_pos_iff → zY, mapM_cons → wJ, mem_cons → xP, mem_of_getElem? → yA, pairwise_cons → wC, replicate → yB
open Nat (add_assoc le_refl lt_or_ge reduceEqDiff zero_le)
open Nat renaming pos_of_ne_zero → yP, reduceAdd → wK, zero_add → yR
open Option (bind_none getD_none some_or)
open Option renaming map_none → wL, map_some → yT
set_option linter.unusedVariables false
namespace Ab
open Go
variable {P:Program} {w w':World} {H:Type} {enc:TypeId×Value→H} {base:Nat} {held:Bool}
def cover (P:Program):List Field→Nat→Option Nat
 |[],off=>some off
 |f::fs,off=>if f.offset=off then cover P fs (off+P.cellsOf f.type) else none
def Ou (P:Program):Nat→TypeId→Bool
 |0,_=>false
 |d+1,t=>match P.underlying t with
  |some .bool|some (.int _)|some .string=>true
  |some (.slice e)=>P.cellsOf e != 0&&Ou P d e
  |some (.struct fs)=>cover P fs.toList 0==some (P.cellsOf t)&&fs.toList.all fun f=>Ou P d f.type
  |_=>false
def Fq (Ty:TypeId→List Tree→Prop):List TypeId→List Tree→Prop
 |[],ts=>ts=[]
 |t::l,ts=>∃a b,ts=a++b∧Ty t a∧Fq Ty l b
def Typed (P:Program):Nat→TypeId→List Tree→Prop
 |0,_,_=>False
 |d+1,t,ts=>match P.underlying t with
  |some .bool=>∃b,ts=[.bool b]
  |some (.int k)=>∃n,ts=[.int k n]∧(Lit.int k n).wf=true
  |some .string=>∃s:ByteArray,ts=[.str s]∧s.size≤maxLen
  |some (.slice e)=>∃es,ts=[.sl (P.cellsOf e) es]∧es.length≤maxLen∧∀x∈es,Typed P d e x
  |some (.struct fs)=>Fq (Typed P d) (fs.toList.map (·.type)) ts
  |_=>False
def Cells (w:World) (ts:List Tree) (cs:List Value):Prop:=ts.length=cs.length∧∀(j:Nat) y v,ts[j]? = some y→cs[j]? = some v→Bp w (fun _=>False) y v
theorem Cells.append {ts ts':List Tree} {cs cs':List Value} (h1:Cells w ts cs) (h2:Cells w ts' cs'):Cells w (ts++ts') (cs++cs'):=by
 refine ⟨by simp [h1.1,h2.1],fun j y v hy hv => ?_⟩;rcases lt_or_ge j ts.length with hj|hj
 ·rw [zK hj] at hy;rw [zK (by rw [← h1.1];exact hj)] at hv;exact h1.2 j y v hy hv
 ·rw [zL hj] at hy;rw [zL (by rw [← h1.1];exact hj),← h1.1] at hv;exact h2.2 _ y v hy hv
theorem Cells.one {y:Tree} {v:Value} (h:Bp w (fun _=>False) y v):Cells w [y] [v]:=by
 refine ⟨rfl,fun j z u hz hu => ?_⟩;cases j with
 |zero=>cases hz;cases hu;exact h
 |succ j=>simp at hz
theorem MN {α:Type} {p:Nat→α→Prop}:∀(len:Nat),(∀i,i<len→∃x,p i x)→∃l:List α,l.length=len∧∀i x,l[i]? = some x→p i x
 |0,_=>⟨[],rfl,fun i x hx=>by simp at hx⟩
 |n+1,h=>by
  obtain ⟨l,h1,h2⟩:=MN n fun i hi=>h i (by omega);obtain ⟨x,hx⟩:=h n (by omega);refine ⟨l++[x],by simp [h1],fun i y hy => ?_⟩;rcases lt_or_ge i n with hi|hi
  ·rw [zK (by omega)] at hy;exact h2 i y hy
  ·rw [zL (by omega)] at hy;have:=AU hy;simp at this;have e:i=n:=by omega
   subst e;rw [h1] at hy;simp at hy;subst hy;exact hx
theorem Nb {α β:Type} {f:α→Option β}:∀{l:List α} {ys:List β},l.mapM f=some ys→ys.length=l.length∧∀(i:Nat) x,l[i]? = some x→∃y,ys[i]? = some y∧f x=some y
 |[],ys,h=>by simp at h;subst h;exact ⟨rfl,fun i x hx=>by simp at hx⟩
 |a::l,ys,h=>by
  rw [wJ] at h;cases ha:f a with
  |none=>rw [ha] at h;cases h
  |some b=>
   rw [ha] at h;cases hl:l.mapM f with
   |none=>rw [hl] at h;cases h
   |some bs=>
    rw [hl] at h;cases h;obtain ⟨h1,h2⟩:=Nb hl;refine ⟨by simp [h1],fun i x hx => ?_⟩;cases i with
    |zero=>simp at hx;subst hx;exact ⟨b,rfl,ha⟩
    |succ i=>simpa using h2 i x (by simpa using hx)
theorem mapM_congr {α β:Type} {f g:α→Option β}:∀{l:List α},(∀x∈l,g x=f x)→l.mapM g=l.mapM f
 |[],_=>by simp
 |a::l,h=>by rw [wJ,wJ,h a (by simp),mapM_congr fun x hx=>h x (by simp [hx])]
theorem Mk {α β:Type} {f:α→Option β}:∀{l:List α} (ys:List β),ys.length=l.length→(∀(i:Nat) x,l[i]? = some x→∃y,ys[i]? = some y∧f x=some y)→l.mapM f=some ys
 |[],[],_,_=>by simp
 |[],y::ys,h,_=>by simp at h
 |a::l,[],h,_=>by simp at h
 |a::l,y::ys,h,hf=>by
  obtain ⟨z,h1,h2⟩:=hf 0 a rfl;cases h1;have ih:=Mk ys (by simpa using h) fun i x hx=>by simpa using hf (i+1) x (by simpa using hx)
  rw [wJ,h2,ih];rfl
theorem Ii {n i:Nat} (h:i<n):(List.range n)[i]? = some i:=by simp [h]
theorem Pw {a:Addr} {n:Nat} {cs:List Value} (h:w.cells? base a n=some cs):base≤a.block∧cs.length=n∧∀i v,cs[i]? = some v→w.cell? (a.add i)=some v:=by
 unfold World.cells? at h;obtain ⟨hb,h⟩:=AG h;obtain ⟨h1,h2⟩:=Nb h;have h1':cs.length=n:=by simpa using h1
 refine ⟨hb,h1',fun i v hv => ?_⟩;have hi:i<n:=by have:=AU hv;omega
 obtain ⟨y,hy,hc⟩:=h2 i i (Ii hi);rw [hv] at hy;cases hy;exact hc
theorem Lj {a:Addr} {v:Value} (h:w.cell? a=some v):a.spot=none∧a.block<w.heap.size:=by
 unfold World.cell? at h;split at h
 ·rename_i c e f hb;split at h
  ·cases h
  ·rename_i hs;exact ⟨by simpa using hs,D0 hb⟩
 ·cases h
theorem S2 (b o i:Nat):(⟨b,o,none⟩:Addr).add i=⟨b,o+i,none⟩:=by
 simp only [Addr.add];split
 ·rename_i h;simp
 ·rfl
theorem J1 {cs:List Value} (Ty:TypeId→List Tree→Prop):∀(fs:List Field) (off m:Nat),cover P fs off=some m→m≤cs.length→(∀f∈fs,∃ts,Ty f.type ts∧Cells w ts ((cs.drop f.offset).take (P.cellsOf f.type)))→
  off≤m∧∃ts,Fq Ty (fs.map (·.type)) ts∧Cells w ts ((cs.drop off).take (m-off))
 |[],off,m,hc,hm,_=>by cases hc;exact ⟨le_refl _,[],rfl,by simp,fun j y v hy=>by simp at hy⟩
 |f::fs,off,m,hc,hm,hall=>by
  simp only [cover] at hc;obtain ⟨ho,hc⟩:=AG hc;obtain ⟨h1,ts,h2,h3⟩:=J1 Ty fs _ m hc hm fun g hg=>hall g (by simp [hg]);obtain ⟨ts0,h4,h5⟩:=hall f (by simp);refine ⟨by omega,ts0++ts,⟨ts0,ts,rfl,h4,h2⟩,?_⟩;have e:(cs.drop off).take (m-off)=(cs.drop f.offset).take (P.cellsOf f.type)++(cs.drop (off+P.cellsOf f.type)).take (m-(off+P.cellsOf f.type)):=by rw [ho,show m-off=P.cellsOf f.type+(m-(off+P.cellsOf f.type)) from by omega,List.take_add,List.drop_drop]
  rw [e];exact h5.append h3
theorem Om {spare:Nat→Bool}:∀(d:Nat) {t:TypeId} {fuel:Nat} {cs:List Value} {x:DataW H×List MemPlace},Ou P d t=true→DataW.trod enc P w base spare held fuel t cs=some x→∃ts,Typed P d t ts∧Cells w ts cs:=by
 intro d
 induction d with
 |zero=>intro t fuel cs x ho;cases ho
 |succ d ih=>
  intro t fuel cs x ho h;unfold Ou at ho;unfold Typed;cases hu:P.underlying t with
  |none=>rw [hu] at ho;cases ho
  |some u=>
   rw [hu] at ho;cases u with
   |bool=>
    obtain ⟨b,rfl,_⟩:=DataW.trod_bool hu h;exact ⟨_,⟨b,rfl⟩,Cells.one (.bool b)⟩
   |int k=>
    obtain ⟨n,rfl,_,hw⟩:=DataW.trod_int hu h;exact ⟨_,⟨n,rfl,hw⟩,Cells.one (.int k n)⟩
   |string=>
    obtain ⟨n,rfl,_,hw⟩:=DataW.trod_string hu h;exact ⟨_,⟨n,rfl,hw⟩,Cells.one (.str n)⟩
   |slice e=>
    simp only [zC,bne_iff_ne,ne_eq] at ho;rcases Go.Deep.open_slice hu h with ⟨rfl,_⟩|⟨a,len,cap,m,n,D,Pl,rfl,hb,hl,hm,hmm,_,hi⟩
    ·exact ⟨_,⟨[],rfl,zero_le _,fun x hx=>by cases hx⟩,Cells.one (.nil _ _ _)⟩
    ·have hlm:len≤m:=by rw [hmm];split<;>omega
     obtain ⟨es,he1,he2⟩:=MN (p:=fun i ts=>Typed P d e ts∧∃cs',w.cells? base (a.add (i*P.cellsOf e)) (P.cellsOf e)=some cs'∧Cells w ts cs') len fun i him=>by obtain ⟨cs',h1,h2⟩:=hi i (by omega);obtain ⟨ts,h3,h4⟩:=ih ho.2 h2;exact ⟨ts,h3,cs',h1,h4⟩
     refine ⟨_,⟨es,rfl,by omega,fun x hx => ?_⟩,?_⟩
     ·obtain ⟨i,hi2,hx2⟩:=zU hx;exact (he2 i x (by rw [zO hi2,hx2])).1
     ·cases hes:es with
      |nil=>
       rw [hes] at he1;obtain rfl:len=0:=he1.symm;exact Cells.one (.nil _ _ _)
      |cons e0 es0=>
       have hsp:a.spot=none:=by
        have h0:es[0]? = some e0:=by rw [hes];rfl
        obtain ⟨_,cs',hc,hcl⟩:=he2 0 e0 h0;obtain ⟨_,hlen,hget⟩:=Pw hc;have hcc:0<cs'.length:=by rw [hlen];exact yP ho.1
        have hg:=hget 0 cs'[0] (zO hcc);have:=(Lj hg).1;simpa [Addr.add] using this
       obtain ⟨ab,ao,asp⟩:=a;dsimp only at hsp;subst hsp;have key:∀(j:Nat) (el:List Tree),es[j]? = some el→el.length=P.cellsOf e∧∀(c:Nat) (y:Tree),el[c]? = some y→∃v,w.cell? ⟨ab,ao+(j*P.cellsOf e+c),none⟩=some v∧ab<w.heap.size∧Bp w (fun _=>False) y v:=by
        intro j el hj;obtain ⟨_,cs',hc,hcl⟩:=he2 j el hj;obtain ⟨_,hlen,hget⟩:=Pw hc;refine ⟨hcl.1.trans hlen,fun c y hy => ?_⟩;have hcc:c<cs'.length:=by rw [← hcl.1];exact AU hy
        have hg:=hget c cs'[c] (zO hcc);rw [S2,S2,add_assoc] at hg;exact ⟨cs'[c],hg,(Lj hg).2,hcl.2 c y _ hy (zO hcc)⟩
       have h0:es[0]? = some e0:=by rw [hes];rfl
       obtain ⟨hl0,hc0⟩:=key 0 e0 h0;have hne:0<e0.length:=by rw [hl0];exact yP ho.1
       obtain ⟨v0,_,hbl,_⟩:=hc0 0 e0[0] (zO hne);rw [← hes,← he1];refine Cells.one (.sl _ es ab ao cap (fun j c=>(w.cell? ⟨ab,ao+(j*P.cellsOf e+c),none⟩).getD undef) (by omega) hbl (fun hf=>hf) (fun j el hj=>(key j el hj).1) (fun j el c y hj hy => ?_) (fun j el c y hj hy => ?_))
       ·obtain ⟨v,h1,_⟩:=(key j el hj).2 c y hy;rw [h1];rfl
       ·obtain ⟨v,h1,_,h4⟩:=(key j el hj).2 c y hy;rw [h1];exact h4
   |struct fs=>
    simp only [zC,beq_iff_eq] at ho;obtain ⟨xs,n,_,_,hlen,hxl,hf⟩:=DataW.trod_struct hu h;obtain ⟨_,ts,h1,h2⟩:=J1 (w:=w) (cs:=cs) (Typed P d) fs.toList 0 _ ho.1 (by omega) fun f hfm=>by
     obtain ⟨i,hi,he⟩:=zU hfm;have hg:fs[i]? = some f:=by rw [← yU,zO hi,he]
     have:=hf i f hg;have hil:i<xs.length:=by rw [hxl];simpa using hi
     rw [zO hil] at this;exact ih (all_eq_true.1 ho.2 f hfm) this
    refine ⟨ts,h1,?_⟩;simpa [← hlen] using h2
   |_=>cases ho
theorem T9 {a:Addr} {n:Nat} {cs:List Value} (hk:∀b,b<w.heap.size→w'.heap[b]? = w.heap[b]?) (h:w.cells? base a n=some cs):w'.cells? base a n=some cs:=by
 rw [← h];unfold World.cells? at h ⊢;obtain ⟨hb,h⟩:=AG h;rw [if_pos hb,if_pos hb];obtain ⟨h1,h2⟩:=Nb h;refine mapM_congr fun i hi => ?_;have hin:i<n:=by simpa using hi
 obtain ⟨y,_,hc⟩:=h2 i i (Ii hin);unfold World.cell? at hc ⊢;rw [hk];have:=Lj (w:=w) (a:=a.add i) (v:=y) hc;exact this.2
theorem V3 {sp:Nat→Bool} (hk:∀b,b<w.heap.size→w'.heap[b]? = w.heap[b]?):∀(d:Nat) {t:TypeId} {fuel:Nat} {cs:List Value} {x:DataW H×List MemPlace},Ou P d t=true→DataW.trod enc P w base (fun _=>true) held fuel t cs=some x→
  (∀p∈x.2,sp p.block=true)→DataW.trod enc P w' base sp held fuel t cs=some x:=by
 intro d
 induction d with
 |zero=>intro t fuel cs x ho;cases ho
 |succ d ih=>
  intro t fuel cs x ho h hp;unfold Ou at ho;cases hu:P.underlying t with
  |none=>rw [hu] at ho;cases ho
  |some u=>
   rw [hu] at ho;cases u with
   |bool=>
    cases fuel with
    |zero=>cases h
    |succ n=>
     obtain ⟨b,rfl,rfl⟩:=DataW.trod_bool hu h;simp [DataW.trod,hu]
   |int k=>
    cases fuel with
    |zero=>cases h
    |succ n=>
     obtain ⟨b,rfl,rfl,hw⟩:=DataW.trod_int hu h;simp [DataW.trod,hu,hw]
   |string=>
    cases fuel with
    |zero=>cases h
    |succ n=>
     obtain ⟨b,rfl,rfl,hw⟩:=DataW.trod_string hu h;simp [DataW.trod,hu,hw]
   |slice e=>
    simp only [zC,bne_iff_ne,ne_eq] at ho;rcases DataW.trod_slice hu h with ⟨rfl,rfl⟩|⟨a,len,cap,elems,rest,n,rfl,rfl,hx,hb,hl,hm,hel,he,hr,_⟩
    ·cases fuel with
     |zero=>cases h
     |succ n=>simp [DataW.trod,hu]
    ·obtain ⟨hrl,hr⟩:=hr rfl;have hmem:∀y∈elems++rest,∀p∈y.2,sp p.block=true:=fun y hy p hpy=>hp p (by rw [hx];exact List.mem_append_right _ (mem_flatMap.2 ⟨y,hy,hpy⟩));have step:∀(i:Nat) (y:DataW H×List MemPlace),y∈elems++rest→(w.cells? base (a.add (i*P.cellsOf e)) (P.cellsOf e)).bind (DataW.trod enc P w base (fun _=>true) held n e)=some y→
       (w'.cells? base (a.add (i*P.cellsOf e)) (P.cellsOf e)).bind (DataW.trod enc P w' base sp held n e)=some y:=by
      intro i y hy hi;obtain ⟨cs',h1,h2⟩:=bind_some hi;rw [T9 hk h1];exact ih ho.2 h2 (hmem y hy)
     have e1:(List.range len).mapM (fun i=>(w'.cells? base (a.add (i*P.cellsOf e)) (P.cellsOf e)).bind (DataW.trod enc P w' base sp held n e))=some elems:=Mk elems (by simp [hel]) fun i j hij=>by
      have hil:i<len:=by have:=AU hij;simpa using this
      have:j=i:=by rw [Ii hil] at hij;cases hij;rfl
      subst this;have hj:=he j hil;have hjl:j<elems.length:=by omega
      rw [zO hjl] at hj;exact ⟨_,zO hjl,step j _ (List.mem_append_left _ (wI hjl)) hj⟩
     have e2:(if sp a.block=true then (List.range (cap-len)).mapM (fun j=>(w'.cells? base (a.add ((len+j)*P.cellsOf e)) (P.cellsOf e)).bind (DataW.trod enc P w' base sp held n e)) else some [])=some rest:=by
      by_cases hsp:sp a.block=true
      ·rw [if_pos hsp];refine Mk rest (by simp [hrl]) fun i j hij => ?_;have hil:i<cap-len:=by have:=AU hij;simpa using this
       have:j=i:=by rw [Ii hil] at hij;cases hij;rfl
       subst this;have hj:=hr j hil;have hjl:j<rest.length:=by omega
       rw [zO hjl] at hj;exact ⟨_,zO hjl,step (len+j) _ (List.mem_append_right _ (wI hjl)) hj⟩
      ·rw [if_neg hsp];cases hre:rest with
       |nil=>rfl
       |cons y ys=>
        exfalso;refine hsp (hp (.cell a.block (a.off+0)) ?_);rw [hx];refine List.mem_append_left _ (mem_map.2 ⟨0,mem_range.2 ?_,rfl⟩);rw [hre];exact Nat.mul_pos (by simp;omega) (yP ho.1)
     unfold DataW.trod;rw [hu];dsimp only;rw [if_pos ⟨hb,hl,hm⟩,e1];simp only [Option.bind_some];rw [e2,hx];rfl
   |struct fs=>
    simp only [zC,beq_iff_eq] at ho;obtain ⟨xs,n,rfl,hx,hlen,hxl,hf⟩:=DataW.trod_struct hu h;have e1:(fs.toList.mapM fun f=>DataW.trod enc P w' base sp held n f.type ((cs.drop f.offset).take (P.cellsOf f.type)))=some xs:=Mk xs (by simpa using hxl) fun i f hif=>by
     have hg:fs[i]? = some f:=by rw [← yU];exact hif
     have hil:i<xs.length:=by rw [hxl];have:=AU hif;simpa using this
     have hj:=hf i f hg;rw [zO hil] at hj;refine ⟨_,zO hil,ih (all_eq_true.1 ho.2 f (yA hif)) hj fun p hpy=>hp p ?_⟩;rw [hx];exact mem_flatMap.2 ⟨_,wI hil,hpy⟩
    unfold DataW.trod;rw [hu];split<;>simp_all
   |_=>cases ho
end Ab
namespace Ab
open Go Go.RowKit Go.WideShapes Go.ChangeShapes
variable {P:Program} {w w':World} {H:Type} {enc:TypeId×Value→H} {base:Nat} {held:Bool}
theorem RR.below (g:RR w w'):Below w.heap.size w w':=⟨g.os,g.tape,g.output,g.size,fun b hb=>g.block b hb⟩
theorem TN {t:TypeId} {n:Nat} (h:B3 P t=some n):P.cellsOf t=n:=by unfold B3 at h;unfold Program.cellsOf;rw [h];rfl
theorem Kl {d:Nat} {spare:Nat→Bool} {b0:Nat}:∀{ts:List TypeId} {vs:List Value} {ds:List (DataW H)} {p:List MemPlace},ts.all (Ou P d)=true→(ts.all fun t=>(B3 P t).isSome)=true→
  (∀(j:Nat) t v,ts[j]? = some t→vs[j]? = some v→Value.okWide P w .any b0 t v)→DataW.TrodAll enc P w base spare held ts vs ds p→
  ∃xs,Fq (Typed P d) ts xs∧∀(leaf:Nat→AV) (off:Nat),(∀j x,xs[j]? = some x→leaf (off+j)= .t x)→∃avs,Cn P leaf ts off=some avs∧AW (fun _=>False) [] [] w avs vs.toArray
 |[],vs,ds,p,_,_,_,h=>by obtain ⟨rfl,rfl,rfl⟩:=trodAll_nil h;exact ⟨[],rfl,fun leaf off _=>⟨[],rfl,rfl,fun j x hx=>by simp at hx⟩⟩
 |t::ts,vs,ds,p,hok,hsz,hval,h=>by
  obtain ⟨v,vs',d1,ds',p1,q,rfl,rfl,rfl,h1,h2⟩:=trodAll_cons h;simp only [all_cons,zC] at hok hsz;obtain ⟨xs,h3,h4⟩:=Kl hok.2 hsz.2 (fun j t' v' ht hv=>hval (j+1) t' v' (by simpa using ht) (by simpa using hv)) h2;obtain ⟨fuel,h1⟩:=h1;obtain ⟨ys,h5,h6⟩:=Om d hok.1 h1;have hv:=hval 0 t v rfl rfl;obtain ⟨n,hn⟩:=Option.isSome_iff_exists.1 hsz.1;have hc:=TN hn;refine ⟨ys++xs,⟨ys,xs,rfl,h5,h3⟩,fun leaf off hl => ?_⟩;obtain ⟨avs,e1,e2⟩:=h4 leaf (off+ys.length) fun j x hx=>by have:=hl (ys.length+j) x (by rw [zL (by omega)];simpa using hx);rwa [← add_assoc] at this
  have hT:∀j v',v.cells.toList[j]? = some v'→AQ (fun _=>False) [] [] w (leaf (off+j)) v':=fun j v' hv'=>by
   have hj:j<ys.length:=by rw [h6.1];exact AU hv'
   have hg:ys[j]? = some ys[j]:=zO hj;rw [hl j ys[j] (by rw [zK hj];exact hg)];exact .t _ _ ((h6.2 j _ v' hg hv').less fun b hb=>by
    rcases hb with hb|hb
    ·exact hb
    ·exact (Du hb).elim)
  have leafCase:A9 P t=some false→v.cells = #[v]→∃avs,Cn P leaf (t::ts) off=some avs∧AW (fun _=>False) [] [] w avs (v::vs').toArray:=by
   intro ha hcv;have hl1:ys.length=1:=by rw [h6.1,hcv];rfl
   refine ⟨leaf off::avs,?_,Co (by simpa using hT 0 v (by rw [hcv];rfl)) e2⟩;rw [hl1] at e1;cases hs:B3 P t<;>simp only [Cn,JI,ha,hs,e1,yT]
  have hok1:=hok.1;cases d with
  |zero=>cases hok1
  |succ d=>
   unfold Ou at hok1;cases hu:P.underlying t with
   |none=>rw [hu] at hok1;cases hok1
   |some u=>
    rw [hu] at hok1;cases u with
    |bool=>obtain ⟨b,rfl⟩:=okWide_bool hu hv;exact leafCase (by simp [A9,hu]) rfl
    |int k=>obtain ⟨b,rfl⟩:=okWide_int hu hv;exact leafCase (by simp [A9,hu]) rfl
    |string=>obtain ⟨b,rfl⟩:=okWide_string hu hv;exact leafCase (by simp [A9,hu]) rfl
    |slice e=>obtain ⟨a,len,cap,rfl⟩:=okWide_slice hu hv;exact leafCase (by simp [A9,hu]) rfl
    |struct fs=>
     obtain ⟨cs,rfl,hcs⟩:=okWide_struct hu hv;have ha:A9 P t=some true:=by simp [A9,hu]
     have hl1:ys.length=n:=by rw [h6.1];simp [Value.cells,hcs,hc]
     refine ⟨.agg (BV leaf off n)::avs,?_,Co (.agg _ _ (by simp [BV,hcs,hc]) fun j y hy => ?_) e2⟩
     ·rw [hl1] at e1;simp only [Cn,JI,ha,hn,e1,yT]
     ·have hj:j<n:=by have:=AU hy;simpa [BV] using this
      rw [Et leaf off _ _ hj] at hy;cases hy;have hj2:j<cs.size:=by omega
      exact hT j _ (by simp [Value.cells,Array.getD,hj2])
    |_=>cases hok1
theorem L8 {spare:Nat→Bool}:∀{ts:List TypeId} {vs:List Value} {ds:List (DataW H)} {p:List MemPlace},DataW.TrodAll enc P w base spare held ts vs ds p→ds.length=ts.length
 |[],vs,ds,p,h=>by obtain ⟨rfl,rfl,rfl⟩:=trodAll_nil h;rfl
 |t::ts,vs,ds,p,h=>by obtain ⟨v,vs',d1,ds',p1,q,rfl,rfl,rfl,h1,h2⟩:=trodAll_cons h;simp [L8 h2]
theorem Jw {sp:Nat→Bool} (hk:∀b,b<w.heap.size→w'.heap[b]? = w.heap[b]?) {d:Nat}:∀{ts:List TypeId} {vs:List Value} {ds:List (DataW H)} {p:List MemPlace},ts.all (Ou P d)=true→
  DataW.TrodAll enc P w base (fun _=>true) held ts vs ds p→(∀x∈p,sp x.block=true)→DataW.TrodAll enc P w' base sp held ts vs ds p
 |[],vs,ds,p,_,h,_=>by obtain ⟨rfl,rfl,rfl⟩:=trodAll_nil h;exact rfl
 |t::ts,vs,ds,p,hok,h,hp=>by obtain ⟨v,vs',d1,ds',p1,q,rfl,rfl,rfl,h1,h2⟩:=trodAll_cons h;simp only [all_cons,zC] at hok;obtain ⟨fuel,h1⟩:=h1;exact trodAll_cons_mk ⟨fuel,V3 hk d hok.1 h1 fun x hx=>hp x (List.mem_append_left _ hx)⟩ (Jw hk hok.2 h2 fun x hx=>hp x (List.mem_append_right _ hx))
theorem Ot {f:Func} {s:ChangeSpec} {apart fresh handsOn again:Bool} {W W':World} {args:Array Value} {v:Value} {ds gs:List (DataW H)} {before pa pv:List MemPlace}
  (hW:DataW.Whole enc P f.params.toList s.vars apart W args.toList ds gs before)
  (hres:∀(b:Nat) (sp:Nat→Bool) (hd:Bool),DataW.TrodAll enc P W' b sp hd f.resultTypes.toList (v.resultList f.resultTypes.size) (s.fn H (ds++gs)).results [])
  (hargs:∀sp:Nat→Bool,(∀p∈before,sp p.block=true)→DataW.TrodAll enc P W' 0 sp true f.params.toList args.toList (s.fn H (ds++gs)).args pa)
  (hvars:∀sp:Nat→Bool,(∀p∈before,sp p.block=true)→DataW.TrodVars enc P W' sp s.vars (s.fn H (ds++gs)).vars pv)
  (hps:before=pa++pv) (hb:Below W.heap.size W W')
  (hok:∀(j:Nat) (t:TypeId) (r:Value),f.resultTypes[j]? = some t→(v.resultList f.resultTypes.size)[j]? = some r→Value.okWide P W' .any 0 t r) :
  s.post enc P f apart fresh handsOn again W args v W':=by
 have hlt:∀p∈before,p.block<W.heap.size:=fun p hp=>hW.lt p hp;have hold:∀p∈before,(fun b=>decide (b<W.heap.size)) p.block=true:=fun p hp=>by simpa using hlt p hp
 refine ⟨ds,gs,before,[],pa,pv,hW,hres _ _ _,hargs _ hold,hvars _ hold,World.keptBut_mono (fun p hp=>⟨hp,?_⟩) (hb.frame (· ∈before)),fun _ => ?_⟩
 ·rw [hps,mem_append] at hp;exact Or.inr hp
 ·obtain ⟨_,_,_,_,_,hz,hn⟩:=hW;refine ⟨hok,_,_,([]++pa)++pv,⟨[]++pa,pv,trodAll_append (hargs _ (fun _ _=>rfl)) (hres _ _ _),hvars _ (fun _ _=>rfl),rfl,?_,?_⟩,?_⟩
  ·intro b off hp;have hin:MemPlace.cell b off∈before:=by rw [hps];simpa using hp
   rw [hb.frozen (hlt _ hin)];exact hz b off hin
  ·intro ha;have:=hn ha;rw [hps] at this;simpa using this
  ·intro p hp _;rw [hps];simpa using hp
theorem KS {C:Cfg} (hmix:C.P.follows .mixedOrders=true) (hext:TI C) {f:FuncId} {fn:Func} {s:ChangeSpec} {bt:TypeId} {d:Nat} (hlt:f<OWN) (hf:C.P.funcs[f]? = some fn) (hvars:s.vars=[]) (hps:fn.params.toList.all (Ou C.P d)=true) (hsz:(fn.params.toList.all fun t=>(B3 C.P t).isSome)=true)
  (hrt:fn.resultTypes = #[bt]) (hbt:C.P.underlying bt=some .bool)
  (hspec:∀(H:Type) (ds:List (DataW H)),ds.length=fn.params.size→(s.fn H ds).results=[.lit (.bool true)]∧(s.fn H ds).args=ds∧(s.fn H ds).vars=[])
  (law:∀xs,Fq (Typed C.P d) fn.params.toList xs→∃n,AA C n f xs=some [.bool true])
  {apart fresh handsOn again:Bool} (W:World) (b0:Nat) (args:Array Value) (ds gs:List (DataW H)) (before:List MemPlace)
  (hval:∀(j:Nat) t v,fn.params[j]? = some t→args[j]? = some v→Value.okWide C.P W .any b0 t v)
  (hW:DataW.Whole enc C.P fn.params.toList s.vars apart W args.toList ds gs before) :
  Calls C.P f args W fun e W'=>∃v,e = .returned v∧s.post enc C.P fn apart fresh handsOn again W args v W':=by
 have hW':=hW;obtain ⟨p,q,hA,hV,hbf,hfz,hnd⟩:=hW;rw [hvars] at hV;obtain ⟨rfl,rfl⟩:=trodVars_none hV;have hlen:ds.length=fn.params.size:=by have:=L8 hA;simpa using this
 obtain ⟨s1,s2,s3⟩:=hspec H (ds++[]) (by simpa using hlen);obtain ⟨xs,h1,h2⟩:=Kl (b0:=b0) hps hsz (fun j t v ht hv=>hval j t v (by rw [← yU];exact ht) (by rw [← yU];exact hv)) hA;obtain ⟨n,hn⟩:=law xs h1;obtain ⟨avs,h3,h4⟩:=h2 (fun i =>.t (xs.getD i default)) 0 fun j x hx=>by rw [yR];simp [List.getD,hx]
 have hm:Dm C.P f (fun i =>.t (xs.getD i default))=some avs:=by unfold Dm;rw [hf];exact h3
 have h4':AW (fun _=>False) [] [] W avs args:=by simpa using h4
 have hpure:=Sv hmix hext hlt hn (fun _=>False) W avs args 0 hm (fun b hb=>hb.elim) h4';refine (callsIn_wide (n:=0)).1 (CallsIn.mono hpure ?_)
 rintro e W' ⟨v,r,rfl,hr,hv,hg,_⟩
 have hbv:v = .bool true:=by
  unfold DC at hr;rw [hf] at hr;simp only [hrt] at hr;have:A9 C.P bt=some false:=by simp [A9,hbt]
  cases hs:B3 C.P bt<;>simp [Cn,JI,this,hs] at hr<;>subst hr<;>(cases hv with|t _ _ ht=>cases ht;rfl)
 subst hbv;refine ⟨_,rfl,?_⟩;simp only [append_nil] at hbf;subst hbf;refine Ot (pa:=before) (pv:=[]) hW' (fun b sp hd => ?_) (fun sp hsp => ?_) (fun sp _ => ?_) (by simp) hg.below ?_
 ·rw [s1,hrt];exact trodAll_cons_mk (shut_bool hbt _) trodAll_mk0
 ·rw [s2,append_nil];exact Jw hg.block hps hA hsp
 ·rw [hvars,s3];rfl
 ·exact ok_one hrt rfl (okWide_bool_mk hbt _)
#print axioms KS
end Ab
namespace Ab
open Go
def hk (l:List (Nat×List Nat)) (i:Nat):List Nat:=(l.lookup i).getD []
def kinds:List IntKind:=[.i8,.i16,.i32,.i64,.u8,.u16,.u32,.u64]
def tmOf:Option Nat→AV
 |none =>.undef
 |some 0 =>.t (.bool false)
 |some (n+1)=>if n<8 then .t (.int (kinds.getD n .i64) 0) else if n=19 then .t (.str ByteArray.empty) else if 99≤n then .t (.sl (n-99) []) else .undef
abbrev HTab:=List (Nat×List (Nat×List Nat)×List (Nat×List Nat)×List (Nat×List Nat)×List (Nat×List Nat)×List (Nat×Nat)×List Nat×List Nat×List Nat×List Nat×List (Nat×Nat))
def XJ (tab:HTab) (f:Nat):Hints:=
 match tab.lookup f with
 |some (a,b,c,d,r,t,i,j,k,m)=>{loop:=hk a,block:=hk b,cond:=hk c,reg:=hk d,rowsz:=fun x=>(r.lookup x).getD 0,tree:=t.contains,imm:=i.contains,immT:=j.contains,nilT:=k.contains,tm:=fun x=>tmOf (m.lookup x)}
 |none=>{loop:=fun _=>[],block:=fun _=>[],cond:=fun _=>[],reg:=fun _=>[],rowsz:=fun _=>0,tree:=fun _=>false,imm:=fun _=>false,immT:=fun _=>false,nilT:=fun _=>false,tm:=fun _ =>.undef}
end Ab
namespace Ab
open Go
def Ev (p:Nat→Prop):Prop:=∃N,∀n,N≤n→p n
theorem Ev.of {p:Nat→Prop} (h:∀n,p n):Ev p:=⟨0,fun n _=>h n⟩
theorem Ev.mono {p q:Nat→Prop} (h:∀n,p n→q n):Ev p→Ev q
 |⟨N,hN⟩=>⟨N,fun n hn=>h n (hN n hn)⟩
theorem Ev.and {p q:Nat→Prop}:Ev p→Ev q→Ev fun n=>p n∧q n
 |⟨N,hN⟩,⟨M,hM⟩=>⟨max N M,fun n hn=>⟨hN n (by omega),hM n (by omega)⟩⟩
theorem Ev.rw {R:Type} {H:Nat→Prop} {T T':Nat→R} {r:R} (hH:Ev H) (h:∀n,H n→T n=T' n) (k:Ev fun n=>T' n=r):Ev fun n=>T n=r:=
 (hH.and k).mono fun n x=>(h n x.1).trans x.2
theorem Ev.conv' {P Q:Nat→Prop} (h:∀n,Q n→P n) (k:Ev Q):Ev P:=k.mono h
theorem Ev.succ {p:Nat→Prop}:(Ev fun n=>p (n+1))→Ev p
 |⟨N,hN⟩=>⟨N+1,fun n hn=>by
  obtain ⟨m,rfl⟩:∃m,n=m+1:=⟨n-1,by omega⟩
  exact hN m (by omega)⟩
theorem Ev.ge (k:Nat):Ev fun n=>k≤n:=⟨k,fun _ h=>h⟩
def AK (C:Cfg) (f:FuncId) (xs ys:List Tree):Prop:=Ev fun n=>AA C n f xs=some ys
theorem AK.of {C:Cfg} {f:FuncId} {xs ys:List Tree} {g:Nat→Option (List Tree)} (h:∀n,AA C (n+1) f xs=g n) (k:Ev fun n=>g n=some ys):AK C f xs ys:=
 Ev.succ (k.mono fun n e=>(h n).trans e)
variable {R S α σ:Type}
theorem BD {c:Prop} [Decidable c] (h:c) (a b:Option R):cnd c a b=a:=by rw [AB,if_pos h]
theorem DR {c:Prop} [Decidable c] (h:¬c) (a b:Option R):cnd c a b=b:=by rw [AB,if_neg h]
inductive Rd (σ Q:Type) where
 |next (s:σ)
 |done (r:Q)
def Rd.go {Q:Type} (again:σ→Option R) (out:Q→Option R):Rd σ Q→Option R
 | .next s=>again s
 | .done r=>out r
def Rd.fin {Q:Type} (res:σ→Q):Rd σ Q→Q
 | .next s=>res s
 | .done r=>r
theorem Rd.AR {Q:Type} (again:σ→Option R) (out:Q→Option R) (s:σ):(Rd.next s:Rd σ Q).go again out=again s:=rfl
theorem Rd.Aj {Q:Type} (again:σ→Option R) (out:Q→Option R) (r:Q):(Rd.done r:Rd σ Q).go again out=out r:=rfl
def BX {Q:Type} (step:Nat→σ→α→Rd σ Q) (fin:σ→Q):Nat→List α→σ→Q
 |_,[],s=>fin s
 |i,x::l,s=>match step i s x with
  | .next s'=>BX step fin (i+1) l s'
  | .done r=>r
theorem PY {Z Q:Type} {B:Nat→Z→S→(S→Option R)→Option R} (l:List α) (st:Nat→σ→S) (step:Nat→σ→α→Rd σ Q) (fin:σ→Q) (out:Z→Q→Option R) (Inv:Nat→σ→Prop)
  (hstep:∀i s x,l[i]? = some x→Inv i s→Ev fun n=>∀z again,B n z (st i s) again=(step i s x).go (fun s'=>again (st (i+1) s')) (out z))
  (hinv:∀i s x s',l[i]? = some x→Inv i s→step i s x = .next s'→Inv (i+1) s')
  (hend:∀s,Inv l.length s→Ev fun n=>∀z again,B n z (st l.length s) again=out z (fin s)) :
  ∀(k i:Nat) (s:σ),i+k=l.length→Inv i s→Ev fun n=>∀z m,k<m→AH (B n z) m (st i s)=out z (BX step fin i (l.drop i) s)
 |0,i,s,hi,hI=>by
  obtain rfl:i=l.length:=by omega
  refine (hend s hI).mono fun n h z m hm => ?_;obtain ⟨m,rfl⟩:∃q,m=q+1:=⟨m-1,by omega⟩
  show B n z _ _=_;rw [h];simp [BX]
 |k+1,i,s,hi,hI=>by
  have hlt:i<l.length:=by omega
  have hx:l[i]? = some l[i]:=zO hlt;have hd:l.drop i=l[i]::l.drop (i+1):=List.drop_eq_getElem_cons hlt;cases hs:step i s l[i] with
  |next s'=>
   have ih:=PY l st step fin out Inv hstep hinv hend k (i+1) s' (by omega) (hinv i s _ s' hx hI hs);refine ((hstep i s _ hx hI).and ih).mono fun n h z m hm => ?_;obtain ⟨m,rfl⟩:∃q,m=q+1:=⟨m-1,by omega⟩
   show B n z _ (AH (B n z) m)=_;rw [h.1,hs,hd];simp only [Rd.AR,BX,hs];exact h.2 z m (by omega)
  |done r=>
   refine (hstep i s _ hx hI).mono fun n h z m hm => ?_;obtain ⟨m,rfl⟩:∃q,m=q+1:=⟨m-1,by omega⟩
   show B n z _ (AH (B n z) m)=_;rw [h,hs,hd];simp only [Rd.Aj,BX,hs]
theorem Sb {Z Q:Type} {B:Nat→Z→S→(S→Option R)→Option R} (l:List α) (st:Nat→σ→S) (step:Nat→σ→α→Rd σ Q) (fin:σ→Q) (out:Z→Q→Option R) (Inv:Nat→σ→Prop) (s0:σ) (h0:Inv 0 s0)
  (hstep:∀i s x,l[i]? = some x→Inv i s→Ev fun n=>∀z again,B n z (st i s) again=(step i s x).go (fun s'=>again (st (i+1) s')) (out z))
  (hinv:∀i s x s',l[i]? = some x→Inv i s→step i s x = .next s'→Inv (i+1) s')
  (hend:∀s,Inv l.length s→Ev fun n=>∀z again,B n z (st l.length s) again=out z (fin s)) :
  Ev fun n=>∀z,AH (B n z) n (st 0 s0)=out z (BX step fin 0 l s0):=by
 have h:=PY l st step fin out Inv hstep hinv hend l.length 0 s0 (by omega) h0;refine (h.and (Ev.ge (l.length+1))).mono fun n x z => ?_;have:=x.1 z n (by omega);simpa using this
theorem Mo {Z Q:Type} {B:Nat→Z→S→(S→Option R)→Option R} (st:σ→S) (step:σ→Rd σ Q) (out:Z→Q→Option R) (Inv:σ→Prop) (μ:σ→Nat)
  (hstep:∀s,Inv s→Ev fun n=>∀z again,B n z (st s) again=(step s).go (fun s'=>again (st s')) (out z))
  (hinv:∀s s',Inv s→step s = .next s'→Inv s'∧μ s'<μ s) (res:σ→Q) (hres:∀s,Inv s→res s=(step s).fin res) :
  ∀(k:Nat) (s:σ),μ s≤k→Inv s→Ev fun n=>∀z m,k<m→AH (B n z) m (st s)=out z (res s)
 |k,s,hk,hI=>by
  cases hs:step s with
  |next s'=>
   obtain ⟨h1,h2⟩:=hinv s s' hI hs;obtain ⟨k,rfl⟩:∃q,k=q+1:=⟨k-1,by omega⟩
   have ih:=Mo st step out Inv μ hstep hinv res hres k s' (by omega) h1;refine ((hstep s hI).and ih).mono fun n h z m hm => ?_;obtain ⟨m,rfl⟩:∃q,m=q+1:=⟨m-1,by omega⟩
   show B n z _ (AH (B n z) m)=_;rw [h.1,hs,Rd.AR,hres s hI,hs];show _=out z (res s');exact h.2 z m (by omega)
  |done r=>
   refine (hstep s hI).mono fun n h z m hm => ?_;obtain ⟨m,rfl⟩:∃q,m=q+1:=⟨m-1,by omega⟩
   show B n z _ (AH (B n z) m)=_;rw [h,hs,Rd.Aj,hres s hI,hs];rfl
theorem WY {Z Q:Type} {B:Nat→Z→S→(S→Option R)→Option R} (st:σ→S) (step:σ→Rd σ Q) (out:Z→Q→Option R) (Inv:σ→Prop) (μ:σ→Nat) (s0:σ) (h0:Inv s0)
  (hstep:∀s,Inv s→Ev fun n=>∀z again,B n z (st s) again=(step s).go (fun s'=>again (st s')) (out z))
  (hinv:∀s s',Inv s→step s = .next s'→Inv s'∧μ s'<μ s) (res:σ→Q) (hres:∀s,Inv s→res s=(step s).fin res) :
  Ev fun n=>∀z,AH (B n z) n (st s0)=out z (res s0):=by
 have h:=Mo st step out Inv μ hstep hinv res hres (μ s0) s0 (le_refl _) h0;exact (h.and (Ev.ge (μ s0+1))).mono fun n x z=>x.1 z n (by omega)
theorem Fj {Z Q:Type} {B:Nat→Z→S→(S→Option R)→Option R} {s:S} {r:Q} (l:List α) (st:Nat→σ→S) (step:Nat→σ→α→Rd σ Q) (fin:σ→Q) (out:Z→Q→Option R) (Inv:Nat→σ→Prop) (s0:σ) (hs:s=st 0 s0) (h0:Inv 0 s0) (hr:BX step fin 0 l s0=r)
  (hstep:∀i s x,l[i]? = some x→Inv i s→Ev fun n=>∀z again,B n z (st i s) again=(step i s x).go (fun s'=>again (st (i+1) s')) (out z))
  (hinv:∀i s x s',l[i]? = some x→Inv i s→step i s x = .next s'→Inv (i+1) s')
  (hend:∀s,Inv l.length s→Ev fun n=>∀z again,B n z (st l.length s) again=out z (fin s)) :
  Ev fun n=>∀z,AH (B n z) n s=out z r:=by
 subst hs;subst hr;exact Sb l st step fin out Inv s0 h0 hstep hinv hend
theorem Sm {i:Decidable True} (a b:Option R):cnd True a b=a:=BD trivial a b
theorem Pu {i:Decidable False} (a b:Option R):cnd False a b=b:=DR id a b
theorem wrap64 (x:Int):IntKind.wrap .i64 x=(x+9223372036854775808) % 18446744073709551616-9223372036854775808:=by simp only [IntKind.wrap,IntKind.signed,IntKind.bits];simp;omega
theorem wrap_id {x:Int} (h1 : -9223372036854775808≤x) (h2:x<9223372036854775808):IntKind.wrap .i64 x=x:=by rw [wrap64];omega
abbrev tI (n:Int):Tree :=.int .i64 n
abbrev w64 (n:Int):Int:=IntKind.wrap .i64 n
def vI (p:List AV×Heap) (k:Nat):Int:=intOf (AE (p.1.getD k .undef))
def vB (p:List AV×Heap) (k:Nat):Bool:=BF (AE (p.1.getD k .undef))
def vS (p:List AV×Heap) (k:Nat):ByteArray:=strOf (AE (p.1.getD k .undef))
def vL (p:List AV×Heap) (k:Nat):List (List Tree):=B8 (AE (p.1.getD k .undef))
def A0 (p:List AV×Heap) (k:Nat):Nat:=E3 (p.1.getD k .undef)
def Bu (p:List AV×Heap) (k:Nat):Nat:=HS (p.1.getD k .undef)
def Ah (p:List AV×Heap) (k:Nat):Nat:=HT (p.1.getD k .undef)
def AD (p:List AV×Heap) (k:Nat):Nat:=AI.ver (p.2.getD k default)
def oEs (p:List AV×Heap) (k:Nat):List (List Tree):=Be (p.2.getD k default)
def cI (p:List AV×Heap) (k j:Nat):Int:=intOf (AE (cellOf (p.2.getD k default) j))
def cB (p:List AV×Heap) (k j:Nat):Bool:=BF (AE (cellOf (p.2.getD k default) j))
def cS (p:List AV×Heap) (k j:Nat):ByteArray:=strOf (AE (cellOf (p.2.getD k default) j))
def cL (p:List AV×Heap) (k j:Nat):List (List Tree):=B8 (AE (cellOf (p.2.getD k default) j))
def AL (p:List AV×Heap) (k j:Nat):Nat:=E3 (cellOf (p.2.getD k default) j)
def AP (p:List AV×Heap) (k j:Nat):Nat:=HS (cellOf (p.2.getD k default) j)
def AJ (p:List AV×Heap) (k j:Nat):Nat:=HT (cellOf (p.2.getD k default) j)
def aI (p:List AV×Heap) (k j:Nat):Int:=intOf (AE (cellOf (.box (Dj (p.1.getD k .undef))) j))
def aB (p:List AV×Heap) (k j:Nat):Bool:=BF (AE (cellOf (.box (Dj (p.1.getD k .undef))) j))
def aS (p:List AV×Heap) (k j:Nat):ByteArray:=strOf (AE (cellOf (.box (Dj (p.1.getD k .undef))) j))
def aL (p:List AV×Heap) (k j:Nat):List (List Tree):=B8 (AE (cellOf (.box (Dj (p.1.getD k .undef))) j))
def gI (y:List Tree) (k:Nat):Int:=intOf (y.getD k default)
def gB (y:List Tree) (k:Nat):Bool:=BF (y.getD k default)
def gS (y:List Tree) (k:Nat):ByteArray:=strOf (y.getD k default)
def gL (y:List Tree) (k:Nat):List (List Tree):=B8 (y.getD k default)
def okI (y:List Tree) (k:Nat):Prop:=FD .i64 (y.getD k default)=true
def okB (y:List Tree) (k:Nat):Prop:=Dz (y.getD k default)=true
def okS (y:List Tree) (k:Nat):Prop:=FB (y.getD k default)=true
def okL (z:Nat) (y:List Tree) (k:Nat):Prop:=FI z (y.getD k default)=true
instance (y:List Tree) (k:Nat):Decidable (okI y k):=inferInstanceAs (Decidable (_=true))
instance (y:List Tree) (k:Nat):Decidable (okB y k):=inferInstanceAs (Decidable (_=true))
instance (y:List Tree) (k:Nat):Decidable (okS y k):=inferInstanceAs (Decidable (_=true))
instance (z:Nat) (y:List Tree) (k:Nat):Decidable (okL z y k):=inferInstanceAs (Decidable (_=true))
theorem AT {i:Nat} (h:i<4611686018427387904):w64 ((i:Int)+1)=((i+1:Nat):Int):=by show IntKind.wrap .i64 _=_;rw [wrap64];omega
theorem Hj {i:Nat} (h:i<4611686018427387904) (h0:0<i):w64 ((i:Int)-1)=((i-1:Nat):Int):=by show IntKind.wrap .i64 _=_;rw [wrap64];omega
theorem AM {x:Int} (h1 : -9223372036854775808≤x) (h2:x<9223372036854775808):w64 x=x:=wrap_id h1 h2
theorem CL {Q:Type} (f:σ→α→σ) (fin:σ→Q):∀(i:Nat) (l:List α) (s:σ),BX (fun _ s x =>.next (f s x)) fin i l s=fin (l.foldl f s)
 |_,[],_=>rfl
 |i,x::l,s=>by show BX (fun _ s x =>.next (f s x)) fin (i+1) l (f s x)=_;rw [CL f fin (i+1) l];rfl
theorem AN {l:List α} {i:Nat} {x:α} (h:l[i]? = some x):i<l.length:=(List.getElem?_eq_some_iff.1 h).1
theorem Ff (c:Prop) [Decidable c] (a b:Bool):cnd c (some [Tree.bool a]) (some [Tree.bool b])=some [Tree.bool (if c then a else b)]:=by rw [AB];split<;>rfl
theorem AZ {Q:Type} {B:Nat→S→(S→Option R)→Option R} {s:S} (out:Q→R) (l:List α) (st:Nat→σ→S) (step:Nat→σ→α→Rd σ Q) (fin:σ→Q) (Inv:Nat→σ→Prop) (s0:σ) (hs:s=st 0 s0) (h0:Inv 0 s0) {r:Q} (hr:BX step fin 0 l s0=r)
  (hstep:∀i s x,l[i]? = some x→Inv i s→Ev fun n=>∀again,B n (st i s) again=(step i s x).go (fun s'=>again (st (i+1) s')) (fun q=>some (out q)))
  (hinv:∀i s x s',l[i]? = some x→Inv i s→step i s x = .next s'→Inv (i+1) s')
  (hend:∀s,Inv l.length s→Ev fun n=>∀again,B n (st l.length s) again=some (out (fin s))) :
  Ev fun n=>AH (B n) n s=some (out r):=by
 subst hs;subst hr;exact (Sb (Z:=Unit) (B:=fun n _=>B n) l st step fin (fun _ q=>some (out q)) Inv s0 h0 (fun i s x hx hI=>(hstep i s x hx hI).mono fun n h _=>h) hinv fun s hI=>(hend s hI).mono fun n h _=>h).mono fun n h=>h ()
theorem B6 {Z Q:Type} {B:Nat→Z→S→(S→Option R)→Option R} {s:S} {r:Q} (out:Z→Q→Option R) (st:σ→S) (step:σ→Rd σ Q) (Inv:σ→Prop) (μ:σ→Nat) (res:σ→Q) (s0:σ) (hs:s=st s0) (h0:Inv s0) (hr:res s0=r)
  (hstep:∀s,Inv s→Ev fun n=>∀z again,B n z (st s) again=(step s).go (fun s'=>again (st s')) (out z))
  (hinv:∀s s',Inv s→step s = .next s'→Inv s'∧μ s'<μ s) (hres:∀s,Inv s→res s=(step s).fin res) :
  Ev fun n=>∀z,AH (B n z) n s=out z r:=by
 subst hs;subst hr;exact WY st step out Inv μ s0 h0 hstep hinv res hres
theorem Fy {Q:Type} {B:Nat→S→(S→Option R)→Option R} {s:S} {r:Q} (out:Q→R) (st:σ→S) (step:σ→Rd σ Q) (Inv:σ→Prop) (μ:σ→Nat) (res:σ→Q) (s0:σ) (hs:s=st s0) (h0:Inv s0) (hr:res s0=r)
  (hstep:∀s,Inv s→Ev fun n=>∀again,B n (st s) again=(step s).go (fun s'=>again (st s')) (fun q=>some (out q)))
  (hinv:∀s s',Inv s→step s = .next s'→Inv s'∧μ s'<μ s) (hres:∀s,Inv s→res s=(step s).fin res) :
  Ev fun n=>AH (B n) n s=some (out r):=
 (B6 (Z:=Unit) (B:=fun n _=>B n) (fun _ q=>some (out q)) st step Inv μ res s0 hs h0 hr (fun s hI=>(hstep s hI).mono fun n h _=>h) hinv hres).mono fun n h=>h ()
theorem ND (p:α→Bool):∀(i:Nat) (l:List α),BX (fun _ (_:Unit) x=>if p x=true then .done true else .next ()) (fun _=>false) i l ()=l.any p
 |_,[]=>rfl
 |i,x::l=>by
  by_cases h:p x=true
  ·simp [BX,h]
  ·simp only [BX,h,List.any_cons];simp at h;simp [ND p (i+1) l]
theorem Rp {Q:Type} (p:α→Bool) (a b:Q):∀(i:Nat) (l:List α),BX (fun _ (_:Unit) x=>if p x=true then .next () else .done a) (fun _=>b) i l ()=if l.all p=true then b else a
 |_,[]=>rfl
 |i,x::l=>by
  by_cases h:p x=true
  ·simp [BX,h,Rp p a b (i+1) l]
  ·simp [BX,h]
def IJ [DecidableEq α] (b:List α) (i:Nat) (_:Unit) (x:α):Rd Unit Bool:=if b[i]? = some x then .next () else .done false
theorem Qr [DecidableEq α] (b:List α):∀(a:List α) (i:Nat),i+a.length=b.length→BX (IJ b) (fun _=>true) i a ()=decide (a=b.drop i)
 |[],i,h=>by have:b.drop i=[]:=List.drop_eq_nil_of_le (by simp at h;omega);simp [BX,this]
 |x::a,i,h=>by
  have hi:i<b.length:=by simp at h;omega
  have hd:b.drop i=b[i]::b.drop (i+1):=List.drop_eq_getElem_cons hi;have hb:b[i]? = some b[i]:=zO hi;have ih:=Qr b a (i+1) (by simp at h;omega);simp only [BX,IJ,hb,hd];by_cases hx:b[i]=x
  ·simp only [hx,if_true];exact ih.trans (by simp)
  ·have hx2:¬x=b[i]:=fun e=>hx e.symm;simp only [Option.some.injEq,hx,if_false,List.cons.injEq,hx2,false_and,decide_false]
theorem vI_mk (e:List AV) (h:Heap) (k:Nat):vI (e,h) k=intOf (AE (e.getD k .undef)):=id rfl
theorem O4 (e:List AV) (h:Heap) (k:Nat):vB (e,h) k=BF (AE (e.getD k .undef)):=id rfl
theorem vS_mk (e:List AV) (h:Heap) (k:Nat):vS (e,h) k=strOf (AE (e.getD k .undef)):=id rfl
theorem vL_mk (e:List AV) (h:Heap) (k:Nat):vL (e,h) k=B8 (AE (e.getD k .undef)):=id rfl
theorem Ut (e:List AV) (h:Heap) (k:Nat):A0 (e,h) k=E3 (e.getD k .undef):=id rfl
theorem Uu (e:List AV) (h:Heap) (k:Nat):Bu (e,h) k=HS (e.getD k .undef):=id rfl
theorem Uv (e:List AV) (h:Heap) (k:Nat):Ah (e,h) k=HT (e.getD k .undef):=id rfl
theorem oVer_mk (e:List AV) (h:Heap) (k:Nat):AD (e,h) k=AI.ver (h.getD k default):=id rfl
theorem oEs_mk (e:List AV) (h:Heap) (k:Nat):oEs (e,h) k=Be (h.getD k default):=id rfl
theorem cI_mk (e:List AV) (h:Heap) (k j:Nat):cI (e,h) k j=intOf (AE (cellOf (h.getD k default) j)):=id rfl
theorem cB_mk (e:List AV) (h:Heap) (k j:Nat):cB (e,h) k j=BF (AE (cellOf (h.getD k default) j)):=id rfl
theorem cS_mk (e:List AV) (h:Heap) (k j:Nat):cS (e,h) k j=strOf (AE (cellOf (h.getD k default) j)):=id rfl
theorem cL_mk (e:List AV) (h:Heap) (k j:Nat):cL (e,h) k j=B8 (AE (cellOf (h.getD k default) j)):=id rfl
theorem cVer_mk (e:List AV) (h:Heap) (k j:Nat):AL (e,h) k j=E3 (cellOf (h.getD k default) j):=id rfl
theorem cOff_mk (e:List AV) (h:Heap) (k j:Nat):AP (e,h) k j=HS (cellOf (h.getD k default) j):=id rfl
theorem cLen_mk (e:List AV) (h:Heap) (k j:Nat):AJ (e,h) k j=HT (cellOf (h.getD k default) j):=id rfl
theorem aI_mk (e:List AV) (h:Heap) (k j:Nat):aI (e,h) k j=intOf (AE ((Dj (e.getD k .undef)).getD j .undef)):=id rfl
theorem aB_mk (e:List AV) (h:Heap) (k j:Nat):aB (e,h) k j=BF (AE ((Dj (e.getD k .undef)).getD j .undef)):=id rfl
theorem aS_mk (e:List AV) (h:Heap) (k j:Nat):aS (e,h) k j=strOf (AE ((Dj (e.getD k .undef)).getD j .undef)):=id rfl
theorem aL_mk (e:List AV) (h:Heap) (k j:Nat):aL (e,h) k j=B8 (AE ((Dj (e.getD k .undef)).getD j .undef)):=id rfl
theorem P9 (cs:List AV):Dj (.agg cs)=cs:=id rfl
theorem join_eq {S:Type} (J:S→Option R) (f:(S→Option R)→Option R):join J f=f J:=id rfl
theorem VU (x:Tree) (l:List Tree):gI (x::l) 0=intOf x:=id rfl
theorem VV (x:Tree) (l:List Tree) (k:Nat):gI (x::l) (k+1)=gI l k:=id rfl
theorem VW (x:Tree) (l:List Tree):gB (x::l) 0=BF x:=id rfl
theorem VX (x:Tree) (l:List Tree) (k:Nat):gB (x::l) (k+1)=gB l k:=id rfl
theorem VQ (x:Tree) (l:List Tree):gS (x::l) 0=strOf x:=id rfl
theorem VR (x:Tree) (l:List Tree) (k:Nat):gS (x::l) (k+1)=gS l k:=id rfl
theorem VS (x:Tree) (l:List Tree):gL (x::l) 0=B8 x:=id rfl
theorem VT (x:Tree) (l:List Tree) (k:Nat):gL (x::l) (k+1)=gL l k:=id rfl
theorem SA (x:Tree) (l:List Tree):okI (x::l) 0=(FD .i64 x=true):=id rfl
theorem SB (x:Tree) (l:List Tree) (k:Nat):okI (x::l) (k+1)=okI l k:=id rfl
theorem SC (x:Tree) (l:List Tree):okB (x::l) 0=(Dz x=true):=id rfl
theorem SD (x:Tree) (l:List Tree) (k:Nat):okB (x::l) (k+1)=okB l k:=id rfl
theorem R6 (x:Tree) (l:List Tree):okS (x::l) 0=(FB x=true):=id rfl
theorem R7 (x:Tree) (l:List Tree) (k:Nat):okS (x::l) (k+1)=okS l k:=id rfl
theorem R8 (z:Nat) (x:Tree) (l:List Tree):okL z (x::l) 0=(FI z x=true):=id rfl
theorem R9 (z:Nat) (x:Tree) (l:List Tree) (k:Nat):okL z (x::l) (k+1)=okL z l k:=id rfl
theorem Nl (k:IntKind) (n:Int):FD k (.int k n)=true:=decide_eq_true rfl
theorem KV (b:Bool):Dz (.bool b)=true:=id rfl
theorem Nk (b:ByteArray):FB (.str b)=true:=id rfl
theorem SO (z:Nat) (es:List (List Tree)):FI z (.sl z es)=true:=by simp [FI]
theorem intOf_int (k:IntKind) (n:Int):intOf (.int k n)=n:=id rfl
theorem MR (b:Bool):BF (.bool b)=b:=id rfl
theorem PC (b:ByteArray):strOf (.str b)=b:=id rfl
theorem Uo (z:Nat) (es:List (List Tree)):B8 (.sl z es)=es:=id rfl
theorem Rc (x:Tree):AE (.t x)=x:=id rfl
theorem M3 (i v o l:Nat):E3 (.sref i v o l)=v:=id rfl
theorem M4 (i v k o:Nat):E3 (.rptr i v k o)=v:=id rfl
theorem M5 (i v o l:Nat):HS (.sref i v o l)=o:=id rfl
theorem M6 (i v o l:Nat):HT (.sref i v o l)=l:=id rfl
theorem Ju (f:Bool) (v z:Nat) (es:List (List Tree)):AI.ver (.row f v z es)=v:=id rfl
theorem II (f:Bool) (v z:Nat) (es:List (List Tree)):Be (.row f v z es)=es:=id rfl
theorem N9 (cs:List AV) (j:Nat):cellOf (.box cs) j=cs.getD j .undef:=id rfl
end Ab
namespace Ab
open Go
variable {R S α σ Q:Type}
theorem Pk {α:Type} {p:Nat→Prop} (h:Ev p):Ev fun n=>∀_:α,p n:=h.mono fun n x _=>x
theorem wrapU64 (x:Int):IntKind.wrap .u64 x=x % 18446744073709551616:=by simp only [IntKind.wrap,IntKind.signed,IntKind.bits];simp
theorem halfU (a b:Nat) (h:a+b<4611686018427387904):w64 (QQ .u64 (IntKind.wrap .u64 (w64 ((a:Int)+(b:Int)))) 1)=(((a+b) / 2:Nat):Int):=by
 have e1:IntKind.wrap .u64 (w64 ((a:Int)+(b:Int)))=((a+b:Nat):Int):=by rw [AM (by omega) (by omega),wrapU64];omega
 have e2:QQ .u64 ((a+b:Nat):Int) 1=(((a+b) / 2:Nat):Int):=by show Int.fdiv ((a+b:Nat):Int) (2 ^ min (wH 1) (IntKind.bits .u64))=_;rw [show (2:Int) ^ min (wH 1) (IntKind.bits .u64)=2 from rfl,Int.fdiv_eq_ediv_of_nonneg _ (by omega)];omega
 rw [e1,e2,AM (by omega) (by omega)]
def Lk (lt:α→Bool) (l:List α) (fin:Nat→Q) (s:Nat×Nat):Rd (Nat×Nat) Q:=
 if s.1<s.2 then match l[(s.1+s.2) / 2]? with
  |some x=>if lt x=true then .next ((s.1+s.2) / 2+1,s.2) else .next (s.1,(s.1+s.2) / 2)
  |none =>.next (s.2,s.2)
 else .done (fin s.1)
def BsInv (lt:α→Bool) (l:List α) (s:Nat×Nat):Prop:=s.1≤s.2∧s.2≤l.length∧(∀(j:Nat) x,j<s.1→l[j]? = some x→lt x=true)∧∀(j:Nat) x,s.2≤j→l[j]? = some x→lt x=false
theorem Pt {lt:α→Bool} {l:List α} {k:Nat} (hk:k≤l.length) (h1:∀(j:Nat) x,j<k→l[j]? = some x→lt x=true) (h2:∀(j:Nat) x,k≤j→l[j]? = some x→lt x=false):k=l.countP lt:=by
 conv=>rhs;rw [← List.take_append_drop k l]
 rw [List.countP_append,List.countP_eq_length.2,List.countP_eq_zero.2]
 ·simp;omega
 ·intro x hx;obtain ⟨j,hj⟩:=List.mem_iff_getElem?.1 hx;rw [getElem?_drop] at hj;simp [h2 _ _ (by omega) hj]
 ·intro x hx;obtain ⟨j,hj⟩:=List.mem_iff_getElem?.1 hx;have hjk:j<k:=by have:=AN hj;simp at this;omega
  rw [getElem?_take_of_lt hjk] at hj;exact h1 _ _ hjk hj
def Down (lt:α→Bool) (l:List α):Prop:=∀(i j:Nat) x y,i≤j→l[i]? = some x→l[j]? = some y→lt y=true→lt x=true
theorem Yy {Z:Type} {B:Nat→Z→S→(S→Option R)→Option R} {s:S} (out:Z→Q→Option R) (lt:α→Bool) (l:List α) (fin:Nat→Q) (st:Nat×Nat→S) (hd:Down lt l) (hs:s=st (0,l.length))
  (hstep:∀s,s.1≤s.2→s.2≤l.length→(¬s.1<s.2→s.1=l.countP lt)→Ev fun n=>∀z again,B n z (st s) again=(Lk lt l fin s).go (fun s'=>again (st s')) (out z)) :
  Ev fun n=>∀z,AH (B n z) n s=out z (fin (l.countP lt)):=by
 refine B6 (r:=fin (l.countP lt)) out st (Lk lt l fin) (BsInv lt l) (fun s=>s.2-s.1) (fun _=>fin (l.countP lt)) (0,l.length) hs ⟨by simp,by simp,fun j x h=>by simp at h,fun j x h hx=>by have:=AN hx;simp at h;omega⟩ rfl
  (fun s hI=>hstep s hI.1 hI.2.1 fun hn => ?_) (fun s s' hI hs' => ?_) (fun s hI => ?_)
 ·obtain ⟨a,b⟩:=s;obtain ⟨i1,i2,i3,i4⟩:=hI;simp only at i1 i2 i3 i4 hn ⊢;obtain rfl:a=b:=by omega
  exact Pt i2 i3 i4
 ·obtain ⟨a,b⟩:=s;obtain ⟨i1,i2,i3,i4⟩:=hI;simp only at i1 i2 i3 i4;unfold Lk at hs';simp only at hs';split at hs'
  ·rename_i hab;split at hs'
   ·rename_i x hx;split at hs'
    ·rename_i hxe;cases hs';refine ⟨⟨by simp only;omega,i2,fun j y hj hy => ?_,i4⟩,by simp only;omega⟩;simp only at hj;exact hd j ((a+b) / 2) y x (by omega) hy hx hxe
    ·rename_i hxe;cases hs';refine ⟨⟨by simp only;omega,by simp only;omega,i3,fun j y hj hy => ?_⟩,by simp only;omega⟩;simp only at hj;cases hye:lt y with
     |false=>rfl
     |true=>exact absurd (hd ((a+b) / 2) j x y hj hx hy hye) hxe
   ·rename_i hx;rw [zO (by omega)] at hx;cases hx
  ·cases hs'
 ·obtain ⟨a,b⟩:=s;obtain ⟨i1,i2,i3,i4⟩:=hI;simp only at i1 i2 i3 i4;unfold Lk;simp only;split
  ·split
   ·split<;>rfl
   ·rfl
  ·obtain rfl:a=b:=by omega
   simp only [Rd.fin];rw [← Pt i2 i3 i4]
theorem MP {lt:α→Bool}:∀{l:List α},Down lt l→l.take (l.countP lt)=l.takeWhile lt∧l.drop (l.countP lt)=l.dropWhile lt
 |[],_=>⟨rfl,rfl⟩
 |x::l,hd=>by
  have hd':Down lt l:=fun i j a b hij ha hb h=>hd (i+1) (j+1) a b (by omega) (by simpa using ha) (by simpa using hb) h;obtain ⟨h1,h2⟩:=MP hd';cases hx:lt x with
  |true=>simp [hx,h1,h2]
  |false=>
   have hz:l.countP lt=0:=by rw [List.countP_eq_zero];intro y hy hly;obtain ⟨j,hj⟩:=List.mem_iff_getElem?.1 hy;have:=hd 0 (j+1) x y (by omega) rfl (by simpa using hj) hly;rw [hx] at this;cases this
   simp [hx,hz]
def GX (g:α→Bool) (b:α):List α→List α
 |[]=>[b]
 |x::l=>if g x=true then b::x::l else x::GX g b l
theorem VK (g:α→Bool) (b:α):∀(l:List α),GX g b l=l.takeWhile (fun x => !g x)++b::l.dropWhile (fun x => !g x)
 |[]=>rfl
 |x::l=>by
  unfold GX;cases h:g x with
  |true=>simp [h]
  |false=>simp [h,VK g b l]
theorem Np (g:α→Bool) (b:α):∀(l:List α) (x:α),x∈GX g b l↔x=b∨x∈l
 |[],x=>by simp [GX]
 |y::l,x=>by
  unfold GX;split
  ·simp
  ·rw [xP,Np g b l,xP];constructor
   ·rintro (h|h|h)
    ·exact .inr (.inl h)
    ·exact .inl h
    ·exact .inr (.inr h)
   ·rintro (h|h|h)
    ·exact .inr (.inl h)
    ·exact .inl h
    ·exact .inr (.inr h)
theorem SS (g:α→Bool) (b:α):∀(l:List α),(GX g b l).length=l.length+1
 |[]=>rfl
 |y::l=>by
  unfold GX;split
  ·simp
  ·simp [SS g b l]
theorem JK {Rl:α→α→Prop} {g:α→Bool} {b:α}:∀{l:List α},l.Pairwise Rl→(∀x∈l,g x=true→Rl b x)→(∀x∈l,g x=false→Rl x b)→(∀x∈l,∀y∈l,Rl x y→g x=true→g y=true)→(GX g b l).Pairwise Rl
 |[],_,_,_,_=>by simp [GX]
 |x::l,hp,h1,h2,h3=>by
  rw [wC] at hp;unfold GX;split
  ·rename_i hg;rw [wC];refine ⟨fun y hy => ?_,wC.2 hp⟩;rcases xP.1 hy with rfl|hm
   ·exact h1 _ (by simp) hg
   ·exact h1 y hy (h3 x (by simp) y hy (hp.1 y hm) hg)
  ·rename_i hg;rw [wC];refine ⟨fun y hy => ?_,JK hp.2 (fun y hy=>h1 y (by simp [hy])) (fun y hy=>h2 y (by simp [hy])) fun y hy z hz=>h3 y (by simp [hy]) z (by simp [hz])⟩;rcases (Np g b l y).1 hy with rfl|hy
   ·exact h2 x (by simp) (by simpa using hg)
   ·exact hp.1 y hy
def EK (g:α→Bool) (b:α) (s:Nat×List α×Bool) (x:α):Nat×List α×Bool:=if s.2.2=false∧g x=true then (s.1+2,s.2.1++[b,x],true) else (s.1+1,s.2.1++[x],s.2.2)
def LW (b:α) (s:Nat×List α×Bool):List α:=if s.2.2=false then s.2.1++[b] else s.2.1
theorem MJ (g:α→Bool) (b:α):∀(l:List α) (v:Nat) (out:List α),(l.foldl (EK g b) (v,out,true)).2=(out++l,true)
 |[],v,out=>by simp
 |x::l,v,out=>by rw [foldl_cons,show EK g b (v,out,true) x=(v+1,out++[x],true) by simp [EK],MJ g b l];simp
theorem MI (g:α→Bool) (b:α):∀(l:List α) (v:Nat) (out:List α),LW b (l.foldl (EK g b) (v,out,false))=out++GX g b l
 |[],v,out=>by simp [LW,GX]
 |x::l,v,out=>by
  rw [foldl_cons];by_cases h:g x=true
  ·rw [show EK g b (v,out,false) x=(v+2,out++[b,x],true) by simp [EK,h],LW,MJ];simp [GX,h]
  ·rw [show EK g b (v,out,false) x=(v+1,out++[x],false) by simp [EK,h],MI g b l];simp [GX,h]
theorem To (g:α→Bool) (b:α) (s:Nat×List α×Bool) (x:α) {k:Nat} (h:s.2.1.length≤2*k):(EK g b s x).2.1.length≤2*(k+1):=by unfold EK;split<;>simp<;>omega
theorem SW (p:α→Bool):∀(l:List α) (i:Nat),BX (fun i (_:Unit) (x:α)=>if p x=true then .done (i:Int) else .next ()) (fun _=>(-1:Int)) i l ()=((l.findIdx? p).map fun j=>((i+j:Nat):Int)).getD (-1)
 |[],i=>rfl
 |x::l,i=>by
  cases hx:p x with
  |true=>simp [BX,hx,List.findIdx?_cons]
  |false=>
   simp only [BX,hx,List.findIdx?_cons];have:=SW p l (i+1);simp only [zD,if_false] at this ⊢;rw [this,Option.map_map];congr 2;funext j;simp only [Function.comp_apply];omega
def idx (p:α→Bool) (l:List α):Int:=((l.findIdx? p).map fun j=>((j:Nat):Int)).getD (-1)
theorem WX (p:α→Bool) (l:List α):BX (fun i (_:Unit) (x:α)=>if p x=true then .done (i:Int) else .next ()) (fun _=>(-1:Int)) 0 l ()=idx p l:=by have:=SW p l 0;simpa [idx] using this
theorem Tp (p:α→Bool) (l:List α):0≤idx p l↔l.any p=true:=by
 unfold idx;cases h:l.findIdx? p with
 |none=>
  rw [List.findIdx?_eq_none_iff] at h;simp only [wL,getD_none];constructor
  ·intro h;omega
  ·intro h2;rw [any_eq_true] at h2;obtain ⟨x,hx,hp⟩:=h2;simp [h x hx] at hp
 |some j=>
  simp only [yT,Option.getD_some];rw [List.findIdx?_eq_some_iff_getElem] at h;obtain ⟨h1,h2,_⟩:=h;constructor
  ·intro _;rw [any_eq_true];exact ⟨_,wI h1,h2⟩
  ·intro _;omega
end Ab
namespace Ab
open Go
theorem vv :
  (∀(e:List AV) (h:Heap) (k:Nat),vI (e,h) k=intOf (AE (List.getD e k AV.undef)))∧
  (∀(e:List AV) (h:Heap) (k:Nat),vB (e,h) k=BF (AE (List.getD e k AV.undef)))∧
  (∀(e:List AV) (h:Heap) (k:Nat),vS (e,h) k=strOf (AE (List.getD e k AV.undef)))∧
  (∀(e:List AV) (h:Heap) (k:Nat),vL (e,h) k=B8 (AE (List.getD e k AV.undef)))∧
  (∀(e:List AV) (h:Heap) (k:Nat),A0 (e,h) k=E3 (List.getD e k AV.undef))∧
  (∀(e:List AV) (h:Heap) (k:Nat),Bu (e,h) k=HS (List.getD e k AV.undef))∧
  (∀(e:List AV) (h:Heap) (k:Nat),Ah (e,h) k=HT (List.getD e k AV.undef))∧
  (∀(e:List AV) (h:Heap) (k:Nat),AD (e,h) k=AI.ver (List.getD h k default))∧
  (∀(e:List AV) (h:Heap) (k:Nat),oEs (e,h) k=Be (List.getD h k default))∧
  (∀(e:List AV) (h:Heap) (k j:Nat),cI (e,h) k j=intOf (AE (cellOf (List.getD h k default) j)))∧
  (∀(e:List AV) (h:Heap) (k j:Nat),cB (e,h) k j=BF (AE (cellOf (List.getD h k default) j)))∧
  (∀(e:List AV) (h:Heap) (k j:Nat),cS (e,h) k j=strOf (AE (cellOf (List.getD h k default) j)))∧
  (∀(e:List AV) (h:Heap) (k j:Nat),cL (e,h) k j=B8 (AE (cellOf (List.getD h k default) j)))∧
  (∀(e:List AV) (h:Heap) (k j:Nat),AL (e,h) k j=E3 (cellOf (List.getD h k default) j))∧
  (∀(e:List AV) (h:Heap) (k j:Nat),AP (e,h) k j=HS (cellOf (List.getD h k default) j))∧
  (∀(e:List AV) (h:Heap) (k j:Nat),AJ (e,h) k j=HT (cellOf (List.getD h k default) j))∧
  (∀(x:Tree) (l:List Tree),gI (x::l) (0:Nat)=intOf x)∧
  (∀(x:Tree) (l:List Tree) (k:Nat),gI (x::l) (k+(1:Nat))=gI l k)∧
  (∀(x:Tree) (l:List Tree),gB (x::l) (0:Nat)=BF x)∧
  (∀(x:Tree) (l:List Tree) (k:Nat),gB (x::l) (k+(1:Nat))=gB l k)∧
  (∀(x:Tree) (l:List Tree),gS (x::l) (0:Nat)=strOf x)∧
  (∀(x:Tree) (l:List Tree) (k:Nat),gS (x::l) (k+(1:Nat))=gS l k)∧
  (∀(x:Tree) (l:List Tree),gL (x::l) (0:Nat)=B8 x)∧
  (∀(x:Tree) (l:List Tree) (k:Nat),gL (x::l) (k+(1:Nat))=gL l k)∧
  (∀(x:Tree) (l:List Tree),okI (x::l) (0:Nat)=(FD IntKind.i64 x=true))∧
  (∀(x:Tree) (l:List Tree) (k:Nat),okI (x::l) (k+(1:Nat))=okI l k)∧
  (∀(x:Tree) (l:List Tree),okB (x::l) (0:Nat)=(Dz x=true))∧
  (∀(x:Tree) (l:List Tree) (k:Nat),okB (x::l) (k+(1:Nat))=okB l k)∧
  (∀(x:Tree) (l:List Tree),okS (x::l) (0:Nat)=(FB x=true))∧
  (∀(x:Tree) (l:List Tree) (k:Nat),okS (x::l) (k+(1:Nat))=okS l k)∧
  (∀(z:Nat) (x:Tree) (l:List Tree),okL z (x::l) (0:Nat)=(FI z x=true))∧
  (∀(z:Nat) (x:Tree) (l:List Tree) (k:Nat),okL z (x::l) (k+(1:Nat))=okL z l k)∧
  (∀(k:IntKind) (n:Int),FD k (Tree.int k n)=true)∧
  (∀(b:Bool),Dz (Tree.bool b)=true)∧
  (∀(b:ByteArray),FB (Tree.str b)=true)∧
  (∀(z:Nat) (es:List (List Tree)),FI z (Tree.sl z es)=true)∧
  (∀(k:IntKind) (n:Int),intOf (Tree.int k n)=n)∧
  (∀(b:Bool),BF (Tree.bool b)=b)∧
  (∀(b:ByteArray),strOf (Tree.str b)=b)∧
  (∀(z:Nat) (es:List (List Tree)),B8 (Tree.sl z es)=es)∧
  (∀(x:Tree),AE (AV.t x)=x)∧
  (∀(i v o l:Nat),E3 (AV.sref i v o l)=v)∧
  (∀(i v k o:Nat),E3 (AV.rptr i v k o)=v)∧
  (∀(i v o l:Nat),HS (AV.sref i v o l)=o)∧
  (∀(i v o l:Nat),HT (AV.sref i v o l)=l)∧
  (∀(f:Bool) (v z:Nat) (es:List (List Tree)),AI.ver (AI.row f v z es)=v)∧
  (∀(f:Bool) (v z:Nat) (es:List (List Tree)),Be (AI.row f v z es)=es)∧
  (∀(cs:List AV) (j:Nat),cellOf (AI.box cs) j=List.getD cs j AV.undef)∧
  (∀(e:List AV) (h:Heap) (k j:Nat),aI (e,h) k j=intOf (AE (List.getD (Dj (List.getD e k AV.undef)) j AV.undef)))∧
  (∀(e:List AV) (h:Heap) (k j:Nat),aB (e,h) k j=BF (AE (List.getD (Dj (List.getD e k AV.undef)) j AV.undef)))∧
  (∀(e:List AV) (h:Heap) (k j:Nat),aS (e,h) k j=strOf (AE (List.getD (Dj (List.getD e k AV.undef)) j AV.undef)))∧
  (∀(e:List AV) (h:Heap) (k j:Nat),aL (e,h) k j=B8 (AE (List.getD (Dj (List.getD e k AV.undef)) j AV.undef)))∧
  (∀(cs:List AV),Dj (AV.agg cs)=cs)∧
  (∀{R S:Type} (J:S→Option R) (f:(S→Option R)→Option R),join J f=f J)∧
  (∀{α:Type} {x:α} {xs:List α} {d:α},List.getD (x::xs) (0:Nat) d=x)∧
  (∀{α:Type} {x:α} {xs:List α} {n:Nat} {d:α},List.getD (x::xs) (n+(1:Nat)) d=List.getD xs n d)∧
  (∀(h:Decidable True),@decide True h=true)∧
  (∀(h:Decidable False),@decide False h=false)∧
  (∀{R:Type} {i:Decidable True} (a b:Option R),@cnd R True i a b=a)∧
  (∀{R:Type} {i:Decidable False} (a b:Option R),@cnd R False i a b=b)∧
  (∀(p:Prop),(True∧p)=p)∧
  (∀(p:Prop),(p∧True)=p)∧
  (∀(p:Prop),(False∧p)=False)∧
  (∀(p:Prop),(p∧False)=False)∧
  (∀{α β:Type} (a:α) (f:α→Option β),Option.bind (some a) f=f a)∧
  (∀{α β:Type} (f:α→Option β),Option.bind (none:Option α) f=none)∧
  (∀{α:Type} {a:α} {l:List α},length (a::l)=length l+(1:Nat))∧
  (∀{α:Type},length ([]:List α)=(0:Nat))∧
  (∀{α β:Type} {l:List α} (f:α→β),length (List.map f l)=length l)∧
  (∀{α β:Type} {f:α→β} {l:List α} {i:Nat},(List.map f l)[i]? = Option.map f l[i]?)∧
  (∀{α β:Type} (a:α) (f:α→β),Option.map f (some a)=some (f a))∧
  (∀{α β:Type} (f:α→β),Option.map f (none:Option α)=none)∧
  (∀(n:Nat),wH (n:Int)=n)∧
  (∀{α:Type} (a:α),(a=a)=True)∧
  (∀{α:Type} {x:Decidable True} (t e:α),@ite α True x t e=t)∧
  (∀{α:Type} {x:Decidable False} (t e:α),@ite α False x t e=e)∧
  (∀(n:Nat),(0:Nat)+n=n)∧
  (∀(n:Nat),(0:Int)≤(n:Int))∧
  (∀{α:Type} {l:List α},drop (0:Nat) l=l)∧
  (∀(p:Prop),(p∨True)=True)∧
  (∀(p:Prop),(True∨p)=True)∧
  (∀(p:Prop),(p∨False)=p)∧
  (∀(p:Prop),(False∨p)=p)∧
  ((!true)=false)∧
  ((!false)=true)∧
  ((false=true)=False)∧
  (∀{p:Prop} [inst:Decidable p],(decide p=true)=p)∧
  (∀{α:Type} [inst:LE α] {x y:α},x≥y↔y≤x)∧
  (∀{α:Type} [inst:LT α] {x y:α},x>y↔y<x):=
 ⟨@vI_mk,@O4,@vS_mk,@vL_mk,@Ut,@Uu,@Uv,@oVer_mk,@oEs_mk,@cI_mk,@cB_mk,@cS_mk,@cL_mk,@cVer_mk,@cOff_mk,@cLen_mk,@VU,@VV,@VW,@VX,@VQ,@VR,@VS,@VT,@SA,@SB,@SC,@SD,@R6,@R7,@R8,@R9,@Nl,@KV,@Nk,@SO,@intOf_int,@MR,@PC,@Uo,@Rc,@M3,@M4,@M5,@M6,@Ju,@II,@N9,@aI_mk,@aB_mk,@aS_mk,@aL_mk,@P9,@join_eq,@List.getD_cons_zero,@List.getD_cons_succ,@decide_true,@decide_false,@Sm,@Pu,@true_and,@and_true,@false_and,@and_false,@Option.bind_some,@bind_none,@zW,@zX,@length_map,@getElem?_map,@yT,@wL,@toNat_natCast,@eq_self,@if_true,@if_false,@yR,@Int.natCast_nonneg,@drop_zero,@or_true,@true_or,@or_false,@false_or,@Bool.not_true,@Bool.not_false,@zD,@decide_eq_true_eq,@ge_iff_le,@gt_iff_lt⟩
end Ab
namespace Ab
open Go
abbrev ST:=List AV×Heap
abbrev RT:=Option (List Tree)
abbrev KT:=ST→RT
abbrev TT:=List (List Tree)
abbrev B0:ByteArray:=ByteArray.mk #[]
def bk:List Nat→Nat→List Tree→RT→RT
 |[],_,_,b=>b
 |0::l,j,y,b=>cnd (okI y j) (bk l (j+1) y b) none
 |1::l,j,y,b=>cnd (okB y j) (bk l (j+1) y b) none
 |2::l,j,y,b=>cnd (okS y j) (bk l (j+1) y b) none
 |(z+3)::l,j,y,b=>cnd (okL z y j) (bk l (j+1) y b) none
def bd (l:List Nat) (x:RT) (k:List Tree→RT):RT:=Option.bind x fun y=>cnd (length y=length l) (bk l 0 y (k y)) none
def ct:List Nat→ST→Nat→Nat→List Tree→List Tree
 |[],_,_,_,t=>t
 |0::l,p,j,i,t=>tI (cI p j i)::ct l p j (i+1) t
 |1::l,p,j,i,t =>.bool (cB p j i)::ct l p j (i+1) t
 |2::l,p,j,i,t =>.str (cS p j i)::ct l p j (i+1) t
 |(z+3)::l,p,j,i,t =>.sl z (cL p j i)::ct l p j (i+1) t
def gt:List Nat→List Tree→Nat→List Tree→List Tree
 |[],_,_,t=>t
 |0::l,y,i,t=>tI (gI y i)::gt l y (i+1) t
 |1::l,y,i,t =>.bool (gB y i)::gt l y (i+1) t
 |2::l,y,i,t =>.str (gS y i)::gt l y (i+1) t
 |(z+3)::l,y,i,t =>.sl z (gL y i)::gt l y (i+1) t
def zt:List Nat→List Tree→List Tree
 |[],t=>t
 |0::l,t=>tI 0::zt l t
 |1::l,t =>.bool false::zt l t
 |2::l,t =>.str B0::zt l t
 |(z+3)::l,t =>.sl z []::zt l t
def tv:List Tree→List AV
 |[]=>[]
 |x::l =>.t x::tv l
def kS:List Nat:=[0,0,0,0,0,0,0,0,2,0,0,0,5,0,0]
def kT:List Nat:=[0,0,0,0,0,0,0,0,2,0,0,0,5,0,0,12]
def kG:List Nat:=[0,0,0,0,0,1,2,5]
def kO:List Nat:=[1,0,1,0,0,0,0,0]
theorem vf :
  (∀(l:List Nat) (x:RT) (k:List Tree→RT),bd l x k=Option.bind x fun y=>cnd (length y=length l) (bk l 0 y (k y)) none)∧
  (∀(j:Nat) (y:List Tree) (b:RT),bk [] j y b=b)∧
  (∀(l:List Nat) (j:Nat) (y:List Tree) (b:RT),bk (0::l) j y b=cnd (okI y j) (bk l (j+1) y b) none)∧
  (∀(l:List Nat) (j:Nat) (y:List Tree) (b:RT),bk (1::l) j y b=cnd (okB y j) (bk l (j+1) y b) none)∧
  (∀(l:List Nat) (j:Nat) (y:List Tree) (b:RT),bk (2::l) j y b=cnd (okS y j) (bk l (j+1) y b) none)∧
  (∀(l:List Nat) (j:Nat) (y:List Tree) (b:RT),bk (4::l) j y b=cnd (okL 1 y j) (bk l (j+1) y b) none)∧
  (∀(l:List Nat) (j:Nat) (y:List Tree) (b:RT),bk (5::l) j y b=cnd (okL 2 y j) (bk l (j+1) y b) none)∧
  (∀(l:List Nat) (j:Nat) (y:List Tree) (b:RT),bk (11::l) j y b=cnd (okL 8 y j) (bk l (j+1) y b) none)∧
  (∀(l:List Nat) (j:Nat) (y:List Tree) (b:RT),bk (12::l) j y b=cnd (okL 9 y j) (bk l (j+1) y b) none)∧
  (∀(l:List Nat) (j:Nat) (y:List Tree) (b:RT),bk (13::l) j y b=cnd (okL 10 y j) (bk l (j+1) y b) none)∧
  (∀(p:ST) (j i:Nat) (t:List Tree),ct [] p j i t=t)∧
  (∀(l:List Nat) (p:ST) (j i:Nat) (t:List Tree),ct (0::l) p j i t=tI (cI p j i)::ct l p j (i+1) t)∧
  (∀(l:List Nat) (p:ST) (j i:Nat) (t:List Tree),ct (1::l) p j i t = .bool (cB p j i)::ct l p j (i+1) t)∧
  (∀(l:List Nat) (p:ST) (j i:Nat) (t:List Tree),ct (2::l) p j i t = .str (cS p j i)::ct l p j (i+1) t)∧
  (∀(l:List Nat) (p:ST) (j i:Nat) (t:List Tree),ct (4::l) p j i t = .sl 1 (cL p j i)::ct l p j (i+1) t)∧
  (∀(l:List Nat) (p:ST) (j i:Nat) (t:List Tree),ct (5::l) p j i t = .sl 2 (cL p j i)::ct l p j (i+1) t)∧
  (∀(l:List Nat) (p:ST) (j i:Nat) (t:List Tree),ct (13::l) p j i t = .sl 10 (cL p j i)::ct l p j (i+1) t)∧
  (∀(y:List Tree) (i:Nat) (t:List Tree),gt [] y i t=t)∧
  (∀(l:List Nat) (y:List Tree) (i:Nat) (t:List Tree),gt (0::l) y i t=tI (gI y i)::gt l y (i+1) t)∧
  (∀(l:List Nat) (y:List Tree) (i:Nat) (t:List Tree),gt (1::l) y i t = .bool (gB y i)::gt l y (i+1) t)∧
  (∀(l:List Nat) (y:List Tree) (i:Nat) (t:List Tree),gt (2::l) y i t = .str (gS y i)::gt l y (i+1) t)∧
  (∀(l:List Nat) (y:List Tree) (i:Nat) (t:List Tree),gt (5::l) y i t = .sl 2 (gL y i)::gt l y (i+1) t)∧
  (∀(l:List Nat) (y:List Tree) (i:Nat) (t:List Tree),gt (11::l) y i t = .sl 8 (gL y i)::gt l y (i+1) t)∧
  (∀(l:List Nat) (y:List Tree) (i:Nat) (t:List Tree),gt (12::l) y i t = .sl 9 (gL y i)::gt l y (i+1) t)∧
  (∀(l:List Nat) (y:List Tree) (i:Nat) (t:List Tree),gt (13::l) y i t = .sl 10 (gL y i)::gt l y (i+1) t)∧
  (∀(t:List Tree),zt [] t=t)∧
  (∀(l:List Nat) (t:List Tree),zt (0::l) t=tI 0::zt l t)∧
  (∀(l:List Nat) (t:List Tree),zt (1::l) t = .bool false::zt l t)∧
  (∀(l:List Nat) (t:List Tree),zt (2::l) t = .str (ByteArray.mk #[])::zt l t)∧
  (∀(l:List Nat) (t:List Tree),zt (4::l) t = .sl 1 []::zt l t)∧
  (∀(l:List Nat) (t:List Tree),zt (5::l) t = .sl 2 []::zt l t)∧
  (∀(l:List Nat) (t:List Tree),zt (11::l) t = .sl 8 []::zt l t)∧
  (∀(l:List Nat) (t:List Tree),zt (12::l) t = .sl 9 []::zt l t)∧
  (∀(l:List Nat) (t:List Tree),zt (13::l) t = .sl 10 []::zt l t)∧
  (tv []=[])∧(∀(x:Tree) (l:List Tree),tv (x::l)= .t x::tv l)∧
  (kS=[0,0,0,0,0,0,0,0,2,0,0,0,5,0,0])∧(kT=[0,0,0,0,0,0,0,0,2,0,0,0,5,0,0,12])∧(kG=[0,0,0,0,0,1,2,5])∧(kO=[1,0,1,0,0,0,0,0])∧(B0=ByteArray.mk #[]):=by
 refine ⟨?_,?_,?_,?_,?_,?_,?_,?_,?_,?_,?_,?_,?_,?_,?_,?_,?_,?_,?_,?_,?_,?_,?_,?_,?_,?_,?_,?_,?_,?_,?_,?_,?_,?_,?_,?_,?_,?_,?_,?_,?_⟩<;>intros<;>rfl
end Ab
set_option maxRecDepth 100000
namespace Ab
open Go Go.Proofs
def htab:HTab:=
[(9,[],[],[(40,[]),(42,[])],[(3,[40]),(9,[4])],[],[],[0],[31],[24,25],[(4,0),(40,0)]),
 (11,[],[],[(24,[])],[(1,[24])],[],[],[0],[],[24,25],[(24,0)]),
 (12,[],[],[],[(6,[9]),(7,[9]),(8,[9]),(9,[0])],[],[],[],[23,31],[],[(0,0),(9,0)]),
 (15,[],[],[],[],[],[],[0],[],[24,25],[]),
 (19,[],[],[(21,[])],[],[],[],[0],[],[],[]),
 (20,[],[],[(19,[])],[],[],[],[0],[],[],[]),
 (21,[],[],[],[],[],[],[0],[],[],[]),
 (22,[(4,[5])],[(1,[]),(0,[])],[(10,[]),(14,[]),(41,[])],[(6,[41])],[],[],[],[],[],[(41,0)]),
 (25,[(38,[])],[(0,[]),(2,[]),(1,[]),(4,[]),(3,[])],[(14,[]),(12,[]),(18,[]),(34,[]),(40,[]),(43,[43]),(43,[43]),(43,[43]),(43,[43]),(85,[]),(76,[]),(67,[]),(58,[]),(49,[]),(43,[]),(104,[8]),(96,[8]),(113,[])],[(9,[34]),(20,[49]),(22,[58]),(24,[67]),(26,[76]),(28,[85])],[],[],[],[],[],[(8,4),(34,0),(43,0),(49,0),(58,0),(67,0),(76,0),(85,0)]),
 (26,[],[],[(30,[])],[],[],[],[0],[],[],[]),
 (27,[(13,[])],[(1,[]),(0,[])],[(28,[]),(32,[]),(37,[]),(50,[]),(80,[])],[],[],[],[0],[61,63,66],[],[]),
 (28,[],[],[(31,[])],[],[],[],[0],[],[],[]),
 (29,[],[],[],[(1,[2])],[],[],[0],[],[],[(2,0)]),
 (30,[(3,[5,6]),(6,[6])],[(1,[5,6]),(0,[5,6]),(3,[6]),(2,[6])],[(21,[]),(44,[])],[(3,[21]),(6,[44])],[(5,2)],[],[],[],[],[(6,4),(21,0),(44,0)]),
 (31,[(4,[3])],[(1,[]),(0,[])],[(6,[]),(10,[]),(18,[]),(34,[])],[(8,[34])],[],[],[],[],[],[(34,0)]),
 (32,[],[],[(7,[]),(10,[])],[],[],[],[0],[],[],[]),
 (33,[],[(1,[]),(0,[])],[],[],[],[],[0],[],[],[]),
 (34,[],[],[],[],[],[],[0],[],[],[]),
 (35,[],[],[],[],[],[],[0],[],[],[]),
 (36,[],[],[(18,[])],[],[],[],[0],[],[],[]),
 (37,[],[],[],[(1,[4])],[],[],[0,1],[],[25],[(4,0)]),
 (38,[],[],[],[],[],[],[0],[],[],[]),
 (39,[],[],[],[(1,[6])],[],[],[0],[],[],[(6,0)]),
 (40,[],[],[(0,[])],[],[],[],[],[],[],[]),
 (41,[],[],[],[],[],[],[],[],[],[]),
 (42,[],[],[(7,[]),(21,[])],[],[],[],[],[],[],[]),
 (43,[],[],[],[],[],[],[],[],[],[]),
 (44,[],[],[],[],[],[],[],[],[],[]),
 (45,[],[],[],[],[],[],[],[],[],[]),
 (46,[],[(0,[])],[(31,[]),(28,[]),(24,[]),(45,[])],[],[],[],[0],[61,63,66],[],[]),
 (47,[],[],[(19,[]),(26,[]),(30,[]),(34,[]),(50,[]),(76,[])],[(3,[26]),(9,[50])],[],[],[0],[],[25],[(26,0),(50,0)]),
 (48,[],[],[(9,[])],[(1,[9])],[],[],[],[],[25],[(9,0)]),
 (49,[],[],[(6,[])],[],[],[],[],[],[64],[]),
 (50,[(16,[9,10])],[(1,[9]),(0,[9])],[(17,[4]),(36,[4]),(49,[4]),(64,[4]),(75,[]),(82,[])],[(10,[64])],[(4,1)],[],[],[],[],[(9,4),(64,0)]),
 (51,[(0,[])],[(1,[]),(0,[])],[(23,[]),(39,[]),(55,[])],[(0,[23])],[],[],[],[43],[25,64],[(23,0)]),
 (52,[(10,[13]),(0,[])],[(3,[]),(2,[]),(1,[]),(0,[])],[(30,[]),(69,[]),(82,[]),(86,[]),(104,[])],[(1,[30]),(7,[69])],[],[],[],[131],[25,64],[(30,0),(69,0)]),
 (53,[(0,[])],[(1,[]),(0,[])],[(27,[]),(47,[]),(84,[])],[(1,[27]),(8,[84])],[],[],[],[131],[25,64],[(27,0),(84,0)]),
 (54,[],[],[(38,[]),(26,[])],[(0,[26])],[],[],[],[],[25],[(26,0)]),
 (55,[],[],[(30,[]),(35,[]),(54,[])],[(1,[30]),(5,[54])],[],[],[0],[],[],[(30,0),(54,0)]),
 (56,[],[],[],[(1,[6])],[],[],[],[],[],[(6,0)]),
 (57,[],[],[],[],[],[],[0],[],[],[]),
 (58,[],[],[],[],[],[],[0],[],[],[]),
 (59,[],[],[(15,[]),(21,[])],[],[],[],[0],[],[],[]),
 (60,[],[],[(13,[]),(19,[])],[],[],[],[0],[],[],[]),
 (61,[(4,[5])],[(1,[]),(0,[])],[(10,[]),(14,[]),(25,[])],[],[],[],[],[],[],[]),
 (62,[],[],[],[],[],[],[],[],[],[]),
 (63,[],[],[],[],[],[],[],[],[],[]),
 (64,[],[],[],[(1,[4])],[],[],[],[],[],[(4,0)]),
 (65,[],[],[(19,[]),(6,[])],[],[],[],[],[],[],[]),
 (66,[],[],[],[],[],[],[],[],[],[]),
 (67,[(4,[10])],[(1,[]),(0,[])],[(7,[]),(11,[]),(17,[]),(30,[])],[(8,[30])],[],[],[],[45],[],[(30,0)]),
 (68,[],[],[(17,[]),(21,[]),(24,[]),(28,[]),(44,[]),(62,[])],[(9,[44])],[],[],[0],[],[25],[(44,0)]),
 (69,[],[],[(6,[])],[],[],[],[],[],[64],[]),
 (70,[],[],[(9,[])],[(1,[9])],[],[],[],[],[25],[(9,0)]),
 (71,[(5,[22]),(1,[2,3])],[(3,[]),(2,[]),(1,[]),(0,[])],[(11,[]),(23,[])],[],[],[],[],[],[],[]),
 (72,[],[],[(50,[]),(55,[]),(74,[])],[(1,[50]),(5,[74])],[],[],[0],[],[],[(50,0),(74,0)]),
 (73,[(16,[10,12]),(13,[10,11])],[(3,[10,12]),(2,[10]),(1,[10]),(0,[10])],[(22,[]),(26,[]),(30,[]),(36,[]),(40,[]),(45,[]),(59,[])],[(2,[22])],[(10,8)],[],[],[],[],[(12,4),(22,0)]),
 (74,[(3,[2,8,9])],[(1,[2,8]),(0,[2,8])],[(15,[]),(44,[])],[],[(8,9)],[],[],[],[25],[(2,4)]),
 (75,[],[],[],[(1,[2])],[],[],[],[],[],[(2,0)]),
 (76,[],[],[(12,[])],[(1,[12])],[],[],[0],[],[64],[(12,0)]),
 (77,[],[],[],[],[],[],[],[],[],[]),
 (78,[(7,[10,11]),(16,[12])],[(1,[10]),(0,[10]),(3,[]),(2,[])],[(15,[]),(22,[]),(27,[]),(46,[]),(54,[10]),(61,[]),(66,[])],[(3,[22]),(9,[46])],[],[],[2],[],[25,64],[(10,4),(22,0),(46,0)]),
 (79,[],[],[(32,[]),(39,[]),(78,[]),(95,[])],[(9,[78]),(11,[95])],[],[],[],[],[],[(78,0),(95,0)]),
 (80,[],[],[(8,[]),(14,[])],[],[],[],[],[],[25,64],[]),
 (81,[],[],[],[(1,[2])],[],[],[0],[],[25],[(2,0)]),
 (82,[(7,[8]),(11,[9])],[(1,[]),(0,[]),(3,[]),(2,[])],[(20,[]),(26,[]),(36,[]),(50,[]),(89,[])],[(1,[20])],[],[],[0,1],[41],[25],[(20,0)]),
 (83,[],[],[(22,[]),(31,[]),(42,[]),(46,[]),(67,[]),(78,[]),(86,[]),(92,[])],[(1,[22]),(3,[31]),(5,[42]),(11,[67])],[],[],[2],[],[25],[(22,0),(31,0),(42,0),(67,0)]),
 (84,[],[],[(12,[]),(16,[]),(25,[]),(29,[])],[(5,[25])],[],[],[],[],[25],[(25,0)]),
 (85,[(1,[3])],[(1,[]),(0,[])],[(6,[]),(13,[])],[],[],[],[],[],[],[]),
 (86,[],[],[(7,[]),(13,[])],[(3,[13])],[],[],[0],[],[],[(13,0)]),
 (87,[],[],[],[(1,[6])],[],[],[0],[],[],[(6,0)]),
 (88,[],[],[],[],[],[],[0],[],[],[]),
 (91,[],[],[],[(1,[2])],[],[],[0],[],[],[(2,0)]),
 (92,[],[],[],[(1,[6])],[],[],[],[],[],[(6,0)]),
 (93,[],[],[(19,[]),(38,[])],[(5,[38])],[],[],[],[43],[25],[(38,0)]),
 (94,[],[],[],[],[],[],[0],[],[25],[]),
 (95,[],[],[],[(1,[2])],[],[],[],[],[],[(2,0)]),
 (96,[],[],[(11,[]),(20,[])],[],[],[],[],[],[],[]),
 (97,[],[],[],[],[],[],[],[],[],[]),
 (98,[],[],[],[(1,[6])],[],[],[],[],[],[(6,0)]),
 (99,[],[],[(7,[])],[(3,[4])],[],[],[],[],[],[(4,0)]),
 (100,[],[],[(8,[]),(11,[]),(14,[])],[],[],[],[1],[],[25],[]),
 (101,[(6,[3])],[(1,[]),(0,[])],[(25,[]),(29,[]),(34,[]),(61,[]),(75,[])],[(1,[25]),(9,[61]),(11,[75])],[],[],[0],[131],[25,64],[(25,0),(61,0),(75,0)]),
 (102,[(4,[5,6,7])],[(1,[5,6]),(0,[5,6])],[(12,[]),(26,[5,6]),(39,[5])],[(6,[26])],[(5,10)],[],[1],[],[25],[(6,0),(26,0)]),
 (103,[(4,[5])],[(1,[]),(0,[])],[(8,[]),(12,[]),(30,[])],[(6,[30])],[],[],[],[],[],[(30,0)]),
 (104,[],[(0,[])],[(12,[]),(39,[]),(30,[]),(25,[])],[],[],[],[],[],[],[]),
 (105,[(8,[3])],[(1,[]),(0,[])],[(26,[]),(29,[]),(36,[]),(41,[]),(55,[])],[(1,[26]),(10,[55])],[],[],[0],[],[25],[(26,0),(55,0)]),
 (106,[],[],[(6,[]),(9,[]),(12,[])],[],[],[],[0],[],[25],[]),
 (107,[(4,[5])],[(1,[]),(0,[])],[(29,[]),(34,[]),(57,[])],[(1,[29]),(6,[57])],[],[],[0,1],[],[25],[(29,0),(57,0)]),
 (108,[(5,[6,7])],[(1,[6]),(0,[6])],[(10,[]),(18,[])],[],[(6,2)],[],[],[],[],[]),
 (109,[],[],[(20,[])],[],[],[],[],[],[25],[]),
 (110,[(8,[3])],[(1,[]),(0,[])],[(8,[]),(61,[]),(65,[]),(70,[]),(91,[]),(115,[]),(131,[])],[(3,[61]),(10,[91]),(13,[115]),(15,[131])],[],[],[0],[],[25],[(61,0),(91,0),(115,0),(131,0)]),
 (111,[],[],[],[],[],[],[0],[],[25],[]),
 (112,[],[],[(13,[5])],[],[],[],[0],[],[],[(5,4)]),
 (113,[],[],[],[],[],[],[0],[],[],[]),
 (114,[],[],[],[],[],[],[],[],[],[]),
 (115,[],[],[],[],[],[],[0,2],[],[121],[]),
 (116,[],[],[],[],[],[],[],[],[25],[]),
 (117,[],[],[],[],[],[],[0],[],[25],[]),
 (118,[],[(0,[8,9]),(2,[]),(1,[])],[(35,[8,9]),(29,[8,9]),(25,[8,9]),(22,[8,9]),(13,[8,9])],[(1,[13])],[(8,8)],[8],[0,2],[45],[],[(8,108),(9,4),(13,0)]),
 (119,[],[],[],[],[],[],[0],[],[25],[]),
 (120,[],[],[(15,[])],[(0,[15])],[],[],[],[],[],[(15,0)]),
 (121,[],[],[],[],[],[],[],[],[],[]),
 (122,[],[],[(12,[])],[(1,[12])],[],[],[0],[],[64],[(12,0)]),
 (123,[],[],[],[(1,[2])],[],[],[],[],[],[(2,0)]),
 (124,[(0,[])],[(1,[]),(0,[])],[(21,[])],[(0,[21])],[],[],[],[],[],[(21,0)]),
 (125,[(7,[46]),(1,[2,3])],[(3,[]),(2,[]),(1,[]),(0,[])],[(18,[]),(39,[]),(47,[]),(75,[])],[(11,[75])],[],[],[],[],[25],[(75,0)]),
 (126,[(1,[2,3])],[(1,[]),(0,[])],[(16,[]),(35,[]),(51,[]),(77,[])],[(8,[77])],[],[],[],[],[25],[(77,0)]),
 (127,[],[],[(19,[]),(34,[])],[(0,[19])],[],[],[],[],[25],[(19,0)]),
 (128,[],[],[(15,[])],[],[],[],[],[],[],[]),
 (129,[],[],[(9,[])],[(4,[2])],[],[],[0],[],[25],[(2,0)]),
 (130,[],[],[(6,[]),(9,[]),(26,[]),(29,[]),(39,[])],[(4,[2]),(8,[2]),(10,[2]),(11,[2])],[],[],[0],[],[25],[(2,0)]),
 (131,[],[],[(5,[])],[(2,[2]),(3,[2])],[],[],[0],[],[25],[(2,0)]),
 (132,[],[],[],[(1,[4])],[],[],[],[],[],[(4,0)]),
 (133,[],[],[(6,[])],[],[],[],[],[],[],[]),
 (134,[],[],[(8,[])],[],[],[],[],[],[],[]),
 (135,[],[(1,[]),(0,[])],[],[],[],[],[],[43],[25],[]),
 (136,[(1,[11])],[(1,[]),(0,[])],[(12,[]),(29,[])],[],[],[],[],[41],[25],[]),
 (137,[],[],[(8,[]),(11,[]),(14,[])],[],[],[],[1],[],[25],[]),
 (138,[],[],[],[(1,[6])],[],[],[],[],[],[(6,0)]),
 (139,[],[],[],[(1,[4])],[],[],[],[],[],[(4,0)]),
 (140,[],[],[],[],[],[],[0],[],[25],[]),
 (141,[],[],[],[],[],[],[],[],[],[]),
 (142,[],[],[],[],[],[],[],[],[],[]),
 (143,[(6,[33])],[(1,[]),(0,[])],[(25,[]),(29,[]),(34,[]),(57,[]),(71,[])],[(1,[25]),(8,[57]),(10,[71])],[],[],[0],[131],[25,64],[(25,0),(57,0),(71,0)]),
 (144,[],[],[(13,[]),(31,[])],[],[],[],[4],[],[25,64],[]),
 (145,[],[],[(27,[])],[(2,[27])],[],[],[],[131],[25,64],[(27,0)]),
 (146,[],[],[(19,[]),(24,[]),(56,[]),(71,[])],[(1,[19])],[],[],[1],[41],[25],[(19,0)]),
 (147,[],[],[],[(1,[2])],[],[],[0],[],[25],[(2,0)]),
 (148,[],[],[(20,[]),(26,[]),(48,[])],[(1,[20]),(6,[48])],[],[],[0,2],[],[25],[(20,0),(48,0)]),
 (149,[],[],[(12,[]),(16,[]),(22,[])],[],[],[],[0],[],[25],[]),
 (150,[(6,[5,7]),(3,[5,6])],[(3,[5]),(2,[5]),(1,[5]),(0,[5])],[(13,[]),(19,[]),(49,[5])],[],[(5,2)],[],[],[45],[],[]),
 (151,[(4,[3,4,5])],[(1,[3,4]),(0,[3,4])],[(10,[]),(19,[3]),(36,[3])],[],[(3,2)],[],[],[],[],[(4,4)]),
 (152,[],[],[(8,[]),(30,[]),(35,[])],[(5,[30])],[],[],[0],[194],[25],[(30,0)]),
 (153,[(4,[5]),(1,[9])],[(3,[5]),(2,[]),(1,[]),(0,[])],[(10,[]),(18,[]),(31,[])],[],[],[],[],[45],[],[(5,4)]),
 (154,[],[(2,[]),(1,[]),(0,[])],[(20,[6,7]),(43,[]),(32,[]),(59,[])],[(1,[20]),(9,[32]),(11,[43])],[(6,2)],[6],[],[],[],[(6,102),(7,4),(20,0),(32,0),(43,0)]),
 (155,[],[],[],[(1,[4])],[],[],[],[],[],[(4,0)]),
 (156,[(9,[44])],[(1,[]),(0,[])],[(17,[]),(29,[]),(37,[]),(45,[]),(75,[])],[(3,[29])],[],[],[2],[131],[25],[(29,0)]),
 (157,[],[],[(14,[]),(20,[]),(53,[]),(70,[])],[(6,[53]),(8,[70])],[],[],[],[],[],[(53,0),(70,0)]),
 (158,[],[],[(8,[]),(14,[])],[],[],[],[],[],[25],[]),
 (159,[(12,[81])],[(1,[]),(0,[])],[(29,[]),(43,[]),(69,[]),(76,[]),(82,[]),(89,[]),(98,[])],[(1,[29]),(3,[43]),(5,[69])],[],[],[0],[45],[25],[(29,0),(43,0),(69,0)]),
 (160,[(2,[13])],[(1,[]),(0,[])],[(14,[]),(19,[])],[],[],[],[0,1],[],[25],[]),
 (161,[],[],[],[],[],[],[0,1],[],[25],[]),
 (162,[],[],[(20,[])],[],[],[],[],[],[25],[]),
 (163,[],[],[(4,[])],[],[],[],[],[],[],[]),
 (164,[],[(0,[4])],[(8,[]),(33,[4]),(24,[4]),(12,[4]),(39,[])],[(9,[4]),(7,[4])],[],[],[0],[],[25],[(4,0)]),
 (165,[],[],[],[],[],[],[],[],[],[]),
 (166,[],[],[],[],[],[],[],[],[],[]),
 (167,[],[],[],[],[],[],[0,1],[],[25],[]),
 (168,[],[],[],[],[],[],[],[],[],[]),
 (169,[],[],[],[(1,[3])],[],[],[],[],[],[(3,0)]),
 (170,[],[],[(4,[])],[],[],[],[],[],[],[]),
 (171,[(2,[5,6])],[(1,[5,6]),(0,[5])],[(11,[]),(21,[5,6])],[],[],[],[],[],[],[(5,4),(6,4)]),
 (172,[],[],[],[],[],[],[],[],[],[]),
 (173,[],[],[(16,[]),(22,[]),(31,[]),(68,[])],[],[],[],[],[],[],[]),
 (174,[],[],[],[],[],[],[],[],[],[]),
 (175,[],[],[],[(1,[4])],[],[],[1],[],[],[(4,0)]),
 (176,[],[],[(13,[])],[],[],[],[],[],[],[]),
 (177,[],[],[],[],[],[],[],[],[],[]),
 (178,[],[],[(12,[]),(21,[]),(34,[])],[(1,[12]),(3,[21])],[],[],[],[],[],[(12,0),(21,0)]),
 (179,[],[],[],[(1,[2])],[],[],[],[],[],[(2,0)]),
 (180,[],[],[],[(1,[2])],[],[],[],[],[],[(2,0)]),
 (181,[(2,[10])],[(1,[]),(0,[])],[(11,[]),(49,[])],[(5,[49])],[],[],[],[45],[],[(49,0)]),
 (182,[],[],[],[],[],[],[],[],[],[]),
 (183,[],[],[],[],[],[],[],[],[],[]),
 (184,[],[],[(8,[]),(42,[]),(75,[])],[(4,[42]),(6,[75])],[],[],[0],[23],[25],[(42,0),(75,0)]),
 (185,[],[],[],[],[],[],[0],[],[25],[]),
 (186,[],[],[(34,[]),(39,[])],[(2,[34])],[],[],[2],[],[25],[(34,0)]),
 (187,[],[],[],[],[],[],[0,2],[],[25],[]),
 (188,[],[],[],[(1,[2])],[],[],[0],[],[25],[(2,0)]),
 (189,[],[],[],[(1,[2])],[],[],[0],[],[25],[(2,0)]),
 (190,[],[],[],[(1,[2])],[],[],[0],[],[25],[(2,0)]),
 (191,[],[],[],[(1,[2])],[],[],[0],[],[25],[(2,0)]),
 (192,[],[],[],[(1,[2])],[],[],[0],[],[25],[(2,0)]),
 (193,[],[],[],[(1,[2])],[],[],[0],[],[25],[(2,0)]),
 (194,[(1,[])],[(1,[]),(0,[])],[(32,[]),(43,[10]),(63,[])],[(3,[32]),(5,[43])],[],[],[],[],[],[(10,4),(32,0),(43,0)]),
 (195,[],[(0,[])],[(15,[]),(4,[])],[],[],[],[],[],[],[]),
 (196,[],[],[(17,[]),(21,[])],[(1,[17])],[],[],[],[],[],[(17,0)]),
 (197,[(2,[8])],[(1,[]),(0,[])],[(9,[]),(16,[])],[],[],[],[],[],[],[]),
 (199,[],[],[],[],[],[],[],[],[],[]),
 (200,[(2,[8])],[(1,[]),(0,[])],[(9,[]),(16,[])],[],[],[],[],[],[],[]),
 (201,[],[],[],[],[],[],[],[],[],[]),
 (202,[],[],[],[(1,[3])],[],[],[0],[],[],[(3,0)]),
 (203,[],[],[(12,[6]),(22,[7])],[],[],[],[],[],[],[(6,4),(7,4)]),
 (204,[],[],[],[],[],[],[],[219],[],[]),
 (205,[(1,[0])],[(1,[0]),(0,[0])],[(13,[])],[(1,[13])],[],[],[],[],[],[(0,20),(13,0)]),
 (206,[(1,[0])],[(1,[0]),(0,[0])],[(16,[])],[(1,[16])],[],[],[],[],[],[(0,20),(16,0)]),
 (207,[(2,[4])],[(1,[]),(0,[])],[(9,[]),(16,[])],[],[],[],[],[],[],[]),
 (208,[(1,[0])],[(1,[0]),(0,[0])],[(7,[]),(12,[])],[],[],[],[],[],[],[(0,20)]),
 (209,[(1,[0])],[(1,[0]),(0,[0])],[(7,[]),(15,[])],[],[],[],[],[],[],[(0,20)]),
 (210,[(1,[0])],[(1,[0]),(0,[0])],[(9,[]),(18,[])],[],[],[],[],[],[],[(0,20)]),
 (211,[(1,[0])],[(1,[0]),(0,[0])],[(9,[]),(17,[5,6]),(26,[])],[],[],[],[],[],[],[(0,20),(5,3),(6,4)]),
 (212,[],[],[],[(1,[4])],[],[],[],[],[],[(4,0)]),
 (213,[(4,[13])],[(1,[]),(0,[])],[(10,[]),(14,[]),(24,[])],[],[],[],[],[],[],[]),
 (214,[],[],[],[],[],[],[],[],[],[]),
 (215,[(2,[8])],[(1,[]),(0,[])],[(9,[]),(16,[])],[],[],[],[],[],[],[]),
 (216,[],[],[],[],[],[],[],[],[],[]),
 (217,[],[],[],[],[],[],[],[],[],[]),
 (218,[],[],[],[],[],[],[],[],[],[]),
 (219,[],[],[],[],[],[],[],[],[],[]),
 (220,[],[],[],[],[],[],[],[],[],[]),
 (221,[],[],[(10,[2,3])],[(1,[10])],[],[],[],[],[],[(2,3),(3,4),(10,0)]),
 (222,[],[],[],[],[],[],[],[],[],[]),
 (223,[(10,[5])],[(1,[]),(0,[5])],[(10,[]),(18,[]),(27,[]),(33,[]),(35,[5]),(48,[2,3])],[],[],[],[],[],[],[(2,3),(3,4),(5,4)]),
 (224,[(1,[2,3])],[(1,[]),(0,[])],[(9,[])],[],[],[],[],[],[],[]),
 (225,[],[],[(16,[]),(23,[]),(45,[]),(57,[]),(59,[]),(75,[]),(77,[]),(98,[])],[(14,[57]),(19,[75]),(24,[98])],[],[],[],[238],[],[(57,0),(75,0),(98,0)]),
 (226,[(12,[12]),(5,[9]),(29,[16]),(25,[9]),(38,[])],[(4,[]),(3,[]),(2,[9]),(1,[]),(8,[]),(7,[]),(6,[]),(5,[]),(10,[]),(9,[]),(0,[4])],[(26,[]),(43,[]),(33,[9]),(51,[]),(64,[]),(98,[]),(124,[]),(143,[]),(156,[]),(139,[]),(108,[]),(0,[]),(183,[4]),(177,[]),(181,[]),(171,[4]),(160,[4])],[(34,[160]),(18,[98]),(27,[139])],[],[],[],[],[],[(4,4),(9,4),(98,0),(139,0),(160,0)]),
 (227,[],[],[],[],[],[],[],[],[],[]),
 (228,[],[],[],[],[],[],[],[],[],[]),
 (229,[],[(0,[])],[(10,[]),(3,[])],[(1,[3]),(3,[10])],[],[],[],[],[],[(3,0),(10,0)]),
 (230,[],[],[],[],[],[],[],[],[],[]),
 (232,[],[],[],[],[],[],[],[],[],[])]
def ρ173:Go.Shelf.Ren:=⟨fun x=>if x=22 then 173 else if x=29 then 198 else if x=30 then 199 else 0,fun x=>if x=24 then 64 else if x=9 then 131 else if x=3 then 3 else if x=4 then 4 else 0,fun x=>x⟩
theorem lay173:HR Tryz.prog ρ173 10 where
 mixed:=by kernel_rfl
 f22 := ⟨"slices.Insert[[]mailboat/api.Frame,mailboat/api.Frame]", by decide, by kernel_rfl⟩
 f29:=⟨_,rfl,by kernel_rfl,by kernel_rfl,by kernel_rfl,by kernel_rfl⟩
 t3:=by kernel_rfl
 a3:=fun w=>by kernel_rfl
 z3:=fun w=>by kernel_rfl
 v3:=fun w=>by kernel_rfl
 t4:=by kernel_rfl
 a4:=fun w=>by kernel_rfl
 z4:=fun w=>by kernel_rfl
 v4:=fun w=>by kernel_rfl
 z9:=fun w=>by kernel_rfl
 t24:=by kernel_rfl
 a24:=fun w=>by kernel_rfl
 z24:=fun w=>by kernel_rfl
 v24:=fun w=>by kernel_rfl
 i9:=⟨_,_,rfl,rfl,rfl,rfl,by decide⟩
 pos:=by decide
def QZ (g:Nat):Option Prim:=if g=173 then some (.ins 10) else none
theorem TZ (g:Nat) (p:Prim) (h:QZ g=some p):UG Tryz.prog g p:=by
 unfold QZ at h;split at h
 ·rename_i e;cases h;exact ⟨ρ173,e.symm ▸ rfl,lay173⟩
 cases h
def Yf (g:Nat) (xs:List Tree):Option (List Tree):=
 if g=25 then (match xs with
  |[.str s,.int .i64 c]=>if 0≤c∧c≤9223372036854775807∧s.size*c.toNat≤140737488355328 then some [.str ⟨(Go.Lib.repeatL s.data.toList c.toNat).toArray⟩] else none
  |_=>none) else if g=165 then (match xs with
  |[]=>some [.mp .i64 [(2,186),(3,187)]]
  |_=>none) else none
noncomputable def C:Cfg:={P:=Tryz.prog,heapful:=fun g=>[16,27,42,43,44,45,46,50,51,52,53,54,57,65,66,71,77,79,85,96,97,114,115,120,121,123,124,125,126,127,135,136,140,144,145,153,154,157,166,167,168,169,171,172,173,177,179,180,181,182,194,195,196,197,199,201,202,204,208,209,214,215,220,224].contains g,own:=fun g=>[30,47,68,74,93,170].contains g,reuse:=fun g=>[30].contains g,joinc:=fun g=>[42,44,45,50,51,52,53,54,65,66,71,77,85,96,120,121,123,124,125,126,127,136,144,153,168,169,171,172,177,179,180,181,182,194,195,196,197,199,201,202,208,209,214,215,220,224].contains g,prim:=QZ,primOk:=TZ,cur:=fun _=>false,curT:=fun _=>false,curN:=fun _=>false,depth:=12,hints:=XJ htab,ext:=Yf,fnTy:=fun t=>[207].contains t,own2:=fun g=>if g=47 then some 15 else if g=68 then some 15 else if g=74 then some 15 else if g=93 then some 15 else none,renT:=fun g t=>([((125,41),(2,86)),((126,41),(2,88))]:List ((Nat×Nat)×(Nat×Nat))).lookup (g,t)}
theorem mix:C.P.follows .mixedOrders=true:=by kernel_rfl
end Ab
namespace Ab
open Go Go.Proofs
noncomputable def J9_1 (n:Nat) (a0 a1 a2 a3 a4 a5 a6 a7 a8:Int) (a9:ByteArray) (a10:TT) (a11:Int) (a12:TT) (p16:ST):RT:=cnd (vB p16 0=true) (some [.bool false]) (bd [1] (AA C n 11 [tI a0,tI a1,tI a2,tI a3,tI a4,tI a5,tI a6,tI a7,tI a8,.str a9,.sl 1 a10,tI a11,.sl 2 a12]) fun y18=>cnd (gB y18 0=true) (bd [1] (AA C n 12 []) fun y19=>some [.bool (gB y19 0)]) (bd [12,12,0] (AA C n 15 [tI a0,tI a1,tI a2,tI a3,tI a4,tI a5,tI a6,tI a7,tI a8,.str a9,.sl 1 a10,tI a11,.sl 2 a12]) fun y20=>bd [12,12,0] (AA C n 21 [tI a0,tI a1,tI a2,tI a3,tI a4,tI a5,tI a6,tI a7,tI a8,.str a9,.sl 1 a10,tI a11,.sl 2 a12]) fun y21=>bd [1] (AA C n 22 [.sl 9 (gL y20 0),.sl 9 (gL y21 0)]) fun y24=>cnd (gB y24 0=true) (bd [1] (AA C n 22 [.sl 9 (gL y20 1),.sl 9 (gL y21 1)]) fun y25=>cnd (gB y25 0=true) (cnd ((gI y20 2==gI y21 2)=true) (bd [1] (AA C n 12 []) fun y26=>some [.bool (gB y26 0)]) (some [.bool false])) (some [.bool false])) (some [.bool false])))
theorem e9 (n:Nat) (a0 a1 a2 a3 a4 a5 a6 a7 a8:Int) (a9:ByteArray) (a10:TT) (a11:Int) (a12:TT) (a13:Int):AA C (n+1) 9 [tI a0,tI a1,tI a2,tI a3,tI a4,tI a5,tI a6,tI a7,tI a8,.str a9,.sl 1 a10,tI a11,.sl 2 a12,tI a13]=bd kO (AA C n 19 [tI a0,tI a1,tI a2,tI a3,tI a4,tI a5,tI a6,tI a7,tI a13]) fun y14=>bd kO (AA C n 20 [tI a0,tI a1,tI a2,tI a3,tI a4,tI a5,tI a6,tI a7,tI a13]) fun y15=>join (J9_1 n a0 a1 a2 a3 a4 a5 a6 a7 a8 a9 a10 a11 a12) fun k17=>cnd ((!(((((((gB y14 0==gB y15 0)&&(gI y14 1==gI y15 1))&&(gB y14 2==gB y15 2))&&(gI y14 3==gI y15 3))&&(gI y14 4==gI y15 4))&&(gI y14 5==gI y15 5))&&(gI y14 6==gI y15 6)))=true) (k17 ([.t (.bool true)],[.box [],.box []])) (k17 ([.t (.bool ((gI y14 7) != gI y15 7))],[.box [],.box []])):=by kernel_rfl
theorem e11 (n:Nat) (a0 a1 a2 a3 a4 a5 a6 a7 a8:Int) (a9:ByteArray) (a10:TT) (a11:Int) (a12:TT):AA C (n+1) 11 [tI a0,tI a1,tI a2,tI a3,tI a4,tI a5,tI a6,tI a7,tI a8,.str a9,.sl 1 a10,tI a11,.sl 2 a12]=cnd (decide ((ByteArray.size a9:Int)>120)=true) (some [.bool true]) (cnd (decide ((length a10:Int)>60)=true) (cnd (decide ((length a10:Int)≤1000)=true) (some [.bool true]) (cnd (decide ((length a12:Int)>20)=true) (some [.bool true]) (some [.bool (decide (a8>w64 (a7+w64 (40*w64 (w64 (2*(if (if 1048576<a5 then (1048576:Int) else a5)>0 then (if 1048576<a5 then (1048576:Int) else a5) else (0:Int)))+1)))))]))) (cnd (decide ((length a12:Int)>20)=true) (some [.bool true]) (some [.bool (decide (a8>w64 (a7+w64 (40*w64 (w64 (2*(if (if 1048576<a5 then (1048576:Int) else a5)>0 then (if 1048576<a5 then (1048576:Int) else a5) else (0:Int)))+1)))))]))):=by kernel_rfl
noncomputable def J12_1 (n:Nat) (y2 y3:List Tree) (p6:ST):RT:=cnd (vB p6 0=true) (cnd ((((((((gB y2 0==true)&&(gI y2 1==40))&&(gB y2 2==true))&&(gI y2 3==45))&&(gI y2 4==35))&&(gI y2 5==5))&&(gI y2 6==1))=true) (some [.bool (((((((gB y3 0==true)&&(gI y3 1==24))&&(gB y3 2==true))&&(gI y3 3==43))&&(gI y3 4==33))&&(gI y3 5==5))&&(gI y3 6==1))]) (some [.bool false])) (some [.bool false])
noncomputable def J12_2 (n:Nat) (y2 y3 y1:List Tree) (p4:ST):RT:=join (J12_1 n y2 y3) fun k7=>cnd (vB p4 0=true) (k7 ([.t (.bool (((((((gB y1 0==true)&&(gI y1 1==24))&&(gB y1 2==true))&&(gI y1 3==29))&&(gI y1 4==19))&&(gI y1 5==3))&&(gI y1 6==0)))],[.box [],.box [],.box [],.box []])) (k7 ([.t (.bool false)],[.box [],.box [],.box [],.box []]))
theorem e12 (n:Nat):AA C (n+1) 12 []=bd [2] (AA C n 25 [.str (ByteArray.mk #[120]),tI 20]) fun y0=>bd kO (AA C n 26 [tI 0,tI 1,tI 10,tI 60,tI 4,tI 5,tI 1,tI 10,tI 36,.str (gS y0 0),.sl 1 [],tI (-1),.sl 2 []]) fun y1=>bd kO (AA C n 26 [tI 0,tI 1,tI 10,tI 60,tI 4,tI 5,tI 1,tI 10,tI 36,.str (gS y0 0),.sl 1 [[tI 7],[tI 0],[tI 0],[tI 0],[tI 0],[tI 0]],tI 1,.sl 2 []]) fun y2=>bd kO (AA C n 26 [tI 0,tI 1,tI 10,tI 60,tI 4,tI 5,tI 1,tI 10,tI 36,.str (gS y0 0),.sl 1 [[tI 0],[tI 0],[tI 7],[tI 0],[tI 0],[tI 0]],tI 1,.sl 2 []]) fun y3=>join (J12_2 n y2 y3 y1) fun k5=>cnd ((gI y1 7==0)=true) (cnd ((gI y2 7==0)=true) (k5 ([.t (.bool (gI y3 7==0))],[.box [],.box [],.box [],.box []])) (k5 ([.t (.bool false)],[.box [],.box [],.box [],.box []]))) (k5 ([.t (.bool false)],[.box [],.box [],.box [],.box []])):=by kernel_rfl
theorem e19 (n:Nat) (a0 a1 a2 a3 a4 a5 a6 a7 a8:Int):AA C (n+1) 19 [tI a0,tI a1,tI a2,tI a3,tI a4,tI a5,tI a6,tI a7,tI a8]=bd [0,0] (AA C n 34 [tI a0,tI a1,tI a2,tI a3,tI a4,tI a5,tI a6,tI a7,tI a8]) fun y9=>cnd (((gI y9 1) != 0)=true) (some (zt [1,0,1,0,0,0,0] [tI (gI y9 1)])) (bd [0,0] (AA C n 35 [tI a0,tI a1,tI a2,tI a3,tI a4,tI a5,tI a6,tI a7,tI a8]) fun y10=>some [.bool true,tI (gI y10 0),.bool true,tI (gI y9 0),tI (w64 (gI y10 0-a5)),tI (w64 (w64 (w64 (wF (w64 (w64 (a8+16)-1)) (16:Int))+w64 (3*a6))+2)),tI a6,tI 0]):=by kernel_rfl
theorem e20 (n:Nat) (a0 a1 a2 a3 a4 a5 a6 a7 a8:Int):AA C (n+1) 20 [tI a0,tI a1,tI a2,tI a3,tI a4,tI a5,tI a6,tI a7,tI a8]=bd [0,0] (AA C n 36 [tI a0,tI a1,tI a2,tI a3,tI a4,tI a5,tI a6,tI a7,tI a8]) fun y9=>cnd (((gI y9 1) != 0)=true) (some (zt [1,0,1,0,0,0,0] [tI (gI y9 1)])) (some [.bool true,tI (w64 (gI y9 0-a5)),.bool true,tI (gI y9 0),tI (w64 (gI y9 0-w64 (2*a5))),tI (w64 (w64 (w64 (wF (w64 (w64 (a8+16)-1)) (16:Int))+w64 (3*a6))+2)),tI a6,tI 0]):=by kernel_rfl
noncomputable def ZP (n:Nat) (a0 a1:TT) (p2:ST) (k3:KT):RT:=cnd (decide (vI p2 0<(length a0:Int))=true) (cnd (9=9∧0≤vI p2 0) (Option.bind a0[wH (vI p2 0)]? fun y6=>cnd (okI y6 0) (cnd (9=9∧0≤vI p2 0) (Option.bind a1[wH (vI p2 0)]? fun y7=>cnd (okI y7 0) (cnd (((gI y6 0) != gI y7 0)=true) (some [.bool false]) (cnd (9=9∧0≤vI p2 0) (Option.bind a0[wH (vI p2 0)]? fun y8=>bk kG 1 y8 (cnd (9=9∧0≤vI p2 0) (Option.bind a1[wH (vI p2 0)]? fun y9=>bk kG 1 y9 (bd [1] (AA C n 37 (gt kG y8 1 (gt kG y9 1 []))) fun y10=>cnd ((!(gB y10 0))=true) (some [.bool false]) (k3 ([.t (tI (w64 (vI p2 0+1)))],[])))) none)) none)) none) none) none) none) (some [.bool true])
theorem e22 (n:Nat) (a0 a1:TT):AA C (n+1) 22 [.sl 9 a0,.sl 9 a1]=cnd (((length a0:Int) != (length a1:Int))=true) (some [.bool false]) (AH (ZP n a0 a1) n ([.t (tI 0)],[])):=by kernel_rfl
theorem e29 (n:Nat) (a0 a1:Int):AA C (n+1) 29 [tI a0,tI a1]=cnd (decide (a0<a1)=true) (cnd (decide (a0≥(-1152921504606846976))=true) (some [.bool (decide (a1≤1152921504606846976))]) (some [.bool false])) (some [.bool false]):=by kernel_rfl
noncomputable def ZO (n:Nat) (a0:TT) (p1:ST) (k2:KT):RT:=cnd (decide (vI p1 0<(length a0:Int))=true) (cnd (2=2∧0≤vI p1 0) (Option.bind a0[wH (vI p1 0)]? fun y3=>bk [0,0] 0 y3 (bd [1] (AA C n 29 [tI (gI y3 0),tI (gI y3 1)]) fun y4=>cnd ((!(gB y4 0))=true) (some [tI 2]) (cnd (decide (vI p1 0>0)=true) (cnd (2=2∧0≤vI p1 0) (Option.bind a0[wH (vI p1 0)]? fun y7=>cnd (okI y7 0) (cnd (2=2∧0≤w64 (vI p1 0-1)) (Option.bind a0[wH (w64 (vI p1 0-1))]? fun y8=>cnd (okI y8 1) (cnd (decide (gI y7 0≤gI y8 1)=true) (some [tI 9]) (k2 ([.t (tI (w64 (vI p1 0+1)))],[]))) none) none) none) none) (k2 ([.t (tI (w64 (vI p1 0+1)))],[]))))) none) (some [tI 0])
theorem e31 (n:Nat) (a0:TT):AA C (n+1) 31 [.sl 2 a0]=cnd (decide ((length a0:Int)>1000)=true) (some [tI 4]) (AH (ZO n a0) n ([.t (tI 0)],[])):=by kernel_rfl
theorem e32 (n:Nat) (a0 a1 a2 a3 a4 a5 a6 a7:Int):AA C (n+1) 32 [tI a0,tI a1,tI a2,tI a3,tI a4,tI a5,tI a6,tI a7]=bd [0] (AA C n 55 [tI a0,tI a1,tI a2,tI a3,tI a4,tI a5,tI a6]) fun y8=>cnd (((gI y8 0) != 0)=true) (some [tI 1]) (bd [1] (AA C n 56 [tI a7,tI 1,tI 65536]) fun y9=>cnd ((!(gB y9 0))=true) (some [tI 2]) (some [tI 0])):=by kernel_rfl
noncomputable def ZN (n:Nat) (a0 a1 a2 a3 a4 a5 a6:Int) (p8:ST) (k9:KT):RT:=cnd (decide (vI p8 0>0)=true) (bd [0] (AA C n 58 [tI a0,tI a1,tI a2,tI a3,tI a4,tI a5,tI a6,tI (if 16<vI p8 0 then (16:Int) else vI p8 0)]) fun y10=>k9 ([.t (tI (w64 (vI p8 0-16)))],[.box [.t (tI (w64 (cI p8 0 0+gI y10 0)))],.box []])) (some [tI (cI p8 0 0)])
theorem e33 (n:Nat) (a0 a1 a2 a3 a4 a5 a6 a7:Int):AA C (n+1) 33 [tI a0,tI a1,tI a2,tI a3,tI a4,tI a5,tI a6,tI a7]=AH (ZN n a0 a1 a2 a3 a4 a5 a6) n ([.t (tI a7)],[.box [.t (tI 0)],.box []]):=by kernel_rfl
theorem e34 (n:Nat) (a0 a1 a2 a3 a4 a5 a6 a7 a8:Int):AA C (n+1) 34 [tI a0,tI a1,tI a2,tI a3,tI a4,tI a5,tI a6,tI a7,tI a8]=bd [0,0] (AA C n 59 [tI a0,tI a1,tI a2,tI a3,tI a4,tI a5,tI a6,tI a7,tI a8,tI 2]) fun y9=>some [tI (gI y9 0),tI (gI y9 1)]:=by kernel_rfl
theorem e35 (n:Nat) (a0 a1 a2 a3 a4 a5 a6 a7 a8:Int):AA C (n+1) 35 [tI a0,tI a1,tI a2,tI a3,tI a4,tI a5,tI a6,tI a7,tI a8]=bd [0,0] (AA C n 59 [tI a0,tI a1,tI a2,tI a3,tI a4,tI a5,tI a6,tI a7,tI a8,tI 1]) fun y9=>some [tI (gI y9 0),tI (gI y9 1)]:=by kernel_rfl
theorem e36 (n:Nat) (a0 a1 a2 a3 a4 a5 a6 a7 a8:Int):AA C (n+1) 36 [tI a0,tI a1,tI a2,tI a3,tI a4,tI a5,tI a6,tI a7,tI a8]=bd [0,0] (AA C n 60 [tI a0,tI a1,tI a2,tI a3,tI a4,tI a5,tI a6,tI a7,tI a8]) fun y9=>cnd (((gI y9 1) != 0)=true) (some [tI 0,tI (gI y9 1)]) (some [tI (w64 (gI y9 0+a5)),tI 0]):=by kernel_rfl
theorem e37 (n:Nat) (a0 a1 a2 a3 a4:Int) (a5:Bool) (a6:ByteArray) (a7:TT) (a8 a9 a10 a11 a12:Int) (a13:Bool) (a14:ByteArray) (a15:TT):AA C (n+1) 37 [tI a0,tI a1,tI a2,tI a3,tI a4,.bool a5,.str a6,.sl 2 a7,tI a8,tI a9,tI a10,tI a11,tI a12,.bool a13,.str a14,.sl 2 a15]=cnd ((a0==a8)=true) (cnd ((a1==a9)=true) (cnd ((a2==a10)=true) (cnd ((a3==a11)=true) (cnd ((a4==a12)=true) (cnd ((a5==a13)=true) (cnd ((a6==a14)=true) (bd [1] (AA C n 61 [.sl 2 a7,.sl 2 a15]) fun y18=>some [.bool (gB y18 0)]) (some [.bool false])) (some [.bool false])) (some [.bool false])) (some [.bool false])) (some [.bool false])) (some [.bool false])) (some [.bool false]):=by kernel_rfl
theorem e38 (n:Nat) (a0 a1 a2 a3 a4 a5 a6 a7:Int):AA C (n+1) 38 [tI a0,tI a1,tI a2,tI a3,tI a4,tI a5,tI a6,tI a7]=bd [0] (AA C n 33 [tI a0,tI a1,tI a2,tI a3,tI a4,tI a5,tI a6,tI a7]) fun y8=>bd [0] (AA C n 58 [tI a0,tI a1,tI a2,tI a3,tI a4,tI a5,tI a6,tI 16]) fun y9=>some [tI (w64 (gI y8 0+w64 (a6*w64 (w64 (w64 (2*a5)+1)+gI y9 0))))]:=by kernel_rfl
theorem e39 (n:Nat) (a0 a1 a2 a3 a4 a5 a6 a7 a8:Int):AA C (n+1) 39 [tI a0,tI a1,tI a2,tI a3,tI a4,tI a5,tI a6,tI a7,tI a8]=cnd (decide (a7≥a2)=true) (bd [0] (AA C n 38 [tI a0,tI a1,tI a2,tI a3,tI a4,tI a5,tI a6,tI a8]) fun y11=>some [.bool (decide (a7≤w64 (a3-gI y11 0)))]) (some [.bool false]):=by kernel_rfl
noncomputable def TF (n:Nat) (a7:Int) (a8:ByteArray) (a0 a1 a2 a3 a4 a5 a6 a10 a9:Int) (p14:ST):RT:=cnd (vB p14 0=true) (some (zt kT [tI 2])) (bd [11,0] (AA C n 73 [tI a7,tI 1,.str a8,.sl 2 [[tI 0,tI (ByteArray.size a8:Int)]]]) fun y16=>bd kT (AA C n 2004751 (tI a0::tI a1::tI a2::tI a3::tI a4::tI a5::tI a6::tI a7 :: .str a8::tI a10::zt [0,0,5,0,0] [.sl 8 (gL y16 0),tI a9])) fun y17=>cnd ((gI y17 14==3)=true) (some (zt kT [tI 16])) (some (gt kS y17 0 [.sl 9 (take (length (gL y17 15)) (gL y17 15)),tI 0])))
theorem e48 (n:Nat) (a0:Int):AA C (n+1) 48 [tI a0]=cnd (decide (a0<0)=true) (some (zt [0,0,5,2] [tI 2])) (cnd (decide (a0>1099511627776)=true) (some (zt [0,0,5,2] [tI 2])) (some (tI a0::tI (-1)::zt [5,2,0] []))):=by kernel_rfl
theorem e49 (n:Nat) (a0:Int):AA C (n+1) 49 [tI a0]=bd [1] (AA C n 75 [tI a0]) fun y1=>cnd ((!(gB y1 0))=true) (some (zt [0,13,0,0] [tI 2])) (some (tI a0::zt [13,0,0,0] [])):=by kernel_rfl
noncomputable def Vs (n:Nat) (a0 a1 a2 a3 a5:Int) (p7:ST):RT:=cnd (vB p7 0=true) (some [tI 2]) (cnd ((a0==a1)=true) (some [tI 1]) (cnd (decide (a2<0)=true) (some [tI 2]) (cnd (decide (a2≥a3)=true) (some [tI 2]) (cnd (decide (a3>w64 (1099511627776-w64 (2*a5)))=true) (some [tI 2]) (some [tI 0])))))
theorem e55 (n:Nat) (a0 a1 a2 a3 a4 a5 a6:Int):AA C (n+1) 55 [tI a0,tI a1,tI a2,tI a3,tI a4,tI a5,tI a6]=join (Vs n a0 a1 a2 a3 a5) fun k8=>bd [1] (AA C n 56 [tI a0,tI 0,tI 15]) fun y9=>cnd ((!(gB y9 0))=true) (k8 ([.t (.bool true)],[])) (bd [1] (AA C n 56 [tI a1,tI 0,tI 15]) fun y10=>cnd ((!(gB y10 0))=true) (k8 ([.t (.bool true)],[])) (bd [1] (AA C n 56 [tI a4,tI 1,tI 1000]) fun y11=>cnd ((!(gB y11 0))=true) (k8 ([.t (.bool true)],[])) (bd [1] (AA C n 56 [tI a5,tI 1,tI 1048576]) fun y12=>cnd ((!(gB y12 0))=true) (k8 ([.t (.bool true)],[])) (bd [1] (AA C n 56 [tI a6,tI 0,tI 16]) fun y13=>k8 ([.t (.bool (!(gB y13 0)))],[]))))):=by kernel_rfl
theorem e56 (n:Nat) (a0 a1 a2:Int):AA C (n+1) 56 [tI a0,tI a1,tI a2]=cnd (decide (a0≥a1)=true) (some [.bool (decide (a0≤a2))]) (some [.bool false]):=by kernel_rfl
theorem e58 (n:Nat) (a0 a1 a2 a3 a4 a5 a6 a7:Int):AA C (n+1) 58 [tI a0,tI a1,tI a2,tI a3,tI a4,tI a5,tI a6,tI a7]=cnd (a4=0) none (some [tI (w64 (wF (w64 (w64 (w64 (a7+8)+a4)-1)) a4))]):=by kernel_rfl
theorem e59 (n:Nat) (a0 a1 a2 a3 a4 a5 a6 a7 a8 a9:Int):AA C (n+1) 59 [tI a0,tI a1,tI a2,tI a3,tI a4,tI a5,tI a6,tI a7,tI a8,tI a9]=bd [0] (AA C n 32 [tI a0,tI a1,tI a2,tI a3,tI a4,tI a5,tI a6,tI a8]) fun y10=>cnd (((gI y10 0) != 0)=true) (some [tI 0,tI (gI y10 0)]) (bd [1] (AA C n 39 [tI a0,tI a1,tI a2,tI a3,tI a4,tI a5,tI a6,tI a7,tI a8]) fun y11=>cnd ((!(gB y11 0))=true) (some [tI 0,tI 16]) (bd [0] (AA C n 38 [tI a0,tI a1,tI a2,tI a3,tI a4,tI a5,tI a6,tI a8]) fun y12=>some [tI (w64 (w64 (a7+gI y12 0)+w64 (a9*a5))),tI 0])):=by kernel_rfl
theorem e60 (n:Nat) (a0 a1 a2 a3 a4 a5 a6 a7 a8:Int):AA C (n+1) 60 [tI a0,tI a1,tI a2,tI a3,tI a4,tI a5,tI a6,tI a7,tI a8]=bd [0] (AA C n 86 [tI a0,tI a1,tI a2,tI a3,tI a4,tI a5,tI a6,tI a8]) fun y9=>cnd (((gI y9 0) != 0)=true) (some [tI 0,tI (gI y9 0)]) (bd [1] (AA C n 87 [tI a0,tI a1,tI a2,tI a3,tI a4,tI a5,tI a6,tI a7,tI a8]) fun y10=>cnd ((!(gB y10 0))=true) (some [tI 0,tI 16]) (bd [0] (AA C n 88 [tI a0,tI a1,tI a2,tI a3,tI a4,tI a5,tI a6,tI a8]) fun y11=>some [tI (w64 (w64 (a7+gI y11 0)+a5)),tI 0])):=by kernel_rfl
noncomputable def QD (n:Nat) (a0 a1:TT) (p2:ST) (k3:KT):RT:=cnd (decide (vI p2 0<(length a0:Int))=true) (cnd (2=2∧0≤vI p2 0) (Option.bind a0[wH (vI p2 0)]? fun y4=>bk [0,0] 0 y4 (cnd (2=2∧0≤vI p2 0) (Option.bind a1[wH (vI p2 0)]? fun y5=>bk [0,0] 0 y5 (cnd ((!((gI y4 0==gI y5 0)&&(gI y4 1==gI y5 1)))=true) (some [.bool false]) (k3 ([.t (tI (w64 (vI p2 0+1)))],[])))) none)) none) (some [.bool true])
theorem e61 (n:Nat) (a0 a1:TT):AA C (n+1) 61 [.sl 2 a0,.sl 2 a1]=cnd (((length a0:Int) != (length a1:Int))=true) (some [.bool false]) (AH (QD n a0 a1) n ([.t (tI 0)],[])):=by kernel_rfl
noncomputable def ZM (n:Nat) (a0:TT) (p1:ST) (k2:KT):RT:=cnd (decide (vI p1 0<(length a0:Int))=true) (cnd (2=2∧0≤vI p1 0) (Option.bind a0[wH (vI p1 0)]? fun y3=>bk [0,0] 0 y3 (bd [1] (AA C n 91 [tI (gI y3 0),tI (gI y3 1)]) fun y4=>cnd ((!(gB y4 0))=true) (some [tI 2]) (cnd (decide (vI p1 0>0)=true) (cnd (2=2∧0≤w64 (vI p1 0-1)) (Option.bind a0[wH (w64 (vI p1 0-1))]? fun y7=>cnd (okI y7 1) (cnd (decide (gI y3 0≤gI y7 1)=true) (some [tI 9]) (k2 ([.t (tI (w64 (vI p1 0+1)))],[]))) none) none) (k2 ([.t (tI (w64 (vI p1 0+1)))],[]))))) none) (some [tI 0])
theorem e67 (n:Nat) (a0:TT):AA C (n+1) 67 [.sl 2 a0]=cnd (decide ((length a0:Int)>1000)=true) (some [tI 4]) (AH (ZM n a0) n ([.t (tI 0)],[])):=by kernel_rfl
noncomputable def TE (n:Nat) (a7:Int) (a8:ByteArray) (a0 a1 a2 a3 a4 a5 a6 a10 a9:Int) (p13:ST):RT:=cnd (vB p13 0=true) (some (zt kT [tI 2])) (both (bd [11] (AA C n 94 (zt [0,0,0,0,0,0,0] (tI a7 :: .str a8::zt [0,0,0,5,0,0] []))) fun y15=>bd kT (AA C n 2005967 (tI a0::tI a1::tI a2::tI a3::tI a4::tI a5::tI a6::tI a7 :: .str a8::tI a10::zt [0,0,5,0,0] [tI a9,.sl 8 (gL y15 0)])) fun y16=>cnd ((gI y16 14==3)=true) (some (zt kT [tI 16])) (some (gt kS y16 0 [.sl 9 (take (length (gL y16 15)) (gL y16 15)),tI 0]))) (bd [11] (AA C n 94 (zt [0,0,0,0,0,0,0] (tI a7 :: .str a8::zt [0,0,0,5,0,0] []))) fun y17=>bd kT (AA C n 2005967 (tI a0::tI a1::tI a2::tI a3::tI a4::tI a5::tI a6::tI a7 :: .str a8::tI a10::zt [0,0,5,0,0] [tI a9,.sl 8 (gL y17 0)])) fun y18=>cnd ((gI y18 14==3)=true) (some (zt kT [tI 16])) (some (gt kS y18 0 [.sl 9 (take (length (gL y18 15)) (gL y18 15)),tI 0]))))
theorem e69 (n:Nat) (a0:Int):AA C (n+1) 69 [tI a0]=bd [1] (AA C n 95 [tI a0]) fun y1=>cnd ((!(gB y1 0))=true) (some (zt [0,13,0,0] [tI 2])) (some (tI a0::zt [13,0,0,0] [])):=by kernel_rfl
theorem e70 (n:Nat) (a0:Int):AA C (n+1) 70 [tI a0]=cnd (decide (a0<0)=true) (some (zt [0,0,5,2] [tI 2])) (cnd (decide (a0>1099511627776)=true) (some (zt [0,0,5,2] [tI 2])) (some (tI a0::tI (-1)::zt [5,2,0] []))):=by kernel_rfl
theorem e72 (n:Nat) (a0 a1 a2 a3 a4 a5 a6:Int):AA C (n+1) 72 [tI a0,tI a1,tI a2,tI a3,tI a4,tI a5,tI a6]=join (Vs n a0 a1 a2 a3 a5) fun k8=>cnd (decide (a0<0)=true) (k8 ([.t (.bool true)],[])) (cnd (decide (a0≥16)=true) (k8 ([.t (.bool true)],[])) (cnd (decide (a1<0)=true) (k8 ([.t (.bool true)],[])) (cnd (decide (a1≥16)=true) (k8 ([.t (.bool true)],[])) (cnd (decide (a4<1)=true) (k8 ([.t (.bool true)],[])) (cnd (decide (a4>1000)=true) (k8 ([.t (.bool true)],[])) (cnd (decide (a5<1)=true) (k8 ([.t (.bool true)],[])) (cnd (decide (a5>1048576)=true) (k8 ([.t (.bool true)],[])) (cnd (decide (a6<0)=true) (k8 ([.t (.bool true)],[])) (k8 ([.t (.bool (decide (a6>16)))],[])))))))))):=by kernel_rfl
noncomputable def TA (n:Nat) (p9:ST) (a3:TT) (a2:ByteArray) (a0:Int) (k10:KT) (p12:ST) (k13:KT):RT:=cnd (2=2∧0≤vI p9 1) (Option.bind a3[wH (vI p9 1)]? fun y14=>cnd (okI y14 1) (cnd (decide (vI p12 1<gI y14 1)=true) (cnd (2=2∧0≤vI p9 1) (Option.bind a3[wH (vI p9 1)]? fun y15=>cnd (okI y15 1) (cnd (0≤(if w64 (w64 (vI p12 1-wG (vI p12 1) (16:Int))+16)<gI y15 1 then w64 (w64 (vI p12 1-wG (vI p12 1) (16:Int))+16) else gI y15 1)∧(if w64 (w64 (vI p12 1-wG (vI p12 1) (16:Int))+16)<gI y15 1 then w64 (w64 (vI p12 1-wG (vI p12 1) (16:Int))+16) else gI y15 1)≤(ByteArray.size a2:Int)) (cnd (0≤vI p12 1∧vI p12 1≤(wH (if w64 (w64 (vI p12 1-wG (vI p12 1) (16:Int))+16)<gI y15 1 then w64 (w64 (vI p12 1-wG (vI p12 1) (16:Int))+16) else gI y15 1):Int)) (cnd (AD p12 0=A0 p12 0∧(8=8∨8=0)∧Bu p12 0+Ah p12 0≤length (oEs p12 0)∧Ah p12 0+1≤1073741824) (k13 ([.sref 0 (A0 p12 0+1) 0 (Ah p12 0+1),.t (tI (if w64 (w64 (vI p12 1-wG (vI p12 1) (16:Int))+16)<gI y15 1 then w64 (w64 (vI p12 1-wG (vI p12 1) (16:Int))+16) else gI y15 1))],[.row false (A0 p12 0+1) 8 (take (Ah p12 0) (drop (Bu p12 0) (oEs p12 0))++[[tI 1,tI a0,tI 0,tI (vI p12 1),tI (ByteArray.size a2:Int),.bool false,.str (ByteArray.extract a2 (wH (vI p12 1)) (wH (if w64 (w64 (vI p12 1-wG (vI p12 1) (16:Int))+16)<gI y15 1 then w64 (w64 (vI p12 1-wG (vI p12 1) (16:Int))+16) else gI y15 1))),.sl 2 []]])])) none) none) none) none) none) (k10 ([.sref 0 (A0 p12 0) (Bu p12 0) (Ah p12 0),.t (tI (w64 (vI p9 1+1)))],[.row false (AD p12 0) 8 (oEs p12 0)]))) none) none
noncomputable def Vk (n:Nat) (a3:TT) (a2:ByteArray) (a0 a1:Int) (p9:ST) (k10:KT):RT:=cnd (decide (vI p9 1<(length a3:Int))=true) (cnd (2=2∧0≤vI p9 1) (Option.bind a3[wH (vI p9 1)]? fun y11=>cnd (okI y11 0) (AH (TA n p9 a3 a2 a0 k10) n ([.sref 0 (A0 p9 0) (Bu p9 0) (Ah p9 0),.t (tI (gI y11 0))],[.row false (AD p9 0) 8 (oEs p9 0)])) none) none) (cnd (AD p9 0=A0 p9 0) (cnd (AD p9 0=A0 p9 0∧8=8∧0≤w64 ((Ah p9 0:Int)-1)∧w64 ((Ah p9 0:Int)-1)<(Ah p9 0:Int)) (cnd (AD p9 0=A0 p9 0) (cnd (AD p9 0=A0 p9 0∧6≤8) (Option.bind (oEs p9 0)[Bu p9 0+wH (w64 ((Ah p9 0:Int)-1))]? fun y16=>cnd (A0 p9 0=A0 p9 0) (cnd (A0 p9 0=A0 p9 0∧8=8∧0≤w64 ((Ah p9 0:Int)-1)∧w64 ((Ah p9 0:Int)-1)<(Ah p9 0:Int)) (cnd (A0 p9 0=A0 p9 0) (cnd (A0 p9 0=A0 p9 0∧3≤8) (Option.bind (List.set (oEs p9 0) (Bu p9 0+wH (w64 ((Ah p9 0:Int)-1))) (take 5 y16++([.bool true]++drop 6 y16)))[Bu p9 0+wH (w64 ((Ah p9 0:Int)-1))]? fun y17=>cnd ((false=true∨false=false)∧A0 p9 0=A0 p9 0∧(8=8∨8=0)) (some [.sl 8 (take (Ah p9 0) (drop (Bu p9 0) (List.set (List.set (oEs p9 0) (Bu p9 0+wH (w64 ((Ah p9 0:Int)-1))) (take 5 y16++([.bool true]++drop 6 y16))) (Bu p9 0+wH (w64 ((Ah p9 0:Int)-1))) (take 2 y17++([tI a1]++drop 3 y17))))),tI 0]) none) none) none) none) none) none) none) none) none)
noncomputable def Ma (n:Nat) (a2:ByteArray) (a3:TT) (a0 a1:Int) (p4:ST):RT:=cnd (vB p4 0=true) (some [.sl 8 [],tI 2]) (cnd (((ByteArray.size a2:Int)==0)=true) (some [.sl 8 [],tI 20]) (cnd (decide ((ByteArray.size a2:Int)>65536)=true) (some [.sl 8 [],tI 4]) (bd [1] (AA C n 99 [.sl 2 a3,tI (ByteArray.size a2:Int)]) fun y8=>cnd ((!(gB y8 0))=true) (some [.sl 8 [],tI 1]) (cnd (((length a3:Int)==0)=true) (some [.sl 8 [],tI 20]) (AH (Vk n a3 a2 a0 a1) n ([.sref 0 0 0 0,.t (tI 0)],[.row false 0 8 []]))))))
theorem e73 (n:Nat) (a0 a1:Int) (a2:ByteArray) (a3:TT):AA C (n+1) 73 [tI a0,tI a1,.str a2,.sl 2 a3]=join (Ma n a2 a3 a0 a1) fun k5=>bd [1] (AA C n 98 [tI a0,tI 0,tI 1099511627776]) fun y6=>cnd ((!(gB y6 0))=true) (k5 ([.t (.bool true)],[])) (bd [1] (AA C n 98 [tI a1,tI 1,tI 1099511627776]) fun y7=>k5 ([.t (.bool (!(gB y7 0)))],[])):=by kernel_rfl
theorem e75 (n:Nat) (a0:Int):AA C (n+1) 75 [tI a0]=cnd (decide (a0≥1)=true) (some [.bool (decide (a0≤1048576))]) (some [.bool false]):=by kernel_rfl
theorem e76 (n:Nat) (a0:Int) (a1:TT) (a2 a3:Int):AA C (n+1) 76 [tI a0,.sl 10 a1,tI a2,tI a3]=bd [0] (AA C n 101 [tI a0,.sl 10 a1,tI a2,tI a3]) fun y6=>cnd (((gI y6 0) != 0)=true) (some [tI 0,.bool false]) (cnd (((length a1:Int)==0)=true) (some [tI 0,.bool false]) (Option.bind a1[0]? fun y8=>cnd (okI y8 0) (some [tI (gI y8 0),.bool true]) none)):=by kernel_rfl
noncomputable def J78_1 (n:Nat) (k18:KT) (p17 p24:ST):RT:=k18 (tv [tI (vI p24 0),tI (w64 (vI p17 1+1))],[.box (tv (ct [0,13,0,0] p24 0 0 [])),.box (tv (ct [0,13,0,0] p24 1 0 []))])
noncomputable def J78_2 (n:Nat) (p17:ST) (a13:TT) (k18:KT) (p19:ST):RT:=cnd (vB p19 0=true) (some (zt [0,13,0,0] [tI 2])) (cnd (1=1∧0≤vI p17 1) (Option.bind a13[wH (vI p17 1)]? fun y23=>cnd (okI y23 0) (join (J78_1 n k18 p17) fun k25=>cnd ((gI y23 0==cI p19 0 0)=true) (k25 ([.t (tI 0)],[.box (tv (ct [0,13,0,0] p19 0 0 [])),.box (tv (ct [0,13,0,0] p19 1 0 []))])) (k25 ([.t (tI (vI p17 0))],[.box (tv (ct [0,13,0,0] p19 0 0 [])),.box (tv (ct [0,13,0,0] p19 1 0 []))]))) none) none)
noncomputable def ZL (n:Nat) (a13:TT) (a4 a5 a6 a7 a8 a9:Int) (a10:Bool) (a11:ByteArray) (a12:TT) (p17 p26:ST) (k27:KT):RT:=cnd (decide (vI p26 0<(length a13:Int))=true) (cnd (1=1∧0≤vI p26 0) (Option.bind a13[wH (vI p26 0)]? fun y28=>cnd (okI y28 0) (bd [13] (AA C n 102 [.sl 10 (cL p26 0 1),tI (w64 (a4+gI y28 0)),tI (cI p26 0 2),tI a5,tI a6,tI a7,tI a8,tI a9,.bool a10,.str a11,.sl 2 a12]) fun y29=>k27 ([.t (tI (w64 (vI p26 0+1)))],[.box (tv [tI (cI p26 0 0),.sl 10 (gL y29 0),tI (cI p26 0 2),tI (cI p26 0 3)]),.box (tv (ct [0,13,0,0] p26 1 0 []))])) none) none) (some [tI (cI p26 0 0),.sl 10 (cL p26 0 1),tI (w64 (cI p26 0 2+1)),tI (w64 (cI p26 0 3+vI p17 0)),tI 0])
noncomputable def ZK (n:Nat) (a13:TT) (a4 a5 a6 a7 a8 a9:Int) (a10:Bool) (a11:ByteArray) (a12:TT) (p17:ST) (k18:KT):RT:=cnd (decide (vI p17 1<(length a13:Int))=true) (join (J78_2 n p17 a13 k18) fun k20=>cnd (1=1∧0≤vI p17 1) (Option.bind a13[wH (vI p17 1)]? fun y21=>cnd (okI y21 0) (cnd (decide (gI y21 0<cI p17 0 0)=true) (k20 ([.t (.bool true)],[.box (tv (ct [0,13,0,0] p17 0 0 [])),.box (tv (ct [0,13,0,0] p17 1 0 []))])) (cnd (1=1∧0≤vI p17 1) (Option.bind a13[wH (vI p17 1)]? fun y22=>cnd (okI y22 0) (k20 ([.t (.bool (decide (gI y22 0>w64 (2*cI p17 0 0))))],[.box (tv (ct [0,13,0,0] p17 0 0 [])),.box (tv (ct [0,13,0,0] p17 1 0 []))])) none) none)) none) none) (cnd (decide (w64 ((length (cL p17 0 1):Int)+(length a13:Int))>10000)=true) (some (zt [0,13,0,0] [tI 4])) (AH (ZL n a13 a4 a5 a6 a7 a8 a9 a10 a11 a12 p17) n ([.t (tI 0)],[.box (tv (ct [0,13,0,0] p17 0 0 [])),.box (tv (ct [0,13,0,0] p17 1 0 []))])))
noncomputable def J78_5 (n:Nat) (a13:TT) (a4 a5 a6 a7 a8 a9:Int) (a10:Bool) (a11:ByteArray) (a12:TT) (p15:ST):RT:=cnd (vB p15 0=true) (some (zt [0,13,0,0] [tI 2])) (AH (ZK n a13 a4 a5 a6 a7 a8 a9 a10 a11 a12) n (tv [tI 1,tI 0],[.box (tv (ct [0,13,0,0] p15 0 0 [])),.box (tv (ct [0,13,0,0] p15 1 0 []))]))
theorem e78 (n:Nat) (a0:Int) (a1:TT) (a2 a3 a4 a5 a6 a7 a8 a9:Int) (a10:Bool) (a11:ByteArray) (a12 a13:TT):AA C (n+1) 78 [tI a0,.sl 10 a1,tI a2,tI a3,tI a4,tI a5,tI a6,tI a7,tI a8,tI a9,.bool a10,.str a11,.sl 2 a12,.sl 1 a13]=bd [0] (AA C n 101 [tI a0,.sl 10 a1,tI a2,tI a3]) fun y14=>cnd (((gI y14 0) != 0)=true) (some (zt [0,13,0,0] [tI 1])) (join (J78_5 n a13 a4 a5 a6 a7 a8 a9 a10 a11 a12) fun k16=>cnd (decide (a4<0)=true) (k16 ([.t (.bool true)],[.box (tv [tI a0,.sl 10 a1,tI a2,tI a3]),.box (tv (zt [0,13,0,0] []))])) (k16 ([.t (.bool (decide (a4>1099511627776)))],[.box (tv [tI a0,.sl 10 a1,tI a2,tI a3]),.box (tv (zt [0,13,0,0] []))]))):=by kernel_rfl
theorem e80 (n:Nat) (a0:Int) (a1:TT) (a2 a3:Int):AA C (n+1) 80 [tI a0,.sl 10 a1,tI a2,tI a3]=bd [0] (AA C n 101 [tI a0,.sl 10 a1,tI a2,tI a3]) fun y4=>cnd (((gI y4 0) != 0)=true) (some (zt [0,13,0,0,0,0,0,0,0,0,0,1,2,5] [tI 1])) (cnd (((length a1:Int)==0)=true) (some (zt [0,13,0,0,0,0,0,0,0,0,0,1,2,5] [tI 20])) (Option.bind a1[0]? fun y5=>bk [0,0,0,0,0,0,0,1,2,5] 0 y5 (cnd ((0:Int)≤1∧1≤(length a1:Int)) (some (tI a0 :: .sl 10 (drop 1 (take (length a1) a1))::tI a2::tI a3::gt [0,0,0,0,0,0,0,1,2,5] y5 0 [tI 0])) none))):=by kernel_rfl
theorem e81 (n:Nat) (a0 a1:Int) (a2:TT) (a3:ByteArray):AA C (n+1) 81 [tI a0,tI a1,.sl 2 a2,.str a3]=bd [0] (AA C n 105 [tI a0,tI a1,.sl 2 a2,.str a3]) fun y6=>cnd ((gI y6 0==0)=true) (cnd (((length a2:Int)==1)=true) (Option.bind a2[0]? fun y7=>cnd (okI y7 0) (cnd ((gI y7 0==0)=true) (Option.bind a2[0]? fun y8=>cnd (okI y8 1) (some [.bool (gI y8 1==a1)]) none) (some [.bool false])) none) (some [.bool false])) (some [.bool false]):=by kernel_rfl
noncomputable def S9 (n:Nat) (a10:ByteArray) (a7 a8:Int) (a2:TT) (a9:Bool) (a0 a6:Int) (p20:ST) (k21:KT):RT:=cnd (decide (vI p20 0<(ByteArray.size a10:Int))=true) (cnd (0≤vI p20 0∧vI p20 0<(ByteArray.size a10:Int)) (cnd (AD p20 1=0∧1=1∧0≤w64 (a7+vI p20 0)∧w64 (a7+vI p20 0)<(wH a8:Int)) (cnd (AD p20 1=0∧1≤1) (Option.bind (oEs p20 1)[0+wH (w64 (a7+vI p20 0))]? fun y22=>k21 ([.t (tI (w64 (vI p20 0+1)))],[.box (tv (ct [0,0,5,2] p20 0 0 [])),.row false 0 1 (List.set (oEs p20 1) (0+wH (w64 (a7+vI p20 0))) ([.int IntKind.u8 (Dp a10 (wH (vI p20 0)))]++drop 1 y22))])) none) none) none) (cnd (AD p20 1=0∧(1=1∨1=0)) (cnd (KM (take (wH a8) (oEs p20 1))=true) (bd [5,0] (AA C n 108 [.sl 2 a2,.sl 2 [[tI a7,tI (w64 (a7+(ByteArray.size a10:Int)))]]]) fun y23=>cnd ((!a9)=true) (some [tI a0,tI a8,.sl 2 (gL y23 0),.str (bytesOf (take (wH a8) (oEs p20 1))),.sl 8 [],tI 0]) (bd [0,0,0,0,0,1,2,5,0] (AA C n 109 [tI a0,tI a6,tI a8,.sl 2 (gL y23 0)]) fun y24=>some [tI a0,tI a8,.sl 2 (gL y23 0),.str (bytesOf (take (wH a8) (oEs p20 1))),.sl 8 [[tI (gI y24 0),tI (gI y24 1),tI (gI y24 2),tI (gI y24 3),tI (gI y24 4),.bool (gB y24 5),.str (gS y24 6),.sl 2 (gL y24 7)]],tI 0])) none) none)
noncomputable def Vj (n:Nat) (a3:ByteArray) (a8:Int) (a10:ByteArray) (a7:Int) (a2:TT) (a9:Bool) (a0 a6:Int) (p17:ST) (k18:KT):RT:=cnd (decide (vI p17 0<(ByteArray.size a3:Int))=true) (cnd (0≤vI p17 0∧vI p17 0<(ByteArray.size a3:Int)) (cnd (AD p17 1=0∧1=1∧0≤vI p17 0∧vI p17 0<(wH a8:Int)) (cnd (AD p17 1=0∧1≤1) (Option.bind (oEs p17 1)[0+wH (vI p17 0)]? fun y19=>k18 ([.t (tI (w64 (vI p17 0+1)))],[.box (tv (ct [0,0,5,2] p17 0 0 [])),.row false 0 1 (List.set (oEs p17 1) (0+wH (vI p17 0)) ([.int IntKind.u8 (Dp a3 (wH (vI p17 0)))]++drop 1 y19))])) none) none) none) (AH (S9 n a10 a7 a8 a2 a9 a0 a6) n ([.t (tI 0)],[.box (tv (ct [0,0,5,2] p17 0 0 [])),.row false (AD p17 1) 1 (oEs p17 1)]))
noncomputable def Vr (n:Nat) (a0 a1:Int) (a2:TT) (a3:ByteArray) (a4 a5 a6 a7 a8:Int) (a9:Bool) (a10:ByteArray) (a11:TT) (p12:ST):RT:=cnd (vB p12 0=true) (some (zt [0,0,5,2,11] [tI 1])) (bd [1] (AA C n 107 [tI a0,tI a1,.sl 2 a2,.str a3,tI a4,tI a5,tI a6,tI a7,tI a8,.bool a9,.str a10,.sl 2 a11]) fun y16=>cnd ((!(gB y16 0))=true) (some [tI a0,tI a1,.sl 2 a2,.str a3,.sl 8 [],tI 0]) (cnd (a8=a8∧0≤a8∧a8≤1073741824∧1=1) (AH (Vj n a3 a8 a10 a7 a2 a9 a0 a6) n ([.t (tI 0)],[.box (tv (ct [0,0,5,2] p12 0 0 [])),.row false 0 1 (yB (wH a8) [.int IntKind.u8 (0:Int)])])) none))
theorem e82 (n:Nat) (a0 a1:Int) (a2:TT) (a3:ByteArray) (a4 a5 a6 a7 a8:Int) (a9:Bool) (a10:ByteArray) (a11:TT):AA C (n+1) 82 [tI a0,tI a1,.sl 2 a2,.str a3,tI a4,tI a5,tI a6,tI a7,tI a8,.bool a9,.str a10,.sl 2 a11]=join (Vr n a0 a1 a2 a3 a4 a5 a6 a7 a8 a9 a10 a11) fun k13=>bd [0] (AA C n 105 [tI a0,tI a1,.sl 2 a2,.str a3]) fun y14=>cnd (((gI y14 0) != 0)=true) (k13 ([.t (.bool true)],[.box (tv (zt [0,0,5,2] []))])) (bd [0] (AA C n 106 [tI a4,tI a5,tI a6,tI a7,tI a8,.bool a9,.str a10,.sl 2 a11]) fun y15=>k13 ([.t (.bool ((gI y15 0) != 0))],[.box (tv (zt [0,0,5,2] []))])):=by kernel_rfl
noncomputable def Oe (n:Nat) (a23:TT) (a15:Int) (p32:ST):RT:=cnd (vB p32 0=true) (some (ct kS p32 0 0 [.sl 9 [],tI 0])) (bd [5,0] (AA C n 108 [.sl 2 (cL p32 0 12),.sl 2 a23]) fun y34=>cnd (((gI y34 1) != 0)=true) (some (ct kS p32 0 0 [.sl 9 [],tI 0])) (bd [5] (AA C n 111 (ct [0,0,0,0,0,0,0,0,2,0,0,0] p32 0 0 [.sl 2 (gL y34 0),tI (cI p32 0 13),tI (cI p32 0 14)])) fun y35=>cnd (((length (gL y35 0):Int)==0)=true) (some (ct [0,0,0,0,0,0,0,0,2,0,0,0] p32 0 0 [.sl 2 (gL y34 0),tI 0,tI 2,.sl 9 [],tI 0])) (cnd ((cI p32 0 11==1099511627776)=true) (some (ct [0,0,0,0,0,0,0,0,2,0,0,0] p32 0 0 [.sl 2 (gL y34 0),tI 0,tI 3,.sl 9 [],tI 0])) (bd [11,0] (AA C n 73 [tI (cI p32 0 7),tI (w64 (cI p32 0 11+1)),.str (cS p32 0 8),.sl 2 (gL y35 0)]) fun y36=>bd kT (AA C n 2004751 (ct [0,0,0,0,0,0,0,0,2,0,0,0] p32 0 0 [.sl 2 (gL y34 0),tI (cI p32 0 13),tI (cI p32 0 14),.sl 8 (gL y36 0),tI a15])) fun y37=>some (gt kS y37 0 [.sl 9 (take (length (gL y37 15)) (gL y37 15)),tI 0])))))
noncomputable def JP (n:Nat) (a16:Int) (a23:TT) (a15 a18 a20:Int) (p30:ST):RT:=cnd (vB p30 0=true) (some (ct kS p30 0 0 [.sl 9 [],tI 0])) (cnd ((a16==3)=true) (some (ct [0,0,0,0,0,0,0,0,2,0,0,0,5] p30 0 0 [tI 0,tI 3,.sl 9 [],tI 0])) (join (Oe n a23 a15) fun k33=>cnd ((a16 != 2)=true) (k33 ([.t (.bool true)],[.box (tv (ct kS p30 0 0 [])),.box (tv (ct kS p30 1 0 []))])) (cnd ((a18 != cI p30 0 11)=true) (k33 ([.t (.bool true)],[.box (tv (ct kS p30 0 0 [])),.box (tv (ct kS p30 1 0 []))])) (k33 ([.t (.bool (a20 != (ByteArray.size (cS p30 0 8):Int)))],[.box (tv (ct kS p30 0 0 [])),.box (tv (ct kS p30 1 0 []))])))))
noncomputable def Ha (n:Nat) (a16:Int) (a23:TT) (a15 a18 a20 a17:Int) (p28:ST):RT:=cnd (vB p28 0=true) (some (zt kT [tI 2])) (join (JP n a16 a23 a15 a18 a20) fun k31=>cnd (((cI p28 0 14) != 1)=true) (k31 ([.t (.bool true)],[.box (tv (ct kS p28 0 0 [])),.box (tv (ct kS p28 1 0 []))])) (k31 ([.t (.bool (a17 != cI p28 0 7))],[.box (tv (ct kS p28 0 0 [])),.box (tv (ct kS p28 1 0 []))])))
noncomputable def F7 (n:Nat) (a16:Int) (a23:TT) (a15 a18 a20 a17:Int) (p24:ST):RT:=cnd (vB p24 0=true) (some (zt kT [tI 1])) (join (Ha n a16 a23 a15 a18 a20 a17) fun k29=>cnd (decide (a15<cI p24 0 10)=true) (k29 ([.t (.bool true)],[.box (tv (ct kS p24 0 0 [])),.box (tv (ct kS p24 1 0 []))])) (k29 ([.t (.bool (decide (a15>2199023255552)))],[.box (tv (ct kS p24 0 0 [])),.box (tv (ct kS p24 1 0 []))])))
theorem e83 (n:Nat) (a0 a1 a2 a3 a4 a5 a6 a7:Int) (a8:ByteArray) (a9 a10 a11:Int) (a12:TT) (a13 a14 a15 a16 a17 a18 a19 a20:Int) (a21:Bool) (a22:ByteArray) (a23:TT):AA C (n+1) 83 [tI a0,tI a1,tI a2,tI a3,tI a4,tI a5,tI a6,tI a7,.str a8,tI a9,tI a10,tI a11,.sl 2 a12,tI a13,tI a14,tI a15,tI a16,tI a17,tI a18,tI a19,tI a20,.bool a21,.str a22,.sl 2 a23]=join (F7 n a16 a23 a15 a18 a20 a17) fun k25=>bd [0] (AA C n 110 [tI a0,tI a1,tI a2,tI a3,tI a4,tI a5,tI a6,tI a7,.str a8,tI a9,tI a10,tI a11,.sl 2 a12,tI a13,tI a14]) fun y26=>cnd (((gI y26 0) != 0)=true) (k25 ([.t (.bool true)],[.box (tv [tI a0,tI a1,tI a2,tI a3,tI a4,tI a5,tI a6,tI a7,.str a8,tI a9,tI a10,tI a11,.sl 2 a12,tI a13,tI a14]),.box (tv (zt kS []))])) (bd [0] (AA C n 106 [tI a16,tI a17,tI a18,tI a19,tI a20,.bool a21,.str a22,.sl 2 a23]) fun y27=>k25 ([.t (.bool ((gI y27 0) != 0))],[.box (tv [tI a0,tI a1,tI a2,tI a3,tI a4,tI a5,tI a6,tI a7,.str a8,tI a9,tI a10,tI a11,.sl 2 a12,tI a13,tI a14]),.box (tv (zt kS []))])):=by kernel_rfl
noncomputable def TD (n:Nat) (a15:Int) (p17:ST):RT:=cnd (vB p17 0=true) (some (zt kT [tI 2])) (cnd ((cI p17 0 11==1099511627776)=true) (some (ct [0,0,0,0,0,0,0,0,2,0,0,0,5] p17 0 0 [tI 0,tI 3,.sl 9 [],tI 0])) (bd [5] (AA C n 111 (ct kS p17 0 0 [])) fun y19=>bd [11,0] (AA C n 73 [tI (cI p17 0 7),tI (w64 (cI p17 0 11+1)),.str (cS p17 0 8),.sl 2 (gL y19 0)]) fun y20=>cnd (0≤w64 ((length (gL y20 0):Int)-1)∧w64 ((length (gL y20 0):Int)-1)≤(length (gL y20 0):Int)) (bd kT (AA C n 2004751 (ct kS p17 0 0 [.sl 8 (drop (wH (w64 ((length (gL y20 0):Int)-1))) (take (length (gL y20 0)) (gL y20 0))),tI a15])) fun y21=>some (gt kS y21 0 [.sl 9 (take (length (gL y21 15)) (gL y21 15)),tI 0])) none))
theorem e84 (n:Nat) (a0 a1 a2 a3 a4 a5 a6 a7:Int) (a8:ByteArray) (a9 a10 a11:Int) (a12:TT) (a13 a14 a15:Int):AA C (n+1) 84 [tI a0,tI a1,tI a2,tI a3,tI a4,tI a5,tI a6,tI a7,.str a8,tI a9,tI a10,tI a11,.sl 2 a12,tI a13,tI a14,tI a15]=bd [0] (AA C n 110 [tI a0,tI a1,tI a2,tI a3,tI a4,tI a5,tI a6,tI a7,.str a8,tI a9,tI a10,tI a11,.sl 2 a12,tI a13,tI a14]) fun y16=>cnd (((gI y16 0) != 0)=true) (some (zt kT [tI 1])) (cnd ((a14 != 1)=true) (some (zt kT [tI 19])) (join (TD n a15) fun k18=>cnd (decide (a15<a13)=true) (k18 ([.t (.bool true)],[.box (tv [tI a0,tI a1,tI a2,tI a3,tI a4,tI a5,tI a6,tI a7,.str a8,tI a9,tI a10,tI a11,.sl 2 a12,tI a13,tI a14]),.box (tv (zt kS []))])) (k18 ([.t (.bool (decide (a15>2199023255552)))],[.box (tv [tI a0,tI a1,tI a2,tI a3,tI a4,tI a5,tI a6,tI a7,.str a8,tI a9,tI a10,tI a11,.sl 2 a12,tI a13,tI a14]),.box (tv (zt kS []))])))):=by kernel_rfl
theorem e86 (n:Nat) (a0 a1 a2 a3 a4 a5 a6 a7:Int):AA C (n+1) 86 [tI a0,tI a1,tI a2,tI a3,tI a4,tI a5,tI a6,tI a7]=bd [0] (AA C n 72 [tI a0,tI a1,tI a2,tI a3,tI a4,tI a5,tI a6]) fun y8=>cnd (((gI y8 0) != 0)=true) (some [tI 1]) (cnd (decide (a7<1)=true) (some [tI 2]) (cnd (decide (a7>65536)=true) (some [tI 2]) (some [tI 0]))):=by kernel_rfl
theorem e87 (n:Nat) (a0 a1 a2 a3 a4 a5 a6 a7 a8:Int):AA C (n+1) 87 [tI a0,tI a1,tI a2,tI a3,tI a4,tI a5,tI a6,tI a7,tI a8]=bd [0] (AA C n 86 [tI a0,tI a1,tI a2,tI a3,tI a4,tI a5,tI a6,tI a8]) fun y11=>cnd ((gI y11 0==0)=true) (cnd (decide (a7≥a2)=true) (cnd (decide (a7≤a3)=true) (bd [0] (AA C n 88 [tI a0,tI a1,tI a2,tI a3,tI a4,tI a5,tI a6,tI a8]) fun y12=>some [.bool (decide (w64 (a7+gI y12 0)≤a3))]) (some [.bool false])) (some [.bool false])) (some [.bool false]):=by kernel_rfl
theorem e88 (n:Nat) (a0 a1 a2 a3 a4 a5 a6 a7:Int):AA C (n+1) 88 [tI a0,tI a1,tI a2,tI a3,tI a4,tI a5,tI a6,tI a7]=bd [0] (AA C n 112 [tI a0,tI a1,tI a2,tI a3,tI a4,tI a5,tI a6,tI a7]) fun y8=>bd [0] (AA C n 113 [tI a0,tI a1,tI a2,tI a3,tI a4,tI a5,tI a6,tI 16]) fun y9=>some [tI (w64 (gI y8 0+w64 (a6*w64 (w64 (w64 (2*a5)+1)+gI y9 0))))]:=by kernel_rfl
theorem e91 (n:Nat) (a0 a1:Int):AA C (n+1) 91 [tI a0,tI a1]=cnd (decide (a0<a1)=true) (cnd (decide (a0≥(-1152921504606846976))=true) (some [.bool (decide (a1≤1152921504606846976))]) (some [.bool false])) (some [.bool false]):=by kernel_rfl
theorem e92 (n:Nat) (a0 a1 a2:Int):AA C (n+1) 92 [tI a0,tI a1,tI a2]=cnd (decide (a0≥a1)=true) (some [.bool (decide (a0≤a2))]) (some [.bool false]):=by kernel_rfl
theorem e94 (n:Nat) (a0 a1 a2 a3 a4 a5 a6 a7:Int) (a8:ByteArray) (a9 a10 a11:Int) (a12:TT) (a13 a14:Int):AA C (n+1) 94 [tI a0,tI a1,tI a2,tI a3,tI a4,tI a5,tI a6,tI a7,.str a8,tI a9,tI a10,tI a11,.sl 2 a12,tI a13,tI a14]=bd [5] (AA C n 119 [tI a0,tI a1,tI a2,tI a3,tI a4,tI a5,tI a6,tI a7,.str a8,tI a9,tI a10,tI a11,.sl 2 a12,tI a13,tI a14]) fun y15=>bd [11,0] (AA C n 118 [tI a7,tI (w64 (a11+1)),.str a8,.sl 2 (gL y15 0)]) fun y16=>some [.sl 8 (gL y16 0)]:=by kernel_rfl
theorem e95 (n:Nat) (a0:Int):AA C (n+1) 95 [tI a0]=cnd (decide (a0≥1)=true) (some [.bool (decide (a0≤1048576))]) (some [.bool false]):=by kernel_rfl
theorem e98 (n:Nat) (a0 a1 a2:Int):AA C (n+1) 98 [tI a0,tI a1,tI a2]=cnd (decide (a0≥a1)=true) (some [.bool (decide (a0≤a2))]) (some [.bool false]):=by kernel_rfl
theorem e99 (n:Nat) (a0:TT) (a1:Int):AA C (n+1) 99 [.sl 2 a0,tI a1]=bd [0] (AA C n 31 [.sl 2 a0]) fun y2=>cnd (((gI y2 0) != 0)=true) (some [.bool false]) (cnd (((length a0:Int)==0)=true) (some [.bool true]) (Option.bind a0[0]? fun y5=>cnd (okI y5 0) (cnd (decide (gI y5 0≥(0:Int))=true) (cnd (2=2∧0≤w64 ((length a0:Int)-1)) (Option.bind a0[wH (w64 ((length a0:Int)-1))]? fun y6=>cnd (okI y6 1) (some [.bool (decide (gI y6 1≤a1))]) none) none) (some [.bool false])) none)):=by kernel_rfl
theorem e100 (n:Nat) (a0 a1 a2 a3 a4 a5:Int) (a6:Bool) (a7:ByteArray) (a8:TT):AA C (n+1) 100 [tI a0,tI a1,tI a2,tI a3,tI a4,tI a5,.bool a6,.str a7,.sl 2 a8]=bd [0] (AA C n 106 [tI a1,tI a2,tI a3,tI a4,tI a5,.bool a6,.str a7,.sl 2 a8]) fun y9=>cnd (((gI y9 0) != 0)=true) (some [tI 0,tI 1]) (bd [1] (AA C n 98 [tI a0,tI 1,tI 1000]) fun y10=>cnd ((!(gB y10 0))=true) (some [tI 0,tI 2]) (cnd ((a1 != 1)=true) (some [tI 0,tI 0]) (cnd (a0=0) none (some [tI (w64 (wF (w64 (w64 (w64 ((ByteArray.size a7:Int)+8)+a0)-1)) a0)),tI 0])))):=by kernel_rfl
noncomputable def Oj (n:Nat) (p15:ST) (a1:TT) (y17:List Tree) (k16:KT) (p18:ST):RT:=cnd (vB p18 0=true) (some [tI 2]) (cnd (decide (vI p15 0>0)=true) (cnd (10=10∧0≤w64 (vI p15 0-1)) (Option.bind a1[wH (w64 (vI p15 0-1))]? fun y22=>cnd (okI y22 0) (cnd (decide (gI y17 0<gI y22 0)=true) (some [tI 9]) (k16 ([.t (tI (w64 (vI p15 0+1)))],[]))) none) none) (k16 ([.t (tI (w64 (vI p15 0+1)))],[])))
noncomputable def IV (n:Nat) (a1:TT) (a2:Int) (p15:ST) (k16:KT):RT:=cnd (decide (vI p15 0<(length a1:Int))=true) (cnd (10=10∧0≤vI p15 0) (Option.bind a1[wH (vI p15 0)]? fun y17=>bk [0,0,0,0,0,0,0,1,2,5] 0 y17 (join (Oj n p15 a1 y17 k16) fun k19=>cnd (decide (gI y17 0<0)=true) (k19 ([.t (.bool true)],[.box []])) (cnd (decide (gI y17 0>2199023255552)=true) (k19 ([.t (.bool true)],[.box []])) (cnd (decide (gI y17 1<0)=true) (k19 ([.t (.bool true)],[.box []])) (k19 ([.t (.bool (decide (gI y17 1≥a2)))],[.box []])))))) none) (some [tI 0])
theorem e101 (n:Nat) (a0:Int) (a1:TT) (a2 a3:Int):AA C (n+1) 101 [tI a0,.sl 10 a1,tI a2,tI a3]=bd [1] (AA C n 75 [tI a0]) fun y6=>cnd ((!(gB y6 0))=true) (some [tI 2]) (cnd (decide (a2<0)=true) (some [tI 2]) (cnd (decide (a3<0)=true) (some [tI 2]) (cnd (decide (a3>a2)=true) (some [tI 2]) (cnd (decide ((length a1:Int)>10000)=true) (some [tI 4]) (AH (IV n a1 a2) n ([.t (tI 0)],[])))))):=by kernel_rfl
noncomputable def RQ (n:Nat) (p11:ST) (a0:TT) (k12:KT) (p16:ST):RT:=cnd (10=10∧0≤vI p11 2) (Option.bind a0[wH (vI p11 2)]? fun y18=>bk [0,0,0,0,0,0,0,1,2,5] 0 y18 (cnd (AD p16 0=A0 p16 0∧(10=10∨10=0)∧Bu p16 0+Ah p16 0≤length (oEs p16 0)∧Ah p16 0+1≤1073741824) (k12 ([.sref 0 (A0 p16 0+1) 0 (Ah p16 0+1),.t (.bool (vB p16 1)),.t (tI (w64 (vI p11 2+1)))],[.row false (A0 p16 0+1) 10 (take (Ah p16 0) (drop (Bu p16 0) (oEs p16 0))++[[tI (gI y18 0),tI (gI y18 1),tI (gI y18 2),tI (gI y18 3),tI (gI y18 4),tI (gI y18 5),tI (gI y18 6),.bool (gB y18 7),.str (gS y18 8),.sl 2 (gL y18 9)]])])) none)) none
noncomputable def RP (n:Nat) (p11:ST) (a0:TT) (k12:KT) (a1 a2 a3 a4 a5 a6 a7:Int) (a8:Bool) (a9:ByteArray) (a10:TT) (p13:ST):RT:=join (RQ n p11 a0 k12) fun k17=>cnd (vB p13 0=true) (cnd (AD p13 0=A0 p11 0∧(10=10∨10=0)∧Bu p11 0+Ah p11 0≤length (oEs p13 0)∧Ah p11 0+1≤1073741824) (k17 ([.sref 0 (A0 p11 0+1) 0 (Ah p11 0+1),.t (.bool true)],[.row false (A0 p11 0+1) 10 (take (Ah p11 0) (drop (Bu p11 0) (oEs p13 0))++[[tI a1,tI a2,tI a3,tI a4,tI a5,tI a6,tI a7,.bool a8,Tree.str a9,.sl 2 a10]])])) none) (k17 ([.sref 0 (A0 p11 0) (Bu p11 0) (Ah p11 0),.t (.bool (vB p11 1))],[.row false (AD p13 0) 10 (oEs p13 0)]))
noncomputable def Lx (n:Nat) (a0:TT) (a1 a2 a3 a4 a5 a6 a7:Int) (a8:Bool) (a9:ByteArray) (a10:TT) (p11:ST) (k12:KT):RT:=cnd (decide (vI p11 2<(length a0:Int))=true) (join (RP n p11 a0 k12 a1 a2 a3 a4 a5 a6 a7 a8 a9 a10) fun k14=>cnd ((!(vB p11 1))=true) (cnd (10=10∧0≤vI p11 2) (Option.bind a0[wH (vI p11 2)]? fun y15=>cnd (okI y15 0) (k14 ([.t (.bool (decide (gI y15 0>a1)))],[.row false (AD p11 0) 10 (oEs p11 0)])) none) none) (k14 ([.t (.bool false)],[.row false (AD p11 0) 10 (oEs p11 0)]))) (cnd ((!(vB p11 1))=true) (cnd (AD p11 0=A0 p11 0∧(10=10∨10=0)∧Bu p11 0+Ah p11 0≤length (oEs p11 0)∧Ah p11 0+1≤1073741824) (cnd ((false=true∨false=false)∧A0 p11 0+1=A0 p11 0+1∧(10=10∨10=0)) (some [.sl 10 (take (Ah p11 0+1) (take (Ah p11 0) (drop (Bu p11 0) (oEs p11 0))++[[tI a1,tI a2,tI a3,tI a4,tI a5,tI a6,tI a7,.bool a8,.str a9,.sl 2 a10]]))]) none) none) (cnd ((false=true∨false=false)∧AD p11 0=A0 p11 0∧(10=10∨10=0)) (some [.sl 10 (take (Ah p11 0) (drop (Bu p11 0) (oEs p11 0)))]) none))
theorem e102 (n:Nat) (a0:TT) (a1 a2 a3 a4 a5 a6 a7:Int) (a8:Bool) (a9:ByteArray) (a10:TT):AA C (n+1) 102 [.sl 10 a0,tI a1,tI a2,tI a3,tI a4,tI a5,tI a6,tI a7,.bool a8,.str a9,.sl 2 a10]=AH (Lx n a0 a1 a2 a3 a4 a5 a6 a7 a8 a9 a10) n ([.sref 0 0 0 0,.t (.bool false),.t (tI 0)],[.row false 0 10 []]):=by kernel_rfl
noncomputable def UR (n:Nat) (a0:TT) (a1:Int) (p3:ST) (k4:KT):RT:=cnd (decide (vI p3 0<(length a0:Int))=true) (cnd (2=2∧0≤vI p3 0) (Option.bind a0[wH (vI p3 0)]? fun y7=>cnd (okI y7 0) (cnd (decide (gI y7 0≤a1)=true) (cnd (2=2∧0≤vI p3 0) (Option.bind a0[wH (vI p3 0)]? fun y8=>cnd (okI y8 1) (cnd (decide (a1<gI y8 1)=true) (some [.bool true]) (k4 ([.t (tI (w64 (vI p3 0+1)))],[]))) none) none) (k4 ([.t (tI (w64 (vI p3 0+1)))],[]))) none) none) (some [.bool false])
theorem e103 (n:Nat) (a0:TT) (a1:Int):AA C (n+1) 103 [.sl 2 a0,tI a1]=bd [0] (AA C n 31 [.sl 2 a0]) fun y2=>cnd (((gI y2 0) != 0)=true) (some [.bool false]) (AH (UR n a0 a1) n ([.t (tI 0)],[])):=by kernel_rfl
theorem e104 (n:Nat) (a0 a1:Int):AA C (n+1) 104 [tI a0,tI a1]=bd [1] (AA C n 75 [tI a1]) fun y2=>cnd ((!(gB y2 0))=true) (some [.sl 1 [],tI 2]) (bd [0,0] (AA C n 128 [tI a0,tI 8]) fun y3=>bd [0,0] (AA C n 128 [tI (gI y3 0),tI a1]) fun y4=>cnd (decide (gI y3 1<4)=true) (some [.sl 1 [[tI a1]],tI 0]) (cnd (decide (gI y3 1<6)=true) (some [.sl 1 [[tI a1],[tI (w64 (w64 (a1+1)+gI y4 1))]],tI 0]) (cnd ((gI y3 1==6)=true) (some [.sl 1 [[tI (w64 (w64 (a1+1)+gI y4 1))]],tI 0]) (some [.sl 1 [],tI 0])))):=by kernel_rfl
noncomputable def UQ (n:Nat) (a3:ByteArray) (a2:TT) (p7:ST) (k8:KT):RT:=cnd (decide (vI p7 0<(ByteArray.size a3:Int))=true) (cnd (0≤vI p7 0∧vI p7 0<(ByteArray.size a3:Int)) (cnd (((Dp a3 (wH (vI p7 0))) != 0)=true) (bd [1] (AA C n 103 [.sl 2 a2,tI (vI p7 0)]) fun y11=>cnd ((!(gB y11 0))=true) (some [tI 24]) (k8 ([.t (tI (w64 (vI p7 0+1)))],[]))) (k8 ([.t (tI (w64 (vI p7 0+1)))],[]))) none) (some [tI 0])
noncomputable def Ua (n:Nat) (a0 a1:Int) (a2:TT) (a3:ByteArray) (p4:ST):RT:=cnd (vB p4 0=true) (some [tI 2]) (bd [1] (AA C n 129 [tI a0,tI a1,.sl 2 a2,.str a3]) fun y6=>cnd ((!(gB y6 0))=true) (some [tI 1]) (cnd (((ByteArray.size a3:Int) != (if 0>a1 then (0:Int) else a1))=true) (some [tI 10]) (AH (UQ n a3 a2) n ([.t (tI 0)],[]))))
theorem e105 (n:Nat) (a0 a1:Int) (a2:TT) (a3:ByteArray):AA C (n+1) 105 [tI a0,tI a1,.sl 2 a2,.str a3]=join (Ua n a0 a1 a2 a3) fun k5=>cnd (decide (a0<0)=true) (k5 ([.t (.bool true)],[])) (cnd (decide (a0>1099511627776)=true) (k5 ([.t (.bool true)],[])) (cnd ((a1 != (-1))=true) (cnd (decide (a1<1)=true) (k5 ([.t (.bool true)],[])) (k5 ([.t (.bool (decide (a1>65536)))],[]))) (k5 ([.t (.bool false)],[])))):=by kernel_rfl
theorem e106 (n:Nat) (a0 a1 a2 a3 a4:Int) (a5:Bool) (a6:ByteArray) (a7:TT):AA C (n+1) 106 [tI a0,tI a1,tI a2,tI a3,tI a4,.bool a5,.str a6,.sl 2 a7]=bd [1] (AA C n 98 [tI a0,tI 1,tI 3]) fun y8=>cnd ((!(gB y8 0))=true) (some [tI 8]) (bd [1] (AA C n 130 [tI a0,tI a1,tI a2,tI a3,tI a4,.bool a5,.str a6,.sl 2 a7]) fun y9=>cnd ((!(gB y9 0))=true) (some [tI 2]) (bd [1] (AA C n 131 [tI a0,tI a1,tI a2,tI a3,tI a4,.bool a5,.str a6,.sl 2 a7]) fun y10=>cnd ((!(gB y10 0))=true) (some [tI 1]) (some [tI 0]))):=by kernel_rfl
noncomputable def IU (n:Nat) (a10:ByteArray) (a2:TT) (a7:Int) (a3:ByteArray) (p20:ST) (k21:KT):RT:=cnd (decide (vI p20 0<(ByteArray.size a10:Int))=true) (bd [1] (AA C n 103 [.sl 2 a2,tI (w64 (a7+vI p20 0))]) fun y24=>cnd (gB y24 0=true) (cnd (0≤w64 (a7+vI p20 0)∧w64 (a7+vI p20 0)<(ByteArray.size a3:Int)) (cnd (0≤vI p20 0∧vI p20 0<(ByteArray.size a10:Int)) (cnd (((Dp a3 (wH (w64 (a7+vI p20 0)))) != Dp a10 (wH (vI p20 0)))=true) (some [.bool false]) (k21 ([.t (tI (w64 (vI p20 0+1)))],[]))) none) none) (k21 ([.t (tI (w64 (vI p20 0+1)))],[]))) (bd [5,0] (AA C n 108 [.sl 2 a2,.sl 2 [[tI a7,tI (w64 (a7+(ByteArray.size a10:Int)))]]]) fun y25=>some [.bool (gI y25 1==0)])
theorem e107 (n:Nat) (a0 a1:Int) (a2:TT) (a3:ByteArray) (a4 a5 a6 a7 a8:Int) (a9:Bool) (a10:ByteArray) (a11:TT):AA C (n+1) 107 [tI a0,tI a1,.sl 2 a2,.str a3,tI a4,tI a5,tI a6,tI a7,tI a8,.bool a9,.str a10,.sl 2 a11]=cnd ((a4 != 1)=true) (some [.bool false]) (cnd ((a5 != a0)=true) (some [.bool false]) (cnd (decide (a1≥0)=true) (cnd ((a8 != a1)=true) (some [.bool false]) (AH (IU n a10 a2 a7 a3) n ([.t (tI 0)],[]))) (AH (IU n a10 a2 a7 a3) n ([.t (tI 0)],[])))):=by kernel_rfl
noncomputable def UP (n:Nat) (a1:TT) (p3:ST) (k4:KT):RT:=cnd (decide (vI p3 1<(length a1:Int))=true) (cnd (2=2∧0≤vI p3 1) (Option.bind a1[wH (vI p3 1)]? fun y5=>bk [0,0] 0 y5 (cnd ((true=true∨true=false)∧AD p3 0=A0 p3 0∧(2=2∨2=0)) (Option.bind (AA C n 1000030 [.sl 2 (take (Ah p3 0) (drop (Bu p3 0) (oEs p3 0))),tI (gI y5 0),tI (gI y5 1)]) fun y6=>cnd (length y6=1∧okL 2 y6 0) (k4 ([.sref 0 (AD p3 0+1) 0 (length (gL y6 0)),.t (tI (w64 (vI p3 1+1)))],[.row false (AD p3 0+1) 2 (gL y6 0)])) none) none)) none) (cnd ((true=true∨true=false)∧AD p3 0=A0 p3 0∧(2=2∨2=0)) (bd [5,0] (AA C n 133 [.sl 2 (take (Ah p3 0) (drop (Bu p3 0) (oEs p3 0)))]) fun y7=>some [.sl 2 (gL y7 0),tI (gI y7 1)]) none)
theorem e108 (n:Nat) (a0 a1:TT):AA C (n+1) 108 [.sl 2 a0,.sl 2 a1]=bd [1] (AA C n 132 [.sl 2 a0,.sl 2 a1]) fun y2=>cnd (gB y2 0=true) (some [.sl 2 [],tI 1]) (cnd (length a0≤1073741824) (AH (UP n a1) n ([.sref 0 0 0 (length a0),.t (tI 0)],[.row false 0 2 a0])) none):=by kernel_rfl
theorem e109 (n:Nat) (a0 a1 a2:Int) (a3:TT):AA C (n+1) 109 [tI a0,tI a1,tI a2,.sl 2 a3]=bd [0] (AA C n 106 [tI 2,tI a0,tI a1,tI 0,tI a2,.bool false,.str B0,.sl 2 a3]) fun y4=>cnd (((gI y4 0) != 0)=true) (some (zt kG [tI (gI y4 0)])) (some [tI 2,tI a0,tI a1,tI 0,tI a2,.bool false,.str B0,.sl 2 a3,tI 0]):=by kernel_rfl
noncomputable def Ze (n:Nat) (a14:Int) (y25:List Tree) (a13:Int) (p26:ST):RT:=cnd (vB p26 0=true) (some [tI 0]) (cnd ((a14==2)=true) (cnd (((length (gL y25 0):Int)==0)=true) (cnd ((a13==0)=true) (some [tI 0]) (some [tI 19])) (cnd ((a14==3)=true) (cnd ((a13==0)=true) (some [tI 0]) (some [tI 19])) (some [tI 19]))) (cnd ((a14==3)=true) (cnd ((a13==0)=true) (some [tI 0]) (some [tI 19])) (some [tI 19])))
noncomputable def RG (n:Nat) (a12:TT) (a8:ByteArray) (a0 a1 a2 a3 a4 a5 a6 a7 a9 a10 a11 a13 a14:Int) (p19:ST) (k20:KT):RT:=cnd (decide (vI p19 0<(length a12:Int))=true) (cnd (2=2∧0≤vI p19 0) (Option.bind a12[wH (vI p19 0)]? fun y23=>cnd (okI y23 0) (cnd (decide (gI y23 0<(0:Int))=true) (some [tI 1]) (cnd (2=2∧0≤vI p19 0) (Option.bind a12[wH (vI p19 0)]? fun y24=>cnd (okI y24 1) (cnd (decide (gI y24 1>(ByteArray.size a8:Int))=true) (some [tI 1]) (k20 ([.t (tI (w64 (vI p19 0+1)))],[]))) none) none)) none) none) (bd [5] (AA C n 111 [tI a0,tI a1,tI a2,tI a3,tI a4,tI a5,tI a6,tI a7,.str a8,tI a9,tI a10,tI a11,.sl 2 a12,tI a13,tI a14]) fun y25=>join (Ze n a14 y25 a13) fun k27=>cnd ((a14==1)=true) (cnd ((!((length (gL y25 0):Int)==0))=true) (k27 ([.t (.bool (a13==w64 (w64 (a10+w64 (2*a5))+1)))],[])) (k27 ([.t (.bool false)],[]))) (k27 ([.t (.bool false)],[])))
noncomputable def L2 (n:Nat) (a12:TT) (a8:ByteArray) (a0 a1 a2 a3 a4 a5 a6 a7 a9 a10 a11 a13 a14:Int) (p16:ST):RT:=cnd (vB p16 0=true) (some [tI 2]) (bd [0] (AA C n 31 [.sl 2 a12]) fun y18=>cnd (((gI y18 0) != 0)=true) (some [tI 1]) (AH (RG n a12 a8 a0 a1 a2 a3 a4 a5 a6 a7 a9 a10 a11 a13 a14) n ([.t (tI 0)],[])))
theorem e110 (n:Nat) (a0 a1 a2 a3 a4 a5 a6 a7:Int) (a8:ByteArray) (a9 a10 a11:Int) (a12:TT) (a13 a14:Int):AA C (n+1) 110 [tI a0,tI a1,tI a2,tI a3,tI a4,tI a5,tI a6,tI a7,.str a8,tI a9,tI a10,tI a11,.sl 2 a12,tI a13,tI a14]=bd [0] (AA C n 72 [tI a0,tI a1,tI a2,tI a3,tI a4,tI a5,tI a6]) fun y15=>cnd (((gI y15 0) != 0)=true) (some [tI 1]) (join (L2 n a12 a8 a0 a1 a2 a3 a4 a5 a6 a7 a9 a10 a11 a13 a14) fun k17=>cnd (decide (a7<0)=true) (k17 ([.t (.bool true)],[])) (cnd (decide (a7>1099511627776)=true) (k17 ([.t (.bool true)],[])) (cnd (decide ((ByteArray.size a8:Int)<1)=true) (k17 ([.t (.bool true)],[])) (cnd (decide ((ByteArray.size a8:Int)>65536)=true) (k17 ([.t (.bool true)],[])) (cnd (decide (a10<a2)=true) (k17 ([.t (.bool true)],[])) (cnd (decide (a10>a9)=true) (k17 ([.t (.bool true)],[])) (cnd (decide (a9>a3)=true) (k17 ([.t (.bool true)],[])) (cnd (decide (a11<1)=true) (k17 ([.t (.bool true)],[])) (k17 ([.t (.bool (decide (a11>1099511627776)))],[])))))))))):=by kernel_rfl
theorem e111 (n:Nat) (a0 a1 a2 a3 a4 a5 a6 a7:Int) (a8:ByteArray) (a9 a10 a11:Int) (a12:TT) (a13 a14:Int):AA C (n+1) 111 [tI a0,tI a1,tI a2,tI a3,tI a4,tI a5,tI a6,tI a7,.str a8,tI a9,tI a10,tI a11,.sl 2 a12,tI a13,tI a14]=bd [5,0] (AA C n 134 [.sl 2 [[tI 0,tI (ByteArray.size a8:Int)]],.sl 2 a12]) fun y15=>some [.sl 2 (gL y15 0)]:=by kernel_rfl
theorem e112 (n:Nat) (a0 a1 a2 a3 a4 a5 a6 a7:Int):AA C (n+1) 112 [tI a0,tI a1,tI a2,tI a3,tI a4,tI a5,tI a6,tI a7]=bd [0] (AA C n 113 [tI a0,tI a1,tI a2,tI a3,tI a4,tI a5,tI a6,tI 16]) fun y8=>cnd (decide (wG a7 (16:Int)>0)=true) (bd [0] (AA C n 113 [tI a0,tI a1,tI a2,tI a3,tI a4,tI a5,tI a6,tI (wG a7 (16:Int))]) fun y11=>some [tI (w64 (w64 (w64 (wF a7 (16:Int))*gI y8 0)+gI y11 0))]) (some [tI (w64 (w64 (wF a7 (16:Int))*gI y8 0))]):=by kernel_rfl
theorem e113 (n:Nat) (a0 a1 a2 a3 a4 a5 a6 a7:Int):AA C (n+1) 113 [tI a0,tI a1,tI a2,tI a3,tI a4,tI a5,tI a6,tI a7]=cnd (a4=0) none (some [tI (w64 (wF (w64 (w64 (w64 (a7+8)+a4)-1)) a4))]):=by kernel_rfl
theorem e116 (n:Nat) (a0 a1 a2 a3 a4 a5 a6 a7:Int) (a8:ByteArray) (a9 a10 a11:Int) (a12:TT) (a13 a14:Int):AA C (n+1) 116 [tI a0,tI a1,tI a2,tI a3,tI a4,tI a5,tI a6,tI a7,.str a8,tI a9,tI a10,tI a11,.sl 2 a12,tI a13,tI a14]=some [tI a0,tI a1,tI a2,tI a3,tI a4,tI a5,tI a6,tI a7,.str a8,tI a9,tI a10,tI a11,.sl 2 a12,tI 0,tI 3]:=by kernel_rfl
theorem e117 (n:Nat) (a0 a1 a2 a3 a4 a5 a6 a7:Int) (a8:ByteArray) (a9 a10 a11:Int) (a12:TT) (a13 a14:Int):AA C (n+1) 117 [tI a0,tI a1,tI a2,tI a3,tI a4,tI a5,tI a6,tI a7,.str a8,tI a9,tI a10,tI a11,.sl 2 a12,tI a13,tI a14]=some [tI (w64 (w64 (a10+w64 (2*a5))+1))]:=by kernel_rfl
noncomputable def Od (n:Nat) (y11:List Tree) (a2:ByteArray) (a0:Int) (k10:KT) (p9 p12:ST) (k13:KT):RT:=cnd (decide (vI p12 0<gI y11 1)=true) (cnd (0≤(if w64 (w64 (w64 (wF (vI p12 0) (16:Int))+1)*16)<gI y11 1 then w64 (w64 (w64 (wF (vI p12 0) (16:Int))+1)*16) else gI y11 1)∧(if w64 (w64 (w64 (wF (vI p12 0) (16:Int))+1)*16)<gI y11 1 then w64 (w64 (w64 (wF (vI p12 0) (16:Int))+1)*16) else gI y11 1)≤(ByteArray.size a2:Int)) (cnd (0≤vI p12 0∧vI p12 0≤(wH (if w64 (w64 (w64 (wF (vI p12 0) (16:Int))+1)*16)<gI y11 1 then w64 (w64 (w64 (wF (vI p12 0) (16:Int))+1)*16) else gI y11 1):Int)) (cnd (AD p12 0=AL p12 1 0∧(8=8∨8=0)∧AP p12 1 0+AJ p12 1 0≤length (oEs p12 0)∧AJ p12 1 0+1≤1073741824) (k13 ([.t (tI (if w64 (w64 (w64 (wF (vI p12 0) (16:Int))+1)*16)<gI y11 1 then w64 (w64 (w64 (wF (vI p12 0) (16:Int))+1)*16) else gI y11 1))],[.row false (AL p12 1 0+1) 8 (take (AJ p12 1 0) (drop (AP p12 1 0) (oEs p12 0))++[[tI 1,tI a0,tI 0,tI (vI p12 0),tI (ByteArray.size a2:Int),.bool false,.str (ByteArray.extract a2 (wH (vI p12 0)) (wH (if w64 (w64 (w64 (wF (vI p12 0) (16:Int))+1)*16)<gI y11 1 then w64 (w64 (w64 (wF (vI p12 0) (16:Int))+1)*16) else gI y11 1))),.sl 2 []]]),.box [.sref 0 (AL p12 1 0+1) 0 (AJ p12 1 0+1)],.box [],.box []])) none) none) none) (k10 ([.t (tI (w64 (vI p9 0+1)))],[.row false (AD p12 0) 8 (oEs p12 0),.box [.sref 0 (AL p12 1 0) (AP p12 1 0) (AJ p12 1 0)],.box []]))
noncomputable def RF (n:Nat) (a3:TT) (a2:ByteArray) (a0 a1:Int) (p9:ST) (k10:KT):RT:=cnd (decide (vI p9 0<(length a3:Int))=true) (cnd (2=2∧0≤vI p9 0) (Option.bind a3[wH (vI p9 0)]? fun y11=>bk [0,0] 0 y11 (AH (Od n y11 a2 a0 k10 p9) n ([.t (tI (gI y11 0))],[.row false (AD p9 0) 8 (oEs p9 0),.box [.sref 0 (AL p9 1 0) (AP p9 1 0) (AJ p9 1 0)],.box [],.box []]))) none) (cnd (AD p9 0=AL p9 1 0) (cnd (AD p9 0=AL p9 1 0∧8=8∧0≤w64 ((AJ p9 1 0:Int)-1)∧w64 ((AJ p9 1 0:Int)-1)<(AJ p9 1 0:Int)) (cnd (AD p9 0=AL p9 1 0) (cnd (AD p9 0=AL p9 1 0∧3≤8) (Option.bind (oEs p9 0)[AP p9 1 0+wH (w64 ((AJ p9 1 0:Int)-1))]? fun y14=>cnd (AL p9 1 0=AL p9 1 0) (cnd (AL p9 1 0=AL p9 1 0∧6≤8) (Option.bind (List.set (oEs p9 0) (AP p9 1 0+wH (w64 ((AJ p9 1 0:Int)-1))) (take 2 y14++([tI a1]++drop 3 y14)))[AP p9 1 0+wH (w64 ((AJ p9 1 0:Int)-1))]? fun y15=>cnd ((false=true∨false=false)∧AL p9 1 0=AL p9 1 0∧(8=8∨8=0)) (some [.sl 8 (take (AJ p9 1 0) (drop (AP p9 1 0) (List.set (List.set (oEs p9 0) (AP p9 1 0+wH (w64 ((AJ p9 1 0:Int)-1))) (take 2 y14++([tI a1]++drop 3 y14))) (AP p9 1 0+wH (w64 ((AJ p9 1 0:Int)-1))) (take 5 y15++([.bool true]++drop 6 y15))))),tI 0]) none) none) none) none) none) none) none)
noncomputable def Ib (n:Nat) (a2:ByteArray) (a3:TT) (a0 a1:Int) (p4:ST):RT:=cnd (vB p4 0=true) (some [.sl 8 [],tI 2]) (cnd ((a2==ByteArray.mk #[])=true) (some [.sl 8 [],tI 20]) (cnd (decide ((ByteArray.size a2:Int)>65536)=true) (some [.sl 8 [],tI 4]) (bd [1] (AA C n 139 [.sl 2 a3,tI (ByteArray.size a2:Int)]) fun y8=>cnd ((!(gB y8 0))=true) (some [.sl 8 [],tI 1]) (cnd (((length a3:Int)==0)=true) (some [.sl 8 [],tI 20]) (AH (RF n a3 a2 a0 a1) n ([.t (tI 0)],[.row false 0 8 [],.box [.sref 0 0 0 0],.box []]))))))
theorem e118 (n:Nat) (a0 a1:Int) (a2:ByteArray) (a3:TT):AA C (n+1) 118 [tI a0,tI a1,.str a2,.sl 2 a3]=join (Ib n a2 a3 a0 a1) fun k5=>bd [1] (AA C n 138 [tI a0,tI 0,tI 1099511627776]) fun y6=>cnd ((!(gB y6 0))=true) (k5 ([.t (.bool true)],[])) (bd [1] (AA C n 138 [tI a1,tI 1,tI 1099511627776]) fun y7=>k5 ([.t (.bool (!(gB y7 0)))],[])):=by kernel_rfl
theorem e119 (n:Nat) (a0 a1 a2 a3 a4 a5 a6 a7:Int) (a8:ByteArray) (a9 a10 a11:Int) (a12:TT) (a13 a14:Int):AA C (n+1) 119 [tI a0,tI a1,tI a2,tI a3,tI a4,tI a5,tI a6,tI a7,.str a8,tI a9,tI a10,tI a11,.sl 2 a12,tI a13,tI a14]=bd [5] (AA C n 142 [.str a8]) fun y15=>bd [5,0] (AA C n 141 [.sl 2 (gL y15 0),.sl 2 a12]) fun y16=>some [.sl 2 (gL y16 0)]:=by kernel_rfl
theorem e122 (n:Nat) (a0:Int) (a1:TT) (a2 a3:Int):AA C (n+1) 122 [tI a0,.sl 10 a1,tI a2,tI a3]=bd [0] (AA C n 143 [tI a0,.sl 10 a1,tI a2,tI a3]) fun y6=>cnd (((gI y6 0) != 0)=true) (some [tI 0,.bool false]) (cnd (((length a1:Int)==0)=true) (some [tI 0,.bool false]) (Option.bind a1[0]? fun y8=>cnd (okI y8 0) (some [tI (gI y8 0),.bool true]) none)):=by kernel_rfl
theorem e128 (n:Nat) (a0 a1:Int):AA C (n+1) 128 [tI a0,tI a1]=cnd (a1=0) none (cnd (a1=0) none (cnd (decide (wG a0 a1<0)=true) (some [tI (w64 (w64 (wF a0 a1)-1)),tI (w64 (wG a0 a1+a1))]) (some [tI (w64 (wF a0 a1)),tI (wG a0 a1)]))):=by kernel_rfl
theorem e129 (n:Nat) (a0 a1:Int) (a2:TT) (a3:ByteArray):AA C (n+1) 129 [tI a0,tI a1,.sl 2 a2,.str a3]=cnd (decide (a1<0)=true) (some [.bool ((length a2:Int)==0)]) (cnd (decide ((length a2:Int)>0)=true) (bd [0] (AA C n 31 [.sl 2 a2]) fun y6=>cnd ((gI y6 0==0)=true) (Option.bind a2[0]? fun y7=>cnd (okI y7 0) (cnd (decide (gI y7 0≥(0:Int))=true) (cnd (2=2∧0≤w64 ((length a2:Int)-1)) (Option.bind a2[wH (w64 ((length a2:Int)-1))]? fun y8=>cnd (okI y8 1) (some [.bool (decide (gI y8 1≤a1))]) none) none) (some [.bool false])) none) (some [.bool false])) (some [.bool false])):=by kernel_rfl
theorem e130 (n:Nat) (a0 a1 a2 a3 a4:Int) (a5:Bool) (a6:ByteArray) (a7:TT):AA C (n+1) 130 [tI a0,tI a1,tI a2,tI a3,tI a4,.bool a5,.str a6,.sl 2 a7]=bd [1] (AA C n 98 [tI a1,tI 0,tI 1099511627776]) fun y8=>cnd ((!(gB y8 0))=true) (some [.bool false]) (cnd ((a0==3)=true) (cnd ((a2==0)=true) (cnd ((a3==0)=true) (some [.bool (a4==0)]) (some [.bool false])) (some [.bool false])) (bd [1] (AA C n 98 [tI a4,tI 1,tI 65536]) fun y11=>cnd ((!(gB y11 0))=true) (some [.bool false]) (cnd ((a0==2)=true) (bd [1] (AA C n 98 [tI a2,tI 1,tI 1099511627776]) fun y14=>cnd (gB y14 0=true) (some [.bool (a3==0)]) (some [.bool false])) (cnd (a5=true) (bd [1] (AA C n 98 [tI a2,tI 1,tI 1099511627776]) fun y17=>cnd (gB y17 0=true) (bd [1] (AA C n 98 [tI a3,tI 0,tI (w64 (a4-1))]) fun y18=>some [.bool (gB y18 0)]) (some [.bool false])) (cnd ((a2==0)=true) (bd [1] (AA C n 98 [tI a3,tI 0,tI (w64 (a4-1))]) fun y21=>some [.bool (gB y21 0)]) (some [.bool false])))))):=by kernel_rfl
theorem e131 (n:Nat) (a0 a1 a2 a3 a4:Int) (a5:Bool) (a6:ByteArray) (a7:TT):AA C (n+1) 131 [tI a0,tI a1,tI a2,tI a3,tI a4,.bool a5,.str a6,.sl 2 a7]=cnd ((a0==1)=true) (bd [1] (AA C n 98 [tI (ByteArray.size a6:Int),tI 1,tI 16]) fun y10=>cnd (gB y10 0=true) (cnd (decide ((ByteArray.size a6:Int)≤w64 (a4-a3))=true) (some [.bool ((length a7:Int)==0)]) (some [.bool false])) (some [.bool false])) (cnd ((!a5)=true) (cnd (((ByteArray.size a6:Int)==0)=true) (cnd ((a0==2)=true) (bd [1] (AA C n 99 [.sl 2 a7,tI a4]) fun y13=>cnd (gB y13 0=true) (some [.bool true]) (some [.bool ((length a7:Int)==0)])) (some [.bool ((length a7:Int)==0)])) (some [.bool false])) (some [.bool false])):=by kernel_rfl
theorem e132 (n:Nat) (a0 a1:TT):AA C (n+1) 132 [.sl 2 a0,.sl 2 a1]=bd [0] (AA C n 31 [.sl 2 a0]) fun y4=>cnd (((gI y4 0) != 0)=true) (some [.bool true]) (bd [0] (AA C n 31 [.sl 2 a1]) fun y5=>some [.bool ((gI y5 0) != 0)]):=by kernel_rfl
theorem e133 (n:Nat) (a0:TT):AA C (n+1) 133 [.sl 2 a0]=cnd (decide ((length a0:Int)>1000)=true) (some [.sl 2 [],tI 4]) (some [.sl 2 a0,tI 0]):=by kernel_rfl
theorem e134 (n:Nat) (a0 a1:TT):AA C (n+1) 134 [.sl 2 a0,.sl 2 a1]=bd [1] (AA C n 132 [.sl 2 a0,.sl 2 a1]) fun y2=>cnd (gB y2 0=true) (some [.sl 2 [],tI 1]) (bd [5] (AA C n 151 [.sl 2 a1]) fun y3=>bd [5] (AA C n 150 [.sl 2 a0,.sl 2 (gL y3 0)]) fun y4=>bd [5,0] (AA C n 133 [.sl 2 (gL y4 0)]) fun y5=>some [.sl 2 (gL y5 0),tI (gI y5 1)]):=by kernel_rfl
theorem e137 (n:Nat) (a0 a1 a2 a3 a4 a5:Int) (a6:Bool) (a7:ByteArray) (a8:TT):AA C (n+1) 137 [tI a0,tI a1,tI a2,tI a3,tI a4,tI a5,.bool a6,.str a7,.sl 2 a8]=bd [0] (AA C n 152 [tI a1,tI a2,tI a3,tI a4,tI a5,.bool a6,.str a7,.sl 2 a8]) fun y9=>cnd (((gI y9 0) != 0)=true) (some [tI 0,tI 1]) (bd [1] (AA C n 138 [tI a0,tI 1,tI 1000]) fun y10=>cnd ((!(gB y10 0))=true) (some [tI 0,tI 2]) (cnd ((a1 != 1)=true) (some [tI 0,tI 0]) (cnd (a0=0) none (some [tI (w64 (wF (w64 (w64 (w64 ((ByteArray.size a7:Int)+8)+a0)-1)) a0)),tI 0])))):=by kernel_rfl
theorem e138 (n:Nat) (a0 a1 a2:Int):AA C (n+1) 138 [tI a0,tI a1,tI a2]=cnd (decide (a0≥a1)=true) (some [.bool (decide (a0≤a2))]) (some [.bool false]):=by kernel_rfl
theorem e139 (n:Nat) (a0:TT) (a1:Int):AA C (n+1) 139 [.sl 2 a0,tI a1]=bd [0] (AA C n 67 [.sl 2 a0]) fun y4=>cnd ((gI y4 0==0)=true) (cnd (((length a0:Int)==0)=true) (some [.bool true]) (Option.bind a0[0]? fun y5=>cnd (okI y5 0) (cnd (decide (gI y5 0≥(0:Int))=true) (cnd (2=2∧0≤w64 ((length a0:Int)-1)) (Option.bind a0[wH (w64 ((length a0:Int)-1))]? fun y6=>cnd (okI y6 1) (some [.bool (decide (gI y6 1≤a1))]) none) none) (some [.bool false])) none)) (some [.bool false]):=by kernel_rfl
noncomputable def Jr (F n:Nat) (k23:KT) (p30:ST):RT:=k23 ([],[.box [.func (Fn.func F) [] []],.row false (AD p30 1) 2 (oEs p30 1),.box [.sref 1 (AL p30 2 0) (AP p30 2 0) (AJ p30 2 0)],.box [.t (.bool (cB p30 3 0))],.box [],.box (tv [.sl 2 (cL p30 5 0),tI (cI p30 5 1),.bool (!(cB p30 5 2))]),.box (tv (ct [5,0,1] p30 6 0 []))])
noncomputable def Jq (F n:Nat) (k23:KT) (p28:ST):RT:=cnd (vB p28 0=true) (k23 ([],[.box [.func (Fn.func F) [] []],.row false (AD p28 1) 2 (oEs p28 1),.box [.sref 1 (AL p28 2 0) (AP p28 2 0) (AJ p28 2 0)],.box [.t (.bool (cB p28 3 0))],.box [],.box (tv (ct [5,0,1] p28 5 0 [])),.box (tv (ct [5,0,1] p28 6 0 []))])) (join (Jr F n k23) fun k31=>cnd (cB p28 5 2=true) (k31 ([],[.box [.func (Fn.func F) [] []],.row false (AD p28 1) 2 (oEs p28 1),.box [.sref 1 (AL p28 2 0) (AP p28 2 0) (AJ p28 2 0)],.box [.t (.bool (cB p28 3 0))],.box [],.box (tv [.sl 2 (cL p28 5 0),tI (w64 (cI p28 5 1+1)),.bool (cB p28 5 2)]),.box (tv (ct [5,0,1] p28 6 0 []))])) (k31 ([],[.box [.func (Fn.func F) [] []],.row false (AD p28 1) 2 (oEs p28 1),.box [.sref 1 (AL p28 2 0) (AP p28 2 0) (AJ p28 2 0)],.box [.t (.bool (cB p28 3 0))],.box [],.box (tv (ct [5,0,1] p28 5 0 [])),.box (tv (ct [5,0,1] p28 6 0 []))])))
noncomputable def Ia (F n:Nat) (k23:KT) (p20 p24:ST):RT:=join (Jq F n k23) fun k29=>cnd ((!(vB p24 1))=true) (k29 ([.t (.bool true)],[.box [.func (Fn.func F) [] []],.row false (AD p24 1) 2 (oEs p24 1),.box [.sref 1 (AL p24 2 0) (AP p24 2 0) (AJ p24 2 0)],.box [.t (.bool (cB p24 3 0))],.box [],.box (tv (ct [5,0,1] p24 5 0 [])),.box (tv (ct [5,0,1] p24 6 0 []))])) (k29 ([.t (.bool ((vI p24 0) != vI p20 0))],[.box [.func (Fn.func F) [] []],.row false (AD p24 1) 2 (oEs p24 1),.box [.sref 1 (AL p24 2 0) (AP p24 2 0) (AJ p24 2 0)],.box [.t (.bool (cB p24 3 0))],.box [],.box (tv (ct [5,0,1] p24 5 0 [])),.box (tv (ct [5,0,1] p24 6 0 []))]))
noncomputable def Jp (F n:Nat) (k33:KT) (p40:ST):RT:=k33 ([],[.box [.func (Fn.func F) [] []],.row false (AD p40 1) 2 (oEs p40 1),.box [.sref 1 (AL p40 2 0) (AP p40 2 0) (AJ p40 2 0)],.box [.t (.bool (cB p40 3 0))],.box [],.box (tv (ct [5,0,1] p40 5 0 [])),.box (tv [.sl 2 (cL p40 6 0),tI (cI p40 6 1),.bool (!(cB p40 6 2))])])
noncomputable def Jo (F n:Nat) (k33:KT) (p38:ST):RT:=cnd (vB p38 0=true) (k33 ([],[.box [.func (Fn.func F) [] []],.row false (AD p38 1) 2 (oEs p38 1),.box [.sref 1 (AL p38 2 0) (AP p38 2 0) (AJ p38 2 0)],.box [.t (.bool (cB p38 3 0))],.box [],.box (tv (ct [5,0,1] p38 5 0 [])),.box (tv (ct [5,0,1] p38 6 0 []))])) (join (Jp F n k33) fun k41=>cnd (cB p38 6 2=true) (k41 ([],[.box [.func (Fn.func F) [] []],.row false (AD p38 1) 2 (oEs p38 1),.box [.sref 1 (AL p38 2 0) (AP p38 2 0) (AJ p38 2 0)],.box [.t (.bool (cB p38 3 0))],.box [],.box (tv (ct [5,0,1] p38 5 0 [])),.box (tv [.sl 2 (cL p38 6 0),tI (w64 (cI p38 6 1+1)),.bool (cB p38 6 2)])])) (k41 ([],[.box [.func (Fn.func F) [] []],.row false (AD p38 1) 2 (oEs p38 1),.box [.sref 1 (AL p38 2 0) (AP p38 2 0) (AJ p38 2 0)],.box [.t (.bool (cB p38 3 0))],.box [],.box (tv (ct [5,0,1] p38 5 0 [])),.box (tv (ct [5,0,1] p38 6 0 []))])))
noncomputable def IZ (F n:Nat) (k33:KT) (p20 p34:ST):RT:=join (Jo F n k33) fun k39=>cnd ((!(vB p34 1))=true) (k39 ([.t (.bool true)],[.box [.func (Fn.func F) [] []],.row false (AD p34 1) 2 (oEs p34 1),.box [.sref 1 (AL p34 2 0) (AP p34 2 0) (AJ p34 2 0)],.box [.t (.bool (cB p34 3 0))],.box [],.box (tv (ct [5,0,1] p34 5 0 [])),.box (tv (ct [5,0,1] p34 6 0 []))])) (k39 ([.t (.bool ((vI p34 0) != vI p20 0))],[.box [.func (Fn.func F) [] []],.row false (AD p34 1) 2 (oEs p34 1),.box [.sref 1 (AL p34 2 0) (AP p34 2 0) (AJ p34 2 0)],.box [.t (.bool (cB p34 3 0))],.box [],.box (tv (ct [5,0,1] p34 5 0 [])),.box (tv (ct [5,0,1] p34 6 0 []))]))
noncomputable def HJ (F n:Nat) (k46:KT) (p49:ST):RT:=k46 ([],[.box [.func (Fn.func F) [] []],.row false (AD p49 1) 2 (oEs p49 1),.box [.sref 1 (AL p49 2 0) (AP p49 2 0) (AJ p49 2 0)],.box [.t (.bool (cB p49 3 0))],.box [],.box (tv (ct [5,0,1] p49 5 0 [])),.box (tv (ct [5,0,1] p49 6 0 [])),.box (tv [.bool (cB p49 7 0),.bool (cB p49 7 1)])])
noncomputable def GP (F n:Nat) (k46:KT) (p20 p47:ST):RT:=join (HJ F n k46) fun k50=>cnd (vB p47 0=true) (cnd (AD p47 1=AL p47 2 0) (cnd (AD p47 1=AL p47 2 0∧2=2∧0≤w64 ((AJ p47 2 0:Int)-1)∧w64 ((AJ p47 2 0:Int)-1)<(AJ p47 2 0:Int)) (cnd (AD p47 1=AL p47 2 0) (cnd (AD p47 1=AL p47 2 0∧2≤2) (Option.bind (oEs p47 1)[AP p47 2 0+wH (w64 ((AJ p47 2 0:Int)-1))]? fun y51=>k50 ([],[.box [.func (Fn.func F) [] []],.row false (AL p47 2 0) 2 (List.set (oEs p47 1) (AP p47 2 0+wH (w64 ((AJ p47 2 0:Int)-1))) (take 1 y51++([tI (vI p20 0)]++drop 2 y51))),.box [.sref 1 (AL p47 2 0) (AP p47 2 0) (AJ p47 2 0)],.box [.t (.bool (cB p47 3 0))],.box [],.box (tv (ct [5,0,1] p47 5 0 [])),.box (tv (ct [5,0,1] p47 6 0 [])),.box (tv [.bool (cB p47 7 0),.bool (cB p47 7 1)])])) none) none) none) none) (k50 ([],[.box [.func (Fn.func F) [] []],.row false (AD p47 1) 2 (oEs p47 1),.box [.sref 1 (AL p47 2 0) (AP p47 2 0) (AJ p47 2 0)],.box [.t (.bool (cB p47 3 0))],.box [],.box (tv (ct [5,0,1] p47 5 0 [])),.box (tv (ct [5,0,1] p47 6 0 [])),.box (tv [.bool (cB p47 7 0),.bool (cB p47 7 1)])]))
noncomputable def Oi (F n:Nat) (k7:KT) (y42:List Tree) (p45:ST):RT:=k7 ([],[.box [.func (Fn.func F) [] []],.row false (AD p45 1) 2 (oEs p45 1),.box [.sref 1 (AL p45 2 0) (AP p45 2 0) (AJ p45 2 0)],.box [.t (.bool (gB y42 0))],.box [],.box (tv (ct [5,0,1] p45 5 0 [])),.box (tv (ct [5,0,1] p45 6 0 []))])
noncomputable def K3 (F n:Nat) (k7:KT) (y42:List Tree) (p20 p43:ST):RT:=join (Oi F n k7 y42) fun k46=>cnd (vB p43 0=true) (cnd (AD p43 1=AL p43 2 0∧(2=2∨2=0)∧AP p43 2 0+AJ p43 2 0≤length (oEs p43 1)∧AJ p43 2 0+1≤1073741824) (k46 ([],[.box [.func (Fn.func F) [] []],.row false (AL p43 2 0+1) 2 (take (AJ p43 2 0) (drop (AP p43 2 0) (oEs p43 1))++[[tI (vI p20 0),tI 0]]),.box [.sref 1 (AL p43 2 0+1) 0 (AJ p43 2 0+1)],.box [.t (.bool (cB p43 3 0))],.box [],.box (tv (ct [5,0,1] p43 5 0 [])),.box (tv (ct [5,0,1] p43 6 0 [])),.box (tv [.bool (cB p43 7 0),.bool (cB p43 7 1)])])) none) (join (GP F n k46 p20) fun k48=>cnd ((!(gB y42 0))=true) (k48 ([.t (.bool (cB p43 3 0))],[.box [.func (Fn.func F) [] []],.row false (AD p43 1) 2 (oEs p43 1),.box [.sref 1 (AL p43 2 0) (AP p43 2 0) (AJ p43 2 0)],.box [.t (.bool (cB p43 3 0))],.box [],.box (tv (ct [5,0,1] p43 5 0 [])),.box (tv (ct [5,0,1] p43 6 0 [])),.box (tv [.bool (cB p43 7 0),.bool (cB p43 7 1)])])) (k48 ([.t (.bool false)],[.box [.func (Fn.func F) [] []],.row false (AD p43 1) 2 (oEs p43 1),.box [.sref 1 (AL p43 2 0) (AP p43 2 0) (AJ p43 2 0)],.box [.t (.bool (cB p43 3 0))],.box [],.box (tv (ct [5,0,1] p43 5 0 [])),.box (tv (ct [5,0,1] p43 6 0 [])),.box (tv [.bool (cB p43 7 0),.bool (cB p43 7 1)])])))
noncomputable def HO (F n:Nat) (k7:KT) (p20 p32:ST):RT:=bd [1] (AA C n F [.bool (cB p32 5 2),.bool (cB p32 6 2)]) fun y42=>join (K3 F n k7 y42 p20) fun k44=>cnd (gB y42 0=true) (k44 ([.t (.bool (!(cB p32 3 0)))],[.box [.func (Fn.func F) [] []],.row false (AD p32 1) 2 (oEs p32 1),.box [.sref 1 (AL p32 2 0) (AP p32 2 0) (AJ p32 2 0)],.box [.t (.bool (cB p32 3 0))],.box [],.box (tv (ct [5,0,1] p32 5 0 [])),.box (tv (ct [5,0,1] p32 6 0 [])),.box (tv [.bool (cB p32 5 2),.bool (cB p32 6 2)])])) (k44 ([.t (.bool false)],[.box [.func (Fn.func F) [] []],.row false (AD p32 1) 2 (oEs p32 1),.box [.sref 1 (AL p32 2 0) (AP p32 2 0) (AJ p32 2 0)],.box [.t (.bool (cB p32 3 0))],.box [],.box (tv (ct [5,0,1] p32 5 0 [])),.box (tv (ct [5,0,1] p32 6 0 [])),.box (tv [.bool (cB p32 5 2),.bool (cB p32 6 2)])]))
noncomputable def I9 (F n:Nat) (k7:KT) (p20 p22:ST):RT:=join (HO F n k7 p20) fun k33=>join (IZ F n k33 p20) fun k35=>cnd ((cI p22 6 1==(length (cL p22 6 0):Int))=true) (k35 (tv [tI 0,.bool false],[.box [.func (Fn.func F) [] []],.row false (AD p22 1) 2 (oEs p22 1),.box [.sref 1 (AL p22 2 0) (AP p22 2 0) (AJ p22 2 0)],.box [.t (.bool (cB p22 3 0))],.box [],.box (tv (ct [5,0,1] p22 5 0 [])),.box (tv (ct [5,0,1] p22 6 0 []))])) (cnd (cB p22 6 2=true) (cnd (2=2∧0≤cI p22 6 1) (Option.bind (cL p22 6 0)[wH (cI p22 6 1)]? fun y36=>cnd (okI y36 1) (k35 (tv [tI (gI y36 1),.bool true],[.box [.func (Fn.func F) [] []],.row false (AD p22 1) 2 (oEs p22 1),.box [.sref 1 (AL p22 2 0) (AP p22 2 0) (AJ p22 2 0)],.box [.t (.bool (cB p22 3 0))],.box [],.box (tv (ct [5,0,1] p22 5 0 [])),.box (tv (ct [5,0,1] p22 6 0 []))])) none) none) (cnd (2=2∧0≤cI p22 6 1) (Option.bind (cL p22 6 0)[wH (cI p22 6 1)]? fun y37=>cnd (okI y37 0) (k35 (tv [tI (gI y37 0),.bool true],[.box [.func (Fn.func F) [] []],.row false (AD p22 1) 2 (oEs p22 1),.box [.sref 1 (AL p22 2 0) (AP p22 2 0) (AJ p22 2 0)],.box [.t (.bool (cB p22 3 0))],.box [],.box (tv (ct [5,0,1] p22 5 0 [])),.box (tv (ct [5,0,1] p22 6 0 []))])) none) none))
noncomputable def I8 (F n:Nat) (k7:KT) (p20:ST):RT:=join (I9 F n k7 p20) fun k23=>join (Ia F n k23 p20) fun k25=>cnd ((cI p20 5 1==(length (cL p20 5 0):Int))=true) (k25 (tv [tI 0,.bool false],[.box [.func (Fn.func F) [] []],.row false (AD p20 1) 2 (oEs p20 1),.box [.sref 1 (AL p20 2 0) (AP p20 2 0) (AJ p20 2 0)],.box [.t (.bool (cB p20 3 0))],.box [],.box (tv (ct [5,0,1] p20 5 0 [])),.box (tv (ct [5,0,1] p20 6 0 []))])) (cnd (cB p20 5 2=true) (cnd (2=2∧0≤cI p20 5 1) (Option.bind (cL p20 5 0)[wH (cI p20 5 1)]? fun y26=>cnd (okI y26 1) (k25 (tv [tI (gI y26 1),.bool true],[.box [.func (Fn.func F) [] []],.row false (AD p20 1) 2 (oEs p20 1),.box [.sref 1 (AL p20 2 0) (AP p20 2 0) (AJ p20 2 0)],.box [.t (.bool (cB p20 3 0))],.box [],.box (tv (ct [5,0,1] p20 5 0 [])),.box (tv (ct [5,0,1] p20 6 0 []))])) none) none) (cnd (2=2∧0≤cI p20 5 1) (Option.bind (cL p20 5 0)[wH (cI p20 5 1)]? fun y27=>cnd (okI y27 0) (k25 (tv [tI (gI y27 0),.bool true],[.box [.func (Fn.func F) [] []],.row false (AD p20 1) 2 (oEs p20 1),.box [.sref 1 (AL p20 2 0) (AP p20 2 0) (AJ p20 2 0)],.box [.t (.bool (cB p20 3 0))],.box [],.box (tv (ct [5,0,1] p20 5 0 [])),.box (tv (ct [5,0,1] p20 6 0 []))])) none) none))
noncomputable def Mn (F n:Nat) (k7:KT) (p12 p8 p18:ST):RT:=join (I8 F n k7) fun k21=>cnd (vB p18 0=true) (k21 ([.t (tI (vI p12 0))],[.box [.func (Fn.func F) [] []],.row false (AD p18 1) 2 (oEs p18 1),.box [.sref 1 (AL p18 2 0) (AP p18 2 0) (AJ p18 2 0)],.box [.t (.bool (cB p18 3 0))],.box [],.box (tv (ct [5,0,1] p18 5 0 [])),.box (tv (ct [5,0,1] p18 6 0 []))])) (k21 ([.t (tI (vI p8 0))],[.box [.func (Fn.func F) [] []],.row false (AD p18 1) 2 (oEs p18 1),.box [.sref 1 (AL p18 2 0) (AP p18 2 0) (AJ p18 2 0)],.box [.t (.bool (cB p18 3 0))],.box [],.box (tv (ct [5,0,1] p18 5 0 [])),.box (tv (ct [5,0,1] p18 6 0 []))]))
noncomputable def K2 (F n:Nat) (k7:KT) (p12 p8 p16:ST):RT:=cnd (vB p16 0=true) (cnd (AD p16 1=AL p16 2 0) (cnd (decide ((AJ p16 2 0:Int)>1000)=true) (some [.sl 2 [],tI 4]) (cnd ((false=true∨false=false)∧AD p16 1=AL p16 2 0∧(2=2∨2=0)) (some [.sl 2 (take (AJ p16 2 0) (drop (AP p16 2 0) (oEs p16 1))),tI 0]) none)) none) (join (Mn F n k7 p12 p8) fun k19=>cnd ((!(vB p8 1))=true) (k19 ([.t (.bool true)],[.box [.func (Fn.func F) [] []],.row false (AD p16 1) 2 (oEs p16 1),.box [.sref 1 (AL p16 2 0) (AP p16 2 0) (AJ p16 2 0)],.box [.t (.bool (cB p16 3 0))],.box [],.box (tv (ct [5,0,1] p16 5 0 [])),.box (tv (ct [5,0,1] p16 6 0 []))])) (cnd (vB p12 1=true) (k19 ([.t (.bool (decide (vI p12 0<vI p8 0)))],[.box [.func (Fn.func F) [] []],.row false (AD p16 1) 2 (oEs p16 1),.box [.sref 1 (AL p16 2 0) (AP p16 2 0) (AJ p16 2 0)],.box [.t (.bool (cB p16 3 0))],.box [],.box (tv (ct [5,0,1] p16 5 0 [])),.box (tv (ct [5,0,1] p16 6 0 []))])) (k19 ([.t (.bool false)],[.box [.func (Fn.func F) [] []],.row false (AD p16 1) 2 (oEs p16 1),.box [.sref 1 (AL p16 2 0) (AP p16 2 0) (AJ p16 2 0)],.box [.t (.bool (cB p16 3 0))],.box [],.box (tv (ct [5,0,1] p16 5 0 [])),.box (tv (ct [5,0,1] p16 6 0 []))]))))
noncomputable def HN (F n:Nat) (k7:KT) (p8 p12:ST):RT:=join (K2 F n k7 p12 p8) fun k17=>cnd ((!(vB p8 1))=true) (k17 ([.t (.bool (!(vB p12 1)))],[.box [.func (Fn.func F) [] []],.row false (AD p12 1) 2 (oEs p12 1),.box [.sref 1 (AL p12 2 0) (AP p12 2 0) (AJ p12 2 0)],.box [.t (.bool (cB p12 3 0))],.box [],.box (tv (ct [5,0,1] p12 5 0 [])),.box (tv (ct [5,0,1] p12 6 0 []))])) (k17 ([.t (.bool false)],[.box [.func (Fn.func F) [] []],.row false (AD p12 1) 2 (oEs p12 1),.box [.sref 1 (AL p12 2 0) (AP p12 2 0) (AJ p12 2 0)],.box [.t (.bool (cB p12 3 0))],.box [],.box (tv (ct [5,0,1] p12 5 0 [])),.box (tv (ct [5,0,1] p12 6 0 []))]))
noncomputable def Kz (F n:Nat) (k7:KT) (p8:ST):RT:=join (HN F n k7 p8) fun k13=>cnd ((cI p8 6 1==(length (cL p8 6 0):Int))=true) (k13 (tv [tI 0,.bool false],[.box [.func (Fn.func F) [] []],.row false (AD p8 1) 2 (oEs p8 1),.box [.sref 1 (AL p8 2 0) (AP p8 2 0) (AJ p8 2 0)],.box [.t (.bool (cB p8 3 0))],.box [],.box (tv (ct [5,0,1] p8 5 0 [])),.box (tv (ct [5,0,1] p8 6 0 []))])) (cnd (cB p8 6 2=true) (cnd (2=2∧0≤cI p8 6 1) (Option.bind (cL p8 6 0)[wH (cI p8 6 1)]? fun y14=>cnd (okI y14 1) (k13 (tv [tI (gI y14 1),.bool true],[.box [.func (Fn.func F) [] []],.row false (AD p8 1) 2 (oEs p8 1),.box [.sref 1 (AL p8 2 0) (AP p8 2 0) (AJ p8 2 0)],.box [.t (.bool (cB p8 3 0))],.box [],.box (tv (ct [5,0,1] p8 5 0 [])),.box (tv (ct [5,0,1] p8 6 0 []))])) none) none) (cnd (2=2∧0≤cI p8 6 1) (Option.bind (cL p8 6 0)[wH (cI p8 6 1)]? fun y15=>cnd (okI y15 0) (k13 (tv [tI (gI y15 0),.bool true],[.box [.func (Fn.func F) [] []],.row false (AD p8 1) 2 (oEs p8 1),.box [.sref 1 (AL p8 2 0) (AP p8 2 0) (AJ p8 2 0)],.box [.t (.bool (cB p8 3 0))],.box [],.box (tv (ct [5,0,1] p8 5 0 [])),.box (tv (ct [5,0,1] p8 6 0 []))])) none) none))
noncomputable def I5 (F n:Nat) (p6:ST) (k7:KT):RT:=join (Kz F n k7) fun k9=>cnd ((cI p6 5 1==(length (cL p6 5 0):Int))=true) (k9 (tv [tI 0,.bool false],[.box [.func (Fn.func F) [] []],.row false (AD p6 1) 2 (oEs p6 1),.box [.sref 1 (AL p6 2 0) (AP p6 2 0) (AJ p6 2 0)],.box [.t (.bool (cB p6 3 0))],.box [],.box (tv (ct [5,0,1] p6 5 0 [])),.box (tv (ct [5,0,1] p6 6 0 []))])) (cnd (cB p6 5 2=true) (cnd (2=2∧0≤cI p6 5 1) (Option.bind (cL p6 5 0)[wH (cI p6 5 1)]? fun y10=>cnd (okI y10 1) (k9 (tv [tI (gI y10 1),.bool true],[.box [.func (Fn.func F) [] []],.row false (AD p6 1) 2 (oEs p6 1),.box [.sref 1 (AL p6 2 0) (AP p6 2 0) (AJ p6 2 0)],.box [.t (.bool (cB p6 3 0))],.box [],.box (tv (ct [5,0,1] p6 5 0 [])),.box (tv (ct [5,0,1] p6 6 0 []))])) none) none) (cnd (2=2∧0≤cI p6 5 1) (Option.bind (cL p6 5 0)[wH (cI p6 5 1)]? fun y11=>cnd (okI y11 0) (k9 (tv [tI (gI y11 0),.bool true],[.box [.func (Fn.func F) [] []],.row false (AD p6 1) 2 (oEs p6 1),.box [.sref 1 (AL p6 2 0) (AP p6 2 0) (AJ p6 2 0)],.box [.t (.bool (cB p6 3 0))],.box [],.box (tv (ct [5,0,1] p6 5 0 [])),.box (tv (ct [5,0,1] p6 6 0 []))])) none) none))
noncomputable def Ky (F n:Nat) (k53:KT) (y88:List Tree) (p91:ST):RT:=k53 ([],[.box [.func (Fn.func F) [] []],.row false (AD p91 1) 2 (oEs p91 1),.box [.sref 1 (AL p91 2 0) (AP p91 2 0) (AJ p91 2 0)],.box [.t (.bool (gB y88 0))],.box [],.box (tv (ct [5,0,1] p91 5 0 [])),.box (tv (ct [5,0,1] p91 6 0 []))])
noncomputable def Kx (F n:Nat) (k53:KT) (y88:List Tree) (p66 p89:ST):RT:=join (Ky F n k53 y88) fun k92=>cnd (vB p89 0=true) (cnd (AD p89 1=AL p89 2 0∧(2=2∨2=0)∧AP p89 2 0+AJ p89 2 0≤length (oEs p89 1)∧AJ p89 2 0+1≤1073741824) (k92 ([],[.box [.func (Fn.func F) [] []],.row false (AL p89 2 0+1) 2 (take (AJ p89 2 0) (drop (AP p89 2 0) (oEs p89 1))++[[tI (vI p66 0),tI 0]]),.box [.sref 1 (AL p89 2 0+1) 0 (AJ p89 2 0+1)],.box [.t (.bool (cB p89 3 0))],.box [],.box (tv (ct [5,0,1] p89 5 0 [])),.box (tv (ct [5,0,1] p89 6 0 [])),.box (tv [.bool (cB p89 7 0),.bool (cB p89 7 1)])])) none) (join (GP F n k92 p66) fun k94=>cnd ((!(gB y88 0))=true) (k94 ([.t (.bool (cB p89 3 0))],[.box [.func (Fn.func F) [] []],.row false (AD p89 1) 2 (oEs p89 1),.box [.sref 1 (AL p89 2 0) (AP p89 2 0) (AJ p89 2 0)],.box [.t (.bool (cB p89 3 0))],.box [],.box (tv (ct [5,0,1] p89 5 0 [])),.box (tv (ct [5,0,1] p89 6 0 [])),.box (tv [.bool (cB p89 7 0),.bool (cB p89 7 1)])])) (k94 ([.t (.bool false)],[.box [.func (Fn.func F) [] []],.row false (AD p89 1) 2 (oEs p89 1),.box [.sref 1 (AL p89 2 0) (AP p89 2 0) (AJ p89 2 0)],.box [.t (.bool (cB p89 3 0))],.box [],.box (tv (ct [5,0,1] p89 5 0 [])),.box (tv (ct [5,0,1] p89 6 0 [])),.box (tv [.bool (cB p89 7 0),.bool (cB p89 7 1)])])))
noncomputable def HL (F n:Nat) (k53:KT) (p66 p78:ST):RT:=bd [1] (AA C n F [.bool (cB p78 6 2),.bool (cB p78 5 2)]) fun y88=>join (Kx F n k53 y88 p66) fun k90=>cnd (gB y88 0=true) (k90 ([.t (.bool (!(cB p78 3 0)))],[.box [.func (Fn.func F) [] []],.row false (AD p78 1) 2 (oEs p78 1),.box [.sref 1 (AL p78 2 0) (AP p78 2 0) (AJ p78 2 0)],.box [.t (.bool (cB p78 3 0))],.box [],.box (tv (ct [5,0,1] p78 5 0 [])),.box (tv (ct [5,0,1] p78 6 0 [])),.box (tv [.bool (cB p78 6 2),.bool (cB p78 5 2)])])) (k90 ([.t (.bool false)],[.box [.func (Fn.func F) [] []],.row false (AD p78 1) 2 (oEs p78 1),.box [.sref 1 (AL p78 2 0) (AP p78 2 0) (AJ p78 2 0)],.box [.t (.bool (cB p78 3 0))],.box [],.box (tv (ct [5,0,1] p78 5 0 [])),.box (tv (ct [5,0,1] p78 6 0 [])),.box (tv [.bool (cB p78 6 2),.bool (cB p78 5 2)])]))
noncomputable def I7 (F n:Nat) (k53:KT) (p66 p68:ST):RT:=join (HL F n k53 p66) fun k79=>join (Ia F n k79 p66) fun k81=>cnd ((cI p68 5 1==(length (cL p68 5 0):Int))=true) (k81 (tv [tI 0,.bool false],[.box [.func (Fn.func F) [] []],.row false (AD p68 1) 2 (oEs p68 1),.box [.sref 1 (AL p68 2 0) (AP p68 2 0) (AJ p68 2 0)],.box [.t (.bool (cB p68 3 0))],.box [],.box (tv (ct [5,0,1] p68 5 0 [])),.box (tv (ct [5,0,1] p68 6 0 []))])) (cnd (cB p68 5 2=true) (cnd (2=2∧0≤cI p68 5 1) (Option.bind (cL p68 5 0)[wH (cI p68 5 1)]? fun y82=>cnd (okI y82 1) (k81 (tv [tI (gI y82 1),.bool true],[.box [.func (Fn.func F) [] []],.row false (AD p68 1) 2 (oEs p68 1),.box [.sref 1 (AL p68 2 0) (AP p68 2 0) (AJ p68 2 0)],.box [.t (.bool (cB p68 3 0))],.box [],.box (tv (ct [5,0,1] p68 5 0 [])),.box (tv (ct [5,0,1] p68 6 0 []))])) none) none) (cnd (2=2∧0≤cI p68 5 1) (Option.bind (cL p68 5 0)[wH (cI p68 5 1)]? fun y83=>cnd (okI y83 0) (k81 (tv [tI (gI y83 0),.bool true],[.box [.func (Fn.func F) [] []],.row false (AD p68 1) 2 (oEs p68 1),.box [.sref 1 (AL p68 2 0) (AP p68 2 0) (AJ p68 2 0)],.box [.t (.bool (cB p68 3 0))],.box [],.box (tv (ct [5,0,1] p68 5 0 [])),.box (tv (ct [5,0,1] p68 6 0 []))])) none) none))
noncomputable def I6 (F n:Nat) (k53:KT) (p66:ST):RT:=join (I7 F n k53 p66) fun k69=>join (IZ F n k69 p66) fun k71=>cnd ((cI p66 6 1==(length (cL p66 6 0):Int))=true) (k71 (tv [tI 0,.bool false],[.box [.func (Fn.func F) [] []],.row false (AD p66 1) 2 (oEs p66 1),.box [.sref 1 (AL p66 2 0) (AP p66 2 0) (AJ p66 2 0)],.box [.t (.bool (cB p66 3 0))],.box [],.box (tv (ct [5,0,1] p66 5 0 [])),.box (tv (ct [5,0,1] p66 6 0 []))])) (cnd (cB p66 6 2=true) (cnd (2=2∧0≤cI p66 6 1) (Option.bind (cL p66 6 0)[wH (cI p66 6 1)]? fun y72=>cnd (okI y72 1) (k71 (tv [tI (gI y72 1),.bool true],[.box [.func (Fn.func F) [] []],.row false (AD p66 1) 2 (oEs p66 1),.box [.sref 1 (AL p66 2 0) (AP p66 2 0) (AJ p66 2 0)],.box [.t (.bool (cB p66 3 0))],.box [],.box (tv (ct [5,0,1] p66 5 0 [])),.box (tv (ct [5,0,1] p66 6 0 []))])) none) none) (cnd (2=2∧0≤cI p66 6 1) (Option.bind (cL p66 6 0)[wH (cI p66 6 1)]? fun y73=>cnd (okI y73 0) (k71 (tv [tI (gI y73 0),.bool true],[.box [.func (Fn.func F) [] []],.row false (AD p66 1) 2 (oEs p66 1),.box [.sref 1 (AL p66 2 0) (AP p66 2 0) (AJ p66 2 0)],.box [.t (.bool (cB p66 3 0))],.box [],.box (tv (ct [5,0,1] p66 5 0 [])),.box (tv (ct [5,0,1] p66 6 0 []))])) none) none))
noncomputable def Mm (F n:Nat) (k53:KT) (p58 p54 p64:ST):RT:=join (I6 F n k53) fun k67=>cnd (vB p64 0=true) (k67 ([.t (tI (vI p58 0))],[.box [.func (Fn.func F) [] []],.row false (AD p64 1) 2 (oEs p64 1),.box [.sref 1 (AL p64 2 0) (AP p64 2 0) (AJ p64 2 0)],.box [.t (.bool (cB p64 3 0))],.box [],.box (tv (ct [5,0,1] p64 5 0 [])),.box (tv (ct [5,0,1] p64 6 0 []))])) (k67 ([.t (tI (vI p54 0))],[.box [.func (Fn.func F) [] []],.row false (AD p64 1) 2 (oEs p64 1),.box [.sref 1 (AL p64 2 0) (AP p64 2 0) (AJ p64 2 0)],.box [.t (.bool (cB p64 3 0))],.box [],.box (tv (ct [5,0,1] p64 5 0 [])),.box (tv (ct [5,0,1] p64 6 0 []))]))
noncomputable def Kw (F n:Nat) (k53:KT) (p58 p54 p62:ST):RT:=cnd (vB p62 0=true) (cnd (AD p62 1=AL p62 2 0) (cnd (decide ((AJ p62 2 0:Int)>1000)=true) (some [.sl 2 [],tI 4]) (cnd ((false=true∨false=false)∧AD p62 1=AL p62 2 0∧(2=2∨2=0)) (some [.sl 2 (take (AJ p62 2 0) (drop (AP p62 2 0) (oEs p62 1))),tI 0]) none)) none) (join (Mm F n k53 p58 p54) fun k65=>cnd ((!(vB p54 1))=true) (k65 ([.t (.bool true)],[.box [.func (Fn.func F) [] []],.row false (AD p62 1) 2 (oEs p62 1),.box [.sref 1 (AL p62 2 0) (AP p62 2 0) (AJ p62 2 0)],.box [.t (.bool (cB p62 3 0))],.box [],.box (tv (ct [5,0,1] p62 5 0 [])),.box (tv (ct [5,0,1] p62 6 0 []))])) (cnd (vB p58 1=true) (k65 ([.t (.bool (decide (vI p58 0<vI p54 0)))],[.box [.func (Fn.func F) [] []],.row false (AD p62 1) 2 (oEs p62 1),.box [.sref 1 (AL p62 2 0) (AP p62 2 0) (AJ p62 2 0)],.box [.t (.bool (cB p62 3 0))],.box [],.box (tv (ct [5,0,1] p62 5 0 [])),.box (tv (ct [5,0,1] p62 6 0 []))])) (k65 ([.t (.bool false)],[.box [.func (Fn.func F) [] []],.row false (AD p62 1) 2 (oEs p62 1),.box [.sref 1 (AL p62 2 0) (AP p62 2 0) (AJ p62 2 0)],.box [.t (.bool (cB p62 3 0))],.box [],.box (tv (ct [5,0,1] p62 5 0 [])),.box (tv (ct [5,0,1] p62 6 0 []))]))))
noncomputable def HK (F n:Nat) (k53:KT) (p54 p58:ST):RT:=join (Kw F n k53 p58 p54) fun k63=>cnd ((!(vB p54 1))=true) (k63 ([.t (.bool (!(vB p58 1)))],[.box [.func (Fn.func F) [] []],.row false (AD p58 1) 2 (oEs p58 1),.box [.sref 1 (AL p58 2 0) (AP p58 2 0) (AJ p58 2 0)],.box [.t (.bool (cB p58 3 0))],.box [],.box (tv (ct [5,0,1] p58 5 0 [])),.box (tv (ct [5,0,1] p58 6 0 []))])) (k63 ([.t (.bool false)],[.box [.func (Fn.func F) [] []],.row false (AD p58 1) 2 (oEs p58 1),.box [.sref 1 (AL p58 2 0) (AP p58 2 0) (AJ p58 2 0)],.box [.t (.bool (cB p58 3 0))],.box [],.box (tv (ct [5,0,1] p58 5 0 [])),.box (tv (ct [5,0,1] p58 6 0 []))]))
noncomputable def Kv (F n:Nat) (k53:KT) (p54:ST):RT:=join (HK F n k53 p54) fun k59=>cnd ((cI p54 5 1==(length (cL p54 5 0):Int))=true) (k59 (tv [tI 0,.bool false],[.box [.func (Fn.func F) [] []],.row false (AD p54 1) 2 (oEs p54 1),.box [.sref 1 (AL p54 2 0) (AP p54 2 0) (AJ p54 2 0)],.box [.t (.bool (cB p54 3 0))],.box [],.box (tv (ct [5,0,1] p54 5 0 [])),.box (tv (ct [5,0,1] p54 6 0 []))])) (cnd (cB p54 5 2=true) (cnd (2=2∧0≤cI p54 5 1) (Option.bind (cL p54 5 0)[wH (cI p54 5 1)]? fun y60=>cnd (okI y60 1) (k59 (tv [tI (gI y60 1),.bool true],[.box [.func (Fn.func F) [] []],.row false (AD p54 1) 2 (oEs p54 1),.box [.sref 1 (AL p54 2 0) (AP p54 2 0) (AJ p54 2 0)],.box [.t (.bool (cB p54 3 0))],.box [],.box (tv (ct [5,0,1] p54 5 0 [])),.box (tv (ct [5,0,1] p54 6 0 []))])) none) none) (cnd (2=2∧0≤cI p54 5 1) (Option.bind (cL p54 5 0)[wH (cI p54 5 1)]? fun y61=>cnd (okI y61 0) (k59 (tv [tI (gI y61 0),.bool true],[.box [.func (Fn.func F) [] []],.row false (AD p54 1) 2 (oEs p54 1),.box [.sref 1 (AL p54 2 0) (AP p54 2 0) (AJ p54 2 0)],.box [.t (.bool (cB p54 3 0))],.box [],.box (tv (ct [5,0,1] p54 5 0 [])),.box (tv (ct [5,0,1] p54 6 0 []))])) none) none))
noncomputable def I4 (F n:Nat) (p52:ST) (k53:KT):RT:=join (Kv F n k53) fun k55=>cnd ((cI p52 6 1==(length (cL p52 6 0):Int))=true) (k55 (tv [tI 0,.bool false],[.box [.func (Fn.func F) [] []],.row false (AD p52 1) 2 (oEs p52 1),.box [.sref 1 (AL p52 2 0) (AP p52 2 0) (AJ p52 2 0)],.box [.t (.bool (cB p52 3 0))],.box [],.box (tv (ct [5,0,1] p52 5 0 [])),.box (tv (ct [5,0,1] p52 6 0 []))])) (cnd (cB p52 6 2=true) (cnd (2=2∧0≤cI p52 6 1) (Option.bind (cL p52 6 0)[wH (cI p52 6 1)]? fun y56=>cnd (okI y56 1) (k55 (tv [tI (gI y56 1),.bool true],[.box [.func (Fn.func F) [] []],.row false (AD p52 1) 2 (oEs p52 1),.box [.sref 1 (AL p52 2 0) (AP p52 2 0) (AJ p52 2 0)],.box [.t (.bool (cB p52 3 0))],.box [],.box (tv (ct [5,0,1] p52 5 0 [])),.box (tv (ct [5,0,1] p52 6 0 []))])) none) none) (cnd (2=2∧0≤cI p52 6 1) (Option.bind (cL p52 6 0)[wH (cI p52 6 1)]? fun y57=>cnd (okI y57 0) (k55 (tv [tI (gI y57 0),.bool true],[.box [.func (Fn.func F) [] []],.row false (AD p52 1) 2 (oEs p52 1),.box [.sref 1 (AL p52 2 0) (AP p52 2 0) (AJ p52 2 0)],.box [.t (.bool (cB p52 3 0))],.box [],.box (tv (ct [5,0,1] p52 5 0 [])),.box (tv (ct [5,0,1] p52 6 0 []))])) none) none))
noncomputable def F8 (F n:Nat) (a0 a1:TT) (p2:ST):RT:=cnd (vB p2 0=true) (some [.sl 2 [],tI 1]) (both (AH (I5 F n) n ([],[.box [.func (Fn.func F) [] []],.row false 0 2 [],.box [.sref 1 0 0 0],.box [.t (.bool false)],.box [],.box (tv [.sl 2 a0,tI 0,.bool false]),.box (tv [.sl 2 a1,tI 0,.bool false])])) (AH (I4 F n) n ([],[.box [.func (Fn.func F) [] []],.row false 0 2 [],.box [.sref 1 0 0 0],.box [.t (.bool false)],.box [],.box (tv [.sl 2 a1,tI 0,.bool false]),.box (tv [.sl 2 a0,tI 0,.bool false])])))
theorem e141 (n:Nat) (a0 a1:TT):AA C (n+1) 141 [.sl 2 a0,.sl 2 a1]=join (F8 155 n a0 a1) fun k3=>bd [0] (AA C n 67 [.sl 2 a0]) fun y4=>cnd (((gI y4 0) != 0)=true) (k3 ([.t (.bool true)],[.box [.func (Fn.func 155) [] []]])) (bd [0] (AA C n 67 [.sl 2 a1]) fun y5=>k3 ([.t (.bool ((gI y5 0) != 0))],[.box [.func (Fn.func 155) [] []]])):=by kernel_rfl
theorem e142 (n:Nat) (a0:ByteArray):AA C (n+1) 142 [.str a0]=some [.sl 2 [[tI 0,tI (ByteArray.size a0:Int)]]]:=by kernel_rfl
theorem e143 (n:Nat) (a0:Int) (a1:TT) (a2 a3:Int):AA C (n+1) 143 [tI a0,.sl 10 a1,tI a2,tI a3]=bd [1] (AA C n 95 [tI a0]) fun y6=>cnd ((!(gB y6 0))=true) (some [tI 2]) (cnd (decide (a2<0)=true) (some [tI 2]) (cnd (decide (a3<0)=true) (some [tI 2]) (cnd (decide (a3>a2)=true) (some [tI 2]) (cnd (decide ((length a1:Int)>10000)=true) (some [tI 4]) (AH (IV n a1 a2) n ([.t (tI 0)],[])))))):=by kernel_rfl
noncomputable def RO (n:Nat) (a4 a5 a6 a7 a8:Int) (a9:Bool) (a10:ByteArray) (a11:TT) (p12:ST):RT:=cnd (vB p12 0=true) (some (zt [0,0,5,2,11] [tI 1])) (bd [1] (AA C n 160 (ct [0,0,5,2] p12 0 0 [tI a4,tI a5,tI a6,tI a7,tI a8,.bool a9,.str a10,.sl 2 a11])) fun y16=>cnd ((!(gB y16 0))=true) (some (ct [0,0,5,2] p12 0 0 [.sl 8 [],tI 0])) (bd [5,0] (AA C n 161 (ct [0,0,5,2] p12 0 0 [tI a4,tI a5,tI a6,tI a7,tI a8,.bool a9,.str a10,.sl 2 a11])) fun y17=>cnd (a8=a8∧0≤a8∧a8≤1073741824∧1=1) (cnd (0≤a7∧a7≤(wH a8:Int)) (cnd (KM (take (wH a8) (BP (BP (yB (wH a8) [.int IntKind.u8 (0:Int)]) 0 (take (wH a8) (DG (cS p12 0 3)))) (0+wH a7) (take (wH a8-wH a7) (DG a10))))=true) (cnd ((!a9)=true) (some [tI (cI p12 0 0),tI a8,.sl 2 (gL y17 0),.str (bytesOf (take (wH a8) (BP (BP (yB (wH a8) [.int IntKind.u8 (0:Int)]) 0 (take (wH a8) (DG (cS p12 0 3)))) (0+wH a7) (take (wH a8-wH a7) (DG a10))))),.sl 8 [],tI 0]) (bd [5] (AA C n 163 [.sl 2 (gL y17 0)]) fun y18=>bd [0,0,0,0,0,1,2,5,0] (AA C n 162 [tI (cI p12 0 0),tI a6,tI a8,.sl 2 (gL y18 0)]) fun y19=>cnd (((gI y19 8) != 0)=true) (some [tI (cI p12 0 0),tI a8,.sl 2 (gL y17 0),.str (bytesOf (take (wH a8) (BP (BP (yB (wH a8) [.int IntKind.u8 (0:Int)]) 0 (take (wH a8) (DG (cS p12 0 3)))) (0+wH a7) (take (wH a8-wH a7) (DG a10))))),.sl 8 [],tI 0]) (some [tI (cI p12 0 0),tI a8,.sl 2 (gL y17 0),.str (bytesOf (take (wH a8) (BP (BP (yB (wH a8) [.int IntKind.u8 (0:Int)]) 0 (take (wH a8) (DG (cS p12 0 3)))) (0+wH a7) (take (wH a8-wH a7) (DG a10))))),.sl 8 [[tI (gI y19 0),tI (gI y19 1),tI (gI y19 2),tI (gI y19 3),tI (gI y19 4),.bool (gB y19 5),.str (gS y19 6),.sl 2 (gL y19 7)]],tI 0]))) none) none) none))
theorem e146 (n:Nat) (a0 a1:Int) (a2:TT) (a3:ByteArray) (a4 a5 a6 a7 a8:Int) (a9:Bool) (a10:ByteArray) (a11:TT):AA C (n+1) 146 [tI a0,tI a1,.sl 2 a2,.str a3,tI a4,tI a5,tI a6,tI a7,tI a8,.bool a9,.str a10,.sl 2 a11]=join (RO n a4 a5 a6 a7 a8 a9 a10 a11) fun k13=>bd [0] (AA C n 159 [tI a0,tI a1,.sl 2 a2,.str a3]) fun y14=>cnd (((gI y14 0) != 0)=true) (k13 ([.t (.bool true)],[.box (tv [tI a0,tI a1,.sl 2 a2,.str a3]),.box (tv (zt [0,0,5,2] []))])) (bd [0] (AA C n 152 [tI a4,tI a5,tI a6,tI a7,tI a8,.bool a9,.str a10,.sl 2 a11]) fun y15=>k13 ([.t (.bool ((gI y15 0) != 0))],[.box (tv [tI a0,tI a1,.sl 2 a2,.str a3]),.box (tv (zt [0,0,5,2] []))])):=by kernel_rfl
theorem e147 (n:Nat) (a0 a1:Int) (a2:TT) (a3:ByteArray):AA C (n+1) 147 [tI a0,tI a1,.sl 2 a2,.str a3]=bd [0] (AA C n 159 [tI a0,tI a1,.sl 2 a2,.str a3]) fun y6=>cnd ((gI y6 0==0)=true) (cnd (((length a2:Int)==1)=true) (Option.bind a2[0]? fun y7=>bk [0,0] 0 y7 (some [.bool ((gI y7 0==0)&&(gI y7 1==a1))])) (some [.bool false])) (some [.bool false]):=by kernel_rfl
noncomputable def RN (n:Nat) (a0 a1 a2 a3 a4 a5 a6 a7:Int) (a8:ByteArray) (a9 a10 a11:Int) (a12:TT) (a13 a14 a15 a16 a17 a18 a19 a20:Int) (a21:Bool) (a22:ByteArray) (a23:TT) (p29:ST):RT:=cnd (vB p29 0=true) (some [tI a0,tI a1,tI a2,tI a3,tI a4,tI a5,tI a6,tI a7,.str a8,tI a9,tI a10,tI a11,.sl 2 a12,tI a13,tI a14,.sl 9 [],tI 0]) (bd kT (AA C n 186 [tI a0,tI a1,tI a2,tI a3,tI a4,tI a5,tI a6,tI a7,.str a8,tI a9,tI a10,tI a11,.sl 2 a12,tI a13,tI a14,tI a15,tI a16,tI a17,tI a18,tI a19,tI a20,.bool a21,.str a22,.sl 2 a23]) fun y31=>some (gt kT y31 0 [tI 0]))
noncomputable def RM (n:Nat) (a0 a1 a2 a3 a4 a5 a6 a7:Int) (a8:ByteArray) (a9 a10 a11:Int) (a12:TT) (a13 a14 a15 a16 a17 a18 a19 a20:Int) (a21:Bool) (a22:ByteArray) (a23:TT) (p32:ST):RT:=cnd (vB p32 0=true) (some [tI a0,tI a1,tI a2,tI a3,tI a4,tI a5,tI a6,tI a7,.str a8,tI a9,tI a10,tI a11,.sl 2 a12,tI a13,tI a14,.sl 9 [],tI 0]) (bd kT (AA C n 187 [tI a0,tI a1,tI a2,tI a3,tI a4,tI a5,tI a6,tI a7,.str a8,tI a9,tI a10,tI a11,.sl 2 a12,tI a13,tI a14,tI a15,tI a16,tI a17,tI a18,tI a19,tI a20,.bool a21,.str a22,.sl 2 a23]) fun y34=>some (gt kT y34 0 [tI 0]))
noncomputable def HI (n:Nat) (a15 a10 a16 a0 a1 a2 a3 a4 a5 a6 a7:Int) (a8:ByteArray) (a9 a11:Int) (a12:TT) (a13 a14 a17 a18 a19 a20:Int) (a21:Bool) (a22:ByteArray) (a23:TT) (p24:ST):RT:=cnd (vB p24 0=true) (some (zt kT [tI 1])) (bd [1] (AA C n 92 [tI a15,tI a10,tI 2199023255552]) fun y28=>cnd ((!(gB y28 0))=true) (some (zt kT [tI 2])) (cnd (a16=2) (join (RN n a0 a1 a2 a3 a4 a5 a6 a7 a8 a9 a10 a11 a12 a13 a14 a15 a16 a17 a18 a19 a20 a21 a22 a23) fun k30=>cnd ((a14 != 1)=true) (k30 ([.t (.bool true)],[.box (tv (ct kS p24 0 0 []))])) (k30 ([.t (.bool (a17 != a7))],[.box (tv (ct kS p24 0 0 []))]))) (cnd (a16=3) (join (RM n a0 a1 a2 a3 a4 a5 a6 a7 a8 a9 a10 a11 a12 a13 a14 a15 a16 a17 a18 a19 a20 a21 a22 a23) fun k33=>cnd ((a14 != 1)=true) (k33 ([.t (.bool true)],[.box (tv (ct kS p24 0 0 []))])) (k33 ([.t (.bool (a17 != a7))],[.box (tv (ct kS p24 0 0 []))]))) (some [tI a0,tI a1,tI a2,tI a3,tI a4,tI a5,tI a6,tI a7,.str a8,tI a9,tI a10,tI a11,.sl 2 a12,tI a13,tI a14,.sl 9 [],tI 0]))))
theorem e148 (n:Nat) (a0 a1 a2 a3 a4 a5 a6 a7:Int) (a8:ByteArray) (a9 a10 a11:Int) (a12:TT) (a13 a14 a15 a16 a17 a18 a19 a20:Int) (a21:Bool) (a22:ByteArray) (a23:TT):AA C (n+1) 148 [tI a0,tI a1,tI a2,tI a3,tI a4,tI a5,tI a6,tI a7,.str a8,tI a9,tI a10,tI a11,.sl 2 a12,tI a13,tI a14,tI a15,tI a16,tI a17,tI a18,tI a19,tI a20,.bool a21,.str a22,.sl 2 a23]=join (HI n a15 a10 a16 a0 a1 a2 a3 a4 a5 a6 a7 a8 a9 a11 a12 a13 a14 a17 a18 a19 a20 a21 a22 a23) fun k25=>bd [0] (AA C n 164 [tI a0,tI a1,tI a2,tI a3,tI a4,tI a5,tI a6,tI a7,.str a8,tI a9,tI a10,tI a11,.sl 2 a12,tI a13,tI a14]) fun y26=>cnd (((gI y26 0) != 0)=true) (k25 ([.t (.bool true)],[.box (tv (zt kS []))])) (bd [0] (AA C n 152 [tI a16,tI a17,tI a18,tI a19,tI a20,.bool a21,.str a22,.sl 2 a23]) fun y27=>k25 ([.t (.bool ((gI y27 0) != 0))],[.box (tv (zt kS []))])):=by kernel_rfl
theorem e149 (n:Nat) (a0 a1 a2 a3 a4 a5 a6 a7:Int) (a8:ByteArray) (a9 a10 a11:Int) (a12:TT) (a13 a14 a15:Int):AA C (n+1) 149 [tI a0,tI a1,tI a2,tI a3,tI a4,tI a5,tI a6,tI a7,.str a8,tI a9,tI a10,tI a11,.sl 2 a12,tI a13,tI a14,tI a15]=bd [0] (AA C n 164 [tI a0,tI a1,tI a2,tI a3,tI a4,tI a5,tI a6,tI a7,.str a8,tI a9,tI a10,tI a11,.sl 2 a12,tI a13,tI a14]) fun y16=>cnd (((gI y16 0) != 0)=true) (some (zt kT [tI 1])) (cnd ((a14 != 1)=true) (some (zt kT [tI 19])) (bd [1] (AA C n 92 [tI a15,tI a13,tI 2199023255552]) fun y17=>cnd ((!(gB y17 0))=true) (some (zt kT [tI 2])) (bd [11] (AA C n 94 [tI a0,tI a1,tI a2,tI a3,tI a4,tI a5,tI a6,tI a7,.str a8,tI a9,tI a10,tI a11,.sl 2 a12,tI a13,tI a14]) fun y18=>both (cnd (0≤(if w64 ((length (gL y18 0):Int)-1)>0 then w64 ((length (gL y18 0):Int)-1) else (0:Int))∧(if w64 ((length (gL y18 0):Int)-1)>0 then w64 ((length (gL y18 0):Int)-1) else (0:Int))≤(length (gL y18 0):Int)) (bd kT (AA C n 2005967 [tI a0,tI a1,tI a2,tI a3,tI a4,tI a5,tI a6,tI a7,.str a8,tI a9,tI a10,tI a11,.sl 2 a12,tI a13,tI a14,tI a15,.sl 8 (drop (wH (if w64 ((length (gL y18 0):Int)-1)>0 then w64 ((length (gL y18 0):Int)-1) else (0:Int))) (take (length (gL y18 0)) (gL y18 0)))]) fun y19=>some (gt kS y19 0 [.sl 9 (take (length (gL y19 15)) (gL y19 15)),tI 0])) none) (cnd (0≤(if w64 ((length (gL y18 0):Int)-1)>0 then w64 ((length (gL y18 0):Int)-1) else (0:Int))∧(if w64 ((length (gL y18 0):Int)-1)>0 then w64 ((length (gL y18 0):Int)-1) else (0:Int))≤(length (gL y18 0):Int)) (bd kT (AA C n 2005967 [tI a0,tI a1,tI a2,tI a3,tI a4,tI a5,tI a6,tI a7,.str a8,tI a9,tI a10,tI a11,.sl 2 a12,tI a13,tI a14,tI a15,.sl 8 (drop (wH (if w64 ((length (gL y18 0):Int)-1)>0 then w64 ((length (gL y18 0):Int)-1) else (0:Int))) (take (length (gL y18 0)) (gL y18 0)))]) fun y20=>some (gt kS y20 0 [.sl 9 (take (length (gL y20 15)) (gL y20 15)),tI 0])) none)))):=by kernel_rfl
noncomputable def Oc (n:Nat) (a1:TT) (p2:ST) (a0:TT) (k3:KT) (p4:ST) (k5:KT):RT:=cnd (decide (vI p4 1<(length a1:Int))=true) (cnd (2=2∧0≤vI p2 1) (Option.bind a0[wH (vI p2 1)]? fun y6=>cnd (okI y6 0) (cnd (2=2∧0≤vI p4 1) (Option.bind a1[wH (vI p4 1)]? fun y7=>cnd (okI y7 0) (cnd (2=2∧0≤vI p2 1) (Option.bind a0[wH (vI p2 1)]? fun y8=>cnd (okI y8 1) (cnd (2=2∧0≤vI p4 1) (Option.bind a1[wH (vI p4 1)]? fun y9=>cnd (okI y9 1) (cnd (decide ((if gI y7 0>gI y6 0 then gI y7 0 else gI y6 0)<(if gI y9 1<gI y8 1 then gI y9 1 else gI y8 1))=true) (cnd (AD p4 0=A0 p4 0∧(2=2∨2=0)∧Bu p4 0+Ah p4 0≤length (oEs p4 0)∧Ah p4 0+1≤1073741824) (k5 ([.sref 0 (A0 p4 0+1) 0 (Ah p4 0+1),.t (tI (w64 (vI p4 1+1)))],[.row false (A0 p4 0+1) 2 (take (Ah p4 0) (drop (Bu p4 0) (oEs p4 0))++[[tI (if gI y7 0>gI y6 0 then gI y7 0 else gI y6 0),tI (if gI y9 1<gI y8 1 then gI y9 1 else gI y8 1)]])])) none) (k5 ([.sref 0 (A0 p4 0) (Bu p4 0) (Ah p4 0),.t (tI (w64 (vI p4 1+1)))],[.row false (AD p4 0) 2 (oEs p4 0)]))) none) none) none) none) none) none) none) none) (k3 ([.sref 0 (A0 p4 0) (Bu p4 0) (Ah p4 0),.t (tI (w64 (vI p2 1+1)))],[.row false (AD p4 0) 2 (oEs p4 0)]))
noncomputable def UO (n:Nat) (a0 a1:TT) (p2:ST) (k3:KT):RT:=cnd (decide (vI p2 1<(length a0:Int))=true) (AH (Oc n a1 p2 a0 k3) n ([.sref 0 (A0 p2 0) (Bu p2 0) (Ah p2 0),.t (tI 0)],[.row false (AD p2 0) 2 (oEs p2 0)])) (cnd ((false=true∨false=false)∧AD p2 0=A0 p2 0∧(2=2∨2=0)) (some [.sl 2 (take (Ah p2 0) (drop (Bu p2 0) (oEs p2 0)))]) none)
theorem e150 (n:Nat) (a0 a1:TT):AA C (n+1) 150 [.sl 2 a0,.sl 2 a1]=AH (UO n a0 a1) n ([.sref 0 0 0 0,.t (tI 0)],[.row false 0 2 []]):=by kernel_rfl
noncomputable def Ob (n:Nat) (a0:TT) (p1:ST) (k2:KT):RT:=cnd (decide (vI p1 2<(length a0:Int))=true) (cnd (2=2∧0≤vI p1 2) (Option.bind a0[wH (vI p1 2)]? fun y3=>cnd (okI y3 0) (cnd (decide (vI p1 1<gI y3 0)=true) (cnd (2=2∧0≤vI p1 2) (Option.bind a0[wH (vI p1 2)]? fun y6=>cnd (okI y6 0) (cnd (AD p1 0=A0 p1 0∧(2=2∨2=0)∧Bu p1 0+Ah p1 0≤length (oEs p1 0)∧Ah p1 0+1≤1073741824) (cnd (2=2∧0≤vI p1 2) (Option.bind a0[wH (vI p1 2)]? fun y8=>cnd (okI y8 1) (k2 ([.sref 0 (A0 p1 0+1) 0 (Ah p1 0+1),.t (tI (gI y8 1)),.t (tI (w64 (vI p1 2+1)))],[.row false (A0 p1 0+1) 2 (take (Ah p1 0) (drop (Bu p1 0) (oEs p1 0))++[[tI (vI p1 1),tI (gI y6 0)]])])) none) none) none) none) none) (cnd (2=2∧0≤vI p1 2) (Option.bind a0[wH (vI p1 2)]? fun y9=>cnd (okI y9 1) (k2 ([.sref 0 (A0 p1 0) (Bu p1 0) (Ah p1 0),.t (tI (gI y9 1)),.t (tI (w64 (vI p1 2+1)))],[.row false (AD p1 0) 2 (oEs p1 0)])) none) none)) none) none) (cnd (decide (vI p1 1<1152921504606846976)=true) (cnd (AD p1 0=A0 p1 0∧(2=2∨2=0)∧Bu p1 0+Ah p1 0≤length (oEs p1 0)∧Ah p1 0+1≤1073741824) (cnd ((false=true∨false=false)∧A0 p1 0+1=A0 p1 0+1∧(2=2∨2=0)) (some [.sl 2 (take (Ah p1 0+1) (take (Ah p1 0) (drop (Bu p1 0) (oEs p1 0))++[[tI (vI p1 1),tI 1152921504606846976]]))]) none) none) (cnd ((false=true∨false=false)∧AD p1 0=A0 p1 0∧(2=2∨2=0)) (some [.sl 2 (take (Ah p1 0) (drop (Bu p1 0) (oEs p1 0)))]) none))
theorem e151 (n:Nat) (a0:TT):AA C (n+1) 151 [.sl 2 a0]=AH (Ob n a0) n ([.sref 0 0 0 0,.t (tI (-1152921504606846976)),.t (tI 0)],[.row false 0 2 []]):=by kernel_rfl
noncomputable def GO (n:Nat) (a0 a1 a2 a3 a4:Int) (a5:Bool) (a6:ByteArray) (a7:TT) (p16:ST):RT:=cnd (vB p16 0=true) (some [tI 2]) (bd [1] (AA C n 191 [tI a0,tI a1,tI a2,tI a3,tI a4,.bool a5,.str a6,.sl 2 a7]) fun y21=>cnd ((!(gB y21 0))=true) (some [tI 1]) (some [tI 0]))
noncomputable def GN (n:Nat) (a0 a1 a2 a3 a4:Int) (a5:Bool) (a6:ByteArray) (a7:TT) (p22:ST):RT:=cnd (vB p22 0=true) (some [tI 2]) (bd [1] (AA C n 189 [tI a0,tI a1,tI a2,tI a3,tI a4,.bool a5,.str a6,.sl 2 a7]) fun y27=>cnd ((!(gB y27 0))=true) (some [tI 1]) (some [tI 0]))
theorem e152 (n:Nat) (a0 a1 a2 a3 a4:Int) (a5:Bool) (a6:ByteArray) (a7:TT):AA C (n+1) 152 [tI a0,tI a1,tI a2,tI a3,tI a4,.bool a5,.str a6,.sl 2 a7]=bd [1] (AA C n 138 [tI a0,tI 1,tI 3]) fun y8=>cnd ((!(gB y8 0))=true) (some [tI 8]) (cnd (0≤a0∧a0<4) (cnd (a0=3) (bd [1] (AA C n 138 [tI a1,tI 0,tI 1099511627776]) fun y11=>cnd ((!(gB y11 0))=true) (some [tI 2]) (bd [1] (AA C n 138 [tI a2,tI 0,tI 1099511627776]) fun y12=>cnd ((!(gB y12 0))=true) (some [tI 2]) (bd [1] (AA C n 192 [tI a0,tI a1,tI a2,tI a3,tI a4,.bool a5,.str a6,.sl 2 a7]) fun y13=>cnd ((!(gB y13 0))=true) (some [tI 2]) (bd [1] (AA C n 193 [tI a0,tI a1,tI a2,tI a3,tI a4,.bool a5,.str a6,.sl 2 a7]) fun y15=>cnd ((!(gB y15 0))=true) (some [tI 1]) (some [tI 0]))))) (cnd (a0=2) (join (GO n a0 a1 a2 a3 a4 a5 a6 a7) fun k17=>bd [1] (AA C n 138 [tI a1,tI 0,tI 1099511627776]) fun y18=>cnd ((!(gB y18 0))=true) (k17 ([.t (.bool true)],[.box [.t (.const Value.nilFunc),.t (.const Value.nilFunc),.func (Fn.func 188) [] [],.func (Fn.func 189) [] [],.func (Fn.func 190) [] [],.func (Fn.func 191) [] [],.func (Fn.func 192) [] [],.func (Fn.func 193) [] []],.box []])) (bd [1] (AA C n 138 [tI a2,tI 0,tI 1099511627776]) fun y19=>cnd ((!(gB y19 0))=true) (k17 ([.t (.bool true)],[.box [.t (.const Value.nilFunc),.t (.const Value.nilFunc),.func (Fn.func 188) [] [],.func (Fn.func 189) [] [],.func (Fn.func 190) [] [],.func (Fn.func 191) [] [],.func (Fn.func 192) [] [],.func (Fn.func 193) [] []],.box []])) (bd [1] (AA C n 190 [tI a0,tI a1,tI a2,tI a3,tI a4,.bool a5,.str a6,.sl 2 a7]) fun y20=>k17 ([.t (.bool (!(gB y20 0)))],[.box [.t (.const Value.nilFunc),.t (.const Value.nilFunc),.func (Fn.func 188) [] [],.func (Fn.func 189) [] [],.func (Fn.func 190) [] [],.func (Fn.func 191) [] [],.func (Fn.func 192) [] [],.func (Fn.func 193) [] []],.box []])))) (cnd (a0=1) (join (GN n a0 a1 a2 a3 a4 a5 a6 a7) fun k23=>bd [1] (AA C n 138 [tI a1,tI 0,tI 1099511627776]) fun y24=>cnd ((!(gB y24 0))=true) (k23 ([.t (.bool true)],[.box [.t (.const Value.nilFunc),.t (.const Value.nilFunc),.func (Fn.func 188) [] [],.func (Fn.func 189) [] [],.func (Fn.func 190) [] [],.func (Fn.func 191) [] [],.func (Fn.func 192) [] [],.func (Fn.func 193) [] []],.box []])) (bd [1] (AA C n 138 [tI a2,tI 0,tI 1099511627776]) fun y25=>cnd ((!(gB y25 0))=true) (k23 ([.t (.bool true)],[.box [.t (.const Value.nilFunc),.t (.const Value.nilFunc),.func (Fn.func 188) [] [],.func (Fn.func 189) [] [],.func (Fn.func 190) [] [],.func (Fn.func 191) [] [],.func (Fn.func 192) [] [],.func (Fn.func 193) [] []],.box []])) (bd [1] (AA C n 188 [tI a0,tI a1,tI a2,tI a3,tI a4,.bool a5,.str a6,.sl 2 a7]) fun y26=>k23 ([.t (.bool (!(gB y26 0)))],[.box [.t (.const Value.nilFunc),.t (.const Value.nilFunc),.func (Fn.func 188) [] [],.func (Fn.func 189) [] [],.func (Fn.func 190) [] [],.func (Fn.func 191) [] [],.func (Fn.func 192) [] [],.func (Fn.func 193) [] []],.box []])))) (cnd (a0=0) (bd [1] (AA C n 138 [tI a1,tI 0,tI 1099511627776]) fun y30=>cnd ((!(gB y30 0))=true) (some [tI 2]) (bd [1] (AA C n 138 [tI a2,tI 0,tI 1099511627776]) fun y31=>cnd ((!(gB y31 0))=true) (some [tI 2]) none)) none)))) none):=by kernel_rfl
theorem e155 (n:Nat) (a0 a1:Bool):AA C (n+1) 155 [.bool a0,.bool a1]=cnd (a0=true) (some [.bool (!a1)]) (some [.bool false]):=by kernel_rfl
noncomputable def RL (n:Nat) (k25:KT) (p26:ST):RT:=k25 ([.t (.bool (vB p26 0))],[.box (tv (ct [0,13,0,0] p26 0 0 [])),.row false (AD p26 1) 10 (oEs p26 1),.box [.t (tI (cI p26 2 0)),.sref 1 (AL p26 2 1) (AP p26 2 1) (AJ p26 2 1),.t (tI (cI p26 2 2)),.t (tI (cI p26 2 3))]])
noncomputable def Zd (n:Nat) (k20:KT) (p21:ST) (k22:KT) (p24:ST):RT:=cnd (vB p24 0=true) (k20 ([.t (tI (vI p21 0))],[.box (tv (ct [0,13,0,0] p24 0 0 [])),.row false (AD p24 1) 10 (oEs p24 1),.box [.t (tI (cI p24 2 0)),.sref 1 (AL p24 2 1) (AP p24 2 1) (AJ p24 2 1),.t (tI (cI p24 2 2)),.t (tI (cI p24 2 3))]])) (k22 ([.t (tI (w64 (vI p21 0+1)))],[.box (tv (ct [0,13,0,0] p24 0 0 [])),.row false (AD p24 1) 10 (oEs p24 1),.box [.t (tI (cI p24 2 0)),.sref 1 (AL p24 2 1) (AP p24 2 1) (AJ p24 2 1),.t (tI (cI p24 2 2)),.t (tI (cI p24 2 3))]]))
noncomputable def UN (n:Nat) (a13:TT) (k20:KT) (p21:ST) (k22:KT):RT:=cnd (decide (vI p21 0<(length a13:Int))=true) (cnd (1=1∧0≤vI p21 0) (Option.bind a13[wH (vI p21 0)]? fun y23=>cnd (okI y23 0) (join (Zd n k20 p21 k22) fun k25=>join (RL n k25) fun k27=>cnd (decide (gI y23 0<cI p21 0 0)=true) (k27 ([.t (.bool true)],[.box (tv (ct [0,13,0,0] p21 0 0 [])),.row false (AD p21 1) 10 (oEs p21 1),.box [.t (tI (cI p21 2 0)),.sref 1 (AL p21 2 1) (AP p21 2 1) (AJ p21 2 1),.t (tI (cI p21 2 2)),.t (tI (cI p21 2 3))]])) (k27 ([.t (.bool (decide (gI y23 0>w64 (2*cI p21 0 0))))],[.box (tv (ct [0,13,0,0] p21 0 0 [])),.row false (AD p21 1) 10 (oEs p21 1),.box [.t (tI (cI p21 2 0)),.sref 1 (AL p21 2 1) (AP p21 2 1) (AJ p21 2 1),.t (tI (cI p21 2 2)),.t (tI (cI p21 2 3))]]))) none) none) (k20 ([.t (tI (-1))],[.box (tv (ct [0,13,0,0] p21 0 0 [])),.row false (AD p21 1) 10 (oEs p21 1),.box [.t (tI (cI p21 2 0)),.sref 1 (AL p21 2 1) (AP p21 2 1) (AJ p21 2 1),.t (tI (cI p21 2 2)),.t (tI (cI p21 2 3))]]))
noncomputable def Zc (n:Nat) (k18:KT) (p19:ST):RT:=k18 ([.t (.bool (decide (vI p19 0≥(0:Int))))],[.box (tv (ct [0,13,0,0] p19 0 0 [])),.row false (AD p19 1) 10 (oEs p19 1),.box [.t (tI (cI p19 2 0)),.sref 1 (AL p19 2 1) (AP p19 2 1) (AJ p19 2 1),.t (tI (cI p19 2 2)),.t (tI (cI p19 2 3))]])
noncomputable def Zb (n:Nat) (k35:KT) (p39:ST):RT:=k35 (tv [tI (vI p39 0),tI (vI p39 1)],[.box (tv (ct [0,13,0,0] p39 0 0 [])),.row false (AD p39 1) 10 (oEs p39 1),.box [.t (tI (cI p39 2 0)),.sref 1 (AL p39 2 1) (AP p39 2 1) (AJ p39 2 1),.t (tI (cI p39 2 2)),.t (tI (cI p39 2 3))],.row false (AD p39 3) 10 (oEs p39 3),.row false (AD p39 4) 10 (oEs p39 4),.box [.sref 3 (AL p39 5 0) (AP p39 5 0) (AJ p39 5 0)],.box []])
noncomputable def RE (n:Nat) (a4:Int) (y31:List Tree) (k33:KT) (p34:ST) (k35:KT):RT:=cnd (decide (vI p34 0<vI p34 1)=true) (cnd (AD p34 3=AL p34 5 0∧10=10∧0≤w64 (QQ IntKind.u64 (IntKind.wrap IntKind.u64 (w64 (vI p34 0+vI p34 1))) (1:Int))∧w64 (QQ IntKind.u64 (IntKind.wrap IntKind.u64 (w64 (vI p34 0+vI p34 1))) (1:Int))<(AJ p34 5 0:Int)) (cnd (AD p34 3=AL p34 5 0) (cnd (AD p34 3=AL p34 5 0) (Option.bind (oEs p34 3)[AP p34 5 0+wH (w64 (QQ IntKind.u64 (IntKind.wrap IntKind.u64 (w64 (vI p34 0+vI p34 1))) (1:Int)))]? fun y38=>cnd (okI y38 0) (join (Zb n k35) fun k40=>cnd ((!(decide (gI y38 0>w64 (a4+gI y31 0))))=true) (k40 (tv [tI (w64 (w64 (QQ IntKind.u64 (IntKind.wrap IntKind.u64 (w64 (vI p34 0+vI p34 1))) (1:Int))+1)),tI (vI p34 1)],[.box (tv (ct [0,13,0,0] p34 0 0 [])),.row false (AD p34 1) 10 (oEs p34 1),.box [.t (tI (cI p34 2 0)),.sref 1 (AL p34 2 1) (AP p34 2 1) (AJ p34 2 1),.t (tI (cI p34 2 2)),.t (tI (cI p34 2 3))],.row false (AD p34 3) 10 (oEs p34 3),.row false (AD p34 4) 10 (oEs p34 4),.box [.sref 3 (AL p34 5 0) (AP p34 5 0) (AJ p34 5 0)],.box []])) (k40 (tv [tI (vI p34 0),tI (w64 (QQ IntKind.u64 (IntKind.wrap IntKind.u64 (w64 (vI p34 0+vI p34 1))) (1:Int)))],[.box (tv (ct [0,13,0,0] p34 0 0 [])),.row false (AD p34 1) 10 (oEs p34 1),.box [.t (tI (cI p34 2 0)),.sref 1 (AL p34 2 1) (AP p34 2 1) (AJ p34 2 1),.t (tI (cI p34 2 2)),.t (tI (cI p34 2 3))],.row false (AD p34 3) 10 (oEs p34 3),.row false (AD p34 4) 10 (oEs p34 4),.box [.sref 3 (AL p34 5 0) (AP p34 5 0) (AJ p34 5 0)],.box []]))) none) none) none) none) (k33 ([.t (tI (vI p34 0))],[.box (tv (ct [0,13,0,0] p34 0 0 [])),.row false (AD p34 1) 10 (oEs p34 1),.box [.t (tI (cI p34 2 0)),.sref 1 (AL p34 2 1) (AP p34 2 1) (AJ p34 2 1),.t (tI (cI p34 2 2)),.t (tI (cI p34 2 3))],.row false (AD p34 3) 10 (oEs p34 3),.row false (AD p34 4) 10 (oEs p34 4),.box [.sref 3 (AL p34 5 0) (AP p34 5 0) (AJ p34 5 0)],.box []]))
noncomputable def UZ (n:Nat) (k30:KT) (p29:ST) (a4:Int) (y31:List Tree) (a5 a6 a7 a8 a9:Int) (a10:Bool) (a11:ByteArray) (a12:TT) (p32:ST):RT:=cnd (AD p32 3=AL p32 5 0∧10=10∧AP p32 5 0+AJ p32 5 0=length (oEs p32 3)∧AJ p32 5 0+1≤1073741824∧0≤vI p32 0∧vI p32 0≤(AJ p32 5 0:Int)) (k30 ([.t (tI (w64 (vI p29 0+1)))],[.box (tv (ct [0,13,0,0] p32 0 0 [])),.row false (AD p32 1) 10 (oEs p32 1),.box [.t (tI (cI p32 2 0)),.sref 1 (AL p32 2 1) (AP p32 2 1) (AJ p32 2 1),.t (tI (cI p32 2 2)),.t (tI (cI p32 2 3))],.row false (AL p32 5 0+1) 10 ((take (wH (vI p32 0)) (drop (AP p32 5 0) (oEs p32 3))++[[tI (w64 (a4+gI y31 0)),tI (cI p29 0 2),tI a5,tI a6,tI a7,tI a8,tI a9,.bool a10,.str a11,.sl 2 a12]])++drop (wH (vI p32 0)) (drop (AP p32 5 0) (oEs p32 3))),.row false (AD p32 4) 10 (oEs p32 4),.box [.sref 3 (AL p32 5 0+1) 0 (AJ p32 5 0+1)]])) none
noncomputable def RD (n:Nat) (a13:TT) (a4 a5 a6 a7 a8 a9:Int) (a10:Bool) (a11:ByteArray) (a12:TT) (p29:ST) (k30:KT):RT:=cnd (decide (vI p29 0<(length a13:Int))=true) (cnd (1=1∧0≤vI p29 0) (Option.bind a13[wH (vI p29 0)]? fun y31=>cnd (okI y31 0) (cnd (AD p29 3=AL p29 5 0) (join (UZ n k30 p29 a4 y31 a5 a6 a7 a8 a9 a10 a11 a12) fun k33=>AH (RE n a4 y31 k33) n (tv [tI 0,tI (AJ p29 5 0:Int)],[.box (tv (ct [0,13,0,0] p29 0 0 [])),.row false (AD p29 1) 10 (oEs p29 1),.box [.t (tI (cI p29 2 0)),.sref 1 (AL p29 2 1) (AP p29 2 1) (AJ p29 2 1),.t (tI (cI p29 2 2)),.t (tI (cI p29 2 3))],.row false (AD p29 3) 10 (oEs p29 3),.row false (AD p29 4) 10 (oEs p29 4),.box [.sref 3 (AL p29 5 0) (AP p29 5 0) (AJ p29 5 0)],.box []])) none) none) none) (bd [1] (AA C n 174 [.sl 1 a13,tI (cI p29 0 0)]) fun y41=>cnd ((!(gB y41 0))=true) (cnd ((false=true∨false=false)∧AD p29 3=AL p29 5 0∧(10=10∨10=0)) (some [tI (cI p29 0 0),.sl 10 (take (AJ p29 5 0) (drop (AP p29 5 0) (oEs p29 3))),tI (w64 (cI p29 0 2+1)),tI (w64 (cI p29 0 3+1)),tI 0]) none) (cnd ((false=true∨false=false)∧AD p29 3=AL p29 5 0∧(10=10∨10=0)) (some [tI (cI p29 0 0),.sl 10 (take (AJ p29 5 0) (drop (AP p29 5 0) (oEs p29 3))),tI (w64 (cI p29 0 2+1)),tI (cI p29 0 3),tI 0]) none))
noncomputable def Vt (n:Nat) (a13:TT) (a4 a5 a6 a7 a8 a9:Int) (a10:Bool) (a11:ByteArray) (a12:TT) (p15:ST):RT:=cnd (vB p15 0=true) (cnd (AD p15 1=AL p15 2 1) (cnd ((false=true∨false=false)∧AD p15 1=AL p15 2 1∧(10=10∨10=0)) (some [tI 0,.sl 10 (take 0 (drop (length (oEs p15 1)) (oEs p15 1))),tI 0,tI 0,tI 2]) none) none) (cnd (decide (w64 ((length (cL p15 0 1):Int)+(length a13:Int))>10000)=true) (cnd (AD p15 1=AL p15 2 1) (cnd ((false=true∨false=false)∧AD p15 1=AL p15 2 1∧(10=10∨10=0)) (some [tI 0,.sl 10 (take 0 (drop (length (oEs p15 1)) (oEs p15 1))),tI 0,tI 0,tI 4]) none) none) (Option.bind (AA C n 1000170 [.sl 10 (cL p15 0 1)]) fun y28=>cnd (length y28=1∧okL 10 y28 0) (AH (RD n a13 a4 a5 a6 a7 a8 a9 a10 a11 a12) n ([.t (tI 0)],[.box (tv (ct [0,13,0,0] p15 0 0 [])),.row false (AD p15 1) 10 (oEs p15 1),.box [.t (tI (cI p15 2 0)),.sref 1 (AL p15 2 1) (AP p15 2 1) (AJ p15 2 1),.t (tI (cI p15 2 2)),.t (tI (cI p15 2 3))],.row false 0 10 (gL y28 0),.row false 0 10 [],.box [.sref 3 0 0 (length (gL y28 0))]])) none))
theorem e156 (n:Nat) (a0:Int) (a1:TT) (a2 a3 a4 a5 a6 a7 a8 a9:Int) (a10:Bool) (a11:ByteArray) (a12 a13:TT):AA C (n+1) 156 [tI a0,.sl 10 a1,tI a2,tI a3,tI a4,tI a5,tI a6,tI a7,tI a8,tI a9,.bool a10,.str a11,.sl 2 a12,.sl 1 a13]=bd [0] (AA C n 143 [tI a0,.sl 10 a1,tI a2,tI a3]) fun y14=>cnd (((gI y14 0) != 0)=true) (some (zt [0,13,0,0] [tI 1])) (join (Vt n a13 a4 a5 a6 a7 a8 a9 a10 a11 a12) fun k16=>cnd (decide (a4<0)=true) (k16 ([.t (.bool true)],[.box (tv [tI a0,.sl 10 a1,tI a2,tI a3]),.row false 0 10 [],.box [.t (tI 0),.sref 1 0 0 0,.t (tI 0),.t (tI 0)]])) (cnd (decide (a4>1099511627776)=true) (k16 ([.t (.bool true)],[.box (tv [tI a0,.sl 10 a1,tI a2,tI a3]),.row false 0 10 [],.box [.t (tI 0),.sref 1 0 0 0,.t (tI 0),.t (tI 0)]])) (join (RL n k16) fun k18=>join (Zc n k18) fun k20=>AH (UN n a13 k20) n ([.t (tI 0)],[.box (tv [tI a0,.sl 10 a1,tI a2,tI a3]),.row false 0 10 [],.box [.t (tI 0),.sref 1 0 0 0,.t (tI 0),.t (tI 0)]])))):=by kernel_rfl
theorem e158 (n:Nat) (a0:Int) (a1:TT) (a2 a3:Int):AA C (n+1) 158 [tI a0,.sl 10 a1,tI a2,tI a3]=bd [0] (AA C n 143 [tI a0,.sl 10 a1,tI a2,tI a3]) fun y4=>cnd (((gI y4 0) != 0)=true) (some (zt [0,13,0,0,0,0,0,0,0,0,0,1,2,5] [tI 1])) (cnd (((length a1:Int)==0)=true) (some (zt [0,13,0,0,0,0,0,0,0,0,0,1,2,5] [tI 20])) (Option.bind a1[0]? fun y5=>bk [0,0,0,0,0,0,0,1,2,5] 0 y5 (cnd ((0:Int)≤1∧1≤(length a1:Int)) (Option.bind (AA C n 1000170 [.sl 10 (drop 1 (take (length a1) a1))]) fun y6=>cnd (length y6=1∧okL 10 y6 0) (some (tI a0 :: .sl 10 (take (length (gL y6 0)) (gL y6 0))::tI a2::tI a3::gt [0,0,0,0,0,0,0,1,2,5] y5 0 [tI 0])) none) none))):=by kernel_rfl
noncomputable def UM (n:Nat) (a2:TT) (a3:ByteArray) (p13:ST) (k14:KT):RT:=cnd (decide (vI p13 0<(length a2:Int))=true) (cnd (2=2∧0≤vI p13 0) (Option.bind a2[wH (vI p13 0)]? fun y15=>bk [0,0] 0 y15 (cnd (0≤gI y15 0∧gI y15 0≤(ByteArray.size a3:Int)) (cnd (0≤cI p13 0 0∧cI p13 0 0≤(wH (gI y15 0):Int)) (bd [2] (AA C n 178 [.str (ByteArray.extract a3 (wH (cI p13 0 0)) (wH (gI y15 0))),.str (ByteArray.mk #[0])]) fun y18=>cnd ((!(gS y18 0==ByteArray.mk #[]))=true) (some [tI 24]) (k14 ([.t (tI (w64 (vI p13 0+1)))],[.box [.t (tI (gI y15 1))]]))) none) none)) none) (cnd (0≤(ByteArray.size a3:Int)∧(ByteArray.size a3:Int)≤(ByteArray.size a3:Int)) (cnd (0≤cI p13 0 0∧cI p13 0 0≤(ByteArray.size a3:Int)) (bd [2] (AA C n 178 [.str (ByteArray.extract a3 (wH (cI p13 0 0)) (ByteArray.size a3)),.str (ByteArray.mk #[0])]) fun y21=>cnd ((!(gS y21 0==ByteArray.mk #[]))=true) (some [tI 24]) (some [tI 0])) none) none)
noncomputable def Za (n:Nat) (a3:ByteArray) (a1:Int) (a2:TT) (p9:ST):RT:=cnd (vB p9 0=true) (some [tI 1]) (cnd (((ByteArray.size a3:Int) != (if 0>a1 then (0:Int) else a1))=true) (some [tI 10]) (AH (UM n a2 a3) n ([.t (tI 0)],[.box [.t (tI 0)]])))
noncomputable def UY (n:Nat) (a3:ByteArray) (a1:Int) (a2:TT) (p6:ST):RT:=cnd (vB p6 0=true) (some [tI 1]) (join (Za n a3 a1 a2) fun k10=>cnd (decide ((length a2:Int)>0)=true) (Option.bind a2[0]? fun y11=>cnd (okI y11 0) (cnd (decide (gI y11 0<0)=true) (k10 ([.t (.bool true)],[])) (cnd (2=2∧0≤w64 ((length a2:Int)-1)) (Option.bind a2[wH (w64 ((length a2:Int)-1))]? fun y12=>cnd (okI y12 1) (k10 ([.t (.bool (decide (gI y12 1>a1)))],[])) none) none)) none) (k10 ([.t (.bool false)],[])))
noncomputable def UX (n:Nat) (a3:ByteArray) (a1:Int) (a2:TT) (p4:ST):RT:=cnd (vB p4 0=true) (some [tI 2]) (join (UY n a3 a1 a2) fun k7=>bd [0] (AA C n 67 [.sl 2 a2]) fun y8=>cnd (((gI y8 0) != 0)=true) (k7 ([.t (.bool true)],[])) (k7 ([.t (.bool (!(((length a2:Int)==0)==(a1==(-1)))))],[])))
theorem e159 (n:Nat) (a0 a1:Int) (a2:TT) (a3:ByteArray):AA C (n+1) 159 [tI a0,tI a1,.sl 2 a2,.str a3]=join (UX n a3 a1 a2) fun k5=>cnd (decide (a0<0)=true) (k5 ([.t (.bool true)],[])) (cnd (decide (a0>1099511627776)=true) (k5 ([.t (.bool true)],[])) (cnd ((a1 != (-1))=true) (cnd (decide (a1<1)=true) (k5 ([.t (.bool true)],[])) (k5 ([.t (.bool (decide (a1>65536)))],[]))) (k5 ([.t (.bool false)],[])))):=by kernel_rfl
noncomputable def ZZ (n:Nat) (a4 a5 a6 a7 a8:Int) (a9:Bool) (a10:ByteArray) (a11:TT) (a0 a1:Int) (a2:TT) (a3:ByteArray) (k18 k20:KT) (p19 p22:ST):RT:=cnd (vB p22 0=true) (Al (.box [.func (Fn.func 179) [] [.eptr 8 [tI a4,tI a5,tI a6,tI a7,tI a8,.bool a9,.str a10,.sl 2 a11] 0,.eptr 4 [tI a0,tI a1,.sl 2 a2,.str a3] 0],.func (Fn.func 180) [] [.eptr 4 [tI a0,tI a1,.sl 2 a2,.str a3] 0,.eptr 8 [tI a4,tI a5,tI a6,tI a7,tI a8,.bool a9,.str a10,.sl 2 a11] 0],.func (Fn.func 181) [] [.eptr 4 [tI a0,tI a1,.sl 2 a2,.str a3] 0,.eptr 8 [tI a4,tI a5,tI a6,tI a7,tI a8,.bool a9,.str a10,.sl 2 a11] 0],.func (Fn.func 182) [] [.eptr 4 [tI a0,tI a1,.sl 2 a2,.str a3] 0,.eptr 8 [tI a4,tI a5,tI a6,tI a7,tI a8,.bool a9,.str a10,.sl 2 a11] 0]]) (.box [.func (Fn.func 179) [] [.eptr 8 [tI a4,tI a5,tI a6,tI a7,tI a8,.bool a9,.str a10,.sl 2 a11] 0,.eptr 4 [tI a0,tI a1,.sl 2 a2,.str a3] 0],.func (Fn.func 180) [] [.eptr 4 [tI a0,tI a1,.sl 2 a2,.str a3] 0,.eptr 8 [tI a4,tI a5,tI a6,tI a7,tI a8,.bool a9,.str a10,.sl 2 a11] 0],.func (Fn.func 181) [] [.eptr 4 [tI a0,tI a1,.sl 2 a2,.str a3] 0,.eptr 8 [tI a4,tI a5,tI a6,tI a7,tI a8,.bool a9,.str a10,.sl 2 a11] 0],.func (Fn.func 182) [] [.eptr 4 [tI a0,tI a1,.sl 2 a2,.str a3] 0,.eptr 8 [tI a4,tI a5,tI a6,tI a7,tI a8,.bool a9,.str a10,.sl 2 a11] 0]]) (k18 ([.t (.bool false)],[.box []]))) (Al (.box [.func (Fn.func 179) [] [.eptr 8 [tI a4,tI a5,tI a6,tI a7,tI a8,.bool a9,.str a10,.sl 2 a11] 0,.eptr 4 [tI a0,tI a1,.sl 2 a2,.str a3] 0],.func (Fn.func 180) [] [.eptr 4 [tI a0,tI a1,.sl 2 a2,.str a3] 0,.eptr 8 [tI a4,tI a5,tI a6,tI a7,tI a8,.bool a9,.str a10,.sl 2 a11] 0],.func (Fn.func 181) [] [.eptr 4 [tI a0,tI a1,.sl 2 a2,.str a3] 0,.eptr 8 [tI a4,tI a5,tI a6,tI a7,tI a8,.bool a9,.str a10,.sl 2 a11] 0],.func (Fn.func 182) [] [.eptr 4 [tI a0,tI a1,.sl 2 a2,.str a3] 0,.eptr 8 [tI a4,tI a5,tI a6,tI a7,tI a8,.bool a9,.str a10,.sl 2 a11] 0]]) (.box [.func (Fn.func 179) [] [.eptr 8 [tI a4,tI a5,tI a6,tI a7,tI a8,.bool a9,.str a10,.sl 2 a11] 0,.eptr 4 [tI a0,tI a1,.sl 2 a2,.str a3] 0],.func (Fn.func 180) [] [.eptr 4 [tI a0,tI a1,.sl 2 a2,.str a3] 0,.eptr 8 [tI a4,tI a5,tI a6,tI a7,tI a8,.bool a9,.str a10,.sl 2 a11] 0],.func (Fn.func 181) [] [.eptr 4 [tI a0,tI a1,.sl 2 a2,.str a3] 0,.eptr 8 [tI a4,tI a5,tI a6,tI a7,tI a8,.bool a9,.str a10,.sl 2 a11] 0],.func (Fn.func 182) [] [.eptr 4 [tI a0,tI a1,.sl 2 a2,.str a3] 0,.eptr 8 [tI a4,tI a5,tI a6,tI a7,tI a8,.bool a9,.str a10,.sl 2 a11] 0]]) (k20 ([.t (tI (w64 (vI p19 0+1)))],[.box []])))
noncomputable def RC (n:Nat) (a2:TT) (a4 a5 a6 a7 a8:Int) (a9:Bool) (a10:ByteArray) (a11:TT) (a0 a1:Int) (a3:ByteArray) (k18:KT) (p19:ST) (k20:KT):RT:=cnd (decide (vI p19 0<(length a2:Int))=true) (cnd (2=2∧0≤vI p19 0) (Option.bind a2[wH (vI p19 0)]? fun y21=>bk [0,0] 0 y21 (join (ZZ n a4 a5 a6 a7 a8 a9 a10 a11 a0 a1 a2 a3 k18 k20 p19) fun k23=>cnd (decide ((if a7>gI y21 0 then a7 else gI y21 0)<(if w64 (a7+(ByteArray.size a10:Int))<gI y21 1 then w64 (a7+(ByteArray.size a10:Int)) else gI y21 1))=true) (cnd (0≤(if w64 (a7+(ByteArray.size a10:Int))<gI y21 1 then w64 (a7+(ByteArray.size a10:Int)) else gI y21 1)∧(if w64 (a7+(ByteArray.size a10:Int))<gI y21 1 then w64 (a7+(ByteArray.size a10:Int)) else gI y21 1)≤(ByteArray.size a3:Int)) (cnd (0≤(if a7>gI y21 0 then a7 else gI y21 0)∧(if a7>gI y21 0 then a7 else gI y21 0)≤(wH (if w64 (a7+(ByteArray.size a10:Int))<gI y21 1 then w64 (a7+(ByteArray.size a10:Int)) else gI y21 1):Int)) (cnd (0≤w64 ((if w64 (a7+(ByteArray.size a10:Int))<gI y21 1 then w64 (a7+(ByteArray.size a10:Int)) else gI y21 1)-a7)∧w64 ((if w64 (a7+(ByteArray.size a10:Int))<gI y21 1 then w64 (a7+(ByteArray.size a10:Int)) else gI y21 1)-a7)≤(ByteArray.size a10:Int)) (cnd (0≤w64 ((if a7>gI y21 0 then a7 else gI y21 0)-a7)∧w64 ((if a7>gI y21 0 then a7 else gI y21 0)-a7)≤(wH (w64 ((if w64 (a7+(ByteArray.size a10:Int))<gI y21 1 then w64 (a7+(ByteArray.size a10:Int)) else gI y21 1)-a7)):Int)) (Al (.box [.func (Fn.func 179) [] [.eptr 8 [tI a4,tI a5,tI a6,tI a7,tI a8,.bool a9,.str a10,.sl 2 a11] 0,.eptr 4 [tI a0,tI a1,.sl 2 a2,.str a3] 0],.func (Fn.func 180) [] [.eptr 4 [tI a0,tI a1,.sl 2 a2,.str a3] 0,.eptr 8 [tI a4,tI a5,tI a6,tI a7,tI a8,.bool a9,.str a10,.sl 2 a11] 0],.func (Fn.func 181) [] [.eptr 4 [tI a0,tI a1,.sl 2 a2,.str a3] 0,.eptr 8 [tI a4,tI a5,tI a6,tI a7,tI a8,.bool a9,.str a10,.sl 2 a11] 0],.func (Fn.func 182) [] [.eptr 4 [tI a0,tI a1,.sl 2 a2,.str a3] 0,.eptr 8 [tI a4,tI a5,tI a6,tI a7,tI a8,.bool a9,.str a10,.sl 2 a11] 0]]) (.box [.func (Fn.func 179) [] [.eptr 8 [tI a4,tI a5,tI a6,tI a7,tI a8,.bool a9,.str a10,.sl 2 a11] 0,.eptr 4 [tI a0,tI a1,.sl 2 a2,.str a3] 0],.func (Fn.func 180) [] [.eptr 4 [tI a0,tI a1,.sl 2 a2,.str a3] 0,.eptr 8 [tI a4,tI a5,tI a6,tI a7,tI a8,.bool a9,.str a10,.sl 2 a11] 0],.func (Fn.func 181) [] [.eptr 4 [tI a0,tI a1,.sl 2 a2,.str a3] 0,.eptr 8 [tI a4,tI a5,tI a6,tI a7,tI a8,.bool a9,.str a10,.sl 2 a11] 0],.func (Fn.func 182) [] [.eptr 4 [tI a0,tI a1,.sl 2 a2,.str a3] 0,.eptr 8 [tI a4,tI a5,tI a6,tI a7,tI a8,.bool a9,.str a10,.sl 2 a11] 0]]) (k23 ([.t (.bool ((ByteArray.extract a3 (wH (if a7>gI y21 0 then a7 else gI y21 0)) (wH (if w64 (a7+(ByteArray.size a10:Int))<gI y21 1 then w64 (a7+(ByteArray.size a10:Int)) else gI y21 1))) != ByteArray.extract a10 (wH (w64 ((if a7>gI y21 0 then a7 else gI y21 0)-a7))) (wH (w64 ((if w64 (a7+(ByteArray.size a10:Int))<gI y21 1 then w64 (a7+(ByteArray.size a10:Int)) else gI y21 1)-a7)))))],[.box [],.box []]))) none) none) none) none) (Al (.box [.func (Fn.func 179) [] [.eptr 8 [tI a4,tI a5,tI a6,tI a7,tI a8,.bool a9,.str a10,.sl 2 a11] 0,.eptr 4 [tI a0,tI a1,.sl 2 a2,.str a3] 0],.func (Fn.func 180) [] [.eptr 4 [tI a0,tI a1,.sl 2 a2,.str a3] 0,.eptr 8 [tI a4,tI a5,tI a6,tI a7,tI a8,.bool a9,.str a10,.sl 2 a11] 0],.func (Fn.func 181) [] [.eptr 4 [tI a0,tI a1,.sl 2 a2,.str a3] 0,.eptr 8 [tI a4,tI a5,tI a6,tI a7,tI a8,.bool a9,.str a10,.sl 2 a11] 0],.func (Fn.func 182) [] [.eptr 4 [tI a0,tI a1,.sl 2 a2,.str a3] 0,.eptr 8 [tI a4,tI a5,tI a6,tI a7,tI a8,.bool a9,.str a10,.sl 2 a11] 0]]) (.box [.func (Fn.func 179) [] [.eptr 8 [tI a4,tI a5,tI a6,tI a7,tI a8,.bool a9,.str a10,.sl 2 a11] 0,.eptr 4 [tI a0,tI a1,.sl 2 a2,.str a3] 0],.func (Fn.func 180) [] [.eptr 4 [tI a0,tI a1,.sl 2 a2,.str a3] 0,.eptr 8 [tI a4,tI a5,tI a6,tI a7,tI a8,.bool a9,.str a10,.sl 2 a11] 0],.func (Fn.func 181) [] [.eptr 4 [tI a0,tI a1,.sl 2 a2,.str a3] 0,.eptr 8 [tI a4,tI a5,tI a6,tI a7,tI a8,.bool a9,.str a10,.sl 2 a11] 0],.func (Fn.func 182) [] [.eptr 4 [tI a0,tI a1,.sl 2 a2,.str a3] 0,.eptr 8 [tI a4,tI a5,tI a6,tI a7,tI a8,.bool a9,.str a10,.sl 2 a11] 0]]) (k23 ([.t (.bool false)],[.box [],.box []]))))) none) (Al (.box [.func (Fn.func 179) [] [.eptr 8 [tI a4,tI a5,tI a6,tI a7,tI a8,.bool a9,.str a10,.sl 2 a11] 0,.eptr 4 [tI a0,tI a1,.sl 2 a2,.str a3] 0],.func (Fn.func 180) [] [.eptr 4 [tI a0,tI a1,.sl 2 a2,.str a3] 0,.eptr 8 [tI a4,tI a5,tI a6,tI a7,tI a8,.bool a9,.str a10,.sl 2 a11] 0],.func (Fn.func 181) [] [.eptr 4 [tI a0,tI a1,.sl 2 a2,.str a3] 0,.eptr 8 [tI a4,tI a5,tI a6,tI a7,tI a8,.bool a9,.str a10,.sl 2 a11] 0],.func (Fn.func 182) [] [.eptr 4 [tI a0,tI a1,.sl 2 a2,.str a3] 0,.eptr 8 [tI a4,tI a5,tI a6,tI a7,tI a8,.bool a9,.str a10,.sl 2 a11] 0]]) (.box [.func (Fn.func 179) [] [.eptr 8 [tI a4,tI a5,tI a6,tI a7,tI a8,.bool a9,.str a10,.sl 2 a11] 0,.eptr 4 [tI a0,tI a1,.sl 2 a2,.str a3] 0],.func (Fn.func 180) [] [.eptr 4 [tI a0,tI a1,.sl 2 a2,.str a3] 0,.eptr 8 [tI a4,tI a5,tI a6,tI a7,tI a8,.bool a9,.str a10,.sl 2 a11] 0],.func (Fn.func 181) [] [.eptr 4 [tI a0,tI a1,.sl 2 a2,.str a3] 0,.eptr 8 [tI a4,tI a5,tI a6,tI a7,tI a8,.bool a9,.str a10,.sl 2 a11] 0],.func (Fn.func 182) [] [.eptr 4 [tI a0,tI a1,.sl 2 a2,.str a3] 0,.eptr 8 [tI a4,tI a5,tI a6,tI a7,tI a8,.bool a9,.str a10,.sl 2 a11] 0]]) (k18 ([.t (.bool true)],[.box []])))
noncomputable def L1 (n:Nat) (a4 a5 a6 a7 a8:Int) (a9:Bool) (a10:ByteArray) (a11:TT) (a0 a1:Int) (a2:TT) (a3:ByteArray) (k13:KT) (p12 p17:ST):RT:=cnd ((!(vB p17 0))=true) (some [.bool false]) (Al (.box [.func (Fn.func 179) [] [.eptr 8 [tI a4,tI a5,tI a6,tI a7,tI a8,.bool a9,.str a10,.sl 2 a11] 0,.eptr 4 [tI a0,tI a1,.sl 2 a2,.str a3] 0],.func (Fn.func 180) [] [.eptr 4 [tI a0,tI a1,.sl 2 a2,.str a3] 0,.eptr 8 [tI a4,tI a5,tI a6,tI a7,tI a8,.bool a9,.str a10,.sl 2 a11] 0],.func (Fn.func 181) [] [.eptr 4 [tI a0,tI a1,.sl 2 a2,.str a3] 0,.eptr 8 [tI a4,tI a5,tI a6,tI a7,tI a8,.bool a9,.str a10,.sl 2 a11] 0],.func (Fn.func 182) [] [.eptr 4 [tI a0,tI a1,.sl 2 a2,.str a3] 0,.eptr 8 [tI a4,tI a5,tI a6,tI a7,tI a8,.bool a9,.str a10,.sl 2 a11] 0]]) (.box [.func (Fn.func 179) [] [.eptr 8 [tI a4,tI a5,tI a6,tI a7,tI a8,.bool a9,.str a10,.sl 2 a11] 0,.eptr 4 [tI a0,tI a1,.sl 2 a2,.str a3] 0],.func (Fn.func 180) [] [.eptr 4 [tI a0,tI a1,.sl 2 a2,.str a3] 0,.eptr 8 [tI a4,tI a5,tI a6,tI a7,tI a8,.bool a9,.str a10,.sl 2 a11] 0],.func (Fn.func 181) [] [.eptr 4 [tI a0,tI a1,.sl 2 a2,.str a3] 0,.eptr 8 [tI a4,tI a5,tI a6,tI a7,tI a8,.bool a9,.str a10,.sl 2 a11] 0],.func (Fn.func 182) [] [.eptr 4 [tI a0,tI a1,.sl 2 a2,.str a3] 0,.eptr 8 [tI a4,tI a5,tI a6,tI a7,tI a8,.bool a9,.str a10,.sl 2 a11] 0]]) (k13 ([.t (tI (w64 (vI p12 0+1)))],[.box []])))
noncomputable def RK (n:Nat) (a4 a5 a6 a7 a8:Int) (a9:Bool) (a10:ByteArray) (a11:TT) (a0 a1:Int) (a2:TT) (a3:ByteArray) (k25:KT) (p26:ST):RT:=Al (.box [.func (Fn.func 179) [] [.eptr 8 [tI a4,tI a5,tI a6,tI a7,tI a8,.bool a9,.str a10,.sl 2 a11] 0,.eptr 4 [tI a0,tI a1,.sl 2 a2,.str a3] 0],.func (Fn.func 180) [] [.eptr 4 [tI a0,tI a1,.sl 2 a2,.str a3] 0,.eptr 8 [tI a4,tI a5,tI a6,tI a7,tI a8,.bool a9,.str a10,.sl 2 a11] 0],.func (Fn.func 181) [] [.eptr 4 [tI a0,tI a1,.sl 2 a2,.str a3] 0,.eptr 8 [tI a4,tI a5,tI a6,tI a7,tI a8,.bool a9,.str a10,.sl 2 a11] 0],.func (Fn.func 182) [] [.eptr 4 [tI a0,tI a1,.sl 2 a2,.str a3] 0,.eptr 8 [tI a4,tI a5,tI a6,tI a7,tI a8,.bool a9,.str a10,.sl 2 a11] 0]]) (.box [.func (Fn.func 179) [] [.eptr 8 [tI a4,tI a5,tI a6,tI a7,tI a8,.bool a9,.str a10,.sl 2 a11] 0,.eptr 4 [tI a0,tI a1,.sl 2 a2,.str a3] 0],.func (Fn.func 180) [] [.eptr 4 [tI a0,tI a1,.sl 2 a2,.str a3] 0,.eptr 8 [tI a4,tI a5,tI a6,tI a7,tI a8,.bool a9,.str a10,.sl 2 a11] 0],.func (Fn.func 181) [] [.eptr 4 [tI a0,tI a1,.sl 2 a2,.str a3] 0,.eptr 8 [tI a4,tI a5,tI a6,tI a7,tI a8,.bool a9,.str a10,.sl 2 a11] 0],.func (Fn.func 182) [] [.eptr 4 [tI a0,tI a1,.sl 2 a2,.str a3] 0,.eptr 8 [tI a4,tI a5,tI a6,tI a7,tI a8,.bool a9,.str a10,.sl 2 a11] 0]]) (k25 ([.t (.bool (vB p26 0))],[.box []]))
noncomputable def Lw (n:Nat) (a0 a1:Int) (a2:TT) (a3:ByteArray) (a4 a5 a6 a7 a8:Int) (a9:Bool) (a10:ByteArray) (a11:TT) (p12:ST) (k13:KT):RT:=cnd (decide (vI p12 0<4)=true) (cnd (1=1∧0≤vI p12 0∧vI p12 0<4) (cnd (vI p12 0=(3:Int)) (bd [5,0] (AA C n 161 [tI a0,tI a1,.sl 2 a2,.str a3,tI a4,tI a5,tI a6,tI a7,tI a8,.bool a9,.str a10,.sl 2 a11]) fun y16=>Al (.box [.func (Fn.func 179) [] [.eptr 8 [tI a4,tI a5,tI a6,tI a7,tI a8,.bool a9,.str a10,.sl 2 a11] 0,.eptr 4 [tI a0,tI a1,.sl 2 a2,.str a3] 0],.func (Fn.func 180) [] [.eptr 4 [tI a0,tI a1,.sl 2 a2,.str a3] 0,.eptr 8 [tI a4,tI a5,tI a6,tI a7,tI a8,.bool a9,.str a10,.sl 2 a11] 0],.func (Fn.func 181) [] [.eptr 4 [tI a0,tI a1,.sl 2 a2,.str a3] 0,.eptr 8 [tI a4,tI a5,tI a6,tI a7,tI a8,.bool a9,.str a10,.sl 2 a11] 0],.func (Fn.func 182) [] [.eptr 4 [tI a0,tI a1,.sl 2 a2,.str a3] 0,.eptr 8 [tI a4,tI a5,tI a6,tI a7,tI a8,.bool a9,.str a10,.sl 2 a11] 0]]) (.box [.func (Fn.func 179) [] [.eptr 8 [tI a4,tI a5,tI a6,tI a7,tI a8,.bool a9,.str a10,.sl 2 a11] 0,.eptr 4 [tI a0,tI a1,.sl 2 a2,.str a3] 0],.func (Fn.func 180) [] [.eptr 4 [tI a0,tI a1,.sl 2 a2,.str a3] 0,.eptr 8 [tI a4,tI a5,tI a6,tI a7,tI a8,.bool a9,.str a10,.sl 2 a11] 0],.func (Fn.func 181) [] [.eptr 4 [tI a0,tI a1,.sl 2 a2,.str a3] 0,.eptr 8 [tI a4,tI a5,tI a6,tI a7,tI a8,.bool a9,.str a10,.sl 2 a11] 0],.func (Fn.func 182) [] [.eptr 4 [tI a0,tI a1,.sl 2 a2,.str a3] 0,.eptr 8 [tI a4,tI a5,tI a6,tI a7,tI a8,.bool a9,.str a10,.sl 2 a11] 0]]) (cnd ((!(gI y16 1==0))=true) (some [.bool false]) (Al (.box [.func (Fn.func 179) [] [.eptr 8 [tI a4,tI a5,tI a6,tI a7,tI a8,.bool a9,.str a10,.sl 2 a11] 0,.eptr 4 [tI a0,tI a1,.sl 2 a2,.str a3] 0],.func (Fn.func 180) [] [.eptr 4 [tI a0,tI a1,.sl 2 a2,.str a3] 0,.eptr 8 [tI a4,tI a5,tI a6,tI a7,tI a8,.bool a9,.str a10,.sl 2 a11] 0],.func (Fn.func 181) [] [.eptr 4 [tI a0,tI a1,.sl 2 a2,.str a3] 0,.eptr 8 [tI a4,tI a5,tI a6,tI a7,tI a8,.bool a9,.str a10,.sl 2 a11] 0],.func (Fn.func 182) [] [.eptr 4 [tI a0,tI a1,.sl 2 a2,.str a3] 0,.eptr 8 [tI a4,tI a5,tI a6,tI a7,tI a8,.bool a9,.str a10,.sl 2 a11] 0]]) (.box [.func (Fn.func 179) [] [.eptr 8 [tI a4,tI a5,tI a6,tI a7,tI a8,.bool a9,.str a10,.sl 2 a11] 0,.eptr 4 [tI a0,tI a1,.sl 2 a2,.str a3] 0],.func (Fn.func 180) [] [.eptr 4 [tI a0,tI a1,.sl 2 a2,.str a3] 0,.eptr 8 [tI a4,tI a5,tI a6,tI a7,tI a8,.bool a9,.str a10,.sl 2 a11] 0],.func (Fn.func 181) [] [.eptr 4 [tI a0,tI a1,.sl 2 a2,.str a3] 0,.eptr 8 [tI a4,tI a5,tI a6,tI a7,tI a8,.bool a9,.str a10,.sl 2 a11] 0],.func (Fn.func 182) [] [.eptr 4 [tI a0,tI a1,.sl 2 a2,.str a3] 0,.eptr 8 [tI a4,tI a5,tI a6,tI a7,tI a8,.bool a9,.str a10,.sl 2 a11] 0]]) (k13 ([.t (tI (w64 (vI p12 0+1)))],[.box []]))))) (cnd (vI p12 0=(2:Int)) (join (L1 n a4 a5 a6 a7 a8 a9 a10 a11 a0 a1 a2 a3 k13 p12) fun k18=>Al (.box [.func (Fn.func 179) [] [.eptr 8 [tI a4,tI a5,tI a6,tI a7,tI a8,.bool a9,.str a10,.sl 2 a11] 0,.eptr 4 [tI a0,tI a1,.sl 2 a2,.str a3] 0],.func (Fn.func 180) [] [.eptr 4 [tI a0,tI a1,.sl 2 a2,.str a3] 0,.eptr 8 [tI a4,tI a5,tI a6,tI a7,tI a8,.bool a9,.str a10,.sl 2 a11] 0],.func (Fn.func 181) [] [.eptr 4 [tI a0,tI a1,.sl 2 a2,.str a3] 0,.eptr 8 [tI a4,tI a5,tI a6,tI a7,tI a8,.bool a9,.str a10,.sl 2 a11] 0],.func (Fn.func 182) [] [.eptr 4 [tI a0,tI a1,.sl 2 a2,.str a3] 0,.eptr 8 [tI a4,tI a5,tI a6,tI a7,tI a8,.bool a9,.str a10,.sl 2 a11] 0]]) (.box [.func (Fn.func 179) [] [.eptr 8 [tI a4,tI a5,tI a6,tI a7,tI a8,.bool a9,.str a10,.sl 2 a11] 0,.eptr 4 [tI a0,tI a1,.sl 2 a2,.str a3] 0],.func (Fn.func 180) [] [.eptr 4 [tI a0,tI a1,.sl 2 a2,.str a3] 0,.eptr 8 [tI a4,tI a5,tI a6,tI a7,tI a8,.bool a9,.str a10,.sl 2 a11] 0],.func (Fn.func 181) [] [.eptr 4 [tI a0,tI a1,.sl 2 a2,.str a3] 0,.eptr 8 [tI a4,tI a5,tI a6,tI a7,tI a8,.bool a9,.str a10,.sl 2 a11] 0],.func (Fn.func 182) [] [.eptr 4 [tI a0,tI a1,.sl 2 a2,.str a3] 0,.eptr 8 [tI a4,tI a5,tI a6,tI a7,tI a8,.bool a9,.str a10,.sl 2 a11] 0]]) (AH (RC n a2 a4 a5 a6 a7 a8 a9 a10 a11 a0 a1 a3 k18) n ([.t (tI 0)],[.box []]))) (cnd (vI p12 0=(1:Int)) (join (L1 n a4 a5 a6 a7 a8 a9 a10 a11 a0 a1 a2 a3 k13 p12) fun k25=>join (RK n a4 a5 a6 a7 a8 a9 a10 a11 a0 a1 a2 a3 k25) fun k27=>cnd ((a1==(-1))=true) (Al (.box [.func (Fn.func 179) [] [.eptr 8 [tI a4,tI a5,tI a6,tI a7,tI a8,.bool a9,.str a10,.sl 2 a11] 0,.eptr 4 [tI a0,tI a1,.sl 2 a2,.str a3] 0],.func (Fn.func 180) [] [.eptr 4 [tI a0,tI a1,.sl 2 a2,.str a3] 0,.eptr 8 [tI a4,tI a5,tI a6,tI a7,tI a8,.bool a9,.str a10,.sl 2 a11] 0],.func (Fn.func 181) [] [.eptr 4 [tI a0,tI a1,.sl 2 a2,.str a3] 0,.eptr 8 [tI a4,tI a5,tI a6,tI a7,tI a8,.bool a9,.str a10,.sl 2 a11] 0],.func (Fn.func 182) [] [.eptr 4 [tI a0,tI a1,.sl 2 a2,.str a3] 0,.eptr 8 [tI a4,tI a5,tI a6,tI a7,tI a8,.bool a9,.str a10,.sl 2 a11] 0]]) (.box [.func (Fn.func 179) [] [.eptr 8 [tI a4,tI a5,tI a6,tI a7,tI a8,.bool a9,.str a10,.sl 2 a11] 0,.eptr 4 [tI a0,tI a1,.sl 2 a2,.str a3] 0],.func (Fn.func 180) [] [.eptr 4 [tI a0,tI a1,.sl 2 a2,.str a3] 0,.eptr 8 [tI a4,tI a5,tI a6,tI a7,tI a8,.bool a9,.str a10,.sl 2 a11] 0],.func (Fn.func 181) [] [.eptr 4 [tI a0,tI a1,.sl 2 a2,.str a3] 0,.eptr 8 [tI a4,tI a5,tI a6,tI a7,tI a8,.bool a9,.str a10,.sl 2 a11] 0],.func (Fn.func 182) [] [.eptr 4 [tI a0,tI a1,.sl 2 a2,.str a3] 0,.eptr 8 [tI a4,tI a5,tI a6,tI a7,tI a8,.bool a9,.str a10,.sl 2 a11] 0]]) (k27 ([.t (.bool true)],[.box []]))) (Al (.box [.func (Fn.func 179) [] [.eptr 8 [tI a4,tI a5,tI a6,tI a7,tI a8,.bool a9,.str a10,.sl 2 a11] 0,.eptr 4 [tI a0,tI a1,.sl 2 a2,.str a3] 0],.func (Fn.func 180) [] [.eptr 4 [tI a0,tI a1,.sl 2 a2,.str a3] 0,.eptr 8 [tI a4,tI a5,tI a6,tI a7,tI a8,.bool a9,.str a10,.sl 2 a11] 0],.func (Fn.func 181) [] [.eptr 4 [tI a0,tI a1,.sl 2 a2,.str a3] 0,.eptr 8 [tI a4,tI a5,tI a6,tI a7,tI a8,.bool a9,.str a10,.sl 2 a11] 0],.func (Fn.func 182) [] [.eptr 4 [tI a0,tI a1,.sl 2 a2,.str a3] 0,.eptr 8 [tI a4,tI a5,tI a6,tI a7,tI a8,.bool a9,.str a10,.sl 2 a11] 0]]) (.box [.func (Fn.func 179) [] [.eptr 8 [tI a4,tI a5,tI a6,tI a7,tI a8,.bool a9,.str a10,.sl 2 a11] 0,.eptr 4 [tI a0,tI a1,.sl 2 a2,.str a3] 0],.func (Fn.func 180) [] [.eptr 4 [tI a0,tI a1,.sl 2 a2,.str a3] 0,.eptr 8 [tI a4,tI a5,tI a6,tI a7,tI a8,.bool a9,.str a10,.sl 2 a11] 0],.func (Fn.func 181) [] [.eptr 4 [tI a0,tI a1,.sl 2 a2,.str a3] 0,.eptr 8 [tI a4,tI a5,tI a6,tI a7,tI a8,.bool a9,.str a10,.sl 2 a11] 0],.func (Fn.func 182) [] [.eptr 4 [tI a0,tI a1,.sl 2 a2,.str a3] 0,.eptr 8 [tI a4,tI a5,tI a6,tI a7,tI a8,.bool a9,.str a10,.sl 2 a11] 0]]) (k27 ([.t (.bool (a8==a1))],[.box []])))) (cnd (vI p12 0=(0:Int)) (join (L1 n a4 a5 a6 a7 a8 a9 a10 a11 a0 a1 a2 a3 k13 p12) fun k29=>join (RK n a4 a5 a6 a7 a8 a9 a10 a11 a0 a1 a2 a3 k29) fun k31=>cnd ((a4==1)=true) (Al (.box [.func (Fn.func 179) [] [.eptr 8 [tI a4,tI a5,tI a6,tI a7,tI a8,.bool a9,.str a10,.sl 2 a11] 0,.eptr 4 [tI a0,tI a1,.sl 2 a2,.str a3] 0],.func (Fn.func 180) [] [.eptr 4 [tI a0,tI a1,.sl 2 a2,.str a3] 0,.eptr 8 [tI a4,tI a5,tI a6,tI a7,tI a8,.bool a9,.str a10,.sl 2 a11] 0],.func (Fn.func 181) [] [.eptr 4 [tI a0,tI a1,.sl 2 a2,.str a3] 0,.eptr 8 [tI a4,tI a5,tI a6,tI a7,tI a8,.bool a9,.str a10,.sl 2 a11] 0],.func (Fn.func 182) [] [.eptr 4 [tI a0,tI a1,.sl 2 a2,.str a3] 0,.eptr 8 [tI a4,tI a5,tI a6,tI a7,tI a8,.bool a9,.str a10,.sl 2 a11] 0]]) (.box [.func (Fn.func 179) [] [.eptr 8 [tI a4,tI a5,tI a6,tI a7,tI a8,.bool a9,.str a10,.sl 2 a11] 0,.eptr 4 [tI a0,tI a1,.sl 2 a2,.str a3] 0],.func (Fn.func 180) [] [.eptr 4 [tI a0,tI a1,.sl 2 a2,.str a3] 0,.eptr 8 [tI a4,tI a5,tI a6,tI a7,tI a8,.bool a9,.str a10,.sl 2 a11] 0],.func (Fn.func 181) [] [.eptr 4 [tI a0,tI a1,.sl 2 a2,.str a3] 0,.eptr 8 [tI a4,tI a5,tI a6,tI a7,tI a8,.bool a9,.str a10,.sl 2 a11] 0],.func (Fn.func 182) [] [.eptr 4 [tI a0,tI a1,.sl 2 a2,.str a3] 0,.eptr 8 [tI a4,tI a5,tI a6,tI a7,tI a8,.bool a9,.str a10,.sl 2 a11] 0]]) (k31 ([.t (.bool (a5==a0))],[.box []]))) (Al (.box [.func (Fn.func 179) [] [.eptr 8 [tI a4,tI a5,tI a6,tI a7,tI a8,.bool a9,.str a10,.sl 2 a11] 0,.eptr 4 [tI a0,tI a1,.sl 2 a2,.str a3] 0],.func (Fn.func 180) [] [.eptr 4 [tI a0,tI a1,.sl 2 a2,.str a3] 0,.eptr 8 [tI a4,tI a5,tI a6,tI a7,tI a8,.bool a9,.str a10,.sl 2 a11] 0],.func (Fn.func 181) [] [.eptr 4 [tI a0,tI a1,.sl 2 a2,.str a3] 0,.eptr 8 [tI a4,tI a5,tI a6,tI a7,tI a8,.bool a9,.str a10,.sl 2 a11] 0],.func (Fn.func 182) [] [.eptr 4 [tI a0,tI a1,.sl 2 a2,.str a3] 0,.eptr 8 [tI a4,tI a5,tI a6,tI a7,tI a8,.bool a9,.str a10,.sl 2 a11] 0]]) (.box [.func (Fn.func 179) [] [.eptr 8 [tI a4,tI a5,tI a6,tI a7,tI a8,.bool a9,.str a10,.sl 2 a11] 0,.eptr 4 [tI a0,tI a1,.sl 2 a2,.str a3] 0],.func (Fn.func 180) [] [.eptr 4 [tI a0,tI a1,.sl 2 a2,.str a3] 0,.eptr 8 [tI a4,tI a5,tI a6,tI a7,tI a8,.bool a9,.str a10,.sl 2 a11] 0],.func (Fn.func 181) [] [.eptr 4 [tI a0,tI a1,.sl 2 a2,.str a3] 0,.eptr 8 [tI a4,tI a5,tI a6,tI a7,tI a8,.bool a9,.str a10,.sl 2 a11] 0],.func (Fn.func 182) [] [.eptr 4 [tI a0,tI a1,.sl 2 a2,.str a3] 0,.eptr 8 [tI a4,tI a5,tI a6,tI a7,tI a8,.bool a9,.str a10,.sl 2 a11] 0]]) (k31 ([.t (.bool false)],[.box []])))) none)))) none) (some [.bool true])
theorem e160 (n:Nat) (a0 a1:Int) (a2:TT) (a3:ByteArray) (a4 a5 a6 a7 a8:Int) (a9:Bool) (a10:ByteArray) (a11:TT):AA C (n+1) 160 [tI a0,tI a1,.sl 2 a2,.str a3,tI a4,tI a5,tI a6,tI a7,tI a8,.bool a9,.str a10,.sl 2 a11]=Al (.box [.func (Fn.func 179) [] [.eptr 8 [tI a4,tI a5,tI a6,tI a7,tI a8,.bool a9,.str a10,.sl 2 a11] 0,.eptr 4 [tI a0,tI a1,.sl 2 a2,.str a3] 0],.func (Fn.func 180) [] [.eptr 4 [tI a0,tI a1,.sl 2 a2,.str a3] 0,.eptr 8 [tI a4,tI a5,tI a6,tI a7,tI a8,.bool a9,.str a10,.sl 2 a11] 0],.func (Fn.func 181) [] [.eptr 4 [tI a0,tI a1,.sl 2 a2,.str a3] 0,.eptr 8 [tI a4,tI a5,tI a6,tI a7,tI a8,.bool a9,.str a10,.sl 2 a11] 0],.func (Fn.func 182) [] [.eptr 4 [tI a0,tI a1,.sl 2 a2,.str a3] 0,.eptr 8 [tI a4,tI a5,tI a6,tI a7,tI a8,.bool a9,.str a10,.sl 2 a11] 0]]) (.box [.func (Fn.func 179) [] [.eptr 8 [tI a4,tI a5,tI a6,tI a7,tI a8,.bool a9,.str a10,.sl 2 a11] 0,.eptr 4 [tI a0,tI a1,.sl 2 a2,.str a3] 0],.func (Fn.func 180) [] [.eptr 4 [tI a0,tI a1,.sl 2 a2,.str a3] 0,.eptr 8 [tI a4,tI a5,tI a6,tI a7,tI a8,.bool a9,.str a10,.sl 2 a11] 0],.func (Fn.func 181) [] [.eptr 4 [tI a0,tI a1,.sl 2 a2,.str a3] 0,.eptr 8 [tI a4,tI a5,tI a6,tI a7,tI a8,.bool a9,.str a10,.sl 2 a11] 0],.func (Fn.func 182) [] [.eptr 4 [tI a0,tI a1,.sl 2 a2,.str a3] 0,.eptr 8 [tI a4,tI a5,tI a6,tI a7,tI a8,.bool a9,.str a10,.sl 2 a11] 0]]) (AH (Lw n a0 a1 a2 a3 a4 a5 a6 a7 a8 a9 a10 a11) n ([.t (tI 0)],[.box []])):=by kernel_rfl
theorem e161 (n:Nat) (a0 a1:Int) (a2:TT) (a3:ByteArray) (a4 a5 a6 a7 a8:Int) (a9:Bool) (a10:ByteArray) (a11:TT):AA C (n+1) 161 [tI a0,tI a1,.sl 2 a2,.str a3,tI a4,tI a5,tI a6,tI a7,tI a8,.bool a9,.str a10,.sl 2 a11]=bd [5,0] (AA C n 183 [.sl 2 a2,.sl 2 [[tI a7,tI (w64 (a7+(ByteArray.size a10:Int)))]]]) fun y12=>some [.sl 2 (gL y12 0),tI (gI y12 1)]:=by kernel_rfl
theorem e162 (n:Nat) (a0 a1 a2:Int) (a3:TT):AA C (n+1) 162 [tI a0,tI a1,tI a2,.sl 2 a3]=bd [0] (AA C n 152 [tI 2,tI a0,tI a1,tI 0,tI a2,.bool false,.str B0,.sl 2 a3]) fun y4=>cnd (((gI y4 0) != 0)=true) (some (zt kG [tI (gI y4 0)])) (some [tI 2,tI a0,tI a1,tI 0,tI a2,.bool false,.str B0,.sl 2 a3,tI 0]):=by kernel_rfl
theorem e163 (n:Nat) (a0:TT):AA C (n+1) 163 [.sl 2 a0]=cnd (length a0≠0) (cnd (length a0≤1073741824) (some [.sl 2 (take (length a0) a0)]) none) (both (some [.sl 2 []]) (cnd (length a0≤1073741824) (some [.sl 2 (take (length a0) a0)]) none)):=by kernel_rfl
noncomputable def IY (n:Nat) (k17:KT) (p22:ST):RT:=k17 ([.t (.bool (vB p22 0))],[])
noncomputable def ZY (n:Nat) (p16:ST):RT:=cnd ((!(vB p16 0))=true) (some [tI 19]) (some [tI 0])
theorem e164 (n:Nat) (a0 a1 a2 a3 a4 a5 a6 a7:Int) (a8:ByteArray) (a9 a10 a11:Int) (a12:TT) (a13 a14:Int):AA C (n+1) 164 [tI a0,tI a1,tI a2,tI a3,tI a4,tI a5,tI a6,tI a7,.str a8,tI a9,tI a10,tI a11,.sl 2 a12,tI a13,tI a14]=bd [0] (AA C n 184 [tI a0,tI a1,tI a2,tI a3,tI a4,tI a5,tI a6,tI a7,.str a8,tI a9,tI a10,tI a11,.sl 2 a12,tI a13,tI a14]) fun y15=>cnd (((gI y15 0) != 0)=true) (some [tI (gI y15 0)]) (join (ZY n) fun k17=>cnd ((a14==1)=true) (bd [1] (AA C n 185 [tI a0,tI a1,tI a2,tI a3,tI a4,tI a5,tI a6,tI a7,.str a8,tI a9,tI a10,tI a11,.sl 2 a12,tI a13,tI a14]) fun y20=>cnd ((!(gB y20 0))=true) (bd [0] (AA C n 117 [tI a0,tI a1,tI a2,tI a3,tI a4,tI a5,tI a6,tI a7,.str a8,tI a9,tI a10,tI a11,.sl 2 a12,tI a13,tI a14]) fun y21=>k17 ([.t (.bool (a13==gI y21 0))],[])) (k17 ([.t (.bool false)],[]))) (join (IY n k17) fun k23=>cnd ((a14==2)=true) (bd [1] (AA C n 185 [tI a0,tI a1,tI a2,tI a3,tI a4,tI a5,tI a6,tI a7,.str a8,tI a9,tI a10,tI a11,.sl 2 a12,tI a13,tI a14]) fun y26=>cnd (gB y26 0=true) (k23 ([.t (.bool (a13==0))],[])) (k23 ([.t (.bool false)],[]))) (cnd ((a14==3)=true) (k23 ([.t (.bool (a13==0))],[])) (k23 ([.t (.bool false)],[]))))):=by kernel_rfl
theorem e174 (n:Nat) (a0:TT) (a1:Int):AA C (n+1) 174 [.sl 1 a0,tI a1]=bd [0] (AA C n 200 [.sl 1 a0,tI a1]) fun y2=>some [.bool (decide (gI y2 0≥(0:Int)))]:=by kernel_rfl
noncomputable def Oh (n:Nat) (k8:KT) (p9:ST) (k10:KT) (p12:ST):RT:=cnd (vB p12 0=true) (k8 ([.t (tI (vI p9 0))],[])) (k10 ([.t (tI (w64 (vI p9 0+1)))],[]))
noncomputable def Lv (n:Nat) (a0:TT) (k8:KT) (a1:Int) (p9:ST) (k10:KT):RT:=cnd (decide (vI p9 0<(length a0:Int))=true) (cnd (2=2∧0≤vI p9 0) (Option.bind a0[wH (vI p9 0)]? fun y11=>bk [0,0] 0 y11 (join (Oh n k8 p9 k10) fun k13=>cnd (decide (gI y11 0≤a1)=true) (k13 ([.t (.bool (decide (a1<gI y11 1)))],[])) (k13 ([.t (.bool false)],[])))) none) (k8 ([.t (tI (-1))],[]))
noncomputable def L0 (n:Nat) (k6:KT) (p7:ST):RT:=k6 ([.t (.bool (decide (vI p7 0≥(0:Int))))],[])
noncomputable def Jn (n:Nat) (p2:ST):RT:=some [.bool (vB p2 0)]
theorem e175 (n:Nat) (a0:TT) (a1:Int):AA C (n+1) 175 [.sl 2 a0,tI a1]=join (Jn n) fun k3=>bd [0] (AA C n 67 [.sl 2 a0]) fun y4=>cnd ((gI y4 0==0)=true) (join (IY n k3) fun k6=>join (L0 n k6) fun k8=>AH (Lv n a0 k8 a1) n ([.t (tI 0)],[])) (k3 ([.t (.bool false)],[])):=by kernel_rfl
theorem e176 (n:Nat) (a0 a1:Int):AA C (n+1) 176 [tI a0,tI a1]=bd [1] (AA C n 95 [tI a1]) fun y2=>cnd ((!(gB y2 0))=true) (some [.sl 1 [],tI 2]) (bd [0,0] (AA C n 203 [tI a0,tI 8]) fun y3=>bd [0,0] (AA C n 203 [tI (gI y3 0),tI a1]) fun y4=>cnd (0≤gI y3 1∧gI y3 1<8) (cnd (gI y3 1=(7:Int)) (bd [4] (AA C n 219 [tI a1,tI (gI y4 1)]) fun y5=>some [.sl 1 (gL y5 0),tI 0]) (cnd (gI y3 1=(6:Int)) (bd [4] (AA C n 218 [tI a1,tI (gI y4 1)]) fun y6=>some [.sl 1 (gL y6 0),tI 0]) (cnd (gI y3 1=(5:Int)) (bd [4] (AA C n 217 [tI a1,tI (gI y4 1)]) fun y7=>some [.sl 1 (gL y7 0),tI 0]) (cnd (gI y3 1=(4:Int)) (bd [4] (AA C n 217 [tI a1,tI (gI y4 1)]) fun y8=>some [.sl 1 (gL y8 0),tI 0]) (cnd (gI y3 1=(3:Int)) (bd [4] (AA C n 216 [tI a1,tI (gI y4 1)]) fun y9=>some [.sl 1 (gL y9 0),tI 0]) (cnd (gI y3 1=(2:Int)) (bd [4] (AA C n 216 [tI a1,tI (gI y4 1)]) fun y10=>some [.sl 1 (gL y10 0),tI 0]) (cnd (gI y3 1=(1:Int)) (bd [4] (AA C n 216 [tI a1,tI (gI y4 1)]) fun y11=>some [.sl 1 (gL y11 0),tI 0]) (cnd (gI y3 1=(0:Int)) (bd [4] (AA C n 216 [tI a1,tI (gI y4 1)]) fun y12=>some [.sl 1 (gL y12 0),tI 0]) none)))))))) none):=by kernel_rfl
noncomputable def Og (n:Nat) (a0:ByteArray) (p2:ST):RT:=cnd (vB p2 0=true) (some [.str a0]) (bd [2] (AA C n 206 [.str a0,.int IntKind.u8 (Dp (ByteArray.mk #[0]) 0)]) fun y6=>bd [2] (AA C n 205 [.str (gS y6 0),.int IntKind.u8 (Dp (ByteArray.mk #[0]) 0)]) fun y7=>some [.str (gS y7 0)])
theorem e178 (n:Nat) (a0:ByteArray):AA C (n+1) 178 [.str a0,.str (ByteArray.mk #[0])]=join (Og n a0) fun k3=>cnd ((a0==ByteArray.mk #[])=true) (k3 ([.t (.bool true)],[])) (k3 ([.t (.bool (ByteArray.mk #[0]==ByteArray.mk #[]))],[])):=by kernel_rfl
theorem e183 (n:Nat) (a0 a1:TT):AA C (n+1) 183 [.sl 2 a0,.sl 2 a1]=join (F8 212 n a0 a1) fun k3=>bd [0] (AA C n 67 [.sl 2 a0]) fun y4=>cnd (((gI y4 0) != 0)=true) (k3 ([.t (.bool true)],[.box [.func (Fn.func 212) [] []]])) (bd [0] (AA C n 67 [.sl 2 a1]) fun y5=>k3 ([.t (.bool ((gI y5 0) != 0))],[.box [.func (Fn.func 212) [] []]])):=by kernel_rfl
noncomputable def UW (n:Nat) (a12:TT) (a8:ByteArray) (p16:ST):RT:=cnd (vB p16 0=true) (some [tI 2]) (bd [0] (AA C n 67 [.sl 2 a12]) fun y24=>cnd (((gI y24 0) != 0)=true) (some [tI 1]) (cnd (decide ((length a12:Int)>0)=true) (Option.bind a12[0]? fun y25=>cnd (okI y25 0) (cnd (decide (gI y25 0<0)=true) (some [tI 1]) (cnd (2=2∧0≤w64 ((length a12:Int)-1)) (Option.bind a12[wH (w64 ((length a12:Int)-1))]? fun y26=>cnd (okI y26 1) (cnd (decide (gI y26 1>(ByteArray.size a8:Int))=true) (some [tI 1]) (some [tI 0])) none) none)) none) (some [tI 0])))
theorem e184 (n:Nat) (a0 a1 a2 a3 a4 a5 a6 a7:Int) (a8:ByteArray) (a9 a10 a11:Int) (a12:TT) (a13 a14:Int):AA C (n+1) 184 [tI a0,tI a1,tI a2,tI a3,tI a4,tI a5,tI a6,tI a7,.str a8,tI a9,tI a10,tI a11,.sl 2 a12,tI a13,tI a14]=bd [0] (AA C n 55 [tI a0,tI a1,tI a2,tI a3,tI a4,tI a5,tI a6]) fun y15=>cnd (((gI y15 0) != 0)=true) (some [tI 1]) (join (UW n a12 a8) fun k17=>bd [1] (AA C n 92 [tI a7,tI 0,tI 1099511627776]) fun y18=>cnd ((!(gB y18 0))=true) (k17 ([.t (.bool true)],[.box []])) (bd [1] (AA C n 92 [tI (ByteArray.size a8:Int),tI 1,tI 65536]) fun y19=>cnd ((!(gB y19 0))=true) (k17 ([.t (.bool true)],[.box []])) (bd [1] (AA C n 92 [tI a10,tI a2,tI a9]) fun y20=>cnd ((!(gB y20 0))=true) (k17 ([.t (.bool true)],[.box []])) (cnd (decide (a9>a3)=true) (k17 ([.t (.bool true)],[.box []])) (bd [1] (AA C n 92 [tI a11,tI 1,tI 1099511627776]) fun y21=>k17 ([.t (.bool (!(gB y21 0)))],[.box []])))))):=by kernel_rfl
theorem e185 (n:Nat) (a0 a1 a2 a3 a4 a5 a6 a7:Int) (a8:ByteArray) (a9 a10 a11:Int) (a12:TT) (a13 a14:Int):AA C (n+1) 185 [tI a0,tI a1,tI a2,tI a3,tI a4,tI a5,tI a6,tI a7,.str a8,tI a9,tI a10,tI a11,.sl 2 a12,tI a13,tI a14]=bd [5] (AA C n 142 [.str a8]) fun y15=>bd [1] (AA C n 213 [.sl 2 a12,.sl 2 (gL y15 0)]) fun y16=>some [.bool (gB y16 0)]:=by kernel_rfl
noncomputable def Of (n:Nat) (y24:List Tree) (a15:Int) (p25:ST):RT:=cnd (vB p25 0=true) (some (ct kS p25 0 0 [.sl 9 []])) (bd [1] (AA C n 185 (ct [0,0,0,0,0,0,0,0,2,0,0,0] p25 0 0 [.sl 2 (gL y24 0),tI (cI p25 0 13),tI (cI p25 0 14)])) fun y27=>cnd (gB y27 0=true) (some (ct [0,0,0,0,0,0,0,0,2,0,0,0] p25 0 0 [.sl 2 (gL y24 0),tI 0,tI 2,.sl 9 []])) (bd [11] (AA C n 94 (ct [0,0,0,0,0,0,0,0,2,0,0,0] p25 0 0 [.sl 2 (gL y24 0),tI (cI p25 0 13),tI (cI p25 0 14)])) fun y28=>bd kT (AA C n 2005967 (ct [0,0,0,0,0,0,0,0,2,0,0,0] p25 0 0 [.sl 2 (gL y24 0),tI (cI p25 0 13),tI (cI p25 0 14),tI a15,.sl 8 (gL y28 0)])) fun y29=>some (gt kS y29 0 [.sl 9 (take (length (gL y29 15)) (gL y29 15))])))
theorem e186 (n:Nat) (a0 a1 a2 a3 a4 a5 a6 a7:Int) (a8:ByteArray) (a9 a10 a11:Int) (a12:TT) (a13 a14 a15 a16 a17 a18 a19 a20:Int) (a21:Bool) (a22:ByteArray) (a23:TT):AA C (n+1) 186 [tI a0,tI a1,tI a2,tI a3,tI a4,tI a5,tI a6,tI a7,.str a8,tI a9,tI a10,tI a11,.sl 2 a12,tI a13,tI a14,tI a15,tI a16,tI a17,tI a18,tI a19,tI a20,.bool a21,.str a22,.sl 2 a23]=bd [5,0] (AA C n 183 [.sl 2 a12,.sl 2 a23]) fun y24=>join (Of n y24 a15) fun k26=>cnd ((a18 != a11)=true) (k26 ([.t (.bool true)],[.box (tv [tI a0,tI a1,tI a2,tI a3,tI a4,tI a5,tI a6,tI a7,.str a8,tI a9,tI a10,tI a11,.sl 2 a12,tI a13,tI a14]),.box (tv (zt kS []))])) (cnd ((a20 != (ByteArray.size a8:Int))=true) (k26 ([.t (.bool true)],[.box (tv [tI a0,tI a1,tI a2,tI a3,tI a4,tI a5,tI a6,tI a7,.str a8,tI a9,tI a10,tI a11,.sl 2 a12,tI a13,tI a14]),.box (tv (zt kS []))])) (k26 ([.t (.bool ((gI y24 1) != 0))],[.box (tv [tI a0,tI a1,tI a2,tI a3,tI a4,tI a5,tI a6,tI a7,.str a8,tI a9,tI a10,tI a11,.sl 2 a12,tI a13,tI a14]),.box (tv (zt kS []))]))):=by kernel_rfl
theorem e187 (n:Nat) (a0 a1 a2 a3 a4 a5 a6 a7:Int) (a8:ByteArray) (a9 a10 a11:Int) (a12:TT) (a13 a14 a15 a16 a17 a18 a19 a20:Int) (a21:Bool) (a22:ByteArray) (a23:TT):AA C (n+1) 187 [tI a0,tI a1,tI a2,tI a3,tI a4,tI a5,tI a6,tI a7,.str a8,tI a9,tI a10,tI a11,.sl 2 a12,tI a13,tI a14,tI a15,tI a16,tI a17,tI a18,tI a19,tI a20,.bool a21,.str a22,.sl 2 a23]=bd kS (AA C n 116 [tI a0,tI a1,tI a2,tI a3,tI a4,tI a5,tI a6,tI a7,.str a8,tI a9,tI a10,tI a11,.sl 2 a12,tI a13,tI a14]) fun y24=>some (gt kS y24 0 [.sl 9 []]):=by kernel_rfl
theorem e188 (n:Nat) (a0 a1 a2 a3 a4:Int) (a5:Bool) (a6:ByteArray) (a7:TT):AA C (n+1) 188 [tI a0,tI a1,tI a2,tI a3,tI a4,.bool a5,.str a6,.sl 2 a7]=bd [1] (AA C n 138 [tI a4,tI 1,tI 65536]) fun y10=>cnd (gB y10 0=true) (bd [1] (AA C n 138 [tI a3,tI 0,tI (w64 (a4-1))]) fun y11=>cnd (gB y11 0=true) (some [.bool (decide (a2≥1)==a5)]) (some [.bool false])) (some [.bool false]):=by kernel_rfl
theorem e189 (n:Nat) (a0 a1 a2 a3 a4:Int) (a5:Bool) (a6:ByteArray) (a7:TT):AA C (n+1) 189 [tI a0,tI a1,tI a2,tI a3,tI a4,.bool a5,.str a6,.sl 2 a7]=bd [1] (AA C n 138 [tI (ByteArray.size a6:Int),tI 1,tI (if w64 (a4-a3)<16 then w64 (a4-a3) else (16:Int))]) fun y10=>cnd (gB y10 0=true) (some [.bool ((length a7:Int)==0)]) (some [.bool false]):=by kernel_rfl
theorem e190 (n:Nat) (a0 a1 a2 a3 a4:Int) (a5:Bool) (a6:ByteArray) (a7:TT):AA C (n+1) 190 [tI a0,tI a1,tI a2,tI a3,tI a4,.bool a5,.str a6,.sl 2 a7]=cnd (decide (a2≥1)=true) (bd [1] (AA C n 138 [tI a4,tI 1,tI 65536]) fun y10=>cnd (gB y10 0=true) (some [.bool (a3==0)]) (some [.bool false])) (some [.bool false]):=by kernel_rfl
theorem e191 (n:Nat) (a0 a1 a2 a3 a4:Int) (a5:Bool) (a6:ByteArray) (a7:TT):AA C (n+1) 191 [tI a0,tI a1,tI a2,tI a3,tI a4,.bool a5,.str a6,.sl 2 a7]=cnd ((!a5)=true) (cnd ((a6==ByteArray.mk #[])=true) (cnd (decide ((length a7:Int)≤1000)=true) (bd [1] (AA C n 139 [.sl 2 a7,tI a4]) fun y10=>some [.bool (gB y10 0)]) (some [.bool false])) (some [.bool false])) (some [.bool false]):=by kernel_rfl
theorem e192 (n:Nat) (a0 a1 a2 a3 a4:Int) (a5:Bool) (a6:ByteArray) (a7:TT):AA C (n+1) 192 [tI a0,tI a1,tI a2,tI a3,tI a4,.bool a5,.str a6,.sl 2 a7]=cnd ((a2==0)=true) (cnd ((a4==0)=true) (some [.bool (a3==0)]) (some [.bool false])) (some [.bool false]):=by kernel_rfl
theorem e193 (n:Nat) (a0 a1 a2 a3 a4:Int) (a5:Bool) (a6:ByteArray) (a7:TT):AA C (n+1) 193 [tI a0,tI a1,tI a2,tI a3,tI a4,.bool a5,.str a6,.sl 2 a7]=cnd ((!a5)=true) (cnd ((a6==ByteArray.mk #[])=true) (some [.bool ((length a7:Int)==0)]) (some [.bool false])) (some [.bool false]):=by kernel_rfl
noncomputable def UL (n:Nat) (a0:TT) (a1:Int) (p2:ST) (k3:KT):RT:=cnd (decide (vI p2 0<(length a0:Int))=true) (cnd (1=1∧0≤vI p2 0) (Option.bind a0[wH (vI p2 0)]? fun y4=>cnd (okI y4 0) (cnd ((a1==gI y4 0)=true) (some [tI (vI p2 0)]) (k3 ([.t (tI (w64 (vI p2 0+1)))],[]))) none) none) (some [tI (-1)])
theorem e200 (n:Nat) (a0:TT) (a1:Int):AA C (n+1) 200 [.sl 1 a0,tI a1]=AH (UL n a0 a1) n ([.t (tI 0)],[]):=by kernel_rfl
theorem e203 (n:Nat) (a0 a1:Int):AA C (n+1) 203 [tI a0,tI a1]=cnd (a1=0) none (cnd (decide (wG a0 a1<0)=true) (cnd (a1=0) none (cnd (a1=0) none (cnd (decide (wG a0 a1<0)=true) (some [tI (w64 (w64 (wF a0 a1)-1)),tI (w64 (wG a0 a1+a1))]) (some [tI (w64 (wF a0 a1)),tI (w64 (wG a0 a1+a1))])))) (cnd (a1=0) none (cnd (a1=0) none (cnd (decide (wG a0 a1<0)=true) (some [tI (w64 (w64 (wF a0 a1)-1)),tI (wG a0 a1)]) (some [tI (w64 (wF a0 a1)),tI (wG a0 a1)]))))):=by kernel_rfl
noncomputable def UK (n:Nat) (a1:Int) (p2:ST) (k3:KT):RT:=cnd (decide ((ByteArray.size (vS p2 0):Int)>0)=true) (cnd ((0:Int)≤0∧0<(ByteArray.size (vS p2 0):Int)) (cnd ((Dp (vS p2 0) 0==a1)=true) (cnd ((0:Int)≤1∧1≤(ByteArray.size (vS p2 0):Int)) (k3 ([.t (.str (ByteArray.extract (vS p2 0) 1 (ByteArray.size (vS p2 0))))],[])) none) (some [.str (vS p2 0)])) none) (some [.str (vS p2 0)])
theorem e205 (n:Nat) (a0:ByteArray) (a1:Int):AA C (n+1) 205 [.str a0,.int IntKind.u8 a1]=AH (UK n a1) n ([.t (.str a0)],[]):=by kernel_rfl
noncomputable def UU (n:Nat) (p2:ST) (k3:KT) (p4:ST):RT:=cnd (vB p4 0=true) (cnd (0≤w64 ((ByteArray.size (vS p2 0):Int)-1)∧w64 ((ByteArray.size (vS p2 0):Int)-1)≤(ByteArray.size (vS p2 0):Int)) (k3 ([.t (.str (ByteArray.extract (vS p2 0) 0 (wH (w64 ((ByteArray.size (vS p2 0):Int)-1)))))],[])) none) (some [.str (vS p2 0)])
noncomputable def UJ (n:Nat) (a1:Int) (p2:ST) (k3:KT):RT:=join (UU n p2 k3) fun k5=>cnd (decide ((ByteArray.size (vS p2 0):Int)>0)=true) (cnd (0≤w64 ((ByteArray.size (vS p2 0):Int)-1)∧w64 ((ByteArray.size (vS p2 0):Int)-1)<(ByteArray.size (vS p2 0):Int)) (k5 ([.t (.bool (Dp (vS p2 0) (wH (w64 ((ByteArray.size (vS p2 0):Int)-1)))==a1))],[])) none) (k5 ([.t (.bool false)],[]))
theorem e206 (n:Nat) (a0:ByteArray) (a1:Int):AA C (n+1) 206 [.str a0,.int IntKind.u8 a1]=AH (UJ n a1) n ([.t (.str a0)],[]):=by kernel_rfl
theorem e212 (n:Nat) (a0 a1:Bool):AA C (n+1) 212 [.bool a0,.bool a1]=cnd (a0=true) (some [.bool true]) (some [.bool a1]):=by kernel_rfl
theorem e216 (n:Nat) (a0 a1:Int):AA C (n+1) 216 [tI a0,tI a1]=some [.sl 1 [[tI a0]]]:=by kernel_rfl
theorem e217 (n:Nat) (a0 a1:Int):AA C (n+1) 217 [tI a0,tI a1]=some [.sl 1 [[tI a0],[tI (w64 (w64 (a0+1)+a1))]]]:=by kernel_rfl
theorem e218 (n:Nat) (a0 a1:Int):AA C (n+1) 218 [tI a0,tI a1]=some [.sl 1 [[tI (w64 (w64 (a0+1)+a1))]]]:=by kernel_rfl
theorem e219 (n:Nat) (a0 a1:Int):AA C (n+1) 219 [tI a0,tI a1]=some [.sl 1 []]:=by kernel_rfl
theorem e213 (n:Nat) (a0 a1:TT):AA C (n+1) 213 [.sl 2 a0,.sl 2 a1]=cnd (((length a0:Int) != (length a1:Int))=true) (some [.bool false]) (AH (QD n a0 a1) n ([.t (tI 0)],[])):=by kernel_rfl
noncomputable def HQ (n:Nat) (p9:ST) (a0:TT) (k10:KT) (p3 p11:ST):RT:=cnd (vB p11 0=true) (cnd (2=2∧0≤vI p9 0) (Option.bind a0[wH (vI p9 0)]? fun y14=>cnd (okI y14 0) (cnd (2=2∧0≤vI p9 0) (Option.bind a0[wH (vI p9 0)]? fun y15=>cnd (okI y15 1) (k10 ([.t (tI (w64 (vI p9 0+1)))],[.box (tv [tI (if gI y14 0<cI p11 0 0 then gI y14 0 else cI p11 0 0),tI (if gI y15 1>cI p11 0 1 then gI y15 1 else cI p11 0 1)]),.row false (AD p11 1) 2 (oEs p11 1)])) none) none) none) none) (cnd (AD p11 1=A0 p3 0∧(2=2∨2=0)∧Bu p3 0+Ah p3 0≤length (oEs p11 1)∧Ah p3 0+1≤1073741824) (cnd (0≤vI p9 0∧vI p9 0≤(length a0:Int)) (cnd (length (drop (wH (vI p9 0)) (take (length a0) a0))=0∧0+(Ah p3 0+1)<length (take (Ah p3 0) (drop (Bu p3 0) (oEs p11 1))++[[tI (cI p11 0 0),tI (cI p11 0 1)]])) (cnd (A0 p3 0+1=A0 p3 0+1) (cnd (A0 p3 0+1=A0 p3 0+1∧2=2) (some [.sl 2 (take (Ah p3 0+1) (take (Ah p3 0) (drop (Bu p3 0) (oEs p11 1))++[[tI (cI p11 0 0),tI (cI p11 0 1)]]))]) none) none) (cnd (A0 p3 0+1=A0 p3 0+1∧(2=2∨2=0)∧0+(Ah p3 0+1)≤length (take (Ah p3 0) (drop (Bu p3 0) (oEs p11 1))++[[tI (cI p11 0 0),tI (cI p11 0 1)]])∧(Ah p3 0+1)+length (drop (wH (vI p9 0)) (take (length a0) a0))≤1073741824) (cnd ((A0 p3 0+1)+1=(A0 p3 0+1)+1∧2=2) (some [.sl 2 (take ((Ah p3 0+1)+length (drop (wH (vI p9 0)) (take (length a0) a0))) (take (Ah p3 0+1) (take (Ah p3 0) (drop (Bu p3 0) (oEs p11 1))++[[tI (cI p11 0 0),tI (cI p11 0 1)]])++drop (wH (vI p9 0)) (take (length a0) a0)))]) none) none)) none) none)
noncomputable def En (n:Nat) (a0:TT) (p3 p9:ST) (k10:KT):RT:=join (HQ n p9 a0 k10 p3) fun k12=>cnd (decide (vI p9 0<(length a0:Int))=true) (cnd (2=2∧0≤vI p9 0) (Option.bind a0[wH (vI p9 0)]? fun y13=>cnd (okI y13 0) (k12 ([.t (.bool (decide (gI y13 0≤cI p9 0 1)))],[.box (tv [tI (cI p9 0 0),tI (cI p9 0 1)]),.row false (AD p9 1) 2 (oEs p9 1)])) none) none) (k12 ([.t (.bool false)],[.box (tv [tI (cI p9 0 0),tI (cI p9 0 1)]),.row false (AD p9 1) 2 (oEs p9 1)]))
noncomputable def HP (n:Nat) (p3:ST) (a0:TT) (k4:KT) (p5:ST):RT:=cnd (vB p5 0=true) (cnd (2=2∧0≤vI p3 1) (Option.bind a0[wH (vI p3 1)]? fun y8=>bk [0,0] 0 y8 (cnd (AD p5 1=A0 p3 0∧(2=2∨2=0)∧Bu p3 0+Ah p3 0≤length (oEs p5 1)∧Ah p3 0+1≤1073741824) (k4 ([.sref 1 (A0 p3 0+1) 0 (Ah p3 0+1),.t (tI (w64 (vI p3 1+1)))],[.box (tv [tI (cI p5 0 0),tI (cI p5 0 1)]),.row false (A0 p3 0+1) 2 (take (Ah p3 0) (drop (Bu p3 0) (oEs p5 1))++[[tI (gI y8 0),tI (gI y8 1)]])])) none)) none) (AH (En n a0 p3) n ([.t (tI (vI p3 1))],[.box (tv [tI (cI p5 0 0),tI (cI p5 0 1)]),.row false (AD p5 1) 2 (oEs p5 1)]))
noncomputable def HE (n:Nat) (a0:TT) (p3:ST) (k4:KT):RT:=join (HP n p3 a0 k4) fun k6=>cnd (decide (vI p3 1<(length a0:Int))=true) (cnd (2=2∧0≤vI p3 1) (Option.bind a0[wH (vI p3 1)]? fun y7=>cnd (okI y7 1) (k6 ([.t (.bool (decide (gI y7 1<cI p3 0 0)))],[.box (tv [tI (cI p3 0 0),tI (cI p3 0 1)]),.row false (AD p3 1) 2 (oEs p3 1)])) none) none) (k6 ([.t (.bool false)],[.box (tv [tI (cI p3 0 0),tI (cI p3 0 1)]),.row false (AD p3 1) 2 (oEs p3 1)]))
theorem Yl (n:Nat) (a0:TT) (a1 a2:Int):AA C (n+1) 1000030 [.sl 2 a0,tI a1,tI a2]=AH (HE n a0) n ([.sref 1 0 0 0,.t (tI 0)],[.box (tv [tI a1,tI a2]),.row false 0 2 []]):=by kernel_rfl
theorem Yk (n:Nat) (a0:TT):AA C (n+1) 1000170 [.sl 10 a0]=cnd (length a0≠0) (cnd (length a0≤1073741824) (some [.sl 10 (take (length a0) a0)]) none) (both (some [.sl 10 []]) (cnd (length a0≤1073741824) (some [.sl 10 (take (length a0) a0)]) none)):=by kernel_rfl
theorem Yi (n:Nat) (a0 a1 a2 a3 a4 a5 a6 a7:Int) (a8:ByteArray) (a9 a10:Int):AA C (n+1) 2004367 [tI a0,tI a1,tI a2,tI a3,tI a4,tI a5,tI a6,tI a7,.str a8,tI a9,tI a10]=bd [0] (AA C n 55 [tI a0,tI a1,tI a2,tI a3,tI a4,tI a5,tI a6]) fun y11=>cnd (((gI y11 0) != 0)=true) (some (zt kT [tI 1])) (bd [1] (AA C n 92 [tI a7,tI 0,tI 1099511627776]) fun y12=>cnd ((!(gB y12 0))=true) (some (zt kT [tI 2])) (cnd ((a8==ByteArray.mk #[])=true) (some (zt kT [tI 20])) (cnd (decide ((ByteArray.size a8:Int)>65536)=true) (some (zt kT [tI 4])) (join (TE n a7 a8 a0 a1 a2 a3 a4 a5 a6 a10 a9) fun k14=>cnd (decide (a9<a2)=true) (k14 ([.t (.bool true)],[.box (tv (zt kS []))])) (cnd (decide (a9>a10)=true) (k14 ([.t (.bool true)],[.box (tv (zt kS []))])) (k14 ([.t (.bool (decide (a10>a3)))],[.box (tv (zt kS []))]))))))):=by kernel_rfl
noncomputable def HG (n:Nat) (y22:List Tree) (p17 p23:ST):RT:=cnd (vB p23 0=true) (bd kS (AA C n 116 (ct kS p23 0 0 [])) fun y25=>some (gt kS y25 0 [.sl 9 []])) (bd [0] (AA C n 117 (ct [0,0,0,0,0,0,0,0,2,0] p23 0 0 [tI (gI y22 0),tI (gI y22 3),.sl 2 (cL p23 0 12),tI (cI p23 0 13),tI 1])) fun y26=>cnd (AD p23 3=AL p17 4 0∧9=9) (some (ct [0,0,0,0,0,0,0,0,2,0] p23 0 0 [tI (gI y22 0),tI (gI y22 3),.sl 2 (cL p23 0 12),tI (gI y26 0),tI 1,.sl 9 (take (AJ p17 4 0) (drop (AP p17 4 0) (oEs p23 3)))])) none)
noncomputable def HC (n:Nat) (a16:TT) (a4:Int) (p17:ST) (k18:KT):RT:=cnd (decide (vI p17 0<(length a16:Int))=true) (cnd (8=8∧0≤vI p17 0) (Option.bind a16[wH (vI p17 0)]? fun y19=>bk kG 0 y19 (bd [0,0] (AA C n 137 (tI a4::gt kG y19 0 [])) fun y20=>cnd (AD p17 3=AL p17 4 0∧(9=9∨9=0)∧AP p17 4 0+AJ p17 4 0≤length (oEs p17 3)∧AJ p17 4 0+1≤1073741824) (k18 ([.t (tI (w64 (vI p17 0+1)))],[.box (tv (ct kS p17 0 0 [])),.box (tv (ct kS p17 1 0 [])),.box [.t (tI (w64 (cI p17 2 0+gI y20 0)))],.row false (AL p17 4 0+1) 9 (take (AJ p17 4 0) (drop (AP p17 4 0) (oEs p17 3))++[[tI (w64 (cI p17 2 0+gI y20 0)),tI (gI y19 0),tI (gI y19 1),tI (gI y19 2),tI (gI y19 3),tI (gI y19 4),.bool (gB y19 5),.str (gS y19 6),.sl 2 (gL y19 7)]]),.box [.sref 3 (AL p17 4 0+1) 0 (AJ p17 4 0+1)],.box []])) none)) none) (cnd (AD p17 3=AL p17 4 0) (cnd (((AJ p17 4 0:Int)==0)=true) (bd kS (AA C n 116 (ct kS p17 0 0 [])) fun y21=>some (gt kS y21 0 [.sl 9 []])) (cnd (AD p17 3=AL p17 4 0) (cnd (AD p17 3=AL p17 4 0∧9=9∧0≤w64 ((AJ p17 4 0:Int)-1)∧w64 ((AJ p17 4 0:Int)-1)<(AJ p17 4 0:Int)) (cnd (AD p17 3=AL p17 4 0) (Option.bind (oEs p17 3)[AP p17 4 0+wH (w64 ((AJ p17 4 0:Int)-1))]? fun y22=>bk [0,0,0,0,0,0,1,2,5] 0 y22 (join (HG n y22 p17) fun k24=>cnd (decide (gI y22 0>cI p17 0 9)=true) (k24 ([.t (.bool true)],[.box (tv (ct kS p17 0 0 [])),.box (tv (ct kS p17 1 0 [])),.box [.t (tI (cI p17 2 0))],.row false (AD p17 3) 9 (oEs p17 3),.box [.sref 3 (AL p17 4 0) (AP p17 4 0) (AJ p17 4 0)],.box []])) (k24 ([.t (.bool (decide (gI y22 3>1099511627776)))],[.box (tv (ct kS p17 0 0 [])),.box (tv (ct kS p17 1 0 [])),.box [.t (tI (cI p17 2 0))],.row false (AD p17 3) 9 (oEs p17 3),.box [.sref 3 (AL p17 4 0) (AP p17 4 0) (AJ p17 4 0)],.box []])))) none) none) none)) none)
theorem Yg (n:Nat) (a0 a1 a2 a3 a4 a5 a6 a7:Int) (a8:ByteArray) (a9 a10 a11:Int) (a12:TT) (a13 a14 a15:Int) (a16:TT):AA C (n+1) 2005967 [tI a0,tI a1,tI a2,tI a3,tI a4,tI a5,tI a6,tI a7,.str a8,tI a9,tI a10,tI a11,.sl 2 a12,tI a13,tI a14,tI a15,.sl 8 a16]=AH (HC n a16 a4) n ([.t (tI 0)],[.box (tv [tI a0,tI a1,tI a2,tI a3,tI a4,tI a5,tI a6,tI a7,.str a8,tI a9,tI a10,tI a11,.sl 2 a12,tI a13,tI a14]),.box (tv (zt kS [])),.box [.t (tI a15)],.row false 0 9 [],.box [.sref 3 0 0 0],.box []]):=by kernel_rfl
noncomputable def D7 (n:Nat) (a8:ByteArray) (a7 a0 a1 a2 a3 a4 a5 a6 a10 a9:Int) (p12:ST):RT:=cnd (vB p12 0=true) (some (zt kT [tI 2])) (cnd (((ByteArray.size a8:Int)==0)=true) (some (zt kT [tI 20])) (cnd (decide ((ByteArray.size a8:Int)>65536)=true) (some (zt kT [tI 4])) (join (TF n a7 a8 a0 a1 a2 a3 a4 a5 a6 a10 a9) fun k15=>cnd (decide (a9<a2)=true) (k15 ([.t (.bool true)],[.box (tv (ct kS p12 0 0 []))])) (cnd (decide (a10<a9)=true) (k15 ([.t (.bool true)],[.box (tv (ct kS p12 0 0 []))])) (k15 ([.t (.bool (decide (a10>a3)))],[.box (tv (ct kS p12 0 0 []))]))))))
theorem Yj (n:Nat) (a0 a1 a2 a3 a4 a5 a6 a7:Int) (a8:ByteArray) (a9 a10:Int):AA C (n+1) 2003023 [tI a0,tI a1,tI a2,tI a3,tI a4,tI a5,tI a6,tI a7,.str a8,tI a9,tI a10]=bd [0] (AA C n 72 [tI a0,tI a1,tI a2,tI a3,tI a4,tI a5,tI a6]) fun y11=>cnd (((gI y11 0) != 0)=true) (some (zt kT [tI 1])) (join (D7 n a8 a7 a0 a1 a2 a3 a4 a5 a6 a10 a9) fun k13=>cnd (decide (a7<0)=true) (k13 ([.t (.bool true)],[.box (tv (zt kS []))])) (k13 ([.t (.bool (decide (a7>1099511627776)))],[.box (tv (zt kS []))]))):=by kernel_rfl
noncomputable def HD (n:Nat) (a15:TT) (p17:ST) (k18:KT):RT:=cnd (decide (vI p17 2<(length a15:Int))=true) (cnd (8=8∧0≤vI p17 2) (Option.bind a15[wH (vI p17 2)]? fun y19=>bk kG 0 y19 (bd [0,0] (AA C n 100 (tI (cI p17 0 4)::gt kG y19 0 [])) fun y20=>cnd (8=8∧0≤vI p17 2) (Option.bind a15[wH (vI p17 2)]? fun y21=>bk kG 0 y21 (cnd (AD p17 2=A0 p17 1∧(9=9∨9=0)∧Bu p17 1+Ah p17 1≤length (oEs p17 2)∧Ah p17 1+1≤1073741824) (k18 ([.t (tI (w64 (vI p17 0+gI y20 0))),.sref 2 (A0 p17 1+1) 0 (Ah p17 1+1),.t (tI (w64 (vI p17 2+1)))],[.box (tv (ct kS p17 0 0 [])),.box (tv (ct kS p17 1 0 [])),.row false (A0 p17 1+1) 9 (take (Ah p17 1) (drop (Bu p17 1) (oEs p17 2))++[[tI (w64 (vI p17 0+gI y20 0)),tI (gI y21 0),tI (gI y21 1),tI (gI y21 2),tI (gI y21 3),tI (gI y21 4),.bool (gB y21 5),Tree.str (gS y21 6),.sl 2 (gL y21 7)]])])) none)) none)) none) (cnd (decide (vI p17 0>cI p17 0 9)=true) (some (ct [0,0,0,0,0,0,0,0,2,0,0,0,5] p17 0 0 [tI 0,tI 3,.sl 9 []])) (cnd (8=8∧0≤w64 ((length a15:Int)-1)) (Option.bind a15[wH (w64 ((length a15:Int)-1))]? fun y22=>cnd (okI y22 2) (cnd (AD p17 2=A0 p17 1∧9=9) (some (ct [0,0,0,0,0,0,0,0,2,0] p17 0 0 [tI (vI p17 0),tI (gI y22 2),.sl 2 (cL p17 0 12),tI (w64 (w64 (vI p17 0+w64 (2*cI p17 0 5))+1)),tI 1,.sl 9 (take (Ah p17 1) (drop (Bu p17 1) (oEs p17 2)))])) none) none) none))
theorem Yh (n:Nat) (a0 a1 a2 a3 a4 a5 a6 a7:Int) (a8:ByteArray) (a9 a10 a11:Int) (a12:TT) (a13 a14:Int) (a15:TT) (a16:Int):AA C (n+1) 2004751 [tI a0,tI a1,tI a2,tI a3,tI a4,tI a5,tI a6,tI a7,.str a8,tI a9,tI a10,tI a11,.sl 2 a12,tI a13,tI a14,.sl 8 a15,tI a16]=AH (HD n a15) n ([.t (tI a16),.sref 2 0 0 0,.t (tI 0)],[.box (tv [tI a0,tI a1,tI a2,tI a3,tI a4,tI a5,tI a6,tI a7,.str a8,tI a9,tI a10,tI a11,.sl 2 a12,tI a13,tI a14]),.box (tv (zt kS [])),.row false 0 9 []]):=by kernel_rfl
end Ab
namespace Ab
open Go
structure Span where
 fro:Int
 to:Int
 deriving DecidableEq
def Span.enc (e:Span):List Tree:=[tI e.fro,tI e.to]
theorem s213 (a b:List Span) (ha:a.length≤1000000):AK C 213 [.sl 2 (a.map Span.enc),.sl 2 (b.map Span.enc)] [.bool (decide (a=b))]:=by
 refine AK.of (fun n=>e213 n _ _) ?_;simp only [vv];by_cases hl:a.length=b.length
 ·simp only [hl,bne_self_eq_false,vv];refine AZ (fun r=>[Tree.bool r]) a (fun i _=>(([.t (tI i)],[]):List AV×Heap)) (IJ b) (fun _=>true) (fun _ _=>True) () rfl trivial (Qr b a 0 (by omega))
   (fun i s x hx hI=>Ev.of fun n again => ?_) (fun _ _ _ _ _ _ _=>trivial) (fun s hI=>Ev.of fun n again => ?_)
  ·have hi:=AN hx;have hb:b[i]? = some b[i]:=zO (by omega);simp only [QD,vv,vf,wK,hx,hb,Span.enc,AT (show i<4611686018427387904 by omega),IJ,Option.some.injEq];cases x with|mk x0 x1=>
   cases b[i] with|mk y0 y1=>
   simp only [AB,Span.mk.injEq];grind [Rd.AR,Rd.Aj]
  ·simp only [QD,vv,vf,wK,hl,wE]
 ·refine Ev.of fun n => ?_;have:¬a=b:=fun e=>hl (by rw [e]);rw [BD (by simp;omega)];simp [this]
theorem s61 (a b:List Span) (ha:a.length≤1000000):AK C 61 [.sl 2 (a.map Span.enc),.sl 2 (b.map Span.enc)] [.bool (decide (a=b))]:=by
 refine AK.of (fun n=>e61 n _ _) ?_;simp only [vv];by_cases hl:a.length=b.length
 ·simp only [hl,bne_self_eq_false,vv];refine AZ (fun r=>[Tree.bool r]) a (fun i _=>(([.t (tI i)],[]):List AV×Heap)) (IJ b) (fun _=>true) (fun _ _=>True) () rfl trivial (Qr b a 0 (by omega))
   (fun i s x hx hI=>Ev.of fun n again => ?_) (fun _ _ _ _ _ _ _=>trivial) (fun s hI=>Ev.of fun n again => ?_)
  ·have hi:=AN hx;have hb:b[i]? = some b[i]:=zO (by omega);simp only [QD,vv,vf,wK,hx,hb,Span.enc,AT (show i<4611686018427387904 by omega),IJ,Option.some.injEq];cases x with|mk x0 x1=>
   cases b[i] with|mk y0 y1=>
   simp only [AB,Span.mk.injEq];grind [Rd.AR,Rd.Aj]
  ·simp only [QD,vv,vf,wK,hl,wE]
 ·refine Ev.of fun n => ?_;have:¬a=b:=fun e=>hl (by rw [e]);rw [BD (by simp;omega)];simp [this]
structure Con where
 frm:Int
 dst:Int
 start:Int
 fin:Int
 rate:Int
 rng:Int
 loss:Int
 deriving DecidableEq
structure Seg where
 kind:Int
 ses:Int
 ser:Int
 off:Int
 tot:Int
 chk:Bool
 data:ByteArray
 claims:List Span
 deriving DecidableEq
structure Snd where
 c:Con
 ses:Int
 data:ByteArray
 fin:Int
 busy:Int
 ser:Int
 acked:List Span
 due:Int
 st:Int
 deriving DecidableEq
structure Out where
 at_:Int
 seg:Seg
 deriving DecidableEq
def Con.enc (c:Con):List Tree:=[tI c.frm,tI c.dst,tI c.start,tI c.fin,tI c.rate,tI c.rng,tI c.loss]
def Seg.enc (x:Seg):List Tree:=[tI x.kind,tI x.ses,tI x.ser,tI x.off,tI x.tot,.bool x.chk,.str x.data,.sl 2 (x.claims.map Span.enc)]
def Snd.enc (s:Snd):List Tree:=[tI s.c.frm,tI s.c.dst,tI s.c.start,tI s.c.fin,tI s.c.rate,tI s.c.rng,tI s.c.loss,tI s.ses,.str s.data,tI s.fin,tI s.busy,tI s.ser,.sl 2 (s.acked.map Span.enc),tI s.due,tI s.st]
def Out.enc (x:Out):List Tree:=[tI x.at_,tI x.seg.kind,tI x.seg.ses,tI x.seg.ser,tI x.seg.off,tI x.seg.tot,.bool x.seg.chk,.str x.seg.data,.sl 2 (x.seg.claims.map Span.enc)]
def wi (n a b:Int):Bool:=decide (a≤n∧n≤b)
theorem Ic (n a b:Int):(if decide (n≥a)=true then some [Tree.bool (decide (n≤b))] else some [Tree.bool false])=some [Tree.bool (wi n a b)]:=by unfold wi;by_cases h:a≤n<;>simp [h]
theorem s92 (n a b:Int):AK C 92 [tI n,tI a,tI b] [.bool (wi n a b)]:=AK.of (fun m=>e92 m _ _ _) (Ev.of fun m=>by rw [AB];exact Ic n a b)
theorem E6 (n a b:Int):AK C 138 [tI n,tI a,tI b] [.bool (wi n a b)]:=AK.of (fun m=>e138 m _ _ _) (Ev.of fun m=>by rw [AB];exact Ic n a b)
theorem s56 (n a b:Int):AK C 56 [tI n,tI a,tI b] [.bool (wi n a b)]:=AK.of (fun m=>e56 m _ _ _) (Ev.of fun m=>by rw [AB];exact Ic n a b)
theorem s98 (n a b:Int):AK C 98 [tI n,tI a,tI b] [.bool (wi n a b)]:=AK.of (fun m=>e98 m _ _ _) (Ev.of fun m=>by rw [AB];exact Ic n a b)
def Ft (c:Con):Prop:=0≤c.frm∧c.frm≤15∧0≤c.dst∧c.dst≤15∧1≤c.rate∧c.rate≤1000∧1≤c.rng∧c.rng≤1048576∧0≤c.loss∧c.loss≤16
instance (c:Con):Decidable (Ft c):=by unfold Ft;exact inferInstance
def Dn (c:Con):Int:=if ¬Ft c then 2 else if c.frm=c.dst then 1 else if c.start<0∨c.start≥c.fin∨c.fin>1099511627776-2*c.rng then 2 else 0
theorem s55 (c:Con):AK C 55 c.enc [tI (Dn c)]:=by
 refine AK.of (fun n=>e55 n _ _ _ _ _ _ _) ?_;refine ((s56 c.frm 0 15).and ((s56 c.dst 0 15).and ((s56 c.rate 1 1000).and ((s56 c.rng 1 1048576).and (s56 c.loss 0 16))))).mono fun n h => ?_;obtain ⟨h1,h2,h3,h4,h5⟩:=h;simp only [h1,h2,h3,h4,h5,vv,vf,Vs,Dn,Ft,wi];by_cases hr:1≤c.rng∧c.rng≤1048576
 ·rw [AM (x:=2*c.rng) (by omega) (by omega),AM (by omega) (by omega)];simp only [AB,beq_iff_eq,not_eq_true',decide_eq_false_iff_not]
  (repeat' split)<;>first|rfl|(exfalso;omega)
 ·simp only [AB,beq_iff_eq,not_eq_true',decide_eq_false_iff_not]
  (repeat' split)<;>first|rfl|(exfalso;omega)
theorem s72 (c:Con):AK C 72 c.enc [tI (Dn c)]:=by
 refine AK.of (fun n=>e72 n _ _ _ _ _ _ _) (Ev.of fun n => ?_);simp only [vv,Vs,Dn,Ft];by_cases hr:1≤c.rng∧c.rng≤1048576
 ·rw [AM (x:=2*c.rng) (by omega) (by omega),AM (by omega) (by omega)];simp only [AB,beq_iff_eq];grind (splits:=30)
 ·simp only [AB,beq_iff_eq];grind (splits:=30)
def Valid (x:Span):Prop:=x.fro<x.to∧ -1152921504606846976≤x.fro∧x.to≤1152921504606846976
instance (x:Span):Decidable (Valid x):=by unfold Valid;exact inferInstance
theorem s29 (x:Span):AK C 29 x.enc [.bool (decide (Valid x))]:=by refine AK.of (fun n=>e29 n _ _) (Ev.of fun n => ?_);unfold Valid;simp only [AB,decide_eq_true_eq,ge_iff_le];grind
theorem s91 (x:Span):AK C 91 x.enc [.bool (decide (Valid x))]:=by refine AK.of (fun n=>e91 n _ _) (Ev.of fun n => ?_);unfold Valid;simp only [AB,decide_eq_true_eq,ge_iff_le];grind
def G7 (l:List Span) (i:Nat) (_:Unit) (x:Span):Rd Unit Int:=
 if ¬Valid x then .done 2 else if i≠0∧(l[i-1]?.map fun y=>decide (x.fro≤y.to))=some true then .done 9 else .next ()
def A4 (l:List Span):Int:=if 1000<l.length then 4 else BX (G7 l) (fun _=>0) 0 l ()
theorem s31 (l:List Span):AK C 31 [.sl 2 (l.map Span.enc)] [tI (A4 l)]:=by
 refine AK.of (fun n=>e31 n _) ?_;unfold A4;by_cases h:1000<l.length
 ·rw [if_pos h];refine Ev.of fun n => ?_;simp only [vv,(show (1000:Int)<(l.length:Int) by omega)]
 ·rw [if_neg h];simp only [vv,(show ¬(1000:Int)<(l.length:Int) by omega)];refine AZ (fun (r:Int)=>[tI r]) l (fun i (_:Unit)=>(([.t (tI i)],[]):List AV×Heap)) (G7 l) (fun _=>0) (fun _ _=>True) () rfl trivial rfl
   (fun i s x hx hI => ?_) (fun _ _ _ _ _ _ _=>trivial) (fun s hI=>Ev.of fun n again => ?_)
  ·have hi:=AN hx;refine (s29 x).mono fun n h again => ?_;simp only [Span.enc] at h;simp only [ZO,vv,vf,wK,hx,Span.enc,(show (i:Int)<l.length by omega),AT (show i<4611686018427387904 by omega),h,G7];by_cases hv:Valid x
   ·simp only [hv,vv,not_true_eq_false];by_cases hi0:i=0
    ·subst hi0;simp [AB,Rd.AR]
    ·obtain ⟨y,hy⟩:∃y,l[i-1]? = some y:=⟨l[i-1],zO (by omega)⟩
     rw [AM (x:=(i:Int)-1) (by omega) (by omega)];simp only [(show ((i:Int)-1).toNat=i-1 by omega),hy,vv,(show (0:Int)<i by omega),(show (0:Int)≤(i:Int)-1 by omega),hi0,ne_eq,not_false_eq_true,Option.some.injEq];simp only [Span.enc,vv];by_cases hq:x.fro≤y.to<;>simp [hq,AB,Rd.AR,Rd.Aj]
   ·simp [hv,AB,Rd.Aj]
  ·simp only [ZO,vv,vf,wK,wE]
theorem s67 (l:List Span):AK C 67 [.sl 2 (l.map Span.enc)] [tI (A4 l)]:=by
 refine AK.of (fun n=>e67 n _) ?_;unfold A4;by_cases h:1000<l.length
 ·rw [if_pos h];refine Ev.of fun n => ?_;simp only [vv,(show (1000:Int)<(l.length:Int) by omega)]
 ·rw [if_neg h];simp only [vv,(show ¬(1000:Int)<(l.length:Int) by omega)];refine AZ (fun (r:Int)=>[tI r]) l (fun i (_:Unit)=>(([.t (tI i)],[]):List AV×Heap)) (G7 l) (fun _=>0) (fun _ _=>True) () rfl trivial rfl
   (fun i s x hx hI => ?_) (fun _ _ _ _ _ _ _=>trivial) (fun s hI=>Ev.of fun n again => ?_)
  ·have hi:=AN hx;refine (s91 x).mono fun n h again => ?_;simp only [Span.enc] at h;simp only [ZM,vv,vf,wK,hx,Span.enc,(show (i:Int)<l.length by omega),AT (show i<4611686018427387904 by omega),h,G7];by_cases hv:Valid x
   ·simp only [hv,vv,not_true_eq_false];by_cases hi0:i=0
    ·subst hi0;simp [AB,Rd.AR]
    ·obtain ⟨y,hy⟩:∃y,l[i-1]? = some y:=⟨l[i-1],zO (by omega)⟩
     rw [AM (x:=(i:Int)-1) (by omega) (by omega)];simp only [(show ((i:Int)-1).toNat=i-1 by omega),hy,vv,(show (0:Int)<i by omega),(show (0:Int)≤(i:Int)-1 by omega),hi0,ne_eq,not_false_eq_true,Option.some.injEq];simp only [Span.enc,vv];by_cases hq:x.fro≤y.to<;>simp [hq,AB,Rd.AR,Rd.Aj]
   ·simp [hv,AB,Rd.Aj]
  ·simp only [ZM,vv,vf,wK,wE]
end Ab
namespace Ab
open Go
def Ee (l:List Span):Int:=match l.getLast? with
 |some x=>x.to
 |none=>0
def EL (l:List Span):Int:=match l.head? with
 |some x=>x.fro
 |none=>0
def inside (l:List Span) (t:Int):Bool:=decide (A4 l=0∧(l=[]∨0≤EL l∧Ee l≤t))
theorem Iu {l:List Span} (h:l≠[]):l[0]? = some (l.head h)∧EL l=(l.head h).fro:=by
 cases l with
 |nil=>exact (h rfl).elim
 |cons x l=>exact ⟨rfl,rfl⟩
theorem Io {l:List Span} (h:l≠[]):l[l.length-1]? = some (l.getLast h)∧Ee l=(l.getLast h).to:=by
 refine ⟨?_,?_⟩
 ·rw [← List.getLast?_eq_getElem?,List.getLast?_eq_some_getLast h]
 ·unfold Ee;rw [List.getLast?_eq_some_getLast h]
theorem BA {l:List Span} (h:A4 l=0):l.length≤1000:=by
 unfold A4 at h;split at h
 ·cases h
 ·omega
theorem s139 (l:List Span) (t:Int):AK C 139 [.sl 2 (l.map Span.enc),tI t] [.bool (inside l t)]:=by
 refine AK.of (fun n=>e139 n _ _) ?_;refine (s67 l).mono fun n h => ?_;simp only [h,vv,vf,inside];by_cases hc:A4 l=0
 ·by_cases hl:l=[]
  ·subst hl;simp [hc,AB]
  ·obtain ⟨g1,g2⟩:=Iu hl;obtain ⟨g3,g4⟩:=Io hl;have hp:=zY.2 hl;have hm:=BA hc;rw [AM (x:=(l.length:Int)-1) (by omega) (by omega)];simp only [hc,beq_self_eq_true,vv,(show ¬((l.length:Int)=0) by omega),g1,g2,g4,(show ((l.length:Int)-1).toNat=l.length-1 by omega),g3,Span.enc,(show (0:Int)≤(l.length:Int)-1 by omega),hl,beq_iff_eq];by_cases hq:0≤(l.head hl).fro<;>simp [hq,AB]
 ·simp [hc,AB]
theorem s99 (l:List Span) (t:Int):AK C 99 [.sl 2 (l.map Span.enc),tI t] [.bool (inside l t)]:=by
 refine AK.of (fun n=>e99 n _ _) ?_;refine (s31 l).mono fun n h => ?_;simp only [h,vv,vf,inside];by_cases hc:A4 l=0
 ·by_cases hl:l=[]
  ·subst hl;simp [hc,AB]
  ·obtain ⟨g1,g2⟩:=Iu hl;obtain ⟨g3,g4⟩:=Io hl;have hp:=zY.2 hl;have hm:=BA hc;rw [AM (x:=(l.length:Int)-1) (by omega) (by omega)];simp only [hc,bne_self_eq_false,vv,(show ¬((l.length:Int)=0) by omega),g1,g2,g4,(show ((l.length:Int)-1).toNat=l.length-1 by omega),g3,Span.enc,(show (0:Int)≤(l.length:Int)-1 by omega),hl,beq_iff_eq];by_cases hq:0≤(l.head hl).fro<;>simp [hq,AB]
 ·simp [hc,AB]
def Bk (x:Seg):Prop:=(0≤x.ses∧x.ses≤1099511627776)∧(x.kind=3→x.ser=0∧x.off=0∧x.tot=0)∧(x.kind=2→(1≤x.tot∧x.tot≤65536)∧(1≤x.ser∧x.ser≤1099511627776)∧x.off=0)∧
 (x.kind=1→(1≤x.tot∧x.tot≤65536)∧(0≤x.off∧x.off≤x.tot-1)∧(x.chk=true→1≤x.ser∧x.ser≤1099511627776)∧(x.chk=false→x.ser=0))
def CJ (x:Seg):Prop:=(x.kind=3→x.chk=false∧x.data.size=0∧x.claims=[])∧(x.kind=2→x.chk=false∧x.data.size=0∧inside x.claims x.tot=true)∧
 (x.kind=1→(1≤x.data.size∧x.data.size≤16)∧(x.data.size:Int)≤x.tot-x.off∧x.claims=[])
instance (x:Seg):Decidable (Bk x):=by unfold Bk;exact inferInstance
instance (x:Seg):Decidable (CJ x):=by unfold CJ;exact inferInstance
def By (x:Seg):Int:=if ¬(1≤x.kind∧x.kind≤3) then 8 else if ¬Bk x then 2 else if ¬CJ x then 1 else 0
theorem Lm (a b:ByteArray):(a==b)=decide (a=b):=by obtain ⟨a⟩:=a;obtain ⟨b⟩:=b;show (a==b)=_;rw [Bool.eq_iff_iff,beq_iff_eq,decide_eq_true_eq,ByteArray.mk.injEq]
theorem CY (a:ByteArray):(a==ByteArray.mk #[])=decide (a.size=0):=by
 rw [Lm,Bool.eq_iff_iff,decide_eq_true_eq,decide_eq_true_eq];constructor
 ·rintro rfl;rfl
 ·intro h;obtain ⟨d⟩:=a;have:d = #[]:=eq_empty_of_size_eq_zero h;rw [this]
theorem s130 (x:Seg) (hk:1≤x.kind∧x.kind≤3):AK C 130 x.enc [.bool (decide (Bk x))]:=by
 refine AK.of (fun n=>e130 n _ _ _ _ _ _ _ _) ?_;refine ((s98 x.ses 0 1099511627776).and ((s98 x.tot 1 65536).and ((s98 x.ser 1 1099511627776).and (s98 x.off 0 (w64 (x.tot-1)))))).mono fun n h => ?_;obtain ⟨h1,h2,h3,h4⟩:=h;simp only [h1,h2,h3,h4,vv,vf,wi];have hkk:x.kind=1∨x.kind=2∨x.kind=3:=by omega
 simp only [Ff];congr 3;rw [Bool.eq_iff_iff,decide_eq_true_eq (p:=Bk x)];unfold Bk;by_cases ht:1≤x.tot∧x.tot≤65536
 ·rw [AM (x:=x.tot-1) (by omega) (by omega)];rcases hkk with hk|hk|hk<;>cases hc:x.chk<;>simp [hk]<;>omega
 ·rcases hkk with hk|hk|hk<;>cases hc:x.chk<;>simp [hk]<;>omega
theorem s131 (x:Seg) (hk:1≤x.kind∧x.kind≤3) (hn:Bk x):AK C 131 x.enc [.bool (decide (CJ x))]:=by
 refine AK.of (fun n=>e131 n _ _ _ _ _ _ _ _) ?_;refine ((s98 (x.data.size:Int) 1 16).and (s99 x.claims x.tot)).mono fun n h => ?_;obtain ⟨h1,h2⟩:=h;simp only [h1,h2,vv,vf,wi];have hkk:x.kind=1∨x.kind=2∨x.kind=3:=by omega
 simp only [Ff];congr 3;rw [Bool.eq_iff_iff,decide_eq_true_eq (p:=CJ x)];unfold CJ;unfold Bk at hn;rcases hkk with hk|hk|hk
 ·have:=hn.2.2.2 hk;rw [AM (x:=x.tot-x.off) (by omega) (by omega)];simp [hk];omega
 ·simp [hk];by_cases hc:x.claims=[]
  ·have:inside x.claims x.tot=true:=by rw [hc];simp [inside,A4,BX]
   simp [this]
  ·simp [hc]
 ·simp [hk]
theorem Xb (x:Seg):AK C 106 x.enc [tI (By x)]:=by
 refine AK.of (fun n=>e106 n _ _ _ _ _ _ _ _) ?_;unfold By;by_cases hk:1≤x.kind∧x.kind≤3
 ·by_cases hn:Bk x
  ·refine ((s98 x.kind 1 3).and ((s130 x hk).and (s131 x hk hn))).mono fun n h => ?_;obtain ⟨h1,h2,h3⟩:=h;simp only [Seg.enc] at h2 h3;simp only [h1,h2,h3,vv,vf,wi,hk,hn,not_true_eq_false];by_cases hc:CJ x<;>simp [hc,AB]
  ·refine ((s98 x.kind 1 3).and (s130 x hk)).mono fun n h => ?_;obtain ⟨h1,h2⟩:=h;simp only [Seg.enc] at h2;simp only [h1,h2,vv,vf,wi,hk,hn,not_true_eq_false,not_false_eq_true]
 ·refine (s98 x.kind 1 3).mono fun n h1 => ?_;simp only [h1,vv,vf,wi,hk,not_false_eq_true]
theorem s192 (x:Seg):AK C 192 x.enc [.bool (decide (x.ser=0∧x.tot=0∧x.off=0))]:=by refine AK.of (fun n=>e192 n _ _ _ _ _ _ _ _) (Ev.of fun n => ?_);simp only [Ff];congr 3;rw [Bool.eq_iff_iff,decide_eq_true_eq];simp
theorem s193 (x:Seg):AK C 193 x.enc [.bool (decide (x.chk=false∧x.data.size=0∧x.claims=[]))]:=by refine AK.of (fun n=>e193 n _ _ _ _ _ _ _ _) (Ev.of fun n => ?_);simp only [Ff,CY,vv];congr 3;rw [Bool.eq_iff_iff,decide_eq_true_eq];simp
theorem s190 (x:Seg):AK C 190 x.enc [.bool (decide (1≤x.ser∧(1≤x.tot∧x.tot≤65536)∧x.off=0))]:=by refine AK.of (fun n=>e190 n _ _ _ _ _ _ _ _) ?_;refine (E6 x.tot 1 65536).mono fun n h => ?_;simp only [h,vv,vf,wi,Ff];congr 3;rw [Bool.eq_iff_iff,decide_eq_true_eq];simp
theorem s191 (x:Seg):AK C 191 x.enc [.bool (decide (x.chk=false∧x.data.size=0∧inside x.claims x.tot=true))]:=by
 refine AK.of (fun n=>e191 n _ _ _ _ _ _ _ _) ?_;refine (s139 x.claims x.tot).mono fun n h => ?_;simp only [h,vv,vf,CY,Ff];congr 3;rw [Bool.eq_iff_iff,decide_eq_true_eq];have:inside x.claims x.tot=true→x.claims.length≤1000:=fun h=>by unfold inside at h;exact BA (of_decide_eq_true h).1
 by_cases hi:inside x.claims x.tot=true
 ·have h2:=this hi;simp [hi]
  intros
  omega
 ·simp [hi]
theorem s188 (x:Seg):AK C 188 x.enc [.bool (decide ((1≤x.tot∧x.tot≤65536)∧(0≤x.off∧x.off≤x.tot-1)∧(1≤x.ser↔x.chk=true)))]:=by
 refine AK.of (fun n=>e188 n _ _ _ _ _ _ _ _) ?_;refine ((E6 x.tot 1 65536).and (E6 x.off 0 (w64 (x.tot-1)))).mono fun n h => ?_;obtain ⟨h1,h2⟩:=h;simp only [h1,h2,vv,vf,wi,Ff];congr 3;rw [Bool.eq_iff_iff,decide_eq_true_eq];by_cases ht:1≤x.tot∧x.tot≤65536
 ·rw [AM (x:=x.tot-1) (by omega) (by omega)];cases hc:x.chk<;>simp [ht]<;>omega
 ·simp [ht]
theorem s189 (x:Seg) (hn:0≤x.off∧x.off≤65536∧0≤x.tot∧x.tot≤65536):AK C 189 x.enc [.bool (decide ((1≤x.data.size∧x.data.size≤16)∧(x.data.size:Int)≤x.tot-x.off∧x.claims=[]))]:=by
 refine AK.of (fun n=>e189 n _ _ _ _ _ _ _ _) ?_;refine (E6 (x.data.size:Int) 1 (if w64 (x.tot-x.off)<16 then w64 (x.tot-x.off) else 16)).mono fun n h1 => ?_;simp only [h1,vv,vf,wi,Ff];congr 3;rw [Bool.eq_iff_iff,decide_eq_true_eq];rw [AM (x:=x.tot-x.off) (by omega) (by omega)];by_cases hc:x.claims=[]
 ·simp [hc];split<;>omega
 ·simp [hc]
theorem nc0:((0:Nat):Int)=0:=rfl
theorem nc1:((1:Nat):Int)=1:=rfl
theorem nc2:((2:Nat):Int)=2:=rfl
theorem nc3:((3:Nat):Int)=3:=rfl
theorem XZ (x:Seg):AK C 152 x.enc [tI (By x)]:=by
 refine AK.of (fun n=>e152 n _ _ _ _ _ _ _ _) ?_;unfold By;by_cases hk:1≤x.kind∧x.kind≤3
 ·have hkk:x.kind=1∨x.kind=2∨x.kind=3:=by omega
  by_cases hs:0≤x.ses∧x.ses≤1099511627776
  ·by_cases hr:0≤x.ser∧x.ser≤1099511627776
   ·rcases hkk with h1|h1|h1
    ·by_cases hq:(1≤x.tot∧x.tot≤65536)∧(0≤x.off∧x.off≤x.tot-1)∧(1≤x.ser↔x.chk=true)
     ·have hn:Bk x:=by unfold Bk;refine ⟨hs,by omega,by omega,fun _=>⟨hq.1,hq.2.1,fun hc=>⟨hq.2.2.2 hc,hr.2⟩,fun hc => ?_⟩⟩;have:=mt hq.2.2.1 (by simp [hc]);omega
      refine ((E6 x.kind 1 3).and ((E6 x.ses 0 1099511627776).and ((E6 x.ser 0 1099511627776).and ((s188 x).and (s189 x (by omega)))))).mono fun n h => ?_;obtain ⟨g1,g2,g3,g4,g5⟩:=h;simp only [Seg.enc,h1] at g1 g4 g5;have hc:CJ x↔((1≤x.data.size∧x.data.size≤16)∧(x.data.size:Int)≤x.tot-x.off∧x.claims=[]):=by unfold CJ;simp [h1]
      simp only [g1,g2,g3,g4,g5,wi,hs,hr,hq,hn,h1,hc,GO,GN,vv,vf,not_true_eq_false,Int.reduceEq,Int.reduceLE,Int.reduceLT];by_cases hd:((1≤x.data.size∧x.data.size≤16)∧(x.data.size:Int)≤x.tot-x.off∧x.claims=[])<;>simp [hd,AB]
     ·have hn:¬Bk x:=by
       intro hn;unfold Bk at hn;have:=hn.2.2.2 h1;refine hq ⟨this.1,this.2.1,fun h => ?_,fun h=>(this.2.2.1 h).1⟩;cases hc:x.chk
       ·have:=this.2.2.2 hc;omega
       ·rfl
      refine ((E6 x.kind 1 3).and ((E6 x.ses 0 1099511627776).and ((E6 x.ser 0 1099511627776).and (s188 x)))).mono fun n h => ?_;obtain ⟨g1,g2,g3,g4⟩:=h;simp only [Seg.enc,h1] at g1 g4;simp only [g1,g2,g3,g4,wi,hs,hr,hq,hn,h1,GO,GN,vv,vf,not_true_eq_false,not_false_eq_true,Int.reduceEq,Int.reduceLE,Int.reduceLT]
    ·refine ((E6 x.kind 1 3).and ((E6 x.ses 0 1099511627776).and ((E6 x.ser 0 1099511627776).and ((s190 x).and (s191 x))))).mono fun n h => ?_;obtain ⟨g1,g2,g3,g4,g5⟩:=h;simp only [Seg.enc,h1] at g1 g4 g5;have hn:Bk x↔(1≤x.ser∧(1≤x.tot∧x.tot≤65536)∧x.off=0):=by unfold Bk;simp [h1];omega
     have hc:CJ x↔(x.chk=false∧x.data.size=0∧inside x.claims x.tot=true):=by unfold CJ;simp [h1]
     simp only [g1,g2,g3,g4,g5,wi,hs,hr,hn,h1,hc,GO,GN,vv,vf,not_true_eq_false,Int.reduceEq,Int.reduceLE,Int.reduceLT];by_cases hd:(1≤x.ser∧(1≤x.tot∧x.tot≤65536)∧x.off=0)<;>by_cases he:(x.chk=false∧x.data.size=0∧inside x.claims x.tot=true)<;>simp only [hd,he,vv,not_true_eq_false,not_false_eq_true]
    ·refine ((E6 x.kind 1 3).and ((E6 x.ses 0 1099511627776).and ((E6 x.ser 0 1099511627776).and ((s192 x).and (s193 x))))).mono fun n h => ?_;obtain ⟨g1,g2,g3,g4,g5⟩:=h;simp only [Seg.enc,h1] at g1 g4 g5;have hn:Bk x↔(x.ser=0∧x.tot=0∧x.off=0):=by unfold Bk;simp [h1];omega
     have hc:CJ x↔(x.chk=false∧x.data.size=0∧x.claims=[]):=by unfold CJ;simp [h1]
     simp only [g1,g2,g3,g4,g5,wi,hs,hr,hn,h1,hc,GO,GN,vv,vf,not_true_eq_false,Int.reduceEq,Int.reduceLE,Int.reduceLT];by_cases hd:(x.ser=0∧x.tot=0∧x.off=0)<;>by_cases he:(x.chk=false∧x.data.size=0∧x.claims=[])<;>simp only [hd,he,vv,not_true_eq_false,not_false_eq_true]
   ·have hn:¬Bk x:=by
     intro hn;unfold Bk at hn;rcases hkk with h1|h1|h1
     ·have:=hn.2.2.2 h1;cases hc:x.chk
      ·have:=this.2.2.2 hc;omega
      ·have:=this.2.2.1 hc;omega
     ·have:=hn.2.2.1 h1;omega
     ·have:=hn.2.1 h1;omega
    refine ((E6 x.kind 1 3).and ((E6 x.ses 0 1099511627776).and (E6 x.ser 0 1099511627776))).mono fun n h => ?_;obtain ⟨g1,g2,g3⟩:=h;rcases hkk with h1|h1|h1<;>simp only [h1] at g1<;>simp only [g1,g2,g3,wi,hs,hr,hn,h1,GO,GN,vv,vf,not_true_eq_false,not_false_eq_true,Int.reduceEq,Int.reduceLE,Int.reduceLT]
  ·have hn:¬Bk x:=by intro hn;unfold Bk at hn;exact hs hn.1
   refine ((E6 x.kind 1 3).and (E6 x.ses 0 1099511627776)).mono fun n h => ?_;obtain ⟨g1,g2⟩:=h;rcases hkk with h1|h1|h1<;>simp only [h1] at g1<;>simp only [g1,g2,wi,hs,hn,h1,GO,GN,vv,vf,not_true_eq_false,not_false_eq_true,Int.reduceEq,Int.reduceLE,Int.reduceLT]
 ·refine (E6 x.kind 1 3).mono fun n h1 => ?_;simp only [h1,GO,GN,vv,vf,wi,hk,not_false_eq_true]
end Ab
namespace Ab
open Go
theorem s162 (ses ser tot:Int) (l:List Span):AK C 162 [tI ses,tI ser,tI tot,.sl 2 (l.map Span.enc)] (if By ⟨2,ses,ser,0,tot,false,ByteArray.mk #[],l⟩=0 then (Seg.enc ⟨2,ses,ser,0,tot,false,ByteArray.mk #[],l⟩)++[tI 0] else (Seg.enc ⟨0,0,0,0,0,false,ByteArray.mk #[],[]⟩)++[tI (By ⟨2,ses,ser,0,tot,false,ByteArray.mk #[],l⟩)]):=by
 refine AK.of (fun n=>e162 n _ _ _ _) ?_;refine (XZ ⟨2,ses,ser,0,tot,false,ByteArray.mk #[],l⟩).mono fun n h => ?_;simp only [Seg.enc] at h;simp only [h,vv,vf];by_cases hc:By ⟨2,ses,ser,0,tot,false,ByteArray.mk #[],l⟩=0
 ·simp [hc,AB,Seg.enc]
 ·simp [hc,AB,Seg.enc]
def Cr (r:Int) (x:Seg):Int:=if By x=0∧1≤r∧r≤1000∧x.kind=1 then ((x.data.size:Int)+7+r) / r else 0
def Uk (r:Int) (x:Seg):Int:=if By x≠0 then 1 else if ¬(1≤r∧r≤1000) then 2 else 0
theorem Li {x:Seg} (h:By x=0) (hk:x.kind=1):x.data.size≤16∧1≤x.data.size:=by
 unfold By at h;split at h
 ·cases h
 ·split at h
  ·cases h
  ·split at h
   ·cases h
   ·rename_i h3;have h4:CJ x:=not_not.1 h3;have:=(h4.2.2 hk).1;omega
theorem Jx (r:Int) (x:Seg):0≤Cr r x∧Cr r x≤1000:=by
 unfold Cr;split
 ·rename_i h;have:=Li h.1 h.2.2.2;have h0:0≤((x.data.size:Int)+7+r) / r:=Int.ediv_nonneg (by omega) (by omega);have h1:((x.data.size:Int)+7+r) / r≤(x.data.size:Int)+7+r:=Int.ediv_le_self _ (by omega);have h2:((x.data.size:Int)+7+r) / r<1000:=by
   refine Int.ediv_lt_of_lt_mul (by omega) ?_;have:1000*1≤1000*r:=by omega
   omega
  omega
 ·omega
theorem Ul {a b:Int} (h:0≤a):wF a b=a / b:=Int.tdiv_eq_ediv_of_nonneg h
theorem arith (r:Int) (z:Nat) (hz:z≤16) (hr:1≤r∧r≤1000):w64 (wF (w64 (w64 (w64 ((z:Int)+8)+r)-1)) r)=((z:Int)+7+r) / r:=by have h0:0≤((z:Int)+7+r) / r:=Int.ediv_nonneg (by omega) (by omega);have h1:((z:Int)+7+r) / r≤(z:Int)+7+r:=Int.ediv_le_self _ (by omega);rw [AM (x:=(z:Int)+8) (by omega) (by omega),AM (x:=(z:Int)+8+r) (by omega) (by omega),AM (x:=(z:Int)+8+r-1) (by omega) (by omega),show (z:Int)+8+r-1=(z:Int)+7+r by omega,Ul (by omega),AM (by omega) (by omega)]
theorem s137 (r:Int) (x:Seg):AK C 137 (tI r::x.enc) [tI (Cr r x),tI (Uk r x)]:=by
 refine AK.of (fun n=>e137 n _ _ _ _ _ _ _ _ _) ?_;refine ((XZ x).and (E6 r 1 1000)).mono fun n h => ?_;obtain ⟨h1,h2⟩:=h;simp only [Seg.enc] at h1;simp only [h1,h2,vv,vf,wi,Cr,Uk];by_cases hc:By x=0
 ·by_cases hr:1≤r∧r≤1000
  ·by_cases hk:x.kind=1
   ·have hr0:¬r=0:=by omega
    simp only [hc,hr,hk,bne_self_eq_false,vv,ne_eq,not_true_eq_false,hr0,arith r x.data.size (Li hc hk).1 hr]
   ·simp [hc,hr,hk,AB]
  ·have:¬(1≤r∧r≤1000∧x.kind=1):=by omega
   simp only [hc,hr,this,bne_self_eq_false,vv,ne_eq,not_true_eq_false,not_false_eq_true]
 ·simp [hc,AB]
theorem s100 (r:Int) (x:Seg):AK C 100 (tI r::x.enc) [tI (Cr r x),tI (Uk r x)]:=by
 refine AK.of (fun n=>e100 n _ _ _ _ _ _ _ _ _) ?_;refine ((Xb x).and (s98 r 1 1000)).mono fun n h => ?_;obtain ⟨h1,h2⟩:=h;simp only [Seg.enc] at h1;simp only [h1,h2,vv,vf,wi,Cr,Uk];by_cases hc:By x=0
 ·by_cases hr:1≤r∧r≤1000
  ·by_cases hk:x.kind=1
   ·have hr0:¬r=0:=by omega
    simp only [hc,hr,hk,bne_self_eq_false,vv,ne_eq,not_true_eq_false,hr0,arith r x.data.size (Li hc hk).1 hr]
   ·simp [hc,hr,hk,AB]
  ·have:¬(1≤r∧r≤1000∧x.kind=1):=by omega
   simp only [hc,hr,this,bne_self_eq_false,vv,ne_eq,not_true_eq_false,not_false_eq_true]
 ·simp [hc,AB]
theorem s37 (a b:Seg) (ha:a.claims.length≤1000000):AK C 37 (a.enc++b.enc) [.bool (decide (a=b))]:=by refine AK.of (fun n=>e37 n _ _ _ _ _ _ _ _ _ _ _ _ _ _ _ _) ?_;refine (s61 a.claims b.claims ha).mono fun n h => ?_;simp only [h,vv,vf,Ff,Lm];congr 3;cases a;cases b;simp only [Seg.mk.injEq];rw [Bool.eq_iff_iff,decide_eq_true_eq];simp
theorem s22 (a b:List Out) (ha:a.length≤1000000) (hc:∀x∈a,x.seg.claims.length≤1000000):AK C 22 [.sl 9 (a.map Out.enc),.sl 9 (b.map Out.enc)] [.bool (decide (a=b))]:=by
 refine AK.of (fun n=>e22 n _ _) ?_;simp only [vv];by_cases hl:a.length=b.length
 ·simp only [hl,bne_self_eq_false,vv];refine AZ (fun r=>[Tree.bool r]) a (fun i _=>(([.t (tI i)],[]):List AV×Heap)) (IJ b) (fun _=>true) (fun _ _=>True) () rfl trivial (Qr b a 0 (by omega))
   (fun i s x hx hI => ?_) (fun _ _ _ _ _ _ _=>trivial) (fun s hI=>Ev.of fun n again => ?_)
  ·have hi:=AN hx;have hb:b[i]? = some b[i]:=zO (by omega);refine (s37 x.seg b[i].seg (hc x (yA hx))).mono fun n h again => ?_;simp only [Seg.enc,cons_append,nil_append] at h;simp only [ZP,vv,vf,wK,hx,hb,Out.enc,h,AT (show i<4611686018427387904 by omega),IJ,Option.some.injEq];generalize hy:b[i]=y;rw [hy] at h;cases x with|mk xa xs=>
   cases y with|mk ya ys=>
   simp only [AB,Out.mk.injEq];grind [Rd.AR,Rd.Aj]
  ·simp only [ZP,vv,vf,wK,hl,wE]
 ·refine Ev.of fun n => ?_;have:¬a=b:=fun e=>hl (by rw [e]);rw [BD (by simp;omega)];simp [this]
end Ab
namespace Ab
open Go
def Ac (t:Int):List Span→Prop
 |[]=>False
 |x::l=>(x.fro≤t∧t<x.to)∨Ac t l
def Canon:Int→List Span→Prop
 |_,[]=>True
 |b,x::l=>b<x.fro∧x.fro<x.to∧Canon x.to l
def Top (l:List Span):Prop:=∀x∈l,x.to≤1152921504606846976
theorem CB:∀{l:List Span} {b t:Int},Canon b l→Ac t l→b<t
 |x::l,b,t,h,m=>by
  rcases m with m|m
  ·have:=h.1;omega
  ·have:=CB h.2.2 m;have:=h.1;have:=h.2.1;omega
theorem D4:∀{l:List Span} {b b':Int},Canon b l→b'≤b→Canon b' l
 |[],_,_,_,_=>trivial
 |x::l,b,b',h,hb=>⟨by have:=h.1;omega,h.2.1,h.2.2⟩
theorem Di:∀{l l':List Span} {b b':Int},Canon b l→Canon b' l'→(∀t,Ac t l↔Ac t l')→l=l'
 |[],[],_,_,_,_,_=>rfl
 |[],y::l',_,_,_,h',hm=>((hm y.fro).2 (.inl ⟨Int.le_refl _,h'.2.1⟩)).elim
 |x::l,[],_,_,h,_,hm=>((hm x.fro).1 (.inl ⟨Int.le_refl _,h.2.1⟩)).elim
 |x::l,y::l',b,b',h,h',hm=>by
  have e1:x.fro=y.fro:=by
   have h1:y.fro≤x.fro:=by
    rcases (hm x.fro).1 (.inl ⟨Int.le_refl _,h.2.1⟩) with m|m
    ·exact m.1
    ·have:=CB h'.2.2 m;have:=h'.2.1;omega
   have h2:x.fro≤y.fro:=by
    rcases (hm y.fro).2 (.inl ⟨Int.le_refl _,h'.2.1⟩) with m|m
    ·exact m.1
    ·have:=CB h.2.2 m;have:=h.2.1;omega
   omega
  have e2:x.to=y.to:=by
   have hx:=h.2.1;have hy:=h'.2.1;rcases Int.lt_trichotomy x.to y.to with q|q|q
   ·rcases (hm x.to).2 (.inl ⟨by omega,q⟩) with m|m
    ·omega
    ·have:=CB h.2.2 m;omega
   ·exact q
   ·rcases (hm y.to).1 (.inl ⟨by omega,q⟩) with m|m
    ·omega
    ·have:=CB h'.2.2 m;omega
  have e3:l=l':=Di h.2.2 h'.2.2 fun t=>by
   have:=hm t;simp only [Ac,e1,e2] at this;constructor
   ·intro m;rcases this.1 (.inr m) with q|q
    ·have:=CB h.2.2 m;omega
    ·exact q
   ·intro m;rcases this.2 (.inr m) with q|q
    ·have:=CB h'.2.2 m;omega
    ·exact q
  cases x;cases y;simp only at e1 e2;rw [e1,e2,e3]
def CV:Option Int→List Span→Prop
 |_,[]=>True
 |o,x::l=>Valid x∧(∀p,o=some p→p<x.fro)∧CV (some x.to) l
theorem Vc (L:List Span):∀(l pre:List Span),L=pre++l→(BX (G7 L) (fun _=>(0:Int)) pre.length l ()=0↔CV (pre.getLast?.map (·.to)) l)
 |[],pre,h=>by simp [BX,CV]
 |x::l,pre,h=>by
  have ih:=Vc L l (pre++[x]) (by simp [h]);simp only [zV,zW,zX,yR,List.getLast?_append,List.getLast?_singleton,some_or,yT] at ih;simp only [BX,CV,G7];by_cases hv:Valid x
  ·simp only [hv,not_true_eq_false,if_false,true_and];rcases List.eq_nil_or_concat pre with rfl|⟨q,y,rfl⟩
   ·simp only [zX,ne_eq,not_true_eq_false,false_and,if_false,List.getLast?_nil,wL,reduceCtorEq,false_implies,implies_true,true_and];simpa using ih
   ·rw [List.concat_eq_append] at h ih ⊢;have e:L[(q++[y]).length-1]? = some y:=by rw [h];simp
    simp only [e,yT,Option.some.injEq,decide_eq_true_eq];simp only [zV,zW,zX,yR,ne_eq,Nat.add_eq_zero_iff,Nat.one_ne_zero,and_false,not_false_eq_true,true_and,List.getLast?_append,List.getLast?_singleton,some_or,yT,Option.some.injEq,forall_eq'];simp only [zV,zW,zX,yR] at ih;by_cases hq:x.fro≤y.to
    ·simp only [hq,if_true];constructor
     ·intro h;cases h
     ·rintro ⟨h,_⟩;omega
    ·simp only [hq,if_false];rw [ih];constructor
     ·intro h;exact ⟨by omega,h⟩
     ·exact fun h=>h.2
  ·simp only [hv,not_false_eq_true,if_true,false_and,iff_false];intro h;cases h
theorem Sk:∀(l:List Span) (o:Option Int) (b:Int),(∀p,o=some p→p=b)→(o=none→b = -1152921504606846977)→ -1152921504606846977≤b→(CV o l↔Canon b l∧Top l)
 |[],o,b,_,_,_=>by simp [CV,Canon,Top]
 |x::l,o,b,h1,h2,h3=>by
  have ih:=fun hb=>Sk l (some x.to) x.to (fun p hp=>(Option.some.inj hp).symm) (fun h=>by cases h) hb;simp only [CV,Canon,Top,xP,forall_eq_or_imp];constructor
  ·rintro ⟨⟨v1,v2,v3⟩,g1,g2⟩
   have:=(ih (by omega)).1 g2;refine ⟨⟨?_,v1,this.1⟩,v3,this.2⟩;cases o with
   |none=>have:=h2 rfl;omega
   |some p=>have:=g1 p rfl;have:=h1 p rfl;omega
  ·rintro ⟨⟨g1,g2,g3⟩,g4,g5⟩
   refine ⟨⟨g2,by omega,g4⟩,fun p hp => ?_,(ih (by omega)).2 ⟨g3,g5⟩⟩;have:=h1 p hp;omega
theorem Ag (l:List Span):A4 l=0↔l.length≤1000∧Canon (-1152921504606846977) l∧Top l:=by
 have:=Vc l l [] rfl;simp only [zX,List.getLast?_nil,wL] at this;rw [Sk l none (-1152921504606846977) (by simp) (by simp) (by omega)] at this;unfold A4;split
 ·constructor
  ·intro h;cases h
  ·intro h;omega
 ·rw [this];constructor
  ·intro h;exact ⟨by omega,h⟩
  ·exact fun h=>h.2
structure Sd where
 l:List Span
 i:Bool
def Sd.next (s:Sd):Option Int:=match s.l with
 |[]=>none
 |x::_=>some (if s.i then x.to else x.fro)
def Sd.pass (s:Sd) (t:Int):Sd:=if s.next=some t then ⟨if s.i then s.l.tail else s.l,!s.i⟩ else s
def E2:Option Int→Option Int→Option Int
 |none,o=>o
 |some m,none=>some m
 |some m,some n=>some (if n<m then n else m)
def Sd.sz (s:Sd):Nat:=2*s.l.length-(if s.i then 1 else 0)
def Sd.Inv (s:Sd) (t0:Int):Prop:=match s.l with
 |[]=>s.i=false
 |x::l=>(if s.i then t0<x.to else t0<x.fro∧x.fro<x.to)∧Canon x.to l
def Sd.mem (s:Sd) (t:Int):Prop:=match s.l with
 |[]=>False
 |x::l=>(if s.i then t<x.to else x.fro≤t∧t<x.to)∨Ac t l
theorem Sd.KH {s:Sd} {t0 t1:Int} (h:s.Inv t0) (ht:t0<t1) (hn:∀n,s.next=some n→t1≤n):(s.pass t1).Inv t1∧∀t,t1≤t→((s.pass t1).mem t↔s.mem t):=by
 obtain ⟨l,i⟩:=s;cases l with
 |nil=>simp [Sd.pass,Sd.next,Sd.Inv,Sd.mem] at *;exact h
 |cons x l=>
  simp only [Sd.next] at hn;have hn:=hn _ rfl;cases i with
  |true=>
   simp only [Sd.Inv,if_true] at h hn;by_cases hq:x.to=t1
   ·simp only [Sd.pass,Sd.next,if_true,hq,tail_cons,Bool.not_true];refine ⟨?_,fun t ht => ?_⟩
    ·cases l with
     |nil=>rfl
     |cons y l=>exact ⟨by simp only [zD,if_false];exact ⟨hq ▸ h.2.1,h.2.2.1⟩,h.2.2.2⟩
    ·simp only [Sd.mem,if_true];have:¬t<x.to:=by omega
     simp only [this,false_or];cases l<;>simp [Ac]
   ·simp only [Sd.pass,Sd.next,if_true,Option.some.injEq,hq,if_false];exact ⟨⟨by simp only [if_true];omega,h.2⟩,fun _ _=>by first|exact Iff.rfl|trivial⟩
  |false=>
   simp only [Sd.Inv,zD,if_false] at h hn;by_cases hq:x.fro=t1
   ·simp only [Sd.pass,Sd.next,zD,if_false,hq,if_true,Bool.not_false];refine ⟨⟨by simp only [if_true];omega,h.2⟩,fun t ht => ?_⟩;simp only [Sd.mem,if_true,zD,if_false];have:x.fro≤t:=by omega
    simp only [this,true_and]
   ·simp only [Sd.pass,Sd.next,zD,if_false,Option.some.injEq,hq];exact ⟨⟨by simp only [zD,if_false];omega,h.2⟩,fun _ _=>by first|exact Iff.rfl|trivial⟩
theorem Sd.still {s:Sd} {t0 t:Int} (h:s.Inv t0) (ht:t0≤t) (hn:∀n,s.next=some n→t<n):s.mem t↔s.i=true:=by
 obtain ⟨l,i⟩:=s;cases l with
 |nil=>simp [Sd.mem,Sd.Inv] at *;exact h
 |cons x l=>
  simp only [Sd.next] at hn;have hn:=hn _ rfl;have hl:∀{u},u<x.to→¬Ac u l:=fun hu m=>by have:=CB h.2 m;omega
  cases i with
  |true=>
   simp only [Sd.mem,if_true] at hn ⊢;simp [hn]
  |false=>
   simp only [Sd.Inv,Sd.mem,zD,if_false] at hn h ⊢;have:=hl (show t<x.to by omega);simp only [this,or_false,iff_false];omega
theorem Sd.after {s:Sd} {t0 n:Int} (h:s.Inv t0) (hn:s.next=some n):t0<n:=by
 obtain ⟨l,i⟩:=s;cases l with
 |nil=>cases hn
 |cons x l=>
  simp only [Sd.next,Option.some.injEq] at hn;cases i with
  |true=>simp only [Sd.Inv,if_true] at h hn;omega
  |false=>simp only [Sd.Inv,zD,if_false] at h hn;omega
theorem Sd.Ij (s:Sd) (t:Int):(s.pass t).sz≤s.sz∧(s.next=some t→(s.pass t).sz<s.sz):=by
 obtain ⟨l,i⟩:=s;unfold Sd.pass;cases l with
 |nil=>simp [Sd.next]
 |cons x l=>
  split
  ·cases i<;>simp [Sd.sz]<;>omega
  ·rename_i h;exact ⟨le_refl _,fun h2=>(h h2).elim⟩
theorem Ie {a b:Option Int} {t:Int} (h:E2 a b=some t):(a=some t∨b=some t)∧(∀n,a=some n→t≤n)∧∀n,b=some n→t≤n:=by
 cases a with
 |none=>cases b with
  |none=>cases h
  |some n=>simp [E2] at h;subst h;simp
 |some m=>cases b with
  |none=>simp [E2] at h;subst h;simp
  |some n=>
   simp only [E2,Option.some.injEq] at h;split at h<;>subst h<;>simp<;>omega
def go (f:Bool→Bool→Bool) (a b:Sd) (o:Option Int):List Span:=
 match h:E2 a.next b.next with
 |none=>[]
 |some t=>
  if f (a.pass t).i (b.pass t).i=true then go f (a.pass t) (b.pass t) (some (o.getD t))
  else match o with
   |some s=>⟨s,t⟩::go f (a.pass t) (b.pass t) none
   |none=>go f (a.pass t) (b.pass t) none
termination_by a.sz+b.sz
decreasing_by
 all_goals
  have h1:=(Ie h).1;have h2:=a.Ij t;have h3:=b.Ij t;rcases h1 with h1|h1
  ·have:=h2.2 h1;omega
  ·have:=h3.2 h1;omega
theorem PA {a b:Option Int} (h:E2 a b=none):a=none∧b=none:=by cases a<;>cases b<;>simp [E2] at h ⊢
theorem PQ {s:Sd} (h:s.next=none):s.l=[]:=by
 obtain ⟨l,i⟩:=s;cases l with
 |nil=>rfl
 |cons x l=>simp [Sd.next] at h
def EE (f:Bool→Bool→Bool) (a b:Sd) (u:Int):Prop:=∃p q:Bool,(a.mem u↔p=true)∧(b.mem u↔q=true)∧f p q=true
theorem XO {f:Bool→Bool→Bool} {a b:Sd} {o:Option Int} {t0 t:Int} (h:E2 a.next b.next=some t) (ha:a.Inv t0) (hb:b.Inv t0) (ho:o.isSome=f a.i b.i) (h1:∀s,o=some s→s≤t0) (u:Int) :
  ((∃s,o=some s∧s≤u∧u<t0)∨(t0≤u∧EE f a b u))↔((∃s,o=some s∧s≤u∧u<t)∨(t≤u∧EE f (a.pass t) (b.pass t) u)):=by
 obtain ⟨e1,e2,e3⟩:=Ie h;have ht:t0<t:=by
  rcases e1 with e|e
  ·exact Sd.after ha e
  ·exact Sd.after hb e
 obtain ⟨a1,a2⟩:=Sd.KH ha ht e2;obtain ⟨b1,b2⟩:=Sd.KH hb ht e3;rcases Int.lt_or_le u t0 with hu|hu
 ·have n1:¬t0≤u:=by omega
  have n2:¬t≤u:=by omega
  have n3:u<t:=by omega
  simp only [n1,n2,n3,hu,false_and,or_false,and_true]
 ·rcases Int.lt_or_le u t with hv|hv
  ·have n1:¬u<t0:=by omega
   have n2:¬t≤u:=by omega
   have m1:=Sd.still ha hu (fun n hn=>by have:=e2 n hn;omega);have m2:=Sd.still hb hu (fun n hn=>by have:=e3 n hn;omega);have hE:EE f a b u↔f a.i b.i=true:=by
    constructor
    ·rintro ⟨p,q,g1,g2,g3⟩
     rw [m1] at g1;rw [m2] at g2;rw [Bool.eq_iff_iff.2 g1,Bool.eq_iff_iff.2 g2];exact g3
    ·exact fun g=>⟨_,_,m1,m2,g⟩
   simp only [n1,n2,hv,hu,and_false,exists_false,false_or,true_and,false_and,or_false,and_true,hE,← ho];cases o with
   |none=>simp
   |some s=>have:=h1 s rfl;simp;omega
  ·have n1:¬u<t0:=by omega
   have n2:¬u<t:=by omega
   have hE:EE f a b u↔EE f (a.pass t) (b.pass t) u:=by unfold EE;simp only [a2 u hv,b2 u hv]
   simp only [n1,n2,hu,hv,and_false,exists_false,false_or,true_and,hE]
theorem VO {f:Bool→Bool→Bool} {a b:Sd} {o:Option Int} (h:E2 a.next b.next=none):go f a b o=[]:=by
 rw [go];split
 ·rfl
 ·rename_i t h';rw [h] at h';cases h'
theorem VN {f:Bool→Bool→Bool} {a b:Sd} {o:Option Int} {t:Int} (h:E2 a.next b.next=some t):go f a b o=if f (a.pass t).i (b.pass t).i=true then go f (a.pass t) (b.pass t) (some (o.getD t))
  else match o with
   |some s=>⟨s,t⟩::go f (a.pass t) (b.pass t) none
   |none=>go f (a.pass t) (b.pass t) none:=by
 conv=>lhs;rw [go]
 split
 ·rename_i h';rw [h] at h';cases h'
 ·rename_i t' h';rw [h] at h';cases h';rfl
theorem VM (f:Bool→Bool→Bool) (hf:f false false=false):∀(k:Nat) (a b:Sd) (o:Option Int) (t0 lo:Int),a.sz+b.sz<k→a.Inv t0→b.Inv t0→(o.isSome=f a.i b.i)→(∀s,o=some s→lo<s∧s≤t0)→(o=none→lo≤t0)→
  Canon lo (go f a b o)∧∀t,Ac t (go f a b o)↔(∃s,o=some s∧s≤t∧t<t0)∨(t0≤t∧EE f a b t):=by
 intro k
 induction k with
 |zero=>intro a b o t0 lo hk;omega
 |succ k ih=>
  intro a b o t0 lo hk ha hb ho h1 h2;cases h:E2 a.next b.next with
  |none=>
   obtain ⟨e1,e2⟩:=PA h;have l1:=PQ e1;have l2:=PQ e2;have i1:a.i=false:=by simpa [Sd.Inv,l1] using ha
   have i2:b.i=false:=by simpa [Sd.Inv,l2] using hb
   rw [i1,i2,hf] at ho;obtain rfl:o=none:=by cases o<;>simp at ho ⊢
   rw [VO h];refine ⟨trivial,fun t => ?_⟩;simp only [Ac,reduceCtorEq,false_and,exists_false,false_or,false_iff]
   rintro ⟨_,p,q,g1,g2,g3⟩
   simp only [Sd.mem,l1,l2,false_iff] at g1 g2;cases p<;>cases q<;>simp_all
  |some t=>
   obtain ⟨e1,e2,e3⟩:=Ie h;have ht:t0<t:=by
    rcases e1 with e|e
    ·exact Sd.after ha e
    ·exact Sd.after hb e
   obtain ⟨a1,a2⟩:=Sd.KH ha ht e2;obtain ⟨b1,b2⟩:=Sd.KH hb ht e3;have hsz:(a.pass t).sz+(b.pass t).sz<k:=by
    have h2:=a.Ij t;have h3:=b.Ij t;rcases e1 with h1|h1
    ·have:=h2.2 h1;omega
    ·have:=h3.2 h1;omega
   have hsem:=XO h ha hb ho (fun s e=>(h1 s e).2);rw [VN h];by_cases hc:f (a.pass t).i (b.pass t).i=true
   ·rw [if_pos hc];have hs:lo<o.getD t∧o.getD t≤t:=by
     cases o with
     |none=>have:=h2 rfl;simp;omega
     |some s=>have:=h1 s rfl;simp;omega
    obtain ⟨k1,k2⟩:=ih (a.pass t) (b.pass t) (some (o.getD t)) t lo hsz a1 b1 (by simp [hc]) (fun s e=>by cases e;exact hs) (fun e=>by cases e);refine ⟨k1,fun u => ?_⟩;rw [k2 u,hsem u];cases o with
    |none=>simp;omega
    |some s=>simp
   ·rw [if_neg hc];have hc':f (a.pass t).i (b.pass t).i=false:=by simpa using hc
    cases o with
    |none=>
     obtain ⟨k1,k2⟩:=ih (a.pass t) (b.pass t) none t lo hsz a1 b1 (by simp [hc']) (fun s e=>by cases e) (fun e=>by have:=h2 rfl;omega);refine ⟨k1,fun u => ?_⟩;rw [k2 u,hsem u]
    |some s=>
     have hs:=h1 s rfl;obtain ⟨k1,k2⟩:=ih (a.pass t) (b.pass t) none t t hsz a1 b1 (by simp [hc']) (fun s e=>by cases e) (fun e=>Int.le_refl _);refine ⟨⟨hs.1,by simp only;omega,k1⟩,fun u => ?_⟩;simp only [Ac];rw [k2 u,hsem u];simp
end Ab
