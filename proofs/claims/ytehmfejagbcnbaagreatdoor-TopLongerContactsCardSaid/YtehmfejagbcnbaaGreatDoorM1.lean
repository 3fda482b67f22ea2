/- A part of the proof: see the last text. -/
import Derived.RangeFuncIn
import Derived.Laws.Sem
import Derived.Laws.World
import Derived.Laws.Cells
import Derived.Below
import Derived.Laws.Entries
import Derived.ChangeKeysEq
import Derived.Laws.StructEq
import Derived.Laws.Tables
import Derived.Laws.CopyRow
import Derived.Laws.AppendOwn
import Derived.Lib.AppendStr
import Derived.Lib.ConvBytes
import Derived.Laws.MakeOwn
import Derived.Shelf.Bodies2
import Derived.Shelf.SlGeneric
import Derived.Shelf.RegionOpenPlain
import Derived.WalkKit
import Derived.Lib.Walk
import Derived.Lib.SliceRun
import Derived.Lib.JoinLaws
import Derived.Lib.AppendZerosOnto
import Derived.Laws.Externs
import Derived.Laws.IdiomCopy
import Derived.Laws.NewBlocks
import Derived.Shelf.Spec.SlicesGrow
import Derived.Orders
set_option linter.unusedVariables false
set_option linter.unusedSimpArgs false
open Array (eq_empty_of_size_eq_zero getElem?_modify getElem?_push getElem?_toList length_toList size_append toArray_toList)
open Bool (and_eq_true false_eq_true)
open Int (tmod toNat toNat_natCast)
open List (all_cons all_eq_true append_assoc append_nil drop eq_nil_of_length_eq_zero ext_getElem? flatten_cons foldl_cons getD_eq_getElem?_getD getElem?_append_left getElem?_append_right getElem?_cons_succ getElem?_drop getElem?_eq_getElem getElem?_eq_none getElem?_map getElem?_range getElem?_take getElem?_take_of_lt getElem_mem length length_append length_cons length_map length_nil length_pos_iff length_take map_take mem_iff_getElem? mem_map mem_range nil_append replicate size_toArray take take_zero)
open Nat (add_assoc add_le_add_left add_mul add_zero le_refl le_succ le_trans lt_of_lt_of_le lt_or_ge mod_lt mul_comm mul_le_mul_right ne_of_lt not_lt pos_of_ne_zero succ_mul zero_add zero_le)
open Option (map_some)
namespace Ab
open Go
inductive Tree where
 |int (k:IntKind) (n:Int)
 |bool (b:Bool)
 |str (s:ByteArray)
 |sl (size:Nat) (es:List (List Tree))
 |const (v:Value)
 |mp (k:IntKind) (m:List (Int×Nat))
 deriving Inhabited
inductive BR (w:World) (A:Nat→Prop):Tree→Value→Prop
 |int (k:IntKind) (n:Int):BR w A (.int k n) (.int k n)
 |bool (b:Bool):BR w A (.bool b) (.bool b)
 |str (s:ByteArray):BR w A (.str s) (.string s)
 |const (v:Value):v.oneCell'=true→BR w A (.const v) v
 |mp (k:IntKind) (m:List (Int×Nat)) (b:Nat) (es:Array MapEntry) (clock:Nat):b<w.heap.size→¬A b→w.heap[b]? = some (.map es clock)→
   es.toList.map (fun e=>(e.key,e.val))=m.map (fun p=>(.int k p.1,.func (.func p.2) #[] #[]))→BR w A (.mp k m) (.map (some b))
 |nil (size cap:Nat) (a:Option Addr):BR w A (.sl size []) (.slice a 0 cap)
 |sl (size:Nat) (es:List (List Tree)) (b off cap:Nat) (u:Nat→Nat→Value):es.length≤cap→b<w.heap.size→¬A b→
   (∀(j:Nat) (e:List Tree),es[j]? = some e→e.length=size)→
   (∀(j:Nat) (e:List Tree) (c:Nat) (x:Tree),es[j]? = some e→e[c]? = some x→w.cell? ⟨b,off+(j*size+c),none⟩=some (u j c))→
   (∀(j:Nat) (e:List Tree) (c:Nat) (x:Tree),es[j]? = some e→e[c]? = some x→BR w A x (u j c))→
   BR w A (.sl size es) (.slice (some ⟨b,off,none⟩) es.length cap)
theorem IU {w w':World} {b o:Nat} (h:w'.heap[b]? = w.heap[b]?):w'.cell? ⟨b,o,none⟩=w.cell? ⟨b,o,none⟩:=by simp only [World.cell?,h]
theorem BR.mono {w w':World} {A A':Nat→Prop} (hs:w.heap.size≤w'.heap.size)
  (hk:∀b,b<w.heap.size→¬A b→w'.heap[b]? = w.heap[b]?) (hA:∀b,A' b→A b∨w.heap.size≤b)
  {x:Tree} {v:Value} (h:BR w A x v):BR w' A' x v:=by
 induction h with
 |int k n=>exact .int k n
 |bool b=>exact .bool b
 |str s=>exact .str s
 |const v h=>exact .const v h
 |mp k m b es clock h1 h2 h3 h4=>
  refine .mp k m b es clock (lt_of_lt_of_le h1 hs) (fun h => ?_) ((hk b h1 h2).trans h3) h4;rcases hA b h with h|h
  ·exact h2 h
  ·omega
 |nil size cap a=>exact .nil size cap a
 |sl size es b off cap u h1 h2 h3 h4 h5 _ ih=>
  refine .sl size es b off cap u h1 (lt_of_lt_of_le h2 hs) (fun h => ?_) h4 (fun j e c x he hx => ?_) ih
  ·rcases hA b h with h|h
   ·exact h3 h
   ·omega
  ·rw [IU (hk b h2 h3)];exact h5 j e c x he hx
theorem BR.one {w:World} {A:Nat→Prop} {x:Tree} {v:Value} (h:BR w A x v):v.oneCell'=true:=by cases h<;>first|rfl|assumption
inductive AV where
 |undef
 |t (x:Tree)
 |nilsl
 |ptr (i off:Nat)
 |rptr (i ver k off:Nat)
 |eptr (size:Nat) (cells:List Tree) (off:Nat)
 |sref (i ver off len:Nat)
 |bsl (i off len size:Nat)
 |yld (i:Nat)
 |mref (i:Nat)
 |func (fn:Fn) (first captured:List AV)
 |agg (cs:List AV)
 |tuple (vs:List AV)
 deriving Inhabited
abbrev Env:=Nat→AV
structure Ck where
 fn:FuncId
 size:Nat
 env:Env
 params:List Tmp
 assign:Code
 body:Code
 busy:Bool
 pending:Option Code
 ended:Bool
 hl:Nat
 deriving Inhabited
inductive AA where
 |box (cs:List AV)
 |row (frz:Bool) (ver size:Nat) (es:List (List Tree))
 |loop (l:Ck)
 |mapo (k ke:IntKind) (es:List (Int×Int))
 deriving Inhabited
abbrev Heap:=List AA
abbrev Ay:=List (Option (Nat×Nat))
def AA.ver:AA→Nat
 | .row _ v _ _=>v
 |_=>0
def AA.len:AA→Nat
 | .row _ _ _ es=>es.length
 | .box cs=>cs.length
 |_=>0
def AA.size:AA→Nat
 | .row _ _ s _=>s
 |_=>0
def AA.JY:AA→Bool
 | .row f _ _ _=>f
 |_=>false
def AA.kind:AA→Nat
 | .box _=>0
 | .loop _=>1
 | .mapo _ _ _=>3
 |_=>2
def AA.rec? : AA→Option Ck
 | .loop l=>some {l with busy:=false,pending:=none,ended:=false}
 |_=>none
def Ex (κ:Ay) (h:Heap) (b:Nat):Prop:=∃(i base:Nat) (o:AA),κ[i]? = some (some (b,base))∧h[i]? = some o∧o.JY=false
def SRef (κ:Ay) (h:Heap) (w:World) (i ver off len:Nat) (v:Value):Prop:=
 ∀(k:Option (Nat×Nat)) (o:AA),κ[i]? = some k→h[i]? = some o→o.ver=ver→o.kind=2∧off+len≤o.len∧
  ((len=0∧off=o.len∧∃a,v = .slice a 0 0)∨∃b base,k=some (b,base)∧∃cap,v = .slice (some ⟨b,base+off*o.size,none⟩) len cap∧o.len≤off+cap∧
    ∀cells elem fr,w.heap[b]? = some (.cells cells elem fr)→base+(off+cap)*o.size≤cells.size)
inductive Refs (m:Nat):AV→Prop
 |undef:Refs m .undef
 |t (x:Tree):Refs m (.t x)
 |nilsl:Refs m .nilsl
 |ptr (i off:Nat):i<m→Refs m (.ptr i off)
 |rptr (i ver k off:Nat):i<m→Refs m (.rptr i ver k off)
 |eptr (size:Nat) (cells:List Tree) (off:Nat):Refs m (.eptr size cells off)
 |sref (i ver off len:Nat):i<m→Refs m (.sref i ver off len)
 |bsl (i off len size:Nat):i<m→Refs m (.bsl i off len size)
 |yld (i:Nat):i<m→Refs m (.yld i)
 |mref (i:Nat):i<m→Refs m (.mref i)
 |func (fn:Fn) (first captured:List AV):(∀(j:Nat) (x:AV),first[j]? = some x→Refs m x)→(∀(j:Nat) (x:AV),captured[j]? = some x→Refs m x)→Refs m (.func fn first captured)
 |agg (xs:List AV):(∀(j:Nat) (x:AV),xs[j]? = some x→Refs m x)→Refs m (.agg xs)
 |tuple (xs:List AV):(∀(j:Nat) (x:AV),xs[j]? = some x→Refs m x)→Refs m (.tuple xs)
inductive AR (B:Nat→Prop) (κ:Ay) (h:Heap) (w:World):AV→Value→Prop
 |undef (v:Value):AR B κ h w .undef v
 |t (x:Tree) (v:Value):BR w (fun b=>B b∨Ex κ h b) x v→AR B κ h w (.t x) v
 |nilsl (a:Option Addr):AR B κ h w .nilsl (.slice a 0 0)
 |ptr (i off b base:Nat):κ[i]? = some (some (b,base))→(∃cs,h[i]? = some (.box cs))→AR B κ h w (.ptr i off) (.pointer (some ⟨b,base+off,none⟩))
 |rptr (i ver k off:Nat) (v:Value):(∃p,v = .pointer (some p))→(∃o,h[i]? = some o∧ver≤o.ver)→
   (∀o:AA,h[i]? = some o→o.ver=ver→∃b base,κ[i]? = some (some (b,base))∧v = .pointer (some ⟨b,base+(k*o.size+off),none⟩)∧o.kind=2∧k<o.len)→AR B κ h w (.rptr i ver k off) v
 |eptr (size:Nat) (cells:List Tree) (off b base:Nat) (u:Nat→Value):cells.length=size→b<w.heap.size→¬(B b∨Ex κ h b)→
   (∀c x,cells[c]? = some x→w.cell? ⟨b,base+c,none⟩=some (u c))→
   (∀c x,cells[c]? = some x→BR w (fun b=>B b∨Ex κ h b) x (u c))→AR B κ h w (.eptr size cells off) (.pointer (some ⟨b,base+off,none⟩))
 |sref (i ver off len:Nat) (v:Value):v.oneCell'=true→(∃o,h[i]? = some o∧ver≤o.ver)→SRef κ h w i ver off len v→AR B κ h w (.sref i ver off len) v
 |bsl (i off len size cap b:Nat):κ[i]? = some (some (b,0))→(∃cs,h[i]? = some (.box cs)∧off+cap*size≤cs.length)→len≤cap→AR B κ h w (.bsl i off len size) (.slice (some ⟨b,off,none⟩) len cap)
 |yld (i b base:Nat):κ[i]? = some (some (b,base))→(∃l,h[i]? = some (.loop l))→AR B κ h w (.yld i) (.func (.yield b) #[] #[])
 |mref (i b:Nat):κ[i]? = some (some (b,0))→(∃k ke es,h[i]? = some (.mapo k ke es))→AR B κ h w (.mref i) (.map (some b))
 |func (fn:Fn) (first captured:List AV) (fs cs:Array Value):fs.size=first.length→cs.size=captured.length→
   (∀j x,first[j]? = some x→AR B κ h w x (fs.getD j undef))→(∀j x,captured[j]? = some x→AR B κ h w x (cs.getD j undef))→AR B κ h w (.func fn first captured) (.func fn fs cs)
 |agg (xs:List AV) (vs:Array Value):vs.size=xs.length→(∀j x,xs[j]? = some x→AR B κ h w x (vs.getD j undef))→AR B κ h w (.agg xs) (.agg vs)
 |tuple (xs:List AV) (vs:Array Value):vs.size=xs.length→(∀j x,xs[j]? = some x→AR B κ h w x (vs.getD j undef))→AR B κ h w (.tuple xs) (.tuple vs)
def OLe (o o':AA):Prop:=o.kind=o'.kind∧o.ver≤o'.ver∧(o.ver=o'.ver→o.size=o'.size∧o.len=o'.len)∧(o.JY=true→o'=o)∧(o.kind=0→o'.len=o.len)∧o'.rec? = o.rec?
theorem OLe.refl (o:AA):OLe o o:=⟨rfl,le_refl _,fun _=>⟨rfl,rfl⟩,fun _=>rfl,fun _=>rfl,rfl⟩
theorem OLe.trans {a b c:AA} (h:OLe a b) (k:OLe b c):OLe a c:=by
 refine ⟨h.1.trans k.1,le_trans h.2.1 k.2.1,fun e => ?_,fun e => ?_,fun e=>(k.2.2.2.2.1 (h.1 ▸ e)).trans (h.2.2.2.2.1 e),k.2.2.2.2.2.trans h.2.2.2.2.2⟩
 ·have h1:=h.2.1;have k1:=k.2.1;have x:=h.2.2.1 (by omega);have y:=k.2.2.1 (by omega);exact ⟨x.1.trans y.1,x.2.trans y.2⟩
 ·have hb:=h.2.2.2.1 e;rw [hb] at k;exact k.2.2.2.1 e
structure Ext (κ:Ay) (h:Heap) (w:World) (κ':Ay) (h':Heap) (w':World):Prop where
 os:w'.os=w.os
 tape:w'.tape=w.tape
 output:w'.output=w.output
 size:w.heap.size≤w'.heap.size
 keep:∀b,b<w.heap.size→¬Ex κ h b→w'.heap[b]? = w.heap[b]?
 ex:∀b,Ex κ' h' b→Ex κ h b∨w.heap.size≤b
 obj:∀(i:Nat) (o:AA),h[i]? = some o→∃o':AA,h'[i]? = some o'∧OLe o o'
 kap:∀(i:Nat) (o o':AA),h[i]? = some o→h'[i]? = some o'→o.ver=o'.ver→κ'[i]? = κ[i]?
 cells:∀(i:Nat) (o o':AA),h[i]? = some o→h'[i]? = some o'→o.ver=o'.ver→∀(b base:Nat),κ[i]? = some (some (b,base))→
  ∀cells elem fr,w'.heap[b]? = some (.cells cells elem fr)→∃cells',w.heap[b]? = some (.cells cells' elem fr)∧cells'.size=cells.size
theorem Ext.refl (κ:Ay) (h:Heap) (w:World):Ext κ h w κ h w:=
 ⟨rfl,rfl,rfl,le_refl _,fun _ _ _=>rfl,fun _ h =>.inl h,fun _ o ho=>⟨o,ho,.refl o⟩,fun _ _ _ _ _ _=>rfl,fun _ _ _ _ _ _ _ _ _ cells _ _ hc=>⟨cells,hc,rfl⟩⟩
theorem Ext.trans {κ κ₁ κ₂:Ay} {h h₁ h₂:Heap} {w w₁ w₂:World} (x:Ext κ h w κ₁ h₁ w₁) (y:Ext κ₁ h₁ w₁ κ₂ h₂ w₂):Ext κ h w κ₂ h₂ w₂ where
 os:=y.os.trans x.os
 tape:=y.tape.trans x.tape
 output:=y.output.trans x.output
 size:=le_trans x.size y.size
 keep:=fun b hb hn=>by
  refine (y.keep b (lt_of_lt_of_le hb x.size) fun he => ?_).trans (x.keep b hb hn);rcases x.ex b he with h|h
  ·exact hn h
  ·omega
 ex:=fun b hb=>by
  rcases y.ex b hb with h|h
  ·exact x.ex b h
  ·exact .inr (le_trans x.size h)
 obj:=fun i o ho=>by obtain ⟨o1,h1,l1⟩:=x.obj i o ho;obtain ⟨o2,h2,l2⟩:=y.obj i o1 h1;exact ⟨o2,h2,l1.trans l2⟩
 kap:=fun i o o2 ho ho2 he=>by
  obtain ⟨o1,h1,l1⟩:=x.obj i o ho;obtain ⟨o2',h2,l2⟩:=y.obj i o1 h1;obtain rfl:o2'=o2:=by rw [h2] at ho2;exact Option.some.inj ho2
  have a1:=l1.2.1;have a2:=l2.2.1;exact (y.kap i o1 o2' h1 h2 (by omega)).trans (x.kap i o o1 ho h1 (by omega))
 cells:=fun i o o2 ho ho2 he b base hb cells elem fr hc=>by
  obtain ⟨o1,h1,l1⟩:=x.obj i o ho;obtain ⟨o2',h2,l2⟩:=y.obj i o1 h1;obtain rfl:o2'=o2:=by rw [h2] at ho2;exact Option.some.inj ho2
  have a1:=l1.2.1;have a2:=l2.2.1;have k1:=x.kap i o o1 ho h1 (by omega);obtain ⟨c1,hc1,s1⟩:=y.cells i o1 o2' h1 h2 (by omega) b base (k1.trans hb) cells elem fr hc;obtain ⟨c0,hc0,s0⟩:=x.cells i o o1 ho h1 (by omega) b base hb c1 elem fr hc1;exact ⟨c0,hc0,s0.trans s1⟩
theorem SY {κ κ':Ay} {h h':Heap} {w w':World} (x:Ext κ h w κ' h' w') {b o:Nat} (hb:b<w.heap.size) (hn:¬Ex κ h b):w'.cell? ⟨b,o,none⟩=w.cell? ⟨b,o,none⟩:=
 IU (x.keep b hb hn)
theorem BR.ext {B:Nat→Prop} {κ κ':Ay} {h h':Heap} {w w':World} (x:Ext κ h w κ' h' w') {t:Tree} {v:Value} (ht:BR w (fun b=>B b∨Ex κ h b) t v):BR w' (fun b=>B b∨Ex κ' h' b) t v:=
 ht.mono x.size (fun b hb hn=>x.keep b hb fun he=>hn (.inr he)) fun b hb=>by
  rcases hb with hb|hb
  ·exact .inl (.inl hb)
  ·rcases x.ex b hb with h|h
   ·exact .inl (.inr h)
   ·exact .inr h
def LY (z n:Nat) (fr:Nat×Nat):Prop:=fr=(0,0)∨z=1∧n≤fr.1
def Fb (B:Nat→Prop) (κ:Ay) (h:Heap) (w:World):Option (Nat×Nat)→AA→Prop
 |some (b,base),.box cs=>base=0∧∃cells elem,w.heap[b]? = some (.cells cells elem (0,0))∧cells.size=cs.length∧∀j x,cs[j]? = some x→AR B κ h w x (cells.getD j undef)
 |some (b,base),.row _ _ size es=>size≠0∧∃cells elem fr,w.heap[b]? = some (.cells cells elem fr)∧LY size cells.size fr∧base+es.length*size≤cells.size∧(∀(j:Nat) (e:List Tree),es[j]? = some e→e.length=size)∧
   ∀(j:Nat) (e:List Tree) (c:Nat) (x:Tree),es[j]? = some e→e[c]? = some x→BR w (fun b=>B b∨Ex κ h b) x (cells.getD (base+(j*size+c)) undef)
 |none,.row _ _ _ es=>es=[]
 |some (b,d),.loop l=>∃(f:FuncId) (tmps:Array Value),w.heap[b]? = some (.loop {state:=if l.ended then .exhausted else if l.busy then .busy else if l.pending.isSome then .done else .ready,pending:=l.pending,fn:=f,tmps,params:=l.params.toArray,assign:=l.assign,body:=l.body,defers:=d})∧
   tmps.size=l.size∧(∀i,AR B κ h w (l.env i) (tmps.getD i undef))∧(∀i,Refs l.hl (l.env i))∧w.heap[d]? = some (.deferred (some []))∧¬Ex κ h d
 |some (b,d),.mapo k ke es=>d=0∧∃(en:Array MapEntry) (clock:Nat),w.heap[b]? = some (.map en clock)∧en.toList.map (fun e=>(e.key,e.val))=es.map fun p=>(.int k p.1,.int ke p.2)
 |_,_=>False
structure Ai (B:Nat→Prop) (κ:Ay) (h:Heap) (w:World):Prop where
 len:κ.length=h.length
 inj:∀(i j b bs bs':Nat),κ[i]? = some (some (b,bs))→κ[j]? = some (some (b,bs'))→i=j
 notB:∀(i b bs:Nat),κ[i]? = some (some (b,bs))→¬B b
 lt:∀(i b bs:Nat),κ[i]? = some (some (b,bs))→b<w.heap.size
 ltB:∀b,B b→b<w.heap.size
 obj:∀(i:Nat) (o:AA) (k:Option (Nat×Nat)),h[i]? = some o→κ[i]? = some k→Fb B κ h w k o
theorem AR.ext {B:Nat→Prop} {κ κ':Ay} {h h':Heap} {w w':World} (x:Ext κ h w κ' h' w') {a:AV} {v:Value} (ha:AR B κ h w a v):AR B κ' h' w' a v:=by
 induction ha with
 |undef v=>exact .undef v
 |t y v hy=>exact .t y v (hy.ext x)
 |nilsl a=>exact .nilsl a
 |ptr i off b base hk hb=>
  obtain ⟨cs,hcs⟩:=hb;obtain ⟨o',ho',hl⟩:=x.obj i _ hcs;have hkind:=hl.1;cases o' with
  |box cs'=>exact .ptr i off b base ((x.kap i _ _ hcs ho' rfl).trans hk) ⟨cs',ho'⟩
  |row a b c d=>simp [AA.kind] at hkind
  |loop l=>simp [AA.kind] at hkind
  |mapo a b c=>simp [AA.kind] at hkind
 |bsl i off len size cap b hk hb hlc=>
  obtain ⟨cs,hcs,hcl⟩:=hb;obtain ⟨o',ho',hl⟩:=x.obj i _ hcs;have hkind:=hl.1;cases o' with
  |box cs'=>
   have hlen:=hl.2.2.2.2.1 rfl;simp only [AA.len] at hlen;exact .bsl i off len size cap b ((x.kap i _ _ hcs ho' rfl).trans hk) ⟨cs',ho',by omega⟩ hlc
  |row a b c d=>simp [AA.kind] at hkind
  |loop l=>simp [AA.kind] at hkind
  |mapo a b c=>simp [AA.kind] at hkind
 |rptr i ver k off v h1 hex hv=>
  obtain ⟨o,ho,hver⟩:=hex;obtain ⟨o',ho',hl⟩:=x.obj i o ho;refine .rptr i ver k off v h1 ⟨o',ho',le_trans hver hl.2.1⟩ fun o2 ho2 he => ?_;obtain rfl:o'=o2:=by rw [ho'] at ho2;exact Option.some.inj ho2
  have h1:=hl.2.1;have hvv:o.ver=o'.ver:=by omega
  obtain ⟨b,base,e0,e1,e2,e3⟩:=hv o ho (by omega);obtain ⟨s1,s2⟩:=hl.2.2.1 hvv;exact ⟨b,base,(x.kap i o o' ho ho' hvv).trans e0,by rw [e1,s1],hl.1 ▸ e2,by omega⟩
 |eptr size cells off b base u hsz hb hn hc ht=>
  refine .eptr size cells off b base u hsz (lt_of_lt_of_le hb x.size) (fun hh => ?_) (fun c y hy => ?_) fun c y hy=>(ht c y hy).ext x
  ·rcases hh with hh|hh
   ·exact hn (.inl hh)
   ·rcases x.ex b hh with hh|hh
    ·exact hn (.inr hh)
    ·omega
  ·rw [SY x hb fun he=>hn (.inr he)];exact hc c y hy
 |sref i ver off len v h1 hex hv=>
  obtain ⟨o,ho,hver⟩:=hex;obtain ⟨o',ho',hl⟩:=x.obj i o ho;refine .sref i ver off len v h1 ⟨o',ho',le_trans hver hl.2.1⟩ fun k o2 hb ho2 he => ?_;obtain rfl:o'=o2:=by rw [ho'] at ho2;exact Option.some.inj ho2
  have h1:=hl.2.1;have hvv:o.ver=o'.ver:=by omega
  have hk:=(x.kap i o o' ho ho' hvv).symm.trans hb;obtain ⟨e2,e4,e1⟩:=hv k o hk ho (by omega);obtain ⟨s1,s2⟩:=hl.2.2.1 hvv;refine ⟨hl.1 ▸ e2,by omega,?_⟩;rcases e1 with ⟨z1,z2,z3⟩|⟨b,base,rfl,cap,e1,e5,e6⟩
  ·exact .inl ⟨z1,by omega,z3⟩
  ·refine .inr ⟨b,base,rfl,cap,by rw [e1,s1],by omega,fun cells elem fr hc => ?_⟩;obtain ⟨c0,hc0,hs⟩:=x.cells i o o' ho ho' hvv b base hk cells elem fr hc;rw [← hs,← s1];exact e6 c0 elem fr hc0
 |yld i b base hk hb=>
  obtain ⟨l,hl⟩:=hb;obtain ⟨o',ho',hle⟩:=x.obj i _ hl;have hkind:=hle.1;cases o' with
  |loop l'=>exact .yld i b base ((x.kap i _ _ hl ho' rfl).trans hk) ⟨l',ho'⟩
  |row a b c d=>simp [AA.kind] at hkind
  |box l=>simp [AA.kind] at hkind
  |mapo a b c=>simp [AA.kind] at hkind
 |mref i b hk hb=>
  obtain ⟨k,ke,es,hes⟩:=hb;obtain ⟨o',ho',hl⟩:=x.obj i _ hes;have hkind:=hl.1;cases o' with
  |mapo k' ke' es'=>exact .mref i b ((x.kap i _ _ hes ho' rfl).trans hk) ⟨k',ke',es',ho'⟩
  |box cs=>simp [AA.kind] at hkind
  |row a b c d=>simp [AA.kind] at hkind
  |loop l=>simp [AA.kind] at hkind
 |func fn first captured fs cs h1 h2 _ _ i1 i2=>exact .func fn first captured fs cs h1 h2 i1 i2
 |agg xs vs h1 _ ih=>exact .agg xs vs h1 ih
 |tuple xs vs h1 _ ih=>exact .tuple xs vs h1 ih
theorem Fb.ext {B:Nat→Prop} {κ κ':Ay} {h h':Heap} {w w':World} (x:Ext κ h w κ' h' w') {k:Option (Nat×Nat)} {o:AA} (hk:∀b base,k=some (b,base)→w'.heap[b]? = w.heap[b]?)
  (ho:Fb B κ h w k o):Fb B κ' h' w' k o:=by
 cases k with
 |none=>
  cases o with
  |row f v s es=>exact ho
  |box cs=>exact ho.elim
  |loop l=>exact ho.elim
  |mapo k ke es=>exact ho.elim
 |some p=>
  obtain ⟨b,base⟩:=p;have hb:=hk b base rfl;cases o with
  |box cs=>
   obtain ⟨h0,cells,elem,hc,hs,hv⟩:=ho;exact ⟨h0,cells,elem,hb.trans hc,hs,fun j y hy=>(hv j y hy).ext x⟩
  |row f v s es=>
   obtain ⟨hz,cells,elem,fr,hc,hth,hs,hl,hv⟩:=ho;exact ⟨hz,cells,elem,fr,hb.trans hc,hth,hs,hl,fun j e c y he hy=>(hv j e c y he hy).ext x⟩
  |loop l=>
   obtain ⟨f,tmps,hc,hs,hv,hrf,hd,hn⟩:=ho;have hdlt:base<w.heap.size:=by
    rcases lt_or_ge base w.heap.size with y|y
    ·exact y
    ·rw [Array.getElem?_eq_none y] at hd;cases hd
   refine ⟨f,tmps,hb.trans hc,hs,fun i=>(hv i).ext x,hrf,(x.keep base hdlt hn).trans hd,fun he => ?_⟩;rcases x.ex base he with y|y
   ·exact hn y
   ·omega
  |mapo k ke es=>
   obtain ⟨h0,en,clock,hc,hs⟩:=ho;exact ⟨h0,en,clock,hb.trans hc,hs⟩
theorem AU {α:Type} {l:List α} {i:Nat} {x:α} (h:l[i]? = some x):i<l.length:=(List.getElem?_eq_some_iff.1 h).1
theorem AR.refs {B:Nat→Prop} {κ:Ay} {h:Heap} {w:World} {x:AV} {v:Value} (hv:AR B κ h w x v):Refs h.length x:=by
 induction hv with
 |undef v=>exact .undef
 |t y v _=>exact .t y
 |nilsl a=>exact .nilsl
 |ptr i off b base hk hb=>obtain ⟨cs,hcs⟩:=hb;exact .ptr _ _ (AU hcs)
 |rptr i ver k off v _ hex _=>obtain ⟨o,ho,_⟩:=hex;exact .rptr _ _ _ _ (AU ho)
 |eptr size cells off b base u _ _ _ _ _=>exact .eptr _ _ _
 |sref i ver off len v _ hex _=>obtain ⟨o,ho,_⟩:=hex;exact .sref _ _ _ _ (AU ho)
 |bsl i off len size cap b _ hb _=>obtain ⟨cs,hcs,_⟩:=hb;exact .bsl _ _ _ _ (AU hcs)
 |yld i b base _ hb=>obtain ⟨l,hl⟩:=hb;exact .yld _ (AU hl)
 |mref i b _ hb=>obtain ⟨k,ke,es,hl⟩:=hb;exact .mref _ (AU hl)
 |func fn first captured fs cs _ _ _ _ i1 i2=>exact .func _ _ _ i1 i2
 |agg xs vs _ _ ih=>exact .agg _ ih
 |tuple xs vs _ _ ih=>exact .tuple _ ih
end Ab
namespace Ab
open Go
variable {R:Type}
def cnd (c:Prop) [Decidable c] (a b:Option R):Option R:=
 match decide c with
 |true=>a
 |false=>b
theorem AI (c:Prop) [Decidable c] (a b:Option R):cnd c a b=if c then a else b:=by unfold cnd;by_cases h:c<;>simp [h]
class Dq (α:Type) where
 d:DecidableEq α
def both [Dq R] (a b:Option R):Option R:=@ite _ (a=b) (@Option.instDecidableEq _ Dq.d a b) a none
theorem Gl [Dq R] {a b:Option R} {r:R} (h:both a b=some r):a=some r∧b=some r:=by
 unfold both at h;split at h
 ·rename_i he;exact ⟨h,he ▸ h⟩
 ·cases h
theorem I7 [Dq R] (a:Option R):both a a=a:=by unfold both;rw [if_pos rfl]
def EN:Value→AV
 | .int k n =>.t (.int k n)
 | .bool b =>.t (.bool b)
 | .string s =>.t (.str s)
 | .slice none 0 0 =>.nilsl
 | .pointer none =>.t (.const (.pointer none))
 | .map none =>.t (.const (.map none))
 | .nilFunc =>.t (.const .nilFunc)
 | .nilIface =>.t (.const .nilIface)
 | .func (.func f) ⟨[]⟩ ⟨[]⟩=>.func (.func f) [] []
 |_ =>.undef
def ofConst:Value→AV
 | .agg ⟨cs⟩=>.agg (cs.map EN)
 |v=>EN v
def ev (env:Env):Operand→AV
 | .tmp t=>env t
 | .const v=>ofConst v
 | .global _ =>.undef
 | .func f =>.func (.func f) [] []
def BV (P:Program) (t:TypeId):Option Nat:=(P.info? t).map (·.size)
def Ax (P:Program) (t:TypeId):Option Bool:=
 match P.underlying t with
 |some (.struct _)|some (.array _ _)=>some true
 |some _=>some false
 |none=>none
def EC (P:Program) (t:TypeId):Option Nat:=
 match P.underlying t with
 |some (.slice e)=>BV P e
 |_=>none
def GI (P:Program) (t:TypeId) (f:Nat):Option Nat:=
 match P.underlying t with
 |some (.struct fs)=>match fs[f]? with
  |some fd=>match BV P fd.type with
   |some (_+1)=>some fd.offset
   |_=>none
  |none=>none
 |_=>none
def Ba (P:Program):Nat→TypeId→List TypeId
 |0,t=>[t]
 |d+1,t=>
  match P.underlying t with
  |some (.struct fs)=>(fs.toList.map fun f=>Ba P d f.type).flatten
  |some (.array n e)=>(replicate n (Ba P d e)).flatten
  |_=>[t]
def DW (k:IntKind):AV→Option Int
 | .t (.int k' n)=>if k'=k then some n else none
 |_=>none
def asInt:AV→Option Int
 | .t (.int _ n)=>some n
 |_=>none
def asBool:AV→Option Bool
 | .t (.bool b)=>some b
 |_=>none
def G5:AV→Option ByteArray
 | .t (.str s)=>some s
 |_=>none
def AV.leaf:AV→Bool
 | .undef | .agg _ | .tuple _=>false
 |_=>true
def AV.cells:AV→Option (List AV)
 | .agg cs=>some cs
 | .undef | .tuple _=>none
 |x=>some [x]
def A1 (get:Nat→AV) (off n:Nat):List AV:=(List.range n).map fun c=>get (off+c)
def rd (P:Program) (t:TypeId) (total:Nat) (get:Nat→AV) (off:Nat) (K:AV→Option R):Option R:=
 match Ax P t,BV P t with
 |some true,some n=>cnd (off+n≤total) (K (.agg (A1 get off n))) none
 |some false,_=>cnd (off<total) (K (get off)) none
 |_,_=>none
def G6 (P:Program) (t:TypeId) (h:Heap) (a:AV) (K:AV→Option R):Option R:=
 match a with
 | .ptr i off=>
  match h[i]? with
  |some (.box cs)=>rd P t cs.length (fun c=>cs.getD c .undef) off K
  |_=>none
 | .rptr i ver k off=>
  match h[i]? with
  |some (.row _ ver' size es)=>cnd (ver'=ver) ((es[k]?).bind fun e=>rd P t size (fun c =>.t (e.getD c default)) off K) none
  |_=>none
 | .eptr size cells off=>rd P t size (fun c =>.t (cells.getD c default)) off K
 |_=>none
def Ez (k:IntKind):Tree→Bool
 | .int k' _=>decide (k'=k)
 |_=>false
def intOf:Tree→Int
 | .int _ n=>n
 |_=>0
def Dy:Tree→Bool
 | .bool _=>true
 |_=>false
def Cf:Tree→Bool
 | .bool b=>b
 |_=>false
def Ey:Tree→Bool
 | .str _=>true
 |_=>false
def strOf:Tree→ByteArray
 | .str s=>s
 |_=>default
def Em (s:Nat):Tree→Bool
 | .sl s' _=>decide (s'=s)
 |_=>false
def E4:Tree→List (List Tree)
 | .sl _ es=>es
 |_=>[]
def Rv (P:Program) (t:TypeId) (x:Tree) (K:Tree→Option R):Option R:=
 match P.underlying t with
 |some (.int k)=>cnd (Ez k x=true) (K (.int k (intOf x))) none
 |some .bool=>cnd (Dy x=true) (K (.bool (Cf x))) none
 |some .string=>cnd (Ey x=true) (K (.str (strOf x))) none
 |some (.slice e)=>match BV P e with
  |some s=>cnd (Em s x=true) (K (.sl s (E4 x))) none
  |none=>none
 |_=>K x
def DT (P:Program):List TypeId→List AV→(List AV→Option R)→Option R
 |[],cs,K=>K cs
 |_::_,[],K=>K []
 |t::ts,c::cs,K=>match c with
  | .t x=>Rv P t x fun y=>DT P ts cs fun r=>K (.t y::r)
  |c=>DT P ts cs fun r=>K (c::r)
def Mr (P:Program) (t:TypeId) (v:AV) (K:AV→Option R):Option R:=
 match v with
 | .t x=>Rv P t x fun y=>K (.t y)
 | .agg cs=>DT P (Ba P 16 t) cs fun r=>K (.agg r)
 |v=>K v
def Pj (P:Program) (f:Nat→Tree):List TypeId→Nat→(List Tree→Option R)→Option R
 |[],_,K=>K []
 |t::ts,i,K=>Rv P t (f i) fun y=>Pj P f ts (i+1) fun r=>K (y::r)
def Ht (P:Program) (ts:List TypeId) (ys:List Tree) (K:List Tree→Option R):Option R:=
 cnd (ys.length=ts.length) (Pj P (fun i=>ys.getD i default) ts 0 K) none
theorem MD {k:IntKind} {x:Tree} (h:Ez k x=true):x = .int k (intOf x):=by cases x<;>simp_all [Ez,intOf]
theorem Ko {x:Tree} (h:Dy x=true):x = .bool (Cf x):=by cases x<;>simp_all [Dy,Cf]
theorem MC {x:Tree} (h:Ey x=true):x = .str (strOf x):=by cases x<;>simp_all [Ey,strOf]
theorem OV {s:Nat} {x:Tree} (h:Em s x=true):x = .sl s (E4 x):=by cases x<;>simp_all [Em,E4]
theorem FO (P:Program) (t:TypeId) (x:Tree):(∀(R:Type) (K:Tree→Option R),Rv P t x K=K x)∨∀(R:Type) (K:Tree→Option R),Rv P t x K=none:=by
 unfold Rv
 try simp only [AI]
 cases P.underlying t with
 |none=>exact .inl fun _ _=>rfl
 |some u=>
  cases u with
  |int k=>
   by_cases h:Ez k x=true
   ·exact .inl fun R K=>by dsimp only;rw [if_pos h,← MD h]
   ·exact .inr fun R K=>by dsimp only;rw [if_neg h]
  |bool=>
   by_cases h:Dy x=true
   ·exact .inl fun R K=>by dsimp only;rw [if_pos h,← Ko h]
   ·exact .inr fun R K=>by dsimp only;rw [if_neg h]
  |string=>
   by_cases h:Ey x=true
   ·exact .inl fun R K=>by dsimp only;rw [if_pos h,← MC h]
   ·exact .inr fun R K=>by dsimp only;rw [if_neg h]
  |slice e=>
   dsimp only;cases BV P e with
   |none=>exact .inr fun _ _=>rfl
   |some s=>
    by_cases h:Em s x=true
    ·exact .inl fun R K=>by dsimp only;rw [if_pos h,← OV h]
    ·exact .inr fun R K=>by dsimp only;rw [if_neg h]
  |_=>exact .inl fun _ _=>rfl
theorem Fz (P:Program):∀(ts:List TypeId) (cs:List AV),(∀(R:Type) (K:List AV→Option R),DT P ts cs K=K cs)∨∀(R:Type) (K:List AV→Option R),DT P ts cs K=none
 |[],cs =>.inl fun _ _=>rfl
 |_::_,[]=>.inl fun _ _=>rfl
 |t::ts,c::cs=>by
  rcases Fz P ts cs with h|h
  ·cases c with
   |t x=>
    simp only [DT];rcases FO P t x with h1|h1
    ·exact .inl fun R K=>by rw [h1,h]
    ·exact .inr fun R K=>by rw [h1]
   |_=>exact .inl fun R K=>by simp only [DT];rw [h]
  ·cases c with
   |t x=>
    simp only [DT];rcases FO P t x with h1|h1
    ·exact .inr fun R K=>by rw [h1,h]
    ·exact .inr fun R K=>by rw [h1]
   |_=>exact .inr fun R K=>by simp only [DT];rw [h]
theorem KJ (P:Program) (t:TypeId) (v:AV):(∀(R:Type) (K:AV→Option R),Mr P t v K=K v)∨∀(R:Type) (K:AV→Option R),Mr P t v K=none:=by
 cases v with
 |t x=>
  rcases FO P t x with h|h
  ·exact .inl fun R K=>by simp only [Mr];rw [h]
  ·exact .inr fun R K=>by simp only [Mr];rw [h]
 |agg cs=>
  rcases Fz P (Ba P 16 t) cs with h|h
  ·exact .inl fun R K=>by simp only [Mr];rw [h]
  ·exact .inr fun R K=>by simp only [Mr];rw [h]
 |_=>exact .inl fun _ _=>rfl
theorem KK (P:Program) (f:Nat→Tree):∀(ts:List TypeId) (i:Nat),(∀(R:Type) (K:List Tree→Option R),Pj P f ts i K=K ((List.range' i ts.length).map f))∨∀(R:Type) (K:List Tree→Option R),Pj P f ts i K=none
 |[],i =>.inl fun _ _=>rfl
 |t::ts,i=>by
  rcases FO P t (f i) with h|h
  ·rcases KK P f ts (i+1) with h1|h1
   ·exact .inl fun R K=>by simp only [Pj];rw [h,h1];rfl
   ·exact .inr fun R K=>by simp only [Pj];rw [h,h1]
  ·exact .inr fun R K=>by simp only [Pj];rw [h]
theorem JS (P:Program) (ts:List TypeId) (ys:List Tree):(∀(R:Type) (K:List Tree→Option R),Ht P ts ys K=K ys)∨∀(R:Type) (K:List Tree→Option R),Ht P ts ys K=none:=by
 unfold Ht
 try simp only [AI]
 by_cases hl:ys.length=ts.length
 ·simp only [if_pos hl];rcases KK P (fun i=>ys.getD i default) ts 0 with h|h
  ·refine .inl fun R K => ?_;rw [h];congr 1;apply ext_getElem?;intro i;rcases lt_or_ge i ys.length with hi|hi
   ·simp [← hl,hi]
   ·simp [← hl,not_lt.2 hi]
  ·exact .inr h
 ·exact .inr fun _ _=>if_neg hl
theorem retV_ok {P:Program} {t:TypeId} {v:AV} {K:AV→Option R} {r:R} (h:Mr P t v K=some r):K v=some r:=by
 rcases KJ P t v with h1|h1
 ·rw [h1] at h;exact h
 ·rw [h1] at h;cases h
theorem Hr {P:Program} {ts:List TypeId} {ys:List Tree} {K:List Tree→Option R} {r:R} (h:Ht P ts ys K=some r):K ys=some r:=by
 rcases JS P ts ys with h1|h1
 ·rw [h1] at h;exact h
 ·rw [h1] at h;cases h
def conv (P:Program) (fz:Bool) (h:Heap) (ty:TypeId) (v:AV) (K:Tree→Option R):Option R:=
 match v with
 | .t x=>K x
 | .nilsl=>(EC P ty).bind fun s=>K (.sl s [])
 | .sref i ver off len=>
  match h[i]? with
  |some (.row f ver' size es)=>(EC P ty).bind fun s=>cnd ((f=true∨fz=false)∧ver'=ver∧(size=s∨size=0)) (K (.sl s ((es.drop off).take len))) none
  |_=>none
 | .func fn [] []=>K (.const (.func fn #[] #[]))
 |_=>none
def DA (P:Program) (fz:Bool) (h:Heap):List TypeId→List AV→(List Tree→Option R)→Option R
 |[],[],K=>K []
 |t::ts,v::vs,K=>conv P fz h t v fun x=>DA P fz h ts vs fun xs=>K (x::xs)
 |_,_,_=>none
def setAt (cs:List AV) (off:Nat) (vs:List AV):List AV:=cs.take off++(vs++cs.drop (off+vs.length))
def Cp (P:Program):List TypeId→List AV→Heap→(List AV→Heap→Option R)→Option R
 |_,[],h,K=>K [] h
 |ts,.nilsl::vs,h,K=>Cp P ts.tail vs (h++[.row false 0 ((EC P (ts.headD 0)).getD 0) []]) fun vs' h'=>K (.sref h.length 0 0 0::vs') h'
 |ts,v::vs,h,K=>Cp P ts.tail vs h fun vs' h'=>K (v::vs') h'
def Fi (P:Program) (tf:TypeId→Bool):List TypeId→List AV→List AV
 |_,[]=>[]
 |ts,v::vs=>(match v with
  | .nilsl=>if tf (ts.headD 0) then .t (.sl ((EC P (ts.headD 0)).getD 0) []) else .nilsl
  |v=>v)::Fi P tf ts.tail vs
def nilV (P:Program) (tf:TypeId→Bool) (t:TypeId) (v:AV):AV:=
 match v with
 | .agg cs =>.agg (Fi P tf (Ba P 16 t) cs)
 | .nilsl=>if tf t then .t (.sl ((EC P t).getD 0) []) else .nilsl
 |v=>v
def DZ (P:Program) (t:TypeId) (cs:List AV) (h:Heap) (K:AV→Heap→Option R):Option R:=
 Cp P (Ba P 16 t) cs h fun cs' h'=>K (.ptr h'.length 0) (h'++[.box cs'])
def Ce (h:Heap):List AV→List AV→(List AV→Option R)→Option R
 |_,[],K=>K []
 |[],vs,K=>K vs
 |o::os,v::vs,K=>match o,v with
  | .sref i ver _ _,.nilsl=>match h[i]? with
   |some (.row _ ver' _ es)=>cnd (ver'=ver) (Ce h os vs fun vs'=>K (.sref i ver es.length 0::vs')) none
   |_=>Ce h os vs fun vs'=>K (.nilsl::vs')
  |_,v=>Ce h os vs fun vs'=>K (v::vs')
def Ed (P:Program) (t:TypeId) (h:Heap) (a v:AV) (K:Heap→Option R):Option R:=
 match v.cells,BV P t with
 |some vs,some n=>
  cnd (vs.length=n∧vs.all AV.leaf=true) (match a with
   | .ptr i off=>
    match h[i]? with
    |some (.box cs)=>cnd (off+n≤cs.length) (Ce h (cs.drop off) vs fun vs=>Cp P (Ba P 16 t) vs h fun vs' h'=>K (h'.set i (.box (setAt cs off vs')))) none
    |_=>none
   | .rptr i ver k off=>
    match h[i]? with
    |some (.row false ver' size es)=>
     cnd (ver'=ver∧off+n≤size) ((es[k]?).bind fun e=>DA P true h (Ba P 16 t) vs fun xs=>K (h.set i (.row false ver size (es.set k (e.take off++(xs++e.drop (off+n))))))) none
    |_=>none
   |_=>none) none
 |_,_=>none
def andK (k:IntKind) (a b:Int):Int:=k.wrap (BitVec.ofInt k.bits a &&& BitVec.ofInt k.bits b).toNat
def orK (k:IntKind) (a b:Int):Int:=k.wrap (BitVec.ofInt k.bits a ||| BitVec.ofInt k.bits b).toNat
def xorK (k:IntKind) (a b:Int):Int:=k.wrap (BitVec.ofInt k.bits a ^^^ BitVec.ofInt k.bits b).toNat
def shlK (k:IntKind) (a b:Int):Int:=k.wrap (a*2 ^ min b.toNat k.bits)
def Jj (k:IntKind) (a b:Int):Int:=a.fdiv (2 ^ min b.toNat k.bits)
def LX (op:BinOp) (k:IntKind) (a b:Int) (K:AV→Option R):Option R:=
 match op with
 | .add=>K (.t (.int k (k.wrap (a+b))))
 | .sub=>K (.t (.int k (k.wrap (a-b))))
 | .mul=>K (.t (.int k (k.wrap (a*b))))
 | .quo=>cnd (b=0) none (K (.t (.int k (k.wrap (a.tdiv b)))))
 | .rem=>cnd (b=0) none (K (.t (.int k (a.tmod b))))
 | .eql=>K (.t (.bool (a==b)))
 | .neq=>K (.t (.bool (a != b)))
 | .lss=>K (.t (.bool (decide (a<b))))
 | .leq=>K (.t (.bool (decide (a≤b))))
 | .gtr=>K (.t (.bool (decide (a>b))))
 | .geq=>K (.t (.bool (decide (a≥b))))
 | .and=>K (.t (.int k (andK k a b)))
 | .or=>K (.t (.int k (orK k a b)))
 | .xor=>K (.t (.int k (xorK k a b)))
 |_=>none
def LI (op:BinOp) (k:IntKind) (a b:Int) (K:AV→Option R):Option R:=
 match op with
 | .shl=>cnd (b<0) none (K (.t (.int k (shlK k a b))))
 | .shr=>cnd (b<0) none (K (.t (.int k (Jj k a b))))
 |_=>none
def RJ:BinOp→Bool
 | .shl | .shr=>true
 |_=>false
def Lp (P:Program):Nat→TypeId→(Nat→AV)→(Nat→AV)→Nat→(Bool→Option R)→Option R
 |0,_,_,_,_,_=>none
 |d+1,t,gx,gy,off,K=>
  match P.underlying t with
  |some (.int k)=>(DW k (gx off)).bind fun a=>(DW k (gy off)).bind fun b=>K (a==b)
  |some .bool=>(asBool (gx off)).bind fun a=>(asBool (gy off)).bind fun b=>K (a==b)
  |some .string=>(G5 (gx off)).bind fun a=>(G5 (gy off)).bind fun b=>K (a==b)
  |some (.struct fs)=>
   match BV P t with
   |some n=>cnd (P.stoodInHeld t=false) (fs.toList.foldr (fun f (K':Bool→Option R) (acc:Bool)=>
     match BV P f.type with
     | some m => cnd (f.name ≠ "_" ∧ f.offset + m ≤ n ∧ (Ax P f.type = some true ∨ Ax P f.type = some false ∧ m = 1)) (Lp P d f.type gx gy (off + f.offset) fun b => K' (acc && b)) none
     |none=>none) K true) none
   |none=>none
  |_=>none
def Ud (P:Program) (op:BinOp) (t:TypeId) (x y:AV) (K:AV→Option R):Option R:=
 match P.underlying t with
 |some (.int k)=>if RJ op then (DW k x).bind fun a=>(asInt y).bind fun b=>LI op k a b K
  else (DW k x).bind fun a=>(DW k y).bind fun b=>LX op k a b K
 |some .bool=>(asBool x).bind fun a=>(asBool y).bind fun b=>match op with
  | .eql=>K (.t (.bool (a==b)))
  | .neq=>K (.t (.bool (!(a==b))))
  |_=>none
 |some .string=>(G5 x).bind fun a=>(G5 y).bind fun b=>match op with
  | .eql=>K (.t (.bool (a==b)))
  | .neq=>K (.t (.bool (a != b)))
  | .add=>cnd (a.size+b.size≤9223372036854775807) (K (.t (.str (a++b)))) none
  |_=>none
 |some (.struct _)=>
  match x,y,BV P t with
  | .agg xs,.agg ys,some n=>
   cnd (P.eqGuardType P.depth t=false∧xs.length=n∧ys.length=n) (match op with
    | .eql=>Lp P 16 t (fun i=>xs.getD i .undef) (fun i=>ys.getD i .undef) 0 fun b=>K (.t (.bool b))
    | .neq=>Lp P 16 t (fun i=>xs.getD i .undef) (fun i=>ys.getD i .undef) 0 fun b=>K (.t (.bool (!b)))
    |_=>none) none
  |_,_,_=>none
 |_=>none
def aun (op:UnOp) (x:AV) (K:AV→Option R):Option R:=
 match op with
 | .not=>(asBool x).bind fun b=>K (.t (.bool (!b)))
 | .neg=>match x with
  | .t (.int k n)=>K (.t (.int k (k.wrap (0-n))))
  |_=>none
 |_=>none
def GP (P:Program) (src dst:TypeId) (x:AV) (K:AV→Option R):Option R:=
 match P.underlying src,P.underlying dst with
 |some (.int k0),some (.int k)=>(DW k0 x).bind fun n=>K (.t (.int k (k.wrap n)))
 |some .string,some .string=>(G5 x).bind fun s=>K (.t (.str s))
 |_,_=>none
def IZ (mx:Bool):List AV→(AV→Option R)→Option R
 |[],_=>none
 |x::rest,K=>(DW .i64 x).bind fun a=>go a rest K
where
 go:Int→List AV→(AV→Option R)→Option R
 |a,[],K=>K (.t (.int .i64 a))
 |a,y::rest,K=>(DW .i64 y).bind fun b=>go (if mx then (if b>a then b else a) else (if b<a then b else a)) rest K
def HU (P:Program) (t:TypeId) (h:Heap) (a:AV) (f:Nat) (K:AV→Option R):Option R:=
 (GI P t f).bind fun o=>match a with
  | .ptr i off=>K (.ptr i (off+o))
  | .eptr size cells off=>K (.eptr size cells (off+o))
  | .rptr i ver k off=>(h[i]?).bind fun ob=>cnd (ob.ver=ver) (K (.rptr i ver k (off+o))) none
  |_=>none
def Hz (i:Int):Nat→(Nat→Option R)→Option R
 |0,_=>none
 |n+1,K=>cnd (i=n) (K n) (Hz i n K)
def JC (P:Program) (t:TypeId) (h:Heap) (x ix:AV) (K:AV→Option R):Option R:=
 (asInt ix).bind fun i=>match P.underlying t with
  |some (.slice e)=>(BV P e).bind fun s=>match x with
   | .t (.sl size es)=>cnd (size=s∧0≤i) ((es[i.toNat]?).bind fun c=>K (.eptr size c 0)) none
   | .sref r ver off len=>match h[r]? with
    |some (.row _ ver' size _)=>cnd (ver'=ver∧size=s∧0≤i∧i<len) (K (.rptr r ver (off+i.toNat) 0)) none
    |_=>none
   | .bsl r off len size=>cnd (size=s∧0≤i∧i<len) (if len≤16 then Hz i len fun j=>K (.ptr r (off+j*size)) else K (.ptr r (off+i.toNat*size))) none
   |_=>none
  |some (.array n e)=>(BV P e).bind fun s=>match x with
   | .ptr r off=>cnd (0≤i∧i<n) (if n≤16 then Hz i n fun j=>K (.ptr r (off+j*s)) else K (.ptr r (off+i.toNat*s))) none
   | .eptr size cells off=>cnd (0≤i∧i<n) (K (.eptr size cells (off+i.toNat*s))) none
   | .rptr r ver k off=>(h[r]?).bind fun ob=>cnd (ob.ver=ver∧0≤i∧i<n) (K (.rptr r ver k (off+i.toNat*s))) none
   |_=>none
  |_=>none
def Sg (P:Program) (t:TypeId) (h:Heap) (x:AV) (K:AV→Option R):Option R:=
 match P.underlying t with
 |some (.slice _)=>match x with
  | .t (.sl _ es)=>K (.t (.int .i64 es.length))
  | .nilsl=>K (.t (.int .i64 0))
  | .sref i ver _ len=>match h[i]? with
   |some (.row _ ver' _ _)=>cnd (ver'=ver) (K (.t (.int .i64 len))) none
   |_=>none
  | .bsl _ _ len _=>K (.t (.int .i64 len))
  |_=>none
 |some .string=>(G5 x).bind fun s=>K (.t (.int .i64 s.size))
 |some (.array n _)=>K (.t (.int .i64 n))
 |_=>none
def CG (x:Option AV) (d:Nat) (hi:Nat) (K:Nat→Option R):Option R:=
 match x with
 |none=>K d
 |some v=>(asInt v).bind fun i=>cnd (0≤i∧i≤hi) (K i.toNat) none
def I8 (P:Program) (t:TypeId) (h:Heap) (x:AV) (lo hi mx:Option AV) (K:AV→Option R):Option R:=
 match mx,P.underlying t with
 |none,some .string=>(G5 x).bind fun s=>CG hi s.size s.size fun b=>CG lo 0 b fun a=>K (.t (.str (s.extract a b)))
 |none,some (.slice e)=>(BV P e).bind fun z=>match x with
  | .t (.sl size es)=>cnd (size=z) (CG hi es.length es.length fun b=>CG lo 0 b fun a=>K (.t (.sl size ((es.take b).drop a)))) none
  | .nilsl=>CG hi 0 0 fun b=>CG lo 0 b fun _=>K .nilsl
  | .sref i ver off len=>match h[i]? with
   |some (.row _ ver' size es)=>cnd (ver'=ver∧(size=z∨size=0)) (CG hi len (es.length-off) fun b=>CG lo 0 b fun a=>K (.sref i ver (off+a) (b-a))) none
   |_=>none
  |_=>none
 |some m,some (.slice e)=>(BV P e).bind fun z=>match x,hi with
  | .t (.sl size es),some b=>cnd (size=z) (CG (some m) 0 es.length fun m=>CG (some b) 0 m fun b=>CG lo 0 b fun _=>K .undef) none
  | .nilsl,some b=>CG (some m) 0 0 fun m=>CG (some b) 0 m fun b=>CG lo 0 b fun _=>K .undef
  | .sref i ver off _,some b=>match h[i]? with
   |some (.row _ ver' _ es)=>cnd (ver'=ver) (CG (some m) 0 (es.length-off) fun m=>CG (some b) 0 m fun b=>CG lo 0 b fun _=>K .undef) none
   |_=>none
  |_,_=>none
 |_,_=>none
def zeroCells? (P:Program) (t:TypeId):Option (List AV):=
 match (P.info? t).bind (·.zero) with
 |some v=>(ofConst v).cells
 |none=>none
def Bh (place:Nat→Option (Nat×Nat)) (cs:List AV):List (Nat×AV)→Option (List AV)
 |[]=>some cs
 |(i,v)::rest=>
  match place i,v.cells with
  |some (off,size),some vs=>if vs.length=size∧off+size≤cs.length then Bh place (setAt cs off vs) rest else none
  |_,_=>none
def LW (P:Program) (t:TypeId) (parts:List (Nat×AV)) (K:AV→Option R):Option R:=
 match P.underlying t with
 |some (.struct fs)=>
  match fs.toList.mapM (fun f=>(P.info? f.type).map fun i=>(f.offset,i.size)) with
  |some places=>(zeroCells? P t).bind fun z=>(Bh (fun i=>places[i]?) z parts).bind fun cs=>K (.agg cs)
  |none=>none
 |some (.array _ e)=>(BV P e).bind fun s=>(zeroCells? P t).bind fun z=>(Bh (fun i=>some (i*s,s)) z parts).bind fun cs=>K (.agg cs)
 |_=>none
def chunk (s:Nat):Nat→List Tree→List (List Tree)
 |0,_=>[]
 |n+1,xs=>xs.take s::chunk s n (xs.drop s)
def bslV (s len:Nat) (xs:List Tree):AV:=if len=0 then .nilsl else .t (.sl s (chunk s len xs))
def DN (P:Program) (t:TypeId) (h:Heap) (len:Nat) (parts:List (Nat×AV)) (K:AV→Option R):Option R:=
 match P.underlying t with
 |some (.slice e)=>(BV P e).bind fun s=>(zeroCells? P e).bind fun z=>
  cnd (z.length=s∧s≠0∧len*s≤16777216) ((Bh (fun i=>some (i*s,s)) (replicate len z).flatten parts).bind fun cs=>
    DA P true h (replicate len (Ba P 16 e)).flatten cs fun xs=>K (bslV s len xs)) none
 |_=>none
def Dt (P:Program) (t:TypeId) (h:Heap) (len:Nat) (parts:List (Nat×AV)) (K:AV→Heap→Option R):Option R:=
 match P.underlying t with
 |some (.slice e)=>(BV P e).bind fun s=>(zeroCells? P e).bind fun z=>
  cnd (z.length=s∧s≠0∧len≠0∧len*s≤16777216) ((Bh (fun i=>some (i*s,s)) (replicate len z).flatten parts).bind fun cs=>
    K (.bsl h.length 0 len s) (h++[.box cs])) none
 |_=>none
def elems (h:Heap) (z:Nat) (x:AV) (K:List (List Tree)→Option R):Option R:=
 match x with
 | .t (.sl size es)=>cnd (size=z) (K es) none
 | .nilsl=>K []
 | .sref i ver off len=>
  match h[i]? with
  |some (.row _ ver' size es)=>cnd (ver'=ver∧(size=z∨size=0)) (K ((es.drop off).take len)) none
  |_=>none
 |_=>none
def LL (P:Program) (t:TypeId):Option Nat:=
 match P.underlying t with
 |some (.slice e)=>match P.info? e with
  |some i=>match i.zero with
   |some z=>if i.size≠0∧z.cells.size=i.size∧i.bytes≤65536 then some i.size else none
   |none=>none
  |none=>none
 |_=>none
def Co (s:ByteArray):List (List Tree):=s.data.toList.map fun b=>[.int .u8 (b.toNat:Int)]
def Gv (h:Heap) (z:Nat) (x:AV) (K:List (List Tree)→Option R):Option R:=
 match x with
 | .t (.str s)=>cnd (z=1) (K (Co s)) none
 |x=>elems h z x K
def GM (P:Program) (t t':TypeId):Bool:=t'==t||match P.underlying t' with
 |some .string=>true
 |_=>false
def Li (P:Program) (src dst:TypeId):Bool:=
 match P.underlying src,P.underlying dst with
 |some .string,some (.slice e)=>(match P.underlying e with
  |some (.int .u8)=>true
  |_=>false)
 |_,_=>false
def I9 (h:Heap) (x:AV) (K:AV→Heap→Option R):Option R:=
 (G5 x).bind fun s=>K (.sref h.length 0 0 s.size) (h++[.row false 0 1 (Co s)])
def Db (P:Program) (t:TypeId) (h:Heap) (s x:AV) (K:AV→Heap→Option R):Option R:=
 (LL P t).bind fun z=>Gv h z x fun new=>
  match s with
  | .nilsl=>cnd (new.length≤1073741824) (K (.sref h.length 0 0 new.length) (h++[.row false 0 z new])) none
  | .sref i ver off len=>match h[i]? with
   |some (.row false ver' size es)=>
    cnd (new.length=0∧off+len<es.length) (cnd (ver'=ver) (K (.sref i ver off len) h) none) (cnd (ver'=ver∧(size=z∨size=0)∧off+len≤es.length∧len+new.length≤1073741824) (K (.sref i (ver+1) 0 (len+new.length)) (h.set i (.row false (ver+1) z ((es.drop off).take len++new)))) none)
   |_=>none
  |_=>none
def Mp:AV→AV→Bool
 | .sref i _ _ _,.sref j _ _ _=>i==j
 |_,_=>false
def A0 (es:List (List Tree)) (p:Nat) (new:List (List Tree)):List (List Tree):=es.take p++new++es.drop (p+new.length)
def Du (P:Program) (t:TypeId) (h:Heap) (s x:AV) (K:AV→Heap→Option R):Option R:=
 (LL P t).bind fun z=>elems h z x fun new=>
  match s with
  | .sref i ver off len=>match h[i]? with
   |some (.row false ver' size es)=>
    cnd (ver'=ver∧size=z∧off+len+new.length≤es.length) (K (.sref i ver off (len+new.length)) (h.set i (.row false ver z (A0 es (off+len) new)))) none
   |_=>none
  |_=>none
def Lu (P:Program) (h:Heap) (e:TypeId) (K:List Tree→Option R):Option R:=
 match zeroCells? P e,BV P e with
 |some z,some n=>cnd (n≠0∧z.length=n) (DA P true h (Ba P 16 e) z K) none
 |_,_=>none
def HV (P:Program) (t:TypeId) (h:Heap) (x:AV) (K:Heap→Option R):Option R:=
 match P.underlying t with
 |some (.slice e)=>match x with
  | .t (.sl _ es)=>cnd (es.length=0) (K h) none
  | .nilsl=>K h
  | .sref i ver off len=>Lu P h e fun zs=>match h[i]? with
   |some (.row false ver' size es)=>cnd (ver'=ver∧size=zs.length) (K (h.set i (.row false ver size (A0 es off (replicate len zs))))) none
   |_=>none
  |_=>none
 |_=>none
def LU (P:Program) (t:TypeId) (h:Heap) (d x:AV) (K:AV→Heap→Option R):Option R:=
 (EC P t).bind fun z=>Gv h z x fun new=>match d with
  | .sref i ver off len=>match h[i]? with
   |some (.row false ver' size es)=>cnd (ver'=ver∧size=z) (K (.t (.int .i64 (min new.length len:Nat))) (h.set i (.row false ver z (A0 es off (new.take len))))) none
   |_=>none
  |_=>none
def LN (P:Program) (t:TypeId) (h:Heap) (n c:AV) (K:AV→Heap→Option R):Option R:=
 (LL P t).bind fun z=>match P.underlying t with
  |some (.slice e)=>(DW .i64 n).bind fun a=>(DW .i64 c).bind fun b=>Lu P h e fun zs=>
   cnd (a=b∧0≤a∧a≤1073741824∧zs.length=z) (K (.sref h.length 0 0 a.toNat) (h++[.row false 0 z (replicate a.toNat zs)])) none
  |_=>none
def Ua (z:Nat) (h:Heap) (avs:List AV) (K:AV→Heap→Option R):Option R:=
 match avs with
 |[.nilsl,nx]=>(DW .i64 nx).bind fun n=>cnd (0≤n∧n≤1073741824) (K (.sref h.length 0 0 0) (h++[.row false 0 z []])) none
 |_=>none
def ains (z:Nat) (h:Heap) (avs:List AV) (K:AV→Heap→Option R):Option R:=
 match avs with
 |[s,kx,.t (.sl z' new)]=>(DW .i64 kx).bind fun k=>cnd (z'=z∧new.length≠0) (match s with
  | .nilsl=>cnd (k=0∧new.length≤1073741824) (K (.sref h.length 0 0 new.length) (h++[.row false 0 z new])) none
  | .sref i ver off len=>match h[i]? with
   |some (.row false ver' size es)=>cnd (ver'=ver∧size=z∧off+len=es.length∧len+new.length≤1073741824∧0≤k∧k≤len∧z≠1)
     (K (.sref i (ver+1) 0 (len+new.length)) (h.set i (.row false (ver+1) z ((es.drop off).take k.toNat++new++(es.drop off).drop k.toNat)))) none
   |_=>none
  |_=>none) none
 |_=>none
def G2:Tree→Bool
 | .int .i64 _=>true
 |_=>false
def Av (z:Nat) (es:List (List Tree)):Bool:=es.all fun e=>e.length==z&&e.all G2
def isFn:Option FuncId→List AV→Bool
 |none,[]=>true
 |some g,[.func (.func g') [] []]=>g==g'
 |_,_=>false
def UX (z m:Nat) (f:Option FuncId) (F:List (List Tree)→List (List Tree)) (h:Heap) (avs:List AV) (K:AV→Heap→Option R):Option R:=
 match avs with
 |s::rest=>match isFn f rest with
  |true=>(match s with
   | .nilsl=>K (.tuple []) h
   | .sref i ver off len=>match h[i]? with
    |some (.row false ver' size es)=>cnd (ver'=ver∧size=z∧off+len≤es.length∧len≤m∧Av z ((es.drop off).take len)=true) (K (.tuple []) (h.set i (.row false ver z (A0 es off (F ((es.drop off).take len)))))) none
    |_=>none
   |_=>none)
  |false=>none
 |_=>none
inductive Prim where
 |ins (z:Nat)
 |grow (z:Nat)
 |perm (z m:Nat) (f:Option FuncId) (F:List (List Tree)→List (List Tree))
def aprim (p:Prim) (h:Heap) (avs:List AV) (K:AV→Heap→Option R):Option R:=
 match p with
 | .ins z=>ains z h avs K
 | .grow z=>Ua z h avs K
 | .perm z m f F=>UX z m f F h avs K
end Ab
namespace Ab
open Go
variable {R:Type} {P:Program} {B:Nat→Prop} {κ:Ay} {h:Heap} {w:World}
theorem IC (v:Value):AR B κ h w (EN v) v:=by
 unfold EN;split
 ·exact .t _ _ (.int _ _)
 ·exact .t _ _ (.bool _)
 ·exact .t _ _ (.str _)
 ·exact .nilsl none
 ·exact .t _ _ (.const _ rfl)
 ·exact .t _ _ (.const _ rfl)
 ·exact .t _ _ (.const _ rfl)
 ·exact .t _ _ (.const _ rfl)
 ·exact .func _ _ _ _ _ rfl rfl (fun j x hx=>by simp at hx) (fun j x hx=>by simp at hx)
 ·exact .undef _
theorem EX {α:Type} (cs:List α) (j:Nat) (d:α) {c:α} (hc:cs[j]? = some c):(Array.mk cs).getD j d=c:=by obtain ⟨hj,he⟩:=List.getElem?_eq_some_iff.1 hc;simp [Array.getD,hj,he]
theorem KW (v:Value):AR B κ h w (ofConst v) v:=by
 unfold ofConst;split
 ·rename_i cs;refine .agg _ _ (by simp) fun j x hx => ?_;rw [getElem?_map] at hx;cases hc:cs[j]? with
  |none=>rw [hc] at hx;simp at hx
  |some c=>
   rw [hc] at hx;simp only [map_some,Option.some.injEq] at hx;subst hx;rw [EX cs j undef hc];exact IC c
 ·exact IC v
structure Rel (B:Nat→Prop) (N:Nat) (κ:Ay) (env:Env) (h:Heap) (a:Act) (w:World):Prop where
 heap:Ai B κ h w
 size:a.tmps.size=N
 slot:∀i,AR B κ h w (env i) (a.tmps.getD i undef)
theorem A7 {N:Nat} {env:Env} {a:Act} (hr:Rel B N κ env h a w) (x:Operand):AR B κ h w (ev env x) (a.eval x):=by
 cases x with
 |tmp t=>exact hr.slot t
 |const v=>exact KW v
 |global g=>exact .undef _
 |func f=>exact .func _ _ _ _ _ rfl rfl (fun j x hx=>by simp at hx) (fun j x hx=>by simp at hx)
theorem CB {k:IntKind} {x:AV} {n:Int} {v:Value} (hx:DW k x=some n) (hv:AR B κ h w x v):v = .int k n:=by
 unfold DW at hx;split at hx
 ·rename_i k' n';split at hx
  ·rename_i hk;subst hk;cases hx;cases hv with
   |t _ _ ht=>cases ht;rfl
  ·cases hx
 ·cases hx
theorem LJ {x:AV} {n:Int} {v:Value} (hx:asInt x=some n) (hv:AR B κ h w x v):∃k,v = .int k n:=by
 unfold asInt at hx;split at hx
 ·rename_i k' n';cases hx;cases hv with
  |t _ _ ht=>cases ht;exact ⟨_,rfl⟩
 ·cases hx
theorem Dr {x:AV} {b:Bool} {v:Value} (hx:asBool x=some b) (hv:AR B κ h w x v):v = .bool b:=by
 unfold asBool at hx;split at hx
 ·cases hx;cases hv with
  |t _ _ ht=>cases ht;rfl
 ·cases hx
theorem D3 {x:AV} {s:ByteArray} {v:Value} (hx:G5 x=some s) (hv:AR B κ h w x v):v = .string s:=by
 unfold G5 at hx;split at hx
 ·cases hx;cases hv with
  |t _ _ ht=>cases ht;rfl
 ·cases hx
theorem bind_some {α β:Type} {x:Option α} {f:α→Option β} {r:β} (h:x.bind f=some r):∃a,x=some a∧f a=some r:=by
 cases x with
 |none=>cases h
 |some a=>exact ⟨a,rfl,h⟩
theorem AL {α:Type} {c:Prop} [Decidable c] {x:Option α} {r:α} (h:(if c then x else none)=some r):c∧x=some r:=by
 split at h
 ·rename_i hc;exact ⟨hc,h⟩
 ·cases h
theorem GV {t:TypeId} {b:Bool} (hb:Ax P t=some b) (w:World):(isAgg t).run P w = .ok b w:=by
 unfold Ax at hb;unfold isAgg;split at hb
 ·rename_i fs hu;cases hb;simp [run_underlying hu]
 ·rename_i n e hu;cases hb;simp [run_underlying hu]
 ·rename_i d hn1 hn2 hu;cases hb;cases d<;>first|exact (hn1 _ rfl).elim|exact (hn2 _ _ rfl).elim|simp [run_underlying hu]
 ·cases hb
theorem BJ {t:TypeId} {n:Nat} (hn:BV P t=some n) (w:World):(Go.sizeOf t).run P w = .ok n w:=by
 unfold BV at hn;cases hi:P.info? t with
 |none=>rw [hi] at hn;cases hn
 |some i=>
  rw [hi] at hn;simp only [map_some,Option.some.injEq] at hn;simp [Go.sizeOf,typeInfo,hi,hn]
theorem Ks {α:Type} (f:Nat→α) (n j:Nat) (d:α) (hj:j<n):((List.range n).map f).toArray.getD j d=f j:=by simp [Array.getD,hj]
theorem TH {t:TypeId} {total:Nat} {get:Nat→AV} {off:Nat} {K:AV→Option R} {r:R} (hr:rd P t total get off K=some r)
  {b base:Nat} (u:Nat→Value) (hc:∀c,c<total→w.cell? ⟨b,base+c,none⟩=some (u c)) (hv:∀c,c<total→AR B κ h w (get c) (u c)) :
  ∃v val,K v=some r∧(Instr.loadAt t (.pointer (some ⟨b,base+off,none⟩))).run P w = .ok val w∧AR B κ h w v val:=by
 unfold rd at hr
 try simp only [AI] at hr
 split at hr
 ·rename_i n ha hs;obtain ⟨hle,hK⟩:=AL hr;refine ⟨_,.agg ((List.range n).map fun j=>u (off+j)).toArray,hK,?_,?_⟩
  ·have hl:=run_loadCells (P:=P) w ⟨b,base+off,none⟩ n (fun j=>u (off+j)) (fun j hj=>by
    have:=hc (off+j) (by omega);unfold Addr.add;split
    ·rename_i h0;subst h0;simpa using this
    ·simpa [add_assoc] using this)
   simp [Instr.loadAt,Instr.sureAddr,loadVar,GV ha,BJ hs,hl]
  ·refine .agg _ _ (by simp [A1]) fun j x hx => ?_;have hj:j<n:=by
    rcases lt_or_ge j n with h|h
    ·exact h
    ·simp [A1,h] at hx
   simp only [A1,getElem?_map,getElem?_range hj,map_some,Option.some.injEq] at hx;subst hx;rw [Ks _ _ _ _ hj];exact hv _ (by omega)
 ·rename_i ha;obtain ⟨hlt,hK⟩:=AL hr;refine ⟨_,u off,hK,?_,hv off hlt⟩;have:=hc off hlt;simp [Instr.loadAt,Instr.sureAddr,loadVar,GV ha,this]
 ·cases hr
theorem BS {b o:Nat} {cells:Array Value} {elem:TypeId} {fr:Nat×Nat} (hb:w.heap[b]? = some (.cells cells elem fr)) (ho:o<cells.size) :
  w.cell? ⟨b,o,none⟩=some (cells.getD o undef):=by
 simp [World.cell?,hb,Array.getD,ho]
theorem BN {α:Type} (l:List α) (j:Nat) (d:α) (hj:j<l.length):l[j]? = some (l.getD j d):=by simp [List.getD,hj]
theorem Bf (hh:Ai B κ h w) {i:Nat} {o:AA} (ho:h[i]? = some o):∃k,κ[i]? = some k:=by
 have:i<h.length:=by
  rcases lt_or_ge i h.length with x|x
  ·exact x
  ·rw [getElem?_eq_none x] at ho;cases ho
 exact ⟨_,getElem?_eq_getElem (by rw [hh.len];exact this)⟩
theorem PH {t:TypeId} {a:AV} {K:AV→Option R} {r:R} (hr:G6 P t h a K=some r) (hh:Ai B κ h w) {av:Value} (ha:AR B κ h w a av) :
  ∃v val,K v=some r∧(Instr.loadAt t av).run P w = .ok val w∧AR B κ h w v val:=by
 unfold G6 at hr
 try simp only [AI] at hr
 split at hr
 ·rename_i i off;split at hr
  ·rename_i cs hi;cases ha with
   |ptr _ _ b base hk _=>
    obtain ⟨hb0,cells,elem,hc,hs,hv⟩:=hh.obj i _ _ hi hk;subst hb0;refine TH hr (fun c=>cells.getD c undef) (fun c hlt => ?_) (fun c hlt=>hv c _ (BN _ _ _ hlt));rw [zero_add];exact BS hc (by omega)
  ·cases hr
 ·rename_i i ver k off;split at hr
  ·rename_i fz ver' size es hi;obtain ⟨rfl,hr1⟩:=AL hr;obtain ⟨e,he,hr2⟩:=bind_some hr1;clear hr hr1;cases ha with
   |rptr _ _ _ _ _ _ _ hv=>
    obtain ⟨b,base,hkk,rfl,_,_⟩:=hv _ hi rfl;obtain ⟨_,cells,elem,fr,hc,hth,hs,hl,ht⟩:=hh.obj i _ _ hi hkk;have hk:k<es.length:=by
     rcases lt_or_ge k es.length with x|x
     ·exact x
     ·rw [getElem?_eq_none x] at he;cases he
    have hmul:k*size+size≤es.length*size:=by rw [← succ_mul];exact mul_le_mul_right _ hk
    simp only [AA.size];rw [← add_assoc];refine TH hr2 (fun c=>cells.getD (base+(k*size+c)) undef) (fun c hlt => ?_) (fun c hlt =>.t _ _ (ht k e c _ he (BN _ _ _ (by rw [hl k e he];exact hlt))));rw [add_assoc];exact BS hc (by omega)
  ·cases hr
 ·rename_i size cells off;cases ha with
  |eptr _ _ _ b base u hsz hb hn hc ht=>
   refine TH hr u (fun c hlt => ?_) (fun c hlt => ?_)
   ·exact hc c _ (BN _ c default (by omega))
   ·exact .t _ _ (ht c _ (BN _ _ _ (by omega)))
 ·cases hr
def Dd (w:World) (A:Nat→Prop) (size:Nat) (es:List (List Tree)) (v:Value):Prop:=
 (∀(j:Nat) (e:List Tree),es[j]? = some e→e.length=size)∧∃a cap,v = .slice a es.length cap∧es.length≤cap∧
  (es=[]∨∃b off,a=some ⟨b,off,none⟩∧b<w.heap.size∧∀(j:Nat) (e:List Tree) (c:Nat) (x:Tree),es[j]? = some e→e[c]? = some x→
   ∃u,w.cell? ⟨b,off+(j*size+c),none⟩=some u∧BR w A x u)
theorem BR.less {A A':Nat→Prop} {x:Tree} {v:Value} (ht:BR w A x v) (hA:∀b,A' b→A b):BR w A' x v:=
 ht.mono (le_refl _) (fun _ _ _=>rfl) fun b hb =>.inl (hA b hb)
theorem Dd.H5 {A:Nat→Prop} {size:Nat} {es:List (List Tree)} {v:Value} (ht:BR w A (.sl size es) v):Dd w A size es v:=by
 cases ht with
 |nil _ cap a=>exact ⟨fun j e he=>by simp at he,a,cap,rfl,zero_le _,.inl rfl⟩
 |sl _ _ b off cap u h1 h2 h3 h4 h5 h6=>
  exact ⟨h4,_,cap,rfl,h1,.inr ⟨b,off,rfl,h2,fun j e c x he hx=>⟨_,h5 j e c x he hx,h6 j e c x he hx⟩⟩⟩
theorem getElem?_sub {α:Type} {es:List α} {off len j:Nat} {e:α} (he:((es.drop off).take len)[j]? = some e):j<len∧es[off+j]? = some e:=by
 have hj:j<len:=by
  rcases lt_or_ge j len with x|x
  ·exact x
  ·simp [getElem?_take,not_lt.2 x] at he
 rw [getElem?_take_of_lt hj,getElem?_drop] at he;exact ⟨hj,he⟩
theorem Jp {B:Nat→Prop} (hh:Ai B κ h w) {i ver off len size:Nat} {fz:Bool} {es:List (List Tree)} {v:Value} (hi:h[i]? = some (.row fz ver size es)) (hs:SRef κ h w i ver off len v) :
  ((es.drop off).take len).length=len∧off+len≤es.length∧Dd w (fun b=>B b∨Ex κ h b) size ((es.drop off).take len) v∧
   (len=0∨∃b base cap,κ[i]? = some (some (b,base))∧v = .slice (some ⟨b,base+off*size,none⟩) len cap):=by
 obtain ⟨k,hk⟩:=Bf hh hi;obtain ⟨_,hlen,hm⟩:=hs k _ hk hi rfl;simp only [AA.len] at hlen;have hl:((es.drop off).take len).length=len:=by simp;omega
 refine ⟨hl,hlen,?_⟩;have ho:=hh.obj i _ _ hi hk;rcases hm with ⟨rfl,_,a0,rfl⟩|⟨b,base,rfl,cap,rfl,hcap,_⟩
 ·exact ⟨⟨fun j e he=>by simp at he,a0,0,by simp,by simp,.inl (by simp)⟩,.inl rfl⟩
 ·obtain ⟨_,cells,elem,fr,hc,hth,hsz,hls,ht⟩:=ho;simp only [AA.size];simp only [AA.len] at hcap;refine ⟨⟨fun j e he=>hls _ e (getElem?_sub he).2,_,cap,by rw [hl],by rw [hl];omega,.inr ⟨b,base+off*size,rfl,hh.lt i b base hk,fun j e c x he hx => ?_⟩⟩,.inr ⟨b,base,cap,hk,rfl⟩⟩;obtain ⟨hj,he'⟩:=getElem?_sub he;have hcl:c<size:=by have:=(List.getElem?_eq_some_iff.1 hx).1;rw [hls _ e he'] at this;exact this
  have hoj:off+j<es.length:=(List.getElem?_eq_some_iff.1 he').1;have hmul:(off+j)*size+size≤es.length*size:=by rw [← succ_mul];exact mul_le_mul_right _ hoj
  have heq:base+off*size+(j*size+c)=base+((off+j)*size+c):=by rw [add_mul];omega
  refine ⟨_,?_,ht (off+j) e c x he' hx⟩;rw [heq];exact BS hc (by omega)
theorem Dd.Q7 {A:Nat→Prop} {size size':Nat} {v:Value} (hs:Dd w A size [] v):Dd w A size' [] v:=by obtain ⟨_,a,cap,e,_,_⟩:=hs;exact ⟨fun j e he=>by simp at he,a,cap,e,zero_le _,.inl rfl⟩
theorem row_zero (hh:Ai B κ h w) {i ver size:Nat} {fz:Bool} {es:List (List Tree)} (hi:h[i]? = some (.row fz ver size es)) (hz:size=0):es=[]:=by
 obtain ⟨k,hk⟩:=Bf hh hi;have ho:=hh.obj i _ _ hi hk;cases k with
 |none=>exact ho
 |some p=>exact (ho.1 hz).elim
theorem G4 {α:Type} {es:List α} (he:es=[]) (a b:Nat):(es.drop a).take b=[]:=by subst he;simp
theorem IN {z:Nat} {x:AV} {K:List (List Tree)→Option R} {r:R} (hr:elems h z x K=some r) (hh:Ai B κ h w) {v:Value} (hv:AR B κ h w x v) :
  ∃es,K es=some r∧Dd w (fun b=>B b∨Ex κ h b) z es v:=by
 unfold elems at hr
 try simp only [AI] at hr
 split at hr
 ·obtain ⟨rfl,hK⟩:=AL hr;cases hv with
  |t _ _ ht=>exact ⟨_,hK,.H5 ht⟩
 ·cases hv with
  |nilsl a0=>exact ⟨_,hr,fun j e he=>by simp at he,a0,0,rfl,le_refl _,.inl rfl⟩
 ·split at hr
  ·rename_i i ver off len _ fz ver' size es hi;obtain ⟨⟨rfl,hz⟩,hK⟩:=AL hr;cases hv with
   |sref _ _ _ _ _ _ _ hs=>
    obtain ⟨_,_,hsl,_⟩:=Jp hh hi hs;refine ⟨_,hK,?_⟩;rcases hz with rfl|hz
    ·exact hsl
    ·rw [G4 (row_zero hh hi hz)] at hsl ⊢;exact hsl.Q7
  ·cases hr
 ·cases hr
theorem BR.TW {A:Nat→Prop} {size:Nat} {es:List (List Tree)} {v:Value} (hs:Dd w A size es v)
  (hA:∀b off cap,v = .slice (some ⟨b,off,none⟩) es.length cap→es≠[]→¬A b):BR w A (.sl size es) v:=by
 obtain ⟨hl,a,cap,rfl,hcap,hc⟩:=hs;rcases hc with rfl|⟨b,off,rfl,hb,hc⟩
 ·exact .nil _ _ _
 ·by_cases hn:es=[]
  ·subst hn;exact .nil _ _ _
  ·have hex:∀(j c:Nat),∃u,∀(e:List Tree) (x:Tree),es[j]? = some e→e[c]? = some x→w.cell? ⟨b,off+(j*size+c),none⟩=some u∧BR w A x u:=by
    intro j c;by_cases hj:∃e x,es[j]? = some e∧e[c]? = some x
    ·obtain ⟨e,x,he,hx⟩:=hj;obtain ⟨u,h1,h2⟩:=hc j e c x he hx;refine ⟨u,fun e' x' he' hx' => ?_⟩;rw [he] at he';cases he';rw [hx] at hx';cases hx';exact ⟨h1,h2⟩
    ·exact ⟨undef,fun e x he hx=>(hj ⟨e,x,he,hx⟩).elim⟩
   refine .sl size es b off cap (fun j c=>(hex j c).choose) hcap hb (hA b off cap rfl hn) hl (fun j e c x he hx => ?_) (fun j e c x he hx => ?_)
   ·exact ((hex j c).choose_spec e x he hx).1
   ·exact ((hex j c).choose_spec e x he hx).2
theorem conv_ok {fz:Bool} {ty:TypeId} {x:AV} {K:Tree→Option R} {r:R} (hr:conv P fz h ty x K=some r) (hh:Ai B κ h w) {v:Value} (hv:AR B κ h w x v) :
  ∃y,K y=some r∧BR w (fun b=>B b∨(fz=true∧Ex κ h b)) y v:=by
 unfold conv at hr
 try simp only [AI] at hr
 split at hr
 ·cases hv with
  |t _ _ ht=>exact ⟨_,hr,ht.less fun b hb=>hb.imp id And.right⟩
 ·obtain ⟨s,hs,hK⟩:=bind_some hr;cases hv;exact ⟨_,hK,.nil _ _ _⟩
 ·rename_i i ver off len;split at hr
  ·rename_i f ver' size es hi;obtain ⟨s,hs,hK0⟩:=bind_some hr;obtain ⟨⟨hf,rfl,hz⟩,hK⟩:=AL hK0;clear hK0;cases hv with
   |sref _ _ _ _ _ _ _ hsr=>
    obtain ⟨hl,hle,hsl,hbb⟩:=Jp hh hi hsr;refine ⟨_,hK,?_⟩;have hsl':Dd w (fun b=>B b∨(fz=true∧Ex κ h b)) s ((es.drop off).take len) v:=by
     have h1:Dd w (fun b=>B b∨Ex κ h b) s ((es.drop off).take len) v:=by
      rcases hz with rfl|hz
      ·exact hsl
      ·rw [G4 (row_zero hh hi hz)] at hsl ⊢;exact hsl.Q7
     obtain ⟨hq,a,cap,e1,e2,e3⟩:=h1;refine ⟨hq,a,cap,e1,e2,?_⟩;rcases e3 with e3|⟨b,o,e4,e5,e6⟩
     ·exact .inl e3
     ·exact .inr ⟨b,o,e4,e5,fun j e c x he hx=>by obtain ⟨u,u1,u2⟩:=e6 j e c x he hx;exact ⟨u,u1,u2.less fun b hb=>hb.imp id And.right⟩⟩
    refine .TW hsl' fun b o cap he hn hA => ?_;rcases hbb with h0|⟨b',base,cap',hk,he'⟩
    ·subst h0;simp at hn
    ·rw [he'] at he;injection he with he1;injection he1 with he1;injection he1 with he1;subst he1;rcases hA with hB|⟨hfz,i',base',o',hk',ho',hfz'⟩
     ·exact hh.notB i _ _ hk hB
     ·rcases hf with hf|hf
      ·subst hf;obtain rfl:=hh.inj i i' _ _ _ hk hk';rw [hi] at ho';cases ho';simp [AA.JY] at hfz'
      ·rw [hf] at hfz;exact absurd hfz (by simp)
  ·cases hr
 ·rename_i fn;cases hv with
  |func _ _ _ fs cs h1 h2 _ _=>
   have e1:fs = #[]:=eq_empty_of_size_eq_zero h1;have e2:cs = #[]:=eq_empty_of_size_eq_zero h2;subst e1 e2;exact ⟨_,hr,.const _ rfl⟩
 ·cases hr
theorem Cb {fz:Bool}:∀{ts:List TypeId} {xs:List AV} {K:List Tree→Option R} {r:R},DA P fz h ts xs K=some r→Ai B κ h w→∀{vs:List Value},vs.length=xs.length→
  (∀(j:Nat) (x:AV) (v:Value),xs[j]? = some x→vs[j]? = some v→AR B κ h w x v)→
  ∃ys:List Tree,K ys=some r∧ys.length=xs.length∧ts.length=xs.length∧∀(j:Nat) (y:Tree) (v:Value),ys[j]? = some y→vs[j]? = some v→BR w (fun b=>B b∨(fz=true∧Ex κ h b)) y v
 |[],[],K,r,hr,hh,vs,hl,hv=>⟨[],hr,rfl,rfl,fun j y v hy=>by simp at hy⟩
 |[],x::xs,K,r,hr,hh,vs,hl,hv=>by simp [DA] at hr
 |t::ts,[],K,r,hr,hh,vs,hl,hv=>by simp [DA] at hr
 |t::ts,x::xs,K,r,hr,hh,vs,hl,hv=>by
  cases vs with
  |nil=>simp at hl
  |cons v vs=>
   obtain ⟨y,hK,hy⟩:=conv_ok (P:=P) hr hh (hv 0 x v rfl rfl);obtain ⟨ys,hK2,h1,h2,h3⟩:=Cb (vs:=vs) hK hh (by simpa using hl) fun j x' v' hx' hv'=>hv (j+1) x' v' (by simpa using hx') (by simpa using hv');refine ⟨y::ys,hK2,by simp [h1],by simp [h2],fun j y' v' hy' hv' => ?_⟩;cases j with
   |zero=>simp at hy' hv';subst hy' hv';exact hy
   |succ j=>exact h3 j y' v' (by simpa using hy') (by simpa using hv')
theorem Sp {op:BinOp} {k:IntKind} {a b:Int} {K:AV→Option R} {r:R} (hr:LX op k a b K=some r) (t:TypeId) :
  ∃v val,K v=some r∧(binOp op t (.int k a) (.int k b)).run P w = .ok val w∧AR B κ h w v val:=by
 unfold LX at hr
 try simp only [AI] at hr
 split at hr
 ·exact ⟨_,_,hr,by simp [binOp,Op.intArith],.t _ _ (.int _ _)⟩
 ·exact ⟨_,_,hr,by simp [binOp,Op.intArith],.t _ _ (.int _ _)⟩
 ·exact ⟨_,_,hr,by simp [binOp,Op.intArith],.t _ _ (.int _ _)⟩
 ·split at hr
  ·cases hr
  ·rename_i hb;exact ⟨_,_,hr,by simp [binOp,Op.intDiv,hb],.t _ _ (.int _ _)⟩
 ·split at hr
  ·cases hr
  ·rename_i hb;exact ⟨_,_,hr,by simp [binOp,Op.intDiv,hb],.t _ _ (.int _ _)⟩
 ·exact ⟨_,_,hr,by simp [binOp,Op.intCmp],.t _ _ (.bool _)⟩
 ·exact ⟨_,_,hr,by simp [binOp,Op.intCmp],.t _ _ (.bool _)⟩
 ·exact ⟨_,_,hr,by simp [binOp,Op.intCmp],.t _ _ (.bool _)⟩
 ·exact ⟨_,_,hr,by simp [binOp,Op.intCmp],.t _ _ (.bool _)⟩
 ·exact ⟨_,_,hr,by simp [binOp,Op.intCmp],.t _ _ (.bool _)⟩
 ·exact ⟨_,_,hr,by simp [binOp,Op.intCmp],.t _ _ (.bool _)⟩
 ·exact ⟨_,_,hr,by simp [binOp,Op.intBits,andK],.t _ _ (.int _ _)⟩
 ·exact ⟨_,_,hr,by simp [binOp,Op.intBits,orK],.t _ _ (.int _ _)⟩
 ·exact ⟨_,_,hr,by simp [binOp,Op.intBits,xorK],.t _ _ (.int _ _)⟩
 ·cases hr
theorem Sc {op:BinOp} {k k':IntKind} {a b:Int} {K:AV→Option R} {r:R} (hr:LI op k a b K=some r) (t:TypeId) :
  ∃v val,K v=some r∧(binOp op t (.int k a) (.int k' b)).run P w = .ok val w∧AR B κ h w v val:=by
 unfold LI at hr
 try simp only [AI] at hr
 split at hr
 ·split at hr
  ·cases hr
  ·rename_i hb;exact ⟨_,_,hr,by simp [binOp,Op.shift,hb,shlK],.t _ _ (.int _ _)⟩
 ·split at hr
  ·cases hr
  ·rename_i hb;exact ⟨_,_,hr,by simp [binOp,Op.shift,hb,Jj],.t _ _ (.int _ _)⟩
 ·cases hr
def Fits (P:Program) (B:Nat→Prop) (κ:Ay) (h:Heap) (w:World) (g:Nat→AV) (off:Nat) (t:TypeId) (v:Value):Prop:=
 match Ax P t with
 |some true=>∃vs n,v = .agg vs∧BV P t=some n∧vs.size=n∧∀j,j<n→AR B κ h w (g (off+j)) (vs.getD j undef)
 |some false=>AR B κ h w (g off) v
 |none=>False
theorem My {g:Nat→AV} {off n o m:Nat} {vs:Array Value} {t:TypeId} (hv:∀j,j<n→AR B κ h w (g (off+j)) (vs.getD j undef)) (hn:vs.size=n) (hm:BV P t=some m) (ho:o+m≤n)
  {b:Bool} (hb:Ax P t=some b) (h1:b=false→m=1):∃v,(part t vs o).run P w = .ok v w∧Fits P B κ h w g (off+o) t v:=by
 cases b with
 |true=>
  refine ⟨.agg (vs.extract o (o+m)),by simp [part,GV hb,BJ hm],?_⟩;unfold Fits;rw [hb];refine ⟨_,m,rfl,hm,by simp;omega,fun j hj => ?_⟩;have h2:=hv (o+j) (by omega);have h3:(vs.extract o (o+m)).getD j undef=vs.getD (o+j) undef:=by
   have ha:j<(vs.extract o (o+m)).size:=by simp;omega
   have hb':o+j<vs.size:=by omega
   simp only [Array.getD,ha,hb',dif_pos];simp
  rw [h3,add_assoc];exact h2
 |false=>
  have hm1:=h1 rfl;subst hm1;have hlt:o<vs.size:=by omega
  refine ⟨vs.getD o undef,?_,?_⟩
  ·simp [part,GV hb,Array.getD,hlt]
  ·unfold Fits;rw [hb];exact hv o (by omega)
theorem NL:∀(d:Nat) {t:TypeId} {gx gy:Nat→AV} {off:Nat} {K:Bool→Option R} {r:R},Lp P d t gx gy off K=some r→
  ∀{x y:Value},Fits P B κ h w gx off t x→Fits P B κ h w gy off t y→∀D,d≤D→∃b,K b=some r∧(Op.equalIn D t x y).run P w = .ok b w
 |0,t,gx,gy,off,K,r,hr,x,y,hx,hy,D,hD=>by simp [Lp] at hr
 |d+1,t,gx,gy,off,K,r,hr,x,y,hx,hy,D,hD=>by
  obtain ⟨D,rfl⟩:∃D',D=D'+1:=⟨D-1,by omega⟩
  unfold Lp at hr
  try simp only [AI] at hr
  split at hr
  ·rename_i k hu;obtain ⟨a,ha,hr⟩:=bind_some hr;obtain ⟨b,hb,hr⟩:=bind_some hr;have hg:Ax P t=some false:=by unfold Ax;rw [hu]
   unfold Fits at hx hy;rw [hg] at hx hy;obtain rfl:=CB ha hx;obtain rfl:=CB hb hy;exact ⟨_,hr,run_equalIn_int w D t k k a b hu⟩
  ·rename_i hu;obtain ⟨a,ha,hr⟩:=bind_some hr;obtain ⟨b,hb,hr⟩:=bind_some hr;have hg:Ax P t=some false:=by unfold Ax;rw [hu]
   unfold Fits at hx hy;rw [hg] at hx hy;obtain rfl:=Dr ha hx;obtain rfl:=Dr hb hy;exact ⟨_,hr,run_equalIn_bool w D t a b hu⟩
  ·rename_i hu;obtain ⟨a,ha,hr⟩:=bind_some hr;obtain ⟨b,hb,hr⟩:=bind_some hr;have hg:Ax P t=some false:=by unfold Ax;rw [hu]
   unfold Fits at hx hy;rw [hg] at hx hy;obtain rfl:=D3 ha hx;obtain rfl:=D3 hb hy;refine ⟨_,hr,?_⟩;rw [run_equalIn_string w D t a b hu,beq_toListBytes]
  ·rename_i fs hu;split at hr
   ·rename_i n hn;obtain ⟨hst,hr⟩:=AL hr;have hg:Ax P t=some true:=by unfold Ax;rw [hu]
    unfold Fits at hx hy;rw [hg] at hx hy;obtain ⟨xs,n1,rfl,hn1,hxs,hvx⟩:=hx;obtain ⟨ys,n2,rfl,hn2,hys,hvy⟩:=hy;rw [hn] at hn1 hn2;cases hn1;cases hn2;have hfo:P.fieldsOf t=fs:=by simp [Program.fieldsOf,hu]
    rw [run_equalIn_struct w D t xs ys (by rw [hfo];exact hu) hst,hfo];have key:∀(l:List Field) (acc:Bool),l.foldr (fun f (K':Bool→Option R) (acc:Bool)=>
      match BV P f.type with
      | some m => if f.name ≠ "_" ∧ f.offset + m ≤ n ∧ (Ax P f.type = some true ∨ Ax P f.type = some false ∧ m = 1) then Lp P d f.type gx gy (off + f.offset) fun b => K' (acc && b) else none
      |none=>none) K acc=some r→∃b,K (acc&&b)=some r∧(Op.eqFields D xs ys l).run P w = .ok b w:=by
     intro l
     induction l with
     |nil=>intro acc hl;exact ⟨true,by simpa using hl,by simp [Op.eqFields]⟩
     |cons f l ih=>
      intro acc hl;simp only [List.foldr_cons] at hl;split at hl
      ·rename_i m hm;obtain ⟨⟨hname,hle,hag⟩,hl⟩:=AL hl;obtain ⟨bb,hbb,h1⟩:∃bb,Ax P f.type=some bb∧(bb=false→m=1):=by
        rcases hag with hag|⟨hag,hm1⟩
        ·exact ⟨true,hag,by simp⟩
        ·exact ⟨false,hag,fun _=>hm1⟩
       obtain ⟨vx,hpx,hfx⟩:=My (P:=P) (o:=f.offset) hvx hxs hm hle hbb h1;obtain ⟨vy,hpy,hfy⟩:=My (P:=P) (o:=f.offset) hvy hys hm hle hbb h1;obtain ⟨b,hb,hrun⟩:=NL d hl hfx hfy D (by omega);obtain ⟨c,hc,hrun2⟩:=ih _ hb;refine ⟨b&&c,by rw [← Bool.and_assoc];exact hc,?_⟩;simp only [Op.eqFields,if_pos hname,Sem.run_bind,hpx,hpy,hrun,Result.andThen_ok];cases b
       ·simp
       ·simpa using hrun2
      ·cases hl
    obtain ⟨b,hb,hrun⟩:=key fs.toList true hr;exact ⟨b,by simpa using hb,hrun⟩
   ·cases hr
  ·cases hr
theorem Cq {op:BinOp} {t:TypeId} {x y:Operand} {v u:Value} (hv:(match v with | .agg _ | .nilIface=>false|_=>true)=true):(eqGuard op t x y v u).run P w = .ok () w:=by unfold eqGuard;cases op<;>simp<;>(cases v<;>simp_all)
theorem abin_ok {op:BinOp} {t:TypeId} {x y:AV} {K:AV→Option R} {r:R} (hr:Ud P op t x y K=some r) {vx vy:Value} (hx:AR B κ h w x vx) (hy:AR B κ h w y vy) (ox oy:Operand) :
  ∃v val,K v=some r∧(do eqGuard op t ox oy vx vy;binOp op t vx vy:Sem Value).run P w = .ok val w∧AR B κ h w v val:=by
 unfold Ud at hr
 try simp only [AI] at hr
 split at hr
 ·rename_i k hu;split at hr
  ·obtain ⟨a,ha,hr⟩:=bind_some hr;obtain ⟨b,hb,hr⟩:=bind_some hr;obtain rfl:=CB ha hx;obtain ⟨k',rfl⟩:=LJ hb hy;obtain ⟨v,val,h1,h2,h3⟩:=Sc (P:=P) (B:=B) (κ:=κ) (h:=h) (w:=w) (k':=k') hr t;exact ⟨v,val,h1,by simp [Cq,h2],h3⟩
  obtain ⟨a,ha,hr⟩:=bind_some hr;obtain ⟨b,hb,hr⟩:=bind_some hr;obtain rfl:=CB ha hx;obtain rfl:=CB hb hy;obtain ⟨v,val,h1,h2,h3⟩:=Sp (P:=P) (B:=B) (κ:=κ) (h:=h) (w:=w) hr t;exact ⟨v,val,h1,by simp [Cq,h2],h3⟩
 ·rename_i hu;obtain ⟨a,ha,hr⟩:=bind_some hr;obtain ⟨b,hb,hr⟩:=bind_some hr;obtain rfl:=Dr ha hx;obtain rfl:=Dr hb hy;split at hr
  ·exact ⟨_,_,hr,by simp [Cq,binOp,Op.equal,Op.maxDepth,run_equalIn_bool w 9999 t a b hu],.t _ _ (.bool _)⟩
  ·exact ⟨_,_,hr,by simp [Cq,binOp,Op.equal,Op.maxDepth,run_equalIn_bool w 9999 t a b hu],.t _ _ (.bool _)⟩
  ·cases hr
 ·rename_i hu;obtain ⟨a,ha,hr⟩:=bind_some hr;obtain ⟨b,hb,hr⟩:=bind_some hr;obtain rfl:=D3 ha hx;obtain rfl:=D3 hb hy;split at hr
  ·exact ⟨_,_,hr,by simp [Cq,binOp,Op.stringOp,← beq_toListBytes],.t _ _ (.bool _)⟩
  ·exact ⟨_,_,hr,by simp [Cq,binOp,Op.stringOp,← beq_toListBytes,bne],.t _ _ (.bool _)⟩
  ·obtain ⟨hsz,hr⟩:=AL hr;have hn:¬(((a.size+b.size:Nat):Int)>IntKind.i64.max):=by
    have:IntKind.i64.max=9223372036854775807:=by decide
    rw [this];omega
   exact ⟨_,_,hr,by simp only [Cq,binOp,Op.stringOp,Sem.run_bind,Result.andThen_ok,if_neg hn,Sem.run_pure],.t _ _ (.str _)⟩
  ·cases hr
 ·rename_i fs hu;split at hr
  ·rename_i xs ys n hn;obtain ⟨⟨hg,hlx,hly⟩,hr⟩:=AL hr;cases hx with
   |agg _ vx hsx hvx=>
    cases hy with
    |agg _ vy hsy hvy=>
     have hag:Ax P t=some true:=by unfold Ax;rw [hu]
     have fx:Fits P B κ h w (fun i=>xs.getD i .undef) 0 t (.agg vx):=by unfold Fits;rw [hag];exact ⟨vx,n,rfl,hn,by omega,fun j hj=>hvx j _ (by rw [zero_add];exact BN _ _ _ (by omega))⟩
     have fy:Fits P B κ h w (fun i=>ys.getD i .undef) 0 t (.agg vy):=by unfold Fits;rw [hag];exact ⟨vy,n,rfl,hn,by omega,fun j hj=>hvy j _ (by rw [zero_add];exact BN _ _ _ (by omega))⟩
     split at hr
     ·obtain ⟨b,hb,hrun⟩:=NL 16 hr fx fy 10000 (by omega);exact ⟨_,_,hb,by simp [run_eqGuard_agg w _ t ox oy vx vy hg,run_eql_struct,hrun],.t _ _ (.bool _)⟩
     ·obtain ⟨b,hb,hrun⟩:=NL 16 hr fx fy 10000 (by omega);exact ⟨_,_,hb,by simp [run_eqGuard_agg w _ t ox oy vx vy hg,run_neq_struct,hrun],.t _ _ (.bool _)⟩
     ·cases hr
  ·cases hr
 ·cases hr
theorem PO {src dst:TypeId} {x:AV} {K:AV→Option R} {r:R} (hr:GP P src dst x K=some r) {vx:Value} (hx:AR B κ h w x vx) :
  ∃v val,K v=some r∧(convert src dst vx).run P w = .ok val w∧AR B κ h w v val:=by
 unfold GP at hr;split at hr
 ·rename_i k0 k hs hd;obtain ⟨n,hn,hr⟩:=bind_some hr;obtain rfl:=CB hn hx;exact ⟨_,_,hr,by simp [convert,run_underlying hs,run_underlying hd,Conv.intToInt],.t _ _ (.int _ _)⟩
 ·rename_i hs hd;obtain ⟨n,hn,hr⟩:=bind_some hr;obtain rfl:=D3 hn hx;exact ⟨_,_,hr,by simp [convert,run_underlying hs,run_underlying hd],.t _ _ (.str _)⟩
 ·cases hr
theorem aun_ok {op:UnOp} {x:AV} {K:AV→Option R} {r:R} (hr:aun op x K=some r) {vx:Value} (hx:AR B κ h w x vx) :
  ∃v val,K v=some r∧(Op.unary op vx).run P w = .ok val w∧AR B κ h w v val:=by
 unfold aun at hr;split at hr
 ·obtain ⟨b,hb,hr⟩:=bind_some hr;obtain rfl:=Dr hb hx;exact ⟨_,_,hr,by simp [Op.unary],.t _ _ (.bool _)⟩
 ·split at hr
  ·cases hx with
   |t _ _ ht=>
    cases ht;exact ⟨_,_,hr,by simp [Op.unary,Op.intArith],.t _ _ (.int _ _)⟩
  ·cases hr
 ·cases hr
theorem Og {t:TypeId} {f o:Nat} (ho:GI P t f=some o):∃fs fd n,P.underlying t=some (.struct fs)∧fs[f]? = some fd∧fd.offset=o∧BV P fd.type=some (n+1):=by
 unfold GI at ho;split at ho
 ·rename_i fs hu;split at ho
  ·rename_i fd hf;split at ho
   ·rename_i n hn;cases ho;exact ⟨fs,fd,n,hu,hf,rfl,hn⟩
   ·cases ho
  ·cases ho
 ·cases ho
theorem Da (b o n:Nat):Addr.add ⟨b,o,none⟩ n=⟨b,o+n,none⟩:=by
 unfold Addr.add;split
 ·rename_i h0;subst h0;rfl
 ·rfl
theorem Fy {t:TypeId} {f o:Nat} (ho:GI P t f=some o) (b off:Nat) :
  (Instr.fieldAt t (.pointer (some ⟨b,off,none⟩)) f).run P w = .ok (.pointer (some ⟨b,off+o,none⟩)) w:=by
 obtain ⟨fs,fd,n,hu,hf,rfl,hn⟩:=Og ho;simp [Instr.fieldAt,run_underlying hu,hf,Instr.sureAddr,fieldPlace,BJ hn,Da]
theorem Sj {t:TypeId} {a:AV} {f:Nat} {K:AV→Option R} {r:R} (hr:HU P t h a f K=some r) {va:Value} (ha:AR B κ h w a va) :
  ∃v val,K v=some r∧(Instr.fieldAt t va f).run P w = .ok val w∧AR B κ h w v val:=by
 unfold HU at hr
 try simp only [AI] at hr
 obtain ⟨o,ho,hr1⟩:=bind_some hr;clear hr;split at hr1
 ·rename_i i off;cases ha with
  |ptr _ _ b base hk hb=>exact ⟨_,_,hr1,Fy ho b _,by rw [add_assoc];exact .ptr i (off+o) b base hk hb⟩
 ·rename_i size cells off;cases ha with
  |eptr _ _ _ b base u h1 h2 h3 h4 h5=>exact ⟨_,_,hr1,Fy ho b _,by rw [add_assoc];exact .eptr size cells (off+o) b base u h1 h2 h3 h4 h5⟩
 ·rename_i i ver k off;obtain ⟨ob,hob,hr2⟩:=bind_some hr1;obtain ⟨hver,hr3⟩:=AL hr2;cases ha with
  |rptr _ _ _ _ _ h1 h2 h3=>
   obtain ⟨b,base,hkk,rfl,h4,h5⟩:=h3 ob hob hver;refine ⟨_,_,hr3,Fy ho b _,.rptr i ver k (off+o) _ ⟨_,rfl⟩ h2 fun o' ho' hv' => ?_⟩;rw [hob] at ho';cases ho';exact ⟨b,base,hkk,by simp [add_assoc],h4,h5⟩
 ·cases hr1
theorem alen_ok {t:TypeId} {x:AV} {K:AV→Option R} {r:R} (hr:Sg P t h x K=some r) {vx:Value} (hx:AR B κ h w x vx) (hh:Ai B κ h w) (ty:TypeId) :
  ∃v val,K v=some r∧(Builtin.len_ #[t] ty #[vx]).run P w = .ok val w∧AR B κ h w v val:=by
 unfold Sg at hr
 try simp only [AI] at hr
 split at hr
 ·rename_i e hu;split at hr
  ·cases hx with
   |t _ _ ht=>
    obtain ⟨_,a,cap,rfl,_,_⟩:=Dd.H5 ht;exact ⟨_,_,hr,by simp [Builtin.len_,run_underlying hu,goInt],.t _ _ (.int _ _)⟩
  ·cases hx;exact ⟨_,_,hr,by simp [Builtin.len_,run_underlying hu,goInt],.t _ _ (.int _ _)⟩
  ·rename_i i ver off len;split at hr
   ·rename_i fz ver' size es hi;obtain ⟨rfl,hr1⟩:=AL hr;cases hx with
    |sref _ _ _ _ _ _ _ hs=>
     obtain ⟨hl,_,hsl,_⟩:=Jp hh hi hs;obtain ⟨_,a,cap,rfl,_,_⟩:=hsl;rw [hl];exact ⟨_,_,hr1,by simp [Builtin.len_,run_underlying hu,goInt],.t _ _ (.int _ _)⟩
   ·cases hr
  ·cases hx with
   |bsl _ _ _ _ cap b _ _ _=>exact ⟨_,_,hr,by simp [Builtin.len_,run_underlying hu,goInt],.t _ _ (.int _ _)⟩
  ·cases hr
 ·rename_i hu;obtain ⟨s,hs,hr⟩:=bind_some hr;obtain rfl:=D3 hs hx;exact ⟨_,_,hr,by simp [Builtin.len_,run_underlying hu,goInt],.t _ _ (.int _ _)⟩
 ·rename_i n e hu;exact ⟨_,_,hr,by simp [Builtin.len_,run_underlying hu,goInt],.t _ _ (.int _ _)⟩
 ·cases hr
theorem run_indexAt_slice {t e:TypeId} {s:Nat} (hu:P.underlying t=some (.slice e)) (hs:BV P e=some s) (b off len cap:Nat) (k:IntKind) (i:Int) (h0:0≤i) (h1:i<len) :
  (Instr.indexAt t (.slice (some ⟨b,off,none⟩) len cap) (.int k i)).run P w = .ok (.pointer (some ⟨b,off+i.toNat*s,none⟩)) w:=by
 simp [Instr.indexAt,asIntOf,run_underlying hu,h0,h1,BJ hs,Da]
theorem run_indexAt_array {t e:TypeId} {n s:Nat} (hu:P.underlying t=some (.array n e)) (hs:BV P e=some s) (b off:Nat) (k:IntKind) (i:Int) (h0:0≤i) (h1:i<n) :
  (Instr.indexAt t (.pointer (some ⟨b,off,none⟩)) (.int k i)).run P w = .ok (.pointer (some ⟨b,off+i.toNat*s,none⟩)) w:=by
 simp [Instr.indexAt,asIntOf,run_underlying hu,Instr.sureAddr,h0,h1,BJ hs,Da]
theorem Hy {i:Int}:∀{n:Nat} {K:Nat→Option R} {r:R},Hz i n K=some r→K i.toNat=some r
 |0,K,r,h=>by simp [Hz] at h
 |n+1,K,r,h=>by
  simp only [Hz,AI] at h;split at h
  ·rename_i e;rw [e];simpa using h
  ·exact Hy h
theorem Sh {t:TypeId} {x ix:AV} {K:AV→Option R} {r:R} (hr:JC P t h x ix K=some r) {vx vi:Value} (hx:AR B κ h w x vx) (hi:AR B κ h w ix vi) (hh:Ai B κ h w) :
  ∃v val,K v=some r∧(Instr.indexAt t vx vi).run P w = .ok val w∧AR B κ h w v val:=by
 unfold JC at hr
 try simp only [AI] at hr
 obtain ⟨i,hii,hr1⟩:=bind_some hr;clear hr;obtain ⟨k,rfl⟩:=LJ hii hi;split at hr1
 ·rename_i e hu;obtain ⟨s,hs,hr2⟩:=bind_some hr1;clear hr1;split at hr2
  ·rename_i size es;obtain ⟨⟨rfl,h0⟩,hr3⟩:=AL hr2;obtain ⟨c,hc,hr4⟩:=bind_some hr3;clear hr2 hr3;cases hx with
   |t _ _ ht=>
    have hlt:i.toNat<es.length:=(List.getElem?_eq_some_iff.1 hc).1;cases ht with
    |nil _ cap a=>simp at hlt
    |sl _ _ b off cap u h1 h2 h3 h4 h5 h6=>
     refine ⟨_,_,hr4,run_indexAt_slice hu hs b off es.length cap k i h0 (by omega),?_⟩;have he:(.pointer (some ⟨b,off+i.toNat*size,none⟩):Value)= .pointer (some ⟨b,off+i.toNat*size+0,none⟩):=rfl;rw [he];refine .eptr size c 0 b (off+i.toNat*size) (u i.toNat) (h4 _ c hc) h2 h3 (fun q y hy => ?_) (fun q y hy=>h6 _ c q y hc hy);rw [add_assoc];exact h5 _ c q y hc hy
  ·rename_i rr ver off len;split at hr2
   ·rename_i fz ver' size es hi';obtain ⟨⟨rfl,rfl,h0,h1⟩,hr3⟩:=AL hr2;cases hx with
    |sref _ _ _ _ _ ho hex hsr=>
     obtain ⟨hl,hle,hsl,hbb⟩:=Jp hh hi' hsr;rcases hbb with h0'|⟨b,base,cap,hk,rfl⟩
     ·omega
     ·refine ⟨_,_,hr3,run_indexAt_slice hu hs b _ len cap k i h0 h1,.rptr _ _ _ _ _ ⟨_,rfl⟩ hex fun o ho' hv' => ?_⟩;rw [hi'] at ho';cases ho';refine ⟨b,base,hk,?_,rfl,?_⟩
      ·simp only [AA.size,add_mul];simp [add_assoc]
      ·simp only [AA.len];omega
   ·cases hr2
  ·rename_i rr off len size;obtain ⟨⟨rfl,h0,h1⟩,hr3⟩:=AL hr2;have hr3:K (.ptr rr (off+i.toNat*size))=some r:=by
    split at hr3
    ·exact Hy hr3
    ·exact hr3
   cases hx with
   |bsl _ _ _ _ cap b hk hbx hlc=>
    obtain ⟨cs,hcs,hcl⟩:=hbx;refine ⟨_,_,hr3,run_indexAt_slice hu hs b off len cap k i h0 h1,?_⟩;have:=AR.ptr (B:=B) (w:=w) rr (off+i.toNat*size) b 0 hk ⟨cs,hcs⟩;simpa using this
  ·cases hr2
 ·rename_i n e hu;obtain ⟨s,hs,hr2⟩:=bind_some hr1;clear hr1;split at hr2
  ·rename_i rr off;obtain ⟨⟨h0,h1⟩,hr3⟩:=AL hr2;have hr3:K (.ptr rr (off+i.toNat*s))=some r:=by
    split at hr3
    ·exact Hy hr3
    ·exact hr3
   cases hx with
   |ptr _ _ b base hk hb=>
    refine ⟨_,_,hr3,run_indexAt_array hu hs b _ k i h0 h1,?_⟩;rw [add_assoc];exact .ptr _ _ b base hk hb
  ·rename_i size cells off;obtain ⟨⟨h0,h1⟩,hr3⟩:=AL hr2;cases hx with
   |eptr _ _ _ b base u hsz hb hn hc ht=>
    refine ⟨_,_,hr3,run_indexAt_array hu hs b _ k i h0 h1,?_⟩;rw [add_assoc];exact .eptr _ _ _ b base u hsz hb hn hc ht
  ·rename_i rr ver q off;obtain ⟨ob,hob,hr3⟩:=bind_some hr2;obtain ⟨⟨hv,h0,h1⟩,hr4⟩:=AL hr3;cases hx with
   |rptr _ _ _ _ _ _ hex hpt=>
    obtain ⟨b,base,e0,rfl,e2,e3⟩:=hpt ob hob hv;refine ⟨_,_,hr4,run_indexAt_array hu hs b _ k i h0 h1,.rptr _ _ _ _ _ ⟨_,rfl⟩ hex fun o ho hv' => ?_⟩;rw [hob] at ho;cases ho;exact ⟨b,base,e0,by simp [add_assoc],e2,e3⟩
  ·cases hr2
 ·cases hr1
def Ue (B:Nat→Prop) (κ:Ay) (h:Heap) (w:World):Option AV→Option Value→Prop
 |none,none=>True
 |some a,some v=>AR B κ h w a v
 |_,_=>False
def Cl (d hi n:Nat):Option Value→Prop
 |none=>n=d
 |some v=>∃k,v = .int k n∧n≤hi
theorem BQ {x:Option AV} {d hi:Nat} {K:Nat→Option R} {r:R} (hr:CG x d hi K=some r) {y:Option Value} (hy:Ue B κ h w x y) :
  ∃n,K n=some r∧Cl d hi n y:=by
 unfold CG at hr
 try simp only [AI] at hr
 split at hr
 ·cases y with
  |none=>exact ⟨d,hr,rfl⟩
  |some v=>exact hy.elim
 ·cases y with
  |none=>exact hy.elim
  |some v=>
   obtain ⟨i,hii,hr1⟩:=bind_some hr;obtain ⟨⟨h0,h1⟩,hr2⟩:=AL hr1;obtain ⟨k,rfl⟩:=LJ hii hy;exact ⟨i.toNat,hr2,k,by rw [Int.toNat_of_nonneg h0],by omega⟩
theorem B7 {isS:Bool} {len hm cap a b:Nat} {lo hi:Option Value} (hlc:hm≤cap)
  (hb:Cl len hm b hi) (ha:Cl 0 b a lo) :
  (Instr.sliceBounds isS len cap lo hi none).run P w = .ok (a,b,cap) w:=by
 cases hi with
 |none=>
  simp only [Cl] at hb;subst hb;cases lo with
  |none=>simp only [Cl] at ha;subst ha;simp [Instr.sliceBounds]
  |some v=>
   obtain ⟨k,rfl,hle⟩:=ha;simp [Instr.sliceBounds,Instr.sliceBound,asIntOf,hle]
 |some v=>
  obtain ⟨k,rfl,hle⟩:=hb;have h2:b≤cap:=by omega
  cases lo with
  |none=>simp only [Cl] at ha;subst ha;simp [Instr.sliceBounds,Instr.sliceBound,asIntOf,h2]
  |some v=>
   obtain ⟨k',rfl,hle'⟩:=ha;simp [Instr.sliceBounds,Instr.sliceBound,asIntOf,h2,hle']
theorem CI {isS:Bool} {len cap a b m d0 d1 hm:Nat} {lo:Option Value} {vb vm:Value} (hlc:hm≤cap) (hmx:Cl d0 hm m (some vm))
  (hb:Cl d1 m b (some vb)) (ha:Cl 0 b a lo):(Instr.sliceBounds isS len cap lo (some vb) (some vm)).run P w = .ok (a,b,m) w:=by
 obtain ⟨k,rfl,hle⟩:=hmx;obtain ⟨k',rfl,hle'⟩:=hb;have h2:m≤cap:=by omega
 cases lo with
 |none=>simp only [Cl] at ha;subst ha;simp [Instr.sliceBounds,Instr.sliceBound,asIntOf,h2,hle']
 |some v=>
  obtain ⟨k3,rfl,hle3⟩:=ha;simp [Instr.sliceBounds,Instr.sliceBound,asIntOf,h2,hle',hle3]
theorem Sb {t:TypeId} {x:AV} {lo hi mx:Option AV} {K:AV→Option R} {r:R} (hr:I8 P t h x lo hi mx K=some r) {vx:Value} {vl vh vm:Option Value} (hx:AR B κ h w x vx)
  (hl:Ue B κ h w lo vl) (hhi:Ue B κ h w hi vh)
  (hm:Ue B κ h w mx vm) (hh:Ai B κ h w) :
  ∃v val,K v=some r∧(Instr.sliceAt t vx vl vh vm).run P w = .ok val w∧AR B κ h w v val:=by
 unfold I8 at hr
 try simp only [AI] at hr
 split at hr
 ·rename_i hu;cases vm with
  |some v=>exact hm.elim
  |none=>
   obtain ⟨s,hs,hr1⟩:=bind_some hr;obtain rfl:=D3 hs hx;obtain ⟨b,hr2,hb⟩:=BQ hr1 hhi;obtain ⟨a,hr3,ha⟩:=BQ hr2 hl;have:=B7 (P:=P) (w:=w) (isS:=false) (le_refl s.size) hb ha;exact ⟨_,_,hr3,by simp [Instr.sliceAt,Instr.slice,run_underlying hu,this],.t _ _ (.str _)⟩
 ·rename_i e hu;cases vm with
  |some v=>exact hm.elim
  |none=>
   obtain ⟨z,hz,hr1⟩:=bind_some hr;clear hr;split at hr1
   ·rename_i size es;obtain ⟨rfl,hr2⟩:=AL hr1;obtain ⟨b,hr3,hb⟩:=BQ hr2 hhi;obtain ⟨a,hr4,ha⟩:=BQ hr3 hl;have hbl:b≤es.length:=by
     cases vh with
     |none=>simp only [Cl] at hb;omega
     |some v=>obtain ⟨_,_,h⟩:=hb;exact h
    have hab:a≤b:=by
     cases vl with
     |none=>simp only [Cl] at ha;omega
     |some v=>obtain ⟨_,_,h⟩:=ha;exact h
    cases hx with
    |t _ _ ht=>
     have hlen:((es.take b).drop a).length=b-a:=by simp;omega
     cases ht with
     |nil _ cap ad=>
      simp only [length_nil] at hbl hb;have:=B7 (P:=P) (w:=w) (isS:=true) (len:=0) (cap:=cap) (zero_le _) (by simpa using hb) ha;obtain rfl:b=0:=by omega
      obtain rfl:a=0:=by omega
      refine ⟨_,_,hr4,by simp [Instr.sliceAt,Instr.slice,run_underlying hu,this,BJ hz];rfl,?_⟩;simp;exact .t _ _ (.nil _ _ _)
     |sl _ _ bl off cap u h1 h2 h3 h4 h5 h6=>
      have:=B7 (P:=P) (w:=w) (isS:=true) (cap:=cap) h1 hb ha;refine ⟨_,.slice (if cap=a then some ⟨bl,off,none⟩ else some ⟨bl,off+a*size,none⟩) (b-a) (cap-a),hr4,?_,.t _ _ ?_⟩
      ·simp [Instr.sliceAt,Instr.slice,run_underlying hu,this,BJ hz,Da]
      ·rw [← hlen];by_cases hba:b-a=0
       ·have hnil:(es.take b).drop a=[]:=eq_nil_of_length_eq_zero (by omega);rw [hnil];exact .nil _ _ _
       ·rw [if_neg (by omega)];have hidx:∀(j:Nat) (e:List Tree),((es.take b).drop a)[j]? = some e→es[a+j]? = some e:=fun j e he=>by
         rw [getElem?_drop] at he;rcases lt_or_ge (a+j) b with hlt|hge
         ·rw [getElem?_take_of_lt hlt] at he;exact he
         ·simp [getElem?_take,not_lt.2 hge] at he
        refine .sl size _ bl (off+a*size) (cap-a) (fun j c=>u (a+j) c) (by omega) h2 h3 (fun j e he=>h4 _ e (hidx j e he)) (fun j e c y he hy => ?_) (fun j e c y he hy=>h6 _ e c y (hidx j e he) hy);have:=h5 _ e c y (hidx j e he) hy;rw [add_mul] at this;rw [← this];congr 2;omega
   ·obtain ⟨b,hr3,hb⟩:=BQ hr1 hhi;obtain ⟨a,hr4,ha⟩:=BQ hr3 hl;cases hx;have hb0:b=0:=by
     cases vh with
     |none=>exact hb
     |some v=>obtain ⟨_,_,h⟩:=hb;omega
    subst hb0;have ha0:a=0:=by
     cases vl with
     |none=>exact ha
     |some v=>obtain ⟨_,_,h⟩:=ha;omega
    subst ha0;have:=B7 (P:=P) (w:=w) (isS:=true) (le_refl 0) hb ha;exact ⟨_,_,hr4,by simp [Instr.sliceAt,Instr.slice,run_underlying hu,this,BJ hz];rfl,.nilsl _⟩
   ·rename_i i ver off len;split at hr1
    ·rename_i fz ver' size es hi';obtain ⟨⟨rfl,hsz⟩,hr2⟩:=AL hr1;clear hr1;obtain ⟨b,hr3,hb⟩:=BQ hr2 hhi;obtain ⟨a,hr4,ha⟩:=BQ hr3 hl;have hab:a≤b:=by
      cases vl with
      |none=>simp only [Cl] at ha;omega
      |some v=>obtain ⟨_,_,h⟩:=ha;exact h
     cases hx with
     |sref _ _ _ _ _ ho hex hsr=>
      obtain ⟨kk,hkk⟩:=Bf hh hi';obtain ⟨hk2,hle,hmm⟩:=hsr kk _ hkk hi' rfl;simp only [AA.len] at hle;have hbl:b≤es.length-off:=by
       cases vh with
       |none=>simp only [Cl] at hb;omega
       |some v=>obtain ⟨_,_,h⟩:=hb;exact h
      rcases hmm with ⟨rfl,hof,a0,rfl⟩|⟨bl,base,rfl,cap,rfl,hcap,hcs⟩
      ·simp only [AA.len] at hof;obtain rfl:b=0:=by omega
       obtain rfl:a=0:=by omega
       have:=B7 (P:=P) (w:=w) (isS:=true) (len:=0) (cap:=0) (by omega) (by rw [show es.length-off=0 by omega] at hb;exact hb) ha;refine ⟨_,.slice a0 0 0,hr4,by simp [Instr.sliceAt,Instr.slice,run_underlying hu,this,BJ hz],.sref _ _ _ _ _ rfl hex fun k o hk ho' hv => ?_⟩;rw [hkk] at hk;cases hk;rw [hi'] at ho';cases ho';exact ⟨rfl,by simp only [AA.len];omega,.inl ⟨rfl,by simp only [AA.len];omega,⟨_,rfl⟩⟩⟩
      ·simp only [AA.len] at hcap;have:=B7 (P:=P) (w:=w) (isS:=true) (len:=len) (cap:=cap) (by omega) hb ha;have hrun:(Instr.sliceAt t (.slice (some ⟨bl,base+off*(AA.row fz ver' size es).size,none⟩) len cap) vl vh none).run P w = .ok (.slice (if cap=a then some ⟨bl,base+off*size,none⟩ else some ⟨bl,base+off*size+a*z,none⟩) (b-a) (cap-a)) w:=by simp [Instr.sliceAt,Instr.slice,run_underlying hu,this,BJ hz,Da,AA.size]
       refine ⟨_,_,hr4,hrun,.sref _ _ _ _ _ rfl hex fun k o hk ho' hv => ?_⟩;rw [hkk] at hk;cases hk;rw [hi'] at ho';cases ho';refine ⟨rfl,by simp only [AA.len];omega,?_⟩;by_cases hca:cap=a
       ·rw [if_pos hca];exact .inl ⟨by omega,by simp only [AA.len];omega,⟨_,by rw [show b-a=0 by omega,show cap-a=0 by omega]⟩⟩
       ·rw [if_neg hca];refine .inr ⟨bl,base,rfl,cap-a,?_,by simp only [AA.len];omega,fun cells elem fr hcell => ?_⟩
        ·simp only [AA.size];rcases hsz with rfl|hsz
         ·rw [add_mul];simp [add_assoc]
         ·have hes:es=[]:=row_zero hh hi' hsz;obtain ⟨hz1,_⟩:=hh.obj i _ _ hi' hkk;exact (hz1 hsz).elim
        ·have:=hcs cells elem fr hcell;rw [show off+a+(cap-a)=off+cap from by omega];exact this
    ·cases hr1
   ·cases hr1
 ·rename_i m e hu;cases vm with
  |none=>exact hm.elim
  |some vm=>
   obtain ⟨z,hz,hr1⟩:=bind_some hr;clear hr;split at hr1
   ·rename_i size es bv;cases vh with
    |none=>exact hhi.elim
    |some vb=>
     obtain ⟨rfl,hr2⟩:=AL hr1;obtain ⟨m',hr3,hm'⟩:=BQ hr2 (y:=some vm) hm;obtain ⟨b,hr4,hb⟩:=BQ hr3 (y:=some vb) hhi;obtain ⟨a,hr5,ha⟩:=BQ hr4 hl;cases hx with
     |t _ _ ht=>
      cases ht with
      |nil _ cap ad=>
       have:=CI (P:=P) (w:=w) (isS:=true) (len:=0) (cap:=cap) (zero_le _) hm' hb ha;exact ⟨_,_,hr5,by simp [Instr.sliceAt,Instr.slice,run_underlying hu,this,BJ hz];rfl,.undef _⟩
      |sl _ _ bl off cap u h1 h2 h3 h4 h5 h6=>
       have:=CI (P:=P) (w:=w) (isS:=true) (len:=es.length) (cap:=cap) h1 hm' hb ha;exact ⟨_,_,hr5,by simp [Instr.sliceAt,Instr.slice,run_underlying hu,this,BJ hz];rfl,.undef _⟩
   ·rename_i bv;cases vh with
    |none=>exact hhi.elim
    |some vb=>
     obtain ⟨m',hr3,hm'⟩:=BQ hr1 (y:=some vm) hm;obtain ⟨b,hr4,hb⟩:=BQ hr3 (y:=some vb) hhi;obtain ⟨a,hr5,ha⟩:=BQ hr4 hl;cases hx;have:=CI (P:=P) (w:=w) (isS:=true) (len:=0) (cap:=0) (le_refl 0) hm' hb ha;exact ⟨_,_,hr5,by simp [Instr.sliceAt,Instr.slice,run_underlying hu,this,BJ hz];rfl,.undef _⟩
   ·rename_i i ver off len bv;split at hr1
    ·rename_i fz ver' size es hi';cases vh with
     |none=>exact hhi.elim
     |some vb=>
      obtain ⟨rfl,hr2⟩:=AL hr1;obtain ⟨m',hr3,hm'⟩:=BQ hr2 (y:=some vm) hm;obtain ⟨b,hr4,hb⟩:=BQ hr3 (y:=some vb) hhi;obtain ⟨a,hr5,ha⟩:=BQ hr4 hl;cases hx with
      |sref _ _ _ _ _ ho hex hsr=>
       obtain ⟨kk,hkk⟩:=Bf hh hi';obtain ⟨hk2,hle,hmm⟩:=hsr kk _ hkk hi' rfl;simp only [AA.len] at hle;rcases hmm with ⟨rfl,hof,a0,rfl⟩|⟨bl,base,rfl,cap,rfl,hcap,hcs⟩
       ·simp only [AA.len] at hof;have:=CI (P:=P) (w:=w) (isS:=true) (len:=0) (cap:=0) (by omega) hm' hb ha;exact ⟨_,_,hr5,by simp [Instr.sliceAt,Instr.slice,run_underlying hu,this,BJ hz];rfl,.undef _⟩
       ·simp only [AA.len] at hcap;have:=CI (P:=P) (w:=w) (isS:=true) (len:=len) (cap:=cap) (by omega) hm' hb ha;exact ⟨_,_,hr5,by simp [Instr.sliceAt,Instr.slice,run_underlying hu,this,BJ hz];rfl,.undef _⟩
    ·cases hr1
   ·cases hr1
 ·cases hr
end Ab
namespace Ab
open Go
variable {R:Type} {P:Program} {B:Nat→Prop} {κ:Ay} {h:Heap} {w:World}
def Aa (B:Nat→Prop) (κ:Ay) (h:Heap) (w:World) (cs:List AV) (arr:Array Value):Prop:=
 arr.size=cs.length∧∀j x,cs[j]? = some x→AR B κ h w x (arr.getD j undef)
theorem OR {x:AV} {v:Value} (hl:x.leaf=true) (hv:AR B κ h w x v):v.oneCell'=true:=by
 cases hv<;>first|rfl|assumption|(simp [AV.leaf] at hl;done)|skip
 ·exact BR.one (by assumption)
 ·have hp:∃p,v = .pointer (some p):=by assumption
  obtain ⟨p,rfl⟩:=hp;rfl
theorem R3 {v:Value} (h1:v.oneCell'=true):v.cells = #[v]:=by cases v<;>first|rfl|(simp [Value.oneCell'] at h1;done)
theorem GL {v:AV} {vs:List AV} {val:Value} (hc:v.cells=some vs) (hv:AR B κ h w v val):Aa B κ h w vs val.cells:=by
 by_cases hl:v.leaf=true
 ·have h1:=OR hl hv;rw [R3 h1];have:vs=[v]:=by cases v<;>simp_all [AV.cells,AV.leaf]
  subst this;refine ⟨rfl,fun j x hx => ?_⟩;cases j with
  |zero=>simp at hx;subst hx;simpa using hv
  |succ j=>simp at hx
 ·cases v with
  |agg cs=>
   simp [AV.cells] at hc;subst hc;cases hv with
   |agg _ vs h1 h2=>exact ⟨h1,h2⟩
  |undef=>simp [AV.cells] at hc
  |tuple _=>simp [AV.cells] at hc
  |_=>simp [AV.leaf] at hl
theorem MK (off:Nat):∀(l:List Value) (s:Nat) (arr:Array Value),
  let arr':=(l.zipIdx s).foldl (fun (cs:Array Value) (p:Value×Nat)=>cs.setIfInBounds (off+p.2) p.1) arr
  arr'.size=arr.size∧∀k,arr'.getD k undef=if off+s≤k∧k<off+s+l.length∧k<arr.size then l.getD (k-(off+s)) undef else arr.getD k undef
 |[],s,arr=>by refine ⟨rfl,fun k => ?_⟩;rw [if_neg (by simp;omega)];rfl
 |v::l,s,arr=>by
  have ih:=MK off l (s+1) (arr.setIfInBounds (off+s) v);simp only [List.zipIdx_cons,foldl_cons];simp only at ih;refine ⟨by rw [ih.1];simp,fun k => ?_⟩;rw [ih.2 k];simp only [Array.size_setIfInBounds,length_cons];by_cases h1:off+(s+1)≤k∧k<off+(s+1)+l.length∧k<arr.size
  ·rw [if_pos h1,if_pos ⟨by omega,by omega,h1.2.2⟩];rw [show k-(off+s)=(k-(off+(s+1)))+1 from by omega];rfl
  ·rw [if_neg h1];by_cases h2:k=off+s∧k<arr.size
   ·obtain ⟨rfl,h3⟩:=h2;rw [if_pos ⟨by omega,by omega,h3⟩];simp [Array.getD,h3]
   ·by_cases h3:k=off+s
    ·rw [if_neg (by omega)];have h4:arr.size≤off+s:=by omega
     subst h3;simp [Array.getD,not_lt.2 h4]
    ·rw [if_neg (by omega)];by_cases h4:k<arr.size
     ·simp [Array.getD,h4,Ne.symm h3]
     ·simp [Array.getD,h4]
theorem E5 (cs vs:List AV) (off:Nat) (hle:off+vs.length≤cs.length):(setAt cs off vs).length=cs.length∧∀j,(setAt cs off vs)[j]? = if off≤j∧j<off+vs.length then vs[j-off]? else cs[j]? :=by
 constructor
 ·simp [setAt];omega
 ·intro j;unfold setAt;by_cases h1:j<off
  ·rw [getElem?_append_left (by simp;omega),getElem?_take_of_lt h1,if_neg (by omega)]
  ·rw [getElem?_append_right (by simp;omega)];have hl:(cs.take off).length=off:=by simp;omega
   rw [hl];by_cases h2:j<off+vs.length
   ·rw [getElem?_append_left (by omega),if_pos ⟨by omega,h2⟩]
   ·rw [getElem?_append_right (by omega),getElem?_drop,if_neg (by omega)];congr 1;omega
theorem S8 {cs vs:List AV} {arr a:Array Value} {off:Nat} (h1:Aa B κ h w cs arr) (h2:Aa B κ h w vs a) (hle:off+vs.length≤cs.length) :
  Aa B κ h w (setAt cs off vs) (a.zipIdx.foldl (fun (cs:Array Value) (p:Value×Nat)=>cs.setIfInBounds (off+p.2) p.1) arr):=by
 have hz:a.zipIdx.foldl (fun (cs:Array Value) (p:Value×Nat)=>cs.setIfInBounds (off+p.2) p.1) arr=(a.toList.zipIdx 0).foldl (fun (cs:Array Value) (p:Value×Nat)=>cs.setIfInBounds (off+p.2) p.1) arr:=by rw [← Array.foldl_toList];congr 1;simp
 rw [hz];obtain ⟨f1,f2⟩:=MK off a.toList 0 arr;obtain ⟨s1,s2⟩:=E5 cs vs off hle;refine ⟨by rw [f1,s1,h1.1],fun j x hx => ?_⟩;rw [f2 j];rw [s2 j] at hx;have ha:a.toList.length=vs.length:=by simp [h2.1]
 by_cases hj:off≤j∧j<off+vs.length
 ·rw [if_pos hj] at hx;rw [if_pos ⟨by omega,by omega,by rw [h1.1];omega⟩];have:=h2.2 _ x hx;simp only [add_zero];have hlt:j-off<a.size:=by rw [h2.1];omega
  rw [show a.toList.getD (j-off) undef=a.getD (j-off) undef from by simp [Array.getD,List.getD,hlt]];exact this
 ·rw [if_neg hj] at hx;rw [if_neg (by omega)];exact h1.2 j x hx
theorem IL {place:Nat→Option (Nat×Nat)}:∀{parts:List (Nat×AV)} {cs out:List AV} {arr:Array Value} {vparts:List (Nat×Value)},Bh place cs parts=some out→Aa B κ h w cs arr→
  vparts.length=parts.length→(∀(j i:Nat) (x:AV),parts[j]? = some (i,x)→∃v,vparts[j]? = some (i,v)∧AR B κ h w x v)→∃arr',Instr.fill place arr vparts=some arr'∧Aa B κ h w out arr'
 |[],cs,out,arr,vparts,hf,hc,hl,hp=>by simp only [Bh,Option.some.injEq] at hf;subst hf;obtain rfl:vparts=[]:=eq_nil_of_length_eq_zero (by simpa using hl);exact ⟨arr,rfl,hc⟩
 |(i,x)::rest,cs,out,arr,vparts,hf,hc,hl,hp=>by
  cases vparts with
  |nil=>simp at hl
  |cons q vrest=>
   obtain ⟨v,hv1,hv2⟩:=hp 0 i x rfl;simp only [List.getElem?_cons_zero,Option.some.injEq] at hv1;subst hv1;simp only [Bh] at hf;split at hf
   ·rename_i off size vs hpl hcs;obtain ⟨⟨h1,h2⟩,hf2⟩:=AL hf;have hcv:=GL hcs hv2;have hset:=S8 (off:=off) hc hcv (by omega);obtain ⟨arr',ha,hb⟩:=IL (vparts:=vrest) hf2 hset (by simpa using hl) fun j i' x' hx'=>hp (j+1) i' x' (by simpa using hx');refine ⟨arr',?_,hb⟩;simp only [Instr.fill,hpl];have e1:v.cells.size=size:=by rw [hcv.1];exact h1
    have e2:¬(off+v.cells.size>arr.size):=by rw [e1,hc.1];omega
    simp only [e1,ne_eq,not_true_eq_false,decide_false,Bool.false_or];rw [if_neg (by rw [e1] at e2;simpa using e2)];exact ha
   ·cases hf
theorem Kx {place:Nat→Option (Nat×Nat)}:∀{parts:List (Nat×AV)} {cs out:List AV},Bh place cs parts=some out→out.length=cs.length
 |[],cs,out,hf=>by simp only [Bh,Option.some.injEq] at hf;rw [hf]
 |(i,x)::rest,cs,out,hf=>by
  simp only [Bh] at hf;split at hf
  ·obtain ⟨⟨h1,h2⟩,hf2⟩:=AL hf;rw [Kx hf2,(E5 _ _ _ (by omega)).1]
  ·cases hf
theorem CC {t:TypeId} {z:List AV} (hz:zeroCells? P t=some z):∃i v,P.info? t=some i∧i.zero=some v∧Aa B κ h w z v.cells:=by
 unfold zeroCells? at hz;cases hi:P.info? t with
 |none=>simp [hi] at hz
 |some i=>
  simp only [hi,Option.bind_some] at hz;split at hz
  ·rename_i v hv;exact ⟨i,v,rfl,hv,GL hz (KW v)⟩
  ·cases hz
theorem Sn {t:TypeId} {parts:List (Nat×AV)} {K:AV→Option R} {r:R} (hr:LW P t parts K=some r) {vparts:Array (Nat×Value)} (hl:vparts.size=parts.length)
  (hp:∀(j i:Nat) (x:AV),parts[j]? = some (i,x)→∃v,vparts.toList[j]? = some (i,v)∧AR B κ h w x v) :
  ∃v val,K v=some r∧(Instr.build t vparts).run P w = .ok val w∧AR B κ h w v val:=by
 unfold LW at hr;split at hr
 ·rename_i fs hu;split at hr
  ·rename_i places hpl;obtain ⟨z,hz,hr1⟩:=bind_some hr;obtain ⟨cs,hcs,hr2⟩:=bind_some hr1;obtain ⟨i,v,hi,hv,hc⟩:=CC (B:=B) (κ:=κ) (h:=h) (w:=w) hz;obtain ⟨arr',hf,hc'⟩:=IL (vparts:=vparts.toList) hcs hc (by simpa using hl) hp;refine ⟨_,.agg arr',hr2,run_build w t vparts arr' ?_,.agg _ _ hc'.1 hc'.2⟩;unfold Program.built;simp only [hi,hu,hv,hpl];simpa using hf
  ·cases hr
 ·rename_i n e hu;obtain ⟨s,hs,hr0⟩:=bind_some hr;obtain ⟨z,hz,hr1⟩:=bind_some hr0;obtain ⟨cs,hcs,hr2⟩:=bind_some hr1;obtain ⟨i,v,hi,hv,hc⟩:=CC (B:=B) (κ:=κ) (h:=h) (w:=w) hz;obtain ⟨arr',hf,hc'⟩:=IL (vparts:=vparts.toList) hcs hc (by simpa using hl) hp;refine ⟨_,.agg arr',hr2,run_build w t vparts arr' ?_,.agg _ _ hc'.1 hc'.2⟩;unfold Program.built;unfold BV at hs;cases hie:P.info? e with
  |none=>simp [hie] at hs
  |some ie=>
   simp only [hie,map_some,Option.some.injEq] at hs;simp only [hi,hu,hv,hie];rw [hs];exact hf
 ·cases hr
theorem Aj (w:World) (o:Obj) {b:Nat} (hb:b<w.heap.size):(w.alloc o).heap[b]? = w.heap[b]? :=by show (w.heap.push o)[b]? = w.heap[b]?;rw [getElem?_push,if_neg (ne_of_lt hb)]
theorem A5 (w:World) (o:Obj):(w.alloc o).heap[w.heap.size]? = some o:=by show (w.heap.push o)[w.heap.size]? = some o;rw [getElem?_push,if_pos rfl]
theorem Ky (hh:Ai B κ h w) {w':World} (h1:w'.os=w.os) (h2:w'.tape=w.tape) (h3:w'.output=w.output) (h4:w.heap.size≤w'.heap.size) (h5:∀b,b<w.heap.size→w'.heap[b]? = w.heap[b]?) :
  Ext κ h w κ h w':=
 ⟨h1,h2,h3,h4,fun b hb _=>h5 b hb,fun b hb =>.inl hb,fun i o ho=>⟨o,ho,.refl o⟩,fun _ _ _ _ _ _=>rfl,fun i o o' ho ho' hv b base hk cells elem fr hc=>⟨cells,by rw [← h5 b (hh.lt i b base hk)];exact hc,rfl⟩⟩
theorem Gb (hh:Ai B κ h w) {w':World} (x:Ext κ h w κ h w') (h5:∀b,b<w.heap.size→w'.heap[b]? = w.heap[b]?):Ai B κ h w':=
  ⟨hh.len,hh.inj,hh.notB,fun i b bs hk=>lt_of_lt_of_le (hh.lt i b bs hk) x.size,fun b hb=>lt_of_lt_of_le (hh.ltB b hb) x.size,
   fun i o k ho hk=>(hh.obj i o k ho hk).ext x fun b base e=>h5 b (by subst e;exact hh.lt i b base hk)⟩
theorem Gf (hh:Ai B κ h w) (o:Obj):Ext κ h w κ h (w.alloc o):=
 Ky hh rfl rfl rfl (by simp) fun _ hb=>Aj w o hb
theorem QD (hh:Ai B κ h w) (o:Obj):Ai B κ h (w.alloc o):=Gb hh (Gf hh o) fun _ hb=>Aj w o hb
theorem not_new (hh:Ai B κ h w):¬(B w.heap.size∨Ex κ h w.heap.size):=by
 rintro (hb|⟨i,base,o,hk,_,_⟩)
 ·have:=hh.ltB _ hb;omega
 ·have:=hh.lt i _ _ hk;omega
theorem I4 (s:Nat):∀(n:Nat) (xs:List Tree) (j:Nat) (e:List Tree),(chunk s n xs)[j]? = some e→j<n∧e=(xs.drop (j*s)).take s
 |0,xs,j,e,he=>by simp [chunk] at he
 |n+1,xs,j,e,he=>by
  cases j with
  |zero=>simp [chunk] at he;exact ⟨by omega,by simp [he]⟩
  |succ j=>
   simp only [chunk,getElem?_cons_succ] at he;obtain ⟨h1,h2⟩:=I4 s n (xs.drop s) j e he;exact ⟨by omega,by rw [h2,List.drop_drop];congr 2;rw [succ_mul];omega⟩
theorem MX (s:Nat):∀(n:Nat) (xs:List Tree),(chunk s n xs).length=n
 |0,xs=>rfl
 |n+1,xs=>by simp [chunk,MX s n]
theorem B8 {α:Type} (z:List α):∀n,(replicate n z).flatten.length=n*z.length
 |0=>by simp
 |n+1=>by simp [List.replicate_succ,succ_mul,Nat.add_comm]
theorem EB {α:Type} (z:List α):∀(n j:Nat),j<n*z.length→(replicate n z).flatten[j]? = z[j % z.length]?
 |0,j,hj=>by simp at hj
 |n+1,j,hj=>by
  rw [List.replicate_succ,flatten_cons];by_cases h1:j<z.length
  ·rw [getElem?_append_left h1,Nat.mod_eq_of_lt h1]
  ·have h2:z.length≤j:=by omega
   rw [getElem?_append_right h2,EB z n (j-z.length) (by rw [succ_mul] at hj;omega),← Nat.mod_eq_sub_mod h2]
theorem bsl_rel {s len:Nat} {xs:List Tree} {a:Option Addr} {w':World} (hv:len≠0→AR B κ h w' (.t (.sl s (chunk s len xs))) (.slice a len len)):AR B κ h w' (bslV s len xs) (.slice a len len):=by
 unfold bslV;split
 ·rename_i h0;subst h0;exact .nilsl a
 ·rename_i h0;exact hv h0
theorem LV {t:TypeId} {len:Nat} {parts:List (Nat×AV)} {K:AV→Option R} {r:R} (hr:DN P t h len parts K=some r) {vparts:Array (Nat×Value)} (hl:vparts.size=parts.length)
  (hp:∀(j i:Nat) (x:AV),parts[j]? = some (i,x)→∃v,vparts.toList[j]? = some (i,v)∧AR B κ h w x v) (hh:Ai B κ h w) :
  ∃v val w',K v=some r∧(Instr.buildSlice t len vparts).run P w = .ok val w'∧AR B κ h w' v val∧Ai B κ h w'∧Ext κ h w κ h w':=by
 unfold DN at hr
 try simp only [AI] at hr
 split at hr
 ·rename_i e hu;obtain ⟨s,hs,hr0⟩:=bind_some hr;obtain ⟨z,hz,hr1⟩:=bind_some hr0;obtain ⟨⟨hzl,hs0,hle⟩,hr2⟩:=AL hr1;obtain ⟨cs,hcs,hr3⟩:=bind_some hr2;obtain ⟨i,v,hi,hv,hc⟩:=CC (B:=B) (κ:=κ) (h:=h) (w:=w) hz;have hvs:v.cells.size=s:=by rw [hc.1];exact hzl
  have hc0:Aa B κ h w (replicate len z).flatten ((Array.range (len*s)).map (v.cells[· % v.cells.size]!)):=by
   refine ⟨by rw [B8,hzl];simp,fun j x hx => ?_⟩;have hj:j<len*s:=by have:=(List.getElem?_eq_some_iff.1 hx).1;rw [B8,hzl] at this;exact this
   rw [EB z len j (by rw [hzl];exact hj)] at hx;have h1:=hc.2 _ x hx;have h2:j % z.length<v.cells.size:=by rw [hvs,hzl];exact mod_lt _ (by omega)
   have h3:((Array.range (len*s)).map (v.cells[· % v.cells.size]!)).getD j undef=v.cells.getD (j % z.length) undef:=by
    have h4:j % v.cells.size<v.cells.size:=by rw [hvs];exact mod_lt _ (by omega)
    simp [Array.getD,hj,hzl,hvs,mod_lt _ (pos_of_ne_zero hs0)]
   rw [h3];exact h1
  obtain ⟨arr',hf,hc'⟩:=IL (vparts:=vparts.toList) hcs hc0 (by simpa using hl) hp;have hcsl:cs.length=len*s:=by rw [Kx hcs,B8,hzl]
  obtain ⟨xs,hr4,hxl,_,hxt⟩:=Cb (vs:=arr'.toList) hr3 hh (by simp [hc'.1]) fun j x u hx hu=>by have h1:=hc'.2 j x hx;have h2:arr'.getD j undef=u:=EX arr'.toList j undef hu;rw [h2] at h1;exact h1
  have hsz:arr'.size=len*s:=by rw [hc'.1,hcsl]
  refine ⟨_,.slice (some ⟨w.heap.size,0,none⟩) len len,w.alloc (.cells arr' e),hr4,?_,bsl_rel fun _ =>.t _ _ ?_,QD hh _,Gf hh _⟩
  ·have hz1:¬(len*s>2 ^ 24):=by omega
   have hzr:(if len*s=0 then (pure #[]:Sem (Array Value)) else do pure (← zeroValue e).cells).run P w = .ok (if len*s=0 then #[] else v.cells) w:=by split<;>simp [zeroValue,typeInfo,hi,hv]
   have hf2:Instr.fill (fun i=>some (i*s,s)) ((Array.range (len*s)).map ((if len*s=0 then #[] else v.cells)[· % (if len*s=0 then #[] else v.cells).size]!)) vparts.toList=some arr':=by
    by_cases h0:len*s=0
    ·rw [if_pos h0];rw [h0] at hf ⊢;have e0:Array.range 0 = #[]:=rfl;rw [e0] at hf ⊢;simpa using hf
    ·rw [if_neg h0];exact hf
   simp only [Instr.buildSlice,Sem.run_bind,run_underlying hu,BJ hs,Result.andThen_ok,Sem.run_ite,if_neg hz1,Sem.run_pure];by_cases h0:len*s=0
   ·rw [if_pos h0] at hf2 ⊢;simp only [hf2];rfl
   ·rw [if_neg h0] at hf2 ⊢;simp only [zeroValue,typeInfo,Sem.run_bind,run_program,Result.andThen_ok,hi,hv,Sem.run_pure,hf2];rfl
  ·have hcl:=MX s len xs;have hnew:(w.alloc (.cells arr' e)).heap.size=w.heap.size+1:=by simp
   have hA:¬(B w.heap.size∨Ex κ h w.heap.size):=not_new hh;have hel:∀(j:Nat) (e':List Tree),(chunk s len xs)[j]? = some e'→e'.length=s:=fun j e' he'=>by obtain ⟨h1,h2⟩:=I4 s len xs j e' he';rw [h2];have:(j+1)*s≤len*s:=mul_le_mul_right _ h1;rw [succ_mul] at this;simp;omega
   have hget:∀(j:Nat) (e':List Tree) (c:Nat) (x:Tree),(chunk s len xs)[j]? = some e'→e'[c]? = some x→xs[j*s+c]? = some x:=fun j e' c x he' hx=>by obtain ⟨h1,h2⟩:=I4 s len xs j e' he';rw [h2] at hx;exact (getElem?_sub hx).2
   have hlt:∀(k:Nat) (x:Tree),xs[k]? = some x→k<arr'.size:=fun k x hx=>by have:=(List.getElem?_eq_some_iff.1 hx).1;omega
   have key:=BR.sl (w:=w.alloc (.cells arr' e)) (A:=fun b=>B b∨Ex κ h b) s (chunk s len xs) w.heap.size 0 len (fun j c=>arr'.getD (j*s+c) undef) (by omega) (by omega) hA hel
    (fun j e' c x he' hx=>by have h1:=hget j e' c x he' hx;rw [BS (A5 w _) (by rw [zero_add];exact hlt _ x h1),zero_add])
    (fun j e' c x he' hx=>by have h1:=hget j e' c x he' hx;have h2:=hlt _ x h1;have h3:=hxt _ x (arr'.getD (j*s+c) undef) h1 (by simp [Array.getD,h2]);exact BR.ext (Gf hh _) (h3.less fun b hb=>hb.imp id fun e=>⟨rfl,e⟩))
   rw [hcl] at key;exact key
 ·cases hr
theorem Bs {α:Type} (l:List α) (a:α) (i:Nat) {x:α} (hx:(l++[a])[i]? = some x):(i<l.length∧l[i]? = some x)∨(i=l.length∧x=a):=by
 rcases lt_or_ge i l.length with h1|h1
 ·rw [getElem?_append_left h1] at hx;exact .inl ⟨h1,hx⟩
 ·rw [getElem?_append_right h1] at hx;cases hn:i-l.length with
  |zero=>rw [hn] at hx;simp at hx;exact .inr ⟨by omega,hx.symm⟩
  |succ n=>rw [hn] at hx;simp at hx
theorem S3 {α:Type} {l:List α} {i:Nat} {x:α} (a:α) (hx:l[i]? = some x):(l++[a])[i]? = some x:=by rw [getElem?_append_left (List.getElem?_eq_some_iff.1 hx).1];exact hx
theorem Ag {α:Type} (l:List α) (a:α):(l++[a])[l.length]? = some a:=by simp
theorem BW (hh:Ai B κ h w) {w':World} (h1:w'.os=w.os) (h2:w'.tape=w.tape) (h3:w'.output=w.output) (h4:w.heap.size≤w'.heap.size) (h5:∀b,b<w.heap.size→w'.heap[b]? = w.heap[b]?)
  {k:Option (Nat×Nat)} {o:AA} (hk:∀b base,k=some (b,base)→w.heap.size≤b):Ext κ h w (κ++[k]) (h++[o]) w' where
 os:=h1
 tape:=h2
 output:=h3
 size:=h4
 keep:=fun b hb _=>h5 b hb
 ex:=by
  rintro b ⟨i,base,o',hki,hoi,hf⟩
  rcases Bs κ k i hki with ⟨_,hki⟩|⟨rfl,he⟩
  ·rcases Bs h o i hoi with ⟨_,hoi⟩|⟨rfl,he⟩
   ·exact .inl ⟨i,base,o',hki,hoi,hf⟩
   ·have:=(List.getElem?_eq_some_iff.1 hki).1;rw [hh.len] at this;omega
  ·exact .inr (hk b base he.symm)
 obj:=fun i o' ho'=>⟨o',S3 o ho',.refl o'⟩
 kap:=fun i o1 o2 h1 h2 _=>by
  have:i<κ.length:=by rw [hh.len];exact (List.getElem?_eq_some_iff.1 h1).1
  exact getElem?_append_left this
 cells:=fun i o1 o2 ho1 ho2 _ b base hb cells elem fr hc=>⟨cells,by rw [← h5 b (hh.lt i b base hb)];exact hc,rfl⟩
theorem BI (hh:Ai B κ h w) {w':World} (h5:∀b,b<w.heap.size→w'.heap[b]? = w.heap[b]?) {k:Option (Nat×Nat)} {o:AA} (x:Ext κ h w (κ++[k]) (h++[o]) w')
  (hk:∀b base,k=some (b,base)→w.heap.size≤b∧b<w'.heap.size) (ho:Fb B (κ++[k]) (h++[o]) w' k o):Ai B (κ++[k]) (h++[o]) w' where
 len:=by simp [hh.len]
 inj:=fun i j b bs bs' hi hj=>by
  rcases Bs κ k i hi with ⟨_,hi⟩|⟨rfl,hi1⟩
  ·rcases Bs κ k j hj with ⟨_,hj⟩|⟨rfl,hj1⟩
   ·exact hh.inj i j b bs bs' hi hj
   ·have:=(hk b bs' hj1.symm).1;have:=hh.lt i b bs hi;omega
  ·rcases Bs κ k j hj with ⟨_,hj⟩|⟨rfl,hj1⟩
   ·have:=(hk b bs hi1.symm).1;have:=hh.lt j b bs' hj;omega
   ·rfl
 notB:=fun i b bs hi hB=>by
  rcases Bs κ k i hi with ⟨_,hi⟩|⟨rfl,hi1⟩
  ·exact hh.notB i b bs hi hB
  ·have:=(hk b bs hi1.symm).1;have:=hh.ltB b hB;omega
 lt:=fun i b bs hi=>by
  rcases Bs κ k i hi with ⟨_,hi⟩|⟨rfl,hi1⟩
  ·exact lt_of_lt_of_le (hh.lt i b bs hi) x.size
  ·exact (hk b bs hi1.symm).2
 ltB:=fun b hb=>lt_of_lt_of_le (hh.ltB b hb) x.size
 obj:=fun i o' k' ho' hk'=>by
  rcases Bs κ k i hk' with ⟨hlt,hk'⟩|⟨rfl,rfl⟩
  ·rcases Bs h o i ho' with ⟨_,ho'⟩|⟨rfl,_⟩
   ·exact (hh.obj i o' k' ho' hk').ext x fun b base e=>h5 b (by subst e;exact hh.lt i b base hk')
   ·rw [hh.len] at hlt;omega
  ·rcases Bs h o _ ho' with ⟨hlt,_⟩|⟨_,rfl⟩
   ·rw [hh.len] at hlt;omega
   ·exact ho
theorem Aa.ext {κ':Ay} {h':Heap} {w':World} (x:Ext κ h w κ' h' w') {cs:List AV} {arr:Array Value} (hc:Aa B κ h w cs arr):Aa B κ' h' w' cs arr:=
 ⟨hc.1,fun j y hy=>(hc.2 j y hy).ext x⟩
theorem GX {P:Program}:∀{ts:List TypeId} {vs:List AV} {h:Heap} {κ:Ay} {K:List AV→Heap→Option R} {r:R} {arr:List Value},Cp P ts vs h K=some r→Ai B κ h w→arr.length=vs.length→
  (∀(j:Nat) (x:AV) (v:Value),vs[j]? = some x→arr[j]? = some v→AR B κ h w x v)→
  ∃(vs':List AV) (g:Heap) (κ':Ay),K vs' (h++g)=some r∧Ai B κ' (h++g) w∧Ext κ h w κ' (h++g) w∧vs'.length=vs.length∧
   (∀(j:Nat) (x:AV) (v:Value),vs'[j]? = some x→arr[j]? = some v→AR B κ' (h++g) w x v)∧(vs.all AV.leaf=true→vs'.all AV.leaf=true)
 |ts,[],h,κ,K,r,arr,hr,hh,hl,hv=>⟨[],[],κ,by simpa [Cp] using hr,by simpa using hh,by simpa using Ext.refl κ h w,rfl,fun j x v hx=>by simp at hx,fun _=>rfl⟩
 |ts,x::vs,h,κ,K,r,arr,hr,hh,hl,hv=>by
  cases arr with
  |nil=>simp at hl
  |cons v arr=>
   have hx:=hv 0 x v rfl rfl;by_cases hn:x = .nilsl
   ·subst hn;simp only [Cp] at hr;generalize (EC P (ts.headD 0)).getD 0=z0 at hr;have x1:Ext κ h w (κ++[none]) (h++[.row false 0 z0 []]) w:=BW hh rfl rfl rfl (le_refl _) (fun _ _=>rfl) (fun b base e=>by cases e);have hh1:=BI hh (fun _ _=>rfl) x1 (fun b base e=>by cases e) (show Fb B (κ++[none]) (h++[.row false 0 z0 []]) w none (.row false 0 z0 []) from rfl);obtain ⟨vs',g,κ',h1,h2,h3,h4,h5,h6⟩:=GX (arr:=arr) hr hh1 (by simpa using hl) fun j x' v' hx' hv'=>(hv (j+1) x' v' (by simpa using hx') (by simpa using hv')).ext x1;refine ⟨_,.row false 0 z0 []::g,κ',by simpa using h1,by simpa using h2,by simpa using x1.trans h3,by simp [h4],fun j x' v' hx' hv' => ?_,fun ha=>by simp only [all_cons,and_eq_true] at ha ⊢;exact ⟨rfl,h6 ha.2⟩⟩
    cases j with
    |zero=>
     simp at hx' hv';subst hx' hv';cases hx with|nilsl a0=>
     have hnew:(h++[AA.row false 0 z0 []])[h.length]? = some (.row false 0 z0 []):=Ag h _;have hkn:(κ++[none])[h.length]? = some none:=by rw [← hh.len];exact Ag κ _
     have hs:AR B (κ++[none]) (h++[.row false 0 z0 []]) w (.sref h.length 0 0 0) (.slice a0 0 0):=by refine .sref _ _ _ _ _ rfl ⟨_,hnew,le_refl _⟩ fun k o hk ho _ => ?_;rw [hkn] at hk;cases hk;rw [hnew] at ho;cases ho;exact ⟨rfl,by simp [AA.len],.inl ⟨rfl,by simp [AA.len],⟨_,rfl⟩⟩⟩
     simpa using hs.ext h3
    |succ j=>simpa using h5 j x' v' (by simpa using hx') (by simpa using hv')
   ·have hr':(Cp P ts.tail vs h fun vs' h'=>K (x::vs') h')=some r:=by rw [← hr];cases x<;>first|exact (hn rfl).elim|rfl
    obtain ⟨vs',g,κ',h1,h2,h3,h4,h5,h6⟩:=GX (arr:=arr) hr' hh (by simpa using hl) fun j x' v' hx' hv'=>hv (j+1) x' v' (by simpa using hx') (by simpa using hv');refine ⟨_,g,κ',h1,h2,h3,by simp [h4],fun j x' v' hx' hv' => ?_,fun ha => ?_⟩
    ·cases j with
     |zero=>simp at hx' hv';subst hx' hv';exact hx.ext h3
     |succ j=>exact h5 j x' v' (by simpa using hx') (by simpa using hv')
    ·simp only [all_cons,and_eq_true] at ha ⊢;exact ⟨ha.1,h6 ha.2⟩
theorem GN {P:Program} {t0:TypeId} {cs:List AV} {K:AV→Heap→Option R} {r:R} (hr:DZ P t0 cs h K=some r) (hh:Ai B κ h w) {arr:Array Value} (hc:Aa B κ h w cs arr) (t:TypeId) :
  ∃v h' κ',K v h'=some r∧AR B κ' h' (w.alloc (.cells arr t)) v (.pointer (some ⟨w.heap.size,0,none⟩))∧Ai B κ' h' (w.alloc (.cells arr t))∧Ext κ h w κ' h' (w.alloc (.cells arr t)):=by
 unfold DZ at hr;obtain ⟨vs',g,κ1,hK,hh1,x1,hl,hv,_⟩:=GX (arr:=arr.toList) hr hh (by simp [hc.1]) fun j x v hx hv=>by have h1:=hc.2 j x hx;rwa [EX arr.toList j undef hv] at h1
 have h5:∀b,b<w.heap.size→(w.alloc (.cells arr t)).heap[b]? = w.heap[b]? :=fun b hb=>Aj w _ hb;have x2:Ext κ1 (h++g) w (κ1++[some (w.heap.size,0)]) ((h++g)++[.box vs']) (w.alloc (.cells arr t)):=
  BW (w':=w.alloc (.cells arr t)) hh1 rfl rfl rfl (by simp) h5 fun b base e=>by injection e with e;injection e with e;omega
 have hh2:=BI hh1 h5 x2 (fun b base e=>by injection e with e;injection e with e;subst e;exact ⟨le_refl _,by simp⟩)
  ⟨rfl,arr,t,A5 w _,by rw [hl];exact hc.1,fun j x hx=>by
   have hj:j<arr.size:=by rw [hc.1,← hl];exact (List.getElem?_eq_some_iff.1 hx).1
   exact (hv j x (arr.getD j undef) hx (by simp [Array.getD,hj])).ext x2⟩
 refine ⟨_,_,_,hK,?_,hh2,x1.trans x2⟩;have hk:(κ1++[some (w.heap.size,0)])[(h++g).length]? = some (some (w.heap.size,0)):=by rw [← hh1.len];exact Ag κ1 _
 exact .ptr _ 0 w.heap.size 0 hk ⟨vs',Ag _ _⟩
theorem Nb {P:Program} {t:TypeId} {len:Nat} {parts:List (Nat×AV)} {vparts:Array (Nat×Value)} {K:AV→Heap→Option R} {r:R} (hr:Dt P t h len parts K=some r) (hl:vparts.size=parts.length)
  (hp:∀(j i:Nat) (x:AV),parts[j]? = some (i,x)→∃v,vparts.toList[j]? = some (i,v)∧AR B κ h w x v) (hh:Ai B κ h w) :
  ∃v h' κ' val w',K v h'=some r∧(Instr.buildSlice t len vparts).run P w = .ok val w'∧AR B κ' h' w' v val∧Ai B κ' h' w'∧Ext κ h w κ' h' w':=by
 unfold Dt at hr
 try simp only [AI] at hr
 split at hr
 ·rename_i e hu;obtain ⟨s,hs,hr0⟩:=bind_some hr;obtain ⟨z,hz,hr1⟩:=bind_some hr0;obtain ⟨⟨hzl,hs0,hl0,hle⟩,hr2⟩:=AL hr1;obtain ⟨cs,hcs,hK⟩:=bind_some hr2;obtain ⟨i,v,hi,hv,hc⟩:=CC (B:=B) (κ:=κ) (h:=h) (w:=w) hz;have hvs:v.cells.size=s:=by rw [hc.1];exact hzl
  have hc0:Aa B κ h w (replicate len z).flatten ((Array.range (len*s)).map (v.cells[· % v.cells.size]!)):=by
   refine ⟨by rw [B8,hzl];simp,fun j x hx => ?_⟩;have hj:j<len*s:=by have:=(List.getElem?_eq_some_iff.1 hx).1;rw [B8,hzl] at this;exact this
   rw [EB z len j (by rw [hzl];exact hj)] at hx;have h1:=hc.2 _ x hx;have h2:j % z.length<v.cells.size:=by rw [hvs,hzl];exact mod_lt _ (by omega)
   have h3:((Array.range (len*s)).map (v.cells[· % v.cells.size]!)).getD j undef=v.cells.getD (j % z.length) undef:=by
    have h4:j % v.cells.size<v.cells.size:=by rw [hvs];exact mod_lt _ (by omega)
    simp [Array.getD,hj,hzl,hvs,mod_lt _ (pos_of_ne_zero hs0)]
   rw [h3];exact h1
  obtain ⟨arr',hf,hc'⟩:=IL (vparts:=vparts.toList) hcs hc0 (by simpa using hl) hp;have hcsl:cs.length=len*s:=by rw [Kx hcs,B8,hzl]
  have h0:¬len*s=0:=fun h=>(Nat.mul_eq_zero.1 h).elim hl0 hs0;have h5:∀b,b<w.heap.size→(w.alloc (.cells arr' e)).heap[b]? = w.heap[b]? :=fun b hb=>Aj w _ hb;have x2:Ext κ h w (κ++[some (w.heap.size,0)]) (h++[.box cs]) (w.alloc (.cells arr' e)):=
   BW (w':=w.alloc (.cells arr' e)) hh rfl rfl rfl (by simp) h5 fun b base e=>by injection e with e;injection e with e;omega
  have hh2:=BI hh h5 x2 (fun b base e=>by injection e with e;injection e with e;subst e;exact ⟨le_refl _,by simp⟩)
   ⟨rfl,arr',e,A5 w _,hc'.1,fun j x hx=>by
    have hj:j<arr'.size:=by rw [hc'.1];exact (List.getElem?_eq_some_iff.1 hx).1
    exact (hc'.2 j x hx).ext x2⟩
  have hk:(κ++[some (w.heap.size,0)])[h.length]? = some (some (w.heap.size,0)):=by rw [← hh.len];exact Ag κ _
  refine ⟨_,_,_,.slice (some ⟨w.heap.size,0,none⟩) len len,w.alloc (.cells arr' e),hK,?_,?_,hh2,x2⟩
  ·have hz1:¬(len*s>2 ^ 24):=by omega
   have hzr:(zeroValue e).run P w = .ok v w:=by simp [zeroValue,typeInfo,hi,hv]
   simp only [Instr.buildSlice,Sem.run_bind,run_underlying hu,BJ hs,Result.andThen_ok,Sem.run_ite,if_neg hz1,Sem.run_pure];rw [if_neg h0];simp only [hzr,Result.andThen_ok,hf];rfl
  ·exact .bsl _ 0 len s len w.heap.size hk ⟨cs,Ag _ _,by omega⟩ (le_refl _)
 ·cases hr
theorem Dv {α:Type} {l:List α} {i:Nat} {a:α} {j:Nat} {x:α} (hx:(l.set i a)[j]? = some x):(j=i∧i<l.length∧x=a)∨(j≠i∧l[j]? = some x):=by
 rw [List.getElem?_set] at hx;by_cases hij:i=j
 ·subst hij;rw [if_pos rfl] at hx;split at hx
  ·rename_i hl;cases hx;exact .inl ⟨rfl,hl,rfl⟩
  ·cases hx
 ·rw [if_neg hij] at hx;exact .inr ⟨fun e=>hij e.symm,hx⟩
theorem Ao {α:Type} {l:List α} {i:Nat} {a x:α} (hx:l[i]? = some x):(l.set i a)[i]? = some a:=by have:=(List.getElem?_eq_some_iff.1 hx).1;simp [this]
theorem CU {α:Type} {l:List α} {i j:Nat} {a:α} (hij:j≠i):(l.set i a)[j]? = l[j]? :=by rw [List.getElem?_set,if_neg (Ne.symm hij)]
theorem CR (hh:Ai B κ h w) {i:Nat} {o o':AA} (hi:h[i]? = some o) (hf:o.JY=false) (hOL:OLe o o') {k k':Option (Nat×Nat)} (hk:κ[i]? = some k) {w':World}
  (h1:w'.os=w.os) (h2:w'.tape=w.tape) (h3:w'.output=w.output) (h4:w.heap.size≤w'.heap.size)
  (h5:∀b,b<w.heap.size→(∀base,k≠some (b,base))→w'.heap[b]? = w.heap[b]?)
  (h6:∀b base,k'=some (b,base)→(∃base0,k=some (b,base0))∨w.heap.size≤b)
  (h7:o.ver=o'.ver→k'=k∧∀b base,k=some (b,base)→∀cells elem fr,w'.heap[b]? = some (.cells cells elem fr)→∃cells',w.heap[b]? = some (.cells cells' elem fr)∧cells'.size=cells.size) :
  Ext κ h w (κ.set i k') (h.set i o') w' where
 os:=h1
 tape:=h2
 output:=h3
 size:=h4
 keep:=fun b hb hn=>h5 b hb fun base e=>hn ⟨i,base,o,by rw [hk,e],hi,hf⟩
 ex:=by
  rintro b ⟨j,base,oj,hkj,hoj,hfj⟩
  rcases Dv hkj with ⟨rfl,_,e⟩|⟨hne,hkj⟩
  ·rcases h6 b base e.symm with ⟨base0,e0⟩|hle
   ·exact .inl ⟨_,base0,o,by rw [hk,e0],hi,hf⟩
   ·exact .inr hle
  ·rw [CU hne] at hoj;exact .inl ⟨j,base,oj,hkj,hoj,hfj⟩
 obj:=fun j oj hoj=>by
  by_cases hij:j=i
  ·subst hij;rw [hi] at hoj;cases hoj;exact ⟨o',Ao hi,hOL⟩
  ·exact ⟨oj,by rw [CU hij];exact hoj,.refl oj⟩
 kap:=fun j o1 o2 ho1 ho2 hv=>by
  by_cases hij:j=i
  ·subst hij;rw [hi] at ho1;cases ho1;rw [Ao hi] at ho2;cases ho2;rw [Ao hk,hk,(h7 hv).1]
  ·rw [CU hij]
 cells:=fun j o1 o2 ho1 ho2 hv b base hkb cells elem fr hc=>by
  by_cases hij:j=i
  ·subst hij;rw [hi] at ho1;cases ho1;rw [Ao hi] at ho2;cases ho2;rw [hk] at hkb;cases hkb;exact (h7 hv).2 b base rfl cells elem fr hc
  ·refine ⟨cells,?_,rfl⟩;rw [← h5 b (hh.lt j b base hkb) fun base' e=>hij (hh.inj j i b base base' hkb (by rw [hk,e]))];exact hc
theorem Br (hh:Ai B κ h w) {i:Nat} {o o':AA} (hi:h[i]? = some o) {k k':Option (Nat×Nat)} (hk:κ[i]? = some k) {w':World}
  (h5:∀b,b<w.heap.size→(∀base,k≠some (b,base))→w'.heap[b]? = w.heap[b]?)
  (h6:∀b base,k'=some (b,base)→((∃base0,k=some (b,base0))∨w.heap.size≤b)∧b<w'.heap.size)
  (x:Ext κ h w (κ.set i k') (h.set i o') w') (ho:Fb B (κ.set i k') (h.set i o') w' k' o'):Ai B (κ.set i k') (h.set i o') w' where
 len:=by simp [hh.len]
 inj:=fun a j b bs bs' ha hj=>by
  by_cases hai:a=i
  ·by_cases hji:j=i
   ·rw [hai,hji]
   ·rcases Dv hj with ⟨e,_,_⟩|⟨_,hj⟩
    ·exact (hji e).elim
    rcases Dv ha with ⟨_,_,e1⟩|⟨hne1,_⟩
    ·rcases (h6 b bs e1.symm).1 with ⟨b0,e0⟩|hle
     ·rw [hai];exact (hh.inj j i b bs' b0 hj (by rw [hk,e0])).symm
     ·have:=hh.lt j b bs' hj;omega
    ·exact (hne1 hai).elim
  ·rcases Dv ha with ⟨e,_,_⟩|⟨_,ha⟩
   ·exact (hai e).elim
   by_cases hji:j=i
   ·rcases Dv hj with ⟨_,_,e1⟩|⟨hne1,_⟩
    ·rcases (h6 b bs' e1.symm).1 with ⟨b0,e0⟩|hle
     ·rw [hji];exact hh.inj a i b bs b0 ha (by rw [hk,e0])
     ·have:=hh.lt a b bs ha;omega
    ·exact (hne1 hji).elim
   ·rcases Dv hj with ⟨e,_,_⟩|⟨_,hj⟩
    ·exact (hji e).elim
    ·exact hh.inj a j b bs bs' ha hj
 notB:=fun a b bs ha hB=>by
  rcases Dv ha with ⟨rfl,_,e1⟩|⟨hne1,ha⟩
  ·rcases (h6 b bs e1.symm).1 with ⟨b0,e0⟩|hle
   ·exact hh.notB _ b b0 (by rw [hk,e0]) hB
   ·have:=hh.ltB b hB;omega
  ·exact hh.notB a b bs ha hB
 lt:=fun a b bs ha=>by
  rcases Dv ha with ⟨rfl,_,e1⟩|⟨hne1,ha⟩
  ·exact (h6 b bs e1.symm).2
  ·exact lt_of_lt_of_le (hh.lt a b bs ha) x.size
 ltB:=fun b hb=>lt_of_lt_of_le (hh.ltB b hb) x.size
 obj:=fun j oj kj hoj hkj=>by
  by_cases hij:j=i
  ·subst hij;rw [Ao hi] at hoj;cases hoj;rw [Ao hk] at hkj;cases hkj;exact ho
  ·rw [CU hij] at hoj hkj;refine (hh.obj j oj kj hoj hkj).ext x fun b base e => ?_;subst e;exact h5 b (hh.lt j b base hkj) fun base' e'=>hij (hh.inj j i b base base' hkj (by rw [hk,e']))
end Ab
namespace Ab
open Go
variable {R:Type} {P:Program} {B:Nat→Prop} {κ:Ay} {h:Heap} {w:World}
def Ah (cells:Array Value) (o:Nat) (vals:List Value):Array Value:=(cells.toList.take o++vals++cells.toList.drop (o+vals.length)).toArray
theorem CD (cells:Array Value) (o:Nat) (vals:List Value) (hle:o+vals.length≤cells.size):(Ah cells o vals).size=cells.size:=by simp [Ah];omega
theorem BP {α:Type} (l:List α) (j:Nat) (d:α):l.toArray.getD j d=l.getD j d:=by simp [Array.getD,List.getD];split<;>simp_all
theorem BH (cells:Array Value) (o:Nat) (vals:List Value) (hle:o+vals.length≤cells.size) (j:Nat) :
  (Ah cells o vals).getD j undef=if o≤j∧j<o+vals.length then vals.getD (j-o) undef else cells.getD j undef:=by
 unfold Ah;rw [BP];have hl:(cells.toList.take o).length=o:=by simp;omega
 simp only [List.getD];by_cases h1:j<o
 ·rw [append_assoc,getElem?_append_left (by omega),getElem?_take_of_lt h1,if_neg (by omega)];have:j<cells.size:=by omega
  simp [Array.getD,this]
 ·by_cases h2:j<o+vals.length
  ·rw [getElem?_append_left (by simp;omega),getElem?_append_right (by omega),hl,if_pos ⟨by omega,h2⟩]
  ·rw [getElem?_append_right (by simp;omega),if_neg (by omega),getElem?_drop];have:(cells.toList.take o++vals).length=o+vals.length:=by simp;omega
   rw [this,show o+vals.length+(j-(o+vals.length))=j from by omega];by_cases h3:j<cells.size
   ·simp [Array.getD,h3]
   ·simp [Array.getD,h3]
theorem LY.cell {z b o:Nat} {cells:Array Value} {el:TypeId} {fr:Nat×Nat} (ht:LY z cells.size fr) (hb:w.heap[b]? = some (.cells cells el fr)) (ho:o<cells.size):w.frozen? ⟨b,o,none⟩=false:=by
 obtain ⟨lo,hi⟩:=fr;rcases ht with h|⟨_,h⟩
 ·cases h;simp [World.frozen?,hb]
 ·simp only [World.frozen?,hb,Bool.and_eq_false_iff,decide_eq_false_iff_not];left;simp only at h;omega
theorem BU (P:Program) (g o z:Nat) (t:TypeId) (fr:Nat×Nat):∀(vs:List Value) (i:Nat) (cur:Array Value) (w:World),w.heap[g]? = some (.cells cur t fr)→LY z cur.size fr→o+i+vs.length≤cur.size→(∀v∈vs,v.oneCell'=true)→
  (storeCells ⟨g,o,none⟩ vs i).run P w = .ok () (w.setRow g (cur.toList.take (o+i)++vs++cur.toList.drop (o+i+vs.length)).toArray)
 |[],i,cur,w,hg,_,_,_=>by simp only [storeCells,append_nil,length_nil,add_zero,List.take_append_drop,toArray_toList];rw [setRow_self w g cur t fr hg];rfl
 |v::rest,i,cur,w,hg,ht,hl,h1=>by
  have hi:o+i<cur.size:=by simp at hl;omega
  have hadd:(⟨g,o,none⟩:Addr).add i=⟨g,o+i,none⟩:=by unfold Addr.add;split<;>simp_all
  have hcell:w.cell? ⟨g,o+i,none⟩=some cur[o+i]:=by simp [World.cell?,hg,hi]
  have hfro:w.frozen? ⟨g,o+i,none⟩=false:=ht.cell hg hi;have hst:(store ((⟨g,o,none⟩:Addr).add i) v).run P w = .ok () (w.setRow g (cur.setIfInBounds (o+i) v)):=by rw [hadd,run_store P w _ v _ (h1 v (by simp)),hcell];simp [hfro,setCell_eq_setRow w g (o+i) cur t fr v hg]
  have ih:=BU P g o z t fr rest (i+1) (cur.setIfInBounds (o+i) v) (w.setRow g (cur.setIfInBounds (o+i) v)) (setRow_heap w g cur _ t _ hg) (by simpa using ht) (by simp at hl ⊢;omega) (fun x hx=>h1 x (by simp [hx]));simp only [storeCells,Sem.run_bind,hst,Result.andThen_ok,ih,setRow_setRow];congr 3;have e:=list_seg_step cur.toList (o+i) v rest (by simp at hl ⊢;omega);simpa [Array.toList_setIfInBounds,add_assoc] using e
theorem Hm {t:TypeId} {n:Nat} (hn:BV P t=some n) {b o:Nat} {cells:Array Value} {elem:TypeId} {fr:Nat×Nat} {z:Nat} (hb:w.heap[b]? = some (.cells cells elem fr)) (hth:LY z cells.size fr) {val:Value} (hv:val.cells.size=n)
  (hle:o+n≤cells.size) (h1:∀v∈val.cells.toList,v.oneCell'=true) :
  (Instr.storeAt t (.pointer (some ⟨b,o,none⟩)) val).run P w = .ok () (w.setRow b (Ah cells o val.cells.toList)):=by
 have hst:=BU P b o z elem fr val.cells.toList 0 cells w hb hth (by simp [hv];omega) h1;simp only [Instr.storeAt,Instr.sureAddr,storeVar,Sem.run_bind,Sem.run_pure,Result.andThen_ok,BJ hn,Sem.run_ite];rw [if_neg (by simp [hv])];simp only [hst,add_zero];rfl
theorem setRow_other (w:World) (g:Nat) (cs:Array Value) {b:Nat} (hb:b≠g):(w.setRow g cs).heap[b]? = w.heap[b]? :=by simp [World.setRow,getElem?_modify,Ne.symm hb]
theorem setRow_size (w:World) (g:Nat) (cs:Array Value):(w.setRow g cs).heap.size=w.heap.size:=by simp [World.setRow]
theorem NY {vs:List AV} {vals:List Value} (hl:vs.all AV.leaf=true) (hlen:vals.length=vs.length) (hv:∀(j:Nat) (x:AV) (v:Value),vs[j]? = some x→vals[j]? = some v→AR B κ h w x v) :
  ∀v∈vals,v.oneCell'=true:=by
 intro v hm;obtain ⟨j,hj,rfl⟩:=List.getElem_of_mem hm;have hj':j<vs.length:=by omega
 refine OR ?_ (hv j vs[j] vals[j] (getElem?_eq_getElem hj') (getElem?_eq_getElem hj));exact (all_eq_true.1 hl) _ (getElem_mem hj')
theorem Bb {cs:List AV} {arr:Array Value} (hc:Aa B κ h w cs arr) (j:Nat) (x:AV) (v:Value) (hx:cs[j]? = some x) (hv:arr.toList[j]? = some v):AR B κ h w x v:=by have h1:=hc.2 j x hx;rwa [EX arr.toList j undef hv] at h1
theorem Io (hh:Ai B κ h w):∀{os vs:List AV} {K:List AV→Option R} {r:R},Ce h os vs K=some r→(∀(j:Nat) (o:AV),os[j]? = some o→∃v,AR B κ h w o v)→
  ∀{arr:List Value},(∀(j:Nat) (x:AV) (v:Value),vs[j]? = some x→arr[j]? = some v→AR B κ h w x v)→∃vs',K vs'=some r∧vs'.length=vs.length∧∀(j:Nat) (x:AV) (v:Value),vs'[j]? = some x→arr[j]? = some v→AR B κ h w x v
 |os,[],K,r,hr,_,arr,hv=>⟨[],by cases os<;>simpa [Ce] using hr,rfl,hv⟩
 |[],v::vs,K,r,hr,_,arr,hv=>⟨v::vs,by simpa [Ce] using hr,rfl,hv⟩
 |o::os,v::vs,K,r,hr,ho,arr,hv=>by
  have hos:∀(j:Nat) (x:AV),os[j]? = some x→∃v,AR B κ h w x v:=fun j x hx=>ho (j+1) x (by simpa using hx);have plain:(Ce h os vs fun vs'=>K (v::vs'))=some r→∃vs',K vs'=some r∧vs'.length=(v::vs).length∧∀(j:Nat) (x:AV) (u:Value),vs'[j]? = some x→arr[j]? = some u→AR B κ h w x u:=fun hr=>by
   obtain ⟨vs',h1,h2,h3⟩:=Io hh hr hos (arr:=arr.tail) fun j x u hx hu=>hv (j+1) x u (by simpa using hx) (by cases arr<;>simp at hu ⊢;exact hu);refine ⟨v::vs',h1,by simp [h2],fun j x u hx hu => ?_⟩;cases j with
   |zero=>exact hv 0 x u (by simpa using hx) hu
   |succ j=>exact h3 j x u (by simpa using hx) (by cases arr<;>simp at hu ⊢;exact hu)
  unfold Ce at hr;split at hr
  ·rename_i i ver off len;split at hr
   ·rename_i f ver' size es hi
    try simp only [AI] at hr
    obtain ⟨rfl,hr⟩:=AL hr;obtain ⟨vs',h1,h2,h3⟩:=Io hh hr hos (arr:=arr.tail) fun j x u hx hu=>hv (j+1) x u (by simpa using hx) (by cases arr<;>simp at hu ⊢;exact hu);refine ⟨_,h1,by simp [h2],fun j x u hx hu => ?_⟩;cases j with
    |zero=>
     simp at hx;subst hx;have hn:AR B κ h w .nilsl u:=hv 0 .nilsl u rfl hu;obtain ⟨v0,hv0⟩:=ho 0 _ rfl;cases hn with
     |nilsl a0=>
      cases hv0 with
      |sref _ _ _ _ _ _ hex hsr=>
       refine .sref _ _ _ _ _ rfl hex fun k o hk ho' he => ?_;have:=hsr k o hk ho' he;rw [hi] at ho';cases ho';exact ⟨this.1,by simp [AA.len],.inl ⟨rfl,by simp [AA.len],⟨_,rfl⟩⟩⟩
    |succ j=>exact h3 j x u (by simpa using hx) (by cases arr<;>simp at hu ⊢;exact hu)
   ·exact plain hr
  ·exact plain hr
theorem Ma {t:TypeId} {a v:AV} {K:Heap→Option R} {r:R} (hr:Ed P t h a v K=some r) (hh:Ai B κ h w) {va vv:Value} (ha:AR B κ h w a va) (hv:AR B κ h w v vv) :
  ∃h' κ' w',K h'=some r∧(Instr.storeAt t va vv).run P w = .ok () w'∧Ai B κ' h' w'∧Ext κ h w κ' h' w':=by
 unfold Ed at hr
 try simp only [AI] at hr
 split at hr
 ·rename_i vs n hvs hn;obtain ⟨⟨hlen,hleaf⟩,hr1⟩:=AL hr;clear hr;have hc:=GL hvs hv;have hone:=NY hleaf (by simp [hc.1]) (Bb hc);split at hr1
  ·rename_i i off;split at hr1
   ·rename_i cs hi;obtain ⟨hle,hr2⟩:=AL hr1;have hold:∀(j:Nat) (o:AV),(cs.drop off)[j]? = some o→∃v,AR B κ h w o v:=fun j o ho=>by
     cases ha with
     |ptr _ _ b base hk _=>
      obtain ⟨_,cells0,elem0,_,_,hcv0⟩:=hh.obj i _ _ hi hk;exact ⟨_,hcv0 (off+j) o (by rw [getElem?_drop] at ho;exact ho)⟩
    obtain ⟨vs1,hr3,hl1,hv1⟩:=Io (arr:=vv.cells.toList) hh hr2 hold (Bb hc);obtain ⟨vs',g,κ1,hK,hh1,x1,hl',hv',_⟩:=GX (arr:=vv.cells.toList) hr3 hh (by simp [hc.1,hl1]) hv1;rw [hl1] at hl';have hi1:(h++g)[i]? = some (.box cs):=by rw [getElem?_append_left (List.getElem?_eq_some_iff.1 hi).1];exact hi
    cases ha with
    |ptr _ _ b base hk _=>
     obtain ⟨o',ho',_⟩:=x1.obj i _ hi;have hk1:κ1[i]? = some (some (b,base)):=(x1.kap i _ _ hi hi1 rfl).trans hk;obtain ⟨hb0,cells,elem,hcell,hs,hcv⟩:=hh1.obj i _ _ hi1 hk1;subst hb0;have hvl:vv.cells.toList.length=n:=by simp [hc.1,hlen]
     have hrun:=Hm (P:=P) (o:=0+off) (z:=0) hn hcell (.inl rfl) (val:=vv) (by simpa using hvl) (by omega) hone;have hsz:=CD cells (0+off) vv.cells.toList (by omega);have hnew:=setRow_heap w b cells (Ah cells (0+off) vv.cells.toList) elem _ hcell;obtain ⟨s1,s2⟩:=E5 cs vs' off (by omega);have x2:Ext κ1 (h++g) w (κ1.set i (some (b,0))) ((h++g).set i (.box (setAt cs off vs'))) (w.setRow b (Ah cells (0+off) vv.cells.toList)):=by refine CR (o' :=.box (setAt cs off vs')) (k':=some (b,0)) (w':=w.setRow b (Ah cells (0+off) vv.cells.toList)) hh1 hi1 rfl ⟨rfl,le_refl _,(fun _=>⟨rfl,by simp [AA.len,s1]⟩),(fun e=>by cases e),(fun _=>by simp [AA.len,s1]),rfl⟩ hk1 rfl rfl rfl (by rw [setRow_size];exact le_refl _) (fun b' _ hb'=>setRow_other w b _ fun e=>hb' 0 (by rw [e])) (fun b' base' e=>by injection e with e;injection e with e1 e2;subst e1;exact .inl ⟨0,rfl⟩) (fun _=>⟨rfl,fun b' base' e cells' elem' fr' hc' => ?_⟩);cases e;rw [hnew] at hc';cases hc';exact ⟨cells,hcell,hsz.symm⟩
     refine ⟨_,_,_,hK,hrun,Br hh1 hi1 hk1 (fun b' _ hb'=>setRow_other w b _ fun e=>hb' 0 (by rw [e])) (fun b' base' e=>by injection e with e;injection e with e1 e2;subst e1;exact ⟨.inl ⟨0,rfl⟩,by rw [setRow_size];exact hh1.lt i b 0 hk1⟩) x2 ?_,x1.trans x2⟩;refine ⟨rfl,_,elem,hnew,by rw [hsz,s1,hs],fun j x hx => ?_⟩;rw [s2 j] at hx;rw [BH cells _ _ (by omega)];by_cases hj:off≤j∧j<off+vs'.length
     ·rw [if_pos hj] at hx;rw [if_pos ⟨by omega,by omega⟩];have hjl:j-off<vv.cells.toList.length:=by omega
      refine (hv' (j-off) x _ hx ?_).ext x2;rw [zero_add];exact BN _ _ _ hjl
     ·rw [if_neg hj] at hx;rw [if_neg (by omega)];exact (hcv j x hx).ext x2
   ·cases hr1
  ·rename_i i ver k off;split at hr1
   ·rename_i ver' size es hi;obtain ⟨⟨rfl,hle⟩,hr2⟩:=AL hr1;clear hr1;obtain ⟨e,he,hr3⟩:=bind_some hr2;obtain ⟨ys,hK,hyl,_,hyt⟩:=Cb (vs:=vv.cells.toList) hr3 hh (by simp [hc.1]) (Bb hc);cases ha with
    |rptr _ _ _ _ _ _ hex hv2=>
     obtain ⟨b,base,hk,rfl,_,_⟩:=hv2 _ hi rfl;obtain ⟨hz0,cells,elem,fr,hcell,hth,hs,hls,hcv⟩:=hh.obj i _ _ hi hk;have hkl:k<es.length:=(List.getElem?_eq_some_iff.1 he).1;have hmul:k*size+size≤es.length*size:=by rw [← succ_mul];exact mul_le_mul_right _ hkl
     have hvl:vv.cells.toList.length=n:=by simp [hc.1,hlen]
     have hel:=hls k e he;simp only [AA.size];have hrun:=Hm (P:=P) (o:=base+(k*size+off)) hn hcell hth (val:=vv) (by simpa using hvl) (by omega) hone;have hsz:=CD cells (base+(k*size+off)) vv.cells.toList (by omega);have hnew:=setRow_heap w b cells (Ah cells (base+(k*size+off)) vv.cells.toList) elem _ hcell;have hset:(κ.set i (some (b,base)))=κ:=by
      apply ext_getElem?;intro j;by_cases hij:j=i
      ·rw [hij,Ao hk,hk]
      ·rw [CU hij]
     have x2:Ext κ h w κ (h.set i (.row false ver' size (es.set k (e.take off++(ys++e.drop (off+n)))))) (w.setRow b (Ah cells (base+(k*size+off)) vv.cells.toList)):=by
      have x2':Ext κ h w (κ.set i (some (b,base))) (h.set i (.row false ver' size (es.set k (e.take off++(ys++e.drop (off+n)))))) (w.setRow b (Ah cells (base+(k*size+off)) vv.cells.toList)):=by refine CR (o' :=.row false ver' size (es.set k (e.take off++(ys++e.drop (off+n))))) (k':=some (b,base)) (w':=w.setRow b (Ah cells (base+(k*size+off)) vv.cells.toList)) hh hi rfl ⟨rfl,le_refl _,(fun _=>⟨rfl,by simp [AA.len]⟩),(fun e=>by cases e),(fun e=>by cases e),rfl⟩ hk rfl rfl rfl (by rw [setRow_size];exact le_refl _) (fun b' _ hb'=>setRow_other w b _ fun e=>hb' base (by rw [e])) (fun b' base' e=>by injection e with e;injection e with e1 e2;subst e1;exact .inl ⟨base,rfl⟩) (fun _=>⟨rfl,fun b' base' e cells' elem' fr' hc' => ?_⟩);cases e;rw [hnew] at hc';cases hc';exact ⟨cells,hcell,hsz.symm⟩
      rw [hset] at x2';exact x2'
     have hh2:Ai B (κ.set i (some (b,base))) (h.set i (.row false ver' size (es.set k (e.take off++(ys++e.drop (off+n)))))) (w.setRow b (Ah cells (base+(k*size+off)) vv.cells.toList)):=by
      refine Br hh hi hk (fun b' _ hb'=>setRow_other w b _ fun e=>hb' base (by rw [e])) (fun b' base' e=>by injection e with e;injection e with e1 e2;subst e1;exact ⟨.inl ⟨base,rfl⟩,by rw [setRow_size];exact hh.lt i b base hk⟩) (by rw [hset];exact x2) ?_;rw [hset];have hnl:(e.take off++(ys++e.drop (off+n))).length=size:=by simp;omega
      refine ⟨hz0,_,elem,fr,hnew,by rw [hsz];exact hth,by rw [hsz];simpa using hs,fun j e' he' => ?_,fun j e' c x he' hx => ?_⟩
      ·rcases Dv he' with ⟨rfl,_,rfl⟩|⟨_,he'⟩
       ·exact hnl
       ·exact hls j e' he'
      ·rw [BH cells _ _ (by omega),hvl];rcases Dv he' with ⟨rfl,_,rfl⟩|⟨hne,he'⟩
       ·have hcl:c<size:=by rw [← hnl];exact (List.getElem?_eq_some_iff.1 hx).1
        have hyn:ys.length=n:=by omega
        by_cases h1:c<off
        ·rw [getElem?_append_left (by simp;omega),getElem?_take_of_lt h1] at hx;rw [if_neg (by omega)];exact (hcv _ e c x he hx).ext x2
        ·rw [getElem?_append_right (by simp;omega)] at hx;have hlt:(e.take off).length=off:=by simp;omega
         rw [hlt] at hx;by_cases h2:c<off+n
         ·rw [getElem?_append_left (by omega)] at hx;rw [if_pos ⟨by omega,by omega⟩,show base+(j*size+c)-(base+(j*size+off))=c-off from by omega];have h3:=hyt (c-off) x (vv.cells.toList.getD (c-off) undef) hx (BN _ _ _ (by omega));exact BR.ext x2 (h3.less fun b hb=>hb.imp id fun e=>⟨rfl,e⟩)
         ·rw [getElem?_append_right (by omega),getElem?_drop,hyn,show off+n+(c-off-n)=c from by omega] at hx;rw [if_neg (by omega)];exact (hcv _ e c x he hx).ext x2
       ·have hcl:c<size:=by rw [← hls j e' he'];exact (List.getElem?_eq_some_iff.1 hx).1
        rw [if_neg ?_]
        ·exact (hcv j e' c x he' hx).ext x2
        ·rintro ⟨h1,h2⟩
         rcases Nat.lt_or_gt_of_ne hne with hlt|hgt
         ·have:=mul_le_mul_right size (show j+1≤k from hlt);rw [succ_mul] at this;omega
         ·have:=mul_le_mul_right size (show k+1≤j from hgt);rw [succ_mul] at this;omega
     rw [hset] at hh2;exact ⟨_,_,_,hK,hrun,hh2,x2⟩
   ·cases hr1
  ·cases hr1
 ·cases hr
theorem LK {t:TypeId} {s:Nat} (hs:LL P t=some s):∃e i z,P.underlying t=some (.slice e)∧P.info? e=some i∧i.zero=some z∧i.size=s∧s≠0∧z.cells.size=s∧i.bytes≤65536:=by
 unfold LL at hs;split at hs
 ·rename_i e hu;split at hs
  ·rename_i i hi;split at hs
   ·rename_i z hz;obtain ⟨⟨h1,h2,h3⟩,h4⟩:=AL hs;cases h4;exact ⟨e,i,z,hu,hi,hz,rfl,h1,h2,h3⟩
   ·cases hs
  ·cases hs
 ·cases hs
theorem H6 {A:Nat→Prop} {z:Nat} (hz:z≠0) {new:List (List Tree)} {v:Value} (hs:Dd w A z new v) (hn:new≠[]) :
  ∃(b o cap:Nat) (news:List Value),v = .slice (some ⟨b,o,none⟩) new.length cap∧news.length=new.length*z∧(∀j u,news[j]? = some u→w.cell? ((⟨b,o,none⟩:Addr).add j)=some u)∧
   (∀u∈news,u.oneCell'=true)∧∀(j:Nat) (e:List Tree) (c:Nat) (x:Tree),new[j]? = some e→e[c]? = some x→BR w A x (news.getD (j*z+c) undef):=by
 obtain ⟨hl,a,cap,rfl,_,hc⟩:=hs;rcases hc with hc|⟨b,o,rfl,_,hc⟩
 ·exact (hn hc).elim
 ·have key:∀q,q<new.length*z→∃u,w.cell? ⟨b,o+q,none⟩=some u∧u.oneCell'=true:=by
   intro q hq;have h1:q / z<new.length:=Nat.div_lt_of_lt_mul (by rw [mul_comm];exact hq);have he:new[q / z]? = some new[q / z]:=getElem?_eq_getElem h1;have hel:=hl _ _ he;have h2:q % z<(new[q / z]).length:=by rw [hel];exact mod_lt _ (pos_of_ne_zero hz)
   obtain ⟨u,hu,ht⟩:=hc _ _ _ _ he (getElem?_eq_getElem h2);refine ⟨u,?_,ht.one⟩;rw [mul_comm,Nat.div_add_mod] at hu;exact hu
  have hget:∀q,q<new.length*z→((List.range (new.length*z)).map fun q=>(w.cell? ⟨b,o+q,none⟩).getD undef)[q]? = some ((w.cell? ⟨b,o+q,none⟩).getD undef):=fun q hq=>by simp [hq]
  refine ⟨b,o,cap,(List.range (new.length*z)).map fun q=>(w.cell? ⟨b,o+q,none⟩).getD undef,rfl,by simp,fun j u hu => ?_,fun u hu => ?_,fun j e c x he hx => ?_⟩
  ·have hj:j<new.length*z:=by simpa using (List.getElem?_eq_some_iff.1 hu).1
   rw [hget j hj] at hu;obtain ⟨u',hu',_⟩:=key j hj;rw [hu'] at hu;simp at hu;subst hu;rw [Da];exact hu'
  ·simp only [mem_map,mem_range] at hu;obtain ⟨q,hq,rfl⟩:=hu;obtain ⟨u',hu',h1⟩:=key q hq;rw [hu'];exact h1
  ·have hj:j<new.length:=(List.getElem?_eq_some_iff.1 he).1;have hcl:c<z:=by rw [← hl j e he];exact (List.getElem?_eq_some_iff.1 hx).1
   have hq:j*z+c<new.length*z:=by have:=mul_le_mul_right z (show j+1≤new.length from hj);rw [succ_mul] at this;omega
   obtain ⟨u,hu,ht⟩:=hc j e c x he hx;have:=hget _ hq;simp only [List.getD,this,Option.getD_some,hu];exact ht
theorem run_append_nil' (base:Option Addr) (w:World) (t ty e:TypeId) (i:TypeInfo) (z:Value) (ht:P.underlying t=some (.slice e)) (hi:P.info? e=some i) (hz:i.zero=some z)
  (a:Addr) (n c:Nat) (news:List Value) (hl:news.length=n*i.size) (hnews:∀j v,news[j]? = some v→w.cell? (a.add j)=some v)
  (h0:0<n) (h63:(n:Int)≤9223372036854775807) (h48:n*i.bytes≤281474976710656) :
  (Builtin.append_ #[t,t] ty #[.slice base 0 0,.slice (some a) n c]).run P w =
   .ok (.slice (some ⟨w.heap.size,0,none⟩) n (grownCap w n 0 e)) (w.drew.alloc (.cells (news.toArray++Builtin.zeroCells z.cells (grownCap w n 0 e-n)) e)):=by
 cases base with
 |none=>exact run_append_nil (P:=P) w t ty e i z ht hi hz a n c news hl hnews h0 h63 h48
 |some a0=>
  have hn:n≠0:=by omega
  have h63':¬(9223372036854775807<(n:Int)):=by omega
  have h48':¬(281474976710656<Builtin.nextslicecap n 0*i.bytes):=by rw [nextslicecap_zero h0];omega
  have hf:=run_firstCells_some (P:=P) w.drew i.size n a n c news hl (by simpa using hnews);have hf0:=run_firstCells_some (P:=P) w.drew i.size 0 a0 0 0 [] (by simp) (by simp);simp [Builtin.append_,run_underlying ht,Go.sizeOf,typeInfo,zeroValue,hi,hz,Builtin.lenOf,hn,h63',h48',Question.forced,hf0,hf,newRow,grownCap]
theorem D6 {t ty e:TypeId} {i:TypeInfo} (hu:P.underlying t=some (.slice e)) (hi:P.info? e=some i) (base:Option Addr) (A8 sCap:Nat) (a:Option Addr) (c:Nat) (hle:A8≤sCap) :
  (Builtin.append_ #[t,t] ty #[.slice base A8 sCap,.slice a 0 c]).run P w = .ok (.slice base A8 sCap) w:=by
 cases a with
 |none=>cases base<;>simp [Builtin.append_,run_underlying hu,Go.sizeOf,typeInfo,hi,Builtin.lenOf,hle,Builtin.firstCells,storeCells]
 |some a=>cases base<;>simp [Builtin.append_,run_underlying hu,Go.sizeOf,typeInfo,hi,Builtin.lenOf,hle,Builtin.firstCells,loadCells,loadCellsFrom,storeCells]
theorem run_append_room' {t ty e:TypeId} {i:TypeInfo} (ht:P.underlying t=some (.slice e)) (hi:P.info? e=some i)
  {g o A8 sCap zt:Nat} {cur:Array Value} {el:TypeId} {fr:Nat×Nat} (hg:w.heap[g]? = some (.cells cur el fr)) (hth:LY zt cur.size fr)
  {a:Addr} {m c:Nat} {news:List Value} (hl:news.length=m*i.size) (hnews:∀j u,news[j]? = some u→w.cell? (a.add j)=some u) (h1:∀u∈news,u.oneCell'=true)
  (hroom:A8+m≤sCap) (hfit:o+A8*i.size+news.length≤cur.size) :
  (Builtin.append_ #[t,t] ty #[.slice (some ⟨g,o,none⟩) A8 sCap,.slice (some a) m c]).run P w =
   .ok (.slice (some ⟨g,o,none⟩) (A8+m) sCap) (w.setRow g (Ah cur (o+A8*i.size) news)):=by
 have hf:=run_firstCells_some (P:=P) w i.size m a m c news hl hnews;have hst:=BU P g (o+A8*i.size) zt el fr news 0 cur w hg hth (by simpa using hfit) h1;simp only [add_zero] at hst;simp [Builtin.append_,run_underlying ht,Go.sizeOf,typeInfo,hi,Builtin.lenOf,hroom,hf,Da,hst,Ah]
theorem Bq {κ':Ay} {h':Heap} {w':World} {i ver z b base cap n:Nat} {L:List (List Tree)} {cells:Array Value} {el:TypeId} {fr:Nat×Nat} (hk:κ'[i]? = some (some (b,base))) (hi:h'[i]? = some (.row false ver z L))
  (hc:w'.heap[b]? = some (.cells cells el fr)) (hcap:base+cap*z≤cells.size) (hn:L.length=n) (hle:n≤cap):AR B κ' h' w' (.sref i ver 0 n) (.slice (some ⟨b,base,none⟩) n cap):=by
 refine .sref _ _ _ _ _ rfl ⟨_,hi,le_refl _⟩ fun k o hk' ho' _ => ?_;rw [hk] at hk';cases hk';rw [hi] at ho';cases ho';refine ⟨rfl,by simp only [AA.len];omega,.inr ⟨b,base,rfl,cap,by simp,by simp only [AA.len];omega,fun cells' elem' fr' hc' => ?_⟩⟩;rw [hc] at hc';cases hc';simpa [AA.size] using hcap
theorem Bt {κ':Ay} {h':Heap} {w':World} {i ver z:Nat} {a0:Option Addr} (hk:κ'[i]? = some none) (hi:h'[i]? = some (.row false ver z [])):AR B κ' h' w' (.sref i ver 0 0) (.slice a0 0 0):=by refine .sref _ _ _ _ _ rfl ⟨_,hi,le_refl _⟩ fun k o hk' ho' _ => ?_;rw [hk] at hk';cases hk';rw [hi] at ho';cases ho';exact ⟨rfl,by simp [AA.len],.inl ⟨rfl,by simp [AA.len],⟨_,rfl⟩⟩⟩
def BB (w:World) (A:Nat→Prop) (z:Nat) (L:List (List Tree)) (vals:Nat→Value):Prop:=
 (∀(j:Nat) (e:List Tree),L[j]? = some e→e.length=z)∧∀(j:Nat) (e:List Tree) (c:Nat) (x:Tree),L[j]? = some e→e[c]? = some x→BR w A x (vals (j*z+c))
theorem DD {A:Nat→Prop} {z:Nat} {L M:List (List Tree)} {f g:Nat→Value} (hL:BB w A z L f) (hM:BB w A z M fun q=>g (L.length*z+q)) (hfg:∀q,q<L.length*z→g q=f q):BB w A z (L++M) g:=by
 refine ⟨fun j e he => ?_,fun j e c x he hx => ?_⟩
 ·rcases lt_or_ge j L.length with h1|h1
  ·rw [getElem?_append_left h1] at he;exact hL.1 j e he
  ·rw [getElem?_append_right h1] at he;exact hM.1 _ e he
 ·rcases lt_or_ge j L.length with h1|h1
  ·rw [getElem?_append_left h1] at he;have hcl:c<z:=by rw [← hL.1 j e he];exact (List.getElem?_eq_some_iff.1 hx).1
   have:=mul_le_mul_right z (show j+1≤L.length from h1);rw [succ_mul] at this;rw [hfg _ (by omega)];exact hL.2 j e c x he hx
  ·rw [getElem?_append_right h1] at he;have:=hM.2 _ e c x he hx;rw [show j*z+c=L.length*z+((j-L.length)*z+c) from by rw [← add_assoc,← add_mul,Nat.add_sub_cancel' h1]];exact this
theorem Cu {κ':Ay} {h':Heap} {w':World} (x:Ext κ h w κ' h' w') {z:Nat} {L:List (List Tree)} {f:Nat→Value} (hL:BB w (fun b=>B b∨Ex κ h b) z L f):BB w' (fun b=>B b∨Ex κ' h' b) z L f:=
 ⟨hL.1,fun j e c y he hy=>(hL.2 j e c y he hy).ext x⟩
theorem Bw {κ':Ay} {h':Heap} {w':World} {b base z ver:Nat} {L:List (List Tree)} {cells:Array Value} {el:TypeId} {fz:Bool} {fr:Nat×Nat} (hz:z≠0) (hc:w'.heap[b]? = some (.cells cells el fr)) (hth:LY z cells.size fr) (hs:base+L.length*z≤cells.size)
  (hL:BB w' (fun b=>B b∨Ex κ' h' b) z L fun q=>cells.getD (base+q) undef):Fb B κ' h' w' (some (b,base)) (.row fz ver z L):=
 ⟨hz,cells,el,fr,hc,hth,hs,hL.1,hL.2⟩
theorem MG (olds news:List Value) (Z:Array Value):olds.toArray++news.toArray++Z=(olds++(news++Z.toList)).toArray:=by apply Array.ext';simp
theorem SG (olds news:List Value) (Z:Array Value) (q:Nat) (hq:q<olds.length):(olds.toArray++news.toArray++Z).getD q undef=olds.getD q undef:=by rw [MG,BP];simp only [List.getD];rw [getElem?_append_left hq]
theorem Iv (olds news:List Value) (Z:Array Value) (q:Nat) (hq:q<news.length):(olds.toArray++news.toArray++Z).getD (olds.length+q) undef=news.getD q undef:=by rw [MG,BP];simp only [List.getD];rw [getElem?_append_right (by omega),Nat.add_sub_cancel_left,getElem?_append_left hq]
theorem GJ (hh:Ai B κ h w):Ext κ h w κ h w.drew:=Ky hh rfl rfl rfl (le_refl _) fun _ _=>rfl
structure Uq (P:Program) (w:World) (A:Nat→Prop) (t t' e:TypeId) (i:TypeInfo) (zv:Value) (new:List (List Tree)) (vx:Value):Prop where
 sz:∀(j:Nat) (c:List Tree),new[j]? = some c→c.length=i.size
 nul:new=[]→∀ty base A8 sCap,A8≤sCap→(Builtin.append_ #[t,t'] ty #[.slice base A8 sCap,vx]).run P w = .ok (.slice base A8 sCap) w
 get:new≠[]→∃news:List Value,news.length=new.length*i.size∧(∀u∈news,u.oneCell'=true)∧
  (∀(j:Nat) (c:List Tree) (k:Nat) (x:Tree),new[j]? = some c→c[k]? = some x→BR w A x (news.getD (j*i.size+k) undef))∧
  (∀ty base,(new.length:Int)≤9223372036854775807→new.length*i.bytes≤281474976710656→(Builtin.append_ #[t,t'] ty #[.slice base 0 0,vx]).run P w =
   .ok (.slice (some ⟨w.heap.size,0,none⟩) new.length (grownCap w new.length 0 e)) (w.drew.alloc (.cells (news.toArray++Builtin.zeroCells zv.cells (grownCap w new.length 0 e-new.length)) e)))∧
  (∀ty g o A8 sCap zt cur el fr,w.heap[g]? = some (.cells cur el fr)→LY zt cur.size fr→A8+new.length≤sCap→o+A8*i.size+news.length≤cur.size→
   (Builtin.append_ #[t,t'] ty #[.slice (some ⟨g,o,Option.none⟩) A8 sCap,vx]).run P w = .ok (.slice (some ⟨g,o,Option.none⟩) (A8+new.length) sCap) (w.setRow g (Ah cur (o+A8*i.size) news)))∧
  (∀ty (b:Addr) A8 sCap (olds:List Value),olds.length=A8*i.size→(∀j v,olds[j]? = some v→w.cell? (b.add j)=some v)→sCap<A8+new.length→((A8+new.length:Nat):Int)≤9223372036854775807→
   Builtin.nextslicecap (A8+new.length) sCap*i.bytes≤281474976710656→(Builtin.append_ #[t,t'] ty #[.slice (some b) A8 sCap,vx]).run P w =
   .ok (.slice (some ⟨w.heap.size,0,Option.none⟩) (A8+new.length) (grownCap w (A8+new.length) sCap e)) (w.drew.alloc (.cells (olds.toArray++news.toArray++Builtin.zeroCells zv.cells (grownCap w (A8+new.length) sCap e-(A8+new.length))) e)))
theorem UU {t t':TypeId} (h:GM P t t'=true):t'=t∨P.underlying t'=some .string:=by
 unfold GM at h;by_cases e:t'=t
 ·exact .inl e
 ·right;have:(t'==t)=false:=by simpa using e
  rw [this,Bool.false_or] at h;split at h
  ·assumption
  ·cases h
theorem Cy {t t' ty e:TypeId} (hu:P.underlying t=some (.slice e)) (ht:GM P t t'=true) (args:Array Value):(Builtin.append_ #[t,t'] ty args).run P w=(Builtin.append_ #[t,t] ty args).run P w:=by
 rcases UU ht with rfl|hs
 ·rfl
 ·cases h0:args[0]? with
  |none=>simp [Builtin.append_,h0]
  |some s=>
   cases h1:args[1]? with
   |none=>simp [Builtin.append_,h0,h1]
   |some x=>
    simp only [Builtin.append_,h0,h1,run_underlying hu,run_underlying hs,Sem.run_bind,Result.andThen_ok];cases s<;>simp [run_underlying hu,run_underlying hs]
theorem Uq.TV {A:Nat→Prop} {t t' e:TypeId} {i:TypeInfo} {zv:Value} {new:List (List Tree)} {vx:Value} (hu:P.underlying t=some (.slice e)) (hi:P.info? e=some i) (hzv:i.zero=some zv) (hz0:i.size≠0) (ht:GM P t t'=true) (hsl:Dd w A i.size new vx):Uq P w A t t' e i zv new vx where
 sz:=hsl.1
 nul hn ty base A8 sCap hle:=by subst hn;obtain ⟨_,a,cap,rfl,_,_⟩:=hsl;rw [Cy hu ht];exact D6 (P:=P) (w:=w) (ty:=ty) hu hi base A8 sCap a cap hle
 get hn:=by
  obtain ⟨b,o,cap,news,rfl,hnl,hnc,hn1,hnt⟩:=H6 hz0 hsl hn;have hpos:0<new.length:=length_pos_iff.2 hn;refine ⟨news,hnl,hn1,hnt,fun ty base h63 h48 => ?_,fun ty g o' A8 sCap zt cur el fr hg hth hroom hfit => ?_,fun ty b' A8 sCap olds hlo holds hg h63 hfit => ?_⟩
  ·rw [Cy hu ht];exact run_append_nil' (P:=P) base w t ty e i zv hu hi hzv ⟨b,o,Option.none⟩ new.length cap news hnl hnc hpos h63 h48
  ·rw [Cy hu ht];exact run_append_room' (P:=P) (ty:=ty) (w:=w) (c:=cap) hu hi hg hth hnl hnc hn1 hroom hfit
  ·rw [Cy hu ht];exact run_append_grow (P:=P) w t ty e i zv hu hi hzv b' A8 sCap olds hlo holds ⟨b,o,Option.none⟩ new.length cap news hnl hnc hg h63 hfit
theorem C4 (s:ByteArray):(Co s).length=s.size:=by unfold Co;rw [length_map,length_toList];rfl
theorem J3 {A:Nat→Prop} (s:ByteArray) (j:Nat) (c:List Tree) (k:Nat) (x:Tree) (hj:(Co s)[j]? = some c) (hx:c[k]? = some x):c.length=1∧k=0∧BR w A x ((Lib.strCells s).getD j undef):=by
 unfold Co at hj;rw [getElem?_map] at hj;cases hb:s.data.toList[j]? with
 |none=>rw [hb] at hj;cases hj
 |some b=>
  rw [hb] at hj;cases hj;have hc:k=0:=by have:=(List.getElem?_eq_some_iff.1 hx).1;simp at this;omega
  subst hc;cases hx;have:(Lib.strCells s).getD j undef = .int .u8 (b.toNat:Int):=by rw [Lib.strCells,getD_eq_getElem?_getD,getElem?_map,hb];rfl
  rw [this];exact ⟨rfl,rfl,.int _ _⟩
theorem J2 (s:ByteArray) (j:Nat) (c:List Tree) (hj:(Co s)[j]? = some c):c.length=1:=by
 unfold Co at hj;rw [getElem?_map] at hj;cases hb:s.data.toList[j]? with
 |none=>rw [hb] at hj;cases hj
 |some b=>rw [hb] at hj;cases hj;rfl
theorem Uq.Pz {A:Nat→Prop} {t t' e:TypeId} {i:TypeInfo} {zv:Value} (s:ByteArray) (hu:P.underlying t=some (.slice e)) (hi:P.info? e=some i) (hzv:i.zero=some zv) (hz1:i.size=1) (ht:GM P t t'=true):Uq P w A t t' e i zv (Co s) (.string s) where
 sz j c hj:=by rw [hz1];exact J2 s j c hj
 nul hn ty base A8 sCap hle:=by
  rw [Cy hu ht];have hs:s.size=0:=by rw [← C4,hn];rfl
  have hf:=Lib.run_firstCells_string (P:=P) w 1 s;rw [hs] at hf;have hc:Lib.strCells s=[]:=eq_nil_of_length_eq_zero (by rw [Lib.strCells_length];exact hs);rw [hc] at hf;cases base<;>simp [Builtin.append_,run_underlying hu,Go.sizeOf,typeInfo,hi,hz1,Builtin.lenOf,hs,hle,hf,storeCells]
 get hn:=by
  have hl:=C4 s;have hpos:0<s.size:=by rw [← hl];exact length_pos_iff.2 hn
  refine ⟨Lib.strCells s,by rw [Lib.strCells_length,hl,hz1,Nat.mul_one],Lib.strCells_oneCell s,fun j c k x hj hx => ?_,fun ty base h63 h48 => ?_,fun ty g o' A8 sCap zt cur el fr hg hth hroom hfit => ?_,fun ty b' A8 sCap olds hlo holds hg h63 hfit => ?_⟩
  ·obtain ⟨_,rfl,h3⟩:=J3 (w:=w) (A:=A) s j c k x hj hx;rw [hz1,Nat.mul_one,add_zero];exact h3
  ·rw [Cy hu ht];rw [hl] at h63 h48 ⊢;have hn0:s.size≠0:=by omega
   have h63':¬(9223372036854775807<(s.size:Int)):=by omega
   have h48':¬(281474976710656<Builtin.nextslicecap s.size 0*i.bytes):=by rw [nextslicecap_zero hpos];omega
   have hf:=Lib.run_firstCells_string (P:=P) w.drew i.size s;cases base with
   |none=>simp [Builtin.append_,run_underlying hu,Go.sizeOf,typeInfo,zeroValue,hi,hzv,Builtin.lenOf,hn0,h63',h48',Question.forced,run_firstCells_none,hf,newRow,grownCap]
   |some a0=>
    have hf0:=run_firstCells_some (P:=P) w.drew i.size 0 a0 0 0 [] (by simp) (by simp);simp [Builtin.append_,run_underlying hu,Go.sizeOf,typeInfo,zeroValue,hi,hzv,Builtin.lenOf,hn0,h63',h48',Question.forced,hf0,hf,newRow,grownCap]
  ·rw [Cy hu ht];rw [hl] at hroom ⊢;have hf:=Lib.run_firstCells_string (P:=P) w i.size s;have hst:=BU P g (o'+A8*i.size) zt el fr (Lib.strCells s) 0 cur w hg hth (by simpa using hfit) (Lib.strCells_oneCell s);simp only [add_zero] at hst;simp [Builtin.append_,run_underlying hu,Go.sizeOf,typeInfo,hi,Builtin.lenOf,hroom,hf,Da,hst,Ah]
  ·rw [Cy hu ht];rw [hl] at hg h63 hfit ⊢;have hn':¬(A8+s.size≤sCap):=by omega
   have h63':¬(9223372036854775807<((A8:Int)+(s.size:Int))):=by omega
   have h48':¬(281474976710656<Builtin.nextslicecap (A8+s.size) sCap*i.bytes):=by omega
   have hf:=Lib.run_firstCells_string (P:=P) w.drew i.size s;have hfo:=run_firstCells_some (P:=P) w.drew i.size A8 b' A8 sCap olds hlo (by simpa using holds);simp [Builtin.append_,run_underlying hu,Go.sizeOf,typeInfo,zeroValue,hi,hzv,Builtin.lenOf,hn',h63',h48',Question.forced,hf,hfo,newRow,grownCap];congr 2;apply Array.ext';simp [append_assoc]
theorem Rn {t t' e:TypeId} {i:TypeInfo} {zv:Value} {x:AV} {K:List (List Tree)→Option R} {r:R} (hr:Gv h i.size x K=some r) (hh:Ai B κ h w) {v:Value} (hv:AR B κ h w x v)
  (hu:P.underlying t=some (.slice e)) (hi:P.info? e=some i) (hzv:i.zero=some zv) (hz0:i.size≠0) (ht:GM P t t'=true):∃es,K es=some r∧Uq P w (fun b=>B b∨Ex κ h b) t t' e i zv es v:=by
 unfold Gv at hr;simp only [AI] at hr;split at hr
 ·rename_i s;obtain ⟨h1,hK⟩:=AL hr;cases hv with|t _ _ hv=>
  cases hv;exact ⟨_,hK,.Pz s hu hi hzv h1 ht⟩
 ·obtain ⟨es,h1,h2⟩:=IN hr hh hv;exact ⟨es,h1,.TV hu hi hzv hz0 ht h2⟩
theorem HW {t t':TypeId} {s x:AV} {K:AV→Heap→Option R} {r:R} (ht:GM P t t'=true) (hr:Db P t h s x K=some r) (hh:Ai B κ h w) {vs vx:Value} (hs:AR B κ h w s vs) (hx:AR B κ h w x vx) (ty:TypeId) :
  ∃v h' κ' val w',K v h'=some r∧(Builtin.append_ #[t,t'] ty #[vs,vx]).run P w = .ok val w'∧AR B κ' h' w' v val∧Ai B κ' h' w'∧Ext κ h w κ' h' w':=by
 unfold Db at hr
 try simp only [AI] at hr
 obtain ⟨z,hz,hr1⟩:=bind_some hr;clear hr;obtain ⟨e,i,zv,hu,hi,hzv,rfl,hz0,hzs,hby⟩:=LK hz;obtain ⟨new,hr2,hsl⟩:=Rn hr1 hh hx hu hi hzv hz0 ht;clear hr1;have hbytes:∀n,n≤1073741824→n*i.bytes≤140737488355328:=fun n hn=>le_trans (Nat.mul_le_mul hn hby) (by omega);split at hr2
 ·obtain ⟨hle,hK⟩:=AL hr2;cases hs with|nilsl a0=>
  by_cases hn:new=[]
  ·subst hn;have hrun:=hsl.nul rfl ty a0 0 0 (le_refl _);have x1:Ext κ h w (κ++[none]) (h++[.row false 0 i.size []]) w:=BW hh rfl rfl rfl (le_refl _) (fun _ _=>rfl) (fun b base e=>by cases e);have hh1:=BI hh (fun _ _=>rfl) x1 (fun b base e=>by cases e) (show Fb B (κ++[none]) (h++[.row false 0 i.size []]) w none (.row false 0 i.size []) from rfl);exact ⟨_,_,_,_,_,hK,hrun,Bt (by rw [← hh.len];exact Ag κ _) (Ag h _),hh1,x1⟩
  ·obtain ⟨news,hnl,hn1,hnt,hrn,_,_⟩:=hsl.get hn;have hpos:0<new.length:=length_pos_iff.2 hn;have hrun:=hrn ty a0 (by omega) (by have:=hbytes _ hle;omega);have h5:∀b',b'<w.heap.size→(w.drew.alloc (.cells (news.toArray++Builtin.zeroCells zv.cells (grownCap w new.length 0 e-new.length)) e)).heap[b']? = w.heap[b']? :=fun b' hb'=>Aj w.drew _ hb';have x1:Ext κ h w (κ++[some (w.heap.size,0)]) (h++[.row false 0 i.size new]) (w.drew.alloc (.cells (news.toArray++Builtin.zeroCells zv.cells (grownCap w new.length 0 e-new.length)) e)):=
    BW (w':=w.drew.alloc _) hh rfl rfl rfl (by simp) h5 fun b base e=>by injection e with e;injection e with e;omega
   have hge:=grownCap_ge w new.length 0 e;have hnew:=A5 w.drew (.cells (news.toArray++Builtin.zeroCells zv.cells (grownCap w new.length 0 e-new.length)) e);have hcap:0+grownCap w new.length 0 e*i.size≤(news.toArray++Builtin.zeroCells zv.cells (grownCap w new.length 0 e-new.length)).size:=by simp only [size_append,size_toArray,size_zeroCells,hzs,hnl,← add_mul];rw [zero_add];exact mul_le_mul_right _ (by omega)
   have hh1:=BI hh h5 x1 (fun b base e=>by injection e with e;injection e with e;subst e;exact ⟨le_refl _,by simp⟩)
    (Bw hz0 hnew (.inl rfl) (le_trans (add_le_add_left (mul_le_mul_right _ hge) _) hcap) (by
     refine ⟨hsl.sz,fun j e' c y he' hy => ?_⟩;have hjl:j<new.length:=(List.getElem?_eq_some_iff.1 he').1;have hcl:c<i.size:=by rw [← hsl.sz j e' he'];exact (List.getElem?_eq_some_iff.1 hy).1
     have hq:=mul_le_mul_right i.size (show j+1≤new.length from hjl);rw [succ_mul] at hq;have h3:=Iv [] news (Builtin.zeroCells zv.cells (grownCap w new.length 0 e-new.length)) (j*i.size+c) (by omega);simp only [length_nil,zero_add,Array.empty_append] at h3 ⊢;rw [h3];exact (hnt j e' c y he' hy).ext x1))
   refine ⟨_,_,_,_,_,hK,hrun,?_,hh1,x1⟩;exact Bq (by rw [← hh.len];exact Ag κ _) (Ag h _) hnew hcap rfl hge
 ·rename_i ri ver off len;split at hr2
  ·rename_i ver' size es hri;by_cases hc:new.length=0∧off+len<es.length
   ·rw [if_pos hc] at hr2;obtain ⟨rfl,hK⟩:=AL hr2;have hn:new=[]:=eq_nil_of_length_eq_zero hc.1;subst hn;have hs':=hs;cases hs with
    |sref _ _ _ _ _ _ hex hsr=>
     obtain ⟨kk,hkk⟩:=Bf hh hri;obtain ⟨_,_,hm⟩:=hsr kk _ hkk hri rfl;have ho:=hh.obj ri _ _ hri hkk;rcases hm with ⟨rfl,hof,a0,rfl⟩|⟨b,base,rfl,cap',rfl,hcap,hcs⟩
     ·simp only [AA.len] at hof;omega
     ·simp only [AA.len] at hcap;exact ⟨_,h,κ,_,w,hK,hsl.nul rfl ty _ _ _ (by omega),hs',hh,Ext.refl _ _ _⟩
   rw [if_neg hc] at hr2;obtain ⟨⟨rfl,hsz,hoff,hle⟩,hK⟩:=AL hr2;clear hr2;cases hs with
   |sref _ _ _ _ _ _ hex hsr=>
    obtain ⟨kk,hkk⟩:=Bf hh hri;obtain ⟨_,_,hm⟩:=hsr kk _ hkk hri rfl;have ho:=hh.obj ri _ _ hri hkk;have hOL:∀L,OLe (.row false ver' size es) (.row false (ver'+1) i.size L):=fun L=>⟨rfl,le_succ _,(fun e=>by simp [AA.ver] at e),(fun e=>by cases e),(fun e=>by cases e),rfl⟩
    have hver:∀L,(AA.row false ver' size es).ver=(AA.row false (ver'+1) i.size L).ver→∀{p:Prop},p:=fun L e=>by simp [AA.ver] at e
    rcases hm with ⟨rfl,hof,a0,rfl⟩|⟨b,base,rfl,cap,rfl,hcap',hcs⟩
    ·simp only [zero_add,take_zero,nil_append] at hK hle;by_cases hn:new=[]
     ·subst hn;have hrun:=hsl.nul rfl ty a0 0 0 (le_refl _);have x1:Ext κ h w (κ.set ri none) (h.set ri (.row false (ver'+1) i.size [])) w:=
       CR hh hri rfl (hOL []) hkk rfl rfl rfl (le_refl _) (fun _ _ _=>rfl) (fun b base e=>by cases e) (fun e=>hver [] e)
      have hh1:=Br hh hri hkk (fun _ _ _=>rfl) (fun b base e=>by cases e) x1 (show Fb B (κ.set ri none) (h.set ri (.row false (ver'+1) i.size [])) w none (.row false (ver'+1) i.size []) from rfl);exact ⟨_,_,_,_,_,hK,hrun,Bt (Ao hkk) (Ao hri),hh1,x1⟩
     ·obtain ⟨news,hnl,hn1,hnt,hrn,_,_⟩:=hsl.get hn;have hpos:0<new.length:=length_pos_iff.2 hn;have hrun:=hrn ty a0 (by omega) (by have:=hbytes _ hle;omega);have h5:∀b',b'<w.heap.size→(w.drew.alloc (.cells (news.toArray++Builtin.zeroCells zv.cells (grownCap w new.length 0 e-new.length)) e)).heap[b']? = w.heap[b']? :=fun b' hb'=>Aj w.drew _ hb';have x1:Ext κ h w (κ.set ri (some (w.heap.size,0))) (h.set ri (.row false (ver'+1) i.size new)) (w.drew.alloc (.cells (news.toArray++Builtin.zeroCells zv.cells (grownCap w new.length 0 e-new.length)) e)):=
       CR (w':=w.drew.alloc _) hh hri rfl (hOL new) hkk rfl rfl rfl (by simp) (fun b' hb' _=>h5 b' hb') (fun b base e=>by injection e with e;injection e with e;exact .inr (by omega)) (fun e=>hver new e)
      have hge:=grownCap_ge w new.length 0 e;have hnew:=A5 w.drew (.cells (news.toArray++Builtin.zeroCells zv.cells (grownCap w new.length 0 e-new.length)) e);have hcap:0+grownCap w new.length 0 e*i.size≤(news.toArray++Builtin.zeroCells zv.cells (grownCap w new.length 0 e-new.length)).size:=by simp only [size_append,size_toArray,size_zeroCells,hzs,hnl,← add_mul];rw [zero_add];exact mul_le_mul_right _ (by omega)
      have hh1:=Br hh hri hkk (fun b' hb' _=>h5 b' hb') (fun b base e=>by injection e with e;injection e with e;subst e;exact ⟨.inr (le_refl _),by simp⟩) x1
       (Bw hz0 hnew (.inl rfl) (le_trans (add_le_add_left (mul_le_mul_right _ hge) _) hcap) (by
        refine ⟨hsl.sz,fun j e' c y he' hy => ?_⟩;have hjl:j<new.length:=(List.getElem?_eq_some_iff.1 he').1;have hcl:c<i.size:=by rw [← hsl.sz j e' he'];exact (List.getElem?_eq_some_iff.1 hy).1
        have hq:=mul_le_mul_right i.size (show j+1≤new.length from hjl);rw [succ_mul] at hq;have h3:=Iv [] news (Builtin.zeroCells zv.cells (grownCap w new.length 0 e-new.length)) (j*i.size+c) (by omega);simp only [length_nil,zero_add,Array.empty_append] at h3 ⊢;rw [h3];exact (hnt j e' c y he' hy).ext x1))
      exact ⟨_,_,_,_,_,hK,hrun,Bq (Ao hkk) (Ao hri) hnew hcap rfl hge,hh1,x1⟩
    ·have hcap:len≤cap:=by simp only [AA.len] at hcap';omega
     obtain ⟨hsz0,cells,el,fr,hcell,hth,hcsz,hls,hct⟩:=ho;obtain rfl:size=i.size:=hsz.resolve_right hsz0;have hcapc:=hcs cells el _ hcell;simp only [AA.size] at hcapc ⊢;rw [add_mul] at hcapc;have hdl:((es.drop off).take len).length=len:=by simp;omega
     have hold:BB w (fun b=>B b∨Ex κ h b) i.size ((es.drop off).take len) fun q=>cells.getD (base+off*i.size+q) undef:=by
      have hget:∀(j:Nat) e',((es.drop off).take len)[j]? = some e'→es[off+j]? = some e':=fun j e' he=>by
       have hj:j<len:=by have:=(List.getElem?_eq_some_iff.1 he).1;simp at this;omega
       rw [getElem?_take_of_lt hj,getElem?_drop] at he;exact he
      refine ⟨fun j e' he'=>hls _ e' (hget j e' he'),fun j e' c y he' hy => ?_⟩;have he':=hget j e' he';have:=hct _ e' c y he' hy;rw [add_mul] at this;dsimp only;rw [show base+off*i.size+(j*i.size+c)=base+(off*i.size+j*i.size+c) from by omega];exact this
     by_cases hn:new=[]
     ·subst hn;have hrun:=hsl.nul rfl ty (some ⟨b,base+off*i.size,none⟩) len cap hcap;simp only [append_nil,length_nil,add_zero] at hK;have x1:Ext κ h w (κ.set ri (some (b,base+off*i.size))) (h.set ri (.row false (ver'+1) i.size ((es.drop off).take len))) w:=
       CR hh hri rfl (hOL _) hkk rfl rfl rfl (le_refl _) (fun _ _ _=>rfl) (fun b' base' e=>by injection e with e;injection e with e1 e2;subst e1;exact .inl ⟨base,rfl⟩) (fun e=>hver _ e)
      have hh1:=Br hh hri hkk (fun _ _ _=>rfl) (fun b' base' e=>by injection e with e;injection e with e1 e2;subst e1;exact ⟨.inl ⟨base,rfl⟩,hh.lt ri _ base hkk⟩) x1
       (Bw hz0 hcell hth (by rw [hdl];have:=mul_le_mul_right i.size hcap;omega) (Cu x1 hold))
      exact ⟨_,_,_,_,_,hK,hrun,Bq (Ao hkk) (Ao hri) hcell (by omega) hdl hcap,hh1,x1⟩
     ·obtain ⟨news,hnl,hn1,hnt,_,hrr,hrg⟩:=hsl.get hn;have hpos:0<new.length:=length_pos_iff.2 hn;have hlen2:((es.drop off).take len++new).length=len+new.length:=by rw [length_append,hdl]
      have hnr:BB w (fun b=>B b∨Ex κ h b) i.size new fun q=>news.getD q undef:=⟨hsl.sz,hnt⟩
      by_cases hroom:len+new.length≤cap
      ·have hmul:=mul_le_mul_right i.size hroom;rw [add_mul] at hmul;have hfit:base+off*i.size+len*i.size+news.length≤cells.size:=by omega
       have hrun:=hrr ty b (base+off*i.size) len cap i.size cells el fr hcell hth hroom hfit;have hseg:=CD cells _ _ hfit;have hnew:=setRow_heap w b cells (Ah cells (base+off*i.size+len*i.size) news) el _ hcell;have h5:∀b',b'<w.heap.size→(∀base',(some (b,base):Option (Nat×Nat))≠some (b',base'))→(w.setRow b (Ah cells (base+off*i.size+len*i.size) news)).heap[b']? = w.heap[b']? :=
        fun b' _ hb'=>setRow_other w b _ fun e=>hb' base (by rw [e])
       have x1:Ext κ h w (κ.set ri (some (b,base+off*i.size))) (h.set ri (.row false (ver'+1) i.size ((es.drop off).take len++new))) (w.setRow b (Ah cells (base+off*i.size+len*i.size) news)):=
        CR (w':=w.setRow b _) hh hri rfl (hOL _) hkk rfl rfl rfl (by rw [setRow_size];exact le_refl _) h5 (fun b' base' e=>by injection e with e;injection e with e1 e2;subst e1;exact .inl ⟨base,rfl⟩) (fun e=>hver _ e)
       have hh1:=Br hh hri hkk h5 (fun b' base' e=>by injection e with e;injection e with e1 e2;subst e1;exact ⟨.inl ⟨base,rfl⟩,by rw [setRow_size];exact hh.lt ri _ base hkk⟩) x1
        (Bw hz0 hnew (by rw [hseg];exact hth) (by rw [hlen2,hseg,add_mul];omega) (Cu x1 (DD hold (by
         refine ⟨hnr.1,fun j e' c y he' hy => ?_⟩;have hjl:j<new.length:=(List.getElem?_eq_some_iff.1 he').1;have hcl:c<i.size:=by rw [← hsl.sz j e' he'];exact (List.getElem?_eq_some_iff.1 hy).1
         have hq:=mul_le_mul_right i.size (show j+1≤new.length from hjl);rw [succ_mul] at hq;dsimp only;rw [hdl,BH cells _ _ hfit,if_pos ⟨by omega,by omega⟩];rw [show base+off*i.size+(len*i.size+(j*i.size+c))-(base+off*i.size+len*i.size)=j*i.size+c from by omega];exact hnt j e' c y he' hy) (fun q hq=>by
         rw [hdl] at hq;rw [BH cells _ _ hfit,if_neg (by omega)]))))
       exact ⟨_,_,_,_,_,hK,hrun,Bq (Ao hkk) (Ao hri) hnew (by rw [hseg];omega) hlen2 hroom,hh1,x1⟩
      ·let olds:List Value:=(List.range (len*i.size)).map fun q=>cells.getD (base+off*i.size+q) undef;have hol:olds.length=len*i.size:=by simp [olds]
       have hog:∀q,q<len*i.size→olds.getD q undef=cells.getD (base+off*i.size+q) undef:=fun q hq=>by simp [olds,List.getD,hq]
       have holds:∀j v,olds[j]? = some v→w.cell? ((⟨b,base+off*i.size,none⟩:Addr).add j)=some v:=fun j v hv=>by
        have hj:j<len*i.size:=by rw [← hol];exact (List.getElem?_eq_some_iff.1 hv).1
        simp only [olds,getElem?_map,getElem?_range hj,map_some,Option.some.injEq] at hv;subst hv;rw [Da];have hm2:=mul_le_mul_right i.size hcap;exact BS hcell (by omega)
       have hrun:=hrg ty ⟨b,base+off*i.size,none⟩ len cap olds hol holds (by omega) (by omega) (growslice_fits (by omega) (hbytes _ hle));have h5:∀b',b'<w.heap.size→(w.drew.alloc (.cells (olds.toArray++news.toArray++Builtin.zeroCells zv.cells (grownCap w (len+new.length) cap e-(len+new.length))) e)).heap[b']? = w.heap[b']? :=fun b' hb'=>Aj w.drew _ hb';have x1:Ext κ h w (κ.set ri (some (w.heap.size,0))) (h.set ri (.row false (ver'+1) i.size ((es.drop off).take len++new))) (w.drew.alloc (.cells (olds.toArray++news.toArray++Builtin.zeroCells zv.cells (grownCap w (len+new.length) cap e-(len+new.length))) e)):=
        CR (w':=w.drew.alloc _) hh hri rfl (hOL _) hkk rfl rfl rfl (by simp) (fun b' hb' _=>h5 b' hb') (fun b base e=>by injection e with e;injection e with e;exact .inr (by omega)) (fun e=>hver _ e)
       have hge:=grownCap_ge w (len+new.length) cap e;have hnew:=A5 w.drew (.cells (olds.toArray++news.toArray++Builtin.zeroCells zv.cells (grownCap w (len+new.length) cap e-(len+new.length))) e);have hcap2:0+grownCap w (len+new.length) cap e*i.size≤(olds.toArray++news.toArray++Builtin.zeroCells zv.cells (grownCap w (len+new.length) cap e-(len+new.length))).size:=by simp only [size_append,size_toArray,size_zeroCells,hzs,hnl,hol,← add_mul];rw [zero_add];exact mul_le_mul_right _ (by omega)
       have hh1:=Br hh hri hkk (fun b' hb' _=>h5 b' hb') (fun b base e=>by injection e with e;injection e with e;subst e;exact ⟨.inr (le_refl _),by simp⟩) x1
        (Bw hz0 hnew (.inl rfl) (by rw [hlen2];exact le_trans (add_le_add_left (mul_le_mul_right _ hge) _) hcap2) (Cu x1 (DD hold (by
         refine ⟨hnr.1,fun j e' c y he' hy => ?_⟩;have hjl:j<new.length:=(List.getElem?_eq_some_iff.1 he').1;have hcl:c<i.size:=by rw [← hsl.sz j e' he'];exact (List.getElem?_eq_some_iff.1 hy).1
         have hq:=mul_le_mul_right i.size (show j+1≤new.length from hjl);rw [succ_mul] at hq;dsimp only;rw [hdl,zero_add,← hol,Iv _ _ _ _ (by omega)];exact hnt j e' c y he' hy) (fun q hq=>by
         rw [hdl] at hq;rw [zero_add,SG _ _ _ _ (by omega),hog q hq]))))
       exact ⟨_,_,_,_,_,hK,hrun,Bq (Ao hkk) (Ao hri) hnew hcap2 hlen2 hge,hh1,x1⟩
  ·cases hr2
 ·cases hr2
end Ab
namespace Ab
open Go
variable {R:Type} {P:Program} {B:Nat→Prop} {κ:Ay} {h:Heap} {w:World}
theorem Gz {es new:List (List Tree)} {p:Nat} (hp:p+new.length≤es.length):(A0 es p new).length=es.length:=by simp [A0];omega
theorem KI {es new:List (List Tree)} {p:Nat} (hp:p+new.length≤es.length) (j:Nat):(A0 es p new)[j]? = if p≤j∧j<p+new.length then new[j-p]? else es[j]? :=by
 unfold A0;have hl:(es.take p).length=p:=by simp;omega
 by_cases h1:j<p
 ·rw [append_assoc,getElem?_append_left (by omega),getElem?_take_of_lt h1,if_neg (by omega)]
 ·by_cases h2:j<p+new.length
  ·rw [getElem?_append_left (by simp;omega),getElem?_append_right (by omega),hl,if_pos ⟨by omega,h2⟩]
  ·rw [getElem?_append_right (by simp;omega),getElem?_drop,if_neg (by omega)];congr 1;simp;omega
theorem Jz {α:Type} {l:List α} {m i:Nat} {x:α} (hx:(l.take m)[i]? = some x):i<m∧l[i]? = some x:=by
 rcases lt_or_ge i m with h1|h1
 ·rw [getElem?_take_of_lt h1] at hx;exact ⟨h1,hx⟩
 ·simp [getElem?_take,not_lt.2 h1] at hx
theorem GW (hh:Ai B κ h w) {i ver z b base:Nat} {es new:List (List Tree)} {cells:Array Value} {el:TypeId} (hi:h[i]? = some (.row false ver z es)) (hk:κ[i]? = some (some (b,base)))
  {fr:Nat×Nat} (hcell:w.heap[b]? = some (.cells cells el fr)) {p:Nat} {vals:List Value} (hp:p+new.length≤es.length) (hvl:vals.length=new.length*z)
  (hn:BB w (fun b=>B b∨Ex κ h b) z new fun q=>vals.getD q undef) :
  base+p*z+vals.length≤cells.size∧(w.setRow b (Ah cells (base+p*z) vals)).heap[b]? = some (.cells (Ah cells (base+p*z) vals) el fr)∧(Ah cells (base+p*z) vals).size=cells.size∧
  Ai B κ (h.set i (.row false ver z (A0 es p new))) (w.setRow b (Ah cells (base+p*z) vals))∧Ext κ h w κ (h.set i (.row false ver z (A0 es p new))) (w.setRow b (Ah cells (base+p*z) vals)):=by
 obtain ⟨hz0,cells',elem,fr',hcell',hth,hs,hls,hcv⟩:=hh.obj i _ _ hi hk;rw [hcell] at hcell';cases hcell';have hmul:=mul_le_mul_right z hp;rw [add_mul] at hmul;have hfit:base+p*z+vals.length≤cells.size:=by omega
 have hsz:=CD cells (base+p*z) vals hfit;have hnew:=setRow_heap w b cells (Ah cells (base+p*z) vals) el _ hcell;have hset:(κ.set i (some (b,base)))=κ:=by
  apply ext_getElem?;intro j;by_cases hij:j=i
  ·rw [hij,Ao hk,hk]
  ·rw [CU hij]
 have hrl:=Gz hp;have x2:Ext κ h w κ (h.set i (.row false ver z (A0 es p new))) (w.setRow b (Ah cells (base+p*z) vals)):=by
  have x2':Ext κ h w (κ.set i (some (b,base))) (h.set i (.row false ver z (A0 es p new))) (w.setRow b (Ah cells (base+p*z) vals)):=by refine CR (o' :=.row false ver z (A0 es p new)) (k':=some (b,base)) (w':=w.setRow b (Ah cells (base+p*z) vals)) hh hi rfl ⟨rfl,le_refl _,(fun _=>⟨rfl,by simp [AA.len,hrl]⟩),(fun e=>by cases e),(fun e=>by cases e),rfl⟩ hk rfl rfl rfl (by rw [setRow_size];exact le_refl _) (fun b' _ hb'=>setRow_other w b _ fun e=>hb' base (by rw [e])) (fun b' base' e=>by injection e with e;injection e with e1 e2;subst e1;exact .inl ⟨base,rfl⟩) (fun _=>⟨rfl,fun b' base' e cells' elem' fr' hc' => ?_⟩);cases e;rw [hnew] at hc';cases hc';exact ⟨cells,hcell,hsz.symm⟩
  rw [hset] at x2';exact x2'
 have hh2:Ai B (κ.set i (some (b,base))) (h.set i (.row false ver z (A0 es p new))) (w.setRow b (Ah cells (base+p*z) vals)):=by
  refine Br hh hi hk (fun b' _ hb'=>setRow_other w b _ fun e=>hb' base (by rw [e])) (fun b' base' e=>by injection e with e;injection e with e1 e2;subst e1;exact ⟨.inl ⟨base,rfl⟩,by rw [setRow_size];exact hh.lt i b base hk⟩) (by rw [hset];exact x2) ?_;rw [hset];refine ⟨hz0,_,el,fr,hnew,by rw [hsz];exact hth,by rw [hsz,hrl];exact hs,fun j e' he' => ?_,fun j e' c x he' hx => ?_⟩
  ·rw [KI hp] at he';split at he'
   ·exact hn.1 _ e' he'
   ·exact hls j e' he'
  ·rw [BH cells _ _ hfit];rw [KI hp] at he';split at he'
   ·rename_i hj;have hcl:c<z:=by rw [← hn.1 _ e' he'];exact (List.getElem?_eq_some_iff.1 hx).1
    have h3:=hn.2 _ e' c x he' hx;have e1:j*z=p*z+(j-p)*z:=by rw [← add_mul];congr 1;omega
    have hq:=mul_le_mul_right z (show j-p+1≤new.length by omega);rw [succ_mul] at hq;rw [if_pos ⟨by omega,by omega⟩,show base+(j*z+c)-(base+p*z)=(j-p)*z+c by omega];exact h3.ext x2
   ·rename_i hj;have hcl:c<z:=by rw [← hls _ e' he'];exact (List.getElem?_eq_some_iff.1 hx).1
    rw [if_neg ?_]
    ·exact (hcv j e' c x he' hx).ext x2
    ·rintro ⟨h1,h2⟩
     rcases lt_or_ge j p with hlt|hge
     ·have:=mul_le_mul_right z (show j+1≤p from hlt);rw [succ_mul] at this;omega
     ·have:=mul_le_mul_right z (show p+new.length≤j by omega);rw [add_mul] at this;omega
 rw [hset] at hh2;exact ⟨hfit,hnew,hsz,hh2,x2⟩
theorem J9 {κ':Ay} {h':Heap} {w':World} {i ver z b base off cap n:Nat} {L:List (List Tree)} {cells:Array Value} {el:TypeId} {fr:Nat×Nat} (hk:κ'[i]? = some (some (b,base))) (hi:h'[i]? = some (.row false ver z L))
  (hc:w'.heap[b]? = some (.cells cells el fr)) (hcap:base+(off+cap)*z≤cells.size) (hn:off+n≤L.length) (hle:L.length≤off+cap):AR B κ' h' w' (.sref i ver off n) (.slice (some ⟨b,base+off*z,none⟩) n cap):=by
 refine .sref _ _ _ _ _ rfl ⟨_,hi,le_refl _⟩ fun k o hk' ho' _ => ?_;rw [hk] at hk';cases hk';rw [hi] at ho';cases ho';refine ⟨rfl,hn,.inr ⟨b,base,rfl,cap,rfl,hle,fun cells' elem' fr' hc' => ?_⟩⟩;rw [hc] at hc';cases hc';exact hcap
theorem Nc {t t':TypeId} {s x:AV} {K:AV→Heap→Option R} {r:R} (htt:GM P t t'=true) (hr:Du P t h s x K=some r) (hh:Ai B κ h w) {vs vx:Value} (hs:AR B κ h w s vs) (hx:AR B κ h w x vx) (ty:TypeId) :
  ∃v h' κ' val w',K v h'=some r∧(Builtin.append_ #[t,t'] ty #[vs,vx]).run P w = .ok val w'∧AR B κ' h' w' v val∧Ai B κ' h' w'∧Ext κ h w κ' h' w':=by
 unfold Du at hr
 try simp only [AI] at hr
 obtain ⟨z,hz,hr1⟩:=bind_some hr;clear hr;obtain ⟨e,i,zv,hu,hi,hzv,rfl,hz0,hzs,hby⟩:=LK hz;obtain ⟨new,hr2,hsl⟩:=IN hr1 hh hx;simp only [Cy hu htt];clear hr1;split at hr2
 ·rename_i ri ver off len;split at hr2
  ·rename_i ver' size es hri;obtain ⟨⟨rfl,rfl,hfits⟩,hK⟩:=AL hr2;clear hr2;cases hs with
   |sref _ _ _ _ _ _ hex hsr=>
    obtain ⟨kk,hkk⟩:=Bf hh hri;obtain ⟨_,hle,hm⟩:=hsr kk _ hkk hri rfl;simp only [AA.len] at hle;have ho:=hh.obj ri _ _ hri hkk;rcases hm with ⟨rfl,hof,a0,rfl⟩|⟨b,base,rfl,cap,rfl,hcap,hcs⟩
    ·simp only [AA.len] at hof;have hn:new=[]:=eq_nil_of_length_eq_zero (by omega);subst hn;obtain ⟨_,a,cap,rfl,_,_⟩:=hsl;have hrun:=D6 (P:=P) (w:=w) (ty:=ty) hu hi a0 0 0 a cap (le_refl _);have hset:h.set ri (.row false ver' i.size (A0 es (off+0) []))=h:=by
      apply ext_getElem?;intro j;by_cases hij:j=ri
      ·rw [hij,Ao hri,hri];simp [A0]
      ·rw [CU hij]
     rw [hset] at hK;exact ⟨_,h,κ,_,w,hK,hrun,.sref _ _ _ _ _ rfl hex hsr,hh,Ext.refl _ _ _⟩
    ·simp only [AA.len] at hcap;obtain ⟨hsz0,cells,el,fr,hcell,hth,hcsz,hls,hct⟩:=ho;have hcapc:=hcs cells el _ hcell;simp only [AA.size] at hcapc ⊢;by_cases hn:new=[]
     ·subst hn;obtain ⟨_,a,cap',rfl,_,_⟩:=hsl;have hrun:=D6 (P:=P) (w:=w) (ty:=ty) hu hi (some ⟨b,base+off*i.size,none⟩) len cap a cap' (by omega);have hset:h.set ri (.row false ver' i.size (A0 es (off+len) []))=h:=by
       apply ext_getElem?;intro j;by_cases hij:j=ri
       ·rw [hij,Ao hri,hri];simp [A0]
       ·rw [CU hij]
      rw [hset] at hK;exact ⟨_,h,κ,_,w,hK,hrun,J9 hkk hri hcell hcapc (by simpa using hle) hcap,hh,Ext.refl _ _ _⟩
     ·obtain ⟨nb,o,ncap,news,rfl,hnl,hnc,hn1,hnt⟩:=H6 hz0 hsl hn;obtain ⟨f1,f2,f3,f4,f5⟩:=GW (new:=new) (p:=off+len) (vals:=news) hh hri hkk hcell hfits hnl ⟨hsl.1,hnt⟩;have he:base+(off+len)*i.size=base+off*i.size+len*i.size:=by rw [add_mul];omega
      have hrun:=run_append_room' (P:=P) (ty:=ty) (w:=w) (A8:=len) (sCap:=cap) (o:=base+off*i.size) (c:=ncap) hu hi hcell hth hnl hnc hn1 (by omega) (by omega);rw [← he] at hrun;have hrl:=Gz hfits;exact ⟨_,_,_,_,_,hK,hrun,J9 hkk (Ao hri) f2 (by rw [f3];exact hcapc) (by rw [hrl];omega) (by rw [hrl];exact hcap),f4,f5⟩
  ·cases hr2
 ·cases hr2
theorem Nv {e:TypeId} {K:List Tree→Option R} {r:R} (hr:Lu P h e K=some r) (hh:Ai B κ h w) :
  ∃zs i v,K zs=some r∧P.info? e=some i∧i.zero=some v∧v.cells.size=zs.length∧zs.length≠0∧i.size=zs.length∧(∀u∈v.cells.toList,u.oneCell'=true)∧
   ∀(c:Nat) (x:Tree),zs[c]? = some x→BR w (fun b=>B b∨Ex κ h b) x (v.cells.getD c undef):=by
 unfold Lu at hr
 try simp only [AI] at hr
 split at hr
 ·rename_i z n hz hn;obtain ⟨⟨hn0,hzl⟩,hr⟩:=AL hr;obtain ⟨i,v,hi,hv,hc⟩:=CC (B:=B) (κ:=κ) (h:=h) (w:=w) hz;obtain ⟨zs,hK,hzs,_,hT⟩:=Cb (P:=P) hr hh (vs:=v.cells.toList) (by simpa using hc.1) (Bb hc);have hs:v.cells.size=zs.length:=by rw [hzs];exact hc.1
  have hsi:i.size=n:=by simpa [BV,hi] using hn
  refine ⟨zs,i,v,hK,hi,hv,hs,by omega,by omega,fun u hu => ?_,fun c x hx => ?_⟩
  ·obtain ⟨j,hj,rfl⟩:=List.getElem_of_mem hu;have hj':j<zs.length:=by rw [← hs];simpa using hj
   exact (hT j _ _ (getElem?_eq_getElem hj') (getElem?_eq_getElem hj)).one
  ·have hj':c<v.cells.size:=by rw [hs];exact AU hx
   have:=hT c x (v.cells.getD c undef) hx (by simp [Array.getD,hj']);exact this.less fun b hb=>hb.imp id fun e=>⟨rfl,e⟩
 ·cases hr
theorem Gs (zero:Array Value) (n q:Nat) (hq:q<n*zero.size):(Builtin.zeroCells zero n).toList[q]? = some (zero.getD (q % zero.size) undef):=by
 have hpos:0<zero.size:=by
  rcases Nat.eq_zero_or_pos zero.size with h0|h0
  ·rw [h0] at hq;omega
  ·exact h0
 have hlt:=mod_lt q hpos;have hlen:(Builtin.zeroCells zero n).size=n*zero.size:=size_zeroCells zero n;have hq2:q<(Builtin.zeroCells zero n).size:=by rw [hlen];exact hq
 rw [getElem?_toList,Array.getElem?_eq_getElem hq2];simp [Builtin.zeroCells,Array.getD,hlt]
theorem Nu {A:Nat→Prop} {zs:List Tree} {v:Value} (hs:v.cells.size=zs.length) (hT:∀(c:Nat) (x:Tree),zs[c]? = some x→BR w A x (v.cells.getD c undef)) (n:Nat) :
  BB w A zs.length (replicate n zs) fun q=>(Builtin.zeroCells v.cells n).toList.getD q undef:=by
 refine ⟨fun j e he => ?_,fun j e c x he hx => ?_⟩
 ·rw [List.getElem?_replicate] at he;split at he<;>cases he;rfl
 ·rw [List.getElem?_replicate] at he;split at he
  ·rename_i hj;cases he;have hc:c<zs.length:=AU hx;have hq:=mul_le_mul_right zs.length (show j+1≤n from hj);rw [succ_mul] at hq;have:=Gs v.cells n (j*zs.length+c) (by rw [hs];omega);simp only [List.getD,this,Option.getD_some];rw [hs,Nat.add_comm,Nat.add_mul_mod_self_right,Nat.mod_eq_of_lt hc];exact hT c x hx
  ·cases he
theorem Lg {v:Value} (h1:∀u∈v.cells.toList,u.oneCell'=true) (n:Nat):∀u∈(Builtin.zeroCells v.cells n).toList,u.oneCell'=true:=by
 intro u hu;obtain ⟨q,hq⟩:=mem_iff_getElem?.1 hu;have hql:q<n*v.cells.size:=by have:=AU hq;rw [length_toList,size_zeroCells] at this;exact this
 rw [Gs _ _ _ hql] at hq;cases hq;have hpos:0<v.cells.size:=by
  rcases Nat.eq_zero_or_pos v.cells.size with h0|h0
  ·rw [h0] at hql;omega
  ·exact h0
 have hlt:=mod_lt q hpos;refine h1 _ ?_;simp only [Array.getD,hlt,dif_pos];simp
theorem Sl {t:TypeId} {x:AV} {K:Heap→Option R} {r:R} (hr:HV P t h x K=some r) (hh:Ai B κ h w) {vx:Value} (hx:AR B κ h w x vx) (ty:TypeId) :
  ∃h' w',K h'=some r∧(Builtin.clear_ #[t] ty #[vx]).run P w = .ok (.tuple #[]) w'∧Ai B κ h' w'∧Ext κ h w κ h' w':=by
 unfold HV at hr
 try simp only [AI] at hr
 split at hr
 ·rename_i e hu;have hnone:∀(a:Option Addr) (c:Nat),(Builtin.clear_ #[t] ty #[.slice a 0 c]).run P w = .ok (.tuple #[]) w:=fun a c=>by cases a<;>simp [Builtin.clear_,run_underlying hu]
  split at hr
  ·rename_i z es;obtain ⟨h0,hK⟩:=AL hr;have hes:es=[]:=eq_nil_of_length_eq_zero h0;subst hes;cases hx with
   |t _ _ ht=>
    obtain ⟨_,a,cap,rfl,_,_⟩:=Dd.H5 ht;exact ⟨h,w,hK,hnone _ _,hh,Ext.refl _ _ _⟩
  ·cases hx with
   |nilsl a0=>exact ⟨h,w,hr,hnone _ _,hh,Ext.refl _ _ _⟩
  ·rename_i ri ver off len;obtain ⟨zs,i,v,hr1,hi,hv,hs,hz0,hsi,h1,hT⟩:=Nv hr hh;split at hr1
   ·rename_i ver' size es hri;obtain ⟨⟨rfl,rfl⟩,hK⟩:=AL hr1;cases hx with
    |sref _ _ _ _ _ _ hex hsr=>
     obtain ⟨kk,hkk⟩:=Bf hh hri;obtain ⟨_,hle,hm⟩:=hsr kk _ hkk hri rfl;simp only [AA.len] at hle;have ho:=hh.obj ri _ _ hri hkk;have hsame:len=0→h.set ri (.row false ver' zs.length (A0 es off (replicate len zs)))=h:=fun h0=>by
      subst h0;apply ext_getElem?;intro j;by_cases hij:j=ri
      ·rw [hij,Ao hri,hri];simp [A0]
      ·rw [CU hij]
     rcases hm with ⟨rfl,hof,a0,rfl⟩|⟨b,base,rfl,cap,rfl,hcap,hcs⟩
     ·rw [hsame rfl] at hK;exact ⟨h,w,hK,hnone _ _,hh,Ext.refl _ _ _⟩
     ·obtain ⟨hsz0,cells,el,fr,hcell,hth,hcsz,hls,hct⟩:=ho;simp only [AA.size];cases len with
      |zero=>
       rw [hsame rfl] at hK;exact ⟨h,w,hK,hnone _ _,hh,Ext.refl _ _ _⟩
      |succ n=>
       obtain ⟨f1,f2,f3,f4,f5⟩:=GW (new:=replicate (n+1) zs) (p:=off) (vals:=(Builtin.zeroCells v.cells (n+1)).toList) hh hri hkk hcell (by simpa using hle) (by rw [length_toList,size_zeroCells,hs];simp) (Nu hs hT (n+1));refine ⟨_,_,hK,?_,f4,f5⟩;have hst:=BU P b (base+off*zs.length) zs.length el fr (Builtin.zeroCells v.cells (n+1)).toList 0 cells w hcell hth (by simpa using f1) (Lg h1 (n+1));simp only [add_zero] at hst;simp [Builtin.clear_,run_underlying hu,zeroValue,typeInfo,hi,hv,hst,Ah]
   ·cases hr1
  ·cases hr
 ·cases hr
structure Src (P:Program) (w:World) (A:Nat→Prop) (z:Nat) (new:List (List Tree)) (vx:Value):Prop where
 sz:∀(j:Nat) (e:List Tree),new[j]? = some e→e.length=z
 len:(Builtin.lenOf vx).run P w = .ok new.length w
 zero:(Builtin.firstCells z 0 vx).run P w = .ok #[] w
 get:z≠0→new≠[]→∃news:List Value,news.length=new.length*z∧(∀u∈news,u.oneCell'=true)∧(∀(j:Nat) (e:List Tree) (c:Nat) (x:Tree),new[j]? = some e→e[c]? = some x→BR w A x (news.getD (j*z+c) undef))∧
  ∀m,m≤new.length→(Builtin.firstCells z m vx).run P w = .ok (news.take (m*z)).toArray w
theorem Src.TV {A:Nat→Prop} {z:Nat} {new:List (List Tree)} {vx:Value} (hs:Dd w A z new vx):Src P w A z new vx where
 sz:=hs.1
 len:=by obtain ⟨_,a,cap,rfl,_,_⟩:=hs;simp [Builtin.lenOf]
 zero:=by obtain ⟨_,a,cap,rfl,_,_⟩:=hs;cases a<;>simp [Builtin.firstCells,loadCells,loadCellsFrom]
 get hz hn:=by obtain ⟨nb,o,ncap,news,rfl,hnl,hnc,hn1,hnt⟩:=H6 hz hs hn;refine ⟨news,hnl,hn1,hnt,fun m hm => ?_⟩;have hle:=mul_le_mul_right z hm;exact run_firstCells_some (P:=P) w z m ⟨nb,o,none⟩ new.length ncap (news.take (m*z)) (by rw [length_take,hnl];omega) (fun j v hj=>hnc j v (Jz hj).2)
theorem Src.Pz {A:Nat→Prop} (s:ByteArray):Src P w A 1 (Co s) (.string s) where
 sz j e he:=by
  unfold Co at he;rw [getElem?_map] at he;cases hb:s.data.toList[j]? with
  |none=>rw [hb] at he;cases he
  |some b=>rw [hb] at he;cases he;rfl
 len:=by
  have hl:(Co s).length=s.size:=by unfold Co;rw [length_map,length_toList];rfl
  rw [hl];rfl
 zero:=by simp [Builtin.firstCells]
 get _ _:=by
  refine ⟨s.data.toList.map fun b =>.int .u8 (b.toNat:Int),by simp [Co],fun u hu => ?_,fun j e c x he hx => ?_,fun m hm => ?_⟩
  ·obtain ⟨b,_,rfl⟩:=mem_map.1 hu;rfl
  ·unfold Co at he;rw [getElem?_map] at he;cases hb:s.data.toList[j]? with
   |none=>rw [hb] at he;cases he
   |some b=>
    rw [hb] at he;cases he;have hc:c=0:=by have:=AU hx;simp at this;omega
    subst hc;cases hx;have:((s.data.toList.map fun b=>Value.int .u8 (b.toNat:Int)).getD (j*1+0) undef)= .int .u8 (b.toNat:Int):=by rw [getD_eq_getElem?_getD,getElem?_map,show j*1+0=j by omega,hb];rfl
    rw [this];exact .int _ _
  ·have:((s.extract 0 m).data.map fun b=>Value.int .u8 (b.toNat:Int))=((s.data.toList.map fun b=>Value.int .u8 (b.toNat:Int)).take (m*1)).toArray:=by apply Array.ext';simp [map_take]
   show Sem.run P (pure _) w=_;rw [this];rfl
theorem S1 {z:Nat} {x:AV} {K:List (List Tree)→Option R} {r:R} (hr:Gv h z x K=some r) (hh:Ai B κ h w) {v:Value} (hv:AR B κ h w x v) :
  ∃es,K es=some r∧Src P w (fun b=>B b∨Ex κ h b) z es v:=by
 unfold Gv at hr;simp only [AI] at hr;split at hr
 ·rename_i s;obtain ⟨rfl,hK⟩:=AL hr;cases hv with|t _ _ hv=>
  cases hv;exact ⟨_,hK,.Pz s⟩
 ·obtain ⟨es,h1,h2⟩:=IN hr hh hv;exact ⟨es,h1,.TV h2⟩
theorem Uc {t t':TypeId} {d x:AV} {K:AV→Heap→Option R} {r:R} (hr:LU P t h d x K=some r) (hh:Ai B κ h w) {vd vx:Value} (hd:AR B κ h w d vd) (hx:AR B κ h w x vx) (ty:TypeId) :
  ∃v h' val w',K v h'=some r∧(Builtin.copy_ #[t,t'] ty #[vd,vx]).run P w = .ok val w'∧AR B κ h' w' v val∧Ai B κ h' w'∧Ext κ h w κ h' w':=by
 unfold LU at hr
 try simp only [AI] at hr
 obtain ⟨z,hz,hr1⟩:=bind_some hr;clear hr;obtain ⟨e,hu,hze⟩:∃e,P.underlying t=some (.slice e)∧BV P e=some z:=by
  unfold EC at hz;split at hz
  ·rename_i e hu;exact ⟨e,hu,hz⟩
  ·cases hz
 obtain ⟨new,hr2,hsl⟩:=S1 (P:=P) hr1 hh hx;clear hr1;split at hr2
 ·rename_i ri ver off len;split at hr2
  ·rename_i ver' size es hri;obtain ⟨⟨rfl,rfl⟩,hK⟩:=AL hr2;cases hd with
   |sref _ _ _ _ _ _ hex hsr=>
    obtain ⟨kk,hkk⟩:=Bf hh hri;obtain ⟨_,hle,hm⟩:=hsr kk _ hkk hri rfl;simp only [AA.len] at hle;have ho:=hh.obj ri _ _ hri hkk;have hsame:new.take len=[]→h.set ri (.row false ver' size (A0 es off (new.take len)))=h:=fun h0=>by
     rw [h0];apply ext_getElem?;intro j;by_cases hij:j=ri
     ·rw [hij,Ao hri,hri];simp [A0]
     ·rw [CU hij]
    have hnone:∀(base:Option Addr) (c:Nat),min new.length len=0→(Builtin.copy_ #[t,t'] ty #[.slice base len c,vx]).run P w = .ok (.int .i64 (min new.length len:Nat)) w:=fun base c h0=>by have h0':Nat.min new.length len=0:=h0;cases base<;>simp [Builtin.copy_,run_underlying hu,hsl.len,hsl.zero,BJ hze,h0,h0',goInt,storeCells]
    by_cases h0:min new.length len=0
    ·have ht:new.take len=[]:=eq_nil_of_length_eq_zero (by rw [length_take];omega);rw [hsame ht] at hK;rcases hm with ⟨rfl,hof,a0,rfl⟩|⟨b,base,rfl,cap,rfl,hcap,hcs⟩
     ·exact ⟨_,_,_,_,hK,hnone _ _ h0,.t _ _ (.int _ _),hh,Ext.refl _ _ _⟩
     ·exact ⟨_,_,_,_,hK,hnone _ _ h0,.t _ _ (.int _ _),hh,Ext.refl _ _ _⟩
    ·rcases hm with ⟨rfl,hof,a0,rfl⟩|⟨b,base,rfl,cap,rfl,hcap,hcs⟩
     ·simp at h0
     ·obtain ⟨hsz0,cells,el,fr,hcell,hth,hcsz,hls,hct⟩:=ho;simp only [AA.size];have hn:new≠[]:=fun e=>h0 (by rw [e];simp);obtain ⟨news,hnl,hn1,hnt,hfc⟩:=hsl.get hsz0 hn;have htl:(new.take len).length=min new.length len:=by rw [length_take];omega
      have hnl2:(news.take (min new.length len*size)).length=(new.take len).length*size:=by rw [length_take,hnl,htl];have:=mul_le_mul_right size (Nat.min_le_left new.length len);omega
      have hrow:BB w (fun b=>B b∨Ex κ h b) size (new.take len) fun q=>(news.take (min new.length len*size)).getD q undef:=by
       refine ⟨fun j e he=>hsl.sz j e (Jz he).2,fun j e c y he hy => ?_⟩;have hj:=AU he;have hcl:c<size:=by rw [← hsl.sz j e (Jz he).2];exact AU hy
       have hq:=mul_le_mul_right size (show j+1≤min new.length len by omega);rw [succ_mul] at hq;have:=hnt j e c y (Jz he).2 hy;simp only [List.getD] at this ⊢;rw [getElem?_take_of_lt (by omega)];exact this
      obtain ⟨f1,f2,f3,f4,f5⟩:=GW (new:=new.take len) (p:=off) (vals:=news.take (min new.length len*size)) hh hri hkk hcell (by omega) hnl2 hrow;refine ⟨_,_,.int .i64 (min new.length len:Nat),_,hK,?_,.t _ _ (.int _ _),f4,f5⟩;have hl:=hfc (min new.length len) (Nat.min_le_left _ _);have hst:=BU P b (base+off*size) size el fr (news.take (min new.length len*size)) 0 cells w hcell hth (by simpa using f1) (fun v hv=>hn1 v (List.mem_of_mem_take hv));simp only [add_zero] at hst;have hmn:Nat.min new.length len=min new.length len:=rfl;simp [Builtin.copy_,run_underlying hu,hsl.len,BJ hze,hmn,hl,hst,goInt,Ah]
  ·cases hr2
 ·cases hr2
theorem strB_ok {src dst:TypeId} (hb:Li P src dst=true):P.underlying src=some .string∧∃e,P.underlying dst=some (.slice e)∧P.underlying e=some (.int .u8):=by
 unfold Li at hb;split at hb
 ·rename_i e h1 h2;split at hb
  ·rename_i h3;exact ⟨h1,e,h2,h3⟩
  ·cases hb
 ·cases hb
theorem Se {src dst:TypeId} {x:AV} {K:AV→Heap→Option R} {r:R} (hb:Li P src dst=true) (hr:I9 h x K=some r) (hh:Ai B κ h w) {vx:Value} (hx:AR B κ h w x vx) :
  ∃v h' κ' val w',K v h'=some r∧(convert src dst vx).run P w = .ok val w'∧AR B κ' h' w' v val∧Ai B κ' h' w'∧Ext κ h w κ' h' w':=by
 obtain ⟨hs,e,hd,he⟩:=strB_ok hb;unfold I9 at hr;obtain ⟨s,hs',hK⟩:=bind_some hr;obtain rfl:=D3 hs' hx;have hrun:=Lib.run_convert_string_bytes (P:=P) w src dst e s hs hd he;have h5:∀b',b'<w.heap.size→(Lib.bytesWorld w e s).heap[b']? = w.heap[b']? :=fun b' hb'=>Lib.bytesWorld_at_old w e s b' hb';have hnew:=Lib.bytesWorld_at_new w e s;have hsz:=Lib.bytesWorld_size w e s;have x1:Ext κ h w (κ++[some (w.heap.size,0)]) (h++[.row false 0 1 (Co s)]) (Lib.bytesWorld w e s):=
  BW (w':=Lib.bytesWorld w e s) hh rfl rfl rfl (by rw [hsz];omega) h5 fun b base e=>by injection e with e;injection e with e;omega
 have hge:=grownCap_ge w s.size 0 e;have hcs:(Lib.bytesCells w e s).size=grownCap w s.size 0 e:=by have:s.data.size=s.size:=rfl;simp only [Lib.bytesCells,size_append,Array.size_map,Array.size_replicate,this];omega
 have hh1:=BI hh h5 x1 (fun b base e=>by injection e with e;injection e with e;subst e;exact ⟨le_refl _,by rw [hsz];omega⟩)
  (Bw (by omega) hnew (.inr ⟨rfl,le_refl _⟩) (by rw [C4,hcs];omega) ⟨fun j c hj=>J2 s j c hj,fun j c k y hj hy=>by
   obtain ⟨_,rfl,h3⟩:=J3 (w:=Lib.bytesWorld w e s) (A:=fun b=>B b∨Ex (κ++[some (w.heap.size,0)]) (h++[.row false 0 1 (Co s)]) b) s j c k y hj hy;have hjl:j<s.size:=by rw [← C4];exact AU hj
   have:(Lib.bytesCells w e s).getD (0+(j*1+0)) undef=(Lib.strCells s).getD j undef:=by
    have hjd:j<s.data.size:=hjl;rw [show 0+(j*1+0)=j by omega];have hj2:j<s.size+(grownCap w s.size 0 e-s.size):=by omega
    simp [Lib.bytesCells,Lib.strCells,List.getD,Array.getD,Array.getElem_append,hjd,hj2,hjl]
   dsimp only;rw [this];exact h3⟩)
 exact ⟨_,_,_,_,_,hK,hrun,Bq (by rw [← hh.len];exact Ag κ _) (Ag h _) hnew (by rw [hcs];omega) (C4 s) hge,hh1,x1⟩
theorem UY {t:TypeId} {n c:AV} {K:AV→Heap→Option R} {r:R} (hr:LN P t h n c K=some r) (hh:Ai B κ h w) {vn vc:Value} (hn:AR B κ h w n vn) (hc:AR B κ h w c vc) :
  ∃v h' κ' val w',K v h'=some r∧(Instr.makeSlice t vn vc).run P w = .ok val w'∧AR B κ' h' w' v val∧Ai B κ' h' w'∧Ext κ h w κ' h' w':=by
 unfold LN at hr
 try simp only [AI] at hr
 obtain ⟨z,hz,hr1⟩:=bind_some hr;clear hr;obtain ⟨e,i,zv,hu,hi,hzv,rfl,hz0,hzs,hby⟩:=LK hz;rw [hu] at hr1;simp only at hr1;obtain ⟨a,ha,hr2⟩:=bind_some hr1;obtain ⟨b,hb,hr3⟩:=bind_some hr2;obtain rfl:=CB ha hn;obtain rfl:=CB hb hc;obtain ⟨zs,i',v,hr4,hi',hv,hs,hz0',hsi,h1,hT⟩:=Nv hr3 hh;rw [hi] at hi';cases hi';rw [hzv] at hv;cases hv;obtain ⟨⟨rfl,ha0,hale,hzl⟩,hK⟩:=AL hr4;obtain ⟨m,rfl⟩:=Int.eq_ofNat_of_zero_le ha0;simp only [toNat_natCast] at hK;have hbytes:(i.bytes:Int)*(m:Int)≤281474976710656:=by
  have h2:i.bytes*m≤65536*1073741824:=Nat.mul_le_mul hby (by omega);have h3:((i.bytes*m:Nat):Int)≤281474976710656:=by omega
  rwa [Int.natCast_mul] at h3
 have hrun:=run_make (P:=P) w t e i zv hu hi hzv .i64 .i64 m m ha0 (Int.le_refl _) hbytes (by omega);simp only [toNat_natCast] at hrun;have hmade:madeCells zv.cells (m*i.size)=Builtin.zeroCells zv.cells m:=by simp only [madeCells,Builtin.zeroCells,hzs]
 rw [hmade] at hrun;have h5:∀b',b'<w.heap.size→(w.alloc (.cells (Builtin.zeroCells zv.cells m) e)).heap[b']? = w.heap[b']? :=fun b' hb'=>Aj w _ hb';have x1:Ext κ h w (κ++[some (w.heap.size,0)]) (h++[.row false 0 i.size (replicate m zs)]) (w.alloc (.cells (Builtin.zeroCells zv.cells m) e)):=
  BW (w':=w.alloc _) hh rfl rfl rfl (by simp) h5 fun b base e=>by injection e with e;injection e with e;omega
 have hnew:=A5 w (.cells (Builtin.zeroCells zv.cells m) e);have hsz:(Builtin.zeroCells zv.cells m).size=m*i.size:=by rw [size_zeroCells,hzs]
 have hh1:=BI hh h5 x1 (fun b base e=>by injection e with e;injection e with e;subst e;exact ⟨le_refl _,by simp⟩)
  (Bw hz0 hnew (.inl rfl) (by simp [hsz]) (by have hrow:=Nu hs hT m;rw [hzl] at hrow;have h6:=Cu x1 hrow;refine ⟨h6.1,fun j e' c y he hy => ?_⟩;have:=h6.2 j e' c y he hy;dsimp only at this ⊢;rw [← BP] at this;rw [zero_add];simpa using this))
 exact ⟨_,_,_,_,_,hK,hrun,Bq (by rw [← hh.len];exact Ag κ _) (Ag h _) hnew (by rw [hsz];omega) (by simp) (le_refl _),hh1,x1⟩
end Ab
namespace Go.Proofs
open Go.Shelf Go.RowKit Go.Lib
variable {P:Program} {ρ:Ren}
structure Ef (P:Program) (ρ:Ren) (z:Nat):Prop where
 mixed:P.follows .mixedOrders=true
 f22:Bears P (ρ.f 22) (Body2.n22 ρ)
 f29 : ∃ fn, P.funcs[ρ.f 29]? = some fn ∧ (fn.name == "runtime.NumGoroutine") = false ∧ fn.body.isNone = true ∧ Extern.findNext fn = none ∧ Extern.find fn = some (Extern.SlicesOverlaps.overlaps #[ρ.t 24, ρ.t 24] #[ρ.t 4])
 t3:P.underlying (ρ.t 3)=some (TypeDesc.int IntKind.i64)
 a3:∀w,(isAgg (ρ.t 3)).run P w = .ok false w
 z3:∀w,(Go.sizeOf (ρ.t 3)).run P w = .ok 1 w
 v3:∀w,(zeroValue (ρ.t 3)).run P w = .ok (Value.int IntKind.i64 0) w
 t4:P.underlying (ρ.t 4)=some (TypeDesc.bool)
 a4:∀w,(isAgg (ρ.t 4)).run P w = .ok false w
 z4:∀w,(Go.sizeOf (ρ.t 4)).run P w = .ok 1 w
 v4:∀w,(zeroValue (ρ.t 4)).run P w = .ok (Value.bool false) w
 z9:∀w,(Go.sizeOf (ρ.t 9)).run P w = .ok z w
 t24:P.underlying (ρ.t 24)=some (TypeDesc.slice (ρ.t 9))
 a24:∀w,(isAgg (ρ.t 24)).run P w = .ok false w
 z24:∀w,(Go.sizeOf (ρ.t 24)).run P w = .ok 1 w
 v24:∀w,(zeroValue (ρ.t 24)).run P w = .ok (Value.slice none 0 0) w
 i9:∃(i:TypeInfo) (zv:Value),P.info? (ρ.t 9)=some i∧i.zero=some zv∧i.size=z∧zv.cells.size=z∧i.bytes≤65536
 pos:0<z
structure Ri (P:Program) (ρ:Ren) (z:Nat):Prop where
 lay:Lays8.n4 P ρ
 i25:∃(i:TypeInfo) (zv:Value),P.info? (ρ.t 25)=some i∧i.zero=some zv∧i.size=z∧zv.cells.size=z∧i.bytes≤65536
 pos:0<z
theorem DC (w:World) (dT sT ty elem:TypeId) (z:Nat) (b o dLen dCap:Nat) (a:Addr) (A8 sCap k:Nat) (cs:List Value)
  (hu:P.underlying dT=some (.slice elem)) (hs:∀w,(Go.sizeOf elem).run P w = .ok z w) (hk:k=Nat.min A8 dLen) (hn:cs.length=k*z)
  (hsrc:∀j v,cs[j]? = some v→w.cell? (a.add j)=some v) (hc:∀j,j<cs.length→(w.cell? ⟨b,o+j,none⟩).isSome=true) (hf:∀j,j<cs.length→w.frozen? ⟨b,o+j,none⟩=false) (h1:∀v∈cs,v.oneCell'=true) :
  (Builtin.copy_ #[dT,sT] ty #[.slice (some ⟨b,o,none⟩) dLen dCap,.slice (some a) A8 sCap]).run P w = .ok (goInt k) (w.setCells b o cs):=by
 have hl:=run_loadCells_list (P:=P) w a cs hsrc;have hst:=run_storeCells_cells (P:=P) b o cs 0 w (by simpa using hc) (by simpa using hf) h1;rw [hn] at hl;simp [Builtin.copy_,run_underlying hu,Builtin.lenOf,Builtin.firstCells,hs,← hk,hl,hst]
theorem Ik (w:World) (tS tR e:TypeId) (ht:P.underlying tS=some (.slice e)) (size:Nat) (hz:∀w,(Go.sizeOf e).run P w = .ok size w)
  (a b:Addr) (la ca lb cb:Nat) (hne:a.block≠b.block) (tA tB:TypeId) (kA kB:Nat)
  (hsa:w.shape? a.block=some (tA,kA)) (hsb:w.shape? b.block=some (tB,kB)) (hkA:kA≠0)
  (hfb:w.frozen? b=false) (hfe:w.frozen? {block:=b.block,off:=kB}=false) :
  (Extern.SlicesOverlaps.overlaps #[tS,tS] #[tR] #[.slice (some a) la ca,.slice (some b) lb cb]).run P w = .ok (.bool false) w:=by
 have hnb:(a.block != b.block)=true:=by simpa using hne
 have hnb':(a.block==b.block)=false:=by simpa using hne
 change Sem.run P (underlying tS >>= _) w=_;rw [Sem.run_bind,run_underlying ht,Result.andThen_ok];change Sem.run P (Go.sizeOf e >>= _) w=_;rw [Sem.run_bind,hz,Result.andThen_ok];dsimp only;by_cases h0:la=0∨lb=0∨size=0
 ·simp [h0]
 ·cases kA with
  |zero=>exact absurd rfl hkA
  |succ kA=>
   cases hfa:w.frozen? a<;>cases hfa2:w.frozen? {block:=a.block,off:=kA+1}<;>
    simp [h0,hnb,hnb',frozen,noView,viewAt,mayBeOne,stringish,shape,Sem.run,hsa,hsb,hfb,hfe,hfa,hfa2]
end Go.Proofs
namespace Ab
open Go
mutual
def tT:Tree→Tree→Bool
 | .int k n,.int k' n'=>decide (k=k')&&decide (n=n')
 | .bool b,.bool b'=>b==b'
 | .str s,.str s'=>decide (s.data.toList=s'.data.toList)
 | .sl z es,.sl z' es'=>decide (z=z')&&tLL es es'
 | .mp k m,.mp k' m'=>decide (k=k')&&decide (m=m')
 |_,_=>false
def tL:List Tree→List Tree→Bool
 |[],[]=>true
 |x::l,y::k=>tT x y&&tL l k
 |_,_=>false
def tLL:List (List Tree)→List (List Tree)→Bool
 |[],[]=>true
 |x::l,y::k=>tL x y&&tLL l k
 |_,_=>false
end
mutual
theorem tT_ok:∀a b:Tree,tT a b=true→a=b
 | .int k n,b,h=>by cases b<;>simp_all [tT]
 | .bool b,c,h=>by cases c<;>simp_all [tT]
 | .str s,c,h=>by cases c<;>simp only [tT,decide_eq_true_eq,reduceCtorEq,false_eq_true] at h;rename_i t;cases s;cases t;rename_i a b;simp only at h;have:a=b:=Array.ext' h;rw [this]
 | .sl z es,c,h=>by cases c<;>simp only [tT,and_eq_true,decide_eq_true_eq,reduceCtorEq,false_eq_true] at h;rename_i z' es';rw [h.1,PU es es' h.2]
 | .const v,c,h=>by cases c<;>simp_all [tT]
 | .mp k m,c,h=>by cases c<;>simp_all [tT]
theorem N0:∀a b:List Tree,tL a b=true→a=b
 |[],b,h=>by cases b<;>simp_all [tL]
 |x::l,b,h=>by
  cases b with
  |nil=>simp [tL] at h
  |cons y k=>
   simp only [tL,and_eq_true] at h;rw [tT_ok x y h.1,N0 l k h.2]
theorem PU:∀a b:List (List Tree),tLL a b=true→a=b
 |[],b,h=>by cases b<;>simp_all [tLL]
 |x::l,b,h=>by
  cases b with
  |nil=>simp [tLL] at h
  |cons y k=>
   simp only [tLL,and_eq_true] at h;rw [N0 x y h.1,PU l k h.2]
end
def tFn:Fn→Fn→Bool
 | .func f,.func g=>decide (f=g)
 |_,_=>false
theorem tFn_ok (a b:Fn) (h:tFn a b=true):a=b:=by cases a<;>cases b<;>simp_all [tFn]
mutual
def tA:AV→AV→Bool
 | .undef,.undef=>true
 | .nilsl,.nilsl=>true
 | .t x,.t y=>tT x y
 | .ptr i o,.ptr j p=>decide (i=j)&&decide (o=p)
 | .rptr i v k o,.rptr j w l p=>decide (i=j)&&(decide (v=w)&&(decide (k=l)&&decide (o=p)))
 | .eptr s c o,.eptr s' c' o'=>decide (s=s')&&(tL c c'&&decide (o=o'))
 | .sref i v o l,.sref i' v' o' l'=>decide (i=i')&&(decide (v=v')&&(decide (o=o')&&decide (l=l')))
 | .bsl i o l s,.bsl i' o' l' s'=>decide (i=i')&&(decide (o=o')&&(decide (l=l')&&decide (s=s')))
 | .yld i,.yld j=>decide (i=j)
 | .mref i,.mref j=>decide (i=j)
 | .func f a b,.func f' a' b'=>tFn f f'&&(tAs a a'&&tAs b b')
 | .agg a,.agg b=>tAs a b
 | .tuple a,.tuple b=>tAs a b
 |_,_=>false
def tAs:List AV→List AV→Bool
 |[],[]=>true
 |x::l,y::k=>tA x y&&tAs l k
 |_,_=>false
end
mutual
theorem tA_ok:∀a b:AV,tA a b=true→a=b
 | .undef,b,h=>by cases b<;>simp_all [tA]
 | .nilsl,b,h=>by cases b<;>simp_all [tA]
 | .t x,b,h=>by cases b<;>simp only [tA,reduceCtorEq,false_eq_true] at h;rw [tT_ok _ _ h]
 | .ptr ..,b,h=>by cases b<;>simp_all [tA]
 | .rptr ..,b,h=>by cases b<;>simp_all [tA]
 | .eptr s c o,b,h=>by cases b<;>simp only [tA,and_eq_true,decide_eq_true_eq,reduceCtorEq,false_eq_true] at h;rw [h.1,N0 _ _ h.2.1,h.2.2]
 | .sref ..,b,h=>by cases b<;>simp_all [tA]
 | .bsl ..,b,h=>by cases b<;>simp_all [tA]
 | .yld ..,b,h=>by cases b<;>simp_all [tA]
 | .mref ..,b,h=>by cases b<;>simp_all [tA]
 | .func f x y,b,h=>by cases b<;>simp only [tA,and_eq_true,reduceCtorEq,false_eq_true] at h;rw [tFn_ok _ _ h.1,Ii _ _ h.2.1,Ii _ _ h.2.2]
 | .agg x,b,h=>by cases b<;>simp only [tA,reduceCtorEq,false_eq_true] at h;rw [Ii _ _ h]
 | .tuple x,b,h=>by cases b<;>simp only [tA,reduceCtorEq,false_eq_true] at h;rw [Ii _ _ h]
theorem Ii:∀a b:List AV,tAs a b=true→a=b
 |[],b,h=>by cases b<;>simp_all [tAs]
 |x::l,b,h=>by
  cases b with
  |nil=>simp [tAs] at h
  |cons y k=>
   simp only [tAs,and_eq_true] at h;rw [tA_ok x y h.1,Ii l k h.2]
end
def tO:AA→AA→Bool
 | .box a,.box b=>tAs a b
 | .mapo k ke e,.mapo k' ke' e'=>decide (k=k')&&(decide (ke=ke')&&decide (e=e'))
 | .row f v s e,.row f' v' s' e'=>(f==f')&&(decide (v=v')&&(decide (s=s')&&tLL e e'))
 |_,_=>false
theorem tO_ok:∀a b:AA,tO a b=true→a=b
 | .box a,b,h=>by cases b<;>simp only [tO,reduceCtorEq,false_eq_true] at h;rw [Ii _ _ h]
 | .row f v s e,b,h=>by cases b<;>simp only [tO,and_eq_true,decide_eq_true_eq,beq_iff_eq,reduceCtorEq,false_eq_true] at h;rw [h.1,h.2.1,h.2.2.1,PU _ _ h.2.2.2]
 | .loop l,b,h=>by cases b<;>simp [tO] at h
 | .mapo ..,b,h=>by cases b<;>simp_all [tO]
noncomputable def decBy {α:Type} (t:α→α→Bool) (ok:∀a b,t a b=true→a=b) (a b:α):Decidable (a=b):=
 match h:t a b with
 |true=>isTrue (ok a b h)
 |false=>Classical.propDecidable _
noncomputable instance (priority:=low) dqAny (α:Type):Dq α:=⟨fun _ _=>Classical.propDecidable _⟩
noncomputable instance dqLT:Dq (List Tree):=⟨decBy tL N0⟩
theorem Tw {α:Type} (i j:Dq α):i=j:=by cases i;cases j;congr;exact Subsingleton.elim _ _
variable {R:Type} [Dq R]
def Env.put (env:Env) (d:Option Tmp) (v:AV):Env:=
 match d with
 |some d=>fun i=>if i=d then v else env i
 |none=>env
structure Hints where
 loop:Nat→List Tmp
 block:Nat→List Tmp
 cond:Tmp→List Tmp
 reg:Nat→List Tmp
 rowsz:Tmp→Nat
 tree:Tmp→Bool
 imm:Tmp→Bool
 immT:TypeId→Bool
 nilT:TypeId→Bool
 tm:Tmp→AV
 split:Tmp→Bool:=fun _=>false
 only:Tmp→Nat:=fun _=>0
 pre:Nat→List Tmp:=fun _=>[]
def Ci (d:List (List Tree)):List Value:=(d.map fun e=>e.map fun x=>Value.int .i64 (intOf x)).flatten
def fnV:Option FuncId→Array Value
 |none => #[]
 |some g => #[.func (.func g) #[] #[]]
structure Grow (w w':World):Prop where
 os:w'.os=w.os
 tape:w'.tape=w.tape
 output:w'.output=w.output
 size:w.heap.size≤w'.heap.size
 block:∀b,b<w.heap.size→w'.heap[b]? = w.heap[b]?
structure GR (P:Program) (g:FuncId) (z m:Nat) (f:Option FuncId) (F:List (List Tree)→List (List Tree)):Prop where
 len:∀d,(F d).length=d.length
 int:∀d,Av z d=true→Av z (F d)=true
 nil:∀(a:Option Addr) (w:World),Calls P g (#[.slice a 0 0]++fnV f) w fun e w'=>e = .returned (.tuple #[])∧Grow w w'
 run:∀(d:List (List Tree)) (w:World) (b o cap:Nat) (cells:Array Value) (el:TypeId) (fr:Nat×Nat),Av z d=true→d.length≤m→w.heap[b]? = some (.cells cells el fr)→LY z cells.size fr→o+d.length*z≤cells.size→
  (∀q,q<d.length*z→cells.getD (o+q) undef=(Ci d).getD q undef)→
  Calls P g (#[.slice (some ⟨b,o,none⟩) d.length cap]++fnV f) w fun e w'=>e = .returned (.tuple #[])∧Grow (w.setRow b (Ah cells o (Ci (F d)))) w'
def Ql (P:Program) (g:FuncId):Prim→Prop
 | .ins z=>∃ρ:Go.Shelf.Ren,ρ.f 22=g∧Go.Proofs.Ef P ρ z
 | .grow z=>∃ρ:Go.Shelf.Ren,ρ.f 4=g∧Go.Proofs.Ri P ρ z
 | .perm z m f F=>GR P g z m f F
structure Cfg where
 P:Program
 heapful:FuncId→Bool
 own:FuncId→Bool
 reuse:FuncId→Bool
 joinc:FuncId→Bool
 prim:FuncId→Option Prim
 primOk:∀g p,prim g=some p→Ql P g p
 cur:Tmp→Bool
 curT:TypeId→Bool
 curN:TypeId→Bool
 depth:Nat
 hints:FuncId→Hints
 ext:FuncId→List Tree→Option (List Tree):=fun _ _=>none
 own2:FuncId→Option Nat:=fun _=>none
 fnTy:TypeId→Bool:=fun _=>false
 renT:FuncId→TypeId→Option (Tmp×Tmp):=fun _ _=>none
 ren:TypeId→Option (Tmp×Tmp):=fun _=>none
def Cfg.at (C:Cfg) (g:FuncId):Cfg:={C with cur:=(C.hints g).imm,curT:=(C.hints g).immT,curN:=(C.hints g).nilT,ren:=C.renT g}
inductive Req where
 |fn (g:FuncId) (args:List AV)
 |yield (i:Nat) (args:List AV)
abbrev Rec:=∀(R:Type) [Dq R],Req→Heap→(List AV→Heap→Option R)→Option R
abbrev BC:=FuncId→List Tree→Option (List Tree)
def F7 (P:Program) (t:TypeId) (leaf:Nat→AV) (off:Nat):Option (AV×Nat):=
 match Ax P t,BV P t with
 |some true,some n=>some (.agg (A1 leaf off n),off+n)
 |some false,_=>some (leaf off,off+1)
 |_,_=>none
def B5 (P:Program) (leaf:Nat→AV):List TypeId→Nat→Option (List AV)
 |[],_=>some []
 |t::ts,off=>match F7 P t leaf off with
  |some (v,off')=>(B5 P leaf ts off').map (v::·)
  |none=>none
def CL (P:Program) (g:FuncId) (leaf:Nat→AV):Option AV:=
 match P.funcs[g]? with
 |some fn=>match B5 P leaf fn.resultTypes.toList 0 with
  |some [v]=>some v
  |some vs=>some (.tuple vs)
  |none=>none
 |none=>none
def C2 (P:Program) (g:FuncId) (leaf:Nat→AV):Option (List AV):=
 match P.funcs[g]? with
 |some fn=>B5 P leaf fn.params.toList 0
 |none=>none
def H0 (P:Program) (g:FuncId):List TypeId:=
 match P.funcs[g]? with
 |some fn=>(fn.params.toList.map (Ba P 16)).flatten
 |none=>[]
def C1 (P:Program) (g:FuncId):List TypeId:=
 match P.funcs[g]? with
 |some fn=>(fn.resultTypes.toList.map (Ba P 16)).flatten
 |none=>[]
def S9 (P:Program) (t:TypeId):Bool:=
 match P.underlying t with
 |some (.int _)|some .bool|some .string=>true
 |_=>false
def B6 (P:Program) (g:FuncId):Bool:=(C1 P g).all (S9 P)
def Tree.scalar:Tree→Bool
 | .int _ _ | .bool _ | .str _=>true
 |_=>false
def flatK (P:Program):List TypeId→List AV→(List AV→Option R)→Option R
 |[],[],K=>K []
 |t::ts,v::vs,K=>
  match Ax P t with
  |some true=>match v with
   | .agg cs=>cnd (BV P t=some cs.length) (flatK P ts vs fun rs=>K (cs++rs)) none
   |_=>none
  |some false=>cnd (v.leaf=true) (flatK P ts vs fun rs=>K (v::rs)) none
  |none=>none
 |_,_,_=>none
def DU (h:Heap):AV→Heap
 | .sref i _ _ _=>match h[i]? with
  |some (.row _ v s es)=>h.set i (.row true v s es)
  |_=>h
 |_=>h
def AZ (h:Heap) (vs:List AV):Heap:=vs.foldl DU h
def below:Nat→Nat→AV→Bool
 |0,_,_=>false
 |d+1,m,v=>match v with
  | .undef | .t _ | .nilsl | .eptr _ _ _=>true
  | .ptr i _ | .rptr i _ _ _ | .sref i _ _ _ | .bsl i _ _ _ | .yld i | .mref i=>decide (i<m)
  | .func _ f c=>f.all (below d m)&&c.all (below d m)
  | .agg cs | .tuple cs=>cs.all (below d m)
def F5 (m:Nat):AA→Bool
 | .box cs=>cs.all (below 4 m)
 | .loop l=>decide (l.hl≤m)
 |_=>true
def isT:AV→Bool
 | .t _=>true
 |_=>false
def Az:AV→Tree
 | .t x=>x
 |_=>default
def Eh:AV→Nat
 | .sref _ v _ _=>v
 | .rptr _ v _ _=>v
 |_=>0
def Gw:AV→Nat
 | .sref _ _ o _=>o
 |_=>0
def Gx:AV→Nat
 | .sref _ _ _ l=>l
 |_=>0
def S7 (x0 x:Tree):Bool:=
 match x0 with
 | .int k _=>Ez k x
 | .bool _=>Dy x
 | .str _=>Ey x
 | .sl s _=>Em s x
 |_=>true
def OH (x0 x:Tree):Tree:=
 match x0 with
 | .int k _ =>.int k (intOf x)
 | .bool _ =>.bool (Cf x)
 | .str _ =>.str (strOf x)
 | .sl s _ =>.sl s (E4 x)
 |_=>x
def E8:Nat→AV→AV→Bool
 |0,_,_=>false
 |d+1,v,v'=>match v,v' with
  | .ptr i o,.ptr j p=>i==j&&o==p
  | .yld i,.yld j=>i==j
  | .mref i,.mref j=>i==j
  | .nilsl,.nilsl=>true
  | .func (.func f) a b,.func (.func g) a' b'=>f==g&&A3 d a a'&&A3 d b b'
  |_,_=>false
where
 A3:Nat→List AV→List AV→Bool
 |_,[],[]=>true
 |d,x::xs,y::ys=>E8 d x y&&A3 d xs ys
 |_,_,_=>false
def HA (v0 v:AV):Bool:=
 match v0 with
 | .t x0=>isT v&&S7 x0 (Az v)
 | .sref r _ _ _=>match v with
  | .sref r' _ _ _=>r'==r
  |_=>false
 | .rptr r _ k o=>match v with
  | .rptr r' _ k' o'=>r'==r&&(k'==k&&o'==o)
  |_=>false
 | .ptr i o=>E8 4 (.ptr i o) v
 | .yld i=>E8 4 (.yld i) v
 | .mref i=>E8 4 (.mref i) v
 | .func f a b=>E8 4 (.func f a b) v
 |_=>true
def EU (v0 v:AV):AV:=
 match v0 with
 | .t x0 =>.t (OH x0 (Az v))
 | .sref r _ _ _ =>.sref r (Eh v) (Gw v) (Gx v)
 | .rptr r _ k o =>.rptr r (Eh v) k o
 | .ptr i o =>.ptr i o
 | .yld i =>.yld i
 | .mref i =>.mref i
 | .func f a b =>.func f a b
 |_=>v
def Kc:AA→List (Int×Int)
 | .mapo _ _ es=>es
 |_=>[]
def cellOf (o:AA) (j:Nat):AV:=
 match o with
 | .box cs=>cs.getD j .undef
 |_ =>.undef
def QJ:AA→List (List Tree)
 | .row _ _ _ es=>es
 |_=>[]
def DH:List AV→List AV→Bool
 |[],[]=>true
 |c0::cs0,c::cs=>HA c0 c&&DH cs0 cs
 |_,_=>false
def CX (o:AA):List AV→Nat→List AV
 |[],_=>[]
 |c0::cs0,j=>EU c0 (cellOf o j)::CX o cs0 (j+1)
def D4:AV→List AV
 | .agg cs=>cs
 |_=>[]
def isAgg:AV→Bool
 | .agg _=>true
 |_=>false
def KA (v0 v:AV):Bool:=
 match v0 with
 | .agg cs0=>isAgg v&&DH cs0 (D4 v)
 |v0=>HA v0 v
def F2 (v0 v:AV):AV:=
 match v0 with
 | .agg cs0 =>.agg (CX (.box (D4 v)) cs0 0)
 |v0=>EU v0 v
def RY (tm:Tmp→AV) (env:Env) (i:Tmp):AV:=
 match env i with
 | .undef=>tm i
 |v=>v
def isEptr:AV→Bool
 | .eptr _ _ _=>true
 |_=>false
def isFn0:AV→Bool
 | .func _ [] []=>true
 | .t (.const .nilFunc)=>true
 |_=>false
def isFnV:AV→Bool
 | .func _ _ _=>true
 |_=>false
def E1:AA→Bool
 | .box cs=>(cs.any fun v=>match v with
  | .func _ _ c=>c.any isEptr
  |_=>false)||(cs.any isFnV&&(cs.all isFn0&&(cs.filter fun v => !isFnV v).length==1))
 |_=>false
def KE:Option Code→Option Code→Bool
 |none,none=>true
 |some .ret,some .ret=>true
 |some (.exit i),some (.exit j)=>i==j
 |_,_=>false
theorem OC {a b:Option Code} (h:KE a b=true):a=b:=by
 unfold KE at h;split at h
 ·rfl
 ·rfl
 ·simp only [beq_iff_eq] at h;rw [h]
 ·cases h
def B0 (o0 o:AA):Bool:=
 match o0,o with
 | .box cs0,.box cs=>E1 (.box cs0)||DH cs0 cs
 | .row true _ _ _,_=>true
 | .row false _ s0 _,.row f _ s _ => !f&&(s0==0||s==s0)
 | .mapo k ke _,.mapo k' ke' _=>decide (k'=k∧ke'=ke)
 | .loop l0,.loop l=>l.ended==l0.ended&&l.busy==l0.busy&&KE l.pending l0.pending
 |_,_=>false
def busyOf:AA→Bool
 | .loop l=>l.busy
 |_=>false
def pendOf:AA→Option Code
 | .loop l=>l.pending
 |_=>none
def reshape (o0 o:AA):AA:=
 match o0 with
 | .box cs=>if E1 (.box cs) then .box cs else .box (CX o cs 0)
 | .row false _ s0 _ =>.row false o.ver (if s0=0 then o.size else s0) (QJ o)
 | .mapo k ke _ =>.mapo k ke (Kc o)
 |o0=>o0
def Ft:Heap→Heap→Bool
 |[],_=>true
 |o0::h0,o::h=>B0 o0 o&&Ft h0 h
 |_::_,[]=>false
def Bm:Heap→Nat→Heap→Heap
 |[],_,_=>[]
 |o0::h0,i,hs=>reshape o0 (hs.getD i default)::Bm h0 (i+1) hs
def still:AA→Bool
 | .row true _ _ _=>true
 | .loop _=>true
 | .box cs=>E1 (.box cs)
 |_=>false
def S5:Heap→Heap→Heap
 |[],_=>[]
 |o0::h0,o::h=>(if still o0 then .box [] else o)::S5 h0 h
 |_::_,[]=>[]
noncomputable def QW (x y:AA) (a:Option R):Option R:=@ite _ (x=y) (decBy tO tO_ok x y) a none
noncomputable def SJ:Heap→Heap→Option R→Option R
 |[],_,a=>a
 |o0::h0,o::h,a=>if E1 o0 then QW o0 o (SJ h0 h a) else SJ h0 h a
 |_::_,[],_=>none
noncomputable def cutK (h0:Heap) (h:Heap) (K:Heap→Option R):Option R:=
 cnd (((h.take h0.length).all (F5 h0.length))=true∧Ft h0 h=true) (SJ h0 h (K (S5 h0 h))) none
noncomputable def Fh (tm:Tmp→AV) (env0:Env) (h0:Heap) (L:List Tmp) (env:Env) (h:Heap) (K:List AV→Heap→Option R):Option R:=
 cnd ((L.all fun i=>below 4 h0.length (env i)&&KA (RY tm env0 i) (env i))=true) (cutK h0 h fun hs=>K (L.map env) hs) none
def findIdx (i:Tmp):List Tmp→Nat→Option Nat
 |[],_=>none
 |x::xs,k=>if i=x then some k else findIdx i xs (k+1)
def Cg (tm:Tmp→AV) (W L:List Tmp) (env:Env) (s:List AV):Env:=fun i=>
 match findIdx i L 0 with
 |some k=>F2 (RY tm env i) (s.getD k .undef)
 |none=>if W.contains i then .undef else env i
def Ej (hi:Hints):List Tmp→Env→Heap→(Env→Heap→Option R)→Option R
 |[],env,h,K=>K env h
 |i::L,env,h,K=>match env i with
  | .nilsl=>if hi.tree i then Ej hi L (env.put (some i) (.t (.sl (hi.rowsz i) []))) h K
   else Ej hi L (env.put (some i) (.sref h.length 0 0 0)) (h++[.row false 0 (hi.rowsz i) []]) K
  |_=>Ej hi L env h K
def join {S:Type} (J:S→Option R) (f:(S→Option R)→Option R):Option R:=f J
def E0 (ops:Array Oper) (o:Oper) (env:Env) (K1 K0:Env→Option R):Option R:=
 match o.guard with
 |none=>K1 env
 |some (j,want)=>
  match (ops[j]?).bind (·.dst) with
  |some d=>match env d with
   | .t (.bool b)=>
    cnd (b=true) (if want then K1 (env.put (some d) (.t (.bool true))) else K0 (env.put (some d) (.t (.bool true))))
     (if want then K0 (env.put (some d) (.t (.bool false))) else K1 (env.put (some d) (.t (.bool false))))
   | .tuple []=>K0 env
   |_=>none
  |none=>none
def H4 (env:Env):Option Operand→Option AV
 |some x=>some (ev env x)
 |none=>none
def JA (n:Int):List (Int×Nat)→(AV→Option R)→Option R
 |[],K=>K (.tuple [.undef,.t (.bool false)])
 |p::m,K=>cnd (n=p.1) (K (.tuple [.func (.func p.2) [] [],.t (.bool true)])) (JA n m K)
def mapTy (P:Program) (t:TypeId) (k:IntKind):Bool:=
 match P.underlying t with
 |some (.map key elem)=>(match P.underlying key with
  |some (.int k')=>decide (k'=k)
  |_=>false)&&((P.info? elem).bind (·.zero)).isSome
 |_=>false
def Ia (P:Program) (t:TypeId) (m x:AV) (K:AV→Option R):Option R:=
 match m,x with
 | .t (.mp k l),.t (.int k' n)=>cnd (k'=k∧mapTy P t k=true) (JA n l K) none
 |_,_=>none
def Qt (P:Program) (elem:TypeId) (ke:IntKind):Bool:=
 match (P.info? elem).bind (·.zero) with
 |some (.int k2 z)=>decide (k2=ke)&&decide (z=0)
 |_=>false
def F9 (P:Program) (t:TypeId):Option (IntKind×IntKind):=
 match P.underlying t with
 |some (.map key elem)=>match P.underlying key,P.underlying elem with
  |some (.int k),some (.int ke)=>if Qt P elem ke then some (k,ke) else none
  |_,_=>none
 |_=>none
def As (n:Int):List (Int×Int)→Option Int
 |[]=>none
 |p::l=>if n=p.1 then some p.2 else As n l
def BK (n v:Int):List (Int×Int)→List (Int×Int)
 |[]=>[(n,v)]
 |p::l=>if n=p.1 then (n,v)::l else p::BK n v l
def FE (P:Program) (t:TypeId) (h:Heap) (K:AV→Heap→Option R):Option R:=
 match F9 P t with
 |some (k,ke)=>K (.mref h.length) (h++[.mapo k ke []])
 |none=>none
def Gn (P:Program) (t:TypeId) (h:Heap) (m x v:AV) (K:Heap→Option R):Option R:=
 match m,x,v with
 | .mref i,.t (.int kx n),.t (.int kv y)=>match h[i]?,F9 P t with
  |some (.mapo k ke es),some (k',ke')=>cnd (k'=k∧ke'=ke∧kx=k∧kv=ke) (K (h.set i (.mapo k ke (BK n y es)))) none
  |_,_=>none
 |_,_,_=>none
def JB (P:Program) (t:TypeId) (h:Heap) (i:Nat) (x:AV) (co:Bool) (K:AV→Option R):Option R:=
 match h[i]?,x,F9 P t with
 |some (.mapo k ke es),.t (.int kx n),some (k',ke')=>cnd (k'=k∧ke'=ke∧kx=k)
   (K (if co then .tuple [.t (.int ke ((As n es).getD 0)),.t (.bool (As n es).isSome)] else .t (.int ke ((As n es).getD 0)))) none
 |_,_,_=>none
def Qc (s:ByteArray) (i:Nat):Int:=match s[i]? with
 |some b=>(b.toNat:Int)
 |none=>0
def RK:List Tree→Bool
 |[.int .u8 _]=>true
 |_=>false
def okBytes (es:List (List Tree)):Bool:=es.all RK
def byteL:List Tree→UInt8
 |[.int .u8 n]=>UInt8.ofNat n.toNat
 |_=>0
def bytesOf (es:List (List Tree)):ByteArray:=(es.map byteL).foldl ByteArray.push ByteArray.empty
def JE (P:Program) (h:Heap) (src dst:TypeId) (x:AV) (K:AV→Option R):Option R:=
 match P.underlying src,P.underlying dst with
 |some (.slice e),some .string=>match P.underlying e with
  |some (.int .u8)=>elems h 1 x fun es=>cnd (okBytes es=true) (K (.t (.str (bytesOf es)))) none
  |_=>none
 |_,_=>GP P src dst x K
def Ib (P:Program) (t:TypeId) (x ix:AV) (K:AV→Option R):Option R:=
 match P.underlying t,x,ix with
 |some .string,.t (.str s),.t (.int _ i)=>cnd (0≤i∧i<(s.size:Int)) (K (.t (.int .u8 (Qc s i.toNat)))) none
 |some (.array n e),.agg cs,.t (.int _ i)=>cnd (Ax P e=some false∧BV P e=some 1∧cs.length=n) (cnd (0≤i∧i<n) (Hz i n fun j=>K (cs.getD j .undef)) none) none
 |_,_,_=>none
def qop (P:Program) (env:Env) (h:Heap) (op:Op) (K:AV→Option R):Option R:=
 match op with
 | .move x | .assign x=>K (ev env x)
 | .pick c a b=>(asBool (ev env c)).bind fun t=>cnd (t=true) (K (ev env a)) (K (ev env b))
 | .build t parts=>LW P t (parts.toList.map fun p=>(p.1,ev env p.2)) K
 | .buildSlice t len parts=>DN P t h len (parts.toList.map fun p=>(p.1,ev env p.2)) K
 | .load t a=>G6 P t h (ev env a) fun v=>Mr P t v K
 | .binOp op t x y _=>Ud P op t (ev env x) (ev env y) K
 | .unOp op _ x=>aun op (ev env x) K
 | .convert src dst x=>JE P h src dst (ev env x) K
 | .makeFunc fn first captured=>match fn with
  | .yield _=>none
  |fn=>K (.func fn (first.toList.map (ev env)) (captured.toList.map (ev env)))
 | .slice t x lo hi mx=>I8 P t h (ev env x) (H4 env lo) (H4 env hi) (H4 env mx) K
 | .fieldAddr t x f=>HU P t h (ev env x) f K
 | .indexAddr t x ix=>JC P t h (ev env x) (ev env ix) K
 | .extract t i=>match ev env t with
  | .tuple vs=>match vs[i]? with
   |some v=>K v
   |none=>none
  |_=>none
 | .nilCheck x=>match ev env x with
  | .ptr i off=>K (.ptr i off)
  | .eptr s c off=>K (.eptr s c off)
  | .func (.func f) a b=>K (.func (.func f) a b)
  | .yld i=>K (.yld i)
  | .rptr i v k off=>K (.rptr i v k off)
  |_=>none
 | .lookup t m x co=>match ev env m with
  | .mref i=>JB P t h i (ev env x) co K
  |v=>if co then Ia P t v (ev env x) K else none
 | .index t x ix=>Ib P t (ev env x) (ev env ix) K
 | .call {callee :=.builtin .len,args,argTypes}=>match args.toList,argTypes.toList with
  |[x],[t]=>Sg P t h (ev env x) K
  |_,_=>none
 | .call {callee :=.builtin .max,args,.. }=>IZ true (args.toList.map (ev env)) K
 | .call {callee :=.builtin .min,args,.. }=>IZ false (args.toList.map (ev env)) K
 |_=>none
noncomputable def nilK (v:AV) (K:Bool→Option R):Option R:=
 match v with
 | .t (.sl _ es)=>cnd (es.length≠0) (K false) (both (K true) (K false))
 | .nilsl=>both (K true) (K false)
 |_=>none
noncomputable def hop (P:Program) (tf:TypeId→Bool) (env:Env) (h:Heap) (op:Op) (K:AV→Heap→Option R):Option R:=
 match op with
 | .alloc t=>match zeroCells? P t with
  |some z=>DZ P t (Fi P tf (Ba P 16 t) z) h K
  |none=>none
 | .box t x=>match (ev env x).cells with
  |some cs=>DZ P t (Fi P tf (Ba P 16 t) cs) h K
  |none=>none
 | .store t a x=>Ed P t h (ev env a) (nilV P tf t (ev env x)) fun h'=>K .undef h'
 | .binOp .eql t x (.const (.slice none 0 0)) _=>match P.underlying t with
  |some (.slice _)=>nilK (ev env x) fun b=>K (.t (.bool b)) h
  |_=>none
 | .call {callee :=.builtin .append,args,argTypes}=>match args.toList,argTypes.toList with
  |[s,x],[t,t']=>cnd (GM P t t'=true) (if Mp (ev env s) (ev env x) then Du P t h (ev env s) (ev env x) K else Db P t h (ev env s) (ev env x) K) none
  |_,_=>none
 | .call {callee :=.builtin .clear,args,argTypes}=>match args.toList,argTypes.toList with
  |[x],[t]=>HV P t h (ev env x) fun h'=>K (.tuple []) h'
  |_,_=>none
 | .call {callee :=.builtin .copy,args,argTypes}=>match args.toList,argTypes.toList with
  |[d,x],[t,_]=>LU P t h (ev env d) (ev env x) K
  |_,_=>none
 | .makeSlice t n c=>LN P t h (ev env n) (ev env c) K
 | .makeMap t none=>FE P t h K
 | .mapUpdate t m x v=>Gn P t h (ev env m) (ev env x) (ev env v) fun h'=>K .undef h'
 |_=>none
def Au:Op→Bool
 | .binOp .eql _ _ (.const (.slice none 0 0)) _=>true
 | .alloc _ | .box _ _ | .store _ _ _ | .makeSlice _ _ _=>true
 | .makeMap _ none | .mapUpdate _ _ _ _=>true
 | .call {callee :=.builtin .append,.. } | .call {callee :=.builtin .clear,.. } | .call {callee :=.builtin .copy,.. }=>true
 |_=>false
def isCall:Op→Bool
 | .call {callee :=.value _,.. }=>true
 |_=>false
def GZ (P:Program) (g:FuncId):List TypeId:=
 match P.funcs[g]? with
 |some fn=>fn.params.toList
 |none=>[]
def trim (m:Nat) (rs:List AV) (h:Heap):Heap:=if rs.all (below 4 m)&&(h.take m).all (F5 m) then h.take m else h
def Eu (h:Heap):List AV→Option (Nat×Nat)
 |[]=>none
 | .sref i _ _ _::_=>match h[i]? with
  |some (.row false v _ _)=>some (i,v)
  |_=>none
 |_::vs=>Eu h vs
def M3 (i:Nat) (ls:List AV):Bool:=ls.all fun v=>match v with
 | .sref j _ _ _=>j==i
 |_=>true
def Mu (reuse:Bool) (h:Heap) (ls:List AV) (z:Nat) (es:List (List Tree)) (K:AV→Heap→Option R):Option R:=
 match (if reuse then Eu h ls else none) with
 |some (i,v)=>if M3 i ls then K (.sref i (v+1) 0 es.length) (h.set i (.row false (v+1) z es)) else none
 |none=>K (.sref (AZ h ls).length 0 0 es.length) (AZ h ls++[.row false 0 z es])
def tyT (P:Program) (t:TypeId):AV:=
 match P.underlying t with
 |some (.int k)=>.t (.int k 0)
 |some .bool =>.t (.bool false)
 |some .string =>.t (.str ByteArray.empty)
 |_ =>.undef
def Es (P:Program):List TypeId→List AV→Bool
 |[],[]=>true
 |t::ts,v::vs=>isT v&&HA (tyT P t) v&&Es P ts vs
 |_,_=>false
def F1 (P:Program) (s:List AV):List TypeId→Nat→List AV
 |[],_=>[]
 |t::ts,k=>EU (tyT P t) (s.getD k .undef)::F1 P s ts (k+1)
def OWN:Nat:=1000000
def D5:Nat:=2000000
noncomputable def Er (C:Cfg) (rec:Rec) (pc:BC) (q:Bool) (g:FuncId) (avs:List AV) (h:Heap) (K:AV→Heap→Option R):Option R:=
 if C.own g then
  if q then none else
  flatK C.P (GZ C.P g) avs fun ls=>DA C.P true (AZ h ls) (H0 C.P g) ls fun xs=>match C.own2 g with
   |some j=>cnd (j<64) ((pc (D5+(64*g+j)) xs).bind fun ys=>Ht C.P (C1 C.P g) ys fun ys=>match ys[j]? with
     |some (.sl z es)=>(match CL C.P g (fun i=>if i=j then .sref (AZ h ls).length 0 0 es.length else .t (ys.getD i default)) with
      |some v=>K v (AZ h ls++[.row false 0 z es])
      |none=>none)
     |_=>none) none
   |none=>(pc (OWN+g) xs).bind fun ys=>
    match C1 C.P g with
    |[t]=>(EC C.P t).bind fun z=>cnd (g<OWN) (cnd (ys.length=1∧Em z (ys.getD 0 default)=true) (Mu (C.reuse g) h ls z (E4 (ys.getD 0 default)) K) none) none
    |_=>none
 else if C.heapful g then
  if q then none else match C.prim g with
  |some p=>aprim p h avs K
  |none=>if C.joinc g then
    join (fun (p:List AV×Heap)=>match CL C.P g (fun i=>(F1 C.P p.1 (C1 C.P g) 0).getD i .undef) with
      |some v=>K v (Bm h 0 p.2)
      |none=>none)
     fun J=>rec R (.fn g avs) h fun rs h1=>cnd (Es C.P (C1 C.P g) rs=true) (cutK h h1 fun hs=>J (rs,hs)) none
   else rec R (.fn g avs) h fun rs h1=>match CL C.P g (fun i=>rs.getD i .undef) with
    |some v=>K v (trim h.length rs h1)
    |none=>none
 else
  flatK C.P (GZ C.P g) avs fun ls=>
   let h1:=if q||B6 C.P g then h else AZ h ls
   DA C.P (!B6 C.P g) h1 (H0 C.P g) ls fun xs=>cnd (g<OWN) ((pc g xs).bind fun ys=>Ht C.P (C1 C.P g) ys fun ys=>
    match CL C.P g (fun i =>.t (ys.getD i default)) with
    |some v=>K v h1
    |none=>none) none
def enters (P:Program) (g:FuncId):Bool:=
 match P.funcs[g]? with
 | some fn => fn.body.isSome && !(fn.name == "runtime.NumGoroutine")
 |none=>false
noncomputable def LC (C:Cfg) (rec:Rec) (pc:BC) (q:Bool) (f:AV) (args:List AV) (h:Heap) (K:AV→Heap→Option R):Option R:=
 match f with
 | .func (.func g) first captured=>cnd (enters C.P g=true) (Er C rec pc q g (first++args++captured) h K) none
 | .t (.const (.func (.func g) ⟨[]⟩ ⟨[]⟩))=>cnd (enters C.P g=true) (Er C rec pc q g args h K) none
 | .yld i=>if q then none else rec R (.yield i args) h fun rs h1=>K (rs.getD 0 .undef) (trim h.length [rs.getD 0 .undef] h1)
 |_=>none
def DE:Operand→Nat
 | .tmp t=>t
 |_=>0
inductive Imm where
 |box (t:TypeId) (x:Operand)
 |alloc (t:TypeId)
 |store (t:TypeId) (a x:Operand)
 |ren (t:TypeId) (d:Tmp×Tmp)
 |no
def Bk (C:Cfg):Op→Imm
 | .box t x=>if C.cur (DE x) then .box t x else .no
 | .alloc t=>match C.ren t with
  |some d =>.ren t d
  |none=>if C.curT t then .alloc t else .no
 | .store t a x=>if C.curT t then .store t a x else .no
 |_ =>.no
def I6 (P:Program) (t:TypeId) (v:AV) (h:Heap) (K:AV→Option R):Option R:=
 match v.cells,BV P t with
 |some cs,some n=>cnd (cs.length=n) (DA P true h (Ba P 16 t) cs fun xs=>K (.eptr n xs 0)) none
 |_,_=>none
def FF (P:Program) (t:TypeId) (h:Heap) (K:AV→Heap→Option R):Option R:=
 match zeroCells? P t,BV P t with
 |some z,some n=>cnd (n≠0∧z.length=n) (DA P true h (Ba P 16 t) z fun xs=>K (.rptr h.length 0 0 0) (h++[.row false 0 n [xs]])) none
 |_,_=>none
def LO (P:Program) (tf:TypeId→Bool) (t:TypeId) (v u:AV) (h:Heap) (K:AV→Heap→Option R):Option R:=
 match zeroCells? P t,BV P t with
 |some z,some n=>cnd (n≠0∧z.length=n) (DA P true h (Ba P 16 t) z fun xs=>match v with
  | .rptr i _ _ _=>(match u with
   | .agg _=>(match h[i]? with
    |some (.row false ver _ _)=>K (.rptr i (ver+1) 0 0) (h.set i (.row false (ver+1) n [xs]))
    |_=>none)
   |_=>DZ P t (Fi P tf (Ba P 16 t) z) h K)
  |_=>K (.rptr h.length 0 0 0) (h++[.row false 0 n [xs]])) none
 |_,_=>none
def Jo:AV→AV
 | .rptr i _ _ _ =>.sref i 0 0 0
 |_ =>.undef
noncomputable def Ac (C:Cfg) (rec:Rec) (pc:BC) (q:Bool) (env:Env) (h:Heap) (op:Op) (K:AV→Heap→Option R):Option R:=
 if Au op then (if q then none else match Bk C op with
  | .box t x=>I6 C.P t (ev env x) h fun v=>K v h
  | .alloc t=>FF C.P t h K
  | .ren t d=>LO C.P C.curN t (env d.1) (env d.2) h K
  | .store t a x=>Ed C.P t h (ev env a) (ev env x) fun h'=>K .undef (DU h' (Jo (ev env a)))
  | .no=>hop C.P C.curN env h op K)
 else match op with
  | .call {callee :=.value f,args,.. }=>LC C rec pc q (ev env f) (args.toList.map (ev env)) h K
  | .convert src dst x=>if Li C.P src dst then (if q then none else I9 h (ev env x) K) else qop C.P env h (.convert src dst x) fun v=>K v h
  | .buildSlice t len parts=>if C.fnTy t then (if q then none else Dt C.P t h len (parts.toList.map fun p=>(p.1,ev env p.2)) K) else qop C.P env h (.buildSlice t len parts) fun v=>K v h
  |op=>qop C.P env h op fun v=>K v h
def IP (N:Nat) (o:Oper):Bool:=
 match o.dst with
 |some d=>decide (d<N)
 |none=>true
noncomputable def DY (C:Cfg) (rec:Rec) (pc:BC) (N:Nat) (q:Bool) (ops:Array Oper):List Oper→Env→Heap→(Env→Heap→Option R)→Option R
 |[],env,h,K=>K env h
 |o::rest,env,h,K=>cnd (IP N o=true) (E0 ops o env (fun env=>Ac C rec pc q env h o.op fun v h'=>DY C rec pc N q ops rest (env.put o.dst v) h' K)
    (fun env=>DY C rec pc N q ops rest (env.put o.dst (.tuple [])) h K)) none
def FQ (acc:List Nat) (o:Oper):Nat:=o.after.toList.foldl (fun s e=>if Region.binds .any e then s ||| (2 ^ e.on ||| acc.getD e.on 0) else s) 0
def Dm:List Oper→List Nat→List Nat
 |[],acc=>acc
 |o::os,acc=>Dm os (acc++[FQ acc o])
def AS (ops:Array Oper):List Nat:=Dm ops.toList []
def DJ (b:List Nat) (size n:Nat):Bool:=(List.range size).all fun j=>decide (j<n)||(b.getD j 0==2 ^ j-1)
def MR (b:List Nat) (size:Nat):Nat:=
 match ((List.range (size+1)).find? fun n=>DJ b size n) with
 |some n=>n
 |none=>size
def FV (ops:Array Oper):Bool:=(List.range ops.size).all fun j=>match ops[j]? with
 |some o=>o.after.toList.all fun e => !Region.binds .any e||decide (e.on<j)
 |none=>true
def drawOk (ops:Array Oper) (b:List Nat) (n:Nat):Bool:=
 (List.range n).all fun j=>(List.range j).all fun i=>(b.getD j 0).testBit i||(match ops[i]?,ops[j]? with
  |some x,some y=>x.apart ops y
  |_,_=>false)
def Ad (C:Cfg):Op→Bool
 | .alloc t=>(C.ren t).isNone
 | .box _ _ | .store _ _ _ | .makeSlice _ _ _=>true
 | .makeMap _ none | .mapUpdate _ _ _ _=>true
 | .call {callee :=.builtin .append,.. } | .call {callee :=.builtin .clear,.. } | .call {callee :=.builtin .copy,.. }=>true
 | .call {callee :=.value (.func g),.. }=>C.own g
 | .buildSlice t _ _=>C.fnTy t
 | .convert src dst _=>Li C.P src dst
 |_=>false
def CE (C:Cfg):Op→Bool
 | .call {callee :=.value (.func g),.. }=>C.heapful g && !C.own g
 |_=>false
def Fj:Nat→AV→Bool
 |0,_=>false
 |d+1,v=>match v with
  | .undef | .t _ | .nilsl | .eptr _ _ _=>true
  | .func _ f c=>f.all (Fj d)&&c.all (Fj d)
  | .agg cs | .tuple cs=>cs.all (Fj d)
  |_=>false
def BM:AV→Option Nat
 | .ptr i _ | .rptr i _ _ _ | .sref i _ _ _ | .bsl i _ _ _ | .mref i=>some i
 |_=>none
def FX:Op→Bool
 | .move _ | .assign _ | .pick _ _ _ | .build _ _ | .binOp _ _ _ _ _ | .unOp _ _ _ | .makeFunc _ _ _ | .extract _ _ | .nilCheck _=>true
 | .call {callee :=.builtin .max,.. } | .call {callee :=.builtin .min,.. }=>true
 |_=>false
def Mt (S:List Nat) (v:AV):Bool:=Fj 4 v||(match BM v with
 |some i=>decide (i<1024)&&S.contains i
 |none=>false)
def G0 (i off n:Nat):Nat:=i+1024*(1+(off+4096*n))
def ob (c:Nat):Nat:=if c<1024 then c else c % 1024
def He (off n:Nat):AA→AA
 | .box cs =>.box (.yld cs.length::(List.range n).map fun j=>cs.getD (off+j) .undef)
 |o=>o
def At (h:Heap) (c:Nat):Option AA:=if c<1024 then h[c]? else (h[c % 1024]?).map (He ((c / 1024-1) % 4096) ((c / 1024-1) / 4096))
def ldN (P:Program) (t:TypeId):Option Nat:=
 match Ax P t with
 |some true=>BV P t
 |some false=>some 1
 |none=>none
def partAt (P:Program) (S:List Nat) (env:Env):Op→Bool
 | .load t a=>match ev env a,ldN P t with
  | .ptr i off,some n=>decide (i<1024∧off<4096)&&S.contains (G0 i off n)
  |_,_=>false
 | .fieldAddr _ x _=>match ev env x with
  | .ptr _ _=>true
  |_=>false
 |_=>false
def FT (P:Program) (S:List Nat) (env:Env) (op:Op):Bool:=FX op||(partAt P S env op||op.operands.toList.all fun x=>Mt S (ev env x))
def ED (env:Env):Op→List Nat
 | .store _ a _=>(BM (ev env a)).toList
 | .mapUpdate _ m _ _=>(BM (ev env m)).toList
 | .call {callee :=.builtin _,args,.. }=>match args.toList with
  |s::_=>(BM (ev env s)).toList
  |[]=>[]
 | .call {callee :=.value _,args,.. }=>(args.toList.map fun x=>match (ev env x).cells with
  |some cs=>cs.filterMap BM
  |none=>[]).flatten
 |_=>[]
def Qf (S T:List Nat):Bool:=S.all fun c => !T.contains (ob c)
def F4 (c off n:Nat):Bool:=decide (1024≤c)&&(decide ((c / 1024-1) % 4096+(c / 1024-1) / 4096≤off)||decide (off+n≤(c / 1024-1) % 4096))
def HT (P:Program) (S:List Nat) (env:Env) (op:Op):Bool:=Qf S (ED env op)||(match op with
 | .store t a _=>match ev env a,BV P t with
  | .ptr i off,some n=>S.all fun c=>decide (ob c≠i)||F4 c off n
  |_,_=>false
 |_=>false)
def BE (S:List Nat) (h:Heap):Bool:=S.all fun c=>decide (ob c<h.length)
def BD (C:Cfg) (ops:Array Oper) (i:Nat):Bool:=
 match ops[i]? with
 |some o=>Ad C o.op||CE C o.op
 |none=>false
def DQ (b:List Nat) (i j:Nat):Bool:=if i<j then !((b.getD j 0).testBit i) else !((b.getD i 0).testBit j)
def Al (C:Cfg) (ops:Array Oper) (b:List Nat) (n i:Nat):Bool:=(List.range n).any fun j=>BD C ops j&&(j != i)&&DQ b i j
def drawOk2 (C:Cfg) (ops:Array Oper) (b:List Nat) (n:Nat):Bool:=
 (List.range n).all fun j=>(List.range j).all fun i=>(b.getD j 0).testBit i||(!(BD C ops i&&BD C ops j)&&(match ops[i]?,ops[j]? with
  |some x,some y=>x.apart ops y
  |_,_=>false))
noncomputable def BX (C:Cfg) (rec:Rec) (pc:BC) (N:Nat) (ops:Array Oper) (S:List Nat) (nf:Nat→Bool):List Nat→Env→Heap→(Env→Heap→Option R)→Option R
 |[],env,h,K=>K env h
 |i::l,env,h,K=>match ops[i]? with
  |some o=>cnd (IP N o=true∧(nf i=true→FT C.P S env o.op=true)∧BE S h=true∧(Ad C o.op=true→HT C.P S env o.op=true)) (E0 ops o env (fun env=>Ac C rec pc (!Ad C o.op) env h o.op fun v h'=>BX C rec pc N ops S nf l (env.put o.dst v) h' K)
    (fun env=>BX C rec pc N ops S nf l (env.put o.dst (.tuple [])) h K)) none
  |none=>none
def UK (ops:List Oper) (env:Env) (h:Heap):Nat→Operand→List Nat
 |0,_=>[]
 |d+1,.tmp t=>match ops.find? (fun o=>o.dst==some t) with
  |some o=>match o.op with
   | .move x | .assign x | .nilCheck x | .fieldAddr _ x _ | .indexAddr _ x _ | .slice _ x _ _ _=>UK ops env h d x
   | .load _ a=>((UK ops env h d a).map fun i=>match h[i]? with
    |some (.box cs)=>cs.filterMap BM
    |_=>[]).flatten
   |_=>[]
  |none=>(BM (env t)).toList
 |_,_=>[]
def NT (P:Program) (ops:List Oper) (env:Env):Nat→Operand→AV
 |d+1,.tmp t=>match ops.find? (fun o=>o.dst==some t) with
  |some o=>match o.op with
   | .move x | .assign x | .nilCheck x=>NT P ops env d x
   | .fieldAddr ty x f=>match NT P ops env d x,GI P ty f with
    | .ptr i off,some k =>.ptr i (off+k)
    |_,_ =>.undef
   |_ =>.undef
  |none=>env t
 |_,_ =>.undef
def looksOf (P:Program) (ops:List Oper) (env:Env) (h:Heap) (op:Op):List Nat:=
 let all:=(op.operands.toList.map (UK ops env h 8)).flatten
 match op with
 | .load t a=>match NT P ops env 8 a,ldN P t with
  | .ptr i off,some n=>if i<1024∧off<4096 then [G0 i off n] else all
  |_,_=>all
 | .fieldAddr _ x _=>match NT P ops env 8 x with
  | .ptr _ _=>[]
  |_=>all
 |_=>all
def looks (P:Program) (ops:Array Oper) (nf:Nat→Bool) (n:Nat) (env:Env) (h:Heap):List Nat:=
 (((List.range n).map fun i=>match ops[i]? with
  |some o=>if nf i && !FX o.op then looksOf P ops.toList env h o.op else []
  |none=>[]).flatten.eraseDups).filter fun c=>decide (ob c<h.length)
def ES:List AV→List AV→Bool
 |[],[]=>true
 | .ptr i o::xs,.ptr j p::ys=>i==j&&o==p&&ES xs ys
 | .yld i::xs,.yld j::ys=>i==j&&ES xs ys
 |_,_=>false
def sameAt (h h':Heap) (i:Nat):Bool:=
 match At h i,At h' i with
 |some (.box xs),some (.box ys)=>ES xs ys
 |_,_=>false
def Tn (ops:Array Oper):Bool:=ops.toList.any (·.guard.isSome)
def dsts (ops:Array Oper):List Tmp:=ops.toList.filterMap (·.dst)
def writes:Code→List Tmp
 | .region _ ops _=>dsts ops
 | .seq a b=>writes a++writes b
 | .cond _ a b=>writes a++writes b
 | .block _ a=>writes a
 | .loop a=>writes a
 | .scope a=>writes a
 |_=>[]
def Ja:Code→Bool
 | .ret | .exit _ | .goto _ | .loop _ | .refuse _=>false
 | .seq a b=>Ja a&&Ja b
 | .cond _ a b=>Ja a||Ja b
 |_=>true
def IM (id:Nat):Code→Nat
 | .exit i=>if i=id then 1 else 0
 | .seq a b=>IM id a+IM id b
 | .cond _ a b=>IM id a+IM id b
 | .block _ a=>IM id a
 | .loop a=>IM id a
 | .scope a=>IM id a
 | .rangeFunc _ _ _ a=>IM id a
 |_=>0
def CN:Code→Nat
 | .region id _ _=>id
 | .seq a _=>CN a
 | .cond _ a _=>CN a
 | .block _ a=>CN a
 | .loop a=>CN a
 | .scope a=>CN a
 |_=>0
noncomputable def OT (C:Cfg) (rec:Rec) (pc:BC) (N:Nat) (S:List Nat) (o:Oper) (env:Env) (h:Heap) (K:Env→Heap→Option R):Option R:=
 cnd (IP N o=true∧o.guard=none) (Ac C rec pc false env h o.op fun v h'=>cnd (S.all (sameAt h h')=true) (K (env.put o.dst v) h') none) none
def UO (C:Cfg) (ops:Array Oper) (b:List Nat) (n:Nat):List (Nat×Nat):=
 ((List.range n).map fun j=>((List.range j).filter fun i => !(b.getD j 0).testBit i&&(BD C ops i&&BD C ops j)).map fun i=>(i,j)).flatten
def drawOkP (C:Cfg) (ops:Array Oper) (b:List Nat) (n i0 j0:Nat):Bool:=
 (List.range n).all fun j=>(List.range j).all fun i=>(b.getD j 0).testBit i||(i==i0&&j==j0)||(!(BD C ops i&&BD C ops j)&&(match ops[i]?,ops[j]? with
  |some x,some y=>x.apart ops y
  |_,_=>false))
def order2 (b:List Nat) (n i0 j0:Nat):List Nat:=
 ((List.range n).filter fun k=>decide (k≤j0) && !(k==i0||(b.getD k 0).testBit i0))++(((List.range n).filter fun k=>decide (k≤j0)&&(k==i0||(b.getD k 0).testBit i0))++(List.range n).filter fun k=>decide (j0<k))
def Q5 (b:List Nat):List Nat→Bool
 |[]=>true
 |x::l=>l.all (fun y => !(b.getD x 0).testBit y)&&Q5 b l
def Pw (C:Cfg) (ops:Array Oper) (b:List Nat) (n i0 j0:Nat):Bool:=
 drawOkP C ops b n i0 j0&&((order2 b n i0 j0).isPerm (List.range n)&&(Q5 b (order2 b n i0 j0)&&decide ((order2 b n i0 j0).idxOf j0<(order2 b n i0 j0).idxOf i0)))
def IE:Op→Bool
 | .call {callee :=.value _,.. }=>true
 |_=>false
def UD (ops:List Oper) (env:Env):Nat→Operand→AV
 |d+1,.tmp t=>match ops.find? (fun o=>o.dst==some t) with
  |some o=>(match o.op with
   | .move x | .assign x=>UD ops env d x
   |_ =>.undef)
  |none=>env t
 |_,x=>ev env x
def O0 (C:Cfg) (ops:Array Oper) (env:Env) (o:Oper):Bool:=
 match o.op with
 | .call {callee :=.value (.tmp t),.. }=>(match UD ops.toList env 4 (.tmp t) with
  | .func (.func g) _ _=>C.heapful g && !C.own g
  |_=>false)
 |_=>false
def RG (C:Cfg) (ops:Array Oper) (lo hi:Nat) (env:Env):Option Nat:=
 (List.range hi).find? fun i=>decide (lo≤i)&&match ops[i]? with
  |some o=>O0 C ops env o||CE C o.op
  |none=>false
def midAny (C:Cfg) (ops:Array Oper) (n:Nat) (env:Env):Bool:=
 (List.range n).any fun i=>match ops[i]? with
  |some o=>O0 C ops env o||(CE C o.op&&decide (i+1≠n))
  |none=>false
def cutAt (b:List Nat) (size k:Nat):Bool:=(List.range size).all fun j=>decide (j<k)||(List.range k).all fun i=>(b.getD j 0).testBit i
def RT (b:List Nat) (size n:Nat):List Nat:=(List.range (n+1)).filter fun k=>decide (0<k)&&cutAt b size k
def I2 (b:List Nat) (size n:Nat):List Nat→Nat→Bool
 |[],lo=>lo==n
 |k::ks,lo=>decide (lo<k∧k≤n)&&(cutAt b size k&&I2 b size n ks k)
def CM (C:Cfg) (ops:Array Oper) (m0:Option Nat) (i:Nat):Bool:=BD C ops i||m0==some i
def nf3 (C:Cfg) (ops:Array Oper) (b:List Nat) (lo hi:Nat) (m0:Option Nat) (i:Nat):Bool:=(List.range hi).any fun j=>decide (lo≤j)&&(CM C ops m0 j&&(j != i)&&DQ b i j)
def JR (C:Cfg) (ops:Array Oper) (b:List Nat) (lo hi:Nat) (m0:Option Nat):Bool:=
 ((List.range hi).all fun j=>decide (j<lo)||(List.range j).all fun i=>decide (i<lo)||((b.getD j 0).testBit i||(!(CM C ops m0 i&&CM C ops m0 j)&&(match ops[i]?,ops[j]? with
  |some x,some y=>x.apart ops y
  |_,_=>false))))&&(match m0 with
  |some m=>decide (lo≤m∧m<hi)&&(List.range hi).all fun j=>decide (j<lo) || !(b.getD j 0).testBit m
  |none=>true)
noncomputable def Lx (h h':Heap) (i:Nat) (a:Option R):Option R:=
 match At h i,At h' i with
 |some x,some y=>QW x y a
 |_,_=>none
noncomputable def Dw (h h':Heap):List Nat→Option R→Option R
 |[],a=>a
 |i::S,a=>Lx h h' i (Dw h h' S a)
noncomputable def Km (C:Cfg) (rec:Rec) (pc:BC) (N:Nat) (ops:Array Oper) (S:List Nat) (o:Oper) (env:Env) (h:Heap) (K:Env→Heap→Option R):Option R:=
 cnd (IP N o=true) (E0 ops o env (fun env=>Ac C rec pc false env h o.op fun v h'=>Dw h h' S (K (env.put o.dst v) h'))
  (fun env=>cnd (BE S h=true) (K (env.put o.dst (.tuple [])) h) none)) none
def HP (b:List Nat) (lo m:Nat) (u:Option Nat) (i:Nat):Bool:=
 decide (lo≤i)&&(i != m&&(!((b.getD i 0).testBit m)&&(match u with
  |some u=>i != u && !((b.getD i 0).testBit u)
  |none=>true)))
def Ek (b:List Nat) (lo m:Nat) (u:Option Nat) (i:Nat):Bool:=decide (lo≤i)&&(i != m && !HP b lo m u i)
def Iu (m:Nat) (u:Option Nat) (i j:Nat):Bool:=
 match u with
 |some u=>(i==m&&j==u)||(i==u&&j==m)
 |none=>false
def QK (b:List Nat) (lo hi m:Nat) (v:Option Nat):Bool:=
 (List.range hi).all fun y => !HP b lo m v y||(List.range hi).all fun x=>decide (x<lo)||(HP b lo m v x || !((b.getD y 0).testBit x))
def Px (C:Cfg) (ops:Array Oper) (b:List Nat) (lo hi m:Nat) (u:Option Nat):Bool:=
 ((List.range hi).all fun j=>decide (j<lo)||(List.range j).all fun i=>decide (i<lo)||((b.getD j 0).testBit i||(Iu m u i j||(!(CM C ops (some m) i&&CM C ops (some m) j)&&(match ops[i]?,ops[j]? with
  |some x,some y=>x.apart ops y
  |_,_=>false))))) &&
 (decide (lo≤m∧m<hi)&&(((List.range hi).all fun i=>(decide (m<i) || !((b.getD i 0).testBit m))&&(match u with
  |some u=>decide (u<i) || !((b.getD i 0).testBit u)
  |none=>true))&&(QK b lo hi m none&&(match u with
  |some u=>u != m&&QK b lo hi m (some u)
  |none=>true))))
def ordU (C:Cfg) (ops:Array Oper) (b:List Nat) (lo hi m:Nat):Option Nat:=
 (List.range hi).find? fun i=>decide (lo≤i)&&(i != m&&(BD C ops i&&DQ b i m))
noncomputable def Py (C:Cfg) (rec:Rec) (pc:BC) (N:Nat) (ops:Array Oper) (b:List Nat) (lo hi m:Nat) (u:Option Nat) (S:List Nat) (nf:Nat→Bool) (o:Oper) (env:Env) (h:Heap) (K:Env→Heap→Option R):Option R:=
 BX C rec pc N ops S nf ((List.range hi).filter (HP b lo m u)) env h fun env1 h1=>Km C rec pc N ops S o env1 h1 fun env2 h2=>BX C rec pc N ops S nf ((List.range hi).filter (Ek b lo m u)) env2 h2 K
def nfS (C:Cfg) (ops:Array Oper) (b:List Nat) (lo hi m0 i:Nat):Bool:=i != m0&&nf3 C ops b lo hi (some m0) i
noncomputable def segK (C:Cfg) (rec:Rec) (pc:BC) (N:Nat) (ops:Array Oper) (b:List Nat) (lo hi:Nat) (env:Env) (h:Heap) (K:Env→Heap→Option R):Option R:=
 match RG C ops lo hi env with
 |some m0=>(match ops[m0]? with
  |some o=>if JR C ops b lo hi (some m0)=false then cnd (Px C ops b lo hi m0 (ordU C ops b lo hi m0)=true∧IE o.op=true)
    (match ordU C ops b lo hi m0 with
    |none=>Py C rec pc N ops b lo hi m0 none (looks C.P ops (nfS C ops b lo hi m0) hi env h) (nf3 C ops b lo hi (some m0)) o env h K
    |some u=>both (Py C rec pc N ops b lo hi m0 none (looks C.P ops (nfS C ops b lo hi m0) hi env h) (nf3 C ops b lo hi (some m0)) o env h K)
     (Py C rec pc N ops b lo hi m0 (some u) (looks C.P ops (nfS C ops b lo hi m0) hi env h) (nf3 C ops b lo hi (some m0)) o env h K)) none
   else cnd (JR C ops b lo hi (some m0)=true∧IE o.op=true)
   (BX C rec pc N ops (looks C.P ops (nfS C ops b lo hi m0) hi env h) (nf3 C ops b lo hi (some m0)) ((List.range hi).filter fun i=>decide (lo≤i)&&i != m0) env h fun env' h'=>Km C rec pc N ops (looks C.P ops (nfS C ops b lo hi m0) hi env h) o env' h' K) none
  |none=>none)
 |none=>cnd (JR C ops b lo hi none=true) (BX C rec pc N ops (looks C.P ops (nf3 C ops b lo hi none) hi env h) (nf3 C ops b lo hi none) ((List.range hi).filter fun i=>decide (lo≤i)) env h K) none
noncomputable def Lw (C:Cfg) (rec:Rec) (pc:BC) (N:Nat) (ops:Array Oper) (b:List Nat):List Nat→Nat→Env→Heap→(Env→Heap→Option R)→Option R
 |[],_,env,h,K=>K env h
 |k::ks,lo,env,h,K=>segK C rec pc N ops b lo k env h fun env' h'=>Lw C rec pc N ops b ks k env' h' K
def ptrBox (h:Heap) (i:Nat):Bool:=
 match At h i with
 |some (.box cs)=>cs.all fun v=>match v with
  | .ptr _ _=>true
  | .yld _=>true
  |_=>false
 |_=>false
def lastBad (C:Cfg) (ops:Array Oper) (nf:Nat→Bool) (n:Nat) (env:Env) (h:Heap):Bool:=
 (match n with
 |m+1=>(match ops[m]? with
  |some o=>CE C o.op
  |none=>false)
 |0=>false) && !((looks C.P ops nf n env h).all (ptrBox h))
noncomputable def Jq (C:Cfg) (rec:Rec) (pc:BC) (N:Nat) (ops:Array Oper) (draw:Bool) (env:Env) (h:Heap) (K:Env→Heap→Option R):Option R:=
 if draw then
  let b:=AS ops;let n:=MR b ops.size;let nf:=Al C ops b n
  match (if (RG C ops 0 n env).isSome then [] else UO C ops b n) with
  |[(i0,j0)]=>cnd (Pw C ops b n i0 j0=true∧DJ b ops.size n=true∧FV ops=true∧n≤ops.size)
    (both (BX C rec pc N ops (looks C.P ops nf n env h) nf (List.range n) env h fun env' h'=>DY C rec pc N false ops (ops.toList.drop n) env' h' K)
     (BX C rec pc N ops (looks C.P ops nf n env h) nf (order2 b n i0 j0) env h fun env' h'=>DY C rec pc N false ops (ops.toList.drop n) env' h' K)) none
  |_=>match midAny C ops n env||lastBad C ops nf n env h with
   |true=>cnd (I2 b ops.size n (RT b ops.size n) 0=true∧DJ b ops.size n=true∧FV ops=true∧n≤ops.size)
     (Lw C rec pc N ops b (RT b ops.size n) 0 env h fun env' h'=>DY C rec pc N false ops (ops.toList.drop n) env' h' K) none
   |false=>cnd (drawOk2 C ops b n=true∧DJ b ops.size n=true∧FV ops=true∧n≤ops.size) (match (match n with
    |m+1=>match ops[m]? with
     |some o=>if CE C o.op then some (m,o) else none
     |none=>none
    |0=>none) with
   |some (m,o)=>BX C rec pc N ops (looks C.P ops nf n env h) nf (List.range m) env h fun env' h'=>OT C rec pc N (looks C.P ops nf n env h) o env' h' fun env' h'=>DY C rec pc N false ops (ops.toList.drop n) env' h' K
   |none=>BX C rec pc N ops (looks C.P ops nf n env h) nf (List.range n) env h fun env' h'=>DY C rec pc N false ops (ops.toList.drop n) env' h' K) none
 else DY C rec pc N false ops ops.toList env h K
def AO {S:Type} (body:S→(S→Option R)→Option R):Nat→S→Option R
 |0,_=>none
 |n+1,s=>body s (AO body n)
def QI:Code→Option Exit
 | .ret=>some .ret
 | .exit id=>some (.exit id)
 |_=>none
def P6 (h:Heap) (i:Nat):Option (Option Code):=
 match h[i]? with
 |some (.loop l)=>if l.busy||l.ended then none else some l.pending
 |_=>none
def varCall (ops:Array Oper):Bool:=ops.toList.any fun o=>match o.op with
 | .call {callee :=.value (.tmp _),.. }=>true
 |_=>false
noncomputable def Cd (C:Cfg) (hi:Hints) (fn:FuncId) (N:Nat) (rec:Rec) (pc:BC) (fuel:Nat):Code→Env→Heap→(Exit→Env→Heap→Option R)→Option R
 | .skip,env,h,K=>K .normal env h
 | .label _,env,h,K=>K .normal env h
 | .ret,env,h,K=>K .ret env h
 | .exit id,env,h,K=>K (.exit id) env h
 | .region id ops draw,env,h,K=>
  if Tn ops && !varCall ops then
   join (fun (p:List AV×Heap)=>K .normal (Cg hi.tm (dsts ops) (hi.reg id) env p.1) (Bm h 0 p.2))
    fun J=>Jq C rec pc N ops draw env (AZ h ((hi.pre id).map env)) fun env' h'=>Fh hi.tm env h (hi.reg id) env' h' fun s hs=>J (s,hs)
  else Jq C rec pc N ops draw env (AZ h ((hi.pre id).map env)) fun env' h'=>K .normal env' h'
 | .seq a b,env,h,K=>Cd C hi fn N rec pc fuel a env h fun e env' h'=>match e with
  | .normal=>Cd C hi fn N rec pc fuel b env' h' K
  |e=>K e env' h'
 | .cond c a b,env,h,K=>(asBool (ev env c)).bind fun t=>
  if hi.only (DE c)=1 then cnd (t=true) (Cd C hi fn N rec pc fuel a env h K) none
  else if hi.only (DE c)=2 then cnd (t=true) none (Cd C hi fn N rec pc fuel b env h K)
  else if Ja a&&Ja b && !hi.split (DE c) then
   Ej hi ((hi.cond (DE c)).filter fun i=>(writes a++writes b).contains i) env h fun env h=>
   join (fun (p:List AV×Heap)=>K .normal (Cg hi.tm (writes a++writes b) (hi.cond (DE c)) env p.1) (Bm h 0 p.2))
    fun J=>cnd (t=true) (Cd C hi fn N rec pc fuel a env h (fun e env' h'=>match e with
      | .normal=>Fh hi.tm env h (hi.cond (DE c)) env' h' fun s hs=>J (s,hs)
      |e=>K e env' h'))
     (Cd C hi fn N rec pc fuel b env h (fun e env' h'=>match e with
      | .normal=>Fh hi.tm env h (hi.cond (DE c)) env' h' fun s hs=>J (s,hs)
      |e=>K e env' h'))
  else cnd (t=true) (Cd C hi fn N rec pc fuel a env h K) (Cd C hi fn N rec pc fuel b env h K)
 | .block id a,env,h,K=>
  if IM id a+(if Ja a then 1 else 0)≤1 then Cd C hi fn N rec pc fuel a env h fun e env' h'=>match e with
   | .exit i=>if i=id then K .normal env' h' else K (.exit i) env' h'
   |e=>K e env' h'
  else
   Ej hi ((hi.block id).filter fun i=>(writes a).contains i) env h fun env h=>
   join (fun (p:List AV×Heap)=>K .normal (Cg hi.tm (writes a) (hi.block id) env p.1) (Bm h 0 p.2))
    fun J=>Cd C hi fn N rec pc fuel a env h fun e env' h'=>match e with
     | .normal=>Fh hi.tm env h (hi.block id) env' h' fun s hs=>J (s,hs)
     | .exit i=>if i=id then Fh hi.tm env h (hi.block id) env' h' fun s hs=>J (s,hs) else K (.exit i) env' h'
     |e=>K e env' h'
 | .loop a,env,h,K=>Ej hi ((hi.loop (CN a)).filter fun i=>(writes a).contains i) env h fun env h=>
  Fh hi.tm env h (hi.loop (CN a)) env h fun s hs=>
   AO (fun (p:List AV×Heap) again=>Cd C hi fn N rec pc fuel a (Cg hi.tm (writes a) (hi.loop (CN a)) env p.1) (Bm h 0 p.2) fun e env' h'=>match e with
    | .normal=>Fh hi.tm env h (hi.loop (CN a)) env' h' fun s hs=>again (s,hs)
    |e=>K e env' h') fuel (s,hs)
 | .rangeFunc f params assign body,env,h,K=>match ev env f with
  | .func (.func g) first captured=>if enters C.P g=false then none else
   rec R (.fn g (first++[.yld h.length]++captured)) (h++[.loop {fn,size:=N,env,params:=params.toList,assign,body,busy:=false,pending:=none,ended:=false,hl:=h.length}]) fun _ h1=>
    (P6 h1 h.length).bind fun j=>cnd (((h1.take h.length).all (F5 h.length))=true) (match j with
     |none=>K .normal env (h1.take h.length)
     |some c=>(QI c).bind fun e=>K e env (h1.take h.length)) none
  |_=>none
 |_,_,_,_=>none
def Pn (P:Program) (env:Env) (h:Heap):List ResultVar→(List AV→Option R)→Option R
 |[],K=>K []
 | .tmp t::rs,K=>Pn P env h rs fun vs=>K (env t::vs)
 | .cell a t::rs,K=>G6 P t h (env a) fun v=>Pn P env h rs fun vs=>K (v::vs)
def FJ (h:Heap) (i:Nat) (busy:Bool) (pending:Option Code):Heap:=
 match h[i]? with
 |some (.loop l)=>h.set i (.loop {l with busy,pending})
 |_=>h
def codeOf:Exit→Option Code
 | .ret=>some .ret
 | .exit id=>some (.exit id)
 |_=>none
def KT (env:Env):List Tmp→List AV→Env
 |t::ts,v::vs=>KT (env.put (some t) v) ts vs
 |_,_=>env
def M5:AA→Bool
 | .loop _=>false
 |_=>true
def M1 (h:Heap) (i:Nat):Bool:=
 match h[i]? with
 |some (.loop l)=> !l.ended
 |_=>false
def Ms (h:Heap) (i:Nat):Bool:=
 match h[i]? with
 |some (.loop l)=> !l.ended && !l.busy&&l.pending.isNone
 |_=>false
noncomputable def LG (C:Cfg) (rec:Rec) (pc:BC) (n:Nat) (g:FuncId) (avs:List AV) (h:Heap) (K:List AV→Heap→Option R):Option R:=
 match C.P.funcs[g]? with
 |some fn=>match fn.body with
  |some c=>cnd (avs.length≤fn.ntmps) (Cd (C.at g) (C.hints g) g fn.ntmps rec pc n c (fun i=>avs.getD i .undef) h fun e env h'=>match e with
     | .normal | .ret=>cnd (((h'.drop h.length).all M5)=true) (Pn C.P env h' fn.results.toList fun vs=>flatK C.P fn.resultTypes.toList vs fun rs=>K rs h') none
     |_=>none) none
  |none=>none
 |none=>none
noncomputable def Pf (C:Cfg) (rec:Rec) (pc:BC) (n:Nat) (i:Nat) (args:List AV) (h:Heap) (K:List AV→Heap→Option R):Option R:=
 match h[i]? with
 |some (.loop l)=>
  cnd (l.busy=false∧l.ended=false∧l.pending.isNone=true∧args.length=l.params.length∧(l.params.all fun t=>decide (t<l.size))=true) (Cd (C.at l.fn) (C.hints l.fn) l.fn l.size rec pc n l.assign (KT l.env l.params args) h fun e env h'=>match e with
    | .normal=>cnd (Ms h' i=true) (Cd (C.at l.fn) (C.hints l.fn) l.fn l.size rec pc n l.body env (FJ h' i true none) fun e _ h'=>cnd (M1 h' i=true) ((match e with
     | .normal=>K [.t (.bool true)] (FJ h' i false none)
     |e=>(codeOf e).bind fun c=>K [.t (.bool false)] (FJ h' i false (some c)))) none) none
    |_=>none) none
 |_=>none
noncomputable def inl (C:Cfg) (pc:BC) (n:Nat):Nat→Rec
 |0=>fun _ _ _ _ _=>none
 |d+1=>fun _ _ r h K=>match r with
  | .fn g avs=>LG C (inl C pc n d) pc n g avs h K
  | .yield i args=>Pf C (inl C pc n d) pc n i args h K
noncomputable def Q2 (C:Cfg) (rec:Rec) (pc:BC) (n:Nat) (g:FuncId) (xs:List Tree):Option (List Tree):=
 match C2 C.P g (fun i =>.t (xs.getD i default)) with
 |some avs=>LG C rec pc n g avs [] fun rs h'=>DA C.P false h' (C1 C.P g) rs fun ys=>cnd (B6 C.P g=true→ys.all Tree.scalar=true) (some ys) none
 |none=>none
def KU (P:Program) (g:FuncId):Bool:=
 match P.funcs[g]? with
 |some fn=>match fn.resultTypes.toList with
  |[t]=>Ax P t==some false
  |_=>false
 |none=>false
noncomputable def H3 (C:Cfg) (rec:Rec) (pc:BC) (n:Nat) (g:FuncId) (xs:List Tree):Option (List Tree):=
 match C2 C.P g (fun i =>.t (xs.getD i default)),C1 C.P g with
 |some avs,[t]=>(EC C.P t).bind fun z=>cnd (KU C.P g=true) (LG C rec pc n g avs [] fun rs h'=>match rs with
  |[.nilsl]=>some [.sl z []]
  |[.sref i ver off len]=>match h'[i]? with
   |some (.row false ver' size es)=>cnd (ver'=ver∧size=z) (some [.sl z ((es.drop off).take len)]) none
   |_=>none
  |_=>none) none
 |_,_=>none
def Jr (P:Program) (h:Heap) (ts:List TypeId) (rs:List AV) (j:Nat) (x:Tree):Option (List Tree):=
 cnd (rs.length=ts.length) (DA P true h (ts.take j) (rs.take j) fun a=>DA P true h (ts.drop (j+1)) (rs.drop (j+1)) fun b=>some (a++x::b)) none
noncomputable def Ga (C:Cfg) (rec:Rec) (pc:BC) (n:Nat) (j g:Nat) (xs:List Tree):Option (List Tree):=
 match C2 C.P g (fun i =>.t (xs.getD i default)),(C1 C.P g)[j]? with
 |some avs,some t=>(EC C.P t).bind fun z=>LG C rec pc n g avs [] fun rs h'=>match rs[j]? with
  |some .nilsl=>Jr C.P h' (C1 C.P g) rs j (.sl z [])
  |some (.sref i ver off len)=>(match h'[i]? with
   |some (.row false ver' size es)=>cnd (ver'=ver∧size=z) (Jr C.P h' (C1 C.P g) rs j (.sl z ((es.drop off).take len))) none
   |_=>none)
  |_=>none
 |_,_=>none
def pcx (C:Cfg) (pc:BC):BC:=fun g xs=>match xs with
 |[]=>if g<OWN then match C.ext g [] with
  |some ys=>some ys
  |none=>pc g []
  else pc g []
 |x::xs=>pc g (x::xs)
noncomputable def AM (C:Cfg):Nat→BC
 |0=>fun _ _=>none
 |n+1=>fun g xs=>if g<OWN then match C.ext g xs with
  |some ys=>some ys
  |none=>Q2 C (inl C (pcx C (AM C n)) n C.depth) (pcx C (AM C n)) n g xs else if g<D5 then H3 C (inl C (pcx C (AM C n)) n C.depth) (pcx C (AM C n)) n (g-OWN) xs
  else Ga C (inl C (pcx C (AM C n)) n C.depth) (pcx C (AM C n)) n ((g-D5) % 64) ((g-D5) / 64) xs
end Ab
