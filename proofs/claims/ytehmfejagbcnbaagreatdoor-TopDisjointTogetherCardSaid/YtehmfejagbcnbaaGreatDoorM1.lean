/- A part of the proof: see the last text. -/
import Derived.RangeFuncIn
import Derived.Laws.Sem
import Derived.Laws.World
import Derived.Laws.Cells
import Derived.Below
import Derived.Laws.Entries
import Derived.ChangeKeysEq
import Derived.Laws.StructEq
import Derived.Laws.Tables
import Derived.Laws.CopyRow
import Derived.Laws.AppendOwn
import Derived.Lib.AppendStr
import Derived.Lib.ConvBytes
import Derived.Laws.MakeOwn
import Derived.Shelf.Bodies2
import Derived.Shelf.SlGeneric
import Derived.Shelf.RegionOpenPlain
import Derived.WalkKit
import Derived.Lib.Walk
import Derived.Lib.SliceRun
import Derived.Lib.JoinLaws
import Derived.Lib.AppendZerosOnto
import Derived.Laws.Externs
import Derived.Laws.IdiomCopy
import Derived.Laws.NewBlocks
import Derived.Shelf.Spec.SlicesGrow
import Derived.Orders
set_option linter.unusedVariables false
set_option linter.unusedSimpArgs false
open Array (eq_empty_of_size_eq_zero getElem?_modify getElem?_push getElem?_toList length_toList size_append toArray_toList)
open Bool (and_eq_true false_eq_true)
open Int (toNat toNat_natCast)
open List (all_cons all_eq_true append_assoc append_nil drop eq_nil_of_length_eq_zero ext_getElem? flatten_cons foldl_cons getD_eq_getElem?_getD getElem?_append_left getElem?_append_right getElem?_cons_succ getElem?_drop getElem?_eq_getElem getElem?_eq_none getElem?_map getElem?_range getElem?_take getElem?_take_of_lt getElem_mem length length_append length_cons length_map length_nil length_pos_iff length_take map_take mem_iff_getElem? mem_map mem_range nil_append replicate size_toArray take take_zero)
open Nat (add_assoc add_le_add_left add_mul add_zero le_refl le_succ le_trans lt_of_lt_of_le lt_or_ge mod_lt mul_comm mul_le_mul mul_le_mul_right ne_of_lt not_lt pos_of_ne_zero succ_mul zero_add zero_le)
open Option (map_some)
namespace Ab
open Go
inductive Tree where
 |int (k:IntKind) (n:Int)
 |bool (b:Bool)
 |str (s:ByteArray)
 |sl (size:Nat) (es:List (List Tree))
 |const (v:Value)
 |mp (k:IntKind) (m:List (Int×Nat))
 deriving Inhabited
inductive BS (w:World) (A:Nat→Prop):Tree→Value→Prop
 |int (k:IntKind) (n:Int):BS w A (.int k n) (.int k n)
 |bool (b:Bool):BS w A (.bool b) (.bool b)
 |str (s:ByteArray):BS w A (.str s) (.string s)
 |const (v:Value):v.oneCell'=true→BS w A (.const v) v
 |mp (k:IntKind) (m:List (Int×Nat)) (b:Nat) (es:Array MapEntry) (clock:Nat):b<w.heap.size→¬A b→w.heap[b]? = some (.map es clock)→
   es.toList.map (fun e=>(e.key,e.val))=m.map (fun p=>(.int k p.1,.func (.func p.2) #[] #[]))→BS w A (.mp k m) (.map (some b))
 |nil (size cap:Nat) (a:Option Addr):BS w A (.sl size []) (.slice a 0 cap)
 |sl (size:Nat) (es:List (List Tree)) (b off cap:Nat) (u:Nat→Nat→Value):es.length≤cap→b<w.heap.size→¬A b→
   (∀(j:Nat) (e:List Tree),es[j]? = some e→e.length=size)→
   (∀(j:Nat) (e:List Tree) (c:Nat) (x:Tree),es[j]? = some e→e[c]? = some x→w.cell? ⟨b,off+(j*size+c),none⟩=some (u j c))→
   (∀(j:Nat) (e:List Tree) (c:Nat) (x:Tree),es[j]? = some e→e[c]? = some x→BS w A x (u j c))→
   BS w A (.sl size es) (.slice (some ⟨b,off,none⟩) es.length cap)
theorem JG {w w':World} {b o:Nat} (h:w'.heap[b]? = w.heap[b]?):w'.cell? ⟨b,o,none⟩=w.cell? ⟨b,o,none⟩:=by simp only [World.cell?,h]
theorem BS.mono {w w':World} {A A':Nat→Prop} (hs:w.heap.size≤w'.heap.size)
  (hk:∀b,b<w.heap.size→¬A b→w'.heap[b]? = w.heap[b]?) (hA:∀b,A' b→A b∨w.heap.size≤b)
  {x:Tree} {v:Value} (h:BS w A x v):BS w' A' x v:=by
 induction h with
 |int k n=>exact .int k n
 |bool b=>exact .bool b
 |str s=>exact .str s
 |const v h=>exact .const v h
 |mp k m b es clock h1 h2 h3 h4=>
  refine .mp k m b es clock (lt_of_lt_of_le h1 hs) (fun h => ?_) ((hk b h1 h2).trans h3) h4;rcases hA b h with h|h
  ·exact h2 h
  ·omega
 |nil size cap a=>exact .nil size cap a
 |sl size es b off cap u h1 h2 h3 h4 h5 _ ih=>
  refine .sl size es b off cap u h1 (lt_of_lt_of_le h2 hs) (fun h => ?_) h4 (fun j e c x he hx => ?_) ih
  ·rcases hA b h with h|h
   ·exact h3 h
   ·omega
  ·rw [JG (hk b h2 h3)];exact h5 j e c x he hx
theorem BS.one {w:World} {A:Nat→Prop} {x:Tree} {v:Value} (h:BS w A x v):v.oneCell'=true:=by cases h<;>first|rfl|assumption
inductive AV where
 |undef
 |t (x:Tree)
 |nilsl
 |ptr (i off:Nat)
 |rptr (i ver k off:Nat)
 |eptr (size:Nat) (cells:List Tree) (off:Nat)
 |sref (i ver off len:Nat)
 |bsl (i off len size:Nat)
 |yld (i:Nat)
 |mref (i:Nat)
 |func (fn:Fn) (first captured:List AV)
 |agg (cs:List AV)
 |tuple (vs:List AV)
 deriving Inhabited
abbrev Env:=Nat→AV
structure Cn where
 fn:FuncId
 size:Nat
 env:Env
 params:List Tmp
 assign:Code
 body:Code
 busy:Bool
 pending:Option Code
 ended:Bool
 hl:Nat
 deriving Inhabited
inductive AF where
 |box (cs:List AV)
 |row (frz:Bool) (ver size:Nat) (es:List (List Tree))
 |loop (l:Cn)
 |mapo (k ke:IntKind) (es:List (Int×Int))
 deriving Inhabited
abbrev Heap:=List AF
abbrev A0:=List (Option (Nat×Nat))
def AF.ver:AF→Nat
 | .row _ v _ _=>v
 |_=>0
def AF.len:AF→Nat
 | .row _ _ _ es=>es.length
 | .box cs=>cs.length
 |_=>0
def AF.size:AF→Nat
 | .row _ _ s _=>s
 |_=>0
def AF.KP:AF→Bool
 | .row f _ _ _=>f
 |_=>false
def AF.kind:AF→Nat
 | .box _=>0
 | .loop _=>1
 | .mapo _ _ _=>3
 |_=>2
def AF.rec? : AF→Option Cn
 | .loop l=>some {l with busy:=false,pending:=none,ended:=false}
 |_=>none
def Ex (κ:A0) (h:Heap) (b:Nat):Prop:=∃(i base:Nat) (o:AF),κ[i]? = some (some (b,base))∧h[i]? = some o∧o.KP=false
def SRef (κ:A0) (h:Heap) (w:World) (i ver off len:Nat) (v:Value):Prop:=
 ∀(k:Option (Nat×Nat)) (o:AF),κ[i]? = some k→h[i]? = some o→o.ver=ver→o.kind=2∧off+len≤o.len∧
  ((len=0∧off=o.len∧∃a,v = .slice a 0 0)∨∃b base,k=some (b,base)∧∃cap,v = .slice (some ⟨b,base+off*o.size,none⟩) len cap∧o.len≤off+cap∧
    ∀cells elem fr,w.heap[b]? = some (.cells cells elem fr)→base+(off+cap)*o.size≤cells.size)
inductive Refs (m:Nat):AV→Prop
 |undef:Refs m .undef
 |t (x:Tree):Refs m (.t x)
 |nilsl:Refs m .nilsl
 |ptr (i off:Nat):i<m→Refs m (.ptr i off)
 |rptr (i ver k off:Nat):i<m→Refs m (.rptr i ver k off)
 |eptr (size:Nat) (cells:List Tree) (off:Nat):Refs m (.eptr size cells off)
 |sref (i ver off len:Nat):i<m→Refs m (.sref i ver off len)
 |bsl (i off len size:Nat):i<m→Refs m (.bsl i off len size)
 |yld (i:Nat):i<m→Refs m (.yld i)
 |mref (i:Nat):i<m→Refs m (.mref i)
 |func (fn:Fn) (first captured:List AV):(∀(j:Nat) (x:AV),first[j]? = some x→Refs m x)→(∀(j:Nat) (x:AV),captured[j]? = some x→Refs m x)→Refs m (.func fn first captured)
 |agg (xs:List AV):(∀(j:Nat) (x:AV),xs[j]? = some x→Refs m x)→Refs m (.agg xs)
 |tuple (xs:List AV):(∀(j:Nat) (x:AV),xs[j]? = some x→Refs m x)→Refs m (.tuple xs)
inductive AP (B:Nat→Prop) (κ:A0) (h:Heap) (w:World):AV→Value→Prop
 |undef (v:Value):AP B κ h w .undef v
 |t (x:Tree) (v:Value):BS w (fun b=>B b∨Ex κ h b) x v→AP B κ h w (.t x) v
 |nilsl (a:Option Addr):AP B κ h w .nilsl (.slice a 0 0)
 |ptr (i off b base:Nat):κ[i]? = some (some (b,base))→(∃cs,h[i]? = some (.box cs))→AP B κ h w (.ptr i off) (.pointer (some ⟨b,base+off,none⟩))
 |rptr (i ver k off:Nat) (v:Value):(∃p,v = .pointer (some p))→(∃o,h[i]? = some o∧ver≤o.ver)→
   (∀o:AF,h[i]? = some o→o.ver=ver→∃b base,κ[i]? = some (some (b,base))∧v = .pointer (some ⟨b,base+(k*o.size+off),none⟩)∧o.kind=2∧k<o.len)→AP B κ h w (.rptr i ver k off) v
 |eptr (size:Nat) (cells:List Tree) (off b base:Nat) (u:Nat→Value):cells.length=size→b<w.heap.size→¬(B b∨Ex κ h b)→
   (∀c x,cells[c]? = some x→w.cell? ⟨b,base+c,none⟩=some (u c))→
   (∀c x,cells[c]? = some x→BS w (fun b=>B b∨Ex κ h b) x (u c))→AP B κ h w (.eptr size cells off) (.pointer (some ⟨b,base+off,none⟩))
 |sref (i ver off len:Nat) (v:Value):v.oneCell'=true→(∃o,h[i]? = some o∧ver≤o.ver)→SRef κ h w i ver off len v→AP B κ h w (.sref i ver off len) v
 |bsl (i off len size cap b:Nat):κ[i]? = some (some (b,0))→(∃cs,h[i]? = some (.box cs)∧off+cap*size≤cs.length)→len≤cap→AP B κ h w (.bsl i off len size) (.slice (some ⟨b,off,none⟩) len cap)
 |yld (i b base:Nat):κ[i]? = some (some (b,base))→(∃l,h[i]? = some (.loop l))→AP B κ h w (.yld i) (.func (.yield b) #[] #[])
 |mref (i b:Nat):κ[i]? = some (some (b,0))→(∃k ke es,h[i]? = some (.mapo k ke es))→AP B κ h w (.mref i) (.map (some b))
 |func (fn:Fn) (first captured:List AV) (fs cs:Array Value):fs.size=first.length→cs.size=captured.length→
   (∀j x,first[j]? = some x→AP B κ h w x (fs.getD j undef))→(∀j x,captured[j]? = some x→AP B κ h w x (cs.getD j undef))→AP B κ h w (.func fn first captured) (.func fn fs cs)
 |agg (xs:List AV) (vs:Array Value):vs.size=xs.length→(∀j x,xs[j]? = some x→AP B κ h w x (vs.getD j undef))→AP B κ h w (.agg xs) (.agg vs)
 |tuple (xs:List AV) (vs:Array Value):vs.size=xs.length→(∀j x,xs[j]? = some x→AP B κ h w x (vs.getD j undef))→AP B κ h w (.tuple xs) (.tuple vs)
def OLe (o o':AF):Prop:=o.kind=o'.kind∧o.ver≤o'.ver∧(o.ver=o'.ver→o.size=o'.size∧o.len=o'.len)∧(o.KP=true→o'=o)∧(o.kind=0→o'.len=o.len)∧o'.rec? = o.rec?
theorem OLe.refl (o:AF):OLe o o:=⟨rfl,le_refl _,fun _=>⟨rfl,rfl⟩,fun _=>rfl,fun _=>rfl,rfl⟩
theorem OLe.trans {a b c:AF} (h:OLe a b) (k:OLe b c):OLe a c:=by
 refine ⟨h.1.trans k.1,le_trans h.2.1 k.2.1,fun e => ?_,fun e => ?_,fun e=>(k.2.2.2.2.1 (h.1 ▸ e)).trans (h.2.2.2.2.1 e),k.2.2.2.2.2.trans h.2.2.2.2.2⟩
 ·have h1:=h.2.1;have k1:=k.2.1;have x:=h.2.2.1 (by omega);have y:=k.2.2.1 (by omega);exact ⟨x.1.trans y.1,x.2.trans y.2⟩
 ·have hb:=h.2.2.2.1 e;rw [hb] at k;exact k.2.2.2.1 e
structure Ext (κ:A0) (h:Heap) (w:World) (κ':A0) (h':Heap) (w':World):Prop where
 os:w'.os=w.os
 tape:w'.tape=w.tape
 output:w'.output=w.output
 size:w.heap.size≤w'.heap.size
 keep:∀b,b<w.heap.size→¬Ex κ h b→w'.heap[b]? = w.heap[b]?
 ex:∀b,Ex κ' h' b→Ex κ h b∨w.heap.size≤b
 obj:∀(i:Nat) (o:AF),h[i]? = some o→∃o':AF,h'[i]? = some o'∧OLe o o'
 kap:∀(i:Nat) (o o':AF),h[i]? = some o→h'[i]? = some o'→o.ver=o'.ver→κ'[i]? = κ[i]?
 cells:∀(i:Nat) (o o':AF),h[i]? = some o→h'[i]? = some o'→o.ver=o'.ver→∀(b base:Nat),κ[i]? = some (some (b,base))→
  ∀cells elem fr,w'.heap[b]? = some (.cells cells elem fr)→∃cells',w.heap[b]? = some (.cells cells' elem fr)∧cells'.size=cells.size
theorem Ext.refl (κ:A0) (h:Heap) (w:World):Ext κ h w κ h w:=
 ⟨rfl,rfl,rfl,le_refl _,fun _ _ _=>rfl,fun _ h =>.inl h,fun _ o ho=>⟨o,ho,.refl o⟩,fun _ _ _ _ _ _=>rfl,fun _ _ _ _ _ _ _ _ _ cells _ _ hc=>⟨cells,hc,rfl⟩⟩
theorem Ext.trans {κ κ₁ κ₂:A0} {h h₁ h₂:Heap} {w w₁ w₂:World} (x:Ext κ h w κ₁ h₁ w₁) (y:Ext κ₁ h₁ w₁ κ₂ h₂ w₂):Ext κ h w κ₂ h₂ w₂ where
 os:=y.os.trans x.os
 tape:=y.tape.trans x.tape
 output:=y.output.trans x.output
 size:=le_trans x.size y.size
 keep:=fun b hb hn=>by
  refine (y.keep b (lt_of_lt_of_le hb x.size) fun he => ?_).trans (x.keep b hb hn);rcases x.ex b he with h|h
  ·exact hn h
  ·omega
 ex:=fun b hb=>by
  rcases y.ex b hb with h|h
  ·exact x.ex b h
  ·exact .inr (le_trans x.size h)
 obj:=fun i o ho=>by obtain ⟨o1,h1,l1⟩:=x.obj i o ho;obtain ⟨o2,h2,l2⟩:=y.obj i o1 h1;exact ⟨o2,h2,l1.trans l2⟩
 kap:=fun i o o2 ho ho2 he=>by
  obtain ⟨o1,h1,l1⟩:=x.obj i o ho;obtain ⟨o2',h2,l2⟩:=y.obj i o1 h1;obtain rfl:o2'=o2:=by rw [h2] at ho2;exact Option.some.inj ho2
  have a1:=l1.2.1;have a2:=l2.2.1;exact (y.kap i o1 o2' h1 h2 (by omega)).trans (x.kap i o o1 ho h1 (by omega))
 cells:=fun i o o2 ho ho2 he b base hb cells elem fr hc=>by
  obtain ⟨o1,h1,l1⟩:=x.obj i o ho;obtain ⟨o2',h2,l2⟩:=y.obj i o1 h1;obtain rfl:o2'=o2:=by rw [h2] at ho2;exact Option.some.inj ho2
  have a1:=l1.2.1;have a2:=l2.2.1;have k1:=x.kap i o o1 ho h1 (by omega);obtain ⟨c1,hc1,s1⟩:=y.cells i o1 o2' h1 h2 (by omega) b base (k1.trans hb) cells elem fr hc;obtain ⟨c0,hc0,s0⟩:=x.cells i o o1 ho h1 (by omega) b base hb c1 elem fr hc1;exact ⟨c0,hc0,s0.trans s1⟩
theorem T5 {κ κ':A0} {h h':Heap} {w w':World} (x:Ext κ h w κ' h' w') {b o:Nat} (hb:b<w.heap.size) (hn:¬Ex κ h b):w'.cell? ⟨b,o,none⟩=w.cell? ⟨b,o,none⟩:=
 JG (x.keep b hb hn)
theorem BS.ext {B:Nat→Prop} {κ κ':A0} {h h':Heap} {w w':World} (x:Ext κ h w κ' h' w') {t:Tree} {v:Value} (ht:BS w (fun b=>B b∨Ex κ h b) t v):BS w' (fun b=>B b∨Ex κ' h' b) t v:=
 ht.mono x.size (fun b hb hn=>x.keep b hb fun he=>hn (.inr he)) fun b hb=>by
  rcases hb with hb|hb
  ·exact .inl (.inl hb)
  ·rcases x.ex b hb with h|h
   ·exact .inl (.inr h)
   ·exact .inr h
def Ms (z n:Nat) (fr:Nat×Nat):Prop:=fr=(0,0)∨z=1∧n≤fr.1
def GC (B:Nat→Prop) (κ:A0) (h:Heap) (w:World):Option (Nat×Nat)→AF→Prop
 |some (b,base),.box cs=>base=0∧∃cells elem,w.heap[b]? = some (.cells cells elem (0,0))∧cells.size=cs.length∧∀j x,cs[j]? = some x→AP B κ h w x (cells.getD j undef)
 |some (b,base),.row _ _ size es=>size≠0∧∃cells elem fr,w.heap[b]? = some (.cells cells elem fr)∧Ms size cells.size fr∧base+es.length*size≤cells.size∧(∀(j:Nat) (e:List Tree),es[j]? = some e→e.length=size)∧
   ∀(j:Nat) (e:List Tree) (c:Nat) (x:Tree),es[j]? = some e→e[c]? = some x→BS w (fun b=>B b∨Ex κ h b) x (cells.getD (base+(j*size+c)) undef)
 |none,.row _ _ _ es=>es=[]
 |some (b,d),.loop l=>∃(f:FuncId) (tmps:Array Value),w.heap[b]? = some (.loop {state:=if l.ended then .exhausted else if l.busy then .busy else if l.pending.isSome then .done else .ready,pending:=l.pending,fn:=f,tmps,params:=l.params.toArray,assign:=l.assign,body:=l.body,defers:=d})∧
   tmps.size=l.size∧(∀i,AP B κ h w (l.env i) (tmps.getD i undef))∧(∀i,Refs l.hl (l.env i))∧w.heap[d]? = some (.deferred (some []))∧¬Ex κ h d
 |some (b,d),.mapo k ke es=>d=0∧∃(en:Array MapEntry) (clock:Nat),w.heap[b]? = some (.map en clock)∧en.toList.map (fun e=>(e.key,e.val))=es.map fun p=>(.int k p.1,.int ke p.2)
 |_,_=>False
structure Ai (B:Nat→Prop) (κ:A0) (h:Heap) (w:World):Prop where
 len:κ.length=h.length
 inj:∀(i j b bs bs':Nat),κ[i]? = some (some (b,bs))→κ[j]? = some (some (b,bs'))→i=j
 notB:∀(i b bs:Nat),κ[i]? = some (some (b,bs))→¬B b
 lt:∀(i b bs:Nat),κ[i]? = some (some (b,bs))→b<w.heap.size
 ltB:∀b,B b→b<w.heap.size
 obj:∀(i:Nat) (o:AF) (k:Option (Nat×Nat)),h[i]? = some o→κ[i]? = some k→GC B κ h w k o
theorem AP.ext {B:Nat→Prop} {κ κ':A0} {h h':Heap} {w w':World} (x:Ext κ h w κ' h' w') {a:AV} {v:Value} (ha:AP B κ h w a v):AP B κ' h' w' a v:=by
 induction ha with
 |undef v=>exact .undef v
 |t y v hy=>exact .t y v (hy.ext x)
 |nilsl a=>exact .nilsl a
 |ptr i off b base hk hb=>
  obtain ⟨cs,hcs⟩:=hb;obtain ⟨o',ho',hl⟩:=x.obj i _ hcs;have hkind:=hl.1;cases o' with
  |box cs'=>exact .ptr i off b base ((x.kap i _ _ hcs ho' rfl).trans hk) ⟨cs',ho'⟩
  |row a b c d=>simp [AF.kind] at hkind
  |loop l=>simp [AF.kind] at hkind
  |mapo a b c=>simp [AF.kind] at hkind
 |bsl i off len size cap b hk hb hlc=>
  obtain ⟨cs,hcs,hcl⟩:=hb;obtain ⟨o',ho',hl⟩:=x.obj i _ hcs;have hkind:=hl.1;cases o' with
  |box cs'=>
   have hlen:=hl.2.2.2.2.1 rfl;simp only [AF.len] at hlen;exact .bsl i off len size cap b ((x.kap i _ _ hcs ho' rfl).trans hk) ⟨cs',ho',by omega⟩ hlc
  |row a b c d=>simp [AF.kind] at hkind
  |loop l=>simp [AF.kind] at hkind
  |mapo a b c=>simp [AF.kind] at hkind
 |rptr i ver k off v h1 hex hv=>
  obtain ⟨o,ho,hver⟩:=hex;obtain ⟨o',ho',hl⟩:=x.obj i o ho;refine .rptr i ver k off v h1 ⟨o',ho',le_trans hver hl.2.1⟩ fun o2 ho2 he => ?_;obtain rfl:o'=o2:=by rw [ho'] at ho2;exact Option.some.inj ho2
  have h1:=hl.2.1;have hvv:o.ver=o'.ver:=by omega
  obtain ⟨b,base,e0,e1,e2,e3⟩:=hv o ho (by omega);obtain ⟨s1,s2⟩:=hl.2.2.1 hvv;exact ⟨b,base,(x.kap i o o' ho ho' hvv).trans e0,by rw [e1,s1],hl.1 ▸ e2,by omega⟩
 |eptr size cells off b base u hsz hb hn hc ht=>
  refine .eptr size cells off b base u hsz (lt_of_lt_of_le hb x.size) (fun hh => ?_) (fun c y hy => ?_) fun c y hy=>(ht c y hy).ext x
  ·rcases hh with hh|hh
   ·exact hn (.inl hh)
   ·rcases x.ex b hh with hh|hh
    ·exact hn (.inr hh)
    ·omega
  ·rw [T5 x hb fun he=>hn (.inr he)];exact hc c y hy
 |sref i ver off len v h1 hex hv=>
  obtain ⟨o,ho,hver⟩:=hex;obtain ⟨o',ho',hl⟩:=x.obj i o ho;refine .sref i ver off len v h1 ⟨o',ho',le_trans hver hl.2.1⟩ fun k o2 hb ho2 he => ?_;obtain rfl:o'=o2:=by rw [ho'] at ho2;exact Option.some.inj ho2
  have h1:=hl.2.1;have hvv:o.ver=o'.ver:=by omega
  have hk:=(x.kap i o o' ho ho' hvv).symm.trans hb;obtain ⟨e2,e4,e1⟩:=hv k o hk ho (by omega);obtain ⟨s1,s2⟩:=hl.2.2.1 hvv;refine ⟨hl.1 ▸ e2,by omega,?_⟩;rcases e1 with ⟨z1,z2,z3⟩|⟨b,base,rfl,cap,e1,e5,e6⟩
  ·exact .inl ⟨z1,by omega,z3⟩
  ·refine .inr ⟨b,base,rfl,cap,by rw [e1,s1],by omega,fun cells elem fr hc => ?_⟩;obtain ⟨c0,hc0,hs⟩:=x.cells i o o' ho ho' hvv b base hk cells elem fr hc;rw [← hs,← s1];exact e6 c0 elem fr hc0
 |yld i b base hk hb=>
  obtain ⟨l,hl⟩:=hb;obtain ⟨o',ho',hle⟩:=x.obj i _ hl;have hkind:=hle.1;cases o' with
  |loop l'=>exact .yld i b base ((x.kap i _ _ hl ho' rfl).trans hk) ⟨l',ho'⟩
  |row a b c d=>simp [AF.kind] at hkind
  |box l=>simp [AF.kind] at hkind
  |mapo a b c=>simp [AF.kind] at hkind
 |mref i b hk hb=>
  obtain ⟨k,ke,es,hes⟩:=hb;obtain ⟨o',ho',hl⟩:=x.obj i _ hes;have hkind:=hl.1;cases o' with
  |mapo k' ke' es'=>exact .mref i b ((x.kap i _ _ hes ho' rfl).trans hk) ⟨k',ke',es',ho'⟩
  |box cs=>simp [AF.kind] at hkind
  |row a b c d=>simp [AF.kind] at hkind
  |loop l=>simp [AF.kind] at hkind
 |func fn first captured fs cs h1 h2 _ _ i1 i2=>exact .func fn first captured fs cs h1 h2 i1 i2
 |agg xs vs h1 _ ih=>exact .agg xs vs h1 ih
 |tuple xs vs h1 _ ih=>exact .tuple xs vs h1 ih
theorem GC.ext {B:Nat→Prop} {κ κ':A0} {h h':Heap} {w w':World} (x:Ext κ h w κ' h' w') {k:Option (Nat×Nat)} {o:AF} (hk:∀b base,k=some (b,base)→w'.heap[b]? = w.heap[b]?)
  (ho:GC B κ h w k o):GC B κ' h' w' k o:=by
 cases k with
 |none=>
  cases o with
  |row f v s es=>exact ho
  |box cs=>exact ho.elim
  |loop l=>exact ho.elim
  |mapo k ke es=>exact ho.elim
 |some p=>
  obtain ⟨b,base⟩:=p;have hb:=hk b base rfl;cases o with
  |box cs=>
   obtain ⟨h0,cells,elem,hc,hs,hv⟩:=ho;exact ⟨h0,cells,elem,hb.trans hc,hs,fun j y hy=>(hv j y hy).ext x⟩
  |row f v s es=>
   obtain ⟨hz,cells,elem,fr,hc,hth,hs,hl,hv⟩:=ho;exact ⟨hz,cells,elem,fr,hb.trans hc,hth,hs,hl,fun j e c y he hy=>(hv j e c y he hy).ext x⟩
  |loop l=>
   obtain ⟨f,tmps,hc,hs,hv,hrf,hd,hn⟩:=ho;have hdlt:base<w.heap.size:=by
    rcases lt_or_ge base w.heap.size with y|y
    ·exact y
    ·rw [Array.getElem?_eq_none y] at hd;cases hd
   refine ⟨f,tmps,hb.trans hc,hs,fun i=>(hv i).ext x,hrf,(x.keep base hdlt hn).trans hd,fun he => ?_⟩;rcases x.ex base he with y|y
   ·exact hn y
   ·omega
  |mapo k ke es=>
   obtain ⟨h0,en,clock,hc,hs⟩:=ho;exact ⟨h0,en,clock,hb.trans hc,hs⟩
theorem AT {α:Type} {l:List α} {i:Nat} {x:α} (h:l[i]? = some x):i<l.length:=(List.getElem?_eq_some_iff.1 h).1
theorem AP.refs {B:Nat→Prop} {κ:A0} {h:Heap} {w:World} {x:AV} {v:Value} (hv:AP B κ h w x v):Refs h.length x:=by
 induction hv with
 |undef v=>exact .undef
 |t y v _=>exact .t y
 |nilsl a=>exact .nilsl
 |ptr i off b base hk hb=>obtain ⟨cs,hcs⟩:=hb;exact .ptr _ _ (AT hcs)
 |rptr i ver k off v _ hex _=>obtain ⟨o,ho,_⟩:=hex;exact .rptr _ _ _ _ (AT ho)
 |eptr size cells off b base u _ _ _ _ _=>exact .eptr _ _ _
 |sref i ver off len v _ hex _=>obtain ⟨o,ho,_⟩:=hex;exact .sref _ _ _ _ (AT ho)
 |bsl i off len size cap b _ hb _=>obtain ⟨cs,hcs,_⟩:=hb;exact .bsl _ _ _ _ (AT hcs)
 |yld i b base _ hb=>obtain ⟨l,hl⟩:=hb;exact .yld _ (AT hl)
 |mref i b _ hb=>obtain ⟨k,ke,es,hl⟩:=hb;exact .mref _ (AT hl)
 |func fn first captured fs cs _ _ _ _ i1 i2=>exact .func _ _ _ i1 i2
 |agg xs vs _ _ ih=>exact .agg _ ih
 |tuple xs vs _ _ ih=>exact .tuple _ ih
end Ab
namespace Ab
open Go
variable {R:Type}
def cnd (c:Prop) [Decidable c] (a b:Option R):Option R:=
 match decide c with
 |true=>a
 |false=>b
theorem AE (c:Prop) [Decidable c] (a b:Option R):cnd c a b=if c then a else b:=by unfold cnd;by_cases h:c<;>simp [h]
class Dq (α:Type) where
 d:DecidableEq α
def both [Dq R] (a b:Option R):Option R:=@ite _ (a=b) (@Option.instDecidableEq _ Dq.d a b) a none
theorem HW [Dq R] {a b:Option R} {r:R} (h:both a b=some r):a=some r∧b=some r:=by
 unfold both at h;split at h
 ·rename_i he;exact ⟨h,he ▸ h⟩
 ·cases h
theorem J5 [Dq R] (a:Option R):both a a=a:=by unfold both;rw [if_pos rfl]
def EZ:Value→AV
 | .int k n =>.t (.int k n)
 | .bool b =>.t (.bool b)
 | .string s =>.t (.str s)
 | .slice none 0 0 =>.nilsl
 | .pointer none =>.t (.const (.pointer none))
 | .map none =>.t (.const (.map none))
 | .nilFunc =>.t (.const .nilFunc)
 | .nilIface =>.t (.const .nilIface)
 | .func (.func f) ⟨[]⟩ ⟨[]⟩=>.func (.func f) [] []
 |_ =>.undef
def ofConst:Value→AV
 | .agg ⟨cs⟩=>.agg (cs.map EZ)
 |v=>EZ v
def ev (env:Env):Operand→AV
 | .tmp t=>env t
 | .const v=>ofConst v
 | .global _ =>.undef
 | .func f =>.func (.func f) [] []
def BZ (P:Program) (t:TypeId):Option Nat:=(P.info? t).map (·.size)
def Ay (P:Program) (t:TypeId):Option Bool:=
 match P.underlying t with
 |some (.struct _)|some (.array _ _)=>some true
 |some _=>some false
 |none=>none
def EO (P:Program) (t:TypeId):Option Nat:=
 match P.underlying t with
 |some (.slice e)=>BZ P e
 |_=>none
def Gq (P:Program) (t:TypeId) (f:Nat):Option Nat:=
 match P.underlying t with
 |some (.struct fs)=>match fs[f]? with
  |some fd=>match BZ P fd.type with
   |some (_+1)=>some fd.offset
   |_=>none
  |none=>none
 |_=>none
def Bh (P:Program):Nat→TypeId→List TypeId
 |0,t=>[t]
 |d+1,t=>
  match P.underlying t with
  |some (.struct fs)=>(fs.toList.map fun f=>Bh P d f.type).flatten
  |some (.array n e)=>(replicate n (Bh P d e)).flatten
  |_=>[t]
def Dg (k:IntKind):AV→Option Int
 | .t (.int k' n)=>if k'=k then some n else none
 |_=>none
def asInt:AV→Option Int
 | .t (.int _ n)=>some n
 |_=>none
def asBool:AV→Option Bool
 | .t (.bool b)=>some b
 |_=>none
def H0:AV→Option ByteArray
 | .t (.str s)=>some s
 |_=>none
def AV.leaf:AV→Bool
 | .undef | .agg _ | .tuple _=>false
 |_=>true
def AV.cells:AV→Option (List AV)
 | .agg cs=>some cs
 | .undef | .tuple _=>none
 |x=>some [x]
def A2 (get:Nat→AV) (off n:Nat):List AV:=(List.range n).map fun c=>get (off+c)
def rd (P:Program) (t:TypeId) (total:Nat) (get:Nat→AV) (off:Nat) (K:AV→Option R):Option R:=
 match Ay P t,BZ P t with
 |some true,some n=>cnd (off+n≤total) (K (.agg (A2 get off n))) none
 |some false,_=>cnd (off<total) (K (get off)) none
 |_,_=>none
def H2 (P:Program) (t:TypeId) (h:Heap) (a:AV) (K:AV→Option R):Option R:=
 match a with
 | .ptr i off=>
  match h[i]? with
  |some (.box cs)=>rd P t cs.length (fun c=>cs.getD c .undef) off K
  |_=>none
 | .rptr i ver k off=>
  match h[i]? with
  |some (.row _ ver' size es)=>cnd (ver'=ver) ((es[k]?).bind fun e=>rd P t size (fun c =>.t (e.getD c default)) off K) none
  |_=>none
 | .eptr size cells off=>rd P t size (fun c =>.t (cells.getD c default)) off K
 |_=>none
def FM (k:IntKind):Tree→Bool
 | .int k' _=>decide (k'=k)
 |_=>false
def intOf:Tree→Int
 | .int _ n=>n
 |_=>0
def D8:Tree→Bool
 | .bool _=>true
 |_=>false
def Cg:Tree→Bool
 | .bool b=>b
 |_=>false
def FL:Tree→Bool
 | .str _=>true
 |_=>false
def strOf:Tree→ByteArray
 | .str s=>s
 |_=>default
def E6 (s:Nat):Tree→Bool
 | .sl s' _=>decide (s'=s)
 |_=>false
def FT:Tree→List (List Tree)
 | .sl _ es=>es
 |_=>[]
def TR (P:Program) (t:TypeId) (x:Tree) (K:Tree→Option R):Option R:=
 match P.underlying t with
 |some (.int k)=>cnd (FM k x=true) (K (.int k (intOf x))) none
 |some .bool=>cnd (D8 x=true) (K (.bool (Cg x))) none
 |some .string=>cnd (FL x=true) (K (.str (strOf x))) none
 |some (.slice e)=>match BZ P e with
  |some s=>cnd (E6 s x=true) (K (.sl s (FT x))) none
  |none=>none
 |_=>K x
def Dc (P:Program):List TypeId→List AV→(List AV→Option R)→Option R
 |[],cs,K=>K cs
 |_::_,[],K=>K []
 |t::ts,c::cs,K=>match c with
  | .t x=>TR P t x fun y=>Dc P ts cs fun r=>K (.t y::r)
  |c=>Dc P ts cs fun r=>K (c::r)
def OA (P:Program) (t:TypeId) (v:AV) (K:AV→Option R):Option R:=
 match v with
 | .t x=>TR P t x fun y=>K (.t y)
 | .agg cs=>Dc P (Bh P 16 t) cs fun r=>K (.agg r)
 |v=>K v
def Q3 (P:Program) (f:Nat→Tree):List TypeId→Nat→(List Tree→Option R)→Option R
 |[],_,K=>K []
 |t::ts,i,K=>TR P t (f i) fun y=>Q3 P f ts (i+1) fun r=>K (y::r)
def Im (P:Program) (ts:List TypeId) (ys:List Tree) (K:List Tree→Option R):Option R:=
 cnd (ys.length=ts.length) (Q3 P (fun i=>ys.getD i default) ts 0 K) none
theorem NW {k:IntKind} {x:Tree} (h:FM k x=true):x = .int k (intOf x):=by cases x<;>simp_all [FM,intOf]
theorem Ly {x:Tree} (h:D8 x=true):x = .bool (Cg x):=by cases x<;>simp_all [D8,Cg]
theorem NV {x:Tree} (h:FL x=true):x = .str (strOf x):=by cases x<;>simp_all [FL,strOf]
theorem Pv {s:Nat} {x:Tree} (h:E6 s x=true):x = .sl s (FT x):=by cases x<;>simp_all [E6,FT]
theorem F0 (P:Program) (t:TypeId) (x:Tree):(∀(R:Type) (K:Tree→Option R),TR P t x K=K x)∨∀(R:Type) (K:Tree→Option R),TR P t x K=none:=by
 unfold TR
 try simp only [AE]
 cases P.underlying t with
 |none=>exact .inl fun _ _=>rfl
 |some u=>
  cases u with
  |int k=>
   by_cases h:FM k x=true
   ·exact .inl fun R K=>by dsimp only;rw [if_pos h,← NW h]
   ·exact .inr fun R K=>by dsimp only;rw [if_neg h]
  |bool=>
   by_cases h:D8 x=true
   ·exact .inl fun R K=>by dsimp only;rw [if_pos h,← Ly h]
   ·exact .inr fun R K=>by dsimp only;rw [if_neg h]
  |string=>
   by_cases h:FL x=true
   ·exact .inl fun R K=>by dsimp only;rw [if_pos h,← NV h]
   ·exact .inr fun R K=>by dsimp only;rw [if_neg h]
  |slice e=>
   dsimp only;cases BZ P e with
   |none=>exact .inr fun _ _=>rfl
   |some s=>
    by_cases h:E6 s x=true
    ·exact .inl fun R K=>by dsimp only;rw [if_pos h,← Pv h]
    ·exact .inr fun R K=>by dsimp only;rw [if_neg h]
  |_=>exact .inl fun _ _=>rfl
theorem GY (P:Program):∀(ts:List TypeId) (cs:List AV),(∀(R:Type) (K:List AV→Option R),Dc P ts cs K=K cs)∨∀(R:Type) (K:List AV→Option R),Dc P ts cs K=none
 |[],cs =>.inl fun _ _=>rfl
 |_::_,[]=>.inl fun _ _=>rfl
 |t::ts,c::cs=>by
  rcases GY P ts cs with h|h
  ·cases c with
   |t x=>
    simp only [Dc];rcases F0 P t x with h1|h1
    ·exact .inl fun R K=>by rw [h1,h]
    ·exact .inr fun R K=>by rw [h1]
   |_=>exact .inl fun R K=>by simp only [Dc];rw [h]
  ·cases c with
   |t x=>
    simp only [Dc];rcases F0 P t x with h1|h1
    ·exact .inr fun R K=>by rw [h1,h]
    ·exact .inr fun R K=>by rw [h1]
   |_=>exact .inr fun R K=>by simp only [Dc];rw [h]
theorem LW (P:Program) (t:TypeId) (v:AV):(∀(R:Type) (K:AV→Option R),OA P t v K=K v)∨∀(R:Type) (K:AV→Option R),OA P t v K=none:=by
 cases v with
 |t x=>
  rcases F0 P t x with h|h
  ·exact .inl fun R K=>by simp only [OA];rw [h]
  ·exact .inr fun R K=>by simp only [OA];rw [h]
 |agg cs=>
  rcases GY P (Bh P 16 t) cs with h|h
  ·exact .inl fun R K=>by simp only [OA];rw [h]
  ·exact .inr fun R K=>by simp only [OA];rw [h]
 |_=>exact .inl fun _ _=>rfl
theorem LX (P:Program) (f:Nat→Tree):∀(ts:List TypeId) (i:Nat),(∀(R:Type) (K:List Tree→Option R),Q3 P f ts i K=K ((List.range' i ts.length).map f))∨∀(R:Type) (K:List Tree→Option R),Q3 P f ts i K=none
 |[],i =>.inl fun _ _=>rfl
 |t::ts,i=>by
  rcases F0 P t (f i) with h|h
  ·rcases LX P f ts (i+1) with h1|h1
   ·exact .inl fun R K=>by simp only [Q3];rw [h,h1];rfl
   ·exact .inr fun R K=>by simp only [Q3];rw [h,h1]
  ·exact .inr fun R K=>by simp only [Q3];rw [h]
theorem KI (P:Program) (ts:List TypeId) (ys:List Tree):(∀(R:Type) (K:List Tree→Option R),Im P ts ys K=K ys)∨∀(R:Type) (K:List Tree→Option R),Im P ts ys K=none:=by
 unfold Im
 try simp only [AE]
 by_cases hl:ys.length=ts.length
 ·simp only [if_pos hl];rcases LX P (fun i=>ys.getD i default) ts 0 with h|h
  ·refine .inl fun R K => ?_;rw [h];congr 1;apply ext_getElem?;intro i;rcases lt_or_ge i ys.length with hi|hi
   ·simp [← hl,hi]
   ·simp [← hl,not_lt.2 hi]
  ·exact .inr h
 ·exact .inr fun _ _=>if_neg hl
theorem retV_ok {P:Program} {t:TypeId} {v:AV} {K:AV→Option R} {r:R} (h:OA P t v K=some r):K v=some r:=by
 rcases LW P t v with h1|h1
 ·rw [h1] at h;exact h
 ·rw [h1] at h;cases h
theorem Il {P:Program} {ts:List TypeId} {ys:List Tree} {K:List Tree→Option R} {r:R} (h:Im P ts ys K=some r):K ys=some r:=by
 rcases KI P ts ys with h1|h1
 ·rw [h1] at h;exact h
 ·rw [h1] at h;cases h
def conv (P:Program) (fz:Bool) (h:Heap) (ty:TypeId) (v:AV) (K:Tree→Option R):Option R:=
 match v with
 | .t x=>K x
 | .nilsl=>(EO P ty).bind fun s=>K (.sl s [])
 | .sref i ver off len=>
  match h[i]? with
  |some (.row f ver' size es)=>(EO P ty).bind fun s=>cnd ((f=true∨fz=false)∧ver'=ver∧(size=s∨size=0)) (K (.sl s ((es.drop off).take len))) none
  |_=>none
 | .func fn [] []=>K (.const (.func fn #[] #[]))
 |_=>none
def DG (P:Program) (fz:Bool) (h:Heap):List TypeId→List AV→(List Tree→Option R)→Option R
 |[],[],K=>K []
 |t::ts,v::vs,K=>conv P fz h t v fun x=>DG P fz h ts vs fun xs=>K (x::xs)
 |_,_,_=>none
def setAt (cs:List AV) (off:Nat) (vs:List AV):List AV:=cs.take off++(vs++cs.drop (off+vs.length))
def Cs (P:Program):List TypeId→List AV→Heap→(List AV→Heap→Option R)→Option R
 |_,[],h,K=>K [] h
 |ts,.nilsl::vs,h,K=>Cs P ts.tail vs (h++[.row false 0 ((EO P (ts.headD 0)).getD 0) []]) fun vs' h'=>K (.sref h.length 0 0 0::vs') h'
 |ts,v::vs,h,K=>Cs P ts.tail vs h fun vs' h'=>K (v::vs') h'
def GK (P:Program) (tf:TypeId→Bool):List TypeId→List AV→List AV
 |_,[]=>[]
 |ts,v::vs=>(match v with
  | .nilsl=>if tf (ts.headD 0) then .t (.sl ((EO P (ts.headD 0)).getD 0) []) else .nilsl
  |v=>v)::GK P tf ts.tail vs
def nilV (P:Program) (tf:TypeId→Bool) (t:TypeId) (v:AV):AV:=
 match v with
 | .agg cs =>.agg (GK P tf (Bh P 16 t) cs)
 | .nilsl=>if tf t then .t (.sl ((EO P t).getD 0) []) else .nilsl
 |v=>v
def Di (P:Program) (t:TypeId) (cs:List AV) (h:Heap) (K:AV→Heap→Option R):Option R:=
 Cs P (Bh P 16 t) cs h fun cs' h'=>K (.ptr h'.length 0) (h'++[.box cs'])
def Cf (h:Heap):List AV→List AV→(List AV→Option R)→Option R
 |_,[],K=>K []
 |[],vs,K=>K vs
 |o::os,v::vs,K=>match o,v with
  | .sref i ver _ _,.nilsl=>match h[i]? with
   |some (.row _ ver' _ es)=>cnd (ver'=ver) (Cf h os vs fun vs'=>K (.sref i ver es.length 0::vs')) none
   |_=>Cf h os vs fun vs'=>K (.nilsl::vs')
  |_,v=>Cf h os vs fun vs'=>K (v::vs')
def Et (P:Program) (t:TypeId) (h:Heap) (a v:AV) (K:Heap→Option R):Option R:=
 match v.cells,BZ P t with
 |some vs,some n=>
  cnd (vs.length=n∧vs.all AV.leaf=true) (match a with
   | .ptr i off=>
    match h[i]? with
    |some (.box cs)=>cnd (off+n≤cs.length) (Cf h (cs.drop off) vs fun vs=>Cs P (Bh P 16 t) vs h fun vs' h'=>K (h'.set i (.box (setAt cs off vs')))) none
    |_=>none
   | .rptr i ver k off=>
    match h[i]? with
    |some (.row false ver' size es)=>
     cnd (ver'=ver∧off+n≤size) ((es[k]?).bind fun e=>DG P true h (Bh P 16 t) vs fun xs=>K (h.set i (.row false ver size (es.set k (e.take off++(xs++e.drop (off+n))))))) none
    |_=>none
   |_=>none) none
 |_,_=>none
def andK (k:IntKind) (a b:Int):Int:=k.wrap (BitVec.ofInt k.bits a &&& BitVec.ofInt k.bits b).toNat
def orK (k:IntKind) (a b:Int):Int:=k.wrap (BitVec.ofInt k.bits a ||| BitVec.ofInt k.bits b).toNat
def xorK (k:IntKind) (a b:Int):Int:=k.wrap (BitVec.ofInt k.bits a ^^^ BitVec.ofInt k.bits b).toNat
def shlK (k:IntKind) (a b:Int):Int:=k.wrap (a*2 ^ min b.toNat k.bits)
def PQ (k:IntKind) (a b:Int):Int:=a.fdiv (2 ^ min b.toNat k.bits)
def Mr (op:BinOp) (k:IntKind) (a b:Int) (K:AV→Option R):Option R:=
 match op with
 | .add=>K (.t (.int k (k.wrap (a+b))))
 | .sub=>K (.t (.int k (k.wrap (a-b))))
 | .mul=>K (.t (.int k (k.wrap (a*b))))
 | .quo=>cnd (b=0) none (K (.t (.int k (k.wrap (a.tdiv b)))))
 | .rem=>cnd (b=0) none (K (.t (.int k (a.tmod b))))
 | .eql=>K (.t (.bool (a==b)))
 | .neq=>K (.t (.bool (a != b)))
 | .lss=>K (.t (.bool (decide (a<b))))
 | .leq=>K (.t (.bool (decide (a≤b))))
 | .gtr=>K (.t (.bool (decide (a>b))))
 | .geq=>K (.t (.bool (decide (a≥b))))
 | .and=>K (.t (.int k (andK k a b)))
 | .or=>K (.t (.int k (orK k a b)))
 | .xor=>K (.t (.int k (xorK k a b)))
 |_=>none
def Md (op:BinOp) (k:IntKind) (a b:Int) (K:AV→Option R):Option R:=
 match op with
 | .shl=>cnd (b<0) none (K (.t (.int k (shlK k a b))))
 | .shr=>cnd (b<0) none (K (.t (.int k (PQ k a b))))
 |_=>none
def Si:BinOp→Bool
 | .shl | .shr=>true
 |_=>false
def M5 (P:Program):Nat→TypeId→(Nat→AV)→(Nat→AV)→Nat→(Bool→Option R)→Option R
 |0,_,_,_,_,_=>none
 |d+1,t,gx,gy,off,K=>
  match P.underlying t with
  |some (.int k)=>(Dg k (gx off)).bind fun a=>(Dg k (gy off)).bind fun b=>K (a==b)
  |some .bool=>(asBool (gx off)).bind fun a=>(asBool (gy off)).bind fun b=>K (a==b)
  |some .string=>(H0 (gx off)).bind fun a=>(H0 (gy off)).bind fun b=>K (a==b)
  |some (.struct fs)=>
   match BZ P t with
   |some n=>cnd (P.stoodInHeld t=false) (fs.toList.foldr (fun f (K':Bool→Option R) (acc:Bool)=>
     match BZ P f.type with
     | some m => cnd (f.name ≠ "_" ∧ f.offset + m ≤ n ∧ (Ay P f.type = some true ∨ Ay P f.type = some false ∧ m = 1)) (M5 P d f.type gx gy (off + f.offset) fun b => K' (acc && b)) none
     |none=>none) K true) none
   |none=>none
  |_=>none
def V9 (P:Program) (op:BinOp) (t:TypeId) (x y:AV) (K:AV→Option R):Option R:=
 match P.underlying t with
 |some (.int k)=>if Si op then (Dg k x).bind fun a=>(asInt y).bind fun b=>Md op k a b K
  else (Dg k x).bind fun a=>(Dg k y).bind fun b=>Mr op k a b K
 |some .bool=>(asBool x).bind fun a=>(asBool y).bind fun b=>match op with
  | .eql=>K (.t (.bool (a==b)))
  | .neq=>K (.t (.bool (!(a==b))))
  |_=>none
 |some .string=>(H0 x).bind fun a=>(H0 y).bind fun b=>match op with
  | .eql=>K (.t (.bool (a==b)))
  | .neq=>K (.t (.bool (a != b)))
  | .add=>cnd (a.size+b.size≤9223372036854775807) (K (.t (.str (a++b)))) none
  |_=>none
 |some (.struct _)=>
  match x,y,BZ P t with
  | .agg xs,.agg ys,some n=>
   cnd (P.eqGuardType P.depth t=false∧xs.length=n∧ys.length=n) (match op with
    | .eql=>M5 P 16 t (fun i=>xs.getD i .undef) (fun i=>ys.getD i .undef) 0 fun b=>K (.t (.bool b))
    | .neq=>M5 P 16 t (fun i=>xs.getD i .undef) (fun i=>ys.getD i .undef) 0 fun b=>K (.t (.bool (!b)))
    |_=>none) none
  |_,_,_=>none
 |_=>none
def aun (op:UnOp) (x:AV) (K:AV→Option R):Option R:=
 match op with
 | .not=>(asBool x).bind fun b=>K (.t (.bool (!b)))
 | .neg=>match x with
  | .t (.int k n)=>K (.t (.int k (k.wrap (0-n))))
  |_=>none
 |_=>none
def Gz (P:Program) (src dst:TypeId) (x:AV) (K:AV→Option R):Option R:=
 match P.underlying src,P.underlying dst with
 |some (.int k0),some (.int k)=>(Dg k0 x).bind fun n=>K (.t (.int k (k.wrap n)))
 |some .string,some .string=>(H0 x).bind fun s=>K (.t (.str s))
 |_,_=>none
def JM (mx:Bool):List AV→(AV→Option R)→Option R
 |[],_=>none
 |x::rest,K=>(Dg .i64 x).bind fun a=>go a rest K
where
 go:Int→List AV→(AV→Option R)→Option R
 |a,[],K=>K (.t (.int .i64 a))
 |a,y::rest,K=>(Dg .i64 y).bind fun b=>go (if mx then (if b>a then b else a) else (if b<a then b else a)) rest K
def IQ (P:Program) (t:TypeId) (h:Heap) (a:AV) (f:Nat) (K:AV→Option R):Option R:=
 (Gq P t f).bind fun o=>match a with
  | .ptr i off=>K (.ptr i (off+o))
  | .eptr size cells off=>K (.eptr size cells (off+o))
  | .rptr i ver k off=>(h[i]?).bind fun ob=>cnd (ob.ver=ver) (K (.rptr i ver k (off+o))) none
  |_=>none
def Is (i:Int):Nat→(Nat→Option R)→Option R
 |0,_=>none
 |n+1,K=>cnd (i=n) (K n) (Is i n K)
def KA (P:Program) (t:TypeId) (h:Heap) (x ix:AV) (K:AV→Option R):Option R:=
 (asInt ix).bind fun i=>match P.underlying t with
  |some (.slice e)=>(BZ P e).bind fun s=>match x with
   | .t (.sl size es)=>cnd (size=s∧0≤i) ((es[i.toNat]?).bind fun c=>K (.eptr size c 0)) none
   | .sref r ver off len=>match h[r]? with
    |some (.row _ ver' size _)=>cnd (ver'=ver∧size=s∧0≤i∧i<len) (K (.rptr r ver (off+i.toNat) 0)) none
    |_=>none
   | .bsl r off len size=>cnd (size=s∧0≤i∧i<len) (if len≤16 then Is i len fun j=>K (.ptr r (off+j*size)) else K (.ptr r (off+i.toNat*size))) none
   |_=>none
  |some (.array n e)=>(BZ P e).bind fun s=>match x with
   | .ptr r off=>cnd (0≤i∧i<n) (if n≤16 then Is i n fun j=>K (.ptr r (off+j*s)) else K (.ptr r (off+i.toNat*s))) none
   | .eptr size cells off=>cnd (0≤i∧i<n) (K (.eptr size cells (off+i.toNat*s))) none
   | .rptr r ver k off=>(h[r]?).bind fun ob=>cnd (ob.ver=ver∧0≤i∧i<n) (K (.rptr r ver k (off+i.toNat*s))) none
   |_=>none
  |_=>none
def UC (P:Program) (t:TypeId) (h:Heap) (x:AV) (K:AV→Option R):Option R:=
 match P.underlying t with
 |some (.slice _)=>match x with
  | .t (.sl _ es)=>K (.t (.int .i64 es.length))
  | .nilsl=>K (.t (.int .i64 0))
  | .sref i ver _ len=>match h[i]? with
   |some (.row _ ver' _ _)=>cnd (ver'=ver) (K (.t (.int .i64 len))) none
   |_=>none
  | .bsl _ _ len _=>K (.t (.int .i64 len))
  |_=>none
 |some .string=>(H0 x).bind fun s=>K (.t (.int .i64 s.size))
 |some (.array n _)=>K (.t (.int .i64 n))
 |_=>none
def CK (x:Option AV) (d:Nat) (hi:Nat) (K:Nat→Option R):Option R:=
 match x with
 |none=>K d
 |some v=>(asInt v).bind fun i=>cnd (0≤i∧i≤hi) (K i.toNat) none
def J6 (P:Program) (t:TypeId) (h:Heap) (x:AV) (lo hi mx:Option AV) (K:AV→Option R):Option R:=
 match mx,P.underlying t with
 |none,some .string=>(H0 x).bind fun s=>CK hi s.size s.size fun b=>CK lo 0 b fun a=>K (.t (.str (s.extract a b)))
 |none,some (.slice e)=>(BZ P e).bind fun z=>match x with
  | .t (.sl size es)=>cnd (size=z) (CK hi es.length es.length fun b=>CK lo 0 b fun a=>K (.t (.sl size ((es.take b).drop a)))) none
  | .nilsl=>CK hi 0 0 fun b=>CK lo 0 b fun _=>K .nilsl
  | .sref i ver off len=>match h[i]? with
   |some (.row _ ver' size es)=>cnd (ver'=ver∧(size=z∨size=0)) (CK hi len (es.length-off) fun b=>CK lo 0 b fun a=>K (.sref i ver (off+a) (b-a))) none
   |_=>none
  |_=>none
 |some m,some (.slice e)=>(BZ P e).bind fun z=>match x,hi with
  | .t (.sl size es),some b=>cnd (size=z) (CK (some m) 0 es.length fun m=>CK (some b) 0 m fun b=>CK lo 0 b fun _=>K .undef) none
  | .nilsl,some b=>CK (some m) 0 0 fun m=>CK (some b) 0 m fun b=>CK lo 0 b fun _=>K .undef
  | .sref i ver off _,some b=>match h[i]? with
   |some (.row _ ver' _ es)=>cnd (ver'=ver) (CK (some m) 0 (es.length-off) fun m=>CK (some b) 0 m fun b=>CK lo 0 b fun _=>K .undef) none
   |_=>none
  |_,_=>none
 |_,_=>none
def zeroCells? (P:Program) (t:TypeId):Option (List AV):=
 match (P.info? t).bind (·.zero) with
 |some v=>(ofConst v).cells
 |none=>none
def Bl (place:Nat→Option (Nat×Nat)) (cs:List AV):List (Nat×AV)→Option (List AV)
 |[]=>some cs
 |(i,v)::rest=>
  match place i,v.cells with
  |some (off,size),some vs=>if vs.length=size∧off+size≤cs.length then Bl place (setAt cs off vs) rest else none
  |_,_=>none
def Mq (P:Program) (t:TypeId) (parts:List (Nat×AV)) (K:AV→Option R):Option R:=
 match P.underlying t with
 |some (.struct fs)=>
  match fs.toList.mapM (fun f=>(P.info? f.type).map fun i=>(f.offset,i.size)) with
  |some places=>(zeroCells? P t).bind fun z=>(Bl (fun i=>places[i]?) z parts).bind fun cs=>K (.agg cs)
  |none=>none
 |some (.array _ e)=>(BZ P e).bind fun s=>(zeroCells? P t).bind fun z=>(Bl (fun i=>some (i*s,s)) z parts).bind fun cs=>K (.agg cs)
 |_=>none
def chunk (s:Nat):Nat→List Tree→List (List Tree)
 |0,_=>[]
 |n+1,xs=>xs.take s::chunk s n (xs.drop s)
def bslV (s len:Nat) (xs:List Tree):AV:=if len=0 then .nilsl else .t (.sl s (chunk s len xs))
def DX (P:Program) (t:TypeId) (h:Heap) (len:Nat) (parts:List (Nat×AV)) (K:AV→Option R):Option R:=
 match P.underlying t with
 |some (.slice e)=>(BZ P e).bind fun s=>(zeroCells? P e).bind fun z=>
  cnd (z.length=s∧s≠0∧len*s≤16777216) ((Bl (fun i=>some (i*s,s)) (replicate len z).flatten parts).bind fun cs=>
    DG P true h (replicate len (Bh P 16 e)).flatten cs fun xs=>K (bslV s len xs)) none
 |_=>none
def D2 (P:Program) (t:TypeId) (h:Heap) (len:Nat) (parts:List (Nat×AV)) (K:AV→Heap→Option R):Option R:=
 match P.underlying t with
 |some (.slice e)=>(BZ P e).bind fun s=>(zeroCells? P e).bind fun z=>
  cnd (z.length=s∧s≠0∧len≠0∧len*s≤16777216) ((Bl (fun i=>some (i*s,s)) (replicate len z).flatten parts).bind fun cs=>
    K (.bsl h.length 0 len s) (h++[.box cs])) none
 |_=>none
def elems (h:Heap) (z:Nat) (x:AV) (K:List (List Tree)→Option R):Option R:=
 match x with
 | .t (.sl size es)=>cnd (size=z) (K es) none
 | .nilsl=>K []
 | .sref i ver off len=>
  match h[i]? with
  |some (.row _ ver' size es)=>cnd (ver'=ver∧(size=z∨size=0)) (K ((es.drop off).take len)) none
  |_=>none
 |_=>none
def Mg (P:Program) (t:TypeId):Option Nat:=
 match P.underlying t with
 |some (.slice e)=>match P.info? e with
  |some i=>match i.zero with
   |some z=>if i.size≠0∧z.cells.size=i.size∧i.bytes≤65536 then some i.size else none
   |none=>none
  |none=>none
 |_=>none
def Cq (s:ByteArray):List (List Tree):=s.data.toList.map fun b=>[.int .u8 (b.toNat:Int)]
def Ho (h:Heap) (z:Nat) (x:AV) (K:List (List Tree)→Option R):Option R:=
 match x with
 | .t (.str s)=>cnd (z=1) (K (Cq s)) none
 |x=>elems h z x K
def Gv (P:Program) (t t':TypeId):Bool:=t'==t||match P.underlying t' with
 |some .string=>true
 |_=>false
def Mx (P:Program) (src dst:TypeId):Bool:=
 match P.underlying src,P.underlying dst with
 |some .string,some (.slice e)=>(match P.underlying e with
  |some (.int .u8)=>true
  |_=>false)
 |_,_=>false
def J7 (h:Heap) (x:AV) (K:AV→Heap→Option R):Option R:=
 (H0 x).bind fun s=>K (.sref h.length 0 0 s.size) (h++[.row false 0 1 (Cq s)])
def Dk (P:Program) (t:TypeId) (h:Heap) (s x:AV) (K:AV→Heap→Option R):Option R:=
 (Mg P t).bind fun z=>Ho h z x fun new=>
  match s with
  | .nilsl=>cnd (new.length≤1073741824) (K (.sref h.length 0 0 new.length) (h++[.row false 0 z new])) none
  | .sref i ver off len=>match h[i]? with
   |some (.row false ver' size es)=>
    cnd (new.length=0∧off+len<es.length) (cnd (ver'=ver) (K (.sref i ver off len) h) none) (cnd (ver'=ver∧(size=z∨size=0)∧off+len≤es.length∧len+new.length≤1073741824) (K (.sref i (ver+1) 0 (len+new.length)) (h.set i (.row false (ver+1) z ((es.drop off).take len++new)))) none)
   |_=>none
  |_=>none
def N8:AV→AV→Bool
 | .sref i _ _ _,.sref j _ _ _=>i==j
 |_,_=>false
def BB (es:List (List Tree)) (p:Nat) (new:List (List Tree)):List (List Tree):=es.take p++new++es.drop (p+new.length)
def D3 (P:Program) (t:TypeId) (h:Heap) (s x:AV) (K:AV→Heap→Option R):Option R:=
 (Mg P t).bind fun z=>elems h z x fun new=>
  match s with
  | .sref i ver off len=>match h[i]? with
   |some (.row false ver' size es)=>
    cnd (ver'=ver∧size=z∧off+len+new.length≤es.length) (K (.sref i ver off (len+new.length)) (h.set i (.row false ver z (BB es (off+len) new)))) none
   |_=>none
  |_=>none
def NA (P:Program) (h:Heap) (e:TypeId) (K:List Tree→Option R):Option R:=
 match zeroCells? P e,BZ P e with
 |some z,some n=>cnd (n≠0∧z.length=n) (DG P true h (Bh P 16 e) z K) none
 |_,_=>none
def IS (P:Program) (t:TypeId) (h:Heap) (x:AV) (K:Heap→Option R):Option R:=
 match P.underlying t with
 |some (.slice e)=>match x with
  | .t (.sl _ es)=>cnd (es.length=0) (K h) none
  | .nilsl=>K h
  | .sref i ver off len=>NA P h e fun zs=>match h[i]? with
   |some (.row false ver' size es)=>cnd (ver'=ver∧size=zs.length) (K (h.set i (.row false ver size (BB es off (replicate len zs))))) none
   |_=>none
  |_=>none
 |_=>none
def Mo (P:Program) (t:TypeId) (h:Heap) (d x:AV) (K:AV→Heap→Option R):Option R:=
 (EO P t).bind fun z=>Ho h z x fun new=>match d with
  | .sref i ver off len=>match h[i]? with
   |some (.row false ver' size es)=>cnd (ver'=ver∧size=z) (K (.t (.int .i64 (min new.length len:Nat))) (h.set i (.row false ver z (BB es off (new.take len))))) none
   |_=>none
  |_=>none
def Mi (P:Program) (t:TypeId) (h:Heap) (n c:AV) (K:AV→Heap→Option R):Option R:=
 (Mg P t).bind fun z=>match P.underlying t with
  |some (.slice e)=>(Dg .i64 n).bind fun a=>(Dg .i64 c).bind fun b=>NA P h e fun zs=>
   cnd (a=b∧0≤a∧a≤1073741824∧zs.length=z) (K (.sref h.length 0 0 a.toNat) (h++[.row false 0 z (replicate a.toNat zs)])) none
  |_=>none
def V6 (z:Nat) (h:Heap) (avs:List AV) (K:AV→Heap→Option R):Option R:=
 match avs with
 |[.nilsl,nx]=>(Dg .i64 nx).bind fun n=>cnd (0≤n∧n≤1073741824) (K (.sref h.length 0 0 0) (h++[.row false 0 z []])) none
 |_=>none
def ains (z:Nat) (h:Heap) (avs:List AV) (K:AV→Heap→Option R):Option R:=
 match avs with
 |[s,kx,.t (.sl z' new)]=>(Dg .i64 kx).bind fun k=>cnd (z'=z∧new.length≠0) (match s with
  | .nilsl=>cnd (k=0∧new.length≤1073741824) (K (.sref h.length 0 0 new.length) (h++[.row false 0 z new])) none
  | .sref i ver off len=>match h[i]? with
   |some (.row false ver' size es)=>cnd (ver'=ver∧size=z∧off+len=es.length∧len+new.length≤1073741824∧0≤k∧k≤len∧z≠1)
     (K (.sref i (ver+1) 0 (len+new.length)) (h.set i (.row false (ver+1) z ((es.drop off).take k.toNat++new++(es.drop off).drop k.toNat)))) none
   |_=>none
  |_=>none) none
 |_=>none
def I3:Tree→Bool
 | .int .i64 _=>true
 |_=>false
def A7 (z:Nat) (es:List (List Tree)):Bool:=es.all fun e=>e.length==z&&e.all I3
def isFn:Option FuncId→List AV→Bool
 |none,[]=>true
 |some g,[.func (.func g') [] []]=>g==g'
 |_,_=>false
def V3 (z m:Nat) (f:Option FuncId) (F:List (List Tree)→List (List Tree)) (h:Heap) (avs:List AV) (K:AV→Heap→Option R):Option R:=
 match avs with
 |s::rest=>match isFn f rest with
  |true=>(match s with
   | .nilsl=>K (.tuple []) h
   | .sref i ver off len=>match h[i]? with
    |some (.row false ver' size es)=>cnd (ver'=ver∧size=z∧off+len≤es.length∧len≤m∧A7 z ((es.drop off).take len)=true) (K (.tuple []) (h.set i (.row false ver z (BB es off (F ((es.drop off).take len)))))) none
    |_=>none
   |_=>none)
  |false=>none
 |_=>none
inductive Prim where
 |ins (z:Nat)
 |grow (z:Nat)
 |perm (z m:Nat) (f:Option FuncId) (F:List (List Tree)→List (List Tree))
def aprim (p:Prim) (h:Heap) (avs:List AV) (K:AV→Heap→Option R):Option R:=
 match p with
 | .ins z=>ains z h avs K
 | .grow z=>V6 z h avs K
 | .perm z m f F=>V3 z m f F h avs K
end Ab
namespace Ab
open Go
variable {R:Type} {P:Program} {B:Nat→Prop} {κ:A0} {h:Heap} {w:World}
theorem I1 (v:Value):AP B κ h w (EZ v) v:=by
 unfold EZ;split
 ·exact .t _ _ (.int _ _)
 ·exact .t _ _ (.bool _)
 ·exact .t _ _ (.str _)
 ·exact .nilsl none
 ·exact .t _ _ (.const _ rfl)
 ·exact .t _ _ (.const _ rfl)
 ·exact .t _ _ (.const _ rfl)
 ·exact .t _ _ (.const _ rfl)
 ·exact .func _ _ _ _ _ rfl rfl (fun j x hx=>by simp at hx) (fun j x hx=>by simp at hx)
 ·exact .undef _
theorem Em {α:Type} (cs:List α) (j:Nat) (d:α) {c:α} (hc:cs[j]? = some c):(Array.mk cs).getD j d=c:=by obtain ⟨hj,he⟩:=List.getElem?_eq_some_iff.1 hc;simp [Array.getD,hj,he]
theorem Lk (v:Value):AP B κ h w (ofConst v) v:=by
 unfold ofConst;split
 ·rename_i cs;refine .agg _ _ (by simp) fun j x hx => ?_;rw [getElem?_map] at hx;cases hc:cs[j]? with
  |none=>rw [hc] at hx;simp at hx
  |some c=>
   rw [hc] at hx;simp only [map_some,Option.some.injEq] at hx;subst hx;rw [Em cs j undef hc];exact I1 c
 ·exact I1 v
structure Rel (B:Nat→Prop) (N:Nat) (κ:A0) (env:Env) (h:Heap) (a:Act) (w:World):Prop where
 heap:Ai B κ h w
 size:a.tmps.size=N
 slot:∀i,AP B κ h w (env i) (a.tmps.getD i undef)
theorem BA {N:Nat} {env:Env} {a:Act} (hr:Rel B N κ env h a w) (x:Operand):AP B κ h w (ev env x) (a.eval x):=by
 cases x with
 |tmp t=>exact hr.slot t
 |const v=>exact Lk v
 |global g=>exact .undef _
 |func f=>exact .func _ _ _ _ _ rfl rfl (fun j x hx=>by simp at hx) (fun j x hx=>by simp at hx)
theorem CD {k:IntKind} {x:AV} {n:Int} {v:Value} (hx:Dg k x=some n) (hv:AP B κ h w x v):v = .int k n:=by
 unfold Dg at hx;split at hx
 ·rename_i k' n';split at hx
  ·rename_i hk;subst hk;cases hx;cases hv with
   |t _ _ ht=>cases ht;rfl
  ·cases hx
 ·cases hx
theorem Me {x:AV} {n:Int} {v:Value} (hx:asInt x=some n) (hv:AP B κ h w x v):∃k,v = .int k n:=by
 unfold asInt at hx;split at hx
 ·rename_i k' n';cases hx;cases hv with
  |t _ _ ht=>cases ht;exact ⟨_,rfl⟩
 ·cases hx
theorem D0 {x:AV} {b:Bool} {v:Value} (hx:asBool x=some b) (hv:AP B κ h w x v):v = .bool b:=by
 unfold asBool at hx;split at hx
 ·cases hx;cases hv with
  |t _ _ ht=>cases ht;rfl
 ·cases hx
theorem EF {x:AV} {s:ByteArray} {v:Value} (hx:H0 x=some s) (hv:AP B κ h w x v):v = .string s:=by
 unfold H0 at hx;split at hx
 ·cases hx;cases hv with
  |t _ _ ht=>cases ht;rfl
 ·cases hx
theorem bind_some {α β:Type} {x:Option α} {f:α→Option β} {r:β} (h:x.bind f=some r):∃a,x=some a∧f a=some r:=by
 cases x with
 |none=>cases h
 |some a=>exact ⟨a,rfl,h⟩
theorem AH {α:Type} {c:Prop} [Decidable c] {x:Option α} {r:α} (h:(if c then x else none)=some r):c∧x=some r:=by
 split at h
 ·rename_i hc;exact ⟨hc,h⟩
 ·cases h
theorem G4 {t:TypeId} {b:Bool} (hb:Ay P t=some b) (w:World):(isAgg t).run P w = .ok b w:=by
 unfold Ay at hb;unfold isAgg;split at hb
 ·rename_i fs hu;cases hb;simp [run_underlying hu]
 ·rename_i n e hu;cases hb;simp [run_underlying hu]
 ·rename_i d hn1 hn2 hu;cases hb;cases d<;>first|exact (hn1 _ rfl).elim|exact (hn2 _ _ rfl).elim|simp [run_underlying hu]
 ·cases hb
theorem BL {t:TypeId} {n:Nat} (hn:BZ P t=some n) (w:World):(Go.sizeOf t).run P w = .ok n w:=by
 unfold BZ at hn;cases hi:P.info? t with
 |none=>rw [hi] at hn;cases hn
 |some i=>
  rw [hi] at hn;simp only [map_some,Option.some.injEq] at hn;simp [Go.sizeOf,typeInfo,hi,hn]
theorem L9 {α:Type} (f:Nat→α) (n j:Nat) (d:α) (hj:j<n):((List.range n).map f).toArray.getD j d=f j:=by simp [Array.getD,hj]
theorem Ut {t:TypeId} {total:Nat} {get:Nat→AV} {off:Nat} {K:AV→Option R} {r:R} (hr:rd P t total get off K=some r)
  {b base:Nat} (u:Nat→Value) (hc:∀c,c<total→w.cell? ⟨b,base+c,none⟩=some (u c)) (hv:∀c,c<total→AP B κ h w (get c) (u c)) :
  ∃v val,K v=some r∧(Instr.loadAt t (.pointer (some ⟨b,base+off,none⟩))).run P w = .ok val w∧AP B κ h w v val:=by
 unfold rd at hr
 try simp only [AE] at hr
 split at hr
 ·rename_i n ha hs;obtain ⟨hle,hK⟩:=AH hr;refine ⟨_,.agg ((List.range n).map fun j=>u (off+j)).toArray,hK,?_,?_⟩
  ·have hl:=run_loadCells (P:=P) w ⟨b,base+off,none⟩ n (fun j=>u (off+j)) (fun j hj=>by
    have:=hc (off+j) (by omega);unfold Addr.add;split
    ·rename_i h0;subst h0;simpa using this
    ·simpa [add_assoc] using this)
   simp [Instr.loadAt,Instr.sureAddr,loadVar,G4 ha,BL hs,hl]
  ·refine .agg _ _ (by simp [A2]) fun j x hx => ?_;have hj:j<n:=by
    rcases lt_or_ge j n with h|h
    ·exact h
    ·simp [A2,h] at hx
   simp only [A2,getElem?_map,getElem?_range hj,map_some,Option.some.injEq] at hx;subst hx;rw [L9 _ _ _ _ hj];exact hv _ (by omega)
 ·rename_i ha;obtain ⟨hlt,hK⟩:=AH hr;refine ⟨_,u off,hK,?_,hv off hlt⟩;have:=hc off hlt;simp [Instr.loadAt,Instr.sureAddr,loadVar,G4 ha,this]
 ·cases hr
theorem BT {b o:Nat} {cells:Array Value} {elem:TypeId} {fr:Nat×Nat} (hb:w.heap[b]? = some (.cells cells elem fr)) (ho:o<cells.size) :
  w.cell? ⟨b,o,none⟩=some (cells.getD o undef):=by
 simp [World.cell?,hb,Array.getD,ho]
theorem BP {α:Type} (l:List α) (j:Nat) (d:α) (hj:j<l.length):l[j]? = some (l.getD j d):=by simp [List.getD,hj]
theorem Bk (hh:Ai B κ h w) {i:Nat} {o:AF} (ho:h[i]? = some o):∃k,κ[i]? = some k:=by
 have:i<h.length:=by
  rcases lt_or_ge i h.length with x|x
  ·exact x
  ·rw [getElem?_eq_none x] at ho;cases ho
 exact ⟨_,getElem?_eq_getElem (by rw [hh.len];exact this)⟩
theorem Qc {t:TypeId} {a:AV} {K:AV→Option R} {r:R} (hr:H2 P t h a K=some r) (hh:Ai B κ h w) {av:Value} (ha:AP B κ h w a av) :
  ∃v val,K v=some r∧(Instr.loadAt t av).run P w = .ok val w∧AP B κ h w v val:=by
 unfold H2 at hr
 try simp only [AE] at hr
 split at hr
 ·rename_i i off;split at hr
  ·rename_i cs hi;cases ha with
   |ptr _ _ b base hk _=>
    obtain ⟨hb0,cells,elem,hc,hs,hv⟩:=hh.obj i _ _ hi hk;subst hb0;refine Ut hr (fun c=>cells.getD c undef) (fun c hlt => ?_) (fun c hlt=>hv c _ (BP _ _ _ hlt));rw [zero_add];exact BT hc (by omega)
  ·cases hr
 ·rename_i i ver k off;split at hr
  ·rename_i fz ver' size es hi;obtain ⟨rfl,hr1⟩:=AH hr;obtain ⟨e,he,hr2⟩:=bind_some hr1;clear hr hr1;cases ha with
   |rptr _ _ _ _ _ _ _ hv=>
    obtain ⟨b,base,hkk,rfl,_,_⟩:=hv _ hi rfl;obtain ⟨_,cells,elem,fr,hc,hth,hs,hl,ht⟩:=hh.obj i _ _ hi hkk;have hk:k<es.length:=by
     rcases lt_or_ge k es.length with x|x
     ·exact x
     ·rw [getElem?_eq_none x] at he;cases he
    have hmul:k*size+size≤es.length*size:=by rw [← succ_mul];exact mul_le_mul_right _ hk
    simp only [AF.size];rw [← add_assoc];refine Ut hr2 (fun c=>cells.getD (base+(k*size+c)) undef) (fun c hlt => ?_) (fun c hlt =>.t _ _ (ht k e c _ he (BP _ _ _ (by rw [hl k e he];exact hlt))));rw [add_assoc];exact BT hc (by omega)
  ·cases hr
 ·rename_i size cells off;cases ha with
  |eptr _ _ _ b base u hsz hb hn hc ht=>
   refine Ut hr u (fun c hlt => ?_) (fun c hlt => ?_)
   ·exact hc c _ (BP _ c default (by omega))
   ·exact .t _ _ (ht c _ (BP _ _ _ (by omega)))
 ·cases hr
def Dp (w:World) (A:Nat→Prop) (size:Nat) (es:List (List Tree)) (v:Value):Prop:=
 (∀(j:Nat) (e:List Tree),es[j]? = some e→e.length=size)∧∃a cap,v = .slice a es.length cap∧es.length≤cap∧
  (es=[]∨∃b off,a=some ⟨b,off,none⟩∧b<w.heap.size∧∀(j:Nat) (e:List Tree) (c:Nat) (x:Tree),es[j]? = some e→e[c]? = some x→
   ∃u,w.cell? ⟨b,off+(j*size+c),none⟩=some u∧BS w A x u)
theorem BS.less {A A':Nat→Prop} {x:Tree} {v:Value} (ht:BS w A x v) (hA:∀b,A' b→A b):BS w A' x v:=
 ht.mono (le_refl _) (fun _ _ _=>rfl) fun b hb =>.inl (hA b hb)
theorem Dp.Ix {A:Nat→Prop} {size:Nat} {es:List (List Tree)} {v:Value} (ht:BS w A (.sl size es) v):Dp w A size es v:=by
 cases ht with
 |nil _ cap a=>exact ⟨fun j e he=>by simp at he,a,cap,rfl,zero_le _,.inl rfl⟩
 |sl _ _ b off cap u h1 h2 h3 h4 h5 h6=>
  exact ⟨h4,_,cap,rfl,h1,.inr ⟨b,off,rfl,h2,fun j e c x he hx=>⟨_,h5 j e c x he hx,h6 j e c x he hx⟩⟩⟩
theorem getElem?_sub {α:Type} {es:List α} {off len j:Nat} {e:α} (he:((es.drop off).take len)[j]? = some e):j<len∧es[off+j]? = some e:=by
 have hj:j<len:=by
  rcases lt_or_ge j len with x|x
  ·exact x
  ·simp [getElem?_take,not_lt.2 x] at he
 rw [getElem?_take_of_lt hj,getElem?_drop] at he;exact ⟨hj,he⟩
theorem Ki {B:Nat→Prop} (hh:Ai B κ h w) {i ver off len size:Nat} {fz:Bool} {es:List (List Tree)} {v:Value} (hi:h[i]? = some (.row fz ver size es)) (hs:SRef κ h w i ver off len v) :
  ((es.drop off).take len).length=len∧off+len≤es.length∧Dp w (fun b=>B b∨Ex κ h b) size ((es.drop off).take len) v∧
   (len=0∨∃b base cap,κ[i]? = some (some (b,base))∧v = .slice (some ⟨b,base+off*size,none⟩) len cap):=by
 obtain ⟨k,hk⟩:=Bk hh hi;obtain ⟨_,hlen,hm⟩:=hs k _ hk hi rfl;simp only [AF.len] at hlen;have hl:((es.drop off).take len).length=len:=by simp;omega
 refine ⟨hl,hlen,?_⟩;have ho:=hh.obj i _ _ hi hk;rcases hm with ⟨rfl,_,a0,rfl⟩|⟨b,base,rfl,cap,rfl,hcap,_⟩
 ·exact ⟨⟨fun j e he=>by simp at he,a0,0,by simp,by simp,.inl (by simp)⟩,.inl rfl⟩
 ·obtain ⟨_,cells,elem,fr,hc,hth,hsz,hls,ht⟩:=ho;simp only [AF.size];simp only [AF.len] at hcap;refine ⟨⟨fun j e he=>hls _ e (getElem?_sub he).2,_,cap,by rw [hl],by rw [hl];omega,.inr ⟨b,base+off*size,rfl,hh.lt i b base hk,fun j e c x he hx => ?_⟩⟩,.inr ⟨b,base,cap,hk,rfl⟩⟩;obtain ⟨hj,he'⟩:=getElem?_sub he;have hcl:c<size:=by have:=(List.getElem?_eq_some_iff.1 hx).1;rw [hls _ e he'] at this;exact this
  have hoj:off+j<es.length:=(List.getElem?_eq_some_iff.1 he').1;have hmul:(off+j)*size+size≤es.length*size:=by rw [← succ_mul];exact mul_le_mul_right _ hoj
  have heq:base+off*size+(j*size+c)=base+((off+j)*size+c):=by rw [add_mul];omega
  refine ⟨_,?_,ht (off+j) e c x he' hx⟩;rw [heq];exact BT hc (by omega)
theorem Dp.SX {A:Nat→Prop} {size size':Nat} {v:Value} (hs:Dp w A size [] v):Dp w A size' [] v:=by obtain ⟨_,a,cap,e,_,_⟩:=hs;exact ⟨fun j e he=>by simp at he,a,cap,e,zero_le _,.inl rfl⟩
theorem row_zero (hh:Ai B κ h w) {i ver size:Nat} {fz:Bool} {es:List (List Tree)} (hi:h[i]? = some (.row fz ver size es)) (hz:size=0):es=[]:=by
 obtain ⟨k,hk⟩:=Bk hh hi;have ho:=hh.obj i _ _ hi hk;cases k with
 |none=>exact ho
 |some p=>exact (ho.1 hz).elim
theorem Hz {α:Type} {es:List α} (he:es=[]) (a b:Nat):(es.drop a).take b=[]:=by subst he;simp
theorem JB {z:Nat} {x:AV} {K:List (List Tree)→Option R} {r:R} (hr:elems h z x K=some r) (hh:Ai B κ h w) {v:Value} (hv:AP B κ h w x v) :
  ∃es,K es=some r∧Dp w (fun b=>B b∨Ex κ h b) z es v:=by
 unfold elems at hr
 try simp only [AE] at hr
 split at hr
 ·obtain ⟨rfl,hK⟩:=AH hr;cases hv with
  |t _ _ ht=>exact ⟨_,hK,.Ix ht⟩
 ·cases hv with
  |nilsl a0=>exact ⟨_,hr,fun j e he=>by simp at he,a0,0,rfl,le_refl _,.inl rfl⟩
 ·split at hr
  ·rename_i i ver off len _ fz ver' size es hi;obtain ⟨⟨rfl,hz⟩,hK⟩:=AH hr;cases hv with
   |sref _ _ _ _ _ _ _ hs=>
    obtain ⟨_,_,hsl,_⟩:=Ki hh hi hs;refine ⟨_,hK,?_⟩;rcases hz with rfl|hz
    ·exact hsl
    ·rw [Hz (row_zero hh hi hz)] at hsl ⊢;exact hsl.SX
  ·cases hr
 ·cases hr
theorem BS.U8 {A:Nat→Prop} {size:Nat} {es:List (List Tree)} {v:Value} (hs:Dp w A size es v)
  (hA:∀b off cap,v = .slice (some ⟨b,off,none⟩) es.length cap→es≠[]→¬A b):BS w A (.sl size es) v:=by
 obtain ⟨hl,a,cap,rfl,hcap,hc⟩:=hs;rcases hc with rfl|⟨b,off,rfl,hb,hc⟩
 ·exact .nil _ _ _
 ·by_cases hn:es=[]
  ·subst hn;exact .nil _ _ _
  ·have hex:∀(j c:Nat),∃u,∀(e:List Tree) (x:Tree),es[j]? = some e→e[c]? = some x→w.cell? ⟨b,off+(j*size+c),none⟩=some u∧BS w A x u:=by
    intro j c;by_cases hj:∃e x,es[j]? = some e∧e[c]? = some x
    ·obtain ⟨e,x,he,hx⟩:=hj;obtain ⟨u,h1,h2⟩:=hc j e c x he hx;refine ⟨u,fun e' x' he' hx' => ?_⟩;rw [he] at he';cases he';rw [hx] at hx';cases hx';exact ⟨h1,h2⟩
    ·exact ⟨undef,fun e x he hx=>(hj ⟨e,x,he,hx⟩).elim⟩
   refine .sl size es b off cap (fun j c=>(hex j c).choose) hcap hb (hA b off cap rfl hn) hl (fun j e c x he hx => ?_) (fun j e c x he hx => ?_)
   ·exact ((hex j c).choose_spec e x he hx).1
   ·exact ((hex j c).choose_spec e x he hx).2
theorem conv_ok {fz:Bool} {ty:TypeId} {x:AV} {K:Tree→Option R} {r:R} (hr:conv P fz h ty x K=some r) (hh:Ai B κ h w) {v:Value} (hv:AP B κ h w x v) :
  ∃y,K y=some r∧BS w (fun b=>B b∨(fz=true∧Ex κ h b)) y v:=by
 unfold conv at hr
 try simp only [AE] at hr
 split at hr
 ·cases hv with
  |t _ _ ht=>exact ⟨_,hr,ht.less fun b hb=>hb.imp id And.right⟩
 ·obtain ⟨s,hs,hK⟩:=bind_some hr;cases hv;exact ⟨_,hK,.nil _ _ _⟩
 ·rename_i i ver off len;split at hr
  ·rename_i f ver' size es hi;obtain ⟨s,hs,hK0⟩:=bind_some hr;obtain ⟨⟨hf,rfl,hz⟩,hK⟩:=AH hK0;clear hK0;cases hv with
   |sref _ _ _ _ _ _ _ hsr=>
    obtain ⟨hl,hle,hsl,hbb⟩:=Ki hh hi hsr;refine ⟨_,hK,?_⟩;have hsl':Dp w (fun b=>B b∨(fz=true∧Ex κ h b)) s ((es.drop off).take len) v:=by
     have h1:Dp w (fun b=>B b∨Ex κ h b) s ((es.drop off).take len) v:=by
      rcases hz with rfl|hz
      ·exact hsl
      ·rw [Hz (row_zero hh hi hz)] at hsl ⊢;exact hsl.SX
     obtain ⟨hq,a,cap,e1,e2,e3⟩:=h1;refine ⟨hq,a,cap,e1,e2,?_⟩;rcases e3 with e3|⟨b,o,e4,e5,e6⟩
     ·exact .inl e3
     ·exact .inr ⟨b,o,e4,e5,fun j e c x he hx=>by obtain ⟨u,u1,u2⟩:=e6 j e c x he hx;exact ⟨u,u1,u2.less fun b hb=>hb.imp id And.right⟩⟩
    refine .U8 hsl' fun b o cap he hn hA => ?_;rcases hbb with h0|⟨b',base,cap',hk,he'⟩
    ·subst h0;simp at hn
    ·rw [he'] at he;injection he with he1;injection he1 with he1;injection he1 with he1;subst he1;rcases hA with hB|⟨hfz,i',base',o',hk',ho',hfz'⟩
     ·exact hh.notB i _ _ hk hB
     ·rcases hf with hf|hf
      ·subst hf;obtain rfl:=hh.inj i i' _ _ _ hk hk';rw [hi] at ho';cases ho';simp [AF.KP] at hfz'
      ·rw [hf] at hfz;exact absurd hfz (by simp)
  ·cases hr
 ·rename_i fn;cases hv with
  |func _ _ _ fs cs h1 h2 _ _=>
   have e1:fs = #[]:=eq_empty_of_size_eq_zero h1;have e2:cs = #[]:=eq_empty_of_size_eq_zero h2;subst e1 e2;exact ⟨_,hr,.const _ rfl⟩
 ·cases hr
theorem Cc {fz:Bool}:∀{ts:List TypeId} {xs:List AV} {K:List Tree→Option R} {r:R},DG P fz h ts xs K=some r→Ai B κ h w→∀{vs:List Value},vs.length=xs.length→
  (∀(j:Nat) (x:AV) (v:Value),xs[j]? = some x→vs[j]? = some v→AP B κ h w x v)→
  ∃ys:List Tree,K ys=some r∧ys.length=xs.length∧ts.length=xs.length∧∀(j:Nat) (y:Tree) (v:Value),ys[j]? = some y→vs[j]? = some v→BS w (fun b=>B b∨(fz=true∧Ex κ h b)) y v
 |[],[],K,r,hr,hh,vs,hl,hv=>⟨[],hr,rfl,rfl,fun j y v hy=>by simp at hy⟩
 |[],x::xs,K,r,hr,hh,vs,hl,hv=>by simp [DG] at hr
 |t::ts,[],K,r,hr,hh,vs,hl,hv=>by simp [DG] at hr
 |t::ts,x::xs,K,r,hr,hh,vs,hl,hv=>by
  cases vs with
  |nil=>simp at hl
  |cons v vs=>
   obtain ⟨y,hK,hy⟩:=conv_ok (P:=P) hr hh (hv 0 x v rfl rfl);obtain ⟨ys,hK2,h1,h2,h3⟩:=Cc (vs:=vs) hK hh (by simpa using hl) fun j x' v' hx' hv'=>hv (j+1) x' v' (by simpa using hx') (by simpa using hv');refine ⟨y::ys,hK2,by simp [h1],by simp [h2],fun j y' v' hy' hv' => ?_⟩;cases j with
   |zero=>simp at hy' hv';subst hy' hv';exact hy
   |succ j=>exact h3 j y' v' (by simpa using hy') (by simpa using hv')
theorem UJ {op:BinOp} {k:IntKind} {a b:Int} {K:AV→Option R} {r:R} (hr:Mr op k a b K=some r) (t:TypeId) :
  ∃v val,K v=some r∧(binOp op t (.int k a) (.int k b)).run P w = .ok val w∧AP B κ h w v val:=by
 unfold Mr at hr
 try simp only [AE] at hr
 split at hr
 ·exact ⟨_,_,hr,by simp [binOp,Op.intArith],.t _ _ (.int _ _)⟩
 ·exact ⟨_,_,hr,by simp [binOp,Op.intArith],.t _ _ (.int _ _)⟩
 ·exact ⟨_,_,hr,by simp [binOp,Op.intArith],.t _ _ (.int _ _)⟩
 ·split at hr
  ·cases hr
  ·rename_i hb;exact ⟨_,_,hr,by simp [binOp,Op.intDiv,hb],.t _ _ (.int _ _)⟩
 ·split at hr
  ·cases hr
  ·rename_i hb;exact ⟨_,_,hr,by simp [binOp,Op.intDiv,hb],.t _ _ (.int _ _)⟩
 ·exact ⟨_,_,hr,by simp [binOp,Op.intCmp],.t _ _ (.bool _)⟩
 ·exact ⟨_,_,hr,by simp [binOp,Op.intCmp],.t _ _ (.bool _)⟩
 ·exact ⟨_,_,hr,by simp [binOp,Op.intCmp],.t _ _ (.bool _)⟩
 ·exact ⟨_,_,hr,by simp [binOp,Op.intCmp],.t _ _ (.bool _)⟩
 ·exact ⟨_,_,hr,by simp [binOp,Op.intCmp],.t _ _ (.bool _)⟩
 ·exact ⟨_,_,hr,by simp [binOp,Op.intCmp],.t _ _ (.bool _)⟩
 ·exact ⟨_,_,hr,by simp [binOp,Op.intBits,andK],.t _ _ (.int _ _)⟩
 ·exact ⟨_,_,hr,by simp [binOp,Op.intBits,orK],.t _ _ (.int _ _)⟩
 ·exact ⟨_,_,hr,by simp [binOp,Op.intBits,xorK],.t _ _ (.int _ _)⟩
 ·cases hr
theorem T9 {op:BinOp} {k k':IntKind} {a b:Int} {K:AV→Option R} {r:R} (hr:Md op k a b K=some r) (t:TypeId) :
  ∃v val,K v=some r∧(binOp op t (.int k a) (.int k' b)).run P w = .ok val w∧AP B κ h w v val:=by
 unfold Md at hr
 try simp only [AE] at hr
 split at hr
 ·split at hr
  ·cases hr
  ·rename_i hb;exact ⟨_,_,hr,by simp [binOp,Op.shift,hb,shlK],.t _ _ (.int _ _)⟩
 ·split at hr
  ·cases hr
  ·rename_i hb;exact ⟨_,_,hr,by simp [binOp,Op.shift,hb,PQ],.t _ _ (.int _ _)⟩
 ·cases hr
def Fits (P:Program) (B:Nat→Prop) (κ:A0) (h:Heap) (w:World) (g:Nat→AV) (off:Nat) (t:TypeId) (v:Value):Prop:=
 match Ay P t with
 |some true=>∃vs n,v = .agg vs∧BZ P t=some n∧vs.size=n∧∀j,j<n→AP B κ h w (g (off+j)) (vs.getD j undef)
 |some false=>AP B κ h w (g off) v
 |none=>False
theorem OG {g:Nat→AV} {off n o m:Nat} {vs:Array Value} {t:TypeId} (hv:∀j,j<n→AP B κ h w (g (off+j)) (vs.getD j undef)) (hn:vs.size=n) (hm:BZ P t=some m) (ho:o+m≤n)
  {b:Bool} (hb:Ay P t=some b) (h1:b=false→m=1):∃v,(part t vs o).run P w = .ok v w∧Fits P B κ h w g (off+o) t v:=by
 cases b with
 |true=>
  refine ⟨.agg (vs.extract o (o+m)),by simp [part,G4 hb,BL hm],?_⟩;unfold Fits;rw [hb];refine ⟨_,m,rfl,hm,by simp;omega,fun j hj => ?_⟩;have h2:=hv (o+j) (by omega);have h3:(vs.extract o (o+m)).getD j undef=vs.getD (o+j) undef:=by
   have ha:j<(vs.extract o (o+m)).size:=by simp;omega
   have hb':o+j<vs.size:=by omega
   simp only [Array.getD,ha,hb',dif_pos];simp
  rw [h3,add_assoc];exact h2
 |false=>
  have hm1:=h1 rfl;subst hm1;have hlt:o<vs.size:=by omega
  refine ⟨vs.getD o undef,?_,?_⟩
  ·simp [part,G4 hb,Array.getD,hlt]
  ·unfold Fits;rw [hb];exact hv o (by omega)
theorem OZ:∀(d:Nat) {t:TypeId} {gx gy:Nat→AV} {off:Nat} {K:Bool→Option R} {r:R},M5 P d t gx gy off K=some r→
  ∀{x y:Value},Fits P B κ h w gx off t x→Fits P B κ h w gy off t y→∀D,d≤D→∃b,K b=some r∧(Op.equalIn D t x y).run P w = .ok b w
 |0,t,gx,gy,off,K,r,hr,x,y,hx,hy,D,hD=>by simp [M5] at hr
 |d+1,t,gx,gy,off,K,r,hr,x,y,hx,hy,D,hD=>by
  obtain ⟨D,rfl⟩:∃D',D=D'+1:=⟨D-1,by omega⟩
  unfold M5 at hr
  try simp only [AE] at hr
  split at hr
  ·rename_i k hu;obtain ⟨a,ha,hr⟩:=bind_some hr;obtain ⟨b,hb,hr⟩:=bind_some hr;have hg:Ay P t=some false:=by unfold Ay;rw [hu]
   unfold Fits at hx hy;rw [hg] at hx hy;obtain rfl:=CD ha hx;obtain rfl:=CD hb hy;exact ⟨_,hr,run_equalIn_int w D t k k a b hu⟩
  ·rename_i hu;obtain ⟨a,ha,hr⟩:=bind_some hr;obtain ⟨b,hb,hr⟩:=bind_some hr;have hg:Ay P t=some false:=by unfold Ay;rw [hu]
   unfold Fits at hx hy;rw [hg] at hx hy;obtain rfl:=D0 ha hx;obtain rfl:=D0 hb hy;exact ⟨_,hr,run_equalIn_bool w D t a b hu⟩
  ·rename_i hu;obtain ⟨a,ha,hr⟩:=bind_some hr;obtain ⟨b,hb,hr⟩:=bind_some hr;have hg:Ay P t=some false:=by unfold Ay;rw [hu]
   unfold Fits at hx hy;rw [hg] at hx hy;obtain rfl:=EF ha hx;obtain rfl:=EF hb hy;refine ⟨_,hr,?_⟩;rw [run_equalIn_string w D t a b hu,beq_toListBytes]
  ·rename_i fs hu;split at hr
   ·rename_i n hn;obtain ⟨hst,hr⟩:=AH hr;have hg:Ay P t=some true:=by unfold Ay;rw [hu]
    unfold Fits at hx hy;rw [hg] at hx hy;obtain ⟨xs,n1,rfl,hn1,hxs,hvx⟩:=hx;obtain ⟨ys,n2,rfl,hn2,hys,hvy⟩:=hy;rw [hn] at hn1 hn2;cases hn1;cases hn2;have hfo:P.fieldsOf t=fs:=by simp [Program.fieldsOf,hu]
    rw [run_equalIn_struct w D t xs ys (by rw [hfo];exact hu) hst,hfo];have key:∀(l:List Field) (acc:Bool),l.foldr (fun f (K':Bool→Option R) (acc:Bool)=>
      match BZ P f.type with
      | some m => if f.name ≠ "_" ∧ f.offset + m ≤ n ∧ (Ay P f.type = some true ∨ Ay P f.type = some false ∧ m = 1) then M5 P d f.type gx gy (off + f.offset) fun b => K' (acc && b) else none
      |none=>none) K acc=some r→∃b,K (acc&&b)=some r∧(Op.eqFields D xs ys l).run P w = .ok b w:=by
     intro l
     induction l with
     |nil=>intro acc hl;exact ⟨true,by simpa using hl,by simp [Op.eqFields]⟩
     |cons f l ih=>
      intro acc hl;simp only [List.foldr_cons] at hl;split at hl
      ·rename_i m hm;obtain ⟨⟨hname,hle,hag⟩,hl⟩:=AH hl;obtain ⟨bb,hbb,h1⟩:∃bb,Ay P f.type=some bb∧(bb=false→m=1):=by
        rcases hag with hag|⟨hag,hm1⟩
        ·exact ⟨true,hag,by simp⟩
        ·exact ⟨false,hag,fun _=>hm1⟩
       obtain ⟨vx,hpx,hfx⟩:=OG (P:=P) (o:=f.offset) hvx hxs hm hle hbb h1;obtain ⟨vy,hpy,hfy⟩:=OG (P:=P) (o:=f.offset) hvy hys hm hle hbb h1;obtain ⟨b,hb,hrun⟩:=OZ d hl hfx hfy D (by omega);obtain ⟨c,hc,hrun2⟩:=ih _ hb;refine ⟨b&&c,by rw [← Bool.and_assoc];exact hc,?_⟩;simp only [Op.eqFields,if_pos hname,Sem.run_bind,hpx,hpy,hrun,Result.andThen_ok];cases b
       ·simp
       ·simpa using hrun2
      ·cases hl
    obtain ⟨b,hb,hrun⟩:=key fs.toList true hr;exact ⟨b,by simpa using hb,hrun⟩
   ·cases hr
  ·cases hr
theorem Cv {op:BinOp} {t:TypeId} {x y:Operand} {v u:Value} (hv:(match v with | .agg _ | .nilIface=>false|_=>true)=true):(eqGuard op t x y v u).run P w = .ok () w:=by unfold eqGuard;cases op<;>simp<;>(cases v<;>simp_all)
theorem abin_ok {op:BinOp} {t:TypeId} {x y:AV} {K:AV→Option R} {r:R} (hr:V9 P op t x y K=some r) {vx vy:Value} (hx:AP B κ h w x vx) (hy:AP B κ h w y vy) (ox oy:Operand) :
  ∃v val,K v=some r∧(do eqGuard op t ox oy vx vy;binOp op t vx vy:Sem Value).run P w = .ok val w∧AP B κ h w v val:=by
 unfold V9 at hr
 try simp only [AE] at hr
 split at hr
 ·rename_i k hu;split at hr
  ·obtain ⟨a,ha,hr⟩:=bind_some hr;obtain ⟨b,hb,hr⟩:=bind_some hr;obtain rfl:=CD ha hx;obtain ⟨k',rfl⟩:=Me hb hy;obtain ⟨v,val,h1,h2,h3⟩:=T9 (P:=P) (B:=B) (κ:=κ) (h:=h) (w:=w) (k':=k') hr t;exact ⟨v,val,h1,by simp [Cv,h2],h3⟩
  obtain ⟨a,ha,hr⟩:=bind_some hr;obtain ⟨b,hb,hr⟩:=bind_some hr;obtain rfl:=CD ha hx;obtain rfl:=CD hb hy;obtain ⟨v,val,h1,h2,h3⟩:=UJ (P:=P) (B:=B) (κ:=κ) (h:=h) (w:=w) hr t;exact ⟨v,val,h1,by simp [Cv,h2],h3⟩
 ·rename_i hu;obtain ⟨a,ha,hr⟩:=bind_some hr;obtain ⟨b,hb,hr⟩:=bind_some hr;obtain rfl:=D0 ha hx;obtain rfl:=D0 hb hy;split at hr
  ·exact ⟨_,_,hr,by simp [Cv,binOp,Op.equal,Op.maxDepth,run_equalIn_bool w 9999 t a b hu],.t _ _ (.bool _)⟩
  ·exact ⟨_,_,hr,by simp [Cv,binOp,Op.equal,Op.maxDepth,run_equalIn_bool w 9999 t a b hu],.t _ _ (.bool _)⟩
  ·cases hr
 ·rename_i hu;obtain ⟨a,ha,hr⟩:=bind_some hr;obtain ⟨b,hb,hr⟩:=bind_some hr;obtain rfl:=EF ha hx;obtain rfl:=EF hb hy;split at hr
  ·exact ⟨_,_,hr,by simp [Cv,binOp,Op.stringOp,← beq_toListBytes],.t _ _ (.bool _)⟩
  ·exact ⟨_,_,hr,by simp [Cv,binOp,Op.stringOp,← beq_toListBytes,bne],.t _ _ (.bool _)⟩
  ·obtain ⟨hsz,hr⟩:=AH hr;have hn:¬(((a.size+b.size:Nat):Int)>IntKind.i64.max):=by
    have:IntKind.i64.max=9223372036854775807:=by decide
    rw [this];omega
   exact ⟨_,_,hr,by simp only [Cv,binOp,Op.stringOp,Sem.run_bind,Result.andThen_ok,if_neg hn,Sem.run_pure],.t _ _ (.str _)⟩
  ·cases hr
 ·rename_i fs hu;split at hr
  ·rename_i xs ys n hn;obtain ⟨⟨hg,hlx,hly⟩,hr⟩:=AH hr;cases hx with
   |agg _ vx hsx hvx=>
    cases hy with
    |agg _ vy hsy hvy=>
     have hag:Ay P t=some true:=by unfold Ay;rw [hu]
     have fx:Fits P B κ h w (fun i=>xs.getD i .undef) 0 t (.agg vx):=by unfold Fits;rw [hag];exact ⟨vx,n,rfl,hn,by omega,fun j hj=>hvx j _ (by rw [zero_add];exact BP _ _ _ (by omega))⟩
     have fy:Fits P B κ h w (fun i=>ys.getD i .undef) 0 t (.agg vy):=by unfold Fits;rw [hag];exact ⟨vy,n,rfl,hn,by omega,fun j hj=>hvy j _ (by rw [zero_add];exact BP _ _ _ (by omega))⟩
     split at hr
     ·obtain ⟨b,hb,hrun⟩:=OZ 16 hr fx fy 10000 (by omega);exact ⟨_,_,hb,by simp [run_eqGuard_agg w _ t ox oy vx vy hg,run_eql_struct,hrun],.t _ _ (.bool _)⟩
     ·obtain ⟨b,hb,hrun⟩:=OZ 16 hr fx fy 10000 (by omega);exact ⟨_,_,hb,by simp [run_eqGuard_agg w _ t ox oy vx vy hg,run_neq_struct,hrun],.t _ _ (.bool _)⟩
     ·cases hr
  ·cases hr
 ·cases hr
theorem Qi {src dst:TypeId} {x:AV} {K:AV→Option R} {r:R} (hr:Gz P src dst x K=some r) {vx:Value} (hx:AP B κ h w x vx) :
  ∃v val,K v=some r∧(convert src dst vx).run P w = .ok val w∧AP B κ h w v val:=by
 unfold Gz at hr;split at hr
 ·rename_i k0 k hs hd;obtain ⟨n,hn,hr⟩:=bind_some hr;obtain rfl:=CD hn hx;exact ⟨_,_,hr,by simp [convert,run_underlying hs,run_underlying hd,Conv.intToInt],.t _ _ (.int _ _)⟩
 ·rename_i hs hd;obtain ⟨n,hn,hr⟩:=bind_some hr;obtain rfl:=EF hn hx;exact ⟨_,_,hr,by simp [convert,run_underlying hs,run_underlying hd],.t _ _ (.str _)⟩
 ·cases hr
theorem aun_ok {op:UnOp} {x:AV} {K:AV→Option R} {r:R} (hr:aun op x K=some r) {vx:Value} (hx:AP B κ h w x vx) :
  ∃v val,K v=some r∧(Op.unary op vx).run P w = .ok val w∧AP B κ h w v val:=by
 unfold aun at hr;split at hr
 ·obtain ⟨b,hb,hr⟩:=bind_some hr;obtain rfl:=D0 hb hx;exact ⟨_,_,hr,by simp [Op.unary],.t _ _ (.bool _)⟩
 ·split at hr
  ·cases hx with
   |t _ _ ht=>
    cases ht;exact ⟨_,_,hr,by simp [Op.unary,Op.intArith],.t _ _ (.int _ _)⟩
  ·cases hr
 ·cases hr
theorem P3 {t:TypeId} {f o:Nat} (ho:Gq P t f=some o):∃fs fd n,P.underlying t=some (.struct fs)∧fs[f]? = some fd∧fd.offset=o∧BZ P fd.type=some (n+1):=by
 unfold Gq at ho;split at ho
 ·rename_i fs hu;split at ho
  ·rename_i fd hf;split at ho
   ·rename_i n hn;cases ho;exact ⟨fs,fd,n,hu,hf,rfl,hn⟩
   ·cases ho
  ·cases ho
 ·cases ho
theorem Dj (b o n:Nat):Addr.add ⟨b,o,none⟩ n=⟨b,o+n,none⟩:=by
 unfold Addr.add;split
 ·rename_i h0;subst h0;rfl
 ·rfl
theorem GX {t:TypeId} {f o:Nat} (ho:Gq P t f=some o) (b off:Nat) :
  (Instr.fieldAt t (.pointer (some ⟨b,off,none⟩)) f).run P w = .ok (.pointer (some ⟨b,off+o,none⟩)) w:=by
 obtain ⟨fs,fd,n,hu,hf,rfl,hn⟩:=P3 ho;simp [Instr.fieldAt,run_underlying hu,hf,Instr.sureAddr,fieldPlace,BL hn,Dj]
theorem UF {t:TypeId} {a:AV} {f:Nat} {K:AV→Option R} {r:R} (hr:IQ P t h a f K=some r) {va:Value} (ha:AP B κ h w a va) :
  ∃v val,K v=some r∧(Instr.fieldAt t va f).run P w = .ok val w∧AP B κ h w v val:=by
 unfold IQ at hr
 try simp only [AE] at hr
 obtain ⟨o,ho,hr1⟩:=bind_some hr;clear hr;split at hr1
 ·rename_i i off;cases ha with
  |ptr _ _ b base hk hb=>exact ⟨_,_,hr1,GX ho b _,by rw [add_assoc];exact .ptr i (off+o) b base hk hb⟩
 ·rename_i size cells off;cases ha with
  |eptr _ _ _ b base u h1 h2 h3 h4 h5=>exact ⟨_,_,hr1,GX ho b _,by rw [add_assoc];exact .eptr size cells (off+o) b base u h1 h2 h3 h4 h5⟩
 ·rename_i i ver k off;obtain ⟨ob,hob,hr2⟩:=bind_some hr1;obtain ⟨hver,hr3⟩:=AH hr2;cases ha with
  |rptr _ _ _ _ _ h1 h2 h3=>
   obtain ⟨b,base,hkk,rfl,h4,h5⟩:=h3 ob hob hver;refine ⟨_,_,hr3,GX ho b _,.rptr i ver k (off+o) _ ⟨_,rfl⟩ h2 fun o' ho' hv' => ?_⟩;rw [hob] at ho';cases ho';exact ⟨b,base,hkk,by simp [add_assoc],h4,h5⟩
 ·cases hr1
theorem alen_ok {t:TypeId} {x:AV} {K:AV→Option R} {r:R} (hr:UC P t h x K=some r) {vx:Value} (hx:AP B κ h w x vx) (hh:Ai B κ h w) (ty:TypeId) :
  ∃v val,K v=some r∧(Builtin.len_ #[t] ty #[vx]).run P w = .ok val w∧AP B κ h w v val:=by
 unfold UC at hr
 try simp only [AE] at hr
 split at hr
 ·rename_i e hu;split at hr
  ·cases hx with
   |t _ _ ht=>
    obtain ⟨_,a,cap,rfl,_,_⟩:=Dp.Ix ht;exact ⟨_,_,hr,by simp [Builtin.len_,run_underlying hu,goInt],.t _ _ (.int _ _)⟩
  ·cases hx;exact ⟨_,_,hr,by simp [Builtin.len_,run_underlying hu,goInt],.t _ _ (.int _ _)⟩
  ·rename_i i ver off len;split at hr
   ·rename_i fz ver' size es hi;obtain ⟨rfl,hr1⟩:=AH hr;cases hx with
    |sref _ _ _ _ _ _ _ hs=>
     obtain ⟨hl,_,hsl,_⟩:=Ki hh hi hs;obtain ⟨_,a,cap,rfl,_,_⟩:=hsl;rw [hl];exact ⟨_,_,hr1,by simp [Builtin.len_,run_underlying hu,goInt],.t _ _ (.int _ _)⟩
   ·cases hr
  ·cases hx with
   |bsl _ _ _ _ cap b _ _ _=>exact ⟨_,_,hr,by simp [Builtin.len_,run_underlying hu,goInt],.t _ _ (.int _ _)⟩
  ·cases hr
 ·rename_i hu;obtain ⟨s,hs,hr⟩:=bind_some hr;obtain rfl:=EF hs hx;exact ⟨_,_,hr,by simp [Builtin.len_,run_underlying hu,goInt],.t _ _ (.int _ _)⟩
 ·rename_i n e hu;exact ⟨_,_,hr,by simp [Builtin.len_,run_underlying hu,goInt],.t _ _ (.int _ _)⟩
 ·cases hr
theorem run_indexAt_slice {t e:TypeId} {s:Nat} (hu:P.underlying t=some (.slice e)) (hs:BZ P e=some s) (b off len cap:Nat) (k:IntKind) (i:Int) (h0:0≤i) (h1:i<len) :
  (Instr.indexAt t (.slice (some ⟨b,off,none⟩) len cap) (.int k i)).run P w = .ok (.pointer (some ⟨b,off+i.toNat*s,none⟩)) w:=by
 simp [Instr.indexAt,asIntOf,run_underlying hu,h0,h1,BL hs,Dj]
theorem run_indexAt_array {t e:TypeId} {n s:Nat} (hu:P.underlying t=some (.array n e)) (hs:BZ P e=some s) (b off:Nat) (k:IntKind) (i:Int) (h0:0≤i) (h1:i<n) :
  (Instr.indexAt t (.pointer (some ⟨b,off,none⟩)) (.int k i)).run P w = .ok (.pointer (some ⟨b,off+i.toNat*s,none⟩)) w:=by
 simp [Instr.indexAt,asIntOf,run_underlying hu,Instr.sureAddr,h0,h1,BL hs,Dj]
theorem Ir {i:Int}:∀{n:Nat} {K:Nat→Option R} {r:R},Is i n K=some r→K i.toNat=some r
 |0,K,r,h=>by simp [Is] at h
 |n+1,K,r,h=>by
  simp only [Is,AE] at h;split at h
  ·rename_i e;rw [e];simpa using h
  ·exact Ir h
theorem UD {t:TypeId} {x ix:AV} {K:AV→Option R} {r:R} (hr:KA P t h x ix K=some r) {vx vi:Value} (hx:AP B κ h w x vx) (hi:AP B κ h w ix vi) (hh:Ai B κ h w) :
  ∃v val,K v=some r∧(Instr.indexAt t vx vi).run P w = .ok val w∧AP B κ h w v val:=by
 unfold KA at hr
 try simp only [AE] at hr
 obtain ⟨i,hii,hr1⟩:=bind_some hr;clear hr;obtain ⟨k,rfl⟩:=Me hii hi;split at hr1
 ·rename_i e hu;obtain ⟨s,hs,hr2⟩:=bind_some hr1;clear hr1;split at hr2
  ·rename_i size es;obtain ⟨⟨rfl,h0⟩,hr3⟩:=AH hr2;obtain ⟨c,hc,hr4⟩:=bind_some hr3;clear hr2 hr3;cases hx with
   |t _ _ ht=>
    have hlt:i.toNat<es.length:=(List.getElem?_eq_some_iff.1 hc).1;cases ht with
    |nil _ cap a=>simp at hlt
    |sl _ _ b off cap u h1 h2 h3 h4 h5 h6=>
     refine ⟨_,_,hr4,run_indexAt_slice hu hs b off es.length cap k i h0 (by omega),?_⟩;have he:(.pointer (some ⟨b,off+i.toNat*size,none⟩):Value)= .pointer (some ⟨b,off+i.toNat*size+0,none⟩):=rfl;rw [he];refine .eptr size c 0 b (off+i.toNat*size) (u i.toNat) (h4 _ c hc) h2 h3 (fun q y hy => ?_) (fun q y hy=>h6 _ c q y hc hy);rw [add_assoc];exact h5 _ c q y hc hy
  ·rename_i rr ver off len;split at hr2
   ·rename_i fz ver' size es hi';obtain ⟨⟨rfl,rfl,h0,h1⟩,hr3⟩:=AH hr2;cases hx with
    |sref _ _ _ _ _ ho hex hsr=>
     obtain ⟨hl,hle,hsl,hbb⟩:=Ki hh hi' hsr;rcases hbb with h0'|⟨b,base,cap,hk,rfl⟩
     ·omega
     ·refine ⟨_,_,hr3,run_indexAt_slice hu hs b _ len cap k i h0 h1,.rptr _ _ _ _ _ ⟨_,rfl⟩ hex fun o ho' hv' => ?_⟩;rw [hi'] at ho';cases ho';refine ⟨b,base,hk,?_,rfl,?_⟩
      ·simp only [AF.size,add_mul];simp [add_assoc]
      ·simp only [AF.len];omega
   ·cases hr2
  ·rename_i rr off len size;obtain ⟨⟨rfl,h0,h1⟩,hr3⟩:=AH hr2;have hr3:K (.ptr rr (off+i.toNat*size))=some r:=by
    split at hr3
    ·exact Ir hr3
    ·exact hr3
   cases hx with
   |bsl _ _ _ _ cap b hk hbx hlc=>
    obtain ⟨cs,hcs,hcl⟩:=hbx;refine ⟨_,_,hr3,run_indexAt_slice hu hs b off len cap k i h0 h1,?_⟩;have:=AP.ptr (B:=B) (w:=w) rr (off+i.toNat*size) b 0 hk ⟨cs,hcs⟩;simpa using this
  ·cases hr2
 ·rename_i n e hu;obtain ⟨s,hs,hr2⟩:=bind_some hr1;clear hr1;split at hr2
  ·rename_i rr off;obtain ⟨⟨h0,h1⟩,hr3⟩:=AH hr2;have hr3:K (.ptr rr (off+i.toNat*s))=some r:=by
    split at hr3
    ·exact Ir hr3
    ·exact hr3
   cases hx with
   |ptr _ _ b base hk hb=>
    refine ⟨_,_,hr3,run_indexAt_array hu hs b _ k i h0 h1,?_⟩;rw [add_assoc];exact .ptr _ _ b base hk hb
  ·rename_i size cells off;obtain ⟨⟨h0,h1⟩,hr3⟩:=AH hr2;cases hx with
   |eptr _ _ _ b base u hsz hb hn hc ht=>
    refine ⟨_,_,hr3,run_indexAt_array hu hs b _ k i h0 h1,?_⟩;rw [add_assoc];exact .eptr _ _ _ b base u hsz hb hn hc ht
  ·rename_i rr ver q off;obtain ⟨ob,hob,hr3⟩:=bind_some hr2;obtain ⟨⟨hv,h0,h1⟩,hr4⟩:=AH hr3;cases hx with
   |rptr _ _ _ _ _ _ hex hpt=>
    obtain ⟨b,base,e0,rfl,e2,e3⟩:=hpt ob hob hv;refine ⟨_,_,hr4,run_indexAt_array hu hs b _ k i h0 h1,.rptr _ _ _ _ _ ⟨_,rfl⟩ hex fun o ho hv' => ?_⟩;rw [hob] at ho;cases ho;exact ⟨b,base,e0,by simp [add_assoc],e2,e3⟩
  ·cases hr2
 ·cases hr1
def WA (B:Nat→Prop) (κ:A0) (h:Heap) (w:World):Option AV→Option Value→Prop
 |none,none=>True
 |some a,some v=>AP B κ h w a v
 |_,_=>False
def Co (d hi n:Nat):Option Value→Prop
 |none=>n=d
 |some v=>∃k,v = .int k n∧n≤hi
theorem BR {x:Option AV} {d hi:Nat} {K:Nat→Option R} {r:R} (hr:CK x d hi K=some r) {y:Option Value} (hy:WA B κ h w x y) :
  ∃n,K n=some r∧Co d hi n y:=by
 unfold CK at hr
 try simp only [AE] at hr
 split at hr
 ·cases y with
  |none=>exact ⟨d,hr,rfl⟩
  |some v=>exact hy.elim
 ·cases y with
  |none=>exact hy.elim
  |some v=>
   obtain ⟨i,hii,hr1⟩:=bind_some hr;obtain ⟨⟨h0,h1⟩,hr2⟩:=AH hr1;obtain ⟨k,rfl⟩:=Me hii hy;exact ⟨i.toNat,hr2,k,by rw [Int.toNat_of_nonneg h0],by omega⟩
theorem B9 {isS:Bool} {len hm cap a b:Nat} {lo hi:Option Value} (hlc:hm≤cap)
  (hb:Co len hm b hi) (ha:Co 0 b a lo) :
  (Instr.sliceBounds isS len cap lo hi none).run P w = .ok (a,b,cap) w:=by
 cases hi with
 |none=>
  simp only [Co] at hb;subst hb;cases lo with
  |none=>simp only [Co] at ha;subst ha;simp [Instr.sliceBounds]
  |some v=>
   obtain ⟨k,rfl,hle⟩:=ha;simp [Instr.sliceBounds,Instr.sliceBound,asIntOf,hle]
 |some v=>
  obtain ⟨k,rfl,hle⟩:=hb;have h2:b≤cap:=by omega
  cases lo with
  |none=>simp only [Co] at ha;subst ha;simp [Instr.sliceBounds,Instr.sliceBound,asIntOf,h2]
  |some v=>
   obtain ⟨k',rfl,hle'⟩:=ha;simp [Instr.sliceBounds,Instr.sliceBound,asIntOf,h2,hle']
theorem CL {isS:Bool} {len cap a b m d0 d1 hm:Nat} {lo:Option Value} {vb vm:Value} (hlc:hm≤cap) (hmx:Co d0 hm m (some vm))
  (hb:Co d1 m b (some vb)) (ha:Co 0 b a lo):(Instr.sliceBounds isS len cap lo (some vb) (some vm)).run P w = .ok (a,b,m) w:=by
 obtain ⟨k,rfl,hle⟩:=hmx;obtain ⟨k',rfl,hle'⟩:=hb;have h2:m≤cap:=by omega
 cases lo with
 |none=>simp only [Co] at ha;subst ha;simp [Instr.sliceBounds,Instr.sliceBound,asIntOf,h2,hle']
 |some v=>
  obtain ⟨k3,rfl,hle3⟩:=ha;simp [Instr.sliceBounds,Instr.sliceBound,asIntOf,h2,hle',hle3]
theorem T8 {t:TypeId} {x:AV} {lo hi mx:Option AV} {K:AV→Option R} {r:R} (hr:J6 P t h x lo hi mx K=some r) {vx:Value} {vl vh vm:Option Value} (hx:AP B κ h w x vx)
  (hl:WA B κ h w lo vl) (hhi:WA B κ h w hi vh)
  (hm:WA B κ h w mx vm) (hh:Ai B κ h w) :
  ∃v val,K v=some r∧(Instr.sliceAt t vx vl vh vm).run P w = .ok val w∧AP B κ h w v val:=by
 unfold J6 at hr
 try simp only [AE] at hr
 split at hr
 ·rename_i hu;cases vm with
  |some v=>exact hm.elim
  |none=>
   obtain ⟨s,hs,hr1⟩:=bind_some hr;obtain rfl:=EF hs hx;obtain ⟨b,hr2,hb⟩:=BR hr1 hhi;obtain ⟨a,hr3,ha⟩:=BR hr2 hl;have:=B9 (P:=P) (w:=w) (isS:=false) (le_refl s.size) hb ha;exact ⟨_,_,hr3,by simp [Instr.sliceAt,Instr.slice,run_underlying hu,this],.t _ _ (.str _)⟩
 ·rename_i e hu;cases vm with
  |some v=>exact hm.elim
  |none=>
   obtain ⟨z,hz,hr1⟩:=bind_some hr;clear hr;split at hr1
   ·rename_i size es;obtain ⟨rfl,hr2⟩:=AH hr1;obtain ⟨b,hr3,hb⟩:=BR hr2 hhi;obtain ⟨a,hr4,ha⟩:=BR hr3 hl;have hbl:b≤es.length:=by
     cases vh with
     |none=>simp only [Co] at hb;omega
     |some v=>obtain ⟨_,_,h⟩:=hb;exact h
    have hab:a≤b:=by
     cases vl with
     |none=>simp only [Co] at ha;omega
     |some v=>obtain ⟨_,_,h⟩:=ha;exact h
    cases hx with
    |t _ _ ht=>
     have hlen:((es.take b).drop a).length=b-a:=by simp;omega
     cases ht with
     |nil _ cap ad=>
      simp only [length_nil] at hbl hb;have:=B9 (P:=P) (w:=w) (isS:=true) (len:=0) (cap:=cap) (zero_le _) (by simpa using hb) ha;obtain rfl:b=0:=by omega
      obtain rfl:a=0:=by omega
      refine ⟨_,_,hr4,by simp [Instr.sliceAt,Instr.slice,run_underlying hu,this,BL hz];rfl,?_⟩;simp;exact .t _ _ (.nil _ _ _)
     |sl _ _ bl off cap u h1 h2 h3 h4 h5 h6=>
      have:=B9 (P:=P) (w:=w) (isS:=true) (cap:=cap) h1 hb ha;refine ⟨_,.slice (if cap=a then some ⟨bl,off,none⟩ else some ⟨bl,off+a*size,none⟩) (b-a) (cap-a),hr4,?_,.t _ _ ?_⟩
      ·simp [Instr.sliceAt,Instr.slice,run_underlying hu,this,BL hz,Dj]
      ·rw [← hlen];by_cases hba:b-a=0
       ·have hnil:(es.take b).drop a=[]:=eq_nil_of_length_eq_zero (by omega);rw [hnil];exact .nil _ _ _
       ·rw [if_neg (by omega)];have hidx:∀(j:Nat) (e:List Tree),((es.take b).drop a)[j]? = some e→es[a+j]? = some e:=fun j e he=>by
         rw [getElem?_drop] at he;rcases lt_or_ge (a+j) b with hlt|hge
         ·rw [getElem?_take_of_lt hlt] at he;exact he
         ·simp [getElem?_take,not_lt.2 hge] at he
        refine .sl size _ bl (off+a*size) (cap-a) (fun j c=>u (a+j) c) (by omega) h2 h3 (fun j e he=>h4 _ e (hidx j e he)) (fun j e c y he hy => ?_) (fun j e c y he hy=>h6 _ e c y (hidx j e he) hy);have:=h5 _ e c y (hidx j e he) hy;rw [add_mul] at this;rw [← this];congr 2;omega
   ·obtain ⟨b,hr3,hb⟩:=BR hr1 hhi;obtain ⟨a,hr4,ha⟩:=BR hr3 hl;cases hx;have hb0:b=0:=by
     cases vh with
     |none=>exact hb
     |some v=>obtain ⟨_,_,h⟩:=hb;omega
    subst hb0;have ha0:a=0:=by
     cases vl with
     |none=>exact ha
     |some v=>obtain ⟨_,_,h⟩:=ha;omega
    subst ha0;have:=B9 (P:=P) (w:=w) (isS:=true) (le_refl 0) hb ha;exact ⟨_,_,hr4,by simp [Instr.sliceAt,Instr.slice,run_underlying hu,this,BL hz];rfl,.nilsl _⟩
   ·rename_i i ver off len;split at hr1
    ·rename_i fz ver' size es hi';obtain ⟨⟨rfl,hsz⟩,hr2⟩:=AH hr1;clear hr1;obtain ⟨b,hr3,hb⟩:=BR hr2 hhi;obtain ⟨a,hr4,ha⟩:=BR hr3 hl;have hab:a≤b:=by
      cases vl with
      |none=>simp only [Co] at ha;omega
      |some v=>obtain ⟨_,_,h⟩:=ha;exact h
     cases hx with
     |sref _ _ _ _ _ ho hex hsr=>
      obtain ⟨kk,hkk⟩:=Bk hh hi';obtain ⟨hk2,hle,hmm⟩:=hsr kk _ hkk hi' rfl;simp only [AF.len] at hle;have hbl:b≤es.length-off:=by
       cases vh with
       |none=>simp only [Co] at hb;omega
       |some v=>obtain ⟨_,_,h⟩:=hb;exact h
      rcases hmm with ⟨rfl,hof,a0,rfl⟩|⟨bl,base,rfl,cap,rfl,hcap,hcs⟩
      ·simp only [AF.len] at hof;obtain rfl:b=0:=by omega
       obtain rfl:a=0:=by omega
       have:=B9 (P:=P) (w:=w) (isS:=true) (len:=0) (cap:=0) (by omega) (by rw [show es.length-off=0 by omega] at hb;exact hb) ha;refine ⟨_,.slice a0 0 0,hr4,by simp [Instr.sliceAt,Instr.slice,run_underlying hu,this,BL hz],.sref _ _ _ _ _ rfl hex fun k o hk ho' hv => ?_⟩;rw [hkk] at hk;cases hk;rw [hi'] at ho';cases ho';exact ⟨rfl,by simp only [AF.len];omega,.inl ⟨rfl,by simp only [AF.len];omega,⟨_,rfl⟩⟩⟩
      ·simp only [AF.len] at hcap;have:=B9 (P:=P) (w:=w) (isS:=true) (len:=len) (cap:=cap) (by omega) hb ha;have hrun:(Instr.sliceAt t (.slice (some ⟨bl,base+off*(AF.row fz ver' size es).size,none⟩) len cap) vl vh none).run P w = .ok (.slice (if cap=a then some ⟨bl,base+off*size,none⟩ else some ⟨bl,base+off*size+a*z,none⟩) (b-a) (cap-a)) w:=by simp [Instr.sliceAt,Instr.slice,run_underlying hu,this,BL hz,Dj,AF.size]
       refine ⟨_,_,hr4,hrun,.sref _ _ _ _ _ rfl hex fun k o hk ho' hv => ?_⟩;rw [hkk] at hk;cases hk;rw [hi'] at ho';cases ho';refine ⟨rfl,by simp only [AF.len];omega,?_⟩;by_cases hca:cap=a
       ·rw [if_pos hca];exact .inl ⟨by omega,by simp only [AF.len];omega,⟨_,by rw [show b-a=0 by omega,show cap-a=0 by omega]⟩⟩
       ·rw [if_neg hca];refine .inr ⟨bl,base,rfl,cap-a,?_,by simp only [AF.len];omega,fun cells elem fr hcell => ?_⟩
        ·simp only [AF.size];rcases hsz with rfl|hsz
         ·rw [add_mul];simp [add_assoc]
         ·have hes:es=[]:=row_zero hh hi' hsz;obtain ⟨hz1,_⟩:=hh.obj i _ _ hi' hkk;exact (hz1 hsz).elim
        ·have:=hcs cells elem fr hcell;rw [show off+a+(cap-a)=off+cap from by omega];exact this
    ·cases hr1
   ·cases hr1
 ·rename_i m e hu;cases vm with
  |none=>exact hm.elim
  |some vm=>
   obtain ⟨z,hz,hr1⟩:=bind_some hr;clear hr;split at hr1
   ·rename_i size es bv;cases vh with
    |none=>exact hhi.elim
    |some vb=>
     obtain ⟨rfl,hr2⟩:=AH hr1;obtain ⟨m',hr3,hm'⟩:=BR hr2 (y:=some vm) hm;obtain ⟨b,hr4,hb⟩:=BR hr3 (y:=some vb) hhi;obtain ⟨a,hr5,ha⟩:=BR hr4 hl;cases hx with
     |t _ _ ht=>
      cases ht with
      |nil _ cap ad=>
       have:=CL (P:=P) (w:=w) (isS:=true) (len:=0) (cap:=cap) (zero_le _) hm' hb ha;exact ⟨_,_,hr5,by simp [Instr.sliceAt,Instr.slice,run_underlying hu,this,BL hz];rfl,.undef _⟩
      |sl _ _ bl off cap u h1 h2 h3 h4 h5 h6=>
       have:=CL (P:=P) (w:=w) (isS:=true) (len:=es.length) (cap:=cap) h1 hm' hb ha;exact ⟨_,_,hr5,by simp [Instr.sliceAt,Instr.slice,run_underlying hu,this,BL hz];rfl,.undef _⟩
   ·rename_i bv;cases vh with
    |none=>exact hhi.elim
    |some vb=>
     obtain ⟨m',hr3,hm'⟩:=BR hr1 (y:=some vm) hm;obtain ⟨b,hr4,hb⟩:=BR hr3 (y:=some vb) hhi;obtain ⟨a,hr5,ha⟩:=BR hr4 hl;cases hx;have:=CL (P:=P) (w:=w) (isS:=true) (len:=0) (cap:=0) (le_refl 0) hm' hb ha;exact ⟨_,_,hr5,by simp [Instr.sliceAt,Instr.slice,run_underlying hu,this,BL hz];rfl,.undef _⟩
   ·rename_i i ver off len bv;split at hr1
    ·rename_i fz ver' size es hi';cases vh with
     |none=>exact hhi.elim
     |some vb=>
      obtain ⟨rfl,hr2⟩:=AH hr1;obtain ⟨m',hr3,hm'⟩:=BR hr2 (y:=some vm) hm;obtain ⟨b,hr4,hb⟩:=BR hr3 (y:=some vb) hhi;obtain ⟨a,hr5,ha⟩:=BR hr4 hl;cases hx with
      |sref _ _ _ _ _ ho hex hsr=>
       obtain ⟨kk,hkk⟩:=Bk hh hi';obtain ⟨hk2,hle,hmm⟩:=hsr kk _ hkk hi' rfl;simp only [AF.len] at hle;rcases hmm with ⟨rfl,hof,a0,rfl⟩|⟨bl,base,rfl,cap,rfl,hcap,hcs⟩
       ·simp only [AF.len] at hof;have:=CL (P:=P) (w:=w) (isS:=true) (len:=0) (cap:=0) (by omega) hm' hb ha;exact ⟨_,_,hr5,by simp [Instr.sliceAt,Instr.slice,run_underlying hu,this,BL hz];rfl,.undef _⟩
       ·simp only [AF.len] at hcap;have:=CL (P:=P) (w:=w) (isS:=true) (len:=len) (cap:=cap) (by omega) hm' hb ha;exact ⟨_,_,hr5,by simp [Instr.sliceAt,Instr.slice,run_underlying hu,this,BL hz];rfl,.undef _⟩
    ·cases hr1
   ·cases hr1
 ·cases hr
end Ab
namespace Ab
open Go
variable {R:Type} {P:Program} {B:Nat→Prop} {κ:A0} {h:Heap} {w:World}
def AZ (B:Nat→Prop) (κ:A0) (h:Heap) (w:World) (cs:List AV) (arr:Array Value):Prop:=
 arr.size=cs.length∧∀j x,cs[j]? = some x→AP B κ h w x (arr.getD j undef)
theorem Pp {x:AV} {v:Value} (hl:x.leaf=true) (hv:AP B κ h w x v):v.oneCell'=true:=by
 cases hv<;>first|rfl|assumption|(simp [AV.leaf] at hl;done)|skip
 ·exact BS.one (by assumption)
 ·have hp:∃p,v = .pointer (some p):=by assumption
  obtain ⟨p,rfl⟩:=hp;rfl
theorem Tc {v:Value} (h1:v.oneCell'=true):v.cells = #[v]:=by cases v<;>first|rfl|(simp [Value.oneCell'] at h1;done)
theorem Gt {v:AV} {vs:List AV} {val:Value} (hc:v.cells=some vs) (hv:AP B κ h w v val):AZ B κ h w vs val.cells:=by
 by_cases hl:v.leaf=true
 ·have h1:=Pp hl hv;rw [Tc h1];have:vs=[v]:=by cases v<;>simp_all [AV.cells,AV.leaf]
  subst this;refine ⟨rfl,fun j x hx => ?_⟩;cases j with
  |zero=>simp at hx;subst hx;simpa using hv
  |succ j=>simp at hx
 ·cases v with
  |agg cs=>
   simp [AV.cells] at hc;subst hc;cases hv with
   |agg _ vs h1 h2=>exact ⟨h1,h2⟩
  |undef=>simp [AV.cells] at hc
  |tuple _=>simp [AV.cells] at hc
  |_=>simp [AV.leaf] at hl
theorem Nc (off:Nat):∀(l:List Value) (s:Nat) (arr:Array Value),
  let arr':=(l.zipIdx s).foldl (fun (cs:Array Value) (p:Value×Nat)=>cs.setIfInBounds (off+p.2) p.1) arr
  arr'.size=arr.size∧∀k,arr'.getD k undef=if off+s≤k∧k<off+s+l.length∧k<arr.size then l.getD (k-(off+s)) undef else arr.getD k undef
 |[],s,arr=>by refine ⟨rfl,fun k => ?_⟩;rw [if_neg (by simp;omega)];rfl
 |v::l,s,arr=>by
  have ih:=Nc off l (s+1) (arr.setIfInBounds (off+s) v);simp only [List.zipIdx_cons,foldl_cons];simp only at ih;refine ⟨by rw [ih.1];simp,fun k => ?_⟩;rw [ih.2 k];simp only [Array.size_setIfInBounds,length_cons];by_cases h1:off+(s+1)≤k∧k<off+(s+1)+l.length∧k<arr.size
  ·rw [if_pos h1,if_pos ⟨by omega,by omega,h1.2.2⟩];rw [show k-(off+s)=(k-(off+(s+1)))+1 from by omega];rfl
  ·rw [if_neg h1];by_cases h2:k=off+s∧k<arr.size
   ·obtain ⟨rfl,h3⟩:=h2;rw [if_pos ⟨by omega,by omega,h3⟩];simp [Array.getD,h3]
   ·by_cases h3:k=off+s
    ·rw [if_neg (by omega)];have h4:arr.size≤off+s:=by omega
     subst h3;simp [Array.getD,not_lt.2 h4]
    ·rw [if_neg (by omega)];by_cases h4:k<arr.size
     ·simp [Array.getD,h4,Ne.symm h3]
     ·simp [Array.getD,h4]
theorem FU (cs vs:List AV) (off:Nat) (hle:off+vs.length≤cs.length):(setAt cs off vs).length=cs.length∧∀j,(setAt cs off vs)[j]? = if off≤j∧j<off+vs.length then vs[j-off]? else cs[j]? :=by
 constructor
 ·simp [setAt];omega
 ·intro j;unfold setAt;by_cases h1:j<off
  ·rw [getElem?_append_left (by simp;omega),getElem?_take_of_lt h1,if_neg (by omega)]
  ·rw [getElem?_append_right (by simp;omega)];have hl:(cs.take off).length=off:=by simp;omega
   rw [hl];by_cases h2:j<off+vs.length
   ·rw [getElem?_append_left (by omega),if_pos ⟨by omega,h2⟩]
   ·rw [getElem?_append_right (by omega),getElem?_drop,if_neg (by omega)];congr 1;omega
theorem Uj {cs vs:List AV} {arr a:Array Value} {off:Nat} (h1:AZ B κ h w cs arr) (h2:AZ B κ h w vs a) (hle:off+vs.length≤cs.length) :
  AZ B κ h w (setAt cs off vs) (a.zipIdx.foldl (fun (cs:Array Value) (p:Value×Nat)=>cs.setIfInBounds (off+p.2) p.1) arr):=by
 have hz:a.zipIdx.foldl (fun (cs:Array Value) (p:Value×Nat)=>cs.setIfInBounds (off+p.2) p.1) arr=(a.toList.zipIdx 0).foldl (fun (cs:Array Value) (p:Value×Nat)=>cs.setIfInBounds (off+p.2) p.1) arr:=by rw [← Array.foldl_toList];congr 1;simp
 rw [hz];obtain ⟨f1,f2⟩:=Nc off a.toList 0 arr;obtain ⟨s1,s2⟩:=FU cs vs off hle;refine ⟨by rw [f1,s1,h1.1],fun j x hx => ?_⟩;rw [f2 j];rw [s2 j] at hx;have ha:a.toList.length=vs.length:=by simp [h2.1]
 by_cases hj:off≤j∧j<off+vs.length
 ·rw [if_pos hj] at hx;rw [if_pos ⟨by omega,by omega,by rw [h1.1];omega⟩];have:=h2.2 _ x hx;simp only [add_zero];have hlt:j-off<a.size:=by rw [h2.1];omega
  rw [show a.toList.getD (j-off) undef=a.getD (j-off) undef from by simp [Array.getD,List.getD,hlt]];exact this
 ·rw [if_neg hj] at hx;rw [if_neg (by omega)];exact h1.2 j x hx
theorem I8 {place:Nat→Option (Nat×Nat)}:∀{parts:List (Nat×AV)} {cs out:List AV} {arr:Array Value} {vparts:List (Nat×Value)},Bl place cs parts=some out→AZ B κ h w cs arr→
  vparts.length=parts.length→(∀(j i:Nat) (x:AV),parts[j]? = some (i,x)→∃v,vparts[j]? = some (i,v)∧AP B κ h w x v)→∃arr',Instr.fill place arr vparts=some arr'∧AZ B κ h w out arr'
 |[],cs,out,arr,vparts,hf,hc,hl,hp=>by simp only [Bl,Option.some.injEq] at hf;subst hf;obtain rfl:vparts=[]:=eq_nil_of_length_eq_zero (by simpa using hl);exact ⟨arr,rfl,hc⟩
 |(i,x)::rest,cs,out,arr,vparts,hf,hc,hl,hp=>by
  cases vparts with
  |nil=>simp at hl
  |cons q vrest=>
   obtain ⟨v,hv1,hv2⟩:=hp 0 i x rfl;simp only [List.getElem?_cons_zero,Option.some.injEq] at hv1;subst hv1;simp only [Bl] at hf;split at hf
   ·rename_i off size vs hpl hcs;obtain ⟨⟨h1,h2⟩,hf2⟩:=AH hf;have hcv:=Gt hcs hv2;have hset:=Uj (off:=off) hc hcv (by omega);obtain ⟨arr',ha,hb⟩:=I8 (vparts:=vrest) hf2 hset (by simpa using hl) fun j i' x' hx'=>hp (j+1) i' x' (by simpa using hx');refine ⟨arr',?_,hb⟩;simp only [Instr.fill,hpl];have e1:v.cells.size=size:=by rw [hcv.1];exact h1
    have e2:¬(off+v.cells.size>arr.size):=by rw [e1,hc.1];omega
    simp only [e1,ne_eq,not_true_eq_false,decide_false,Bool.false_or];rw [if_neg (by rw [e1] at e2;simpa using e2)];exact ha
   ·cases hf
theorem MH {place:Nat→Option (Nat×Nat)}:∀{parts:List (Nat×AV)} {cs out:List AV},Bl place cs parts=some out→out.length=cs.length
 |[],cs,out,hf=>by simp only [Bl,Option.some.injEq] at hf;rw [hf]
 |(i,x)::rest,cs,out,hf=>by
  simp only [Bl] at hf;split at hf
  ·obtain ⟨⟨h1,h2⟩,hf2⟩:=AH hf;rw [MH hf2,(FU _ _ _ (by omega)).1]
  ·cases hf
theorem CE {t:TypeId} {z:List AV} (hz:zeroCells? P t=some z):∃i v,P.info? t=some i∧i.zero=some v∧AZ B κ h w z v.cells:=by
 unfold zeroCells? at hz;cases hi:P.info? t with
 |none=>simp [hi] at hz
 |some i=>
  simp only [hi,Option.bind_some] at hz;split at hz
  ·rename_i v hv;exact ⟨i,v,rfl,hv,Gt hz (Lk v)⟩
  ·cases hz
theorem UI {t:TypeId} {parts:List (Nat×AV)} {K:AV→Option R} {r:R} (hr:Mq P t parts K=some r) {vparts:Array (Nat×Value)} (hl:vparts.size=parts.length)
  (hp:∀(j i:Nat) (x:AV),parts[j]? = some (i,x)→∃v,vparts.toList[j]? = some (i,v)∧AP B κ h w x v) :
  ∃v val,K v=some r∧(Instr.build t vparts).run P w = .ok val w∧AP B κ h w v val:=by
 unfold Mq at hr;split at hr
 ·rename_i fs hu;split at hr
  ·rename_i places hpl;obtain ⟨z,hz,hr1⟩:=bind_some hr;obtain ⟨cs,hcs,hr2⟩:=bind_some hr1;obtain ⟨i,v,hi,hv,hc⟩:=CE (B:=B) (κ:=κ) (h:=h) (w:=w) hz;obtain ⟨arr',hf,hc'⟩:=I8 (vparts:=vparts.toList) hcs hc (by simpa using hl) hp;refine ⟨_,.agg arr',hr2,run_build w t vparts arr' ?_,.agg _ _ hc'.1 hc'.2⟩;unfold Program.built;simp only [hi,hu,hv,hpl];simpa using hf
  ·cases hr
 ·rename_i n e hu;obtain ⟨s,hs,hr0⟩:=bind_some hr;obtain ⟨z,hz,hr1⟩:=bind_some hr0;obtain ⟨cs,hcs,hr2⟩:=bind_some hr1;obtain ⟨i,v,hi,hv,hc⟩:=CE (B:=B) (κ:=κ) (h:=h) (w:=w) hz;obtain ⟨arr',hf,hc'⟩:=I8 (vparts:=vparts.toList) hcs hc (by simpa using hl) hp;refine ⟨_,.agg arr',hr2,run_build w t vparts arr' ?_,.agg _ _ hc'.1 hc'.2⟩;unfold Program.built;unfold BZ at hs;cases hie:P.info? e with
  |none=>simp [hie] at hs
  |some ie=>
   simp only [hie,map_some,Option.some.injEq] at hs;simp only [hi,hu,hv,hie];rw [hs];exact hf
 ·cases hr
theorem Ak (w:World) (o:Obj) {b:Nat} (hb:b<w.heap.size):(w.alloc o).heap[b]? = w.heap[b]? :=by show (w.heap.push o)[b]? = w.heap[b]?;rw [getElem?_push,if_neg (ne_of_lt hb)]
theorem A8 (w:World) (o:Obj):(w.alloc o).heap[w.heap.size]? = some o:=by show (w.heap.push o)[w.heap.size]? = some o;rw [getElem?_push,if_pos rfl]
theorem MI (hh:Ai B κ h w) {w':World} (h1:w'.os=w.os) (h2:w'.tape=w.tape) (h3:w'.output=w.output) (h4:w.heap.size≤w'.heap.size) (h5:∀b,b<w.heap.size→w'.heap[b]? = w.heap[b]?) :
  Ext κ h w κ h w':=
 ⟨h1,h2,h3,h4,fun b hb _=>h5 b hb,fun b hb =>.inl hb,fun i o ho=>⟨o,ho,.refl o⟩,fun _ _ _ _ _ _=>rfl,fun i o o' ho ho' hv b base hk cells elem fr hc=>⟨cells,by rw [← h5 b (hh.lt i b base hk)];exact hc,rfl⟩⟩
theorem HD (hh:Ai B κ h w) {w':World} (x:Ext κ h w κ h w') (h5:∀b,b<w.heap.size→w'.heap[b]? = w.heap[b]?):Ai B κ h w':=
  ⟨hh.len,hh.inj,hh.notB,fun i b bs hk=>lt_of_lt_of_le (hh.lt i b bs hk) x.size,fun b hb=>lt_of_lt_of_le (hh.ltB b hb) x.size,
   fun i o k ho hk=>(hh.obj i o k ho hk).ext x fun b base e=>h5 b (by subst e;exact hh.lt i b base hk)⟩
theorem HN (hh:Ai B κ h w) (o:Obj):Ext κ h w κ h (w.alloc o):=
 MI hh rfl rfl rfl (by simp) fun _ hb=>Ak w o hb
theorem RY (hh:Ai B κ h w) (o:Obj):Ai B κ h (w.alloc o):=HD hh (HN hh o) fun _ hb=>Ak w o hb
theorem not_new (hh:Ai B κ h w):¬(B w.heap.size∨Ex κ h w.heap.size):=by
 rintro (hb|⟨i,base,o,hk,_,_⟩)
 ·have:=hh.ltB _ hb;omega
 ·have:=hh.lt i _ _ hk;omega
theorem Jz (s:Nat):∀(n:Nat) (xs:List Tree) (j:Nat) (e:List Tree),(chunk s n xs)[j]? = some e→j<n∧e=(xs.drop (j*s)).take s
 |0,xs,j,e,he=>by simp [chunk] at he
 |n+1,xs,j,e,he=>by
  cases j with
  |zero=>simp [chunk] at he;exact ⟨by omega,by simp [he]⟩
  |succ j=>
   simp only [chunk,getElem?_cons_succ] at he;obtain ⟨h1,h2⟩:=Jz s n (xs.drop s) j e he;exact ⟨by omega,by rw [h2,List.drop_drop];congr 2;rw [succ_mul];omega⟩
theorem Nr (s:Nat):∀(n:Nat) (xs:List Tree),(chunk s n xs).length=n
 |0,xs=>rfl
 |n+1,xs=>by simp [chunk,Nr s n]
theorem CA {α:Type} (z:List α):∀n,(replicate n z).flatten.length=n*z.length
 |0=>by simp
 |n+1=>by simp [List.replicate_succ,succ_mul,Nat.add_comm]
theorem EN {α:Type} (z:List α):∀(n j:Nat),j<n*z.length→(replicate n z).flatten[j]? = z[j % z.length]?
 |0,j,hj=>by simp at hj
 |n+1,j,hj=>by
  rw [List.replicate_succ,flatten_cons];by_cases h1:j<z.length
  ·rw [getElem?_append_left h1,Nat.mod_eq_of_lt h1]
  ·have h2:z.length≤j:=by omega
   rw [getElem?_append_right h2,EN z n (j-z.length) (by rw [succ_mul] at hj;omega),← Nat.mod_eq_sub_mod h2]
theorem bsl_rel {s len:Nat} {xs:List Tree} {a:Option Addr} {w':World} (hv:len≠0→AP B κ h w' (.t (.sl s (chunk s len xs))) (.slice a len len)):AP B κ h w' (bslV s len xs) (.slice a len len):=by
 unfold bslV;split
 ·rename_i h0;subst h0;exact .nilsl a
 ·rename_i h0;exact hv h0
theorem Mp {t:TypeId} {len:Nat} {parts:List (Nat×AV)} {K:AV→Option R} {r:R} (hr:DX P t h len parts K=some r) {vparts:Array (Nat×Value)} (hl:vparts.size=parts.length)
  (hp:∀(j i:Nat) (x:AV),parts[j]? = some (i,x)→∃v,vparts.toList[j]? = some (i,v)∧AP B κ h w x v) (hh:Ai B κ h w) :
  ∃v val w',K v=some r∧(Instr.buildSlice t len vparts).run P w = .ok val w'∧AP B κ h w' v val∧Ai B κ h w'∧Ext κ h w κ h w':=by
 unfold DX at hr
 try simp only [AE] at hr
 split at hr
 ·rename_i e hu;obtain ⟨s,hs,hr0⟩:=bind_some hr;obtain ⟨z,hz,hr1⟩:=bind_some hr0;obtain ⟨⟨hzl,hs0,hle⟩,hr2⟩:=AH hr1;obtain ⟨cs,hcs,hr3⟩:=bind_some hr2;obtain ⟨i,v,hi,hv,hc⟩:=CE (B:=B) (κ:=κ) (h:=h) (w:=w) hz;have hvs:v.cells.size=s:=by rw [hc.1];exact hzl
  have hc0:AZ B κ h w (replicate len z).flatten ((Array.range (len*s)).map (v.cells[· % v.cells.size]!)):=by
   refine ⟨by rw [CA,hzl];simp,fun j x hx => ?_⟩;have hj:j<len*s:=by have:=(List.getElem?_eq_some_iff.1 hx).1;rw [CA,hzl] at this;exact this
   rw [EN z len j (by rw [hzl];exact hj)] at hx;have h1:=hc.2 _ x hx;have h2:j % z.length<v.cells.size:=by rw [hvs,hzl];exact mod_lt _ (by omega)
   have h3:((Array.range (len*s)).map (v.cells[· % v.cells.size]!)).getD j undef=v.cells.getD (j % z.length) undef:=by
    have h4:j % v.cells.size<v.cells.size:=by rw [hvs];exact mod_lt _ (by omega)
    simp [Array.getD,hj,hzl,hvs,mod_lt _ (pos_of_ne_zero hs0)]
   rw [h3];exact h1
  obtain ⟨arr',hf,hc'⟩:=I8 (vparts:=vparts.toList) hcs hc0 (by simpa using hl) hp;have hcsl:cs.length=len*s:=by rw [MH hcs,CA,hzl]
  obtain ⟨xs,hr4,hxl,_,hxt⟩:=Cc (vs:=arr'.toList) hr3 hh (by simp [hc'.1]) fun j x u hx hu=>by have h1:=hc'.2 j x hx;have h2:arr'.getD j undef=u:=Em arr'.toList j undef hu;rw [h2] at h1;exact h1
  have hsz:arr'.size=len*s:=by rw [hc'.1,hcsl]
  refine ⟨_,.slice (some ⟨w.heap.size,0,none⟩) len len,w.alloc (.cells arr' e),hr4,?_,bsl_rel fun _ =>.t _ _ ?_,RY hh _,HN hh _⟩
  ·have hz1:¬(len*s>2 ^ 24):=by omega
   have hzr:(if len*s=0 then (pure #[]:Sem (Array Value)) else do pure (← zeroValue e).cells).run P w = .ok (if len*s=0 then #[] else v.cells) w:=by split<;>simp [zeroValue,typeInfo,hi,hv]
   have hf2:Instr.fill (fun i=>some (i*s,s)) ((Array.range (len*s)).map ((if len*s=0 then #[] else v.cells)[· % (if len*s=0 then #[] else v.cells).size]!)) vparts.toList=some arr':=by
    by_cases h0:len*s=0
    ·rw [if_pos h0];rw [h0] at hf ⊢;have e0:Array.range 0 = #[]:=rfl;rw [e0] at hf ⊢;simpa using hf
    ·rw [if_neg h0];exact hf
   simp only [Instr.buildSlice,Sem.run_bind,run_underlying hu,BL hs,Result.andThen_ok,Sem.run_ite,if_neg hz1,Sem.run_pure];by_cases h0:len*s=0
   ·rw [if_pos h0] at hf2 ⊢;simp only [hf2];rfl
   ·rw [if_neg h0] at hf2 ⊢;simp only [zeroValue,typeInfo,Sem.run_bind,run_program,Result.andThen_ok,hi,hv,Sem.run_pure,hf2];rfl
  ·have hcl:=Nr s len xs;have hnew:(w.alloc (.cells arr' e)).heap.size=w.heap.size+1:=by simp
   have hA:¬(B w.heap.size∨Ex κ h w.heap.size):=not_new hh;have hel:∀(j:Nat) (e':List Tree),(chunk s len xs)[j]? = some e'→e'.length=s:=fun j e' he'=>by obtain ⟨h1,h2⟩:=Jz s len xs j e' he';rw [h2];have:(j+1)*s≤len*s:=mul_le_mul_right _ h1;rw [succ_mul] at this;simp;omega
   have hget:∀(j:Nat) (e':List Tree) (c:Nat) (x:Tree),(chunk s len xs)[j]? = some e'→e'[c]? = some x→xs[j*s+c]? = some x:=fun j e' c x he' hx=>by obtain ⟨h1,h2⟩:=Jz s len xs j e' he';rw [h2] at hx;exact (getElem?_sub hx).2
   have hlt:∀(k:Nat) (x:Tree),xs[k]? = some x→k<arr'.size:=fun k x hx=>by have:=(List.getElem?_eq_some_iff.1 hx).1;omega
   have key:=BS.sl (w:=w.alloc (.cells arr' e)) (A:=fun b=>B b∨Ex κ h b) s (chunk s len xs) w.heap.size 0 len (fun j c=>arr'.getD (j*s+c) undef) (by omega) (by omega) hA hel
    (fun j e' c x he' hx=>by have h1:=hget j e' c x he' hx;rw [BT (A8 w _) (by rw [zero_add];exact hlt _ x h1),zero_add])
    (fun j e' c x he' hx=>by have h1:=hget j e' c x he' hx;have h2:=hlt _ x h1;have h3:=hxt _ x (arr'.getD (j*s+c) undef) h1 (by simp [Array.getD,h2]);exact BS.ext (HN hh _) (h3.less fun b hb=>hb.imp id fun e=>⟨rfl,e⟩))
   rw [hcl] at key;exact key
 ·cases hr
theorem Bv {α:Type} (l:List α) (a:α) (i:Nat) {x:α} (hx:(l++[a])[i]? = some x):(i<l.length∧l[i]? = some x)∨(i=l.length∧x=a):=by
 rcases lt_or_ge i l.length with h1|h1
 ·rw [getElem?_append_left h1] at hx;exact .inl ⟨h1,hx⟩
 ·rw [getElem?_append_right h1] at hx;cases hn:i-l.length with
  |zero=>rw [hn] at hx;simp at hx;exact .inr ⟨by omega,hx.symm⟩
  |succ n=>rw [hn] at hx;simp at hx
theorem Uc {α:Type} {l:List α} {i:Nat} {x:α} (a:α) (hx:l[i]? = some x):(l++[a])[i]? = some x:=by rw [getElem?_append_left (List.getElem?_eq_some_iff.1 hx).1];exact hx
theorem Ag {α:Type} (l:List α) (a:α):(l++[a])[l.length]? = some a:=by simp
theorem Bb (hh:Ai B κ h w) {w':World} (h1:w'.os=w.os) (h2:w'.tape=w.tape) (h3:w'.output=w.output) (h4:w.heap.size≤w'.heap.size) (h5:∀b,b<w.heap.size→w'.heap[b]? = w.heap[b]?)
  {k:Option (Nat×Nat)} {o:AF} (hk:∀b base,k=some (b,base)→w.heap.size≤b):Ext κ h w (κ++[k]) (h++[o]) w' where
 os:=h1
 tape:=h2
 output:=h3
 size:=h4
 keep:=fun b hb _=>h5 b hb
 ex:=by
  rintro b ⟨i,base,o',hki,hoi,hf⟩
  rcases Bv κ k i hki with ⟨_,hki⟩|⟨rfl,he⟩
  ·rcases Bv h o i hoi with ⟨_,hoi⟩|⟨rfl,he⟩
   ·exact .inl ⟨i,base,o',hki,hoi,hf⟩
   ·have:=(List.getElem?_eq_some_iff.1 hki).1;rw [hh.len] at this;omega
  ·exact .inr (hk b base he.symm)
 obj:=fun i o' ho'=>⟨o',Uc o ho',.refl o'⟩
 kap:=fun i o1 o2 h1 h2 _=>by
  have:i<κ.length:=by rw [hh.len];exact (List.getElem?_eq_some_iff.1 h1).1
  exact getElem?_append_left this
 cells:=fun i o1 o2 ho1 ho2 _ b base hb cells elem fr hc=>⟨cells,by rw [← h5 b (hh.lt i b base hb)];exact hc,rfl⟩
theorem BK (hh:Ai B κ h w) {w':World} (h5:∀b,b<w.heap.size→w'.heap[b]? = w.heap[b]?) {k:Option (Nat×Nat)} {o:AF} (x:Ext κ h w (κ++[k]) (h++[o]) w')
  (hk:∀b base,k=some (b,base)→w.heap.size≤b∧b<w'.heap.size) (ho:GC B (κ++[k]) (h++[o]) w' k o):Ai B (κ++[k]) (h++[o]) w' where
 len:=by simp [hh.len]
 inj:=fun i j b bs bs' hi hj=>by
  rcases Bv κ k i hi with ⟨_,hi⟩|⟨rfl,hi1⟩
  ·rcases Bv κ k j hj with ⟨_,hj⟩|⟨rfl,hj1⟩
   ·exact hh.inj i j b bs bs' hi hj
   ·have:=(hk b bs' hj1.symm).1;have:=hh.lt i b bs hi;omega
  ·rcases Bv κ k j hj with ⟨_,hj⟩|⟨rfl,hj1⟩
   ·have:=(hk b bs hi1.symm).1;have:=hh.lt j b bs' hj;omega
   ·rfl
 notB:=fun i b bs hi hB=>by
  rcases Bv κ k i hi with ⟨_,hi⟩|⟨rfl,hi1⟩
  ·exact hh.notB i b bs hi hB
  ·have:=(hk b bs hi1.symm).1;have:=hh.ltB b hB;omega
 lt:=fun i b bs hi=>by
  rcases Bv κ k i hi with ⟨_,hi⟩|⟨rfl,hi1⟩
  ·exact lt_of_lt_of_le (hh.lt i b bs hi) x.size
  ·exact (hk b bs hi1.symm).2
 ltB:=fun b hb=>lt_of_lt_of_le (hh.ltB b hb) x.size
 obj:=fun i o' k' ho' hk'=>by
  rcases Bv κ k i hk' with ⟨hlt,hk'⟩|⟨rfl,rfl⟩
  ·rcases Bv h o i ho' with ⟨_,ho'⟩|⟨rfl,_⟩
   ·exact (hh.obj i o' k' ho' hk').ext x fun b base e=>h5 b (by subst e;exact hh.lt i b base hk')
   ·rw [hh.len] at hlt;omega
  ·rcases Bv h o _ ho' with ⟨hlt,_⟩|⟨_,rfl⟩
   ·rw [hh.len] at hlt;omega
   ·exact ho
theorem AZ.ext {κ':A0} {h':Heap} {w':World} (x:Ext κ h w κ' h' w') {cs:List AV} {arr:Array Value} (hc:AZ B κ h w cs arr):AZ B κ' h' w' cs arr:=
 ⟨hc.1,fun j y hy=>(hc.2 j y hy).ext x⟩
theorem G6 {P:Program}:∀{ts:List TypeId} {vs:List AV} {h:Heap} {κ:A0} {K:List AV→Heap→Option R} {r:R} {arr:List Value},Cs P ts vs h K=some r→Ai B κ h w→arr.length=vs.length→
  (∀(j:Nat) (x:AV) (v:Value),vs[j]? = some x→arr[j]? = some v→AP B κ h w x v)→
  ∃(vs':List AV) (g:Heap) (κ':A0),K vs' (h++g)=some r∧Ai B κ' (h++g) w∧Ext κ h w κ' (h++g) w∧vs'.length=vs.length∧
   (∀(j:Nat) (x:AV) (v:Value),vs'[j]? = some x→arr[j]? = some v→AP B κ' (h++g) w x v)∧(vs.all AV.leaf=true→vs'.all AV.leaf=true)
 |ts,[],h,κ,K,r,arr,hr,hh,hl,hv=>⟨[],[],κ,by simpa [Cs] using hr,by simpa using hh,by simpa using Ext.refl κ h w,rfl,fun j x v hx=>by simp at hx,fun _=>rfl⟩
 |ts,x::vs,h,κ,K,r,arr,hr,hh,hl,hv=>by
  cases arr with
  |nil=>simp at hl
  |cons v arr=>
   have hx:=hv 0 x v rfl rfl;by_cases hn:x = .nilsl
   ·subst hn;simp only [Cs] at hr;generalize (EO P (ts.headD 0)).getD 0=z0 at hr;have x1:Ext κ h w (κ++[none]) (h++[.row false 0 z0 []]) w:=Bb hh rfl rfl rfl (le_refl _) (fun _ _=>rfl) (fun b base e=>by cases e);have hh1:=BK hh (fun _ _=>rfl) x1 (fun b base e=>by cases e) (show GC B (κ++[none]) (h++[.row false 0 z0 []]) w none (.row false 0 z0 []) from rfl);obtain ⟨vs',g,κ',h1,h2,h3,h4,h5,h6⟩:=G6 (arr:=arr) hr hh1 (by simpa using hl) fun j x' v' hx' hv'=>(hv (j+1) x' v' (by simpa using hx') (by simpa using hv')).ext x1;refine ⟨_,.row false 0 z0 []::g,κ',by simpa using h1,by simpa using h2,by simpa using x1.trans h3,by simp [h4],fun j x' v' hx' hv' => ?_,fun ha=>by simp only [all_cons,and_eq_true] at ha ⊢;exact ⟨rfl,h6 ha.2⟩⟩
    cases j with
    |zero=>
     simp at hx' hv';subst hx' hv';cases hx with|nilsl a0=>
     have hnew:(h++[AF.row false 0 z0 []])[h.length]? = some (.row false 0 z0 []):=Ag h _;have hkn:(κ++[none])[h.length]? = some none:=by rw [← hh.len];exact Ag κ _
     have hs:AP B (κ++[none]) (h++[.row false 0 z0 []]) w (.sref h.length 0 0 0) (.slice a0 0 0):=by refine .sref _ _ _ _ _ rfl ⟨_,hnew,le_refl _⟩ fun k o hk ho _ => ?_;rw [hkn] at hk;cases hk;rw [hnew] at ho;cases ho;exact ⟨rfl,by simp [AF.len],.inl ⟨rfl,by simp [AF.len],⟨_,rfl⟩⟩⟩
     simpa using hs.ext h3
    |succ j=>simpa using h5 j x' v' (by simpa using hx') (by simpa using hv')
   ·have hr':(Cs P ts.tail vs h fun vs' h'=>K (x::vs') h')=some r:=by rw [← hr];cases x<;>first|exact (hn rfl).elim|rfl
    obtain ⟨vs',g,κ',h1,h2,h3,h4,h5,h6⟩:=G6 (arr:=arr) hr' hh (by simpa using hl) fun j x' v' hx' hv'=>hv (j+1) x' v' (by simpa using hx') (by simpa using hv');refine ⟨_,g,κ',h1,h2,h3,by simp [h4],fun j x' v' hx' hv' => ?_,fun ha => ?_⟩
    ·cases j with
     |zero=>simp at hx' hv';subst hx' hv';exact hx.ext h3
     |succ j=>exact h5 j x' v' (by simpa using hx') (by simpa using hv')
    ·simp only [all_cons,and_eq_true] at ha ⊢;exact ⟨ha.1,h6 ha.2⟩
theorem Gw {P:Program} {t0:TypeId} {cs:List AV} {K:AV→Heap→Option R} {r:R} (hr:Di P t0 cs h K=some r) (hh:Ai B κ h w) {arr:Array Value} (hc:AZ B κ h w cs arr) (t:TypeId) :
  ∃v h' κ',K v h'=some r∧AP B κ' h' (w.alloc (.cells arr t)) v (.pointer (some ⟨w.heap.size,0,none⟩))∧Ai B κ' h' (w.alloc (.cells arr t))∧Ext κ h w κ' h' (w.alloc (.cells arr t)):=by
 unfold Di at hr;obtain ⟨vs',g,κ1,hK,hh1,x1,hl,hv,_⟩:=G6 (arr:=arr.toList) hr hh (by simp [hc.1]) fun j x v hx hv=>by have h1:=hc.2 j x hx;rwa [Em arr.toList j undef hv] at h1
 have h5:∀b,b<w.heap.size→(w.alloc (.cells arr t)).heap[b]? = w.heap[b]? :=fun b hb=>Ak w _ hb;have x2:Ext κ1 (h++g) w (κ1++[some (w.heap.size,0)]) ((h++g)++[.box vs']) (w.alloc (.cells arr t)):=
  Bb (w':=w.alloc (.cells arr t)) hh1 rfl rfl rfl (by simp) h5 fun b base e=>by injection e with e;injection e with e;omega
 have hh2:=BK hh1 h5 x2 (fun b base e=>by injection e with e;injection e with e;subst e;exact ⟨le_refl _,by simp⟩)
  ⟨rfl,arr,t,A8 w _,by rw [hl];exact hc.1,fun j x hx=>by
   have hj:j<arr.size:=by rw [hc.1,← hl];exact (List.getElem?_eq_some_iff.1 hx).1
   exact (hv j x (arr.getD j undef) hx (by simp [Array.getD,hj])).ext x2⟩
 refine ⟨_,_,_,hK,?_,hh2,x1.trans x2⟩;have hk:(κ1++[some (w.heap.size,0)])[(h++g).length]? = some (some (w.heap.size,0)):=by rw [← hh1.len];exact Ag κ1 _
 exact .ptr _ 0 w.heap.size 0 hk ⟨vs',Ag _ _⟩
theorem Ou {P:Program} {t:TypeId} {len:Nat} {parts:List (Nat×AV)} {vparts:Array (Nat×Value)} {K:AV→Heap→Option R} {r:R} (hr:D2 P t h len parts K=some r) (hl:vparts.size=parts.length)
  (hp:∀(j i:Nat) (x:AV),parts[j]? = some (i,x)→∃v,vparts.toList[j]? = some (i,v)∧AP B κ h w x v) (hh:Ai B κ h w) :
  ∃v h' κ' val w',K v h'=some r∧(Instr.buildSlice t len vparts).run P w = .ok val w'∧AP B κ' h' w' v val∧Ai B κ' h' w'∧Ext κ h w κ' h' w':=by
 unfold D2 at hr
 try simp only [AE] at hr
 split at hr
 ·rename_i e hu;obtain ⟨s,hs,hr0⟩:=bind_some hr;obtain ⟨z,hz,hr1⟩:=bind_some hr0;obtain ⟨⟨hzl,hs0,hl0,hle⟩,hr2⟩:=AH hr1;obtain ⟨cs,hcs,hK⟩:=bind_some hr2;obtain ⟨i,v,hi,hv,hc⟩:=CE (B:=B) (κ:=κ) (h:=h) (w:=w) hz;have hvs:v.cells.size=s:=by rw [hc.1];exact hzl
  have hc0:AZ B κ h w (replicate len z).flatten ((Array.range (len*s)).map (v.cells[· % v.cells.size]!)):=by
   refine ⟨by rw [CA,hzl];simp,fun j x hx => ?_⟩;have hj:j<len*s:=by have:=(List.getElem?_eq_some_iff.1 hx).1;rw [CA,hzl] at this;exact this
   rw [EN z len j (by rw [hzl];exact hj)] at hx;have h1:=hc.2 _ x hx;have h2:j % z.length<v.cells.size:=by rw [hvs,hzl];exact mod_lt _ (by omega)
   have h3:((Array.range (len*s)).map (v.cells[· % v.cells.size]!)).getD j undef=v.cells.getD (j % z.length) undef:=by
    have h4:j % v.cells.size<v.cells.size:=by rw [hvs];exact mod_lt _ (by omega)
    simp [Array.getD,hj,hzl,hvs,mod_lt _ (pos_of_ne_zero hs0)]
   rw [h3];exact h1
  obtain ⟨arr',hf,hc'⟩:=I8 (vparts:=vparts.toList) hcs hc0 (by simpa using hl) hp;have hcsl:cs.length=len*s:=by rw [MH hcs,CA,hzl]
  have h0:¬len*s=0:=fun h=>(Nat.mul_eq_zero.1 h).elim hl0 hs0;have h5:∀b,b<w.heap.size→(w.alloc (.cells arr' e)).heap[b]? = w.heap[b]? :=fun b hb=>Ak w _ hb;have x2:Ext κ h w (κ++[some (w.heap.size,0)]) (h++[.box cs]) (w.alloc (.cells arr' e)):=
   Bb (w':=w.alloc (.cells arr' e)) hh rfl rfl rfl (by simp) h5 fun b base e=>by injection e with e;injection e with e;omega
  have hh2:=BK hh h5 x2 (fun b base e=>by injection e with e;injection e with e;subst e;exact ⟨le_refl _,by simp⟩)
   ⟨rfl,arr',e,A8 w _,hc'.1,fun j x hx=>by
    have hj:j<arr'.size:=by rw [hc'.1];exact (List.getElem?_eq_some_iff.1 hx).1
    exact (hc'.2 j x hx).ext x2⟩
  have hk:(κ++[some (w.heap.size,0)])[h.length]? = some (some (w.heap.size,0)):=by rw [← hh.len];exact Ag κ _
  refine ⟨_,_,_,.slice (some ⟨w.heap.size,0,none⟩) len len,w.alloc (.cells arr' e),hK,?_,?_,hh2,x2⟩
  ·have hz1:¬(len*s>2 ^ 24):=by omega
   have hzr:(zeroValue e).run P w = .ok v w:=by simp [zeroValue,typeInfo,hi,hv]
   simp only [Instr.buildSlice,Sem.run_bind,run_underlying hu,BL hs,Result.andThen_ok,Sem.run_ite,if_neg hz1,Sem.run_pure];rw [if_neg h0];simp only [hzr,Result.andThen_ok,hf];rfl
  ·exact .bsl _ 0 len s len w.heap.size hk ⟨cs,Ag _ _,by omega⟩ (le_refl _)
 ·cases hr
theorem D5 {α:Type} {l:List α} {i:Nat} {a:α} {j:Nat} {x:α} (hx:(l.set i a)[j]? = some x):(j=i∧i<l.length∧x=a)∨(j≠i∧l[j]? = some x):=by
 rw [List.getElem?_set] at hx;by_cases hij:i=j
 ·subst hij;rw [if_pos rfl] at hx;split at hx
  ·rename_i hl;cases hx;exact .inl ⟨rfl,hl,rfl⟩
  ·cases hx
 ·rw [if_neg hij] at hx;exact .inr ⟨fun e=>hij e.symm,hx⟩
theorem Aq {α:Type} {l:List α} {i:Nat} {a x:α} (hx:l[i]? = some x):(l.set i a)[i]? = some a:=by have:=(List.getElem?_eq_some_iff.1 hx).1;simp [this]
theorem CX {α:Type} {l:List α} {i j:Nat} {a:α} (hij:j≠i):(l.set i a)[j]? = l[j]? :=by rw [List.getElem?_set,if_neg (Ne.symm hij)]
theorem CW (hh:Ai B κ h w) {i:Nat} {o o':AF} (hi:h[i]? = some o) (hf:o.KP=false) (hOL:OLe o o') {k k':Option (Nat×Nat)} (hk:κ[i]? = some k) {w':World}
  (h1:w'.os=w.os) (h2:w'.tape=w.tape) (h3:w'.output=w.output) (h4:w.heap.size≤w'.heap.size)
  (h5:∀b,b<w.heap.size→(∀base,k≠some (b,base))→w'.heap[b]? = w.heap[b]?)
  (h6:∀b base,k'=some (b,base)→(∃base0,k=some (b,base0))∨w.heap.size≤b)
  (h7:o.ver=o'.ver→k'=k∧∀b base,k=some (b,base)→∀cells elem fr,w'.heap[b]? = some (.cells cells elem fr)→∃cells',w.heap[b]? = some (.cells cells' elem fr)∧cells'.size=cells.size) :
  Ext κ h w (κ.set i k') (h.set i o') w' where
 os:=h1
 tape:=h2
 output:=h3
 size:=h4
 keep:=fun b hb hn=>h5 b hb fun base e=>hn ⟨i,base,o,by rw [hk,e],hi,hf⟩
 ex:=by
  rintro b ⟨j,base,oj,hkj,hoj,hfj⟩
  rcases D5 hkj with ⟨rfl,_,e⟩|⟨hne,hkj⟩
  ·rcases h6 b base e.symm with ⟨base0,e0⟩|hle
   ·exact .inl ⟨_,base0,o,by rw [hk,e0],hi,hf⟩
   ·exact .inr hle
  ·rw [CX hne] at hoj;exact .inl ⟨j,base,oj,hkj,hoj,hfj⟩
 obj:=fun j oj hoj=>by
  by_cases hij:j=i
  ·subst hij;rw [hi] at hoj;cases hoj;exact ⟨o',Aq hi,hOL⟩
  ·exact ⟨oj,by rw [CX hij];exact hoj,.refl oj⟩
 kap:=fun j o1 o2 ho1 ho2 hv=>by
  by_cases hij:j=i
  ·subst hij;rw [hi] at ho1;cases ho1;rw [Aq hi] at ho2;cases ho2;rw [Aq hk,hk,(h7 hv).1]
  ·rw [CX hij]
 cells:=fun j o1 o2 ho1 ho2 hv b base hkb cells elem fr hc=>by
  by_cases hij:j=i
  ·subst hij;rw [hi] at ho1;cases ho1;rw [Aq hi] at ho2;cases ho2;rw [hk] at hkb;cases hkb;exact (h7 hv).2 b base rfl cells elem fr hc
  ·refine ⟨cells,?_,rfl⟩;rw [← h5 b (hh.lt j b base hkb) fun base' e=>hij (hh.inj j i b base base' hkb (by rw [hk,e]))];exact hc
theorem Bu (hh:Ai B κ h w) {i:Nat} {o o':AF} (hi:h[i]? = some o) {k k':Option (Nat×Nat)} (hk:κ[i]? = some k) {w':World}
  (h5:∀b,b<w.heap.size→(∀base,k≠some (b,base))→w'.heap[b]? = w.heap[b]?)
  (h6:∀b base,k'=some (b,base)→((∃base0,k=some (b,base0))∨w.heap.size≤b)∧b<w'.heap.size)
  (x:Ext κ h w (κ.set i k') (h.set i o') w') (ho:GC B (κ.set i k') (h.set i o') w' k' o'):Ai B (κ.set i k') (h.set i o') w' where
 len:=by simp [hh.len]
 inj:=fun a j b bs bs' ha hj=>by
  by_cases hai:a=i
  ·by_cases hji:j=i
   ·rw [hai,hji]
   ·rcases D5 hj with ⟨e,_,_⟩|⟨_,hj⟩
    ·exact (hji e).elim
    rcases D5 ha with ⟨_,_,e1⟩|⟨hne1,_⟩
    ·rcases (h6 b bs e1.symm).1 with ⟨b0,e0⟩|hle
     ·rw [hai];exact (hh.inj j i b bs' b0 hj (by rw [hk,e0])).symm
     ·have:=hh.lt j b bs' hj;omega
    ·exact (hne1 hai).elim
  ·rcases D5 ha with ⟨e,_,_⟩|⟨_,ha⟩
   ·exact (hai e).elim
   by_cases hji:j=i
   ·rcases D5 hj with ⟨_,_,e1⟩|⟨hne1,_⟩
    ·rcases (h6 b bs' e1.symm).1 with ⟨b0,e0⟩|hle
     ·rw [hji];exact hh.inj a i b bs b0 ha (by rw [hk,e0])
     ·have:=hh.lt a b bs ha;omega
    ·exact (hne1 hji).elim
   ·rcases D5 hj with ⟨e,_,_⟩|⟨_,hj⟩
    ·exact (hji e).elim
    ·exact hh.inj a j b bs bs' ha hj
 notB:=fun a b bs ha hB=>by
  rcases D5 ha with ⟨rfl,_,e1⟩|⟨hne1,ha⟩
  ·rcases (h6 b bs e1.symm).1 with ⟨b0,e0⟩|hle
   ·exact hh.notB _ b b0 (by rw [hk,e0]) hB
   ·have:=hh.ltB b hB;omega
  ·exact hh.notB a b bs ha hB
 lt:=fun a b bs ha=>by
  rcases D5 ha with ⟨rfl,_,e1⟩|⟨hne1,ha⟩
  ·exact (h6 b bs e1.symm).2
  ·exact lt_of_lt_of_le (hh.lt a b bs ha) x.size
 ltB:=fun b hb=>lt_of_lt_of_le (hh.ltB b hb) x.size
 obj:=fun j oj kj hoj hkj=>by
  by_cases hij:j=i
  ·subst hij;rw [Aq hi] at hoj;cases hoj;rw [Aq hk] at hkj;cases hkj;exact ho
  ·rw [CX hij] at hoj hkj;refine (hh.obj j oj kj hoj hkj).ext x fun b base e => ?_;subst e;exact h5 b (hh.lt j b base hkj) fun base' e'=>hij (hh.inj j i b base base' hkj (by rw [hk,e']))
end Ab
namespace Ab
open Go
variable {R:Type} {P:Program} {B:Nat→Prop} {κ:A0} {h:Heap} {w:World}
def Ah (cells:Array Value) (o:Nat) (vals:List Value):Array Value:=(cells.toList.take o++vals++cells.toList.drop (o+vals.length)).toArray
theorem CF (cells:Array Value) (o:Nat) (vals:List Value) (hle:o+vals.length≤cells.size):(Ah cells o vals).size=cells.size:=by simp [Ah];omega
theorem BQ {α:Type} (l:List α) (j:Nat) (d:α):l.toArray.getD j d=l.getD j d:=by simp [Array.getD,List.getD];split<;>simp_all
theorem BI (cells:Array Value) (o:Nat) (vals:List Value) (hle:o+vals.length≤cells.size) (j:Nat) :
  (Ah cells o vals).getD j undef=if o≤j∧j<o+vals.length then vals.getD (j-o) undef else cells.getD j undef:=by
 unfold Ah;rw [BQ];have hl:(cells.toList.take o).length=o:=by simp;omega
 simp only [List.getD];by_cases h1:j<o
 ·rw [append_assoc,getElem?_append_left (by omega),getElem?_take_of_lt h1,if_neg (by omega)];have:j<cells.size:=by omega
  simp [Array.getD,this]
 ·by_cases h2:j<o+vals.length
  ·rw [getElem?_append_left (by simp;omega),getElem?_append_right (by omega),hl,if_pos ⟨by omega,h2⟩]
  ·rw [getElem?_append_right (by simp;omega),if_neg (by omega),getElem?_drop];have:(cells.toList.take o++vals).length=o+vals.length:=by simp;omega
   rw [this,show o+vals.length+(j-(o+vals.length))=j from by omega];by_cases h3:j<cells.size
   ·simp [Array.getD,h3]
   ·simp [Array.getD,h3]
theorem Ms.cell {z b o:Nat} {cells:Array Value} {el:TypeId} {fr:Nat×Nat} (ht:Ms z cells.size fr) (hb:w.heap[b]? = some (.cells cells el fr)) (ho:o<cells.size):w.frozen? ⟨b,o,none⟩=false:=by
 obtain ⟨lo,hi⟩:=fr;rcases ht with h|⟨_,h⟩
 ·cases h;simp [World.frozen?,hb]
 ·simp only [World.frozen?,hb,Bool.and_eq_false_iff,decide_eq_false_iff_not];left;simp only at h;omega
theorem BX (P:Program) (g o z:Nat) (t:TypeId) (fr:Nat×Nat):∀(vs:List Value) (i:Nat) (cur:Array Value) (w:World),w.heap[g]? = some (.cells cur t fr)→Ms z cur.size fr→o+i+vs.length≤cur.size→(∀v∈vs,v.oneCell'=true)→
  (storeCells ⟨g,o,none⟩ vs i).run P w = .ok () (w.setRow g (cur.toList.take (o+i)++vs++cur.toList.drop (o+i+vs.length)).toArray)
 |[],i,cur,w,hg,_,_,_=>by simp only [storeCells,append_nil,length_nil,add_zero,List.take_append_drop,toArray_toList];rw [setRow_self w g cur t fr hg];rfl
 |v::rest,i,cur,w,hg,ht,hl,h1=>by
  have hi:o+i<cur.size:=by simp at hl;omega
  have hadd:(⟨g,o,none⟩:Addr).add i=⟨g,o+i,none⟩:=by unfold Addr.add;split<;>simp_all
  have hcell:w.cell? ⟨g,o+i,none⟩=some cur[o+i]:=by simp [World.cell?,hg,hi]
  have hfro:w.frozen? ⟨g,o+i,none⟩=false:=ht.cell hg hi;have hst:(store ((⟨g,o,none⟩:Addr).add i) v).run P w = .ok () (w.setRow g (cur.setIfInBounds (o+i) v)):=by rw [hadd,run_store P w _ v _ (h1 v (by simp)),hcell];simp [hfro,setCell_eq_setRow w g (o+i) cur t fr v hg]
  have ih:=BX P g o z t fr rest (i+1) (cur.setIfInBounds (o+i) v) (w.setRow g (cur.setIfInBounds (o+i) v)) (setRow_heap w g cur _ t _ hg) (by simpa using ht) (by simp at hl ⊢;omega) (fun x hx=>h1 x (by simp [hx]));simp only [storeCells,Sem.run_bind,hst,Result.andThen_ok,ih,setRow_setRow];congr 3;have e:=list_seg_step cur.toList (o+i) v rest (by simp at hl ⊢;omega);simpa [Array.toList_setIfInBounds,add_assoc] using e
theorem Ig {t:TypeId} {n:Nat} (hn:BZ P t=some n) {b o:Nat} {cells:Array Value} {elem:TypeId} {fr:Nat×Nat} {z:Nat} (hb:w.heap[b]? = some (.cells cells elem fr)) (hth:Ms z cells.size fr) {val:Value} (hv:val.cells.size=n)
  (hle:o+n≤cells.size) (h1:∀v∈val.cells.toList,v.oneCell'=true) :
  (Instr.storeAt t (.pointer (some ⟨b,o,none⟩)) val).run P w = .ok () (w.setRow b (Ah cells o val.cells.toList)):=by
 have hst:=BX P b o z elem fr val.cells.toList 0 cells w hb hth (by simp [hv];omega) h1;simp only [Instr.storeAt,Instr.sureAddr,storeVar,Sem.run_bind,Sem.run_pure,Result.andThen_ok,BL hn,Sem.run_ite];rw [if_neg (by simp [hv])];simp only [hst,add_zero];rfl
theorem setRow_other (w:World) (g:Nat) (cs:Array Value) {b:Nat} (hb:b≠g):(w.setRow g cs).heap[b]? = w.heap[b]? :=by simp [World.setRow,getElem?_modify,Ne.symm hb]
theorem setRow_size (w:World) (g:Nat) (cs:Array Value):(w.setRow g cs).heap.size=w.heap.size:=by simp [World.setRow]
theorem Oq {vs:List AV} {vals:List Value} (hl:vs.all AV.leaf=true) (hlen:vals.length=vs.length) (hv:∀(j:Nat) (x:AV) (v:Value),vs[j]? = some x→vals[j]? = some v→AP B κ h w x v) :
  ∀v∈vals,v.oneCell'=true:=by
 intro v hm;obtain ⟨j,hj,rfl⟩:=List.getElem_of_mem hm;have hj':j<vs.length:=by omega
 refine Pp ?_ (hv j vs[j] vals[j] (getElem?_eq_getElem hj') (getElem?_eq_getElem hj));exact (all_eq_true.1 hl) _ (getElem_mem hj')
theorem Bi {cs:List AV} {arr:Array Value} (hc:AZ B κ h w cs arr) (j:Nat) (x:AV) (v:Value) (hx:cs[j]? = some x) (hv:arr.toList[j]? = some v):AP B κ h w x v:=by have h1:=hc.2 j x hx;rwa [Em arr.toList j undef hv] at h1
theorem Jk (hh:Ai B κ h w):∀{os vs:List AV} {K:List AV→Option R} {r:R},Cf h os vs K=some r→(∀(j:Nat) (o:AV),os[j]? = some o→∃v,AP B κ h w o v)→
  ∀{arr:List Value},(∀(j:Nat) (x:AV) (v:Value),vs[j]? = some x→arr[j]? = some v→AP B κ h w x v)→∃vs',K vs'=some r∧vs'.length=vs.length∧∀(j:Nat) (x:AV) (v:Value),vs'[j]? = some x→arr[j]? = some v→AP B κ h w x v
 |os,[],K,r,hr,_,arr,hv=>⟨[],by cases os<;>simpa [Cf] using hr,rfl,hv⟩
 |[],v::vs,K,r,hr,_,arr,hv=>⟨v::vs,by simpa [Cf] using hr,rfl,hv⟩
 |o::os,v::vs,K,r,hr,ho,arr,hv=>by
  have hos:∀(j:Nat) (x:AV),os[j]? = some x→∃v,AP B κ h w x v:=fun j x hx=>ho (j+1) x (by simpa using hx);have plain:(Cf h os vs fun vs'=>K (v::vs'))=some r→∃vs',K vs'=some r∧vs'.length=(v::vs).length∧∀(j:Nat) (x:AV) (u:Value),vs'[j]? = some x→arr[j]? = some u→AP B κ h w x u:=fun hr=>by
   obtain ⟨vs',h1,h2,h3⟩:=Jk hh hr hos (arr:=arr.tail) fun j x u hx hu=>hv (j+1) x u (by simpa using hx) (by cases arr<;>simp at hu ⊢;exact hu);refine ⟨v::vs',h1,by simp [h2],fun j x u hx hu => ?_⟩;cases j with
   |zero=>exact hv 0 x u (by simpa using hx) hu
   |succ j=>exact h3 j x u (by simpa using hx) (by cases arr<;>simp at hu ⊢;exact hu)
  unfold Cf at hr;split at hr
  ·rename_i i ver off len;split at hr
   ·rename_i f ver' size es hi
    try simp only [AE] at hr
    obtain ⟨rfl,hr⟩:=AH hr;obtain ⟨vs',h1,h2,h3⟩:=Jk hh hr hos (arr:=arr.tail) fun j x u hx hu=>hv (j+1) x u (by simpa using hx) (by cases arr<;>simp at hu ⊢;exact hu);refine ⟨_,h1,by simp [h2],fun j x u hx hu => ?_⟩;cases j with
    |zero=>
     simp at hx;subst hx;have hn:AP B κ h w .nilsl u:=hv 0 .nilsl u rfl hu;obtain ⟨v0,hv0⟩:=ho 0 _ rfl;cases hn with
     |nilsl a0=>
      cases hv0 with
      |sref _ _ _ _ _ _ hex hsr=>
       refine .sref _ _ _ _ _ rfl hex fun k o hk ho' he => ?_;have:=hsr k o hk ho' he;rw [hi] at ho';cases ho';exact ⟨this.1,by simp [AF.len],.inl ⟨rfl,by simp [AF.len],⟨_,rfl⟩⟩⟩
    |succ j=>exact h3 j x u (by simpa using hx) (by cases arr<;>simp at hu ⊢;exact hu)
   ·exact plain hr
  ·exact plain hr
theorem Nv {t:TypeId} {a v:AV} {K:Heap→Option R} {r:R} (hr:Et P t h a v K=some r) (hh:Ai B κ h w) {va vv:Value} (ha:AP B κ h w a va) (hv:AP B κ h w v vv) :
  ∃h' κ' w',K h'=some r∧(Instr.storeAt t va vv).run P w = .ok () w'∧Ai B κ' h' w'∧Ext κ h w κ' h' w':=by
 unfold Et at hr
 try simp only [AE] at hr
 split at hr
 ·rename_i vs n hvs hn;obtain ⟨⟨hlen,hleaf⟩,hr1⟩:=AH hr;clear hr;have hc:=Gt hvs hv;have hone:=Oq hleaf (by simp [hc.1]) (Bi hc);split at hr1
  ·rename_i i off;split at hr1
   ·rename_i cs hi;obtain ⟨hle,hr2⟩:=AH hr1;have hold:∀(j:Nat) (o:AV),(cs.drop off)[j]? = some o→∃v,AP B κ h w o v:=fun j o ho=>by
     cases ha with
     |ptr _ _ b base hk _=>
      obtain ⟨_,cells0,elem0,_,_,hcv0⟩:=hh.obj i _ _ hi hk;exact ⟨_,hcv0 (off+j) o (by rw [getElem?_drop] at ho;exact ho)⟩
    obtain ⟨vs1,hr3,hl1,hv1⟩:=Jk (arr:=vv.cells.toList) hh hr2 hold (Bi hc);obtain ⟨vs',g,κ1,hK,hh1,x1,hl',hv',_⟩:=G6 (arr:=vv.cells.toList) hr3 hh (by simp [hc.1,hl1]) hv1;rw [hl1] at hl';have hi1:(h++g)[i]? = some (.box cs):=by rw [getElem?_append_left (List.getElem?_eq_some_iff.1 hi).1];exact hi
    cases ha with
    |ptr _ _ b base hk _=>
     obtain ⟨o',ho',_⟩:=x1.obj i _ hi;have hk1:κ1[i]? = some (some (b,base)):=(x1.kap i _ _ hi hi1 rfl).trans hk;obtain ⟨hb0,cells,elem,hcell,hs,hcv⟩:=hh1.obj i _ _ hi1 hk1;subst hb0;have hvl:vv.cells.toList.length=n:=by simp [hc.1,hlen]
     have hrun:=Ig (P:=P) (o:=0+off) (z:=0) hn hcell (.inl rfl) (val:=vv) (by simpa using hvl) (by omega) hone;have hsz:=CF cells (0+off) vv.cells.toList (by omega);have hnew:=setRow_heap w b cells (Ah cells (0+off) vv.cells.toList) elem _ hcell;obtain ⟨s1,s2⟩:=FU cs vs' off (by omega);have x2:Ext κ1 (h++g) w (κ1.set i (some (b,0))) ((h++g).set i (.box (setAt cs off vs'))) (w.setRow b (Ah cells (0+off) vv.cells.toList)):=by refine CW (o' :=.box (setAt cs off vs')) (k':=some (b,0)) (w':=w.setRow b (Ah cells (0+off) vv.cells.toList)) hh1 hi1 rfl ⟨rfl,le_refl _,(fun _=>⟨rfl,by simp [AF.len,s1]⟩),(fun e=>by cases e),(fun _=>by simp [AF.len,s1]),rfl⟩ hk1 rfl rfl rfl (by rw [setRow_size];exact le_refl _) (fun b' _ hb'=>setRow_other w b _ fun e=>hb' 0 (by rw [e])) (fun b' base' e=>by injection e with e;injection e with e1 e2;subst e1;exact .inl ⟨0,rfl⟩) (fun _=>⟨rfl,fun b' base' e cells' elem' fr' hc' => ?_⟩);cases e;rw [hnew] at hc';cases hc';exact ⟨cells,hcell,hsz.symm⟩
     refine ⟨_,_,_,hK,hrun,Bu hh1 hi1 hk1 (fun b' _ hb'=>setRow_other w b _ fun e=>hb' 0 (by rw [e])) (fun b' base' e=>by injection e with e;injection e with e1 e2;subst e1;exact ⟨.inl ⟨0,rfl⟩,by rw [setRow_size];exact hh1.lt i b 0 hk1⟩) x2 ?_,x1.trans x2⟩;refine ⟨rfl,_,elem,hnew,by rw [hsz,s1,hs],fun j x hx => ?_⟩;rw [s2 j] at hx;rw [BI cells _ _ (by omega)];by_cases hj:off≤j∧j<off+vs'.length
     ·rw [if_pos hj] at hx;rw [if_pos ⟨by omega,by omega⟩];have hjl:j-off<vv.cells.toList.length:=by omega
      refine (hv' (j-off) x _ hx ?_).ext x2;rw [zero_add];exact BP _ _ _ hjl
     ·rw [if_neg hj] at hx;rw [if_neg (by omega)];exact (hcv j x hx).ext x2
   ·cases hr1
  ·rename_i i ver k off;split at hr1
   ·rename_i ver' size es hi;obtain ⟨⟨rfl,hle⟩,hr2⟩:=AH hr1;clear hr1;obtain ⟨e,he,hr3⟩:=bind_some hr2;obtain ⟨ys,hK,hyl,_,hyt⟩:=Cc (vs:=vv.cells.toList) hr3 hh (by simp [hc.1]) (Bi hc);cases ha with
    |rptr _ _ _ _ _ _ hex hv2=>
     obtain ⟨b,base,hk,rfl,_,_⟩:=hv2 _ hi rfl;obtain ⟨hz0,cells,elem,fr,hcell,hth,hs,hls,hcv⟩:=hh.obj i _ _ hi hk;have hkl:k<es.length:=(List.getElem?_eq_some_iff.1 he).1;have hmul:k*size+size≤es.length*size:=by rw [← succ_mul];exact mul_le_mul_right _ hkl
     have hvl:vv.cells.toList.length=n:=by simp [hc.1,hlen]
     have hel:=hls k e he;simp only [AF.size];have hrun:=Ig (P:=P) (o:=base+(k*size+off)) hn hcell hth (val:=vv) (by simpa using hvl) (by omega) hone;have hsz:=CF cells (base+(k*size+off)) vv.cells.toList (by omega);have hnew:=setRow_heap w b cells (Ah cells (base+(k*size+off)) vv.cells.toList) elem _ hcell;have hset:(κ.set i (some (b,base)))=κ:=by
      apply ext_getElem?;intro j;by_cases hij:j=i
      ·rw [hij,Aq hk,hk]
      ·rw [CX hij]
     have x2:Ext κ h w κ (h.set i (.row false ver' size (es.set k (e.take off++(ys++e.drop (off+n)))))) (w.setRow b (Ah cells (base+(k*size+off)) vv.cells.toList)):=by
      have x2':Ext κ h w (κ.set i (some (b,base))) (h.set i (.row false ver' size (es.set k (e.take off++(ys++e.drop (off+n)))))) (w.setRow b (Ah cells (base+(k*size+off)) vv.cells.toList)):=by refine CW (o' :=.row false ver' size (es.set k (e.take off++(ys++e.drop (off+n))))) (k':=some (b,base)) (w':=w.setRow b (Ah cells (base+(k*size+off)) vv.cells.toList)) hh hi rfl ⟨rfl,le_refl _,(fun _=>⟨rfl,by simp [AF.len]⟩),(fun e=>by cases e),(fun e=>by cases e),rfl⟩ hk rfl rfl rfl (by rw [setRow_size];exact le_refl _) (fun b' _ hb'=>setRow_other w b _ fun e=>hb' base (by rw [e])) (fun b' base' e=>by injection e with e;injection e with e1 e2;subst e1;exact .inl ⟨base,rfl⟩) (fun _=>⟨rfl,fun b' base' e cells' elem' fr' hc' => ?_⟩);cases e;rw [hnew] at hc';cases hc';exact ⟨cells,hcell,hsz.symm⟩
      rw [hset] at x2';exact x2'
     have hh2:Ai B (κ.set i (some (b,base))) (h.set i (.row false ver' size (es.set k (e.take off++(ys++e.drop (off+n)))))) (w.setRow b (Ah cells (base+(k*size+off)) vv.cells.toList)):=by
      refine Bu hh hi hk (fun b' _ hb'=>setRow_other w b _ fun e=>hb' base (by rw [e])) (fun b' base' e=>by injection e with e;injection e with e1 e2;subst e1;exact ⟨.inl ⟨base,rfl⟩,by rw [setRow_size];exact hh.lt i b base hk⟩) (by rw [hset];exact x2) ?_;rw [hset];have hnl:(e.take off++(ys++e.drop (off+n))).length=size:=by simp;omega
      refine ⟨hz0,_,elem,fr,hnew,by rw [hsz];exact hth,by rw [hsz];simpa using hs,fun j e' he' => ?_,fun j e' c x he' hx => ?_⟩
      ·rcases D5 he' with ⟨rfl,_,rfl⟩|⟨_,he'⟩
       ·exact hnl
       ·exact hls j e' he'
      ·rw [BI cells _ _ (by omega),hvl];rcases D5 he' with ⟨rfl,_,rfl⟩|⟨hne,he'⟩
       ·have hcl:c<size:=by rw [← hnl];exact (List.getElem?_eq_some_iff.1 hx).1
        have hyn:ys.length=n:=by omega
        by_cases h1:c<off
        ·rw [getElem?_append_left (by simp;omega),getElem?_take_of_lt h1] at hx;rw [if_neg (by omega)];exact (hcv _ e c x he hx).ext x2
        ·rw [getElem?_append_right (by simp;omega)] at hx;have hlt:(e.take off).length=off:=by simp;omega
         rw [hlt] at hx;by_cases h2:c<off+n
         ·rw [getElem?_append_left (by omega)] at hx;rw [if_pos ⟨by omega,by omega⟩,show base+(j*size+c)-(base+(j*size+off))=c-off from by omega];have h3:=hyt (c-off) x (vv.cells.toList.getD (c-off) undef) hx (BP _ _ _ (by omega));exact BS.ext x2 (h3.less fun b hb=>hb.imp id fun e=>⟨rfl,e⟩)
         ·rw [getElem?_append_right (by omega),getElem?_drop,hyn,show off+n+(c-off-n)=c from by omega] at hx;rw [if_neg (by omega)];exact (hcv _ e c x he hx).ext x2
       ·have hcl:c<size:=by rw [← hls j e' he'];exact (List.getElem?_eq_some_iff.1 hx).1
        rw [if_neg ?_]
        ·exact (hcv j e' c x he' hx).ext x2
        ·rintro ⟨h1,h2⟩
         rcases Nat.lt_or_gt_of_ne hne with hlt|hgt
         ·have:=mul_le_mul_right size (show j+1≤k from hlt);rw [succ_mul] at this;omega
         ·have:=mul_le_mul_right size (show k+1≤j from hgt);rw [succ_mul] at this;omega
     rw [hset] at hh2;exact ⟨_,_,_,hK,hrun,hh2,x2⟩
   ·cases hr1
  ·cases hr1
 ·cases hr
theorem Mf {t:TypeId} {s:Nat} (hs:Mg P t=some s):∃e i z,P.underlying t=some (.slice e)∧P.info? e=some i∧i.zero=some z∧i.size=s∧s≠0∧z.cells.size=s∧i.bytes≤65536:=by
 unfold Mg at hs;split at hs
 ·rename_i e hu;split at hs
  ·rename_i i hi;split at hs
   ·rename_i z hz;obtain ⟨⟨h1,h2,h3⟩,h4⟩:=AH hs;cases h4;exact ⟨e,i,z,hu,hi,hz,rfl,h1,h2,h3⟩
   ·cases hs
  ·cases hs
 ·cases hs
theorem Iy {A:Nat→Prop} {z:Nat} (hz:z≠0) {new:List (List Tree)} {v:Value} (hs:Dp w A z new v) (hn:new≠[]) :
  ∃(b o cap:Nat) (news:List Value),v = .slice (some ⟨b,o,none⟩) new.length cap∧news.length=new.length*z∧(∀j u,news[j]? = some u→w.cell? ((⟨b,o,none⟩:Addr).add j)=some u)∧
   (∀u∈news,u.oneCell'=true)∧∀(j:Nat) (e:List Tree) (c:Nat) (x:Tree),new[j]? = some e→e[c]? = some x→BS w A x (news.getD (j*z+c) undef):=by
 obtain ⟨hl,a,cap,rfl,_,hc⟩:=hs;rcases hc with hc|⟨b,o,rfl,_,hc⟩
 ·exact (hn hc).elim
 ·have key:∀q,q<new.length*z→∃u,w.cell? ⟨b,o+q,none⟩=some u∧u.oneCell'=true:=by
   intro q hq;have h1:q / z<new.length:=Nat.div_lt_of_lt_mul (by rw [mul_comm];exact hq);have he:new[q / z]? = some new[q / z]:=getElem?_eq_getElem h1;have hel:=hl _ _ he;have h2:q % z<(new[q / z]).length:=by rw [hel];exact mod_lt _ (pos_of_ne_zero hz)
   obtain ⟨u,hu,ht⟩:=hc _ _ _ _ he (getElem?_eq_getElem h2);refine ⟨u,?_,ht.one⟩;rw [mul_comm,Nat.div_add_mod] at hu;exact hu
  have hget:∀q,q<new.length*z→((List.range (new.length*z)).map fun q=>(w.cell? ⟨b,o+q,none⟩).getD undef)[q]? = some ((w.cell? ⟨b,o+q,none⟩).getD undef):=fun q hq=>by simp [hq]
  refine ⟨b,o,cap,(List.range (new.length*z)).map fun q=>(w.cell? ⟨b,o+q,none⟩).getD undef,rfl,by simp,fun j u hu => ?_,fun u hu => ?_,fun j e c x he hx => ?_⟩
  ·have hj:j<new.length*z:=by simpa using (List.getElem?_eq_some_iff.1 hu).1
   rw [hget j hj] at hu;obtain ⟨u',hu',_⟩:=key j hj;rw [hu'] at hu;simp at hu;subst hu;rw [Dj];exact hu'
  ·simp only [mem_map,mem_range] at hu;obtain ⟨q,hq,rfl⟩:=hu;obtain ⟨u',hu',h1⟩:=key q hq;rw [hu'];exact h1
  ·have hj:j<new.length:=(List.getElem?_eq_some_iff.1 he).1;have hcl:c<z:=by rw [← hl j e he];exact (List.getElem?_eq_some_iff.1 hx).1
   have hq:j*z+c<new.length*z:=by have:=mul_le_mul_right z (show j+1≤new.length from hj);rw [succ_mul] at this;omega
   obtain ⟨u,hu,ht⟩:=hc j e c x he hx;have:=hget _ hq;simp only [List.getD,this,Option.getD_some,hu];exact ht
theorem run_append_nil' (base:Option Addr) (w:World) (t ty e:TypeId) (i:TypeInfo) (z:Value) (ht:P.underlying t=some (.slice e)) (hi:P.info? e=some i) (hz:i.zero=some z)
  (a:Addr) (n c:Nat) (news:List Value) (hl:news.length=n*i.size) (hnews:∀j v,news[j]? = some v→w.cell? (a.add j)=some v)
  (h0:0<n) (h63:(n:Int)≤9223372036854775807) (h48:n*i.bytes≤281474976710656) :
  (Builtin.append_ #[t,t] ty #[.slice base 0 0,.slice (some a) n c]).run P w =
   .ok (.slice (some ⟨w.heap.size,0,none⟩) n (grownCap w n 0 e)) (w.drew.alloc (.cells (news.toArray++Builtin.zeroCells z.cells (grownCap w n 0 e-n)) e)):=by
 cases base with
 |none=>exact run_append_nil (P:=P) w t ty e i z ht hi hz a n c news hl hnews h0 h63 h48
 |some a0=>
  have hn:n≠0:=by omega
  have h63':¬(9223372036854775807<(n:Int)):=by omega
  have h48':¬(281474976710656<Builtin.nextslicecap n 0*i.bytes):=by rw [nextslicecap_zero h0];omega
  have hf:=run_firstCells_some (P:=P) w.drew i.size n a n c news hl (by simpa using hnews);have hf0:=run_firstCells_some (P:=P) w.drew i.size 0 a0 0 0 [] (by simp) (by simp);simp [Builtin.append_,run_underlying ht,Go.sizeOf,typeInfo,zeroValue,hi,hz,Builtin.lenOf,hn,h63',h48',Question.forced,hf0,hf,newRow,grownCap]
theorem EI {t ty e:TypeId} {i:TypeInfo} (hu:P.underlying t=some (.slice e)) (hi:P.info? e=some i) (base:Option Addr) (Ax sCap:Nat) (a:Option Addr) (c:Nat) (hle:Ax≤sCap) :
  (Builtin.append_ #[t,t] ty #[.slice base Ax sCap,.slice a 0 c]).run P w = .ok (.slice base Ax sCap) w:=by
 cases a with
 |none=>cases base<;>simp [Builtin.append_,run_underlying hu,Go.sizeOf,typeInfo,hi,Builtin.lenOf,hle,Builtin.firstCells,storeCells]
 |some a=>cases base<;>simp [Builtin.append_,run_underlying hu,Go.sizeOf,typeInfo,hi,Builtin.lenOf,hle,Builtin.firstCells,loadCells,loadCellsFrom,storeCells]
theorem run_append_room' {t ty e:TypeId} {i:TypeInfo} (ht:P.underlying t=some (.slice e)) (hi:P.info? e=some i)
  {g o Ax sCap zt:Nat} {cur:Array Value} {el:TypeId} {fr:Nat×Nat} (hg:w.heap[g]? = some (.cells cur el fr)) (hth:Ms zt cur.size fr)
  {a:Addr} {m c:Nat} {news:List Value} (hl:news.length=m*i.size) (hnews:∀j u,news[j]? = some u→w.cell? (a.add j)=some u) (h1:∀u∈news,u.oneCell'=true)
  (hroom:Ax+m≤sCap) (hfit:o+Ax*i.size+news.length≤cur.size) :
  (Builtin.append_ #[t,t] ty #[.slice (some ⟨g,o,none⟩) Ax sCap,.slice (some a) m c]).run P w =
   .ok (.slice (some ⟨g,o,none⟩) (Ax+m) sCap) (w.setRow g (Ah cur (o+Ax*i.size) news)):=by
 have hf:=run_firstCells_some (P:=P) w i.size m a m c news hl hnews;have hst:=BX P g (o+Ax*i.size) zt el fr news 0 cur w hg hth (by simpa using hfit) h1;simp only [add_zero] at hst;simp [Builtin.append_,run_underlying ht,Go.sizeOf,typeInfo,hi,Builtin.lenOf,hroom,hf,Dj,hst,Ah]
theorem Bt {κ':A0} {h':Heap} {w':World} {i ver z b base cap n:Nat} {L:List (List Tree)} {cells:Array Value} {el:TypeId} {fr:Nat×Nat} (hk:κ'[i]? = some (some (b,base))) (hi:h'[i]? = some (.row false ver z L))
  (hc:w'.heap[b]? = some (.cells cells el fr)) (hcap:base+cap*z≤cells.size) (hn:L.length=n) (hle:n≤cap):AP B κ' h' w' (.sref i ver 0 n) (.slice (some ⟨b,base,none⟩) n cap):=by
 refine .sref _ _ _ _ _ rfl ⟨_,hi,le_refl _⟩ fun k o hk' ho' _ => ?_;rw [hk] at hk';cases hk';rw [hi] at ho';cases ho';refine ⟨rfl,by simp only [AF.len];omega,.inr ⟨b,base,rfl,cap,by simp,by simp only [AF.len];omega,fun cells' elem' fr' hc' => ?_⟩⟩;rw [hc] at hc';cases hc';simpa [AF.size] using hcap
theorem Bx {κ':A0} {h':Heap} {w':World} {i ver z:Nat} {a0:Option Addr} (hk:κ'[i]? = some none) (hi:h'[i]? = some (.row false ver z [])):AP B κ' h' w' (.sref i ver 0 0) (.slice a0 0 0):=by refine .sref _ _ _ _ _ rfl ⟨_,hi,le_refl _⟩ fun k o hk' ho' _ => ?_;rw [hk] at hk';cases hk';rw [hi] at ho';cases ho';exact ⟨rfl,by simp [AF.len],.inl ⟨rfl,by simp [AF.len],⟨_,rfl⟩⟩⟩
def BD (w:World) (A:Nat→Prop) (z:Nat) (L:List (List Tree)) (vals:Nat→Value):Prop:=
 (∀(j:Nat) (e:List Tree),L[j]? = some e→e.length=z)∧∀(j:Nat) (e:List Tree) (c:Nat) (x:Tree),L[j]? = some e→e[c]? = some x→BS w A x (vals (j*z+c))
theorem DJ {A:Nat→Prop} {z:Nat} {L M:List (List Tree)} {f g:Nat→Value} (hL:BD w A z L f) (hM:BD w A z M fun q=>g (L.length*z+q)) (hfg:∀q,q<L.length*z→g q=f q):BD w A z (L++M) g:=by
 refine ⟨fun j e he => ?_,fun j e c x he hx => ?_⟩
 ·rcases lt_or_ge j L.length with h1|h1
  ·rw [getElem?_append_left h1] at he;exact hL.1 j e he
  ·rw [getElem?_append_right h1] at he;exact hM.1 _ e he
 ·rcases lt_or_ge j L.length with h1|h1
  ·rw [getElem?_append_left h1] at he;have hcl:c<z:=by rw [← hL.1 j e he];exact (List.getElem?_eq_some_iff.1 hx).1
   have:=mul_le_mul_right z (show j+1≤L.length from h1);rw [succ_mul] at this;rw [hfg _ (by omega)];exact hL.2 j e c x he hx
  ·rw [getElem?_append_right h1] at he;have:=hM.2 _ e c x he hx;rw [show j*z+c=L.length*z+((j-L.length)*z+c) from by rw [← add_assoc,← add_mul,Nat.add_sub_cancel' h1]];exact this
theorem Cz {κ':A0} {h':Heap} {w':World} (x:Ext κ h w κ' h' w') {z:Nat} {L:List (List Tree)} {f:Nat→Value} (hL:BD w (fun b=>B b∨Ex κ h b) z L f):BD w' (fun b=>B b∨Ex κ' h' b) z L f:=
 ⟨hL.1,fun j e c y he hy=>(hL.2 j e c y he hy).ext x⟩
theorem Bz {κ':A0} {h':Heap} {w':World} {b base z ver:Nat} {L:List (List Tree)} {cells:Array Value} {el:TypeId} {fz:Bool} {fr:Nat×Nat} (hz:z≠0) (hc:w'.heap[b]? = some (.cells cells el fr)) (hth:Ms z cells.size fr) (hs:base+L.length*z≤cells.size)
  (hL:BD w' (fun b=>B b∨Ex κ' h' b) z L fun q=>cells.getD (base+q) undef):GC B κ' h' w' (some (b,base)) (.row fz ver z L):=
 ⟨hz,cells,el,fr,hc,hth,hs,hL.1,hL.2⟩
theorem NY (olds news:List Value) (Z:Array Value):olds.toArray++news.toArray++Z=(olds++(news++Z.toList)).toArray:=by apply Array.ext';simp
theorem Tp (olds news:List Value) (Z:Array Value) (q:Nat) (hq:q<olds.length):(olds.toArray++news.toArray++Z).getD q undef=olds.getD q undef:=by rw [NY,BQ];simp only [List.getD];rw [getElem?_append_left hq]
theorem Jt (olds news:List Value) (Z:Array Value) (q:Nat) (hq:q<news.length):(olds.toArray++news.toArray++Z).getD (olds.length+q) undef=news.getD q undef:=by rw [NY,BQ];simp only [List.getD];rw [getElem?_append_right (by omega),Nat.add_sub_cancel_left,getElem?_append_left hq]
theorem Gs (hh:Ai B κ h w):Ext κ h w κ h w.drew:=MI hh rfl rfl rfl (le_refl _) fun _ _=>rfl
structure WQ (P:Program) (w:World) (A:Nat→Prop) (t t' e:TypeId) (i:TypeInfo) (zv:Value) (new:List (List Tree)) (vx:Value):Prop where
 sz:∀(j:Nat) (c:List Tree),new[j]? = some c→c.length=i.size
 nul:new=[]→∀ty base Ax sCap,Ax≤sCap→(Builtin.append_ #[t,t'] ty #[.slice base Ax sCap,vx]).run P w = .ok (.slice base Ax sCap) w
 get:new≠[]→∃news:List Value,news.length=new.length*i.size∧(∀u∈news,u.oneCell'=true)∧
  (∀(j:Nat) (c:List Tree) (k:Nat) (x:Tree),new[j]? = some c→c[k]? = some x→BS w A x (news.getD (j*i.size+k) undef))∧
  (∀ty base,(new.length:Int)≤9223372036854775807→new.length*i.bytes≤281474976710656→(Builtin.append_ #[t,t'] ty #[.slice base 0 0,vx]).run P w =
   .ok (.slice (some ⟨w.heap.size,0,none⟩) new.length (grownCap w new.length 0 e)) (w.drew.alloc (.cells (news.toArray++Builtin.zeroCells zv.cells (grownCap w new.length 0 e-new.length)) e)))∧
  (∀ty g o Ax sCap zt cur el fr,w.heap[g]? = some (.cells cur el fr)→Ms zt cur.size fr→Ax+new.length≤sCap→o+Ax*i.size+news.length≤cur.size→
   (Builtin.append_ #[t,t'] ty #[.slice (some ⟨g,o,Option.none⟩) Ax sCap,vx]).run P w = .ok (.slice (some ⟨g,o,Option.none⟩) (Ax+new.length) sCap) (w.setRow g (Ah cur (o+Ax*i.size) news)))∧
  (∀ty (b:Addr) Ax sCap (olds:List Value),olds.length=Ax*i.size→(∀j v,olds[j]? = some v→w.cell? (b.add j)=some v)→sCap<Ax+new.length→((Ax+new.length:Nat):Int)≤9223372036854775807→
   Builtin.nextslicecap (Ax+new.length) sCap*i.bytes≤281474976710656→(Builtin.append_ #[t,t'] ty #[.slice (some b) Ax sCap,vx]).run P w =
   .ok (.slice (some ⟨w.heap.size,0,Option.none⟩) (Ax+new.length) (grownCap w (Ax+new.length) sCap e)) (w.drew.alloc (.cells (olds.toArray++news.toArray++Builtin.zeroCells zv.cells (grownCap w (Ax+new.length) sCap e-(Ax+new.length))) e)))
theorem V1 {t t':TypeId} (h:Gv P t t'=true):t'=t∨P.underlying t'=some .string:=by
 unfold Gv at h;by_cases e:t'=t
 ·exact .inl e
 ·right;have:(t'==t)=false:=by simpa using e
  rw [this,Bool.false_or] at h;split at h
  ·assumption
  ·cases h
theorem C7 {t t' ty e:TypeId} (hu:P.underlying t=some (.slice e)) (ht:Gv P t t'=true) (args:Array Value):(Builtin.append_ #[t,t'] ty args).run P w=(Builtin.append_ #[t,t] ty args).run P w:=by
 rcases V1 ht with rfl|hs
 ·rfl
 ·cases h0:args[0]? with
  |none=>simp [Builtin.append_,h0]
  |some s=>
   cases h1:args[1]? with
   |none=>simp [Builtin.append_,h0,h1]
   |some x=>
    simp only [Builtin.append_,h0,h1,run_underlying hu,run_underlying hs,Sem.run_bind,Result.andThen_ok];cases s<;>simp [run_underlying hu,run_underlying hs]
theorem WQ.U7 {A:Nat→Prop} {t t' e:TypeId} {i:TypeInfo} {zv:Value} {new:List (List Tree)} {vx:Value} (hu:P.underlying t=some (.slice e)) (hi:P.info? e=some i) (hzv:i.zero=some zv) (hz0:i.size≠0) (ht:Gv P t t'=true) (hsl:Dp w A i.size new vx):WQ P w A t t' e i zv new vx where
 sz:=hsl.1
 nul hn ty base Ax sCap hle:=by subst hn;obtain ⟨_,a,cap,rfl,_,_⟩:=hsl;rw [C7 hu ht];exact EI (P:=P) (w:=w) (ty:=ty) hu hi base Ax sCap a cap hle
 get hn:=by
  obtain ⟨b,o,cap,news,rfl,hnl,hnc,hn1,hnt⟩:=Iy hz0 hsl hn;have hpos:0<new.length:=length_pos_iff.2 hn;refine ⟨news,hnl,hn1,hnt,fun ty base h63 h48 => ?_,fun ty g o' Ax sCap zt cur el fr hg hth hroom hfit => ?_,fun ty b' Ax sCap olds hlo holds hg h63 hfit => ?_⟩
  ·rw [C7 hu ht];exact run_append_nil' (P:=P) base w t ty e i zv hu hi hzv ⟨b,o,Option.none⟩ new.length cap news hnl hnc hpos h63 h48
  ·rw [C7 hu ht];exact run_append_room' (P:=P) (ty:=ty) (w:=w) (c:=cap) hu hi hg hth hnl hnc hn1 hroom hfit
  ·rw [C7 hu ht];exact run_append_grow (P:=P) w t ty e i zv hu hi hzv b' Ax sCap olds hlo holds ⟨b,o,Option.none⟩ new.length cap news hnl hnc hg h63 hfit
theorem DB (s:ByteArray):(Cq s).length=s.size:=by unfold Cq;rw [length_map,length_toList];rfl
theorem LH {A:Nat→Prop} (s:ByteArray) (j:Nat) (c:List Tree) (k:Nat) (x:Tree) (hj:(Cq s)[j]? = some c) (hx:c[k]? = some x):c.length=1∧k=0∧BS w A x ((Lib.strCells s).getD j undef):=by
 unfold Cq at hj;rw [getElem?_map] at hj;cases hb:s.data.toList[j]? with
 |none=>rw [hb] at hj;cases hj
 |some b=>
  rw [hb] at hj;cases hj;have hc:k=0:=by have:=(List.getElem?_eq_some_iff.1 hx).1;simp at this;omega
  subst hc;cases hx;have:(Lib.strCells s).getD j undef = .int .u8 (b.toNat:Int):=by rw [Lib.strCells,getD_eq_getElem?_getD,getElem?_map,hb];rfl
  rw [this];exact ⟨rfl,rfl,.int _ _⟩
theorem LG (s:ByteArray) (j:Nat) (c:List Tree) (hj:(Cq s)[j]? = some c):c.length=1:=by
 unfold Cq at hj;rw [getElem?_map] at hj;cases hb:s.data.toList[j]? with
 |none=>rw [hb] at hj;cases hj
 |some b=>rw [hb] at hj;cases hj;rfl
theorem WQ.RJ {A:Nat→Prop} {t t' e:TypeId} {i:TypeInfo} {zv:Value} (s:ByteArray) (hu:P.underlying t=some (.slice e)) (hi:P.info? e=some i) (hzv:i.zero=some zv) (hz1:i.size=1) (ht:Gv P t t'=true):WQ P w A t t' e i zv (Cq s) (.string s) where
 sz j c hj:=by rw [hz1];exact LG s j c hj
 nul hn ty base Ax sCap hle:=by
  rw [C7 hu ht];have hs:s.size=0:=by rw [← DB,hn];rfl
  have hf:=Lib.run_firstCells_string (P:=P) w 1 s;rw [hs] at hf;have hc:Lib.strCells s=[]:=eq_nil_of_length_eq_zero (by rw [Lib.strCells_length];exact hs);rw [hc] at hf;cases base<;>simp [Builtin.append_,run_underlying hu,Go.sizeOf,typeInfo,hi,hz1,Builtin.lenOf,hs,hle,hf,storeCells]
 get hn:=by
  have hl:=DB s;have hpos:0<s.size:=by rw [← hl];exact length_pos_iff.2 hn
  refine ⟨Lib.strCells s,by rw [Lib.strCells_length,hl,hz1,Nat.mul_one],Lib.strCells_oneCell s,fun j c k x hj hx => ?_,fun ty base h63 h48 => ?_,fun ty g o' Ax sCap zt cur el fr hg hth hroom hfit => ?_,fun ty b' Ax sCap olds hlo holds hg h63 hfit => ?_⟩
  ·obtain ⟨_,rfl,h3⟩:=LH (w:=w) (A:=A) s j c k x hj hx;rw [hz1,Nat.mul_one,add_zero];exact h3
  ·rw [C7 hu ht];rw [hl] at h63 h48 ⊢;have hn0:s.size≠0:=by omega
   have h63':¬(9223372036854775807<(s.size:Int)):=by omega
   have h48':¬(281474976710656<Builtin.nextslicecap s.size 0*i.bytes):=by rw [nextslicecap_zero hpos];omega
   have hf:=Lib.run_firstCells_string (P:=P) w.drew i.size s;cases base with
   |none=>simp [Builtin.append_,run_underlying hu,Go.sizeOf,typeInfo,zeroValue,hi,hzv,Builtin.lenOf,hn0,h63',h48',Question.forced,run_firstCells_none,hf,newRow,grownCap]
   |some a0=>
    have hf0:=run_firstCells_some (P:=P) w.drew i.size 0 a0 0 0 [] (by simp) (by simp);simp [Builtin.append_,run_underlying hu,Go.sizeOf,typeInfo,zeroValue,hi,hzv,Builtin.lenOf,hn0,h63',h48',Question.forced,hf0,hf,newRow,grownCap]
  ·rw [C7 hu ht];rw [hl] at hroom ⊢;have hf:=Lib.run_firstCells_string (P:=P) w i.size s;have hst:=BX P g (o'+Ax*i.size) zt el fr (Lib.strCells s) 0 cur w hg hth (by simpa using hfit) (Lib.strCells_oneCell s);simp only [add_zero] at hst;simp [Builtin.append_,run_underlying hu,Go.sizeOf,typeInfo,hi,Builtin.lenOf,hroom,hf,Dj,hst,Ah]
  ·rw [C7 hu ht];rw [hl] at hg h63 hfit ⊢;have hn':¬(Ax+s.size≤sCap):=by omega
   have h63':¬(9223372036854775807<((Ax:Int)+(s.size:Int))):=by omega
   have h48':¬(281474976710656<Builtin.nextslicecap (Ax+s.size) sCap*i.bytes):=by omega
   have hf:=Lib.run_firstCells_string (P:=P) w.drew i.size s;have hfo:=run_firstCells_some (P:=P) w.drew i.size Ax b' Ax sCap olds hlo (by simpa using holds);simp [Builtin.append_,run_underlying hu,Go.sizeOf,typeInfo,zeroValue,hi,hzv,Builtin.lenOf,hn',h63',h48',Question.forced,hf,hfo,newRow,grownCap];congr 2;apply Array.ext';simp [append_assoc]
theorem TJ {t t' e:TypeId} {i:TypeInfo} {zv:Value} {x:AV} {K:List (List Tree)→Option R} {r:R} (hr:Ho h i.size x K=some r) (hh:Ai B κ h w) {v:Value} (hv:AP B κ h w x v)
  (hu:P.underlying t=some (.slice e)) (hi:P.info? e=some i) (hzv:i.zero=some zv) (hz0:i.size≠0) (ht:Gv P t t'=true):∃es,K es=some r∧WQ P w (fun b=>B b∨Ex κ h b) t t' e i zv es v:=by
 unfold Ho at hr;simp only [AE] at hr;split at hr
 ·rename_i s;obtain ⟨h1,hK⟩:=AH hr;cases hv with|t _ _ hv=>
  cases hv;exact ⟨_,hK,.RJ s hu hi hzv h1 ht⟩
 ·obtain ⟨es,h1,h2⟩:=JB hr hh hv;exact ⟨es,h1,.U7 hu hi hzv hz0 ht h2⟩
theorem IT {t t':TypeId} {s x:AV} {K:AV→Heap→Option R} {r:R} (ht:Gv P t t'=true) (hr:Dk P t h s x K=some r) (hh:Ai B κ h w) {vs vx:Value} (hs:AP B κ h w s vs) (hx:AP B κ h w x vx) (ty:TypeId) :
  ∃v h' κ' val w',K v h'=some r∧(Builtin.append_ #[t,t'] ty #[vs,vx]).run P w = .ok val w'∧AP B κ' h' w' v val∧Ai B κ' h' w'∧Ext κ h w κ' h' w':=by
 unfold Dk at hr
 try simp only [AE] at hr
 obtain ⟨z,hz,hr1⟩:=bind_some hr;clear hr;obtain ⟨e,i,zv,hu,hi,hzv,rfl,hz0,hzs,hby⟩:=Mf hz;obtain ⟨new,hr2,hsl⟩:=TJ hr1 hh hx hu hi hzv hz0 ht;clear hr1;have hbytes:∀n,n≤1073741824→n*i.bytes≤140737488355328:=fun n hn=>le_trans (mul_le_mul hn hby) (by omega);split at hr2
 ·obtain ⟨hle,hK⟩:=AH hr2;cases hs with|nilsl a0=>
  by_cases hn:new=[]
  ·subst hn;have hrun:=hsl.nul rfl ty a0 0 0 (le_refl _);have x1:Ext κ h w (κ++[none]) (h++[.row false 0 i.size []]) w:=Bb hh rfl rfl rfl (le_refl _) (fun _ _=>rfl) (fun b base e=>by cases e);have hh1:=BK hh (fun _ _=>rfl) x1 (fun b base e=>by cases e) (show GC B (κ++[none]) (h++[.row false 0 i.size []]) w none (.row false 0 i.size []) from rfl);exact ⟨_,_,_,_,_,hK,hrun,Bx (by rw [← hh.len];exact Ag κ _) (Ag h _),hh1,x1⟩
  ·obtain ⟨news,hnl,hn1,hnt,hrn,_,_⟩:=hsl.get hn;have hpos:0<new.length:=length_pos_iff.2 hn;have hrun:=hrn ty a0 (by omega) (by have:=hbytes _ hle;omega);have h5:∀b',b'<w.heap.size→(w.drew.alloc (.cells (news.toArray++Builtin.zeroCells zv.cells (grownCap w new.length 0 e-new.length)) e)).heap[b']? = w.heap[b']? :=fun b' hb'=>Ak w.drew _ hb';have x1:Ext κ h w (κ++[some (w.heap.size,0)]) (h++[.row false 0 i.size new]) (w.drew.alloc (.cells (news.toArray++Builtin.zeroCells zv.cells (grownCap w new.length 0 e-new.length)) e)):=
    Bb (w':=w.drew.alloc _) hh rfl rfl rfl (by simp) h5 fun b base e=>by injection e with e;injection e with e;omega
   have hge:=grownCap_ge w new.length 0 e;have hnew:=A8 w.drew (.cells (news.toArray++Builtin.zeroCells zv.cells (grownCap w new.length 0 e-new.length)) e);have hcap:0+grownCap w new.length 0 e*i.size≤(news.toArray++Builtin.zeroCells zv.cells (grownCap w new.length 0 e-new.length)).size:=by simp only [size_append,size_toArray,size_zeroCells,hzs,hnl,← add_mul];rw [zero_add];exact mul_le_mul_right _ (by omega)
   have hh1:=BK hh h5 x1 (fun b base e=>by injection e with e;injection e with e;subst e;exact ⟨le_refl _,by simp⟩)
    (Bz hz0 hnew (.inl rfl) (le_trans (add_le_add_left (mul_le_mul_right _ hge) _) hcap) (by
     refine ⟨hsl.sz,fun j e' c y he' hy => ?_⟩;have hjl:j<new.length:=(List.getElem?_eq_some_iff.1 he').1;have hcl:c<i.size:=by rw [← hsl.sz j e' he'];exact (List.getElem?_eq_some_iff.1 hy).1
     have hq:=mul_le_mul_right i.size (show j+1≤new.length from hjl);rw [succ_mul] at hq;have h3:=Jt [] news (Builtin.zeroCells zv.cells (grownCap w new.length 0 e-new.length)) (j*i.size+c) (by omega);simp only [length_nil,zero_add,Array.empty_append] at h3 ⊢;rw [h3];exact (hnt j e' c y he' hy).ext x1))
   refine ⟨_,_,_,_,_,hK,hrun,?_,hh1,x1⟩;exact Bt (by rw [← hh.len];exact Ag κ _) (Ag h _) hnew hcap rfl hge
 ·rename_i ri ver off len;split at hr2
  ·rename_i ver' size es hri;by_cases hc:new.length=0∧off+len<es.length
   ·rw [if_pos hc] at hr2;obtain ⟨rfl,hK⟩:=AH hr2;have hn:new=[]:=eq_nil_of_length_eq_zero hc.1;subst hn;have hs':=hs;cases hs with
    |sref _ _ _ _ _ _ hex hsr=>
     obtain ⟨kk,hkk⟩:=Bk hh hri;obtain ⟨_,_,hm⟩:=hsr kk _ hkk hri rfl;have ho:=hh.obj ri _ _ hri hkk;rcases hm with ⟨rfl,hof,a0,rfl⟩|⟨b,base,rfl,cap',rfl,hcap,hcs⟩
     ·simp only [AF.len] at hof;omega
     ·simp only [AF.len] at hcap;exact ⟨_,h,κ,_,w,hK,hsl.nul rfl ty _ _ _ (by omega),hs',hh,Ext.refl _ _ _⟩
   rw [if_neg hc] at hr2;obtain ⟨⟨rfl,hsz,hoff,hle⟩,hK⟩:=AH hr2;clear hr2;cases hs with
   |sref _ _ _ _ _ _ hex hsr=>
    obtain ⟨kk,hkk⟩:=Bk hh hri;obtain ⟨_,_,hm⟩:=hsr kk _ hkk hri rfl;have ho:=hh.obj ri _ _ hri hkk;have hOL:∀L,OLe (.row false ver' size es) (.row false (ver'+1) i.size L):=fun L=>⟨rfl,le_succ _,(fun e=>by simp [AF.ver] at e),(fun e=>by cases e),(fun e=>by cases e),rfl⟩
    have hver:∀L,(AF.row false ver' size es).ver=(AF.row false (ver'+1) i.size L).ver→∀{p:Prop},p:=fun L e=>by simp [AF.ver] at e
    rcases hm with ⟨rfl,hof,a0,rfl⟩|⟨b,base,rfl,cap,rfl,hcap',hcs⟩
    ·simp only [zero_add,take_zero,nil_append] at hK hle;by_cases hn:new=[]
     ·subst hn;have hrun:=hsl.nul rfl ty a0 0 0 (le_refl _);have x1:Ext κ h w (κ.set ri none) (h.set ri (.row false (ver'+1) i.size [])) w:=
       CW hh hri rfl (hOL []) hkk rfl rfl rfl (le_refl _) (fun _ _ _=>rfl) (fun b base e=>by cases e) (fun e=>hver [] e)
      have hh1:=Bu hh hri hkk (fun _ _ _=>rfl) (fun b base e=>by cases e) x1 (show GC B (κ.set ri none) (h.set ri (.row false (ver'+1) i.size [])) w none (.row false (ver'+1) i.size []) from rfl);exact ⟨_,_,_,_,_,hK,hrun,Bx (Aq hkk) (Aq hri),hh1,x1⟩
     ·obtain ⟨news,hnl,hn1,hnt,hrn,_,_⟩:=hsl.get hn;have hpos:0<new.length:=length_pos_iff.2 hn;have hrun:=hrn ty a0 (by omega) (by have:=hbytes _ hle;omega);have h5:∀b',b'<w.heap.size→(w.drew.alloc (.cells (news.toArray++Builtin.zeroCells zv.cells (grownCap w new.length 0 e-new.length)) e)).heap[b']? = w.heap[b']? :=fun b' hb'=>Ak w.drew _ hb';have x1:Ext κ h w (κ.set ri (some (w.heap.size,0))) (h.set ri (.row false (ver'+1) i.size new)) (w.drew.alloc (.cells (news.toArray++Builtin.zeroCells zv.cells (grownCap w new.length 0 e-new.length)) e)):=
       CW (w':=w.drew.alloc _) hh hri rfl (hOL new) hkk rfl rfl rfl (by simp) (fun b' hb' _=>h5 b' hb') (fun b base e=>by injection e with e;injection e with e;exact .inr (by omega)) (fun e=>hver new e)
      have hge:=grownCap_ge w new.length 0 e;have hnew:=A8 w.drew (.cells (news.toArray++Builtin.zeroCells zv.cells (grownCap w new.length 0 e-new.length)) e);have hcap:0+grownCap w new.length 0 e*i.size≤(news.toArray++Builtin.zeroCells zv.cells (grownCap w new.length 0 e-new.length)).size:=by simp only [size_append,size_toArray,size_zeroCells,hzs,hnl,← add_mul];rw [zero_add];exact mul_le_mul_right _ (by omega)
      have hh1:=Bu hh hri hkk (fun b' hb' _=>h5 b' hb') (fun b base e=>by injection e with e;injection e with e;subst e;exact ⟨.inr (le_refl _),by simp⟩) x1
       (Bz hz0 hnew (.inl rfl) (le_trans (add_le_add_left (mul_le_mul_right _ hge) _) hcap) (by
        refine ⟨hsl.sz,fun j e' c y he' hy => ?_⟩;have hjl:j<new.length:=(List.getElem?_eq_some_iff.1 he').1;have hcl:c<i.size:=by rw [← hsl.sz j e' he'];exact (List.getElem?_eq_some_iff.1 hy).1
        have hq:=mul_le_mul_right i.size (show j+1≤new.length from hjl);rw [succ_mul] at hq;have h3:=Jt [] news (Builtin.zeroCells zv.cells (grownCap w new.length 0 e-new.length)) (j*i.size+c) (by omega);simp only [length_nil,zero_add,Array.empty_append] at h3 ⊢;rw [h3];exact (hnt j e' c y he' hy).ext x1))
      exact ⟨_,_,_,_,_,hK,hrun,Bt (Aq hkk) (Aq hri) hnew hcap rfl hge,hh1,x1⟩
    ·have hcap:len≤cap:=by simp only [AF.len] at hcap';omega
     obtain ⟨hsz0,cells,el,fr,hcell,hth,hcsz,hls,hct⟩:=ho;obtain rfl:size=i.size:=hsz.resolve_right hsz0;have hcapc:=hcs cells el _ hcell;simp only [AF.size] at hcapc ⊢;rw [add_mul] at hcapc;have hdl:((es.drop off).take len).length=len:=by simp;omega
     have hold:BD w (fun b=>B b∨Ex κ h b) i.size ((es.drop off).take len) fun q=>cells.getD (base+off*i.size+q) undef:=by
      have hget:∀(j:Nat) e',((es.drop off).take len)[j]? = some e'→es[off+j]? = some e':=fun j e' he=>by
       have hj:j<len:=by have:=(List.getElem?_eq_some_iff.1 he).1;simp at this;omega
       rw [getElem?_take_of_lt hj,getElem?_drop] at he;exact he
      refine ⟨fun j e' he'=>hls _ e' (hget j e' he'),fun j e' c y he' hy => ?_⟩;have he':=hget j e' he';have:=hct _ e' c y he' hy;rw [add_mul] at this;dsimp only;rw [show base+off*i.size+(j*i.size+c)=base+(off*i.size+j*i.size+c) from by omega];exact this
     by_cases hn:new=[]
     ·subst hn;have hrun:=hsl.nul rfl ty (some ⟨b,base+off*i.size,none⟩) len cap hcap;simp only [append_nil,length_nil,add_zero] at hK;have x1:Ext κ h w (κ.set ri (some (b,base+off*i.size))) (h.set ri (.row false (ver'+1) i.size ((es.drop off).take len))) w:=
       CW hh hri rfl (hOL _) hkk rfl rfl rfl (le_refl _) (fun _ _ _=>rfl) (fun b' base' e=>by injection e with e;injection e with e1 e2;subst e1;exact .inl ⟨base,rfl⟩) (fun e=>hver _ e)
      have hh1:=Bu hh hri hkk (fun _ _ _=>rfl) (fun b' base' e=>by injection e with e;injection e with e1 e2;subst e1;exact ⟨.inl ⟨base,rfl⟩,hh.lt ri _ base hkk⟩) x1
       (Bz hz0 hcell hth (by rw [hdl];have:=mul_le_mul_right i.size hcap;omega) (Cz x1 hold))
      exact ⟨_,_,_,_,_,hK,hrun,Bt (Aq hkk) (Aq hri) hcell (by omega) hdl hcap,hh1,x1⟩
     ·obtain ⟨news,hnl,hn1,hnt,_,hrr,hrg⟩:=hsl.get hn;have hpos:0<new.length:=length_pos_iff.2 hn;have hlen2:((es.drop off).take len++new).length=len+new.length:=by rw [length_append,hdl]
      have hnr:BD w (fun b=>B b∨Ex κ h b) i.size new fun q=>news.getD q undef:=⟨hsl.sz,hnt⟩
      by_cases hroom:len+new.length≤cap
      ·have hmul:=mul_le_mul_right i.size hroom;rw [add_mul] at hmul;have hfit:base+off*i.size+len*i.size+news.length≤cells.size:=by omega
       have hrun:=hrr ty b (base+off*i.size) len cap i.size cells el fr hcell hth hroom hfit;have hseg:=CF cells _ _ hfit;have hnew:=setRow_heap w b cells (Ah cells (base+off*i.size+len*i.size) news) el _ hcell;have h5:∀b',b'<w.heap.size→(∀base',(some (b,base):Option (Nat×Nat))≠some (b',base'))→(w.setRow b (Ah cells (base+off*i.size+len*i.size) news)).heap[b']? = w.heap[b']? :=
        fun b' _ hb'=>setRow_other w b _ fun e=>hb' base (by rw [e])
       have x1:Ext κ h w (κ.set ri (some (b,base+off*i.size))) (h.set ri (.row false (ver'+1) i.size ((es.drop off).take len++new))) (w.setRow b (Ah cells (base+off*i.size+len*i.size) news)):=
        CW (w':=w.setRow b _) hh hri rfl (hOL _) hkk rfl rfl rfl (by rw [setRow_size];exact le_refl _) h5 (fun b' base' e=>by injection e with e;injection e with e1 e2;subst e1;exact .inl ⟨base,rfl⟩) (fun e=>hver _ e)
       have hh1:=Bu hh hri hkk h5 (fun b' base' e=>by injection e with e;injection e with e1 e2;subst e1;exact ⟨.inl ⟨base,rfl⟩,by rw [setRow_size];exact hh.lt ri _ base hkk⟩) x1
        (Bz hz0 hnew (by rw [hseg];exact hth) (by rw [hlen2,hseg,add_mul];omega) (Cz x1 (DJ hold (by
         refine ⟨hnr.1,fun j e' c y he' hy => ?_⟩;have hjl:j<new.length:=(List.getElem?_eq_some_iff.1 he').1;have hcl:c<i.size:=by rw [← hsl.sz j e' he'];exact (List.getElem?_eq_some_iff.1 hy).1
         have hq:=mul_le_mul_right i.size (show j+1≤new.length from hjl);rw [succ_mul] at hq;dsimp only;rw [hdl,BI cells _ _ hfit,if_pos ⟨by omega,by omega⟩];rw [show base+off*i.size+(len*i.size+(j*i.size+c))-(base+off*i.size+len*i.size)=j*i.size+c from by omega];exact hnt j e' c y he' hy) (fun q hq=>by
         rw [hdl] at hq;rw [BI cells _ _ hfit,if_neg (by omega)]))))
       exact ⟨_,_,_,_,_,hK,hrun,Bt (Aq hkk) (Aq hri) hnew (by rw [hseg];omega) hlen2 hroom,hh1,x1⟩
      ·let olds:List Value:=(List.range (len*i.size)).map fun q=>cells.getD (base+off*i.size+q) undef;have hol:olds.length=len*i.size:=by simp [olds]
       have hog:∀q,q<len*i.size→olds.getD q undef=cells.getD (base+off*i.size+q) undef:=fun q hq=>by simp [olds,List.getD,hq]
       have holds:∀j v,olds[j]? = some v→w.cell? ((⟨b,base+off*i.size,none⟩:Addr).add j)=some v:=fun j v hv=>by
        have hj:j<len*i.size:=by rw [← hol];exact (List.getElem?_eq_some_iff.1 hv).1
        simp only [olds,getElem?_map,getElem?_range hj,map_some,Option.some.injEq] at hv;subst hv;rw [Dj];have hm2:=mul_le_mul_right i.size hcap;exact BT hcell (by omega)
       have hrun:=hrg ty ⟨b,base+off*i.size,none⟩ len cap olds hol holds (by omega) (by omega) (growslice_fits (by omega) (hbytes _ hle));have h5:∀b',b'<w.heap.size→(w.drew.alloc (.cells (olds.toArray++news.toArray++Builtin.zeroCells zv.cells (grownCap w (len+new.length) cap e-(len+new.length))) e)).heap[b']? = w.heap[b']? :=fun b' hb'=>Ak w.drew _ hb';have x1:Ext κ h w (κ.set ri (some (w.heap.size,0))) (h.set ri (.row false (ver'+1) i.size ((es.drop off).take len++new))) (w.drew.alloc (.cells (olds.toArray++news.toArray++Builtin.zeroCells zv.cells (grownCap w (len+new.length) cap e-(len+new.length))) e)):=
        CW (w':=w.drew.alloc _) hh hri rfl (hOL _) hkk rfl rfl rfl (by simp) (fun b' hb' _=>h5 b' hb') (fun b base e=>by injection e with e;injection e with e;exact .inr (by omega)) (fun e=>hver _ e)
       have hge:=grownCap_ge w (len+new.length) cap e;have hnew:=A8 w.drew (.cells (olds.toArray++news.toArray++Builtin.zeroCells zv.cells (grownCap w (len+new.length) cap e-(len+new.length))) e);have hcap2:0+grownCap w (len+new.length) cap e*i.size≤(olds.toArray++news.toArray++Builtin.zeroCells zv.cells (grownCap w (len+new.length) cap e-(len+new.length))).size:=by simp only [size_append,size_toArray,size_zeroCells,hzs,hnl,hol,← add_mul];rw [zero_add];exact mul_le_mul_right _ (by omega)
       have hh1:=Bu hh hri hkk (fun b' hb' _=>h5 b' hb') (fun b base e=>by injection e with e;injection e with e;subst e;exact ⟨.inr (le_refl _),by simp⟩) x1
        (Bz hz0 hnew (.inl rfl) (by rw [hlen2];exact le_trans (add_le_add_left (mul_le_mul_right _ hge) _) hcap2) (Cz x1 (DJ hold (by
         refine ⟨hnr.1,fun j e' c y he' hy => ?_⟩;have hjl:j<new.length:=(List.getElem?_eq_some_iff.1 he').1;have hcl:c<i.size:=by rw [← hsl.sz j e' he'];exact (List.getElem?_eq_some_iff.1 hy).1
         have hq:=mul_le_mul_right i.size (show j+1≤new.length from hjl);rw [succ_mul] at hq;dsimp only;rw [hdl,zero_add,← hol,Jt _ _ _ _ (by omega)];exact hnt j e' c y he' hy) (fun q hq=>by
         rw [hdl] at hq;rw [zero_add,Tp _ _ _ _ (by omega),hog q hq]))))
       exact ⟨_,_,_,_,_,hK,hrun,Bt (Aq hkk) (Aq hri) hnew hcap2 hlen2 hge,hh1,x1⟩
  ·cases hr2
 ·cases hr2
end Ab
namespace Ab
open Go
variable {R:Type} {P:Program} {B:Nat→Prop} {κ:A0} {h:Heap} {w:World}
theorem Ht {es new:List (List Tree)} {p:Nat} (hp:p+new.length≤es.length):(BB es p new).length=es.length:=by simp [BB];omega
theorem LV {es new:List (List Tree)} {p:Nat} (hp:p+new.length≤es.length) (j:Nat):(BB es p new)[j]? = if p≤j∧j<p+new.length then new[j-p]? else es[j]? :=by
 unfold BB;have hl:(es.take p).length=p:=by simp;omega
 by_cases h1:j<p
 ·rw [append_assoc,getElem?_append_left (by omega),getElem?_take_of_lt h1,if_neg (by omega)]
 ·by_cases h2:j<p+new.length
  ·rw [getElem?_append_left (by simp;omega),getElem?_append_right (by omega),hl,if_pos ⟨by omega,h2⟩]
  ·rw [getElem?_append_right (by simp;omega),getElem?_drop,if_neg (by omega)];congr 1;simp;omega
theorem LC {α:Type} {l:List α} {m i:Nat} {x:α} (hx:(l.take m)[i]? = some x):i<m∧l[i]? = some x:=by
 rcases lt_or_ge i m with h1|h1
 ·rw [getElem?_take_of_lt h1] at hx;exact ⟨h1,hx⟩
 ·simp [getElem?_take,not_lt.2 h1] at hx
theorem G5 (hh:Ai B κ h w) {i ver z b base:Nat} {es new:List (List Tree)} {cells:Array Value} {el:TypeId} (hi:h[i]? = some (.row false ver z es)) (hk:κ[i]? = some (some (b,base)))
  {fr:Nat×Nat} (hcell:w.heap[b]? = some (.cells cells el fr)) {p:Nat} {vals:List Value} (hp:p+new.length≤es.length) (hvl:vals.length=new.length*z)
  (hn:BD w (fun b=>B b∨Ex κ h b) z new fun q=>vals.getD q undef) :
  base+p*z+vals.length≤cells.size∧(w.setRow b (Ah cells (base+p*z) vals)).heap[b]? = some (.cells (Ah cells (base+p*z) vals) el fr)∧(Ah cells (base+p*z) vals).size=cells.size∧
  Ai B κ (h.set i (.row false ver z (BB es p new))) (w.setRow b (Ah cells (base+p*z) vals))∧Ext κ h w κ (h.set i (.row false ver z (BB es p new))) (w.setRow b (Ah cells (base+p*z) vals)):=by
 obtain ⟨hz0,cells',elem,fr',hcell',hth,hs,hls,hcv⟩:=hh.obj i _ _ hi hk;rw [hcell] at hcell';cases hcell';have hmul:=mul_le_mul_right z hp;rw [add_mul] at hmul;have hfit:base+p*z+vals.length≤cells.size:=by omega
 have hsz:=CF cells (base+p*z) vals hfit;have hnew:=setRow_heap w b cells (Ah cells (base+p*z) vals) el _ hcell;have hset:(κ.set i (some (b,base)))=κ:=by
  apply ext_getElem?;intro j;by_cases hij:j=i
  ·rw [hij,Aq hk,hk]
  ·rw [CX hij]
 have hrl:=Ht hp;have x2:Ext κ h w κ (h.set i (.row false ver z (BB es p new))) (w.setRow b (Ah cells (base+p*z) vals)):=by
  have x2':Ext κ h w (κ.set i (some (b,base))) (h.set i (.row false ver z (BB es p new))) (w.setRow b (Ah cells (base+p*z) vals)):=by refine CW (o' :=.row false ver z (BB es p new)) (k':=some (b,base)) (w':=w.setRow b (Ah cells (base+p*z) vals)) hh hi rfl ⟨rfl,le_refl _,(fun _=>⟨rfl,by simp [AF.len,hrl]⟩),(fun e=>by cases e),(fun e=>by cases e),rfl⟩ hk rfl rfl rfl (by rw [setRow_size];exact le_refl _) (fun b' _ hb'=>setRow_other w b _ fun e=>hb' base (by rw [e])) (fun b' base' e=>by injection e with e;injection e with e1 e2;subst e1;exact .inl ⟨base,rfl⟩) (fun _=>⟨rfl,fun b' base' e cells' elem' fr' hc' => ?_⟩);cases e;rw [hnew] at hc';cases hc';exact ⟨cells,hcell,hsz.symm⟩
  rw [hset] at x2';exact x2'
 have hh2:Ai B (κ.set i (some (b,base))) (h.set i (.row false ver z (BB es p new))) (w.setRow b (Ah cells (base+p*z) vals)):=by
  refine Bu hh hi hk (fun b' _ hb'=>setRow_other w b _ fun e=>hb' base (by rw [e])) (fun b' base' e=>by injection e with e;injection e with e1 e2;subst e1;exact ⟨.inl ⟨base,rfl⟩,by rw [setRow_size];exact hh.lt i b base hk⟩) (by rw [hset];exact x2) ?_;rw [hset];refine ⟨hz0,_,el,fr,hnew,by rw [hsz];exact hth,by rw [hsz,hrl];exact hs,fun j e' he' => ?_,fun j e' c x he' hx => ?_⟩
  ·rw [LV hp] at he';split at he'
   ·exact hn.1 _ e' he'
   ·exact hls j e' he'
  ·rw [BI cells _ _ hfit];rw [LV hp] at he';split at he'
   ·rename_i hj;have hcl:c<z:=by rw [← hn.1 _ e' he'];exact (List.getElem?_eq_some_iff.1 hx).1
    have h3:=hn.2 _ e' c x he' hx;have e1:j*z=p*z+(j-p)*z:=by rw [← add_mul];congr 1;omega
    have hq:=mul_le_mul_right z (show j-p+1≤new.length by omega);rw [succ_mul] at hq;rw [if_pos ⟨by omega,by omega⟩,show base+(j*z+c)-(base+p*z)=(j-p)*z+c by omega];exact h3.ext x2
   ·rename_i hj;have hcl:c<z:=by rw [← hls _ e' he'];exact (List.getElem?_eq_some_iff.1 hx).1
    rw [if_neg ?_]
    ·exact (hcv j e' c x he' hx).ext x2
    ·rintro ⟨h1,h2⟩
     rcases lt_or_ge j p with hlt|hge
     ·have:=mul_le_mul_right z (show j+1≤p from hlt);rw [succ_mul] at this;omega
     ·have:=mul_le_mul_right z (show p+new.length≤j by omega);rw [add_mul] at this;omega
 rw [hset] at hh2;exact ⟨hfit,hnew,hsz,hh2,x2⟩
theorem LL {κ':A0} {h':Heap} {w':World} {i ver z b base off cap n:Nat} {L:List (List Tree)} {cells:Array Value} {el:TypeId} {fr:Nat×Nat} (hk:κ'[i]? = some (some (b,base))) (hi:h'[i]? = some (.row false ver z L))
  (hc:w'.heap[b]? = some (.cells cells el fr)) (hcap:base+(off+cap)*z≤cells.size) (hn:off+n≤L.length) (hle:L.length≤off+cap):AP B κ' h' w' (.sref i ver off n) (.slice (some ⟨b,base+off*z,none⟩) n cap):=by
 refine .sref _ _ _ _ _ rfl ⟨_,hi,le_refl _⟩ fun k o hk' ho' _ => ?_;rw [hk] at hk';cases hk';rw [hi] at ho';cases ho';refine ⟨rfl,hn,.inr ⟨b,base,rfl,cap,rfl,hle,fun cells' elem' fr' hc' => ?_⟩⟩;rw [hc] at hc';cases hc';exact hcap
theorem Ov {t t':TypeId} {s x:AV} {K:AV→Heap→Option R} {r:R} (htt:Gv P t t'=true) (hr:D3 P t h s x K=some r) (hh:Ai B κ h w) {vs vx:Value} (hs:AP B κ h w s vs) (hx:AP B κ h w x vx) (ty:TypeId) :
  ∃v h' κ' val w',K v h'=some r∧(Builtin.append_ #[t,t'] ty #[vs,vx]).run P w = .ok val w'∧AP B κ' h' w' v val∧Ai B κ' h' w'∧Ext κ h w κ' h' w':=by
 unfold D3 at hr
 try simp only [AE] at hr
 obtain ⟨z,hz,hr1⟩:=bind_some hr;clear hr;obtain ⟨e,i,zv,hu,hi,hzv,rfl,hz0,hzs,hby⟩:=Mf hz;obtain ⟨new,hr2,hsl⟩:=JB hr1 hh hx;simp only [C7 hu htt];clear hr1;split at hr2
 ·rename_i ri ver off len;split at hr2
  ·rename_i ver' size es hri;obtain ⟨⟨rfl,rfl,hfits⟩,hK⟩:=AH hr2;clear hr2;cases hs with
   |sref _ _ _ _ _ _ hex hsr=>
    obtain ⟨kk,hkk⟩:=Bk hh hri;obtain ⟨_,hle,hm⟩:=hsr kk _ hkk hri rfl;simp only [AF.len] at hle;have ho:=hh.obj ri _ _ hri hkk;rcases hm with ⟨rfl,hof,a0,rfl⟩|⟨b,base,rfl,cap,rfl,hcap,hcs⟩
    ·simp only [AF.len] at hof;have hn:new=[]:=eq_nil_of_length_eq_zero (by omega);subst hn;obtain ⟨_,a,cap,rfl,_,_⟩:=hsl;have hrun:=EI (P:=P) (w:=w) (ty:=ty) hu hi a0 0 0 a cap (le_refl _);have hset:h.set ri (.row false ver' i.size (BB es (off+0) []))=h:=by
      apply ext_getElem?;intro j;by_cases hij:j=ri
      ·rw [hij,Aq hri,hri];simp [BB]
      ·rw [CX hij]
     rw [hset] at hK;exact ⟨_,h,κ,_,w,hK,hrun,.sref _ _ _ _ _ rfl hex hsr,hh,Ext.refl _ _ _⟩
    ·simp only [AF.len] at hcap;obtain ⟨hsz0,cells,el,fr,hcell,hth,hcsz,hls,hct⟩:=ho;have hcapc:=hcs cells el _ hcell;simp only [AF.size] at hcapc ⊢;by_cases hn:new=[]
     ·subst hn;obtain ⟨_,a,cap',rfl,_,_⟩:=hsl;have hrun:=EI (P:=P) (w:=w) (ty:=ty) hu hi (some ⟨b,base+off*i.size,none⟩) len cap a cap' (by omega);have hset:h.set ri (.row false ver' i.size (BB es (off+len) []))=h:=by
       apply ext_getElem?;intro j;by_cases hij:j=ri
       ·rw [hij,Aq hri,hri];simp [BB]
       ·rw [CX hij]
      rw [hset] at hK;exact ⟨_,h,κ,_,w,hK,hrun,LL hkk hri hcell hcapc (by simpa using hle) hcap,hh,Ext.refl _ _ _⟩
     ·obtain ⟨nb,o,ncap,news,rfl,hnl,hnc,hn1,hnt⟩:=Iy hz0 hsl hn;obtain ⟨f1,f2,f3,f4,f5⟩:=G5 (new:=new) (p:=off+len) (vals:=news) hh hri hkk hcell hfits hnl ⟨hsl.1,hnt⟩;have he:base+(off+len)*i.size=base+off*i.size+len*i.size:=by rw [add_mul];omega
      have hrun:=run_append_room' (P:=P) (ty:=ty) (w:=w) (Ax:=len) (sCap:=cap) (o:=base+off*i.size) (c:=ncap) hu hi hcell hth hnl hnc hn1 (by omega) (by omega);rw [← he] at hrun;have hrl:=Ht hfits;exact ⟨_,_,_,_,_,hK,hrun,LL hkk (Aq hri) f2 (by rw [f3];exact hcapc) (by rw [hrl];omega) (by rw [hrl];exact hcap),f4,f5⟩
  ·cases hr2
 ·cases hr2
theorem PA {e:TypeId} {K:List Tree→Option R} {r:R} (hr:NA P h e K=some r) (hh:Ai B κ h w) :
  ∃zs i v,K zs=some r∧P.info? e=some i∧i.zero=some v∧v.cells.size=zs.length∧zs.length≠0∧i.size=zs.length∧(∀u∈v.cells.toList,u.oneCell'=true)∧
   ∀(c:Nat) (x:Tree),zs[c]? = some x→BS w (fun b=>B b∨Ex κ h b) x (v.cells.getD c undef):=by
 unfold NA at hr
 try simp only [AE] at hr
 split at hr
 ·rename_i z n hz hn;obtain ⟨⟨hn0,hzl⟩,hr⟩:=AH hr;obtain ⟨i,v,hi,hv,hc⟩:=CE (B:=B) (κ:=κ) (h:=h) (w:=w) hz;obtain ⟨zs,hK,hzs,_,hT⟩:=Cc (P:=P) hr hh (vs:=v.cells.toList) (by simpa using hc.1) (Bi hc);have hs:v.cells.size=zs.length:=by rw [hzs];exact hc.1
  have hsi:i.size=n:=by simpa [BZ,hi] using hn
  refine ⟨zs,i,v,hK,hi,hv,hs,by omega,by omega,fun u hu => ?_,fun c x hx => ?_⟩
  ·obtain ⟨j,hj,rfl⟩:=List.getElem_of_mem hu;have hj':j<zs.length:=by rw [← hs];simpa using hj
   exact (hT j _ _ (getElem?_eq_getElem hj') (getElem?_eq_getElem hj)).one
  ·have hj':c<v.cells.size:=by rw [hs];exact AT hx
   have:=hT c x (v.cells.getD c undef) hx (by simp [Array.getD,hj']);exact this.less fun b hb=>hb.imp id fun e=>⟨rfl,e⟩
 ·cases hr
theorem Hm (zero:Array Value) (n q:Nat) (hq:q<n*zero.size):(Builtin.zeroCells zero n).toList[q]? = some (zero.getD (q % zero.size) undef):=by
 have hpos:0<zero.size:=by
  rcases Nat.eq_zero_or_pos zero.size with h0|h0
  ·rw [h0] at hq;omega
  ·exact h0
 have hlt:=mod_lt q hpos;have hlen:(Builtin.zeroCells zero n).size=n*zero.size:=size_zeroCells zero n;have hq2:q<(Builtin.zeroCells zero n).size:=by rw [hlen];exact hq
 rw [getElem?_toList,Array.getElem?_eq_getElem hq2];simp [Builtin.zeroCells,Array.getD,hlt]
theorem O9 {A:Nat→Prop} {zs:List Tree} {v:Value} (hs:v.cells.size=zs.length) (hT:∀(c:Nat) (x:Tree),zs[c]? = some x→BS w A x (v.cells.getD c undef)) (n:Nat) :
  BD w A zs.length (replicate n zs) fun q=>(Builtin.zeroCells v.cells n).toList.getD q undef:=by
 refine ⟨fun j e he => ?_,fun j e c x he hx => ?_⟩
 ·rw [List.getElem?_replicate] at he;split at he<;>cases he;rfl
 ·rw [List.getElem?_replicate] at he;split at he
  ·rename_i hj;cases he;have hc:c<zs.length:=AT hx;have hq:=mul_le_mul_right zs.length (show j+1≤n from hj);rw [succ_mul] at hq;have:=Hm v.cells n (j*zs.length+c) (by rw [hs];omega);simp only [List.getD,this,Option.getD_some];rw [hs,Nat.add_comm,Nat.add_mul_mod_self_right,Nat.mod_eq_of_lt hc];exact hT c x hx
  ·cases he
theorem Mv {v:Value} (h1:∀u∈v.cells.toList,u.oneCell'=true) (n:Nat):∀u∈(Builtin.zeroCells v.cells n).toList,u.oneCell'=true:=by
 intro u hu;obtain ⟨q,hq⟩:=mem_iff_getElem?.1 hu;have hql:q<n*v.cells.size:=by have:=AT hq;rw [length_toList,size_zeroCells] at this;exact this
 rw [Hm _ _ _ hql] at hq;cases hq;have hpos:0<v.cells.size:=by
  rcases Nat.eq_zero_or_pos v.cells.size with h0|h0
  ·rw [h0] at hql;omega
  ·exact h0
 have hlt:=mod_lt q hpos;refine h1 _ ?_;simp only [Array.getD,hlt,dif_pos];simp
theorem UH {t:TypeId} {x:AV} {K:Heap→Option R} {r:R} (hr:IS P t h x K=some r) (hh:Ai B κ h w) {vx:Value} (hx:AP B κ h w x vx) (ty:TypeId) :
  ∃h' w',K h'=some r∧(Builtin.clear_ #[t] ty #[vx]).run P w = .ok (.tuple #[]) w'∧Ai B κ h' w'∧Ext κ h w κ h' w':=by
 unfold IS at hr
 try simp only [AE] at hr
 split at hr
 ·rename_i e hu;have hnone:∀(a:Option Addr) (c:Nat),(Builtin.clear_ #[t] ty #[.slice a 0 c]).run P w = .ok (.tuple #[]) w:=fun a c=>by cases a<;>simp [Builtin.clear_,run_underlying hu]
  split at hr
  ·rename_i z es;obtain ⟨h0,hK⟩:=AH hr;have hes:es=[]:=eq_nil_of_length_eq_zero h0;subst hes;cases hx with
   |t _ _ ht=>
    obtain ⟨_,a,cap,rfl,_,_⟩:=Dp.Ix ht;exact ⟨h,w,hK,hnone _ _,hh,Ext.refl _ _ _⟩
  ·cases hx with
   |nilsl a0=>exact ⟨h,w,hr,hnone _ _,hh,Ext.refl _ _ _⟩
  ·rename_i ri ver off len;obtain ⟨zs,i,v,hr1,hi,hv,hs,hz0,hsi,h1,hT⟩:=PA hr hh;split at hr1
   ·rename_i ver' size es hri;obtain ⟨⟨rfl,rfl⟩,hK⟩:=AH hr1;cases hx with
    |sref _ _ _ _ _ _ hex hsr=>
     obtain ⟨kk,hkk⟩:=Bk hh hri;obtain ⟨_,hle,hm⟩:=hsr kk _ hkk hri rfl;simp only [AF.len] at hle;have ho:=hh.obj ri _ _ hri hkk;have hsame:len=0→h.set ri (.row false ver' zs.length (BB es off (replicate len zs)))=h:=fun h0=>by
      subst h0;apply ext_getElem?;intro j;by_cases hij:j=ri
      ·rw [hij,Aq hri,hri];simp [BB]
      ·rw [CX hij]
     rcases hm with ⟨rfl,hof,a0,rfl⟩|⟨b,base,rfl,cap,rfl,hcap,hcs⟩
     ·rw [hsame rfl] at hK;exact ⟨h,w,hK,hnone _ _,hh,Ext.refl _ _ _⟩
     ·obtain ⟨hsz0,cells,el,fr,hcell,hth,hcsz,hls,hct⟩:=ho;simp only [AF.size];cases len with
      |zero=>
       rw [hsame rfl] at hK;exact ⟨h,w,hK,hnone _ _,hh,Ext.refl _ _ _⟩
      |succ n=>
       obtain ⟨f1,f2,f3,f4,f5⟩:=G5 (new:=replicate (n+1) zs) (p:=off) (vals:=(Builtin.zeroCells v.cells (n+1)).toList) hh hri hkk hcell (by simpa using hle) (by rw [length_toList,size_zeroCells,hs];simp) (O9 hs hT (n+1));refine ⟨_,_,hK,?_,f4,f5⟩;have hst:=BX P b (base+off*zs.length) zs.length el fr (Builtin.zeroCells v.cells (n+1)).toList 0 cells w hcell hth (by simpa using f1) (Mv h1 (n+1));simp only [add_zero] at hst;simp [Builtin.clear_,run_underlying hu,zeroValue,typeInfo,hi,hv,hst,Ah]
   ·cases hr1
  ·cases hr
 ·cases hr
structure Src (P:Program) (w:World) (A:Nat→Prop) (z:Nat) (new:List (List Tree)) (vx:Value):Prop where
 sz:∀(j:Nat) (e:List Tree),new[j]? = some e→e.length=z
 len:(Builtin.lenOf vx).run P w = .ok new.length w
 zero:(Builtin.firstCells z 0 vx).run P w = .ok #[] w
 get:z≠0→new≠[]→∃news:List Value,news.length=new.length*z∧(∀u∈news,u.oneCell'=true)∧(∀(j:Nat) (e:List Tree) (c:Nat) (x:Tree),new[j]? = some e→e[c]? = some x→BS w A x (news.getD (j*z+c) undef))∧
  ∀m,m≤new.length→(Builtin.firstCells z m vx).run P w = .ok (news.take (m*z)).toArray w
theorem Src.U7 {A:Nat→Prop} {z:Nat} {new:List (List Tree)} {vx:Value} (hs:Dp w A z new vx):Src P w A z new vx where
 sz:=hs.1
 len:=by obtain ⟨_,a,cap,rfl,_,_⟩:=hs;simp [Builtin.lenOf]
 zero:=by obtain ⟨_,a,cap,rfl,_,_⟩:=hs;cases a<;>simp [Builtin.firstCells,loadCells,loadCellsFrom]
 get hz hn:=by obtain ⟨nb,o,ncap,news,rfl,hnl,hnc,hn1,hnt⟩:=Iy hz hs hn;refine ⟨news,hnl,hn1,hnt,fun m hm => ?_⟩;have hle:=mul_le_mul_right z hm;exact run_firstCells_some (P:=P) w z m ⟨nb,o,none⟩ new.length ncap (news.take (m*z)) (by rw [length_take,hnl];omega) (fun j v hj=>hnc j v (LC hj).2)
theorem Src.RJ {A:Nat→Prop} (s:ByteArray):Src P w A 1 (Cq s) (.string s) where
 sz j e he:=by
  unfold Cq at he;rw [getElem?_map] at he;cases hb:s.data.toList[j]? with
  |none=>rw [hb] at he;cases he
  |some b=>rw [hb] at he;cases he;rfl
 len:=by
  have hl:(Cq s).length=s.size:=by unfold Cq;rw [length_map,length_toList];rfl
  rw [hl];rfl
 zero:=by simp [Builtin.firstCells]
 get _ _:=by
  refine ⟨s.data.toList.map fun b =>.int .u8 (b.toNat:Int),by simp [Cq],fun u hu => ?_,fun j e c x he hx => ?_,fun m hm => ?_⟩
  ·obtain ⟨b,_,rfl⟩:=mem_map.1 hu;rfl
  ·unfold Cq at he;rw [getElem?_map] at he;cases hb:s.data.toList[j]? with
   |none=>rw [hb] at he;cases he
   |some b=>
    rw [hb] at he;cases he;have hc:c=0:=by have:=AT hx;simp at this;omega
    subst hc;cases hx;have:((s.data.toList.map fun b=>Value.int .u8 (b.toNat:Int)).getD (j*1+0) undef)= .int .u8 (b.toNat:Int):=by rw [getD_eq_getElem?_getD,getElem?_map,show j*1+0=j by omega,hb];rfl
    rw [this];exact .int _ _
  ·have:((s.extract 0 m).data.map fun b=>Value.int .u8 (b.toNat:Int))=((s.data.toList.map fun b=>Value.int .u8 (b.toNat:Int)).take (m*1)).toArray:=by apply Array.ext';simp [map_take]
   show Sem.run P (pure _) w=_;rw [this];rfl
theorem Ua {z:Nat} {x:AV} {K:List (List Tree)→Option R} {r:R} (hr:Ho h z x K=some r) (hh:Ai B κ h w) {v:Value} (hv:AP B κ h w x v) :
  ∃es,K es=some r∧Src P w (fun b=>B b∨Ex κ h b) z es v:=by
 unfold Ho at hr;simp only [AE] at hr;split at hr
 ·rename_i s;obtain ⟨rfl,hK⟩:=AH hr;cases hv with|t _ _ hv=>
  cases hv;exact ⟨_,hK,.RJ s⟩
 ·obtain ⟨es,h1,h2⟩:=JB hr hh hv;exact ⟨es,h1,.U7 h2⟩
theorem V8 {t t':TypeId} {d x:AV} {K:AV→Heap→Option R} {r:R} (hr:Mo P t h d x K=some r) (hh:Ai B κ h w) {vd vx:Value} (hd:AP B κ h w d vd) (hx:AP B κ h w x vx) (ty:TypeId) :
  ∃v h' val w',K v h'=some r∧(Builtin.copy_ #[t,t'] ty #[vd,vx]).run P w = .ok val w'∧AP B κ h' w' v val∧Ai B κ h' w'∧Ext κ h w κ h' w':=by
 unfold Mo at hr
 try simp only [AE] at hr
 obtain ⟨z,hz,hr1⟩:=bind_some hr;clear hr;obtain ⟨e,hu,hze⟩:∃e,P.underlying t=some (.slice e)∧BZ P e=some z:=by
  unfold EO at hz;split at hz
  ·rename_i e hu;exact ⟨e,hu,hz⟩
  ·cases hz
 obtain ⟨new,hr2,hsl⟩:=Ua (P:=P) hr1 hh hx;clear hr1;split at hr2
 ·rename_i ri ver off len;split at hr2
  ·rename_i ver' size es hri;obtain ⟨⟨rfl,rfl⟩,hK⟩:=AH hr2;cases hd with
   |sref _ _ _ _ _ _ hex hsr=>
    obtain ⟨kk,hkk⟩:=Bk hh hri;obtain ⟨_,hle,hm⟩:=hsr kk _ hkk hri rfl;simp only [AF.len] at hle;have ho:=hh.obj ri _ _ hri hkk;have hsame:new.take len=[]→h.set ri (.row false ver' size (BB es off (new.take len)))=h:=fun h0=>by
     rw [h0];apply ext_getElem?;intro j;by_cases hij:j=ri
     ·rw [hij,Aq hri,hri];simp [BB]
     ·rw [CX hij]
    have hnone:∀(base:Option Addr) (c:Nat),min new.length len=0→(Builtin.copy_ #[t,t'] ty #[.slice base len c,vx]).run P w = .ok (.int .i64 (min new.length len:Nat)) w:=fun base c h0=>by have h0':Nat.min new.length len=0:=h0;cases base<;>simp [Builtin.copy_,run_underlying hu,hsl.len,hsl.zero,BL hze,h0,h0',goInt,storeCells]
    by_cases h0:min new.length len=0
    ·have ht:new.take len=[]:=eq_nil_of_length_eq_zero (by rw [length_take];omega);rw [hsame ht] at hK;rcases hm with ⟨rfl,hof,a0,rfl⟩|⟨b,base,rfl,cap,rfl,hcap,hcs⟩
     ·exact ⟨_,_,_,_,hK,hnone _ _ h0,.t _ _ (.int _ _),hh,Ext.refl _ _ _⟩
     ·exact ⟨_,_,_,_,hK,hnone _ _ h0,.t _ _ (.int _ _),hh,Ext.refl _ _ _⟩
    ·rcases hm with ⟨rfl,hof,a0,rfl⟩|⟨b,base,rfl,cap,rfl,hcap,hcs⟩
     ·simp at h0
     ·obtain ⟨hsz0,cells,el,fr,hcell,hth,hcsz,hls,hct⟩:=ho;simp only [AF.size];have hn:new≠[]:=fun e=>h0 (by rw [e];simp);obtain ⟨news,hnl,hn1,hnt,hfc⟩:=hsl.get hsz0 hn;have htl:(new.take len).length=min new.length len:=by rw [length_take];omega
      have hnl2:(news.take (min new.length len*size)).length=(new.take len).length*size:=by rw [length_take,hnl,htl];have:=mul_le_mul_right size (Nat.min_le_left new.length len);omega
      have hrow:BD w (fun b=>B b∨Ex κ h b) size (new.take len) fun q=>(news.take (min new.length len*size)).getD q undef:=by
       refine ⟨fun j e he=>hsl.sz j e (LC he).2,fun j e c y he hy => ?_⟩;have hj:=AT he;have hcl:c<size:=by rw [← hsl.sz j e (LC he).2];exact AT hy
       have hq:=mul_le_mul_right size (show j+1≤min new.length len by omega);rw [succ_mul] at hq;have:=hnt j e c y (LC he).2 hy;simp only [List.getD] at this ⊢;rw [getElem?_take_of_lt (by omega)];exact this
      obtain ⟨f1,f2,f3,f4,f5⟩:=G5 (new:=new.take len) (p:=off) (vals:=news.take (min new.length len*size)) hh hri hkk hcell (by omega) hnl2 hrow;refine ⟨_,_,.int .i64 (min new.length len:Nat),_,hK,?_,.t _ _ (.int _ _),f4,f5⟩;have hl:=hfc (min new.length len) (Nat.min_le_left _ _);have hst:=BX P b (base+off*size) size el fr (news.take (min new.length len*size)) 0 cells w hcell hth (by simpa using f1) (fun v hv=>hn1 v (List.mem_of_mem_take hv));simp only [add_zero] at hst;have hmn:Nat.min new.length len=min new.length len:=rfl;simp [Builtin.copy_,run_underlying hu,hsl.len,BL hze,hmn,hl,hst,goInt,Ah]
  ·cases hr2
 ·cases hr2
theorem strB_ok {src dst:TypeId} (hb:Mx P src dst=true):P.underlying src=some .string∧∃e,P.underlying dst=some (.slice e)∧P.underlying e=some (.int .u8):=by
 unfold Mx at hb;split at hb
 ·rename_i e h1 h2;split at hb
  ·rename_i h3;exact ⟨h1,e,h2,h3⟩
  ·cases hb
 ·cases hb
theorem UA {src dst:TypeId} {x:AV} {K:AV→Heap→Option R} {r:R} (hb:Mx P src dst=true) (hr:J7 h x K=some r) (hh:Ai B κ h w) {vx:Value} (hx:AP B κ h w x vx) :
  ∃v h' κ' val w',K v h'=some r∧(convert src dst vx).run P w = .ok val w'∧AP B κ' h' w' v val∧Ai B κ' h' w'∧Ext κ h w κ' h' w':=by
 obtain ⟨hs,e,hd,he⟩:=strB_ok hb;unfold J7 at hr;obtain ⟨s,hs',hK⟩:=bind_some hr;obtain rfl:=EF hs' hx;have hrun:=Lib.run_convert_string_bytes (P:=P) w src dst e s hs hd he;have h5:∀b',b'<w.heap.size→(Lib.bytesWorld w e s).heap[b']? = w.heap[b']? :=fun b' hb'=>Lib.bytesWorld_at_old w e s b' hb';have hnew:=Lib.bytesWorld_at_new w e s;have hsz:=Lib.bytesWorld_size w e s;have x1:Ext κ h w (κ++[some (w.heap.size,0)]) (h++[.row false 0 1 (Cq s)]) (Lib.bytesWorld w e s):=
  Bb (w':=Lib.bytesWorld w e s) hh rfl rfl rfl (by rw [hsz];omega) h5 fun b base e=>by injection e with e;injection e with e;omega
 have hge:=grownCap_ge w s.size 0 e;have hcs:(Lib.bytesCells w e s).size=grownCap w s.size 0 e:=by have:s.data.size=s.size:=rfl;simp only [Lib.bytesCells,size_append,Array.size_map,Array.size_replicate,this];omega
 have hh1:=BK hh h5 x1 (fun b base e=>by injection e with e;injection e with e;subst e;exact ⟨le_refl _,by rw [hsz];omega⟩)
  (Bz (by omega) hnew (.inr ⟨rfl,le_refl _⟩) (by rw [DB,hcs];omega) ⟨fun j c hj=>LG s j c hj,fun j c k y hj hy=>by
   obtain ⟨_,rfl,h3⟩:=LH (w:=Lib.bytesWorld w e s) (A:=fun b=>B b∨Ex (κ++[some (w.heap.size,0)]) (h++[.row false 0 1 (Cq s)]) b) s j c k y hj hy;have hjl:j<s.size:=by rw [← DB];exact AT hj
   have:(Lib.bytesCells w e s).getD (0+(j*1+0)) undef=(Lib.strCells s).getD j undef:=by
    have hjd:j<s.data.size:=hjl;rw [show 0+(j*1+0)=j by omega];have hj2:j<s.size+(grownCap w s.size 0 e-s.size):=by omega
    simp [Lib.bytesCells,Lib.strCells,List.getD,Array.getD,Array.getElem_append,hjd,hj2,hjl]
   dsimp only;rw [this];exact h3⟩)
 exact ⟨_,_,_,_,_,hK,hrun,Bt (by rw [← hh.len];exact Ag κ _) (Ag h _) hnew (by rw [hcs];omega) (DB s) hge,hh1,x1⟩
theorem V4 {t:TypeId} {n c:AV} {K:AV→Heap→Option R} {r:R} (hr:Mi P t h n c K=some r) (hh:Ai B κ h w) {vn vc:Value} (hn:AP B κ h w n vn) (hc:AP B κ h w c vc) :
  ∃v h' κ' val w',K v h'=some r∧(Instr.makeSlice t vn vc).run P w = .ok val w'∧AP B κ' h' w' v val∧Ai B κ' h' w'∧Ext κ h w κ' h' w':=by
 unfold Mi at hr
 try simp only [AE] at hr
 obtain ⟨z,hz,hr1⟩:=bind_some hr;clear hr;obtain ⟨e,i,zv,hu,hi,hzv,rfl,hz0,hzs,hby⟩:=Mf hz;rw [hu] at hr1;simp only at hr1;obtain ⟨a,ha,hr2⟩:=bind_some hr1;obtain ⟨b,hb,hr3⟩:=bind_some hr2;obtain rfl:=CD ha hn;obtain rfl:=CD hb hc;obtain ⟨zs,i',v,hr4,hi',hv,hs,hz0',hsi,h1,hT⟩:=PA hr3 hh;rw [hi] at hi';cases hi';rw [hzv] at hv;cases hv;obtain ⟨⟨rfl,ha0,hale,hzl⟩,hK⟩:=AH hr4;obtain ⟨m,rfl⟩:=Int.eq_ofNat_of_zero_le ha0;simp only [toNat_natCast] at hK;have hbytes:(i.bytes:Int)*(m:Int)≤281474976710656:=by
  have h2:i.bytes*m≤65536*1073741824:=mul_le_mul hby (by omega);have h3:((i.bytes*m:Nat):Int)≤281474976710656:=by omega
  rwa [Int.natCast_mul] at h3
 have hrun:=run_make (P:=P) w t e i zv hu hi hzv .i64 .i64 m m ha0 (Int.le_refl _) hbytes (by omega);simp only [toNat_natCast] at hrun;have hmade:madeCells zv.cells (m*i.size)=Builtin.zeroCells zv.cells m:=by simp only [madeCells,Builtin.zeroCells,hzs]
 rw [hmade] at hrun;have h5:∀b',b'<w.heap.size→(w.alloc (.cells (Builtin.zeroCells zv.cells m) e)).heap[b']? = w.heap[b']? :=fun b' hb'=>Ak w _ hb';have x1:Ext κ h w (κ++[some (w.heap.size,0)]) (h++[.row false 0 i.size (replicate m zs)]) (w.alloc (.cells (Builtin.zeroCells zv.cells m) e)):=
  Bb (w':=w.alloc _) hh rfl rfl rfl (by simp) h5 fun b base e=>by injection e with e;injection e with e;omega
 have hnew:=A8 w (.cells (Builtin.zeroCells zv.cells m) e);have hsz:(Builtin.zeroCells zv.cells m).size=m*i.size:=by rw [size_zeroCells,hzs]
 have hh1:=BK hh h5 x1 (fun b base e=>by injection e with e;injection e with e;subst e;exact ⟨le_refl _,by simp⟩)
  (Bz hz0 hnew (.inl rfl) (by simp [hsz]) (by have hrow:=O9 hs hT m;rw [hzl] at hrow;have h6:=Cz x1 hrow;refine ⟨h6.1,fun j e' c y he hy => ?_⟩;have:=h6.2 j e' c y he hy;dsimp only at this ⊢;rw [← BQ] at this;rw [zero_add];simpa using this))
 exact ⟨_,_,_,_,_,hK,hrun,Bt (by rw [← hh.len];exact Ag κ _) (Ag h _) hnew (by rw [hsz];omega) (by simp) (le_refl _),hh1,x1⟩
end Ab
namespace Go.Proofs
open Go.Shelf Go.RowKit Go.Lib
variable {P:Program} {ρ:Ren}
structure Ew (P:Program) (ρ:Ren) (z:Nat):Prop where
 mixed:P.follows .mixedOrders=true
 f22:Bears P (ρ.f 22) (Body2.n22 ρ)
 f29 : ∃ fn, P.funcs[ρ.f 29]? = some fn ∧ (fn.name == "runtime.NumGoroutine") = false ∧ fn.body.isNone = true ∧ Extern.findNext fn = none ∧ Extern.find fn = some (Extern.SlicesOverlaps.overlaps #[ρ.t 24, ρ.t 24] #[ρ.t 4])
 t3:P.underlying (ρ.t 3)=some (TypeDesc.int IntKind.i64)
 a3:∀w,(isAgg (ρ.t 3)).run P w = .ok false w
 z3:∀w,(Go.sizeOf (ρ.t 3)).run P w = .ok 1 w
 v3:∀w,(zeroValue (ρ.t 3)).run P w = .ok (Value.int IntKind.i64 0) w
 t4:P.underlying (ρ.t 4)=some (TypeDesc.bool)
 a4:∀w,(isAgg (ρ.t 4)).run P w = .ok false w
 z4:∀w,(Go.sizeOf (ρ.t 4)).run P w = .ok 1 w
 v4:∀w,(zeroValue (ρ.t 4)).run P w = .ok (Value.bool false) w
 z9:∀w,(Go.sizeOf (ρ.t 9)).run P w = .ok z w
 t24:P.underlying (ρ.t 24)=some (TypeDesc.slice (ρ.t 9))
 a24:∀w,(isAgg (ρ.t 24)).run P w = .ok false w
 z24:∀w,(Go.sizeOf (ρ.t 24)).run P w = .ok 1 w
 v24:∀w,(zeroValue (ρ.t 24)).run P w = .ok (Value.slice none 0 0) w
 i9:∃(i:TypeInfo) (zv:Value),P.info? (ρ.t 9)=some i∧i.zero=some zv∧i.size=z∧zv.cells.size=z∧i.bytes≤65536
 pos:0<z
structure TD (P:Program) (ρ:Ren) (z:Nat):Prop where
 lay:Lays8.n4 P ρ
 i25:∃(i:TypeInfo) (zv:Value),P.info? (ρ.t 25)=some i∧i.zero=some zv∧i.size=z∧zv.cells.size=z∧i.bytes≤65536
 pos:0<z
theorem DI (w:World) (dT sT ty elem:TypeId) (z:Nat) (b o dLen dCap:Nat) (a:Addr) (Ax sCap k:Nat) (cs:List Value)
  (hu:P.underlying dT=some (.slice elem)) (hs:∀w,(Go.sizeOf elem).run P w = .ok z w) (hk:k=Nat.min Ax dLen) (hn:cs.length=k*z)
  (hsrc:∀j v,cs[j]? = some v→w.cell? (a.add j)=some v) (hc:∀j,j<cs.length→(w.cell? ⟨b,o+j,none⟩).isSome=true) (hf:∀j,j<cs.length→w.frozen? ⟨b,o+j,none⟩=false) (h1:∀v∈cs,v.oneCell'=true) :
  (Builtin.copy_ #[dT,sT] ty #[.slice (some ⟨b,o,none⟩) dLen dCap,.slice (some a) Ax sCap]).run P w = .ok (goInt k) (w.setCells b o cs):=by
 have hl:=run_loadCells_list (P:=P) w a cs hsrc;have hst:=run_storeCells_cells (P:=P) b o cs 0 w (by simpa using hc) (by simpa using hf) h1;rw [hn] at hl;simp [Builtin.copy_,run_underlying hu,Builtin.lenOf,Builtin.firstCells,hs,← hk,hl,hst]
theorem Jf (w:World) (tS tR e:TypeId) (ht:P.underlying tS=some (.slice e)) (size:Nat) (hz:∀w,(Go.sizeOf e).run P w = .ok size w)
  (a b:Addr) (la ca lb cb:Nat) (hne:a.block≠b.block) (tA tB:TypeId) (kA kB:Nat)
  (hsa:w.shape? a.block=some (tA,kA)) (hsb:w.shape? b.block=some (tB,kB)) (hkA:kA≠0)
  (hfb:w.frozen? b=false) (hfe:w.frozen? {block:=b.block,off:=kB}=false) :
  (Extern.SlicesOverlaps.overlaps #[tS,tS] #[tR] #[.slice (some a) la ca,.slice (some b) lb cb]).run P w = .ok (.bool false) w:=by
 have hnb:(a.block != b.block)=true:=by simpa using hne
 have hnb':(a.block==b.block)=false:=by simpa using hne
 change Sem.run P (underlying tS >>= _) w=_;rw [Sem.run_bind,run_underlying ht,Result.andThen_ok];change Sem.run P (Go.sizeOf e >>= _) w=_;rw [Sem.run_bind,hz,Result.andThen_ok];dsimp only;by_cases h0:la=0∨lb=0∨size=0
 ·simp [h0]
 ·cases kA with
  |zero=>exact absurd rfl hkA
  |succ kA=>
   cases hfa:w.frozen? a<;>cases hfa2:w.frozen? {block:=a.block,off:=kA+1}<;>
    simp [h0,hnb,hnb',frozen,noView,viewAt,mayBeOne,stringish,shape,Sem.run,hsa,hsb,hfb,hfe,hfa,hfa2]
end Go.Proofs
namespace Ab
open Go
mutual
def tT:Tree→Tree→Bool
 | .int k n,.int k' n'=>decide (k=k')&&decide (n=n')
 | .bool b,.bool b'=>b==b'
 | .str s,.str s'=>decide (s.data.toList=s'.data.toList)
 | .sl z es,.sl z' es'=>decide (z=z')&&tLL es es'
 | .mp k m,.mp k' m'=>decide (k=k')&&decide (m=m')
 |_,_=>false
def tL:List Tree→List Tree→Bool
 |[],[]=>true
 |x::l,y::k=>tT x y&&tL l k
 |_,_=>false
def tLL:List (List Tree)→List (List Tree)→Bool
 |[],[]=>true
 |x::l,y::k=>tL x y&&tLL l k
 |_,_=>false
end
mutual
theorem tT_ok:∀a b:Tree,tT a b=true→a=b
 | .int k n,b,h=>by cases b<;>simp_all [tT]
 | .bool b,c,h=>by cases c<;>simp_all [tT]
 | .str s,c,h=>by cases c<;>simp only [tT,decide_eq_true_eq,reduceCtorEq,false_eq_true] at h;rename_i t;cases s;cases t;rename_i a b;simp only at h;have:a=b:=Array.ext' h;rw [this]
 | .sl z es,c,h=>by cases c<;>simp only [tT,and_eq_true,decide_eq_true_eq,reduceCtorEq,false_eq_true] at h;rename_i z' es';rw [h.1,Qo es es' h.2]
 | .const v,c,h=>by cases c<;>simp_all [tT]
 | .mp k m,c,h=>by cases c<;>simp_all [tT]
theorem PG:∀a b:List Tree,tL a b=true→a=b
 |[],b,h=>by cases b<;>simp_all [tL]
 |x::l,b,h=>by
  cases b with
  |nil=>simp [tL] at h
  |cons y k=>
   simp only [tL,and_eq_true] at h;rw [tT_ok x y h.1,PG l k h.2]
theorem Qo:∀a b:List (List Tree),tLL a b=true→a=b
 |[],b,h=>by cases b<;>simp_all [tLL]
 |x::l,b,h=>by
  cases b with
  |nil=>simp [tLL] at h
  |cons y k=>
   simp only [tLL,and_eq_true] at h;rw [PG x y h.1,Qo l k h.2]
end
def tFn:Fn→Fn→Bool
 | .func f,.func g=>decide (f=g)
 |_,_=>false
theorem tFn_ok (a b:Fn) (h:tFn a b=true):a=b:=by cases a<;>cases b<;>simp_all [tFn]
mutual
def tA:AV→AV→Bool
 | .undef,.undef=>true
 | .nilsl,.nilsl=>true
 | .t x,.t y=>tT x y
 | .ptr i o,.ptr j p=>decide (i=j)&&decide (o=p)
 | .rptr i v k o,.rptr j w l p=>decide (i=j)&&(decide (v=w)&&(decide (k=l)&&decide (o=p)))
 | .eptr s c o,.eptr s' c' o'=>decide (s=s')&&(tL c c'&&decide (o=o'))
 | .sref i v o l,.sref i' v' o' l'=>decide (i=i')&&(decide (v=v')&&(decide (o=o')&&decide (l=l')))
 | .bsl i o l s,.bsl i' o' l' s'=>decide (i=i')&&(decide (o=o')&&(decide (l=l')&&decide (s=s')))
 | .yld i,.yld j=>decide (i=j)
 | .mref i,.mref j=>decide (i=j)
 | .func f a b,.func f' a' b'=>tFn f f'&&(tAs a a'&&tAs b b')
 | .agg a,.agg b=>tAs a b
 | .tuple a,.tuple b=>tAs a b
 |_,_=>false
def tAs:List AV→List AV→Bool
 |[],[]=>true
 |x::l,y::k=>tA x y&&tAs l k
 |_,_=>false
end
mutual
theorem tA_ok:∀a b:AV,tA a b=true→a=b
 | .undef,b,h=>by cases b<;>simp_all [tA]
 | .nilsl,b,h=>by cases b<;>simp_all [tA]
 | .t x,b,h=>by cases b<;>simp only [tA,reduceCtorEq,false_eq_true] at h;rw [tT_ok _ _ h]
 | .ptr ..,b,h=>by cases b<;>simp_all [tA]
 | .rptr ..,b,h=>by cases b<;>simp_all [tA]
 | .eptr s c o,b,h=>by cases b<;>simp only [tA,and_eq_true,decide_eq_true_eq,reduceCtorEq,false_eq_true] at h;rw [h.1,PG _ _ h.2.1,h.2.2]
 | .sref ..,b,h=>by cases b<;>simp_all [tA]
 | .bsl ..,b,h=>by cases b<;>simp_all [tA]
 | .yld ..,b,h=>by cases b<;>simp_all [tA]
 | .mref ..,b,h=>by cases b<;>simp_all [tA]
 | .func f x y,b,h=>by cases b<;>simp only [tA,and_eq_true,reduceCtorEq,false_eq_true] at h;rw [tFn_ok _ _ h.1,Jc _ _ h.2.1,Jc _ _ h.2.2]
 | .agg x,b,h=>by cases b<;>simp only [tA,reduceCtorEq,false_eq_true] at h;rw [Jc _ _ h]
 | .tuple x,b,h=>by cases b<;>simp only [tA,reduceCtorEq,false_eq_true] at h;rw [Jc _ _ h]
theorem Jc:∀a b:List AV,tAs a b=true→a=b
 |[],b,h=>by cases b<;>simp_all [tAs]
 |x::l,b,h=>by
  cases b with
  |nil=>simp [tAs] at h
  |cons y k=>
   simp only [tAs,and_eq_true] at h;rw [tA_ok x y h.1,Jc l k h.2]
end
def tO:AF→AF→Bool
 | .box a,.box b=>tAs a b
 | .mapo k ke e,.mapo k' ke' e'=>decide (k=k')&&(decide (ke=ke')&&decide (e=e'))
 | .row f v s e,.row f' v' s' e'=>(f==f')&&(decide (v=v')&&(decide (s=s')&&tLL e e'))
 |_,_=>false
theorem tO_ok:∀a b:AF,tO a b=true→a=b
 | .box a,b,h=>by cases b<;>simp only [tO,reduceCtorEq,false_eq_true] at h;rw [Jc _ _ h]
 | .row f v s e,b,h=>by cases b<;>simp only [tO,and_eq_true,decide_eq_true_eq,beq_iff_eq,reduceCtorEq,false_eq_true] at h;rw [h.1,h.2.1,h.2.2.1,Qo _ _ h.2.2.2]
 | .loop l,b,h=>by cases b<;>simp [tO] at h
 | .mapo ..,b,h=>by cases b<;>simp_all [tO]
noncomputable def decBy {α:Type} (t:α→α→Bool) (ok:∀a b,t a b=true→a=b) (a b:α):Decidable (a=b):=
 match h:t a b with
 |true=>isTrue (ok a b h)
 |false=>Classical.propDecidable _
noncomputable instance (priority:=low) dqAny (α:Type):Dq α:=⟨fun _ _=>Classical.propDecidable _⟩
noncomputable instance dqLT:Dq (List Tree):=⟨decBy tL PG⟩
theorem VZ {α:Type} (i j:Dq α):i=j:=by cases i;cases j;congr;exact Subsingleton.elim _ _
variable {R:Type} [Dq R]
def Env.put (env:Env) (d:Option Tmp) (v:AV):Env:=
 match d with
 |some d=>fun i=>if i=d then v else env i
 |none=>env
structure Hints where
 loop:Nat→List Tmp
 block:Nat→List Tmp
 cond:Tmp→List Tmp
 reg:Nat→List Tmp
 rowsz:Tmp→Nat
 tree:Tmp→Bool
 imm:Tmp→Bool
 immT:TypeId→Bool
 nilT:TypeId→Bool
 tm:Tmp→AV
 split:Tmp→Bool:=fun _=>false
 only:Tmp→Nat:=fun _=>0
 pre:Nat→List Tmp:=fun _=>[]
def Ck (d:List (List Tree)):List Value:=(d.map fun e=>e.map fun x=>Value.int .i64 (intOf x)).flatten
def fnV:Option FuncId→Array Value
 |none => #[]
 |some g => #[.func (.func g) #[] #[]]
structure Grow (w w':World):Prop where
 os:w'.os=w.os
 tape:w'.tape=w.tape
 output:w'.output=w.output
 size:w.heap.size≤w'.heap.size
 block:∀b,b<w.heap.size→w'.heap[b]? = w.heap[b]?
structure GB (P:Program) (g:FuncId) (z m:Nat) (f:Option FuncId) (F:List (List Tree)→List (List Tree)):Prop where
 len:∀d,(F d).length=d.length
 int:∀d,A7 z d=true→A7 z (F d)=true
 nil:∀(a:Option Addr) (w:World),Calls P g (#[.slice a 0 0]++fnV f) w fun e w'=>e = .returned (.tuple #[])∧Grow w w'
 run:∀(d:List (List Tree)) (w:World) (b o cap:Nat) (cells:Array Value) (el:TypeId) (fr:Nat×Nat),A7 z d=true→d.length≤m→w.heap[b]? = some (.cells cells el fr)→Ms z cells.size fr→o+d.length*z≤cells.size→
  (∀q,q<d.length*z→cells.getD (o+q) undef=(Ck d).getD q undef)→
  Calls P g (#[.slice (some ⟨b,o,none⟩) d.length cap]++fnV f) w fun e w'=>e = .returned (.tuple #[])∧Grow (w.setRow b (Ah cells o (Ck (F d)))) w'
def R7 (P:Program) (g:FuncId):Prim→Prop
 | .ins z=>∃ρ:Go.Shelf.Ren,ρ.f 22=g∧Go.Proofs.Ew P ρ z
 | .grow z=>∃ρ:Go.Shelf.Ren,ρ.f 4=g∧Go.Proofs.TD P ρ z
 | .perm z m f F=>GB P g z m f F
structure Cfg where
 P:Program
 heapful:FuncId→Bool
 own:FuncId→Bool
 reuse:FuncId→Bool
 joinc:FuncId→Bool
 prim:FuncId→Option Prim
 primOk:∀g p,prim g=some p→R7 P g p
 cur:Tmp→Bool
 curT:TypeId→Bool
 curN:TypeId→Bool
 depth:Nat
 hints:FuncId→Hints
 ext:FuncId→List Tree→Option (List Tree):=fun _ _=>none
 own2:FuncId→Option Nat:=fun _=>none
 fnTy:TypeId→Bool:=fun _=>false
 renT:FuncId→TypeId→Option (Tmp×Tmp):=fun _ _=>none
 ren:TypeId→Option (Tmp×Tmp):=fun _=>none
def Cfg.at (C:Cfg) (g:FuncId):Cfg:={C with cur:=(C.hints g).imm,curT:=(C.hints g).immT,curN:=(C.hints g).nilT,ren:=C.renT g}
inductive Req where
 |fn (g:FuncId) (args:List AV)
 |yield (i:Nat) (args:List AV)
abbrev Rec:=∀(R:Type) [Dq R],Req→Heap→(List AV→Heap→Option R)→Option R
abbrev BE:=FuncId→List Tree→Option (List Tree)
def Gh (P:Program) (t:TypeId) (leaf:Nat→AV) (off:Nat):Option (AV×Nat):=
 match Ay P t,BZ P t with
 |some true,some n=>some (.agg (A2 leaf off n),off+n)
 |some false,_=>some (leaf off,off+1)
 |_,_=>none
def B7 (P:Program) (leaf:Nat→AV):List TypeId→Nat→Option (List AV)
 |[],_=>some []
 |t::ts,off=>match Gh P t leaf off with
  |some (v,off')=>(B7 P leaf ts off').map (v::·)
  |none=>none
def CO (P:Program) (g:FuncId) (leaf:Nat→AV):Option AV:=
 match P.funcs[g]? with
 |some fn=>match B7 P leaf fn.resultTypes.toList 0 with
  |some [v]=>some v
  |some vs=>some (.tuple vs)
  |none=>none
 |none=>none
def DA (P:Program) (g:FuncId) (leaf:Nat→AV):Option (List AV):=
 match P.funcs[g]? with
 |some fn=>B7 P leaf fn.params.toList 0
 |none=>none
def It (P:Program) (g:FuncId):List TypeId:=
 match P.funcs[g]? with
 |some fn=>(fn.params.toList.map (Bh P 16)).flatten
 |none=>[]
def C9 (P:Program) (g:FuncId):List TypeId:=
 match P.funcs[g]? with
 |some fn=>(fn.resultTypes.toList.map (Bh P 16)).flatten
 |none=>[]
def Uk (P:Program) (t:TypeId):Bool:=
 match P.underlying t with
 |some (.int _)|some .bool|some .string=>true
 |_=>false
def B8 (P:Program) (g:FuncId):Bool:=(C9 P g).all (Uk P)
def Tree.scalar:Tree→Bool
 | .int _ _ | .bool _ | .str _=>true
 |_=>false
def flatK (P:Program):List TypeId→List AV→(List AV→Option R)→Option R
 |[],[],K=>K []
 |t::ts,v::vs,K=>
  match Ay P t with
  |some true=>match v with
   | .agg cs=>cnd (BZ P t=some cs.length) (flatK P ts vs fun rs=>K (cs++rs)) none
   |_=>none
  |some false=>cnd (v.leaf=true) (flatK P ts vs fun rs=>K (v::rs)) none
  |none=>none
 |_,_,_=>none
def Dd (h:Heap):AV→Heap
 | .sref i _ _ _=>match h[i]? with
  |some (.row _ v s es)=>h.set i (.row true v s es)
  |_=>h
 |_=>h
def AY (h:Heap) (vs:List AV):Heap:=vs.foldl Dd h
def below:Nat→Nat→AV→Bool
 |0,_,_=>false
 |d+1,m,v=>match v with
  | .undef | .t _ | .nilsl | .eptr _ _ _=>true
  | .ptr i _ | .rptr i _ _ _ | .sref i _ _ _ | .bsl i _ _ _ | .yld i | .mref i=>decide (i<m)
  | .func _ f c=>f.all (below d m)&&c.all (below d m)
  | .agg cs | .tuple cs=>cs.all (below d m)
def Ge (m:Nat):AF→Bool
 | .box cs=>cs.all (below 4 m)
 | .loop l=>decide (l.hl≤m)
 |_=>true
def isT:AV→Bool
 | .t _=>true
 |_=>false
def A1:AV→Tree
 | .t x=>x
 |_=>default
def E0:AV→Nat
 | .sref _ v _ _=>v
 | .rptr _ v _ _=>v
 |_=>0
def Hp:AV→Nat
 | .sref _ _ o _=>o
 |_=>0
def Hq:AV→Nat
 | .sref _ _ _ l=>l
 |_=>0
def Ug (x0 x:Tree):Bool:=
 match x0 with
 | .int k _=>FM k x
 | .bool _=>D8 x
 | .str _=>FL x
 | .sl s _=>E6 s x
 |_=>true
def Pb (x0 x:Tree):Tree:=
 match x0 with
 | .int k _ =>.int k (intOf x)
 | .bool _ =>.bool (Cg x)
 | .str _ =>.str (strOf x)
 | .sl s _ =>.sl s (FT x)
 |_=>x
def FW:Nat→AV→AV→Bool
 |0,_,_=>false
 |d+1,v,v'=>match v,v' with
  | .ptr i o,.ptr j p=>i==j&&o==p
  | .yld i,.yld j=>i==j
  | .mref i,.mref j=>i==j
  | .nilsl,.nilsl=>true
  | .func (.func f) a b,.func (.func g) a' b'=>f==g&&Az d a a'&&Az d b b'
  |_,_=>false
where
 Az:Nat→List AV→List AV→Bool
 |_,[],[]=>true
 |d,x::xs,y::ys=>FW d x y&&Az d xs ys
 |_,_,_=>false
def H3 (v0 v:AV):Bool:=
 match v0 with
 | .t x0=>isT v&&Ug x0 (A1 v)
 | .sref r _ _ _=>match v with
  | .sref r' _ _ _=>r'==r
  |_=>false
 | .rptr r _ k o=>match v with
  | .rptr r' _ k' o'=>r'==r&&(k'==k&&o'==o)
  |_=>false
 | .ptr i o=>FW 4 (.ptr i o) v
 | .yld i=>FW 4 (.yld i) v
 | .mref i=>FW 4 (.mref i) v
 | .func f a b=>FW 4 (.func f a b) v
 |_=>true
def Ei (v0 v:AV):AV:=
 match v0 with
 | .t x0 =>.t (Pb x0 (A1 v))
 | .sref r _ _ _ =>.sref r (E0 v) (Hp v) (Hq v)
 | .rptr r _ k o =>.rptr r (E0 v) k o
 | .ptr i o =>.ptr i o
 | .yld i =>.yld i
 | .mref i =>.mref i
 | .func f a b =>.func f a b
 |_=>v
def Lq:AF→List (Int×Int)
 | .mapo _ _ es=>es
 |_=>[]
def cellOf (o:AF) (j:Nat):AV:=
 match o with
 | .box cs=>cs.getD j .undef
 |_ =>.undef
def Re:AF→List (List Tree)
 | .row _ _ _ es=>es
 |_=>[]
def DO:List AV→List AV→Bool
 |[],[]=>true
 |c0::cs0,c::cs=>H3 c0 c&&DO cs0 cs
 |_,_=>false
def CZ (o:AF):List AV→Nat→List AV
 |[],_=>[]
 |c0::cs0,j=>Ei c0 (cellOf o j)::CZ o cs0 (j+1)
def EG:AV→List AV
 | .agg cs=>cs
 |_=>[]
def isAgg:AV→Bool
 | .agg _=>true
 |_=>false
def LM (v0 v:AV):Bool:=
 match v0 with
 | .agg cs0=>isAgg v&&DO cs0 (EG v)
 |v0=>H3 v0 v
def Gb (v0 v:AV):AV:=
 match v0 with
 | .agg cs0 =>.agg (CZ (.box (EG v)) cs0 0)
 |v0=>Ei v0 v
def S3 (tm:Tmp→AV) (env:Env) (i:Tmp):AV:=
 match env i with
 | .undef=>tm i
 |v=>v
def isEptr:AV→Bool
 | .eptr _ _ _=>true
 |_=>false
def isFn0:AV→Bool
 | .func _ [] []=>true
 | .t (.const .nilFunc)=>true
 |_=>false
def isFnV:AV→Bool
 | .func _ _ _=>true
 |_=>false
def FP:AF→Bool
 | .box cs=>(cs.any fun v=>match v with
  | .func _ _ c=>c.any isEptr
  |_=>false)||(cs.any isFnV&&(cs.all isFn0&&(cs.filter fun v => !isFnV v).length==1))
 |_=>false
def LQ:Option Code→Option Code→Bool
 |none,none=>true
 |some .ret,some .ret=>true
 |some (.exit i),some (.exit j)=>i==j
 |_,_=>false
theorem PU {a b:Option Code} (h:LQ a b=true):a=b:=by
 unfold LQ at h;split at h
 ·rfl
 ·rfl
 ·simp only [beq_iff_eq] at h;rw [h]
 ·cases h
def B4 (o0 o:AF):Bool:=
 match o0,o with
 | .box cs0,.box cs=>FP (.box cs0)||DO cs0 cs
 | .row true _ _ _,_=>true
 | .row false _ s0 _,.row f _ s _ => !f&&(s0==0||s==s0)
 | .mapo k ke _,.mapo k' ke' _=>decide (k'=k∧ke'=ke)
 | .loop l0,.loop l=>l.ended==l0.ended&&l.busy==l0.busy&&LQ l.pending l0.pending
 |_,_=>false
def busyOf:AF→Bool
 | .loop l=>l.busy
 |_=>false
def pendOf:AF→Option Code
 | .loop l=>l.pending
 |_=>none
def reshape (o0 o:AF):AF:=
 match o0 with
 | .box cs=>if FP (.box cs) then .box cs else .box (CZ o cs 0)
 | .row false _ s0 _ =>.row false o.ver (if s0=0 then o.size else s0) (Re o)
 | .mapo k ke _ =>.mapo k ke (Lq o)
 |o0=>o0
def GQ:Heap→Heap→Bool
 |[],_=>true
 |o0::h0,o::h=>B4 o0 o&&GQ h0 h
 |_::_,[]=>false
def Bq:Heap→Nat→Heap→Heap
 |[],_,_=>[]
 |o0::h0,i,hs=>reshape o0 (hs.getD i default)::Bq h0 (i+1) hs
def still:AF→Bool
 | .row true _ _ _=>true
 | .loop _=>true
 | .box cs=>FP (.box cs)
 |_=>false
def Ud:Heap→Heap→Heap
 |[],_=>[]
 |o0::h0,o::h=>(if still o0 then .box [] else o)::Ud h0 h
 |_::_,[]=>[]
noncomputable def Ru (x y:AF) (a:Option R):Option R:=@ite _ (x=y) (decBy tO tO_ok x y) a none
noncomputable def Ts:Heap→Heap→Option R→Option R
 |[],_,a=>a
 |o0::h0,o::h,a=>if FP o0 then Ru o0 o (Ts h0 h a) else Ts h0 h a
 |_::_,[],_=>none
noncomputable def cutK (h0:Heap) (h:Heap) (K:Heap→Option R):Option R:=
 cnd (((h.take h0.length).all (Ge h0.length))=true∧GQ h0 h=true) (Ts h0 h (K (Ud h0 h))) none
noncomputable def GJ (tm:Tmp→AV) (env0:Env) (h0:Heap) (L:List Tmp) (env:Env) (h:Heap) (K:List AV→Heap→Option R):Option R:=
 cnd ((L.all fun i=>below 4 h0.length (env i)&&LM (S3 tm env0 i) (env i))=true) (cutK h0 h fun hs=>K (L.map env) hs) none
def findIdx (i:Tmp):List Tmp→Nat→Option Nat
 |[],_=>none
 |x::xs,k=>if i=x then some k else findIdx i xs (k+1)
def Ch (tm:Tmp→AV) (W L:List Tmp) (env:Env) (s:List AV):Env:=fun i=>
 match findIdx i L 0 with
 |some k=>Gb (S3 tm env i) (s.getD k .undef)
 |none=>if W.contains i then .undef else env i
def E2 (hi:Hints):List Tmp→Env→Heap→(Env→Heap→Option R)→Option R
 |[],env,h,K=>K env h
 |i::L,env,h,K=>match env i with
  | .nilsl=>if hi.tree i then E2 hi L (env.put (some i) (.t (.sl (hi.rowsz i) []))) h K
   else E2 hi L (env.put (some i) (.sref h.length 0 0 0)) (h++[.row false 0 (hi.rowsz i) []]) K
  |_=>E2 hi L env h K
def join {S:Type} (J:S→Option R) (f:(S→Option R)→Option R):Option R:=f J
def FO (ops:Array Oper) (o:Oper) (env:Env) (K1 K0:Env→Option R):Option R:=
 match o.guard with
 |none=>K1 env
 |some (j,want)=>
  match (ops[j]?).bind (·.dst) with
  |some d=>match env d with
   | .t (.bool b)=>
    cnd (b=true) (if want then K1 (env.put (some d) (.t (.bool true))) else K0 (env.put (some d) (.t (.bool true))))
     (if want then K0 (env.put (some d) (.t (.bool false))) else K1 (env.put (some d) (.t (.bool false))))
   | .tuple []=>K0 env
   |_=>none
  |none=>none
def Iw (env:Env):Option Operand→Option AV
 |some x=>some (ev env x)
 |none=>none
def J8 (n:Int):List (Int×Nat)→(AV→Option R)→Option R
 |[],K=>K (.tuple [.undef,.t (.bool false)])
 |p::m,K=>cnd (n=p.1) (K (.tuple [.func (.func p.2) [] [],.t (.bool true)])) (J8 n m K)
def mapTy (P:Program) (t:TypeId) (k:IntKind):Bool:=
 match P.underlying t with
 |some (.map key elem)=>(match P.underlying key with
  |some (.int k')=>decide (k'=k)
  |_=>false)&&((P.info? elem).bind (·.zero)).isSome
 |_=>false
def JN (P:Program) (t:TypeId) (m x:AV) (K:AV→Option R):Option R:=
 match m,x with
 | .t (.mp k l),.t (.int k' n)=>cnd (k'=k∧mapTy P t k=true) (J8 n l K) none
 |_,_=>none
def SF (P:Program) (elem:TypeId) (ke:IntKind):Bool:=
 match (P.info? elem).bind (·.zero) with
 |some (.int k2 z)=>decide (k2=ke)&&decide (z=0)
 |_=>false
def Gj (P:Program) (t:TypeId):Option (IntKind×IntKind):=
 match P.underlying t with
 |some (.map key elem)=>match P.underlying key,P.underlying elem with
  |some (.int k),some (.int ke)=>if SF P elem ke then some (k,ke) else none
  |_,_=>none
 |_=>none
def Av (n:Int):List (Int×Int)→Option Int
 |[]=>none
 |p::l=>if n=p.1 then some p.2 else Av n l
def BN (n v:Int):List (Int×Int)→List (Int×Int)
 |[]=>[(n,v)]
 |p::l=>if n=p.1 then (n,v)::l else p::BN n v l
def Fp (P:Program) (t:TypeId) (h:Heap) (K:AV→Heap→Option R):Option R:=
 match Gj P t with
 |some (k,ke)=>K (.mref h.length) (h++[.mapo k ke []])
 |none=>none
def HY (P:Program) (t:TypeId) (h:Heap) (m x v:AV) (K:Heap→Option R):Option R:=
 match m,x,v with
 | .mref i,.t (.int kx n),.t (.int kv y)=>match h[i]?,Gj P t with
  |some (.mapo k ke es),some (k',ke')=>cnd (k'=k∧ke'=ke∧kx=k∧kv=ke) (K (h.set i (.mapo k ke (BN n y es)))) none
  |_,_=>none
 |_,_,_=>none
def J9 (P:Program) (t:TypeId) (h:Heap) (i:Nat) (x:AV) (co:Bool) (K:AV→Option R):Option R:=
 match h[i]?,x,Gj P t with
 |some (.mapo k ke es),.t (.int kx n),some (k',ke')=>cnd (k'=k∧ke'=ke∧kx=k)
   (K (if co then .tuple [.t (.int ke ((Av n es).getD 0)),.t (.bool (Av n es).isSome)] else .t (.int ke ((Av n es).getD 0)))) none
 |_,_,_=>none
def R0 (s:ByteArray) (i:Nat):Int:=match s[i]? with
 |some b=>(b.toNat:Int)
 |none=>0
def Sj:List Tree→Bool
 |[.int .u8 _]=>true
 |_=>false
def okBytes (es:List (List Tree)):Bool:=es.all Sj
def byteL:List Tree→UInt8
 |[.int .u8 n]=>UInt8.ofNat n.toNat
 |_=>0
def bytesOf (es:List (List Tree)):ByteArray:=(es.map byteL).foldl ByteArray.push ByteArray.empty
def KB (P:Program) (h:Heap) (src dst:TypeId) (x:AV) (K:AV→Option R):Option R:=
 match P.underlying src,P.underlying dst with
 |some (.slice e),some .string=>match P.underlying e with
  |some (.int .u8)=>elems h 1 x fun es=>cnd (okBytes es=true) (K (.t (.str (bytesOf es)))) none
  |_=>none
 |_,_=>Gz P src dst x K
def JO (P:Program) (t:TypeId) (x ix:AV) (K:AV→Option R):Option R:=
 match P.underlying t,x,ix with
 |some .string,.t (.str s),.t (.int _ i)=>cnd (0≤i∧i<(s.size:Int)) (K (.t (.int .u8 (R0 s i.toNat)))) none
 |some (.array n e),.agg cs,.t (.int _ i)=>cnd (Ay P e=some false∧BZ P e=some 1∧cs.length=n) (cnd (0≤i∧i<n) (Is i n fun j=>K (cs.getD j .undef)) none) none
 |_,_,_=>none
def qop (P:Program) (env:Env) (h:Heap) (op:Op) (K:AV→Option R):Option R:=
 match op with
 | .move x | .assign x=>K (ev env x)
 | .pick c a b=>(asBool (ev env c)).bind fun t=>cnd (t=true) (K (ev env a)) (K (ev env b))
 | .build t parts=>Mq P t (parts.toList.map fun p=>(p.1,ev env p.2)) K
 | .buildSlice t len parts=>DX P t h len (parts.toList.map fun p=>(p.1,ev env p.2)) K
 | .load t a=>H2 P t h (ev env a) fun v=>OA P t v K
 | .binOp op t x y _=>V9 P op t (ev env x) (ev env y) K
 | .unOp op _ x=>aun op (ev env x) K
 | .convert src dst x=>KB P h src dst (ev env x) K
 | .makeFunc fn first captured=>match fn with
  | .yield _=>none
  |fn=>K (.func fn (first.toList.map (ev env)) (captured.toList.map (ev env)))
 | .slice t x lo hi mx=>J6 P t h (ev env x) (Iw env lo) (Iw env hi) (Iw env mx) K
 | .fieldAddr t x f=>IQ P t h (ev env x) f K
 | .indexAddr t x ix=>KA P t h (ev env x) (ev env ix) K
 | .extract t i=>match ev env t with
  | .tuple vs=>match vs[i]? with
   |some v=>K v
   |none=>none
  |_=>none
 | .nilCheck x=>match ev env x with
  | .ptr i off=>K (.ptr i off)
  | .eptr s c off=>K (.eptr s c off)
  | .func (.func f) a b=>K (.func (.func f) a b)
  | .yld i=>K (.yld i)
  | .rptr i v k off=>K (.rptr i v k off)
  |_=>none
 | .lookup t m x co=>match ev env m with
  | .mref i=>J9 P t h i (ev env x) co K
  |v=>if co then JN P t v (ev env x) K else none
 | .index t x ix=>JO P t (ev env x) (ev env ix) K
 | .call {callee :=.builtin .len,args,argTypes}=>match args.toList,argTypes.toList with
  |[x],[t]=>UC P t h (ev env x) K
  |_,_=>none
 | .call {callee :=.builtin .max,args,.. }=>JM true (args.toList.map (ev env)) K
 | .call {callee :=.builtin .min,args,.. }=>JM false (args.toList.map (ev env)) K
 |_=>none
noncomputable def nilK (v:AV) (K:Bool→Option R):Option R:=
 match v with
 | .t (.sl _ es)=>cnd (es.length≠0) (K false) (both (K true) (K false))
 | .nilsl=>both (K true) (K false)
 |_=>none
noncomputable def hop (P:Program) (tf:TypeId→Bool) (env:Env) (h:Heap) (op:Op) (K:AV→Heap→Option R):Option R:=
 match op with
 | .alloc t=>match zeroCells? P t with
  |some z=>Di P t (GK P tf (Bh P 16 t) z) h K
  |none=>none
 | .box t x=>match (ev env x).cells with
  |some cs=>Di P t (GK P tf (Bh P 16 t) cs) h K
  |none=>none
 | .store t a x=>Et P t h (ev env a) (nilV P tf t (ev env x)) fun h'=>K .undef h'
 | .binOp .eql t x (.const (.slice none 0 0)) _=>match P.underlying t with
  |some (.slice _)=>nilK (ev env x) fun b=>K (.t (.bool b)) h
  |_=>none
 | .call {callee :=.builtin .append,args,argTypes}=>match args.toList,argTypes.toList with
  |[s,x],[t,t']=>cnd (Gv P t t'=true) (if N8 (ev env s) (ev env x) then D3 P t h (ev env s) (ev env x) K else Dk P t h (ev env s) (ev env x) K) none
  |_,_=>none
 | .call {callee :=.builtin .clear,args,argTypes}=>match args.toList,argTypes.toList with
  |[x],[t]=>IS P t h (ev env x) fun h'=>K (.tuple []) h'
  |_,_=>none
 | .call {callee :=.builtin .copy,args,argTypes}=>match args.toList,argTypes.toList with
  |[d,x],[t,_]=>Mo P t h (ev env d) (ev env x) K
  |_,_=>none
 | .makeSlice t n c=>Mi P t h (ev env n) (ev env c) K
 | .makeMap t none=>Fp P t h K
 | .mapUpdate t m x v=>HY P t h (ev env m) (ev env x) (ev env v) fun h'=>K .undef h'
 |_=>none
def Aw:Op→Bool
 | .binOp .eql _ _ (.const (.slice none 0 0)) _=>true
 | .alloc _ | .box _ _ | .store _ _ _ | .makeSlice _ _ _=>true
 | .makeMap _ none | .mapUpdate _ _ _ _=>true
 | .call {callee :=.builtin .append,.. } | .call {callee :=.builtin .clear,.. } | .call {callee :=.builtin .copy,.. }=>true
 |_=>false
def isCall:Op→Bool
 | .call {callee :=.value _,.. }=>true
 |_=>false
def G9 (P:Program) (g:FuncId):List TypeId:=
 match P.funcs[g]? with
 |some fn=>fn.params.toList
 |none=>[]
def trim (m:Nat) (rs:List AV) (h:Heap):Heap:=if rs.all (below 4 m)&&(h.take m).all (Ge m) then h.take m else h
def FJ (h:Heap):List AV→Option (Nat×Nat)
 |[]=>none
 | .sref i _ _ _::_=>match h[i]? with
  |some (.row false v _ _)=>some (i,v)
  |_=>none
 |_::vs=>FJ h vs
def OK (i:Nat) (ls:List AV):Bool:=ls.all fun v=>match v with
 | .sref j _ _ _=>j==i
 |_=>true
def OD (reuse:Bool) (h:Heap) (ls:List AV) (z:Nat) (es:List (List Tree)) (K:AV→Heap→Option R):Option R:=
 match (if reuse then FJ h ls else none) with
 |some (i,v)=>if OK i ls then K (.sref i (v+1) 0 es.length) (h.set i (.row false (v+1) z es)) else none
 |none=>K (.sref (AY h ls).length 0 0 es.length) (AY h ls++[.row false 0 z es])
def tyT (P:Program) (t:TypeId):AV:=
 match P.underlying t with
 |some (.int k)=>.t (.int k 0)
 |some .bool =>.t (.bool false)
 |some .string =>.t (.str ByteArray.empty)
 |_ =>.undef
def FI (P:Program):List TypeId→List AV→Bool
 |[],[]=>true
 |t::ts,v::vs=>isT v&&H3 (tyT P t) v&&FI P ts vs
 |_,_=>false
def Ga (P:Program) (s:List AV):List TypeId→Nat→List AV
 |[],_=>[]
 |t::ts,k=>Ei (tyT P t) (s.getD k .undef)::Ga P s ts (k+1)
def OWN:Nat:=1000000
def EH:Nat:=2000000
noncomputable def FC (C:Cfg) (rec:Rec) (pc:BE) (q:Bool) (g:FuncId) (avs:List AV) (h:Heap) (K:AV→Heap→Option R):Option R:=
 if C.own g then
  if q then none else
  flatK C.P (G9 C.P g) avs fun ls=>DG C.P true (AY h ls) (It C.P g) ls fun xs=>match C.own2 g with
   |some j=>cnd (j<64) ((pc (EH+(64*g+j)) xs).bind fun ys=>Im C.P (C9 C.P g) ys fun ys=>match ys[j]? with
     |some (.sl z es)=>(match CO C.P g (fun i=>if i=j then .sref (AY h ls).length 0 0 es.length else .t (ys.getD i default)) with
      |some v=>K v (AY h ls++[.row false 0 z es])
      |none=>none)
     |_=>none) none
   |none=>(pc (OWN+g) xs).bind fun ys=>
    match C9 C.P g with
    |[t]=>(EO C.P t).bind fun z=>cnd (g<OWN) (cnd (ys.length=1∧E6 z (ys.getD 0 default)=true) (OD (C.reuse g) h ls z (FT (ys.getD 0 default)) K) none) none
    |_=>none
 else if C.heapful g then
  if q then none else match C.prim g with
  |some p=>aprim p h avs K
  |none=>if C.joinc g then
    join (fun (p:List AV×Heap)=>match CO C.P g (fun i=>(Ga C.P p.1 (C9 C.P g) 0).getD i .undef) with
      |some v=>K v (Bq h 0 p.2)
      |none=>none)
     fun J=>rec R (.fn g avs) h fun rs h1=>cnd (FI C.P (C9 C.P g) rs=true) (cutK h h1 fun hs=>J (rs,hs)) none
   else rec R (.fn g avs) h fun rs h1=>match CO C.P g (fun i=>rs.getD i .undef) with
    |some v=>K v (trim h.length rs h1)
    |none=>none
 else
  flatK C.P (G9 C.P g) avs fun ls=>
   let h1:=if q||B8 C.P g then h else AY h ls
   DG C.P (!B8 C.P g) h1 (It C.P g) ls fun xs=>cnd (g<OWN) ((pc g xs).bind fun ys=>Im C.P (C9 C.P g) ys fun ys=>
    match CO C.P g (fun i =>.t (ys.getD i default)) with
    |some v=>K v h1
    |none=>none) none
def enters (P:Program) (g:FuncId):Bool:=
 match P.funcs[g]? with
 | some fn => fn.body.isSome && !(fn.name == "runtime.NumGoroutine")
 |none=>false
noncomputable def MW (C:Cfg) (rec:Rec) (pc:BE) (q:Bool) (f:AV) (args:List AV) (h:Heap) (K:AV→Heap→Option R):Option R:=
 match f with
 | .func (.func g) first captured=>cnd (enters C.P g=true) (FC C rec pc q g (first++args++captured) h K) none
 | .t (.const (.func (.func g) ⟨[]⟩ ⟨[]⟩))=>cnd (enters C.P g=true) (FC C rec pc q g args h K) none
 | .yld i=>if q then none else rec R (.yield i args) h fun rs h1=>K (rs.getD 0 .undef) (trim h.length [rs.getD 0 .undef] h1)
 |_=>none
def DK:Operand→Nat
 | .tmp t=>t
 |_=>0
inductive Imm where
 |box (t:TypeId) (x:Operand)
 |alloc (t:TypeId)
 |store (t:TypeId) (a x:Operand)
 |ren (t:TypeId) (d:Tmp×Tmp)
 |no
def Bo (C:Cfg):Op→Imm
 | .box t x=>if C.cur (DK x) then .box t x else .no
 | .alloc t=>match C.ren t with
  |some d =>.ren t d
  |none=>if C.curT t then .alloc t else .no
 | .store t a x=>if C.curT t then .store t a x else .no
 |_ =>.no
def J4 (P:Program) (t:TypeId) (v:AV) (h:Heap) (K:AV→Option R):Option R:=
 match v.cells,BZ P t with
 |some cs,some n=>cnd (cs.length=n) (DG P true h (Bh P 16 t) cs fun xs=>K (.eptr n xs 0)) none
 |_,_=>none
def Fq (P:Program) (t:TypeId) (h:Heap) (K:AV→Heap→Option R):Option R:=
 match zeroCells? P t,BZ P t with
 |some z,some n=>cnd (n≠0∧z.length=n) (DG P true h (Bh P 16 t) z fun xs=>K (.rptr h.length 0 0 0) (h++[.row false 0 n [xs]])) none
 |_,_=>none
def Mj (P:Program) (tf:TypeId→Bool) (t:TypeId) (v u:AV) (h:Heap) (K:AV→Heap→Option R):Option R:=
 match zeroCells? P t,BZ P t with
 |some z,some n=>cnd (n≠0∧z.length=n) (DG P true h (Bh P 16 t) z fun xs=>match v with
  | .rptr i _ _ _=>(match u with
   | .agg _=>(match h[i]? with
    |some (.row false ver _ _)=>K (.rptr i (ver+1) 0 0) (h.set i (.row false (ver+1) n [xs]))
    |_=>none)
   |_=>Di P t (GK P tf (Bh P 16 t) z) h K)
  |_=>K (.rptr h.length 0 0 0) (h++[.row false 0 n [xs]])) none
 |_,_=>none
def Kh:AV→AV
 | .rptr i _ _ _ =>.sref i 0 0 0
 |_ =>.undef
noncomputable def Ae (C:Cfg) (rec:Rec) (pc:BE) (q:Bool) (env:Env) (h:Heap) (op:Op) (K:AV→Heap→Option R):Option R:=
 if Aw op then (if q then none else match Bo C op with
  | .box t x=>J4 C.P t (ev env x) h fun v=>K v h
  | .alloc t=>Fq C.P t h K
  | .ren t d=>Mj C.P C.curN t (env d.1) (env d.2) h K
  | .store t a x=>Et C.P t h (ev env a) (ev env x) fun h'=>K .undef (Dd h' (Kh (ev env a)))
  | .no=>hop C.P C.curN env h op K)
 else match op with
  | .call {callee :=.value f,args,.. }=>MW C rec pc q (ev env f) (args.toList.map (ev env)) h K
  | .convert src dst x=>if Mx C.P src dst then (if q then none else J7 h (ev env x) K) else qop C.P env h (.convert src dst x) fun v=>K v h
  | .buildSlice t len parts=>if C.fnTy t then (if q then none else D2 C.P t h len (parts.toList.map fun p=>(p.1,ev env p.2)) K) else qop C.P env h (.buildSlice t len parts) fun v=>K v h
  |op=>qop C.P env h op fun v=>K v h
def JC (N:Nat) (o:Oper):Bool:=
 match o.dst with
 |some d=>decide (d<N)
 |none=>true
noncomputable def Dh (C:Cfg) (rec:Rec) (pc:BE) (N:Nat) (q:Bool) (ops:Array Oper):List Oper→Env→Heap→(Env→Heap→Option R)→Option R
 |[],env,h,K=>K env h
 |o::rest,env,h,K=>cnd (JC N o=true) (FO ops o env (fun env=>Ae C rec pc q env h o.op fun v h'=>Dh C rec pc N q ops rest (env.put o.dst v) h' K)
    (fun env=>Dh C rec pc N q ops rest (env.put o.dst (.tuple [])) h K)) none
def F2 (acc:List Nat) (o:Oper):Nat:=o.after.toList.foldl (fun s e=>if Region.binds .any e then s ||| (2 ^ e.on ||| acc.getD e.on 0) else s) 0
def Dv:List Oper→List Nat→List Nat
 |[],acc=>acc
 |o::os,acc=>Dv os (acc++[F2 acc o])
def AQ (ops:Array Oper):List Nat:=Dv ops.toList []
def DR (b:List Nat) (size n:Nat):Bool:=(List.range size).all fun j=>decide (j<n)||(b.getD j 0==2 ^ j-1)
def Nk (b:List Nat) (size:Nat):Nat:=
 match ((List.range (size+1)).find? fun n=>DR b size n) with
 |some n=>n
 |none=>size
def F6 (ops:Array Oper):Bool:=(List.range ops.size).all fun j=>match ops[j]? with
 |some o=>o.after.toList.all fun e => !Region.binds .any e||decide (e.on<j)
 |none=>true
def drawOk (ops:Array Oper) (b:List Nat) (n:Nat):Bool:=
 (List.range n).all fun j=>(List.range j).all fun i=>(b.getD j 0).testBit i||(match ops[i]?,ops[j]? with
  |some x,some y=>x.apart ops y
  |_,_=>false)
def Af (C:Cfg):Op→Bool
 | .alloc t=>(C.ren t).isNone
 | .box _ _ | .store _ _ _ | .makeSlice _ _ _=>true
 | .makeMap _ none | .mapUpdate _ _ _ _=>true
 | .call {callee :=.builtin .append,.. } | .call {callee :=.builtin .clear,.. } | .call {callee :=.builtin .copy,.. }=>true
 | .call {callee :=.value (.func g),.. }=>C.own g
 | .buildSlice t _ _=>C.fnTy t
 | .convert src dst _=>Mx C.P src dst
 |_=>false
def CH (C:Cfg):Op→Bool
 | .call {callee :=.value (.func g),.. }=>C.heapful g && !C.own g
 |_=>false
def El:Nat→AV→Bool
 |0,_=>false
 |d+1,v=>match v with
  | .undef | .t _ | .nilsl | .eptr _ _ _=>true
  | .func _ f c=>f.all (El d)&&c.all (El d)
  | .agg cs | .tuple cs=>cs.all (El d)
  |_=>false
def BO:AV→Option Nat
 | .ptr i _ | .rptr i _ _ _ | .sref i _ _ _ | .bsl i _ _ _ | .mref i=>some i
 |_=>none
def F9:Op→Bool
 | .move _ | .assign _ | .pick _ _ _ | .build _ _ | .binOp _ _ _ _ _ | .unOp _ _ _ | .makeFunc _ _ _ | .extract _ _ | .nilCheck _=>true
 | .call {callee :=.builtin .max,.. } | .call {callee :=.builtin .min,.. }=>true
 |_=>false
def OC (S:List Nat) (v:AV):Bool:=El 4 v||(match BO v with
 |some i=>decide (i<1024)&&S.contains i
 |none=>false)
def Hu (i off n:Nat):Nat:=i+1024*(1+(off+4096*n))
def ob (c:Nat):Nat:=if c<1024 then c else c % 1024
def IV (off n:Nat):AF→AF
 | .box cs =>.box (.yld cs.length::(List.range n).map fun j=>cs.getD (off+j) .undef)
 |o=>o
def At (h:Heap) (c:Nat):Option AF:=if c<1024 then h[c]? else (h[c % 1024]?).map (IV ((c / 1024-1) % 4096) ((c / 1024-1) / 4096))
def ldN (P:Program) (t:TypeId):Option Nat:=
 match Ay P t with
 |some true=>BZ P t
 |some false=>some 1
 |none=>none
def partAt (P:Program) (S:List Nat) (env:Env):Op→Bool
 | .load t a=>match ev env a,ldN P t with
  | .ptr i off,some n=>decide (i<1024∧off<4096)&&S.contains (Hu i off n)
  |_,_=>false
 | .fieldAddr _ x _=>match ev env x with
  | .ptr _ _=>true
  |_=>false
 |_=>false
def F3 (P:Program) (S:List Nat) (env:Env) (op:Op):Bool:=F9 op||(partAt P S env op||op.operands.toList.all fun x=>OC S (ev env x))
def EP (env:Env):Op→List Nat
 | .store _ a _=>(BO (ev env a)).toList
 | .mapUpdate _ m _ _=>(BO (ev env m)).toList
 | .call {callee :=.builtin _,args,.. }=>match args.toList with
  |s::_=>(BO (ev env s)).toList
  |[]=>[]
 | .call {callee :=.value _,args,.. }=>(args.toList.map fun x=>match (ev env x).cells with
  |some cs=>cs.filterMap BO
  |none=>[]).flatten
 |_=>[]
def R2 (S T:List Nat):Bool:=S.all fun c => !T.contains (ob c)
def Gd (c off n:Nat):Bool:=decide (1024≤c)&&(decide ((c / 1024-1) % 4096+(c / 1024-1) / 4096≤off)||decide (off+n≤(c / 1024-1) % 4096))
def IP (P:Program) (S:List Nat) (env:Env) (op:Op):Bool:=R2 S (EP env op)||(match op with
 | .store t a _=>match ev env a,BZ P t with
  | .ptr i off,some n=>S.all fun c=>decide (ob c≠i)||Gd c off n
  |_,_=>false
 |_=>false)
def BG (S:List Nat) (h:Heap):Bool:=S.all fun c=>decide (ob c<h.length)
def BF (C:Cfg) (ops:Array Oper) (i:Nat):Bool:=
 match ops[i]? with
 |some o=>Af C o.op||CH C o.op
 |none=>false
def DZ (b:List Nat) (i j:Nat):Bool:=if i<j then !((b.getD j 0).testBit i) else !((b.getD i 0).testBit j)
def An (C:Cfg) (ops:Array Oper) (b:List Nat) (n i:Nat):Bool:=(List.range n).any fun j=>BF C ops j&&(j != i)&&DZ b i j
def drawOk2 (C:Cfg) (ops:Array Oper) (b:List Nat) (n:Nat):Bool:=
 (List.range n).all fun j=>(List.range j).all fun i=>(b.getD j 0).testBit i||(!(BF C ops i&&BF C ops j)&&(match ops[i]?,ops[j]? with
  |some x,some y=>x.apart ops y
  |_,_=>false))
noncomputable def Bd (C:Cfg) (rec:Rec) (pc:BE) (N:Nat) (ops:Array Oper) (S:List Nat) (nf:Nat→Bool):List Nat→Env→Heap→(Env→Heap→Option R)→Option R
 |[],env,h,K=>K env h
 |i::l,env,h,K=>match ops[i]? with
  |some o=>cnd (JC N o=true∧(nf i=true→F3 C.P S env o.op=true)∧BG S h=true∧(Af C o.op=true→IP C.P S env o.op=true)) (FO ops o env (fun env=>Ae C rec pc (!Af C o.op) env h o.op fun v h'=>Bd C rec pc N ops S nf l (env.put o.dst v) h' K)
    (fun env=>Bd C rec pc N ops S nf l (env.put o.dst (.tuple [])) h K)) none
  |none=>none
def Vs (ops:List Oper) (env:Env) (h:Heap):Nat→Operand→List Nat
 |0,_=>[]
 |d+1,.tmp t=>match ops.find? (fun o=>o.dst==some t) with
  |some o=>match o.op with
   | .move x | .assign x | .nilCheck x | .fieldAddr _ x _ | .indexAddr _ x _ | .slice _ x _ _ _=>Vs ops env h d x
   | .load _ a=>((Vs ops env h d a).map fun i=>match h[i]? with
    |some (.box cs)=>cs.filterMap BO
    |_=>[]).flatten
   |_=>[]
  |none=>(BO (env t)).toList
 |_,_=>[]
def Oi (P:Program) (ops:List Oper) (env:Env):Nat→Operand→AV
 |d+1,.tmp t=>match ops.find? (fun o=>o.dst==some t) with
  |some o=>match o.op with
   | .move x | .assign x | .nilCheck x=>Oi P ops env d x
   | .fieldAddr ty x f=>match Oi P ops env d x,Gq P ty f with
    | .ptr i off,some k =>.ptr i (off+k)
    |_,_ =>.undef
   |_ =>.undef
  |none=>env t
 |_,_ =>.undef
def looksOf (P:Program) (ops:List Oper) (env:Env) (h:Heap) (op:Op):List Nat:=
 let all:=(op.operands.toList.map (Vs ops env h 8)).flatten
 match op with
 | .load t a=>match Oi P ops env 8 a,ldN P t with
  | .ptr i off,some n=>if i<1024∧off<4096 then [Hu i off n] else all
  |_,_=>all
 | .fieldAddr _ x _=>match Oi P ops env 8 x with
  | .ptr _ _=>[]
  |_=>all
 |_=>all
def looks (P:Program) (ops:Array Oper) (nf:Nat→Bool) (n:Nat) (env:Env) (h:Heap):List Nat:=
 (((List.range n).map fun i=>match ops[i]? with
  |some o=>if nf i && !F9 o.op then looksOf P ops.toList env h o.op else []
  |none=>[]).flatten.eraseDups).filter fun c=>decide (ob c<h.length)
def Eg:List AV→List AV→Bool
 |[],[]=>true
 | .ptr i o::xs,.ptr j p::ys=>i==j&&o==p&&Eg xs ys
 | .yld i::xs,.yld j::ys=>i==j&&Eg xs ys
 |_,_=>false
def sameAt (h h':Heap) (i:Nat):Bool:=
 match At h i,At h' i with
 |some (.box xs),some (.box ys)=>Eg xs ys
 |_,_=>false
def VR (ops:Array Oper):Bool:=ops.toList.any (·.guard.isSome)
def dsts (ops:Array Oper):List Tmp:=ops.toList.filterMap (·.dst)
def writes:Code→List Tmp
 | .region _ ops _=>dsts ops
 | .seq a b=>writes a++writes b
 | .cond _ a b=>writes a++writes b
 | .block _ a=>writes a
 | .loop a=>writes a
 | .scope a=>writes a
 |_=>[]
def KT:Code→Bool
 | .ret | .exit _ | .goto _ | .loop _ | .refuse _=>false
 | .seq a b=>KT a&&KT b
 | .cond _ a b=>KT a||KT b
 |_=>true
def JA (id:Nat):Code→Nat
 | .exit i=>if i=id then 1 else 0
 | .seq a b=>JA id a+JA id b
 | .cond _ a b=>JA id a+JA id b
 | .block _ a=>JA id a
 | .loop a=>JA id a
 | .scope a=>JA id a
 | .rangeFunc _ _ _ a=>JA id a
 |_=>0
def CR:Code→Nat
 | .region id _ _=>id
 | .seq a _=>CR a
 | .cond _ a _=>CR a
 | .block _ a=>CR a
 | .loop a=>CR a
 | .scope a=>CR a
 |_=>0
noncomputable def Pr (C:Cfg) (rec:Rec) (pc:BE) (N:Nat) (S:List Nat) (o:Oper) (env:Env) (h:Heap) (K:Env→Heap→Option R):Option R:=
 cnd (JC N o=true∧o.guard=none) (Ae C rec pc false env h o.op fun v h'=>cnd (S.all (sameAt h h')=true) (K (env.put o.dst v) h') none) none
def Vw (C:Cfg) (ops:Array Oper) (b:List Nat) (n:Nat):List (Nat×Nat):=
 ((List.range n).map fun j=>((List.range j).filter fun i => !(b.getD j 0).testBit i&&(BF C ops i&&BF C ops j)).map fun i=>(i,j)).flatten
def drawOkP (C:Cfg) (ops:Array Oper) (b:List Nat) (n i0 j0:Nat):Bool:=
 (List.range n).all fun j=>(List.range j).all fun i=>(b.getD j 0).testBit i||(i==i0&&j==j0)||(!(BF C ops i&&BF C ops j)&&(match ops[i]?,ops[j]? with
  |some x,some y=>x.apart ops y
  |_,_=>false))
def order2 (b:List Nat) (n i0 j0:Nat):List Nat:=
 ((List.range n).filter fun k=>decide (k≤j0) && !(k==i0||(b.getD k 0).testBit i0))++(((List.range n).filter fun k=>decide (k≤j0)&&(k==i0||(b.getD k 0).testBit i0))++(List.range n).filter fun k=>decide (j0<k))
def SU (b:List Nat):List Nat→Bool
 |[]=>true
 |x::l=>l.all (fun y => !(b.getD x 0).testBit y)&&SU b l
def RG (C:Cfg) (ops:Array Oper) (b:List Nat) (n i0 j0:Nat):Bool:=
 drawOkP C ops b n i0 j0&&((order2 b n i0 j0).isPerm (List.range n)&&(SU b (order2 b n i0 j0)&&decide ((order2 b n i0 j0).idxOf j0<(order2 b n i0 j0).idxOf i0)))
def I4:Op→Bool
 | .call {callee :=.value _,.. }=>true
 |_=>false
def Rt (ops:List Oper) (env:Env) (h:Heap):Nat→Operand→AV
 |d+1,.tmp t=>match ops.find? (fun o=>o.dst==some t) with
  |some o=>(match o.op with
   | .move x | .assign x=>Rt ops env h d x
   | .load _ x=>(match Rt ops env h d x with
    | .ptr j off=>(match h[j]? with
     |some (.box cs)=>cs.getD off .undef
     |_ =>.undef)
    |_ =>.undef)
   |_ =>.undef)
  |none=>env t
 |_,x=>ev env x
def QJ (C:Cfg) (ops:Array Oper) (env:Env) (h:Heap) (o:Oper):Bool:=
 match o.op with
 | .call {callee :=.value (.tmp t),.. }=>(match Rt ops.toList env h 4 (.tmp t) with
  | .func (.func g) _ _=>C.heapful g && !C.own g
  |_=>false)
 |_=>false
def Sf (C:Cfg) (ops:Array Oper) (lo hi:Nat) (env:Env) (h:Heap):Option Nat:=
 (List.range hi).find? fun i=>decide (lo≤i)&&match ops[i]? with
  |some o=>QJ C ops env h o||CH C o.op
  |none=>false
def midAny (C:Cfg) (ops:Array Oper) (n:Nat) (env:Env) (h:Heap):Bool:=
 (List.range n).any fun i=>match ops[i]? with
  |some o=>QJ C ops env h o||(CH C o.op&&decide (i+1≠n))
  |none=>false
def cutAt (b:List Nat) (size k:Nat):Bool:=(List.range size).all fun j=>decide (j<k)||(List.range k).all fun i=>(b.getD j 0).testBit i
def Sz (b:List Nat) (size n:Nat):List Nat:=(List.range (n+1)).filter fun k=>decide (0<k)&&cutAt b size k
def Jx (b:List Nat) (size n:Nat):List Nat→Nat→Bool
 |[],lo=>lo==n
 |k::ks,lo=>decide (lo<k∧k≤n)&&(cutAt b size k&&Jx b size n ks k)
def CP (C:Cfg) (ops:Array Oper) (m0:Option Nat) (i:Nat):Bool:=BF C ops i||m0==some i
def nf3 (C:Cfg) (ops:Array Oper) (b:List Nat) (lo hi:Nat) (m0:Option Nat) (i:Nat):Bool:=(List.range hi).any fun j=>decide (lo≤j)&&(CP C ops m0 j&&(j != i)&&DZ b i j)
def KH (C:Cfg) (ops:Array Oper) (b:List Nat) (lo hi:Nat) (m0:Option Nat):Bool:=
 ((List.range hi).all fun j=>decide (j<lo)||(List.range j).all fun i=>decide (i<lo)||((b.getD j 0).testBit i||(!(CP C ops m0 i&&CP C ops m0 j)&&(match ops[i]?,ops[j]? with
  |some x,some y=>x.apart ops y
  |_,_=>false))))&&(match m0 with
  |some m=>decide (lo≤m∧m<hi)&&(List.range hi).all fun j=>decide (j<lo) || !(b.getD j 0).testBit m
  |none=>true)
noncomputable def ND (h h':Heap) (i:Nat) (a:Option R):Option R:=
 match At h i,At h' i with
 |some x,some y=>Ru x y a
 |_,_=>none
noncomputable def D6 (h h':Heap):List Nat→Option R→Option R
 |[],a=>a
 |i::S,a=>ND h h' i (D6 h h' S a)
noncomputable def Lx (C:Cfg) (rec:Rec) (pc:BE) (N:Nat) (ops:Array Oper) (S:List Nat) (o:Oper) (env:Env) (h:Heap) (K:Env→Heap→Option R):Option R:=
 cnd (JC N o=true) (FO ops o env (fun env=>Ae C rec pc false env h o.op fun v h'=>D6 h h' S (K (env.put o.dst v) h'))
  (fun env=>cnd (BG S h=true) (K (env.put o.dst (.tuple [])) h) none)) none
def IK (b:List Nat) (lo m:Nat) (u:Option Nat) (i:Nat):Bool:=
 decide (lo≤i)&&(i != m&&(!((b.getD i 0).testBit m)&&(match u with
  |some u=>i != u && !((b.getD i 0).testBit u)
  |none=>true)))
def E3 (b:List Nat) (lo m:Nat) (u:Option Nat) (i:Nat):Bool:=decide (lo≤i)&&(i != m && !IK b lo m u i)
def Js (m:Nat) (u:Option Nat) (i j:Nat):Bool:=
 match u with
 |some u=>(i==m&&j==u)||(i==u&&j==m)
 |none=>false
def Rf (b:List Nat) (lo hi m:Nat) (v:Option Nat):Bool:=
 (List.range hi).all fun y => !IK b lo m v y||(List.range hi).all fun x=>decide (x<lo)||(IK b lo m v x || !((b.getD y 0).testBit x))
def RH (C:Cfg) (ops:Array Oper) (b:List Nat) (lo hi m:Nat) (u:Option Nat):Bool:=
 ((List.range hi).all fun j=>decide (j<lo)||(List.range j).all fun i=>decide (i<lo)||((b.getD j 0).testBit i||(Js m u i j||(!(CP C ops (some m) i&&CP C ops (some m) j)&&(match ops[i]?,ops[j]? with
  |some x,some y=>x.apart ops y
  |_,_=>false))))) &&
 (decide (lo≤m∧m<hi)&&(((List.range hi).all fun i=>(decide (m<i) || !((b.getD i 0).testBit m))&&(match u with
  |some u=>decide (u<i) || !((b.getD i 0).testBit u)
  |none=>true))&&(Rf b lo hi m none&&(match u with
  |some u=>u != m&&Rf b lo hi m (some u)
  |none=>true))))
def ordU (C:Cfg) (ops:Array Oper) (b:List Nat) (lo hi m:Nat):Option Nat:=
 (List.range hi).find? fun i=>decide (lo≤i)&&(i != m&&(BF C ops i&&DZ b i m))
noncomputable def RI (C:Cfg) (rec:Rec) (pc:BE) (N:Nat) (ops:Array Oper) (b:List Nat) (lo hi m:Nat) (u:Option Nat) (S:List Nat) (nf:Nat→Bool) (o:Oper) (env:Env) (h:Heap) (K:Env→Heap→Option R):Option R:=
 Bd C rec pc N ops S nf ((List.range hi).filter (IK b lo m u)) env h fun env1 h1=>Lx C rec pc N ops S o env1 h1 fun env2 h2=>Bd C rec pc N ops S nf ((List.range hi).filter (E3 b lo m u)) env2 h2 K
def nfS (C:Cfg) (ops:Array Oper) (b:List Nat) (lo hi m0 i:Nat):Bool:=i != m0&&nf3 C ops b lo hi (some m0) i
noncomputable def segK (C:Cfg) (rec:Rec) (pc:BE) (N:Nat) (ops:Array Oper) (b:List Nat) (lo hi:Nat) (env:Env) (h:Heap) (K:Env→Heap→Option R):Option R:=
 match Sf C ops lo hi env h with
 |some m0=>(match ops[m0]? with
  |some o=>if KH C ops b lo hi (some m0)=false then cnd (RH C ops b lo hi m0 (ordU C ops b lo hi m0)=true∧I4 o.op=true)
    (match ordU C ops b lo hi m0 with
    |none=>RI C rec pc N ops b lo hi m0 none (looks C.P ops (nfS C ops b lo hi m0) hi env h) (nf3 C ops b lo hi (some m0)) o env h K
    |some u=>both (RI C rec pc N ops b lo hi m0 none (looks C.P ops (nfS C ops b lo hi m0) hi env h) (nf3 C ops b lo hi (some m0)) o env h K)
     (RI C rec pc N ops b lo hi m0 (some u) (looks C.P ops (nfS C ops b lo hi m0) hi env h) (nf3 C ops b lo hi (some m0)) o env h K)) none
   else cnd (KH C ops b lo hi (some m0)=true∧I4 o.op=true)
   (Bd C rec pc N ops (looks C.P ops (nfS C ops b lo hi m0) hi env h) (nf3 C ops b lo hi (some m0)) ((List.range hi).filter fun i=>decide (lo≤i)&&i != m0) env h fun env' h'=>Lx C rec pc N ops (looks C.P ops (nfS C ops b lo hi m0) hi env h) o env' h' K) none
  |none=>none)
 |none=>cnd (KH C ops b lo hi none=true) (Bd C rec pc N ops (looks C.P ops (nf3 C ops b lo hi none) hi env h) (nf3 C ops b lo hi none) ((List.range hi).filter fun i=>decide (lo≤i)) env h K) none
noncomputable def NC (C:Cfg) (rec:Rec) (pc:BE) (N:Nat) (ops:Array Oper) (b:List Nat):List Nat→Nat→Env→Heap→(Env→Heap→Option R)→Option R
 |[],_,env,h,K=>K env h
 |k::ks,lo,env,h,K=>segK C rec pc N ops b lo k env h fun env' h'=>NC C rec pc N ops b ks k env' h' K
def ptrBox (h:Heap) (i:Nat):Bool:=
 match At h i with
 |some (.box cs)=>cs.all fun v=>match v with
  | .ptr _ _=>true
  | .yld _=>true
  |_=>false
 |_=>false
def lastBad (C:Cfg) (ops:Array Oper) (nf:Nat→Bool) (n:Nat) (env:Env) (h:Heap):Bool:=
 (match n with
 |m+1=>(match ops[m]? with
  |some o=>CH C o.op
  |none=>false)
 |0=>false) && !((looks C.P ops nf n env h).all (ptrBox h))
noncomputable def Kj (C:Cfg) (rec:Rec) (pc:BE) (N:Nat) (ops:Array Oper) (draw:Bool) (env:Env) (h:Heap) (K:Env→Heap→Option R):Option R:=
 if draw then
  let b:=AQ ops;let n:=Nk b ops.size;let nf:=An C ops b n
  match (if (Sf C ops 0 n env h).isSome then [] else Vw C ops b n) with
  |[(i0,j0)]=>cnd (RG C ops b n i0 j0=true∧DR b ops.size n=true∧F6 ops=true∧n≤ops.size)
    (both (Bd C rec pc N ops (looks C.P ops nf n env h) nf (List.range n) env h fun env' h'=>Dh C rec pc N false ops (ops.toList.drop n) env' h' K)
     (Bd C rec pc N ops (looks C.P ops nf n env h) nf (order2 b n i0 j0) env h fun env' h'=>Dh C rec pc N false ops (ops.toList.drop n) env' h' K)) none
  |_=>match midAny C ops n env h||lastBad C ops nf n env h with
   |true=>cnd (Jx b ops.size n (Sz b ops.size n) 0=true∧DR b ops.size n=true∧F6 ops=true∧n≤ops.size)
     (NC C rec pc N ops b (Sz b ops.size n) 0 env h fun env' h'=>Dh C rec pc N false ops (ops.toList.drop n) env' h' K) none
   |false=>cnd (drawOk2 C ops b n=true∧DR b ops.size n=true∧F6 ops=true∧n≤ops.size) (match (match n with
    |m+1=>match ops[m]? with
     |some o=>if CH C o.op then some (m,o) else none
     |none=>none
    |0=>none) with
   |some (m,o)=>Bd C rec pc N ops (looks C.P ops nf n env h) nf (List.range m) env h fun env' h'=>Pr C rec pc N (looks C.P ops nf n env h) o env' h' fun env' h'=>Dh C rec pc N false ops (ops.toList.drop n) env' h' K
   |none=>Bd C rec pc N ops (looks C.P ops nf n env h) nf (List.range n) env h fun env' h'=>Dh C rec pc N false ops (ops.toList.drop n) env' h' K) none
 else Dh C rec pc N false ops ops.toList env h K
def AI {S:Type} (body:S→(S→Option R)→Option R):Nat→S→Option R
 |0,_=>none
 |n+1,s=>body s (AI body n)
def Rc:Code→Option Exit
 | .ret=>some .ret
 | .exit id=>some (.exit id)
 |_=>none
def RS (h:Heap) (i:Nat):Option (Option Code):=
 match h[i]? with
 |some (.loop l)=>if l.busy||l.ended then none else some l.pending
 |_=>none
def varCall (ops:Array Oper):Bool:=ops.toList.any fun o=>match o.op with
 | .call {callee :=.value (.tmp _),.. }=>true
 |_=>false
noncomputable def Ce (C:Cfg) (hi:Hints) (fn:FuncId) (N:Nat) (rec:Rec) (pc:BE) (fuel:Nat):Code→Env→Heap→(Exit→Env→Heap→Option R)→Option R
 | .skip,env,h,K=>K .normal env h
 | .label _,env,h,K=>K .normal env h
 | .ret,env,h,K=>K .ret env h
 | .exit id,env,h,K=>K (.exit id) env h
 | .region id ops draw,env,h,K=>
  if VR ops && !varCall ops then
   join (fun (p:List AV×Heap)=>K .normal (Ch hi.tm (dsts ops) (hi.reg id) env p.1) (Bq h 0 p.2))
    fun J=>Kj C rec pc N ops draw env (AY h ((hi.pre id).map env)) fun env' h'=>GJ hi.tm env h (hi.reg id) env' h' fun s hs=>J (s,hs)
  else Kj C rec pc N ops draw env (AY h ((hi.pre id).map env)) fun env' h'=>K .normal env' h'
 | .seq a b,env,h,K=>Ce C hi fn N rec pc fuel a env h fun e env' h'=>match e with
  | .normal=>Ce C hi fn N rec pc fuel b env' h' K
  |e=>K e env' h'
 | .cond c a b,env,h,K=>(asBool (ev env c)).bind fun t=>
  if hi.only (DK c)=1 then cnd (t=true) (Ce C hi fn N rec pc fuel a env h K) none
  else if hi.only (DK c)=2 then cnd (t=true) none (Ce C hi fn N rec pc fuel b env h K)
  else if KT a&&KT b && !hi.split (DK c) then
   E2 hi ((hi.cond (DK c)).filter fun i=>(writes a++writes b).contains i) env h fun env h=>
   join (fun (p:List AV×Heap)=>K .normal (Ch hi.tm (writes a++writes b) (hi.cond (DK c)) env p.1) (Bq h 0 p.2))
    fun J=>cnd (t=true) (Ce C hi fn N rec pc fuel a env h (fun e env' h'=>match e with
      | .normal=>GJ hi.tm env h (hi.cond (DK c)) env' h' fun s hs=>J (s,hs)
      |e=>K e env' h'))
     (Ce C hi fn N rec pc fuel b env h (fun e env' h'=>match e with
      | .normal=>GJ hi.tm env h (hi.cond (DK c)) env' h' fun s hs=>J (s,hs)
      |e=>K e env' h'))
  else cnd (t=true) (Ce C hi fn N rec pc fuel a env h K) (Ce C hi fn N rec pc fuel b env h K)
 | .block id a,env,h,K=>
  if JA id a+(if KT a then 1 else 0)≤1 then Ce C hi fn N rec pc fuel a env h fun e env' h'=>match e with
   | .exit i=>if i=id then K .normal env' h' else K (.exit i) env' h'
   |e=>K e env' h'
  else
   E2 hi ((hi.block id).filter fun i=>(writes a).contains i) env h fun env h=>
   join (fun (p:List AV×Heap)=>K .normal (Ch hi.tm (writes a) (hi.block id) env p.1) (Bq h 0 p.2))
    fun J=>Ce C hi fn N rec pc fuel a env h fun e env' h'=>match e with
     | .normal=>GJ hi.tm env h (hi.block id) env' h' fun s hs=>J (s,hs)
     | .exit i=>if i=id then GJ hi.tm env h (hi.block id) env' h' fun s hs=>J (s,hs) else K (.exit i) env' h'
     |e=>K e env' h'
 | .loop a,env,h,K=>E2 hi ((hi.loop (CR a)).filter fun i=>(writes a).contains i) env h fun env h=>
  GJ hi.tm env h (hi.loop (CR a)) env h fun s hs=>
   AI (fun (p:List AV×Heap) again=>Ce C hi fn N rec pc fuel a (Ch hi.tm (writes a) (hi.loop (CR a)) env p.1) (Bq h 0 p.2) fun e env' h'=>match e with
    | .normal=>GJ hi.tm env h (hi.loop (CR a)) env' h' fun s hs=>again (s,hs)
    |e=>K e env' h') fuel (s,hs)
 | .rangeFunc f params assign body,env,h,K=>match ev env f with
  | .func (.func g) first captured=>if enters C.P g=false then none else
   rec R (.fn g (first++[.yld h.length]++captured)) (h++[.loop {fn,size:=N,env,params:=params.toList,assign,body,busy:=false,pending:=none,ended:=false,hl:=h.length}]) fun _ h1=>
    (RS h1 h.length).bind fun j=>cnd (((h1.take h.length).all (Ge h.length))=true) (match j with
     |none=>K .normal env (h1.take h.length)
     |some c=>(Rc c).bind fun e=>K e env (h1.take h.length)) none
  |_=>none
 |_,_,_,_=>none
def Q6 (P:Program) (env:Env) (h:Heap):List ResultVar→(List AV→Option R)→Option R
 |[],K=>K []
 | .tmp t::rs,K=>Q6 P env h rs fun vs=>K (env t::vs)
 | .cell a t::rs,K=>H2 P t h (env a) fun v=>Q6 P env h rs fun vs=>K (v::vs)
def Fw (h:Heap) (i:Nat) (busy:Bool) (pending:Option Code):Heap:=
 match h[i]? with
 |some (.loop l)=>h.set i (.loop {l with busy,pending})
 |_=>h
def codeOf:Exit→Option Code
 | .ret=>some .ret
 | .exit id=>some (.exit id)
 |_=>none
def Lg (env:Env):List Tmp→List AV→Env
 |t::ts,v::vs=>Lg (env.put (some t) v) ts vs
 |_,_=>env
def OM:AF→Bool
 | .loop _=>false
 |_=>true
def OJ (h:Heap) (i:Nat):Bool:=
 match h[i]? with
 |some (.loop l)=> !l.ended
 |_=>false
def OB (h:Heap) (i:Nat):Bool:=
 match h[i]? with
 |some (.loop l)=> !l.ended && !l.busy&&l.pending.isNone
 |_=>false
noncomputable def Ma (C:Cfg) (rec:Rec) (pc:BE) (n:Nat) (g:FuncId) (avs:List AV) (h:Heap) (K:List AV→Heap→Option R):Option R:=
 match C.P.funcs[g]? with
 |some fn=>match fn.body with
  |some c=>cnd (avs.length≤fn.ntmps) (Ce (C.at g) (C.hints g) g fn.ntmps rec pc n c (fun i=>avs.getD i .undef) h fun e env h'=>match e with
     | .normal | .ret=>cnd (((h'.drop h.length).all OM)=true) (Q6 C.P env h' fn.results.toList fun vs=>flatK C.P fn.resultTypes.toList vs fun rs=>K rs h') none
     |_=>none) none
  |none=>none
 |none=>none
noncomputable def Q0 (C:Cfg) (rec:Rec) (pc:BE) (n:Nat) (i:Nat) (args:List AV) (h:Heap) (K:List AV→Heap→Option R):Option R:=
 match h[i]? with
 |some (.loop l)=>
  cnd (l.busy=false∧l.ended=false∧l.pending.isNone=true∧args.length=l.params.length∧(l.params.all fun t=>decide (t<l.size))=true) (Ce (C.at l.fn) (C.hints l.fn) l.fn l.size rec pc n l.assign (Lg l.env l.params args) h fun e env h'=>match e with
    | .normal=>cnd (OB h' i=true) (Ce (C.at l.fn) (C.hints l.fn) l.fn l.size rec pc n l.body env (Fw h' i true none) fun e _ h'=>cnd (OJ h' i=true) ((match e with
     | .normal=>K [.t (.bool true)] (Fw h' i false none)
     |e=>(codeOf e).bind fun c=>K [.t (.bool false)] (Fw h' i false (some c)))) none) none
    |_=>none) none
 |_=>none
noncomputable def inl (C:Cfg) (pc:BE) (n:Nat):Nat→Rec
 |0=>fun _ _ _ _ _=>none
 |d+1=>fun _ _ r h K=>match r with
  | .fn g avs=>Ma C (inl C pc n d) pc n g avs h K
  | .yield i args=>Q0 C (inl C pc n d) pc n i args h K
noncomputable def SQ (C:Cfg) (rec:Rec) (pc:BE) (n:Nat) (g:FuncId) (xs:List Tree):Option (List Tree):=
 match DA C.P g (fun i =>.t (xs.getD i default)) with
 |some avs=>Ma C rec pc n g avs [] fun rs h'=>DG C.P false h' (C9 C.P g) rs fun ys=>cnd (B8 C.P g=true→ys.all Tree.scalar=true) (some ys) none
 |none=>none
def Li (P:Program) (g:FuncId):Bool:=
 match P.funcs[g]? with
 |some fn=>match fn.resultTypes.toList with
  |[t]=>Ay P t==some false
  |_=>false
 |none=>false
noncomputable def Iv (C:Cfg) (rec:Rec) (pc:BE) (n:Nat) (g:FuncId) (xs:List Tree):Option (List Tree):=
 match DA C.P g (fun i =>.t (xs.getD i default)),C9 C.P g with
 |some avs,[t]=>(EO C.P t).bind fun z=>cnd (Li C.P g=true) (Ma C rec pc n g avs [] fun rs h'=>match rs with
  |[.nilsl]=>some [.sl z []]
  |[.sref i ver off len]=>match h'[i]? with
   |some (.row false ver' size es)=>cnd (ver'=ver∧size=z) (some [.sl z ((es.drop off).take len)]) none
   |_=>none
  |_=>none) none
 |_,_=>none
def Kk (P:Program) (h:Heap) (ts:List TypeId) (rs:List AV) (j:Nat) (x:Tree):Option (List Tree):=
 cnd (rs.length=ts.length) (DG P true h (ts.take j) (rs.take j) fun a=>DG P true h (ts.drop (j+1)) (rs.drop (j+1)) fun b=>some (a++x::b)) none
noncomputable def HA (C:Cfg) (rec:Rec) (pc:BE) (n:Nat) (j g:Nat) (xs:List Tree):Option (List Tree):=
 match DA C.P g (fun i =>.t (xs.getD i default)),(C9 C.P g)[j]? with
 |some avs,some t=>(EO C.P t).bind fun z=>Ma C rec pc n g avs [] fun rs h'=>match rs[j]? with
  |some .nilsl=>Kk C.P h' (C9 C.P g) rs j (.sl z [])
  |some (.sref i ver off len)=>(match h'[i]? with
   |some (.row false ver' size es)=>cnd (ver'=ver∧size=z) (Kk C.P h' (C9 C.P g) rs j (.sl z ((es.drop off).take len))) none
   |_=>none)
  |_=>none
 |_,_=>none
def pcx (C:Cfg) (pc:BE):BE:=fun g xs=>match xs with
 |[]=>if g<OWN then match C.ext g [] with
  |some ys=>some ys
  |none=>pc g []
  else pc g []
 |x::xs=>pc g (x::xs)
noncomputable def AL (C:Cfg):Nat→BE
 |0=>fun _ _=>none
 |n+1=>fun g xs=>if g<OWN then match C.ext g xs with
  |some ys=>some ys
  |none=>SQ C (inl C (pcx C (AL C n)) n C.depth) (pcx C (AL C n)) n g xs else if g<EH then Iv C (inl C (pcx C (AL C n)) n C.depth) (pcx C (AL C n)) n (g-OWN) xs
  else HA C (inl C (pcx C (AL C n)) n C.depth) (pcx C (AL C n)) n ((g-EH) % 64) ((g-EH) / 64) xs
end Ab
