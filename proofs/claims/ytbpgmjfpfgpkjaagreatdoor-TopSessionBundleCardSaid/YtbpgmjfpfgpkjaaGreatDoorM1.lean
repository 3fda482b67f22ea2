/- A part of the proof: see the last text. -/
import Derived.RangeFuncIn
import Derived.Laws.Sem
import Derived.Laws.World
import Derived.Laws.Cells
import Derived.Below
import Derived.Laws.Entries
import Derived.ChangeKeysEq
import Derived.Laws.StructEq
import Derived.Laws.Tables
import Derived.Laws.CopyRow
import Derived.Laws.AppendOwn
import Derived.Lib.AppendStr
import Derived.Lib.ConvBytes
import Derived.Laws.MakeOwn
import Derived.Shelf.Bodies2
import Derived.Shelf.SlGeneric
import Derived.Shelf.RegionOpenPlain
import Derived.WalkKit
import Derived.Lib.Walk
import Derived.Lib.SliceRun
import Derived.Lib.JoinLaws
import Derived.Lib.AppendZerosOnto
import Derived.Laws.Externs
import Derived.Laws.IdiomCopy
import Derived.Laws.NewBlocks
import Derived.Shelf.Spec.SlicesGrow
import Derived.Orders
set_option linter.unusedVariables false
set_option linter.unusedSimpArgs false
open Array (getElem?_toList toArray_toList)
open Array renaming eq_empty_of_size_eq_zero → zA, getElem?_push → zB, length_toList → zC, size_append → zD
open Bool renaming and_eq_true → zE, false_eq_true → zF
open Int (tdiv tmod toNat)
open Int renaming toNat_natCast → zG
open List (all_cons all_eq_true append_nil drop drop_drop flatten_cons foldl_cons getElem?_cons_succ getElem?_cons_zero getElem_mem length length_append length_cons length_map map_take mem_map mem_range nil_append take take_append_drop take_zero)
open List renaming append_assoc → zH, eq_nil_of_length_eq_zero → zI, ext_getElem? → zJ, getD_eq_getElem?_getD → zK, getElem?_append_left → zL, getElem?_append_right → zM, getElem?_drop → zN, getElem?_eq_getElem → zO, getElem?_eq_none → zP, getElem?_map → zQ, getElem?_range → zR, getElem?_take → zS, getElem?_take_of_lt → zT, getElem_of_mem → zU, length_nil → zV, length_pos_iff → zW, length_take → zX, replicate → zY, size_toArray → zZ
open Nat (le_succ mul_comm ne_of_lt)
open Nat renaming add_assoc → yA, add_le_add_left → yB, add_mul → yC, add_zero → yD, le_refl → yE, le_trans → yF, lt_of_lt_of_le → yG, lt_or_ge → yH, mod_lt → yI, mul_le_mul_right → yJ, not_lt → yK, pos_of_ne_zero → yL, succ_mul → yM, zero_add → yN, zero_le → yO
open Option renaming map_some → yP
namespace Ab
open Go
inductive Tree where
 |int (k:IntKind) (n:Int)
 |bool (b:Bool)
 |str (s:ByteArray)
 |sl (size:Nat) (es:List (List Tree))
 |const (v:Value)
 |mp (k:IntKind) (m:List (Int×Nat))
 deriving Inhabited
inductive Bv (w:World) (A:Nat→Prop):Tree→Value→Prop
 |int (k:IntKind) (n:Int):Bv w A (.int k n) (.int k n)
 |bool (b:Bool):Bv w A (.bool b) (.bool b)
 |str (s:ByteArray):Bv w A (.str s) (.string s)
 |const (v:Value):v.oneCell'=true→Bv w A (.const v) v
 |mp (k:IntKind) (m:List (Int×Nat)) (b:Nat) (es:Array MapEntry) (clock:Nat):b<w.heap.size→¬A b→w.heap[b]? = some (.map es clock)→
   es.toList.map (fun e=>(e.key,e.val))=m.map (fun p=>(.int k p.1,.func (.func p.2) #[] #[]))→Bv w A (.mp k m) (.map (some b))
 |nil (size cap:Nat) (a:Option Addr):Bv w A (.sl size []) (.slice a 0 cap)
 |sl (size:Nat) (es:List (List Tree)) (b off cap:Nat) (u:Nat→Nat→Value):es.length≤cap→b<w.heap.size→¬A b→
   (∀(j:Nat) (e:List Tree),es[j]? = some e→e.length=size)→
   (∀(j:Nat) (e:List Tree) (c:Nat) (x:Tree),es[j]? = some e→e[c]? = some x→w.cell? ⟨b,off+(j*size+c),none⟩=some (u j c))→
   (∀(j:Nat) (e:List Tree) (c:Nat) (x:Tree),es[j]? = some e→e[c]? = some x→Bv w A x (u j c))→
   Bv w A (.sl size es) (.slice (some ⟨b,off,none⟩) es.length cap)
theorem K2 {w w':World} {b o:Nat} (h:w'.heap[b]? = w.heap[b]?):w'.cell? ⟨b,o,none⟩=w.cell? ⟨b,o,none⟩:=by simp only [World.cell?,h]
theorem Bv.mono {w w':World} {A A':Nat→Prop} (hs:w.heap.size≤w'.heap.size)
  (hk:∀b,b<w.heap.size→¬A b→w'.heap[b]? = w.heap[b]?) (hA:∀b,A' b→A b∨w.heap.size≤b)
  {x:Tree} {v:Value} (h:Bv w A x v):Bv w' A' x v:=by
 induction h with
 |int k n=>exact .int k n
 |bool b=>exact .bool b
 |str s=>exact .str s
 |const v h=>exact .const v h
 |mp k m b es clock h1 h2 h3 h4=>
  refine .mp k m b es clock (yG h1 hs) (fun h => ?_) ((hk b h1 h2).trans h3) h4;rcases hA b h with h|h
  ·exact h2 h
  ·omega
 |nil size cap a=>exact .nil size cap a
 |sl size es b off cap u h1 h2 h3 h4 h5 _ ih=>
  refine .sl size es b off cap u h1 (yG h2 hs) (fun h => ?_) h4 (fun j e c x he hx => ?_) ih
  ·rcases hA b h with h|h
   ·exact h3 h
   ·omega
  ·rw [K2 (hk b h2 h3)];exact h5 j e c x he hx
theorem Bv.one {w:World} {A:Nat→Prop} {x:Tree} {v:Value} (h:Bv w A x v):v.oneCell'=true:=by cases h<;>first|rfl|assumption
inductive AV where
 |undef
 |t (x:Tree)
 |nilsl
 |ptr (i off:Nat)
 |rptr (i ver k off:Nat)
 |eptr (size:Nat) (cells:List Tree) (off:Nat)
 |sref (i ver off len:Nat)
 |bsl (i off len size:Nat)
 |yld (i:Nat)
 |mref (i:Nat)
 |func (fn:Fn) (first captured:List AV)
 |agg (cs:List AV)
 |tuple (vs:List AV)
 deriving Inhabited
abbrev Env:=Nat→AV
structure Dg where
 fn:FuncId
 size:Nat
 env:Env
 params:List Tmp
 assign:Code
 body:Code
 busy:Bool
 pending:Option Code
 ended:Bool
 hl:Nat
 deriving Inhabited
inductive AF where
 |box (cs:List AV)
 |row (frz:Bool) (ver size:Nat) (es:List (List Tree))
 |loop (l:Dg)
 |mapo (k ke:IntKind) (es:List (Int×Int))
 deriving Inhabited
abbrev Heap:=List AF
abbrev BG:=List (Option (Nat×Nat))
def AF.ver:AF→Nat
 | .row _ v _ _=>v
 |_=>0
def AF.len:AF→Nat
 | .row _ _ _ es=>es.length
 | .box cs=>cs.length
 |_=>0
def AF.size:AF→Nat
 | .row _ _ s _=>s
 |_=>0
def AF.MO:AF→Bool
 | .row f _ _ _=>f
 |_=>false
def AF.kind:AF→Nat
 | .box _=>0
 | .loop _=>1
 | .mapo _ _ _=>3
 |_=>2
def AF.rec? : AF→Option Dg
 | .loop l=>some {l with busy:=false,pending:=none,ended:=false}
 |_=>none
def Ex (κ:BG) (h:Heap) (b:Nat):Prop:=∃(i base:Nat) (o:AF),κ[i]? = some (some (b,base))∧h[i]? = some o∧o.MO=false
def SRef (κ:BG) (h:Heap) (w:World) (i ver off len:Nat) (v:Value):Prop:=
 ∀(k:Option (Nat×Nat)) (o:AF),κ[i]? = some k→h[i]? = some o→o.ver=ver→o.kind=2∧off+len≤o.len∧
  ((len=0∧off=o.len∧∃a,v = .slice a 0 0)∨∃b base,k=some (b,base)∧∃cap,v = .slice (some ⟨b,base+off*o.size,none⟩) len cap∧o.len≤off+cap∧
    ∀cells elem fr,w.heap[b]? = some (.cells cells elem fr)→base+(off+cap)*o.size≤cells.size)
inductive Refs (m:Nat):AV→Prop
 |undef:Refs m .undef
 |t (x:Tree):Refs m (.t x)
 |nilsl:Refs m .nilsl
 |ptr (i off:Nat):i<m→Refs m (.ptr i off)
 |rptr (i ver k off:Nat):i<m→Refs m (.rptr i ver k off)
 |eptr (size:Nat) (cells:List Tree) (off:Nat):Refs m (.eptr size cells off)
 |sref (i ver off len:Nat):i<m→Refs m (.sref i ver off len)
 |bsl (i off len size:Nat):i<m→Refs m (.bsl i off len size)
 |yld (i:Nat):i<m→Refs m (.yld i)
 |mref (i:Nat):i<m→Refs m (.mref i)
 |func (fn:Fn) (first captured:List AV):(∀(j:Nat) (x:AV),first[j]? = some x→Refs m x)→(∀(j:Nat) (x:AV),captured[j]? = some x→Refs m x)→Refs m (.func fn first captured)
 |agg (xs:List AV):(∀(j:Nat) (x:AV),xs[j]? = some x→Refs m x)→Refs m (.agg xs)
 |tuple (xs:List AV):(∀(j:Nat) (x:AV),xs[j]? = some x→Refs m x)→Refs m (.tuple xs)
inductive AO (B:Nat→Prop) (κ:BG) (h:Heap) (w:World):AV→Value→Prop
 |undef (v:Value):AO B κ h w .undef v
 |t (x:Tree) (v:Value):Bv w (fun b=>B b∨Ex κ h b) x v→AO B κ h w (.t x) v
 |nilsl (a:Option Addr):AO B κ h w .nilsl (.slice a 0 0)
 |ptr (i off b base:Nat):κ[i]? = some (some (b,base))→(∃cs,h[i]? = some (.box cs))→AO B κ h w (.ptr i off) (.pointer (some ⟨b,base+off,none⟩))
 |rptr (i ver k off:Nat) (v:Value):(∃p,v = .pointer (some p))→(∃o,h[i]? = some o∧ver≤o.ver)→
   (∀o:AF,h[i]? = some o→o.ver=ver→∃b base,κ[i]? = some (some (b,base))∧v = .pointer (some ⟨b,base+(k*o.size+off),none⟩)∧o.kind=2∧k<o.len)→AO B κ h w (.rptr i ver k off) v
 |eptr (size:Nat) (cells:List Tree) (off b base:Nat) (u:Nat→Value):cells.length=size→b<w.heap.size→¬(B b∨Ex κ h b)→
   (∀c x,cells[c]? = some x→w.cell? ⟨b,base+c,none⟩=some (u c))→
   (∀c x,cells[c]? = some x→Bv w (fun b=>B b∨Ex κ h b) x (u c))→AO B κ h w (.eptr size cells off) (.pointer (some ⟨b,base+off,none⟩))
 |sref (i ver off len:Nat) (v:Value):v.oneCell'=true→(∃o,h[i]? = some o∧ver≤o.ver)→SRef κ h w i ver off len v→AO B κ h w (.sref i ver off len) v
 |bsl (i off len size cap b:Nat):κ[i]? = some (some (b,0))→(∃cs,h[i]? = some (.box cs)∧off+cap*size≤cs.length)→len≤cap→AO B κ h w (.bsl i off len size) (.slice (some ⟨b,off,none⟩) len cap)
 |yld (i b base:Nat):κ[i]? = some (some (b,base))→(∃l,h[i]? = some (.loop l))→AO B κ h w (.yld i) (.func (.yield b) #[] #[])
 |mref (i b:Nat):κ[i]? = some (some (b,0))→(∃k ke es,h[i]? = some (.mapo k ke es))→AO B κ h w (.mref i) (.map (some b))
 |func (fn:Fn) (first captured:List AV) (fs cs:Array Value):fs.size=first.length→cs.size=captured.length→
   (∀j x,first[j]? = some x→AO B κ h w x (fs.getD j undef))→(∀j x,captured[j]? = some x→AO B κ h w x (cs.getD j undef))→AO B κ h w (.func fn first captured) (.func fn fs cs)
 |agg (xs:List AV) (vs:Array Value):vs.size=xs.length→(∀j x,xs[j]? = some x→AO B κ h w x (vs.getD j undef))→AO B κ h w (.agg xs) (.agg vs)
 |tuple (xs:List AV) (vs:Array Value):vs.size=xs.length→(∀j x,xs[j]? = some x→AO B κ h w x (vs.getD j undef))→AO B κ h w (.tuple xs) (.tuple vs)
def OLe (o o':AF):Prop:=o.kind=o'.kind∧o.ver≤o'.ver∧(o.ver=o'.ver→o.size=o'.size∧o.len=o'.len)∧(o.MO=true→o'=o)∧(o.kind=0→o'.len=o.len)∧o'.rec? = o.rec?
theorem OLe.refl (o:AF):OLe o o:=⟨rfl,yE _,fun _=>⟨rfl,rfl⟩,fun _=>rfl,fun _=>rfl,rfl⟩
theorem OLe.trans {a b c:AF} (h:OLe a b) (k:OLe b c):OLe a c:=by
 refine ⟨h.1.trans k.1,yF h.2.1 k.2.1,fun e => ?_,fun e => ?_,fun e=>(k.2.2.2.2.1 (h.1 ▸ e)).trans (h.2.2.2.2.1 e),k.2.2.2.2.2.trans h.2.2.2.2.2⟩
 ·have h1:=h.2.1;have k1:=k.2.1;have x:=h.2.2.1 (by omega);have y:=k.2.2.1 (by omega);exact ⟨x.1.trans y.1,x.2.trans y.2⟩
 ·have hb:=h.2.2.2.1 e;rw [hb] at k;exact k.2.2.2.1 e
structure Ext (κ:BG) (h:Heap) (w:World) (κ':BG) (h':Heap) (w':World):Prop where
 os:w'.os=w.os
 tape:w'.tape=w.tape
 output:w'.output=w.output
 size:w.heap.size≤w'.heap.size
 keep:∀b,b<w.heap.size→¬Ex κ h b→w'.heap[b]? = w.heap[b]?
 ex:∀b,Ex κ' h' b→Ex κ h b∨w.heap.size≤b
 obj:∀(i:Nat) (o:AF),h[i]? = some o→∃o':AF,h'[i]? = some o'∧OLe o o'
 kap:∀(i:Nat) (o o':AF),h[i]? = some o→h'[i]? = some o'→o.ver=o'.ver→κ'[i]? = κ[i]?
 cells:∀(i:Nat) (o o':AF),h[i]? = some o→h'[i]? = some o'→o.ver=o'.ver→∀(b base:Nat),κ[i]? = some (some (b,base))→
  ∀cells elem fr,w'.heap[b]? = some (.cells cells elem fr)→∃cells',w.heap[b]? = some (.cells cells' elem fr)∧cells'.size=cells.size
theorem Ext.refl (κ:BG) (h:Heap) (w:World):Ext κ h w κ h w:=
 ⟨rfl,rfl,rfl,yE _,fun _ _ _=>rfl,fun _ h =>.inl h,fun _ o ho=>⟨o,ho,.refl o⟩,fun _ _ _ _ _ _=>rfl,fun _ _ _ _ _ _ _ _ _ cells _ _ hc=>⟨cells,hc,rfl⟩⟩
theorem Ext.trans {κ κ₁ κ₂:BG} {h h₁ h₂:Heap} {w w₁ w₂:World} (x:Ext κ h w κ₁ h₁ w₁) (y:Ext κ₁ h₁ w₁ κ₂ h₂ w₂):Ext κ h w κ₂ h₂ w₂ where
 os:=y.os.trans x.os
 tape:=y.tape.trans x.tape
 output:=y.output.trans x.output
 size:=yF x.size y.size
 keep:=fun b hb hn=>by
  refine (y.keep b (yG hb x.size) fun he => ?_).trans (x.keep b hb hn);rcases x.ex b he with h|h
  ·exact hn h
  ·omega
 ex:=fun b hb=>by
  rcases y.ex b hb with h|h
  ·exact x.ex b h
  ·exact .inr (yF x.size h)
 obj:=fun i o ho=>by obtain ⟨o1,h1,l1⟩:=x.obj i o ho;obtain ⟨o2,h2,l2⟩:=y.obj i o1 h1;exact ⟨o2,h2,l1.trans l2⟩
 kap:=fun i o o2 ho ho2 he=>by
  obtain ⟨o1,h1,l1⟩:=x.obj i o ho;obtain ⟨o2',h2,l2⟩:=y.obj i o1 h1;obtain rfl:o2'=o2:=by rw [h2] at ho2;exact Option.some.inj ho2
  have a1:=l1.2.1;have a2:=l2.2.1;exact (y.kap i o1 o2' h1 h2 (by omega)).trans (x.kap i o o1 ho h1 (by omega))
 cells:=fun i o o2 ho ho2 he b base hb cells elem fr hc=>by
  obtain ⟨o1,h1,l1⟩:=x.obj i o ho;obtain ⟨o2',h2,l2⟩:=y.obj i o1 h1;obtain rfl:o2'=o2:=by rw [h2] at ho2;exact Option.some.inj ho2
  have a1:=l1.2.1;have a2:=l2.2.1;have k1:=x.kap i o o1 ho h1 (by omega);obtain ⟨c1,hc1,s1⟩:=y.cells i o1 o2' h1 h2 (by omega) b base (k1.trans hb) cells elem fr hc;obtain ⟨c0,hc0,s0⟩:=x.cells i o o1 ho h1 (by omega) b base hb c1 elem fr hc1;exact ⟨c0,hc0,s0.trans s1⟩
theorem XD {κ κ':BG} {h h':Heap} {w w':World} (x:Ext κ h w κ' h' w') {b o:Nat} (hb:b<w.heap.size) (hn:¬Ex κ h b):w'.cell? ⟨b,o,none⟩=w.cell? ⟨b,o,none⟩:=
 K2 (x.keep b hb hn)
theorem Bv.ext {B:Nat→Prop} {κ κ':BG} {h h':Heap} {w w':World} (x:Ext κ h w κ' h' w') {t:Tree} {v:Value} (ht:Bv w (fun b=>B b∨Ex κ h b) t v):Bv w' (fun b=>B b∨Ex κ' h' b) t v:=
 ht.mono x.size (fun b hb hn=>x.keep b hb fun he=>hn (.inr he)) fun b hb=>by
  rcases hb with hb|hb
  ·exact .inl (.inl hb)
  ·rcases x.ex b hb with h|h
   ·exact .inl (.inr h)
   ·exact .inr h
def PS (z n:Nat) (fr:Nat×Nat):Prop:=fr=(0,0)∨z=1∧n≤fr.1
def HI (B:Nat→Prop) (κ:BG) (h:Heap) (w:World):Option (Nat×Nat)→AF→Prop
 |some (b,base),.box cs=>base=0∧∃cells elem,w.heap[b]? = some (.cells cells elem (0,0))∧cells.size=cs.length∧∀j x,cs[j]? = some x→AO B κ h w x (cells.getD j undef)
 |some (b,base),.row _ _ size es=>size≠0∧∃cells elem fr,w.heap[b]? = some (.cells cells elem fr)∧PS size cells.size fr∧base+es.length*size≤cells.size∧(∀(j:Nat) (e:List Tree),es[j]? = some e→e.length=size)∧
   ∀(j:Nat) (e:List Tree) (c:Nat) (x:Tree),es[j]? = some e→e[c]? = some x→Bv w (fun b=>B b∨Ex κ h b) x (cells.getD (base+(j*size+c)) undef)
 |none,.row _ _ _ es=>es=[]
 |some (b,d),.loop l=>∃(f:FuncId) (tmps:Array Value),w.heap[b]? = some (.loop {state:=if l.ended then .exhausted else if l.busy then .busy else if l.pending.isSome then .done else .ready,pending:=l.pending,fn:=f,tmps,params:=l.params.toArray,assign:=l.assign,body:=l.body,defers:=d})∧
   tmps.size=l.size∧(∀i,AO B κ h w (l.env i) (tmps.getD i undef))∧(∀i,Refs l.hl (l.env i))∧w.heap[d]? = some (.deferred (some []))∧¬Ex κ h d
 |some (b,d),.mapo k ke es=>d=0∧∃(en:Array MapEntry) (clock:Nat),w.heap[b]? = some (.map en clock)∧en.toList.map (fun e=>(e.key,e.val))=es.map fun p=>(.int k p.1,.int ke p.2)
 |_,_=>False
structure Ap (B:Nat→Prop) (κ:BG) (h:Heap) (w:World):Prop where
 len:κ.length=h.length
 inj:∀(i j b bs bs':Nat),κ[i]? = some (some (b,bs))→κ[j]? = some (some (b,bs'))→i=j
 notB:∀(i b bs:Nat),κ[i]? = some (some (b,bs))→¬B b
 lt:∀(i b bs:Nat),κ[i]? = some (some (b,bs))→b<w.heap.size
 ltB:∀b,B b→b<w.heap.size
 obj:∀(i:Nat) (o:AF) (k:Option (Nat×Nat)),h[i]? = some o→κ[i]? = some k→HI B κ h w k o
theorem AO.ext {B:Nat→Prop} {κ κ':BG} {h h':Heap} {w w':World} (x:Ext κ h w κ' h' w') {a:AV} {v:Value} (ha:AO B κ h w a v):AO B κ' h' w' a v:=by
 induction ha with
 |undef v=>exact .undef v
 |t y v hy=>exact .t y v (hy.ext x)
 |nilsl a=>exact .nilsl a
 |ptr i off b base hk hb=>
  obtain ⟨cs,hcs⟩:=hb;obtain ⟨o',ho',hl⟩:=x.obj i _ hcs;have hkind:=hl.1;cases o' with
  |box cs'=>exact .ptr i off b base ((x.kap i _ _ hcs ho' rfl).trans hk) ⟨cs',ho'⟩
  |row a b c d=>simp [AF.kind] at hkind
  |loop l=>simp [AF.kind] at hkind
  |mapo a b c=>simp [AF.kind] at hkind
 |bsl i off len size cap b hk hb hlc=>
  obtain ⟨cs,hcs,hcl⟩:=hb;obtain ⟨o',ho',hl⟩:=x.obj i _ hcs;have hkind:=hl.1;cases o' with
  |box cs'=>
   have hlen:=hl.2.2.2.2.1 rfl;simp only [AF.len] at hlen;exact .bsl i off len size cap b ((x.kap i _ _ hcs ho' rfl).trans hk) ⟨cs',ho',by omega⟩ hlc
  |row a b c d=>simp [AF.kind] at hkind
  |loop l=>simp [AF.kind] at hkind
  |mapo a b c=>simp [AF.kind] at hkind
 |rptr i ver k off v h1 hex hv=>
  obtain ⟨o,ho,hver⟩:=hex;obtain ⟨o',ho',hl⟩:=x.obj i o ho;refine .rptr i ver k off v h1 ⟨o',ho',yF hver hl.2.1⟩ fun o2 ho2 he => ?_;obtain rfl:o'=o2:=by rw [ho'] at ho2;exact Option.some.inj ho2
  have h1:=hl.2.1;have hvv:o.ver=o'.ver:=by omega
  obtain ⟨b,base,e0,e1,e2,e3⟩:=hv o ho (by omega);obtain ⟨s1,s2⟩:=hl.2.2.1 hvv;exact ⟨b,base,(x.kap i o o' ho ho' hvv).trans e0,by rw [e1,s1],hl.1 ▸ e2,by omega⟩
 |eptr size cells off b base u hsz hb hn hc ht=>
  refine .eptr size cells off b base u hsz (yG hb x.size) (fun hh => ?_) (fun c y hy => ?_) fun c y hy=>(ht c y hy).ext x
  ·rcases hh with hh|hh
   ·exact hn (.inl hh)
   ·rcases x.ex b hh with hh|hh
    ·exact hn (.inr hh)
    ·omega
  ·rw [XD x hb fun he=>hn (.inr he)];exact hc c y hy
 |sref i ver off len v h1 hex hv=>
  obtain ⟨o,ho,hver⟩:=hex;obtain ⟨o',ho',hl⟩:=x.obj i o ho;refine .sref i ver off len v h1 ⟨o',ho',yF hver hl.2.1⟩ fun k o2 hb ho2 he => ?_;obtain rfl:o'=o2:=by rw [ho'] at ho2;exact Option.some.inj ho2
  have h1:=hl.2.1;have hvv:o.ver=o'.ver:=by omega
  have hk:=(x.kap i o o' ho ho' hvv).symm.trans hb;obtain ⟨e2,e4,e1⟩:=hv k o hk ho (by omega);obtain ⟨s1,s2⟩:=hl.2.2.1 hvv;refine ⟨hl.1 ▸ e2,by omega,?_⟩;rcases e1 with ⟨z1,z2,z3⟩|⟨b,base,rfl,cap,e1,e5,e6⟩
  ·exact .inl ⟨z1,by omega,z3⟩
  ·refine .inr ⟨b,base,rfl,cap,by rw [e1,s1],by omega,fun cells elem fr hc => ?_⟩;obtain ⟨c0,hc0,hs⟩:=x.cells i o o' ho ho' hvv b base hk cells elem fr hc;rw [← hs,← s1];exact e6 c0 elem fr hc0
 |yld i b base hk hb=>
  obtain ⟨l,hl⟩:=hb;obtain ⟨o',ho',hle⟩:=x.obj i _ hl;have hkind:=hle.1;cases o' with
  |loop l'=>exact .yld i b base ((x.kap i _ _ hl ho' rfl).trans hk) ⟨l',ho'⟩
  |row a b c d=>simp [AF.kind] at hkind
  |box l=>simp [AF.kind] at hkind
  |mapo a b c=>simp [AF.kind] at hkind
 |mref i b hk hb=>
  obtain ⟨k,ke,es,hes⟩:=hb;obtain ⟨o',ho',hl⟩:=x.obj i _ hes;have hkind:=hl.1;cases o' with
  |mapo k' ke' es'=>exact .mref i b ((x.kap i _ _ hes ho' rfl).trans hk) ⟨k',ke',es',ho'⟩
  |box cs=>simp [AF.kind] at hkind
  |row a b c d=>simp [AF.kind] at hkind
  |loop l=>simp [AF.kind] at hkind
 |func fn first captured fs cs h1 h2 _ _ i1 i2=>exact .func fn first captured fs cs h1 h2 i1 i2
 |agg xs vs h1 _ ih=>exact .agg xs vs h1 ih
 |tuple xs vs h1 _ ih=>exact .tuple xs vs h1 ih
theorem HI.ext {B:Nat→Prop} {κ κ':BG} {h h':Heap} {w w':World} (x:Ext κ h w κ' h' w') {k:Option (Nat×Nat)} {o:AF} (hk:∀b base,k=some (b,base)→w'.heap[b]? = w.heap[b]?)
  (ho:HI B κ h w k o):HI B κ' h' w' k o:=by
 cases k with
 |none=>
  cases o with
  |row f v s es=>exact ho
  |box cs=>exact ho.elim
  |loop l=>exact ho.elim
  |mapo k ke es=>exact ho.elim
 |some p=>
  obtain ⟨b,base⟩:=p;have hb:=hk b base rfl;cases o with
  |box cs=>
   obtain ⟨h0,cells,elem,hc,hs,hv⟩:=ho;exact ⟨h0,cells,elem,hb.trans hc,hs,fun j y hy=>(hv j y hy).ext x⟩
  |row f v s es=>
   obtain ⟨hz,cells,elem,fr,hc,hth,hs,hl,hv⟩:=ho;exact ⟨hz,cells,elem,fr,hb.trans hc,hth,hs,hl,fun j e c y he hy=>(hv j e c y he hy).ext x⟩
  |loop l=>
   obtain ⟨f,tmps,hc,hs,hv,hrf,hd,hn⟩:=ho;have hdlt:base<w.heap.size:=by
    rcases yH base w.heap.size with y|y
    ·exact y
    ·rw [Array.getElem?_eq_none y] at hd;cases hd
   refine ⟨f,tmps,hb.trans hc,hs,fun i=>(hv i).ext x,hrf,(x.keep base hdlt hn).trans hd,fun he => ?_⟩;rcases x.ex base he with y|y
   ·exact hn y
   ·omega
  |mapo k ke es=>
   obtain ⟨h0,en,clock,hc,hs⟩:=ho;exact ⟨h0,en,clock,hb.trans hc,hs⟩
theorem AS {α:Type} {l:List α} {i:Nat} {x:α} (h:l[i]? = some x):i<l.length:=(List.getElem?_eq_some_iff.1 h).1
theorem AO.refs {B:Nat→Prop} {κ:BG} {h:Heap} {w:World} {x:AV} {v:Value} (hv:AO B κ h w x v):Refs h.length x:=by
 induction hv with
 |undef v=>exact .undef
 |t y v _=>exact .t y
 |nilsl a=>exact .nilsl
 |ptr i off b base hk hb=>obtain ⟨cs,hcs⟩:=hb;exact .ptr _ _ (AS hcs)
 |rptr i ver k off v _ hex _=>obtain ⟨o,ho,_⟩:=hex;exact .rptr _ _ _ _ (AS ho)
 |eptr size cells off b base u _ _ _ _ _=>exact .eptr _ _ _
 |sref i ver off len v _ hex _=>obtain ⟨o,ho,_⟩:=hex;exact .sref _ _ _ _ (AS ho)
 |bsl i off len size cap b _ hb _=>obtain ⟨cs,hcs,_⟩:=hb;exact .bsl _ _ _ _ (AS hcs)
 |yld i b base _ hb=>obtain ⟨l,hl⟩:=hb;exact .yld _ (AS hl)
 |mref i b _ hb=>obtain ⟨k,ke,es,hl⟩:=hb;exact .mref _ (AS hl)
 |func fn first captured fs cs _ _ _ _ i1 i2=>exact .func _ _ _ i1 i2
 |agg xs vs _ _ ih=>exact .agg _ ih
 |tuple xs vs _ _ ih=>exact .tuple _ ih
end Ab
namespace Ab
open Go
variable {R:Type}
def cnd (c:Prop) [Decidable c] (a b:Option R):Option R:=
 match decide c with
 |true=>a
 |false=>b
theorem AB (c:Prop) [Decidable c] (a b:Option R):cnd c a b=if c then a else b:=by unfold cnd;by_cases h:c<;>simp [h]
class Dq (α:Type) where
 d:DecidableEq α
def both [Dq R] (a b:Option R):Option R:=@ite _ (a=b) (@Option.instDecidableEq _ Dq.d a b) a none
theorem I6 [Dq R] {a b:Option R} {r:R} (h:both a b=some r):a=some r∧b=some r:=by
 unfold both at h;split at h
 ·rename_i he;exact ⟨h,he ▸ h⟩
 ·cases h
theorem AT [Dq R] (a:Option R):both a a=a:=by unfold both;rw [if_pos rfl]
def Fy:Value→AV
 | .int k n =>.t (.int k n)
 | .bool b =>.t (.bool b)
 | .string s =>.t (.str s)
 | .slice none 0 0 =>.nilsl
 | .pointer none =>.t (.const (.pointer none))
 | .map none =>.t (.const (.map none))
 | .nilFunc =>.t (.const .nilFunc)
 | .nilIface =>.t (.const .nilIface)
 | .func (.func f) ⟨[]⟩ ⟨[]⟩=>.func (.func f) [] []
 |_ =>.undef
def ofConst:Value→AV
 | .agg ⟨cs⟩=>.agg (cs.map Fy)
 |v=>Fy v
def ev (env:Env):Operand→AV
 | .tmp t=>env t
 | .const v=>ofConst v
 | .global _ =>.undef
 | .func f =>.func (.func f) [] []
def B6 (P:Program) (t:TypeId):Option Nat:=(P.info? t).map (·.size)
def BF (P:Program) (t:TypeId):Option Bool:=
 match P.underlying t with
 |some (.struct _)|some (.array _ _)=>some true
 |some _=>some false
 |none=>none
def Fc (P:Program) (t:TypeId):Option Nat:=
 match P.underlying t with
 |some (.slice e)=>B6 P e
 |_=>none
def IK (P:Program) (t:TypeId) (f:Nat):Option Nat:=
 match P.underlying t with
 |some (.struct fs)=>match fs[f]? with
  |some fd=>match B6 P fd.type with
   |some (_+1)=>some fd.offset
   |_=>none
  |none=>none
 |_=>none
def CD (P:Program):Nat→TypeId→List TypeId
 |0,t=>[t]
 |d+1,t=>
  match P.underlying t with
  |some (.struct fs)=>(fs.toList.map fun f=>CD P d f.type).flatten
  |some (.array n e)=>(zY n (CD P d e)).flatten
  |_=>[t]
def Em (k:IntKind):AV→Option Int
 | .t (.int k' n)=>if k'=k then some n else none
 |_=>none
def asInt:AV→Option Int
 | .t (.int _ n)=>some n
 |_=>none
def asBool:AV→Option Bool
 | .t (.bool b)=>some b
 |_=>none
def JT:AV→Option ByteArray
 | .t (.str s)=>some s
 |_=>none
def AV.leaf:AV→Bool
 | .undef | .agg _ | .tuple _=>false
 |_=>true
def AV.cells:AV→Option (List AV)
 | .agg cs=>some cs
 | .undef | .tuple _=>none
 |x=>some [x]
def BK (get:Nat→AV) (off n:Nat):List AV:=(List.range n).map fun c=>get (off+c)
def rd (P:Program) (t:TypeId) (total:Nat) (get:Nat→AV) (off:Nat) (K:AV→Option R):Option R:=
 match BF P t,B6 P t with
 |some true,some n=>cnd (off+n≤total) (K (.agg (BK get off n))) none
 |some false,_=>cnd (off<total) (K (get off)) none
 |_,_=>none
def JU (P:Program) (t:TypeId) (h:Heap) (a:AV) (K:AV→Option R):Option R:=
 match a with
 | .ptr i off=>
  match h[i]? with
  |some (.box cs)=>rd P t cs.length (fun c=>cs.getD c .undef) off K
  |_=>none
 | .rptr i ver k off=>
  match h[i]? with
  |some (.row _ ver' size es)=>cnd (ver'=ver) ((es[k]?).bind fun e=>rd P t size (fun c =>.t (e.getD c default)) off K) none
  |_=>none
 | .eptr size cells off=>rd P t size (fun c =>.t (cells.getD c default)) off K
 |_=>none
def EO (k:IntKind):Tree→Bool
 | .int k' _=>decide (k'=k)
 |_=>false
def intOf:Tree→Int
 | .int _ n=>n
 |_=>0
def EJ:Tree→Bool
 | .bool _=>true
 |_=>false
def BN:Tree→Bool
 | .bool b=>b
 |_=>false
def FZ:Tree→Bool
 | .str _=>true
 |_=>false
def strOf:Tree→ByteArray
 | .str s=>s
 |_=>default
def Fh (s:Nat):Tree→Bool
 | .sl s' _=>decide (s'=s)
 |_=>false
def Cx:Tree→List (List Tree)
 | .sl _ es=>es
 |_=>[]
def WZ (P:Program) (t:TypeId) (x:Tree) (K:Tree→Option R):Option R:=
 match P.underlying t with
 |some (.int k)=>cnd (EO k x=true) (K (.int k (intOf x))) none
 |some .bool=>cnd (EJ x=true) (K (.bool (BN x))) none
 |some .string=>cnd (FZ x=true) (K (.str (strOf x))) none
 |some (.slice e)=>match B6 P e with
  |some s=>cnd (Fh s x=true) (K (.sl s (Cx x))) none
  |none=>none
 |_=>K x
def Ef (P:Program):List TypeId→List AV→(List AV→Option R)→Option R
 |[],cs,K=>K cs
 |_::_,[],K=>K []
 |t::ts,c::cs,K=>match c with
  | .t x=>WZ P t x fun y=>Ef P ts cs fun r=>K (.t y::r)
  |c=>Ef P ts cs fun r=>K (c::r)
def Qq (P:Program) (t:TypeId) (v:AV) (K:AV→Option R):Option R:=
 match v with
 | .t x=>WZ P t x fun y=>K (.t y)
 | .agg cs=>Ef P (CD P 16 t) cs fun r=>K (.agg r)
 |v=>K v
def T4 (P:Program) (f:Nat→Tree):List TypeId→Nat→(List Tree→Option R)→Option R
 |[],_,K=>K []
 |t::ts,i,K=>WZ P t (f i) fun y=>T4 P f ts (i+1) fun r=>K (y::r)
def KL (P:Program) (ts:List TypeId) (ys:List Tree) (K:List Tree→Option R):Option R:=
 cnd (ys.length=ts.length) (T4 P (fun i=>ys.getD i default) ts 0 K) none
theorem Px {k:IntKind} {x:Tree} (h:EO k x=true):x = .int k (intOf x):=by cases x<;>simp_all [EO,intOf]
theorem N2 {x:Tree} (h:EJ x=true):x = .bool (BN x):=by cases x<;>simp_all [EJ,BN]
theorem Pw {x:Tree} (h:FZ x=true):x = .str (strOf x):=by cases x<;>simp_all [FZ,strOf]
theorem So {s:Nat} {x:Tree} (h:Fh s x=true):x = .sl s (Cx x):=by cases x<;>simp_all [Fh,Cx]
theorem G1 (P:Program) (t:TypeId) (x:Tree):(∀(R:Type) (K:Tree→Option R),WZ P t x K=K x)∨∀(R:Type) (K:Tree→Option R),WZ P t x K=none:=by
 unfold WZ
 try simp only [AB]
 cases P.underlying t with
 |none=>exact .inl fun _ _=>rfl
 |some u=>
  cases u with
  |int k=>
   by_cases h:EO k x=true
   ·exact .inl fun R K=>by dsimp only;rw [if_pos h,← Px h]
   ·exact .inr fun R K=>by dsimp only;rw [if_neg h]
  |bool=>
   by_cases h:EJ x=true
   ·exact .inl fun R K=>by dsimp only;rw [if_pos h,← N2 h]
   ·exact .inr fun R K=>by dsimp only;rw [if_neg h]
  |string=>
   by_cases h:FZ x=true
   ·exact .inl fun R K=>by dsimp only;rw [if_pos h,← Pw h]
   ·exact .inr fun R K=>by dsimp only;rw [if_neg h]
  |slice e=>
   dsimp only;cases B6 P e with
   |none=>exact .inr fun _ _=>rfl
   |some s=>
    by_cases h:Fh s x=true
    ·exact .inl fun R K=>by dsimp only;rw [if_pos h,← So h]
    ·exact .inr fun R K=>by dsimp only;rw [if_neg h]
  |_=>exact .inl fun _ _=>rfl
theorem Hw (P:Program):∀(ts:List TypeId) (cs:List AV),(∀(R:Type) (K:List AV→Option R),Ef P ts cs K=K cs)∨∀(R:Type) (K:List AV→Option R),Ef P ts cs K=none
 |[],cs =>.inl fun _ _=>rfl
 |_::_,[]=>.inl fun _ _=>rfl
 |t::ts,c::cs=>by
  rcases Hw P ts cs with h|h
  ·cases c with
   |t x=>
    simp only [Ef];rcases G1 P t x with h1|h1
    ·exact .inl fun R K=>by rw [h1,h]
    ·exact .inr fun R K=>by rw [h1]
   |_=>exact .inl fun R K=>by simp only [Ef];rw [h]
  ·cases c with
   |t x=>
    simp only [Ef];rcases G1 P t x with h1|h1
    ·exact .inr fun R K=>by rw [h1,h]
    ·exact .inr fun R K=>by rw [h1]
   |_=>exact .inr fun R K=>by simp only [Ef];rw [h]
theorem NU (P:Program) (t:TypeId) (v:AV):(∀(R:Type) (K:AV→Option R),Qq P t v K=K v)∨∀(R:Type) (K:AV→Option R),Qq P t v K=none:=by
 cases v with
 |t x=>
  rcases G1 P t x with h|h
  ·exact .inl fun R K=>by simp only [Qq];rw [h]
  ·exact .inr fun R K=>by simp only [Qq];rw [h]
 |agg cs=>
  rcases Hw P (CD P 16 t) cs with h|h
  ·exact .inl fun R K=>by simp only [Qq];rw [h]
  ·exact .inr fun R K=>by simp only [Qq];rw [h]
 |_=>exact .inl fun _ _=>rfl
theorem NV (P:Program) (f:Nat→Tree):∀(ts:List TypeId) (i:Nat),(∀(R:Type) (K:List Tree→Option R),T4 P f ts i K=K ((List.range' i ts.length).map f))∨∀(R:Type) (K:List Tree→Option R),T4 P f ts i K=none
 |[],i =>.inl fun _ _=>rfl
 |t::ts,i=>by
  rcases G1 P t (f i) with h|h
  ·rcases NV P f ts (i+1) with h1|h1
   ·exact .inl fun R K=>by simp only [T4];rw [h,h1];rfl
   ·exact .inr fun R K=>by simp only [T4];rw [h,h1]
  ·exact .inr fun R K=>by simp only [T4];rw [h]
theorem MH (P:Program) (ts:List TypeId) (ys:List Tree):(∀(R:Type) (K:List Tree→Option R),KL P ts ys K=K ys)∨∀(R:Type) (K:List Tree→Option R),KL P ts ys K=none:=by
 unfold KL
 try simp only [AB]
 by_cases hl:ys.length=ts.length
 ·simp only [if_pos hl];rcases NV P (fun i=>ys.getD i default) ts 0 with h|h
  ·refine .inl fun R K => ?_;rw [h];congr 1;apply zJ;intro i;rcases yH i ys.length with hi|hi
   ·simp [← hl,hi]
   ·simp [← hl,yK.2 hi]
  ·exact .inr h
 ·exact .inr fun _ _=>if_neg hl
theorem retV_ok {P:Program} {t:TypeId} {v:AV} {K:AV→Option R} {r:R} (h:Qq P t v K=some r):K v=some r:=by
 rcases NU P t v with h1|h1
 ·rw [h1] at h;exact h
 ·rw [h1] at h;cases h
theorem KK {P:Program} {ts:List TypeId} {ys:List Tree} {K:List Tree→Option R} {r:R} (h:KL P ts ys K=some r):K ys=some r:=by
 rcases MH P ts ys with h1|h1
 ·rw [h1] at h;exact h
 ·rw [h1] at h;cases h
def conv (P:Program) (fz:Bool) (h:Heap) (ty:TypeId) (v:AV) (K:Tree→Option R):Option R:=
 match v with
 | .t x=>K x
 | .nilsl=>(Fc P ty).bind fun s=>K (.sl s [])
 | .sref i ver off len=>
  match h[i]? with
  |some (.row f ver' size es)=>(Fc P ty).bind fun s=>cnd ((f=true∨fz=false)∧ver'=ver∧(size=s∨size=0)) (K (.sl s ((es.drop off).take len))) none
  |_=>none
 | .func fn [] []=>K (.const (.func fn #[] #[]))
 |_=>none
def EF (P:Program) (fz:Bool) (h:Heap):List TypeId→List AV→(List Tree→Option R)→Option R
 |[],[],K=>K []
 |t::ts,v::vs,K=>conv P fz h t v fun x=>EF P fz h ts vs fun xs=>K (x::xs)
 |_,_,_=>none
def setAt (cs:List AV) (off:Nat) (vs:List AV):List AV:=cs.take off++(vs++cs.drop (off+vs.length))
def Dl (P:Program):List TypeId→List AV→Heap→(List AV→Heap→Option R)→Option R
 |_,[],h,K=>K [] h
 |ts,.nilsl::vs,h,K=>Dl P ts.tail vs (h++[.row false 0 ((Fc P (ts.headD 0)).getD 0) []]) fun vs' h'=>K (.sref h.length 0 0 0::vs') h'
 |ts,v::vs,h,K=>Dl P ts.tail vs h fun vs' h'=>K (v::vs') h'
def HW (P:Program) (tf:TypeId→Bool):List TypeId→List AV→List AV
 |_,[]=>[]
 |ts,v::vs=>(match v with
  | .nilsl=>if tf (ts.headD 0) then .t (.sl ((Fc P (ts.headD 0)).getD 0) []) else .nilsl
  |v=>v)::HW P tf ts.tail vs
def nilV (P:Program) (tf:TypeId→Bool) (t:TypeId) (v:AV):AV:=
 match v with
 | .agg cs =>.agg (HW P tf (CD P 16 t) cs)
 | .nilsl=>if tf t then .t (.sl ((Fc P t).getD 0) []) else .nilsl
 |v=>v
def Eo (P:Program) (t:TypeId) (cs:List AV) (h:Heap) (K:AV→Heap→Option R):Option R:=
 Dl P (CD P 16 t) cs h fun cs' h'=>K (.ptr h'.length 0) (h'++[.box cs'])
def DX (h:Heap):List AV→List AV→(List AV→Option R)→Option R
 |_,[],K=>K []
 |[],vs,K=>K vs
 |o::os,v::vs,K=>match o,v with
  | .sref i ver _ _,.nilsl=>match h[i]? with
   |some (.row _ ver' _ es)=>cnd (ver'=ver) (DX h os vs fun vs'=>K (.sref i ver es.length 0::vs')) none
   |_=>DX h os vs fun vs'=>K (.nilsl::vs')
  |_,v=>DX h os vs fun vs'=>K (v::vs')
def GB (P:Program) (t:TypeId) (h:Heap) (a v:AV) (K:Heap→Option R):Option R:=
 match v.cells,B6 P t with
 |some vs,some n=>
  cnd (vs.length=n∧vs.all AV.leaf=true) (match a with
   | .ptr i off=>
    match h[i]? with
    |some (.box cs)=>cnd (off+n≤cs.length) (DX h (cs.drop off) vs fun vs=>Dl P (CD P 16 t) vs h fun vs' h'=>K (h'.set i (.box (setAt cs off vs')))) none
    |_=>none
   | .rptr i ver k off=>
    match h[i]? with
    |some (.row false ver' size es)=>
     cnd (ver'=ver∧off+n≤size) ((es[k]?).bind fun e=>EF P true h (CD P 16 t) vs fun xs=>K (h.set i (.row false ver size (es.set k (e.take off++(xs++e.drop (off+n))))))) none
    |_=>none
   |_=>none) none
 |_,_=>none
def Fv (k:IntKind) (a b:Int):Int:=k.wrap (BitVec.ofInt k.bits a &&& BitVec.ofInt k.bits b).toNat
def orK (k:IntKind) (a b:Int):Int:=k.wrap (BitVec.ofInt k.bits a ||| BitVec.ofInt k.bits b).toNat
def Ha (k:IntKind) (a b:Int):Int:=k.wrap (BitVec.ofInt k.bits a ^^^ BitVec.ofInt k.bits b).toNat
def Tz (k:IntKind) (a b:Int):Int:=k.wrap (a*2 ^ min b.toNat k.bits)
def EM (k:IntKind) (a b:Int):Int:=a.fdiv (2 ^ min b.toNat k.bits)
def Ol (op:BinOp) (k:IntKind) (a b:Int) (K:AV→Option R):Option R:=
 match op with
 | .add=>K (.t (.int k (k.wrap (a+b))))
 | .sub=>K (.t (.int k (k.wrap (a-b))))
 | .mul=>K (.t (.int k (k.wrap (a*b))))
 | .quo=>cnd (b=0) none (K (.t (.int k (k.wrap (a.tdiv b)))))
 | .rem=>cnd (b=0) none (K (.t (.int k (a.tmod b))))
 | .eql=>K (.t (.bool (a==b)))
 | .neq=>K (.t (.bool (a != b)))
 | .lss=>K (.t (.bool (decide (a<b))))
 | .leq=>K (.t (.bool (decide (a≤b))))
 | .gtr=>K (.t (.bool (decide (a>b))))
 | .geq=>K (.t (.bool (decide (a≥b))))
 | .and=>K (.t (.int k (Fv k a b)))
 | .or=>K (.t (.int k (orK k a b)))
 | .xor=>K (.t (.int k (Ha k a b)))
 |_=>none
def OX (op:BinOp) (k:IntKind) (a b:Int) (K:AV→Option R):Option R:=
 match op with
 | .shl=>cnd (b<0) none (K (.t (.int k (Tz k a b))))
 | .shr=>cnd (b<0) none (K (.t (.int k (EM k a b))))
 |_=>none
def Vm:BinOp→Bool
 | .shl | .shr=>true
 |_=>false
def PL (P:Program):Nat→TypeId→(Nat→AV)→(Nat→AV)→Nat→(Bool→Option R)→Option R
 |0,_,_,_,_,_=>none
 |d+1,t,gx,gy,off,K=>
  match P.underlying t with
  |some (.int k)=>(Em k (gx off)).bind fun a=>(Em k (gy off)).bind fun b=>K (a==b)
  |some .bool=>(asBool (gx off)).bind fun a=>(asBool (gy off)).bind fun b=>K (a==b)
  |some .string=>(JT (gx off)).bind fun a=>(JT (gy off)).bind fun b=>K (a==b)
  |some (.struct fs)=>
   match B6 P t with
   |some n=>cnd (P.stoodInHeld t=false) (fs.toList.foldr (fun f (K':Bool→Option R) (acc:Bool)=>
     match B6 P f.type with
     | some m => cnd (f.name ≠ "_" ∧ f.offset + m ≤ n ∧ (BF P f.type = some true ∨ BF P f.type = some false ∧ m = 1)) (PL P d f.type gx gy (off + f.offset) fun b => K' (acc && b)) none
     |none=>none) K true) none
   |none=>none
  |_=>none
def Za (P:Program) (op:BinOp) (t:TypeId) (x y:AV) (K:AV→Option R):Option R:=
 match P.underlying t with
 |some (.int k)=>if Vm op then (Em k x).bind fun a=>(asInt y).bind fun b=>OX op k a b K
  else (Em k x).bind fun a=>(Em k y).bind fun b=>Ol op k a b K
 |some .bool=>(asBool x).bind fun a=>(asBool y).bind fun b=>match op with
  | .eql=>K (.t (.bool (a==b)))
  | .neq=>K (.t (.bool (!(a==b))))
  |_=>none
 |some .string=>(JT x).bind fun a=>(JT y).bind fun b=>match op with
  | .eql=>K (.t (.bool (a==b)))
  | .neq=>K (.t (.bool (a != b)))
  | .add=>cnd (a.size+b.size≤9223372036854775807) (K (.t (.str (a++b)))) none
  |_=>none
 |some (.struct _)=>
  match x,y,B6 P t with
  | .agg xs,.agg ys,some n=>
   cnd (P.eqGuardType P.depth t=false∧xs.length=n∧ys.length=n) (match op with
    | .eql=>PL P 16 t (fun i=>xs.getD i .undef) (fun i=>ys.getD i .undef) 0 fun b=>K (.t (.bool b))
    | .neq=>PL P 16 t (fun i=>xs.getD i .undef) (fun i=>ys.getD i .undef) 0 fun b=>K (.t (.bool (!b)))
    |_=>none) none
  |_,_,_=>none
 |_=>none
def aun (op:UnOp) (x:AV) (K:AV→Option R):Option R:=
 match op with
 | .not=>(asBool x).bind fun b=>K (.t (.bool (!b)))
 | .neg=>match x with
  | .t (.int k n)=>K (.t (.int k (k.wrap (0-n))))
  |_=>none
 |_=>none
def Ia (P:Program) (src dst:TypeId) (x:AV) (K:AV→Option R):Option R:=
 match P.underlying src,P.underlying dst with
 |some (.int k0),some (.int k)=>(Em k0 x).bind fun n=>K (.t (.int k (k.wrap n)))
 |some .string,some .string=>(JT x).bind fun s=>K (.t (.str s))
 |_,_=>none
def K7 (mx:Bool):List AV→(AV→Option R)→Option R
 |[],_=>none
 |x::rest,K=>(Em .i64 x).bind fun a=>go a rest K
where
 go:Int→List AV→(AV→Option R)→Option R
 |a,[],K=>K (.t (.int .i64 a))
 |a,y::rest,K=>(Em .i64 y).bind fun b=>go (if mx then (if b>a then b else a) else (if b<a then b else a)) rest K
def Ju (P:Program) (t:TypeId) (h:Heap) (a:AV) (f:Nat) (K:AV→Option R):Option R:=
 (IK P t f).bind fun o=>match a with
  | .ptr i off=>K (.ptr i (off+o))
  | .eptr size cells off=>K (.eptr size cells (off+o))
  | .rptr i ver k off=>(h[i]?).bind fun ob=>cnd (ob.ver=ver) (K (.rptr i ver k (off+o))) none
  |_=>none
def KO (i:Int):Nat→(Nat→Option R)→Option R
 |0,_=>none
 |n+1,K=>cnd (i=n) (K n) (KO i n K)
def L3 (P:Program) (t:TypeId) (h:Heap) (x ix:AV) (K:AV→Option R):Option R:=
 (asInt ix).bind fun i=>match P.underlying t with
  |some (.slice e)=>(B6 P e).bind fun s=>match x with
   | .t (.sl size es)=>cnd (size=s∧0≤i) ((es[i.toNat]?).bind fun c=>K (.eptr size c 0)) none
   | .sref r ver off len=>match h[r]? with
    |some (.row _ ver' size _)=>cnd (ver'=ver∧size=s∧0≤i∧i<len) (K (.rptr r ver (off+i.toNat) 0)) none
    |_=>none
   | .bsl r off len size=>cnd (size=s∧0≤i∧i<len) (if len≤16 then KO i len fun j=>K (.ptr r (off+j*size)) else K (.ptr r (off+i.toNat*size))) none
   |_=>none
  |some (.array n e)=>(B6 P e).bind fun s=>match x with
   | .ptr r off=>cnd (0≤i∧i<n) (if n≤16 then KO i n fun j=>K (.ptr r (off+j*s)) else K (.ptr r (off+i.toNat*s))) none
   | .eptr size cells off=>cnd (0≤i∧i<n) (K (.eptr size cells (off+i.toNat*s))) none
   | .rptr r ver k off=>(h[r]?).bind fun ob=>cnd (ob.ver=ver∧0≤i∧i<n) (K (.rptr r ver k (off+i.toNat*s))) none
   |_=>none
  |_=>none
def XP (P:Program) (t:TypeId) (h:Heap) (x:AV) (K:AV→Option R):Option R:=
 match P.underlying t with
 |some (.slice _)=>match x with
  | .t (.sl _ es)=>K (.t (.int .i64 es.length))
  | .nilsl=>K (.t (.int .i64 0))
  | .sref i ver _ len=>match h[i]? with
   |some (.row _ ver' _ _)=>cnd (ver'=ver) (K (.t (.int .i64 len))) none
   |_=>none
  | .bsl _ _ len _=>K (.t (.int .i64 len))
  |_=>none
 |some .string=>(JT x).bind fun s=>K (.t (.int .i64 s.size))
 |some (.array n _)=>K (.t (.int .i64 n))
 |_=>none
def Cz (x:Option AV) (d:Nat) (hi:Nat) (K:Nat→Option R):Option R:=
 match x with
 |none=>K d
 |some v=>(asInt v).bind fun i=>cnd (0≤i∧i≤hi) (K i.toNat) none
def Lv (P:Program) (t:TypeId) (h:Heap) (x:AV) (lo hi mx:Option AV) (K:AV→Option R):Option R:=
 match mx,P.underlying t with
 |none,some .string=>(JT x).bind fun s=>Cz hi s.size s.size fun b=>Cz lo 0 b fun a=>K (.t (.str (s.extract a b)))
 |none,some (.slice e)=>(B6 P e).bind fun z=>match x with
  | .t (.sl size es)=>cnd (size=z) (Cz hi es.length es.length fun b=>Cz lo 0 b fun a=>K (.t (.sl size ((es.take b).drop a)))) none
  | .nilsl=>Cz hi 0 0 fun b=>Cz lo 0 b fun _=>K .nilsl
  | .sref i ver off len=>match h[i]? with
   |some (.row _ ver' size es)=>cnd (ver'=ver∧(size=z∨size=0)) (Cz hi len (es.length-off) fun b=>Cz lo 0 b fun a=>K (.sref i ver (off+a) (b-a))) none
   |_=>none
  |_=>none
 |some m,some (.slice e)=>(B6 P e).bind fun z=>match x,hi with
  | .t (.sl size es),some b=>cnd (size=z) (Cz (some m) 0 es.length fun m=>Cz (some b) 0 m fun b=>Cz lo 0 b fun _=>K .undef) none
  | .nilsl,some b=>Cz (some m) 0 0 fun m=>Cz (some b) 0 m fun b=>Cz lo 0 b fun _=>K .undef
  | .sref i ver off _,some b=>match h[i]? with
   |some (.row _ ver' _ es)=>cnd (ver'=ver) (Cz (some m) 0 (es.length-off) fun m=>Cz (some b) 0 m fun b=>Cz lo 0 b fun _=>K .undef) none
   |_=>none
  |_,_=>none
 |_,_=>none
def zeroCells? (P:Program) (t:TypeId):Option (List AV):=
 match (P.info? t).bind (·.zero) with
 |some v=>(ofConst v).cells
 |none=>none
def CM (place:Nat→Option (Nat×Nat)) (cs:List AV):List (Nat×AV)→Option (List AV)
 |[]=>some cs
 |(i,v)::rest=>
  match place i,v.cells with
  |some (off,size),some vs=>if vs.length=size∧off+size≤cs.length then CM place (setAt cs off vs) rest else none
  |_,_=>none
def Ok (P:Program) (t:TypeId) (parts:List (Nat×AV)) (K:AV→Option R):Option R:=
 match P.underlying t with
 |some (.struct fs)=>
  match fs.toList.mapM (fun f=>(P.info? f.type).map fun i=>(f.offset,i.size)) with
  |some places=>(zeroCells? P t).bind fun z=>(CM (fun i=>places[i]?) z parts).bind fun cs=>K (.agg cs)
  |none=>none
 |some (.array _ e)=>(B6 P e).bind fun s=>(zeroCells? P t).bind fun z=>(CM (fun i=>some (i*s,s)) z parts).bind fun cs=>K (.agg cs)
 |_=>none
def chunk (s:Nat):Nat→List Tree→List (List Tree)
 |0,_=>[]
 |n+1,xs=>xs.take s::chunk s n (xs.drop s)
def bslV (s len:Nat) (xs:List Tree):AV:=if len=0 then .nilsl else .t (.sl s (chunk s len xs))
def EX (P:Program) (t:TypeId) (h:Heap) (len:Nat) (parts:List (Nat×AV)) (K:AV→Option R):Option R:=
 match P.underlying t with
 |some (.slice e)=>(B6 P e).bind fun s=>(zeroCells? P e).bind fun z=>
  cnd (z.length=s∧s≠0∧len*s≤16777216) ((CM (fun i=>some (i*s,s)) (zY len z).flatten parts).bind fun cs=>
    EF P true h (zY len (CD P 16 e)).flatten cs fun xs=>K (bslV s len xs)) none
 |_=>none
def FA (P:Program) (t:TypeId) (h:Heap) (len:Nat) (parts:List (Nat×AV)) (K:AV→Heap→Option R):Option R:=
 match P.underlying t with
 |some (.slice e)=>(B6 P e).bind fun s=>(zeroCells? P e).bind fun z=>
  cnd (z.length=s∧s≠0∧len≠0∧len*s≤16777216) ((CM (fun i=>some (i*s,s)) (zY len z).flatten parts).bind fun cs=>
    K (.bsl h.length 0 len s) (h++[.box cs])) none
 |_=>none
def elems (h:Heap) (z:Nat) (x:AV) (K:List (List Tree)→Option R):Option R:=
 match x with
 | .t (.sl size es)=>cnd (size=z) (K es) none
 | .nilsl=>K []
 | .sref i ver off len=>
  match h[i]? with
  |some (.row _ ver' size es)=>cnd (ver'=ver∧(size=z∨size=0)) (K ((es.drop off).take len)) none
  |_=>none
 |_=>none
def Oc (P:Program) (t:TypeId):Option Nat:=
 match P.underlying t with
 |some (.slice e)=>match P.info? e with
  |some i=>match i.zero with
   |some z=>if i.size≠0∧z.cells.size=i.size∧i.bytes≤65536 then some i.size else none
   |none=>none
  |none=>none
 |_=>none
def AZ (s:ByteArray):List (List Tree):=s.data.toList.map fun b=>[.int .u8 (b.toNat:Int)]
def JL (h:Heap) (z:Nat) (x:AV) (K:List (List Tree)→Option R):Option R:=
 match x with
 | .t (.str s)=>cnd (z=1) (K (AZ s)) none
 |x=>elems h z x K
def IW (P:Program) (t t':TypeId):Bool:=t'==t||match P.underlying t' with
 |some .string=>true
 |_=>false
def PC (P:Program) (src dst:TypeId):Bool:=
 match P.underlying src,P.underlying dst with
 |some .string,some (.slice e)=>(match P.underlying e with
  |some (.int .u8)=>true
  |_=>false)
 |_,_=>false
def Lx (h:Heap) (x:AV) (K:AV→Heap→Option R):Option R:=
 (JT x).bind fun s=>K (.sref h.length 0 0 s.size) (h++[.row false 0 1 (AZ s)])
def Er (P:Program) (t:TypeId) (h:Heap) (s x:AV) (K:AV→Heap→Option R):Option R:=
 (Oc P t).bind fun z=>JL h z x fun new=>
  match s with
  | .nilsl=>cnd (new.length≤1073741824) (K (.sref h.length 0 0 new.length) (h++[.row false 0 z new])) none
  | .sref i ver off len=>match h[i]? with
   |some (.row false ver' size es)=>
    cnd (new.length=0∧off+len<es.length) (cnd (ver'=ver) (K (.sref i ver off len) h) none) (cnd (ver'=ver∧(size=z∨size=0)∧off+len≤es.length∧len+new.length≤1073741824) (K (.sref i (ver+1) 0 (len+new.length)) (h.set i (.row false (ver+1) z ((es.drop off).take len++new)))) none)
   |_=>none
  |_=>none
def Qn:AV→AV→Bool
 | .sref i _ _ _,.sref j _ _ _=>i==j
 |_,_=>false
def BM (es:List (List Tree)) (p:Nat) (new:List (List Tree)):List (List Tree):=es.take p++new++es.drop (p+new.length)
def FB (P:Program) (t:TypeId) (h:Heap) (s x:AV) (K:AV→Heap→Option R):Option R:=
 (Oc P t).bind fun z=>elems h z x fun new=>
  match s with
  | .sref i ver off len=>match h[i]? with
   |some (.row false ver' size es)=>
    cnd (ver'=ver∧size=z∧off+len+new.length≤es.length) (K (.sref i ver off (len+new.length)) (h.set i (.row false ver z (BM es (off+len) new)))) none
   |_=>none
  |_=>none
def PU (P:Program) (h:Heap) (e:TypeId) (K:List Tree→Option R):Option R:=
 match zeroCells? P e,B6 P e with
 |some z,some n=>cnd (n≠0∧z.length=n) (EF P true h (CD P 16 e) z K) none
 |_,_=>none
def Jv (P:Program) (t:TypeId) (h:Heap) (x:AV) (K:Heap→Option R):Option R:=
 match P.underlying t with
 |some (.slice e)=>match x with
  | .t (.sl _ es)=>cnd (es.length=0) (K h) none
  | .nilsl=>K h
  | .sref i ver off len=>PU P h e fun zs=>match h[i]? with
   |some (.row false ver' size es)=>cnd (ver'=ver∧size=zs.length) (K (h.set i (.row false ver size (BM es off (zY len zs))))) none
   |_=>none
  |_=>none
 |_=>none
def Oi (P:Program) (t:TypeId) (h:Heap) (d x:AV) (K:AV→Heap→Option R):Option R:=
 (Fc P t).bind fun z=>JL h z x fun new=>match d with
  | .sref i ver off len=>match h[i]? with
   |some (.row false ver' size es)=>cnd (ver'=ver∧size=z) (K (.t (.int .i64 (min new.length len:Nat))) (h.set i (.row false ver z (BM es off (new.take len))))) none
   |_=>none
  |_=>none
def Oe (P:Program) (t:TypeId) (h:Heap) (n c:AV) (K:AV→Heap→Option R):Option R:=
 (Oc P t).bind fun z=>match P.underlying t with
  |some (.slice e)=>(Em .i64 n).bind fun a=>(Em .i64 c).bind fun b=>PU P h e fun zs=>
   cnd (a=b∧0≤a∧a≤1073741824∧zs.length=z) (K (.sref h.length 0 0 a.toNat) (h++[.row false 0 z (zY a.toNat zs)])) none
  |_=>none
def ZX (z:Nat) (h:Heap) (avs:List AV) (K:AV→Heap→Option R):Option R:=
 match avs with
 |[.nilsl,nx]=>(Em .i64 nx).bind fun n=>cnd (0≤n∧n≤1073741824) (K (.sref h.length 0 0 0) (h++[.row false 0 z []])) none
 |_=>none
def ains (z:Nat) (h:Heap) (avs:List AV) (K:AV→Heap→Option R):Option R:=
 match avs with
 |[s,kx,.t (.sl z' new)]=>(Em .i64 kx).bind fun k=>cnd (z'=z∧new.length≠0) (match s with
  | .nilsl=>cnd (k=0∧new.length≤1073741824) (K (.sref h.length 0 0 new.length) (h++[.row false 0 z new])) none
  | .sref i ver off len=>match h[i]? with
   |some (.row false ver' size es)=>cnd (ver'=ver∧size=z∧off+len=es.length∧len+new.length≤1073741824∧0≤k∧k≤len∧z≠1)
     (K (.sref i (ver+1) 0 (len+new.length)) (h.set i (.row false (ver+1) z ((es.drop off).take k.toNat++new++(es.drop off).drop k.toNat)))) none
   |_=>none
  |_=>none) none
 |_=>none
def Yq:Tree→Bool
 | .int .i64 _=>true
 |_=>false
def Eh (z:Nat) (es:List (List Tree)):Bool:=es.all fun e=>e.length==z&&e.all Yq
def isFn:Option FuncId→List AV→Bool
 |none,[]=>true
 |some g,[.func (.func g') [] []]=>g==g'
 |_,_=>false
def ZT (z m:Nat) (f:Option FuncId) (F:List (List Tree)→List (List Tree)) (h:Heap) (avs:List AV) (K:AV→Heap→Option R):Option R:=
 match avs with
 |s::rest=>match isFn f rest with
  |true=>(match s with
   | .nilsl=>K (.tuple []) h
   | .sref i ver off len=>match h[i]? with
    |some (.row false ver' size es)=>cnd (ver'=ver∧size=z∧off+len≤es.length∧len≤m∧Eh z ((es.drop off).take len)=true) (K (.tuple []) (h.set i (.row false ver z (BM es off (F ((es.drop off).take len)))))) none
    |_=>none
   |_=>none)
  |false=>none
 |_=>none
inductive Prim where
 |ins (z:Nat)
 |grow (z:Nat)
 |perm (z m:Nat) (f:Option FuncId) (F:List (List Tree)→List (List Tree))
def aprim (p:Prim) (h:Heap) (avs:List AV) (K:AV→Heap→Option R):Option R:=
 match p with
 | .ins z=>ains z h avs K
 | .grow z=>ZX z h avs K
 | .perm z m f F=>ZT z m f F h avs K
end Ab
namespace Ab
open Go
variable {R:Type} {P:Program} {B:Nat→Prop} {κ:BG} {h:Heap} {w:World}
theorem Kg (v:Value):AO B κ h w (Fy v) v:=by
 unfold Fy;split
 ·exact .t _ _ (.int _ _)
 ·exact .t _ _ (.bool _)
 ·exact .t _ _ (.str _)
 ·exact .nilsl none
 ·exact .t _ _ (.const _ rfl)
 ·exact .t _ _ (.const _ rfl)
 ·exact .t _ _ (.const _ rfl)
 ·exact .t _ _ (.const _ rfl)
 ·exact .func _ _ _ _ _ rfl rfl (fun j x hx=>by simp at hx) (fun j x hx=>by simp at hx)
 ·exact .undef _
theorem F9 {α:Type} (cs:List α) (j:Nat) (d:α) {c:α} (hc:cs[j]? = some c):(Array.mk cs).getD j d=c:=by obtain ⟨hj,he⟩:=List.getElem?_eq_some_iff.1 hc;simp [Array.getD,hj,he]
theorem Nl (v:Value):AO B κ h w (ofConst v) v:=by
 unfold ofConst;split
 ·rename_i cs;refine .agg _ _ (by simp) fun j x hx => ?_;rw [zQ] at hx;cases hc:cs[j]? with
  |none=>rw [hc] at hx;simp at hx
  |some c=>
   rw [hc] at hx;simp only [yP,Option.some.injEq] at hx;subst hx;rw [F9 cs j undef hc];exact Kg c
 ·exact Kg v
structure Rel (B:Nat→Prop) (N:Nat) (κ:BG) (env:Env) (h:Heap) (a:Act) (w:World):Prop where
 heap:Ap B κ h w
 size:a.tmps.size=N
 slot:∀i,AO B κ h w (env i) (a.tmps.getD i undef)
theorem BR {N:Nat} {env:Env} {a:Act} (hr:Rel B N κ env h a w) (x:Operand):AO B κ h w (ev env x) (a.eval x):=by
 cases x with
 |tmp t=>exact hr.slot t
 |const v=>exact Nl v
 |global g=>exact .undef _
 |func f=>exact .func _ _ _ _ _ rfl rfl (fun j x hx=>by simp at hx) (fun j x hx=>by simp at hx)
theorem Cs {k:IntKind} {x:AV} {n:Int} {v:Value} (hx:Em k x=some n) (hv:AO B κ h w x v):v = .int k n:=by
 unfold Em at hx;split at hx
 ·rename_i k' n';split at hx
  ·rename_i hk;subst hk;cases hx;cases hv with
   |t _ _ ht=>cases ht;rfl
  ·cases hx
 ·cases hx
theorem OY {x:AV} {n:Int} {v:Value} (hx:asInt x=some n) (hv:AO B κ h w x v):∃k,v = .int k n:=by
 unfold asInt at hx;split at hx
 ·rename_i k' n';cases hx;cases hv with
  |t _ _ ht=>cases ht;exact ⟨_,rfl⟩
 ·cases hx
theorem E8 {x:AV} {b:Bool} {v:Value} (hx:asBool x=some b) (hv:AO B κ h w x v):v = .bool b:=by
 unfold asBool at hx;split at hx
 ·cases hx;cases hv with
  |t _ _ ht=>cases ht;rfl
 ·cases hx
theorem FR {x:AV} {s:ByteArray} {v:Value} (hx:JT x=some s) (hv:AO B κ h w x v):v = .string s:=by
 unfold JT at hx;split at hx
 ·cases hx;cases hv with
  |t _ _ ht=>cases ht;rfl
 ·cases hx
theorem bind_some {α β:Type} {x:Option α} {f:α→Option β} {r:β} (h:x.bind f=some r):∃a,x=some a∧f a=some r:=by
 cases x with
 |none=>cases h
 |some a=>exact ⟨a,rfl,h⟩
theorem AD {α:Type} {c:Prop} [Decidable c] {x:Option α} {r:α} (h:(if c then x else none)=some r):c∧x=some r:=by
 split at h
 ·rename_i hc;exact ⟨hc,h⟩
 ·cases h
theorem Ik {t:TypeId} {b:Bool} (hb:BF P t=some b) (w:World):(isAgg t).run P w = .ok b w:=by
 unfold BF at hb;unfold isAgg;split at hb
 ·rename_i fs hu;cases hb;simp [run_underlying hu]
 ·rename_i n e hu;cases hb;simp [run_underlying hu]
 ·rename_i d hn1 hn2 hu;cases hb;cases d<;>first|exact (hn1 _ rfl).elim|exact (hn2 _ _ rfl).elim|simp [run_underlying hu]
 ·cases hb
theorem Bk {t:TypeId} {n:Nat} (hn:B6 P t=some n) (w:World):(Go.sizeOf t).run P w = .ok n w:=by
 unfold B6 at hn;cases hi:P.info? t with
 |none=>rw [hi] at hn;cases hn
 |some i=>
  rw [hi] at hn;simp only [yP,Option.some.injEq] at hn;simp [Go.sizeOf,typeInfo,hi,hn]
theorem OB {α:Type} (f:Nat→α) (n j:Nat) (d:α) (hj:j<n):((List.range n).map f).toArray.getD j d=f j:=by simp [Array.getD,hj]
theorem YP {t:TypeId} {total:Nat} {get:Nat→AV} {off:Nat} {K:AV→Option R} {r:R} (hr:rd P t total get off K=some r)
  {b base:Nat} (u:Nat→Value) (hc:∀c,c<total→w.cell? ⟨b,base+c,none⟩=some (u c)) (hv:∀c,c<total→AO B κ h w (get c) (u c)) :
  ∃v val,K v=some r∧(Instr.loadAt t (.pointer (some ⟨b,base+off,none⟩))).run P w = .ok val w∧AO B κ h w v val:=by
 unfold rd at hr
 try simp only [AB] at hr
 split at hr
 ·rename_i n ha hs;obtain ⟨hle,hK⟩:=AD hr;refine ⟨_,.agg ((List.range n).map fun j=>u (off+j)).toArray,hK,?_,?_⟩
  ·have hl:=run_loadCells (P:=P) w ⟨b,base+off,none⟩ n (fun j=>u (off+j)) (fun j hj=>by
    have:=hc (off+j) (by omega);unfold Addr.add;split
    ·rename_i h0;subst h0;simpa using this
    ·simpa [yA] using this)
   simp [Instr.loadAt,Instr.sureAddr,loadVar,Ik ha,Bk hs,hl]
  ·refine .agg _ _ (by simp [BK]) fun j x hx => ?_;have hj:j<n:=by
    rcases yH j n with h|h
    ·exact h
    ·simp [BK,h] at hx
   simp only [BK,zQ,zR hj,yP,Option.some.injEq] at hx;subst hx;rw [OB _ _ _ _ hj];exact hv _ (by omega)
 ·rename_i ha;obtain ⟨hlt,hK⟩:=AD hr;refine ⟨_,u off,hK,?_,hv off hlt⟩;have:=hc off hlt;simp [Instr.loadAt,Instr.sureAddr,loadVar,Ik ha,this]
 ·cases hr
theorem Bz {b o:Nat} {cells:Array Value} {elem:TypeId} {fr:Nat×Nat} (hb:w.heap[b]? = some (.cells cells elem fr)) (ho:o<cells.size) :
  w.cell? ⟨b,o,none⟩=some (cells.getD o undef):=by
 simp [World.cell?,hb,Array.getD,ho]
theorem Bs {α:Type} (l:List α) (j:Nat) (d:α) (hj:j<l.length):l[j]? = some (l.getD j d):=by simp [List.getD,hj]
theorem CH (hh:Ap B κ h w) {i:Nat} {o:AF} (ho:h[i]? = some o):∃k,κ[i]? = some k:=by
 have:i<h.length:=by
  rcases yH i h.length with x|x
  ·exact x
  ·rw [zP x] at ho;cases ho
 exact ⟨_,zO (by rw [hh.len];exact this)⟩
theorem TU {t:TypeId} {a:AV} {K:AV→Option R} {r:R} (hr:JU P t h a K=some r) (hh:Ap B κ h w) {av:Value} (ha:AO B κ h w a av) :
  ∃v val,K v=some r∧(Instr.loadAt t av).run P w = .ok val w∧AO B κ h w v val:=by
 unfold JU at hr
 try simp only [AB] at hr
 split at hr
 ·rename_i i off;split at hr
  ·rename_i cs hi;cases ha with
   |ptr _ _ b base hk _=>
    obtain ⟨hb0,cells,elem,hc,hs,hv⟩:=hh.obj i _ _ hi hk;subst hb0;refine YP hr (fun c=>cells.getD c undef) (fun c hlt => ?_) (fun c hlt=>hv c _ (Bs _ _ _ hlt));rw [yN];exact Bz hc (by omega)
  ·cases hr
 ·rename_i i ver k off;split at hr
  ·rename_i fz ver' size es hi;obtain ⟨rfl,hr1⟩:=AD hr;obtain ⟨e,he,hr2⟩:=bind_some hr1;clear hr hr1;cases ha with
   |rptr _ _ _ _ _ _ _ hv=>
    obtain ⟨b,base,hkk,rfl,_,_⟩:=hv _ hi rfl;obtain ⟨_,cells,elem,fr,hc,hth,hs,hl,ht⟩:=hh.obj i _ _ hi hkk;have hk:k<es.length:=by
     rcases yH k es.length with x|x
     ·exact x
     ·rw [zP x] at he;cases he
    have hmul:k*size+size≤es.length*size:=by rw [← yM];exact yJ _ hk
    simp only [AF.size];rw [← yA];refine YP hr2 (fun c=>cells.getD (base+(k*size+c)) undef) (fun c hlt => ?_) (fun c hlt =>.t _ _ (ht k e c _ he (Bs _ _ _ (by rw [hl k e he];exact hlt))));rw [yA];exact Bz hc (by omega)
  ·cases hr
 ·rename_i size cells off;cases ha with
  |eptr _ _ _ b base u hsz hb hn hc ht=>
   refine YP hr u (fun c hlt => ?_) (fun c hlt => ?_)
   ·exact hc c _ (Bs _ c default (by omega))
   ·exact .t _ _ (ht c _ (Bs _ _ _ (by omega)))
 ·cases hr
def Eu (w:World) (A:Nat→Prop) (size:Nat) (es:List (List Tree)) (v:Value):Prop:=
 (∀(j:Nat) (e:List Tree),es[j]? = some e→e.length=size)∧∃a cap,v = .slice a es.length cap∧es.length≤cap∧
  (es=[]∨∃b off,a=some ⟨b,off,none⟩∧b<w.heap.size∧∀(j:Nat) (e:List Tree) (c:Nat) (x:Tree),es[j]? = some e→e[c]? = some x→
   ∃u,w.cell? ⟨b,off+(j*size+c),none⟩=some u∧Bv w A x u)
theorem Bv.less {A A':Nat→Prop} {x:Tree} {v:Value} (ht:Bv w A x v) (hA:∀b,A' b→A b):Bv w A' x v:=
 ht.mono (yE _) (fun _ _ _=>rfl) fun b hb =>.inl (hA b hb)
theorem Eu.KW {A:Nat→Prop} {size:Nat} {es:List (List Tree)} {v:Value} (ht:Bv w A (.sl size es) v):Eu w A size es v:=by
 cases ht with
 |nil _ cap a=>exact ⟨fun j e he=>by simp at he,a,cap,rfl,yO _,.inl rfl⟩
 |sl _ _ b off cap u h1 h2 h3 h4 h5 h6=>
  exact ⟨h4,_,cap,rfl,h1,.inr ⟨b,off,rfl,h2,fun j e c x he hx=>⟨_,h5 j e c x he hx,h6 j e c x he hx⟩⟩⟩
theorem getElem?_sub {α:Type} {es:List α} {off len j:Nat} {e:α} (he:((es.drop off).take len)[j]? = some e):j<len∧es[off+j]? = some e:=by
 have hj:j<len:=by
  rcases yH j len with x|x
  ·exact x
  ·simp [zS,yK.2 x] at he
 rw [zT hj,zN] at he;exact ⟨hj,he⟩
theorem Mo {B:Nat→Prop} (hh:Ap B κ h w) {i ver off len size:Nat} {fz:Bool} {es:List (List Tree)} {v:Value} (hi:h[i]? = some (.row fz ver size es)) (hs:SRef κ h w i ver off len v) :
  ((es.drop off).take len).length=len∧off+len≤es.length∧Eu w (fun b=>B b∨Ex κ h b) size ((es.drop off).take len) v∧
   (len=0∨∃b base cap,κ[i]? = some (some (b,base))∧v = .slice (some ⟨b,base+off*size,none⟩) len cap):=by
 obtain ⟨k,hk⟩:=CH hh hi;obtain ⟨_,hlen,hm⟩:=hs k _ hk hi rfl;simp only [AF.len] at hlen;have hl:((es.drop off).take len).length=len:=by simp;omega
 refine ⟨hl,hlen,?_⟩;have ho:=hh.obj i _ _ hi hk;rcases hm with ⟨rfl,_,a0,rfl⟩|⟨b,base,rfl,cap,rfl,hcap,_⟩
 ·exact ⟨⟨fun j e he=>by simp at he,a0,0,by simp,by simp,.inl (by simp)⟩,.inl rfl⟩
 ·obtain ⟨_,cells,elem,fr,hc,hth,hsz,hls,ht⟩:=ho;simp only [AF.size];simp only [AF.len] at hcap;refine ⟨⟨fun j e he=>hls _ e (getElem?_sub he).2,_,cap,by rw [hl],by rw [hl];omega,.inr ⟨b,base+off*size,rfl,hh.lt i b base hk,fun j e c x he hx => ?_⟩⟩,.inr ⟨b,base,cap,hk,rfl⟩⟩;obtain ⟨hj,he'⟩:=getElem?_sub he;have hcl:c<size:=by have:=(List.getElem?_eq_some_iff.1 hx).1;rw [hls _ e he'] at this;exact this
  have hoj:off+j<es.length:=(List.getElem?_eq_some_iff.1 he').1;have hmul:(off+j)*size+size≤es.length*size:=by rw [← yM];exact yJ _ hoj
  have heq:base+off*size+(j*size+c)=base+((off+j)*size+c):=by rw [yC];omega
  refine ⟨_,?_,ht (off+j) e c x he' hx⟩;rw [heq];exact Bz hc (by omega)
theorem Eu.Vi {A:Nat→Prop} {size size':Nat} {v:Value} (hs:Eu w A size [] v):Eu w A size' [] v:=by obtain ⟨_,a,cap,e,_,_⟩:=hs;exact ⟨fun j e he=>by simp at he,a,cap,e,yO _,.inl rfl⟩
theorem row_zero (hh:Ap B κ h w) {i ver size:Nat} {fz:Bool} {es:List (List Tree)} (hi:h[i]? = some (.row fz ver size es)) (hz:size=0):es=[]:=by
 obtain ⟨k,hk⟩:=CH hh hi;have ho:=hh.obj i _ _ hi hk;cases k with
 |none=>exact ho
 |some p=>exact (ho.1 hz).elim
theorem JR {α:Type} {es:List α} (he:es=[]) (a b:Nat):(es.drop a).take b=[]:=by subst he;simp
theorem Kv {z:Nat} {x:AV} {K:List (List Tree)→Option R} {r:R} (hr:elems h z x K=some r) (hh:Ap B κ h w) {v:Value} (hv:AO B κ h w x v) :
  ∃es,K es=some r∧Eu w (fun b=>B b∨Ex κ h b) z es v:=by
 unfold elems at hr
 try simp only [AB] at hr
 split at hr
 ·obtain ⟨rfl,hK⟩:=AD hr;cases hv with
  |t _ _ ht=>exact ⟨_,hK,.KW ht⟩
 ·cases hv with
  |nilsl a0=>exact ⟨_,hr,fun j e he=>by simp at he,a0,0,rfl,yE _,.inl rfl⟩
 ·split at hr
  ·rename_i i ver off len _ fz ver' size es hi;obtain ⟨⟨rfl,hz⟩,hK⟩:=AD hr;cases hv with
   |sref _ _ _ _ _ _ _ hs=>
    obtain ⟨_,_,hsl,_⟩:=Mo hh hi hs;refine ⟨_,hK,?_⟩;rcases hz with rfl|hz
    ·exact hsl
    ·rw [JR (row_zero hh hi hz)] at hsl ⊢;exact hsl.Vi
  ·cases hr
 ·cases hr
theorem Bv.Yb {A:Nat→Prop} {size:Nat} {es:List (List Tree)} {v:Value} (hs:Eu w A size es v)
  (hA:∀b off cap,v = .slice (some ⟨b,off,none⟩) es.length cap→es≠[]→¬A b):Bv w A (.sl size es) v:=by
 obtain ⟨hl,a,cap,rfl,hcap,hc⟩:=hs;rcases hc with rfl|⟨b,off,rfl,hb,hc⟩
 ·exact .nil _ _ _
 ·by_cases hn:es=[]
  ·subst hn;exact .nil _ _ _
  ·have hex:∀(j c:Nat),∃u,∀(e:List Tree) (x:Tree),es[j]? = some e→e[c]? = some x→w.cell? ⟨b,off+(j*size+c),none⟩=some u∧Bv w A x u:=by
    intro j c;by_cases hj:∃e x,es[j]? = some e∧e[c]? = some x
    ·obtain ⟨e,x,he,hx⟩:=hj;obtain ⟨u,h1,h2⟩:=hc j e c x he hx;refine ⟨u,fun e' x' he' hx' => ?_⟩;rw [he] at he';cases he';rw [hx] at hx';cases hx';exact ⟨h1,h2⟩
    ·exact ⟨undef,fun e x he hx=>(hj ⟨e,x,he,hx⟩).elim⟩
   refine .sl size es b off cap (fun j c=>(hex j c).choose) hcap hb (hA b off cap rfl hn) hl (fun j e c x he hx => ?_) (fun j e c x he hx => ?_)
   ·exact ((hex j c).choose_spec e x he hx).1
   ·exact ((hex j c).choose_spec e x he hx).2
theorem conv_ok {fz:Bool} {ty:TypeId} {x:AV} {K:Tree→Option R} {r:R} (hr:conv P fz h ty x K=some r) (hh:Ap B κ h w) {v:Value} (hv:AO B κ h w x v) :
  ∃y,K y=some r∧Bv w (fun b=>B b∨(fz=true∧Ex κ h b)) y v:=by
 unfold conv at hr
 try simp only [AB] at hr
 split at hr
 ·cases hv with
  |t _ _ ht=>exact ⟨_,hr,ht.less fun b hb=>hb.imp id And.right⟩
 ·obtain ⟨s,hs,hK⟩:=bind_some hr;cases hv;exact ⟨_,hK,.nil _ _ _⟩
 ·rename_i i ver off len;split at hr
  ·rename_i f ver' size es hi;obtain ⟨s,hs,hK0⟩:=bind_some hr;obtain ⟨⟨hf,rfl,hz⟩,hK⟩:=AD hK0;clear hK0;cases hv with
   |sref _ _ _ _ _ _ _ hsr=>
    obtain ⟨hl,hle,hsl,hbb⟩:=Mo hh hi hsr;refine ⟨_,hK,?_⟩;have hsl':Eu w (fun b=>B b∨(fz=true∧Ex κ h b)) s ((es.drop off).take len) v:=by
     have h1:Eu w (fun b=>B b∨Ex κ h b) s ((es.drop off).take len) v:=by
      rcases hz with rfl|hz
      ·exact hsl
      ·rw [JR (row_zero hh hi hz)] at hsl ⊢;exact hsl.Vi
     obtain ⟨hq,a,cap,e1,e2,e3⟩:=h1;refine ⟨hq,a,cap,e1,e2,?_⟩;rcases e3 with e3|⟨b,o,e4,e5,e6⟩
     ·exact .inl e3
     ·exact .inr ⟨b,o,e4,e5,fun j e c x he hx=>by obtain ⟨u,u1,u2⟩:=e6 j e c x he hx;exact ⟨u,u1,u2.less fun b hb=>hb.imp id And.right⟩⟩
    refine .Yb hsl' fun b o cap he hn hA => ?_;rcases hbb with h0|⟨b',base,cap',hk,he'⟩
    ·subst h0;simp at hn
    ·rw [he'] at he;injection he with he1;injection he1 with he1;injection he1 with he1;subst he1;rcases hA with hB|⟨hfz,i',base',o',hk',ho',hfz'⟩
     ·exact hh.notB i _ _ hk hB
     ·rcases hf with hf|hf
      ·subst hf;obtain rfl:=hh.inj i i' _ _ _ hk hk';rw [hi] at ho';cases ho';simp [AF.MO] at hfz'
      ·rw [hf] at hfz;exact absurd hfz (by simp)
  ·cases hr
 ·rename_i fn;cases hv with
  |func _ _ _ fs cs h1 h2 _ _=>
   have e1:fs = #[]:=zA h1;have e2:cs = #[]:=zA h2;subst e1 e2;exact ⟨_,hr,.const _ rfl⟩
 ·cases hr
theorem DS {fz:Bool}:∀{ts:List TypeId} {xs:List AV} {K:List Tree→Option R} {r:R},EF P fz h ts xs K=some r→Ap B κ h w→∀{vs:List Value},vs.length=xs.length→
  (∀(j:Nat) (x:AV) (v:Value),xs[j]? = some x→vs[j]? = some v→AO B κ h w x v)→
  ∃ys:List Tree,K ys=some r∧ys.length=xs.length∧ts.length=xs.length∧∀(j:Nat) (y:Tree) (v:Value),ys[j]? = some y→vs[j]? = some v→Bv w (fun b=>B b∨(fz=true∧Ex κ h b)) y v
 |[],[],K,r,hr,hh,vs,hl,hv=>⟨[],hr,rfl,rfl,fun j y v hy=>by simp at hy⟩
 |[],x::xs,K,r,hr,hh,vs,hl,hv=>by simp [EF] at hr
 |t::ts,[],K,r,hr,hh,vs,hl,hv=>by simp [EF] at hr
 |t::ts,x::xs,K,r,hr,hh,vs,hl,hv=>by
  cases vs with
  |nil=>simp at hl
  |cons v vs=>
   obtain ⟨y,hK,hy⟩:=conv_ok (P:=P) hr hh (hv 0 x v rfl rfl);obtain ⟨ys,hK2,h1,h2,h3⟩:=DS (vs:=vs) hK hh (by simpa using hl) fun j x' v' hx' hv'=>hv (j+1) x' v' (by simpa using hx') (by simpa using hv');refine ⟨y::ys,hK2,by simp [h1],by simp [h2],fun j y' v' hy' hv' => ?_⟩;cases j with
   |zero=>simp at hy' hv';subst hy' hv';exact hy
   |succ j=>exact h3 j y' v' (by simpa using hy') (by simpa using hv')
theorem XW {op:BinOp} {k:IntKind} {a b:Int} {K:AV→Option R} {r:R} (hr:Ol op k a b K=some r) (t:TypeId) :
  ∃v val,K v=some r∧(binOp op t (.int k a) (.int k b)).run P w = .ok val w∧AO B κ h w v val:=by
 unfold Ol at hr
 try simp only [AB] at hr
 split at hr
 ·exact ⟨_,_,hr,by simp [binOp,Op.intArith],.t _ _ (.int _ _)⟩
 ·exact ⟨_,_,hr,by simp [binOp,Op.intArith],.t _ _ (.int _ _)⟩
 ·exact ⟨_,_,hr,by simp [binOp,Op.intArith],.t _ _ (.int _ _)⟩
 ·split at hr
  ·cases hr
  ·rename_i hb;exact ⟨_,_,hr,by simp [binOp,Op.intDiv,hb],.t _ _ (.int _ _)⟩
 ·split at hr
  ·cases hr
  ·rename_i hb;exact ⟨_,_,hr,by simp [binOp,Op.intDiv,hb],.t _ _ (.int _ _)⟩
 ·exact ⟨_,_,hr,by simp [binOp,Op.intCmp],.t _ _ (.bool _)⟩
 ·exact ⟨_,_,hr,by simp [binOp,Op.intCmp],.t _ _ (.bool _)⟩
 ·exact ⟨_,_,hr,by simp [binOp,Op.intCmp],.t _ _ (.bool _)⟩
 ·exact ⟨_,_,hr,by simp [binOp,Op.intCmp],.t _ _ (.bool _)⟩
 ·exact ⟨_,_,hr,by simp [binOp,Op.intCmp],.t _ _ (.bool _)⟩
 ·exact ⟨_,_,hr,by simp [binOp,Op.intCmp],.t _ _ (.bool _)⟩
 ·exact ⟨_,_,hr,by simp [binOp,Op.intBits,Fv],.t _ _ (.int _ _)⟩
 ·exact ⟨_,_,hr,by simp [binOp,Op.intBits,orK],.t _ _ (.int _ _)⟩
 ·exact ⟨_,_,hr,by simp [binOp,Op.intBits,Ha],.t _ _ (.int _ _)⟩
 ·cases hr
theorem XM {op:BinOp} {k k':IntKind} {a b:Int} {K:AV→Option R} {r:R} (hr:OX op k a b K=some r) (t:TypeId) :
  ∃v val,K v=some r∧(binOp op t (.int k a) (.int k' b)).run P w = .ok val w∧AO B κ h w v val:=by
 unfold OX at hr
 try simp only [AB] at hr
 split at hr
 ·split at hr
  ·cases hr
  ·rename_i hb;exact ⟨_,_,hr,by simp [binOp,Op.shift,hb,Tz],.t _ _ (.int _ _)⟩
 ·split at hr
  ·cases hr
  ·rename_i hb;exact ⟨_,_,hr,by simp [binOp,Op.shift,hb,EM],.t _ _ (.int _ _)⟩
 ·cases hr
def Fits (P:Program) (B:Nat→Prop) (κ:BG) (h:Heap) (w:World) (g:Nat→AV) (off:Nat) (t:TypeId) (v:Value):Prop:=
 match BF P t with
 |some true=>∃vs n,v = .agg vs∧B6 P t=some n∧vs.size=n∧∀j,j<n→AO B κ h w (g (off+j)) (vs.getD j undef)
 |some false=>AO B κ h w (g off) v
 |none=>False
theorem Qv {g:Nat→AV} {off n o m:Nat} {vs:Array Value} {t:TypeId} (hv:∀j,j<n→AO B κ h w (g (off+j)) (vs.getD j undef)) (hn:vs.size=n) (hm:B6 P t=some m) (ho:o+m≤n)
  {b:Bool} (hb:BF P t=some b) (h1:b=false→m=1):∃v,(part t vs o).run P w = .ok v w∧Fits P B κ h w g (off+o) t v:=by
 cases b with
 |true=>
  refine ⟨.agg (vs.extract o (o+m)),by simp [part,Ik hb,Bk hm],?_⟩;unfold Fits;rw [hb];refine ⟨_,m,rfl,hm,by simp;omega,fun j hj => ?_⟩;have h2:=hv (o+j) (by omega);have h3:(vs.extract o (o+m)).getD j undef=vs.getD (o+j) undef:=by
   have ha:j<(vs.extract o (o+m)).size:=by simp;omega
   have hb':o+j<vs.size:=by omega
   simp only [Array.getD,ha,hb',dif_pos];simp
  rw [h3,yA];exact h2
 |false=>
  have hm1:=h1 rfl;subst hm1;have hlt:o<vs.size:=by omega
  refine ⟨vs.getD o undef,?_,?_⟩
  ·simp [part,Ik hb,Array.getD,hlt]
  ·unfold Fits;rw [hb];exact hv o (by omega)
theorem RE:∀(d:Nat) {t:TypeId} {gx gy:Nat→AV} {off:Nat} {K:Bool→Option R} {r:R},PL P d t gx gy off K=some r→
  ∀{x y:Value},Fits P B κ h w gx off t x→Fits P B κ h w gy off t y→∀D,d≤D→∃b,K b=some r∧(Op.equalIn D t x y).run P w = .ok b w
 |0,t,gx,gy,off,K,r,hr,x,y,hx,hy,D,hD=>by simp [PL] at hr
 |d+1,t,gx,gy,off,K,r,hr,x,y,hx,hy,D,hD=>by
  obtain ⟨D,rfl⟩:∃D',D=D'+1:=⟨D-1,by omega⟩
  unfold PL at hr
  try simp only [AB] at hr
  split at hr
  ·rename_i k hu;obtain ⟨a,ha,hr⟩:=bind_some hr;obtain ⟨b,hb,hr⟩:=bind_some hr;have hg:BF P t=some false:=by unfold BF;rw [hu]
   unfold Fits at hx hy;rw [hg] at hx hy;obtain rfl:=Cs ha hx;obtain rfl:=Cs hb hy;exact ⟨_,hr,run_equalIn_int w D t k k a b hu⟩
  ·rename_i hu;obtain ⟨a,ha,hr⟩:=bind_some hr;obtain ⟨b,hb,hr⟩:=bind_some hr;have hg:BF P t=some false:=by unfold BF;rw [hu]
   unfold Fits at hx hy;rw [hg] at hx hy;obtain rfl:=E8 ha hx;obtain rfl:=E8 hb hy;exact ⟨_,hr,run_equalIn_bool w D t a b hu⟩
  ·rename_i hu;obtain ⟨a,ha,hr⟩:=bind_some hr;obtain ⟨b,hb,hr⟩:=bind_some hr;have hg:BF P t=some false:=by unfold BF;rw [hu]
   unfold Fits at hx hy;rw [hg] at hx hy;obtain rfl:=FR ha hx;obtain rfl:=FR hb hy;refine ⟨_,hr,?_⟩;rw [run_equalIn_string w D t a b hu,beq_toListBytes]
  ·rename_i fs hu;split at hr
   ·rename_i n hn;obtain ⟨hst,hr⟩:=AD hr;have hg:BF P t=some true:=by unfold BF;rw [hu]
    unfold Fits at hx hy;rw [hg] at hx hy;obtain ⟨xs,n1,rfl,hn1,hxs,hvx⟩:=hx;obtain ⟨ys,n2,rfl,hn2,hys,hvy⟩:=hy;rw [hn] at hn1 hn2;cases hn1;cases hn2;have hfo:P.fieldsOf t=fs:=by simp [Program.fieldsOf,hu]
    rw [run_equalIn_struct w D t xs ys (by rw [hfo];exact hu) hst,hfo];have key:∀(l:List Field) (acc:Bool),l.foldr (fun f (K':Bool→Option R) (acc:Bool)=>
      match B6 P f.type with
      | some m => if f.name ≠ "_" ∧ f.offset + m ≤ n ∧ (BF P f.type = some true ∨ BF P f.type = some false ∧ m = 1) then PL P d f.type gx gy (off + f.offset) fun b => K' (acc && b) else none
      |none=>none) K acc=some r→∃b,K (acc&&b)=some r∧(Op.eqFields D xs ys l).run P w = .ok b w:=by
     intro l
     induction l with
     |nil=>intro acc hl;exact ⟨true,by simpa using hl,by simp [Op.eqFields]⟩
     |cons f l ih=>
      intro acc hl;simp only [List.foldr_cons] at hl;split at hl
      ·rename_i m hm;obtain ⟨⟨hname,hle,hag⟩,hl⟩:=AD hl;obtain ⟨bb,hbb,h1⟩:∃bb,BF P f.type=some bb∧(bb=false→m=1):=by
        rcases hag with hag|⟨hag,hm1⟩
        ·exact ⟨true,hag,by simp⟩
        ·exact ⟨false,hag,fun _=>hm1⟩
       obtain ⟨vx,hpx,hfx⟩:=Qv (P:=P) (o:=f.offset) hvx hxs hm hle hbb h1;obtain ⟨vy,hpy,hfy⟩:=Qv (P:=P) (o:=f.offset) hvy hys hm hle hbb h1;obtain ⟨b,hb,hrun⟩:=RE d hl hfx hfy D (by omega);obtain ⟨c,hc,hrun2⟩:=ih _ hb;refine ⟨b&&c,by rw [← Bool.and_assoc];exact hc,?_⟩;simp only [Op.eqFields,if_pos hname,Sem.run_bind,hpx,hpy,hrun,Result.andThen_ok];cases b
       ·simp
       ·simpa using hrun2
      ·cases hl
    obtain ⟨b,hb,hrun⟩:=key fs.toList true hr;exact ⟨b,by simpa using hb,hrun⟩
   ·cases hr
  ·cases hr
theorem Dp {op:BinOp} {t:TypeId} {x y:Operand} {v u:Value} (hv:(match v with | .agg _ | .nilIface=>false|_=>true)=true):(eqGuard op t x y v u).run P w = .ok () w:=by unfold eqGuard;cases op<;>simp<;>(cases v<;>simp_all)
theorem abin_ok {op:BinOp} {t:TypeId} {x y:AV} {K:AV→Option R} {r:R} (hr:Za P op t x y K=some r) {vx vy:Value} (hx:AO B κ h w x vx) (hy:AO B κ h w y vy) (ox oy:Operand) :
  ∃v val,K v=some r∧(do eqGuard op t ox oy vx vy;binOp op t vx vy:Sem Value).run P w = .ok val w∧AO B κ h w v val:=by
 unfold Za at hr
 try simp only [AB] at hr
 split at hr
 ·rename_i k hu;split at hr
  ·obtain ⟨a,ha,hr⟩:=bind_some hr;obtain ⟨b,hb,hr⟩:=bind_some hr;obtain rfl:=Cs ha hx;obtain ⟨k',rfl⟩:=OY hb hy;obtain ⟨v,val,h1,h2,h3⟩:=XM (P:=P) (B:=B) (κ:=κ) (h:=h) (w:=w) (k':=k') hr t;exact ⟨v,val,h1,by simp [Dp,h2],h3⟩
  obtain ⟨a,ha,hr⟩:=bind_some hr;obtain ⟨b,hb,hr⟩:=bind_some hr;obtain rfl:=Cs ha hx;obtain rfl:=Cs hb hy;obtain ⟨v,val,h1,h2,h3⟩:=XW (P:=P) (B:=B) (κ:=κ) (h:=h) (w:=w) hr t;exact ⟨v,val,h1,by simp [Dp,h2],h3⟩
 ·rename_i hu;obtain ⟨a,ha,hr⟩:=bind_some hr;obtain ⟨b,hb,hr⟩:=bind_some hr;obtain rfl:=E8 ha hx;obtain rfl:=E8 hb hy;split at hr
  ·exact ⟨_,_,hr,by simp [Dp,binOp,Op.equal,Op.maxDepth,run_equalIn_bool w 9999 t a b hu],.t _ _ (.bool _)⟩
  ·exact ⟨_,_,hr,by simp [Dp,binOp,Op.equal,Op.maxDepth,run_equalIn_bool w 9999 t a b hu],.t _ _ (.bool _)⟩
  ·cases hr
 ·rename_i hu;obtain ⟨a,ha,hr⟩:=bind_some hr;obtain ⟨b,hb,hr⟩:=bind_some hr;obtain rfl:=FR ha hx;obtain rfl:=FR hb hy;split at hr
  ·exact ⟨_,_,hr,by simp [Dp,binOp,Op.stringOp,← beq_toListBytes],.t _ _ (.bool _)⟩
  ·exact ⟨_,_,hr,by simp [Dp,binOp,Op.stringOp,← beq_toListBytes,bne],.t _ _ (.bool _)⟩
  ·obtain ⟨hsz,hr⟩:=AD hr;have hn:¬(((a.size+b.size:Nat):Int)>IntKind.i64.max):=by
    have:IntKind.i64.max=9223372036854775807:=by decide
    rw [this];omega
   exact ⟨_,_,hr,by simp only [Dp,binOp,Op.stringOp,Sem.run_bind,Result.andThen_ok,if_neg hn,Sem.run_pure],.t _ _ (.str _)⟩
  ·cases hr
 ·rename_i fs hu;split at hr
  ·rename_i xs ys n hn;obtain ⟨⟨hg,hlx,hly⟩,hr⟩:=AD hr;cases hx with
   |agg _ vx hsx hvx=>
    cases hy with
    |agg _ vy hsy hvy=>
     have hag:BF P t=some true:=by unfold BF;rw [hu]
     have fx:Fits P B κ h w (fun i=>xs.getD i .undef) 0 t (.agg vx):=by unfold Fits;rw [hag];exact ⟨vx,n,rfl,hn,by omega,fun j hj=>hvx j _ (by rw [yN];exact Bs _ _ _ (by omega))⟩
     have fy:Fits P B κ h w (fun i=>ys.getD i .undef) 0 t (.agg vy):=by unfold Fits;rw [hag];exact ⟨vy,n,rfl,hn,by omega,fun j hj=>hvy j _ (by rw [yN];exact Bs _ _ _ (by omega))⟩
     split at hr
     ·obtain ⟨b,hb,hrun⟩:=RE 16 hr fx fy 10000 (by omega);exact ⟨_,_,hb,by simp [run_eqGuard_agg w _ t ox oy vx vy hg,run_eql_struct,hrun],.t _ _ (.bool _)⟩
     ·obtain ⟨b,hb,hrun⟩:=RE 16 hr fx fy 10000 (by omega);exact ⟨_,_,hb,by simp [run_eqGuard_agg w _ t ox oy vx vy hg,run_neq_struct,hrun],.t _ _ (.bool _)⟩
     ·cases hr
  ·cases hr
 ·cases hr
theorem Ta {src dst:TypeId} {x:AV} {K:AV→Option R} {r:R} (hr:Ia P src dst x K=some r) {vx:Value} (hx:AO B κ h w x vx) :
  ∃v val,K v=some r∧(convert src dst vx).run P w = .ok val w∧AO B κ h w v val:=by
 unfold Ia at hr;split at hr
 ·rename_i k0 k hs hd;obtain ⟨n,hn,hr⟩:=bind_some hr;obtain rfl:=Cs hn hx;exact ⟨_,_,hr,by simp [convert,run_underlying hs,run_underlying hd,Conv.intToInt],.t _ _ (.int _ _)⟩
 ·rename_i hs hd;obtain ⟨n,hn,hr⟩:=bind_some hr;obtain rfl:=FR hn hx;exact ⟨_,_,hr,by simp [convert,run_underlying hs,run_underlying hd],.t _ _ (.str _)⟩
 ·cases hr
theorem aun_ok {op:UnOp} {x:AV} {K:AV→Option R} {r:R} (hr:aun op x K=some r) {vx:Value} (hx:AO B κ h w x vx) :
  ∃v val,K v=some r∧(Op.unary op vx).run P w = .ok val w∧AO B κ h w v val:=by
 unfold aun at hr;split at hr
 ·obtain ⟨b,hb,hr⟩:=bind_some hr;obtain rfl:=E8 hb hx;exact ⟨_,_,hr,by simp [Op.unary],.t _ _ (.bool _)⟩
 ·split at hr
  ·cases hx with
   |t _ _ ht=>
    cases ht;exact ⟨_,_,hr,by simp [Op.unary,Op.intArith],.t _ _ (.int _ _)⟩
  ·cases hr
 ·cases hr
theorem Sy {t:TypeId} {f o:Nat} (ho:IK P t f=some o):∃fs fd n,P.underlying t=some (.struct fs)∧fs[f]? = some fd∧fd.offset=o∧B6 P fd.type=some (n+1):=by
 unfold IK at ho;split at ho
 ·rename_i fs hu;split at ho
  ·rename_i fd hf;split at ho
   ·rename_i n hn;cases ho;exact ⟨fs,fd,n,hu,hf,rfl,hn⟩
   ·cases ho
  ·cases ho
 ·cases ho
theorem Ep (b o n:Nat):Addr.add ⟨b,o,none⟩ n=⟨b,o+n,none⟩:=by
 unfold Addr.add;split
 ·rename_i h0;subst h0;rfl
 ·rfl
theorem Ht {t:TypeId} {f o:Nat} (ho:IK P t f=some o) (b off:Nat) :
  (Instr.fieldAt t (.pointer (some ⟨b,off,none⟩)) f).run P w = .ok (.pointer (some ⟨b,off+o,none⟩)) w:=by
 obtain ⟨fs,fd,n,hu,hf,rfl,hn⟩:=Sy ho;simp [Instr.fieldAt,run_underlying hu,hf,Instr.sureAddr,fieldPlace,Bk hn,Ep]
theorem XS {t:TypeId} {a:AV} {f:Nat} {K:AV→Option R} {r:R} (hr:Ju P t h a f K=some r) {va:Value} (ha:AO B κ h w a va) :
  ∃v val,K v=some r∧(Instr.fieldAt t va f).run P w = .ok val w∧AO B κ h w v val:=by
 unfold Ju at hr
 try simp only [AB] at hr
 obtain ⟨o,ho,hr1⟩:=bind_some hr;clear hr;split at hr1
 ·rename_i i off;cases ha with
  |ptr _ _ b base hk hb=>exact ⟨_,_,hr1,Ht ho b _,by rw [yA];exact .ptr i (off+o) b base hk hb⟩
 ·rename_i size cells off;cases ha with
  |eptr _ _ _ b base u h1 h2 h3 h4 h5=>exact ⟨_,_,hr1,Ht ho b _,by rw [yA];exact .eptr size cells (off+o) b base u h1 h2 h3 h4 h5⟩
 ·rename_i i ver k off;obtain ⟨ob,hob,hr2⟩:=bind_some hr1;obtain ⟨hver,hr3⟩:=AD hr2;cases ha with
  |rptr _ _ _ _ _ h1 h2 h3=>
   obtain ⟨b,base,hkk,rfl,h4,h5⟩:=h3 ob hob hver;refine ⟨_,_,hr3,Ht ho b _,.rptr i ver k (off+o) _ ⟨_,rfl⟩ h2 fun o' ho' hv' => ?_⟩;rw [hob] at ho';cases ho';exact ⟨b,base,hkk,by simp [yA],h4,h5⟩
 ·cases hr1
theorem alen_ok {t:TypeId} {x:AV} {K:AV→Option R} {r:R} (hr:XP P t h x K=some r) {vx:Value} (hx:AO B κ h w x vx) (hh:Ap B κ h w) (ty:TypeId) :
  ∃v val,K v=some r∧(Builtin.len_ #[t] ty #[vx]).run P w = .ok val w∧AO B κ h w v val:=by
 unfold XP at hr
 try simp only [AB] at hr
 split at hr
 ·rename_i e hu;split at hr
  ·cases hx with
   |t _ _ ht=>
    obtain ⟨_,a,cap,rfl,_,_⟩:=Eu.KW ht;exact ⟨_,_,hr,by simp [Builtin.len_,run_underlying hu,goInt],.t _ _ (.int _ _)⟩
  ·cases hx;exact ⟨_,_,hr,by simp [Builtin.len_,run_underlying hu,goInt],.t _ _ (.int _ _)⟩
  ·rename_i i ver off len;split at hr
   ·rename_i fz ver' size es hi;obtain ⟨rfl,hr1⟩:=AD hr;cases hx with
    |sref _ _ _ _ _ _ _ hs=>
     obtain ⟨hl,_,hsl,_⟩:=Mo hh hi hs;obtain ⟨_,a,cap,rfl,_,_⟩:=hsl;rw [hl];exact ⟨_,_,hr1,by simp [Builtin.len_,run_underlying hu,goInt],.t _ _ (.int _ _)⟩
   ·cases hr
  ·cases hx with
   |bsl _ _ _ _ cap b _ _ _=>exact ⟨_,_,hr,by simp [Builtin.len_,run_underlying hu,goInt],.t _ _ (.int _ _)⟩
  ·cases hr
 ·rename_i hu;obtain ⟨s,hs,hr⟩:=bind_some hr;obtain rfl:=FR hs hx;exact ⟨_,_,hr,by simp [Builtin.len_,run_underlying hu,goInt],.t _ _ (.int _ _)⟩
 ·rename_i n e hu;exact ⟨_,_,hr,by simp [Builtin.len_,run_underlying hu,goInt],.t _ _ (.int _ _)⟩
 ·cases hr
theorem run_indexAt_slice {t e:TypeId} {s:Nat} (hu:P.underlying t=some (.slice e)) (hs:B6 P e=some s) (b off len cap:Nat) (k:IntKind) (i:Int) (h0:0≤i) (h1:i<len) :
  (Instr.indexAt t (.slice (some ⟨b,off,none⟩) len cap) (.int k i)).run P w = .ok (.pointer (some ⟨b,off+i.toNat*s,none⟩)) w:=by
 simp [Instr.indexAt,asIntOf,run_underlying hu,h0,h1,Bk hs,Ep]
theorem run_indexAt_array {t e:TypeId} {n s:Nat} (hu:P.underlying t=some (.array n e)) (hs:B6 P e=some s) (b off:Nat) (k:IntKind) (i:Int) (h0:0≤i) (h1:i<n) :
  (Instr.indexAt t (.pointer (some ⟨b,off,none⟩)) (.int k i)).run P w = .ok (.pointer (some ⟨b,off+i.toNat*s,none⟩)) w:=by
 simp [Instr.indexAt,asIntOf,run_underlying hu,Instr.sureAddr,h0,h1,Bk hs,Ep]
theorem KN {i:Int}:∀{n:Nat} {K:Nat→Option R} {r:R},KO i n K=some r→K i.toNat=some r
 |0,K,r,h=>by simp [KO] at h
 |n+1,K,r,h=>by
  simp only [KO,AB] at h;split at h
  ·rename_i e;rw [e];simpa using h
  ·exact KN h
theorem XQ {t:TypeId} {x ix:AV} {K:AV→Option R} {r:R} (hr:L3 P t h x ix K=some r) {vx vi:Value} (hx:AO B κ h w x vx) (hi:AO B κ h w ix vi) (hh:Ap B κ h w) :
  ∃v val,K v=some r∧(Instr.indexAt t vx vi).run P w = .ok val w∧AO B κ h w v val:=by
 unfold L3 at hr
 try simp only [AB] at hr
 obtain ⟨i,hii,hr1⟩:=bind_some hr;clear hr;obtain ⟨k,rfl⟩:=OY hii hi;split at hr1
 ·rename_i e hu;obtain ⟨s,hs,hr2⟩:=bind_some hr1;clear hr1;split at hr2
  ·rename_i size es;obtain ⟨⟨rfl,h0⟩,hr3⟩:=AD hr2;obtain ⟨c,hc,hr4⟩:=bind_some hr3;clear hr2 hr3;cases hx with
   |t _ _ ht=>
    have hlt:i.toNat<es.length:=(List.getElem?_eq_some_iff.1 hc).1;cases ht with
    |nil _ cap a=>simp at hlt
    |sl _ _ b off cap u h1 h2 h3 h4 h5 h6=>
     refine ⟨_,_,hr4,run_indexAt_slice hu hs b off es.length cap k i h0 (by omega),?_⟩;have he:(.pointer (some ⟨b,off+i.toNat*size,none⟩):Value)= .pointer (some ⟨b,off+i.toNat*size+0,none⟩):=rfl;rw [he];refine .eptr size c 0 b (off+i.toNat*size) (u i.toNat) (h4 _ c hc) h2 h3 (fun q y hy => ?_) (fun q y hy=>h6 _ c q y hc hy);rw [yA];exact h5 _ c q y hc hy
  ·rename_i rr ver off len;split at hr2
   ·rename_i fz ver' size es hi';obtain ⟨⟨rfl,rfl,h0,h1⟩,hr3⟩:=AD hr2;cases hx with
    |sref _ _ _ _ _ ho hex hsr=>
     obtain ⟨hl,hle,hsl,hbb⟩:=Mo hh hi' hsr;rcases hbb with h0'|⟨b,base,cap,hk,rfl⟩
     ·omega
     ·refine ⟨_,_,hr3,run_indexAt_slice hu hs b _ len cap k i h0 h1,.rptr _ _ _ _ _ ⟨_,rfl⟩ hex fun o ho' hv' => ?_⟩;rw [hi'] at ho';cases ho';refine ⟨b,base,hk,?_,rfl,?_⟩
      ·simp only [AF.size,yC];simp [yA]
      ·simp only [AF.len];omega
   ·cases hr2
  ·rename_i rr off len size;obtain ⟨⟨rfl,h0,h1⟩,hr3⟩:=AD hr2;have hr3:K (.ptr rr (off+i.toNat*size))=some r:=by
    split at hr3
    ·exact KN hr3
    ·exact hr3
   cases hx with
   |bsl _ _ _ _ cap b hk hbx hlc=>
    obtain ⟨cs,hcs,hcl⟩:=hbx;refine ⟨_,_,hr3,run_indexAt_slice hu hs b off len cap k i h0 h1,?_⟩;have:=AO.ptr (B:=B) (w:=w) rr (off+i.toNat*size) b 0 hk ⟨cs,hcs⟩;simpa using this
  ·cases hr2
 ·rename_i n e hu;obtain ⟨s,hs,hr2⟩:=bind_some hr1;clear hr1;split at hr2
  ·rename_i rr off;obtain ⟨⟨h0,h1⟩,hr3⟩:=AD hr2;have hr3:K (.ptr rr (off+i.toNat*s))=some r:=by
    split at hr3
    ·exact KN hr3
    ·exact hr3
   cases hx with
   |ptr _ _ b base hk hb=>
    refine ⟨_,_,hr3,run_indexAt_array hu hs b _ k i h0 h1,?_⟩;rw [yA];exact .ptr _ _ b base hk hb
  ·rename_i size cells off;obtain ⟨⟨h0,h1⟩,hr3⟩:=AD hr2;cases hx with
   |eptr _ _ _ b base u hsz hb hn hc ht=>
    refine ⟨_,_,hr3,run_indexAt_array hu hs b _ k i h0 h1,?_⟩;rw [yA];exact .eptr _ _ _ b base u hsz hb hn hc ht
  ·rename_i rr ver q off;obtain ⟨ob,hob,hr3⟩:=bind_some hr2;obtain ⟨⟨hv,h0,h1⟩,hr4⟩:=AD hr3;cases hx with
   |rptr _ _ _ _ _ _ hex hpt=>
    obtain ⟨b,base,e0,rfl,e2,e3⟩:=hpt ob hob hv;refine ⟨_,_,hr4,run_indexAt_array hu hs b _ k i h0 h1,.rptr _ _ _ _ _ ⟨_,rfl⟩ hex fun o ho hv' => ?_⟩;rw [hob] at ho;cases ho;exact ⟨b,base,e0,by simp [yA],e2,e3⟩
  ·cases hr2
 ·cases hr1
def Ze (B:Nat→Prop) (κ:BG) (h:Heap) (w:World):Option AV→Option Value→Prop
 |none,none=>True
 |some a,some v=>AO B κ h w a v
 |_,_=>False
def Dh (d hi n:Nat):Option Value→Prop
 |none=>n=d
 |some v=>∃k,v = .int k n∧n≤hi
theorem Bu {x:Option AV} {d hi:Nat} {K:Nat→Option R} {r:R} (hr:Cz x d hi K=some r) {y:Option Value} (hy:Ze B κ h w x y) :
  ∃n,K n=some r∧Dh d hi n y:=by
 unfold Cz at hr
 try simp only [AB] at hr
 split at hr
 ·cases y with
  |none=>exact ⟨d,hr,rfl⟩
  |some v=>exact hy.elim
 ·cases y with
  |none=>exact hy.elim
  |some v=>
   obtain ⟨i,hii,hr1⟩:=bind_some hr;obtain ⟨⟨h0,h1⟩,hr2⟩:=AD hr1;obtain ⟨k,rfl⟩:=OY hii hy;exact ⟨i.toNat,hr2,k,by rw [Int.toNat_of_nonneg h0],by omega⟩
theorem Cp {isS:Bool} {len hm cap a b:Nat} {lo hi:Option Value} (hlc:hm≤cap)
  (hb:Dh len hm b hi) (ha:Dh 0 b a lo) :
  (Instr.sliceBounds isS len cap lo hi none).run P w = .ok (a,b,cap) w:=by
 cases hi with
 |none=>
  simp only [Dh] at hb;subst hb;cases lo with
  |none=>simp only [Dh] at ha;subst ha;simp [Instr.sliceBounds]
  |some v=>
   obtain ⟨k,rfl,hle⟩:=ha;simp [Instr.sliceBounds,Instr.sliceBound,asIntOf,hle]
 |some v=>
  obtain ⟨k,rfl,hle⟩:=hb;have h2:b≤cap:=by omega
  cases lo with
  |none=>simp only [Dh] at ha;subst ha;simp [Instr.sliceBounds,Instr.sliceBound,asIntOf,h2]
  |some v=>
   obtain ⟨k',rfl,hle'⟩:=ha;simp [Instr.sliceBounds,Instr.sliceBound,asIntOf,h2,hle']
theorem C3 {isS:Bool} {len cap a b m d0 d1 hm:Nat} {lo:Option Value} {vb vm:Value} (hlc:hm≤cap) (hmx:Dh d0 hm m (some vm))
  (hb:Dh d1 m b (some vb)) (ha:Dh 0 b a lo):(Instr.sliceBounds isS len cap lo (some vb) (some vm)).run P w = .ok (a,b,m) w:=by
 obtain ⟨k,rfl,hle⟩:=hmx;obtain ⟨k',rfl,hle'⟩:=hb;have h2:m≤cap:=by omega
 cases lo with
 |none=>simp only [Dh] at ha;subst ha;simp [Instr.sliceBounds,Instr.sliceBound,asIntOf,h2,hle']
 |some v=>
  obtain ⟨k3,rfl,hle3⟩:=ha;simp [Instr.sliceBounds,Instr.sliceBound,asIntOf,h2,hle',hle3]
theorem XL {t:TypeId} {x:AV} {lo hi mx:Option AV} {K:AV→Option R} {r:R} (hr:Lv P t h x lo hi mx K=some r) {vx:Value} {vl vh vm:Option Value} (hx:AO B κ h w x vx)
  (hl:Ze B κ h w lo vl) (hhi:Ze B κ h w hi vh)
  (hm:Ze B κ h w mx vm) (hh:Ap B κ h w) :
  ∃v val,K v=some r∧(Instr.sliceAt t vx vl vh vm).run P w = .ok val w∧AO B κ h w v val:=by
 unfold Lv at hr
 try simp only [AB] at hr
 split at hr
 ·rename_i hu;cases vm with
  |some v=>exact hm.elim
  |none=>
   obtain ⟨s,hs,hr1⟩:=bind_some hr;obtain rfl:=FR hs hx;obtain ⟨b,hr2,hb⟩:=Bu hr1 hhi;obtain ⟨a,hr3,ha⟩:=Bu hr2 hl;have:=Cp (P:=P) (w:=w) (isS:=false) (yE s.size) hb ha;exact ⟨_,_,hr3,by simp [Instr.sliceAt,Instr.slice,run_underlying hu,this],.t _ _ (.str _)⟩
 ·rename_i e hu;cases vm with
  |some v=>exact hm.elim
  |none=>
   obtain ⟨z,hz,hr1⟩:=bind_some hr;clear hr;split at hr1
   ·rename_i size es;obtain ⟨rfl,hr2⟩:=AD hr1;obtain ⟨b,hr3,hb⟩:=Bu hr2 hhi;obtain ⟨a,hr4,ha⟩:=Bu hr3 hl;have hbl:b≤es.length:=by
     cases vh with
     |none=>simp only [Dh] at hb;omega
     |some v=>obtain ⟨_,_,h⟩:=hb;exact h
    have hab:a≤b:=by
     cases vl with
     |none=>simp only [Dh] at ha;omega
     |some v=>obtain ⟨_,_,h⟩:=ha;exact h
    cases hx with
    |t _ _ ht=>
     have hlen:((es.take b).drop a).length=b-a:=by simp;omega
     cases ht with
     |nil _ cap ad=>
      simp only [zV] at hbl hb;have:=Cp (P:=P) (w:=w) (isS:=true) (len:=0) (cap:=cap) (yO _) (by simpa using hb) ha;obtain rfl:b=0:=by omega
      obtain rfl:a=0:=by omega
      refine ⟨_,_,hr4,by simp [Instr.sliceAt,Instr.slice,run_underlying hu,this,Bk hz];rfl,?_⟩;simp;exact .t _ _ (.nil _ _ _)
     |sl _ _ bl off cap u h1 h2 h3 h4 h5 h6=>
      have:=Cp (P:=P) (w:=w) (isS:=true) (cap:=cap) h1 hb ha;refine ⟨_,.slice (if cap=a then some ⟨bl,off,none⟩ else some ⟨bl,off+a*size,none⟩) (b-a) (cap-a),hr4,?_,.t _ _ ?_⟩
      ·simp [Instr.sliceAt,Instr.slice,run_underlying hu,this,Bk hz,Ep]
      ·rw [← hlen];by_cases hba:b-a=0
       ·have hnil:(es.take b).drop a=[]:=zI (by omega);rw [hnil];exact .nil _ _ _
       ·rw [if_neg (by omega)];have hidx:∀(j:Nat) (e:List Tree),((es.take b).drop a)[j]? = some e→es[a+j]? = some e:=fun j e he=>by
         rw [zN] at he;rcases yH (a+j) b with hlt|hge
         ·rw [zT hlt] at he;exact he
         ·simp [zS,yK.2 hge] at he
        refine .sl size _ bl (off+a*size) (cap-a) (fun j c=>u (a+j) c) (by omega) h2 h3 (fun j e he=>h4 _ e (hidx j e he)) (fun j e c y he hy => ?_) (fun j e c y he hy=>h6 _ e c y (hidx j e he) hy);have:=h5 _ e c y (hidx j e he) hy;rw [yC] at this;rw [← this];congr 2;omega
   ·obtain ⟨b,hr3,hb⟩:=Bu hr1 hhi;obtain ⟨a,hr4,ha⟩:=Bu hr3 hl;cases hx;have hb0:b=0:=by
     cases vh with
     |none=>exact hb
     |some v=>obtain ⟨_,_,h⟩:=hb;omega
    subst hb0;have ha0:a=0:=by
     cases vl with
     |none=>exact ha
     |some v=>obtain ⟨_,_,h⟩:=ha;omega
    subst ha0;have:=Cp (P:=P) (w:=w) (isS:=true) (yE 0) hb ha;exact ⟨_,_,hr4,by simp [Instr.sliceAt,Instr.slice,run_underlying hu,this,Bk hz];rfl,.nilsl _⟩
   ·rename_i i ver off len;split at hr1
    ·rename_i fz ver' size es hi';obtain ⟨⟨rfl,hsz⟩,hr2⟩:=AD hr1;clear hr1;obtain ⟨b,hr3,hb⟩:=Bu hr2 hhi;obtain ⟨a,hr4,ha⟩:=Bu hr3 hl;have hab:a≤b:=by
      cases vl with
      |none=>simp only [Dh] at ha;omega
      |some v=>obtain ⟨_,_,h⟩:=ha;exact h
     cases hx with
     |sref _ _ _ _ _ ho hex hsr=>
      obtain ⟨kk,hkk⟩:=CH hh hi';obtain ⟨hk2,hle,hmm⟩:=hsr kk _ hkk hi' rfl;simp only [AF.len] at hle;have hbl:b≤es.length-off:=by
       cases vh with
       |none=>simp only [Dh] at hb;omega
       |some v=>obtain ⟨_,_,h⟩:=hb;exact h
      rcases hmm with ⟨rfl,hof,a0,rfl⟩|⟨bl,base,rfl,cap,rfl,hcap,hcs⟩
      ·simp only [AF.len] at hof;obtain rfl:b=0:=by omega
       obtain rfl:a=0:=by omega
       have:=Cp (P:=P) (w:=w) (isS:=true) (len:=0) (cap:=0) (by omega) (by rw [show es.length-off=0 by omega] at hb;exact hb) ha;refine ⟨_,.slice a0 0 0,hr4,by simp [Instr.sliceAt,Instr.slice,run_underlying hu,this,Bk hz],.sref _ _ _ _ _ rfl hex fun k o hk ho' hv => ?_⟩;rw [hkk] at hk;cases hk;rw [hi'] at ho';cases ho';exact ⟨rfl,by simp only [AF.len];omega,.inl ⟨rfl,by simp only [AF.len];omega,⟨_,rfl⟩⟩⟩
      ·simp only [AF.len] at hcap;have:=Cp (P:=P) (w:=w) (isS:=true) (len:=len) (cap:=cap) (by omega) hb ha;have hrun:(Instr.sliceAt t (.slice (some ⟨bl,base+off*(AF.row fz ver' size es).size,none⟩) len cap) vl vh none).run P w = .ok (.slice (if cap=a then some ⟨bl,base+off*size,none⟩ else some ⟨bl,base+off*size+a*z,none⟩) (b-a) (cap-a)) w:=by simp [Instr.sliceAt,Instr.slice,run_underlying hu,this,Bk hz,Ep,AF.size]
       refine ⟨_,_,hr4,hrun,.sref _ _ _ _ _ rfl hex fun k o hk ho' hv => ?_⟩;rw [hkk] at hk;cases hk;rw [hi'] at ho';cases ho';refine ⟨rfl,by simp only [AF.len];omega,?_⟩;by_cases hca:cap=a
       ·rw [if_pos hca];exact .inl ⟨by omega,by simp only [AF.len];omega,⟨_,by rw [show b-a=0 by omega,show cap-a=0 by omega]⟩⟩
       ·rw [if_neg hca];refine .inr ⟨bl,base,rfl,cap-a,?_,by simp only [AF.len];omega,fun cells elem fr hcell => ?_⟩
        ·simp only [AF.size];rcases hsz with rfl|hsz
         ·rw [yC];simp [yA]
         ·have hes:es=[]:=row_zero hh hi' hsz;obtain ⟨hz1,_⟩:=hh.obj i _ _ hi' hkk;exact (hz1 hsz).elim
        ·have:=hcs cells elem fr hcell;rw [show off+a+(cap-a)=off+cap from by omega];exact this
    ·cases hr1
   ·cases hr1
 ·rename_i m e hu;cases vm with
  |none=>exact hm.elim
  |some vm=>
   obtain ⟨z,hz,hr1⟩:=bind_some hr;clear hr;split at hr1
   ·rename_i size es bv;cases vh with
    |none=>exact hhi.elim
    |some vb=>
     obtain ⟨rfl,hr2⟩:=AD hr1;obtain ⟨m',hr3,hm'⟩:=Bu hr2 (y:=some vm) hm;obtain ⟨b,hr4,hb⟩:=Bu hr3 (y:=some vb) hhi;obtain ⟨a,hr5,ha⟩:=Bu hr4 hl;cases hx with
     |t _ _ ht=>
      cases ht with
      |nil _ cap ad=>
       have:=C3 (P:=P) (w:=w) (isS:=true) (len:=0) (cap:=cap) (yO _) hm' hb ha;exact ⟨_,_,hr5,by simp [Instr.sliceAt,Instr.slice,run_underlying hu,this,Bk hz];rfl,.undef _⟩
      |sl _ _ bl off cap u h1 h2 h3 h4 h5 h6=>
       have:=C3 (P:=P) (w:=w) (isS:=true) (len:=es.length) (cap:=cap) h1 hm' hb ha;exact ⟨_,_,hr5,by simp [Instr.sliceAt,Instr.slice,run_underlying hu,this,Bk hz];rfl,.undef _⟩
   ·rename_i bv;cases vh with
    |none=>exact hhi.elim
    |some vb=>
     obtain ⟨m',hr3,hm'⟩:=Bu hr1 (y:=some vm) hm;obtain ⟨b,hr4,hb⟩:=Bu hr3 (y:=some vb) hhi;obtain ⟨a,hr5,ha⟩:=Bu hr4 hl;cases hx;have:=C3 (P:=P) (w:=w) (isS:=true) (len:=0) (cap:=0) (yE 0) hm' hb ha;exact ⟨_,_,hr5,by simp [Instr.sliceAt,Instr.slice,run_underlying hu,this,Bk hz];rfl,.undef _⟩
   ·rename_i i ver off len bv;split at hr1
    ·rename_i fz ver' size es hi';cases vh with
     |none=>exact hhi.elim
     |some vb=>
      obtain ⟨rfl,hr2⟩:=AD hr1;obtain ⟨m',hr3,hm'⟩:=Bu hr2 (y:=some vm) hm;obtain ⟨b,hr4,hb⟩:=Bu hr3 (y:=some vb) hhi;obtain ⟨a,hr5,ha⟩:=Bu hr4 hl;cases hx with
      |sref _ _ _ _ _ ho hex hsr=>
       obtain ⟨kk,hkk⟩:=CH hh hi';obtain ⟨hk2,hle,hmm⟩:=hsr kk _ hkk hi' rfl;simp only [AF.len] at hle;rcases hmm with ⟨rfl,hof,a0,rfl⟩|⟨bl,base,rfl,cap,rfl,hcap,hcs⟩
       ·simp only [AF.len] at hof;have:=C3 (P:=P) (w:=w) (isS:=true) (len:=0) (cap:=0) (by omega) hm' hb ha;exact ⟨_,_,hr5,by simp [Instr.sliceAt,Instr.slice,run_underlying hu,this,Bk hz];rfl,.undef _⟩
       ·simp only [AF.len] at hcap;have:=C3 (P:=P) (w:=w) (isS:=true) (len:=len) (cap:=cap) (by omega) hm' hb ha;exact ⟨_,_,hr5,by simp [Instr.sliceAt,Instr.slice,run_underlying hu,this,Bk hz];rfl,.undef _⟩
    ·cases hr1
   ·cases hr1
 ·cases hr
end Ab
namespace Ab
open Go
variable {R:Type} {P:Program} {B:Nat→Prop} {κ:BG} {h:Heap} {w:World}
def AY (B:Nat→Prop) (κ:BG) (h:Heap) (w:World) (cs:List AV) (arr:Array Value):Prop:=
 arr.size=cs.length∧∀j x,cs[j]? = some x→AO B κ h w x (arr.getD j undef)
theorem Sl {x:AV} {v:Value} (hl:x.leaf=true) (hv:AO B κ h w x v):v.oneCell'=true:=by
 cases hv<;>first|rfl|assumption|(simp [AV.leaf] at hl;done)|skip
 ·exact Bv.one (by assumption)
 ·have hp:∃p,v = .pointer (some p):=by assumption
  obtain ⟨p,rfl⟩:=hp;rfl
theorem Wj {v:Value} (h1:v.oneCell'=true):v.cells = #[v]:=by cases v<;>first|rfl|(simp [Value.oneCell'] at h1;done)
theorem IP {v:AV} {vs:List AV} {val:Value} (hc:v.cells=some vs) (hv:AO B κ h w v val):AY B κ h w vs val.cells:=by
 by_cases hl:v.leaf=true
 ·have h1:=Sl hl hv;rw [Wj h1];have:vs=[v]:=by cases v<;>simp_all [AV.cells,AV.leaf]
  subst this;refine ⟨rfl,fun j x hx => ?_⟩;cases j with
  |zero=>simp at hx;subst hx;simpa using hv
  |succ j=>simp at hx
 ·cases v with
  |agg cs=>
   simp [AV.cells] at hc;subst hc;cases hv with
   |agg _ vs h1 h2=>exact ⟨h1,h2⟩
  |undef=>simp [AV.cells] at hc
  |tuple _=>simp [AV.cells] at hc
  |_=>simp [AV.leaf] at hl
theorem P3 (off:Nat):∀(l:List Value) (s:Nat) (arr:Array Value),
  let arr':=(l.zipIdx s).foldl (fun (cs:Array Value) (p:Value×Nat)=>cs.setIfInBounds (off+p.2) p.1) arr
  arr'.size=arr.size∧∀k,arr'.getD k undef=if off+s≤k∧k<off+s+l.length∧k<arr.size then l.getD (k-(off+s)) undef else arr.getD k undef
 |[],s,arr=>by refine ⟨rfl,fun k => ?_⟩;rw [if_neg (by simp;omega)];rfl
 |v::l,s,arr=>by
  have ih:=P3 off l (s+1) (arr.setIfInBounds (off+s) v);simp only [List.zipIdx_cons,foldl_cons];simp only at ih;refine ⟨by rw [ih.1];simp,fun k => ?_⟩;rw [ih.2 k];simp only [Array.size_setIfInBounds,length_cons];by_cases h1:off+(s+1)≤k∧k<off+(s+1)+l.length∧k<arr.size
  ·rw [if_pos h1,if_pos ⟨by omega,by omega,h1.2.2⟩];rw [show k-(off+s)=(k-(off+(s+1)))+1 from by omega];rfl
  ·rw [if_neg h1];by_cases h2:k=off+s∧k<arr.size
   ·obtain ⟨rfl,h3⟩:=h2;rw [if_pos ⟨by omega,by omega,h3⟩];simp [Array.getD,h3]
   ·by_cases h3:k=off+s
    ·rw [if_neg (by omega)];have h4:arr.size≤off+s:=by omega
     subst h3;simp [Array.getD,yK.2 h4]
    ·rw [if_neg (by omega)];by_cases h4:k<arr.size
     ·simp [Array.getD,h4,Ne.symm h3]
     ·simp [Array.getD,h4]
theorem Ge (cs vs:List AV) (off:Nat) (hle:off+vs.length≤cs.length):(setAt cs off vs).length=cs.length∧∀j,(setAt cs off vs)[j]? = if off≤j∧j<off+vs.length then vs[j-off]? else cs[j]? :=by
 constructor
 ·simp [setAt];omega
 ·intro j;unfold setAt;by_cases h1:j<off
  ·rw [zL (by simp;omega),zT h1,if_neg (by omega)]
  ·rw [zM (by simp;omega)];have hl:(cs.take off).length=off:=by simp;omega
   rw [hl];by_cases h2:j<off+vs.length
   ·rw [zL (by omega),if_pos ⟨by omega,h2⟩]
   ·rw [zM (by omega),zN,if_neg (by omega)];congr 1;omega
theorem X4 {cs vs:List AV} {arr a:Array Value} {off:Nat} (h1:AY B κ h w cs arr) (h2:AY B κ h w vs a) (hle:off+vs.length≤cs.length) :
  AY B κ h w (setAt cs off vs) (a.zipIdx.foldl (fun (cs:Array Value) (p:Value×Nat)=>cs.setIfInBounds (off+p.2) p.1) arr):=by
 have hz:a.zipIdx.foldl (fun (cs:Array Value) (p:Value×Nat)=>cs.setIfInBounds (off+p.2) p.1) arr=(a.toList.zipIdx 0).foldl (fun (cs:Array Value) (p:Value×Nat)=>cs.setIfInBounds (off+p.2) p.1) arr:=by rw [← Array.foldl_toList];congr 1;simp
 rw [hz];obtain ⟨f1,f2⟩:=P3 off a.toList 0 arr;obtain ⟨s1,s2⟩:=Ge cs vs off hle;refine ⟨by rw [f1,s1,h1.1],fun j x hx => ?_⟩;rw [f2 j];rw [s2 j] at hx;have ha:a.toList.length=vs.length:=by simp [h2.1]
 by_cases hj:off≤j∧j<off+vs.length
 ·rw [if_pos hj] at hx;rw [if_pos ⟨by omega,by omega,by rw [h1.1];omega⟩];have:=h2.2 _ x hx;simp only [yD];have hlt:j-off<a.size:=by rw [h2.1];omega
  rw [show a.toList.getD (j-off) undef=a.getD (j-off) undef from by simp [Array.getD,List.getD,hlt]];exact this
 ·rw [if_neg hj] at hx;rw [if_neg (by omega)];exact h1.2 j x hx
theorem Kn {place:Nat→Option (Nat×Nat)}:∀{parts:List (Nat×AV)} {cs out:List AV} {arr:Array Value} {vparts:List (Nat×Value)},CM place cs parts=some out→AY B κ h w cs arr→
  vparts.length=parts.length→(∀(j i:Nat) (x:AV),parts[j]? = some (i,x)→∃v,vparts[j]? = some (i,v)∧AO B κ h w x v)→∃arr',Instr.fill place arr vparts=some arr'∧AY B κ h w out arr'
 |[],cs,out,arr,vparts,hf,hc,hl,hp=>by simp only [CM,Option.some.injEq] at hf;subst hf;obtain rfl:vparts=[]:=zI (by simpa using hl);exact ⟨arr,rfl,hc⟩
 |(i,x)::rest,cs,out,arr,vparts,hf,hc,hl,hp=>by
  cases vparts with
  |nil=>simp at hl
  |cons q vrest=>
   obtain ⟨v,hv1,hv2⟩:=hp 0 i x rfl;simp only [getElem?_cons_zero,Option.some.injEq] at hv1;subst hv1;simp only [CM] at hf;split at hf
   ·rename_i off size vs hpl hcs;obtain ⟨⟨h1,h2⟩,hf2⟩:=AD hf;have hcv:=IP hcs hv2;have hset:=X4 (off:=off) hc hcv (by omega);obtain ⟨arr',ha,hb⟩:=Kn (vparts:=vrest) hf2 hset (by simpa using hl) fun j i' x' hx'=>hp (j+1) i' x' (by simpa using hx');refine ⟨arr',?_,hb⟩;simp only [Instr.fill,hpl];have e1:v.cells.size=size:=by rw [hcv.1];exact h1
    have e2:¬(off+v.cells.size>arr.size):=by rw [e1,hc.1];omega
    simp only [e1,ne_eq,not_true_eq_false,decide_false,Bool.false_or];rw [if_neg (by rw [e1] at e2;simpa using e2)];exact ha
   ·cases hf
theorem OH {place:Nat→Option (Nat×Nat)}:∀{parts:List (Nat×AV)} {cs out:List AV},CM place cs parts=some out→out.length=cs.length
 |[],cs,out,hf=>by simp only [CM,Option.some.injEq] at hf;rw [hf]
 |(i,x)::rest,cs,out,hf=>by
  simp only [CM] at hf;split at hf
  ·obtain ⟨⟨h1,h2⟩,hf2⟩:=AD hf;rw [OH hf2,(Ge _ _ _ (by omega)).1]
  ·cases hf
theorem Ct {t:TypeId} {z:List AV} (hz:zeroCells? P t=some z):∃i v,P.info? t=some i∧i.zero=some v∧AY B κ h w z v.cells:=by
 unfold zeroCells? at hz;cases hi:P.info? t with
 |none=>simp [hi] at hz
 |some i=>
  simp only [hi,Option.bind_some] at hz;split at hz
  ·rename_i v hv;exact ⟨i,v,rfl,hv,IP hz (Nl v)⟩
  ·cases hz
theorem XV {t:TypeId} {parts:List (Nat×AV)} {K:AV→Option R} {r:R} (hr:Ok P t parts K=some r) {vparts:Array (Nat×Value)} (hl:vparts.size=parts.length)
  (hp:∀(j i:Nat) (x:AV),parts[j]? = some (i,x)→∃v,vparts.toList[j]? = some (i,v)∧AO B κ h w x v) :
  ∃v val,K v=some r∧(Instr.build t vparts).run P w = .ok val w∧AO B κ h w v val:=by
 unfold Ok at hr;split at hr
 ·rename_i fs hu;split at hr
  ·rename_i places hpl;obtain ⟨z,hz,hr1⟩:=bind_some hr;obtain ⟨cs,hcs,hr2⟩:=bind_some hr1;obtain ⟨i,v,hi,hv,hc⟩:=Ct (B:=B) (κ:=κ) (h:=h) (w:=w) hz;obtain ⟨arr',hf,hc'⟩:=Kn (vparts:=vparts.toList) hcs hc (by simpa using hl) hp;refine ⟨_,.agg arr',hr2,run_build w t vparts arr' ?_,.agg _ _ hc'.1 hc'.2⟩;unfold Program.built;simp only [hi,hu,hv,hpl];simpa using hf
  ·cases hr
 ·rename_i n e hu;obtain ⟨s,hs,hr0⟩:=bind_some hr;obtain ⟨z,hz,hr1⟩:=bind_some hr0;obtain ⟨cs,hcs,hr2⟩:=bind_some hr1;obtain ⟨i,v,hi,hv,hc⟩:=Ct (B:=B) (κ:=κ) (h:=h) (w:=w) hz;obtain ⟨arr',hf,hc'⟩:=Kn (vparts:=vparts.toList) hcs hc (by simpa using hl) hp;refine ⟨_,.agg arr',hr2,run_build w t vparts arr' ?_,.agg _ _ hc'.1 hc'.2⟩;unfold Program.built;unfold B6 at hs;cases hie:P.info? e with
  |none=>simp [hie] at hs
  |some ie=>
   simp only [hie,yP,Option.some.injEq] at hs;simp only [hi,hu,hv,hie];rw [hs];exact hf
 ·cases hr
theorem Av (w:World) (o:Obj) {b:Nat} (hb:b<w.heap.size):(w.alloc o).heap[b]? = w.heap[b]? :=by show (w.heap.push o)[b]? = w.heap[b]?;rw [zB,if_neg (ne_of_lt hb)]
theorem Ba (w:World) (o:Obj):(w.alloc o).heap[w.heap.size]? = some o:=by show (w.heap.push o)[w.heap.size]? = some o;rw [zB,if_pos rfl]
theorem OJ (hh:Ap B κ h w) {w':World} (h1:w'.os=w.os) (h2:w'.tape=w.tape) (h3:w'.output=w.output) (h4:w.heap.size≤w'.heap.size) (h5:∀b,b<w.heap.size→w'.heap[b]? = w.heap[b]?) :
  Ext κ h w κ h w':=
 ⟨h1,h2,h3,h4,fun b hb _=>h5 b hb,fun b hb =>.inl hb,fun i o ho=>⟨o,ho,.refl o⟩,fun _ _ _ _ _ _=>rfl,fun i o o' ho ho' hv b base hk cells elem fr hc=>⟨cells,by rw [← h5 b (hh.lt i b base hk)];exact hc,rfl⟩⟩
theorem Ix (hh:Ap B κ h w) {w':World} (x:Ext κ h w κ h w') (h5:∀b,b<w.heap.size→w'.heap[b]? = w.heap[b]?):Ap B κ h w':=
  ⟨hh.len,hh.inj,hh.notB,fun i b bs hk=>yG (hh.lt i b bs hk) x.size,fun b hb=>yG (hh.ltB b hb) x.size,
   fun i o k ho hk=>(hh.obj i o k ho hk).ext x fun b base e=>h5 b (by subst e;exact hh.lt i b base hk)⟩
theorem Iy (hh:Ap B κ h w) (o:Obj):Ext κ h w κ h (w.alloc o):=
 OJ hh rfl rfl rfl (by simp) fun _ hb=>Av w o hb
theorem UU (hh:Ap B κ h w) (o:Obj):Ap B κ h (w.alloc o):=Ix hh (Iy hh o) fun _ hb=>Av w o hb
theorem not_new (hh:Ap B κ h w):¬(B w.heap.size∨Ex κ h w.heap.size):=by
 rintro (hb|⟨i,base,o,hk,_,_⟩)
 ·have:=hh.ltB _ hb;omega
 ·have:=hh.lt i _ _ hk;omega
theorem Ln (s:Nat):∀(n:Nat) (xs:List Tree) (j:Nat) (e:List Tree),(chunk s n xs)[j]? = some e→j<n∧e=(xs.drop (j*s)).take s
 |0,xs,j,e,he=>by simp [chunk] at he
 |n+1,xs,j,e,he=>by
  cases j with
  |zero=>simp [chunk] at he;exact ⟨by omega,by simp [he]⟩
  |succ j=>
   simp only [chunk,getElem?_cons_succ] at he;obtain ⟨h1,h2⟩:=Ln s n (xs.drop s) j e he;exact ⟨by omega,by rw [h2,drop_drop];congr 2;rw [yM];omega⟩
theorem QL (s:Nat):∀(n:Nat) (xs:List Tree),(chunk s n xs).length=n
 |0,xs=>rfl
 |n+1,xs=>by simp [chunk,QL s n]
theorem Cq {α:Type} (z:List α):∀n,(zY n z).flatten.length=n*z.length
 |0=>by simp
 |n+1=>by simp [List.replicate_succ,yM,Nat.add_comm]
theorem Fb {α:Type} (z:List α):∀(n j:Nat),j<n*z.length→(zY n z).flatten[j]? = z[j % z.length]?
 |0,j,hj=>by simp at hj
 |n+1,j,hj=>by
  rw [List.replicate_succ,flatten_cons];by_cases h1:j<z.length
  ·rw [zL h1,Nat.mod_eq_of_lt h1]
  ·have h2:z.length≤j:=by omega
   rw [zM h2,Fb z n (j-z.length) (by rw [yM] at hj;omega),← Nat.mod_eq_sub_mod h2]
theorem bsl_rel {s len:Nat} {xs:List Tree} {a:Option Addr} {w':World} (hv:len≠0→AO B κ h w' (.t (.sl s (chunk s len xs))) (.slice a len len)):AO B κ h w' (bslV s len xs) (.slice a len len):=by
 unfold bslV;split
 ·rename_i h0;subst h0;exact .nilsl a
 ·rename_i h0;exact hv h0
theorem Oj {t:TypeId} {len:Nat} {parts:List (Nat×AV)} {K:AV→Option R} {r:R} (hr:EX P t h len parts K=some r) {vparts:Array (Nat×Value)} (hl:vparts.size=parts.length)
  (hp:∀(j i:Nat) (x:AV),parts[j]? = some (i,x)→∃v,vparts.toList[j]? = some (i,v)∧AO B κ h w x v) (hh:Ap B κ h w) :
  ∃v val w',K v=some r∧(Instr.buildSlice t len vparts).run P w = .ok val w'∧AO B κ h w' v val∧Ap B κ h w'∧Ext κ h w κ h w':=by
 unfold EX at hr
 try simp only [AB] at hr
 split at hr
 ·rename_i e hu;obtain ⟨s,hs,hr0⟩:=bind_some hr;obtain ⟨z,hz,hr1⟩:=bind_some hr0;obtain ⟨⟨hzl,hs0,hle⟩,hr2⟩:=AD hr1;obtain ⟨cs,hcs,hr3⟩:=bind_some hr2;obtain ⟨i,v,hi,hv,hc⟩:=Ct (B:=B) (κ:=κ) (h:=h) (w:=w) hz;have hvs:v.cells.size=s:=by rw [hc.1];exact hzl
  have hc0:AY B κ h w (zY len z).flatten ((Array.range (len*s)).map (v.cells[· % v.cells.size]!)):=by
   refine ⟨by rw [Cq,hzl];simp,fun j x hx => ?_⟩;have hj:j<len*s:=by have:=(List.getElem?_eq_some_iff.1 hx).1;rw [Cq,hzl] at this;exact this
   rw [Fb z len j (by rw [hzl];exact hj)] at hx;have h1:=hc.2 _ x hx;have h2:j % z.length<v.cells.size:=by rw [hvs,hzl];exact yI _ (by omega)
   have h3:((Array.range (len*s)).map (v.cells[· % v.cells.size]!)).getD j undef=v.cells.getD (j % z.length) undef:=by
    have h4:j % v.cells.size<v.cells.size:=by rw [hvs];exact yI _ (by omega)
    simp [Array.getD,hj,hzl,hvs,yI _ (yL hs0)]
   rw [h3];exact h1
  obtain ⟨arr',hf,hc'⟩:=Kn (vparts:=vparts.toList) hcs hc0 (by simpa using hl) hp;have hcsl:cs.length=len*s:=by rw [OH hcs,Cq,hzl]
  obtain ⟨xs,hr4,hxl,_,hxt⟩:=DS (vs:=arr'.toList) hr3 hh (by simp [hc'.1]) fun j x u hx hu=>by have h1:=hc'.2 j x hx;have h2:arr'.getD j undef=u:=F9 arr'.toList j undef hu;rw [h2] at h1;exact h1
  have hsz:arr'.size=len*s:=by rw [hc'.1,hcsl]
  refine ⟨_,.slice (some ⟨w.heap.size,0,none⟩) len len,w.alloc (.cells arr' e),hr4,?_,bsl_rel fun _ =>.t _ _ ?_,UU hh _,Iy hh _⟩
  ·have hz1:¬(len*s>2 ^ 24):=by omega
   have hzr:(if len*s=0 then (pure #[]:Sem (Array Value)) else do pure (← zeroValue e).cells).run P w = .ok (if len*s=0 then #[] else v.cells) w:=by split<;>simp [zeroValue,typeInfo,hi,hv]
   have hf2:Instr.fill (fun i=>some (i*s,s)) ((Array.range (len*s)).map ((if len*s=0 then #[] else v.cells)[· % (if len*s=0 then #[] else v.cells).size]!)) vparts.toList=some arr':=by
    by_cases h0:len*s=0
    ·rw [if_pos h0];rw [h0] at hf ⊢;have e0:Array.range 0 = #[]:=rfl;rw [e0] at hf ⊢;simpa using hf
    ·rw [if_neg h0];exact hf
   simp only [Instr.buildSlice,Sem.run_bind,run_underlying hu,Bk hs,Result.andThen_ok,Sem.run_ite,if_neg hz1,Sem.run_pure];by_cases h0:len*s=0
   ·rw [if_pos h0] at hf2 ⊢;simp only [hf2];rfl
   ·rw [if_neg h0] at hf2 ⊢;simp only [zeroValue,typeInfo,Sem.run_bind,run_program,Result.andThen_ok,hi,hv,Sem.run_pure,hf2];rfl
  ·have hcl:=QL s len xs;have hnew:(w.alloc (.cells arr' e)).heap.size=w.heap.size+1:=by simp
   have hA:¬(B w.heap.size∨Ex κ h w.heap.size):=not_new hh;have hel:∀(j:Nat) (e':List Tree),(chunk s len xs)[j]? = some e'→e'.length=s:=fun j e' he'=>by obtain ⟨h1,h2⟩:=Ln s len xs j e' he';rw [h2];have:(j+1)*s≤len*s:=yJ _ h1;rw [yM] at this;simp;omega
   have hget:∀(j:Nat) (e':List Tree) (c:Nat) (x:Tree),(chunk s len xs)[j]? = some e'→e'[c]? = some x→xs[j*s+c]? = some x:=fun j e' c x he' hx=>by obtain ⟨h1,h2⟩:=Ln s len xs j e' he';rw [h2] at hx;exact (getElem?_sub hx).2
   have hlt:∀(k:Nat) (x:Tree),xs[k]? = some x→k<arr'.size:=fun k x hx=>by have:=(List.getElem?_eq_some_iff.1 hx).1;omega
   have key:=Bv.sl (w:=w.alloc (.cells arr' e)) (A:=fun b=>B b∨Ex κ h b) s (chunk s len xs) w.heap.size 0 len (fun j c=>arr'.getD (j*s+c) undef) (by omega) (by omega) hA hel
    (fun j e' c x he' hx=>by have h1:=hget j e' c x he' hx;rw [Bz (Ba w _) (by rw [yN];exact hlt _ x h1),yN])
    (fun j e' c x he' hx=>by have h1:=hget j e' c x he' hx;have h2:=hlt _ x h1;have h3:=hxt _ x (arr'.getD (j*s+c) undef) h1 (by simp [Array.getD,h2]);exact Bv.ext (Iy hh _) (h3.less fun b hb=>hb.imp id fun e=>⟨rfl,e⟩))
   rw [hcl] at key;exact key
 ·cases hr
theorem Ca {α:Type} (l:List α) (a:α) (i:Nat) {x:α} (hx:(l++[a])[i]? = some x):(i<l.length∧l[i]? = some x)∨(i=l.length∧x=a):=by
 rcases yH i l.length with h1|h1
 ·rw [zL h1] at hx;exact .inl ⟨h1,hx⟩
 ·rw [zM h1] at hx;cases hn:i-l.length with
  |zero=>rw [hn] at hx;simp at hx;exact .inr ⟨by omega,hx.symm⟩
  |succ n=>rw [hn] at hx;simp at hx
theorem X0 {α:Type} {l:List α} {i:Nat} {x:α} (a:α) (hx:l[i]? = some x):(l++[a])[i]? = some x:=by rw [zL (List.getElem?_eq_some_iff.1 hx).1];exact hx
theorem Ao {α:Type} (l:List α) (a:α):(l++[a])[l.length]? = some a:=by simp
theorem B9 (hh:Ap B κ h w) {w':World} (h1:w'.os=w.os) (h2:w'.tape=w.tape) (h3:w'.output=w.output) (h4:w.heap.size≤w'.heap.size) (h5:∀b,b<w.heap.size→w'.heap[b]? = w.heap[b]?)
  {k:Option (Nat×Nat)} {o:AF} (hk:∀b base,k=some (b,base)→w.heap.size≤b):Ext κ h w (κ++[k]) (h++[o]) w' where
 os:=h1
 tape:=h2
 output:=h3
 size:=h4
 keep:=fun b hb _=>h5 b hb
 ex:=by
  rintro b ⟨i,base,o',hki,hoi,hf⟩
  rcases Ca κ k i hki with ⟨_,hki⟩|⟨rfl,he⟩
  ·rcases Ca h o i hoi with ⟨_,hoi⟩|⟨rfl,he⟩
   ·exact .inl ⟨i,base,o',hki,hoi,hf⟩
   ·have:=(List.getElem?_eq_some_iff.1 hki).1;rw [hh.len] at this;omega
  ·exact .inr (hk b base he.symm)
 obj:=fun i o' ho'=>⟨o',X0 o ho',.refl o'⟩
 kap:=fun i o1 o2 h1 h2 _=>by
  have:i<κ.length:=by rw [hh.len];exact (List.getElem?_eq_some_iff.1 h1).1
  exact zL this
 cells:=fun i o1 o2 ho1 ho2 _ b base hb cells elem fr hc=>⟨cells,by rw [← h5 b (hh.lt i b base hb)];exact hc,rfl⟩
theorem Bj (hh:Ap B κ h w) {w':World} (h5:∀b,b<w.heap.size→w'.heap[b]? = w.heap[b]?) {k:Option (Nat×Nat)} {o:AF} (x:Ext κ h w (κ++[k]) (h++[o]) w')
  (hk:∀b base,k=some (b,base)→w.heap.size≤b∧b<w'.heap.size) (ho:HI B (κ++[k]) (h++[o]) w' k o):Ap B (κ++[k]) (h++[o]) w' where
 len:=by simp [hh.len]
 inj:=fun i j b bs bs' hi hj=>by
  rcases Ca κ k i hi with ⟨_,hi⟩|⟨rfl,hi1⟩
  ·rcases Ca κ k j hj with ⟨_,hj⟩|⟨rfl,hj1⟩
   ·exact hh.inj i j b bs bs' hi hj
   ·have:=(hk b bs' hj1.symm).1;have:=hh.lt i b bs hi;omega
  ·rcases Ca κ k j hj with ⟨_,hj⟩|⟨rfl,hj1⟩
   ·have:=(hk b bs hi1.symm).1;have:=hh.lt j b bs' hj;omega
   ·rfl
 notB:=fun i b bs hi hB=>by
  rcases Ca κ k i hi with ⟨_,hi⟩|⟨rfl,hi1⟩
  ·exact hh.notB i b bs hi hB
  ·have:=(hk b bs hi1.symm).1;have:=hh.ltB b hB;omega
 lt:=fun i b bs hi=>by
  rcases Ca κ k i hi with ⟨_,hi⟩|⟨rfl,hi1⟩
  ·exact yG (hh.lt i b bs hi) x.size
  ·exact (hk b bs hi1.symm).2
 ltB:=fun b hb=>yG (hh.ltB b hb) x.size
 obj:=fun i o' k' ho' hk'=>by
  rcases Ca κ k i hk' with ⟨hlt,hk'⟩|⟨rfl,rfl⟩
  ·rcases Ca h o i ho' with ⟨_,ho'⟩|⟨rfl,_⟩
   ·exact (hh.obj i o' k' ho' hk').ext x fun b base e=>h5 b (by subst e;exact hh.lt i b base hk')
   ·rw [hh.len] at hlt;omega
  ·rcases Ca h o _ ho' with ⟨hlt,_⟩|⟨_,rfl⟩
   ·rw [hh.len] at hlt;omega
   ·exact ho
theorem AY.ext {κ':BG} {h':Heap} {w':World} (x:Ext κ h w κ' h' w') {cs:List AV} {arr:Array Value} (hc:AY B κ h w cs arr):AY B κ' h' w' cs arr:=
 ⟨hc.1,fun j y hy=>(hc.2 j y hy).ext x⟩
theorem Im {P:Program}:∀{ts:List TypeId} {vs:List AV} {h:Heap} {κ:BG} {K:List AV→Heap→Option R} {r:R} {arr:List Value},Dl P ts vs h K=some r→Ap B κ h w→arr.length=vs.length→
  (∀(j:Nat) (x:AV) (v:Value),vs[j]? = some x→arr[j]? = some v→AO B κ h w x v)→
  ∃(vs':List AV) (g:Heap) (κ':BG),K vs' (h++g)=some r∧Ap B κ' (h++g) w∧Ext κ h w κ' (h++g) w∧vs'.length=vs.length∧
   (∀(j:Nat) (x:AV) (v:Value),vs'[j]? = some x→arr[j]? = some v→AO B κ' (h++g) w x v)∧(vs.all AV.leaf=true→vs'.all AV.leaf=true)
 |ts,[],h,κ,K,r,arr,hr,hh,hl,hv=>⟨[],[],κ,by simpa [Dl] using hr,by simpa using hh,by simpa using Ext.refl κ h w,rfl,fun j x v hx=>by simp at hx,fun _=>rfl⟩
 |ts,x::vs,h,κ,K,r,arr,hr,hh,hl,hv=>by
  cases arr with
  |nil=>simp at hl
  |cons v arr=>
   have hx:=hv 0 x v rfl rfl;by_cases hn:x = .nilsl
   ·subst hn;simp only [Dl] at hr;generalize (Fc P (ts.headD 0)).getD 0=z0 at hr;have x1:Ext κ h w (κ++[none]) (h++[.row false 0 z0 []]) w:=B9 hh rfl rfl rfl (yE _) (fun _ _=>rfl) (fun b base e=>by cases e);have hh1:=Bj hh (fun _ _=>rfl) x1 (fun b base e=>by cases e) (show HI B (κ++[none]) (h++[.row false 0 z0 []]) w none (.row false 0 z0 []) from rfl);obtain ⟨vs',g,κ',h1,h2,h3,h4,h5,h6⟩:=Im (arr:=arr) hr hh1 (by simpa using hl) fun j x' v' hx' hv'=>(hv (j+1) x' v' (by simpa using hx') (by simpa using hv')).ext x1;refine ⟨_,.row false 0 z0 []::g,κ',by simpa using h1,by simpa using h2,by simpa using x1.trans h3,by simp [h4],fun j x' v' hx' hv' => ?_,fun ha=>by simp only [all_cons,zE] at ha ⊢;exact ⟨rfl,h6 ha.2⟩⟩
    cases j with
    |zero=>
     simp at hx' hv';subst hx' hv';cases hx with|nilsl a0=>
     have hnew:(h++[AF.row false 0 z0 []])[h.length]? = some (.row false 0 z0 []):=Ao h _;have hkn:(κ++[none])[h.length]? = some none:=by rw [← hh.len];exact Ao κ _
     have hs:AO B (κ++[none]) (h++[.row false 0 z0 []]) w (.sref h.length 0 0 0) (.slice a0 0 0):=by refine .sref _ _ _ _ _ rfl ⟨_,hnew,yE _⟩ fun k o hk ho _ => ?_;rw [hkn] at hk;cases hk;rw [hnew] at ho;cases ho;exact ⟨rfl,by simp [AF.len],.inl ⟨rfl,by simp [AF.len],⟨_,rfl⟩⟩⟩
     simpa using hs.ext h3
    |succ j=>simpa using h5 j x' v' (by simpa using hx') (by simpa using hv')
   ·have hr':(Dl P ts.tail vs h fun vs' h'=>K (x::vs') h')=some r:=by rw [← hr];cases x<;>first|exact (hn rfl).elim|rfl
    obtain ⟨vs',g,κ',h1,h2,h3,h4,h5,h6⟩:=Im (arr:=arr) hr' hh (by simpa using hl) fun j x' v' hx' hv'=>hv (j+1) x' v' (by simpa using hx') (by simpa using hv');refine ⟨_,g,κ',h1,h2,h3,by simp [h4],fun j x' v' hx' hv' => ?_,fun ha => ?_⟩
    ·cases j with
     |zero=>simp at hx' hv';subst hx' hv';exact hx.ext h3
     |succ j=>exact h5 j x' v' (by simpa using hx') (by simpa using hv')
    ·simp only [all_cons,zE] at ha ⊢;exact ⟨ha.1,h6 ha.2⟩
theorem IX {P:Program} {t0:TypeId} {cs:List AV} {K:AV→Heap→Option R} {r:R} (hr:Eo P t0 cs h K=some r) (hh:Ap B κ h w) {arr:Array Value} (hc:AY B κ h w cs arr) (t:TypeId) :
  ∃v h' κ',K v h'=some r∧AO B κ' h' (w.alloc (.cells arr t)) v (.pointer (some ⟨w.heap.size,0,none⟩))∧Ap B κ' h' (w.alloc (.cells arr t))∧Ext κ h w κ' h' (w.alloc (.cells arr t)):=by
 unfold Eo at hr;obtain ⟨vs',g,κ1,hK,hh1,x1,hl,hv,_⟩:=Im (arr:=arr.toList) hr hh (by simp [hc.1]) fun j x v hx hv=>by have h1:=hc.2 j x hx;rwa [F9 arr.toList j undef hv] at h1
 have h5:∀b,b<w.heap.size→(w.alloc (.cells arr t)).heap[b]? = w.heap[b]? :=fun b hb=>Av w _ hb;have x2:Ext κ1 (h++g) w (κ1++[some (w.heap.size,0)]) ((h++g)++[.box vs']) (w.alloc (.cells arr t)):=
  B9 (w':=w.alloc (.cells arr t)) hh1 rfl rfl rfl (by simp) h5 fun b base e=>by injection e with e;injection e with e;omega
 have hh2:=Bj hh1 h5 x2 (fun b base e=>by injection e with e;injection e with e;subst e;exact ⟨yE _,by simp⟩)
  ⟨rfl,arr,t,Ba w _,by rw [hl];exact hc.1,fun j x hx=>by
   have hj:j<arr.size:=by rw [hc.1,← hl];exact (List.getElem?_eq_some_iff.1 hx).1
   exact (hv j x (arr.getD j undef) hx (by simp [Array.getD,hj])).ext x2⟩
 refine ⟨_,_,_,hK,?_,hh2,x1.trans x2⟩;have hk:(κ1++[some (w.heap.size,0)])[(h++g).length]? = some (some (w.heap.size,0)):=by rw [← hh1.len];exact Ao κ1 _
 exact .ptr _ 0 w.heap.size 0 hk ⟨vs',Ao _ _⟩
theorem RX {P:Program} {t:TypeId} {len:Nat} {parts:List (Nat×AV)} {vparts:Array (Nat×Value)} {K:AV→Heap→Option R} {r:R} (hr:FA P t h len parts K=some r) (hl:vparts.size=parts.length)
  (hp:∀(j i:Nat) (x:AV),parts[j]? = some (i,x)→∃v,vparts.toList[j]? = some (i,v)∧AO B κ h w x v) (hh:Ap B κ h w) :
  ∃v h' κ' val w',K v h'=some r∧(Instr.buildSlice t len vparts).run P w = .ok val w'∧AO B κ' h' w' v val∧Ap B κ' h' w'∧Ext κ h w κ' h' w':=by
 unfold FA at hr
 try simp only [AB] at hr
 split at hr
 ·rename_i e hu;obtain ⟨s,hs,hr0⟩:=bind_some hr;obtain ⟨z,hz,hr1⟩:=bind_some hr0;obtain ⟨⟨hzl,hs0,hl0,hle⟩,hr2⟩:=AD hr1;obtain ⟨cs,hcs,hK⟩:=bind_some hr2;obtain ⟨i,v,hi,hv,hc⟩:=Ct (B:=B) (κ:=κ) (h:=h) (w:=w) hz;have hvs:v.cells.size=s:=by rw [hc.1];exact hzl
  have hc0:AY B κ h w (zY len z).flatten ((Array.range (len*s)).map (v.cells[· % v.cells.size]!)):=by
   refine ⟨by rw [Cq,hzl];simp,fun j x hx => ?_⟩;have hj:j<len*s:=by have:=(List.getElem?_eq_some_iff.1 hx).1;rw [Cq,hzl] at this;exact this
   rw [Fb z len j (by rw [hzl];exact hj)] at hx;have h1:=hc.2 _ x hx;have h2:j % z.length<v.cells.size:=by rw [hvs,hzl];exact yI _ (by omega)
   have h3:((Array.range (len*s)).map (v.cells[· % v.cells.size]!)).getD j undef=v.cells.getD (j % z.length) undef:=by
    have h4:j % v.cells.size<v.cells.size:=by rw [hvs];exact yI _ (by omega)
    simp [Array.getD,hj,hzl,hvs,yI _ (yL hs0)]
   rw [h3];exact h1
  obtain ⟨arr',hf,hc'⟩:=Kn (vparts:=vparts.toList) hcs hc0 (by simpa using hl) hp;have hcsl:cs.length=len*s:=by rw [OH hcs,Cq,hzl]
  have h0:¬len*s=0:=fun h=>(Nat.mul_eq_zero.1 h).elim hl0 hs0;have h5:∀b,b<w.heap.size→(w.alloc (.cells arr' e)).heap[b]? = w.heap[b]? :=fun b hb=>Av w _ hb;have x2:Ext κ h w (κ++[some (w.heap.size,0)]) (h++[.box cs]) (w.alloc (.cells arr' e)):=
   B9 (w':=w.alloc (.cells arr' e)) hh rfl rfl rfl (by simp) h5 fun b base e=>by injection e with e;injection e with e;omega
  have hh2:=Bj hh h5 x2 (fun b base e=>by injection e with e;injection e with e;subst e;exact ⟨yE _,by simp⟩)
   ⟨rfl,arr',e,Ba w _,hc'.1,fun j x hx=>by
    have hj:j<arr'.size:=by rw [hc'.1];exact (List.getElem?_eq_some_iff.1 hx).1
    exact (hc'.2 j x hx).ext x2⟩
  have hk:(κ++[some (w.heap.size,0)])[h.length]? = some (some (w.heap.size,0)):=by rw [← hh.len];exact Ao κ _
  refine ⟨_,_,_,.slice (some ⟨w.heap.size,0,none⟩) len len,w.alloc (.cells arr' e),hK,?_,?_,hh2,x2⟩
  ·have hz1:¬(len*s>2 ^ 24):=by omega
   have hzr:(zeroValue e).run P w = .ok v w:=by simp [zeroValue,typeInfo,hi,hv]
   simp only [Instr.buildSlice,Sem.run_bind,run_underlying hu,Bk hs,Result.andThen_ok,Sem.run_ite,if_neg hz1,Sem.run_pure];rw [if_neg h0];simp only [hzr,Result.andThen_ok,hf];rfl
  ·exact .bsl _ 0 len s len w.heap.size hk ⟨cs,Ao _ _,by omega⟩ (yE _)
 ·cases hr
theorem FD {α:Type} {l:List α} {i:Nat} {a:α} {j:Nat} {x:α} (hx:(l.set i a)[j]? = some x):(j=i∧i<l.length∧x=a)∨(j≠i∧l[j]? = some x):=by
 rw [List.getElem?_set] at hx;by_cases hij:i=j
 ·subst hij;rw [if_pos rfl] at hx;split at hx
  ·rename_i hl;cases hx;exact .inl ⟨rfl,hl,rfl⟩
  ·cases hx
 ·rw [if_neg hij] at hx;exact .inr ⟨fun e=>hij e.symm,hx⟩
theorem A5 {α:Type} {l:List α} {i:Nat} {a x:α} (hx:l[i]? = some x):(l.set i a)[i]? = some a:=by have:=(List.getElem?_eq_some_iff.1 hx).1;simp [this]
theorem DI {α:Type} {l:List α} {i j:Nat} {a:α} (hij:j≠i):(l.set i a)[j]? = l[j]? :=by rw [List.getElem?_set,if_neg (Ne.symm hij)]
theorem DH (hh:Ap B κ h w) {i:Nat} {o o':AF} (hi:h[i]? = some o) (hf:o.MO=false) (hOL:OLe o o') {k k':Option (Nat×Nat)} (hk:κ[i]? = some k) {w':World}
  (h1:w'.os=w.os) (h2:w'.tape=w.tape) (h3:w'.output=w.output) (h4:w.heap.size≤w'.heap.size)
  (h5:∀b,b<w.heap.size→(∀base,k≠some (b,base))→w'.heap[b]? = w.heap[b]?)
  (h6:∀b base,k'=some (b,base)→(∃base0,k=some (b,base0))∨w.heap.size≤b)
  (h7:o.ver=o'.ver→k'=k∧∀b base,k=some (b,base)→∀cells elem fr,w'.heap[b]? = some (.cells cells elem fr)→∃cells',w.heap[b]? = some (.cells cells' elem fr)∧cells'.size=cells.size) :
  Ext κ h w (κ.set i k') (h.set i o') w' where
 os:=h1
 tape:=h2
 output:=h3
 size:=h4
 keep:=fun b hb hn=>h5 b hb fun base e=>hn ⟨i,base,o,by rw [hk,e],hi,hf⟩
 ex:=by
  rintro b ⟨j,base,oj,hkj,hoj,hfj⟩
  rcases FD hkj with ⟨rfl,_,e⟩|⟨hne,hkj⟩
  ·rcases h6 b base e.symm with ⟨base0,e0⟩|hle
   ·exact .inl ⟨_,base0,o,by rw [hk,e0],hi,hf⟩
   ·exact .inr hle
  ·rw [DI hne] at hoj;exact .inl ⟨j,base,oj,hkj,hoj,hfj⟩
 obj:=fun j oj hoj=>by
  by_cases hij:j=i
  ·subst hij;rw [hi] at hoj;cases hoj;exact ⟨o',A5 hi,hOL⟩
  ·exact ⟨oj,by rw [DI hij];exact hoj,.refl oj⟩
 kap:=fun j o1 o2 ho1 ho2 hv=>by
  by_cases hij:j=i
  ·subst hij;rw [hi] at ho1;cases ho1;rw [A5 hi] at ho2;cases ho2;rw [A5 hk,hk,(h7 hv).1]
  ·rw [DI hij]
 cells:=fun j o1 o2 ho1 ho2 hv b base hkb cells elem fr hc=>by
  by_cases hij:j=i
  ·subst hij;rw [hi] at ho1;cases ho1;rw [A5 hi] at ho2;cases ho2;rw [hk] at hkb;cases hkb;exact (h7 hv).2 b base rfl cells elem fr hc
  ·refine ⟨cells,?_,rfl⟩;rw [← h5 b (hh.lt j b base hkb) fun base' e=>hij (hh.inj j i b base base' hkb (by rw [hk,e]))];exact hc
theorem CZ (hh:Ap B κ h w) {i:Nat} {o o':AF} (hi:h[i]? = some o) {k k':Option (Nat×Nat)} (hk:κ[i]? = some k) {w':World}
  (h5:∀b,b<w.heap.size→(∀base,k≠some (b,base))→w'.heap[b]? = w.heap[b]?)
  (h6:∀b base,k'=some (b,base)→((∃base0,k=some (b,base0))∨w.heap.size≤b)∧b<w'.heap.size)
  (x:Ext κ h w (κ.set i k') (h.set i o') w') (ho:HI B (κ.set i k') (h.set i o') w' k' o'):Ap B (κ.set i k') (h.set i o') w' where
 len:=by simp [hh.len]
 inj:=fun a j b bs bs' ha hj=>by
  by_cases hai:a=i
  ·by_cases hji:j=i
   ·rw [hai,hji]
   ·rcases FD hj with ⟨e,_,_⟩|⟨_,hj⟩
    ·exact (hji e).elim
    rcases FD ha with ⟨_,_,e1⟩|⟨hne1,_⟩
    ·rcases (h6 b bs e1.symm).1 with ⟨b0,e0⟩|hle
     ·rw [hai];exact (hh.inj j i b bs' b0 hj (by rw [hk,e0])).symm
     ·have:=hh.lt j b bs' hj;omega
    ·exact (hne1 hai).elim
  ·rcases FD ha with ⟨e,_,_⟩|⟨_,ha⟩
   ·exact (hai e).elim
   by_cases hji:j=i
   ·rcases FD hj with ⟨_,_,e1⟩|⟨hne1,_⟩
    ·rcases (h6 b bs' e1.symm).1 with ⟨b0,e0⟩|hle
     ·rw [hji];exact hh.inj a i b bs b0 ha (by rw [hk,e0])
     ·have:=hh.lt a b bs ha;omega
    ·exact (hne1 hji).elim
   ·rcases FD hj with ⟨e,_,_⟩|⟨_,hj⟩
    ·exact (hji e).elim
    ·exact hh.inj a j b bs bs' ha hj
 notB:=fun a b bs ha hB=>by
  rcases FD ha with ⟨rfl,_,e1⟩|⟨hne1,ha⟩
  ·rcases (h6 b bs e1.symm).1 with ⟨b0,e0⟩|hle
   ·exact hh.notB _ b b0 (by rw [hk,e0]) hB
   ·have:=hh.ltB b hB;omega
  ·exact hh.notB a b bs ha hB
 lt:=fun a b bs ha=>by
  rcases FD ha with ⟨rfl,_,e1⟩|⟨hne1,ha⟩
  ·exact (h6 b bs e1.symm).2
  ·exact yG (hh.lt a b bs ha) x.size
 ltB:=fun b hb=>yG (hh.ltB b hb) x.size
 obj:=fun j oj kj hoj hkj=>by
  by_cases hij:j=i
  ·subst hij;rw [A5 hi] at hoj;cases hoj;rw [A5 hk] at hkj;cases hkj;exact ho
  ·rw [DI hij] at hoj hkj;refine (hh.obj j oj kj hoj hkj).ext x fun b base e => ?_;subst e;exact h5 b (hh.lt j b base hkj) fun base' e'=>hij (hh.inj j i b base base' hkj (by rw [hk,e']))
end Ab
namespace Ab
open Go
variable {R:Type} {P:Program} {B:Nat→Prop} {κ:BG} {h:Heap} {w:World}
def A3 (cells:Array Value) (o:Nat) (vals:List Value):Array Value:=(cells.toList.take o++vals++cells.toList.drop (o+vals.length)).toArray
theorem DG (cells:Array Value) (o:Nat) (vals:List Value) (hle:o+vals.length≤cells.size):(A3 cells o vals).size=cells.size:=by simp [A3];omega
theorem Bt {α:Type} (l:List α) (j:Nat) (d:α):l.toArray.getD j d=l.getD j d:=by simp [Array.getD,List.getD];split<;>simp_all
theorem Bq (cells:Array Value) (o:Nat) (vals:List Value) (hle:o+vals.length≤cells.size) (j:Nat) :
  (A3 cells o vals).getD j undef=if o≤j∧j<o+vals.length then vals.getD (j-o) undef else cells.getD j undef:=by
 unfold A3;rw [Bt];have hl:(cells.toList.take o).length=o:=by simp;omega
 simp only [List.getD];by_cases h1:j<o
 ·rw [zH,zL (by omega),zT h1,if_neg (by omega)];have:j<cells.size:=by omega
  simp [Array.getD,this]
 ·by_cases h2:j<o+vals.length
  ·rw [zL (by simp;omega),zM (by omega),hl,if_pos ⟨by omega,h2⟩]
  ·rw [zM (by simp;omega),if_neg (by omega),zN];have:(cells.toList.take o++vals).length=o+vals.length:=by simp;omega
   rw [this,show o+vals.length+(j-(o+vals.length))=j from by omega];by_cases h3:j<cells.size
   ·simp [Array.getD,h3]
   ·simp [Array.getD,h3]
theorem PS.cell {z b o:Nat} {cells:Array Value} {el:TypeId} {fr:Nat×Nat} (ht:PS z cells.size fr) (hb:w.heap[b]? = some (.cells cells el fr)) (ho:o<cells.size):w.frozen? ⟨b,o,none⟩=false:=by
 obtain ⟨lo,hi⟩:=fr;rcases ht with h|⟨_,h⟩
 ·cases h;simp [World.frozen?,hb]
 ·simp only [World.frozen?,hb,Bool.and_eq_false_iff,decide_eq_false_iff_not];left;simp only at h;omega
theorem B4 (P:Program) (g o z:Nat) (t:TypeId) (fr:Nat×Nat):∀(vs:List Value) (i:Nat) (cur:Array Value) (w:World),w.heap[g]? = some (.cells cur t fr)→PS z cur.size fr→o+i+vs.length≤cur.size→(∀v∈vs,v.oneCell'=true)→
  (storeCells ⟨g,o,none⟩ vs i).run P w = .ok () (w.setRow g (cur.toList.take (o+i)++vs++cur.toList.drop (o+i+vs.length)).toArray)
 |[],i,cur,w,hg,_,_,_=>by simp only [storeCells,append_nil,zV,yD,take_append_drop,toArray_toList];rw [setRow_self w g cur t fr hg];rfl
 |v::rest,i,cur,w,hg,ht,hl,h1=>by
  have hi:o+i<cur.size:=by simp at hl;omega
  have hadd:(⟨g,o,none⟩:Addr).add i=⟨g,o+i,none⟩:=by unfold Addr.add;split<;>simp_all
  have hcell:w.cell? ⟨g,o+i,none⟩=some cur[o+i]:=by simp [World.cell?,hg,hi]
  have hfro:w.frozen? ⟨g,o+i,none⟩=false:=ht.cell hg hi;have hst:(store ((⟨g,o,none⟩:Addr).add i) v).run P w = .ok () (w.setRow g (cur.setIfInBounds (o+i) v)):=by rw [hadd,run_store P w _ v _ (h1 v (by simp)),hcell];simp [hfro,setCell_eq_setRow w g (o+i) cur t fr v hg]
  have ih:=B4 P g o z t fr rest (i+1) (cur.setIfInBounds (o+i) v) (w.setRow g (cur.setIfInBounds (o+i) v)) (setRow_heap w g cur _ t _ hg) (by simpa using ht) (by simp at hl ⊢;omega) (fun x hx=>h1 x (by simp [hx]));simp only [storeCells,Sem.run_bind,hst,Result.andThen_ok,ih,setRow_setRow];congr 3;have e:=list_seg_step cur.toList (o+i) v rest (by simp at hl ⊢;omega);simpa [Array.toList_setIfInBounds,yA] using e
theorem KI {t:TypeId} {n:Nat} (hn:B6 P t=some n) {b o:Nat} {cells:Array Value} {elem:TypeId} {fr:Nat×Nat} {z:Nat} (hb:w.heap[b]? = some (.cells cells elem fr)) (hth:PS z cells.size fr) {val:Value} (hv:val.cells.size=n)
  (hle:o+n≤cells.size) (h1:∀v∈val.cells.toList,v.oneCell'=true) :
  (Instr.storeAt t (.pointer (some ⟨b,o,none⟩)) val).run P w = .ok () (w.setRow b (A3 cells o val.cells.toList)):=by
 have hst:=B4 P b o z elem fr val.cells.toList 0 cells w hb hth (by simp [hv];omega) h1;simp only [Instr.storeAt,Instr.sureAddr,storeVar,Sem.run_bind,Sem.run_pure,Result.andThen_ok,Bk hn,Sem.run_ite];rw [if_neg (by simp [hv])];simp only [hst,yD];rfl
theorem setRow_other (w:World) (g:Nat) (cs:Array Value) {b:Nat} (hb:b≠g):(w.setRow g cs).heap[b]? = w.heap[b]? :=by simp [World.setRow,Array.getElem?_modify,Ne.symm hb]
theorem setRow_size (w:World) (g:Nat) (cs:Array Value):(w.setRow g cs).heap.size=w.heap.size:=by simp [World.setRow]
theorem RV {vs:List AV} {vals:List Value} (hl:vs.all AV.leaf=true) (hlen:vals.length=vs.length) (hv:∀(j:Nat) (x:AV) (v:Value),vs[j]? = some x→vals[j]? = some v→AO B κ h w x v) :
  ∀v∈vals,v.oneCell'=true:=by
 intro v hm;obtain ⟨j,hj,rfl⟩:=zU hm;have hj':j<vs.length:=by omega
 refine Sl ?_ (hv j vs[j] vals[j] (zO hj') (zO hj));exact (all_eq_true.1 hl) _ (getElem_mem hj')
theorem CE {cs:List AV} {arr:Array Value} (hc:AY B κ h w cs arr) (j:Nat) (x:AV) (v:Value) (hx:cs[j]? = some x) (hv:arr.toList[j]? = some v):AO B κ h w x v:=by have h1:=hc.2 j x hx;rwa [F9 arr.toList j undef hv] at h1
theorem LV (hh:Ap B κ h w):∀{os vs:List AV} {K:List AV→Option R} {r:R},DX h os vs K=some r→(∀(j:Nat) (o:AV),os[j]? = some o→∃v,AO B κ h w o v)→
  ∀{arr:List Value},(∀(j:Nat) (x:AV) (v:Value),vs[j]? = some x→arr[j]? = some v→AO B κ h w x v)→∃vs',K vs'=some r∧vs'.length=vs.length∧∀(j:Nat) (x:AV) (v:Value),vs'[j]? = some x→arr[j]? = some v→AO B κ h w x v
 |os,[],K,r,hr,_,arr,hv=>⟨[],by cases os<;>simpa [DX] using hr,rfl,hv⟩
 |[],v::vs,K,r,hr,_,arr,hv=>⟨v::vs,by simpa [DX] using hr,rfl,hv⟩
 |o::os,v::vs,K,r,hr,ho,arr,hv=>by
  have hos:∀(j:Nat) (x:AV),os[j]? = some x→∃v,AO B κ h w x v:=fun j x hx=>ho (j+1) x (by simpa using hx);have plain:(DX h os vs fun vs'=>K (v::vs'))=some r→∃vs',K vs'=some r∧vs'.length=(v::vs).length∧∀(j:Nat) (x:AV) (u:Value),vs'[j]? = some x→arr[j]? = some u→AO B κ h w x u:=fun hr=>by
   obtain ⟨vs',h1,h2,h3⟩:=LV hh hr hos (arr:=arr.tail) fun j x u hx hu=>hv (j+1) x u (by simpa using hx) (by cases arr<;>simp at hu ⊢;exact hu);refine ⟨v::vs',h1,by simp [h2],fun j x u hx hu => ?_⟩;cases j with
   |zero=>exact hv 0 x u (by simpa using hx) hu
   |succ j=>exact h3 j x u (by simpa using hx) (by cases arr<;>simp at hu ⊢;exact hu)
  unfold DX at hr;split at hr
  ·rename_i i ver off len;split at hr
   ·rename_i f ver' size es hi
    try simp only [AB] at hr
    obtain ⟨rfl,hr⟩:=AD hr;obtain ⟨vs',h1,h2,h3⟩:=LV hh hr hos (arr:=arr.tail) fun j x u hx hu=>hv (j+1) x u (by simpa using hx) (by cases arr<;>simp at hu ⊢;exact hu);refine ⟨_,h1,by simp [h2],fun j x u hx hu => ?_⟩;cases j with
    |zero=>
     simp at hx;subst hx;have hn:AO B κ h w .nilsl u:=hv 0 .nilsl u rfl hu;obtain ⟨v0,hv0⟩:=ho 0 _ rfl;cases hn with
     |nilsl a0=>
      cases hv0 with
      |sref _ _ _ _ _ _ hex hsr=>
       refine .sref _ _ _ _ _ rfl hex fun k o hk ho' he => ?_;have:=hsr k o hk ho' he;rw [hi] at ho';cases ho';exact ⟨this.1,by simp [AF.len],.inl ⟨rfl,by simp [AF.len],⟨_,rfl⟩⟩⟩
    |succ j=>exact h3 j x u (by simpa using hx) (by cases arr<;>simp at hu ⊢;exact hu)
   ·exact plain hr
  ·exact plain hr
theorem QT {t:TypeId} {a v:AV} {K:Heap→Option R} {r:R} (hr:GB P t h a v K=some r) (hh:Ap B κ h w) {va vv:Value} (ha:AO B κ h w a va) (hv:AO B κ h w v vv) :
  ∃h' κ' w',K h'=some r∧(Instr.storeAt t va vv).run P w = .ok () w'∧Ap B κ' h' w'∧Ext κ h w κ' h' w':=by
 unfold GB at hr
 try simp only [AB] at hr
 split at hr
 ·rename_i vs n hvs hn;obtain ⟨⟨hlen,hleaf⟩,hr1⟩:=AD hr;clear hr;have hc:=IP hvs hv;have hone:=RV hleaf (by simp [hc.1]) (CE hc);split at hr1
  ·rename_i i off;split at hr1
   ·rename_i cs hi;obtain ⟨hle,hr2⟩:=AD hr1;have hold:∀(j:Nat) (o:AV),(cs.drop off)[j]? = some o→∃v,AO B κ h w o v:=fun j o ho=>by
     cases ha with
     |ptr _ _ b base hk _=>
      obtain ⟨_,cells0,elem0,_,_,hcv0⟩:=hh.obj i _ _ hi hk;exact ⟨_,hcv0 (off+j) o (by rw [zN] at ho;exact ho)⟩
    obtain ⟨vs1,hr3,hl1,hv1⟩:=LV (arr:=vv.cells.toList) hh hr2 hold (CE hc);obtain ⟨vs',g,κ1,hK,hh1,x1,hl',hv',_⟩:=Im (arr:=vv.cells.toList) hr3 hh (by simp [hc.1,hl1]) hv1;rw [hl1] at hl';have hi1:(h++g)[i]? = some (.box cs):=by rw [zL (List.getElem?_eq_some_iff.1 hi).1];exact hi
    cases ha with
    |ptr _ _ b base hk _=>
     obtain ⟨o',ho',_⟩:=x1.obj i _ hi;have hk1:κ1[i]? = some (some (b,base)):=(x1.kap i _ _ hi hi1 rfl).trans hk;obtain ⟨hb0,cells,elem,hcell,hs,hcv⟩:=hh1.obj i _ _ hi1 hk1;subst hb0;have hvl:vv.cells.toList.length=n:=by simp [hc.1,hlen]
     have hrun:=KI (P:=P) (o:=0+off) (z:=0) hn hcell (.inl rfl) (val:=vv) (by simpa using hvl) (by omega) hone;have hsz:=DG cells (0+off) vv.cells.toList (by omega);have hnew:=setRow_heap w b cells (A3 cells (0+off) vv.cells.toList) elem _ hcell;obtain ⟨s1,s2⟩:=Ge cs vs' off (by omega);have x2:Ext κ1 (h++g) w (κ1.set i (some (b,0))) ((h++g).set i (.box (setAt cs off vs'))) (w.setRow b (A3 cells (0+off) vv.cells.toList)):=by refine DH (o' :=.box (setAt cs off vs')) (k':=some (b,0)) (w':=w.setRow b (A3 cells (0+off) vv.cells.toList)) hh1 hi1 rfl ⟨rfl,yE _,(fun _=>⟨rfl,by simp [AF.len,s1]⟩),(fun e=>by cases e),(fun _=>by simp [AF.len,s1]),rfl⟩ hk1 rfl rfl rfl (by rw [setRow_size];exact yE _) (fun b' _ hb'=>setRow_other w b _ fun e=>hb' 0 (by rw [e])) (fun b' base' e=>by injection e with e;injection e with e1 e2;subst e1;exact .inl ⟨0,rfl⟩) (fun _=>⟨rfl,fun b' base' e cells' elem' fr' hc' => ?_⟩);cases e;rw [hnew] at hc';cases hc';exact ⟨cells,hcell,hsz.symm⟩
     refine ⟨_,_,_,hK,hrun,CZ hh1 hi1 hk1 (fun b' _ hb'=>setRow_other w b _ fun e=>hb' 0 (by rw [e])) (fun b' base' e=>by injection e with e;injection e with e1 e2;subst e1;exact ⟨.inl ⟨0,rfl⟩,by rw [setRow_size];exact hh1.lt i b 0 hk1⟩) x2 ?_,x1.trans x2⟩;refine ⟨rfl,_,elem,hnew,by rw [hsz,s1,hs],fun j x hx => ?_⟩;rw [s2 j] at hx;rw [Bq cells _ _ (by omega)];by_cases hj:off≤j∧j<off+vs'.length
     ·rw [if_pos hj] at hx;rw [if_pos ⟨by omega,by omega⟩];have hjl:j-off<vv.cells.toList.length:=by omega
      refine (hv' (j-off) x _ hx ?_).ext x2;rw [yN];exact Bs _ _ _ hjl
     ·rw [if_neg hj] at hx;rw [if_neg (by omega)];exact (hcv j x hx).ext x2
   ·cases hr1
  ·rename_i i ver k off;split at hr1
   ·rename_i ver' size es hi;obtain ⟨⟨rfl,hle⟩,hr2⟩:=AD hr1;clear hr1;obtain ⟨e,he,hr3⟩:=bind_some hr2;obtain ⟨ys,hK,hyl,_,hyt⟩:=DS (vs:=vv.cells.toList) hr3 hh (by simp [hc.1]) (CE hc);cases ha with
    |rptr _ _ _ _ _ _ hex hv2=>
     obtain ⟨b,base,hk,rfl,_,_⟩:=hv2 _ hi rfl;obtain ⟨hz0,cells,elem,fr,hcell,hth,hs,hls,hcv⟩:=hh.obj i _ _ hi hk;have hkl:k<es.length:=(List.getElem?_eq_some_iff.1 he).1;have hmul:k*size+size≤es.length*size:=by rw [← yM];exact yJ _ hkl
     have hvl:vv.cells.toList.length=n:=by simp [hc.1,hlen]
     have hel:=hls k e he;simp only [AF.size];have hrun:=KI (P:=P) (o:=base+(k*size+off)) hn hcell hth (val:=vv) (by simpa using hvl) (by omega) hone;have hsz:=DG cells (base+(k*size+off)) vv.cells.toList (by omega);have hnew:=setRow_heap w b cells (A3 cells (base+(k*size+off)) vv.cells.toList) elem _ hcell;have hset:(κ.set i (some (b,base)))=κ:=by
      apply zJ;intro j;by_cases hij:j=i
      ·rw [hij,A5 hk,hk]
      ·rw [DI hij]
     have x2:Ext κ h w κ (h.set i (.row false ver' size (es.set k (e.take off++(ys++e.drop (off+n)))))) (w.setRow b (A3 cells (base+(k*size+off)) vv.cells.toList)):=by
      have x2':Ext κ h w (κ.set i (some (b,base))) (h.set i (.row false ver' size (es.set k (e.take off++(ys++e.drop (off+n)))))) (w.setRow b (A3 cells (base+(k*size+off)) vv.cells.toList)):=by refine DH (o' :=.row false ver' size (es.set k (e.take off++(ys++e.drop (off+n))))) (k':=some (b,base)) (w':=w.setRow b (A3 cells (base+(k*size+off)) vv.cells.toList)) hh hi rfl ⟨rfl,yE _,(fun _=>⟨rfl,by simp [AF.len]⟩),(fun e=>by cases e),(fun e=>by cases e),rfl⟩ hk rfl rfl rfl (by rw [setRow_size];exact yE _) (fun b' _ hb'=>setRow_other w b _ fun e=>hb' base (by rw [e])) (fun b' base' e=>by injection e with e;injection e with e1 e2;subst e1;exact .inl ⟨base,rfl⟩) (fun _=>⟨rfl,fun b' base' e cells' elem' fr' hc' => ?_⟩);cases e;rw [hnew] at hc';cases hc';exact ⟨cells,hcell,hsz.symm⟩
      rw [hset] at x2';exact x2'
     have hh2:Ap B (κ.set i (some (b,base))) (h.set i (.row false ver' size (es.set k (e.take off++(ys++e.drop (off+n)))))) (w.setRow b (A3 cells (base+(k*size+off)) vv.cells.toList)):=by
      refine CZ hh hi hk (fun b' _ hb'=>setRow_other w b _ fun e=>hb' base (by rw [e])) (fun b' base' e=>by injection e with e;injection e with e1 e2;subst e1;exact ⟨.inl ⟨base,rfl⟩,by rw [setRow_size];exact hh.lt i b base hk⟩) (by rw [hset];exact x2) ?_;rw [hset];have hnl:(e.take off++(ys++e.drop (off+n))).length=size:=by simp;omega
      refine ⟨hz0,_,elem,fr,hnew,by rw [hsz];exact hth,by rw [hsz];simpa using hs,fun j e' he' => ?_,fun j e' c x he' hx => ?_⟩
      ·rcases FD he' with ⟨rfl,_,rfl⟩|⟨_,he'⟩
       ·exact hnl
       ·exact hls j e' he'
      ·rw [Bq cells _ _ (by omega),hvl];rcases FD he' with ⟨rfl,_,rfl⟩|⟨hne,he'⟩
       ·have hcl:c<size:=by rw [← hnl];exact (List.getElem?_eq_some_iff.1 hx).1
        have hyn:ys.length=n:=by omega
        by_cases h1:c<off
        ·rw [zL (by simp;omega),zT h1] at hx;rw [if_neg (by omega)];exact (hcv _ e c x he hx).ext x2
        ·rw [zM (by simp;omega)] at hx;have hlt:(e.take off).length=off:=by simp;omega
         rw [hlt] at hx;by_cases h2:c<off+n
         ·rw [zL (by omega)] at hx;rw [if_pos ⟨by omega,by omega⟩,show base+(j*size+c)-(base+(j*size+off))=c-off from by omega];have h3:=hyt (c-off) x (vv.cells.toList.getD (c-off) undef) hx (Bs _ _ _ (by omega));exact Bv.ext x2 (h3.less fun b hb=>hb.imp id fun e=>⟨rfl,e⟩)
         ·rw [zM (by omega),zN,hyn,show off+n+(c-off-n)=c from by omega] at hx;rw [if_neg (by omega)];exact (hcv _ e c x he hx).ext x2
       ·have hcl:c<size:=by rw [← hls j e' he'];exact (List.getElem?_eq_some_iff.1 hx).1
        rw [if_neg ?_]
        ·exact (hcv j e' c x he' hx).ext x2
        ·rintro ⟨h1,h2⟩
         rcases Nat.lt_or_gt_of_ne hne with hlt|hgt
         ·have:=yJ size (show j+1≤k from hlt);rw [yM] at this;omega
         ·have:=yJ size (show k+1≤j from hgt);rw [yM] at this;omega
     rw [hset] at hh2;exact ⟨_,_,_,hK,hrun,hh2,x2⟩
   ·cases hr1
  ·cases hr1
 ·cases hr
theorem Ob {t:TypeId} {s:Nat} (hs:Oc P t=some s):∃e i z,P.underlying t=some (.slice e)∧P.info? e=some i∧i.zero=some z∧i.size=s∧s≠0∧z.cells.size=s∧i.bytes≤65536:=by
 unfold Oc at hs;split at hs
 ·rename_i e hu;split at hs
  ·rename_i i hi;split at hs
   ·rename_i z hz;obtain ⟨⟨h1,h2,h3⟩,h4⟩:=AD hs;cases h4;exact ⟨e,i,z,hu,hi,hz,rfl,h1,h2,h3⟩
   ·cases hs
  ·cases hs
 ·cases hs
theorem Ka {A:Nat→Prop} {z:Nat} (hz:z≠0) {new:List (List Tree)} {v:Value} (hs:Eu w A z new v) (hn:new≠[]) :
  ∃(b o cap:Nat) (news:List Value),v = .slice (some ⟨b,o,none⟩) new.length cap∧news.length=new.length*z∧(∀j u,news[j]? = some u→w.cell? ((⟨b,o,none⟩:Addr).add j)=some u)∧
   (∀u∈news,u.oneCell'=true)∧∀(j:Nat) (e:List Tree) (c:Nat) (x:Tree),new[j]? = some e→e[c]? = some x→Bv w A x (news.getD (j*z+c) undef):=by
 obtain ⟨hl,a,cap,rfl,_,hc⟩:=hs;rcases hc with hc|⟨b,o,rfl,_,hc⟩
 ·exact (hn hc).elim
 ·have key:∀q,q<new.length*z→∃u,w.cell? ⟨b,o+q,none⟩=some u∧u.oneCell'=true:=by
   intro q hq;have h1:q / z<new.length:=Nat.div_lt_of_lt_mul (by rw [mul_comm];exact hq);have he:new[q / z]? = some new[q / z]:=zO h1;have hel:=hl _ _ he;have h2:q % z<(new[q / z]).length:=by rw [hel];exact yI _ (yL hz)
   obtain ⟨u,hu,ht⟩:=hc _ _ _ _ he (zO h2);refine ⟨u,?_,ht.one⟩;rw [mul_comm,Nat.div_add_mod] at hu;exact hu
  have hget:∀q,q<new.length*z→((List.range (new.length*z)).map fun q=>(w.cell? ⟨b,o+q,none⟩).getD undef)[q]? = some ((w.cell? ⟨b,o+q,none⟩).getD undef):=fun q hq=>by simp [hq]
  refine ⟨b,o,cap,(List.range (new.length*z)).map fun q=>(w.cell? ⟨b,o+q,none⟩).getD undef,rfl,by simp,fun j u hu => ?_,fun u hu => ?_,fun j e c x he hx => ?_⟩
  ·have hj:j<new.length*z:=by simpa using (List.getElem?_eq_some_iff.1 hu).1
   rw [hget j hj] at hu;obtain ⟨u',hu',_⟩:=key j hj;rw [hu'] at hu;simp at hu;subst hu;rw [Ep];exact hu'
  ·simp only [mem_map,mem_range] at hu;obtain ⟨q,hq,rfl⟩:=hu;obtain ⟨u',hu',h1⟩:=key q hq;rw [hu'];exact h1
  ·have hj:j<new.length:=(List.getElem?_eq_some_iff.1 he).1;have hcl:c<z:=by rw [← hl j e he];exact (List.getElem?_eq_some_iff.1 hx).1
   have hq:j*z+c<new.length*z:=by have:=yJ z (show j+1≤new.length from hj);rw [yM] at this;omega
   obtain ⟨u,hu,ht⟩:=hc j e c x he hx;have:=hget _ hq;simp only [List.getD,this,Option.getD_some,hu];exact ht
theorem run_append_nil' (base:Option Addr) (w:World) (t ty e:TypeId) (i:TypeInfo) (z:Value) (ht:P.underlying t=some (.slice e)) (hi:P.info? e=some i) (hz:i.zero=some z)
  (a:Addr) (n c:Nat) (news:List Value) (hl:news.length=n*i.size) (hnews:∀j v,news[j]? = some v→w.cell? (a.add j)=some v)
  (h0:0<n) (h63:(n:Int)≤9223372036854775807) (h48:n*i.bytes≤281474976710656) :
  (Builtin.append_ #[t,t] ty #[.slice base 0 0,.slice (some a) n c]).run P w =
   .ok (.slice (some ⟨w.heap.size,0,none⟩) n (grownCap w n 0 e)) (w.drew.alloc (.cells (news.toArray++Builtin.zeroCells z.cells (grownCap w n 0 e-n)) e)):=by
 cases base with
 |none=>exact run_append_nil (P:=P) w t ty e i z ht hi hz a n c news hl hnews h0 h63 h48
 |some a0=>
  have hn:n≠0:=by omega
  have h63':¬(9223372036854775807<(n:Int)):=by omega
  have h48':¬(281474976710656<Builtin.nextslicecap n 0*i.bytes):=by rw [nextslicecap_zero h0];omega
  have hf:=run_firstCells_some (P:=P) w.drew i.size n a n c news hl (by simpa using hnews);have hf0:=run_firstCells_some (P:=P) w.drew i.size 0 a0 0 0 [] (by simp) (by simp);simp [Builtin.append_,run_underlying ht,Go.sizeOf,typeInfo,zeroValue,hi,hz,Builtin.lenOf,hn,h63',h48',Question.forced,hf0,hf,newRow,grownCap]
theorem FV {t ty e:TypeId} {i:TypeInfo} (hu:P.underlying t=some (.slice e)) (hi:P.info? e=some i) (base:Option Addr) (Ak sCap:Nat) (a:Option Addr) (c:Nat) (hle:Ak≤sCap) :
  (Builtin.append_ #[t,t] ty #[.slice base Ak sCap,.slice a 0 c]).run P w = .ok (.slice base Ak sCap) w:=by
 cases a with
 |none=>cases base<;>simp [Builtin.append_,run_underlying hu,Go.sizeOf,typeInfo,hi,Builtin.lenOf,hle,Builtin.firstCells,storeCells]
 |some a=>cases base<;>simp [Builtin.append_,run_underlying hu,Go.sizeOf,typeInfo,hi,Builtin.lenOf,hle,Builtin.firstCells,loadCells,loadCellsFrom,storeCells]
theorem run_append_room' {t ty e:TypeId} {i:TypeInfo} (ht:P.underlying t=some (.slice e)) (hi:P.info? e=some i)
  {g o Ak sCap zt:Nat} {cur:Array Value} {el:TypeId} {fr:Nat×Nat} (hg:w.heap[g]? = some (.cells cur el fr)) (hth:PS zt cur.size fr)
  {a:Addr} {m c:Nat} {news:List Value} (hl:news.length=m*i.size) (hnews:∀j u,news[j]? = some u→w.cell? (a.add j)=some u) (h1:∀u∈news,u.oneCell'=true)
  (hroom:Ak+m≤sCap) (hfit:o+Ak*i.size+news.length≤cur.size) :
  (Builtin.append_ #[t,t] ty #[.slice (some ⟨g,o,none⟩) Ak sCap,.slice (some a) m c]).run P w =
   .ok (.slice (some ⟨g,o,none⟩) (Ak+m) sCap) (w.setRow g (A3 cur (o+Ak*i.size) news)):=by
 have hf:=run_firstCells_some (P:=P) w i.size m a m c news hl hnews;have hst:=B4 P g (o+Ak*i.size) zt el fr news 0 cur w hg hth (by simpa using hfit) h1;simp only [yD] at hst;simp [Builtin.append_,run_underlying ht,Go.sizeOf,typeInfo,hi,Builtin.lenOf,hroom,hf,Ep,hst,A3]
theorem CY {κ':BG} {h':Heap} {w':World} {i ver z b base cap n:Nat} {L:List (List Tree)} {cells:Array Value} {el:TypeId} {fr:Nat×Nat} (hk:κ'[i]? = some (some (b,base))) (hi:h'[i]? = some (.row false ver z L))
  (hc:w'.heap[b]? = some (.cells cells el fr)) (hcap:base+cap*z≤cells.size) (hn:L.length=n) (hle:n≤cap):AO B κ' h' w' (.sref i ver 0 n) (.slice (some ⟨b,base,none⟩) n cap):=by
 refine .sref _ _ _ _ _ rfl ⟨_,hi,yE _⟩ fun k o hk' ho' _ => ?_;rw [hk] at hk';cases hk';rw [hi] at ho';cases ho';refine ⟨rfl,by simp only [AF.len];omega,.inr ⟨b,base,rfl,cap,by simp,by simp only [AF.len];omega,fun cells' elem' fr' hc' => ?_⟩⟩;rw [hc] at hc';cases hc';simpa [AF.size] using hcap
theorem Cc {κ':BG} {h':Heap} {w':World} {i ver z:Nat} {a0:Option Addr} (hk:κ'[i]? = some none) (hi:h'[i]? = some (.row false ver z [])):AO B κ' h' w' (.sref i ver 0 0) (.slice a0 0 0):=by refine .sref _ _ _ _ _ rfl ⟨_,hi,yE _⟩ fun k o hk' ho' _ => ?_;rw [hk] at hk';cases hk';rw [hi] at ho';cases ho';exact ⟨rfl,by simp [AF.len],.inl ⟨rfl,by simp [AF.len],⟨_,rfl⟩⟩⟩
def BZ (w:World) (A:Nat→Prop) (z:Nat) (L:List (List Tree)) (vals:Nat→Value):Prop:=
 (∀(j:Nat) (e:List Tree),L[j]? = some e→e.length=z)∧∀(j:Nat) (e:List Tree) (c:Nat) (x:Tree),L[j]? = some e→e[c]? = some x→Bv w A x (vals (j*z+c))
theorem EH {A:Nat→Prop} {z:Nat} {L M:List (List Tree)} {f g:Nat→Value} (hL:BZ w A z L f) (hM:BZ w A z M fun q=>g (L.length*z+q)) (hfg:∀q,q<L.length*z→g q=f q):BZ w A z (L++M) g:=by
 refine ⟨fun j e he => ?_,fun j e c x he hx => ?_⟩
 ·rcases yH j L.length with h1|h1
  ·rw [zL h1] at he;exact hL.1 j e he
  ·rw [zM h1] at he;exact hM.1 _ e he
 ·rcases yH j L.length with h1|h1
  ·rw [zL h1] at he;have hcl:c<z:=by rw [← hL.1 j e he];exact (List.getElem?_eq_some_iff.1 hx).1
   have:=yJ z (show j+1≤L.length from h1);rw [yM] at this;rw [hfg _ (by omega)];exact hL.2 j e c x he hx
  ·rw [zM h1] at he;have:=hM.2 _ e c x he hx;rw [show j*z+c=L.length*z+((j-L.length)*z+c) from by rw [← yA,← yC,Nat.add_sub_cancel' h1]];exact this
theorem Dv {κ':BG} {h':Heap} {w':World} (x:Ext κ h w κ' h' w') {z:Nat} {L:List (List Tree)} {f:Nat→Value} (hL:BZ w (fun b=>B b∨Ex κ h b) z L f):BZ w' (fun b=>B b∨Ex κ' h' b) z L f:=
 ⟨hL.1,fun j e c y he hy=>(hL.2 j e c y he hy).ext x⟩
theorem Cd {κ':BG} {h':Heap} {w':World} {b base z ver:Nat} {L:List (List Tree)} {cells:Array Value} {el:TypeId} {fz:Bool} {fr:Nat×Nat} (hz:z≠0) (hc:w'.heap[b]? = some (.cells cells el fr)) (hth:PS z cells.size fr) (hs:base+L.length*z≤cells.size)
  (hL:BZ w' (fun b=>B b∨Ex κ' h' b) z L fun q=>cells.getD (base+q) undef):HI B κ' h' w' (some (b,base)) (.row fz ver z L):=
 ⟨hz,cells,el,fr,hc,hth,hs,hL.1,hL.2⟩
theorem P0 (olds news:List Value) (Z:Array Value):olds.toArray++news.toArray++Z=(olds++(news++Z.toList)).toArray:=by apply Array.ext';simp
theorem Wx (olds news:List Value) (Z:Array Value) (q:Nat) (hq:q<olds.length):(olds.toArray++news.toArray++Z).getD q undef=olds.getD q undef:=by rw [P0,Bt];simp only [List.getD];rw [zL hq]
theorem Lf (olds news:List Value) (Z:Array Value) (q:Nat) (hq:q<news.length):(olds.toArray++news.toArray++Z).getD (olds.length+q) undef=news.getD q undef:=by rw [P0,Bt];simp only [List.getD];rw [zM (by omega),Nat.add_sub_cancel_left,zL hq]
theorem IN (hh:Ap B κ h w):Ext κ h w κ h w.drew:=OJ hh rfl rfl rfl (yE _) fun _ _=>rfl
structure aU (P:Program) (w:World) (A:Nat→Prop) (t t' e:TypeId) (i:TypeInfo) (zv:Value) (new:List (List Tree)) (vx:Value):Prop where
 sz:∀(j:Nat) (c:List Tree),new[j]? = some c→c.length=i.size
 nul:new=[]→∀ty base Ak sCap,Ak≤sCap→(Builtin.append_ #[t,t'] ty #[.slice base Ak sCap,vx]).run P w = .ok (.slice base Ak sCap) w
 get:new≠[]→∃news:List Value,news.length=new.length*i.size∧(∀u∈news,u.oneCell'=true)∧
  (∀(j:Nat) (c:List Tree) (k:Nat) (x:Tree),new[j]? = some c→c[k]? = some x→Bv w A x (news.getD (j*i.size+k) undef))∧
  (∀ty base,(new.length:Int)≤9223372036854775807→new.length*i.bytes≤281474976710656→(Builtin.append_ #[t,t'] ty #[.slice base 0 0,vx]).run P w =
   .ok (.slice (some ⟨w.heap.size,0,none⟩) new.length (grownCap w new.length 0 e)) (w.drew.alloc (.cells (news.toArray++Builtin.zeroCells zv.cells (grownCap w new.length 0 e-new.length)) e)))∧
  (∀ty g o Ak sCap zt cur el fr,w.heap[g]? = some (.cells cur el fr)→PS zt cur.size fr→Ak+new.length≤sCap→o+Ak*i.size+news.length≤cur.size→
   (Builtin.append_ #[t,t'] ty #[.slice (some ⟨g,o,Option.none⟩) Ak sCap,vx]).run P w = .ok (.slice (some ⟨g,o,Option.none⟩) (Ak+new.length) sCap) (w.setRow g (A3 cur (o+Ak*i.size) news)))∧
  (∀ty (b:Addr) Ak sCap (olds:List Value),olds.length=Ak*i.size→(∀j v,olds[j]? = some v→w.cell? (b.add j)=some v)→sCap<Ak+new.length→((Ak+new.length:Nat):Int)≤9223372036854775807→
   Builtin.nextslicecap (Ak+new.length) sCap*i.bytes≤281474976710656→(Builtin.append_ #[t,t'] ty #[.slice (some b) Ak sCap,vx]).run P w =
   .ok (.slice (some ⟨w.heap.size,0,Option.none⟩) (Ak+new.length) (grownCap w (Ak+new.length) sCap e)) (w.drew.alloc (.cells (olds.toArray++news.toArray++Builtin.zeroCells zv.cells (grownCap w (Ak+new.length) sCap e-(Ak+new.length))) e)))
theorem ZR {t t':TypeId} (h:IW P t t'=true):t'=t∨P.underlying t'=some .string:=by
 unfold IW at h;by_cases e:t'=t
 ·exact .inl e
 ·right;have:(t'==t)=false:=by simpa using e
  rw [this,Bool.false_or] at h;split at h
  ·assumption
  ·cases h
theorem Dz {t t' ty e:TypeId} (hu:P.underlying t=some (.slice e)) (ht:IW P t t'=true) (args:Array Value):(Builtin.append_ #[t,t'] ty args).run P w=(Builtin.append_ #[t,t] ty args).run P w:=by
 rcases ZR ht with rfl|hs
 ·rfl
 ·cases h0:args[0]? with
  |none=>simp [Builtin.append_,h0]
  |some s=>
   cases h1:args[1]? with
   |none=>simp [Builtin.append_,h0,h1]
   |some x=>
    simp only [Builtin.append_,h0,h1];cases s<;>simp [run_underlying hu,run_underlying hs]
theorem aU.Ya {A:Nat→Prop} {t t' e:TypeId} {i:TypeInfo} {zv:Value} {new:List (List Tree)} {vx:Value} (hu:P.underlying t=some (.slice e)) (hi:P.info? e=some i) (hzv:i.zero=some zv) (hz0:i.size≠0) (ht:IW P t t'=true) (hsl:Eu w A i.size new vx):aU P w A t t' e i zv new vx where
 sz:=hsl.1
 nul hn ty base Ak sCap hle:=by subst hn;obtain ⟨_,a,cap,rfl,_,_⟩:=hsl;rw [Dz hu ht];exact FV (P:=P) (w:=w) (ty:=ty) hu hi base Ak sCap a cap hle
 get hn:=by
  obtain ⟨b,o,cap,news,rfl,hnl,hnc,hn1,hnt⟩:=Ka hz0 hsl hn;have hpos:0<new.length:=zW.2 hn;refine ⟨news,hnl,hn1,hnt,fun ty base h63 h48 => ?_,fun ty g o' Ak sCap zt cur el fr hg hth hroom hfit => ?_,fun ty b' Ak sCap olds hlo holds hg h63 hfit => ?_⟩
  ·rw [Dz hu ht];exact run_append_nil' (P:=P) base w t ty e i zv hu hi hzv ⟨b,o,Option.none⟩ new.length cap news hnl hnc hpos h63 h48
  ·rw [Dz hu ht];exact run_append_room' (P:=P) (ty:=ty) (w:=w) (c:=cap) hu hi hg hth hnl hnc hn1 hroom hfit
  ·rw [Dz hu ht];exact run_append_grow (P:=P) w t ty e i zv hu hi hzv b' Ak sCap olds hlo holds ⟨b,o,Option.none⟩ new.length cap news hnl hnc hg h63 hfit
theorem D5 (s:ByteArray):(AZ s).length=s.size:=by unfold AZ;rw [length_map,zC];rfl
theorem NA {A:Nat→Prop} (s:ByteArray) (j:Nat) (c:List Tree) (k:Nat) (x:Tree) (hj:(AZ s)[j]? = some c) (hx:c[k]? = some x):c.length=1∧k=0∧Bv w A x ((Lib.strCells s).getD j undef):=by
 unfold AZ at hj;rw [zQ] at hj;cases hb:s.data.toList[j]? with
 |none=>rw [hb] at hj;cases hj
 |some b=>
  rw [hb] at hj;cases hj;have hc:k=0:=by have:=(List.getElem?_eq_some_iff.1 hx).1;simp at this;omega
  subst hc;cases hx;have:(Lib.strCells s).getD j undef = .int .u8 (b.toNat:Int):=by rw [Lib.strCells,zK,zQ,hb];rfl
  rw [this];exact ⟨rfl,rfl,.int _ _⟩
theorem M9 (s:ByteArray) (j:Nat) (c:List Tree) (hj:(AZ s)[j]? = some c):c.length=1:=by
 unfold AZ at hj;rw [zQ] at hj;cases hb:s.data.toList[j]? with
 |none=>rw [hb] at hj;cases hj
 |some b=>rw [hb] at hj;cases hj;rfl
theorem aU.UI {A:Nat→Prop} {t t' e:TypeId} {i:TypeInfo} {zv:Value} (s:ByteArray) (hu:P.underlying t=some (.slice e)) (hi:P.info? e=some i) (hzv:i.zero=some zv) (hz1:i.size=1) (ht:IW P t t'=true):aU P w A t t' e i zv (AZ s) (.string s) where
 sz j c hj:=by rw [hz1];exact M9 s j c hj
 nul hn ty base Ak sCap hle:=by
  rw [Dz hu ht];have hs:s.size=0:=by rw [← D5,hn];rfl
  have hf:=Lib.run_firstCells_string (P:=P) w 1 s;rw [hs] at hf;have hc:Lib.strCells s=[]:=zI (by rw [Lib.strCells_length];exact hs);rw [hc] at hf;cases base<;>simp [Builtin.append_,run_underlying hu,Go.sizeOf,typeInfo,hi,hz1,Builtin.lenOf,hs,hle,hf,storeCells]
 get hn:=by
  have hl:=D5 s;have hpos:0<s.size:=by rw [← hl];exact zW.2 hn
  refine ⟨Lib.strCells s,by rw [Lib.strCells_length,hl,hz1,Nat.mul_one],Lib.strCells_oneCell s,fun j c k x hj hx => ?_,fun ty base h63 h48 => ?_,fun ty g o' Ak sCap zt cur el fr hg hth hroom hfit => ?_,fun ty b' Ak sCap olds hlo holds hg h63 hfit => ?_⟩
  ·obtain ⟨_,rfl,h3⟩:=NA (w:=w) (A:=A) s j c k x hj hx;rw [hz1,Nat.mul_one,yD];exact h3
  ·rw [Dz hu ht];rw [hl] at h63 h48 ⊢;have hn0:s.size≠0:=by omega
   have h63':¬(9223372036854775807<(s.size:Int)):=by omega
   have h48':¬(281474976710656<Builtin.nextslicecap s.size 0*i.bytes):=by rw [nextslicecap_zero hpos];omega
   have hf:=Lib.run_firstCells_string (P:=P) w.drew i.size s;cases base with
   |none=>simp [Builtin.append_,run_underlying hu,Go.sizeOf,typeInfo,zeroValue,hi,hzv,Builtin.lenOf,hn0,h63',h48',Question.forced,run_firstCells_none,hf,newRow,grownCap]
   |some a0=>
    have hf0:=run_firstCells_some (P:=P) w.drew i.size 0 a0 0 0 [] (by simp) (by simp);simp [Builtin.append_,run_underlying hu,Go.sizeOf,typeInfo,zeroValue,hi,hzv,Builtin.lenOf,hn0,h63',h48',Question.forced,hf0,hf,newRow,grownCap]
  ·rw [Dz hu ht];rw [hl] at hroom ⊢;have hf:=Lib.run_firstCells_string (P:=P) w i.size s;have hst:=B4 P g (o'+Ak*i.size) zt el fr (Lib.strCells s) 0 cur w hg hth (by simpa using hfit) (Lib.strCells_oneCell s);simp only [yD] at hst;simp [Builtin.append_,run_underlying hu,Go.sizeOf,typeInfo,hi,Builtin.lenOf,hroom,hf,Ep,hst,A3]
  ·rw [Dz hu ht];rw [hl] at hg h63 hfit ⊢;have hn':¬(Ak+s.size≤sCap):=by omega
   have h63':¬(9223372036854775807<((Ak:Int)+(s.size:Int))):=by omega
   have h48':¬(281474976710656<Builtin.nextslicecap (Ak+s.size) sCap*i.bytes):=by omega
   have hf:=Lib.run_firstCells_string (P:=P) w.drew i.size s;have hfo:=run_firstCells_some (P:=P) w.drew i.size Ak b' Ak sCap olds hlo (by simpa using holds);simp [Builtin.append_,run_underlying hu,Go.sizeOf,typeInfo,zeroValue,hi,hzv,Builtin.lenOf,hn',h63',h48',Question.forced,hf,hfo,newRow,grownCap];congr 2;apply Array.ext';simp [zH]
theorem WX {t t' e:TypeId} {i:TypeInfo} {zv:Value} {x:AV} {K:List (List Tree)→Option R} {r:R} (hr:JL h i.size x K=some r) (hh:Ap B κ h w) {v:Value} (hv:AO B κ h w x v)
  (hu:P.underlying t=some (.slice e)) (hi:P.info? e=some i) (hzv:i.zero=some zv) (hz0:i.size≠0) (ht:IW P t t'=true):∃es,K es=some r∧aU P w (fun b=>B b∨Ex κ h b) t t' e i zv es v:=by
 unfold JL at hr;simp only [AB] at hr;split at hr
 ·rename_i s;obtain ⟨h1,hK⟩:=AD hr;cases hv with|t _ _ hv=>
  cases hv;exact ⟨_,hK,.UI s hu hi hzv h1 ht⟩
 ·obtain ⟨es,h1,h2⟩:=Kv hr hh hv;exact ⟨es,h1,.Ya hu hi hzv hz0 ht h2⟩
theorem Jw {t t':TypeId} {s x:AV} {K:AV→Heap→Option R} {r:R} (ht:IW P t t'=true) (hr:Er P t h s x K=some r) (hh:Ap B κ h w) {vs vx:Value} (hs:AO B κ h w s vs) (hx:AO B κ h w x vx) (ty:TypeId) :
  ∃v h' κ' val w',K v h'=some r∧(Builtin.append_ #[t,t'] ty #[vs,vx]).run P w = .ok val w'∧AO B κ' h' w' v val∧Ap B κ' h' w'∧Ext κ h w κ' h' w':=by
 unfold Er at hr
 try simp only [AB] at hr
 obtain ⟨z,hz,hr1⟩:=bind_some hr;clear hr;obtain ⟨e,i,zv,hu,hi,hzv,rfl,hz0,hzs,hby⟩:=Ob hz;obtain ⟨new,hr2,hsl⟩:=WX hr1 hh hx hu hi hzv hz0 ht;clear hr1;have hbytes:∀n,n≤1073741824→n*i.bytes≤140737488355328:=fun n hn=>yF (Nat.mul_le_mul hn hby) (by omega);split at hr2
 ·obtain ⟨hle,hK⟩:=AD hr2;cases hs with|nilsl a0=>
  by_cases hn:new=[]
  ·subst hn;have hrun:=hsl.nul rfl ty a0 0 0 (yE _);have x1:Ext κ h w (κ++[none]) (h++[.row false 0 i.size []]) w:=B9 hh rfl rfl rfl (yE _) (fun _ _=>rfl) (fun b base e=>by cases e);have hh1:=Bj hh (fun _ _=>rfl) x1 (fun b base e=>by cases e) (show HI B (κ++[none]) (h++[.row false 0 i.size []]) w none (.row false 0 i.size []) from rfl);exact ⟨_,_,_,_,_,hK,hrun,Cc (by rw [← hh.len];exact Ao κ _) (Ao h _),hh1,x1⟩
  ·obtain ⟨news,hnl,hn1,hnt,hrn,_,_⟩:=hsl.get hn;have hpos:0<new.length:=zW.2 hn;have hrun:=hrn ty a0 (by omega) (by have:=hbytes _ hle;omega);have h5:∀b',b'<w.heap.size→(w.drew.alloc (.cells (news.toArray++Builtin.zeroCells zv.cells (grownCap w new.length 0 e-new.length)) e)).heap[b']? = w.heap[b']? :=fun b' hb'=>Av w.drew _ hb';have x1:Ext κ h w (κ++[some (w.heap.size,0)]) (h++[.row false 0 i.size new]) (w.drew.alloc (.cells (news.toArray++Builtin.zeroCells zv.cells (grownCap w new.length 0 e-new.length)) e)):=
    B9 (w':=w.drew.alloc _) hh rfl rfl rfl (by simp) h5 fun b base e=>by injection e with e;injection e with e;omega
   have hge:=grownCap_ge w new.length 0 e;have hnew:=Ba w.drew (.cells (news.toArray++Builtin.zeroCells zv.cells (grownCap w new.length 0 e-new.length)) e);have hcap:0+grownCap w new.length 0 e*i.size≤(news.toArray++Builtin.zeroCells zv.cells (grownCap w new.length 0 e-new.length)).size:=by simp only [zD,zZ,size_zeroCells,hzs,hnl,← yC];rw [yN];exact yJ _ (by omega)
   have hh1:=Bj hh h5 x1 (fun b base e=>by injection e with e;injection e with e;subst e;exact ⟨yE _,by simp⟩)
    (Cd hz0 hnew (.inl rfl) (yF (yB (yJ _ hge) _) hcap) (by
     refine ⟨hsl.sz,fun j e' c y he' hy => ?_⟩;have hjl:j<new.length:=(List.getElem?_eq_some_iff.1 he').1;have hcl:c<i.size:=by rw [← hsl.sz j e' he'];exact (List.getElem?_eq_some_iff.1 hy).1
     have hq:=yJ i.size (show j+1≤new.length from hjl);rw [yM] at hq;have h3:=Lf [] news (Builtin.zeroCells zv.cells (grownCap w new.length 0 e-new.length)) (j*i.size+c) (by omega);simp only [zV,yN,Array.empty_append] at h3 ⊢;rw [h3];exact (hnt j e' c y he' hy).ext x1))
   refine ⟨_,_,_,_,_,hK,hrun,?_,hh1,x1⟩;exact CY (by rw [← hh.len];exact Ao κ _) (Ao h _) hnew hcap rfl hge
 ·rename_i ri ver off len;split at hr2
  ·rename_i ver' size es hri;by_cases hc:new.length=0∧off+len<es.length
   ·rw [if_pos hc] at hr2;obtain ⟨rfl,hK⟩:=AD hr2;have hn:new=[]:=zI hc.1;subst hn;have hs':=hs;cases hs with
    |sref _ _ _ _ _ _ hex hsr=>
     obtain ⟨kk,hkk⟩:=CH hh hri;obtain ⟨_,_,hm⟩:=hsr kk _ hkk hri rfl;have ho:=hh.obj ri _ _ hri hkk;rcases hm with ⟨rfl,hof,a0,rfl⟩|⟨b,base,rfl,cap',rfl,hcap,hcs⟩
     ·simp only [AF.len] at hof;omega
     ·simp only [AF.len] at hcap;exact ⟨_,h,κ,_,w,hK,hsl.nul rfl ty _ _ _ (by omega),hs',hh,Ext.refl _ _ _⟩
   rw [if_neg hc] at hr2;obtain ⟨⟨rfl,hsz,hoff,hle⟩,hK⟩:=AD hr2;clear hr2;cases hs with
   |sref _ _ _ _ _ _ hex hsr=>
    obtain ⟨kk,hkk⟩:=CH hh hri;obtain ⟨_,_,hm⟩:=hsr kk _ hkk hri rfl;have ho:=hh.obj ri _ _ hri hkk;have hOL:∀L,OLe (.row false ver' size es) (.row false (ver'+1) i.size L):=fun L=>⟨rfl,le_succ _,(fun e=>by simp [AF.ver] at e),(fun e=>by cases e),(fun e=>by cases e),rfl⟩
    have hver:∀L,(AF.row false ver' size es).ver=(AF.row false (ver'+1) i.size L).ver→∀{p:Prop},p:=fun L e=>by simp [AF.ver] at e
    rcases hm with ⟨rfl,hof,a0,rfl⟩|⟨b,base,rfl,cap,rfl,hcap',hcs⟩
    ·simp only [yN,take_zero,nil_append] at hK hle;by_cases hn:new=[]
     ·subst hn;have hrun:=hsl.nul rfl ty a0 0 0 (yE _);have x1:Ext κ h w (κ.set ri none) (h.set ri (.row false (ver'+1) i.size [])) w:=
       DH hh hri rfl (hOL []) hkk rfl rfl rfl (yE _) (fun _ _ _=>rfl) (fun b base e=>by cases e) (fun e=>hver [] e)
      have hh1:=CZ hh hri hkk (fun _ _ _=>rfl) (fun b base e=>by cases e) x1 (show HI B (κ.set ri none) (h.set ri (.row false (ver'+1) i.size [])) w none (.row false (ver'+1) i.size []) from rfl);exact ⟨_,_,_,_,_,hK,hrun,Cc (A5 hkk) (A5 hri),hh1,x1⟩
     ·obtain ⟨news,hnl,hn1,hnt,hrn,_,_⟩:=hsl.get hn;have hpos:0<new.length:=zW.2 hn;have hrun:=hrn ty a0 (by omega) (by have:=hbytes _ hle;omega);have h5:∀b',b'<w.heap.size→(w.drew.alloc (.cells (news.toArray++Builtin.zeroCells zv.cells (grownCap w new.length 0 e-new.length)) e)).heap[b']? = w.heap[b']? :=fun b' hb'=>Av w.drew _ hb';have x1:Ext κ h w (κ.set ri (some (w.heap.size,0))) (h.set ri (.row false (ver'+1) i.size new)) (w.drew.alloc (.cells (news.toArray++Builtin.zeroCells zv.cells (grownCap w new.length 0 e-new.length)) e)):=
       DH (w':=w.drew.alloc _) hh hri rfl (hOL new) hkk rfl rfl rfl (by simp) (fun b' hb' _=>h5 b' hb') (fun b base e=>by injection e with e;injection e with e;exact .inr (by omega)) (fun e=>hver new e)
      have hge:=grownCap_ge w new.length 0 e;have hnew:=Ba w.drew (.cells (news.toArray++Builtin.zeroCells zv.cells (grownCap w new.length 0 e-new.length)) e);have hcap:0+grownCap w new.length 0 e*i.size≤(news.toArray++Builtin.zeroCells zv.cells (grownCap w new.length 0 e-new.length)).size:=by simp only [zD,zZ,size_zeroCells,hzs,hnl,← yC];rw [yN];exact yJ _ (by omega)
      have hh1:=CZ hh hri hkk (fun b' hb' _=>h5 b' hb') (fun b base e=>by injection e with e;injection e with e;subst e;exact ⟨.inr (yE _),by simp⟩) x1
       (Cd hz0 hnew (.inl rfl) (yF (yB (yJ _ hge) _) hcap) (by
        refine ⟨hsl.sz,fun j e' c y he' hy => ?_⟩;have hjl:j<new.length:=(List.getElem?_eq_some_iff.1 he').1;have hcl:c<i.size:=by rw [← hsl.sz j e' he'];exact (List.getElem?_eq_some_iff.1 hy).1
        have hq:=yJ i.size (show j+1≤new.length from hjl);rw [yM] at hq;have h3:=Lf [] news (Builtin.zeroCells zv.cells (grownCap w new.length 0 e-new.length)) (j*i.size+c) (by omega);simp only [zV,yN,Array.empty_append] at h3 ⊢;rw [h3];exact (hnt j e' c y he' hy).ext x1))
      exact ⟨_,_,_,_,_,hK,hrun,CY (A5 hkk) (A5 hri) hnew hcap rfl hge,hh1,x1⟩
    ·have hcap:len≤cap:=by simp only [AF.len] at hcap';omega
     obtain ⟨hsz0,cells,el,fr,hcell,hth,hcsz,hls,hct⟩:=ho;obtain rfl:size=i.size:=hsz.resolve_right hsz0;have hcapc:=hcs cells el _ hcell;simp only [AF.size] at hcapc ⊢;rw [yC] at hcapc;have hdl:((es.drop off).take len).length=len:=by simp;omega
     have hold:BZ w (fun b=>B b∨Ex κ h b) i.size ((es.drop off).take len) fun q=>cells.getD (base+off*i.size+q) undef:=by
      have hget:∀(j:Nat) e',((es.drop off).take len)[j]? = some e'→es[off+j]? = some e':=fun j e' he=>by
       have hj:j<len:=by have:=(List.getElem?_eq_some_iff.1 he).1;simp at this;omega
       rw [zT hj,zN] at he;exact he
      refine ⟨fun j e' he'=>hls _ e' (hget j e' he'),fun j e' c y he' hy => ?_⟩;have he':=hget j e' he';have:=hct _ e' c y he' hy;rw [yC] at this;dsimp only;rw [show base+off*i.size+(j*i.size+c)=base+(off*i.size+j*i.size+c) from by omega];exact this
     by_cases hn:new=[]
     ·subst hn;have hrun:=hsl.nul rfl ty (some ⟨b,base+off*i.size,none⟩) len cap hcap;simp only [append_nil,zV,yD] at hK;have x1:Ext κ h w (κ.set ri (some (b,base+off*i.size))) (h.set ri (.row false (ver'+1) i.size ((es.drop off).take len))) w:=
       DH hh hri rfl (hOL _) hkk rfl rfl rfl (yE _) (fun _ _ _=>rfl) (fun b' base' e=>by injection e with e;injection e with e1 e2;subst e1;exact .inl ⟨base,rfl⟩) (fun e=>hver _ e)
      have hh1:=CZ hh hri hkk (fun _ _ _=>rfl) (fun b' base' e=>by injection e with e;injection e with e1 e2;subst e1;exact ⟨.inl ⟨base,rfl⟩,hh.lt ri _ base hkk⟩) x1
       (Cd hz0 hcell hth (by rw [hdl];have:=yJ i.size hcap;omega) (Dv x1 hold))
      exact ⟨_,_,_,_,_,hK,hrun,CY (A5 hkk) (A5 hri) hcell (by omega) hdl hcap,hh1,x1⟩
     ·obtain ⟨news,hnl,hn1,hnt,_,hrr,hrg⟩:=hsl.get hn;have hpos:0<new.length:=zW.2 hn;have hlen2:((es.drop off).take len++new).length=len+new.length:=by rw [length_append,hdl]
      have hnr:BZ w (fun b=>B b∨Ex κ h b) i.size new fun q=>news.getD q undef:=⟨hsl.sz,hnt⟩
      by_cases hroom:len+new.length≤cap
      ·have hmul:=yJ i.size hroom;rw [yC] at hmul;have hfit:base+off*i.size+len*i.size+news.length≤cells.size:=by omega
       have hrun:=hrr ty b (base+off*i.size) len cap i.size cells el fr hcell hth hroom hfit;have hseg:=DG cells _ _ hfit;have hnew:=setRow_heap w b cells (A3 cells (base+off*i.size+len*i.size) news) el _ hcell;have h5:∀b',b'<w.heap.size→(∀base',(some (b,base):Option (Nat×Nat))≠some (b',base'))→(w.setRow b (A3 cells (base+off*i.size+len*i.size) news)).heap[b']? = w.heap[b']? :=
        fun b' _ hb'=>setRow_other w b _ fun e=>hb' base (by rw [e])
       have x1:Ext κ h w (κ.set ri (some (b,base+off*i.size))) (h.set ri (.row false (ver'+1) i.size ((es.drop off).take len++new))) (w.setRow b (A3 cells (base+off*i.size+len*i.size) news)):=
        DH (w':=w.setRow b _) hh hri rfl (hOL _) hkk rfl rfl rfl (by rw [setRow_size];exact yE _) h5 (fun b' base' e=>by injection e with e;injection e with e1 e2;subst e1;exact .inl ⟨base,rfl⟩) (fun e=>hver _ e)
       have hh1:=CZ hh hri hkk h5 (fun b' base' e=>by injection e with e;injection e with e1 e2;subst e1;exact ⟨.inl ⟨base,rfl⟩,by rw [setRow_size];exact hh.lt ri _ base hkk⟩) x1
        (Cd hz0 hnew (by rw [hseg];exact hth) (by rw [hlen2,hseg,yC];omega) (Dv x1 (EH hold (by
         refine ⟨hnr.1,fun j e' c y he' hy => ?_⟩;have hjl:j<new.length:=(List.getElem?_eq_some_iff.1 he').1;have hcl:c<i.size:=by rw [← hsl.sz j e' he'];exact (List.getElem?_eq_some_iff.1 hy).1
         have hq:=yJ i.size (show j+1≤new.length from hjl);rw [yM] at hq;dsimp only;rw [hdl,Bq cells _ _ hfit,if_pos ⟨by omega,by omega⟩];rw [show base+off*i.size+(len*i.size+(j*i.size+c))-(base+off*i.size+len*i.size)=j*i.size+c from by omega];exact hnt j e' c y he' hy) (fun q hq=>by
         rw [hdl] at hq;rw [Bq cells _ _ hfit,if_neg (by omega)]))))
       exact ⟨_,_,_,_,_,hK,hrun,CY (A5 hkk) (A5 hri) hnew (by rw [hseg];omega) hlen2 hroom,hh1,x1⟩
      ·let olds:List Value:=(List.range (len*i.size)).map fun q=>cells.getD (base+off*i.size+q) undef;have hol:olds.length=len*i.size:=by simp [olds]
       have hog:∀q,q<len*i.size→olds.getD q undef=cells.getD (base+off*i.size+q) undef:=fun q hq=>by simp [olds,List.getD,hq]
       have holds:∀j v,olds[j]? = some v→w.cell? ((⟨b,base+off*i.size,none⟩:Addr).add j)=some v:=fun j v hv=>by
        have hj:j<len*i.size:=by rw [← hol];exact (List.getElem?_eq_some_iff.1 hv).1
        simp only [olds,zQ,zR hj,yP,Option.some.injEq] at hv;subst hv;rw [Ep];have hm2:=yJ i.size hcap;exact Bz hcell (by omega)
       have hrun:=hrg ty ⟨b,base+off*i.size,none⟩ len cap olds hol holds (by omega) (by omega) (growslice_fits (by omega) (hbytes _ hle));have h5:∀b',b'<w.heap.size→(w.drew.alloc (.cells (olds.toArray++news.toArray++Builtin.zeroCells zv.cells (grownCap w (len+new.length) cap e-(len+new.length))) e)).heap[b']? = w.heap[b']? :=fun b' hb'=>Av w.drew _ hb';have x1:Ext κ h w (κ.set ri (some (w.heap.size,0))) (h.set ri (.row false (ver'+1) i.size ((es.drop off).take len++new))) (w.drew.alloc (.cells (olds.toArray++news.toArray++Builtin.zeroCells zv.cells (grownCap w (len+new.length) cap e-(len+new.length))) e)):=
        DH (w':=w.drew.alloc _) hh hri rfl (hOL _) hkk rfl rfl rfl (by simp) (fun b' hb' _=>h5 b' hb') (fun b base e=>by injection e with e;injection e with e;exact .inr (by omega)) (fun e=>hver _ e)
       have hge:=grownCap_ge w (len+new.length) cap e;have hnew:=Ba w.drew (.cells (olds.toArray++news.toArray++Builtin.zeroCells zv.cells (grownCap w (len+new.length) cap e-(len+new.length))) e);have hcap2:0+grownCap w (len+new.length) cap e*i.size≤(olds.toArray++news.toArray++Builtin.zeroCells zv.cells (grownCap w (len+new.length) cap e-(len+new.length))).size:=by simp only [zD,zZ,size_zeroCells,hzs,hnl,hol,← yC];rw [yN];exact yJ _ (by omega)
       have hh1:=CZ hh hri hkk (fun b' hb' _=>h5 b' hb') (fun b base e=>by injection e with e;injection e with e;subst e;exact ⟨.inr (yE _),by simp⟩) x1
        (Cd hz0 hnew (.inl rfl) (by rw [hlen2];exact yF (yB (yJ _ hge) _) hcap2) (Dv x1 (EH hold (by
         refine ⟨hnr.1,fun j e' c y he' hy => ?_⟩;have hjl:j<new.length:=(List.getElem?_eq_some_iff.1 he').1;have hcl:c<i.size:=by rw [← hsl.sz j e' he'];exact (List.getElem?_eq_some_iff.1 hy).1
         have hq:=yJ i.size (show j+1≤new.length from hjl);rw [yM] at hq;dsimp only;rw [hdl,yN,← hol,Lf _ _ _ _ (by omega)];exact hnt j e' c y he' hy) (fun q hq=>by
         rw [hdl] at hq;rw [yN,Wx _ _ _ _ (by omega),hog q hq]))))
       exact ⟨_,_,_,_,_,hK,hrun,CY (A5 hkk) (A5 hri) hnew hcap2 hlen2 hge,hh1,x1⟩
  ·cases hr2
 ·cases hr2
end Ab
namespace Ab
open Go
variable {R:Type} {P:Program} {B:Nat→Prop} {κ:BG} {h:Heap} {w:World}
theorem JM {es new:List (List Tree)} {p:Nat} (hp:p+new.length≤es.length):(BM es p new).length=es.length:=by simp [BM];omega
theorem NR {es new:List (List Tree)} {p:Nat} (hp:p+new.length≤es.length) (j:Nat):(BM es p new)[j]? = if p≤j∧j<p+new.length then new[j-p]? else es[j]? :=by
 unfold BM;have hl:(es.take p).length=p:=by simp;omega
 by_cases h1:j<p
 ·rw [zH,zL (by omega),zT h1,if_neg (by omega)]
 ·by_cases h2:j<p+new.length
  ·rw [zL (by simp;omega),zM (by omega),hl,if_pos ⟨by omega,h2⟩]
  ·rw [zM (by simp;omega),zN,if_neg (by omega)];congr 1;simp;omega
theorem M7 {α:Type} {l:List α} {m i:Nat} {x:α} (hx:(l.take m)[i]? = some x):i<m∧l[i]? = some x:=by
 rcases yH i m with h1|h1
 ·rw [zT h1] at hx;exact ⟨h1,hx⟩
 ·simp [zS,yK.2 h1] at hx
theorem Il (hh:Ap B κ h w) {i ver z b base:Nat} {es new:List (List Tree)} {cells:Array Value} {el:TypeId} (hi:h[i]? = some (.row false ver z es)) (hk:κ[i]? = some (some (b,base)))
  {fr:Nat×Nat} (hcell:w.heap[b]? = some (.cells cells el fr)) {p:Nat} {vals:List Value} (hp:p+new.length≤es.length) (hvl:vals.length=new.length*z)
  (hn:BZ w (fun b=>B b∨Ex κ h b) z new fun q=>vals.getD q undef) :
  base+p*z+vals.length≤cells.size∧(w.setRow b (A3 cells (base+p*z) vals)).heap[b]? = some (.cells (A3 cells (base+p*z) vals) el fr)∧(A3 cells (base+p*z) vals).size=cells.size∧
  Ap B κ (h.set i (.row false ver z (BM es p new))) (w.setRow b (A3 cells (base+p*z) vals))∧Ext κ h w κ (h.set i (.row false ver z (BM es p new))) (w.setRow b (A3 cells (base+p*z) vals)):=by
 obtain ⟨hz0,cells',elem,fr',hcell',hth,hs,hls,hcv⟩:=hh.obj i _ _ hi hk;rw [hcell] at hcell';cases hcell';have hmul:=yJ z hp;rw [yC] at hmul;have hfit:base+p*z+vals.length≤cells.size:=by omega
 have hsz:=DG cells (base+p*z) vals hfit;have hnew:=setRow_heap w b cells (A3 cells (base+p*z) vals) el _ hcell;have hset:(κ.set i (some (b,base)))=κ:=by
  apply zJ;intro j;by_cases hij:j=i
  ·rw [hij,A5 hk,hk]
  ·rw [DI hij]
 have hrl:=JM hp;have x2:Ext κ h w κ (h.set i (.row false ver z (BM es p new))) (w.setRow b (A3 cells (base+p*z) vals)):=by
  have x2':Ext κ h w (κ.set i (some (b,base))) (h.set i (.row false ver z (BM es p new))) (w.setRow b (A3 cells (base+p*z) vals)):=by refine DH (o' :=.row false ver z (BM es p new)) (k':=some (b,base)) (w':=w.setRow b (A3 cells (base+p*z) vals)) hh hi rfl ⟨rfl,yE _,(fun _=>⟨rfl,by simp [AF.len,hrl]⟩),(fun e=>by cases e),(fun e=>by cases e),rfl⟩ hk rfl rfl rfl (by rw [setRow_size];exact yE _) (fun b' _ hb'=>setRow_other w b _ fun e=>hb' base (by rw [e])) (fun b' base' e=>by injection e with e;injection e with e1 e2;subst e1;exact .inl ⟨base,rfl⟩) (fun _=>⟨rfl,fun b' base' e cells' elem' fr' hc' => ?_⟩);cases e;rw [hnew] at hc';cases hc';exact ⟨cells,hcell,hsz.symm⟩
  rw [hset] at x2';exact x2'
 have hh2:Ap B (κ.set i (some (b,base))) (h.set i (.row false ver z (BM es p new))) (w.setRow b (A3 cells (base+p*z) vals)):=by
  refine CZ hh hi hk (fun b' _ hb'=>setRow_other w b _ fun e=>hb' base (by rw [e])) (fun b' base' e=>by injection e with e;injection e with e1 e2;subst e1;exact ⟨.inl ⟨base,rfl⟩,by rw [setRow_size];exact hh.lt i b base hk⟩) (by rw [hset];exact x2) ?_;rw [hset];refine ⟨hz0,_,el,fr,hnew,by rw [hsz];exact hth,by rw [hsz,hrl];exact hs,fun j e' he' => ?_,fun j e' c x he' hx => ?_⟩
  ·rw [NR hp] at he';split at he'
   ·exact hn.1 _ e' he'
   ·exact hls j e' he'
  ·rw [Bq cells _ _ hfit];rw [NR hp] at he';split at he'
   ·rename_i hj;have hcl:c<z:=by rw [← hn.1 _ e' he'];exact (List.getElem?_eq_some_iff.1 hx).1
    have h3:=hn.2 _ e' c x he' hx;have e1:j*z=p*z+(j-p)*z:=by rw [← yC];congr 1;omega
    have hq:=yJ z (show j-p+1≤new.length by omega);rw [yM] at hq;rw [if_pos ⟨by omega,by omega⟩,show base+(j*z+c)-(base+p*z)=(j-p)*z+c by omega];exact h3.ext x2
   ·rename_i hj;have hcl:c<z:=by rw [← hls _ e' he'];exact (List.getElem?_eq_some_iff.1 hx).1
    rw [if_neg ?_]
    ·exact (hcv j e' c x he' hx).ext x2
    ·rintro ⟨h1,h2⟩
     rcases yH j p with hlt|hge
     ·have:=yJ z (show j+1≤p from hlt);rw [yM] at this;omega
     ·have:=yJ z (show p+new.length≤j by omega);rw [yC] at this;omega
 rw [hset] at hh2;exact ⟨hfit,hnew,hsz,hh2,x2⟩
theorem NF {κ':BG} {h':Heap} {w':World} {i ver z b base off cap n:Nat} {L:List (List Tree)} {cells:Array Value} {el:TypeId} {fr:Nat×Nat} (hk:κ'[i]? = some (some (b,base))) (hi:h'[i]? = some (.row false ver z L))
  (hc:w'.heap[b]? = some (.cells cells el fr)) (hcap:base+(off+cap)*z≤cells.size) (hn:off+n≤L.length) (hle:L.length≤off+cap):AO B κ' h' w' (.sref i ver off n) (.slice (some ⟨b,base+off*z,none⟩) n cap):=by
 refine .sref _ _ _ _ _ rfl ⟨_,hi,yE _⟩ fun k o hk' ho' _ => ?_;rw [hk] at hk';cases hk';rw [hi] at ho';cases ho';refine ⟨rfl,hn,.inr ⟨b,base,rfl,cap,rfl,hle,fun cells' elem' fr' hc' => ?_⟩⟩;rw [hc] at hc';cases hc';exact hcap
theorem RY {t t':TypeId} {s x:AV} {K:AV→Heap→Option R} {r:R} (htt:IW P t t'=true) (hr:FB P t h s x K=some r) (hh:Ap B κ h w) {vs vx:Value} (hs:AO B κ h w s vs) (hx:AO B κ h w x vx) (ty:TypeId) :
  ∃v h' κ' val w',K v h'=some r∧(Builtin.append_ #[t,t'] ty #[vs,vx]).run P w = .ok val w'∧AO B κ' h' w' v val∧Ap B κ' h' w'∧Ext κ h w κ' h' w':=by
 unfold FB at hr
 try simp only [AB] at hr
 obtain ⟨z,hz,hr1⟩:=bind_some hr;clear hr;obtain ⟨e,i,zv,hu,hi,hzv,rfl,hz0,hzs,hby⟩:=Ob hz;obtain ⟨new,hr2,hsl⟩:=Kv hr1 hh hx;simp only [Dz hu htt];clear hr1;split at hr2
 ·rename_i ri ver off len;split at hr2
  ·rename_i ver' size es hri;obtain ⟨⟨rfl,rfl,hfits⟩,hK⟩:=AD hr2;clear hr2;cases hs with
   |sref _ _ _ _ _ _ hex hsr=>
    obtain ⟨kk,hkk⟩:=CH hh hri;obtain ⟨_,hle,hm⟩:=hsr kk _ hkk hri rfl;simp only [AF.len] at hle;have ho:=hh.obj ri _ _ hri hkk;rcases hm with ⟨rfl,hof,a0,rfl⟩|⟨b,base,rfl,cap,rfl,hcap,hcs⟩
    ·simp only [AF.len] at hof;have hn:new=[]:=zI (by omega);subst hn;obtain ⟨_,a,cap,rfl,_,_⟩:=hsl;have hrun:=FV (P:=P) (w:=w) (ty:=ty) hu hi a0 0 0 a cap (yE _);have hset:h.set ri (.row false ver' i.size (BM es (off+0) []))=h:=by
      apply zJ;intro j;by_cases hij:j=ri
      ·rw [hij,A5 hri,hri];simp [BM]
      ·rw [DI hij]
     rw [hset] at hK;exact ⟨_,h,κ,_,w,hK,hrun,.sref _ _ _ _ _ rfl hex hsr,hh,Ext.refl _ _ _⟩
    ·simp only [AF.len] at hcap;obtain ⟨hsz0,cells,el,fr,hcell,hth,hcsz,hls,hct⟩:=ho;have hcapc:=hcs cells el _ hcell;simp only [AF.size] at hcapc ⊢;by_cases hn:new=[]
     ·subst hn;obtain ⟨_,a,cap',rfl,_,_⟩:=hsl;have hrun:=FV (P:=P) (w:=w) (ty:=ty) hu hi (some ⟨b,base+off*i.size,none⟩) len cap a cap' (by omega);have hset:h.set ri (.row false ver' i.size (BM es (off+len) []))=h:=by
       apply zJ;intro j;by_cases hij:j=ri
       ·rw [hij,A5 hri,hri];simp [BM]
       ·rw [DI hij]
      rw [hset] at hK;exact ⟨_,h,κ,_,w,hK,hrun,NF hkk hri hcell hcapc (by simpa using hle) hcap,hh,Ext.refl _ _ _⟩
     ·obtain ⟨nb,o,ncap,news,rfl,hnl,hnc,hn1,hnt⟩:=Ka hz0 hsl hn;obtain ⟨f1,f2,f3,f4,f5⟩:=Il (new:=new) (p:=off+len) (vals:=news) hh hri hkk hcell hfits hnl ⟨hsl.1,hnt⟩;have he:base+(off+len)*i.size=base+off*i.size+len*i.size:=by rw [yC];omega
      have hrun:=run_append_room' (P:=P) (ty:=ty) (w:=w) (Ak:=len) (sCap:=cap) (o:=base+off*i.size) (c:=ncap) hu hi hcell hth hnl hnc hn1 (by omega) (by omega);rw [← he] at hrun;have hrl:=JM hfits;exact ⟨_,_,_,_,_,hK,hrun,NF hkk (A5 hri) f2 (by rw [f3];exact hcapc) (by rw [hrl];omega) (by rw [hrl];exact hcap),f4,f5⟩
  ·cases hr2
 ·cases hr2
theorem Rs {e:TypeId} {K:List Tree→Option R} {r:R} (hr:PU P h e K=some r) (hh:Ap B κ h w) :
  ∃zs i v,K zs=some r∧P.info? e=some i∧i.zero=some v∧v.cells.size=zs.length∧zs.length≠0∧i.size=zs.length∧(∀u∈v.cells.toList,u.oneCell'=true)∧
   ∀(c:Nat) (x:Tree),zs[c]? = some x→Bv w (fun b=>B b∨Ex κ h b) x (v.cells.getD c undef):=by
 unfold PU at hr
 try simp only [AB] at hr
 split at hr
 ·rename_i z n hz hn;obtain ⟨⟨hn0,hzl⟩,hr⟩:=AD hr;obtain ⟨i,v,hi,hv,hc⟩:=Ct (B:=B) (κ:=κ) (h:=h) (w:=w) hz;obtain ⟨zs,hK,hzs,_,hT⟩:=DS (P:=P) hr hh (vs:=v.cells.toList) (by simpa using hc.1) (CE hc);have hs:v.cells.size=zs.length:=by rw [hzs];exact hc.1
  have hsi:i.size=n:=by simpa [B6,hi] using hn
  refine ⟨zs,i,v,hK,hi,hv,hs,by omega,by omega,fun u hu => ?_,fun c x hx => ?_⟩
  ·obtain ⟨j,hj,rfl⟩:=zU hu;have hj':j<zs.length:=by rw [← hs];simpa using hj
   exact (hT j _ _ (zO hj') (zO hj)).one
  ·have hj':c<v.cells.size:=by rw [hs];exact AS hx
   have:=hT c x (v.cells.getD c undef) hx (by simp [Array.getD,hj']);exact this.less fun b hb=>hb.imp id fun e=>⟨rfl,e⟩
 ·cases hr
theorem JK (zero:Array Value) (n q:Nat) (hq:q<n*zero.size):(Builtin.zeroCells zero n).toList[q]? = some (zero.getD (q % zero.size) undef):=by
 have hpos:0<zero.size:=by
  rcases Nat.eq_zero_or_pos zero.size with h0|h0
  ·rw [h0] at hq;omega
  ·exact h0
 have hlt:=yI q hpos;have hlen:(Builtin.zeroCells zero n).size=n*zero.size:=size_zeroCells zero n;have hq2:q<(Builtin.zeroCells zero n).size:=by rw [hlen];exact hq
 rw [getElem?_toList,Array.getElem?_eq_getElem hq2];simp [Builtin.zeroCells,Array.getD,hlt]
theorem Rr {A:Nat→Prop} {zs:List Tree} {v:Value} (hs:v.cells.size=zs.length) (hT:∀(c:Nat) (x:Tree),zs[c]? = some x→Bv w A x (v.cells.getD c undef)) (n:Nat) :
  BZ w A zs.length (zY n zs) fun q=>(Builtin.zeroCells v.cells n).toList.getD q undef:=by
 refine ⟨fun j e he => ?_,fun j e c x he hx => ?_⟩
 ·rw [List.getElem?_replicate] at he;split at he<;>cases he;rfl
 ·rw [List.getElem?_replicate] at he;split at he
  ·rename_i hj;cases he;have hc:c<zs.length:=AS hx;have hq:=yJ zs.length (show j+1≤n from hj);rw [yM] at hq;have:=JK v.cells n (j*zs.length+c) (by rw [hs];omega);simp only [List.getD,this,Option.getD_some];rw [hs,Nat.add_comm,Nat.add_mul_mod_self_right,Nat.mod_eq_of_lt hc];exact hT c x hx
  ·cases he
theorem PA {v:Value} (h1:∀u∈v.cells.toList,u.oneCell'=true) (n:Nat):∀u∈(Builtin.zeroCells v.cells n).toList,u.oneCell'=true:=by
 intro u hu;obtain ⟨q,hq⟩:=List.mem_iff_getElem?.1 hu;have hql:q<n*v.cells.size:=by have:=AS hq;rw [zC,size_zeroCells] at this;exact this
 rw [JK _ _ _ hql] at hq;cases hq;have hpos:0<v.cells.size:=by
  rcases Nat.eq_zero_or_pos v.cells.size with h0|h0
  ·rw [h0] at hql;omega
  ·exact h0
 have hlt:=yI q hpos;refine h1 _ ?_;simp only [Array.getD,hlt,dif_pos];simp
theorem XU {t:TypeId} {x:AV} {K:Heap→Option R} {r:R} (hr:Jv P t h x K=some r) (hh:Ap B κ h w) {vx:Value} (hx:AO B κ h w x vx) (ty:TypeId) :
  ∃h' w',K h'=some r∧(Builtin.clear_ #[t] ty #[vx]).run P w = .ok (.tuple #[]) w'∧Ap B κ h' w'∧Ext κ h w κ h' w':=by
 unfold Jv at hr
 try simp only [AB] at hr
 split at hr
 ·rename_i e hu;have hnone:∀(a:Option Addr) (c:Nat),(Builtin.clear_ #[t] ty #[.slice a 0 c]).run P w = .ok (.tuple #[]) w:=fun a c=>by cases a<;>simp [Builtin.clear_,run_underlying hu]
  split at hr
  ·rename_i z es;obtain ⟨h0,hK⟩:=AD hr;have hes:es=[]:=zI h0;subst hes;cases hx with
   |t _ _ ht=>
    obtain ⟨_,a,cap,rfl,_,_⟩:=Eu.KW ht;exact ⟨h,w,hK,hnone _ _,hh,Ext.refl _ _ _⟩
  ·cases hx with
   |nilsl a0=>exact ⟨h,w,hr,hnone _ _,hh,Ext.refl _ _ _⟩
  ·rename_i ri ver off len;obtain ⟨zs,i,v,hr1,hi,hv,hs,hz0,hsi,h1,hT⟩:=Rs hr hh;split at hr1
   ·rename_i ver' size es hri;obtain ⟨⟨rfl,rfl⟩,hK⟩:=AD hr1;cases hx with
    |sref _ _ _ _ _ _ hex hsr=>
     obtain ⟨kk,hkk⟩:=CH hh hri;obtain ⟨_,hle,hm⟩:=hsr kk _ hkk hri rfl;simp only [AF.len] at hle;have ho:=hh.obj ri _ _ hri hkk;have hsame:len=0→h.set ri (.row false ver' zs.length (BM es off (zY len zs)))=h:=fun h0=>by
      subst h0;apply zJ;intro j;by_cases hij:j=ri
      ·rw [hij,A5 hri,hri];simp [BM]
      ·rw [DI hij]
     rcases hm with ⟨rfl,hof,a0,rfl⟩|⟨b,base,rfl,cap,rfl,hcap,hcs⟩
     ·rw [hsame rfl] at hK;exact ⟨h,w,hK,hnone _ _,hh,Ext.refl _ _ _⟩
     ·obtain ⟨hsz0,cells,el,fr,hcell,hth,hcsz,hls,hct⟩:=ho;simp only [AF.size];cases len with
      |zero=>
       rw [hsame rfl] at hK;exact ⟨h,w,hK,hnone _ _,hh,Ext.refl _ _ _⟩
      |succ n=>
       obtain ⟨f1,f2,f3,f4,f5⟩:=Il (new:=zY (n+1) zs) (p:=off) (vals:=(Builtin.zeroCells v.cells (n+1)).toList) hh hri hkk hcell (by simpa using hle) (by rw [zC,size_zeroCells,hs];simp) (Rr hs hT (n+1));refine ⟨_,_,hK,?_,f4,f5⟩;have hst:=B4 P b (base+off*zs.length) zs.length el fr (Builtin.zeroCells v.cells (n+1)).toList 0 cells w hcell hth (by simpa using f1) (PA h1 (n+1));simp only [yD] at hst;simp [Builtin.clear_,run_underlying hu,zeroValue,typeInfo,hi,hv,hst,A3]
   ·cases hr1
  ·cases hr
 ·cases hr
structure Src (P:Program) (w:World) (A:Nat→Prop) (z:Nat) (new:List (List Tree)) (vx:Value):Prop where
 sz:∀(j:Nat) (e:List Tree),new[j]? = some e→e.length=z
 len:(Builtin.lenOf vx).run P w = .ok new.length w
 zero:(Builtin.firstCells z 0 vx).run P w = .ok #[] w
 get:z≠0→new≠[]→∃news:List Value,news.length=new.length*z∧(∀u∈news,u.oneCell'=true)∧(∀(j:Nat) (e:List Tree) (c:Nat) (x:Tree),new[j]? = some e→e[c]? = some x→Bv w A x (news.getD (j*z+c) undef))∧
  ∀m,m≤new.length→(Builtin.firstCells z m vx).run P w = .ok (news.take (m*z)).toArray w
theorem Src.Ya {A:Nat→Prop} {z:Nat} {new:List (List Tree)} {vx:Value} (hs:Eu w A z new vx):Src P w A z new vx where
 sz:=hs.1
 len:=by obtain ⟨_,a,cap,rfl,_,_⟩:=hs;simp [Builtin.lenOf]
 zero:=by obtain ⟨_,a,cap,rfl,_,_⟩:=hs;cases a<;>simp [Builtin.firstCells,loadCells,loadCellsFrom]
 get hz hn:=by obtain ⟨nb,o,ncap,news,rfl,hnl,hnc,hn1,hnt⟩:=Ka hz hs hn;refine ⟨news,hnl,hn1,hnt,fun m hm => ?_⟩;have hle:=yJ z hm;exact run_firstCells_some (P:=P) w z m ⟨nb,o,none⟩ new.length ncap (news.take (m*z)) (by rw [zX,hnl];omega) (fun j v hj=>hnc j v (M7 hj).2)
theorem Src.UI {A:Nat→Prop} (s:ByteArray):Src P w A 1 (AZ s) (.string s) where
 sz j e he:=by
  unfold AZ at he;rw [zQ] at he;cases hb:s.data.toList[j]? with
  |none=>rw [hb] at he;cases he
  |some b=>rw [hb] at he;cases he;rfl
 len:=by
  have hl:(AZ s).length=s.size:=by unfold AZ;rw [length_map,zC];rfl
  rw [hl];rfl
 zero:=by simp [Builtin.firstCells]
 get _ _:=by
  refine ⟨s.data.toList.map fun b =>.int .u8 (b.toNat:Int),by simp [AZ],fun u hu => ?_,fun j e c x he hx => ?_,fun m hm => ?_⟩
  ·obtain ⟨b,_,rfl⟩:=mem_map.1 hu;rfl
  ·unfold AZ at he;rw [zQ] at he;cases hb:s.data.toList[j]? with
   |none=>rw [hb] at he;cases he
   |some b=>
    rw [hb] at he;cases he;have hc:c=0:=by have:=AS hx;simp at this;omega
    subst hc;cases hx;have:((s.data.toList.map fun b=>Value.int .u8 (b.toNat:Int)).getD (j*1+0) undef)= .int .u8 (b.toNat:Int):=by rw [zK,zQ,show j*1+0=j by omega,hb];rfl
    rw [this];exact .int _ _
  ·have:((s.extract 0 m).data.map fun b=>Value.int .u8 (b.toNat:Int))=((s.data.toList.map fun b=>Value.int .u8 (b.toNat:Int)).take (m*1)).toArray:=by apply Array.ext';simp
   show Sem.run P (pure _) w=_;rw [this];rfl
theorem Xz {z:Nat} {x:AV} {K:List (List Tree)→Option R} {r:R} (hr:JL h z x K=some r) (hh:Ap B κ h w) {v:Value} (hv:AO B κ h w x v) :
  ∃es,K es=some r∧Src P w (fun b=>B b∨Ex κ h b) z es v:=by
 unfold JL at hr;simp only [AB] at hr;split at hr
 ·rename_i s;obtain ⟨rfl,hK⟩:=AD hr;cases hv with|t _ _ hv=>
  cases hv;exact ⟨_,hK,.UI s⟩
 ·obtain ⟨es,h1,h2⟩:=Kv hr hh hv;exact ⟨es,h1,.Ya h2⟩
theorem ZZ {t t':TypeId} {d x:AV} {K:AV→Heap→Option R} {r:R} (hr:Oi P t h d x K=some r) (hh:Ap B κ h w) {vd vx:Value} (hd:AO B κ h w d vd) (hx:AO B κ h w x vx) (ty:TypeId) :
  ∃v h' val w',K v h'=some r∧(Builtin.copy_ #[t,t'] ty #[vd,vx]).run P w = .ok val w'∧AO B κ h' w' v val∧Ap B κ h' w'∧Ext κ h w κ h' w':=by
 unfold Oi at hr
 try simp only [AB] at hr
 obtain ⟨z,hz,hr1⟩:=bind_some hr;clear hr;obtain ⟨e,hu,hze⟩:∃e,P.underlying t=some (.slice e)∧B6 P e=some z:=by
  unfold Fc at hz;split at hz
  ·rename_i e hu;exact ⟨e,hu,hz⟩
  ·cases hz
 obtain ⟨new,hr2,hsl⟩:=Xz (P:=P) hr1 hh hx;clear hr1;split at hr2
 ·rename_i ri ver off len;split at hr2
  ·rename_i ver' size es hri;obtain ⟨⟨rfl,rfl⟩,hK⟩:=AD hr2;cases hd with
   |sref _ _ _ _ _ _ hex hsr=>
    obtain ⟨kk,hkk⟩:=CH hh hri;obtain ⟨_,hle,hm⟩:=hsr kk _ hkk hri rfl;simp only [AF.len] at hle;have ho:=hh.obj ri _ _ hri hkk;have hsame:new.take len=[]→h.set ri (.row false ver' size (BM es off (new.take len)))=h:=fun h0=>by
     rw [h0];apply zJ;intro j;by_cases hij:j=ri
     ·rw [hij,A5 hri,hri];simp [BM]
     ·rw [DI hij]
    have hnone:∀(base:Option Addr) (c:Nat),min new.length len=0→(Builtin.copy_ #[t,t'] ty #[.slice base len c,vx]).run P w = .ok (.int .i64 (min new.length len:Nat)) w:=fun base c h0=>by have h0':Nat.min new.length len=0:=h0;cases base<;>simp [Builtin.copy_,run_underlying hu,hsl.len,hsl.zero,Bk hze,h0,goInt,storeCells]
    by_cases h0:min new.length len=0
    ·have ht:new.take len=[]:=zI (by rw [zX];omega);rw [hsame ht] at hK;rcases hm with ⟨rfl,hof,a0,rfl⟩|⟨b,base,rfl,cap,rfl,hcap,hcs⟩
     ·exact ⟨_,_,_,_,hK,hnone _ _ h0,.t _ _ (.int _ _),hh,Ext.refl _ _ _⟩
     ·exact ⟨_,_,_,_,hK,hnone _ _ h0,.t _ _ (.int _ _),hh,Ext.refl _ _ _⟩
    ·rcases hm with ⟨rfl,hof,a0,rfl⟩|⟨b,base,rfl,cap,rfl,hcap,hcs⟩
     ·simp at h0
     ·obtain ⟨hsz0,cells,el,fr,hcell,hth,hcsz,hls,hct⟩:=ho;simp only [AF.size];have hn:new≠[]:=fun e=>h0 (by rw [e];simp);obtain ⟨news,hnl,hn1,hnt,hfc⟩:=hsl.get hsz0 hn;have htl:(new.take len).length=min new.length len:=by rw [zX];omega
      have hnl2:(news.take (min new.length len*size)).length=(new.take len).length*size:=by rw [zX,hnl,htl];have:=yJ size (Nat.min_le_left new.length len);omega
      have hrow:BZ w (fun b=>B b∨Ex κ h b) size (new.take len) fun q=>(news.take (min new.length len*size)).getD q undef:=by
       refine ⟨fun j e he=>hsl.sz j e (M7 he).2,fun j e c y he hy => ?_⟩;have hj:=AS he;have hcl:c<size:=by rw [← hsl.sz j e (M7 he).2];exact AS hy
       have hq:=yJ size (show j+1≤min new.length len by omega);rw [yM] at hq;have:=hnt j e c y (M7 he).2 hy;simp only [List.getD] at this ⊢;rw [zT (by omega)];exact this
      obtain ⟨f1,f2,f3,f4,f5⟩:=Il (new:=new.take len) (p:=off) (vals:=news.take (min new.length len*size)) hh hri hkk hcell (by omega) hnl2 hrow;refine ⟨_,_,.int .i64 (min new.length len:Nat),_,hK,?_,.t _ _ (.int _ _),f4,f5⟩;have hl:=hfc (min new.length len) (Nat.min_le_left _ _);have hst:=B4 P b (base+off*size) size el fr (news.take (min new.length len*size)) 0 cells w hcell hth (by simpa using f1) (fun v hv=>hn1 v (List.mem_of_mem_take hv));simp only [yD] at hst;have hmn:Nat.min new.length len=min new.length len:=rfl;simp [Builtin.copy_,run_underlying hu,hsl.len,Bk hze,hmn,hl,hst,goInt,A3]
  ·cases hr2
 ·cases hr2
theorem strB_ok {src dst:TypeId} (hb:PC P src dst=true):P.underlying src=some .string∧∃e,P.underlying dst=some (.slice e)∧P.underlying e=some (.int .u8):=by
 unfold PC at hb;split at hb
 ·rename_i e h1 h2;split at hb
  ·rename_i h3;exact ⟨h1,e,h2,h3⟩
  ·cases hb
 ·cases hb
theorem XN {src dst:TypeId} {x:AV} {K:AV→Heap→Option R} {r:R} (hb:PC P src dst=true) (hr:Lx h x K=some r) (hh:Ap B κ h w) {vx:Value} (hx:AO B κ h w x vx) :
  ∃v h' κ' val w',K v h'=some r∧(convert src dst vx).run P w = .ok val w'∧AO B κ' h' w' v val∧Ap B κ' h' w'∧Ext κ h w κ' h' w':=by
 obtain ⟨hs,e,hd,he⟩:=strB_ok hb;unfold Lx at hr;obtain ⟨s,hs',hK⟩:=bind_some hr;obtain rfl:=FR hs' hx;have hrun:=Lib.run_convert_string_bytes (P:=P) w src dst e s hs hd he;have h5:∀b',b'<w.heap.size→(Lib.bytesWorld w e s).heap[b']? = w.heap[b']? :=fun b' hb'=>Lib.bytesWorld_at_old w e s b' hb';have hnew:=Lib.bytesWorld_at_new w e s;have hsz:=Lib.bytesWorld_size w e s;have x1:Ext κ h w (κ++[some (w.heap.size,0)]) (h++[.row false 0 1 (AZ s)]) (Lib.bytesWorld w e s):=
  B9 (w':=Lib.bytesWorld w e s) hh rfl rfl rfl (by rw [hsz];omega) h5 fun b base e=>by injection e with e;injection e with e;omega
 have hge:=grownCap_ge w s.size 0 e;have hcs:(Lib.bytesCells w e s).size=grownCap w s.size 0 e:=by have:s.data.size=s.size:=rfl;simp only [Lib.bytesCells,zD,Array.size_map,Array.size_replicate,this];omega
 have hh1:=Bj hh h5 x1 (fun b base e=>by injection e with e;injection e with e;subst e;exact ⟨yE _,by rw [hsz];omega⟩)
  (Cd (by omega) hnew (.inr ⟨rfl,yE _⟩) (by rw [D5,hcs];omega) ⟨fun j c hj=>M9 s j c hj,fun j c k y hj hy=>by
   obtain ⟨_,rfl,h3⟩:=NA (w:=Lib.bytesWorld w e s) (A:=fun b=>B b∨Ex (κ++[some (w.heap.size,0)]) (h++[.row false 0 1 (AZ s)]) b) s j c k y hj hy;have hjl:j<s.size:=by rw [← D5];exact AS hj
   have:(Lib.bytesCells w e s).getD (0+(j*1+0)) undef=(Lib.strCells s).getD j undef:=by
    have hjd:j<s.data.size:=hjl;rw [show 0+(j*1+0)=j by omega];have hj2:j<s.size+(grownCap w s.size 0 e-s.size):=by omega
    simp [Lib.bytesCells,Lib.strCells,List.getD,Array.getD,hj2,hjl]
   dsimp only;rw [this];exact h3⟩)
 exact ⟨_,_,_,_,_,hK,hrun,CY (by rw [← hh.len];exact Ao κ _) (Ao h _) hnew (by rw [hcs];omega) (D5 s) hge,hh1,x1⟩
theorem ZU {t:TypeId} {n c:AV} {K:AV→Heap→Option R} {r:R} (hr:Oe P t h n c K=some r) (hh:Ap B κ h w) {vn vc:Value} (hn:AO B κ h w n vn) (hc:AO B κ h w c vc) :
  ∃v h' κ' val w',K v h'=some r∧(Instr.makeSlice t vn vc).run P w = .ok val w'∧AO B κ' h' w' v val∧Ap B κ' h' w'∧Ext κ h w κ' h' w':=by
 unfold Oe at hr
 try simp only [AB] at hr
 obtain ⟨z,hz,hr1⟩:=bind_some hr;clear hr;obtain ⟨e,i,zv,hu,hi,hzv,rfl,hz0,hzs,hby⟩:=Ob hz;rw [hu] at hr1;simp only at hr1;obtain ⟨a,ha,hr2⟩:=bind_some hr1;obtain ⟨b,hb,hr3⟩:=bind_some hr2;obtain rfl:=Cs ha hn;obtain rfl:=Cs hb hc;obtain ⟨zs,i',v,hr4,hi',hv,hs,hz0',hsi,h1,hT⟩:=Rs hr3 hh;rw [hi] at hi';cases hi';rw [hzv] at hv;cases hv;obtain ⟨⟨rfl,ha0,hale,hzl⟩,hK⟩:=AD hr4;obtain ⟨m,rfl⟩:=Int.eq_ofNat_of_zero_le ha0;simp only [zG] at hK;have hbytes:(i.bytes:Int)*(m:Int)≤281474976710656:=by
  have h2:i.bytes*m≤65536*1073741824:=Nat.mul_le_mul hby (by omega);have h3:((i.bytes*m:Nat):Int)≤281474976710656:=by omega
  rwa [Int.natCast_mul] at h3
 have hrun:=run_make (P:=P) w t e i zv hu hi hzv .i64 .i64 m m ha0 (Int.le_refl _) hbytes (by omega);simp only [zG] at hrun;have hmade:madeCells zv.cells (m*i.size)=Builtin.zeroCells zv.cells m:=by simp only [madeCells,Builtin.zeroCells,hzs]
 rw [hmade] at hrun;have h5:∀b',b'<w.heap.size→(w.alloc (.cells (Builtin.zeroCells zv.cells m) e)).heap[b']? = w.heap[b']? :=fun b' hb'=>Av w _ hb';have x1:Ext κ h w (κ++[some (w.heap.size,0)]) (h++[.row false 0 i.size (zY m zs)]) (w.alloc (.cells (Builtin.zeroCells zv.cells m) e)):=
  B9 (w':=w.alloc _) hh rfl rfl rfl (by simp) h5 fun b base e=>by injection e with e;injection e with e;omega
 have hnew:=Ba w (.cells (Builtin.zeroCells zv.cells m) e);have hsz:(Builtin.zeroCells zv.cells m).size=m*i.size:=by rw [size_zeroCells,hzs]
 have hh1:=Bj hh h5 x1 (fun b base e=>by injection e with e;injection e with e;subst e;exact ⟨yE _,by simp⟩)
  (Cd hz0 hnew (.inl rfl) (by simp [hsz]) (by have hrow:=Rr hs hT m;rw [hzl] at hrow;have h6:=Dv x1 hrow;refine ⟨h6.1,fun j e' c y he hy => ?_⟩;have:=h6.2 j e' c y he hy;dsimp only at this ⊢;rw [← Bt] at this;rw [yN];simpa using this))
 exact ⟨_,_,_,_,_,hK,hrun,CY (by rw [← hh.len];exact Ao κ _) (Ao h _) hnew (by rw [hsz];omega) (by simp) (yE _),hh1,x1⟩
end Ab
namespace Go.Proofs
open Go.Shelf Go.RowKit Go.Lib
variable {P:Program} {ρ:Ren}
structure HS (P:Program) (ρ:Ren) (z:Nat):Prop where
 mixed:P.follows .mixedOrders=true
 f22:Bears P (ρ.f 22) (Body2.n22 ρ)
 f29 : ∃ fn, P.funcs[ρ.f 29]? = some fn ∧ (fn.name == "runtime.NumGoroutine") = false ∧ fn.body.isNone = true ∧ Extern.findNext fn = none ∧ Extern.find fn = some (Extern.SlicesOverlaps.overlaps #[ρ.t 24, ρ.t 24] #[ρ.t 4])
 t3:P.underlying (ρ.t 3)=some (TypeDesc.int IntKind.i64)
 a3:∀w,(isAgg (ρ.t 3)).run P w = .ok false w
 z3:∀w,(Go.sizeOf (ρ.t 3)).run P w = .ok 1 w
 v3:∀w,(zeroValue (ρ.t 3)).run P w = .ok (Value.int IntKind.i64 0) w
 t4:P.underlying (ρ.t 4)=some (TypeDesc.bool)
 a4:∀w,(isAgg (ρ.t 4)).run P w = .ok false w
 z4:∀w,(Go.sizeOf (ρ.t 4)).run P w = .ok 1 w
 v4:∀w,(zeroValue (ρ.t 4)).run P w = .ok (Value.bool false) w
 z9:∀w,(Go.sizeOf (ρ.t 9)).run P w = .ok z w
 t24:P.underlying (ρ.t 24)=some (TypeDesc.slice (ρ.t 9))
 a24:∀w,(isAgg (ρ.t 24)).run P w = .ok false w
 z24:∀w,(Go.sizeOf (ρ.t 24)).run P w = .ok 1 w
 v24:∀w,(zeroValue (ρ.t 24)).run P w = .ok (Value.slice none 0 0) w
 i9:∃(i:TypeInfo) (zv:Value),P.info? (ρ.t 9)=some i∧i.zero=some zv∧i.size=z∧zv.cells.size=z∧i.bytes≤65536
 pos:0<z
structure Rn (P:Program) (ρ:Ren) (z:Nat):Prop where
 lay:Lays8.n4 P ρ
 i25:∃(i:TypeInfo) (zv:Value),P.info? (ρ.t 25)=some i∧i.zero=some zv∧i.size=z∧zv.cells.size=z∧i.bytes≤65536
 pos:0<z
theorem EG (w:World) (dT sT ty elem:TypeId) (z:Nat) (b o dLen dCap:Nat) (a:Addr) (Ak sCap k:Nat) (cs:List Value)
  (hu:P.underlying dT=some (.slice elem)) (hs:∀w,(Go.sizeOf elem).run P w = .ok z w) (hk:k=Nat.min Ak dLen) (hn:cs.length=k*z)
  (hsrc:∀j v,cs[j]? = some v→w.cell? (a.add j)=some v) (hc:∀j,j<cs.length→(w.cell? ⟨b,o+j,none⟩).isSome=true) (hf:∀j,j<cs.length→w.frozen? ⟨b,o+j,none⟩=false) (h1:∀v∈cs,v.oneCell'=true) :
  (Builtin.copy_ #[dT,sT] ty #[.slice (some ⟨b,o,none⟩) dLen dCap,.slice (some a) Ak sCap]).run P w = .ok (goInt k) (w.setCells b o cs):=by
 have hl:=run_loadCells_list (P:=P) w a cs hsrc;have hst:=run_storeCells_cells (P:=P) b o cs 0 w (by simpa using hc) (by simpa using hf) h1;rw [hn] at hl;simp [Builtin.copy_,run_underlying hu,Builtin.lenOf,Builtin.firstCells,hs,← hk,hl,hst]
theorem LQ (w:World) (tS tR e:TypeId) (ht:P.underlying tS=some (.slice e)) (size:Nat) (hz:∀w,(Go.sizeOf e).run P w = .ok size w)
  (a b:Addr) (la ca lb cb:Nat) (hne:a.block≠b.block) (tA tB:TypeId) (kA kB:Nat)
  (hsa:w.shape? a.block=some (tA,kA)) (hsb:w.shape? b.block=some (tB,kB)) (hkA:kA≠0)
  (hfb:w.frozen? b=false) (hfe:w.frozen? {block:=b.block,off:=kB}=false) :
  (Extern.SlicesOverlaps.overlaps #[tS,tS] #[tR] #[.slice (some a) la ca,.slice (some b) lb cb]).run P w = .ok (.bool false) w:=by
 have hnb:(a.block != b.block)=true:=by simpa using hne
 have hnb':(a.block==b.block)=false:=by simpa using hne
 change Sem.run P (underlying tS >>= _) w=_;rw [Sem.run_bind,run_underlying ht,Result.andThen_ok];change Sem.run P (Go.sizeOf e >>= _) w=_;rw [Sem.run_bind,hz,Result.andThen_ok];dsimp only;by_cases h0:la=0∨lb=0∨size=0
 ·simp [h0]
 ·cases kA with
  |zero=>exact absurd rfl hkA
  |succ kA=>
   cases hfa:w.frozen? a<;>cases hfa2:w.frozen? {block:=a.block,off:=kA+1}<;>
    simp [h0,hnb,hnb',frozen,noView,viewAt,mayBeOne,stringish,shape,Sem.run,hsa,hsb,hfb,hfe,hfa,hfa2]
end Go.Proofs
namespace Ab
open Go
mutual
def tT:Tree→Tree→Bool
 | .int k n,.int k' n'=>decide (k=k')&&decide (n=n')
 | .bool b,.bool b'=>b==b'
 | .str s,.str s'=>decide (s.data.toList=s'.data.toList)
 | .sl z es,.sl z' es'=>decide (z=z')&&tLL es es'
 | .mp k m,.mp k' m'=>decide (k=k')&&decide (m=m')
 |_,_=>false
def tL:List Tree→List Tree→Bool
 |[],[]=>true
 |x::l,y::k=>tT x y&&tL l k
 |_,_=>false
def tLL:List (List Tree)→List (List Tree)→Bool
 |[],[]=>true
 |x::l,y::k=>tL x y&&tLL l k
 |_,_=>false
end
mutual
theorem tT_ok:∀a b:Tree,tT a b=true→a=b
 | .int k n,b,h=>by cases b<;>simp_all [tT]
 | .bool b,c,h=>by cases c<;>simp_all [tT]
 | .str s,c,h=>by cases c<;>simp only [tT,decide_eq_true_eq,zF] at h;rename_i t;cases s;cases t;rename_i a b;simp only at h;have:a=b:=Array.ext' h;rw [this]
 | .sl z es,c,h=>by cases c<;>simp only [tT,zE,decide_eq_true_eq,zF] at h;rename_i z' es';rw [h.1,Tv es es' h.2]
 | .const v,c,h=>by cases c<;>simp_all [tT]
 | .mp k m,c,h=>by cases c<;>simp_all [tT]
theorem R1:∀a b:List Tree,tL a b=true→a=b
 |[],b,h=>by cases b<;>simp_all [tL]
 |x::l,b,h=>by
  cases b with
  |nil=>simp [tL] at h
  |cons y k=>
   simp only [tL,zE] at h;rw [tT_ok x y h.1,R1 l k h.2]
theorem Tv:∀a b:List (List Tree),tLL a b=true→a=b
 |[],b,h=>by cases b<;>simp_all [tLL]
 |x::l,b,h=>by
  cases b with
  |nil=>simp [tLL] at h
  |cons y k=>
   simp only [tLL,zE] at h;rw [R1 x y h.1,Tv l k h.2]
end
def tFn:Fn→Fn→Bool
 | .func f,.func g=>decide (f=g)
 |_,_=>false
theorem tFn_ok (a b:Fn) (h:tFn a b=true):a=b:=by cases a<;>cases b<;>simp_all [tFn]
mutual
def tA:AV→AV→Bool
 | .undef,.undef=>true
 | .nilsl,.nilsl=>true
 | .t x,.t y=>tT x y
 | .ptr i o,.ptr j p=>decide (i=j)&&decide (o=p)
 | .rptr i v k o,.rptr j w l p=>decide (i=j)&&(decide (v=w)&&(decide (k=l)&&decide (o=p)))
 | .eptr s c o,.eptr s' c' o'=>decide (s=s')&&(tL c c'&&decide (o=o'))
 | .sref i v o l,.sref i' v' o' l'=>decide (i=i')&&(decide (v=v')&&(decide (o=o')&&decide (l=l')))
 | .bsl i o l s,.bsl i' o' l' s'=>decide (i=i')&&(decide (o=o')&&(decide (l=l')&&decide (s=s')))
 | .yld i,.yld j=>decide (i=j)
 | .mref i,.mref j=>decide (i=j)
 | .func f a b,.func f' a' b'=>tFn f f'&&(tAs a a'&&tAs b b')
 | .agg a,.agg b=>tAs a b
 | .tuple a,.tuple b=>tAs a b
 |_,_=>false
def tAs:List AV→List AV→Bool
 |[],[]=>true
 |x::l,y::k=>tA x y&&tAs l k
 |_,_=>false
end
mutual
theorem tA_ok:∀a b:AV,tA a b=true→a=b
 | .undef,b,h=>by cases b<;>simp_all [tA]
 | .nilsl,b,h=>by cases b<;>simp_all [tA]
 | .t x,b,h=>by cases b<;>simp only [tA,zF] at h;rw [tT_ok _ _ h]
 | .ptr ..,b,h=>by cases b<;>simp_all [tA]
 | .rptr ..,b,h=>by cases b<;>simp_all [tA]
 | .eptr s c o,b,h=>by cases b<;>simp only [tA,zE,decide_eq_true_eq,zF] at h;rw [h.1,R1 _ _ h.2.1,h.2.2]
 | .sref ..,b,h=>by cases b<;>simp_all [tA]
 | .bsl ..,b,h=>by cases b<;>simp_all [tA]
 | .yld ..,b,h=>by cases b<;>simp_all [tA]
 | .mref ..,b,h=>by cases b<;>simp_all [tA]
 | .func f x y,b,h=>by cases b<;>simp only [tA,zE,zF] at h;rw [tFn_ok _ _ h.1,LO _ _ h.2.1,LO _ _ h.2.2]
 | .agg x,b,h=>by cases b<;>simp only [tA,zF] at h;rw [LO _ _ h]
 | .tuple x,b,h=>by cases b<;>simp only [tA,zF] at h;rw [LO _ _ h]
theorem LO:∀a b:List AV,tAs a b=true→a=b
 |[],b,h=>by cases b<;>simp_all [tAs]
 |x::l,b,h=>by
  cases b with
  |nil=>simp [tAs] at h
  |cons y k=>
   simp only [tAs,zE] at h;rw [tA_ok x y h.1,LO l k h.2]
end
def tO:AF→AF→Bool
 | .box a,.box b=>tAs a b
 | .mapo k ke e,.mapo k' ke' e'=>decide (k=k')&&(decide (ke=ke')&&decide (e=e'))
 | .row f v s e,.row f' v' s' e'=>(f==f')&&(decide (v=v')&&(decide (s=s')&&tLL e e'))
 |_,_=>false
theorem tO_ok:∀a b:AF,tO a b=true→a=b
 | .box a,b,h=>by cases b<;>simp only [tO,zF] at h;rw [LO _ _ h]
 | .row f v s e,b,h=>by cases b<;>simp only [tO,zE,decide_eq_true_eq,beq_iff_eq,zF] at h;rw [h.1,h.2.1,h.2.2.1,Tv _ _ h.2.2.2]
 | .loop l,b,h=>by cases b<;>simp [tO] at h
 | .mapo ..,b,h=>by cases b<;>simp_all [tO]
noncomputable def decBy {α:Type} (t:α→α→Bool) (ok:∀a b,t a b=true→a=b) (a b:α):Decidable (a=b):=
 match h:t a b with
 |true=>isTrue (ok a b h)
 |false=>Classical.propDecidable _
noncomputable instance (priority:=low) dqAny (α:Type):Dq α:=⟨fun _ _=>Classical.propDecidable _⟩
noncomputable instance dqLT:Dq (List Tree):=⟨decBy tL R1⟩
theorem Y8 {α:Type} (i j:Dq α):i=j:=by cases i;cases j;congr;exact Subsingleton.elim _ _
variable {R:Type} [Dq R]
def Env.put (env:Env) (d:Option Tmp) (v:AV):Env:=
 match d with
 |some d=>fun i=>if i=d then v else env i
 |none=>env
structure Hints where
 loop:Nat→List Tmp
 block:Nat→List Tmp
 cond:Tmp→List Tmp
 reg:Nat→List Tmp
 rowsz:Tmp→Nat
 tree:Tmp→Bool
 imm:Tmp→Bool
 immT:TypeId→Bool
 nilT:TypeId→Bool
 tm:Tmp→AV
 split:Tmp→Bool:=fun _=>false
 only:Tmp→Nat:=fun _=>0
 pre:Nat→List Tmp:=fun _=>[]
def IJ (d:List (List Tree)):List Value:=(d.map fun e=>e.map fun x=>Value.int .i64 (intOf x)).flatten
def fnV:Option FuncId→Array Value
 |none => #[]
 |some g => #[.func (.func g) #[] #[]]
structure MC (w w':World):Prop where
 os:w'.os=w.os
 tape:w'.tape=w.tape
 output:w'.output=w.output
 size:w.heap.size≤w'.heap.size
 block:∀b,b<w.heap.size→w'.heap[b]? = w.heap[b]?
structure Zf (P:Program) (g:FuncId) (z m:Nat) (f:Option FuncId) (F:List (List Tree)→List (List Tree)):Prop where
 len:∀d,(F d).length=d.length
 int:∀d,Eh z d=true→Eh z (F d)=true
 nil:∀(a:Option Addr) (w:World),Calls P g (#[.slice a 0 0]++fnV f) w fun e w'=>e = .returned (.tuple #[])∧MC w w'
 run:∀(d:List (List Tree)) (w:World) (b o cap:Nat) (cells:Array Value) (el:TypeId) (fr:Nat×Nat),Eh z d=true→d.length≤m→w.heap[b]? = some (.cells cells el fr)→PS z cells.size fr→o+d.length*z≤cells.size→
  (∀q,q<d.length*z→cells.getD (o+q) undef=(IJ d).getD q undef)→
  Calls P g (#[.slice (some ⟨b,o,none⟩) d.length cap]++fnV f) w fun e w'=>e = .returned (.tuple #[])∧MC (w.setRow b (A3 cells o (IJ (F d)))) w'
def Uw (P:Program) (g:FuncId):Prim→Prop
 | .ins z=>∃ρ:Go.Shelf.Ren,ρ.f 22=g∧Go.Proofs.HS P ρ z
 | .grow z=>∃ρ:Go.Shelf.Ren,ρ.f 4=g∧Go.Proofs.Rn P ρ z
 | .perm z m f F=>Zf P g z m f F
structure Cfg where
 P:Program
 heapful:FuncId→Bool
 own:FuncId→Bool
 reuse:FuncId→Bool
 joinc:FuncId→Bool
 prim:FuncId→Option Prim
 primOk:∀g p,prim g=some p→Uw P g p
 cur:Tmp→Bool
 curT:TypeId→Bool
 curN:TypeId→Bool
 depth:Nat
 hints:FuncId→Hints
 ext:FuncId→List Tree→Option (List Tree):=fun _ _=>none
 own2:FuncId→Option Nat:=fun _=>none
 fnTy:TypeId→Bool:=fun _=>false
 renT:FuncId→TypeId→Option (Tmp×Tmp):=fun _ _=>none
 ren:TypeId→Option (Tmp×Tmp):=fun _=>none
def Cfg.at (C:Cfg) (g:FuncId):Cfg:={C with cur:=(C.hints g).imm,curT:=(C.hints g).immT,curN:=(C.hints g).nilT,ren:=C.renT g}
inductive Req where
 |fn (g:FuncId) (args:List AV)
 |yield (i:Nat) (args:List AV)
abbrev Rec:=∀(R:Type) [Dq R],Req→Heap→(List AV→Heap→Option R)→Option R
abbrev BX:=FuncId→List Tree→Option (List Tree)
def IA (P:Program) (t:TypeId) (leaf:Nat→AV) (off:Nat):Option (AV×Nat):=
 match BF P t,B6 P t with
 |some true,some n=>some (.agg (BK leaf off n),off+n)
 |some false,_=>some (leaf off,off+1)
 |_,_=>none
def Ck (P:Program) (leaf:Nat→AV):List TypeId→Nat→Option (List AV)
 |[],_=>some []
 |t::ts,off=>match IA P t leaf off with
  |some (v,off')=>(Ck P leaf ts off').map (v::·)
  |none=>none
def C7 (P:Program) (g:FuncId) (leaf:Nat→AV):Option AV:=
 match P.funcs[g]? with
 |some fn=>match Ck P leaf fn.resultTypes.toList 0 with
  |some [v]=>some v
  |some vs=>some (.tuple vs)
  |none=>none
 |none=>none
def D3 (P:Program) (g:FuncId) (leaf:Nat→AV):Option (List AV):=
 match P.funcs[g]? with
 |some fn=>Ck P leaf fn.params.toList 0
 |none=>none
def KR (P:Program) (g:FuncId):List TypeId:=
 match P.funcs[g]? with
 |some fn=>(fn.params.toList.map (CD P 16)).flatten
 |none=>[]
def Bm (P:Program) (g:FuncId):List TypeId:=
 match P.funcs[g]? with
 |some fn=>(fn.resultTypes.toList.map (CD P 16)).flatten
 |none=>[]
def X6 (P:Program) (t:TypeId):Bool:=
 match P.underlying t with
 |some (.int _)|some .bool|some .string=>true
 |_=>false
def Co (P:Program) (g:FuncId):Bool:=(Bm P g).all (X6 P)
def Tree.scalar:Tree→Bool
 | .int _ _ | .bool _ | .str _=>true
 |_=>false
def D9 (P:Program):List TypeId→List AV→(List AV→Option R)→Option R
 |[],[],K=>K []
 |t::ts,v::vs,K=>
  match BF P t with
  |some true=>match v with
   | .agg cs=>cnd (B6 P t=some cs.length) (D9 P ts vs fun rs=>K (cs++rs)) none
   |_=>none
  |some false=>cnd (v.leaf=true) (D9 P ts vs fun rs=>K (v::rs)) none
  |none=>none
 |_,_,_=>none
def Ek (h:Heap):AV→Heap
 | .sref i _ _ _=>match h[i]? with
  |some (.row _ v s es)=>h.set i (.row true v s es)
  |_=>h
 |_=>h
def AX (h:Heap) (vs:List AV):Heap:=vs.foldl Ek h
def below:Nat→Nat→AV→Bool
 |0,_,_=>false
 |d+1,m,v=>match v with
  | .undef | .t _ | .nilsl | .eptr _ _ _=>true
  | .ptr i _ | .rptr i _ _ _ | .sref i _ _ _ | .bsl i _ _ _ | .yld i | .mref i=>decide (i<m)
  | .func _ f c=>f.all (below d m)&&c.all (below d m)
  | .agg cs | .tuple cs=>cs.all (below d m)
def H8 (m:Nat):AF→Bool
 | .box cs=>cs.all (below 4 m)
 | .loop l=>decide (l.hl≤m)
 |_=>true
def isT:AV→Bool
 | .t _=>true
 |_=>false
def AG:AV→Tree
 | .t x=>x
 |_=>default
def FN:AV→Nat
 | .sref _ v _ _=>v
 | .rptr _ v _ _=>v
 |_=>0
def HT:AV→Nat
 | .sref _ _ o _=>o
 |_=>0
def HU:AV→Nat
 | .sref _ _ _ l=>l
 |_=>0
def X3 (x0 x:Tree):Bool:=
 match x0 with
 | .int k _=>EO k x
 | .bool _=>EJ x
 | .str _=>FZ x
 | .sl s _=>Fh s x
 |_=>true
def SD (x0 x:Tree):Tree:=
 match x0 with
 | .int k _ =>.int k (intOf x)
 | .bool _ =>.bool (BN x)
 | .str _ =>.str (strOf x)
 | .sl s _ =>.sl s (Cx x)
 |_=>x
def Gg:Nat→AV→AV→Bool
 |0,_,_=>false
 |d+1,v,v'=>match v,v' with
  | .ptr i o,.ptr j p=>i==j&&o==p
  | .yld i,.yld j=>i==j
  | .mref i,.mref j=>i==j
  | .nilsl,.nilsl=>true
  | .func (.func f) a b,.func (.func g) a' b'=>f==g&&sameL d a a'&&sameL d b b'
  |_,_=>false
where
 sameL:Nat→List AV→List AV→Bool
 |_,[],[]=>true
 |d,x::xs,y::ys=>Gg d x y&&sameL d xs ys
 |_,_,_=>false
def JZ (v0 v:AV):Bool:=
 match v0 with
 | .t x0=>isT v&&X3 x0 (AG v)
 | .sref r _ _ _=>match v with
  | .sref r' _ _ _=>r'==r
  |_=>false
 | .rptr r _ k o=>match v with
  | .rptr r' _ k' o'=>r'==r&&(k'==k&&o'==o)
  |_=>false
 | .ptr i o=>Gg 4 (.ptr i o) v
 | .yld i=>Gg 4 (.yld i) v
 | .mref i=>Gg 4 (.mref i) v
 | .func f a b=>Gg 4 (.func f a b) v
 |_=>true
def F4 (v0 v:AV):AV:=
 match v0 with
 | .t x0 =>.t (SD x0 (AG v))
 | .sref r _ _ _ =>.sref r (FN v) (HT v) (HU v)
 | .rptr r _ k o =>.rptr r (FN v) k o
 | .ptr i o =>.ptr i o
 | .yld i =>.yld i
 | .mref i =>.mref i
 | .func f a b =>.func f a b
 |_=>v
def Nr:AF→List (Int×Int)
 | .mapo _ _ es=>es
 |_=>[]
def cellOf (o:AF) (j:Nat):AV:=
 match o with
 | .box cs=>cs.getD j .undef
 |_ =>.undef
def CA:AF→List (List Tree)
 | .row _ _ _ es=>es
 |_=>[]
def EN:List AV→List AV→Bool
 |[],[]=>true
 |c0::cs0,c::cs=>JZ c0 c&&EN cs0 cs
 |_,_=>false
def DK (o:AF):List AV→Nat→List AV
 |[],_=>[]
 |c0::cs0,j=>F4 c0 (cellOf o j)::DK o cs0 (j+1)
def D1:AV→List AV
 | .agg cs=>cs
 |_=>[]
def isAgg:AV→Bool
 | .agg _=>true
 |_=>false
def NK (v0 v:AV):Bool:=
 match v0 with
 | .agg cs0=>isAgg v&&EN cs0 (D1 v)
 |v0=>JZ v0 v
def H2 (v0 v:AV):AV:=
 match v0 with
 | .agg cs0 =>.agg (DK (.box (D1 v)) cs0 0)
 |v0=>F4 v0 v
def WC (tm:Tmp→AV) (env:Env) (i:Tmp):AV:=
 match env i with
 | .undef=>tm i
 |v=>v
def isEptr:AV→Bool
 | .eptr _ _ _=>true
 |_=>false
def isFn0:AV→Bool
 | .func _ [] []=>true
 | .t (.const .nilFunc)=>true
 |_=>false
def isFnV:AV→Bool
 | .func _ _ _=>true
 |_=>false
def GZ:AF→Bool
 | .box cs=>(cs.any fun v=>match v with
  | .func _ _ c=>c.any isEptr
  |_=>false)||(cs.any isFnV&&(cs.all isFn0&&(cs.filter fun v => !isFnV v).length==1))
 |_=>false
def NO:Option Code→Option Code→Bool
 |none,none=>true
 |some .ret,some .ret=>true
 |some (.exit i),some (.exit j)=>i==j
 |_,_=>false
theorem R6 {a b:Option Code} (h:NO a b=true):a=b:=by
 unfold NO at h;split at h
 ·rfl
 ·rfl
 ·simp only [beq_iff_eq] at h;rw [h]
 ·cases h
def Ch (o0 o:AF):Bool:=
 match o0,o with
 | .box cs0,.box cs=>GZ (.box cs0)||EN cs0 cs
 | .row true _ _ _,_=>true
 | .row false _ s0 _,.row f _ s _ => !f&&(s0==0||s==s0)
 | .mapo k ke _,.mapo k' ke' _=>decide (k'=k∧ke'=ke)
 | .loop l0,.loop l=>l.ended==l0.ended&&l.busy==l0.busy&&NO l.pending l0.pending
 |_,_=>false
def busyOf:AF→Bool
 | .loop l=>l.busy
 |_=>false
def pendOf:AF→Option Code
 | .loop l=>l.pending
 |_=>none
def reshape (o0 o:AF):AF:=
 match o0 with
 | .box cs=>if GZ (.box cs) then .box cs else .box (DK o cs 0)
 | .row false _ s0 _ =>.row false o.ver (if s0=0 then o.size else s0) (CA o)
 | .mapo k ke _ =>.mapo k ke (Nr o)
 |o0=>o0
def Hm:Heap→Heap→Bool
 |[],_=>true
 |o0::h0,o::h=>Ch o0 o&&Hm h0 h
 |_::_,[]=>false
def CR:Heap→Nat→Heap→Heap
 |[],_,_=>[]
 |o0::h0,i,hs=>reshape o0 (hs.getD i default)::CR h0 (i+1) hs
def still:AF→Bool
 | .row true _ _ _=>true
 | .loop _=>true
 | .box cs=>GZ (.box cs)
 |_=>false
def X1:Heap→Heap→Heap
 |[],_=>[]
 |o0::h0,o::h=>(if still o0 then .box [] else o)::X1 h0 h
 |_::_,[]=>[]
noncomputable def A8 (x y:AF) (a:Option R):Option R:=@ite _ (x=y) (decBy tO tO_ok x y) a none
noncomputable def W0:Heap→Heap→Option R→Option R
 |[],_,a=>a
 |o0::h0,o::h,a=>if GZ o0 then A8 o0 o (W0 h0 h a) else W0 h0 h a
 |_::_,[],_=>none
noncomputable def Gn (h0:Heap) (h:Heap) (K:Heap→Option R):Option R:=
 cnd (((h.take h0.length).all (H8 h0.length))=true∧Hm h0 h=true) (W0 h0 h (K (X1 h0 h))) none
noncomputable def HV (tm:Tmp→AV) (env0:Env) (h0:Heap) (L:List Tmp) (env:Env) (h:Heap) (K:List AV→Heap→Option R):Option R:=
 cnd ((L.all fun i=>below 4 h0.length (env i)&&NK (WC tm env0 i) (env i))=true) (Gn h0 h fun hs=>K (L.map env) hs) none
def findIdx (i:Tmp):List Tmp→Nat→Option Nat
 |[],_=>none
 |x::xs,k=>if i=x then some k else findIdx i xs (k+1)
def DZ (tm:Tmp→AV) (W L:List Tmp) (env:Env) (s:List AV):Env:=fun i=>
 match findIdx i L 0 with
 |some k=>H2 (WC tm env i) (s.getD k .undef)
 |none=>if W.contains i then .undef else env i
def GI (hi:Hints):List Tmp→Env→Heap→(Env→Heap→Option R)→Option R
 |[],env,h,K=>K env h
 |i::L,env,h,K=>match env i with
  | .nilsl=>if hi.tree i then GI hi L (env.put (some i) (.t (.sl (hi.rowsz i) []))) h K
   else GI hi L (env.put (some i) (.sref h.length 0 0 0)) (h++[.row false 0 (hi.rowsz i) []]) K
  |_=>GI hi L env h K
def join {S:Type} (J:S→Option R) (f:(S→Option R)→Option R):Option R:=f J
def GY (ops:Array Oper) (o:Oper) (env:Env) (K1 K0:Env→Option R):Option R:=
 match o.guard with
 |none=>K1 env
 |some (j,want)=>
  match (ops[j]?).bind (·.dst) with
  |some d=>match env d with
   | .t (.bool b)=>
    cnd (b=true) (if want then K1 (env.put (some d) (.t (.bool true))) else K0 (env.put (some d) (.t (.bool true))))
     (if want then K0 (env.put (some d) (.t (.bool false))) else K1 (env.put (some d) (.t (.bool false))))
   | .tuple []=>K0 env
   |_=>none
  |none=>none
def KV (env:Env):Option Operand→Option AV
 |some x=>some (ev env x)
 |none=>none
def Ly (n:Int):List (Int×Nat)→(AV→Option R)→Option R
 |[],K=>K (.tuple [.undef,.t (.bool false)])
 |p::m,K=>cnd (n=p.1) (K (.tuple [.func (.func p.2) [] [],.t (.bool true)])) (Ly n m K)
def mapTy (P:Program) (t:TypeId) (k:IntKind):Bool:=
 match P.underlying t with
 |some (.map key elem)=>(match P.underlying key with
  |some (.int k')=>decide (k'=k)
  |_=>false)&&((P.info? elem).bind (·.zero)).isSome
 |_=>false
def K8 (P:Program) (t:TypeId) (m x:AV) (K:AV→Option R):Option R:=
 match m,x with
 | .t (.mp k l),.t (.int k' n)=>cnd (k'=k∧mapTy P t k=true) (Ly n l K) none
 |_,_=>none
def VF (P:Program) (elem:TypeId) (ke:IntKind):Bool:=
 match (P.info? elem).bind (·.zero) with
 |some (.int k2 z)=>decide (k2=ke)&&decide (z=0)
 |_=>false
def ID (P:Program) (t:TypeId):Option (IntKind×IntKind):=
 match P.underlying t with
 |some (.map key elem)=>match P.underlying key,P.underlying elem with
  |some (.int k),some (.int ke)=>if VF P elem ke then some (k,ke) else none
  |_,_=>none
 |_=>none
def F6 (n:Int):List (Int×Int)→Option Int
 |[]=>none
 |p::l=>if n=p.1 then some p.2 else F6 n l
def G7 (n v:Int):List (Int×Int)→List (Int×Int)
 |[]=>[(n,v)]
 |p::l=>if n=p.1 then (n,v)::l else p::G7 n v l
def Gs (P:Program) (t:TypeId) (h:Heap) (K:AV→Heap→Option R):Option R:=
 match ID P t with
 |some (k,ke)=>K (.mref h.length) (h++[.mapo k ke []])
 |none=>none
def I9 (P:Program) (t:TypeId) (h:Heap) (m x v:AV) (K:Heap→Option R):Option R:=
 match m,x,v with
 | .mref i,.t (.int kx n),.t (.int kv y)=>match h[i]?,ID P t with
  |some (.mapo k ke es),some (k',ke')=>cnd (k'=k∧ke'=ke∧kx=k∧kv=ke) (K (h.set i (.mapo k ke (G7 n y es)))) none
  |_,_=>none
 |_,_,_=>none
def L0 (P:Program) (t:TypeId) (h:Heap) (i:Nat) (x:AV) (co:Bool) (K:AV→Option R):Option R:=
 match h[i]?,x,ID P t with
 |some (.mapo k ke es),.t (.int kx n),some (k',ke')=>cnd (k'=k∧ke'=ke∧kx=k)
   (K (if co then .tuple [.t (.int ke ((F6 n es).getD 0)),.t (.bool (F6 n es).isSome)] else .t (.int ke ((F6 n es).getD 0)))) none
 |_,_,_=>none
def CU (s:ByteArray) (i:Nat):Int:=match s[i]? with
 |some b=>(b.toNat:Int)
 |none=>0
def Vn:List Tree→Bool
 |[.int .u8 _]=>true
 |_=>false
def Fo (es:List (List Tree)):Bool:=es.all Vn
def JS:List Tree→UInt8
 |[.int .u8 n]=>UInt8.ofNat n.toNat
 |_=>0
def bytesOf (es:List (List Tree)):ByteArray:=(es.map JS).foldl ByteArray.push ByteArray.empty
def L4 (P:Program) (h:Heap) (src dst:TypeId) (x:AV) (K:AV→Option R):Option R:=
 match P.underlying src,P.underlying dst with
 |some (.slice e),some .string=>match P.underlying e with
  |some (.int .u8)=>elems h 1 x fun es=>cnd (Fo es=true) (K (.t (.str (bytesOf es)))) none
  |_=>none
 |_,_=>Ia P src dst x K
def K9 (P:Program) (t:TypeId) (x ix:AV) (K:AV→Option R):Option R:=
 match P.underlying t,x,ix with
 |some .string,.t (.str s),.t (.int _ i)=>cnd (0≤i∧i<(s.size:Int)) (K (.t (.int .u8 (CU s i.toNat)))) none
 |some (.array n e),.agg cs,.t (.int _ i)=>cnd (BF P e=some false∧B6 P e=some 1∧cs.length=n) (cnd (0≤i∧i<n) (KO i n fun j=>K (cs.getD j .undef)) none) none
 |_,_,_=>none
def qop (P:Program) (env:Env) (h:Heap) (op:Op) (K:AV→Option R):Option R:=
 match op with
 | .move x | .assign x=>K (ev env x)
 | .pick c a b=>(asBool (ev env c)).bind fun t=>cnd (t=true) (K (ev env a)) (K (ev env b))
 | .build t parts=>Ok P t (parts.toList.map fun p=>(p.1,ev env p.2)) K
 | .buildSlice t len parts=>EX P t h len (parts.toList.map fun p=>(p.1,ev env p.2)) K
 | .load t a=>JU P t h (ev env a) fun v=>Qq P t v K
 | .binOp op t x y _=>Za P op t (ev env x) (ev env y) K
 | .unOp op _ x=>aun op (ev env x) K
 | .convert src dst x=>L4 P h src dst (ev env x) K
 | .makeFunc fn first captured=>match fn with
  | .yield _=>none
  |fn=>K (.func fn (first.toList.map (ev env)) (captured.toList.map (ev env)))
 | .slice t x lo hi mx=>Lv P t h (ev env x) (KV env lo) (KV env hi) (KV env mx) K
 | .fieldAddr t x f=>Ju P t h (ev env x) f K
 | .indexAddr t x ix=>L3 P t h (ev env x) (ev env ix) K
 | .extract t i=>match ev env t with
  | .tuple vs=>match vs[i]? with
   |some v=>K v
   |none=>none
  |_=>none
 | .nilCheck x=>match ev env x with
  | .ptr i off=>K (.ptr i off)
  | .eptr s c off=>K (.eptr s c off)
  | .func (.func f) a b=>K (.func (.func f) a b)
  | .yld i=>K (.yld i)
  | .rptr i v k off=>K (.rptr i v k off)
  |_=>none
 | .lookup t m x co=>match ev env m with
  | .mref i=>L0 P t h i (ev env x) co K
  |v=>if co then K8 P t v (ev env x) K else none
 | .index t x ix=>K9 P t (ev env x) (ev env ix) K
 | .call {callee :=.builtin .len,args,argTypes}=>match args.toList,argTypes.toList with
  |[x],[t]=>XP P t h (ev env x) K
  |_,_=>none
 | .call {callee :=.builtin .max,args,.. }=>K7 true (args.toList.map (ev env)) K
 | .call {callee :=.builtin .min,args,.. }=>K7 false (args.toList.map (ev env)) K
 |_=>none
noncomputable def nilK (v:AV) (K:Bool→Option R):Option R:=
 match v with
 | .t (.sl _ es)=>cnd (es.length≠0) (K false) (both (K true) (K false))
 | .nilsl=>both (K true) (K false)
 |_=>none
noncomputable def hop (P:Program) (tf:TypeId→Bool) (env:Env) (h:Heap) (op:Op) (K:AV→Heap→Option R):Option R:=
 match op with
 | .alloc t=>match zeroCells? P t with
  |some z=>Eo P t (HW P tf (CD P 16 t) z) h K
  |none=>none
 | .box t x=>match (ev env x).cells with
  |some cs=>Eo P t (HW P tf (CD P 16 t) cs) h K
  |none=>none
 | .store t a x=>GB P t h (ev env a) (nilV P tf t (ev env x)) fun h'=>K .undef h'
 | .binOp .eql t x (.const (.slice none 0 0)) _=>match P.underlying t with
  |some (.slice _)=>nilK (ev env x) fun b=>K (.t (.bool b)) h
  |_=>none
 | .call {callee :=.builtin .append,args,argTypes}=>match args.toList,argTypes.toList with
  |[s,x],[t,t']=>cnd (IW P t t'=true) (if Qn (ev env s) (ev env x) then FB P t h (ev env s) (ev env x) K else Er P t h (ev env s) (ev env x) K) none
  |_,_=>none
 | .call {callee :=.builtin .clear,args,argTypes}=>match args.toList,argTypes.toList with
  |[x],[t]=>Jv P t h (ev env x) fun h'=>K (.tuple []) h'
  |_,_=>none
 | .call {callee :=.builtin .copy,args,argTypes}=>match args.toList,argTypes.toList with
  |[d,x],[t,_]=>Oi P t h (ev env d) (ev env x) K
  |_,_=>none
 | .makeSlice t n c=>Oe P t h (ev env n) (ev env c) K
 | .makeMap t none=>Gs P t h K
 | .mapUpdate t m x v=>I9 P t h (ev env m) (ev env x) (ev env v) fun h'=>K .undef h'
 |_=>none
def BC:Op→Bool
 | .binOp .eql _ _ (.const (.slice none 0 0)) _=>true
 | .alloc _ | .box _ _ | .store _ _ _ | .makeSlice _ _ _=>true
 | .makeMap _ none | .mapUpdate _ _ _ _=>true
 | .call {callee :=.builtin .append,.. } | .call {callee :=.builtin .clear,.. } | .call {callee :=.builtin .copy,.. }=>true
 |_=>false
def isCall:Op→Bool
 | .call {callee :=.value _,.. }=>true
 |_=>false
def Ir (P:Program) (g:FuncId):List TypeId:=
 match P.funcs[g]? with
 |some fn=>fn.params.toList
 |none=>[]
def trim (m:Nat) (rs:List AV) (h:Heap):Heap:=if rs.all (below 4 m)&&(h.take m).all (H8 m) then h.take m else h
def GU (h:Heap):List AV→Option (Nat×Nat)
 |[]=>none
 | .sref i _ _ _::_=>match h[i]? with
  |some (.row false v _ _)=>some (i,v)
  |_=>none
 |_::vs=>GU h vs
def Qx (i:Nat) (ls:List AV):Bool:=ls.all fun v=>match v with
 | .sref j _ _ _=>j==i
 |_=>true
def Qt (reuse:Bool) (h:Heap) (ls:List AV) (z:Nat) (es:List (List Tree)) (K:AV→Heap→Option R):Option R:=
 match (if reuse then GU h ls else none) with
 |some (i,v)=>if Qx i ls then K (.sref i (v+1) 0 es.length) (h.set i (.row false (v+1) z es)) else none
 |none=>K (.sref (AX h ls).length 0 0 es.length) (AX h ls++[.row false 0 z es])
def tyT (P:Program) (t:TypeId):AV:=
 match P.underlying t with
 |some (.int k)=>.t (.int k 0)
 |some .bool =>.t (.bool false)
 |some .string =>.t (.str ByteArray.empty)
 |_ =>.undef
def CG (P:Program):List TypeId→List AV→Bool
 |[],[]=>true
 |t::ts,v::vs=>isT v&&JZ (tyT P t) v&&CG P ts vs
 |_,_=>false
def Hz (P:Program) (s:List AV):List TypeId→Nat→List AV
 |[],_=>[]
 |t::ts,k=>F4 (tyT P t) (s.getD k .undef)::Hz P s ts (k+1)
def OWN:Nat:=1000000
def FT:Nat:=2000000
noncomputable def GO (C:Cfg) (rec:Rec) (pc:BX) (q:Bool) (g:FuncId) (avs:List AV) (h:Heap) (K:AV→Heap→Option R):Option R:=
 if C.own g then
  if q then none else
  D9 C.P (Ir C.P g) avs fun ls=>EF C.P true (AX h ls) (KR C.P g) ls fun xs=>match C.own2 g with
   |some j=>cnd (j<64) ((pc (FT+(64*g+j)) xs).bind fun ys=>KL C.P (Bm C.P g) ys fun ys=>match ys[j]? with
     |some (.sl z es)=>(match C7 C.P g (fun i=>if i=j then .sref (AX h ls).length 0 0 es.length else .t (ys.getD i default)) with
      |some v=>K v (AX h ls++[.row false 0 z es])
      |none=>none)
     |_=>none) none
   |none=>(pc (OWN+g) xs).bind fun ys=>
    match Bm C.P g with
    |[t]=>(Fc C.P t).bind fun z=>cnd (g<OWN) (cnd (ys.length=1∧Fh z (ys.getD 0 default)=true) (Qt (C.reuse g) h ls z (Cx (ys.getD 0 default)) K) none) none
    |_=>none
 else if C.heapful g then
  if q then none else match C.prim g with
  |some p=>aprim p h avs K
  |none=>if C.joinc g then
    join (fun (p:List AV×Heap)=>match C7 C.P g (fun i=>(Hz C.P p.1 (Bm C.P g) 0).getD i .undef) with
      |some v=>K v (CR h 0 p.2)
      |none=>none)
     fun J=>rec R (.fn g avs) h fun rs h1=>cnd (CG C.P (Bm C.P g) rs=true) (Gn h h1 fun hs=>J (rs,hs)) none
   else rec R (.fn g avs) h fun rs h1=>match C7 C.P g (fun i=>rs.getD i .undef) with
    |some v=>K v (trim h.length rs h1)
    |none=>none
 else
  D9 C.P (Ir C.P g) avs fun ls=>
   let h1:=if q||Co C.P g then h else AX h ls
   EF C.P (!Co C.P g) h1 (KR C.P g) ls fun xs=>cnd (g<OWN) ((pc g xs).bind fun ys=>KL C.P (Bm C.P g) ys fun ys=>
    match C7 C.P g (fun i =>.t (ys.getD i default)) with
    |some v=>K v h1
    |none=>none) none
def enters (P:Program) (g:FuncId):Bool:=
 match P.funcs[g]? with
 | some fn => fn.body.isSome && !(fn.name == "runtime.NumGoroutine")
 |none=>false
noncomputable def OS (C:Cfg) (rec:Rec) (pc:BX) (q:Bool) (f:AV) (args:List AV) (h:Heap) (K:AV→Heap→Option R):Option R:=
 match f with
 | .func (.func g) first captured=>cnd (enters C.P g=true) (GO C rec pc q g (first++args++captured) h K) none
 | .t (.const (.func (.func g) ⟨[]⟩ ⟨[]⟩))=>cnd (enters C.P g=true) (GO C rec pc q g args h K) none
 | .yld i=>if q then none else rec R (.yield i args) h fun rs h1=>K (rs.getD 0 .undef) (trim h.length [rs.getD 0 .undef] h1)
 |_=>none
def EK:Operand→Nat
 | .tmp t=>t
 |_=>0
inductive Imm where
 |box (t:TypeId) (x:Operand)
 |alloc (t:TypeId)
 |store (t:TypeId) (a x:Operand)
 |ren (t:TypeId) (d:Tmp×Tmp)
 |no
def CQ (C:Cfg):Op→Imm
 | .box t x=>if C.cur (EK x) then .box t x else .no
 | .alloc t=>match C.ren t with
  |some d =>.ren t d
  |none=>if C.curT t then .alloc t else .no
 | .store t a x=>if C.curT t then .store t a x else .no
 |_ =>.no
def Lt (P:Program) (t:TypeId) (v:AV) (h:Heap) (K:AV→Option R):Option R:=
 match v.cells,B6 P t with
 |some cs,some n=>cnd (cs.length=n) (EF P true h (CD P 16 t) cs fun xs=>K (.eptr n xs 0)) none
 |_,_=>none
def Gt (P:Program) (t:TypeId) (h:Heap) (K:AV→Heap→Option R):Option R:=
 match zeroCells? P t,B6 P t with
 |some z,some n=>cnd (n≠0∧z.length=n) (EF P true h (CD P 16 t) z fun xs=>K (.rptr h.length 0 0 0) (h++[.row false 0 n [xs]])) none
 |_,_=>none
def Of (P:Program) (tf:TypeId→Bool) (t:TypeId) (v u:AV) (h:Heap) (K:AV→Heap→Option R):Option R:=
 match zeroCells? P t,B6 P t with
 |some z,some n=>cnd (n≠0∧z.length=n) (EF P true h (CD P 16 t) z fun xs=>match v with
  | .rptr i _ _ _=>(match u with
   | .agg _=>(match h[i]? with
    |some (.row false ver _ _)=>K (.rptr i (ver+1) 0 0) (h.set i (.row false (ver+1) n [xs]))
    |_=>none)
   |_=>Eo P t (HW P tf (CD P 16 t) z) h K)
  |_=>K (.rptr h.length 0 0 0) (h++[.row false 0 n [xs]])) none
 |_,_=>none
def Mn:AV→AV
 | .rptr i _ _ _ =>.sref i 0 0 0
 |_ =>.undef
noncomputable def Ae (C:Cfg) (rec:Rec) (pc:BX) (q:Bool) (env:Env) (h:Heap) (op:Op) (K:AV→Heap→Option R):Option R:=
 if BC op then (if q then none else match CQ C op with
  | .box t x=>Lt C.P t (ev env x) h fun v=>K v h
  | .alloc t=>Gt C.P t h K
  | .ren t d=>Of C.P C.curN t (env d.1) (env d.2) h K
  | .store t a x=>GB C.P t h (ev env a) (ev env x) fun h'=>K .undef (Ek h' (Mn (ev env a)))
  | .no=>hop C.P C.curN env h op K)
 else match op with
  | .call {callee :=.value f,args,.. }=>OS C rec pc q (ev env f) (args.toList.map (ev env)) h K
  | .convert src dst x=>if PC C.P src dst then (if q then none else Lx h (ev env x) K) else qop C.P env h (.convert src dst x) fun v=>K v h
  | .buildSlice t len parts=>if C.fnTy t then (if q then none else FA C.P t h len (parts.toList.map fun p=>(p.1,ev env p.2)) K) else qop C.P env h (.buildSlice t len parts) fun v=>K v h
  |op=>qop C.P env h op fun v=>K v h
def Kw (N:Nat) (o:Oper):Bool:=
 match o.dst with
 |some d=>decide (d<N)
 |none=>true
noncomputable def En (C:Cfg) (rec:Rec) (pc:BX) (N:Nat) (q:Bool) (ops:Array Oper):List Oper→Env→Heap→(Env→Heap→Option R)→Option R
 |[],env,h,K=>K env h
 |o::rest,env,h,K=>cnd (Kw N o=true) (GY ops o env (fun env=>Ae C rec pc q env h o.op fun v h'=>En C rec pc N q ops rest (env.put o.dst v) h' K)
    (fun env=>En C rec pc N q ops rest (env.put o.dst (.tuple [])) h K)) none
def G6 (acc:List Nat) (o:Oper):Nat:=o.after.toList.foldl (fun s e=>if Region.binds .any e then s ||| (2 ^ e.on ||| acc.getD e.on 0) else s) 0
def E1:List Oper→List Nat→List Nat
 |[],acc=>acc
 |o::os,acc=>E1 os (acc++[G6 acc o])
def AP (ops:Array Oper):List Nat:=E1 ops.toList []
def EP (b:List Nat) (size n:Nat):Bool:=(List.range size).all fun j=>decide (j<n)||(b.getD j 0==2 ^ j-1)
def QD (b:List Nat) (size:Nat):Nat:=
 match ((List.range (size+1)).find? fun n=>EP b size n) with
 |some n=>n
 |none=>size
def HA (ops:Array Oper):Bool:=(List.range ops.size).all fun j=>match ops[j]? with
 |some o=>o.after.toList.all fun e => !Region.binds .any e||decide (e.on<j)
 |none=>true
def drawOk (ops:Array Oper) (b:List Nat) (n:Nat):Bool:=
 (List.range n).all fun j=>(List.range j).all fun i=>(b.getD j 0).testBit i||(match ops[i]?,ops[j]? with
  |some x,some y=>x.apart ops y
  |_,_=>false)
def An (C:Cfg):Op→Bool
 | .alloc t=>(C.ren t).isNone
 | .box _ _ | .store _ _ _ | .makeSlice _ _ _=>true
 | .makeMap _ none | .mapUpdate _ _ _ _=>true
 | .call {callee :=.builtin .append,.. } | .call {callee :=.builtin .clear,.. } | .call {callee :=.builtin .copy,.. }=>true
 | .call {callee :=.value (.func g),.. }=>C.own g
 | .buildSlice t _ _=>C.fnTy t
 | .convert src dst _=>PC C.P src dst
 |_=>false
def Cv (C:Cfg):Op→Bool
 | .call {callee :=.value (.func g),.. }=>C.heapful g && !C.own g
 |_=>false
def HX:Nat→AV→Bool
 |0,_=>false
 |d+1,v=>match v with
  | .undef | .t _ | .nilsl | .eptr _ _ _=>true
  | .func _ f c=>f.all (HX d)&&c.all (HX d)
  | .agg cs | .tuple cs=>cs.all (HX d)
  |_=>false
def Bp:AV→Option Nat
 | .ptr i _ | .rptr i _ _ _ | .sref i _ _ _ | .bsl i _ _ _ | .mref i=>some i
 |_=>none
def HG:Op→Bool
 | .move _ | .assign _ | .pick _ _ _ | .build _ _ | .binOp _ _ _ _ _ | .unOp _ _ _ | .makeFunc _ _ _ | .extract _ _ | .nilCheck _=>true
 | .call {callee :=.builtin .max,.. } | .call {callee :=.builtin .min,.. }=>true
 |_=>false
def Qs (S:List Nat) (v:AV):Bool:=HX 4 v||(match Bp v with
 |some i=>decide (i<1024)&&S.contains i
 |none=>false)
def JO (i off n:Nat):Nat:=i+1024*(1+(off+4096*n))
def ob (c:Nat):Nat:=if c<1024 then c else c % 1024
def J4 (off n:Nat):AF→AF
 | .box cs =>.box (.yld cs.length::(List.range n).map fun j=>cs.getD (off+j) .undef)
 |o=>o
def At (h:Heap) (c:Nat):Option AF:=if c<1024 then h[c]? else (h[c % 1024]?).map (J4 ((c / 1024-1) % 4096) ((c / 1024-1) / 4096))
def ldN (P:Program) (t:TypeId):Option Nat:=
 match BF P t with
 |some true=>B6 P t
 |some false=>some 1
 |none=>none
def partAt (P:Program) (S:List Nat) (env:Env):Op→Bool
 | .load t a=>match ev env a,ldN P t with
  | .ptr i off,some n=>decide (i<1024∧off<4096)&&S.contains (JO i off n)
  |_,_=>false
 | .fieldAddr _ x _=>match ev env x with
  | .ptr _ _=>true
  |_=>false
 |_=>false
def G8 (P:Program) (S:List Nat) (env:Env) (op:Op):Bool:=HG op||(partAt P S env op||op.operands.toList.all fun x=>Qs S (ev env x))
def Ff (env:Env):Op→List Nat
 | .store _ a _=>(Bp (ev env a)).toList
 | .mapUpdate _ m _ _=>(Bp (ev env m)).toList
 | .call {callee :=.builtin _,args,.. }=>match args.toList with
  |s::_=>(Bp (ev env s)).toList
  |[]=>[]
 | .call {callee :=.value _,args,.. }=>(args.toList.map fun x=>match (ev env x).cells with
  |some cs=>cs.filterMap Bp
  |none=>[]).flatten
 |_=>[]
def Ur (S T:List Nat):Bool:=S.all fun c => !T.contains (ob c)
def H7 (c off n:Nat):Bool:=decide (1024≤c)&&(decide ((c / 1024-1) % 4096+(c / 1024-1) / 4096≤off)||decide (off+n≤(c / 1024-1) % 4096))
def Jt (P:Program) (S:List Nat) (env:Env) (op:Op):Bool:=Ur S (Ff env op)||(match op with
 | .store t a _=>match ev env a,B6 P t with
  | .ptr i off,some n=>S.all fun c=>decide (ob c≠i)||H7 c off n
  |_,_=>false
 |_=>false)
def Bd (S:List Nat) (h:Heap):Bool:=S.all fun c=>decide (ob c<h.length)
def Bb (C:Cfg) (ops:Array Oper) (i:Nat):Bool:=
 match ops[i]? with
 |some o=>An C o.op||Cv C o.op
 |none=>false
def Ea (b:List Nat) (i j:Nat):Bool:=if i<j then !((b.getD j 0).testBit i) else !((b.getD i 0).testBit j)
def A1 (C:Cfg) (ops:Array Oper) (b:List Nat) (n i:Nat):Bool:=(List.range n).any fun j=>Bb C ops j&&(j != i)&&Ea b i j
def drawOk2 (C:Cfg) (ops:Array Oper) (b:List Nat) (n:Nat):Bool:=
 (List.range n).all fun j=>(List.range j).all fun i=>(b.getD j 0).testBit i||(!(Bb C ops i&&Bb C ops j)&&(match ops[i]?,ops[j]? with
  |some x,some y=>x.apart ops y
  |_,_=>false))
noncomputable def CB (C:Cfg) (rec:Rec) (pc:BX) (N:Nat) (ops:Array Oper) (S:List Nat) (nf:Nat→Bool):List Nat→Env→Heap→(Env→Heap→Option R)→Option R
 |[],env,h,K=>K env h
 |i::l,env,h,K=>match ops[i]? with
  |some o=>cnd (Kw N o=true∧(nf i=true→G8 C.P S env o.op=true)∧Bd S h=true∧(An C o.op=true→Jt C.P S env o.op=true)) (GY ops o env (fun env=>Ae C rec pc (!An C o.op) env h o.op fun v h'=>CB C rec pc N ops S nf l (env.put o.dst v) h' K)
    (fun env=>CB C rec pc N ops S nf l (env.put o.dst (.tuple [])) h K)) none
  |none=>none
def ZI (ops:List Oper) (env:Env) (h:Heap):Nat→Operand→List Nat
 |0,_=>[]
 |d+1,.tmp t=>match ops.find? (fun o=>o.dst==some t) with
  |some o=>match o.op with
   | .move x | .assign x | .nilCheck x | .fieldAddr _ x _ | .indexAddr _ x _ | .slice _ x _ _ _=>ZI ops env h d x
   | .load _ a=>((ZI ops env h d a).map fun i=>match h[i]? with
    |some (.box cs)=>cs.filterMap Bp
    |_=>[]).flatten
   |_=>[]
  |none=>(Bp (env t)).toList
 |_,_=>[]
def RN (P:Program) (ops:List Oper) (env:Env):Nat→Operand→AV
 |d+1,.tmp t=>match ops.find? (fun o=>o.dst==some t) with
  |some o=>match o.op with
   | .move x | .assign x | .nilCheck x=>RN P ops env d x
   | .fieldAddr ty x f=>match RN P ops env d x,IK P ty f with
    | .ptr i off,some k =>.ptr i (off+k)
    |_,_ =>.undef
   |_ =>.undef
  |none=>env t
 |_,_ =>.undef
def looksOf (P:Program) (ops:List Oper) (env:Env) (h:Heap) (op:Op):List Nat:=
 let all:=(op.operands.toList.map (ZI ops env h 8)).flatten
 match op with
 | .load t a=>match RN P ops env 8 a,ldN P t with
  | .ptr i off,some n=>if i<1024∧off<4096 then [JO i off n] else all
  |_,_=>all
 | .fieldAddr _ x _=>match RN P ops env 8 x with
  | .ptr _ _=>[]
  |_=>all
 |_=>all
def looks (P:Program) (ops:Array Oper) (nf:Nat→Bool) (n:Nat) (env:Env) (h:Heap):List Nat:=
 (((List.range n).map fun i=>match ops[i]? with
  |some o=>if nf i && !HG o.op then looksOf P ops.toList env h o.op else []
  |none=>[]).flatten.eraseDups).filter fun c=>decide (ob c<h.length)
def F3:List AV→List AV→Bool
 |[],[]=>true
 | .ptr i o::xs,.ptr j p::ys=>i==j&&o==p&&F3 xs ys
 | .yld i::xs,.yld j::ys=>i==j&&F3 xs ys
 |_,_=>false
def sameAt (h h':Heap) (i:Nat):Bool:=
 match At h i,At h' i with
 |some (.box xs),some (.box ys)=>F3 xs ys
 |_,_=>false
def Yu (ops:Array Oper):Bool:=ops.toList.any (·.guard.isSome)
def dsts (ops:Array Oper):List Tmp:=ops.toList.filterMap (·.dst)
def writes:Code→List Tmp
 | .region _ ops _=>dsts ops
 | .seq a b=>writes a++writes b
 | .cond _ a b=>writes a++writes b
 | .block _ a=>writes a
 | .loop a=>writes a
 | .scope a=>writes a
 |_=>[]
def MQ:Code→Bool
 | .ret | .exit _ | .goto _ | .loop _ | .refuse _=>false
 | .seq a b=>MQ a&&MQ b
 | .cond _ a b=>MQ a||MQ b
 |_=>true
def Kq (id:Nat):Code→Nat
 | .exit i=>if i=id then 1 else 0
 | .seq a b=>Kq id a+Kq id b
 | .cond _ a b=>Kq id a+Kq id b
 | .block _ a=>Kq id a
 | .loop a=>Kq id a
 | .scope a=>Kq id a
 | .rangeFunc _ _ _ a=>Kq id a
 |_=>0
def C9:Code→Nat
 | .region id _ _=>id
 | .seq a _=>C9 a
 | .cond _ a _=>C9 a
 | .block _ a=>C9 a
 | .loop a=>C9 a
 | .scope a=>C9 a
 |_=>0
noncomputable def Sm (C:Cfg) (rec:Rec) (pc:BX) (N:Nat) (S:List Nat) (o:Oper) (env:Env) (h:Heap) (K:Env→Heap→Option R):Option R:=
 cnd (Kw N o=true∧o.guard=none) (Ae C rec pc false env h o.op fun v h'=>cnd (S.all (sameAt h h')=true) (K (env.put o.dst v) h') none) none
def ZM (C:Cfg) (ops:Array Oper) (b:List Nat) (n:Nat):List (Nat×Nat):=
 ((List.range n).map fun j=>((List.range j).filter fun i => !(b.getD j 0).testBit i&&(Bb C ops i&&Bb C ops j)).map fun i=>(i,j)).flatten
def drawOkP (C:Cfg) (ops:Array Oper) (b:List Nat) (n i0 j0:Nat):Bool:=
 (List.range n).all fun j=>(List.range j).all fun i=>(b.getD j 0).testBit i||(i==i0&&j==j0)||(!(Bb C ops i&&Bb C ops j)&&(match ops[i]?,ops[j]? with
  |some x,some y=>x.apart ops y
  |_,_=>false))
def Jg (b:List Nat) (n i0 j0:Nat):List Nat:=
 ((List.range n).filter fun k=>decide (k≤j0) && !(k==i0||(b.getD k 0).testBit i0))++(((List.range n).filter fun k=>decide (k≤j0)&&(k==i0||(b.getD k 0).testBit i0))++(List.range n).filter fun k=>decide (j0<k))
def Vg (b:List Nat):List Nat→Bool
 |[]=>true
 |x::l=>l.all (fun y => !(b.getD x 0).testBit y)&&Vg b l
def UF (C:Cfg) (ops:Array Oper) (b:List Nat) (n i0 j0:Nat):Bool:=
 drawOkP C ops b n i0 j0&&((Jg b n i0 j0).isPerm (List.range n)&&(Vg b (Jg b n i0 j0)&&decide ((Jg b n i0 j0).idxOf j0<(Jg b n i0 j0).idxOf i0)))
def Ki:Op→Bool
 | .call {callee :=.value _,.. }=>true
 |_=>false
def Um (ops:List Oper) (env:Env) (h:Heap):Nat→Operand→AV
 |d+1,.tmp t=>match ops.find? (fun o=>o.dst==some t) with
  |some o=>(match o.op with
   | .move x | .assign x=>Um ops env h d x
   | .load _ x=>(match Um ops env h d x with
    | .ptr j off=>(match h[j]? with
     |some (.box cs)=>cs.getD off .undef
     |_ =>.undef)
    |_ =>.undef)
   |_ =>.undef)
  |none=>env t
 |_,x=>ev env x
def TE (C:Cfg) (ops:Array Oper) (env:Env) (h:Heap) (o:Oper):Bool:=
 match o.op with
 | .call {callee :=.value (.tmp t),.. }=>(match Um ops.toList env h 4 (.tmp t) with
  | .func (.func g) _ _=>C.heapful g && !C.own g
  |_=>false)
 |_=>false
def Vk (C:Cfg) (ops:Array Oper) (lo hi:Nat) (env:Env) (h:Heap):Option Nat:=
 (List.range hi).find? fun i=>decide (lo≤i)&&match ops[i]? with
  |some o=>TE C ops env h o||Cv C o.op
  |none=>false
def midAny (C:Cfg) (ops:Array Oper) (n:Nat) (env:Env) (h:Heap):Bool:=
 (List.range n).any fun i=>match ops[i]? with
  |some o=>TE C ops env h o||(Cv C o.op&&decide (i+1≠n))
  |none=>false
def cutAt (b:List Nat) (size k:Nat):Bool:=(List.range size).all fun j=>decide (j<k)||(List.range k).all fun i=>(b.getD j 0).testBit i
def V9 (b:List Nat) (size n:Nat):List Nat:=(List.range (n+1)).filter fun k=>decide (0<k)&&cutAt b size k
def Lm (b:List Nat) (size n:Nat):List Nat→Nat→Bool
 |[],lo=>lo==n
 |k::ks,lo=>decide (lo<k∧k≤n)&&(cutAt b size k&&Lm b size n ks k)
def C8 (C:Cfg) (ops:Array Oper) (m0:Option Nat) (i:Nat):Bool:=Bb C ops i||m0==some i
def nf3 (C:Cfg) (ops:Array Oper) (b:List Nat) (lo hi:Nat) (m0:Option Nat) (i:Nat):Bool:=(List.range hi).any fun j=>decide (lo≤j)&&(C8 C ops m0 j&&(j != i)&&Ea b i j)
def MG (C:Cfg) (ops:Array Oper) (b:List Nat) (lo hi:Nat) (m0:Option Nat):Bool:=
 ((List.range hi).all fun j=>decide (j<lo)||(List.range j).all fun i=>decide (i<lo)||((b.getD j 0).testBit i||(!(C8 C ops m0 i&&C8 C ops m0 j)&&(match ops[i]?,ops[j]? with
  |some x,some y=>x.apart ops y
  |_,_=>false))))&&(match m0 with
  |some m=>decide (lo≤m∧m<hi)&&(List.range hi).all fun j=>decide (j<lo) || !(b.getD j 0).testBit m
  |none=>true)
noncomputable def Pd (h h':Heap) (i:Nat) (a:Option R):Option R:=
 match At h i,At h' i with
 |some x,some y=>A8 x y a
 |_,_=>none
noncomputable def FE (h h':Heap):List Nat→Option R→Option R
 |[],a=>a
 |i::S,a=>Pd h h' i (FE h h' S a)
noncomputable def Ny (C:Cfg) (rec:Rec) (pc:BX) (N:Nat) (ops:Array Oper) (S:List Nat) (o:Oper) (env:Env) (h:Heap) (K:Env→Heap→Option R):Option R:=
 cnd (Kw N o=true) (GY ops o env (fun env=>Ae C rec pc false env h o.op fun v h'=>FE h h' S (K (env.put o.dst v) h'))
  (fun env=>cnd (Bd S h=true) (K (env.put o.dst (.tuple [])) h) none)) none
def Jo (b:List Nat) (lo m:Nat) (u:Option Nat) (i:Nat):Bool:=
 decide (lo≤i)&&(i != m&&(!((b.getD i 0).testBit m)&&(match u with
  |some u=>i != u && !((b.getD i 0).testBit u)
  |none=>true)))
def GJ (b:List Nat) (lo m:Nat) (u:Option Nat) (i:Nat):Bool:=decide (lo≤i)&&(i != m && !Jo b lo m u i)
def Lc (m:Nat) (u:Option Nat) (i j:Nat):Bool:=
 match u with
 |some u=>(i==m&&j==u)||(i==u&&j==m)
 |none=>false
def Ub (b:List Nat) (lo hi m:Nat) (v:Option Nat):Bool:=
 (List.range hi).all fun y => !Jo b lo m v y||(List.range hi).all fun x=>decide (x<lo)||(Jo b lo m v x || !((b.getD y 0).testBit x))
def UG (C:Cfg) (ops:Array Oper) (b:List Nat) (lo hi m:Nat) (u:Option Nat):Bool:=
 ((List.range hi).all fun j=>decide (j<lo)||(List.range j).all fun i=>decide (i<lo)||((b.getD j 0).testBit i||(Lc m u i j||(!(C8 C ops (some m) i&&C8 C ops (some m) j)&&(match ops[i]?,ops[j]? with
  |some x,some y=>x.apart ops y
  |_,_=>false))))) &&
 (decide (lo≤m∧m<hi)&&(((List.range hi).all fun i=>(decide (m<i) || !((b.getD i 0).testBit m))&&(match u with
  |some u=>decide (u<i) || !((b.getD i 0).testBit u)
  |none=>true))&&(Ub b lo hi m none&&(match u with
  |some u=>u != m&&Ub b lo hi m (some u)
  |none=>true))))
def ordU (C:Cfg) (ops:Array Oper) (b:List Nat) (lo hi m:Nat):Option Nat:=
 (List.range hi).find? fun i=>decide (lo≤i)&&(i != m&&(Bb C ops i&&Ea b i m))
noncomputable def UH (C:Cfg) (rec:Rec) (pc:BX) (N:Nat) (ops:Array Oper) (b:List Nat) (lo hi m:Nat) (u:Option Nat) (S:List Nat) (nf:Nat→Bool) (o:Oper) (env:Env) (h:Heap) (K:Env→Heap→Option R):Option R:=
 CB C rec pc N ops S nf ((List.range hi).filter (Jo b lo m u)) env h fun env1 h1=>Ny C rec pc N ops S o env1 h1 fun env2 h2=>CB C rec pc N ops S nf ((List.range hi).filter (GJ b lo m u)) env2 h2 K
def nfS (C:Cfg) (ops:Array Oper) (b:List Nat) (lo hi m0 i:Nat):Bool:=i != m0&&nf3 C ops b lo hi (some m0) i
noncomputable def segK (C:Cfg) (rec:Rec) (pc:BX) (N:Nat) (ops:Array Oper) (b:List Nat) (lo hi:Nat) (env:Env) (h:Heap) (K:Env→Heap→Option R):Option R:=
 match Vk C ops lo hi env h with
 |some m0=>(match ops[m0]? with
  |some o=>if MG C ops b lo hi (some m0)=false then cnd (UG C ops b lo hi m0 (ordU C ops b lo hi m0)=true∧Ki o.op=true)
    (match ordU C ops b lo hi m0 with
    |none=>UH C rec pc N ops b lo hi m0 none (looks C.P ops (nfS C ops b lo hi m0) hi env h) (nf3 C ops b lo hi (some m0)) o env h K
    |some u=>both (UH C rec pc N ops b lo hi m0 none (looks C.P ops (nfS C ops b lo hi m0) hi env h) (nf3 C ops b lo hi (some m0)) o env h K)
     (UH C rec pc N ops b lo hi m0 (some u) (looks C.P ops (nfS C ops b lo hi m0) hi env h) (nf3 C ops b lo hi (some m0)) o env h K)) none
   else cnd (MG C ops b lo hi (some m0)=true∧Ki o.op=true)
   (CB C rec pc N ops (looks C.P ops (nfS C ops b lo hi m0) hi env h) (nf3 C ops b lo hi (some m0)) ((List.range hi).filter fun i=>decide (lo≤i)&&i != m0) env h fun env' h'=>Ny C rec pc N ops (looks C.P ops (nfS C ops b lo hi m0) hi env h) o env' h' K) none
  |none=>none)
 |none=>cnd (MG C ops b lo hi none=true) (CB C rec pc N ops (looks C.P ops (nf3 C ops b lo hi none) hi env h) (nf3 C ops b lo hi none) ((List.range hi).filter fun i=>decide (lo≤i)) env h K) none
noncomputable def Pc (C:Cfg) (rec:Rec) (pc:BX) (N:Nat) (ops:Array Oper) (b:List Nat):List Nat→Nat→Env→Heap→(Env→Heap→Option R)→Option R
 |[],_,env,h,K=>K env h
 |k::ks,lo,env,h,K=>segK C rec pc N ops b lo k env h fun env' h'=>Pc C rec pc N ops b ks k env' h' K
def ptrBox (h:Heap) (i:Nat):Bool:=
 match At h i with
 |some (.box cs)=>cs.all fun v=>match v with
  | .ptr _ _=>true
  | .yld _=>true
  |_=>false
 |_=>false
def lastBad (C:Cfg) (ops:Array Oper) (nf:Nat→Bool) (n:Nat) (env:Env) (h:Heap):Bool:=
 (match n with
 |m+1=>(match ops[m]? with
  |some o=>Cv C o.op
  |none=>false)
 |0=>false) && !((looks C.P ops nf n env h).all (ptrBox h))
noncomputable def Mp (C:Cfg) (rec:Rec) (pc:BX) (N:Nat) (ops:Array Oper) (draw:Bool) (env:Env) (h:Heap) (K:Env→Heap→Option R):Option R:=
 if draw then
  let b:=AP ops;let n:=QD b ops.size;let nf:=A1 C ops b n
  match (if (Vk C ops 0 n env h).isSome then [] else ZM C ops b n) with
  |[(i0,j0)]=>cnd (UF C ops b n i0 j0=true∧EP b ops.size n=true∧HA ops=true∧n≤ops.size)
    (both (CB C rec pc N ops (looks C.P ops nf n env h) nf (List.range n) env h fun env' h'=>En C rec pc N false ops (ops.toList.drop n) env' h' K)
     (CB C rec pc N ops (looks C.P ops nf n env h) nf (Jg b n i0 j0) env h fun env' h'=>En C rec pc N false ops (ops.toList.drop n) env' h' K)) none
  |_=>match midAny C ops n env h||lastBad C ops nf n env h with
   |true=>cnd (Lm b ops.size n (V9 b ops.size n) 0=true∧EP b ops.size n=true∧HA ops=true∧n≤ops.size)
     (Pc C rec pc N ops b (V9 b ops.size n) 0 env h fun env' h'=>En C rec pc N false ops (ops.toList.drop n) env' h' K) none
   |false=>cnd (drawOk2 C ops b n=true∧EP b ops.size n=true∧HA ops=true∧n≤ops.size) (match (match n with
    |m+1=>match ops[m]? with
     |some o=>if Cv C o.op then some (m,o) else none
     |none=>none
    |0=>none) with
   |some (m,o)=>CB C rec pc N ops (looks C.P ops nf n env h) nf (List.range m) env h fun env' h'=>Sm C rec pc N (looks C.P ops nf n env h) o env' h' fun env' h'=>En C rec pc N false ops (ops.toList.drop n) env' h' K
   |none=>CB C rec pc N ops (looks C.P ops nf n env h) nf (List.range n) env h fun env' h'=>En C rec pc N false ops (ops.toList.drop n) env' h' K) none
 else En C rec pc N false ops ops.toList env h K
def AH {S:Type} (body:S→(S→Option R)→Option R):Nat→S→Option R
 |0,_=>none
 |n+1,s=>body s (AH body n)
def Ua:Code→Option Exit
 | .ret=>some .ret
 | .exit id=>some (.exit id)
 |_=>none
def UQ (h:Heap) (i:Nat):Option (Option Code):=
 match h[i]? with
 |some (.loop l)=>if l.busy||l.ended then none else some l.pending
 |_=>none
def varCall (ops:Array Oper):Bool:=ops.toList.any fun o=>match o.op with
 | .call {callee :=.value (.tmp _),.. }=>true
 |_=>false
noncomputable def DT (C:Cfg) (hi:Hints) (fn:FuncId) (N:Nat) (rec:Rec) (pc:BX) (fuel:Nat):Code→Env→Heap→(Exit→Env→Heap→Option R)→Option R
 | .skip,env,h,K=>K .normal env h
 | .label _,env,h,K=>K .normal env h
 | .ret,env,h,K=>K .ret env h
 | .exit id,env,h,K=>K (.exit id) env h
 | .region id ops draw,env,h,K=>
  if Yu ops && !varCall ops then
   join (fun (p:List AV×Heap)=>K .normal (DZ hi.tm (dsts ops) (hi.reg id) env p.1) (CR h 0 p.2))
    fun J=>Mp C rec pc N ops draw env (AX h ((hi.pre id).map env)) fun env' h'=>HV hi.tm env h (hi.reg id) env' h' fun s hs=>J (s,hs)
  else Mp C rec pc N ops draw env (AX h ((hi.pre id).map env)) fun env' h'=>K .normal env' h'
 | .seq a b,env,h,K=>DT C hi fn N rec pc fuel a env h fun e env' h'=>match e with
  | .normal=>DT C hi fn N rec pc fuel b env' h' K
  |e=>K e env' h'
 | .cond c a b,env,h,K=>(asBool (ev env c)).bind fun t=>
  if hi.only (EK c)=1 then cnd (t=true) (DT C hi fn N rec pc fuel a env h K) none
  else if hi.only (EK c)=2 then cnd (t=true) none (DT C hi fn N rec pc fuel b env h K)
  else if MQ a&&MQ b && !hi.split (EK c) then
   GI hi ((hi.cond (EK c)).filter fun i=>(writes a++writes b).contains i) env h fun env h=>
   join (fun (p:List AV×Heap)=>K .normal (DZ hi.tm (writes a++writes b) (hi.cond (EK c)) env p.1) (CR h 0 p.2))
    fun J=>cnd (t=true) (DT C hi fn N rec pc fuel a env h (fun e env' h'=>match e with
      | .normal=>HV hi.tm env h (hi.cond (EK c)) env' h' fun s hs=>J (s,hs)
      |e=>K e env' h'))
     (DT C hi fn N rec pc fuel b env h (fun e env' h'=>match e with
      | .normal=>HV hi.tm env h (hi.cond (EK c)) env' h' fun s hs=>J (s,hs)
      |e=>K e env' h'))
  else cnd (t=true) (DT C hi fn N rec pc fuel a env h K) (DT C hi fn N rec pc fuel b env h K)
 | .block id a,env,h,K=>
  if Kq id a+(if MQ a then 1 else 0)≤1 then DT C hi fn N rec pc fuel a env h fun e env' h'=>match e with
   | .exit i=>if i=id then K .normal env' h' else K (.exit i) env' h'
   |e=>K e env' h'
  else
   GI hi ((hi.block id).filter fun i=>(writes a).contains i) env h fun env h=>
   join (fun (p:List AV×Heap)=>K .normal (DZ hi.tm (writes a) (hi.block id) env p.1) (CR h 0 p.2))
    fun J=>DT C hi fn N rec pc fuel a env h fun e env' h'=>match e with
     | .normal=>HV hi.tm env h (hi.block id) env' h' fun s hs=>J (s,hs)
     | .exit i=>if i=id then HV hi.tm env h (hi.block id) env' h' fun s hs=>J (s,hs) else K (.exit i) env' h'
     |e=>K e env' h'
 | .loop a,env,h,K=>GI hi ((hi.loop (C9 a)).filter fun i=>(writes a).contains i) env h fun env h=>
  HV hi.tm env h (hi.loop (C9 a)) env h fun s hs=>
   AH (fun (p:List AV×Heap) again=>DT C hi fn N rec pc fuel a (DZ hi.tm (writes a) (hi.loop (C9 a)) env p.1) (CR h 0 p.2) fun e env' h'=>match e with
    | .normal=>HV hi.tm env h (hi.loop (C9 a)) env' h' fun s hs=>again (s,hs)
    |e=>K e env' h') fuel (s,hs)
 | .rangeFunc f params assign body,env,h,K=>match ev env f with
  | .func (.func g) first captured=>if enters C.P g=false then none else
   rec R (.fn g (first++[.yld h.length]++captured)) (h++[.loop {fn,size:=N,env,params:=params.toList,assign,body,busy:=false,pending:=none,ended:=false,hl:=h.length}]) fun _ h1=>
    (UQ h1 h.length).bind fun j=>cnd (((h1.take h.length).all (H8 h.length))=true) (match j with
     |none=>K .normal env (h1.take h.length)
     |some c=>(Ua c).bind fun e=>K e env (h1.take h.length)) none
  |_=>none
 |_,_,_,_=>none
def T7 (P:Program) (env:Env) (h:Heap):List ResultVar→(List AV→Option R)→Option R
 |[],K=>K []
 | .tmp t::rs,K=>T7 P env h rs fun vs=>K (env t::vs)
 | .cell a t::rs,K=>JU P t h (env a) fun v=>T7 P env h rs fun vs=>K (v::vs)
def Gz (h:Heap) (i:Nat) (busy:Bool) (pending:Option Code):Heap:=
 match h[i]? with
 |some (.loop l)=>h.set i (.loop {l with busy,pending})
 |_=>h
def codeOf:Exit→Option Code
 | .ret=>some .ret
 | .exit id=>some (.exit id)
 |_=>none
def Nh (env:Env):List Tmp→List AV→Env
 |t::ts,v::vs=>Nh (env.put (some t) v) ts vs
 |_,_=>env
def Qz:AF→Bool
 | .loop _=>false
 |_=>true
def Qw (h:Heap) (i:Nat):Bool:=
 match h[i]? with
 |some (.loop l)=> !l.ended
 |_=>false
def Qr (h:Heap) (i:Nat):Bool:=
 match h[i]? with
 |some (.loop l)=> !l.ended && !l.busy&&l.pending.isNone
 |_=>false
noncomputable def Et (C:Cfg) (rec:Rec) (pc:BX) (n:Nat) (g:FuncId) (avs:List AV) (h:Heap) (K:List AV→Heap→Option R):Option R:=
 match C.P.funcs[g]? with
 |some fn=>match fn.body with
  |some c=>cnd (avs.length≤fn.ntmps) (DT (C.at g) (C.hints g) g fn.ntmps rec pc n c (fun i=>avs.getD i .undef) h fun e env h'=>match e with
     | .normal | .ret=>cnd (((h'.drop h.length).all Qz)=true) (T7 C.P env h' fn.results.toList fun vs=>D9 C.P fn.resultTypes.toList vs fun rs=>K rs h') none
     |_=>none) none
  |none=>none
 |none=>none
noncomputable def NT (C:Cfg) (rec:Rec) (pc:BX) (n:Nat) (i:Nat) (args:List AV) (h:Heap) (K:List AV→Heap→Option R):Option R:=
 match h[i]? with
 |some (.loop l)=>
  cnd (l.busy=false∧l.ended=false∧l.pending.isNone=true∧args.length=l.params.length∧(l.params.all fun t=>decide (t<l.size))=true) (DT (C.at l.fn) (C.hints l.fn) l.fn l.size rec pc n l.assign (Nh l.env l.params args) h fun e env h'=>match e with
    | .normal=>cnd (Qr h' i=true) (DT (C.at l.fn) (C.hints l.fn) l.fn l.size rec pc n l.body env (Gz h' i true none) fun e _ h'=>cnd (Qw h' i=true) ((match e with
     | .normal=>K [.t (.bool true)] (Gz h' i false none)
     |e=>(codeOf e).bind fun c=>K [.t (.bool false)] (Gz h' i false (some c)))) none) none
    |_=>none) none
 |_=>none
noncomputable def inl (C:Cfg) (pc:BX) (n:Nat):Nat→Rec
 |0=>fun _ _ _ _ _=>none
 |d+1=>fun _ _ r h K=>match r with
  | .fn g avs=>Et C (inl C pc n d) pc n g avs h K
  | .yield i args=>NT C (inl C pc n d) pc n i args h K
noncomputable def JN (C:Cfg) (rec:Rec) (pc:BX) (n:Nat) (g:FuncId) (xs:List Tree):Option (List Tree):=
 match D3 C.P g (fun i =>.t (xs.getD i default)) with
 |some avs=>Et C rec pc n g avs [] fun rs h'=>EF C.P false h' (Bm C.P g) rs fun ys=>cnd (Co C.P g=true→ys.all Tree.scalar=true) (some ys) none
 |none=>none
def Nj (P:Program) (g:FuncId):Bool:=
 match P.funcs[g]? with
 |some fn=>match fn.resultTypes.toList with
  |[t]=>BF P t==some false
  |_=>false
 |none=>false
noncomputable def KU (C:Cfg) (rec:Rec) (pc:BX) (n:Nat) (g:FuncId) (xs:List Tree):Option (List Tree):=
 match D3 C.P g (fun i =>.t (xs.getD i default)),Bm C.P g with
 |some avs,[t]=>(Fc C.P t).bind fun z=>cnd (Nj C.P g=true) (Et C rec pc n g avs [] fun rs h'=>match rs with
  |[.nilsl]=>some [.sl z []]
  |[.sref i ver off len]=>match h'[i]? with
   |some (.row false ver' size es)=>cnd (ver'=ver∧size=z) (some [.sl z ((es.drop off).take len)]) none
   |_=>none
  |_=>none) none
 |_,_=>none
def Mq (P:Program) (h:Heap) (ts:List TypeId) (rs:List AV) (j:Nat) (x:Tree):Option (List Tree):=
 cnd (rs.length=ts.length) (EF P true h (ts.take j) (rs.take j) fun a=>EF P true h (ts.drop (j+1)) (rs.drop (j+1)) fun b=>some (a++x::b)) none
noncomputable def Is (C:Cfg) (rec:Rec) (pc:BX) (n:Nat) (j g:Nat) (xs:List Tree):Option (List Tree):=
 match D3 C.P g (fun i =>.t (xs.getD i default)),(Bm C.P g)[j]? with
 |some avs,some t=>(Fc C.P t).bind fun z=>Et C rec pc n g avs [] fun rs h'=>match rs[j]? with
  |some .nilsl=>Mq C.P h' (Bm C.P g) rs j (.sl z [])
  |some (.sref i ver off len)=>(match h'[i]? with
   |some (.row false ver' size es)=>cnd (ver'=ver∧size=z) (Mq C.P h' (Bm C.P g) rs j (.sl z ((es.drop off).take len))) none
   |_=>none)
  |_=>none
 |_,_=>none
def pcx (C:Cfg) (pc:BX):BX:=fun g xs=>match xs with
 |[]=>if g<OWN then match C.ext g [] with
  |some ys=>some ys
  |none=>pc g []
  else pc g []
 |x::xs=>pc g (x::xs)
noncomputable def AA (C:Cfg):Nat→BX
 |0=>fun _ _=>none
 |n+1=>fun g xs=>if g<OWN then match C.ext g xs with
  |some ys=>some ys
  |none=>JN C (inl C (pcx C (AA C n)) n C.depth) (pcx C (AA C n)) n g xs else if g<FT then KU C (inl C (pcx C (AA C n)) n C.depth) (pcx C (AA C n)) n (g-OWN) xs
  else Is C (inl C (pcx C (AA C n)) n C.depth) (pcx C (AA C n)) n ((g-FT) % 64) ((g-FT) / 64) xs
end Ab
