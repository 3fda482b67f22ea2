/- A part of the proof: see the last text. -/
import Derived.RangeFuncIn
import Derived.Laws.Sem
import Derived.Laws.World
import Derived.Laws.Cells
import Derived.Below
import Derived.Laws.Entries
import Derived.ChangeKeysEq
import Derived.Laws.StructEq
import Derived.Laws.Tables
import Derived.Laws.CopyRow
import Derived.Laws.AppendOwn
import Derived.Laws.MakeOwn
import Derived.Shelf.Bodies2
import Derived.Shelf.SlGeneric
import Derived.Shelf.RegionOpenPlain
import Derived.WalkKit
import Derived.Lib.Walk
import Derived.Lib.SliceRun
import Derived.Lib.JoinLaws
import Derived.Lib.AppendZerosOnto
import Derived.Laws.Externs
import Derived.Laws.IdiomCopy
import Derived.Laws.NewBlocks
import Derived.Shelf.Spec.SlicesGrow
import Derived.Orders
import Derived.RangeFuncLeaves
import Derived.Shelf.Spec.SlicesInsert
open Array (getElem?_toList)
open Array renaming eq_empty_of_size_eq_zero → zA, size_append → zB
open Bool (not_eq_true' or_eq_true)
open Bool renaming and_eq_true → zC, false_eq_true → zD
open Int (tdiv tmod toNat)
open Int renaming toNat_natCast → zE
open List (append_nil cons_append drop foldl_cons getD_eq_getElem?_getD getElem_mem length length_drop length_map map_cons map_take mem_map mem_of_mem_drop mem_range nil_append take)
open List renaming all_cons → zF, all_eq_true → zG, append_assoc → zH, eq_nil_of_length_eq_zero → zI, ext_getElem? → zJ, getElem?_append_left → zK, getElem?_append_right → zL, getElem?_cons_zero → zM, getElem?_drop → zN, getElem?_eq_getElem → zO, getElem?_eq_none → zP, getElem?_map → zQ, getElem?_range → zR, getElem?_take → zS, getElem?_take_of_lt → zT, getElem_of_mem → zU, length_append → zV, length_cons → zW, length_nil → zX, length_pos_iff → zY, length_take → zZ, mem_of_getElem? → yA, replicate → yB, singleton_append → yC, size_toArray → yD
open Nat (add_comm le_succ min_def ne_of_lt)
open Nat renaming add_assoc → yE, add_le_add_left → yF, add_mul → yG, add_zero → yH, le_refl → yI, le_trans → yJ, lt_of_lt_of_le → yK, lt_or_ge → yL, mod_lt → yM, mul_le_mul_right → yN, not_lt → yO, pos_of_ne_zero → yP, succ_mul → yQ, zero_add → yR, zero_le → yS
open Option renaming map_some → yT
namespace Ab
open Go
inductive Tree where
 |int (k:IntKind) (n:Int)
 |bool (b:Bool)
 |str (s:ByteArray)
 |sl (size:Nat) (es:List (List Tree))
 |const (v:Value)
 |mp (k:IntKind) (m:List (Int×Nat))
 deriving Inhabited
inductive Bp (w:World) (A:Nat→Prop):Tree→Value→Prop
 |int (k:IntKind) (n:Int):Bp w A (.int k n) (.int k n)
 |bool (b:Bool):Bp w A (.bool b) (.bool b)
 |str (s:ByteArray):Bp w A (.str s) (.string s)
 |const (v:Value):v.oneCell'=true→Bp w A (.const v) v
 |mp (k:IntKind) (m:List (Int×Nat)) (b:Nat) (es:Array MapEntry) (clock:Nat):b<w.heap.size→¬A b→w.heap[b]? = some (.map es clock)→
   es.toList.map (fun e=>(e.key,e.val))=m.map (fun p=>(.int k p.1,.func (.func p.2) #[] #[]))→Bp w A (.mp k m) (.map (some b))
 |nil (size cap:Nat) (a:Option Addr):Bp w A (.sl size []) (.slice a 0 cap)
 |sl (size:Nat) (es:List (List Tree)) (b off cap:Nat) (u:Nat→Nat→Value):es.length≤cap→b<w.heap.size→¬A b→
   (∀(j:Nat) (e:List Tree),es[j]? = some e→e.length=size)→
   (∀(j:Nat) (e:List Tree) (c:Nat) (x:Tree),es[j]? = some e→e[c]? = some x→w.cell? ⟨b,off+(j*size+c),none⟩=some (u j c))→
   (∀(j:Nat) (e:List Tree) (c:Nat) (x:Tree),es[j]? = some e→e[c]? = some x→Bp w A x (u j c))→
   Bp w A (.sl size es) (.slice (some ⟨b,off,none⟩) es.length cap)
theorem cell_of_heap {w w':World} {b o:Nat} (h:w'.heap[b]? = w.heap[b]?):w'.cell? ⟨b,o,none⟩=w.cell? ⟨b,o,none⟩:=by simp only [World.cell?,h]
theorem Bp.mono {w w':World} {A A':Nat→Prop} (hs:w.heap.size≤w'.heap.size)
  (hk:∀b,b<w.heap.size→¬A b→w'.heap[b]? = w.heap[b]?) (hA:∀b,A' b→A b∨w.heap.size≤b)
  {x:Tree} {v:Value} (h:Bp w A x v):Bp w' A' x v:=by
 induction h with
 |int k n=>exact .int k n
 |bool b=>exact .bool b
 |str s=>exact .str s
 |const v h=>exact .const v h
 |mp k m b es clock h1 h2 h3 h4=>
  refine .mp k m b es clock (yK h1 hs) (fun h => ?_) ((hk b h1 h2).trans h3) h4;rcases hA b h with h|h
  ·exact h2 h
  ·omega
 |nil size cap a=>exact .nil size cap a
 |sl size es b off cap u h1 h2 h3 h4 h5 _ ih=>
  refine .sl size es b off cap u h1 (yK h2 hs) (fun h => ?_) h4 (fun j e c x he hx => ?_) ih
  ·rcases hA b h with h|h
   ·exact h3 h
   ·omega
  ·rw [cell_of_heap (hk b h2 h3)];exact h5 j e c x he hx
theorem Bp.one {w:World} {A:Nat→Prop} {x:Tree} {v:Value} (h:Bp w A x v):v.oneCell'=true:=by cases h<;>first|rfl|assumption
inductive AV where
 |undef
 |t (x:Tree)
 |nilsl
 |ptr (i off:Nat)
 |rptr (i ver k off:Nat)
 |eptr (size:Nat) (cells:List Tree) (off:Nat)
 |sref (i ver off len:Nat)
 |bsl (i off len size:Nat)
 |yld (i:Nat)
 |func (fn:Fn) (first captured:List AV)
 |agg (cs:List AV)
 |tuple (vs:List AV)
 deriving Inhabited
abbrev Env:=Nat→AV
structure DS where
 fn:FuncId
 size:Nat
 env:Env
 params:List Tmp
 assign:Code
 body:Code
 busy:Bool
 pending:Option Code
 ended:Bool
 hl:Nat
 deriving Inhabited
inductive AI where
 |box (cs:List AV)
 |row (frz:Bool) (ver size:Nat) (es:List (List Tree))
 |loop (l:DS)
 deriving Inhabited
abbrev Heap:=List AI
abbrev BB:=List (Option (Nat×Nat))
def AI.ver:AI→Nat
 | .row _ v _ _=>v
 |_=>0
def AI.len:AI→Nat
 | .row _ _ _ es=>es.length
 | .box cs=>cs.length
 |_=>0
def AI.size:AI→Nat
 | .row _ _ s _=>s
 |_=>0
def AI.MH:AI→Bool
 | .row f _ _ _=>f
 |_=>false
def AI.kind:AI→Nat
 | .box _=>0
 | .loop _=>1
 |_=>2
def AI.rec? : AI→Option DS
 | .loop l=>some {l with busy:=false,pending:=none,ended:=false}
 |_=>none
def Ex (κ:BB) (h:Heap) (b:Nat):Prop:=∃(i base:Nat) (o:AI),κ[i]? = some (some (b,base))∧h[i]? = some o∧o.MH=false
def SRef (κ:BB) (h:Heap) (w:World) (i ver off len:Nat) (v:Value):Prop:=
 ∀(k:Option (Nat×Nat)) (o:AI),κ[i]? = some k→h[i]? = some o→o.ver=ver→o.kind=2∧off+len≤o.len∧
  ((len=0∧off=o.len∧∃a,v = .slice a 0 0)∨∃b base,k=some (b,base)∧∃cap,v = .slice (some ⟨b,base+off*o.size,none⟩) len cap∧o.len≤off+cap∧
    ∀cells elem fr,w.heap[b]? = some (.cells cells elem fr)→base+(off+cap)*o.size≤cells.size)
inductive Refs (m:Nat):AV→Prop
 |undef:Refs m .undef
 |t (x:Tree):Refs m (.t x)
 |nilsl:Refs m .nilsl
 |ptr (i off:Nat):i<m→Refs m (.ptr i off)
 |rptr (i ver k off:Nat):i<m→Refs m (.rptr i ver k off)
 |eptr (size:Nat) (cells:List Tree) (off:Nat):Refs m (.eptr size cells off)
 |sref (i ver off len:Nat):i<m→Refs m (.sref i ver off len)
 |bsl (i off len size:Nat):i<m→Refs m (.bsl i off len size)
 |yld (i:Nat):i<m→Refs m (.yld i)
 |func (fn:Fn) (first captured:List AV):(∀(j:Nat) (x:AV),first[j]? = some x→Refs m x)→(∀(j:Nat) (x:AV),captured[j]? = some x→Refs m x)→Refs m (.func fn first captured)
 |agg (xs:List AV):(∀(j:Nat) (x:AV),xs[j]? = some x→Refs m x)→Refs m (.agg xs)
 |tuple (xs:List AV):(∀(j:Nat) (x:AV),xs[j]? = some x→Refs m x)→Refs m (.tuple xs)
inductive AQ (B:Nat→Prop) (κ:BB) (h:Heap) (w:World):AV→Value→Prop
 |undef (v:Value):AQ B κ h w .undef v
 |t (x:Tree) (v:Value):Bp w (fun b=>B b∨Ex κ h b) x v→AQ B κ h w (.t x) v
 |nilsl (a:Option Addr):AQ B κ h w .nilsl (.slice a 0 0)
 |ptr (i off b base:Nat):κ[i]? = some (some (b,base))→(∃cs,h[i]? = some (.box cs))→AQ B κ h w (.ptr i off) (.pointer (some ⟨b,base+off,none⟩))
 |rptr (i ver k off:Nat) (v:Value):(∃p,v = .pointer (some p))→(∃o,h[i]? = some o∧ver≤o.ver)→
   (∀o:AI,h[i]? = some o→o.ver=ver→∃b base,κ[i]? = some (some (b,base))∧v = .pointer (some ⟨b,base+(k*o.size+off),none⟩)∧o.kind=2∧k<o.len)→AQ B κ h w (.rptr i ver k off) v
 |eptr (size:Nat) (cells:List Tree) (off b base:Nat) (u:Nat→Value):cells.length=size→b<w.heap.size→¬(B b∨Ex κ h b)→
   (∀c x,cells[c]? = some x→w.cell? ⟨b,base+c,none⟩=some (u c))→
   (∀c x,cells[c]? = some x→Bp w (fun b=>B b∨Ex κ h b) x (u c))→AQ B κ h w (.eptr size cells off) (.pointer (some ⟨b,base+off,none⟩))
 |sref (i ver off len:Nat) (v:Value):v.oneCell'=true→(∃o,h[i]? = some o∧ver≤o.ver)→SRef κ h w i ver off len v→AQ B κ h w (.sref i ver off len) v
 |bsl (i off len size cap b:Nat):κ[i]? = some (some (b,0))→(∃cs,h[i]? = some (.box cs)∧off+cap*size≤cs.length)→len≤cap→AQ B κ h w (.bsl i off len size) (.slice (some ⟨b,off,none⟩) len cap)
 |yld (i b base:Nat):κ[i]? = some (some (b,base))→(∃l,h[i]? = some (.loop l))→AQ B κ h w (.yld i) (.func (.yield b) #[] #[])
 |func (fn:Fn) (first captured:List AV) (fs cs:Array Value):fs.size=first.length→cs.size=captured.length→
   (∀j x,first[j]? = some x→AQ B κ h w x (fs.getD j undef))→(∀j x,captured[j]? = some x→AQ B κ h w x (cs.getD j undef))→AQ B κ h w (.func fn first captured) (.func fn fs cs)
 |agg (xs:List AV) (vs:Array Value):vs.size=xs.length→(∀j x,xs[j]? = some x→AQ B κ h w x (vs.getD j undef))→AQ B κ h w (.agg xs) (.agg vs)
 |tuple (xs:List AV) (vs:Array Value):vs.size=xs.length→(∀j x,xs[j]? = some x→AQ B κ h w x (vs.getD j undef))→AQ B κ h w (.tuple xs) (.tuple vs)
def OLe (o o':AI):Prop:=o.kind=o'.kind∧o.ver≤o'.ver∧(o.ver=o'.ver→o.size=o'.size∧o.len=o'.len)∧(o.MH=true→o'=o)∧(o.kind=0→o'.len=o.len)∧o'.rec? = o.rec?
theorem OLe.refl (o:AI):OLe o o:=⟨rfl,yI _,fun _=>⟨rfl,rfl⟩,fun _=>rfl,fun _=>rfl,rfl⟩
theorem OLe.trans {a b c:AI} (h:OLe a b) (k:OLe b c):OLe a c:=by
 refine ⟨h.1.trans k.1,yJ h.2.1 k.2.1,fun e => ?_,fun e => ?_,fun e=>(k.2.2.2.2.1 (h.1 ▸ e)).trans (h.2.2.2.2.1 e),k.2.2.2.2.2.trans h.2.2.2.2.2⟩
 ·have h1:=h.2.1;have k1:=k.2.1;have x:=h.2.2.1 (by omega);have y:=k.2.2.1 (by omega);exact ⟨x.1.trans y.1,x.2.trans y.2⟩
 ·have hb:=h.2.2.2.1 e;rw [hb] at k;exact k.2.2.2.1 e
structure Ext (κ:BB) (h:Heap) (w:World) (κ':BB) (h':Heap) (w':World):Prop where
 os:w'.os=w.os
 tape:w'.tape=w.tape
 output:w'.output=w.output
 size:w.heap.size≤w'.heap.size
 keep:∀b,b<w.heap.size→¬Ex κ h b→w'.heap[b]? = w.heap[b]?
 ex:∀b,Ex κ' h' b→Ex κ h b∨w.heap.size≤b
 obj:∀(i:Nat) (o:AI),h[i]? = some o→∃o':AI,h'[i]? = some o'∧OLe o o'
 kap:∀(i:Nat) (o o':AI),h[i]? = some o→h'[i]? = some o'→o.ver=o'.ver→κ'[i]? = κ[i]?
 cells:∀(i:Nat) (o o':AI),h[i]? = some o→h'[i]? = some o'→o.ver=o'.ver→∀(b base:Nat),κ[i]? = some (some (b,base))→
  ∀cells elem fr,w'.heap[b]? = some (.cells cells elem fr)→∃cells',w.heap[b]? = some (.cells cells' elem fr)∧cells'.size=cells.size
theorem Ext.refl (κ:BB) (h:Heap) (w:World):Ext κ h w κ h w:=
 ⟨rfl,rfl,rfl,yI _,fun _ _ _=>rfl,fun _ h =>.inl h,fun _ o ho=>⟨o,ho,.refl o⟩,fun _ _ _ _ _ _=>rfl,fun _ _ _ _ _ _ _ _ _ cells _ _ hc=>⟨cells,hc,rfl⟩⟩
theorem Ext.trans {κ κ₁ κ₂:BB} {h h₁ h₂:Heap} {w w₁ w₂:World} (x:Ext κ h w κ₁ h₁ w₁) (y:Ext κ₁ h₁ w₁ κ₂ h₂ w₂):Ext κ h w κ₂ h₂ w₂ where
 os:=y.os.trans x.os
 tape:=y.tape.trans x.tape
 output:=y.output.trans x.output
 size:=yJ x.size y.size
 keep:=fun b hb hn=>by
  refine (y.keep b (yK hb x.size) fun he => ?_).trans (x.keep b hb hn);rcases x.ex b he with h|h
  ·exact hn h
  ·omega
 ex:=fun b hb=>by
  rcases y.ex b hb with h|h
  ·exact x.ex b h
  ·exact .inr (yJ x.size h)
 obj:=fun i o ho=>by obtain ⟨o1,h1,l1⟩:=x.obj i o ho;obtain ⟨o2,h2,l2⟩:=y.obj i o1 h1;exact ⟨o2,h2,l1.trans l2⟩
 kap:=fun i o o2 ho ho2 he=>by
  obtain ⟨o1,h1,l1⟩:=x.obj i o ho;obtain ⟨o2',h2,l2⟩:=y.obj i o1 h1;obtain rfl:o2'=o2:=by rw [h2] at ho2;exact Option.some.inj ho2
  have a1:=l1.2.1;have a2:=l2.2.1;exact (y.kap i o1 o2' h1 h2 (by omega)).trans (x.kap i o o1 ho h1 (by omega))
 cells:=fun i o o2 ho ho2 he b base hb cells elem fr hc=>by
  obtain ⟨o1,h1,l1⟩:=x.obj i o ho;obtain ⟨o2',h2,l2⟩:=y.obj i o1 h1;obtain rfl:o2'=o2:=by rw [h2] at ho2;exact Option.some.inj ho2
  have a1:=l1.2.1;have a2:=l2.2.1;have k1:=x.kap i o o1 ho h1 (by omega);obtain ⟨c1,hc1,s1⟩:=y.cells i o1 o2' h1 h2 (by omega) b base (k1.trans hb) cells elem fr hc;obtain ⟨c0,hc0,s0⟩:=x.cells i o o1 ho h1 (by omega) b base hb c1 elem fr hc1;exact ⟨c0,hc0,s0.trans s1⟩
theorem Wi {κ κ':BB} {h h':Heap} {w w':World} (x:Ext κ h w κ' h' w') {b o:Nat} (hb:b<w.heap.size) (hn:¬Ex κ h b):w'.cell? ⟨b,o,none⟩=w.cell? ⟨b,o,none⟩:=
 cell_of_heap (x.keep b hb hn)
theorem Bp.ext {B:Nat→Prop} {κ κ':BB} {h h':Heap} {w w':World} (x:Ext κ h w κ' h' w') {t:Tree} {v:Value} (ht:Bp w (fun b=>B b∨Ex κ h b) t v):Bp w' (fun b=>B b∨Ex κ' h' b) t v:=
 ht.mono x.size (fun b hb hn=>x.keep b hb fun he=>hn (.inr he)) fun b hb=>by
  rcases hb with hb|hb
  ·exact .inl (.inl hb)
  ·rcases x.ex b hb with h|h
   ·exact .inl (.inr h)
   ·exact .inr h
def HA (B:Nat→Prop) (κ:BB) (h:Heap) (w:World):Option (Nat×Nat)→AI→Prop
 |some (b,base),.box cs=>base=0∧∃cells elem,w.heap[b]? = some (.cells cells elem (0,0))∧cells.size=cs.length∧∀j x,cs[j]? = some x→AQ B κ h w x (cells.getD j undef)
 |some (b,base),.row _ _ size es=>size≠0∧∃cells elem,w.heap[b]? = some (.cells cells elem (0,0))∧base+es.length*size≤cells.size∧(∀(j:Nat) (e:List Tree),es[j]? = some e→e.length=size)∧
   ∀(j:Nat) (e:List Tree) (c:Nat) (x:Tree),es[j]? = some e→e[c]? = some x→Bp w (fun b=>B b∨Ex κ h b) x (cells.getD (base+(j*size+c)) undef)
 |none,.row _ _ _ es=>es=[]
 |some (b,d),.loop l=>∃(f:FuncId) (tmps:Array Value),w.heap[b]? = some (.loop {state:=if l.ended then .exhausted else if l.busy then .busy else if l.pending.isSome then .done else .ready,pending:=l.pending,fn:=f,tmps,params:=l.params.toArray,assign:=l.assign,body:=l.body,defers:=d})∧
   tmps.size=l.size∧(∀i,AQ B κ h w (l.env i) (tmps.getD i undef))∧(∀i,Refs l.hl (l.env i))∧w.heap[d]? = some (.deferred (some []))∧¬Ex κ h d
 |_,_=>False
structure Ap (B:Nat→Prop) (κ:BB) (h:Heap) (w:World):Prop where
 len:κ.length=h.length
 inj:∀(i j b bs bs':Nat),κ[i]? = some (some (b,bs))→κ[j]? = some (some (b,bs'))→i=j
 notB:∀(i b bs:Nat),κ[i]? = some (some (b,bs))→¬B b
 lt:∀(i b bs:Nat),κ[i]? = some (some (b,bs))→b<w.heap.size
 ltB:∀b,B b→b<w.heap.size
 obj:∀(i:Nat) (o:AI) (k:Option (Nat×Nat)),h[i]? = some o→κ[i]? = some k→HA B κ h w k o
theorem AQ.ext {B:Nat→Prop} {κ κ':BB} {h h':Heap} {w w':World} (x:Ext κ h w κ' h' w') {a:AV} {v:Value} (ha:AQ B κ h w a v):AQ B κ' h' w' a v:=by
 induction ha with
 |undef v=>exact .undef v
 |t y v hy=>exact .t y v (hy.ext x)
 |nilsl a=>exact .nilsl a
 |ptr i off b base hk hb=>
  obtain ⟨cs,hcs⟩:=hb;obtain ⟨o',ho',hl⟩:=x.obj i _ hcs;have hkind:=hl.1;cases o' with
  |box cs'=>exact .ptr i off b base ((x.kap i _ _ hcs ho' rfl).trans hk) ⟨cs',ho'⟩
  |row a b c d=>simp [AI.kind] at hkind
  |loop l=>simp [AI.kind] at hkind
 |bsl i off len size cap b hk hb hlc=>
  obtain ⟨cs,hcs,hcl⟩:=hb;obtain ⟨o',ho',hl⟩:=x.obj i _ hcs;have hkind:=hl.1;cases o' with
  |box cs'=>
   have hlen:=hl.2.2.2.2.1 rfl;simp only [AI.len] at hlen;exact .bsl i off len size cap b ((x.kap i _ _ hcs ho' rfl).trans hk) ⟨cs',ho',by omega⟩ hlc
  |row a b c d=>simp [AI.kind] at hkind
  |loop l=>simp [AI.kind] at hkind
 |rptr i ver k off v h1 hex hv=>
  obtain ⟨o,ho,hver⟩:=hex;obtain ⟨o',ho',hl⟩:=x.obj i o ho;refine .rptr i ver k off v h1 ⟨o',ho',yJ hver hl.2.1⟩ fun o2 ho2 he => ?_;obtain rfl:o'=o2:=by rw [ho'] at ho2;exact Option.some.inj ho2
  have h1:=hl.2.1;have hvv:o.ver=o'.ver:=by omega
  obtain ⟨b,base,e0,e1,e2,e3⟩:=hv o ho (by omega);obtain ⟨s1,s2⟩:=hl.2.2.1 hvv;exact ⟨b,base,(x.kap i o o' ho ho' hvv).trans e0,by rw [e1,s1],hl.1 ▸ e2,by omega⟩
 |eptr size cells off b base u hsz hb hn hc ht=>
  refine .eptr size cells off b base u hsz (yK hb x.size) (fun hh => ?_) (fun c y hy => ?_) fun c y hy=>(ht c y hy).ext x
  ·rcases hh with hh|hh
   ·exact hn (.inl hh)
   ·rcases x.ex b hh with hh|hh
    ·exact hn (.inr hh)
    ·omega
  ·rw [Wi x hb fun he=>hn (.inr he)];exact hc c y hy
 |sref i ver off len v h1 hex hv=>
  obtain ⟨o,ho,hver⟩:=hex;obtain ⟨o',ho',hl⟩:=x.obj i o ho;refine .sref i ver off len v h1 ⟨o',ho',yJ hver hl.2.1⟩ fun k o2 hb ho2 he => ?_;obtain rfl:o'=o2:=by rw [ho'] at ho2;exact Option.some.inj ho2
  have h1:=hl.2.1;have hvv:o.ver=o'.ver:=by omega
  have hk:=(x.kap i o o' ho ho' hvv).symm.trans hb;obtain ⟨e2,e4,e1⟩:=hv k o hk ho (by omega);obtain ⟨s1,s2⟩:=hl.2.2.1 hvv;refine ⟨hl.1 ▸ e2,by omega,?_⟩;rcases e1 with ⟨z1,z2,z3⟩|⟨b,base,rfl,cap,e1,e5,e6⟩
  ·exact .inl ⟨z1,by omega,z3⟩
  ·refine .inr ⟨b,base,rfl,cap,by rw [e1,s1],by omega,fun cells elem fr hc => ?_⟩;obtain ⟨c0,hc0,hs⟩:=x.cells i o o' ho ho' hvv b base hk cells elem fr hc;rw [← hs,← s1];exact e6 c0 elem fr hc0
 |yld i b base hk hb=>
  obtain ⟨l,hl⟩:=hb;obtain ⟨o',ho',hle⟩:=x.obj i _ hl;have hkind:=hle.1;cases o' with
  |loop l'=>exact .yld i b base ((x.kap i _ _ hl ho' rfl).trans hk) ⟨l',ho'⟩
  |row a b c d=>simp [AI.kind] at hkind
  |box l=>simp [AI.kind] at hkind
 |func fn first captured fs cs h1 h2 _ _ i1 i2=>exact .func fn first captured fs cs h1 h2 i1 i2
 |agg xs vs h1 _ ih=>exact .agg xs vs h1 ih
 |tuple xs vs h1 _ ih=>exact .tuple xs vs h1 ih
theorem HA.ext {B:Nat→Prop} {κ κ':BB} {h h':Heap} {w w':World} (x:Ext κ h w κ' h' w') {k:Option (Nat×Nat)} {o:AI} (hk:∀b base,k=some (b,base)→w'.heap[b]? = w.heap[b]?)
  (ho:HA B κ h w k o):HA B κ' h' w' k o:=by
 cases k with
 |none=>
  cases o with
  |row f v s es=>exact ho
  |box cs=>exact ho.elim
  |loop l=>exact ho.elim
 |some p=>
  obtain ⟨b,base⟩:=p;have hb:=hk b base rfl;cases o with
  |box cs=>
   obtain ⟨h0,cells,elem,hc,hs,hv⟩:=ho;exact ⟨h0,cells,elem,hb.trans hc,hs,fun j y hy=>(hv j y hy).ext x⟩
  |row f v s es=>
   obtain ⟨hz,cells,elem,hc,hs,hl,hv⟩:=ho;exact ⟨hz,cells,elem,hb.trans hc,hs,hl,fun j e c y he hy=>(hv j e c y he hy).ext x⟩
  |loop l=>
   obtain ⟨f,tmps,hc,hs,hv,hrf,hd,hn⟩:=ho;have hdlt:base<w.heap.size:=by
    rcases yL base w.heap.size with y|y
    ·exact y
    ·rw [Array.getElem?_eq_none y] at hd;cases hd
   refine ⟨f,tmps,hb.trans hc,hs,fun i=>(hv i).ext x,hrf,(x.keep base hdlt hn).trans hd,fun he => ?_⟩;rcases x.ex base he with y|y
   ·exact hn y
   ·omega
theorem AU {α:Type} {l:List α} {i:Nat} {x:α} (h:l[i]? = some x):i<l.length:=(List.getElem?_eq_some_iff.1 h).1
theorem AQ.refs {B:Nat→Prop} {κ:BB} {h:Heap} {w:World} {x:AV} {v:Value} (hv:AQ B κ h w x v):Refs h.length x:=by
 induction hv with
 |undef v=>exact .undef
 |t y v _=>exact .t y
 |nilsl a=>exact .nilsl
 |ptr i off b base hk hb=>obtain ⟨cs,hcs⟩:=hb;exact .ptr _ _ (AU hcs)
 |rptr i ver k off v _ hex _=>obtain ⟨o,ho,_⟩:=hex;exact .rptr _ _ _ _ (AU ho)
 |eptr size cells off b base u _ _ _ _ _=>exact .eptr _ _ _
 |sref i ver off len v _ hex _=>obtain ⟨o,ho,_⟩:=hex;exact .sref _ _ _ _ (AU ho)
 |bsl i off len size cap b _ hb _=>obtain ⟨cs,hcs,_⟩:=hb;exact .bsl _ _ _ _ (AU hcs)
 |yld i b base _ hb=>obtain ⟨l,hl⟩:=hb;exact .yld _ (AU hl)
 |func fn first captured fs cs _ _ _ _ i1 i2=>exact .func _ _ _ i1 i2
 |agg xs vs _ _ ih=>exact .agg _ ih
 |tuple xs vs _ _ ih=>exact .tuple _ ih
end Ab
namespace Ab
open Go
variable {R:Type}
def cnd (c:Prop) [Decidable c] (a b:Option R):Option R:=
 match decide c with
 |true=>a
 |false=>b
theorem AB (c:Prop) [Decidable c] (a b:Option R):cnd c a b=if c then a else b:=by unfold cnd;by_cases h:c<;>simp [h]
noncomputable def both (a b:Option R):Option R:=@ite (Option R) (a=b) (Classical.propDecidable _) a none
theorem I1 {a b:Option R} {r:R} (h:both a b=some r):a=some r∧b=some r:=by
 unfold both at h;split at h
 ·rename_i he;exact ⟨h,he ▸ h⟩
 ·cases h
theorem AF (a:Option R):both a a=a:=by unfold both;rw [if_pos rfl]
def FV:Value→AV
 | .int k n =>.t (.int k n)
 | .bool b =>.t (.bool b)
 | .string s =>.t (.str s)
 | .slice none 0 0 =>.nilsl
 | .pointer none =>.t (.const (.pointer none))
 | .map none =>.t (.const (.map none))
 | .nilFunc =>.t (.const .nilFunc)
 | .nilIface =>.t (.const .nilIface)
 | .func (.func f) ⟨[]⟩ ⟨[]⟩=>.func (.func f) [] []
 |_ =>.undef
def ofConst:Value→AV
 | .agg ⟨cs⟩=>.agg (cs.map FV)
 |v=>FV v
def ev (env:Env):Operand→AV
 | .tmp t=>env t
 | .const v=>ofConst v
 | .global _ =>.undef
 | .func f =>.func (.func f) [] []
def B3 (P:Program) (t:TypeId):Option Nat:=(P.info? t).map (·.size)
def A9 (P:Program) (t:TypeId):Option Bool:=
 match P.underlying t with
 |some (.struct _)|some (.array _ _)=>some true
 |some _=>some false
 |none=>none
def FH (P:Program) (t:TypeId):Option Nat:=
 match P.underlying t with
 |some (.slice e)=>B3 P e
 |_=>none
def IH (P:Program) (t:TypeId) (f:Nat):Option Nat:=
 match P.underlying t with
 |some (.struct fs)=>match fs[f]? with
  |some fd=>match B3 P fd.type with
   |some (_+1)=>some fd.offset
   |_=>none
  |none=>none
 |_=>none
def B4 (P:Program):Nat→TypeId→List TypeId
 |0,t=>[t]
 |d+1,t=>
  match P.underlying t with
  |some (.struct fs)=>(fs.toList.map fun f=>B4 P d f.type).flatten
  |some (.array n e)=>(yB n (B4 P d e)).flatten
  |_=>[t]
def EN (k:IntKind):AV→Option Int
 | .t (.int k' n)=>if k'=k then some n else none
 |_=>none
def asInt:AV→Option Int
 | .t (.int _ n)=>some n
 |_=>none
def asBool:AV→Option Bool
 | .t (.bool b)=>some b
 |_=>none
def Kk:AV→Option ByteArray
 | .t (.str s)=>some s
 |_=>none
def AV.leaf:AV→Bool
 | .undef | .agg _ | .tuple _=>false
 |_=>true
def AV.cells:AV→Option (List AV)
 | .agg cs=>some cs
 | .undef | .tuple _=>none
 |x=>some [x]
def BV (get:Nat→AV) (off n:Nat):List AV:=(List.range n).map fun c=>get (off+c)
def rd (P:Program) (t:TypeId) (total:Nat) (get:Nat→AV) (off:Nat) (K:AV→Option R):Option R:=
 match A9 P t,B3 P t with
 |some true,some n=>cnd (off+n≤total) (K (.agg (BV get off n))) none
 |some false,_=>cnd (off<total) (K (get off)) none
 |_,_=>none
def JO (P:Program) (t:TypeId) (h:Heap) (a:AV) (K:AV→Option R):Option R:=
 match a with
 | .ptr i off=>
  match h[i]? with
  |some (.box cs)=>rd P t cs.length (fun c=>cs.getD c .undef) off K
  |_=>none
 | .rptr i ver k off=>
  match h[i]? with
  |some (.row _ ver' size es)=>cnd (ver'=ver) ((es[k]?).bind fun e=>rd P t size (fun c =>.t (e.getD c default)) off K) none
  |_=>none
 | .eptr size cells off=>rd P t size (fun c =>.t (cells.getD c default)) off K
 |_=>none
def FD (k:IntKind):Tree→Bool
 | .int k' _=>decide (k'=k)
 |_=>false
def intOf:Tree→Int
 | .int _ n=>n
 |_=>0
def Dz:Tree→Bool
 | .bool _=>true
 |_=>false
def BF:Tree→Bool
 | .bool b=>b
 |_=>false
def FB:Tree→Bool
 | .str _=>true
 |_=>false
def strOf:Tree→ByteArray
 | .str s=>s
 |_=>default
def FI (s:Nat):Tree→Bool
 | .sl s' _=>decide (s'=s)
 |_=>false
def B8:Tree→List (List Tree)
 | .sl _ es=>es
 |_=>[]
def V6 (P:Program) (t:TypeId) (x:Tree) (K:Tree→Option R):Option R:=
 match P.underlying t with
 |some (.int k)=>cnd (FD k x=true) (K (.int k (intOf x))) none
 |some .bool=>cnd (Dz x=true) (K (.bool (BF x))) none
 |some .string=>cnd (FB x=true) (K (.str (strOf x))) none
 |some (.slice e)=>match B3 P e with
  |some s=>cnd (FI s x=true) (K (.sl s (B8 x))) none
  |none=>none
 |_=>K x
def EI (P:Program):List TypeId→List AV→(List AV→Option R)→Option R
 |[],cs,K=>K cs
 |_::_,[],K=>K []
 |t::ts,c::cs,K=>match c with
  | .t x=>V6 P t x fun y=>EI P ts cs fun r=>K (.t y::r)
  |c=>EI P ts cs fun r=>K (c::r)
def QV (P:Program) (t:TypeId) (v:AV) (K:AV→Option R):Option R:=
 match v with
 | .t x=>V6 P t x fun y=>K (.t y)
 | .agg cs=>EI P (B4 P 16 t) cs fun r=>K (.agg r)
 |v=>K v
def TR (P:Program) (f:Nat→Tree):List TypeId→Nat→(List Tree→Option R)→Option R
 |[],_,K=>K []
 |t::ts,i,K=>V6 P t (f i) fun y=>TR P f ts (i+1) fun r=>K (y::r)
def KA (P:Program) (ts:List TypeId) (ys:List Tree) (K:List Tree→Option R):Option R:=
 cnd (ys.length=ts.length) (TR P (fun i=>ys.getD i default) ts 0 K) none
theorem Pb {k:IntKind} {x:Tree} (h:FD k x=true):x = .int k (intOf x):=by cases x<;>simp_all [FD,intOf]
theorem Nn {x:Tree} (h:Dz x=true):x = .bool (BF x):=by cases x<;>simp_all [Dz,BF]
theorem PZ {x:Tree} (h:FB x=true):x = .str (strOf x):=by cases x<;>simp_all [FB,strOf]
theorem SP {s:Nat} {x:Tree} (h:FI s x=true):x = .sl s (B8 x):=by cases x<;>simp_all [FI,B8]
theorem Gr (P:Program) (t:TypeId) (x:Tree):(∀(R:Type) (K:Tree→Option R),V6 P t x K=K x)∨∀(R:Type) (K:Tree→Option R),V6 P t x K=none:=by
 unfold V6
 try simp only [AB]
 cases P.underlying t with
 |none=>exact .inl fun _ _=>rfl
 |some u=>
  cases u with
  |int k=>
   by_cases h:FD k x=true
   ·exact .inl fun R K=>by dsimp only;rw [if_pos h,← Pb h]
   ·exact .inr fun R K=>by dsimp only;rw [if_neg h]
  |bool=>
   by_cases h:Dz x=true
   ·exact .inl fun R K=>by dsimp only;rw [if_pos h,← Nn h]
   ·exact .inr fun R K=>by dsimp only;rw [if_neg h]
  |string=>
   by_cases h:FB x=true
   ·exact .inl fun R K=>by dsimp only;rw [if_pos h,← PZ h]
   ·exact .inr fun R K=>by dsimp only;rw [if_neg h]
  |slice e=>
   dsimp only;cases B3 P e with
   |none=>exact .inr fun _ _=>rfl
   |some s=>
    by_cases h:FI s x=true
    ·exact .inl fun R K=>by dsimp only;rw [if_pos h,← SP h]
    ·exact .inr fun R K=>by dsimp only;rw [if_neg h]
  |_=>exact .inl fun _ _=>rfl
theorem H3 (P:Program):∀(ts:List TypeId) (cs:List AV),(∀(R:Type) (K:List AV→Option R),EI P ts cs K=K cs)∨∀(R:Type) (K:List AV→Option R),EI P ts cs K=none
 |[],cs =>.inl fun _ _=>rfl
 |_::_,[]=>.inl fun _ _=>rfl
 |t::ts,c::cs=>by
  rcases H3 P ts cs with h|h
  ·cases c with
   |t x=>
    simp only [EI];rcases Gr P t x with h1|h1
    ·exact .inl fun R K=>by rw [h1,h]
    ·exact .inr fun R K=>by rw [h1]
   |_=>exact .inl fun R K=>by simp only [EI];rw [h]
  ·cases c with
   |t x=>
    simp only [EI];rcases Gr P t x with h1|h1
    ·exact .inr fun R K=>by rw [h1,h]
    ·exact .inr fun R K=>by rw [h1]
   |_=>exact .inr fun R K=>by simp only [EI];rw [h]
theorem NH (P:Program) (t:TypeId) (v:AV):(∀(R:Type) (K:AV→Option R),QV P t v K=K v)∨∀(R:Type) (K:AV→Option R),QV P t v K=none:=by
 cases v with
 |t x=>
  rcases Gr P t x with h|h
  ·exact .inl fun R K=>by simp only [QV];rw [h]
  ·exact .inr fun R K=>by simp only [QV];rw [h]
 |agg cs=>
  rcases H3 P (B4 P 16 t) cs with h|h
  ·exact .inl fun R K=>by simp only [QV];rw [h]
  ·exact .inr fun R K=>by simp only [QV];rw [h]
 |_=>exact .inl fun _ _=>rfl
theorem NI (P:Program) (f:Nat→Tree):∀(ts:List TypeId) (i:Nat),(∀(R:Type) (K:List Tree→Option R),TR P f ts i K=K ((List.range' i ts.length).map f))∨∀(R:Type) (K:List Tree→Option R),TR P f ts i K=none
 |[],i =>.inl fun _ _=>rfl
 |t::ts,i=>by
  rcases Gr P t (f i) with h|h
  ·rcases NI P f ts (i+1) with h1|h1
   ·exact .inl fun R K=>by simp only [TR];rw [h,h1];rfl
   ·exact .inr fun R K=>by simp only [TR];rw [h,h1]
  ·exact .inr fun R K=>by simp only [TR];rw [h]
theorem MA (P:Program) (ts:List TypeId) (ys:List Tree):(∀(R:Type) (K:List Tree→Option R),KA P ts ys K=K ys)∨∀(R:Type) (K:List Tree→Option R),KA P ts ys K=none:=by
 unfold KA
 try simp only [AB]
 by_cases hl:ys.length=ts.length
 ·simp only [if_pos hl];rcases NI P (fun i=>ys.getD i default) ts 0 with h|h
  ·refine .inl fun R K => ?_;rw [h];congr 1;apply zJ;intro i;rcases yL i ys.length with hi|hi
   ·simp [← hl,hi]
   ·simp [← hl,yO.2 hi]
  ·exact .inr h
 ·exact .inr fun _ _=>if_neg hl
theorem retV_ok {P:Program} {t:TypeId} {v:AV} {K:AV→Option R} {r:R} (h:QV P t v K=some r):K v=some r:=by
 rcases NH P t v with h1|h1
 ·rw [h1] at h;exact h
 ·rw [h1] at h;cases h
theorem J9 {P:Program} {ts:List TypeId} {ys:List Tree} {K:List Tree→Option R} {r:R} (h:KA P ts ys K=some r):K ys=some r:=by
 rcases MA P ts ys with h1|h1
 ·rw [h1] at h;exact h
 ·rw [h1] at h;cases h
def conv (P:Program) (fz:Bool) (h:Heap) (ty:TypeId) (v:AV) (K:Tree→Option R):Option R:=
 match v with
 | .t x=>K x
 | .nilsl=>(FH P ty).bind fun s=>K (.sl s [])
 | .sref i ver off len=>
  match h[i]? with
  |some (.row f ver' size es)=>(FH P ty).bind fun s=>cnd ((f=true∨fz=false)∧ver'=ver∧(size=s∨size=0)) (K (.sl s ((es.drop off).take len))) none
  |_=>none
 | .func fn [] []=>K (.const (.func fn #[] #[]))
 |_=>none
def Dw (P:Program) (fz:Bool) (h:Heap):List TypeId→List AV→(List Tree→Option R)→Option R
 |[],[],K=>K []
 |t::ts,v::vs,K=>conv P fz h t v fun x=>Dw P fz h ts vs fun xs=>K (x::xs)
 |_,_,_=>none
def setAt (cs:List AV) (off:Nat) (vs:List AV):List AV:=cs.take off++(vs++cs.drop (off+vs.length))
def EZ (P:Program):List TypeId→List AV→Heap→(List AV→Heap→Option R)→Option R
 |_,[],h,K=>K [] h
 |ts,.nilsl::vs,h,K=>EZ P ts.tail vs (h++[.row false 0 ((FH P (ts.headD 0)).getD 0) []]) fun vs' h'=>K (.sref h.length 0 0 0::vs') h'
 |ts,v::vs,h,K=>EZ P ts.tail vs h fun vs' h'=>K (v::vs') h'
def HW (P:Program) (tf:TypeId→Bool):List TypeId→List AV→List AV
 |_,[]=>[]
 |ts,v::vs=>(match v with
  | .nilsl=>if tf (ts.headD 0) then .t (.sl ((FH P (ts.headD 0)).getD 0) []) else .nilsl
  |v=>v)::HW P tf ts.tail vs
def nilV (P:Program) (tf:TypeId→Bool) (t:TypeId) (v:AV):AV:=
 match v with
 | .agg cs =>.agg (HW P tf (B4 P 16 t) cs)
 | .nilsl=>if tf t then .t (.sl ((FH P t).getD 0) []) else .nilsl
 |v=>v
def EP (P:Program) (t:TypeId) (cs:List AV) (h:Heap) (K:AV→Heap→Option R):Option R:=
 EZ P (B4 P 16 t) cs h fun cs' h'=>K (.ptr h'.length 0) (h'++[.box cs'])
def Eb (h:Heap):List AV→List AV→(List AV→Option R)→Option R
 |_,[],K=>K []
 |[],vs,K=>K vs
 |o::os,v::vs,K=>match o,v with
  | .sref i ver _ _,.nilsl=>match h[i]? with
   |some (.row _ ver' _ es)=>cnd (ver'=ver) (Eb h os vs fun vs'=>K (.sref i ver es.length 0::vs')) none
   |_=>Eb h os vs fun vs'=>K (.nilsl::vs')
  |_,v=>Eb h os vs fun vs'=>K (v::vs')
def IN (P:Program) (t:TypeId) (h:Heap) (a v:AV) (K:Heap→Option R):Option R:=
 match v.cells,B3 P t with
 |some vs,some n=>
  cnd (vs.length=n∧vs.all AV.leaf=true) (match a with
   | .ptr i off=>
    match h[i]? with
    |some (.box cs)=>cnd (off+n≤cs.length) (Eb h (cs.drop off) vs fun vs=>EZ P (B4 P 16 t) vs h fun vs' h'=>K (h'.set i (.box (setAt cs off vs')))) none
    |_=>none
   | .rptr i ver k off=>
    match h[i]? with
    |some (.row false ver' size es)=>
     cnd (ver'=ver∧off+n≤size) ((es[k]?).bind fun e=>Dw P true h (B4 P 16 t) vs fun xs=>K (h.set i (.row false ver size (es.set k (e.take off++(xs++e.drop (off+n))))))) none
    |_=>none
   |_=>none) none
 |_,_=>none
def andK (k:IntKind) (a b:Int):Int:=k.wrap (BitVec.ofInt k.bits a &&& BitVec.ofInt k.bits b).toNat
def orK (k:IntKind) (a b:Int):Int:=k.wrap (BitVec.ofInt k.bits a ||| BitVec.ofInt k.bits b).toNat
def xorK (k:IntKind) (a b:Int):Int:=k.wrap (BitVec.ofInt k.bits a ^^^ BitVec.ofInt k.bits b).toNat
def shlK (k:IntKind) (a b:Int):Int:=k.wrap (a*2 ^ min b.toNat k.bits)
def QQ (k:IntKind) (a b:Int):Int:=a.fdiv (2 ^ min b.toNat k.bits)
def OQ (op:BinOp) (k:IntKind) (a b:Int) (K:AV→Option R):Option R:=
 match op with
 | .add=>K (.t (.int k (k.wrap (a+b))))
 | .sub=>K (.t (.int k (k.wrap (a-b))))
 | .mul=>K (.t (.int k (k.wrap (a*b))))
 | .quo=>cnd (b=0) none (K (.t (.int k (k.wrap (a.tdiv b)))))
 | .rem=>cnd (b=0) none (K (.t (.int k (a.tmod b))))
 | .eql=>K (.t (.bool (a==b)))
 | .neq=>K (.t (.bool (a != b)))
 | .lss=>K (.t (.bool (decide (a<b))))
 | .leq=>K (.t (.bool (decide (a≤b))))
 | .gtr=>K (.t (.bool (decide (a>b))))
 | .geq=>K (.t (.bool (decide (a≥b))))
 | .and=>K (.t (.int k (andK k a b)))
 | .or=>K (.t (.int k (orK k a b)))
 | .xor=>K (.t (.int k (xorK k a b)))
 |_=>none
def OE (op:BinOp) (k:IntKind) (a b:Int) (K:AV→Option R):Option R:=
 match op with
 | .shl=>cnd (b<0) none (K (.t (.int k (shlK k a b))))
 | .shr=>cnd (b<0) none (K (.t (.int k (QQ k a b))))
 |_=>none
def VH:BinOp→Bool
 | .shl | .shr=>true
 |_=>false
def Ox (P:Program):Nat→TypeId→(Nat→AV)→(Nat→AV)→Nat→(Bool→Option R)→Option R
 |0,_,_,_,_,_=>none
 |d+1,t,gx,gy,off,K=>
  match P.underlying t with
  |some (.int k)=>(EN k (gx off)).bind fun a=>(EN k (gy off)).bind fun b=>K (a==b)
  |some .bool=>(asBool (gx off)).bind fun a=>(asBool (gy off)).bind fun b=>K (a==b)
  |some .string=>(Kk (gx off)).bind fun a=>(Kk (gy off)).bind fun b=>K (a==b)
  |some (.struct fs)=>
   match B3 P t with
   |some n=>cnd (P.stoodInHeld t=false) (fs.toList.foldr (fun f (K':Bool→Option R) (acc:Bool)=>
     match B3 P f.type with
     | some m => cnd (f.name ≠ "_" ∧ f.offset + m ≤ n ∧ (A9 P f.type = some true ∨ A9 P f.type = some false ∧ m = 1)) (Ox P d f.type gx gy (off + f.offset) fun b => K' (acc && b)) none
     |none=>none) K true) none
   |none=>none
  |_=>none
def Y8 (P:Program) (op:BinOp) (t:TypeId) (x y:AV) (K:AV→Option R):Option R:=
 match P.underlying t with
 |some (.int k)=>if VH op then (EN k x).bind fun a=>(asInt y).bind fun b=>OE op k a b K
  else (EN k x).bind fun a=>(EN k y).bind fun b=>OQ op k a b K
 |some .bool=>(asBool x).bind fun a=>(asBool y).bind fun b=>match op with
  | .eql=>K (.t (.bool (a==b)))
  | .neq=>K (.t (.bool (!(a==b))))
  |_=>none
 |some .string=>(Kk x).bind fun a=>(Kk y).bind fun b=>match op with
  | .eql=>K (.t (.bool (a==b)))
  | .neq=>K (.t (.bool (a != b)))
  | .add=>cnd (a.size+b.size≤9223372036854775807) (K (.t (.str (a++b)))) none
  |_=>none
 |some (.struct _)=>
  match x,y,B3 P t with
  | .agg xs,.agg ys,some n=>
   cnd (P.eqGuardType P.depth t=false∧xs.length=n∧ys.length=n) (match op with
    | .eql=>Ox P 16 t (fun i=>xs.getD i .undef) (fun i=>ys.getD i .undef) 0 fun b=>K (.t (.bool b))
    | .neq=>Ox P 16 t (fun i=>xs.getD i .undef) (fun i=>ys.getD i .undef) 0 fun b=>K (.t (.bool (!b)))
    |_=>none) none
  |_,_,_=>none
 |_=>none
def aun (op:UnOp) (x:AV) (K:AV→Option R):Option R:=
 match op with
 | .not=>(asBool x).bind fun b=>K (.t (.bool (!b)))
 | .neg=>match x with
  | .t (.int k n)=>K (.t (.int k (k.wrap (0-n))))
  |_=>none
 |_=>none
def IT (P:Program) (src dst:TypeId) (x:AV) (K:AV→Option R):Option R:=
 match P.underlying src,P.underlying dst with
 |some (.int k0),some (.int k)=>(EN k0 x).bind fun n=>K (.t (.int k (k.wrap n)))
 |some .string,some .string=>(Kk x).bind fun s=>K (.t (.str s))
 |_,_=>none
def Km (mx:Bool):List AV→(AV→Option R)→Option R
 |[],_=>none
 |x::rest,K=>(EN .i64 x).bind fun a=>go a rest K
where
 go:Int→List AV→(AV→Option R)→Option R
 |a,[],K=>K (.t (.int .i64 a))
 |a,y::rest,K=>(EN .i64 y).bind fun b=>go (if mx then (if b>a then b else a) else (if b<a then b else a)) rest K
def Jk (P:Program) (t:TypeId) (h:Heap) (a:AV) (f:Nat) (K:AV→Option R):Option R:=
 (IH P t f).bind fun o=>match a with
  | .ptr i off=>K (.ptr i (off+o))
  | .eptr size cells off=>K (.eptr size cells (off+o))
  | .rptr i ver k off=>(h[i]?).bind fun ob=>cnd (ob.ver=ver) (K (.rptr i ver k (off+o))) none
  |_=>none
def KE (i:Int):Nat→(Nat→Option R)→Option R
 |0,_=>none
 |n+1,K=>cnd (i=n) (K n) (KE i n K)
def Lp (P:Program) (t:TypeId) (h:Heap) (x ix:AV) (K:AV→Option R):Option R:=
 (asInt ix).bind fun i=>match P.underlying t with
  |some (.slice e)=>(B3 P e).bind fun s=>match x with
   | .t (.sl size es)=>cnd (size=s∧0≤i) ((es[i.toNat]?).bind fun c=>K (.eptr size c 0)) none
   | .sref r ver off len=>match h[r]? with
    |some (.row _ ver' size _)=>cnd (ver'=ver∧size=s∧0≤i∧i<len) (K (.rptr r ver (off+i.toNat) 0)) none
    |_=>none
   | .bsl r off len size=>cnd (size=s∧0≤i∧i<len) (if len≤16 then KE i len fun j=>K (.ptr r (off+j*size)) else K (.ptr r (off+i.toNat*size))) none
   |_=>none
  |some (.array n e)=>(B3 P e).bind fun s=>match x with
   | .ptr r off=>cnd (0≤i∧i<n) (if n≤16 then KE i n fun j=>K (.ptr r (off+j*s)) else K (.ptr r (off+i.toNat*s))) none
   |_=>none
  |_=>none
def Wq (P:Program) (t:TypeId) (h:Heap) (x:AV) (K:AV→Option R):Option R:=
 match P.underlying t with
 |some (.slice _)=>match x with
  | .t (.sl _ es)=>K (.t (.int .i64 es.length))
  | .nilsl=>K (.t (.int .i64 0))
  | .sref i ver _ len=>match h[i]? with
   |some (.row _ ver' _ _)=>cnd (ver'=ver) (K (.t (.int .i64 len))) none
   |_=>none
  | .bsl _ _ len _=>K (.t (.int .i64 len))
  |_=>none
 |some .string=>(Kk x).bind fun s=>K (.t (.int .i64 s.size))
 |some (.array n _)=>K (.t (.int .i64 n))
 |_=>none
def Cp (x:Option AV) (d:Nat) (hi:Nat) (K:Nat→Option R):Option R:=
 match x with
 |none=>K d
 |some v=>(asInt v).bind fun i=>cnd (0≤i∧i≤hi) (K i.toNat) none
def Ln (P:Program) (t:TypeId) (h:Heap) (x:AV) (lo hi mx:Option AV) (K:AV→Option R):Option R:=
 match mx,P.underlying t with
 |none,some .string=>(Kk x).bind fun s=>Cp hi s.size s.size fun b=>Cp lo 0 b fun a=>K (.t (.str (s.extract a b)))
 |none,some (.slice e)=>(B3 P e).bind fun z=>match x with
  | .t (.sl size es)=>cnd (size=z) (Cp hi es.length es.length fun b=>Cp lo 0 b fun a=>K (.t (.sl size ((es.take b).drop a)))) none
  | .nilsl=>Cp hi 0 0 fun b=>Cp lo 0 b fun _=>K .nilsl
  | .sref i ver off len=>match h[i]? with
   |some (.row _ ver' size es)=>cnd (ver'=ver∧(size=z∨size=0)) (Cp hi len (es.length-off) fun b=>Cp lo 0 b fun a=>K (.sref i ver (off+a) (b-a))) none
   |_=>none
  |_=>none
 |some m,some (.slice e)=>(B3 P e).bind fun z=>match x,hi with
  | .t (.sl size es),some b=>cnd (size=z) (Cp (some m) 0 es.length fun m=>Cp (some b) 0 m fun b=>Cp lo 0 b fun _=>K .undef) none
  | .nilsl,some b=>Cp (some m) 0 0 fun m=>Cp (some b) 0 m fun b=>Cp lo 0 b fun _=>K .undef
  | .sref i ver off _,some b=>match h[i]? with
   |some (.row _ ver' _ es)=>cnd (ver'=ver) (Cp (some m) 0 (es.length-off) fun m=>Cp (some b) 0 m fun b=>Cp lo 0 b fun _=>K .undef) none
   |_=>none
  |_,_=>none
 |_,_=>none
def zeroCells? (P:Program) (t:TypeId):Option (List AV):=
 match (P.info? t).bind (·.zero) with
 |some v=>(ofConst v).cells
 |none=>none
def CA (place:Nat→Option (Nat×Nat)) (cs:List AV):List (Nat×AV)→Option (List AV)
 |[]=>some cs
 |(i,v)::rest=>
  match place i,v.cells with
  |some (off,size),some vs=>if vs.length=size∧off+size≤cs.length then CA place (setAt cs off vs) rest else none
  |_,_=>none
def OP (P:Program) (t:TypeId) (parts:List (Nat×AV)) (K:AV→Option R):Option R:=
 match P.underlying t with
 |some (.struct fs)=>
  match fs.toList.mapM (fun f=>(P.info? f.type).map fun i=>(f.offset,i.size)) with
  |some places=>(zeroCells? P t).bind fun z=>(CA (fun i=>places[i]?) z parts).bind fun cs=>K (.agg cs)
  |none=>none
 |some (.array _ e)=>(B3 P e).bind fun s=>(zeroCells? P t).bind fun z=>(CA (fun i=>some (i*s,s)) z parts).bind fun cs=>K (.agg cs)
 |_=>none
def chunk (s:Nat):Nat→List Tree→List (List Tree)
 |0,_=>[]
 |n+1,xs=>xs.take s::chunk s n (xs.drop s)
def bslV (s len:Nat) (xs:List Tree):AV:=if len=0 then .nilsl else .t (.sl s (chunk s len xs))
def EA (P:Program) (t:TypeId) (h:Heap) (len:Nat) (parts:List (Nat×AV)) (K:AV→Option R):Option R:=
 match P.underlying t with
 |some (.slice e)=>(B3 P e).bind fun s=>(zeroCells? P e).bind fun z=>
  cnd (z.length=s∧s≠0∧len*s≤16777216) ((CA (fun i=>some (i*s,s)) (yB len z).flatten parts).bind fun cs=>
    Dw P true h (yB len (B4 P 16 e)).flatten cs fun xs=>K (bslV s len xs)) none
 |_=>none
def El (P:Program) (t:TypeId) (h:Heap) (len:Nat) (parts:List (Nat×AV)) (K:AV→Heap→Option R):Option R:=
 match P.underlying t with
 |some (.slice e)=>(B3 P e).bind fun s=>(zeroCells? P e).bind fun z=>
  cnd (z.length=s∧s≠0∧len≠0∧len*s≤16777216) ((CA (fun i=>some (i*s,s)) (yB len z).flatten parts).bind fun cs=>
    K (.bsl h.length 0 len s) (h++[.box cs])) none
 |_=>none
def elems (h:Heap) (z:Nat) (x:AV) (K:List (List Tree)→Option R):Option R:=
 match x with
 | .t (.sl size es)=>cnd (size=z) (K es) none
 | .nilsl=>K []
 | .sref i ver off len=>
  match h[i]? with
  |some (.row _ ver' size es)=>cnd (ver'=ver∧(size=z∨size=0)) (K ((es.drop off).take len)) none
  |_=>none
 |_=>none
def OH (P:Program) (t:TypeId):Option Nat:=
 match P.underlying t with
 |some (.slice e)=>match P.info? e with
  |some i=>match i.zero with
   |some z=>if i.size≠0∧z.cells.size=i.size∧i.bytes≤65536 then some i.size else none
   |none=>none
  |none=>none
 |_=>none
def ER (P:Program) (t:TypeId) (h:Heap) (s x:AV) (K:AV→Heap→Option R):Option R:=
 (OH P t).bind fun z=>elems h z x fun new=>
  match s with
  | .nilsl=>cnd (new.length≤1073741824) (K (.sref h.length 0 0 new.length) (h++[.row false 0 z new])) none
  | .sref i ver off len=>match h[i]? with
   |some (.row false ver' size es)=>
    cnd (new.length=0∧off+len<es.length) (cnd (ver'=ver) (K (.sref i ver off len) h) none) (cnd (ver'=ver∧(size=z∨size=0)∧off+len≤es.length∧len+new.length≤1073741824) (K (.sref i (ver+1) 0 (len+new.length)) (h.set i (.row false (ver+1) z ((es.drop off).take len++new)))) none)
   |_=>none
  |_=>none
def QS:AV→AV→Bool
 | .sref i _ _ _,.sref j _ _ _=>i==j
 |_,_=>false
def BP (es:List (List Tree)) (p:Nat) (new:List (List Tree)):List (List Tree):=es.take p++new++es.drop (p+new.length)
def Em (P:Program) (t:TypeId) (h:Heap) (s x:AV) (K:AV→Heap→Option R):Option R:=
 (OH P t).bind fun z=>elems h z x fun new=>
  match s with
  | .sref i ver off len=>match h[i]? with
   |some (.row false ver' size es)=>
    cnd (ver'=ver∧size=z∧off+len+new.length≤es.length) (K (.sref i ver off (len+new.length)) (h.set i (.row false ver z (BP es (off+len) new)))) none
   |_=>none
  |_=>none
def O2 (P:Program) (h:Heap) (e:TypeId) (K:List Tree→Option R):Option R:=
 match zeroCells? P e,B3 P e with
 |some z,some n=>cnd (n≠0∧z.length=n) (Dw P true h (B4 P 16 e) z K) none
 |_,_=>none
def Jl (P:Program) (t:TypeId) (h:Heap) (x:AV) (K:Heap→Option R):Option R:=
 match P.underlying t with
 |some (.slice e)=>match x with
  | .t (.sl _ es)=>cnd (es.length=0) (K h) none
  | .nilsl=>K h
  | .sref i ver off len=>O2 P h e fun zs=>match h[i]? with
   |some (.row false ver' size es)=>cnd (ver'=ver∧size=zs.length) (K (h.set i (.row false ver size (BP es off (yB len zs))))) none
   |_=>none
  |_=>none
 |_=>none
def DG (s:ByteArray):List (List Tree):=s.data.toList.map fun b=>[.int .u8 (b.toNat:Int)]
def Rg (h:Heap) (z:Nat) (x:AV) (K:List (List Tree)→Option R):Option R:=
 match x with
 | .t (.str s)=>cnd (z=1) (K (DG s)) none
 |x=>elems h z x K
def ON (P:Program) (t:TypeId) (h:Heap) (d x:AV) (K:AV→Heap→Option R):Option R:=
 (FH P t).bind fun z=>Rg h z x fun new=>match d with
  | .sref i ver off len=>match h[i]? with
   |some (.row false ver' size es)=>cnd (ver'=ver∧size=z) (K (.t (.int .i64 (min new.length len:Nat))) (h.set i (.row false ver z (BP es off (new.take len))))) none
   |_=>none
  |_=>none
def OJ (P:Program) (t:TypeId) (h:Heap) (n c:AV) (K:AV→Heap→Option R):Option R:=
 (OH P t).bind fun z=>match P.underlying t with
  |some (.slice e)=>(EN .i64 n).bind fun a=>(EN .i64 c).bind fun b=>O2 P h e fun zs=>
   cnd (a=b∧0≤a∧a≤1073741824∧zs.length=z) (K (.sref h.length 0 0 a.toNat) (h++[.row false 0 z (yB a.toNat zs)])) none
  |_=>none
def Y6 (z:Nat) (h:Heap) (avs:List AV) (K:AV→Heap→Option R):Option R:=
 match avs with
 |[.nilsl,nx]=>(EN .i64 nx).bind fun n=>cnd (0≤n∧n≤1073741824) (K (.sref h.length 0 0 0) (h++[.row false 0 z []])) none
 |_=>none
def ains (z:Nat) (h:Heap) (avs:List AV) (K:AV→Heap→Option R):Option R:=
 match avs with
 |[s,kx,.t (.sl z' new)]=>(EN .i64 kx).bind fun k=>cnd (z'=z∧new.length≠0) (match s with
  | .nilsl=>cnd (k=0∧new.length≤1073741824) (K (.sref h.length 0 0 new.length) (h++[.row false 0 z new])) none
  | .sref i ver off len=>match h[i]? with
   |some (.row false ver' size es)=>cnd (ver'=ver∧size=z∧off+len=es.length∧len+new.length≤1073741824∧0≤k∧k≤len)
     (K (.sref i (ver+1) 0 (len+new.length)) (h.set i (.row false (ver+1) z ((es.drop off).take k.toNat++new++(es.drop off).drop k.toNat)))) none
   |_=>none
  |_=>none) none
 |_=>none
inductive Prim where
 |ins (z:Nat)
 |grow (z:Nat)
def aprim (p:Prim) (h:Heap) (avs:List AV) (K:AV→Heap→Option R):Option R:=
 match p with
 | .ins z=>ains z h avs K
 | .grow z=>Y6 z h avs K
end Ab
namespace Ab
open Go
variable {R:Type} {P:Program} {B:Nat→Prop} {κ:BB} {h:Heap} {w:World}
theorem KR (v:Value):AQ B κ h w (FV v) v:=by
 unfold FV;split
 ·exact .t _ _ (.int _ _)
 ·exact .t _ _ (.bool _)
 ·exact .t _ _ (.str _)
 ·exact .nilsl none
 ·exact .t _ _ (.const _ rfl)
 ·exact .t _ _ (.const _ rfl)
 ·exact .t _ _ (.const _ rfl)
 ·exact .t _ _ (.const _ rfl)
 ·exact .func _ _ _ _ _ rfl rfl (fun j x hx=>by simp at hx) (fun j x hx=>by simp at hx)
 ·exact .undef _
theorem Fm {α:Type} (cs:List α) (j:Nat) (d:α) {c:α} (hc:cs[j]? = some c):(Array.mk cs).getD j d=c:=by obtain ⟨hj,he⟩:=List.getElem?_eq_some_iff.1 hc;simp [Array.getD,hj,he]
theorem NU (v:Value):AQ B κ h w (ofConst v) v:=by
 unfold ofConst;split
 ·rename_i cs;refine .agg _ _ (by simp) fun j x hx => ?_;rw [zQ] at hx;cases hc:cs[j]? with
  |none=>rw [hc] at hx;simp at hx
  |some c=>
   rw [hc] at hx;simp only [yT,Option.some.injEq] at hx;subst hx;rw [Fm cs j undef hc];exact KR c
 ·exact KR v
structure Rel (B:Nat→Prop) (N:Nat) (κ:BB) (env:Env) (h:Heap) (a:Act) (w:World):Prop where
 heap:Ap B κ h w
 size:a.tmps.size=N
 slot:∀i,AQ B κ h w (env i) (a.tmps.getD i undef)
theorem BZ {N:Nat} {env:Env} {a:Act} (hr:Rel B N κ env h a w) (x:Operand):AQ B κ h w (ev env x) (a.eval x):=by
 cases x with
 |tmp t=>exact hr.slot t
 |const v=>exact NU v
 |global g=>exact .undef _
 |func f=>exact .func _ _ _ _ _ rfl rfl (fun j x hx=>by simp at hx) (fun j x hx=>by simp at hx)
theorem Cg {k:IntKind} {x:AV} {n:Int} {v:Value} (hx:EN k x=some n) (hv:AQ B κ h w x v):v = .int k n:=by
 unfold EN at hx;split at hx
 ·rename_i k' n';split at hx
  ·rename_i hk;subst hk;cases hx;cases hv with
   |t _ _ ht=>cases ht;rfl
  ·cases hx
 ·cases hx
theorem OF {x:AV} {n:Int} {v:Value} (hx:asInt x=some n) (hv:AQ B κ h w x v):∃k,v = .int k n:=by
 unfold asInt at hx;split at hx
 ·rename_i k' n';cases hx;cases hv with
  |t _ _ ht=>cases ht;exact ⟨_,rfl⟩
 ·cases hx
theorem Ei {x:AV} {b:Bool} {v:Value} (hx:asBool x=some b) (hv:AQ B κ h w x v):v = .bool b:=by
 unfold asBool at hx;split at hx
 ·cases hx;cases hv with
  |t _ _ ht=>cases ht;rfl
 ·cases hx
theorem Fp {x:AV} {s:ByteArray} {v:Value} (hx:Kk x=some s) (hv:AQ B κ h w x v):v = .string s:=by
 unfold Kk at hx;split at hx
 ·cases hx;cases hv with
  |t _ _ ht=>cases ht;rfl
 ·cases hx
theorem bind_some {α β:Type} {x:Option α} {f:α→Option β} {r:β} (h:x.bind f=some r):∃a,x=some a∧f a=some r:=by
 cases x with
 |none=>cases h
 |some a=>exact ⟨a,rfl,h⟩
theorem AG {α:Type} {c:Prop} [Decidable c] {x:Option α} {r:α} (h:(if c then x else none)=some r):c∧x=some r:=by
 split at h
 ·rename_i hc;exact ⟨hc,h⟩
 ·cases h
theorem Ig {t:TypeId} {b:Bool} (hb:A9 P t=some b) (w:World):(isAgg t).run P w = .ok b w:=by
 unfold A9 at hb;unfold isAgg;split at hb
 ·rename_i fs hu;cases hb;simp [run_underlying hu]
 ·rename_i n e hu;cases hb;simp [run_underlying hu]
 ·rename_i d hn1 hn2 hu;cases hb;cases d<;>first|exact (hn1 _ rfl).elim|exact (hn2 _ _ rfl).elim|simp [run_underlying hu]
 ·cases hb
theorem BW {t:TypeId} {n:Nat} (hn:B3 P t=some n) (w:World):(Go.sizeOf t).run P w = .ok n w:=by
 unfold B3 at hn;cases hi:P.info? t with
 |none=>rw [hi] at hn;cases hn
 |some i=>
  rw [hi] at hn;simp only [yT,Option.some.injEq] at hn;simp [Go.sizeOf,typeInfo,hi,hn]
theorem Nx {α:Type} (f:Nat→α) (n j:Nat) (d:α) (hj:j<n):((List.range n).map f).toArray.getD j d=f j:=by simp [Array.getD,hj]
theorem X7 {t:TypeId} {total:Nat} {get:Nat→AV} {off:Nat} {K:AV→Option R} {r:R} (hr:rd P t total get off K=some r)
  {b base:Nat} (u:Nat→Value) (hc:∀c,c<total→w.cell? ⟨b,base+c,none⟩=some (u c)) (hv:∀c,c<total→AQ B κ h w (get c) (u c)) :
  ∃v val,K v=some r∧(Instr.loadAt t (.pointer (some ⟨b,base+off,none⟩))).run P w = .ok val w∧AQ B κ h w v val:=by
 unfold rd at hr
 try simp only [AB] at hr
 split at hr
 ·rename_i n ha hs;obtain ⟨hle,hK⟩:=AG hr;refine ⟨_,.agg ((List.range n).map fun j=>u (off+j)).toArray,hK,?_,?_⟩
  ·have hl:=run_loadCells (P:=P) w ⟨b,base+off,none⟩ n (fun j=>u (off+j)) (fun j hj=>by
    have:=hc (off+j) (by omega);unfold Addr.add;split
    ·rename_i h0;subst h0;simpa using this
    ·simpa [yE] using this)
   simp [Instr.loadAt,Instr.sureAddr,loadVar,Ig ha,BW hs,hl]
  ·refine .agg _ _ (by simp [BV]) fun j x hx => ?_;have hj:j<n:=by
    rcases yL j n with h|h
    ·exact h
    ·simp [BV,h] at hx
   simp only [BV,zQ,zR hj,yT,Option.some.injEq] at hx;subst hx;rw [Nx _ _ _ _ hj];exact hv _ (by omega)
 ·rename_i ha;obtain ⟨hlt,hK⟩:=AG hr;refine ⟨_,u off,hK,?_,hv off hlt⟩;have:=hc off hlt;simp [Instr.loadAt,Instr.sureAddr,loadVar,Ig ha,this]
 ·cases hr
theorem Bq {b o:Nat} {cells:Array Value} {elem:TypeId} {fr:Nat×Nat} (hb:w.heap[b]? = some (.cells cells elem fr)) (ho:o<cells.size) :
  w.cell? ⟨b,o,none⟩=some (cells.getD o undef):=by
 simp [World.cell?,hb,Array.getD,ho]
theorem Bg {α:Type} (l:List α) (j:Nat) (d:α) (hj:j<l.length):l[j]? = some (l.getD j d):=by simp [List.getD,hj]
theorem CE (hh:Ap B κ h w) {i:Nat} {o:AI} (ho:h[i]? = some o):∃k,κ[i]? = some k:=by
 have:i<h.length:=by
  rcases yL i h.length with x|x
  ·exact x
  ·rw [zP x] at ho;cases ho
 exact ⟨_,zO (by rw [hh.len];exact this)⟩
theorem Sy {t:TypeId} {a:AV} {K:AV→Option R} {r:R} (hr:JO P t h a K=some r) (hh:Ap B κ h w) {av:Value} (ha:AQ B κ h w a av) :
  ∃v val,K v=some r∧(Instr.loadAt t av).run P w = .ok val w∧AQ B κ h w v val:=by
 unfold JO at hr
 try simp only [AB] at hr
 split at hr
 ·rename_i i off;split at hr
  ·rename_i cs hi;cases ha with
   |ptr _ _ b base hk _=>
    obtain ⟨hb0,cells,elem,hc,hs,hv⟩:=hh.obj i _ _ hi hk;subst hb0;refine X7 hr (fun c=>cells.getD c undef) (fun c hlt => ?_) (fun c hlt=>hv c _ (Bg _ _ _ hlt));rw [yR];exact Bq hc (by omega)
  ·cases hr
 ·rename_i i ver k off;split at hr
  ·rename_i fz ver' size es hi;obtain ⟨rfl,hr1⟩:=AG hr;obtain ⟨e,he,hr2⟩:=bind_some hr1;clear hr hr1;cases ha with
   |rptr _ _ _ _ _ _ _ hv=>
    obtain ⟨b,base,hkk,rfl,_,_⟩:=hv _ hi rfl;obtain ⟨_,cells,elem,hc,hs,hl,ht⟩:=hh.obj i _ _ hi hkk;have hk:k<es.length:=by
     rcases yL k es.length with x|x
     ·exact x
     ·rw [zP x] at he;cases he
    have hmul:k*size+size≤es.length*size:=by rw [← yQ];exact yN _ hk
    simp only [AI.size];rw [← yE];refine X7 hr2 (fun c=>cells.getD (base+(k*size+c)) undef) (fun c hlt => ?_) (fun c hlt =>.t _ _ (ht k e c _ he (Bg _ _ _ (by rw [hl k e he];exact hlt))));rw [yE];exact Bq hc (by omega)
  ·cases hr
 ·rename_i size cells off;cases ha with
  |eptr _ _ _ b base u hsz hb hn hc ht=>
   refine X7 hr u (fun c hlt => ?_) (fun c hlt => ?_)
   ·exact hc c _ (Bg _ c default (by omega))
   ·exact .t _ _ (ht c _ (Bg _ _ _ (by omega)))
 ·cases hr
def E5 (w:World) (A:Nat→Prop) (size:Nat) (es:List (List Tree)) (v:Value):Prop:=
 (∀(j:Nat) (e:List Tree),es[j]? = some e→e.length=size)∧∃a cap,v = .slice a es.length cap∧es.length≤cap∧
  (es=[]∨∃b off,a=some ⟨b,off,none⟩∧b<w.heap.size∧∀(j:Nat) (e:List Tree) (c:Nat) (x:Tree),es[j]? = some e→e[c]? = some x→
   ∃u,w.cell? ⟨b,off+(j*size+c),none⟩=some u∧Bp w A x u)
theorem Bp.less {A A':Nat→Prop} {x:Tree} {v:Value} (ht:Bp w A x v) (hA:∀b,A' b→A b):Bp w A' x v:=
 ht.mono (yI _) (fun _ _ _=>rfl) fun b hb =>.inl (hA b hb)
theorem E5.KN {A:Nat→Prop} {size:Nat} {es:List (List Tree)} {v:Value} (ht:Bp w A (.sl size es) v):E5 w A size es v:=by
 cases ht with
 |nil _ cap a=>exact ⟨fun j e he=>by simp at he,a,cap,rfl,yS _,.inl rfl⟩
 |sl _ _ b off cap u h1 h2 h3 h4 h5 h6=>
  exact ⟨h4,_,cap,rfl,h1,.inr ⟨b,off,rfl,h2,fun j e c x he hx=>⟨_,h5 j e c x he hx,h6 j e c x he hx⟩⟩⟩
theorem getElem?_sub {α:Type} {es:List α} {off len j:Nat} {e:α} (he:((es.drop off).take len)[j]? = some e):j<len∧es[off+j]? = some e:=by
 have hj:j<len:=by
  rcases yL j len with x|x
  ·exact x
  ·simp [zS,yO.2 x] at he
 rw [zT hj,zN] at he;exact ⟨hj,he⟩
theorem Mh {B:Nat→Prop} (hh:Ap B κ h w) {i ver off len size:Nat} {fz:Bool} {es:List (List Tree)} {v:Value} (hi:h[i]? = some (.row fz ver size es)) (hs:SRef κ h w i ver off len v) :
  ((es.drop off).take len).length=len∧off+len≤es.length∧E5 w (fun b=>B b∨Ex κ h b) size ((es.drop off).take len) v∧
   (len=0∨∃b base cap,κ[i]? = some (some (b,base))∧v = .slice (some ⟨b,base+off*size,none⟩) len cap):=by
 obtain ⟨k,hk⟩:=CE hh hi;obtain ⟨_,hlen,hm⟩:=hs k _ hk hi rfl;simp only [AI.len] at hlen;have hl:((es.drop off).take len).length=len:=by simp;omega
 refine ⟨hl,hlen,?_⟩;have ho:=hh.obj i _ _ hi hk;rcases hm with ⟨rfl,_,a0,rfl⟩|⟨b,base,rfl,cap,rfl,hcap,_⟩
 ·exact ⟨⟨fun j e he=>by simp at he,a0,0,by simp,by simp,.inl (by simp)⟩,.inl rfl⟩
 ·obtain ⟨_,cells,elem,hc,hsz,hls,ht⟩:=ho;simp only [AI.size];simp only [AI.len] at hcap;refine ⟨⟨fun j e he=>hls _ e (getElem?_sub he).2,_,cap,by rw [hl],by rw [hl];omega,.inr ⟨b,base+off*size,rfl,hh.lt i b base hk,fun j e c x he hx => ?_⟩⟩,.inr ⟨b,base,cap,hk,rfl⟩⟩;obtain ⟨hj,he'⟩:=getElem?_sub he;have hcl:c<size:=by have:=(List.getElem?_eq_some_iff.1 hx).1;rw [hls _ e he'] at this;exact this
  have hoj:off+j<es.length:=(List.getElem?_eq_some_iff.1 he').1;have hmul:(off+j)*size+size≤es.length*size:=by rw [← yQ];exact yN _ hoj
  have heq:base+off*size+(j*size+c)=base+((off+j)*size+c):=by rw [yG];omega
  refine ⟨_,?_,ht (off+j) e c x he' hx⟩;rw [heq];exact Bq hc (by omega)
theorem E5.VC {A:Nat→Prop} {size size':Nat} {v:Value} (hs:E5 w A size [] v):E5 w A size' [] v:=by obtain ⟨_,a,cap,e,_,_⟩:=hs;exact ⟨fun j e he=>by simp at he,a,cap,e,yS _,.inl rfl⟩
theorem row_zero (hh:Ap B κ h w) {i ver size:Nat} {fz:Bool} {es:List (List Tree)} (hi:h[i]? = some (.row fz ver size es)) (hz:size=0):es=[]:=by
 obtain ⟨k,hk⟩:=CE hh hi;have ho:=hh.obj i _ _ hi hk;cases k with
 |none=>exact ho
 |some p=>exact (ho.1 hz).elim
theorem JM {α:Type} {es:List α} (he:es=[]) (a b:Nat):(es.drop a).take b=[]:=by subst he;simp
theorem Kd {z:Nat} {x:AV} {K:List (List Tree)→Option R} {r:R} (hr:elems h z x K=some r) (hh:Ap B κ h w) {v:Value} (hv:AQ B κ h w x v) :
  ∃es,K es=some r∧E5 w (fun b=>B b∨Ex κ h b) z es v:=by
 unfold elems at hr
 try simp only [AB] at hr
 split at hr
 ·obtain ⟨rfl,hK⟩:=AG hr;cases hv with
  |t _ _ ht=>exact ⟨_,hK,.KN ht⟩
 ·cases hv with
  |nilsl a0=>exact ⟨_,hr,fun j e he=>by simp at he,a0,0,rfl,yI _,.inl rfl⟩
 ·split at hr
  ·rename_i i ver off len _ fz ver' size es hi;obtain ⟨⟨rfl,hz⟩,hK⟩:=AG hr;cases hv with
   |sref _ _ _ _ _ _ _ hs=>
    obtain ⟨_,_,hsl,_⟩:=Mh hh hi hs;refine ⟨_,hK,?_⟩;rcases hz with rfl|hz
    ·exact hsl
    ·rw [JM (row_zero hh hi hz)] at hsl ⊢;exact hsl.VC
  ·cases hr
 ·cases hr
theorem Bp.YJ {A:Nat→Prop} {size:Nat} {es:List (List Tree)} {v:Value} (hs:E5 w A size es v)
  (hA:∀b off cap,v = .slice (some ⟨b,off,none⟩) es.length cap→es≠[]→¬A b):Bp w A (.sl size es) v:=by
 obtain ⟨hl,a,cap,rfl,hcap,hc⟩:=hs;rcases hc with rfl|⟨b,off,rfl,hb,hc⟩
 ·exact .nil _ _ _
 ·by_cases hn:es=[]
  ·subst hn;exact .nil _ _ _
  ·have hex:∀(j c:Nat),∃u,∀(e:List Tree) (x:Tree),es[j]? = some e→e[c]? = some x→w.cell? ⟨b,off+(j*size+c),none⟩=some u∧Bp w A x u:=by
    intro j c;by_cases hj:∃e x,es[j]? = some e∧e[c]? = some x
    ·obtain ⟨e,x,he,hx⟩:=hj;obtain ⟨u,h1,h2⟩:=hc j e c x he hx;refine ⟨u,fun e' x' he' hx' => ?_⟩;rw [he] at he';cases he';rw [hx] at hx';cases hx';exact ⟨h1,h2⟩
    ·exact ⟨undef,fun e x he hx=>(hj ⟨e,x,he,hx⟩).elim⟩
   refine .sl size es b off cap (fun j c=>(hex j c).choose) hcap hb (hA b off cap rfl hn) hl (fun j e c x he hx => ?_) (fun j e c x he hx => ?_)
   ·exact ((hex j c).choose_spec e x he hx).1
   ·exact ((hex j c).choose_spec e x he hx).2
theorem conv_ok {fz:Bool} {ty:TypeId} {x:AV} {K:Tree→Option R} {r:R} (hr:conv P fz h ty x K=some r) (hh:Ap B κ h w) {v:Value} (hv:AQ B κ h w x v) :
  ∃y,K y=some r∧Bp w (fun b=>B b∨(fz=true∧Ex κ h b)) y v:=by
 unfold conv at hr
 try simp only [AB] at hr
 split at hr
 ·cases hv with
  |t _ _ ht=>exact ⟨_,hr,ht.less fun b hb=>hb.imp id And.right⟩
 ·obtain ⟨s,hs,hK⟩:=bind_some hr;cases hv;exact ⟨_,hK,.nil _ _ _⟩
 ·rename_i i ver off len;split at hr
  ·rename_i f ver' size es hi;obtain ⟨s,hs,hK0⟩:=bind_some hr;obtain ⟨⟨hf,rfl,hz⟩,hK⟩:=AG hK0;clear hK0;cases hv with
   |sref _ _ _ _ _ _ _ hsr=>
    obtain ⟨hl,hle,hsl,hbb⟩:=Mh hh hi hsr;refine ⟨_,hK,?_⟩;have hsl':E5 w (fun b=>B b∨(fz=true∧Ex κ h b)) s ((es.drop off).take len) v:=by
     have h1:E5 w (fun b=>B b∨Ex κ h b) s ((es.drop off).take len) v:=by
      rcases hz with rfl|hz
      ·exact hsl
      ·rw [JM (row_zero hh hi hz)] at hsl ⊢;exact hsl.VC
     obtain ⟨hq,a,cap,e1,e2,e3⟩:=h1;refine ⟨hq,a,cap,e1,e2,?_⟩;rcases e3 with e3|⟨b,o,e4,e5,e6⟩
     ·exact .inl e3
     ·exact .inr ⟨b,o,e4,e5,fun j e c x he hx=>by obtain ⟨u,u1,u2⟩:=e6 j e c x he hx;exact ⟨u,u1,u2.less fun b hb=>hb.imp id And.right⟩⟩
    refine .YJ hsl' fun b o cap he hn hA => ?_;rcases hbb with h0|⟨b',base,cap',hk,he'⟩
    ·subst h0;simp at hn
    ·rw [he'] at he;injection he with he1;injection he1 with he1;injection he1 with he1;subst he1;rcases hA with hB|⟨hfz,i',base',o',hk',ho',hfz'⟩
     ·exact hh.notB i _ _ hk hB
     ·rcases hf with hf|hf
      ·subst hf;obtain rfl:=hh.inj i i' _ _ _ hk hk';rw [hi] at ho';cases ho';simp [AI.MH] at hfz'
      ·rw [hf] at hfz;exact absurd hfz (by simp)
  ·cases hr
 ·rename_i fn;cases hv with
  |func _ _ _ fs cs h1 h2 _ _=>
   have e1:fs = #[]:=zA h1;have e2:cs = #[]:=zA h2;subst e1 e2;exact ⟨_,hr,.const _ rfl⟩
 ·cases hr
theorem DD {fz:Bool}:∀{ts:List TypeId} {xs:List AV} {K:List Tree→Option R} {r:R},Dw P fz h ts xs K=some r→Ap B κ h w→∀{vs:List Value},vs.length=xs.length→
  (∀(j:Nat) (x:AV) (v:Value),xs[j]? = some x→vs[j]? = some v→AQ B κ h w x v)→
  ∃ys:List Tree,K ys=some r∧ys.length=xs.length∧ts.length=xs.length∧∀(j:Nat) (y:Tree) (v:Value),ys[j]? = some y→vs[j]? = some v→Bp w (fun b=>B b∨(fz=true∧Ex κ h b)) y v
 |[],[],K,r,hr,hh,vs,hl,hv=>⟨[],hr,rfl,rfl,fun j y v hy=>by simp at hy⟩
 |[],x::xs,K,r,hr,hh,vs,hl,hv=>by simp [Dw] at hr
 |t::ts,[],K,r,hr,hh,vs,hl,hv=>by simp [Dw] at hr
 |t::ts,x::xs,K,r,hr,hh,vs,hl,hv=>by
  cases vs with
  |nil=>simp at hl
  |cons v vs=>
   obtain ⟨y,hK,hy⟩:=conv_ok (P:=P) hr hh (hv 0 x v rfl rfl);obtain ⟨ys,hK2,h1,h2,h3⟩:=DD (vs:=vs) hK hh (by simpa using hl) fun j x' v' hx' hv'=>hv (j+1) x' v' (by simpa using hx') (by simpa using hv');refine ⟨y::ys,hK2,by simp [h1],by simp [h2],fun j y' v' hy' hv' => ?_⟩;cases j with
   |zero=>simp at hy' hv';subst hy' hv';exact hy
   |succ j=>exact h3 j y' v' (by simpa using hy') (by simpa using hv')
theorem Wy {op:BinOp} {k:IntKind} {a b:Int} {K:AV→Option R} {r:R} (hr:OQ op k a b K=some r) (t:TypeId) :
  ∃v val,K v=some r∧(binOp op t (.int k a) (.int k b)).run P w = .ok val w∧AQ B κ h w v val:=by
 unfold OQ at hr
 try simp only [AB] at hr
 split at hr
 ·exact ⟨_,_,hr,by simp [binOp,Op.intArith],.t _ _ (.int _ _)⟩
 ·exact ⟨_,_,hr,by simp [binOp,Op.intArith],.t _ _ (.int _ _)⟩
 ·exact ⟨_,_,hr,by simp [binOp,Op.intArith],.t _ _ (.int _ _)⟩
 ·split at hr
  ·cases hr
  ·rename_i hb;exact ⟨_,_,hr,by simp [binOp,Op.intDiv,hb],.t _ _ (.int _ _)⟩
 ·split at hr
  ·cases hr
  ·rename_i hb;exact ⟨_,_,hr,by simp [binOp,Op.intDiv,hb],.t _ _ (.int _ _)⟩
 ·exact ⟨_,_,hr,by simp [binOp,Op.intCmp],.t _ _ (.bool _)⟩
 ·exact ⟨_,_,hr,by simp [binOp,Op.intCmp],.t _ _ (.bool _)⟩
 ·exact ⟨_,_,hr,by simp [binOp,Op.intCmp],.t _ _ (.bool _)⟩
 ·exact ⟨_,_,hr,by simp [binOp,Op.intCmp],.t _ _ (.bool _)⟩
 ·exact ⟨_,_,hr,by simp [binOp,Op.intCmp],.t _ _ (.bool _)⟩
 ·exact ⟨_,_,hr,by simp [binOp,Op.intCmp],.t _ _ (.bool _)⟩
 ·exact ⟨_,_,hr,by simp [binOp,Op.intBits,andK],.t _ _ (.int _ _)⟩
 ·exact ⟨_,_,hr,by simp [binOp,Op.intBits,orK],.t _ _ (.int _ _)⟩
 ·exact ⟨_,_,hr,by simp [binOp,Op.intBits,xorK],.t _ _ (.int _ _)⟩
 ·cases hr
theorem Wp {op:BinOp} {k k':IntKind} {a b:Int} {K:AV→Option R} {r:R} (hr:OE op k a b K=some r) (t:TypeId) :
  ∃v val,K v=some r∧(binOp op t (.int k a) (.int k' b)).run P w = .ok val w∧AQ B κ h w v val:=by
 unfold OE at hr
 try simp only [AB] at hr
 split at hr
 ·split at hr
  ·cases hr
  ·rename_i hb;exact ⟨_,_,hr,by simp [binOp,Op.shift,hb,shlK],.t _ _ (.int _ _)⟩
 ·split at hr
  ·cases hr
  ·rename_i hb;exact ⟨_,_,hr,by simp [binOp,Op.shift,hb,QQ],.t _ _ (.int _ _)⟩
 ·cases hr
def Fits (P:Program) (B:Nat→Prop) (κ:BB) (h:Heap) (w:World) (g:Nat→AV) (off:Nat) (t:TypeId) (v:Value):Prop:=
 match A9 P t with
 |some true=>∃vs n,v = .agg vs∧B3 P t=some n∧vs.size=n∧∀j,j<n→AQ B κ h w (g (off+j)) (vs.getD j undef)
 |some false=>AQ B κ h w (g off) v
 |none=>False
theorem Qb {g:Nat→AV} {off n o m:Nat} {vs:Array Value} {t:TypeId} (hv:∀j,j<n→AQ B κ h w (g (off+j)) (vs.getD j undef)) (hn:vs.size=n) (hm:B3 P t=some m) (ho:o+m≤n)
  {b:Bool} (hb:A9 P t=some b) (h1:b=false→m=1):∃v,(part t vs o).run P w = .ok v w∧Fits P B κ h w g (off+o) t v:=by
 cases b with
 |true=>
  refine ⟨.agg (vs.extract o (o+m)),by simp [part,Ig hb,BW hm],?_⟩;unfold Fits;rw [hb];refine ⟨_,m,rfl,hm,by simp;omega,fun j hj => ?_⟩;have h2:=hv (o+j) (by omega);have h3:(vs.extract o (o+m)).getD j undef=vs.getD (o+j) undef:=by
   have ha:j<(vs.extract o (o+m)).size:=by simp;omega
   have hb':o+j<vs.size:=by omega
   simp only [Array.getD,ha,hb',dif_pos];simp
  rw [h3,yE];exact h2
 |false=>
  have hm1:=h1 rfl;subst hm1;have hlt:o<vs.size:=by omega
  refine ⟨vs.getD o undef,?_,?_⟩
  ·simp [part,Ig hb,Array.getD,hlt]
  ·unfold Fits;rw [hb];exact hv o (by omega)
theorem Qs:∀(d:Nat) {t:TypeId} {gx gy:Nat→AV} {off:Nat} {K:Bool→Option R} {r:R},Ox P d t gx gy off K=some r→
  ∀{x y:Value},Fits P B κ h w gx off t x→Fits P B κ h w gy off t y→∀D,d≤D→∃b,K b=some r∧(Op.equalIn D t x y).run P w = .ok b w
 |0,t,gx,gy,off,K,r,hr,x,y,hx,hy,D,hD=>by simp [Ox] at hr
 |d+1,t,gx,gy,off,K,r,hr,x,y,hx,hy,D,hD=>by
  obtain ⟨D,rfl⟩:∃D',D=D'+1:=⟨D-1,by omega⟩
  unfold Ox at hr
  try simp only [AB] at hr
  split at hr
  ·rename_i k hu;obtain ⟨a,ha,hr⟩:=bind_some hr;obtain ⟨b,hb,hr⟩:=bind_some hr;have hg:A9 P t=some false:=by unfold A9;rw [hu]
   unfold Fits at hx hy;rw [hg] at hx hy;obtain rfl:=Cg ha hx;obtain rfl:=Cg hb hy;exact ⟨_,hr,run_equalIn_int w D t k k a b hu⟩
  ·rename_i hu;obtain ⟨a,ha,hr⟩:=bind_some hr;obtain ⟨b,hb,hr⟩:=bind_some hr;have hg:A9 P t=some false:=by unfold A9;rw [hu]
   unfold Fits at hx hy;rw [hg] at hx hy;obtain rfl:=Ei ha hx;obtain rfl:=Ei hb hy;exact ⟨_,hr,run_equalIn_bool w D t a b hu⟩
  ·rename_i hu;obtain ⟨a,ha,hr⟩:=bind_some hr;obtain ⟨b,hb,hr⟩:=bind_some hr;have hg:A9 P t=some false:=by unfold A9;rw [hu]
   unfold Fits at hx hy;rw [hg] at hx hy;obtain rfl:=Fp ha hx;obtain rfl:=Fp hb hy;refine ⟨_,hr,?_⟩;rw [run_equalIn_string w D t a b hu,beq_toListBytes]
  ·rename_i fs hu;split at hr
   ·rename_i n hn;obtain ⟨hst,hr⟩:=AG hr;have hg:A9 P t=some true:=by unfold A9;rw [hu]
    unfold Fits at hx hy;rw [hg] at hx hy;obtain ⟨xs,n1,rfl,hn1,hxs,hvx⟩:=hx;obtain ⟨ys,n2,rfl,hn2,hys,hvy⟩:=hy;rw [hn] at hn1 hn2;cases hn1;cases hn2;have hfo:P.fieldsOf t=fs:=by simp [Program.fieldsOf,hu]
    rw [run_equalIn_struct w D t xs ys (by rw [hfo];exact hu) hst,hfo];have key:∀(l:List Field) (acc:Bool),l.foldr (fun f (K':Bool→Option R) (acc:Bool)=>
      match B3 P f.type with
      | some m => if f.name ≠ "_" ∧ f.offset + m ≤ n ∧ (A9 P f.type = some true ∨ A9 P f.type = some false ∧ m = 1) then Ox P d f.type gx gy (off + f.offset) fun b => K' (acc && b) else none
      |none=>none) K acc=some r→∃b,K (acc&&b)=some r∧(Op.eqFields D xs ys l).run P w = .ok b w:=by
     intro l
     induction l with
     |nil=>intro acc hl;exact ⟨true,by simpa using hl,by simp [Op.eqFields]⟩
     |cons f l ih=>
      intro acc hl;simp only [List.foldr_cons] at hl;split at hl
      ·rename_i m hm;obtain ⟨⟨hname,hle,hag⟩,hl⟩:=AG hl;obtain ⟨bb,hbb,h1⟩:∃bb,A9 P f.type=some bb∧(bb=false→m=1):=by
        rcases hag with hag|⟨hag,hm1⟩
        ·exact ⟨true,hag,by simp⟩
        ·exact ⟨false,hag,fun _=>hm1⟩
       obtain ⟨vx,hpx,hfx⟩:=Qb (P:=P) (o:=f.offset) hvx hxs hm hle hbb h1;obtain ⟨vy,hpy,hfy⟩:=Qb (P:=P) (o:=f.offset) hvy hys hm hle hbb h1;obtain ⟨b,hb,hrun⟩:=Qs d hl hfx hfy D (by omega);obtain ⟨c,hc,hrun2⟩:=ih _ hb;refine ⟨b&&c,by rw [← Bool.and_assoc];exact hc,?_⟩;simp only [Op.eqFields,if_pos hname,Sem.run_bind,hpx,hpy,hrun,Result.andThen_ok];cases b
       ·simp
       ·simpa using hrun2
      ·cases hl
    obtain ⟨b,hb,hrun⟩:=key fs.toList true hr;exact ⟨b,by simpa using hb,hrun⟩
   ·cases hr
  ·cases hr
theorem DY {op:BinOp} {t:TypeId} {x y:Operand} {v u:Value} (hv:(match v with | .agg _ | .nilIface=>false|_=>true)=true):(eqGuard op t x y v u).run P w = .ok () w:=by unfold eqGuard;cases op<;>simp<;>(cases v<;>simp_all)
theorem abin_ok {op:BinOp} {t:TypeId} {x y:AV} {K:AV→Option R} {r:R} (hr:Y8 P op t x y K=some r) {vx vy:Value} (hx:AQ B κ h w x vx) (hy:AQ B κ h w y vy) (ox oy:Operand) :
  ∃v val,K v=some r∧(do eqGuard op t ox oy vx vy;binOp op t vx vy:Sem Value).run P w = .ok val w∧AQ B κ h w v val:=by
 unfold Y8 at hr
 try simp only [AB] at hr
 split at hr
 ·rename_i k hu;split at hr
  ·obtain ⟨a,ha,hr⟩:=bind_some hr;obtain ⟨b,hb,hr⟩:=bind_some hr;obtain rfl:=Cg ha hx;obtain ⟨k',rfl⟩:=OF hb hy;obtain ⟨v,val,h1,h2,h3⟩:=Wp (P:=P) (B:=B) (κ:=κ) (h:=h) (w:=w) (k':=k') hr t;exact ⟨v,val,h1,by simp [DY,h2],h3⟩
  obtain ⟨a,ha,hr⟩:=bind_some hr;obtain ⟨b,hb,hr⟩:=bind_some hr;obtain rfl:=Cg ha hx;obtain rfl:=Cg hb hy;obtain ⟨v,val,h1,h2,h3⟩:=Wy (P:=P) (B:=B) (κ:=κ) (h:=h) (w:=w) hr t;exact ⟨v,val,h1,by simp [DY,h2],h3⟩
 ·rename_i hu;obtain ⟨a,ha,hr⟩:=bind_some hr;obtain ⟨b,hb,hr⟩:=bind_some hr;obtain rfl:=Ei ha hx;obtain rfl:=Ei hb hy;split at hr
  ·exact ⟨_,_,hr,by simp [DY,binOp,Op.equal,Op.maxDepth,run_equalIn_bool w 9999 t a b hu],.t _ _ (.bool _)⟩
  ·exact ⟨_,_,hr,by simp [DY,binOp,Op.equal,Op.maxDepth,run_equalIn_bool w 9999 t a b hu],.t _ _ (.bool _)⟩
  ·cases hr
 ·rename_i hu;obtain ⟨a,ha,hr⟩:=bind_some hr;obtain ⟨b,hb,hr⟩:=bind_some hr;obtain rfl:=Fp ha hx;obtain rfl:=Fp hb hy;split at hr
  ·exact ⟨_,_,hr,by simp [DY,binOp,Op.stringOp,← beq_toListBytes],.t _ _ (.bool _)⟩
  ·exact ⟨_,_,hr,by simp [DY,binOp,Op.stringOp,← beq_toListBytes,bne],.t _ _ (.bool _)⟩
  ·obtain ⟨hsz,hr⟩:=AG hr;have hn:¬(((a.size+b.size:Nat):Int)>IntKind.i64.max):=by
    have:IntKind.i64.max=9223372036854775807:=by decide
    rw [this];omega
   exact ⟨_,_,hr,by simp only [DY,binOp,Op.stringOp,Sem.run_bind,Result.andThen_ok,if_neg hn,Sem.run_pure],.t _ _ (.str _)⟩
  ·cases hr
 ·rename_i fs hu;split at hr
  ·rename_i xs ys n hn;obtain ⟨⟨hg,hlx,hly⟩,hr⟩:=AG hr;cases hx with
   |agg _ vx hsx hvx=>
    cases hy with
    |agg _ vy hsy hvy=>
     have hag:A9 P t=some true:=by unfold A9;rw [hu]
     have fx:Fits P B κ h w (fun i=>xs.getD i .undef) 0 t (.agg vx):=by unfold Fits;rw [hag];exact ⟨vx,n,rfl,hn,by omega,fun j hj=>hvx j _ (by rw [yR];exact Bg _ _ _ (by omega))⟩
     have fy:Fits P B κ h w (fun i=>ys.getD i .undef) 0 t (.agg vy):=by unfold Fits;rw [hag];exact ⟨vy,n,rfl,hn,by omega,fun j hj=>hvy j _ (by rw [yR];exact Bg _ _ _ (by omega))⟩
     split at hr
     ·obtain ⟨b,hb,hrun⟩:=Qs 16 hr fx fy 10000 (by omega);exact ⟨_,_,hb,by simp [run_eqGuard_agg w _ t ox oy vx vy hg,run_eql_struct,hrun],.t _ _ (.bool _)⟩
     ·obtain ⟨b,hb,hrun⟩:=Qs 16 hr fx fy 10000 (by omega);exact ⟨_,_,hb,by simp [run_eqGuard_agg w _ t ox oy vx vy hg,run_neq_struct,hrun],.t _ _ (.bool _)⟩
     ·cases hr
  ·cases hr
 ·cases hr
theorem S4 {src dst:TypeId} {x:AV} {K:AV→Option R} {r:R} (hr:IT P src dst x K=some r) {vx:Value} (hx:AQ B κ h w x vx) :
  ∃v val,K v=some r∧(convert src dst vx).run P w = .ok val w∧AQ B κ h w v val:=by
 unfold IT at hr;split at hr
 ·rename_i k0 k hs hd;obtain ⟨n,hn,hr⟩:=bind_some hr;obtain rfl:=Cg hn hx;exact ⟨_,_,hr,by simp [convert,run_underlying hs,run_underlying hd,Conv.intToInt],.t _ _ (.int _ _)⟩
 ·rename_i hs hd;obtain ⟨n,hn,hr⟩:=bind_some hr;obtain rfl:=Fp hn hx;exact ⟨_,_,hr,by simp [convert,run_underlying hs,run_underlying hd],.t _ _ (.str _)⟩
 ·cases hr
theorem aun_ok {op:UnOp} {x:AV} {K:AV→Option R} {r:R} (hr:aun op x K=some r) {vx:Value} (hx:AQ B κ h w x vx) :
  ∃v val,K v=some r∧(Op.unary op vx).run P w = .ok val w∧AQ B κ h w v val:=by
 unfold aun at hr;split at hr
 ·obtain ⟨b,hb,hr⟩:=bind_some hr;obtain rfl:=Ei hb hx;exact ⟨_,_,hr,by simp [Op.unary],.t _ _ (.bool _)⟩
 ·split at hr
  ·cases hx with
   |t _ _ ht=>
    cases ht;exact ⟨_,_,hr,by simp [Op.unary,Op.intArith],.t _ _ (.int _ _)⟩
  ·cases hr
 ·cases hr
theorem SZ {t:TypeId} {f o:Nat} (ho:IH P t f=some o):∃fs fd n,P.underlying t=some (.struct fs)∧fs[f]? = some fd∧fd.offset=o∧B3 P fd.type=some (n+1):=by
 unfold IH at ho;split at ho
 ·rename_i fs hu;split at ho
  ·rename_i fd hf;split at ho
   ·rename_i n hn;cases ho;exact ⟨fs,fd,n,hu,hf,rfl,hn⟩
   ·cases ho
  ·cases ho
 ·cases ho
theorem E1 (b o n:Nat):Addr.add ⟨b,o,none⟩ n=⟨b,o+n,none⟩:=by
 unfold Addr.add;split
 ·rename_i h0;subst h0;rfl
 ·rfl
theorem H2 {t:TypeId} {f o:Nat} (ho:IH P t f=some o) (b off:Nat) :
  (Instr.fieldAt t (.pointer (some ⟨b,off,none⟩)) f).run P w = .ok (.pointer (some ⟨b,off+o,none⟩)) w:=by
 obtain ⟨fs,fd,n,hu,hf,rfl,hn⟩:=SZ ho;simp [Instr.fieldAt,run_underlying hu,hf,Instr.sureAddr,fieldPlace,BW hn,E1]
theorem Wu {t:TypeId} {a:AV} {f:Nat} {K:AV→Option R} {r:R} (hr:Jk P t h a f K=some r) {va:Value} (ha:AQ B κ h w a va) :
  ∃v val,K v=some r∧(Instr.fieldAt t va f).run P w = .ok val w∧AQ B κ h w v val:=by
 unfold Jk at hr
 try simp only [AB] at hr
 obtain ⟨o,ho,hr1⟩:=bind_some hr;clear hr;split at hr1
 ·rename_i i off;cases ha with
  |ptr _ _ b base hk hb=>exact ⟨_,_,hr1,H2 ho b _,by rw [yE];exact .ptr i (off+o) b base hk hb⟩
 ·rename_i size cells off;cases ha with
  |eptr _ _ _ b base u h1 h2 h3 h4 h5=>exact ⟨_,_,hr1,H2 ho b _,by rw [yE];exact .eptr size cells (off+o) b base u h1 h2 h3 h4 h5⟩
 ·rename_i i ver k off;obtain ⟨ob,hob,hr2⟩:=bind_some hr1;obtain ⟨hver,hr3⟩:=AG hr2;cases ha with
  |rptr _ _ _ _ _ h1 h2 h3=>
   obtain ⟨b,base,hkk,rfl,h4,h5⟩:=h3 ob hob hver;refine ⟨_,_,hr3,H2 ho b _,.rptr i ver k (off+o) _ ⟨_,rfl⟩ h2 fun o' ho' hv' => ?_⟩;rw [hob] at ho';cases ho';exact ⟨b,base,hkk,by simp [yE],h4,h5⟩
 ·cases hr1
theorem alen_ok {t:TypeId} {x:AV} {K:AV→Option R} {r:R} (hr:Wq P t h x K=some r) {vx:Value} (hx:AQ B κ h w x vx) (hh:Ap B κ h w) (ty:TypeId) :
  ∃v val,K v=some r∧(Builtin.len_ #[t] ty #[vx]).run P w = .ok val w∧AQ B κ h w v val:=by
 unfold Wq at hr
 try simp only [AB] at hr
 split at hr
 ·rename_i e hu;split at hr
  ·cases hx with
   |t _ _ ht=>
    obtain ⟨_,a,cap,rfl,_,_⟩:=E5.KN ht;exact ⟨_,_,hr,by simp [Builtin.len_,run_underlying hu,goInt],.t _ _ (.int _ _)⟩
  ·cases hx;exact ⟨_,_,hr,by simp [Builtin.len_,run_underlying hu,goInt],.t _ _ (.int _ _)⟩
  ·rename_i i ver off len;split at hr
   ·rename_i fz ver' size es hi;obtain ⟨rfl,hr1⟩:=AG hr;cases hx with
    |sref _ _ _ _ _ _ _ hs=>
     obtain ⟨hl,_,hsl,_⟩:=Mh hh hi hs;obtain ⟨_,a,cap,rfl,_,_⟩:=hsl;rw [hl];exact ⟨_,_,hr1,by simp [Builtin.len_,run_underlying hu,goInt],.t _ _ (.int _ _)⟩
   ·cases hr
  ·cases hx with
   |bsl _ _ _ _ cap b _ _ _=>exact ⟨_,_,hr,by simp [Builtin.len_,run_underlying hu,goInt],.t _ _ (.int _ _)⟩
  ·cases hr
 ·rename_i hu;obtain ⟨s,hs,hr⟩:=bind_some hr;obtain rfl:=Fp hs hx;exact ⟨_,_,hr,by simp [Builtin.len_,run_underlying hu,goInt],.t _ _ (.int _ _)⟩
 ·rename_i n e hu;exact ⟨_,_,hr,by simp [Builtin.len_,run_underlying hu,goInt],.t _ _ (.int _ _)⟩
 ·cases hr
theorem run_indexAt_slice {t e:TypeId} {s:Nat} (hu:P.underlying t=some (.slice e)) (hs:B3 P e=some s) (b off len cap:Nat) (k:IntKind) (i:Int) (h0:0≤i) (h1:i<len) :
  (Instr.indexAt t (.slice (some ⟨b,off,none⟩) len cap) (.int k i)).run P w = .ok (.pointer (some ⟨b,off+i.toNat*s,none⟩)) w:=by
 simp [Instr.indexAt,asIntOf,run_underlying hu,h0,h1,BW hs,E1]
theorem run_indexAt_array {t e:TypeId} {n s:Nat} (hu:P.underlying t=some (.array n e)) (hs:B3 P e=some s) (b off:Nat) (k:IntKind) (i:Int) (h0:0≤i) (h1:i<n) :
  (Instr.indexAt t (.pointer (some ⟨b,off,none⟩)) (.int k i)).run P w = .ok (.pointer (some ⟨b,off+i.toNat*s,none⟩)) w:=by
 simp [Instr.indexAt,asIntOf,run_underlying hu,Instr.sureAddr,h0,h1,BW hs,E1]
theorem KD {i:Int}:∀{n:Nat} {K:Nat→Option R} {r:R},KE i n K=some r→K i.toNat=some r
 |0,K,r,h=>by simp [KE] at h
 |n+1,K,r,h=>by
  simp only [KE,AB] at h;split at h
  ·rename_i e;rw [e];simpa using h
  ·exact KD h
theorem Wr {t:TypeId} {x ix:AV} {K:AV→Option R} {r:R} (hr:Lp P t h x ix K=some r) {vx vi:Value} (hx:AQ B κ h w x vx) (hi:AQ B κ h w ix vi) (hh:Ap B κ h w) :
  ∃v val,K v=some r∧(Instr.indexAt t vx vi).run P w = .ok val w∧AQ B κ h w v val:=by
 unfold Lp at hr
 try simp only [AB] at hr
 obtain ⟨i,hii,hr1⟩:=bind_some hr;clear hr;obtain ⟨k,rfl⟩:=OF hii hi;split at hr1
 ·rename_i e hu;obtain ⟨s,hs,hr2⟩:=bind_some hr1;clear hr1;split at hr2
  ·rename_i size es;obtain ⟨⟨rfl,h0⟩,hr3⟩:=AG hr2;obtain ⟨c,hc,hr4⟩:=bind_some hr3;clear hr2 hr3;cases hx with
   |t _ _ ht=>
    have hlt:i.toNat<es.length:=(List.getElem?_eq_some_iff.1 hc).1;cases ht with
    |nil _ cap a=>simp at hlt
    |sl _ _ b off cap u h1 h2 h3 h4 h5 h6=>
     refine ⟨_,_,hr4,run_indexAt_slice hu hs b off es.length cap k i h0 (by omega),?_⟩;have he:(.pointer (some ⟨b,off+i.toNat*size,none⟩):Value)= .pointer (some ⟨b,off+i.toNat*size+0,none⟩):=rfl;rw [he];refine .eptr size c 0 b (off+i.toNat*size) (u i.toNat) (h4 _ c hc) h2 h3 (fun q y hy => ?_) (fun q y hy=>h6 _ c q y hc hy);rw [yE];exact h5 _ c q y hc hy
  ·rename_i rr ver off len;split at hr2
   ·rename_i fz ver' size es hi';obtain ⟨⟨rfl,rfl,h0,h1⟩,hr3⟩:=AG hr2;cases hx with
    |sref _ _ _ _ _ ho hex hsr=>
     obtain ⟨hl,hle,hsl,hbb⟩:=Mh hh hi' hsr;rcases hbb with h0'|⟨b,base,cap,hk,rfl⟩
     ·omega
     ·refine ⟨_,_,hr3,run_indexAt_slice hu hs b _ len cap k i h0 h1,.rptr _ _ _ _ _ ⟨_,rfl⟩ hex fun o ho' hv' => ?_⟩;rw [hi'] at ho';cases ho';refine ⟨b,base,hk,?_,rfl,?_⟩
      ·simp only [AI.size,yG];simp [yE]
      ·simp only [AI.len];omega
   ·cases hr2
  ·rename_i rr off len size;obtain ⟨⟨rfl,h0,h1⟩,hr3⟩:=AG hr2;have hr3:K (.ptr rr (off+i.toNat*size))=some r:=by
    split at hr3
    ·exact KD hr3
    ·exact hr3
   cases hx with
   |bsl _ _ _ _ cap b hk hbx hlc=>
    obtain ⟨cs,hcs,hcl⟩:=hbx;refine ⟨_,_,hr3,run_indexAt_slice hu hs b off len cap k i h0 h1,?_⟩;have:=AQ.ptr (B:=B) (w:=w) rr (off+i.toNat*size) b 0 hk ⟨cs,hcs⟩;simpa using this
  ·cases hr2
 ·rename_i n e hu;obtain ⟨s,hs,hr2⟩:=bind_some hr1;clear hr1;split at hr2
  ·rename_i rr off;obtain ⟨⟨h0,h1⟩,hr3⟩:=AG hr2;have hr3:K (.ptr rr (off+i.toNat*s))=some r:=by
    split at hr3
    ·exact KD hr3
    ·exact hr3
   cases hx with
   |ptr _ _ b base hk hb=>
    refine ⟨_,_,hr3,run_indexAt_array hu hs b _ k i h0 h1,?_⟩;rw [yE];exact .ptr _ _ b base hk hb
  ·cases hr2
 ·cases hr1
def ZF (B:Nat→Prop) (κ:BB) (h:Heap) (w:World):Option AV→Option Value→Prop
 |none,none=>True
 |some a,some v=>AQ B κ h w a v
 |_,_=>False
def DT (d hi n:Nat):Option Value→Prop
 |none=>n=d
 |some v=>∃k,v = .int k n∧n≤hi
theorem Bi {x:Option AV} {d hi:Nat} {K:Nat→Option R} {r:R} (hr:Cp x d hi K=some r) {y:Option Value} (hy:ZF B κ h w x y) :
  ∃n,K n=some r∧DT d hi n y:=by
 unfold Cp at hr
 try simp only [AB] at hr
 split at hr
 ·cases y with
  |none=>exact ⟨d,hr,rfl⟩
  |some v=>exact hy.elim
 ·cases y with
  |none=>exact hy.elim
  |some v=>
   obtain ⟨i,hii,hr1⟩:=bind_some hr;obtain ⟨⟨h0,h1⟩,hr2⟩:=AG hr1;obtain ⟨k,rfl⟩:=OF hii hy;exact ⟨i.toNat,hr2,k,by rw [Int.toNat_of_nonneg h0],by omega⟩
theorem Ca {isS:Bool} {len hm cap a b:Nat} {lo hi:Option Value} (hlc:hm≤cap)
  (hb:DT len hm b hi) (ha:DT 0 b a lo) :
  (Instr.sliceBounds isS len cap lo hi none).run P w = .ok (a,b,cap) w:=by
 cases hi with
 |none=>
  simp only [DT] at hb;subst hb;cases lo with
  |none=>simp only [DT] at ha;subst ha;simp [Instr.sliceBounds]
  |some v=>
   obtain ⟨k,rfl,hle⟩:=ha;simp [Instr.sliceBounds,Instr.sliceBound,asIntOf,hle]
 |some v=>
  obtain ⟨k,rfl,hle⟩:=hb;have h2:b≤cap:=by omega
  cases lo with
  |none=>simp only [DT] at ha;subst ha;simp [Instr.sliceBounds,Instr.sliceBound,asIntOf,h2]
  |some v=>
   obtain ⟨k',rfl,hle'⟩:=ha;simp [Instr.sliceBounds,Instr.sliceBound,asIntOf,h2,hle']
theorem Cu {isS:Bool} {len cap a b m d0 d1 hm:Nat} {lo:Option Value} {vb vm:Value} (hlc:hm≤cap) (hmx:DT d0 hm m (some vm))
  (hb:DT d1 m b (some vb)) (ha:DT 0 b a lo):(Instr.sliceBounds isS len cap lo (some vb) (some vm)).run P w = .ok (a,b,m) w:=by
 obtain ⟨k,rfl,hle⟩:=hmx;obtain ⟨k',rfl,hle'⟩:=hb;have h2:m≤cap:=by omega
 cases lo with
 |none=>simp only [DT] at ha;subst ha;simp [Instr.sliceBounds,Instr.sliceBound,asIntOf,h2,hle']
 |some v=>
  obtain ⟨k3,rfl,hle3⟩:=ha;simp [Instr.sliceBounds,Instr.sliceBound,asIntOf,h2,hle',hle3]
theorem Wo {t:TypeId} {x:AV} {lo hi mx:Option AV} {K:AV→Option R} {r:R} (hr:Ln P t h x lo hi mx K=some r) {vx:Value} {vl vh vm:Option Value} (hx:AQ B κ h w x vx)
  (hl:ZF B κ h w lo vl) (hhi:ZF B κ h w hi vh)
  (hm:ZF B κ h w mx vm) (hh:Ap B κ h w) :
  ∃v val,K v=some r∧(Instr.sliceAt t vx vl vh vm).run P w = .ok val w∧AQ B κ h w v val:=by
 unfold Ln at hr
 try simp only [AB] at hr
 split at hr
 ·rename_i hu;cases vm with
  |some v=>exact hm.elim
  |none=>
   obtain ⟨s,hs,hr1⟩:=bind_some hr;obtain rfl:=Fp hs hx;obtain ⟨b,hr2,hb⟩:=Bi hr1 hhi;obtain ⟨a,hr3,ha⟩:=Bi hr2 hl;have:=Ca (P:=P) (w:=w) (isS:=false) (yI s.size) hb ha;exact ⟨_,_,hr3,by simp [Instr.sliceAt,Instr.slice,run_underlying hu,this],.t _ _ (.str _)⟩
 ·rename_i e hu;cases vm with
  |some v=>exact hm.elim
  |none=>
   obtain ⟨z,hz,hr1⟩:=bind_some hr;clear hr;split at hr1
   ·rename_i size es;obtain ⟨rfl,hr2⟩:=AG hr1;obtain ⟨b,hr3,hb⟩:=Bi hr2 hhi;obtain ⟨a,hr4,ha⟩:=Bi hr3 hl;have hbl:b≤es.length:=by
     cases vh with
     |none=>simp only [DT] at hb;omega
     |some v=>obtain ⟨_,_,h⟩:=hb;exact h
    have hab:a≤b:=by
     cases vl with
     |none=>simp only [DT] at ha;omega
     |some v=>obtain ⟨_,_,h⟩:=ha;exact h
    cases hx with
    |t _ _ ht=>
     have hlen:((es.take b).drop a).length=b-a:=by simp;omega
     cases ht with
     |nil _ cap ad=>
      simp only [zX] at hbl hb;have:=Ca (P:=P) (w:=w) (isS:=true) (len:=0) (cap:=cap) (yS _) (by simpa using hb) ha;obtain rfl:b=0:=by omega
      obtain rfl:a=0:=by omega
      refine ⟨_,_,hr4,by simp [Instr.sliceAt,Instr.slice,run_underlying hu,this,BW hz];rfl,?_⟩;simp;exact .t _ _ (.nil _ _ _)
     |sl _ _ bl off cap u h1 h2 h3 h4 h5 h6=>
      have:=Ca (P:=P) (w:=w) (isS:=true) (cap:=cap) h1 hb ha;refine ⟨_,.slice (if cap=a then some ⟨bl,off,none⟩ else some ⟨bl,off+a*size,none⟩) (b-a) (cap-a),hr4,?_,.t _ _ ?_⟩
      ·simp [Instr.sliceAt,Instr.slice,run_underlying hu,this,BW hz,E1]
      ·rw [← hlen];by_cases hba:b-a=0
       ·have hnil:(es.take b).drop a=[]:=zI (by omega);rw [hnil];exact .nil _ _ _
       ·rw [if_neg (by omega)];have hidx:∀(j:Nat) (e:List Tree),((es.take b).drop a)[j]? = some e→es[a+j]? = some e:=fun j e he=>by
         rw [zN] at he;rcases yL (a+j) b with hlt|hge
         ·rw [zT hlt] at he;exact he
         ·simp [zS,yO.2 hge] at he
        refine .sl size _ bl (off+a*size) (cap-a) (fun j c=>u (a+j) c) (by omega) h2 h3 (fun j e he=>h4 _ e (hidx j e he)) (fun j e c y he hy => ?_) (fun j e c y he hy=>h6 _ e c y (hidx j e he) hy);have:=h5 _ e c y (hidx j e he) hy;rw [yG] at this;rw [← this];congr 2;omega
   ·obtain ⟨b,hr3,hb⟩:=Bi hr1 hhi;obtain ⟨a,hr4,ha⟩:=Bi hr3 hl;cases hx;have hb0:b=0:=by
     cases vh with
     |none=>exact hb
     |some v=>obtain ⟨_,_,h⟩:=hb;omega
    subst hb0;have ha0:a=0:=by
     cases vl with
     |none=>exact ha
     |some v=>obtain ⟨_,_,h⟩:=ha;omega
    subst ha0;have:=Ca (P:=P) (w:=w) (isS:=true) (yI 0) hb ha;exact ⟨_,_,hr4,by simp [Instr.sliceAt,Instr.slice,run_underlying hu,this,BW hz];rfl,.nilsl _⟩
   ·rename_i i ver off len;split at hr1
    ·rename_i fz ver' size es hi';obtain ⟨⟨rfl,hsz⟩,hr2⟩:=AG hr1;clear hr1;obtain ⟨b,hr3,hb⟩:=Bi hr2 hhi;obtain ⟨a,hr4,ha⟩:=Bi hr3 hl;have hab:a≤b:=by
      cases vl with
      |none=>simp only [DT] at ha;omega
      |some v=>obtain ⟨_,_,h⟩:=ha;exact h
     cases hx with
     |sref _ _ _ _ _ ho hex hsr=>
      obtain ⟨kk,hkk⟩:=CE hh hi';obtain ⟨hk2,hle,hmm⟩:=hsr kk _ hkk hi' rfl;simp only [AI.len] at hle;have hbl:b≤es.length-off:=by
       cases vh with
       |none=>simp only [DT] at hb;omega
       |some v=>obtain ⟨_,_,h⟩:=hb;exact h
      rcases hmm with ⟨rfl,hof,a0,rfl⟩|⟨bl,base,rfl,cap,rfl,hcap,hcs⟩
      ·simp only [AI.len] at hof;obtain rfl:b=0:=by omega
       obtain rfl:a=0:=by omega
       have:=Ca (P:=P) (w:=w) (isS:=true) (len:=0) (cap:=0) (by omega) (by rw [show es.length-off=0 by omega] at hb;exact hb) ha;refine ⟨_,.slice a0 0 0,hr4,by simp [Instr.sliceAt,Instr.slice,run_underlying hu,this,BW hz],.sref _ _ _ _ _ rfl hex fun k o hk ho' hv => ?_⟩;rw [hkk] at hk;cases hk;rw [hi'] at ho';cases ho';exact ⟨rfl,by simp only [AI.len];omega,.inl ⟨rfl,by simp only [AI.len];omega,⟨_,rfl⟩⟩⟩
      ·simp only [AI.len] at hcap;have:=Ca (P:=P) (w:=w) (isS:=true) (len:=len) (cap:=cap) (by omega) hb ha;have hrun:(Instr.sliceAt t (.slice (some ⟨bl,base+off*(AI.row fz ver' size es).size,none⟩) len cap) vl vh none).run P w = .ok (.slice (if cap=a then some ⟨bl,base+off*size,none⟩ else some ⟨bl,base+off*size+a*z,none⟩) (b-a) (cap-a)) w:=by simp [Instr.sliceAt,Instr.slice,run_underlying hu,this,BW hz,E1,AI.size]
       refine ⟨_,_,hr4,hrun,.sref _ _ _ _ _ rfl hex fun k o hk ho' hv => ?_⟩;rw [hkk] at hk;cases hk;rw [hi'] at ho';cases ho';refine ⟨rfl,by simp only [AI.len];omega,?_⟩;by_cases hca:cap=a
       ·rw [if_pos hca];exact .inl ⟨by omega,by simp only [AI.len];omega,⟨_,by rw [show b-a=0 by omega,show cap-a=0 by omega]⟩⟩
       ·rw [if_neg hca];refine .inr ⟨bl,base,rfl,cap-a,?_,by simp only [AI.len];omega,fun cells elem fr hcell => ?_⟩
        ·simp only [AI.size];rcases hsz with rfl|hsz
         ·rw [yG];simp [yE]
         ·have hes:es=[]:=row_zero hh hi' hsz;obtain ⟨hz1,_⟩:=hh.obj i _ _ hi' hkk;exact (hz1 hsz).elim
        ·have:=hcs cells elem fr hcell;rw [show off+a+(cap-a)=off+cap from by omega];exact this
    ·cases hr1
   ·cases hr1
 ·rename_i m e hu;cases vm with
  |none=>exact hm.elim
  |some vm=>
   obtain ⟨z,hz,hr1⟩:=bind_some hr;clear hr;split at hr1
   ·rename_i size es bv;cases vh with
    |none=>exact hhi.elim
    |some vb=>
     obtain ⟨rfl,hr2⟩:=AG hr1;obtain ⟨m',hr3,hm'⟩:=Bi hr2 (y:=some vm) hm;obtain ⟨b,hr4,hb⟩:=Bi hr3 (y:=some vb) hhi;obtain ⟨a,hr5,ha⟩:=Bi hr4 hl;cases hx with
     |t _ _ ht=>
      cases ht with
      |nil _ cap ad=>
       have:=Cu (P:=P) (w:=w) (isS:=true) (len:=0) (cap:=cap) (yS _) hm' hb ha;exact ⟨_,_,hr5,by simp [Instr.sliceAt,Instr.slice,run_underlying hu,this,BW hz];rfl,.undef _⟩
      |sl _ _ bl off cap u h1 h2 h3 h4 h5 h6=>
       have:=Cu (P:=P) (w:=w) (isS:=true) (len:=es.length) (cap:=cap) h1 hm' hb ha;exact ⟨_,_,hr5,by simp [Instr.sliceAt,Instr.slice,run_underlying hu,this,BW hz];rfl,.undef _⟩
   ·rename_i bv;cases vh with
    |none=>exact hhi.elim
    |some vb=>
     obtain ⟨m',hr3,hm'⟩:=Bi hr1 (y:=some vm) hm;obtain ⟨b,hr4,hb⟩:=Bi hr3 (y:=some vb) hhi;obtain ⟨a,hr5,ha⟩:=Bi hr4 hl;cases hx;have:=Cu (P:=P) (w:=w) (isS:=true) (len:=0) (cap:=0) (yI 0) hm' hb ha;exact ⟨_,_,hr5,by simp [Instr.sliceAt,Instr.slice,run_underlying hu,this,BW hz];rfl,.undef _⟩
   ·rename_i i ver off len bv;split at hr1
    ·rename_i fz ver' size es hi';cases vh with
     |none=>exact hhi.elim
     |some vb=>
      obtain ⟨rfl,hr2⟩:=AG hr1;obtain ⟨m',hr3,hm'⟩:=Bi hr2 (y:=some vm) hm;obtain ⟨b,hr4,hb⟩:=Bi hr3 (y:=some vb) hhi;obtain ⟨a,hr5,ha⟩:=Bi hr4 hl;cases hx with
      |sref _ _ _ _ _ ho hex hsr=>
       obtain ⟨kk,hkk⟩:=CE hh hi';obtain ⟨hk2,hle,hmm⟩:=hsr kk _ hkk hi' rfl;simp only [AI.len] at hle;rcases hmm with ⟨rfl,hof,a0,rfl⟩|⟨bl,base,rfl,cap,rfl,hcap,hcs⟩
       ·simp only [AI.len] at hof;have:=Cu (P:=P) (w:=w) (isS:=true) (len:=0) (cap:=0) (by omega) hm' hb ha;exact ⟨_,_,hr5,by simp [Instr.sliceAt,Instr.slice,run_underlying hu,this,BW hz];rfl,.undef _⟩
       ·simp only [AI.len] at hcap;have:=Cu (P:=P) (w:=w) (isS:=true) (len:=len) (cap:=cap) (by omega) hm' hb ha;exact ⟨_,_,hr5,by simp [Instr.sliceAt,Instr.slice,run_underlying hu,this,BW hz];rfl,.undef _⟩
    ·cases hr1
   ·cases hr1
 ·cases hr
end Ab
namespace Ab
open Go
variable {R:Type} {P:Program} {B:Nat→Prop} {κ:BB} {h:Heap} {w:World}
def AW (B:Nat→Prop) (κ:BB) (h:Heap) (w:World) (cs:List AV) (arr:Array Value):Prop:=
 arr.size=cs.length∧∀j x,cs[j]? = some x→AQ B κ h w x (arr.getD j undef)
theorem SL {x:AV} {v:Value} (hl:x.leaf=true) (hv:AQ B κ h w x v):v.oneCell'=true:=by
 cases hv<;>first|rfl|assumption|(simp [AV.leaf] at hl;done)|skip
 ·exact Bp.one (by assumption)
 ·have hp:∃p,v = .pointer (some p):=by assumption
  obtain ⟨p,rfl⟩:=hp;rfl
theorem WJ {v:Value} (h1:v.oneCell'=true):v.cells = #[v]:=by cases v<;>first|rfl|(simp [Value.oneCell'] at h1;done)
theorem IL {v:AV} {vs:List AV} {val:Value} (hc:v.cells=some vs) (hv:AQ B κ h w v val):AW B κ h w vs val.cells:=by
 by_cases hl:v.leaf=true
 ·have h1:=SL hl hv;rw [WJ h1];have:vs=[v]:=by cases v<;>simp_all [AV.cells,AV.leaf]
  subst this;refine ⟨rfl,fun j x hx => ?_⟩;cases j with
  |zero=>simp at hx;subst hx;simpa using hv
  |succ j=>simp at hx
 ·cases v with
  |agg cs=>
   simp [AV.cells] at hc;subst hc;cases hv with
   |agg _ vs h1 h2=>exact ⟨h1,h2⟩
  |undef=>simp [AV.cells] at hc
  |tuple _=>simp [AV.cells] at hc
  |_=>simp [AV.leaf] at hl
theorem Pg (off:Nat):∀(l:List Value) (s:Nat) (arr:Array Value),
  let arr':=(l.zipIdx s).foldl (fun (cs:Array Value) (p:Value×Nat)=>cs.setIfInBounds (off+p.2) p.1) arr
  arr'.size=arr.size∧∀k,arr'.getD k undef=if off+s≤k∧k<off+s+l.length∧k<arr.size then l.getD (k-(off+s)) undef else arr.getD k undef
 |[],s,arr=>by refine ⟨rfl,fun k => ?_⟩;rw [if_neg (by simp;omega)];rfl
 |v::l,s,arr=>by
  have ih:=Pg off l (s+1) (arr.setIfInBounds (off+s) v);simp only [List.zipIdx_cons,foldl_cons];simp only at ih;refine ⟨by rw [ih.1];simp,fun k => ?_⟩;rw [ih.2 k];simp only [Array.size_setIfInBounds,zW];by_cases h1:off+(s+1)≤k∧k<off+(s+1)+l.length∧k<arr.size
  ·rw [if_pos h1,if_pos ⟨by omega,by omega,h1.2.2⟩];rw [show k-(off+s)=(k-(off+(s+1)))+1 from by omega];rfl
  ·rw [if_neg h1];by_cases h2:k=off+s∧k<arr.size
   ·obtain ⟨rfl,h3⟩:=h2;rw [if_pos ⟨by omega,by omega,h3⟩];simp [Array.getD,h3]
   ·by_cases h3:k=off+s
    ·rw [if_neg (by omega)];have h4:arr.size≤off+s:=by omega
     subst h3;simp [Array.getD,yO.2 h4]
    ·rw [if_neg (by omega)];by_cases h4:k<arr.size
     ·simp [Array.getD,h4,Ne.symm h3]
     ·simp [Array.getD,h4]
theorem LB (cs vs:List AV) (off:Nat) (hle:off+vs.length≤cs.length):(setAt cs off vs).length=cs.length∧∀j,(setAt cs off vs)[j]? = if off≤j∧j<off+vs.length then vs[j-off]? else cs[j]? :=by
 constructor
 ·simp [setAt];omega
 ·intro j;unfold setAt;by_cases h1:j<off
  ·rw [zK (by simp;omega),zT h1,if_neg (by omega)]
  ·rw [zL (by simp;omega)];have hl:(cs.take off).length=off:=by simp;omega
   rw [hl];by_cases h2:j<off+vs.length
   ·rw [zK (by omega),if_pos ⟨by omega,h2⟩]
   ·rw [zL (by omega),zN,if_neg (by omega)];congr 1;omega
theorem XX {cs vs:List AV} {arr a:Array Value} {off:Nat} (h1:AW B κ h w cs arr) (h2:AW B κ h w vs a) (hle:off+vs.length≤cs.length) :
  AW B κ h w (setAt cs off vs) (a.zipIdx.foldl (fun (cs:Array Value) (p:Value×Nat)=>cs.setIfInBounds (off+p.2) p.1) arr):=by
 have hz:a.zipIdx.foldl (fun (cs:Array Value) (p:Value×Nat)=>cs.setIfInBounds (off+p.2) p.1) arr=(a.toList.zipIdx 0).foldl (fun (cs:Array Value) (p:Value×Nat)=>cs.setIfInBounds (off+p.2) p.1) arr:=by rw [← Array.foldl_toList];congr 1;simp
 rw [hz];obtain ⟨f1,f2⟩:=Pg off a.toList 0 arr;obtain ⟨s1,s2⟩:=LB cs vs off hle;refine ⟨by rw [f1,s1,h1.1],fun j x hx => ?_⟩;rw [f2 j];rw [s2 j] at hx;have ha:a.toList.length=vs.length:=by simp [h2.1]
 by_cases hj:off≤j∧j<off+vs.length
 ·rw [if_pos hj] at hx;rw [if_pos ⟨by omega,by omega,by rw [h1.1];omega⟩];have:=h2.2 _ x hx;simp only [yH];have hlt:j-off<a.size:=by rw [h2.1];omega
  rw [show a.toList.getD (j-off) undef=a.getD (j-off) undef from by simp [Array.getD,List.getD,hlt]];exact this
 ·rw [if_neg hj] at hx;rw [if_neg (by omega)];exact h1.2 j x hx
theorem Ka {place:Nat→Option (Nat×Nat)}:∀{parts:List (Nat×AV)} {cs out:List AV} {arr:Array Value} {vparts:List (Nat×Value)},CA place cs parts=some out→AW B κ h w cs arr→
  vparts.length=parts.length→(∀(j i:Nat) (x:AV),parts[j]? = some (i,x)→∃v,vparts[j]? = some (i,v)∧AQ B κ h w x v)→∃arr',Instr.fill place arr vparts=some arr'∧AW B κ h w out arr'
 |[],cs,out,arr,vparts,hf,hc,hl,hp=>by simp only [CA,Option.some.injEq] at hf;subst hf;obtain rfl:vparts=[]:=zI (by simpa using hl);exact ⟨arr,rfl,hc⟩
 |(i,x)::rest,cs,out,arr,vparts,hf,hc,hl,hp=>by
  cases vparts with
  |nil=>simp at hl
  |cons q vrest=>
   obtain ⟨v,hv1,hv2⟩:=hp 0 i x rfl;simp only [zM,Option.some.injEq] at hv1;subst hv1;simp only [CA] at hf;split at hf
   ·rename_i off size vs hpl hcs;obtain ⟨⟨h1,h2⟩,hf2⟩:=AG hf;have hcv:=IL hcs hv2;have hset:=XX (off:=off) hc hcv (by omega);obtain ⟨arr',ha,hb⟩:=Ka (vparts:=vrest) hf2 hset (by simpa using hl) fun j i' x' hx'=>hp (j+1) i' x' (by simpa using hx');refine ⟨arr',?_,hb⟩;simp only [Instr.fill,hpl];have e1:v.cells.size=size:=by rw [hcv.1];exact h1
    have e2:¬(off+v.cells.size>arr.size):=by rw [e1,hc.1];omega
    simp only [e1,ne_eq,not_true_eq_false,decide_false,Bool.false_or];rw [if_neg (by rw [e1] at e2;simpa using e2)];exact ha
   ·cases hf
theorem N2 {place:Nat→Option (Nat×Nat)}:∀{parts:List (Nat×AV)} {cs out:List AV},CA place cs parts=some out→out.length=cs.length
 |[],cs,out,hf=>by simp only [CA,Option.some.injEq] at hf;rw [hf]
 |(i,x)::rest,cs,out,hf=>by
  simp only [CA] at hf;split at hf
  ·obtain ⟨⟨h1,h2⟩,hf2⟩:=AG hf;rw [N2 hf2,(LB _ _ _ (by omega)).1]
  ·cases hf
theorem Ch {t:TypeId} {z:List AV} (hz:zeroCells? P t=some z):∃i v,P.info? t=some i∧i.zero=some v∧AW B κ h w z v.cells:=by
 unfold zeroCells? at hz;cases hi:P.info? t with
 |none=>simp [hi] at hz
 |some i=>
  simp only [hi,Option.bind_some] at hz;split at hz
  ·rename_i v hv;exact ⟨i,v,rfl,hv,IL hz (NU v)⟩
  ·cases hz
theorem Wx {t:TypeId} {parts:List (Nat×AV)} {K:AV→Option R} {r:R} (hr:OP P t parts K=some r) {vparts:Array (Nat×Value)} (hl:vparts.size=parts.length)
  (hp:∀(j i:Nat) (x:AV),parts[j]? = some (i,x)→∃v,vparts.toList[j]? = some (i,v)∧AQ B κ h w x v) :
  ∃v val,K v=some r∧(Instr.build t vparts).run P w = .ok val w∧AQ B κ h w v val:=by
 unfold OP at hr;split at hr
 ·rename_i fs hu;split at hr
  ·rename_i places hpl;obtain ⟨z,hz,hr1⟩:=bind_some hr;obtain ⟨cs,hcs,hr2⟩:=bind_some hr1;obtain ⟨i,v,hi,hv,hc⟩:=Ch (B:=B) (κ:=κ) (h:=h) (w:=w) hz;obtain ⟨arr',hf,hc'⟩:=Ka (vparts:=vparts.toList) hcs hc (by simpa using hl) hp;refine ⟨_,.agg arr',hr2,run_build w t vparts arr' ?_,.agg _ _ hc'.1 hc'.2⟩;unfold Program.built;simp only [hi,hu,hv,hpl];simpa using hf
  ·cases hr
 ·rename_i n e hu;obtain ⟨s,hs,hr0⟩:=bind_some hr;obtain ⟨z,hz,hr1⟩:=bind_some hr0;obtain ⟨cs,hcs,hr2⟩:=bind_some hr1;obtain ⟨i,v,hi,hv,hc⟩:=Ch (B:=B) (κ:=κ) (h:=h) (w:=w) hz;obtain ⟨arr',hf,hc'⟩:=Ka (vparts:=vparts.toList) hcs hc (by simpa using hl) hp;refine ⟨_,.agg arr',hr2,run_build w t vparts arr' ?_,.agg _ _ hc'.1 hc'.2⟩;unfold Program.built;unfold B3 at hs;cases hie:P.info? e with
  |none=>simp [hie] at hs
  |some ie=>
   simp only [hie,yT,Option.some.injEq] at hs;simp only [hi,hu,hv,hie];rw [hs];exact hf
 ·cases hr
theorem Ar (w:World) (o:Obj) {b:Nat} (hb:b<w.heap.size):(w.alloc o).heap[b]? = w.heap[b]? :=by show (w.heap.push o)[b]? = w.heap[b]?;rw [Array.getElem?_push,if_neg (ne_of_lt hb)]
theorem BY (w:World) (o:Obj):(w.alloc o).heap[w.heap.size]? = some o:=by show (w.heap.push o)[w.heap.size]? = some o;rw [Array.getElem?_push,if_pos rfl]
theorem N4 (hh:Ap B κ h w) {w':World} (h1:w'.os=w.os) (h2:w'.tape=w.tape) (h3:w'.output=w.output) (h4:w.heap.size≤w'.heap.size) (h5:∀b,b<w.heap.size→w'.heap[b]? = w.heap[b]?) :
  Ext κ h w κ h w':=
 ⟨h1,h2,h3,h4,fun b hb _=>h5 b hb,fun b hb =>.inl hb,fun i o ho=>⟨o,ho,.refl o⟩,fun _ _ _ _ _ _=>rfl,fun i o o' ho ho' hv b base hk cells elem fr hc=>⟨cells,by rw [← h5 b (hh.lt i b base hk)];exact hc,rfl⟩⟩
theorem It (hh:Ap B κ h w) {w':World} (x:Ext κ h w κ h w') (h5:∀b,b<w.heap.size→w'.heap[b]? = w.heap[b]?):Ap B κ h w':=
  ⟨hh.len,hh.inj,hh.notB,fun i b bs hk=>yK (hh.lt i b bs hk) x.size,fun b hb=>yK (hh.ltB b hb) x.size,
   fun i o k ho hk=>(hh.obj i o k ho hk).ext x fun b base e=>h5 b (by subst e;exact hh.lt i b base hk)⟩
theorem Iw (hh:Ap B κ h w) (o:Obj):Ext κ h w κ h (w.alloc o):=
 N4 hh rfl rfl rfl (by simp) fun _ hb=>Ar w o hb
theorem Tq (hh:Ap B κ h w) (o:Obj):Ap B κ h (w.alloc o):=It hh (Iw hh o) fun _ hb=>Ar w o hb
theorem not_new (hh:Ap B κ h w):¬(B w.heap.size∨Ex κ h w.heap.size):=by
 rintro (hb|⟨i,base,o,hk,_,_⟩)
 ·have:=hh.ltB _ hb;omega
 ·have:=hh.lt i _ _ hk;omega
theorem Lg (s:Nat):∀(n:Nat) (xs:List Tree) (j:Nat) (e:List Tree),(chunk s n xs)[j]? = some e→j<n∧e=(xs.drop (j*s)).take s
 |0,xs,j,e,he=>by simp [chunk] at he
 |n+1,xs,j,e,he=>by
  cases j with
  |zero=>simp [chunk] at he;exact ⟨by omega,by simp [he]⟩
  |succ j=>
   simp only [chunk,List.getElem?_cons_succ] at he;obtain ⟨h1,h2⟩:=Lg s n (xs.drop s) j e he;exact ⟨by omega,by rw [h2,List.drop_drop];congr 2;rw [yQ];omega⟩
theorem Pv (s:Nat):∀(n:Nat) (xs:List Tree),(chunk s n xs).length=n
 |0,xs=>rfl
 |n+1,xs=>by simp [chunk,Pv s n]
theorem Cd {α:Type} (z:List α):∀n,(yB n z).flatten.length=n*z.length
 |0=>by simp
 |n+1=>by simp [List.replicate_succ,yQ,add_comm]
theorem FF {α:Type} (z:List α):∀(n j:Nat),j<n*z.length→(yB n z).flatten[j]? = z[j % z.length]?
 |0,j,hj=>by simp at hj
 |n+1,j,hj=>by
  rw [List.replicate_succ,List.flatten_cons];by_cases h1:j<z.length
  ·rw [zK h1,Nat.mod_eq_of_lt h1]
  ·have h2:z.length≤j:=by omega
   rw [zL h2,FF z n (j-z.length) (by rw [yQ] at hj;omega),← Nat.mod_eq_sub_mod h2]
theorem bsl_rel {s len:Nat} {xs:List Tree} {a:Option Addr} {w':World} (hv:len≠0→AQ B κ h w' (.t (.sl s (chunk s len xs))) (.slice a len len)):AQ B κ h w' (bslV s len xs) (.slice a len len):=by
 unfold bslV;split
 ·rename_i h0;subst h0;exact .nilsl a
 ·rename_i h0;exact hv h0
theorem OO {t:TypeId} {len:Nat} {parts:List (Nat×AV)} {K:AV→Option R} {r:R} (hr:EA P t h len parts K=some r) {vparts:Array (Nat×Value)} (hl:vparts.size=parts.length)
  (hp:∀(j i:Nat) (x:AV),parts[j]? = some (i,x)→∃v,vparts.toList[j]? = some (i,v)∧AQ B κ h w x v) (hh:Ap B κ h w) :
  ∃v val w',K v=some r∧(Instr.buildSlice t len vparts).run P w = .ok val w'∧AQ B κ h w' v val∧Ap B κ h w'∧Ext κ h w κ h w':=by
 unfold EA at hr
 try simp only [AB] at hr
 split at hr
 ·rename_i e hu;obtain ⟨s,hs,hr0⟩:=bind_some hr;obtain ⟨z,hz,hr1⟩:=bind_some hr0;obtain ⟨⟨hzl,hs0,hle⟩,hr2⟩:=AG hr1;obtain ⟨cs,hcs,hr3⟩:=bind_some hr2;obtain ⟨i,v,hi,hv,hc⟩:=Ch (B:=B) (κ:=κ) (h:=h) (w:=w) hz;have hvs:v.cells.size=s:=by rw [hc.1];exact hzl
  have hc0:AW B κ h w (yB len z).flatten ((Array.range (len*s)).map (v.cells[· % v.cells.size]!)):=by
   refine ⟨by rw [Cd,hzl];simp,fun j x hx => ?_⟩;have hj:j<len*s:=by have:=(List.getElem?_eq_some_iff.1 hx).1;rw [Cd,hzl] at this;exact this
   rw [FF z len j (by rw [hzl];exact hj)] at hx;have h1:=hc.2 _ x hx;have h2:j % z.length<v.cells.size:=by rw [hvs,hzl];exact yM _ (by omega)
   have h3:((Array.range (len*s)).map (v.cells[· % v.cells.size]!)).getD j undef=v.cells.getD (j % z.length) undef:=by
    have h4:j % v.cells.size<v.cells.size:=by rw [hvs];exact yM _ (by omega)
    simp [Array.getD,hj,hzl,hvs,yM _ (yP hs0)]
   rw [h3];exact h1
  obtain ⟨arr',hf,hc'⟩:=Ka (vparts:=vparts.toList) hcs hc0 (by simpa using hl) hp;have hcsl:cs.length=len*s:=by rw [N2 hcs,Cd,hzl]
  obtain ⟨xs,hr4,hxl,_,hxt⟩:=DD (vs:=arr'.toList) hr3 hh (by simp [hc'.1]) fun j x u hx hu=>by have h1:=hc'.2 j x hx;have h2:arr'.getD j undef=u:=Fm arr'.toList j undef hu;rw [h2] at h1;exact h1
  have hsz:arr'.size=len*s:=by rw [hc'.1,hcsl]
  refine ⟨_,.slice (some ⟨w.heap.size,0,none⟩) len len,w.alloc (.cells arr' e),hr4,?_,bsl_rel fun _ =>.t _ _ ?_,Tq hh _,Iw hh _⟩
  ·have hz1:¬(len*s>2 ^ 24):=by omega
   have hzr:(if len*s=0 then (pure #[]:Sem (Array Value)) else do pure (← zeroValue e).cells).run P w = .ok (if len*s=0 then #[] else v.cells) w:=by split<;>simp [zeroValue,typeInfo,hi,hv]
   have hf2:Instr.fill (fun i=>some (i*s,s)) ((Array.range (len*s)).map ((if len*s=0 then #[] else v.cells)[· % (if len*s=0 then #[] else v.cells).size]!)) vparts.toList=some arr':=by
    by_cases h0:len*s=0
    ·rw [if_pos h0];rw [h0] at hf ⊢;have e0:Array.range 0 = #[]:=rfl;rw [e0] at hf ⊢;simpa using hf
    ·rw [if_neg h0];exact hf
   simp only [Instr.buildSlice,Sem.run_bind,run_underlying hu,BW hs,Result.andThen_ok,Sem.run_ite,if_neg hz1,Sem.run_pure];by_cases h0:len*s=0
   ·rw [if_pos h0] at hf2 ⊢;simp only [hf2];rfl
   ·rw [if_neg h0] at hf2 ⊢;simp only [zeroValue,typeInfo,Sem.run_bind,run_program,Result.andThen_ok,hi,hv,Sem.run_pure,hf2];rfl
  ·have hcl:=Pv s len xs;have hnew:(w.alloc (.cells arr' e)).heap.size=w.heap.size+1:=by simp
   have hA:¬(B w.heap.size∨Ex κ h w.heap.size):=not_new hh;have hel:∀(j:Nat) (e':List Tree),(chunk s len xs)[j]? = some e'→e'.length=s:=fun j e' he'=>by obtain ⟨h1,h2⟩:=Lg s len xs j e' he';rw [h2];have:(j+1)*s≤len*s:=yN _ h1;rw [yQ] at this;simp;omega
   have hget:∀(j:Nat) (e':List Tree) (c:Nat) (x:Tree),(chunk s len xs)[j]? = some e'→e'[c]? = some x→xs[j*s+c]? = some x:=fun j e' c x he' hx=>by obtain ⟨h1,h2⟩:=Lg s len xs j e' he';rw [h2] at hx;exact (getElem?_sub hx).2
   have hlt:∀(k:Nat) (x:Tree),xs[k]? = some x→k<arr'.size:=fun k x hx=>by have:=(List.getElem?_eq_some_iff.1 hx).1;omega
   have key:=Bp.sl (w:=w.alloc (.cells arr' e)) (A:=fun b=>B b∨Ex κ h b) s (chunk s len xs) w.heap.size 0 len (fun j c=>arr'.getD (j*s+c) undef) (by omega) (by omega) hA hel
    (fun j e' c x he' hx=>by have h1:=hget j e' c x he' hx;rw [Bq (BY w _) (by rw [yR];exact hlt _ x h1),yR])
    (fun j e' c x he' hx=>by have h1:=hget j e' c x he' hx;have h2:=hlt _ x h1;have h3:=hxt _ x (arr'.getD (j*s+c) undef) h1 (by simp [Array.getD,h2]);exact Bp.ext (Iw hh _) (h3.less fun b hb=>hb.imp id fun e=>⟨rfl,e⟩))
   rw [hcl] at key;exact key
 ·cases hr
theorem CO {α:Type} (l:List α) (a:α) (i:Nat) {x:α} (hx:(l++[a])[i]? = some x):(i<l.length∧l[i]? = some x)∨(i=l.length∧x=a):=by
 rcases yL i l.length with h1|h1
 ·rw [zK h1] at hx;exact .inl ⟨h1,hx⟩
 ·rw [zL h1] at hx;cases hn:i-l.length with
  |zero=>rw [hn] at hx;simp at hx;exact .inr ⟨by omega,hx.symm⟩
  |succ n=>rw [hn] at hx;simp at hx
theorem XT {α:Type} {l:List α} {i:Nat} {x:α} (a:α) (hx:l[i]? = some x):(l++[a])[i]? = some x:=by rw [zK (List.getElem?_eq_some_iff.1 hx).1];exact hx
theorem Am {α:Type} (l:List α) (a:α):(l++[a])[l.length]? = some a:=by simp
theorem CD (hh:Ap B κ h w) {w':World} (h1:w'.os=w.os) (h2:w'.tape=w.tape) (h3:w'.output=w.output) (h4:w.heap.size≤w'.heap.size) (h5:∀b,b<w.heap.size→w'.heap[b]? = w.heap[b]?)
  {k:Option (Nat×Nat)} {o:AI} (hk:∀b base,k=some (b,base)→w.heap.size≤b):Ext κ h w (κ++[k]) (h++[o]) w' where
 os:=h1
 tape:=h2
 output:=h3
 size:=h4
 keep:=fun b hb _=>h5 b hb
 ex:=by
  rintro b ⟨i,base,o',hki,hoi,hf⟩
  rcases CO κ k i hki with ⟨_,hki⟩|⟨rfl,he⟩
  ·rcases CO h o i hoi with ⟨_,hoi⟩|⟨rfl,he⟩
   ·exact .inl ⟨i,base,o',hki,hoi,hf⟩
   ·have:=(List.getElem?_eq_some_iff.1 hki).1;rw [hh.len] at this;omega
  ·exact .inr (hk b base he.symm)
 obj:=fun i o' ho'=>⟨o',XT o ho',.refl o'⟩
 kap:=fun i o1 o2 h1 h2 _=>by
  have:i<κ.length:=by rw [hh.len];exact (List.getElem?_eq_some_iff.1 h1).1
  exact zK this
 cells:=fun i o1 o2 ho1 ho2 _ b base hb cells elem fr hc=>⟨cells,by rw [← h5 b (hh.lt i b base hb)];exact hc,rfl⟩
theorem Bs (hh:Ap B κ h w) {w':World} (h5:∀b,b<w.heap.size→w'.heap[b]? = w.heap[b]?) {k:Option (Nat×Nat)} {o:AI} (x:Ext κ h w (κ++[k]) (h++[o]) w')
  (hk:∀b base,k=some (b,base)→w.heap.size≤b∧b<w'.heap.size) (ho:HA B (κ++[k]) (h++[o]) w' k o):Ap B (κ++[k]) (h++[o]) w' where
 len:=by simp [hh.len]
 inj:=fun i j b bs bs' hi hj=>by
  rcases CO κ k i hi with ⟨_,hi⟩|⟨rfl,hi1⟩
  ·rcases CO κ k j hj with ⟨_,hj⟩|⟨rfl,hj1⟩
   ·exact hh.inj i j b bs bs' hi hj
   ·have:=(hk b bs' hj1.symm).1;have:=hh.lt i b bs hi;omega
  ·rcases CO κ k j hj with ⟨_,hj⟩|⟨rfl,hj1⟩
   ·have:=(hk b bs hi1.symm).1;have:=hh.lt j b bs' hj;omega
   ·rfl
 notB:=fun i b bs hi hB=>by
  rcases CO κ k i hi with ⟨_,hi⟩|⟨rfl,hi1⟩
  ·exact hh.notB i b bs hi hB
  ·have:=(hk b bs hi1.symm).1;have:=hh.ltB b hB;omega
 lt:=fun i b bs hi=>by
  rcases CO κ k i hi with ⟨_,hi⟩|⟨rfl,hi1⟩
  ·exact yK (hh.lt i b bs hi) x.size
  ·exact (hk b bs hi1.symm).2
 ltB:=fun b hb=>yK (hh.ltB b hb) x.size
 obj:=fun i o' k' ho' hk'=>by
  rcases CO κ k i hk' with ⟨hlt,hk'⟩|⟨rfl,rfl⟩
  ·rcases CO h o i ho' with ⟨_,ho'⟩|⟨rfl,_⟩
   ·exact (hh.obj i o' k' ho' hk').ext x fun b base e=>h5 b (by subst e;exact hh.lt i b base hk')
   ·rw [hh.len] at hlt;omega
  ·rcases CO h o _ ho' with ⟨hlt,_⟩|⟨_,rfl⟩
   ·rw [hh.len] at hlt;omega
   ·exact ho
theorem AW.ext {κ':BB} {h':Heap} {w':World} (x:Ext κ h w κ' h' w') {cs:List AV} {arr:Array Value} (hc:AW B κ h w cs arr):AW B κ' h' w' cs arr:=
 ⟨hc.1,fun j y hy=>(hc.2 j y hy).ext x⟩
theorem Ih {P:Program}:∀{ts:List TypeId} {vs:List AV} {h:Heap} {κ:BB} {K:List AV→Heap→Option R} {r:R} {arr:List Value},EZ P ts vs h K=some r→Ap B κ h w→arr.length=vs.length→
  (∀(j:Nat) (x:AV) (v:Value),vs[j]? = some x→arr[j]? = some v→AQ B κ h w x v)→
  ∃(vs':List AV) (g:Heap) (κ':BB),K vs' (h++g)=some r∧Ap B κ' (h++g) w∧Ext κ h w κ' (h++g) w∧vs'.length=vs.length∧
   (∀(j:Nat) (x:AV) (v:Value),vs'[j]? = some x→arr[j]? = some v→AQ B κ' (h++g) w x v)∧(vs.all AV.leaf=true→vs'.all AV.leaf=true)
 |ts,[],h,κ,K,r,arr,hr,hh,hl,hv=>⟨[],[],κ,by simpa [EZ] using hr,by simpa using hh,by simpa using Ext.refl κ h w,rfl,fun j x v hx=>by simp at hx,fun _=>rfl⟩
 |ts,x::vs,h,κ,K,r,arr,hr,hh,hl,hv=>by
  cases arr with
  |nil=>simp at hl
  |cons v arr=>
   have hx:=hv 0 x v rfl rfl;by_cases hn:x = .nilsl
   ·subst hn;simp only [EZ] at hr;generalize (FH P (ts.headD 0)).getD 0=z0 at hr;have x1:Ext κ h w (κ++[none]) (h++[.row false 0 z0 []]) w:=CD hh rfl rfl rfl (yI _) (fun _ _=>rfl) (fun b base e=>by cases e);have hh1:=Bs hh (fun _ _=>rfl) x1 (fun b base e=>by cases e) (show HA B (κ++[none]) (h++[.row false 0 z0 []]) w none (.row false 0 z0 []) from rfl);obtain ⟨vs',g,κ',h1,h2,h3,h4,h5,h6⟩:=Ih (arr:=arr) hr hh1 (by simpa using hl) fun j x' v' hx' hv'=>(hv (j+1) x' v' (by simpa using hx') (by simpa using hv')).ext x1;refine ⟨_,.row false 0 z0 []::g,κ',by simpa using h1,by simpa using h2,by simpa using x1.trans h3,by simp [h4],fun j x' v' hx' hv' => ?_,fun ha=>by simp only [zF,zC] at ha ⊢;exact ⟨rfl,h6 ha.2⟩⟩
    cases j with
    |zero=>
     simp at hx' hv';subst hx' hv';cases hx with|nilsl a0=>
     have hnew:(h++[AI.row false 0 z0 []])[h.length]? = some (.row false 0 z0 []):=Am h _;have hkn:(κ++[none])[h.length]? = some none:=by rw [← hh.len];exact Am κ _
     have hs:AQ B (κ++[none]) (h++[.row false 0 z0 []]) w (.sref h.length 0 0 0) (.slice a0 0 0):=by refine .sref _ _ _ _ _ rfl ⟨_,hnew,yI _⟩ fun k o hk ho _ => ?_;rw [hkn] at hk;cases hk;rw [hnew] at ho;cases ho;exact ⟨rfl,by simp [AI.len],.inl ⟨rfl,by simp [AI.len],⟨_,rfl⟩⟩⟩
     simpa using hs.ext h3
    |succ j=>simpa using h5 j x' v' (by simpa using hx') (by simpa using hv')
   ·have hr':(EZ P ts.tail vs h fun vs' h'=>K (x::vs') h')=some r:=by rw [← hr];cases x<;>first|exact (hn rfl).elim|rfl
    obtain ⟨vs',g,κ',h1,h2,h3,h4,h5,h6⟩:=Ih (arr:=arr) hr' hh (by simpa using hl) fun j x' v' hx' hv'=>hv (j+1) x' v' (by simpa using hx') (by simpa using hv');refine ⟨_,g,κ',h1,h2,h3,by simp [h4],fun j x' v' hx' hv' => ?_,fun ha => ?_⟩
    ·cases j with
     |zero=>simp at hx' hv';subst hx' hv';exact hx.ext h3
     |succ j=>exact h5 j x' v' (by simpa using hx') (by simpa using hv')
    ·simp only [zF,zC] at ha ⊢;exact ⟨ha.1,h6 ha.2⟩
theorem IP {P:Program} {t0:TypeId} {cs:List AV} {K:AV→Heap→Option R} {r:R} (hr:EP P t0 cs h K=some r) (hh:Ap B κ h w) {arr:Array Value} (hc:AW B κ h w cs arr) (t:TypeId) :
  ∃v h' κ',K v h'=some r∧AQ B κ' h' (w.alloc (.cells arr t)) v (.pointer (some ⟨w.heap.size,0,none⟩))∧Ap B κ' h' (w.alloc (.cells arr t))∧Ext κ h w κ' h' (w.alloc (.cells arr t)):=by
 unfold EP at hr;obtain ⟨vs',g,κ1,hK,hh1,x1,hl,hv,_⟩:=Ih (arr:=arr.toList) hr hh (by simp [hc.1]) fun j x v hx hv=>by have h1:=hc.2 j x hx;rwa [Fm arr.toList j undef hv] at h1
 have h5:∀b,b<w.heap.size→(w.alloc (.cells arr t)).heap[b]? = w.heap[b]? :=fun b hb=>Ar w _ hb;have x2:Ext κ1 (h++g) w (κ1++[some (w.heap.size,0)]) ((h++g)++[.box vs']) (w.alloc (.cells arr t)):=
  CD (w':=w.alloc (.cells arr t)) hh1 rfl rfl rfl (by simp) h5 fun b base e=>by injection e with e;injection e with e;omega
 have hh2:=Bs hh1 h5 x2 (fun b base e=>by injection e with e;injection e with e;subst e;exact ⟨yI _,by simp⟩)
  ⟨rfl,arr,t,BY w _,by rw [hl];exact hc.1,fun j x hx=>by
   have hj:j<arr.size:=by rw [hc.1,← hl];exact (List.getElem?_eq_some_iff.1 hx).1
   exact (hv j x (arr.getD j undef) hx (by simp [Array.getD,hj])).ext x2⟩
 refine ⟨_,_,_,hK,?_,hh2,x1.trans x2⟩;have hk:(κ1++[some (w.heap.size,0)])[(h++g).length]? = some (some (w.heap.size,0)):=by rw [← hh1.len];exact Am κ1 _
 exact .ptr _ 0 w.heap.size 0 hk ⟨vs',Am _ _⟩
theorem Q9 {P:Program} {t:TypeId} {len:Nat} {parts:List (Nat×AV)} {vparts:Array (Nat×Value)} {K:AV→Heap→Option R} {r:R} (hr:El P t h len parts K=some r) (hl:vparts.size=parts.length)
  (hp:∀(j i:Nat) (x:AV),parts[j]? = some (i,x)→∃v,vparts.toList[j]? = some (i,v)∧AQ B κ h w x v) (hh:Ap B κ h w) :
  ∃v h' κ' val w',K v h'=some r∧(Instr.buildSlice t len vparts).run P w = .ok val w'∧AQ B κ' h' w' v val∧Ap B κ' h' w'∧Ext κ h w κ' h' w':=by
 unfold El at hr
 try simp only [AB] at hr
 split at hr
 ·rename_i e hu;obtain ⟨s,hs,hr0⟩:=bind_some hr;obtain ⟨z,hz,hr1⟩:=bind_some hr0;obtain ⟨⟨hzl,hs0,hl0,hle⟩,hr2⟩:=AG hr1;obtain ⟨cs,hcs,hK⟩:=bind_some hr2;obtain ⟨i,v,hi,hv,hc⟩:=Ch (B:=B) (κ:=κ) (h:=h) (w:=w) hz;have hvs:v.cells.size=s:=by rw [hc.1];exact hzl
  have hc0:AW B κ h w (yB len z).flatten ((Array.range (len*s)).map (v.cells[· % v.cells.size]!)):=by
   refine ⟨by rw [Cd,hzl];simp,fun j x hx => ?_⟩;have hj:j<len*s:=by have:=(List.getElem?_eq_some_iff.1 hx).1;rw [Cd,hzl] at this;exact this
   rw [FF z len j (by rw [hzl];exact hj)] at hx;have h1:=hc.2 _ x hx;have h2:j % z.length<v.cells.size:=by rw [hvs,hzl];exact yM _ (by omega)
   have h3:((Array.range (len*s)).map (v.cells[· % v.cells.size]!)).getD j undef=v.cells.getD (j % z.length) undef:=by
    have h4:j % v.cells.size<v.cells.size:=by rw [hvs];exact yM _ (by omega)
    simp [Array.getD,hj,hzl,hvs,yM _ (yP hs0)]
   rw [h3];exact h1
  obtain ⟨arr',hf,hc'⟩:=Ka (vparts:=vparts.toList) hcs hc0 (by simpa using hl) hp;have hcsl:cs.length=len*s:=by rw [N2 hcs,Cd,hzl]
  have h0:¬len*s=0:=fun h=>(Nat.mul_eq_zero.1 h).elim hl0 hs0;have h5:∀b,b<w.heap.size→(w.alloc (.cells arr' e)).heap[b]? = w.heap[b]? :=fun b hb=>Ar w _ hb;have x2:Ext κ h w (κ++[some (w.heap.size,0)]) (h++[.box cs]) (w.alloc (.cells arr' e)):=
   CD (w':=w.alloc (.cells arr' e)) hh rfl rfl rfl (by simp) h5 fun b base e=>by injection e with e;injection e with e;omega
  have hh2:=Bs hh h5 x2 (fun b base e=>by injection e with e;injection e with e;subst e;exact ⟨yI _,by simp⟩)
   ⟨rfl,arr',e,BY w _,hc'.1,fun j x hx=>by
    have hj:j<arr'.size:=by rw [hc'.1];exact (List.getElem?_eq_some_iff.1 hx).1
    exact (hc'.2 j x hx).ext x2⟩
  have hk:(κ++[some (w.heap.size,0)])[h.length]? = some (some (w.heap.size,0)):=by rw [← hh.len];exact Am κ _
  refine ⟨_,_,_,.slice (some ⟨w.heap.size,0,none⟩) len len,w.alloc (.cells arr' e),hK,?_,?_,hh2,x2⟩
  ·have hz1:¬(len*s>2 ^ 24):=by omega
   have hzr:(zeroValue e).run P w = .ok v w:=by simp [zeroValue,typeInfo,hi,hv]
   simp only [Instr.buildSlice,Sem.run_bind,run_underlying hu,BW hs,Result.andThen_ok,Sem.run_ite,if_neg hz1,Sem.run_pure];rw [if_neg h0];simp only [hzr,Result.andThen_ok,hf];rfl
  ·exact .bsl _ 0 len s len w.heap.size hk ⟨cs,Am _ _,by omega⟩ (yI _)
 ·cases hr
theorem Ep {α:Type} {l:List α} {i:Nat} {a:α} {j:Nat} {x:α} (hx:(l.set i a)[j]? = some x):(j=i∧i<l.length∧x=a)∨(j≠i∧l[j]? = some x):=by
 rw [List.getElem?_set] at hx;by_cases hij:i=j
 ·subst hij;rw [if_pos rfl] at hx;split at hx
  ·rename_i hl;cases hx;exact .inl ⟨rfl,hl,rfl⟩
  ·cases hx
 ·rw [if_neg hij] at hx;exact .inr ⟨fun e=>hij e.symm,hx⟩
theorem As {α:Type} {l:List α} {i:Nat} {a x:α} (hx:l[i]? = some x):(l.set i a)[i]? = some a:=by have:=(List.getElem?_eq_some_iff.1 hx).1;simp [this]
theorem DM {α:Type} {l:List α} {i j:Nat} {a:α} (hij:j≠i):(l.set i a)[j]? = l[j]? :=by rw [List.getElem?_set,if_neg (Ne.symm hij)]
theorem C5 (hh:Ap B κ h w) {i:Nat} {o o':AI} (hi:h[i]? = some o) (hf:o.MH=false) (hOL:OLe o o') {k k':Option (Nat×Nat)} (hk:κ[i]? = some k) {w':World}
  (h1:w'.os=w.os) (h2:w'.tape=w.tape) (h3:w'.output=w.output) (h4:w.heap.size≤w'.heap.size)
  (h5:∀b,b<w.heap.size→(∀base,k≠some (b,base))→w'.heap[b]? = w.heap[b]?)
  (h6:∀b base,k'=some (b,base)→(∃base0,k=some (b,base0))∨w.heap.size≤b)
  (h7:o.ver=o'.ver→k'=k∧∀b base,k=some (b,base)→∀cells elem fr,w'.heap[b]? = some (.cells cells elem fr)→∃cells',w.heap[b]? = some (.cells cells' elem fr)∧cells'.size=cells.size) :
  Ext κ h w (κ.set i k') (h.set i o') w' where
 os:=h1
 tape:=h2
 output:=h3
 size:=h4
 keep:=fun b hb hn=>h5 b hb fun base e=>hn ⟨i,base,o,by rw [hk,e],hi,hf⟩
 ex:=by
  rintro b ⟨j,base,oj,hkj,hoj,hfj⟩
  rcases Ep hkj with ⟨rfl,_,e⟩|⟨hne,hkj⟩
  ·rcases h6 b base e.symm with ⟨base0,e0⟩|hle
   ·exact .inl ⟨_,base0,o,by rw [hk,e0],hi,hf⟩
   ·exact .inr hle
  ·rw [DM hne] at hoj;exact .inl ⟨j,base,oj,hkj,hoj,hfj⟩
 obj:=fun j oj hoj=>by
  by_cases hij:j=i
  ·subst hij;rw [hi] at hoj;cases hoj;exact ⟨o',As hi,hOL⟩
  ·exact ⟨oj,by rw [DM hij];exact hoj,.refl oj⟩
 kap:=fun j o1 o2 ho1 ho2 hv=>by
  by_cases hij:j=i
  ·subst hij;rw [hi] at ho1;cases ho1;rw [As hi] at ho2;cases ho2;rw [As hk,hk,(h7 hv).1]
  ·rw [DM hij]
 cells:=fun j o1 o2 ho1 ho2 hv b base hkb cells elem fr hc=>by
  by_cases hij:j=i
  ·subst hij;rw [hi] at ho1;cases ho1;rw [As hi] at ho2;cases ho2;rw [hk] at hkb;cases hkb;exact (h7 hv).2 b base rfl cells elem fr hc
  ·refine ⟨cells,?_,rfl⟩;rw [← h5 b (hh.lt j b base hkb) fun base' e=>hij (hh.inj j i b base base' hkb (by rw [hk,e]))];exact hc
theorem CN (hh:Ap B κ h w) {i:Nat} {o o':AI} (hi:h[i]? = some o) {k k':Option (Nat×Nat)} (hk:κ[i]? = some k) {w':World}
  (h5:∀b,b<w.heap.size→(∀base,k≠some (b,base))→w'.heap[b]? = w.heap[b]?)
  (h6:∀b base,k'=some (b,base)→((∃base0,k=some (b,base0))∨w.heap.size≤b)∧b<w'.heap.size)
  (x:Ext κ h w (κ.set i k') (h.set i o') w') (ho:HA B (κ.set i k') (h.set i o') w' k' o'):Ap B (κ.set i k') (h.set i o') w' where
 len:=by simp [hh.len]
 inj:=fun a j b bs bs' ha hj=>by
  by_cases hai:a=i
  ·by_cases hji:j=i
   ·rw [hai,hji]
   ·rcases Ep hj with ⟨e,_,_⟩|⟨_,hj⟩
    ·exact (hji e).elim
    rcases Ep ha with ⟨_,_,e1⟩|⟨hne1,_⟩
    ·rcases (h6 b bs e1.symm).1 with ⟨b0,e0⟩|hle
     ·rw [hai];exact (hh.inj j i b bs' b0 hj (by rw [hk,e0])).symm
     ·have:=hh.lt j b bs' hj;omega
    ·exact (hne1 hai).elim
  ·rcases Ep ha with ⟨e,_,_⟩|⟨_,ha⟩
   ·exact (hai e).elim
   by_cases hji:j=i
   ·rcases Ep hj with ⟨_,_,e1⟩|⟨hne1,_⟩
    ·rcases (h6 b bs' e1.symm).1 with ⟨b0,e0⟩|hle
     ·rw [hji];exact hh.inj a i b bs b0 ha (by rw [hk,e0])
     ·have:=hh.lt a b bs ha;omega
    ·exact (hne1 hji).elim
   ·rcases Ep hj with ⟨e,_,_⟩|⟨_,hj⟩
    ·exact (hji e).elim
    ·exact hh.inj a j b bs bs' ha hj
 notB:=fun a b bs ha hB=>by
  rcases Ep ha with ⟨rfl,_,e1⟩|⟨hne1,ha⟩
  ·rcases (h6 b bs e1.symm).1 with ⟨b0,e0⟩|hle
   ·exact hh.notB _ b b0 (by rw [hk,e0]) hB
   ·have:=hh.ltB b hB;omega
  ·exact hh.notB a b bs ha hB
 lt:=fun a b bs ha=>by
  rcases Ep ha with ⟨rfl,_,e1⟩|⟨hne1,ha⟩
  ·exact (h6 b bs e1.symm).2
  ·exact yK (hh.lt a b bs ha) x.size
 ltB:=fun b hb=>yK (hh.ltB b hb) x.size
 obj:=fun j oj kj hoj hkj=>by
  by_cases hij:j=i
  ·subst hij;rw [As hi] at hoj;cases hoj;rw [As hk] at hkj;cases hkj;exact ho
  ·rw [DM hij] at hoj hkj;refine (hh.obj j oj kj hoj hkj).ext x fun b base e => ?_;subst e;exact h5 b (hh.lt j b base hkj) fun base' e'=>hij (hh.inj j i b base base' hkj (by rw [hk,e']))
end Ab
namespace Ab
open Go
variable {R:Type} {P:Program} {B:Nat→Prop} {κ:BB} {h:Heap} {w:World}
def Au (cells:Array Value) (o:Nat) (vals:List Value):Array Value:=(cells.toList.take o++vals++cells.toList.drop (o+vals.length)).toArray
theorem C2 (cells:Array Value) (o:Nat) (vals:List Value) (hle:o+vals.length≤cells.size):(Au cells o vals).size=cells.size:=by simp [Au];omega
theorem Bh {α:Type} (l:List α) (j:Nat) (d:α):l.toArray.getD j d=l.getD j d:=by simp [Array.getD,List.getD];split<;>simp_all
theorem Bf (cells:Array Value) (o:Nat) (vals:List Value) (hle:o+vals.length≤cells.size) (j:Nat) :
  (Au cells o vals).getD j undef=if o≤j∧j<o+vals.length then vals.getD (j-o) undef else cells.getD j undef:=by
 unfold Au;rw [Bh];have hl:(cells.toList.take o).length=o:=by simp;omega
 simp only [List.getD];by_cases h1:j<o
 ·rw [zH,zK (by omega),zT h1,if_neg (by omega)];have:j<cells.size:=by omega
  simp [Array.getD,this]
 ·by_cases h2:j<o+vals.length
  ·rw [zK (by simp;omega),zL (by omega),hl,if_pos ⟨by omega,h2⟩]
  ·rw [zL (by simp;omega),if_neg (by omega),zN];have:(cells.toList.take o++vals).length=o+vals.length:=by simp;omega
   rw [this,show o+vals.length+(j-(o+vals.length))=j from by omega];by_cases h3:j<cells.size
   ·simp [Array.getD,h3]
   ·simp [Array.getD,h3]
theorem J7 {t:TypeId} {n:Nat} (hn:B3 P t=some n) {b o:Nat} {cells:Array Value} {elem:TypeId} (hb:w.heap[b]? = some (.cells cells elem (0,0))) {val:Value} (hv:val.cells.size=n)
  (hle:o+n≤cells.size) (h1:∀v∈val.cells.toList,v.oneCell'=true) :
  (Instr.storeAt t (.pointer (some ⟨b,o,none⟩)) val).run P w = .ok () (w.setRow b (Au cells o val.cells.toList)):=by
 have hst:=run_storeCells_at P b o elem val.cells.toList 0 cells w hb (by simp [hv];omega) h1;simp only [Instr.storeAt,Instr.sureAddr,storeVar,Sem.run_bind,Sem.run_pure,Result.andThen_ok,BW hn,Sem.run_ite];rw [if_neg (by simp [hv])];simp only [hst,yH];rfl
theorem setRow_other (w:World) (g:Nat) (cs:Array Value) {b:Nat} (hb:b≠g):(w.setRow g cs).heap[b]? = w.heap[b]? :=by simp [World.setRow,Array.getElem?_modify,Ne.symm hb]
theorem setRow_size (w:World) (g:Nat) (cs:Array Value):(w.setRow g cs).heap.size=w.heap.size:=by simp [World.setRow]
theorem Q6 {vs:List AV} {vals:List Value} (hl:vs.all AV.leaf=true) (hlen:vals.length=vs.length) (hv:∀(j:Nat) (x:AV) (v:Value),vs[j]? = some x→vals[j]? = some v→AQ B κ h w x v) :
  ∀v∈vals,v.oneCell'=true:=by
 intro v hm;obtain ⟨j,hj,rfl⟩:=zU hm;have hj':j<vs.length:=by omega
 refine SL ?_ (hv j vs[j] vals[j] (zO hj') (zO hj));exact (zG.1 hl) _ (getElem_mem hj')
theorem B5 {cs:List AV} {arr:Array Value} (hc:AW B κ h w cs arr) (j:Nat) (x:AV) (v:Value) (hx:cs[j]? = some x) (hv:arr.toList[j]? = some v):AQ B κ h w x v:=by have h1:=hc.2 j x hx;rwa [Fm arr.toList j undef hv] at h1
theorem LK (hh:Ap B κ h w):∀{os vs:List AV} {K:List AV→Option R} {r:R},Eb h os vs K=some r→(∀(j:Nat) (o:AV),os[j]? = some o→∃v,AQ B κ h w o v)→
  ∀{arr:List Value},(∀(j:Nat) (x:AV) (v:Value),vs[j]? = some x→arr[j]? = some v→AQ B κ h w x v)→∃vs',K vs'=some r∧vs'.length=vs.length∧∀(j:Nat) (x:AV) (v:Value),vs'[j]? = some x→arr[j]? = some v→AQ B κ h w x v
 |os,[],K,r,hr,_,arr,hv=>⟨[],by cases os<;>simpa [Eb] using hr,rfl,hv⟩
 |[],v::vs,K,r,hr,_,arr,hv=>⟨v::vs,by simpa [Eb] using hr,rfl,hv⟩
 |o::os,v::vs,K,r,hr,ho,arr,hv=>by
  have hos:∀(j:Nat) (x:AV),os[j]? = some x→∃v,AQ B κ h w x v:=fun j x hx=>ho (j+1) x (by simpa using hx);have plain:(Eb h os vs fun vs'=>K (v::vs'))=some r→∃vs',K vs'=some r∧vs'.length=(v::vs).length∧∀(j:Nat) (x:AV) (u:Value),vs'[j]? = some x→arr[j]? = some u→AQ B κ h w x u:=fun hr=>by
   obtain ⟨vs',h1,h2,h3⟩:=LK hh hr hos (arr:=arr.tail) fun j x u hx hu=>hv (j+1) x u (by simpa using hx) (by cases arr<;>simp at hu ⊢;exact hu);refine ⟨v::vs',h1,by simp [h2],fun j x u hx hu => ?_⟩;cases j with
   |zero=>exact hv 0 x u (by simpa using hx) hu
   |succ j=>exact h3 j x u (by simpa using hx) (by cases arr<;>simp at hu ⊢;exact hu)
  unfold Eb at hr;split at hr
  ·rename_i i ver off len;split at hr
   ·rename_i f ver' size es hi
    try simp only [AB] at hr
    obtain ⟨rfl,hr⟩:=AG hr;obtain ⟨vs',h1,h2,h3⟩:=LK hh hr hos (arr:=arr.tail) fun j x u hx hu=>hv (j+1) x u (by simpa using hx) (by cases arr<;>simp at hu ⊢;exact hu);refine ⟨_,h1,by simp [h2],fun j x u hx hu => ?_⟩;cases j with
    |zero=>
     simp at hx;subst hx;have hn:AQ B κ h w .nilsl u:=hv 0 .nilsl u rfl hu;obtain ⟨v0,hv0⟩:=ho 0 _ rfl;cases hn with
     |nilsl a0=>
      cases hv0 with
      |sref _ _ _ _ _ _ hex hsr=>
       refine .sref _ _ _ _ _ rfl hex fun k o hk ho' he => ?_;have:=hsr k o hk ho' he;rw [hi] at ho';cases ho';exact ⟨this.1,by simp [AI.len],.inl ⟨rfl,by simp [AI.len],⟨_,rfl⟩⟩⟩
    |succ j=>exact h3 j x u (by simpa using hx) (by cases arr<;>simp at hu ⊢;exact hu)
   ·exact plain hr
  ·exact plain hr
theorem P4 {t:TypeId} {a v:AV} {K:Heap→Option R} {r:R} (hr:IN P t h a v K=some r) (hh:Ap B κ h w) {va vv:Value} (ha:AQ B κ h w a va) (hv:AQ B κ h w v vv) :
  ∃h' κ' w',K h'=some r∧(Instr.storeAt t va vv).run P w = .ok () w'∧Ap B κ' h' w'∧Ext κ h w κ' h' w':=by
 unfold IN at hr
 try simp only [AB] at hr
 split at hr
 ·rename_i vs n hvs hn;obtain ⟨⟨hlen,hleaf⟩,hr1⟩:=AG hr;clear hr;have hc:=IL hvs hv;have hone:=Q6 hleaf (by simp [hc.1]) (B5 hc);split at hr1
  ·rename_i i off;split at hr1
   ·rename_i cs hi;obtain ⟨hle,hr2⟩:=AG hr1;have hold:∀(j:Nat) (o:AV),(cs.drop off)[j]? = some o→∃v,AQ B κ h w o v:=fun j o ho=>by
     cases ha with
     |ptr _ _ b base hk _=>
      obtain ⟨_,cells0,elem0,_,_,hcv0⟩:=hh.obj i _ _ hi hk;exact ⟨_,hcv0 (off+j) o (by rw [zN] at ho;exact ho)⟩
    obtain ⟨vs1,hr3,hl1,hv1⟩:=LK (arr:=vv.cells.toList) hh hr2 hold (B5 hc);obtain ⟨vs',g,κ1,hK,hh1,x1,hl',hv',_⟩:=Ih (arr:=vv.cells.toList) hr3 hh (by simp [hc.1,hl1]) hv1;rw [hl1] at hl';have hi1:(h++g)[i]? = some (.box cs):=by rw [zK (List.getElem?_eq_some_iff.1 hi).1];exact hi
    cases ha with
    |ptr _ _ b base hk _=>
     obtain ⟨o',ho',_⟩:=x1.obj i _ hi;have hk1:κ1[i]? = some (some (b,base)):=(x1.kap i _ _ hi hi1 rfl).trans hk;obtain ⟨hb0,cells,elem,hcell,hs,hcv⟩:=hh1.obj i _ _ hi1 hk1;subst hb0;have hvl:vv.cells.toList.length=n:=by simp [hc.1,hlen]
     have hrun:=J7 (P:=P) (o:=0+off) hn hcell (val:=vv) (by simpa using hvl) (by omega) hone;have hsz:=C2 cells (0+off) vv.cells.toList (by omega);have hnew:=setRow_heap w b cells (Au cells (0+off) vv.cells.toList) elem _ hcell;obtain ⟨s1,s2⟩:=LB cs vs' off (by omega);have x2:Ext κ1 (h++g) w (κ1.set i (some (b,0))) ((h++g).set i (.box (setAt cs off vs'))) (w.setRow b (Au cells (0+off) vv.cells.toList)):=by refine C5 (o' :=.box (setAt cs off vs')) (k':=some (b,0)) (w':=w.setRow b (Au cells (0+off) vv.cells.toList)) hh1 hi1 rfl ⟨rfl,yI _,(fun _=>⟨rfl,by simp [AI.len,s1]⟩),(fun e=>by cases e),(fun _=>by simp [AI.len,s1]),rfl⟩ hk1 rfl rfl rfl (by rw [setRow_size];exact yI _) (fun b' _ hb'=>setRow_other w b _ fun e=>hb' 0 (by rw [e])) (fun b' base' e=>by injection e with e;injection e with e1 e2;subst e1;exact .inl ⟨0,rfl⟩) (fun _=>⟨rfl,fun b' base' e cells' elem' fr' hc' => ?_⟩);cases e;rw [hnew] at hc';cases hc';exact ⟨cells,hcell,hsz.symm⟩
     refine ⟨_,_,_,hK,hrun,CN hh1 hi1 hk1 (fun b' _ hb'=>setRow_other w b _ fun e=>hb' 0 (by rw [e])) (fun b' base' e=>by injection e with e;injection e with e1 e2;subst e1;exact ⟨.inl ⟨0,rfl⟩,by rw [setRow_size];exact hh1.lt i b 0 hk1⟩) x2 ?_,x1.trans x2⟩;refine ⟨rfl,_,elem,hnew,by rw [hsz,s1,hs],fun j x hx => ?_⟩;rw [s2 j] at hx;rw [Bf cells _ _ (by omega)];by_cases hj:off≤j∧j<off+vs'.length
     ·rw [if_pos hj] at hx;rw [if_pos ⟨by omega,by omega⟩];have hjl:j-off<vv.cells.toList.length:=by omega
      refine (hv' (j-off) x _ hx ?_).ext x2;rw [yR];exact Bg _ _ _ hjl
     ·rw [if_neg hj] at hx;rw [if_neg (by omega)];exact (hcv j x hx).ext x2
   ·cases hr1
  ·rename_i i ver k off;split at hr1
   ·rename_i ver' size es hi;obtain ⟨⟨rfl,hle⟩,hr2⟩:=AG hr1;clear hr1;obtain ⟨e,he,hr3⟩:=bind_some hr2;obtain ⟨ys,hK,hyl,_,hyt⟩:=DD (vs:=vv.cells.toList) hr3 hh (by simp [hc.1]) (B5 hc);cases ha with
    |rptr _ _ _ _ _ _ hex hv2=>
     obtain ⟨b,base,hk,rfl,_,_⟩:=hv2 _ hi rfl;obtain ⟨hz0,cells,elem,hcell,hs,hls,hcv⟩:=hh.obj i _ _ hi hk;have hkl:k<es.length:=(List.getElem?_eq_some_iff.1 he).1;have hmul:k*size+size≤es.length*size:=by rw [← yQ];exact yN _ hkl
     have hvl:vv.cells.toList.length=n:=by simp [hc.1,hlen]
     have hel:=hls k e he;simp only [AI.size];have hrun:=J7 (P:=P) (o:=base+(k*size+off)) hn hcell (val:=vv) (by simpa using hvl) (by omega) hone;have hsz:=C2 cells (base+(k*size+off)) vv.cells.toList (by omega);have hnew:=setRow_heap w b cells (Au cells (base+(k*size+off)) vv.cells.toList) elem _ hcell;have hset:(κ.set i (some (b,base)))=κ:=by
      apply zJ;intro j;by_cases hij:j=i
      ·rw [hij,As hk,hk]
      ·rw [DM hij]
     have x2:Ext κ h w κ (h.set i (.row false ver' size (es.set k (e.take off++(ys++e.drop (off+n)))))) (w.setRow b (Au cells (base+(k*size+off)) vv.cells.toList)):=by
      have x2':Ext κ h w (κ.set i (some (b,base))) (h.set i (.row false ver' size (es.set k (e.take off++(ys++e.drop (off+n)))))) (w.setRow b (Au cells (base+(k*size+off)) vv.cells.toList)):=by refine C5 (o' :=.row false ver' size (es.set k (e.take off++(ys++e.drop (off+n))))) (k':=some (b,base)) (w':=w.setRow b (Au cells (base+(k*size+off)) vv.cells.toList)) hh hi rfl ⟨rfl,yI _,(fun _=>⟨rfl,by simp [AI.len]⟩),(fun e=>by cases e),(fun e=>by cases e),rfl⟩ hk rfl rfl rfl (by rw [setRow_size];exact yI _) (fun b' _ hb'=>setRow_other w b _ fun e=>hb' base (by rw [e])) (fun b' base' e=>by injection e with e;injection e with e1 e2;subst e1;exact .inl ⟨base,rfl⟩) (fun _=>⟨rfl,fun b' base' e cells' elem' fr' hc' => ?_⟩);cases e;rw [hnew] at hc';cases hc';exact ⟨cells,hcell,hsz.symm⟩
      rw [hset] at x2';exact x2'
     have hh2:Ap B (κ.set i (some (b,base))) (h.set i (.row false ver' size (es.set k (e.take off++(ys++e.drop (off+n)))))) (w.setRow b (Au cells (base+(k*size+off)) vv.cells.toList)):=by
      refine CN hh hi hk (fun b' _ hb'=>setRow_other w b _ fun e=>hb' base (by rw [e])) (fun b' base' e=>by injection e with e;injection e with e1 e2;subst e1;exact ⟨.inl ⟨base,rfl⟩,by rw [setRow_size];exact hh.lt i b base hk⟩) (by rw [hset];exact x2) ?_;rw [hset];have hnl:(e.take off++(ys++e.drop (off+n))).length=size:=by simp;omega
      refine ⟨hz0,_,elem,hnew,by rw [hsz];simpa using hs,fun j e' he' => ?_,fun j e' c x he' hx => ?_⟩
      ·rcases Ep he' with ⟨rfl,_,rfl⟩|⟨_,he'⟩
       ·exact hnl
       ·exact hls j e' he'
      ·rw [Bf cells _ _ (by omega),hvl];rcases Ep he' with ⟨rfl,_,rfl⟩|⟨hne,he'⟩
       ·have hcl:c<size:=by rw [← hnl];exact (List.getElem?_eq_some_iff.1 hx).1
        have hyn:ys.length=n:=by omega
        by_cases h1:c<off
        ·rw [zK (by simp;omega),zT h1] at hx;rw [if_neg (by omega)];exact (hcv _ e c x he hx).ext x2
        ·rw [zL (by simp;omega)] at hx;have hlt:(e.take off).length=off:=by simp;omega
         rw [hlt] at hx;by_cases h2:c<off+n
         ·rw [zK (by omega)] at hx;rw [if_pos ⟨by omega,by omega⟩,show base+(j*size+c)-(base+(j*size+off))=c-off from by omega];have h3:=hyt (c-off) x (vv.cells.toList.getD (c-off) undef) hx (Bg _ _ _ (by omega));exact Bp.ext x2 (h3.less fun b hb=>hb.imp id fun e=>⟨rfl,e⟩)
         ·rw [zL (by omega),zN,hyn,show off+n+(c-off-n)=c from by omega] at hx;rw [if_neg (by omega)];exact (hcv _ e c x he hx).ext x2
       ·have hcl:c<size:=by rw [← hls j e' he'];exact (List.getElem?_eq_some_iff.1 hx).1
        rw [if_neg ?_]
        ·exact (hcv j e' c x he' hx).ext x2
        ·rintro ⟨h1,h2⟩
         rcases Nat.lt_or_gt_of_ne hne with hlt|hgt
         ·have:=yN size (show j+1≤k from hlt);rw [yQ] at this;omega
         ·have:=yN size (show k+1≤j from hgt);rw [yQ] at this;omega
     rw [hset] at hh2;exact ⟨_,_,_,hK,hrun,hh2,x2⟩
   ·cases hr1
  ·cases hr1
 ·cases hr
theorem OG {t:TypeId} {s:Nat} (hs:OH P t=some s):∃e i z,P.underlying t=some (.slice e)∧P.info? e=some i∧i.zero=some z∧i.size=s∧s≠0∧z.cells.size=s∧i.bytes≤65536:=by
 unfold OH at hs;split at hs
 ·rename_i e hu;split at hs
  ·rename_i i hi;split at hs
   ·rename_i z hz;obtain ⟨⟨h1,h2,h3⟩,h4⟩:=AG hs;cases h4;exact ⟨e,i,z,hu,hi,hz,rfl,h1,h2,h3⟩
   ·cases hs
  ·cases hs
 ·cases hs
theorem Gv {A:Nat→Prop} {z:Nat} (hz:z≠0) {new:List (List Tree)} {v:Value} (hs:E5 w A z new v) (hn:new≠[]) :
  ∃(b o cap:Nat) (news:List Value),v = .slice (some ⟨b,o,none⟩) new.length cap∧news.length=new.length*z∧(∀j u,news[j]? = some u→w.cell? ((⟨b,o,none⟩:Addr).add j)=some u)∧
   (∀u∈news,u.oneCell'=true)∧∀(j:Nat) (e:List Tree) (c:Nat) (x:Tree),new[j]? = some e→e[c]? = some x→Bp w A x (news.getD (j*z+c) undef):=by
 obtain ⟨hl,a,cap,rfl,_,hc⟩:=hs;rcases hc with hc|⟨b,o,rfl,_,hc⟩
 ·exact (hn hc).elim
 ·have key:∀q,q<new.length*z→∃u,w.cell? ⟨b,o+q,none⟩=some u∧u.oneCell'=true:=by
   intro q hq;have h1:q / z<new.length:=Nat.div_lt_of_lt_mul (by rw [Nat.mul_comm];exact hq);have he:new[q / z]? = some new[q / z]:=zO h1;have hel:=hl _ _ he;have h2:q % z<(new[q / z]).length:=by rw [hel];exact yM _ (yP hz)
   obtain ⟨u,hu,ht⟩:=hc _ _ _ _ he (zO h2);refine ⟨u,?_,ht.one⟩;rw [Nat.mul_comm,Nat.div_add_mod] at hu;exact hu
  have hget:∀q,q<new.length*z→((List.range (new.length*z)).map fun q=>(w.cell? ⟨b,o+q,none⟩).getD undef)[q]? = some ((w.cell? ⟨b,o+q,none⟩).getD undef):=fun q hq=>by simp [hq]
  refine ⟨b,o,cap,(List.range (new.length*z)).map fun q=>(w.cell? ⟨b,o+q,none⟩).getD undef,rfl,by simp,fun j u hu => ?_,fun u hu => ?_,fun j e c x he hx => ?_⟩
  ·have hj:j<new.length*z:=by simpa using (List.getElem?_eq_some_iff.1 hu).1
   rw [hget j hj] at hu;obtain ⟨u',hu',_⟩:=key j hj;rw [hu'] at hu;simp at hu;subst hu;rw [E1];exact hu'
  ·simp only [mem_map,mem_range] at hu;obtain ⟨q,hq,rfl⟩:=hu;obtain ⟨u',hu',h1⟩:=key q hq;rw [hu'];exact h1
  ·have hj:j<new.length:=(List.getElem?_eq_some_iff.1 he).1;have hcl:c<z:=by rw [← hl j e he];exact (List.getElem?_eq_some_iff.1 hx).1
   have hq:j*z+c<new.length*z:=by have:=yN z (show j+1≤new.length from hj);rw [yQ] at this;omega
   obtain ⟨u,hu,ht⟩:=hc j e c x he hx;have:=hget _ hq;simp only [List.getD,this,Option.getD_some,hu];exact ht
theorem run_append_nil' (base:Option Addr) (w:World) (t ty e:TypeId) (i:TypeInfo) (z:Value) (ht:P.underlying t=some (.slice e)) (hi:P.info? e=some i) (hz:i.zero=some z)
  (a:Addr) (n c:Nat) (news:List Value) (hl:news.length=n*i.size) (hnews:∀j v,news[j]? = some v→w.cell? (a.add j)=some v)
  (h0:0<n) (h63:(n:Int)≤9223372036854775807) (h48:n*i.bytes≤281474976710656) :
  (Builtin.append_ #[t,t] ty #[.slice base 0 0,.slice (some a) n c]).run P w =
   .ok (.slice (some ⟨w.heap.size,0,none⟩) n (grownCap w n 0 e)) (w.drew.alloc (.cells (news.toArray++Builtin.zeroCells z.cells (grownCap w n 0 e-n)) e)):=by
 cases base with
 |none=>exact run_append_nil (P:=P) w t ty e i z ht hi hz a n c news hl hnews h0 h63 h48
 |some a0=>
  have hn:n≠0:=by omega
  have h63':¬(9223372036854775807<(n:Int)):=by omega
  have h48':¬(281474976710656<Builtin.nextslicecap n 0*i.bytes):=by rw [nextslicecap_zero h0];omega
  have hf:=run_firstCells_some (P:=P) w.drew i.size n a n c news hl (by simpa using hnews);have hf0:=run_firstCells_some (P:=P) w.drew i.size 0 a0 0 0 [] (by simp) (by simp);simp [Builtin.append_,run_underlying ht,Go.sizeOf,typeInfo,zeroValue,hi,hz,Builtin.lenOf,hn,h63',h48',Question.forced,hf0,hf,newRow,grownCap]
theorem Cb {t ty e:TypeId} {i:TypeInfo} (hu:P.underlying t=some (.slice e)) (hi:P.info? e=some i) (base:Option Addr) (Ah sCap:Nat) (a:Option Addr) (c:Nat) (hle:Ah≤sCap) :
  (Builtin.append_ #[t,t] ty #[.slice base Ah sCap,.slice a 0 c]).run P w = .ok (.slice base Ah sCap) w:=by
 cases a with
 |none=>cases base<;>simp [Builtin.append_,run_underlying hu,Go.sizeOf,typeInfo,hi,Builtin.lenOf,hle,Builtin.firstCells,storeCells]
 |some a=>cases base<;>simp [Builtin.append_,run_underlying hu,Go.sizeOf,typeInfo,hi,Builtin.lenOf,hle,Builtin.firstCells,loadCells,loadCellsFrom,storeCells]
theorem run_append_room' {t ty e:TypeId} {i:TypeInfo} (ht:P.underlying t=some (.slice e)) (hi:P.info? e=some i)
  {g o Ah sCap:Nat} {cur:Array Value} {el:TypeId} (hg:w.heap[g]? = some (.cells cur el (0,0)))
  {a:Addr} {m c:Nat} {news:List Value} (hl:news.length=m*i.size) (hnews:∀j u,news[j]? = some u→w.cell? (a.add j)=some u) (h1:∀u∈news,u.oneCell'=true)
  (hroom:Ah+m≤sCap) (hfit:o+Ah*i.size+news.length≤cur.size) :
  (Builtin.append_ #[t,t] ty #[.slice (some ⟨g,o,none⟩) Ah sCap,.slice (some a) m c]).run P w =
   .ok (.slice (some ⟨g,o,none⟩) (Ah+m) sCap) (w.setRow g (Au cur (o+Ah*i.size) news)):=by
 have hf:=run_firstCells_some (P:=P) w i.size m a m c news hl hnews;have hst:=run_storeCells_at P g (o+Ah*i.size) el news 0 cur w hg (by simpa using hfit) h1;simp only [yH] at hst;simp [Builtin.append_,run_underlying ht,Go.sizeOf,typeInfo,hi,Builtin.lenOf,hroom,hf,E1,hst,Au]
theorem Cc {κ':BB} {h':Heap} {w':World} {i ver z b base cap n:Nat} {L:List (List Tree)} {cells:Array Value} {el:TypeId} (hk:κ'[i]? = some (some (b,base))) (hi:h'[i]? = some (.row false ver z L))
  (hc:w'.heap[b]? = some (.cells cells el (0,0))) (hcap:base+cap*z≤cells.size) (hn:L.length=n) (hle:n≤cap):AQ B κ' h' w' (.sref i ver 0 n) (.slice (some ⟨b,base,none⟩) n cap):=by
 refine .sref _ _ _ _ _ rfl ⟨_,hi,yI _⟩ fun k o hk' ho' _ => ?_;rw [hk] at hk';cases hk';rw [hi] at ho';cases ho';refine ⟨rfl,by simp only [AI.len];omega,.inr ⟨b,base,rfl,cap,by simp,by simp only [AI.len];omega,fun cells' elem' fr' hc' => ?_⟩⟩;rw [hc] at hc';cases hc';simpa [AI.size] using hcap
theorem CP {κ':BB} {h':Heap} {w':World} {i ver z:Nat} {a0:Option Addr} (hk:κ'[i]? = some none) (hi:h'[i]? = some (.row false ver z [])):AQ B κ' h' w' (.sref i ver 0 0) (.slice a0 0 0):=by refine .sref _ _ _ _ _ rfl ⟨_,hi,yI _⟩ fun k o hk' ho' _ => ?_;rw [hk] at hk';cases hk';rw [hi] at ho';cases ho';exact ⟨rfl,by simp [AI.len],.inl ⟨rfl,by simp [AI.len],⟨_,rfl⟩⟩⟩
def BT (w:World) (A:Nat→Prop) (z:Nat) (L:List (List Tree)) (vals:Nat→Value):Prop:=
 (∀(j:Nat) (e:List Tree),L[j]? = some e→e.length=z)∧∀(j:Nat) (e:List Tree) (c:Nat) (x:Tree),L[j]? = some e→e[c]? = some x→Bp w A x (vals (j*z+c))
theorem Dy {A:Nat→Prop} {z:Nat} {L M:List (List Tree)} {f g:Nat→Value} (hL:BT w A z L f) (hM:BT w A z M fun q=>g (L.length*z+q)) (hfg:∀q,q<L.length*z→g q=f q):BT w A z (L++M) g:=by
 refine ⟨fun j e he => ?_,fun j e c x he hx => ?_⟩
 ·rcases yL j L.length with h1|h1
  ·rw [zK h1] at he;exact hL.1 j e he
  ·rw [zL h1] at he;exact hM.1 _ e he
 ·rcases yL j L.length with h1|h1
  ·rw [zK h1] at he;have hcl:c<z:=by rw [← hL.1 j e he];exact (List.getElem?_eq_some_iff.1 hx).1
   have:=yN z (show j+1≤L.length from h1);rw [yQ] at this;rw [hfg _ (by omega)];exact hL.2 j e c x he hx
  ·rw [zL h1] at he;have:=hM.2 _ e c x he hx;rw [show j*z+c=L.length*z+((j-L.length)*z+c) from by rw [← yE,← yG,Nat.add_sub_cancel' h1]];exact this
theorem Df {κ':BB} {h':Heap} {w':World} (x:Ext κ h w κ' h' w') {z:Nat} {L:List (List Tree)} {f:Nat→Value} (hL:BT w (fun b=>B b∨Ex κ h b) z L f):BT w' (fun b=>B b∨Ex κ' h' b) z L f:=
 ⟨hL.1,fun j e c y he hy=>(hL.2 j e c y he hy).ext x⟩
theorem Cj {κ':BB} {h':Heap} {w':World} {b base z ver:Nat} {L:List (List Tree)} {cells:Array Value} {el:TypeId} {fz:Bool} (hz:z≠0) (hc:w'.heap[b]? = some (.cells cells el (0,0))) (hs:base+L.length*z≤cells.size)
  (hL:BT w' (fun b=>B b∨Ex κ' h' b) z L fun q=>cells.getD (base+q) undef):HA B κ' h' w' (some (b,base)) (.row fz ver z L):=
 ⟨hz,cells,el,hc,hs,hL.1,hL.2⟩
theorem Pf (olds news:List Value) (Z:Array Value):olds.toArray++news.toArray++Z=(olds++(news++Z.toList)).toArray:=by apply Array.ext';simp
theorem WU (olds news:List Value) (Z:Array Value) (q:Nat) (hq:q<olds.length):(olds.toArray++news.toArray++Z).getD q undef=olds.getD q undef:=by rw [Pf,Bh];simp only [List.getD];rw [zK hq]
theorem LY (olds news:List Value) (Z:Array Value) (q:Nat) (hq:q<news.length):(olds.toArray++news.toArray++Z).getD (olds.length+q) undef=news.getD q undef:=by rw [Pf,Bh];simp only [List.getD];rw [zL (by omega),Nat.add_sub_cancel_left,zK hq]
theorem IK (hh:Ap B κ h w):Ext κ h w κ h w.drew:=N4 hh rfl rfl rfl (yI _) fun _ _=>rfl
theorem Jm {t:TypeId} {s x:AV} {K:AV→Heap→Option R} {r:R} (hr:ER P t h s x K=some r) (hh:Ap B κ h w) {vs vx:Value} (hs:AQ B κ h w s vs) (hx:AQ B κ h w x vx) (ty:TypeId) :
  ∃v h' κ' val w',K v h'=some r∧(Builtin.append_ #[t,t] ty #[vs,vx]).run P w = .ok val w'∧AQ B κ' h' w' v val∧Ap B κ' h' w'∧Ext κ h w κ' h' w':=by
 unfold ER at hr
 try simp only [AB] at hr
 obtain ⟨z,hz,hr1⟩:=bind_some hr;clear hr;obtain ⟨e,i,zv,hu,hi,hzv,rfl,hz0,hzs,hby⟩:=OG hz;obtain ⟨new,hr2,hsl⟩:=Kd hr1 hh hx;clear hr1;have hbytes:∀n,n≤1073741824→n*i.bytes≤140737488355328:=fun n hn=>yJ (Nat.mul_le_mul hn hby) (by omega);split at hr2
 ·obtain ⟨hle,hK⟩:=AG hr2;cases hs with|nilsl a0=>
  by_cases hn:new=[]
  ·subst hn;obtain ⟨_,a,cap,rfl,_,_⟩:=hsl;have hrun:=Cb (P:=P) (w:=w) (ty:=ty) hu hi a0 0 0 a cap (yI _);have x1:Ext κ h w (κ++[none]) (h++[.row false 0 i.size []]) w:=CD hh rfl rfl rfl (yI _) (fun _ _=>rfl) (fun b base e=>by cases e);have hh1:=Bs hh (fun _ _=>rfl) x1 (fun b base e=>by cases e) (show HA B (κ++[none]) (h++[.row false 0 i.size []]) w none (.row false 0 i.size []) from rfl);exact ⟨_,_,_,_,_,hK,hrun,CP (by rw [← hh.len];exact Am κ _) (Am h _),hh1,x1⟩
  ·obtain ⟨b,o,cap,news,rfl,hnl,hnc,hn1,hnt⟩:=Gv hz0 hsl hn;have hpos:0<new.length:=zY.2 hn;have hrun:=run_append_nil' (P:=P) a0 w t ty e i zv hu hi hzv ⟨b,o,none⟩ new.length cap news hnl hnc hpos (by omega) (by have:=hbytes _ hle;omega);have h5:∀b',b'<w.heap.size→(w.drew.alloc (.cells (news.toArray++Builtin.zeroCells zv.cells (grownCap w new.length 0 e-new.length)) e)).heap[b']? = w.heap[b']? :=fun b' hb'=>Ar w.drew _ hb';have x1:Ext κ h w (κ++[some (w.heap.size,0)]) (h++[.row false 0 i.size new]) (w.drew.alloc (.cells (news.toArray++Builtin.zeroCells zv.cells (grownCap w new.length 0 e-new.length)) e)):=
    CD (w':=w.drew.alloc _) hh rfl rfl rfl (by simp) h5 fun b base e=>by injection e with e;injection e with e;omega
   have hge:=grownCap_ge w new.length 0 e;have hnew:=BY w.drew (.cells (news.toArray++Builtin.zeroCells zv.cells (grownCap w new.length 0 e-new.length)) e);have hcap:0+grownCap w new.length 0 e*i.size≤(news.toArray++Builtin.zeroCells zv.cells (grownCap w new.length 0 e-new.length)).size:=by simp only [zB,yD,size_zeroCells,hzs,hnl,← yG];rw [yR];exact yN _ (by omega)
   have hh1:=Bs hh h5 x1 (fun b base e=>by injection e with e;injection e with e;subst e;exact ⟨yI _,by simp⟩)
    (Cj hz0 hnew (yJ (yF (yN _ hge) _) hcap) (by
     refine ⟨hsl.1,fun j e' c y he' hy => ?_⟩;have hjl:j<new.length:=(List.getElem?_eq_some_iff.1 he').1;have hcl:c<i.size:=by rw [← hsl.1 j e' he'];exact (List.getElem?_eq_some_iff.1 hy).1
     have hq:=yN i.size (show j+1≤new.length from hjl);rw [yQ] at hq;have h3:=LY [] news (Builtin.zeroCells zv.cells (grownCap w new.length 0 e-new.length)) (j*i.size+c) (by omega);simp only [zX,yR,Array.empty_append] at h3 ⊢;rw [h3];exact (hnt j e' c y he' hy).ext x1))
   refine ⟨_,_,_,_,_,hK,hrun,?_,hh1,x1⟩;exact Cc (by rw [← hh.len];exact Am κ _) (Am h _) hnew hcap rfl hge
 ·rename_i ri ver off len;split at hr2
  ·rename_i ver' size es hri;by_cases hc:new.length=0∧off+len<es.length
   ·rw [if_pos hc] at hr2;obtain ⟨rfl,hK⟩:=AG hr2;have hn:new=[]:=zI hc.1;subst hn;obtain ⟨_,a,cap,rfl,_,_⟩:=hsl;have hs':=hs;cases hs with
    |sref _ _ _ _ _ _ hex hsr=>
     obtain ⟨kk,hkk⟩:=CE hh hri;obtain ⟨_,_,hm⟩:=hsr kk _ hkk hri rfl;have ho:=hh.obj ri _ _ hri hkk;rcases hm with ⟨rfl,hof,a0,rfl⟩|⟨b,base,rfl,cap',rfl,hcap,hcs⟩
     ·simp only [AI.len] at hof;omega
     ·simp only [AI.len] at hcap;exact ⟨_,h,κ,_,w,hK,Cb (P:=P) (w:=w) (ty:=ty) hu hi _ _ _ a cap (by omega),hs',hh,Ext.refl _ _ _⟩
   rw [if_neg hc] at hr2;obtain ⟨⟨rfl,hsz,hoff,hle⟩,hK⟩:=AG hr2;clear hr2;cases hs with
   |sref _ _ _ _ _ _ hex hsr=>
    obtain ⟨kk,hkk⟩:=CE hh hri;obtain ⟨_,_,hm⟩:=hsr kk _ hkk hri rfl;have ho:=hh.obj ri _ _ hri hkk;have hOL:∀L,OLe (.row false ver' size es) (.row false (ver'+1) i.size L):=fun L=>⟨rfl,le_succ _,(fun e=>by simp [AI.ver] at e),(fun e=>by cases e),(fun e=>by cases e),rfl⟩
    have hver:∀L,(AI.row false ver' size es).ver=(AI.row false (ver'+1) i.size L).ver→∀{p:Prop},p:=fun L e=>by simp [AI.ver] at e
    rcases hm with ⟨rfl,hof,a0,rfl⟩|⟨b,base,rfl,cap,rfl,hcap',hcs⟩
    ·simp only [yR,List.take_zero,nil_append] at hK hle;by_cases hn:new=[]
     ·subst hn;obtain ⟨_,a,cap,rfl,_,_⟩:=hsl;have hrun:=Cb (P:=P) (w:=w) (ty:=ty) hu hi a0 0 0 a cap (yI _);have x1:Ext κ h w (κ.set ri none) (h.set ri (.row false (ver'+1) i.size [])) w:=
       C5 hh hri rfl (hOL []) hkk rfl rfl rfl (yI _) (fun _ _ _=>rfl) (fun b base e=>by cases e) (fun e=>hver [] e)
      have hh1:=CN hh hri hkk (fun _ _ _=>rfl) (fun b base e=>by cases e) x1 (show HA B (κ.set ri none) (h.set ri (.row false (ver'+1) i.size [])) w none (.row false (ver'+1) i.size []) from rfl);exact ⟨_,_,_,_,_,hK,hrun,CP (As hkk) (As hri),hh1,x1⟩
     ·obtain ⟨b,o,cap,news,rfl,hnl,hnc,hn1,hnt⟩:=Gv hz0 hsl hn;have hpos:0<new.length:=zY.2 hn;have hrun:=run_append_nil' (P:=P) a0 w t ty e i zv hu hi hzv ⟨b,o,none⟩ new.length cap news hnl hnc hpos (by omega) (by have:=hbytes _ hle;omega);have h5:∀b',b'<w.heap.size→(w.drew.alloc (.cells (news.toArray++Builtin.zeroCells zv.cells (grownCap w new.length 0 e-new.length)) e)).heap[b']? = w.heap[b']? :=fun b' hb'=>Ar w.drew _ hb';have x1:Ext κ h w (κ.set ri (some (w.heap.size,0))) (h.set ri (.row false (ver'+1) i.size new)) (w.drew.alloc (.cells (news.toArray++Builtin.zeroCells zv.cells (grownCap w new.length 0 e-new.length)) e)):=
       C5 (w':=w.drew.alloc _) hh hri rfl (hOL new) hkk rfl rfl rfl (by simp) (fun b' hb' _=>h5 b' hb') (fun b base e=>by injection e with e;injection e with e;exact .inr (by omega)) (fun e=>hver new e)
      have hge:=grownCap_ge w new.length 0 e;have hnew:=BY w.drew (.cells (news.toArray++Builtin.zeroCells zv.cells (grownCap w new.length 0 e-new.length)) e);have hcap:0+grownCap w new.length 0 e*i.size≤(news.toArray++Builtin.zeroCells zv.cells (grownCap w new.length 0 e-new.length)).size:=by simp only [zB,yD,size_zeroCells,hzs,hnl,← yG];rw [yR];exact yN _ (by omega)
      have hh1:=CN hh hri hkk (fun b' hb' _=>h5 b' hb') (fun b base e=>by injection e with e;injection e with e;subst e;exact ⟨.inr (yI _),by simp⟩) x1
       (Cj hz0 hnew (yJ (yF (yN _ hge) _) hcap) (by
        refine ⟨hsl.1,fun j e' c y he' hy => ?_⟩;have hjl:j<new.length:=(List.getElem?_eq_some_iff.1 he').1;have hcl:c<i.size:=by rw [← hsl.1 j e' he'];exact (List.getElem?_eq_some_iff.1 hy).1
        have hq:=yN i.size (show j+1≤new.length from hjl);rw [yQ] at hq;have h3:=LY [] news (Builtin.zeroCells zv.cells (grownCap w new.length 0 e-new.length)) (j*i.size+c) (by omega);simp only [zX,yR,Array.empty_append] at h3 ⊢;rw [h3];exact (hnt j e' c y he' hy).ext x1))
      exact ⟨_,_,_,_,_,hK,hrun,Cc (As hkk) (As hri) hnew hcap rfl hge,hh1,x1⟩
    ·have hcap:len≤cap:=by simp only [AI.len] at hcap';omega
     obtain ⟨hsz0,cells,el,hcell,hcsz,hls,hct⟩:=ho;obtain rfl:size=i.size:=hsz.resolve_right hsz0;have hcapc:=hcs cells el _ hcell;simp only [AI.size] at hcapc ⊢;rw [yG] at hcapc;have hdl:((es.drop off).take len).length=len:=by simp;omega
     have hold:BT w (fun b=>B b∨Ex κ h b) i.size ((es.drop off).take len) fun q=>cells.getD (base+off*i.size+q) undef:=by
      have hget:∀(j:Nat) e',((es.drop off).take len)[j]? = some e'→es[off+j]? = some e':=fun j e' he=>by
       have hj:j<len:=by have:=(List.getElem?_eq_some_iff.1 he).1;simp at this;omega
       rw [zT hj,zN] at he;exact he
      refine ⟨fun j e' he'=>hls _ e' (hget j e' he'),fun j e' c y he' hy => ?_⟩;have he':=hget j e' he';have:=hct _ e' c y he' hy;rw [yG] at this;dsimp only;rw [show base+off*i.size+(j*i.size+c)=base+(off*i.size+j*i.size+c) from by omega];exact this
     by_cases hn:new=[]
     ·subst hn;obtain ⟨_,a,cap',rfl,_,_⟩:=hsl;have hrun:=Cb (P:=P) (w:=w) (ty:=ty) hu hi (some ⟨b,base+off*i.size,none⟩) len cap a cap' hcap;simp only [append_nil,zX,yH] at hK;have x1:Ext κ h w (κ.set ri (some (b,base+off*i.size))) (h.set ri (.row false (ver'+1) i.size ((es.drop off).take len))) w:=
       C5 hh hri rfl (hOL _) hkk rfl rfl rfl (yI _) (fun _ _ _=>rfl) (fun b' base' e=>by injection e with e;injection e with e1 e2;subst e1;exact .inl ⟨base,rfl⟩) (fun e=>hver _ e)
      have hh1:=CN hh hri hkk (fun _ _ _=>rfl) (fun b' base' e=>by injection e with e;injection e with e1 e2;subst e1;exact ⟨.inl ⟨base,rfl⟩,hh.lt ri _ base hkk⟩) x1
       (Cj hz0 hcell (by rw [hdl];have:=yN i.size hcap;omega) (Df x1 hold))
      exact ⟨_,_,_,_,_,hK,hrun,Cc (As hkk) (As hri) hcell (by omega) hdl hcap,hh1,x1⟩
     ·obtain ⟨nb,o,ncap,news,rfl,hnl,hnc,hn1,hnt⟩:=Gv hz0 hsl hn;have hpos:0<new.length:=zY.2 hn;have hlen2:((es.drop off).take len++new).length=len+new.length:=by rw [zV,hdl]
      have hnr:BT w (fun b=>B b∨Ex κ h b) i.size new fun q=>news.getD q undef:=⟨hsl.1,hnt⟩
      by_cases hroom:len+new.length≤cap
      ·have hmul:=yN i.size hroom;rw [yG] at hmul;have hfit:base+off*i.size+len*i.size+news.length≤cells.size:=by omega
       have hrun:=run_append_room' (P:=P) (ty:=ty) (w:=w) (c:=ncap) hu hi hcell hnl hnc hn1 hroom hfit;have hseg:=C2 cells _ _ hfit;have hnew:=setRow_heap w b cells (Au cells (base+off*i.size+len*i.size) news) el _ hcell;have h5:∀b',b'<w.heap.size→(∀base',(some (b,base):Option (Nat×Nat))≠some (b',base'))→(w.setRow b (Au cells (base+off*i.size+len*i.size) news)).heap[b']? = w.heap[b']? :=
        fun b' _ hb'=>setRow_other w b _ fun e=>hb' base (by rw [e])
       have x1:Ext κ h w (κ.set ri (some (b,base+off*i.size))) (h.set ri (.row false (ver'+1) i.size ((es.drop off).take len++new))) (w.setRow b (Au cells (base+off*i.size+len*i.size) news)):=
        C5 (w':=w.setRow b _) hh hri rfl (hOL _) hkk rfl rfl rfl (by rw [setRow_size];exact yI _) h5 (fun b' base' e=>by injection e with e;injection e with e1 e2;subst e1;exact .inl ⟨base,rfl⟩) (fun e=>hver _ e)
       have hh1:=CN hh hri hkk h5 (fun b' base' e=>by injection e with e;injection e with e1 e2;subst e1;exact ⟨.inl ⟨base,rfl⟩,by rw [setRow_size];exact hh.lt ri _ base hkk⟩) x1
        (Cj hz0 hnew (by rw [hlen2,hseg,yG];omega) (Df x1 (Dy hold (by
         refine ⟨hnr.1,fun j e' c y he' hy => ?_⟩;have hjl:j<new.length:=(List.getElem?_eq_some_iff.1 he').1;have hcl:c<i.size:=by rw [← hsl.1 j e' he'];exact (List.getElem?_eq_some_iff.1 hy).1
         have hq:=yN i.size (show j+1≤new.length from hjl);rw [yQ] at hq;dsimp only;rw [hdl,Bf cells _ _ hfit,if_pos ⟨by omega,by omega⟩];rw [show base+off*i.size+(len*i.size+(j*i.size+c))-(base+off*i.size+len*i.size)=j*i.size+c from by omega];exact hnt j e' c y he' hy) (fun q hq=>by
         rw [hdl] at hq;rw [Bf cells _ _ hfit,if_neg (by omega)]))))
       exact ⟨_,_,_,_,_,hK,hrun,Cc (As hkk) (As hri) hnew (by rw [hseg];omega) hlen2 hroom,hh1,x1⟩
      ·let olds:List Value:=(List.range (len*i.size)).map fun q=>cells.getD (base+off*i.size+q) undef;have hol:olds.length=len*i.size:=by simp [olds]
       have hog:∀q,q<len*i.size→olds.getD q undef=cells.getD (base+off*i.size+q) undef:=fun q hq=>by simp [olds,List.getD,hq]
       have holds:∀j v,olds[j]? = some v→w.cell? ((⟨b,base+off*i.size,none⟩:Addr).add j)=some v:=fun j v hv=>by
        have hj:j<len*i.size:=by rw [← hol];exact (List.getElem?_eq_some_iff.1 hv).1
        simp only [olds,zQ,zR hj,yT,Option.some.injEq] at hv;subst hv;rw [E1];have hm2:=yN i.size hcap;exact Bq hcell (by omega)
       have hrun:=run_append_grow (P:=P) w t ty e i zv hu hi hzv ⟨b,base+off*i.size,none⟩ len cap olds hol holds ⟨nb,o,none⟩ new.length ncap news hnl hnc (by omega) (by omega) (growslice_fits (by omega) (hbytes _ hle));have h5:∀b',b'<w.heap.size→(w.drew.alloc (.cells (olds.toArray++news.toArray++Builtin.zeroCells zv.cells (grownCap w (len+new.length) cap e-(len+new.length))) e)).heap[b']? = w.heap[b']? :=fun b' hb'=>Ar w.drew _ hb';have x1:Ext κ h w (κ.set ri (some (w.heap.size,0))) (h.set ri (.row false (ver'+1) i.size ((es.drop off).take len++new))) (w.drew.alloc (.cells (olds.toArray++news.toArray++Builtin.zeroCells zv.cells (grownCap w (len+new.length) cap e-(len+new.length))) e)):=
        C5 (w':=w.drew.alloc _) hh hri rfl (hOL _) hkk rfl rfl rfl (by simp) (fun b' hb' _=>h5 b' hb') (fun b base e=>by injection e with e;injection e with e;exact .inr (by omega)) (fun e=>hver _ e)
       have hge:=grownCap_ge w (len+new.length) cap e;have hnew:=BY w.drew (.cells (olds.toArray++news.toArray++Builtin.zeroCells zv.cells (grownCap w (len+new.length) cap e-(len+new.length))) e);have hcap2:0+grownCap w (len+new.length) cap e*i.size≤(olds.toArray++news.toArray++Builtin.zeroCells zv.cells (grownCap w (len+new.length) cap e-(len+new.length))).size:=by simp only [zB,yD,size_zeroCells,hzs,hnl,hol,← yG];rw [yR];exact yN _ (by omega)
       have hh1:=CN hh hri hkk (fun b' hb' _=>h5 b' hb') (fun b base e=>by injection e with e;injection e with e;subst e;exact ⟨.inr (yI _),by simp⟩) x1
        (Cj hz0 hnew (by rw [hlen2];exact yJ (yF (yN _ hge) _) hcap2) (Df x1 (Dy hold (by
         refine ⟨hnr.1,fun j e' c y he' hy => ?_⟩;have hjl:j<new.length:=(List.getElem?_eq_some_iff.1 he').1;have hcl:c<i.size:=by rw [← hsl.1 j e' he'];exact (List.getElem?_eq_some_iff.1 hy).1
         have hq:=yN i.size (show j+1≤new.length from hjl);rw [yQ] at hq;dsimp only;rw [hdl,yR,← hol,LY _ _ _ _ (by omega)];exact hnt j e' c y he' hy) (fun q hq=>by
         rw [hdl] at hq;rw [yR,WU _ _ _ _ (by omega),hog q hq]))))
       exact ⟨_,_,_,_,_,hK,hrun,Cc (As hkk) (As hri) hnew hcap2 hlen2 hge,hh1,x1⟩
  ·cases hr2
 ·cases hr2
end Ab
set_option linter.unusedVariables false
namespace Ab
open Go
variable {R:Type} {P:Program} {B:Nat→Prop} {κ:BB} {h:Heap} {w:World}
theorem JF {es new:List (List Tree)} {p:Nat} (hp:p+new.length≤es.length):(BP es p new).length=es.length:=by simp [BP];omega
theorem NF {es new:List (List Tree)} {p:Nat} (hp:p+new.length≤es.length) (j:Nat):(BP es p new)[j]? = if p≤j∧j<p+new.length then new[j-p]? else es[j]? :=by
 unfold BP;have hl:(es.take p).length=p:=by simp;omega
 by_cases h1:j<p
 ·rw [zH,zK (by omega),zT h1,if_neg (by omega)]
 ·by_cases h2:j<p+new.length
  ·rw [zK (by simp;omega),zL (by omega),hl,if_pos ⟨by omega,h2⟩]
  ·rw [zL (by simp;omega),zN,if_neg (by omega)];congr 1;simp;omega
theorem QP {α:Type} {l:List α} {m i:Nat} {x:α} (hx:(l.take m)[i]? = some x):i<m∧l[i]? = some x:=by
 rcases yL i m with h1|h1
 ·rw [zT h1] at hx;exact ⟨h1,hx⟩
 ·simp [zS,yO.2 h1] at hx
theorem LH (hh:Ap B κ h w) {i ver z b base:Nat} {es new:List (List Tree)} {cells:Array Value} {el:TypeId} (hi:h[i]? = some (.row false ver z es)) (hk:κ[i]? = some (some (b,base)))
  (hcell:w.heap[b]? = some (.cells cells el (0,0))) {p:Nat} {vals:List Value} (hp:p+new.length≤es.length) (hvl:vals.length=new.length*z)
  (hn:BT w (fun b=>B b∨Ex κ h b) z new fun q=>vals.getD q undef) :
  base+p*z+vals.length≤cells.size∧(w.setRow b (Au cells (base+p*z) vals)).heap[b]? = some (.cells (Au cells (base+p*z) vals) el (0,0))∧(Au cells (base+p*z) vals).size=cells.size∧
  Ap B κ (h.set i (.row false ver z (BP es p new))) (w.setRow b (Au cells (base+p*z) vals))∧Ext κ h w κ (h.set i (.row false ver z (BP es p new))) (w.setRow b (Au cells (base+p*z) vals)):=by
 obtain ⟨hz0,cells',elem,hcell',hs,hls,hcv⟩:=hh.obj i _ _ hi hk;rw [hcell] at hcell';cases hcell';have hmul:=yN z hp;rw [yG] at hmul;have hfit:base+p*z+vals.length≤cells.size:=by omega
 have hsz:=C2 cells (base+p*z) vals hfit;have hnew:=setRow_heap w b cells (Au cells (base+p*z) vals) el _ hcell;have hset:(κ.set i (some (b,base)))=κ:=by
  apply zJ;intro j;by_cases hij:j=i
  ·rw [hij,As hk,hk]
  ·rw [DM hij]
 have hrl:=JF hp;have x2:Ext κ h w κ (h.set i (.row false ver z (BP es p new))) (w.setRow b (Au cells (base+p*z) vals)):=by
  have x2':Ext κ h w (κ.set i (some (b,base))) (h.set i (.row false ver z (BP es p new))) (w.setRow b (Au cells (base+p*z) vals)):=by refine C5 (o' :=.row false ver z (BP es p new)) (k':=some (b,base)) (w':=w.setRow b (Au cells (base+p*z) vals)) hh hi rfl ⟨rfl,yI _,(fun _=>⟨rfl,by simp [AI.len,hrl]⟩),(fun e=>by cases e),(fun e=>by cases e),rfl⟩ hk rfl rfl rfl (by rw [setRow_size];exact yI _) (fun b' _ hb'=>setRow_other w b _ fun e=>hb' base (by rw [e])) (fun b' base' e=>by injection e with e;injection e with e1 e2;subst e1;exact .inl ⟨base,rfl⟩) (fun _=>⟨rfl,fun b' base' e cells' elem' fr' hc' => ?_⟩);cases e;rw [hnew] at hc';cases hc';exact ⟨cells,hcell,hsz.symm⟩
  rw [hset] at x2';exact x2'
 have hh2:Ap B (κ.set i (some (b,base))) (h.set i (.row false ver z (BP es p new))) (w.setRow b (Au cells (base+p*z) vals)):=by
  refine CN hh hi hk (fun b' _ hb'=>setRow_other w b _ fun e=>hb' base (by rw [e])) (fun b' base' e=>by injection e with e;injection e with e1 e2;subst e1;exact ⟨.inl ⟨base,rfl⟩,by rw [setRow_size];exact hh.lt i b base hk⟩) (by rw [hset];exact x2) ?_;rw [hset];refine ⟨hz0,_,el,hnew,by rw [hsz,hrl];exact hs,fun j e' he' => ?_,fun j e' c x he' hx => ?_⟩
  ·rw [NF hp] at he';split at he'
   ·exact hn.1 _ e' he'
   ·exact hls j e' he'
  ·rw [Bf cells _ _ hfit];rw [NF hp] at he';split at he'
   ·rename_i hj;have hcl:c<z:=by rw [← hn.1 _ e' he'];exact (List.getElem?_eq_some_iff.1 hx).1
    have h3:=hn.2 _ e' c x he' hx;have e1:j*z=p*z+(j-p)*z:=by rw [← yG];congr 1;omega
    have hq:=yN z (show j-p+1≤new.length by omega);rw [yQ] at hq;rw [if_pos ⟨by omega,by omega⟩,show base+(j*z+c)-(base+p*z)=(j-p)*z+c by omega];exact h3.ext x2
   ·rename_i hj;have hcl:c<z:=by rw [← hls _ e' he'];exact (List.getElem?_eq_some_iff.1 hx).1
    rw [if_neg ?_]
    ·exact (hcv j e' c x he' hx).ext x2
    ·rintro ⟨h1,h2⟩
     rcases yL j p with hlt|hge
     ·have:=yN z (show j+1≤p from hlt);rw [yQ] at this;omega
     ·have:=yN z (show p+new.length≤j by omega);rw [yG] at this;omega
 rw [hset] at hh2;exact ⟨hfit,hnew,hsz,hh2,x2⟩
theorem M1 {κ':BB} {h':Heap} {w':World} {i ver z b base off cap n:Nat} {L:List (List Tree)} {cells:Array Value} {el:TypeId} (hk:κ'[i]? = some (some (b,base))) (hi:h'[i]? = some (.row false ver z L))
  (hc:w'.heap[b]? = some (.cells cells el (0,0))) (hcap:base+(off+cap)*z≤cells.size) (hn:off+n≤L.length) (hle:L.length≤off+cap):AQ B κ' h' w' (.sref i ver off n) (.slice (some ⟨b,base+off*z,none⟩) n cap):=by
 refine .sref _ _ _ _ _ rfl ⟨_,hi,yI _⟩ fun k o hk' ho' _ => ?_;rw [hk] at hk';cases hk';rw [hi] at ho';cases ho';refine ⟨rfl,hn,.inr ⟨b,base,rfl,cap,rfl,hle,fun cells' elem' fr' hc' => ?_⟩⟩;rw [hc] at hc';cases hc';exact hcap
theorem RA {t:TypeId} {s x:AV} {K:AV→Heap→Option R} {r:R} (hr:Em P t h s x K=some r) (hh:Ap B κ h w) {vs vx:Value} (hs:AQ B κ h w s vs) (hx:AQ B κ h w x vx) (ty:TypeId) :
  ∃v h' κ' val w',K v h'=some r∧(Builtin.append_ #[t,t] ty #[vs,vx]).run P w = .ok val w'∧AQ B κ' h' w' v val∧Ap B κ' h' w'∧Ext κ h w κ' h' w':=by
 unfold Em at hr
 try simp only [AB] at hr
 obtain ⟨z,hz,hr1⟩:=bind_some hr;clear hr;obtain ⟨e,i,zv,hu,hi,hzv,rfl,hz0,hzs,hby⟩:=OG hz;obtain ⟨new,hr2,hsl⟩:=Kd hr1 hh hx;clear hr1;split at hr2
 ·rename_i ri ver off len;split at hr2
  ·rename_i ver' size es hri;obtain ⟨⟨rfl,rfl,hfits⟩,hK⟩:=AG hr2;clear hr2;cases hs with
   |sref _ _ _ _ _ _ hex hsr=>
    obtain ⟨kk,hkk⟩:=CE hh hri;obtain ⟨_,hle,hm⟩:=hsr kk _ hkk hri rfl;simp only [AI.len] at hle;have ho:=hh.obj ri _ _ hri hkk;rcases hm with ⟨rfl,hof,a0,rfl⟩|⟨b,base,rfl,cap,rfl,hcap,hcs⟩
    ·simp only [AI.len] at hof;have hn:new=[]:=zI (by omega);subst hn;obtain ⟨_,a,cap,rfl,_,_⟩:=hsl;have hrun:=Cb (P:=P) (w:=w) (ty:=ty) hu hi a0 0 0 a cap (yI _);have hset:h.set ri (.row false ver' i.size (BP es (off+0) []))=h:=by
      apply zJ;intro j;by_cases hij:j=ri
      ·rw [hij,As hri,hri];simp [BP]
      ·rw [DM hij]
     rw [hset] at hK;exact ⟨_,h,κ,_,w,hK,hrun,.sref _ _ _ _ _ rfl hex hsr,hh,Ext.refl _ _ _⟩
    ·simp only [AI.len] at hcap;obtain ⟨hsz0,cells,el,hcell,hcsz,hls,hct⟩:=ho;have hcapc:=hcs cells el _ hcell;simp only [AI.size] at hcapc ⊢;by_cases hn:new=[]
     ·subst hn;obtain ⟨_,a,cap',rfl,_,_⟩:=hsl;have hrun:=Cb (P:=P) (w:=w) (ty:=ty) hu hi (some ⟨b,base+off*i.size,none⟩) len cap a cap' (by omega);have hset:h.set ri (.row false ver' i.size (BP es (off+len) []))=h:=by
       apply zJ;intro j;by_cases hij:j=ri
       ·rw [hij,As hri,hri];simp [BP]
       ·rw [DM hij]
      rw [hset] at hK;exact ⟨_,h,κ,_,w,hK,hrun,M1 hkk hri hcell hcapc (by simpa using hle) hcap,hh,Ext.refl _ _ _⟩
     ·obtain ⟨nb,o,ncap,news,rfl,hnl,hnc,hn1,hnt⟩:=Gv hz0 hsl hn;obtain ⟨f1,f2,f3,f4,f5⟩:=LH (new:=new) (p:=off+len) (vals:=news) hh hri hkk hcell hfits hnl ⟨hsl.1,hnt⟩;have he:base+(off+len)*i.size=base+off*i.size+len*i.size:=by rw [yG];omega
      have hrun:=run_append_room' (P:=P) (ty:=ty) (w:=w) (Ah:=len) (sCap:=cap) (o:=base+off*i.size) (c:=ncap) hu hi hcell hnl hnc hn1 (by omega) (by omega);rw [← he] at hrun;have hrl:=JF hfits;exact ⟨_,_,_,_,_,hK,hrun,M1 hkk (As hri) f2 (by rw [f3];exact hcapc) (by rw [hrl];omega) (by rw [hrl];exact hcap),f4,f5⟩
  ·cases hr2
 ·cases hr2
theorem RW {e:TypeId} {K:List Tree→Option R} {r:R} (hr:O2 P h e K=some r) (hh:Ap B κ h w) :
  ∃zs i v,K zs=some r∧P.info? e=some i∧i.zero=some v∧v.cells.size=zs.length∧zs.length≠0∧i.size=zs.length∧(∀u∈v.cells.toList,u.oneCell'=true)∧
   ∀(c:Nat) (x:Tree),zs[c]? = some x→Bp w (fun b=>B b∨Ex κ h b) x (v.cells.getD c undef):=by
 unfold O2 at hr
 try simp only [AB] at hr
 split at hr
 ·rename_i z n hz hn;obtain ⟨⟨hn0,hzl⟩,hr⟩:=AG hr;obtain ⟨i,v,hi,hv,hc⟩:=Ch (B:=B) (κ:=κ) (h:=h) (w:=w) hz;obtain ⟨zs,hK,hzs,_,hT⟩:=DD (P:=P) hr hh (vs:=v.cells.toList) (by simpa using hc.1) (B5 hc);have hs:v.cells.size=zs.length:=by rw [hzs];exact hc.1
  have hsi:i.size=n:=by simpa [B3,hi] using hn
  refine ⟨zs,i,v,hK,hi,hv,hs,by omega,by omega,fun u hu => ?_,fun c x hx => ?_⟩
  ·obtain ⟨j,hj,rfl⟩:=zU hu;have hj':j<zs.length:=by rw [← hs];simpa using hj
   exact (hT j _ _ (zO hj') (zO hj)).one
  ·have hj':c<v.cells.size:=by rw [hs];exact AU hx
   have:=hT c x (v.cells.getD c undef) hx (by simp [Array.getD,hj']);exact this.less fun b hb=>hb.imp id fun e=>⟨rfl,e⟩
 ·cases hr
theorem JB (zero:Array Value) (n q:Nat) (hq:q<n*zero.size):(Builtin.zeroCells zero n).toList[q]? = some (zero.getD (q % zero.size) undef):=by
 have hpos:0<zero.size:=by
  rcases Nat.eq_zero_or_pos zero.size with h0|h0
  ·rw [h0] at hq;omega
  ·exact h0
 have hlt:=yM q hpos;have hlen:(Builtin.zeroCells zero n).size=n*zero.size:=size_zeroCells zero n;have hq2:q<(Builtin.zeroCells zero n).size:=by rw [hlen];exact hq
 rw [getElem?_toList,Array.getElem?_eq_getElem hq2];simp [Builtin.zeroCells,Array.getD,hlt]
theorem RV {A:Nat→Prop} {zs:List Tree} {v:Value} (hs:v.cells.size=zs.length) (hT:∀(c:Nat) (x:Tree),zs[c]? = some x→Bp w A x (v.cells.getD c undef)) (n:Nat) :
  BT w A zs.length (yB n zs) fun q=>(Builtin.zeroCells v.cells n).toList.getD q undef:=by
 refine ⟨fun j e he => ?_,fun j e c x he hx => ?_⟩
 ·rw [List.getElem?_replicate] at he;split at he<;>cases he;rfl
 ·rw [List.getElem?_replicate] at he;split at he
  ·rename_i hj;cases he;have hc:c<zs.length:=AU hx;have hq:=yN zs.length (show j+1≤n from hj);rw [yQ] at hq;have:=JB v.cells n (j*zs.length+c) (by rw [hs];omega);simp only [List.getD,this,Option.getD_some];rw [hs,add_comm,Nat.add_mul_mod_self_right,Nat.mod_eq_of_lt hc];exact hT c x hx
  ·cases he
theorem Ol {v:Value} (h1:∀u∈v.cells.toList,u.oneCell'=true) (n:Nat):∀u∈(Builtin.zeroCells v.cells n).toList,u.oneCell'=true:=by
 intro u hu;obtain ⟨q,hq⟩:=List.mem_iff_getElem?.1 hu;have hql:q<n*v.cells.size:=by have:=AU hq;rw [Array.length_toList,size_zeroCells] at this;exact this
 rw [JB _ _ _ hql] at hq;cases hq;have hpos:0<v.cells.size:=by
  rcases Nat.eq_zero_or_pos v.cells.size with h0|h0
  ·rw [h0] at hql;omega
  ·exact h0
 have hlt:=yM q hpos;refine h1 _ ?_;simp only [Array.getD,hlt,dif_pos];simp
theorem Ww {t:TypeId} {x:AV} {K:Heap→Option R} {r:R} (hr:Jl P t h x K=some r) (hh:Ap B κ h w) {vx:Value} (hx:AQ B κ h w x vx) (ty:TypeId) :
  ∃h' w',K h'=some r∧(Builtin.clear_ #[t] ty #[vx]).run P w = .ok (.tuple #[]) w'∧Ap B κ h' w'∧Ext κ h w κ h' w':=by
 unfold Jl at hr
 try simp only [AB] at hr
 split at hr
 ·rename_i e hu;have hnone:∀(a:Option Addr) (c:Nat),(Builtin.clear_ #[t] ty #[.slice a 0 c]).run P w = .ok (.tuple #[]) w:=fun a c=>by cases a<;>simp [Builtin.clear_,run_underlying hu]
  split at hr
  ·rename_i z es;obtain ⟨h0,hK⟩:=AG hr;have hes:es=[]:=zI h0;subst hes;cases hx with
   |t _ _ ht=>
    obtain ⟨_,a,cap,rfl,_,_⟩:=E5.KN ht;exact ⟨h,w,hK,hnone _ _,hh,Ext.refl _ _ _⟩
  ·cases hx with
   |nilsl a0=>exact ⟨h,w,hr,hnone _ _,hh,Ext.refl _ _ _⟩
  ·rename_i ri ver off len;obtain ⟨zs,i,v,hr1,hi,hv,hs,hz0,hsi,h1,hT⟩:=RW hr hh;split at hr1
   ·rename_i ver' size es hri;obtain ⟨⟨rfl,rfl⟩,hK⟩:=AG hr1;cases hx with
    |sref _ _ _ _ _ _ hex hsr=>
     obtain ⟨kk,hkk⟩:=CE hh hri;obtain ⟨_,hle,hm⟩:=hsr kk _ hkk hri rfl;simp only [AI.len] at hle;have ho:=hh.obj ri _ _ hri hkk;have hsame:len=0→h.set ri (.row false ver' zs.length (BP es off (yB len zs)))=h:=fun h0=>by
      subst h0;apply zJ;intro j;by_cases hij:j=ri
      ·rw [hij,As hri,hri];simp [BP]
      ·rw [DM hij]
     rcases hm with ⟨rfl,hof,a0,rfl⟩|⟨b,base,rfl,cap,rfl,hcap,hcs⟩
     ·rw [hsame rfl] at hK;exact ⟨h,w,hK,hnone _ _,hh,Ext.refl _ _ _⟩
     ·obtain ⟨hsz0,cells,el,hcell,hcsz,hls,hct⟩:=ho;simp only [AI.size];cases len with
      |zero=>
       rw [hsame rfl] at hK;exact ⟨h,w,hK,hnone _ _,hh,Ext.refl _ _ _⟩
      |succ n=>
       obtain ⟨f1,f2,f3,f4,f5⟩:=LH (new:=yB (n+1) zs) (p:=off) (vals:=(Builtin.zeroCells v.cells (n+1)).toList) hh hri hkk hcell (by simpa using hle) (by rw [Array.length_toList,size_zeroCells,hs];simp) (RV hs hT (n+1));refine ⟨_,_,hK,?_,f4,f5⟩;have hst:=run_storeCells_at P b (base+off*zs.length) el (Builtin.zeroCells v.cells (n+1)).toList 0 cells w hcell (by simpa using f1) (Ol h1 (n+1));simp only [yH] at hst;simp [Builtin.clear_,run_underlying hu,zeroValue,typeInfo,hi,hv,hst,Au]
   ·cases hr1
  ·cases hr
 ·cases hr
structure Src (P:Program) (w:World) (A:Nat→Prop) (z:Nat) (new:List (List Tree)) (vx:Value):Prop where
 sz:∀(j:Nat) (e:List Tree),new[j]? = some e→e.length=z
 len:(Builtin.lenOf vx).run P w = .ok new.length w
 zero:(Builtin.firstCells z 0 vx).run P w = .ok #[] w
 get:z≠0→new≠[]→∃news:List Value,news.length=new.length*z∧(∀u∈news,u.oneCell'=true)∧(∀(j:Nat) (e:List Tree) (c:Nat) (x:Tree),new[j]? = some e→e[c]? = some x→Bp w A x (news.getD (j*z+c) undef))∧
  ∀m,m≤new.length→(Builtin.firstCells z m vx).run P w = .ok (news.take (m*z)).toArray w
theorem Src.of_sl {A:Nat→Prop} {z:Nat} {new:List (List Tree)} {vx:Value} (hs:E5 w A z new vx):Src P w A z new vx where
 sz:=hs.1
 len:=by obtain ⟨_,a,cap,rfl,_,_⟩:=hs;simp [Builtin.lenOf]
 zero:=by obtain ⟨_,a,cap,rfl,_,_⟩:=hs;cases a<;>simp [Builtin.firstCells,loadCells,loadCellsFrom]
 get hz hn:=by obtain ⟨nb,o,ncap,news,rfl,hnl,hnc,hn1,hnt⟩:=Gv hz hs hn;refine ⟨news,hnl,hn1,hnt,fun m hm => ?_⟩;have hle:=yN z hm;exact run_firstCells_some (P:=P) w z m ⟨nb,o,none⟩ new.length ncap (news.take (m*z)) (by rw [zZ,hnl];omega) (fun j v hj=>hnc j v (QP hj).2)
theorem Src.of_str {A:Nat→Prop} (s:ByteArray):Src P w A 1 (DG s) (.string s) where
 sz j e he:=by
  unfold DG at he;rw [zQ] at he;cases hb:s.data.toList[j]? with
  |none=>rw [hb] at he;cases he
  |some b=>rw [hb] at he;cases he;rfl
 len:=by
  have hl:(DG s).length=s.size:=by unfold DG;rw [length_map,Array.length_toList];rfl
  rw [hl];rfl
 zero:=by simp [Builtin.firstCells]
 get _ _:=by
  refine ⟨s.data.toList.map fun b =>.int .u8 (b.toNat:Int),by simp [DG],fun u hu => ?_,fun j e c x he hx => ?_,fun m hm => ?_⟩
  ·obtain ⟨b,_,rfl⟩:=mem_map.1 hu;rfl
  ·unfold DG at he;rw [zQ] at he;cases hb:s.data.toList[j]? with
   |none=>rw [hb] at he;cases he
   |some b=>
    rw [hb] at he;cases he;have hc:c=0:=by have:=AU hx;simp at this;omega
    subst hc;cases hx;have:((s.data.toList.map fun b=>Value.int .u8 (b.toNat:Int)).getD (j*1+0) undef)= .int .u8 (b.toNat:Int):=by rw [getD_eq_getElem?_getD,zQ,show j*1+0=j by omega,hb];rfl
    rw [this];exact .int _ _
  ·have:((s.extract 0 m).data.map fun b=>Value.int .u8 (b.toNat:Int))=((s.data.toList.map fun b=>Value.int .u8 (b.toNat:Int)).take (m*1)).toArray:=by apply Array.ext';simp
   show Sem.run P (pure _) w=_;rw [this];rfl
theorem XS {z:Nat} {x:AV} {K:List (List Tree)→Option R} {r:R} (hr:Rg h z x K=some r) (hh:Ap B κ h w) {v:Value} (hv:AQ B κ h w x v) :
  ∃es,K es=some r∧Src P w (fun b=>B b∨Ex κ h b) z es v:=by
 unfold Rg at hr;simp only [AB] at hr;split at hr
 ·rename_i s;obtain ⟨rfl,hK⟩:=AG hr;cases hv with|t _ _ hv=>
  cases hv;exact ⟨_,hK,.of_str s⟩
 ·obtain ⟨es,h1,h2⟩:=Kd hr hh hv;exact ⟨es,h1,.of_sl h2⟩
theorem Y7 {t t':TypeId} {d x:AV} {K:AV→Heap→Option R} {r:R} (hr:ON P t h d x K=some r) (hh:Ap B κ h w) {vd vx:Value} (hd:AQ B κ h w d vd) (hx:AQ B κ h w x vx) (ty:TypeId) :
  ∃v h' val w',K v h'=some r∧(Builtin.copy_ #[t,t'] ty #[vd,vx]).run P w = .ok val w'∧AQ B κ h' w' v val∧Ap B κ h' w'∧Ext κ h w κ h' w':=by
 unfold ON at hr
 try simp only [AB] at hr
 obtain ⟨z,hz,hr1⟩:=bind_some hr;clear hr;obtain ⟨e,hu,hze⟩:∃e,P.underlying t=some (.slice e)∧B3 P e=some z:=by
  unfold FH at hz;split at hz
  ·rename_i e hu;exact ⟨e,hu,hz⟩
  ·cases hz
 obtain ⟨new,hr2,hsl⟩:=XS (P:=P) hr1 hh hx;clear hr1;split at hr2
 ·rename_i ri ver off len;split at hr2
  ·rename_i ver' size es hri;obtain ⟨⟨rfl,rfl⟩,hK⟩:=AG hr2;cases hd with
   |sref _ _ _ _ _ _ hex hsr=>
    obtain ⟨kk,hkk⟩:=CE hh hri;obtain ⟨_,hle,hm⟩:=hsr kk _ hkk hri rfl;simp only [AI.len] at hle;have ho:=hh.obj ri _ _ hri hkk;have hsame:new.take len=[]→h.set ri (.row false ver' size (BP es off (new.take len)))=h:=fun h0=>by
     rw [h0];apply zJ;intro j;by_cases hij:j=ri
     ·rw [hij,As hri,hri];simp [BP]
     ·rw [DM hij]
    have hnone:∀(base:Option Addr) (c:Nat),min new.length len=0→(Builtin.copy_ #[t,t'] ty #[.slice base len c,vx]).run P w = .ok (.int .i64 (min new.length len:Nat)) w:=fun base c h0=>by have h0':Nat.min new.length len=0:=h0;cases base<;>simp [Builtin.copy_,run_underlying hu,hsl.len,hsl.zero,BW hze,h0,goInt,storeCells]
    by_cases h0:min new.length len=0
    ·have ht:new.take len=[]:=zI (by rw [zZ];omega);rw [hsame ht] at hK;rcases hm with ⟨rfl,hof,a0,rfl⟩|⟨b,base,rfl,cap,rfl,hcap,hcs⟩
     ·exact ⟨_,_,_,_,hK,hnone _ _ h0,.t _ _ (.int _ _),hh,Ext.refl _ _ _⟩
     ·exact ⟨_,_,_,_,hK,hnone _ _ h0,.t _ _ (.int _ _),hh,Ext.refl _ _ _⟩
    ·rcases hm with ⟨rfl,hof,a0,rfl⟩|⟨b,base,rfl,cap,rfl,hcap,hcs⟩
     ·simp at h0
     ·obtain ⟨hsz0,cells,el,hcell,hcsz,hls,hct⟩:=ho;simp only [AI.size];have hn:new≠[]:=fun e=>h0 (by rw [e];simp);obtain ⟨news,hnl,hn1,hnt,hfc⟩:=hsl.get hsz0 hn;have htl:(new.take len).length=min new.length len:=by rw [zZ];omega
      have hnl2:(news.take (min new.length len*size)).length=(new.take len).length*size:=by rw [zZ,hnl,htl];have:=yN size (Nat.min_le_left new.length len);omega
      have hrow:BT w (fun b=>B b∨Ex κ h b) size (new.take len) fun q=>(news.take (min new.length len*size)).getD q undef:=by
       refine ⟨fun j e he=>hsl.sz j e (QP he).2,fun j e c y he hy => ?_⟩;have hj:=AU he;have hcl:c<size:=by rw [← hsl.sz j e (QP he).2];exact AU hy
       have hq:=yN size (show j+1≤min new.length len by omega);rw [yQ] at hq;have:=hnt j e c y (QP he).2 hy;simp only [List.getD] at this ⊢;rw [zT (by omega)];exact this
      obtain ⟨f1,f2,f3,f4,f5⟩:=LH (new:=new.take len) (p:=off) (vals:=news.take (min new.length len*size)) hh hri hkk hcell (by omega) hnl2 hrow;refine ⟨_,_,.int .i64 (min new.length len:Nat),_,hK,?_,.t _ _ (.int _ _),f4,f5⟩;have hl:=hfc (min new.length len) (Nat.min_le_left _ _);have hst:=run_storeCells_at P b (base+off*size) el (news.take (min new.length len*size)) 0 cells w hcell (by simpa using f1) (fun v hv=>hn1 v (List.mem_of_mem_take hv));simp only [yH] at hst;have hmn:Nat.min new.length len=min new.length len:=rfl;simp [Builtin.copy_,run_underlying hu,hsl.len,BW hze,hmn,hl,hst,goInt,Au]
  ·cases hr2
 ·cases hr2
theorem Y3 {t:TypeId} {n c:AV} {K:AV→Heap→Option R} {r:R} (hr:OJ P t h n c K=some r) (hh:Ap B κ h w) {vn vc:Value} (hn:AQ B κ h w n vn) (hc:AQ B κ h w c vc) :
  ∃v h' κ' val w',K v h'=some r∧(Instr.makeSlice t vn vc).run P w = .ok val w'∧AQ B κ' h' w' v val∧Ap B κ' h' w'∧Ext κ h w κ' h' w':=by
 unfold OJ at hr
 try simp only [AB] at hr
 obtain ⟨z,hz,hr1⟩:=bind_some hr;clear hr;obtain ⟨e,i,zv,hu,hi,hzv,rfl,hz0,hzs,hby⟩:=OG hz;rw [hu] at hr1;simp only at hr1;obtain ⟨a,ha,hr2⟩:=bind_some hr1;obtain ⟨b,hb,hr3⟩:=bind_some hr2;obtain rfl:=Cg ha hn;obtain rfl:=Cg hb hc;obtain ⟨zs,i',v,hr4,hi',hv,hs,hz0',hsi,h1,hT⟩:=RW hr3 hh;rw [hi] at hi';cases hi';rw [hzv] at hv;cases hv;obtain ⟨⟨rfl,ha0,hale,hzl⟩,hK⟩:=AG hr4;obtain ⟨m,rfl⟩:=Int.eq_ofNat_of_zero_le ha0;simp only [zE] at hK;have hbytes:(i.bytes:Int)*(m:Int)≤281474976710656:=by
  have h2:i.bytes*m≤65536*1073741824:=Nat.mul_le_mul hby (by omega);have h3:((i.bytes*m:Nat):Int)≤281474976710656:=by omega
  rwa [Int.natCast_mul] at h3
 have hrun:=run_make (P:=P) w t e i zv hu hi hzv .i64 .i64 m m ha0 (Int.le_refl _) hbytes (by omega);simp only [zE] at hrun;have hmade:madeCells zv.cells (m*i.size)=Builtin.zeroCells zv.cells m:=by simp only [madeCells,Builtin.zeroCells,hzs]
 rw [hmade] at hrun;have h5:∀b',b'<w.heap.size→(w.alloc (.cells (Builtin.zeroCells zv.cells m) e)).heap[b']? = w.heap[b']? :=fun b' hb'=>Ar w _ hb';have x1:Ext κ h w (κ++[some (w.heap.size,0)]) (h++[.row false 0 i.size (yB m zs)]) (w.alloc (.cells (Builtin.zeroCells zv.cells m) e)):=
  CD (w':=w.alloc _) hh rfl rfl rfl (by simp) h5 fun b base e=>by injection e with e;injection e with e;omega
 have hnew:=BY w (.cells (Builtin.zeroCells zv.cells m) e);have hsz:(Builtin.zeroCells zv.cells m).size=m*i.size:=by rw [size_zeroCells,hzs]
 have hh1:=Bs hh h5 x1 (fun b base e=>by injection e with e;injection e with e;subst e;exact ⟨yI _,by simp⟩)
  (Cj hz0 hnew (by simp [hsz]) (by have hrow:=RV hs hT m;rw [hzl] at hrow;have h6:=Df x1 hrow;refine ⟨h6.1,fun j e' c y he hy => ?_⟩;have:=h6.2 j e' c y he hy;dsimp only at this ⊢;rw [← Bh] at this;rw [yR];simpa using this))
 exact ⟨_,_,_,_,_,hK,hrun,Cc (by rw [← hh.len];exact Am κ _) (Am h _) hnew (by rw [hsz];omega) (by simp) (yI _),hh1,x1⟩
end Ab
namespace Go.Proofs
open Go.Shelf Go.RowKit Go.Lib
variable {P:Program} {ρ:Ren}
structure HR (P:Program) (ρ:Ren) (z:Nat):Prop where
 mixed:P.follows .mixedOrders=true
 f22:Bears P (ρ.f 22) (Body2.n22 ρ)
 f29 : ∃ fn, P.funcs[ρ.f 29]? = some fn ∧ (fn.name == "runtime.NumGoroutine") = false ∧ fn.body.isNone = true ∧ Extern.findNext fn = none ∧ Extern.find fn = some (Extern.SlicesOverlaps.overlaps #[ρ.t 24, ρ.t 24] #[ρ.t 4])
 t3:P.underlying (ρ.t 3)=some (TypeDesc.int IntKind.i64)
 a3:∀w,(isAgg (ρ.t 3)).run P w = .ok false w
 z3:∀w,(Go.sizeOf (ρ.t 3)).run P w = .ok 1 w
 v3:∀w,(zeroValue (ρ.t 3)).run P w = .ok (Value.int IntKind.i64 0) w
 t4:P.underlying (ρ.t 4)=some (TypeDesc.bool)
 a4:∀w,(isAgg (ρ.t 4)).run P w = .ok false w
 z4:∀w,(Go.sizeOf (ρ.t 4)).run P w = .ok 1 w
 v4:∀w,(zeroValue (ρ.t 4)).run P w = .ok (Value.bool false) w
 z9:∀w,(Go.sizeOf (ρ.t 9)).run P w = .ok z w
 t24:P.underlying (ρ.t 24)=some (TypeDesc.slice (ρ.t 9))
 a24:∀w,(isAgg (ρ.t 24)).run P w = .ok false w
 z24:∀w,(Go.sizeOf (ρ.t 24)).run P w = .ok 1 w
 v24:∀w,(zeroValue (ρ.t 24)).run P w = .ok (Value.slice none 0 0) w
 i9:∃(i:TypeInfo) (zv:Value),P.info? (ρ.t 9)=some i∧i.zero=some zv∧i.size=z∧zv.cells.size=z∧i.bytes≤65536
 pos:0<z
structure Vu (P:Program) (ρ:Ren) (z:Nat):Prop where
 lay:Lays8.n4 P ρ
 i25:∃(i:TypeInfo) (zv:Value),P.info? (ρ.t 25)=some i∧i.zero=some zv∧i.size=z∧zv.cells.size=z∧i.bytes≤65536
 pos:0<z
theorem Dx (w:World) (dT sT ty elem:TypeId) (z:Nat) (b o dLen dCap:Nat) (a:Addr) (Ah sCap k:Nat) (cs:List Value)
  (hu:P.underlying dT=some (.slice elem)) (hs:∀w,(Go.sizeOf elem).run P w = .ok z w) (hk:k=Nat.min Ah dLen) (hn:cs.length=k*z)
  (hsrc:∀j v,cs[j]? = some v→w.cell? (a.add j)=some v) (hc:∀j,j<cs.length→(w.cell? ⟨b,o+j,none⟩).isSome=true) (hf:∀j,j<cs.length→w.frozen? ⟨b,o+j,none⟩=false) (h1:∀v∈cs,v.oneCell'=true) :
  (Builtin.copy_ #[dT,sT] ty #[.slice (some ⟨b,o,none⟩) dLen dCap,.slice (some a) Ah sCap]).run P w = .ok (goInt k) (w.setCells b o cs):=by
 have hl:=run_loadCells_list (P:=P) w a cs hsrc;have hst:=run_storeCells_cells (P:=P) b o cs 0 w (by simpa using hc) (by simpa using hf) h1;rw [hn] at hl;simp [Builtin.copy_,run_underlying hu,Builtin.lenOf,Builtin.firstCells,hs,← hk,hl,hst]
theorem LD (w:World) (tS tR e:TypeId) (ht:P.underlying tS=some (.slice e)) (size:Nat) (hz:∀w,(Go.sizeOf e).run P w = .ok size w)
  (a b:Addr) (la ca lb cb:Nat) (hne:a.block≠b.block) (tA tB:TypeId) (kA kB:Nat)
  (hsa:w.shape? a.block=some (tA,kA)) (hsb:w.shape? b.block=some (tB,kB)) (hkA:kA≠0)
  (hfb:w.frozen? b=false) (hfe:w.frozen? {block:=b.block,off:=kB}=false) :
  (Extern.SlicesOverlaps.overlaps #[tS,tS] #[tR] #[.slice (some a) la ca,.slice (some b) lb cb]).run P w = .ok (.bool false) w:=by
 have hnb:(a.block != b.block)=true:=by simpa using hne
 have hnb':(a.block==b.block)=false:=by simpa using hne
 change Sem.run P (underlying tS >>= _) w=_;rw [Sem.run_bind,run_underlying ht,Result.andThen_ok];change Sem.run P (Go.sizeOf e >>= _) w=_;rw [Sem.run_bind,hz,Result.andThen_ok];dsimp only;by_cases h0:la=0∨lb=0∨size=0
 ·simp [h0]
 ·cases kA with
  |zero=>exact absurd rfl hkA
  |succ kA=>
   cases hfa:w.frozen? a<;>cases hfa2:w.frozen? {block:=a.block,off:=kA+1}<;>
    simp [h0,hnb,hnb',frozen,noView,viewAt,mayBeOne,stringish,shape,Sem.run,hsa,hsb,hfb,hfe,hfa,hfa2]
end Go.Proofs
namespace Ab
open Go
variable {R:Type}
def Env.put (env:Env) (d:Option Tmp) (v:AV):Env:=
 match d with
 |some d=>fun i=>if i=d then v else env i
 |none=>env
structure Hints where
 loop:Nat→List Tmp
 block:Nat→List Tmp
 cond:Tmp→List Tmp
 reg:Nat→List Tmp
 rowsz:Tmp→Nat
 tree:Tmp→Bool
 imm:Tmp→Bool
 immT:TypeId→Bool
 nilT:TypeId→Bool
 tm:Tmp→AV
def UG (P:Program) (g:FuncId):Prim→Prop
 | .ins z=>∃ρ:Go.Shelf.Ren,ρ.f 22=g∧Go.Proofs.HR P ρ z
 | .grow z=>∃ρ:Go.Shelf.Ren,ρ.f 4=g∧Go.Proofs.Vu P ρ z
structure Cfg where
 P:Program
 heapful:FuncId→Bool
 own:FuncId→Bool
 reuse:FuncId→Bool
 joinc:FuncId→Bool
 prim:FuncId→Option Prim
 primOk:∀g p,prim g=some p→UG P g p
 cur:Tmp→Bool
 curT:TypeId→Bool
 curN:TypeId→Bool
 depth:Nat
 hints:FuncId→Hints
 ext:FuncId→List Tree→Option (List Tree):=fun _ _=>none
 own2:FuncId→Option Nat:=fun _=>none
 fnTy:TypeId→Bool:=fun _=>false
 renT:FuncId→TypeId→Option (Tmp×Tmp):=fun _ _=>none
 ren:TypeId→Option (Tmp×Tmp):=fun _=>none
def Cfg.at (C:Cfg) (g:FuncId):Cfg:={C with cur:=(C.hints g).imm,curT:=(C.hints g).immT,curN:=(C.hints g).nilT,ren:=C.renT g}
inductive Req where
 |fn (g:FuncId) (args:List AV)
 |yield (i:Nat) (args:List AV)
abbrev Rec:=∀R:Type,Req→Heap→(List AV→Heap→Option R)→Option R
abbrev BN:=FuncId→List Tree→Option (List Tree)
def JI (P:Program) (t:TypeId) (leaf:Nat→AV) (off:Nat):Option (AV×Nat):=
 match A9 P t,B3 P t with
 |some true,some n=>some (.agg (BV leaf off n),off+n)
 |some false,_=>some (leaf off,off+1)
 |_,_=>none
def Cn (P:Program) (leaf:Nat→AV):List TypeId→Nat→Option (List AV)
 |[],_=>some []
 |t::ts,off=>match JI P t leaf off with
  |some (v,off')=>(Cn P leaf ts off').map (v::·)
  |none=>none
def DC (P:Program) (g:FuncId) (leaf:Nat→AV):Option AV:=
 match P.funcs[g]? with
 |some fn=>match Cn P leaf fn.resultTypes.toList 0 with
  |some [v]=>some v
  |some vs=>some (.tuple vs)
  |none=>none
 |none=>none
def Dm (P:Program) (g:FuncId) (leaf:Nat→AV):Option (List AV):=
 match P.funcs[g]? with
 |some fn=>Cn P leaf fn.params.toList 0
 |none=>none
def KJ (P:Program) (g:FuncId):List TypeId:=
 match P.funcs[g]? with
 |some fn=>(fn.params.toList.map (B4 P 16)).flatten
 |none=>[]
def A6 (P:Program) (g:FuncId):List TypeId:=
 match P.funcs[g]? with
 |some fn=>(fn.resultTypes.toList.map (B4 P 16)).flatten
 |none=>[]
def XY (P:Program) (t:TypeId):Bool:=
 match P.underlying t with
 |some (.int _)|some .bool|some .string=>true
 |_=>false
def CZ (P:Program) (g:FuncId):Bool:=(A6 P g).all (XY P)
def Tree.scalar:Tree→Bool
 | .int _ _ | .bool _ | .str _=>true
 |_=>false
def Dt (P:Program):List TypeId→List AV→(List AV→Option R)→Option R
 |[],[],K=>K []
 |t::ts,v::vs,K=>
  match A9 P t with
  |some true=>match v with
   | .agg cs=>cnd (B3 P t=some cs.length) (Dt P ts vs fun rs=>K (cs++rs)) none
   |_=>none
  |some false=>cnd (v.leaf=true) (Dt P ts vs fun rs=>K (v::rs)) none
  |none=>none
 |_,_,_=>none
def EM (h:Heap):AV→Heap
 | .sref i _ _ _=>match h[i]? with
  |some (.row _ v s es)=>h.set i (.row true v s es)
  |_=>h
 |_=>h
def AX (h:Heap) (vs:List AV):Heap:=vs.foldl EM h
def below:Nat→Nat→AV→Bool
 |0,_,_=>false
 |d+1,m,v=>match v with
  | .undef | .t _ | .nilsl | .eptr _ _ _=>true
  | .ptr i _ | .rptr i _ _ _ | .sref i _ _ _ | .bsl i _ _ _ | .yld i=>decide (i<m)
  | .func _ f c=>f.all (below d m)&&c.all (below d m)
  | .agg cs | .tuple cs=>cs.all (below d m)
def H9 (m:Nat):AI→Bool
 | .box cs=>cs.all (below 4 m)
 | .loop l=>decide (l.hl≤m)
 |_=>true
def isT:AV→Bool
 | .t _=>true
 |_=>false
def AE:AV→Tree
 | .t x=>x
 |_=>default
def E3:AV→Nat
 | .sref _ v _ _=>v
 | .rptr _ v _ _=>v
 |_=>0
def HS:AV→Nat
 | .sref _ _ o _=>o
 |_=>0
def HT:AV→Nat
 | .sref _ _ _ l=>l
 |_=>0
def XW (x0 x:Tree):Bool:=
 match x0 with
 | .int k _=>FD k x
 | .bool _=>Dz x
 | .str _=>FB x
 | .sl s _=>FI s x
 |_=>true
def Ru (x0 x:Tree):Tree:=
 match x0 with
 | .int k _ =>.int k (intOf x)
 | .bool _ =>.bool (BF x)
 | .str _ =>.str (strOf x)
 | .sl s _ =>.sl s (B8 x)
 |_=>x
def HU:Nat→AV→AV→Bool
 |0,_,_=>false
 |d+1,v,v'=>match v,v' with
  | .ptr i o,.ptr j p=>i==j&&o==p
  | .yld i,.yld j=>i==j
  | .nilsl,.nilsl=>true
  | .func (.func f) a b,.func (.func g) a' b'=>f==g&&sameL d a a'&&sameL d b b'
  |_,_=>false
where
 sameL:Nat→List AV→List AV→Bool
 |_,[],[]=>true
 |d,x::xs,y::ys=>HU d x y&&sameL d xs ys
 |_,_,_=>false
def JS (v0 v:AV):Bool:=
 match v0 with
 | .t x0=>isT v&&XW x0 (AE v)
 | .sref r _ _ _=>match v with
  | .sref r' _ _ _=>r'==r
  |_=>false
 | .rptr r _ k o=>match v with
  | .rptr r' _ k' o'=>r'==r&&(k'==k&&o'==o)
  |_=>false
 | .ptr i o=>HU 4 (.ptr i o) v
 | .yld i=>HU 4 (.yld i) v
 | .func f a b=>HU 4 (.func f a b) v
 |_=>true
def Fi (v0 v:AV):AV:=
 match v0 with
 | .t x0 =>.t (Ru x0 (AE v))
 | .sref r _ _ _ =>.sref r (E3 v) (HS v) (HT v)
 | .rptr r _ k o =>.rptr r (E3 v) k o
 | .ptr i o =>.ptr i o
 | .yld i =>.yld i
 | .func f a b =>.func f a b
 |_=>v
def cellOf (o:AI) (j:Nat):AV:=
 match o with
 | .box cs=>cs.getD j .undef
 |_ =>.undef
def Be:AI→List (List Tree)
 | .row _ _ _ es=>es
 |_=>[]
def D2:List AV→List AV→Bool
 |[],[]=>true
 |c0::cs0,c::cs=>JS c0 c&&D2 cs0 cs
 |_,_=>false
def C8 (o:AI):List AV→Nat→List AV
 |[],_=>[]
 |c0::cs0,j=>Fi c0 (cellOf o j)::C8 o cs0 (j+1)
def Dj:AV→List AV
 | .agg cs=>cs
 |_=>[]
def isAgg:AV→Bool
 | .agg _=>true
 |_=>false
def M7 (v0 v:AV):Bool:=
 match v0 with
 | .agg cs0=>isAgg v&&D2 cs0 (Dj v)
 |v0=>JS v0 v
def H6 (v0 v:AV):AV:=
 match v0 with
 | .agg cs0 =>.agg (C8 (.box (Dj v)) cs0 0)
 |v0=>Fi v0 v
def Vd (tm:Tmp→AV) (env:Env) (i:Tmp):AV:=
 match env i with
 | .undef=>tm i
 |v=>v
def isEptr:AV→Bool
 | .eptr _ _ _=>true
 |_=>false
def GD:AI→Bool
 | .box cs=>cs.any fun v=>match v with
  | .func _ _ c=>c.any isEptr
  |_=>false
 |_=>false
def EG (o0 o:AI):Bool:=
 match o0,o with
 | .box cs0,.box cs=>GD (.box cs0)||D2 cs0 cs
 | .row true _ _ _,_=>true
 | .row false _ s0 _,.row f _ s _ => !f&&(s0==0||s==s0)
 | .loop l0,.loop l=>l.ended==l0.ended&&l.busy==l0.busy&&l.pending.isNone&&l0.pending.isNone
 |_,_=>false
def reshape (o0 o:AI):AI:=
 match o0 with
 | .box cs=>if GD (.box cs) then .box cs else .box (C8 o cs 0)
 | .row false _ s0 _ =>.row false o.ver (if s0=0 then o.size else s0) (Be o)
 |o0=>o0
def Ht:Heap→Heap→Bool
 |[],_=>true
 |o0::h0,o::h=>EG o0 o&&Ht h0 h
 |_::_,[]=>false
def CI:Heap→Nat→Heap→Heap
 |[],_,_=>[]
 |o0::h0,i,hs=>reshape o0 (hs.getD i default)::CI h0 (i+1) hs
def still:AI→Bool
 | .row true _ _ _=>true
 | .loop _=>true
 | .box cs=>GD (.box cs)
 |_=>false
def XU:Heap→Heap→Heap
 |[],_=>[]
 |o0::h0,o::h=>(if still o0 then .box [] else o)::XU h0 h
 |_::_,[]=>[]
noncomputable def Al (x y:AI) (a:Option R):Option R:=@ite _ (x=y) (Classical.propDecidable _) a none
noncomputable def WW:Heap→Heap→Option R→Option R
 |[],_,a=>a
 |o0::h0,o::h,a=>if GD o0 then Al o0 o (WW h0 h a) else WW h0 h a
 |_::_,[],_=>none
noncomputable def EC (h0:Heap) (h:Heap) (K:Heap→Option R):Option R:=
 cnd (((h.take h0.length).all (H9 h0.length))=true∧Ht h0 h=true) (WW h0 h (K (XU h0 h))) none
noncomputable def HV (tm:Tmp→AV) (env0:Env) (h0:Heap) (L:List Tmp) (env:Env) (h:Heap) (K:List AV→Heap→Option R):Option R:=
 cnd ((L.all fun i=>below 4 h0.length (env i)&&M7 (Vd tm env0 i) (env i))=true) (EC h0 h fun hs=>K (L.map env) hs) none
def findIdx (i:Tmp):List Tmp→Nat→Option Nat
 |[],_=>none
 |x::xs,k=>if i=x then some k else findIdx i xs (k+1)
def DI (tm:Tmp→AV) (W L:List Tmp) (env:Env) (s:List AV):Env:=fun i=>
 match findIdx i L 0 with
 |some k=>H6 (Vd tm env i) (s.getD k .undef)
 |none=>if W.contains i then .undef else env i
def F0 (hi:Hints):List Tmp→Env→Heap→(Env→Heap→Option R)→Option R
 |[],env,h,K=>K env h
 |i::L,env,h,K=>match env i with
  | .nilsl=>if hi.tree i then F0 hi L (env.put (some i) (.t (.sl (hi.rowsz i) []))) h K
   else F0 hi L (env.put (some i) (.sref h.length 0 0 0)) (h++[.row false 0 (hi.rowsz i) []]) K
  |_=>F0 hi L env h K
def join {S:Type} (J:S→Option R) (f:(S→Option R)→Option R):Option R:=f J
def GC (ops:Array Oper) (o:Oper) (env:Env) (K1 K0:Env→Option R):Option R:=
 match o.guard with
 |none=>K1 env
 |some (j,want)=>
  match (ops[j]?).bind (·.dst) with
  |some d=>match env d with
   | .t (.bool b)=>
    cnd (b=true) (if want then K1 (env.put (some d) (.t (.bool true))) else K0 (env.put (some d) (.t (.bool true))))
     (if want then K0 (env.put (some d) (.t (.bool false))) else K1 (env.put (some d) (.t (.bool false))))
   | .tuple []=>K0 env
   |_=>none
  |none=>none
def KL (env:Env):Option Operand→Option AV
 |some x=>some (ev env x)
 |none=>none
def Lo (n:Int):List (Int×Nat)→(AV→Option R)→Option R
 |[],K=>K (.tuple [.undef,.t (.bool false)])
 |p::m,K=>cnd (n=p.1) (K (.tuple [.func (.func p.2) [] [],.t (.bool true)])) (Lo n m K)
def mapTy (P:Program) (t:TypeId) (k:IntKind):Bool:=
 match P.underlying t with
 |some (.map key elem)=>(match P.underlying key with
  |some (.int k')=>decide (k'=k)
  |_=>false)&&((P.info? elem).bind (·.zero)).isSome
 |_=>false
def Kn (P:Program) (t:TypeId) (m x:AV) (K:AV→Option R):Option R:=
 match m,x with
 | .t (.mp k l),.t (.int k' n)=>cnd (k'=k∧mapTy P t k=true) (Lo n l K) none
 |_,_=>none
def Dp (s:ByteArray) (i:Nat):Int:=match s[i]? with
 |some b=>(b.toNat:Int)
 |none=>0
def VI:List Tree→Bool
 |[.int .u8 _]=>true
 |_=>false
def KM (es:List (List Tree)):Bool:=es.all VI
def Sr:List Tree→UInt8
 |[.int .u8 n]=>UInt8.ofNat n.toNat
 |_=>0
def bytesOf (es:List (List Tree)):ByteArray:=(es.map Sr).foldl ByteArray.push ByteArray.empty
def Lq (P:Program) (h:Heap) (src dst:TypeId) (x:AV) (K:AV→Option R):Option R:=
 match P.underlying src,P.underlying dst with
 |some (.slice e),some .string=>match P.underlying e with
  |some (.int .u8)=>elems h 1 x fun es=>cnd (KM es=true) (K (.t (.str (bytesOf es)))) none
  |_=>none
 |_,_=>IT P src dst x K
def Ko (P:Program) (t:TypeId) (x ix:AV) (K:AV→Option R):Option R:=
 match P.underlying t,x,ix with
 |some .string,.t (.str s),.t (.int _ i)=>cnd (0≤i∧i<(s.size:Int)) (K (.t (.int .u8 (Dp s i.toNat)))) none
 |some (.array n e),.agg cs,.t (.int _ i)=>cnd (A9 P e=some false∧B3 P e=some 1∧cs.length=n) (cnd (0≤i∧i<n) (KE i n fun j=>K (cs.getD j .undef)) none) none
 |_,_,_=>none
def qop (P:Program) (env:Env) (h:Heap) (op:Op) (K:AV→Option R):Option R:=
 match op with
 | .move x | .assign x=>K (ev env x)
 | .pick c a b=>(asBool (ev env c)).bind fun t=>cnd (t=true) (K (ev env a)) (K (ev env b))
 | .build t parts=>OP P t (parts.toList.map fun p=>(p.1,ev env p.2)) K
 | .buildSlice t len parts=>EA P t h len (parts.toList.map fun p=>(p.1,ev env p.2)) K
 | .load t a=>JO P t h (ev env a) fun v=>QV P t v K
 | .binOp op t x y _=>Y8 P op t (ev env x) (ev env y) K
 | .unOp op _ x=>aun op (ev env x) K
 | .convert src dst x=>Lq P h src dst (ev env x) K
 | .makeFunc fn first captured=>match fn with
  | .yield _=>none
  |fn=>K (.func fn (first.toList.map (ev env)) (captured.toList.map (ev env)))
 | .slice t x lo hi mx=>Ln P t h (ev env x) (KL env lo) (KL env hi) (KL env mx) K
 | .fieldAddr t x f=>Jk P t h (ev env x) f K
 | .indexAddr t x ix=>Lp P t h (ev env x) (ev env ix) K
 | .extract t i=>match ev env t with
  | .tuple vs=>match vs[i]? with
   |some v=>K v
   |none=>none
  |_=>none
 | .nilCheck x=>match ev env x with
  | .ptr i off=>K (.ptr i off)
  | .eptr s c off=>K (.eptr s c off)
  | .func (.func f) a b=>K (.func (.func f) a b)
  | .yld i=>K (.yld i)
  | .rptr i v k off=>K (.rptr i v k off)
  |_=>none
 | .lookup t m x true=>Kn P t (ev env m) (ev env x) K
 | .index t x ix=>Ko P t (ev env x) (ev env ix) K
 | .call {callee :=.builtin .len,args,argTypes}=>match args.toList,argTypes.toList with
  |[x],[t]=>Wq P t h (ev env x) K
  |_,_=>none
 | .call {callee :=.builtin .max,args,.. }=>Km true (args.toList.map (ev env)) K
 | .call {callee :=.builtin .min,args,.. }=>Km false (args.toList.map (ev env)) K
 |_=>none
noncomputable def nilK (v:AV) (K:Bool→Option R):Option R:=
 match v with
 | .t (.sl _ es)=>cnd (es.length≠0) (K false) (both (K true) (K false))
 | .nilsl=>both (K true) (K false)
 |_=>none
noncomputable def hop (P:Program) (tf:TypeId→Bool) (env:Env) (h:Heap) (op:Op) (K:AV→Heap→Option R):Option R:=
 match op with
 | .alloc t=>match zeroCells? P t with
  |some z=>EP P t (HW P tf (B4 P 16 t) z) h K
  |none=>none
 | .box t x=>match (ev env x).cells with
  |some cs=>EP P t (HW P tf (B4 P 16 t) cs) h K
  |none=>none
 | .store t a x=>IN P t h (ev env a) (nilV P tf t (ev env x)) fun h'=>K .undef h'
 | .binOp .eql t x (.const (.slice none 0 0)) _=>match P.underlying t with
  |some (.slice _)=>nilK (ev env x) fun b=>K (.t (.bool b)) h
  |_=>none
 | .call {callee :=.builtin .append,args,argTypes}=>match args.toList,argTypes.toList with
  |[s,x],[t,t']=>cnd (t'=t) (if QS (ev env s) (ev env x) then Em P t h (ev env s) (ev env x) K else ER P t h (ev env s) (ev env x) K) none
  |_,_=>none
 | .call {callee :=.builtin .clear,args,argTypes}=>match args.toList,argTypes.toList with
  |[x],[t]=>Jl P t h (ev env x) fun h'=>K (.tuple []) h'
  |_,_=>none
 | .call {callee :=.builtin .copy,args,argTypes}=>match args.toList,argTypes.toList with
  |[d,x],[t,_]=>ON P t h (ev env d) (ev env x) K
  |_,_=>none
 | .makeSlice t n c=>OJ P t h (ev env n) (ev env c) K
 |_=>none
def A8:Op→Bool
 | .binOp .eql _ _ (.const (.slice none 0 0)) _=>true
 | .alloc _ | .box _ _ | .store _ _ _ | .makeSlice _ _ _=>true
 | .call {callee :=.builtin .append,.. } | .call {callee :=.builtin .clear,.. } | .call {callee :=.builtin .copy,.. }=>true
 |_=>false
def Ik (P:Program) (g:FuncId):List TypeId:=
 match P.funcs[g]? with
 |some fn=>fn.params.toList
 |none=>[]
def trim (m:Nat) (rs:List AV) (h:Heap):Heap:=if rs.all (below 4 m)&&(h.take m).all (H9 m) then h.take m else h
def GA (h:Heap):List AV→Option (Nat×Nat)
 |[]=>none
 | .sref i _ _ _::_=>match h[i]? with
  |some (.row false v _ _)=>some (i,v)
  |_=>none
 |_::vs=>GA h vs
def Qd (i:Nat) (ls:List AV):Bool:=ls.all fun v=>match v with
 | .sref j _ _ _=>j==i
 |_=>true
def QY (reuse:Bool) (h:Heap) (ls:List AV) (z:Nat) (es:List (List Tree)) (K:AV→Heap→Option R):Option R:=
 match (if reuse then GA h ls else none) with
 |some (i,v)=>if Qd i ls then K (.sref i (v+1) 0 es.length) (h.set i (.row false (v+1) z es)) else none
 |none=>K (.sref (AX h ls).length 0 0 es.length) (AX h ls++[.row false 0 z es])
def tyT (P:Program) (t:TypeId):AV:=
 match P.underlying t with
 |some (.int k)=>.t (.int k 0)
 |some .bool =>.t (.bool false)
 |some .string =>.t (.str ByteArray.empty)
 |_ =>.undef
def BH (P:Program):List TypeId→List AV→Bool
 |[],[]=>true
 |t::ts,v::vs=>isT v&&JS (tyT P t) v&&BH P ts vs
 |_,_=>false
def H5 (P:Program) (s:List AV):List TypeId→Nat→List AV
 |[],_=>[]
 |t::ts,k=>Fi (tyT P t) (s.getD k .undef)::H5 P s ts (k+1)
def OWN:Nat:=1000000
def G9:Nat:=2000000
noncomputable def F6 (C:Cfg) (rec:Rec) (pc:BN) (q:Bool) (g:FuncId) (avs:List AV) (h:Heap) (K:AV→Heap→Option R):Option R:=
 if C.own g then
  if q then none else
  Dt C.P (Ik C.P g) avs fun ls=>Dw C.P true (AX h ls) (KJ C.P g) ls fun xs=>match C.own2 g with
   |some j=>cnd (j<64) ((pc (G9+(64*g+j)) xs).bind fun ys=>KA C.P (A6 C.P g) ys fun ys=>match ys[j]? with
     |some (.sl z es)=>(match DC C.P g (fun i=>if i=j then .sref (AX h ls).length 0 0 es.length else .t (ys.getD i default)) with
      |some v=>K v (AX h ls++[.row false 0 z es])
      |none=>none)
     |_=>none) none
   |none=>(pc (OWN+g) xs).bind fun ys=>
    match A6 C.P g with
    |[t]=>(FH C.P t).bind fun z=>cnd (g<OWN) (cnd (ys.length=1∧FI z (ys.getD 0 default)=true) (QY (C.reuse g) h ls z (B8 (ys.getD 0 default)) K) none) none
    |_=>none
 else if C.heapful g then
  if q then none else match C.prim g with
  |some p=>aprim p h avs K
  |none=>if C.joinc g then
    join (fun (p:List AV×Heap)=>match DC C.P g (fun i=>(H5 C.P p.1 (A6 C.P g) 0).getD i .undef) with
      |some v=>K v (CI h 0 p.2)
      |none=>none)
     fun J=>rec R (.fn g avs) h fun rs h1=>cnd (BH C.P (A6 C.P g) rs=true) (EC h h1 fun hs=>J (rs,hs)) none
   else rec R (.fn g avs) h fun rs h1=>match DC C.P g (fun i=>rs.getD i .undef) with
    |some v=>K v (trim h.length rs h1)
    |none=>none
 else
  Dt C.P (Ik C.P g) avs fun ls=>
   let h1:=if q||CZ C.P g then h else AX h ls
   Dw C.P (!CZ C.P g) h1 (KJ C.P g) ls fun xs=>cnd (g<OWN) ((pc g xs).bind fun ys=>KA C.P (A6 C.P g) ys fun ys=>
    match DC C.P g (fun i =>.t (ys.getD i default)) with
    |some v=>K v h1
    |none=>none) none
def enters (P:Program) (g:FuncId):Bool:=
 match P.funcs[g]? with
 | some fn => fn.body.isSome && !(fn.name == "runtime.NumGoroutine")
 |none=>false
noncomputable def OB (C:Cfg) (rec:Rec) (pc:BN) (q:Bool) (f:AV) (args:List AV) (h:Heap) (K:AV→Heap→Option R):Option R:=
 match f with
 | .func (.func g) first captured=>cnd (enters C.P g=true) (F6 C rec pc q g (first++args++captured) h K) none
 | .t (.const (.func (.func g) ⟨[]⟩ ⟨[]⟩))=>cnd (enters C.P g=true) (F6 C rec pc q g args h K) none
 | .yld i=>if q then none else rec R (.yield i args) h fun rs h1=>K (rs.getD 0 .undef) (trim h.length [rs.getD 0 .undef] h1)
 |_=>none
def FT:Operand→Nat
 | .tmp t=>t
 |_=>0
inductive Imm where
 |box (t:TypeId) (x:Operand)
 |alloc (t:TypeId)
 |store (t:TypeId) (a x:Operand)
 |ren (t:TypeId) (d:Tmp×Tmp)
 |no
def C3 (C:Cfg):Op→Imm
 | .box t x=>if C.cur (FT x) then .box t x else .no
 | .alloc t=>match C.ren t with
  |some d =>.ren t d
  |none=>if C.curT t then .alloc t else .no
 | .store t a x=>if C.curT t then .store t a x else .no
 |_ =>.no
def Ll (P:Program) (t:TypeId) (v:AV) (h:Heap) (K:AV→Option R):Option R:=
 match v.cells,B3 P t with
 |some cs,some n=>cnd (cs.length=n) (Dw P true h (B4 P 16 t) cs fun xs=>K (.eptr n xs 0)) none
 |_,_=>none
def Gd (P:Program) (t:TypeId) (h:Heap) (K:AV→Heap→Option R):Option R:=
 match zeroCells? P t,B3 P t with
 |some z,some n=>cnd (n≠0∧z.length=n) (Dw P true h (B4 P 16 t) z fun xs=>K (.rptr h.length 0 0 0) (h++[.row false 0 n [xs]])) none
 |_,_=>none
def OK (P:Program) (tf:TypeId→Bool) (t:TypeId) (v u:AV) (h:Heap) (K:AV→Heap→Option R):Option R:=
 match zeroCells? P t,B3 P t with
 |some z,some n=>cnd (n≠0∧z.length=n) (Dw P true h (B4 P 16 t) z fun xs=>match v with
  | .rptr i _ _ _=>(match u with
   | .agg _=>(match h[i]? with
    |some (.row false ver _ _)=>K (.rptr i (ver+1) 0 0) (h.set i (.row false (ver+1) n [xs]))
    |_=>none)
   |_=>EP P t (HW P tf (B4 P 16 t) z) h K)
  |_=>K (.rptr h.length 0 0 0) (h++[.row false 0 n [xs]])) none
 |_,_=>none
def Mg:AV→AV
 | .rptr i _ _ _ =>.sref i 0 0 0
 |_ =>.undef
noncomputable def Ad (C:Cfg) (rec:Rec) (pc:BN) (q:Bool) (env:Env) (h:Heap) (op:Op) (K:AV→Heap→Option R):Option R:=
 if A8 op then (if q then none else match C3 C op with
  | .box t x=>Ll C.P t (ev env x) h fun v=>K v h
  | .alloc t=>Gd C.P t h K
  | .ren t d=>OK C.P C.curN t (env d.1) (env d.2) h K
  | .store t a x=>IN C.P t h (ev env a) (ev env x) fun h'=>K .undef (EM h' (Mg (ev env a)))
  | .no=>hop C.P C.curN env h op K)
 else match op with
  | .call {callee :=.value f,args,.. }=>OB C rec pc q (ev env f) (args.toList.map (ev env)) h K
  | .buildSlice t len parts=>if C.fnTy t then (if q then none else El C.P t h len (parts.toList.map fun p=>(p.1,ev env p.2)) K) else qop C.P env h (.buildSlice t len parts) fun v=>K v h
  |op=>qop C.P env h op fun v=>K v h
def Ke (N:Nat) (o:Oper):Bool:=
 match o.dst with
 |some d=>decide (d<N)
 |none=>true
noncomputable def EO (C:Cfg) (rec:Rec) (pc:BN) (N:Nat) (q:Bool) (ops:Array Oper):List Oper→Env→Heap→(Env→Heap→Option R)→Option R
 |[],env,h,K=>K env h
 |o::rest,env,h,K=>cnd (Ke N o=true) (GC ops o env (fun env=>Ad C rec pc q env h o.op fun v h'=>EO C rec pc N q ops rest (env.put o.dst v) h' K)
    (fun env=>EO C rec pc N q ops rest (env.put o.dst (.tuple [])) h K)) none
def Gy (acc:List Nat) (o:Oper):Nat:=o.after.toList.foldl (fun s e=>if Region.binds .any e then s ||| (2 ^ e.on ||| acc.getD e.on 0) else s) 0
def Ed:List Oper→List Nat→List Nat
 |[],acc=>acc
 |o::os,acc=>Ed os (acc++[Gy acc o])
def AO (ops:Array Oper):List Nat:=Ed ops.toList []
def D3 (b:List Nat) (size n:Nat):Bool:=(List.range size).all fun j=>decide (j<n)||(b.getD j 0==2 ^ j-1)
def Pp (b:List Nat) (size:Nat):Nat:=
 match ((List.range (size+1)).find? fun n=>D3 b size n) with
 |some n=>n
 |none=>size
def G4 (ops:Array Oper):Bool:=(List.range ops.size).all fun j=>match ops[j]? with
 |some o=>o.after.toList.all fun e => !Region.binds .any e||decide (e.on<j)
 |none=>true
def Ae (C:Cfg):Op→Bool
 | .alloc t=>(C.ren t).isNone
 | .box _ _ | .store _ _ _ | .makeSlice _ _ _=>true
 | .call {callee :=.builtin .append,.. } | .call {callee :=.builtin .clear,.. } | .call {callee :=.builtin .copy,.. }=>true
 | .call {callee :=.value (.func g),.. }=>C.own g
 | .buildSlice t _ _=>C.fnTy t
 |_=>false
def Cl (C:Cfg):Op→Bool
 | .call {callee :=.value (.func g),.. }=>C.heapful g && !C.own g
 |_=>false
def HX:Nat→AV→Bool
 |0,_=>false
 |d+1,v=>match v with
  | .undef | .t _ | .nilsl | .eptr _ _ _=>true
  | .func _ f c=>f.all (HX d)&&c.all (HX d)
  | .agg cs | .tuple cs=>cs.all (HX d)
  |_=>false
def Bm:AV→Option Nat
 | .ptr i _ | .rptr i _ _ _ | .sref i _ _ _ | .bsl i _ _ _=>some i
 |_=>none
def G8:Op→Bool
 | .move _ | .assign _ | .pick _ _ _ | .build _ _ | .binOp _ _ _ _ _ | .unOp _ _ _ | .makeFunc _ _ _ | .extract _ _ | .nilCheck _=>true
 | .call {callee :=.builtin .max,.. } | .call {callee :=.builtin .min,.. }=>true
 |_=>false
def QX (S:List Nat) (v:AV):Bool:=HX 4 v||(match Bm v with
 |some i=>decide (i<1024)&&S.contains i
 |none=>false)
def JH (i off n:Nat):Nat:=i+1024*(1+(off+4096*n))
def ob (c:Nat):Nat:=if c<1024 then c else c % 1024
def O3 (off n:Nat):AI→AI
 | .box cs =>.box (.yld cs.length::(List.range n).map fun j=>cs.getD (off+j) .undef)
 |o=>o
def At (h:Heap) (c:Nat):Option AI:=if c<1024 then h[c]? else (h[c % 1024]?).map (O3 ((c / 1024-1) % 4096) ((c / 1024-1) / 4096))
def ldN (P:Program) (t:TypeId):Option Nat:=
 match A9 P t with
 |some true=>B3 P t
 |some false=>some 1
 |none=>none
def partAt (P:Program) (S:List Nat) (env:Env):Op→Bool
 | .load t a=>match ev env a,ldN P t with
  | .ptr i off,some n=>decide (i<1024∧off<4096)&&S.contains (JH i off n)
  |_,_=>false
 | .fieldAddr _ x _=>match ev env x with
  | .ptr _ _=>true
  |_=>false
 |_=>false
def G0 (P:Program) (S:List Nat) (env:Env) (op:Op):Bool:=G8 op||(partAt P S env op||op.operands.toList.all fun x=>QX S (ev env x))
def Fe (env:Env):Op→List Nat
 | .store _ a _=>(Bm (ev env a)).toList
 | .call {callee :=.builtin _,args,.. }=>match args.toList with
  |s::_=>(Bm (ev env s)).toList
  |[]=>[]
 | .call {callee :=.value _,args,.. }=>(args.toList.map fun x=>match (ev env x).cells with
  |some cs=>cs.filterMap Bm
  |none=>[]).flatten
 |_=>[]
def Q5 (S T:List Nat):Bool:=S.all fun c => !T.contains (ob c)
def Bd (S:List Nat) (h:Heap):Bool:=S.all fun c=>decide (ob c<h.length)
def BQ (C:Cfg) (ops:Array Oper) (i:Nat):Bool:=
 match ops[i]? with
 |some o=>Ae C o.op||Cl C o.op
 |none=>false
def ED (b:List Nat) (i j:Nat):Bool:=if i<j then !((b.getD j 0).testBit i) else !((b.getD i 0).testBit j)
def An (C:Cfg) (ops:Array Oper) (b:List Nat) (n i:Nat):Bool:=(List.range n).any fun j=>BQ C ops j&&(j != i)&&ED b i j
def drawOk2 (C:Cfg) (ops:Array Oper) (b:List Nat) (n:Nat):Bool:=
 (List.range n).all fun j=>(List.range j).all fun i=>(b.getD j 0).testBit i||(!(BQ C ops i&&BQ C ops j)&&(match ops[i]?,ops[j]? with
  |some x,some y=>x.apart ops y
  |_,_=>false))
noncomputable def Bw (C:Cfg) (rec:Rec) (pc:BN) (N:Nat) (ops:Array Oper) (S:List Nat) (nf:Nat→Bool):List Nat→Env→Heap→(Env→Heap→Option R)→Option R
 |[],env,h,K=>K env h
 |i::l,env,h,K=>match ops[i]? with
  |some o=>cnd (Ke N o=true∧(nf i=true→G0 C.P S env o.op=true)∧Bd S h=true∧(Ae C o.op=true→Q5 S (Fe env o.op)=true)) (GC ops o env (fun env=>Ad C rec pc (!Ae C o.op) env h o.op fun v h'=>Bw C rec pc N ops S nf l (env.put o.dst v) h' K)
    (fun env=>Bw C rec pc N ops S nf l (env.put o.dst (.tuple [])) h K)) none
  |none=>none
def Yw (ops:List Oper) (env:Env) (h:Heap):Nat→Operand→List Nat
 |0,_=>[]
 |d+1,.tmp t=>match ops.find? (fun o=>o.dst==some t) with
  |some o=>match o.op with
   | .move x | .assign x | .nilCheck x | .fieldAddr _ x _ | .indexAddr _ x _ | .slice _ x _ _ _=>Yw ops env h d x
   | .load _ a=>((Yw ops env h d a).map fun i=>match h[i]? with
    |some (.box cs)=>cs.filterMap Bm
    |_=>[]).flatten
   |_=>[]
  |none=>(Bm (env t)).toList
 |_,_=>[]
def Q3 (P:Program) (ops:List Oper) (env:Env):Nat→Operand→AV
 |d+1,.tmp t=>match ops.find? (fun o=>o.dst==some t) with
  |some o=>match o.op with
   | .move x | .assign x | .nilCheck x=>Q3 P ops env d x
   | .fieldAddr ty x f=>match Q3 P ops env d x,IH P ty f with
    | .ptr i off,some k =>.ptr i (off+k)
    |_,_ =>.undef
   |_ =>.undef
  |none=>env t
 |_,_ =>.undef
def looksOf (P:Program) (ops:List Oper) (env:Env) (h:Heap) (op:Op):List Nat:=
 let all:=(op.operands.toList.map (Yw ops env h 8)).flatten
 match op with
 | .load t a=>match Q3 P ops env 8 a,ldN P t with
  | .ptr i off,some n=>if i<1024∧off<4096 then [JH i off n] else all
  |_,_=>all
 | .fieldAddr _ x _=>match Q3 P ops env 8 x with
  | .ptr _ _=>[]
  |_=>all
 |_=>all
def looks (P:Program) (ops:Array Oper) (nf:Nat→Bool) (n:Nat) (env:Env) (h:Heap):List Nat:=
 (((List.range n).map fun i=>match ops[i]? with
  |some o=>if nf i && !G8 o.op then looksOf P ops.toList env h o.op else []
  |none=>[]).flatten.eraseDups).filter fun c=>decide (ob c<h.length)
def Fg:List AV→List AV→Bool
 |[],[]=>true
 | .ptr i o::xs,.ptr j p::ys=>i==j&&o==p&&Fg xs ys
 | .yld i::xs,.yld j::ys=>i==j&&Fg xs ys
 |_,_=>false
def sameAt (h h':Heap) (i:Nat):Bool:=
 match At h i,At h' i with
 |some (.box xs),some (.box ys)=>Fg xs ys
 |_,_=>false
def Yd (ops:Array Oper):Bool:=ops.toList.any (·.guard.isSome)
def dsts (ops:Array Oper):List Tmp:=ops.toList.filterMap (·.dst)
def writes:Code→List Tmp
 | .region _ ops _=>dsts ops
 | .seq a b=>writes a++writes b
 | .cond _ a b=>writes a++writes b
 | .block _ a=>writes a
 | .loop a=>writes a
 | .scope a=>writes a
 |_=>[]
def MM:Code→Bool
 | .ret | .exit _ | .goto _ | .loop _ | .refuse _=>false
 | .seq a b=>MM a&&MM b
 | .cond _ a b=>MM a||MM b
 |_=>true
def Kb (id:Nat):Code→Nat
 | .exit i=>if i=id then 1 else 0
 | .seq a b=>Kb id a+Kb id b
 | .cond _ a b=>Kb id a+Kb id b
 | .block _ a=>Kb id a
 | .loop a=>Kb id a
 | .scope a=>Kb id a
 | .rangeFunc _ _ _ a=>Kb id a
 |_=>0
def Cx:Code→Nat
 | .region id _ _=>id
 | .seq a _=>Cx a
 | .cond _ a _=>Cx a
 | .block _ a=>Cx a
 | .loop a=>Cx a
 | .scope a=>Cx a
 |_=>0
noncomputable def SN (C:Cfg) (rec:Rec) (pc:BN) (N:Nat) (S:List Nat) (o:Oper) (env:Env) (h:Heap) (K:Env→Heap→Option R):Option R:=
 cnd (Ke N o=true∧o.guard=none) (Ad C rec pc false env h o.op fun v h'=>cnd (S.all (sameAt h h')=true) (K (env.put o.dst v) h') none) none
def Yz (C:Cfg) (ops:Array Oper) (b:List Nat) (n:Nat):List (Nat×Nat):=
 ((List.range n).map fun j=>((List.range j).filter fun i => !(b.getD j 0).testBit i&&(BQ C ops i&&BQ C ops j)).map fun i=>(i,j)).flatten
def drawOkP (C:Cfg) (ops:Array Oper) (b:List Nat) (n i0 j0:Nat):Bool:=
 (List.range n).all fun j=>(List.range j).all fun i=>(b.getD j 0).testBit i||(i==i0&&j==j0)||(!(BQ C ops i&&BQ C ops j)&&(match ops[i]?,ops[j]? with
  |some x,some y=>x.apart ops y
  |_,_=>false))
def JW (b:List Nat) (n i0 j0:Nat):List Nat:=
 ((List.range n).filter fun k=>decide (k≤j0) && !(k==i0||(b.getD k 0).testBit i0))++(((List.range n).filter fun k=>decide (k≤j0)&&(k==i0||(b.getD k 0).testBit i0))++(List.range n).filter fun k=>decide (j0<k))
def U9 (b:List Nat):List Nat→Bool
 |[]=>true
 |x::l=>l.all (fun y => !(b.getD x 0).testBit y)&&U9 b l
def Tc (C:Cfg) (ops:Array Oper) (b:List Nat) (n i0 j0:Nat):Bool:=
 drawOkP C ops b n i0 j0&&((JW b n i0 j0).isPerm (List.range n)&&(U9 b (JW b n i0 j0)&&decide ((JW b n i0 j0).idxOf j0<(JW b n i0 j0).idxOf i0)))
def KU:Op→Bool
 | .call {callee :=.value _,.. }=>true
 |_=>false
def Yv (ops:List Oper) (env:Env):Nat→Operand→AV
 |d+1,.tmp t=>match ops.find? (fun o=>o.dst==some t) with
  |some o=>(match o.op with
   | .move x | .assign x=>Yv ops env d x
   |_ =>.undef)
  |none=>env t
 |_,x=>ev env x
def So (C:Cfg) (ops:Array Oper) (env:Env) (o:Oper):Bool:=
 match o.op with
 | .call {callee :=.value (.tmp t),.. }=>(match Yv ops.toList env 4 (.tmp t) with
  | .func (.func g) _ _=>C.heapful g && !C.own g
  |_=>false)
 |_=>false
def VE (C:Cfg) (ops:Array Oper) (lo hi:Nat) (env:Env):Option Nat:=
 (List.range hi).find? fun i=>decide (lo≤i)&&match ops[i]? with
  |some o=>So C ops env o||Cl C o.op
  |none=>false
def midAny (C:Cfg) (ops:Array Oper) (n:Nat) (env:Env):Bool:=
 (List.range n).any fun i=>match ops[i]? with
  |some o=>So C ops env o||(Cl C o.op&&decide (i+1≠n))
  |none=>false
def cutAt (b:List Nat) (size k:Nat):Bool:=(List.range size).all fun j=>decide (j<k)||(List.range k).all fun i=>(b.getD j 0).testBit i
def Va (b:List Nat) (size n:Nat):List Nat:=(List.range (n+1)).filter fun k=>decide (0<k)&&cutAt b size k
def Lf (b:List Nat) (size n:Nat):List Nat→Nat→Bool
 |[],lo=>lo==n
 |k::ks,lo=>decide (lo<k∧k≤n)&&(cutAt b size k&&Lf b size n ks k)
def Cw (C:Cfg) (ops:Array Oper) (m0:Option Nat) (i:Nat):Bool:=BQ C ops i||m0==some i
def nf3 (C:Cfg) (ops:Array Oper) (b:List Nat) (lo hi:Nat) (m0:Option Nat) (i:Nat):Bool:=(List.range hi).any fun j=>decide (lo≤j)&&(Cw C ops m0 j&&(j != i)&&ED b i j)
def L9 (C:Cfg) (ops:Array Oper) (b:List Nat) (lo hi:Nat) (m0:Option Nat):Bool:=
 ((List.range hi).all fun j=>decide (j<lo)||(List.range j).all fun i=>decide (i<lo)||((b.getD j 0).testBit i||(!(Cw C ops m0 i&&Cw C ops m0 j)&&(match ops[i]?,ops[j]? with
  |some x,some y=>x.apart ops y
  |_,_=>false))))&&(match m0 with
  |some m=>decide (lo≤m∧m<hi)&&(List.range hi).all fun j=>decide (j<lo) || !(b.getD j 0).testBit m
  |none=>true)
noncomputable def PF (h h':Heap) (i:Nat) (a:Option R):Option R:=
 match At h i,At h' i with
 |some x,some y=>Al x y a
 |_,_=>none
noncomputable def Er (h h':Heap):List Nat→Option R→Option R
 |[],a=>a
 |i::S,a=>PF h h' i (Er h h' S a)
noncomputable def Ni (C:Cfg) (rec:Rec) (pc:BN) (N:Nat) (ops:Array Oper) (S:List Nat) (o:Oper) (env:Env) (h:Heap) (K:Env→Heap→Option R):Option R:=
 cnd (Ke N o=true) (GC ops o env (fun env=>Ad C rec pc false env h o.op fun v h'=>Er h h' S (K (env.put o.dst v) h'))
  (fun env=>cnd (Bd S h=true) (K (env.put o.dst (.tuple [])) h) none)) none
def Jg (b:List Nat) (lo m:Nat) (u:Option Nat) (i:Nat):Bool:=
 decide (lo≤i)&&(i != m&&(!((b.getD i 0).testBit m)&&(match u with
  |some u=>i != u && !((b.getD i 0).testBit u)
  |none=>true)))
def F1 (b:List Nat) (lo m:Nat) (u:Option Nat) (i:Nat):Bool:=decide (lo≤i)&&(i != m && !Jg b lo m u i)
def LV (m:Nat) (u:Option Nat) (i j:Nat):Bool:=
 match u with
 |some u=>(i==m&&j==u)||(i==u&&j==m)
 |none=>false
def Tz (b:List Nat) (lo hi m:Nat) (v:Option Nat):Bool:=
 (List.range hi).all fun y => !Jg b lo m v y||(List.range hi).all fun x=>decide (x<lo)||(Jg b lo m v x || !((b.getD y 0).testBit x))
def Td (C:Cfg) (ops:Array Oper) (b:List Nat) (lo hi m:Nat) (u:Option Nat):Bool:=
 ((List.range hi).all fun j=>decide (j<lo)||(List.range j).all fun i=>decide (i<lo)||((b.getD j 0).testBit i||(LV m u i j||(!(Cw C ops (some m) i&&Cw C ops (some m) j)&&(match ops[i]?,ops[j]? with
  |some x,some y=>x.apart ops y
  |_,_=>false))))) &&
 (decide (lo≤m∧m<hi)&&(((List.range hi).all fun i=>(decide (m<i) || !((b.getD i 0).testBit m))&&(match u with
  |some u=>decide (u<i) || !((b.getD i 0).testBit u)
  |none=>true))&&(Tz b lo hi m none&&(match u with
  |some u=>u != m&&Tz b lo hi m (some u)
  |none=>true))))
def ordU (C:Cfg) (ops:Array Oper) (b:List Nat) (lo hi m:Nat):Option Nat:=
 (List.range hi).find? fun i=>decide (lo≤i)&&(i != m&&(BQ C ops i&&ED b i m))
noncomputable def Te (C:Cfg) (rec:Rec) (pc:BN) (N:Nat) (ops:Array Oper) (b:List Nat) (lo hi m:Nat) (u:Option Nat) (S:List Nat) (nf:Nat→Bool) (o:Oper) (env:Env) (h:Heap) (K:Env→Heap→Option R):Option R:=
 Bw C rec pc N ops S nf ((List.range hi).filter (Jg b lo m u)) env h fun env1 h1=>Ni C rec pc N ops S o env1 h1 fun env2 h2=>Bw C rec pc N ops S nf ((List.range hi).filter (F1 b lo m u)) env2 h2 K
def nfS (C:Cfg) (ops:Array Oper) (b:List Nat) (lo hi m0 i:Nat):Bool:=i != m0&&nf3 C ops b lo hi (some m0) i
noncomputable def segK (C:Cfg) (rec:Rec) (pc:BN) (N:Nat) (ops:Array Oper) (b:List Nat) (lo hi:Nat) (env:Env) (h:Heap) (K:Env→Heap→Option R):Option R:=
 match VE C ops lo hi env with
 |some m0=>(match ops[m0]? with
  |some o=>if L9 C ops b lo hi (some m0)=false then cnd (Td C ops b lo hi m0 (ordU C ops b lo hi m0)=true∧KU o.op=true)
    (match ordU C ops b lo hi m0 with
    |none=>Te C rec pc N ops b lo hi m0 none (looks C.P ops (nfS C ops b lo hi m0) hi env h) (nf3 C ops b lo hi (some m0)) o env h K
    |some u=>both (Te C rec pc N ops b lo hi m0 none (looks C.P ops (nfS C ops b lo hi m0) hi env h) (nf3 C ops b lo hi (some m0)) o env h K)
     (Te C rec pc N ops b lo hi m0 (some u) (looks C.P ops (nfS C ops b lo hi m0) hi env h) (nf3 C ops b lo hi (some m0)) o env h K)) none
   else cnd (L9 C ops b lo hi (some m0)=true∧KU o.op=true)
   (Bw C rec pc N ops (looks C.P ops (nfS C ops b lo hi m0) hi env h) (nf3 C ops b lo hi (some m0)) ((List.range hi).filter fun i=>decide (lo≤i)&&i != m0) env h fun env' h'=>Ni C rec pc N ops (looks C.P ops (nfS C ops b lo hi m0) hi env h) o env' h' K) none
  |none=>none)
 |none=>cnd (L9 C ops b lo hi none=true) (Bw C rec pc N ops (looks C.P ops (nf3 C ops b lo hi none) hi env h) (nf3 C ops b lo hi none) ((List.range hi).filter fun i=>decide (lo≤i)) env h K) none
noncomputable def PE (C:Cfg) (rec:Rec) (pc:BN) (N:Nat) (ops:Array Oper) (b:List Nat):List Nat→Nat→Env→Heap→(Env→Heap→Option R)→Option R
 |[],_,env,h,K=>K env h
 |k::ks,lo,env,h,K=>segK C rec pc N ops b lo k env h fun env' h'=>PE C rec pc N ops b ks k env' h' K
def ptrBox (h:Heap) (i:Nat):Bool:=
 match At h i with
 |some (.box cs)=>cs.all fun v=>match v with
  | .ptr _ _=>true
  | .yld _=>true
  |_=>false
 |_=>false
def lastBad (C:Cfg) (ops:Array Oper) (nf:Nat→Bool) (n:Nat) (env:Env) (h:Heap):Bool:=
 (match n with
 |m+1=>(match ops[m]? with
  |some o=>Cl C o.op
  |none=>false)
 |0=>false) && !((looks C.P ops nf n env h).all (ptrBox h))
noncomputable def Mi (C:Cfg) (rec:Rec) (pc:BN) (N:Nat) (ops:Array Oper) (draw:Bool) (env:Env) (h:Heap) (K:Env→Heap→Option R):Option R:=
 if draw then
  let b:=AO ops;let n:=Pp b ops.size;let nf:=An C ops b n
  match (if (VE C ops 0 n env).isSome then [] else Yz C ops b n) with
  |[(i0,j0)]=>cnd (Tc C ops b n i0 j0=true∧D3 b ops.size n=true∧G4 ops=true∧n≤ops.size)
    (both (Bw C rec pc N ops (looks C.P ops nf n env h) nf (List.range n) env h fun env' h'=>EO C rec pc N false ops (ops.toList.drop n) env' h' K)
     (Bw C rec pc N ops (looks C.P ops nf n env h) nf (JW b n i0 j0) env h fun env' h'=>EO C rec pc N false ops (ops.toList.drop n) env' h' K)) none
  |_=>match midAny C ops n env||lastBad C ops nf n env h with
   |true=>cnd (Lf b ops.size n (Va b ops.size n) 0=true∧D3 b ops.size n=true∧G4 ops=true∧n≤ops.size)
     (PE C rec pc N ops b (Va b ops.size n) 0 env h fun env' h'=>EO C rec pc N false ops (ops.toList.drop n) env' h' K) none
   |false=>cnd (drawOk2 C ops b n=true∧D3 b ops.size n=true∧G4 ops=true∧n≤ops.size) (match (match n with
    |m+1=>match ops[m]? with
     |some o=>if Cl C o.op then some (m,o) else none
     |none=>none
    |0=>none) with
   |some (m,o)=>Bw C rec pc N ops (looks C.P ops nf n env h) nf (List.range m) env h fun env' h'=>SN C rec pc N (looks C.P ops nf n env h) o env' h' fun env' h'=>EO C rec pc N false ops (ops.toList.drop n) env' h' K
   |none=>Bw C rec pc N ops (looks C.P ops nf n env h) nf (List.range n) env h fun env' h'=>EO C rec pc N false ops (ops.toList.drop n) env' h' K) none
 else EO C rec pc N false ops ops.toList env h K
def AH {S:Type} (body:S→(S→Option R)→Option R):Nat→S→Option R
 |0,_=>none
 |n+1,s=>body s (AH body n)
def Tv:Code→Option Exit
 | .ret=>some .ret
 | .exit id=>some (.exit id)
 |_=>none
def Tm (h:Heap) (i:Nat):Option (Option Code):=
 match h[i]? with
 |some (.loop l)=>if l.busy||l.ended then none else some l.pending
 |_=>none
noncomputable def Db (C:Cfg) (hi:Hints) (fn:FuncId) (N:Nat) (rec:Rec) (pc:BN) (fuel:Nat):Code→Env→Heap→(Exit→Env→Heap→Option R)→Option R
 | .skip,env,h,K=>K .normal env h
 | .label _,env,h,K=>K .normal env h
 | .ret,env,h,K=>K .ret env h
 | .exit id,env,h,K=>K (.exit id) env h
 | .region id ops draw,env,h,K=>
  if Yd ops then
   join (fun (p:List AV×Heap)=>K .normal (DI hi.tm (dsts ops) (hi.reg id) env p.1) (CI h 0 p.2))
    fun J=>Mi C rec pc N ops draw env h fun env' h'=>HV hi.tm env h (hi.reg id) env' h' fun s hs=>J (s,hs)
  else Mi C rec pc N ops draw env h fun env' h'=>K .normal env' h'
 | .seq a b,env,h,K=>Db C hi fn N rec pc fuel a env h fun e env' h'=>match e with
  | .normal=>Db C hi fn N rec pc fuel b env' h' K
  |e=>K e env' h'
 | .cond c a b,env,h,K=>(asBool (ev env c)).bind fun t=>
  if MM a&&MM b then
   F0 hi ((hi.cond (FT c)).filter fun i=>(writes a++writes b).contains i) env h fun env h=>
   join (fun (p:List AV×Heap)=>K .normal (DI hi.tm (writes a++writes b) (hi.cond (FT c)) env p.1) (CI h 0 p.2))
    fun J=>cnd (t=true) (Db C hi fn N rec pc fuel a env h (fun e env' h'=>match e with
      | .normal=>HV hi.tm env h (hi.cond (FT c)) env' h' fun s hs=>J (s,hs)
      |e=>K e env' h'))
     (Db C hi fn N rec pc fuel b env h (fun e env' h'=>match e with
      | .normal=>HV hi.tm env h (hi.cond (FT c)) env' h' fun s hs=>J (s,hs)
      |e=>K e env' h'))
  else cnd (t=true) (Db C hi fn N rec pc fuel a env h K) (Db C hi fn N rec pc fuel b env h K)
 | .block id a,env,h,K=>
  if Kb id a+(if MM a then 1 else 0)≤1 then Db C hi fn N rec pc fuel a env h fun e env' h'=>match e with
   | .exit i=>if i=id then K .normal env' h' else K (.exit i) env' h'
   |e=>K e env' h'
  else
   F0 hi ((hi.block id).filter fun i=>(writes a).contains i) env h fun env h=>
   join (fun (p:List AV×Heap)=>K .normal (DI hi.tm (writes a) (hi.block id) env p.1) (CI h 0 p.2))
    fun J=>Db C hi fn N rec pc fuel a env h fun e env' h'=>match e with
     | .normal=>HV hi.tm env h (hi.block id) env' h' fun s hs=>J (s,hs)
     | .exit i=>if i=id then HV hi.tm env h (hi.block id) env' h' fun s hs=>J (s,hs) else K (.exit i) env' h'
     |e=>K e env' h'
 | .loop a,env,h,K=>F0 hi ((hi.loop (Cx a)).filter fun i=>(writes a).contains i) env h fun env h=>
  HV hi.tm env h (hi.loop (Cx a)) env h fun s hs=>
   AH (fun (p:List AV×Heap) again=>Db C hi fn N rec pc fuel a (DI hi.tm (writes a) (hi.loop (Cx a)) env p.1) (CI h 0 p.2) fun e env' h'=>match e with
    | .normal=>HV hi.tm env h (hi.loop (Cx a)) env' h' fun s hs=>again (s,hs)
    |e=>K e env' h') fuel (s,hs)
 | .rangeFunc f params assign body,env,h,K=>match ev env f with
  | .func (.func g) first captured=>if enters C.P g=false then none else
   rec R (.fn g (first++[.yld h.length]++captured)) (h++[.loop {fn,size:=N,env,params:=params.toList,assign,body,busy:=false,pending:=none,ended:=false,hl:=h.length}]) fun _ h1=>
    (Tm h1 h.length).bind fun j=>cnd (((h1.take h.length).all (H9 h.length))=true) (match j with
     |none=>K .normal env (h1.take h.length)
     |some c=>(Tv c).bind fun e=>K e env (h1.take h.length)) none
  |_=>none
 |_,_,_,_=>none
def TW (P:Program) (env:Env) (h:Heap):List ResultVar→(List AV→Option R)→Option R
 |[],K=>K []
 | .tmp t::rs,K=>TW P env h rs fun vs=>K (env t::vs)
 | .cell a t::rs,K=>JO P t h (env a) fun v=>TW P env h rs fun vs=>K (v::vs)
def Gm (h:Heap) (i:Nat) (busy:Bool) (pending:Option Code):Heap:=
 match h[i]? with
 |some (.loop l)=>h.set i (.loop {l with busy,pending})
 |_=>h
def codeOf:Exit→Option Code
 | .ret=>some .ret
 | .exit id=>some (.exit id)
 |_=>none
def NP (env:Env):List Tmp→List AV→Env
 |t::ts,v::vs=>NP (env.put (some t) v) ts vs
 |_,_=>env
def Qf:AI→Bool
 | .loop _=>false
 |_=>true
def Qc (h:Heap) (i:Nat):Bool:=
 match h[i]? with
 |some (.loop l)=> !l.ended
 |_=>false
def QW (h:Heap) (i:Nat):Bool:=
 match h[i]? with
 |some (.loop l)=> !l.ended && !l.busy&&l.pending.isNone
 |_=>false
noncomputable def Da (C:Cfg) (rec:Rec) (pc:BN) (n:Nat) (g:FuncId) (avs:List AV) (h:Heap) (K:List AV→Heap→Option R):Option R:=
 match C.P.funcs[g]? with
 |some fn=>match fn.body with
  |some c=>cnd (avs.length≤fn.ntmps) (Db (C.at g) (C.hints g) g fn.ntmps rec pc n c (fun i=>avs.getD i .undef) h fun e env h'=>match e with
     | .normal | .ret=>cnd (((h'.drop h.length).all Qf)=true) (TW C.P env h' fn.results.toList fun vs=>Dt C.P fn.resultTypes.toList vs fun rs=>K rs h') none
     |_=>none) none
  |none=>none
 |none=>none
noncomputable def NG (C:Cfg) (rec:Rec) (pc:BN) (n:Nat) (i:Nat) (args:List AV) (h:Heap) (K:List AV→Heap→Option R):Option R:=
 match h[i]? with
 |some (.loop l)=>
  cnd (l.busy=false∧l.ended=false∧l.pending.isNone=true∧args.length=l.params.length∧(l.params.all fun t=>decide (t<l.size))=true) (Db (C.at l.fn) (C.hints l.fn) l.fn l.size rec pc n l.assign (NP l.env l.params args) h fun e env h'=>match e with
    | .normal=>cnd (QW h' i=true) (Db (C.at l.fn) (C.hints l.fn) l.fn l.size rec pc n l.body env (Gm h' i true none) fun e _ h'=>cnd (Qc h' i=true) ((match e with
     | .normal=>K [.t (.bool true)] (Gm h' i false none)
     |e=>(codeOf e).bind fun c=>K [.t (.bool false)] (Gm h' i false (some c)))) none) none
    |_=>none) none
 |_=>none
noncomputable def inl (C:Cfg) (pc:BN) (n:Nat):Nat→Rec
 |0=>fun _ _ _ _=>none
 |d+1=>fun _ r h K=>match r with
  | .fn g avs=>Da C (inl C pc n d) pc n g avs h K
  | .yield i args=>NG C (inl C pc n d) pc n i args h K
noncomputable def JG (C:Cfg) (rec:Rec) (pc:BN) (n:Nat) (g:FuncId) (xs:List Tree):Option (List Tree):=
 match Dm C.P g (fun i =>.t (xs.getD i default)) with
 |some avs=>Da C rec pc n g avs [] fun rs h'=>Dw C.P false h' (A6 C.P g) rs fun ys=>cnd (CZ C.P g=true→ys.all Tree.scalar=true) (some ys) none
 |none=>none
def NQ (P:Program) (g:FuncId):Bool:=
 match P.funcs[g]? with
 |some fn=>match fn.resultTypes.toList with
  |[t]=>A9 P t==some false
  |_=>false
 |none=>false
noncomputable def NR (C:Cfg) (rec:Rec) (pc:BN) (n:Nat) (g:FuncId) (xs:List Tree):Option (List Tree):=
 match Dm C.P g (fun i =>.t (xs.getD i default)),A6 C.P g with
 |some avs,[t]=>(FH C.P t).bind fun z=>cnd (NQ C.P g=true) (Da C rec pc n g avs [] fun rs h'=>match rs with
  |[.nilsl]=>some [.sl z []]
  |[.sref i ver off len]=>match h'[i]? with
   |some (.row false ver' size es)=>cnd (ver'=ver∧size=z) (some [.sl z ((es.drop off).take len)]) none
   |_=>none
  |_=>none) none
 |_,_=>none
def Mj (P:Program) (h:Heap) (ts:List TypeId) (rs:List AV) (j:Nat) (x:Tree):Option (List Tree):=
 cnd (rs.length=ts.length) (Dw P true h (ts.take j) (rs.take j) fun a=>Dw P true h (ts.drop (j+1)) (rs.drop (j+1)) fun b=>some (a++x::b)) none
noncomputable def LO (C:Cfg) (rec:Rec) (pc:BN) (n:Nat) (j g:Nat) (xs:List Tree):Option (List Tree):=
 match Dm C.P g (fun i =>.t (xs.getD i default)),(A6 C.P g)[j]? with
 |some avs,some t=>(FH C.P t).bind fun z=>Da C rec pc n g avs [] fun rs h'=>match rs[j]? with
  |some .nilsl=>Mj C.P h' (A6 C.P g) rs j (.sl z [])
  |some (.sref i ver off len)=>(match h'[i]? with
   |some (.row false ver' size es)=>cnd (ver'=ver∧size=z) (Mj C.P h' (A6 C.P g) rs j (.sl z ((es.drop off).take len))) none
   |_=>none)
  |_=>none
 |_,_=>none
def pcx (C:Cfg) (pc:BN):BN:=fun g xs=>match xs with
 |[]=>if g<OWN then match C.ext g [] with
  |some ys=>some ys
  |none=>pc g []
  else pc g []
 |x::xs=>pc g (x::xs)
noncomputable def AA (C:Cfg):Nat→BN
 |0=>fun _ _=>none
 |n+1=>fun g xs=>if g<OWN then match C.ext g xs with
  |some ys=>some ys
  |none=>JG C (inl C (pcx C (AA C n)) n C.depth) (pcx C (AA C n)) n g xs else if g<G9 then NR C (inl C (pcx C (AA C n)) n C.depth) (pcx C (AA C n)) n (g-OWN) xs
  else LO C (inl C (pcx C (AA C n)) n C.depth) (pcx C (AA C n)) n ((g-G9) % 64) ((g-G9) / 64) xs
end Ab
namespace Ab
open Go
variable {R:Type} {P:Program} {B:Nat→Prop} {κ:BB} {h:Heap} {w:World} {N:Nat} {env:Env} {a:Act}
theorem QF (hr:Rel B N κ env h a w) (x:Option Operand):ZF B κ h w (KL env x) (x.map a.eval):=by
 cases x with
 |none=>exact trivial
 |some x=>exact BZ hr x
theorem GW (hr:Rel B N κ env h a w) (parts:Array (Nat×Operand)):(parts.map fun (i,x)=>(i,a.eval x)).size=(parts.toList.map fun p=>(p.1,ev env p.2)).length∧
  ∀(j i:Nat) (x:AV),(parts.toList.map fun p=>(p.1,ev env p.2))[j]? = some (i,x)→∃v,(parts.map fun (i,x)=>(i,a.eval x)).toList[j]? = some (i,v)∧AQ B κ h w x v:=by
 refine ⟨by simp,fun j i x hx => ?_⟩;rw [zQ] at hx;cases hp:parts.toList[j]? with
 |none=>rw [hp] at hx;cases hx
 |some p=>
  rw [hp] at hx;simp only [yT,Option.some.injEq,Prod.mk.injEq] at hx;obtain ⟨rfl,rfl⟩:=hx;refine ⟨a.eval p.2,?_,BZ hr p.2⟩;rw [Array.toList_map,zQ,hp];rfl
theorem Je (hr:Rel B N κ env h a w) (xs:Array Operand):(xs.map a.eval).size=(xs.toList.map (ev env)).length∧∀(j:Nat) (x:AV),(xs.toList.map (ev env))[j]? = some x→AQ B κ h w x ((xs.map a.eval).getD j undef):=by
 refine ⟨by simp,fun j x hx => ?_⟩;rw [zQ] at hx;cases hp:xs.toList[j]? with
 |none=>rw [hp] at hx;cases hx
 |some p=>
  rw [hp] at hx;simp only [yT,Option.some.injEq] at hx;subst hx;have hj:j<xs.size:=by simpa using (List.getElem?_eq_some_iff.1 hp).1
  have he:xs[j]=p:=by simpa [hj] using hp
  simp only [Array.getD,Array.size_map,hj,dif_pos];simpa [he] using BZ hr p
theorem OI (mx:Bool):∀{l:List AV} {x:Int} {K:AV→Option R} {r:R} {vs:List Value},Km.go mx x l K=some r→vs.length=l.length→(∀(j:Nat) (y:AV) (v:Value),l[j]? = some y→vs[j]? = some v→AQ B κ h w y v)→
  ∃n:Int,K (.t (.int .i64 n))=some r∧(vs.foldlM (if mx then Builtin.max2 else Builtin.min2) (.int .i64 x):Sem Value).run P w = .ok (.int .i64 n) w
 |[],x,K,r,vs,hr,hl,hv=>by obtain rfl:vs=[]:=zI (by simpa using hl);exact ⟨x,hr,by simp⟩
 |y::l,x,K,r,vs,hr,hl,hv=>by
  cases vs with
  |nil=>simp at hl
  |cons v vs=>
   simp only [Km.go] at hr;obtain ⟨b,hb,hr1⟩:=bind_some hr;obtain rfl:=Cg hb (hv 0 y v rfl rfl);obtain ⟨n,h1,h2⟩:=OI mx (vs:=vs) hr1 (by simpa using hl) fun j y' v' hy hv'=>hv (j+1) y' v' (by simpa using hy) (by simpa using hv');refine ⟨n,h1,?_⟩;cases mx
   ·simp only [zD,if_false] at h2 ⊢;simp [Builtin.min2,h2]
   ·simp only [if_true] at h2 ⊢;simp [Builtin.max2,h2]
theorem Sw (mx:Bool) {l:List AV} {K:AV→Option R} {r:R} {vs:List Value} (hr:Km mx l K=some r) (hl:vs.length=l.length) (hv:∀(j:Nat) (y:AV) (v:Value),l[j]? = some y→vs[j]? = some v→AQ B κ h w y v) (ts:Array TypeId) (ty:TypeId) :
  ∃n:Int,K (.t (.int .i64 n))=some r∧(if mx then Builtin.max_ ts ty vs.toArray else Builtin.min_ ts ty vs.toArray).run P w = .ok (.int .i64 n) w:=by
 cases l with
 |nil=>simp [Km] at hr
 |cons x l=>
  cases vs with
  |nil=>simp at hl
  |cons v vs=>
   simp only [Km] at hr;obtain ⟨b,hb,hr1⟩:=bind_some hr;obtain rfl:=Cg hb (hv 0 x v rfl rfl);obtain ⟨n,h1,h2⟩:=OI (P:=P) mx (vs:=vs) hr1 (by simpa using hl) fun j y' v' hy hv'=>hv (j+1) y' v' (by simpa using hy) (by simpa using hv');refine ⟨n,h1,?_⟩;cases mx<;>simpa [Builtin.max_,Builtin.min_] using h2
theorem P5 {k:IntKind} {n:Int}:∀{m:List (Int×Nat)} {K:AV→Option R} {r:R} {es:List MapEntry} {i:Nat},Lo n m K=some r→es.map (fun e=>(e.key,e.val))=m.map (fun p=>(.int k p.1,.func (.func p.2) #[] #[]))→
  ∃v,K v=some r∧((Instr.findNow (.int k) (.int k n) es i=some none∧∀z,AQ B κ h w v (.tuple #[z,.bool false]))∨∃j val,Instr.findNow (.int k) (.int k n) es i=some (some (j,val))∧AQ B κ h w v (.tuple #[val,.bool true]))
 |[],K,r,[],i,hq,he=>⟨_,hq,.inl ⟨rfl,fun z =>.tuple _ _ rfl (fun j x hx=>by
   match j,hx with
   |0,hx=>cases hx;exact .undef _
   |1,hx=>cases hx;exact .t _ _ (.bool _))⟩⟩
 |[],K,r,e::es,i,hq,he=>by simp at he
 |p::m,K,r,[],i,hq,he=>by simp at he
 |p::m,K,r,e::es,i,hq,he=>by
  simp only [map_cons,List.cons.injEq,Prod.mk.injEq] at he;obtain ⟨⟨h1,h2⟩,h3⟩:=he;simp only [Lo,AB] at hq;split at hq
  ·rename_i hn;refine ⟨_,hq,.inr ⟨i,.func (.func p.2) #[] #[],?_,.tuple _ _ rfl (fun j x hx => ?_)⟩⟩
   ·simp only [Instr.findNow,Instr.sameNow,h1,h2,hn,if_true,beq_self_eq_true]
   ·match j,hx with
    |0,hx=>cases hx;exact .func _ _ _ #[] #[] rfl rfl (fun j x hx=>by simp at hx) (fun j x hx=>by simp at hx)
    |1,hx=>cases hx;exact .t _ _ (.bool _)
  ·rename_i hn;obtain ⟨v,g1,g3⟩:=P5 (i:=i+1) hq h3;refine ⟨v,g1,?_⟩;simp only [Instr.findNow,Instr.sameNow,h1,if_true];rw [show (n==p.1)=false by simpa using hn];exact g3
theorem JT {P:Program} {w:World} {b:Nat} {es:Array MapEntry} {clock:Nat} (hb:w.heap[b]? = some (.map es clock)):(getObj b).run P w = .ok (.map es clock) w:=by simp [getObj,Sem.run,hb]
theorem OC (P:Program) (w:World) (f:Nat→Value):∀(js:List Nat) (bs:List UInt8) (s:ByteArray),js.length=bs.length→(∀(k j:Nat) (b:UInt8),js[k]? = some j→bs[k]? = some b→∃n:Int,f j = .int .u8 n∧UInt8.ofNat n.toNat=b)→
  (forIn js s (fun a y=>match f a with
   | .int .u8 n=>pure (ForInStep.yield (y.push (UInt8.ofNat n.toNat)))
   | _ => (fun _ => ForInStep.yield y) <$> (stuck "bytesToString: byte expected" : Sem PUnit)) : Sem ByteArray).run P w = .ok (bs.foldl ByteArray.push s) w
 |[],[],s,_,_=>by simp
 |v::vs,b::bs,s,hl,h=>by obtain ⟨n,hf,hb⟩:=h 0 v b rfl rfl;have ih:=OC P w f vs bs (s.push b) (by simpa using hl) fun k j b hv hb=>h (k+1) j b (by simpa using hv) (by simpa using hb);rw [List.forIn_cons];simp [hf,hb,ih]
 |[],_::_,_,hl,_=>by simp at hl
 |_::_,[],_,hl,_=>by simp at hl
def Sq:Option (List Tree)→Value
 |some [.int .u8 n]=>.int .u8 n
 |_ =>.int .u8 0
theorem Wv {src dst:TypeId} {x:AV} {K:AV→Option R} {r:R} (hq:Lq P h src dst x K=some r) (hh:Ap B κ h w) {vx:Value} (hx:AQ B κ h w x vx) :
  ∃v val,K v=some r∧(convert src dst vx).run P w = .ok val w∧AQ B κ h w v val:=by
 unfold Lq at hq;simp only [AB] at hq;split at hq
 ·rename_i e hu1 hu2;split at hq
  ·rename_i hu3;obtain ⟨es,hq1,hs⟩:=Kd hq hh hx;obtain ⟨hb,hK⟩:=AG hq1;obtain ⟨_,a,cap,rfl,hcap,hc⟩:=hs;refine ⟨_,.string (bytesOf es),hK,?_,.t _ _ (.str _)⟩;have hby:∀(j:Nat) (e:List Tree),es[j]? = some e→∃n:Int,e=[.int .u8 n]:=fun j e he=>by
    have:=(zG.1 hb) e (yA he);unfold VI at this;split at this
    ·exact ⟨_,rfl⟩
    ·cases this
   rcases hc with rfl|⟨b,off,rfl,hlt,hcells⟩
   ·cases a with
    |none=>simp [convert,run_underlying hu1,run_underlying hu2,run_underlying hu3,Conv.bytesToString,bytesOf]
    |some a=>simp [convert,run_underlying hu1,run_underlying hu2,run_underlying hu3,Conv.bytesToString,bytesOf,loadCells,loadCellsFrom]
   ·have hcell:∀j,j<es.length→∃n:Int,es[j]? = some [.int .u8 n]∧w.cell? ⟨b,off+j,none⟩=some (.int .u8 n):=fun j hj=>by
     obtain ⟨n,hn⟩:=hby j es[j] (zO hj);have he:es[j]? = some [.int .u8 n]:=by rw [zO hj,hn]
     obtain ⟨u,hu,ht⟩:=hcells j [.int .u8 n] 0 (.int .u8 n) he rfl;cases ht;exact ⟨n,he,by simpa using hu⟩
    have hl:=run_loadCells (P:=P) w ⟨b,off,none⟩ es.length (fun j=>Sq es[j]?) (fun j hj=>by
      obtain ⟨n,he,hc⟩:=hcell j hj;unfold Addr.add;split
      ·rename_i h0;subst h0;simp only [he,Sq];simpa using hc
      ·simp only [he,Sq];simpa using hc)
    have hloop:=OC P w (fun j=>Sq es[j]?) (List.range es.length) (es.map Sr) ByteArray.empty (by simp) (fun k j bb hj hbb=>by
     obtain ⟨h1,h2⟩:=List.getElem?_eq_some_iff.1 hj;have h1:k<es.length:=by simpa using h1
     have h2:j=k:=by simpa using h2.symm
     subst h2;obtain ⟨n,he,_⟩:=hcell j h1;rw [zQ,he] at hbb;simp only [yT,Option.some.injEq] at hbb;exact ⟨n,by simp [he,Sq],by rw [← hbb];rfl⟩)
    simp [convert,run_underlying hu1,run_underlying hu2,run_underlying hu3,Conv.bytesToString,hl];exact (congrArg (fun z=>z.andThen fun a w'=>Result.ok (Value.string a) w') (show _=Result.ok (bytesOf es) w from hloop)).trans rfl
  ·cases hq
 ·exact S4 (P:=P) hq hx
theorem UE {t:TypeId} {x ix:AV} {K:AV→Option R} {r:R} (hq:Ko P t x ix K=some r) {vx vi:Value} (hx:AQ B κ h w x vx) (hi:AQ B κ h w ix vi) :
  ∃v val,K v=some r∧(Instr.index t vx vi).run P w = .ok val w∧AQ B κ h w v val:=by
 unfold Ko at hq;simp only [AB] at hq;split at hq
 ·rename_i s k i hu;obtain ⟨⟨h0,h1⟩,hq1⟩:=AG hq;cases hx with|t _ _ hx=>
  cases hx;cases hi with|t _ _ hi=>
  cases hi;have hlt:i.toNat<s.size:=by omega
  refine ⟨_,.int .u8 (Dp s i.toNat),hq1,?_,.t _ _ (.int _ _)⟩;have hb:s[i.toNat]? = some s[i.toNat]:=by simp [hlt]
  simp [Instr.index,Go.asIntOf,run_underlying hu,h0,hb,Dp]
 ·rename_i n e cs k i hu;obtain ⟨⟨ha,hz,hl⟩,hq1⟩:=AG hq;obtain ⟨⟨h0,h1⟩,hq2⟩:=AG hq1;have hq3:=KD hq2;cases hi with|t _ _ hi=>
  cases hi;cases hx with
  |agg _ vs hvs hve=>
   obtain ⟨v,hv1,hv2⟩:=Qb (P:=P) (B:=B) (κ:=κ) (h:=h) (w:=w) (g:=fun j=>cs.getD j .undef) (off:=0) (n:=cs.length) (o:=i.toNat) (m:=1) (vs:=vs) (t:=e) (fun j hj=>by have hg:cs[j]? = some cs[j]:=zO hj;have:=hve j _ hg;simpa [List.getD,hg] using this) hvs hz (by omega) ha (fun _=>rfl)
   unfold Fits at hv2;rw [ha] at hv2;refine ⟨_,v,hq3,?_,by simpa using hv2⟩;simp [Instr.index,Go.asIntOf,run_underlying hu,h0,h1,BW hz,hv1]
 ·cases hq
theorem UD {t:TypeId} {m x:AV} {K:AV→Option R} {r:R} (hq:Kn P t m x K=some r) {vm vx:Value} (hm:AQ B κ h w m vm) (hx:AQ B κ h w x vx) :
  ∃v val,K v=some r∧(Instr.lookup t vm vx true).run P w = .ok val w∧AQ B κ h w v val:=by
 unfold Kn at hq;simp only [AB] at hq;split at hq
 ·rename_i k l k' n;obtain ⟨⟨rfl,hT⟩,hq1⟩:=AG hq;clear hq;cases hx with|t _ _ hx=>
  cases hx;cases hm with|t _ _ hm=>
  cases hm with|mp _ _ b es clock h1 h2 h3 h4=>
  unfold mapTy at hT;split at hT
  ·rename_i key elem hu;rw [zC] at hT;obtain ⟨hT,hz⟩:=hT;split at hT
   ·rename_i k2 hk;obtain rfl:k2=k':=by simpa using hT
    obtain ⟨i,z,hi,hz⟩:∃i z,P.info? elem=some i∧i.zero=some z:=by
     cases hi:P.info? elem with
     |none=>simp [hi] at hz
     |some i=>cases hz':i.zero with
      |none=>simp [hi,hz'] at hz
      |some z=>exact ⟨i,z,rfl,hz'⟩
    obtain ⟨v,g1,g3⟩:=P5 (B:=B) (κ:=κ) (h:=h) (w:=w) (i:=0) hq1 h4;have hck:∀(e:Bool),(Instr.checkKey e 10000 key (.int k2 n)).run P w = .ok () w:=fun e=>by
     have:∀m:Nat,(Instr.checkKey e (m+1) key (.int k2 n)).run P w = .ok () w:=fun m=>by simp [Instr.checkKey,run_underlying hk]
     exact this 9999
    rcases g3 with ⟨g3,g2⟩|⟨j,val,g3,g2⟩
    ·refine ⟨v,_,g1,?_,g2 z⟩;simp [Instr.lookup,run_underlying hu,JT h3,hck,Instr.findKey,run_underlying hk,g3,zeroValue,typeInfo,hi,hz]
    ·refine ⟨v,_,g1,?_,g2⟩;simp [Instr.lookup,run_underlying hu,JT h3,hck,Instr.findKey,run_underlying hk,g3]
   ·cases hT
  ·cases hT
 ·cases hq
theorem Ss {t:TypeId} {len:Nat} {parts:Array (Nat×Operand)} {K:AV→Heap→Option R} {r:R} (hq:El P t h len (parts.toList.map fun p=>(p.1,ev env p.2)) K=some r) (hr:Rel B N κ env h a w) (o:Oper) (ho:o.op = .buildSlice t len parts) :
  ∃v h' κ' val w',K v h'=some r∧(execOp a.eval o).run P w = .ok (.value val) w'∧AQ B κ' h' w' v val∧Ap B κ' h' w'∧Ext κ h w κ' h' w':=by
 unfold execOp;rw [ho];obtain ⟨v,h',κ',val,w',h1,h2,h3,h4,h5⟩:=Q9 (P:=P) hq (GW hr parts).1 (GW hr parts).2 hr.heap;exact ⟨v,h',κ',val,w',h1,by simp [h2],h3,h4,h5⟩
theorem X9 {op:Op} {K:AV→Option R} {r:R} (hq:qop P env h op K=some r) (hr:Rel B N κ env h a w) (o:Oper) (ho:o.op=op) :
  ∃v val w',K v=some r∧(execOp a.eval o).run P w = .ok (.value val) w'∧AQ B κ h w' v val∧Ap B κ h w'∧Ext κ h w κ h w':=by
 have hx:=Ext.refl κ h w;unfold execOp;rw [ho];unfold qop at hq
 try simp only [AB] at hq
 split at hq
 ·exact ⟨_,_,w,hq,rfl,BZ hr _,hr.heap,hx⟩
 ·exact ⟨_,_,w,hq,rfl,BZ hr _,hr.heap,hx⟩
 ·rename_i c x y;obtain ⟨t,ht,hq1⟩:=bind_some hq;have hc:=Ei ht (BZ hr c);cases t
  ·exact ⟨_,_,w,by simpa using hq1,by simp [hc,Go.asBool],BZ hr y,hr.heap,hx⟩
  ·exact ⟨_,_,w,by simpa using hq1,by simp [hc,Go.asBool],BZ hr x,hr.heap,hx⟩
 ·rename_i t parts;obtain ⟨v,val,h1,h2,h3⟩:=Wx (P:=P) hq (GW hr parts).1 (GW hr parts).2;exact ⟨v,val,w,h1,by simp [h2],h3,hr.heap,hx⟩
 ·rename_i t len parts;obtain ⟨v,val,w',h1,h2,h3,h4,h5⟩:=OO (P:=P) hq (GW hr parts).1 (GW hr parts).2 hr.heap;exact ⟨v,val,w',h1,by simp [h2],h3,h4,h5⟩
 ·obtain ⟨v,val,h1,h2,h3⟩:=Sy hq hr.heap (BZ hr _);have h1:=retV_ok h1;exact ⟨v,val,w,h1,by simp [h2],h3,hr.heap,hx⟩
 ·obtain ⟨v,val,h1,h2,h3⟩:=abin_ok hq (BZ hr _) (BZ hr _) _ _;exact ⟨v,val,w,h1,by simp only [Sem.run_bind] at h2 ⊢;rw [h2];rfl,h3,hr.heap,hx⟩
 ·obtain ⟨v,val,h1,h2,h3⟩:=aun_ok (P:=P) hq (BZ hr _);exact ⟨v,val,w,h1,by simp [h2],h3,hr.heap,hx⟩
 ·obtain ⟨v,val,h1,h2,h3⟩:=Wv (P:=P) hq hr.heap (BZ hr _);exact ⟨v,val,w,h1,by simp [h2],h3,hr.heap,hx⟩
 ·rename_i fn first captured
  split at hq
  ·cases hq
  ·refine ⟨_,_,w,hq,by simp [Instr.makeFunc],.func _ _ _ _ _ (Je hr first).1 (Je hr captured).1 (Je hr first).2 (Je hr captured).2,hr.heap,hx⟩
 ·obtain ⟨v,val,h1,h2,h3⟩:=Wo (P:=P) hq (BZ hr _) (QF hr _) (QF hr _) (QF hr _) hr.heap;exact ⟨v,val,w,h1,by simp [h2],h3,hr.heap,hx⟩
 ·obtain ⟨v,val,h1,h2,h3⟩:=Wu (P:=P) hq (BZ hr _);exact ⟨v,val,w,h1,by simp [h2],h3,hr.heap,hx⟩
 ·obtain ⟨v,val,h1,h2,h3⟩:=Wr (P:=P) hq (BZ hr _) (BZ hr _) hr.heap;exact ⟨v,val,w,h1,by simp [h2],h3,hr.heap,hx⟩
 ·rename_i t i;split at hq
  ·rename_i vs hvs;split at hq
   ·rename_i v hv;have ht:=BZ hr t;rw [hvs] at ht;generalize hgt:a.eval t=tv at ht;cases ht with
    |tuple _ arr hs hall=>
     have hi:i<arr.size:=by rw [hs];exact AU hv
     have he:arr[i]? = some (arr.getD i undef):=by rw [Array.getElem?_eq_getElem hi];simp only [Array.getD,hi,dif_pos];rfl
     have hrun:(Instr.extract (.tuple arr) i).run P w = .ok (arr.getD i undef) w:=by show (match arr[i]? with | some v => (pure v : Sem Value) | none => stuck "Extract: no such component").run P w = _;rw [he];rfl
     exact ⟨v,_,w,hq,by simp only [Sem.run_bind,hgt,hrun,Result.andThen_ok,Sem.run_pure],hall i v hv,hr.heap,hx⟩
   ·cases hq
  ·cases hq
 ·rename_i x;have hv:=BZ hr x;split at hq
  ·rename_i i off he;rw [he] at hv;generalize hg:a.eval x=vx at hv;cases hv with
   |ptr _ _ b base hk hb=>exact ⟨_,_,w,hq,by simp [hg],.ptr i off b base hk hb,hr.heap,hx⟩
  ·rename_i s c off he;rw [he] at hv;generalize hg:a.eval x=vx at hv;cases hv with
   |eptr _ _ _ b base u h1 h2 h3 h4 h5=>exact ⟨_,_,w,hq,by simp [hg],.eptr s c off b base u h1 h2 h3 h4 h5,hr.heap,hx⟩
  ·rename_i f aa bb he;rw [he] at hv;generalize hg:a.eval x=vx at hv;cases hv with
   |func _ _ _ fs cs h1 h2 h3 h4=>exact ⟨_,_,w,hq,by simp [hg],.func _ _ _ fs cs h1 h2 h3 h4,hr.heap,hx⟩
  ·rename_i i he;rw [he] at hv;generalize hg:a.eval x=vx at hv;cases hv with
   |yld _ b base hk hb=>exact ⟨_,_,w,hq,by simp [hg],.yld i b base hk hb,hr.heap,hx⟩
  ·rename_i i ver k off he;rw [he] at hv;generalize hg:a.eval x=vx at hv;cases hv with
   |rptr _ _ _ _ _ h1 h2 h3=>
    obtain ⟨p,rfl⟩:=h1;exact ⟨_,_,w,hq,by simp [hg],.rptr i ver k off _ ⟨p,rfl⟩ h2 h3,hr.heap,hx⟩
  ·cases hq
 ·obtain ⟨v,val,h1,h2,h3⟩:=UD (P:=P) hq (BZ hr _) (BZ hr _);exact ⟨v,val,w,h1,by simp [h2],h3,hr.heap,hx⟩
 ·obtain ⟨v,val,h1,h2,h3⟩:=UE (P:=P) hq (BZ hr _) (BZ hr _);exact ⟨v,val,w,h1,by simp [h2],h3,hr.heap,hx⟩
 ·rename_i args argTypes;split at hq
  ·rename_i x t hxa hta;obtain ⟨v,val,h1,h2,h3⟩:=alen_ok (P:=P) hq (BZ hr x) hr.heap o.type;have e1:args = #[x]:=by cases args;simp_all
   have e2:argTypes = #[t]:=by cases argTypes;simp_all
   subst e1 e2;exact ⟨v,val,w,h1,by simp [resolve,invoke,builtin,h2],h3,hr.heap,hx⟩
  ·cases hq
 ·rename_i args argTypes;obtain ⟨n,h1,h2⟩:=Sw (P:=P) true (vs:=(args.map a.eval).toList) hq (by simp) (fun j y v hy hv=>by have:=(Je hr args).2 j y hy;rwa [Fm _ j undef hv] at this) argTypes o.type
  simp only [if_true] at h2;exact ⟨_,_,w,h1,by
   rw [Array.toArray_toList] at h2;simp [resolve,invoke,builtin,h2],.t _ _ (.int _ _),hr.heap,hx⟩
 ·rename_i args argTypes;obtain ⟨n,h1,h2⟩:=Sw (P:=P) false (vs:=(args.map a.eval).toList) hq (by simp) (fun j y v hy hv=>by have:=(Je hr args).2 j y hy;rwa [Fm _ j undef hv] at this) argTypes o.type
  simp only [zD,if_false] at h2;exact ⟨_,_,w,h1,by
   rw [Array.toArray_toList] at h2;simp [resolve,invoke,builtin,h2],.t _ _ (.int _ _),hr.heap,hx⟩
 ·cases hq
theorem nilK_ok {v:AV} {K:Bool→Option R} {r:R} (hq:nilK v K=some r) {val:Value} (hv:AQ B κ h w v val) {t e:TypeId} (hu:P.underlying t=some (.slice e)) :
  ∃b,K b=some r∧(∀ox oy,(eqGuard .eql t ox oy val (.slice none 0 0)).run P w = .ok () w)∧(binOp .eql t val (.slice none 0 0)).run P w = .ok (.bool b) w:=by
 have hrun:∀(a:Option Addr) (n c:Nat),(∀ox oy,(eqGuard .eql t ox oy (.slice a n c) (.slice none 0 0)).run P w = .ok () w)∧(binOp .eql t (.slice a n c) (.slice none 0 0)).run P w = .ok (.bool a.isNone) w:=by
  intro a n c;have he:(Op.equalIn (9999+1) t (.slice a n c) (.slice none 0 0)).run P w = .ok a.isNone w:=by rw [Op.equalIn];cases a<;>simp [run_underlying hu]
  refine ⟨fun ox oy=>DY rfl,?_⟩;simp only [binOp,Op.equal,Op.maxDepth,Sem.run_bind];rw [he];rfl
 unfold nilK at hq
 try simp only [AB] at hq
 split at hq
 ·rename_i z es;cases hv with
  |t _ _ ht=>
   split at hq
   ·rename_i hne;cases ht with
    |nil=>simp at hne
    |sl=>exact ⟨_,hq,hrun (some _) _ _⟩
   ·obtain ⟨h1,h2⟩:=I1 hq;cases ht with
    |nil _ cap a0=>exact ⟨a0.isNone,by cases a0<;>assumption,hrun _ _ _⟩
    |sl=>exact ⟨_,h2,hrun (some _) _ _⟩
 ·obtain ⟨h1,h2⟩:=I1 hq;cases hv with
  |nilsl a0=>exact ⟨a0.isNone,by cases a0<;>assumption,hrun _ _ _⟩
 ·cases hq
theorem SE {v:Value} (z:Nat) (hv:AQ B κ h w .nilsl v):AQ B κ h w (.t (.sl z [])) v:=by cases hv with|nilsl a0=>exact .t _ _ (.nil _ _ _)
theorem SF {P:Program} {tf:TypeId→Bool}:∀{ts:List TypeId} {cs:List AV} {vs:List Value},cs.length=vs.length→(∀(j:Nat) (x:AV) (v:Value),cs[j]? = some x→vs[j]? = some v→AQ B κ h w x v)→
  (HW P tf ts cs).length=vs.length∧∀(j:Nat) (x:AV) (v:Value),(HW P tf ts cs)[j]? = some x→vs[j]? = some v→AQ B κ h w x v
 |ts,[],vs,hl,hv=>⟨hl,fun j x v hx=>by simp [HW] at hx⟩
 |ts,c::cs,[],hl,hv=>by simp at hl
 |ts,c::cs,u::vs,hl,hv=>by
  obtain ⟨i1,i2⟩:=SF (P:=P) (tf:=tf) (ts:=ts.tail) (cs:=cs) (vs:=vs) (by simpa using hl) fun j x v hx hv'=>hv (j+1) x v (by simpa using hx) (by simpa using hv');refine ⟨by simp [HW,i1],fun j x v hx hv' => ?_⟩;cases j with
  |zero=>
   have h0:=hv 0 c u rfl rfl;simp only [HW,zM,Option.some.injEq] at hx hv';subst hx hv';cases c<;>first|exact h0|(simp only;split;exact SE _ h0;exact h0)
  |succ j=>
   simp only [HW,List.getElem?_cons_succ] at hx hv';exact i2 j x v hx hv'
theorem F2 {P:Program} {tf:TypeId→Bool} {ts:List TypeId} {cs:List AV} {arr:Array Value} (hc:AW B κ h w cs arr):AW B κ h w (HW P tf ts cs) arr:=by
 obtain ⟨h1,h2⟩:=SF (P:=P) (tf:=tf) (ts:=ts) (cs:=cs) (vs:=arr.toList) (by simp [hc.1]) fun j x v hx hv=>by have:=hc.2 j x hx;rwa [Fm arr.toList j undef hv] at this
 refine ⟨by simp [h1],fun j x hx => ?_⟩;have hj:j<arr.size:=by have:=(List.getElem?_eq_some_iff.1 hx).1;rw [h1] at this;simpa using this
 exact h2 j x _ hx (by simp [Array.getD,hj])
theorem nilV_ok {P:Program} {tf:TypeId→Bool} {t:TypeId} {v:AV} {u:Value} (hv:AQ B κ h w v u):AQ B κ h w (nilV P tf t v) u:=by
 cases v with
 |agg cs=>
  cases hv with|agg _ vs h1 h2=>
  obtain ⟨k1,k2⟩:=F2 (P:=P) (tf:=tf) (ts:=B4 P 16 t) (show AW B κ h w cs vs from ⟨h1,h2⟩);exact .agg _ _ k1 k2
 |nilsl=>
  simp only [nilV];split
  ·exact SE _ hv
  ·exact hv
 |_=>exact hv
theorem hop_ok {op:Op} {K:AV→Heap→Option R} {r:R} {tf:TypeId→Bool} (hq:hop P tf env h op K=some r) (hr:Rel B N κ env h a w) (o:Oper) (ho:o.op=op) :
  ∃v h' κ' val w',K v h'=some r∧((execOp a.eval o).run P w = .ok (.value val) w'∨((execOp a.eval o).run P w = .ok .skip w'∧val=undef))∧AQ B κ' h' w' v val∧Ap B κ' h' w'∧Ext κ h w κ' h' w':=by
 unfold execOp;rw [ho];unfold hop at hq
 try simp only [AB] at hq
 split at hq
 ·rename_i t;split at hq
  ·rename_i z hz;obtain ⟨i,v,hi,hv,hc⟩:=Ch (B:=B) (κ:=κ) (h:=h) (w:=w) hz;obtain ⟨v',h',κ',h1,h2,h3,h4⟩:=IP hq hr.heap (F2 hc) t;exact ⟨v',h',κ',_,_,h1,.inl (by simp [Instr.alloc,zeroValue,typeInfo,hi,hv,newVar,newRow]),h2,h3,h4⟩
  ·cases hq
 ·rename_i t x;split at hq
  ·rename_i cs hcs;obtain ⟨v',h',κ',h1,h2,h3,h4⟩:=IP hq hr.heap (F2 (IL hcs (BZ hr x))) t;exact ⟨v',h',κ',_,_,h1,.inl (by simp [Instr.box,newVar,newRow]),h2,h3,h4⟩
  ·cases hq
 ·obtain ⟨h',κ',w',h1,h2,h3,h4⟩:=P4 (P:=P) hq hr.heap (BZ hr _) (nilV_ok (BZ hr _));exact ⟨_,h',κ',undef,w',h1,.inr ⟨by simp [h2],rfl⟩,.undef _,h3,h4⟩
 ·rename_i t x ty;split at hq
  ·rename_i e hu;obtain ⟨b,h1,h2,h3⟩:=nilK_ok (P:=P) hq (BZ hr x) hu;refine ⟨_,h,κ,.bool b,w,h1,.inl ?_,.t _ _ (.bool _),hr.heap,Ext.refl _ _ _⟩;have e1:a.eval (.const (.slice none 0 0))= .slice none 0 0:=rfl;simp only [e1];simp [h2,h3]
  ·cases hq
 ·rename_i args argTypes;split at hq
  ·rename_i s x t t' hxa hta;obtain ⟨rfl,hq1⟩:=AG hq;obtain ⟨v,h',κ',val,w',h1,h2,h3,h4,h5⟩:∃v h' κ' val w',K v h'=some r∧(Builtin.append_ #[t',t'] o.type #[a.eval s,a.eval x]).run P w = .ok val w'∧AQ B κ' h' w' v val∧Ap B κ' h' w'∧Ext κ h w κ' h' w':=by
    split at hq1
    ·exact RA (P:=P) hq1 hr.heap (BZ hr s) (BZ hr x) o.type
    ·exact Jm (P:=P) hq1 hr.heap (BZ hr s) (BZ hr x) o.type
   have e1:args = #[s,x]:=by cases args;simp_all
   have e2:argTypes = #[t',t']:=by cases argTypes;simp_all
   subst e1 e2;exact ⟨v,h',κ',val,w',h1,.inl (by simp [resolve,invoke,builtin,h2]),h3,h4,h5⟩
  ·cases hq
 ·rename_i args argTypes;split at hq
  ·rename_i x t hxa hta;obtain ⟨h',w',h1,h2,h3,h4⟩:=Ww (P:=P) hq hr.heap (BZ hr x) o.type;have e1:args = #[x]:=by cases args;simp_all
   have e2:argTypes = #[t]:=by cases argTypes;simp_all
   subst e1 e2;exact ⟨_,h',κ,.tuple #[],w',h1,.inl (by simp [resolve,invoke,builtin,h2]),.tuple _ _ rfl (fun j x hx=>by simp at hx),h3,h4⟩
  ·cases hq
 ·rename_i args argTypes;split at hq
  ·rename_i d x t t' hxa hta;obtain ⟨v,h',val,w',h1,h2,h3,h4,h5⟩:=Y7 (P:=P) (t':=t') hq hr.heap (BZ hr d) (BZ hr x) o.type;have e1:args = #[d,x]:=by cases args;simp_all
   have e2:argTypes = #[t,t']:=by cases argTypes;simp_all
   subst e1 e2;exact ⟨v,h',κ,val,w',h1,.inl (by simp [resolve,invoke,builtin,h2]),h3,h4,h5⟩
  ·cases hq
 ·obtain ⟨v,h',κ',val,w',h1,h2,h3,h4,h5⟩:=Y3 (P:=P) hq hr.heap (BZ hr _) (BZ hr _);exact ⟨v,h',κ',val,w',h1,.inl (by simp [h2]),h3,h4,h5⟩
 ·cases hq
theorem Wm {t:TypeId} {x:Operand} {K:AV→Option R} {r:R} (hq:Ll P t (ev env x) h K=some r) (hr:Rel B N κ env h a w) (o:Oper) (ho:o.op = .box t x) :
  ∃v κ' val w',K v=some r∧(execOp a.eval o).run P w = .ok (.value val) w'∧AQ B κ' h w' v val∧Ap B κ' h w'∧Ext κ h w κ' h w':=by
 unfold Ll at hq
 try simp only [AB] at hq
 split at hq
 ·rename_i cs n hcs hn;obtain ⟨hl,hq⟩:=AG hq;have hc:=IL hcs (BZ hr x);obtain ⟨xs,hK,hxl,_,hT⟩:=DD (P:=P) hq hr.heap (vs:=(a.eval x).cells.toList) (by simpa using hc.1) (B5 hc);have x1:Ext κ h w κ h (w.alloc (.cells (a.eval x).cells t)):=Iw hr.heap _;have hh1:Ap B κ h (w.alloc (.cells (a.eval x).cells t)):=It hr.heap x1 fun b hb=>Ar w _ hb;have hnew:(w.alloc (.cells (a.eval x).cells t)).heap[w.heap.size]? = some (.cells (a.eval x).cells t):=by show (w.heap.push (.cells (a.eval x).cells t))[w.heap.size]? = _;simp
  refine ⟨_,κ,.pointer (some ⟨w.heap.size,0,none⟩),w.alloc (.cells (a.eval x).cells t),hK,?_,?_,hh1,x1⟩
  ·unfold execOp;rw [ho];simp [Instr.box,newVar,newRow]
  ·have hsz:xs.length=(a.eval x).cells.size:=by rw [hxl];exact hc.1.symm
   refine .eptr n xs 0 w.heap.size 0 (fun c=>(a.eval x).cells.getD c undef) (by omega) (by simp [World.size_alloc]) ?_ (fun c y hy => ?_) (fun c y hy => ?_)
   ·rintro (hb|⟨i,base,ob,y1,_,_⟩)
    ·have:=hr.heap.ltB _ hb;omega
    ·have:=hr.heap.lt i _ _ y1;omega
   ·have hlt:c<(a.eval x).cells.size:=by rw [← hsz];exact AU hy
    rw [yR,Bq hnew hlt]
   ·have hlt:c<(a.eval x).cells.size:=by rw [← hsz];exact AU hy
    have:=hT c y ((a.eval x).cells.getD c undef) hy (by simp [Array.getD,hlt]);refine Bp.ext x1 (this.less ?_)
    rintro b (hb|hb)
    ·exact .inl hb
    ·exact .inr ⟨rfl,hb⟩
 ·cases hq
theorem S0 {t:TypeId} {K:AV→Heap→Option R} {r:R} (hq:Gd P t h K=some r) (hr:Rel B N κ env h a w) (o:Oper) (ho:o.op = .alloc t) :
  ∃v h' κ' val w',K v h'=some r∧(execOp a.eval o).run P w = .ok (.value val) w'∧AQ B κ' h' w' v val∧Ap B κ' h' w'∧Ext κ h w κ' h' w':=by
 unfold Gd at hq
 try simp only [AB] at hq
 split at hq
 ·rename_i z n hz hn;obtain ⟨⟨hn0,hl⟩,hq⟩:=AG hq;obtain ⟨i,v,hi,hv,hc⟩:=Ch (B:=B) (κ:=κ) (h:=h) (w:=w) hz;obtain ⟨xs,hK,hxl,_,hT⟩:=DD (P:=P) hq hr.heap (vs:=v.cells.toList) (by simpa using hc.1) (B5 hc);have h5:∀b,b<w.heap.size→(w.alloc (.cells v.cells t)).heap[b]? = w.heap[b]? :=fun b hb=>Ar w _ hb;have x2:Ext κ h w (κ++[some (w.heap.size,0)]) (h++[.row false 0 n [xs]]) (w.alloc (.cells v.cells t)):=
   CD (w':=w.alloc (.cells v.cells t)) hr.heap rfl rfl rfl (by simp) h5 fun b base e=>by injection e with e;injection e with e;omega
  have hsz:v.cells.size=n:=by rw [hc.1,hl]
  have hh2:=Bs hr.heap h5 x2 (fun b base e=>by injection e with e;injection e with e;subst e;exact ⟨yI _,by simp⟩)
   (Cj hn0 (BY w _) (by simp [hsz]) ⟨fun j e he=>by
     cases j with
     |zero=>simp at he;subst he;rw [hxl,hl]
     |succ j=>simp at he,fun j e c y he hy=>by
     cases j with
     |zero=>
      simp at he;subst he;have hc2:c<v.cells.size:=by rw [hsz,← hl,← hxl];exact AU hy
      have:=hT c y (v.cells.getD c undef) hy (by simp [Array.getD,hc2]);have t2:=Bp.ext x2 (this.less (A':=fun b=>B b∨Ex κ h b) (by
       rintro b (hb|hb)
       ·exact .inl hb
       ·exact .inr ⟨rfl,hb⟩))
      simpa using t2
     |succ j=>simp at he⟩)
  refine ⟨_,_,_,.pointer (some ⟨w.heap.size,0,none⟩),w.alloc (.cells v.cells t),hK,?_,?_,hh2,x2⟩
  ·unfold execOp;rw [ho];simp [Instr.alloc,zeroValue,typeInfo,hi,hv,newVar,newRow]
  ·refine .rptr _ _ _ _ _ ⟨_,rfl⟩ ⟨_,Am h _,yI _⟩ fun o' ho' _ => ?_;rw [Am h _] at ho';cases ho';exact ⟨w.heap.size,0,by rw [← hr.heap.len];exact Am κ _,by simp,rfl,by simp [AI.len]⟩
 ·cases hq
theorem U6 {κ':BB} {h':Heap} {t:TypeId} {v:Value} {n ver:Nat} {xs:List Tree} (hn0:n≠0) (hxl:xs.length=n) (hsz:v.cells.size=n)
  (x2:Ext κ h w κ' h' (w.alloc (.cells v.cells t))) (hT:∀(c:Nat) (y:Tree) (u:Value),xs[c]? = some y→v.cells.toList[c]? = some u→Bp w (fun b=>B b∨(true=true∧Ex κ h b)) y u) :
  HA B κ' h' (w.alloc (.cells v.cells t)) (some (w.heap.size,0)) (.row false ver n [xs]):=
 Cj hn0 (BY w _) (by simp [hsz]) ⟨fun j e he=>by
  cases j with
  |zero=>simp at he;subst he;exact hxl
  |succ j=>simp at he,fun j e c y he hy=>by
  cases j with
  |zero=>
   simp at he;subst he;have hc2:c<v.cells.size:=by rw [hsz,← hxl];exact AU hy
   have:=hT c y (v.cells.getD c undef) hy (by simp [Array.getD,hc2]);have t2:=Bp.ext x2 (this.less (A':=fun b=>B b∨Ex κ h b) (by
    rintro b (hb|hb)
    ·exact .inl hb
    ·exact .inr ⟨rfl,hb⟩))
   simpa using t2
  |succ j=>simp at he⟩
theorem Sz {tf:TypeId→Bool} {t:TypeId} {u u2:AV} {K:AV→Heap→Option R} {r:R} (hq:OK P tf t u u2 h K=some r) (hr:Rel B N κ env h a w) (o:Oper) (ho:o.op = .alloc t) :
  ∃v h' κ' val w',K v h'=some r∧(execOp a.eval o).run P w = .ok (.value val) w'∧AQ B κ' h' w' v val∧Ap B κ' h' w'∧Ext κ h w κ' h' w':=by
 unfold OK at hq
 try simp only [AB] at hq
 split at hq
 ·rename_i z n hz hn;obtain ⟨⟨hn0,hl⟩,hq⟩:=AG hq;obtain ⟨i,v,hi,hv,hc⟩:=Ch (B:=B) (κ:=κ) (h:=h) (w:=w) hz;obtain ⟨xs,hK,hxl,_,hT⟩:=DD (P:=P) hq hr.heap (vs:=v.cells.toList) (by simpa using hc.1) (B5 hc);have h5:∀b,b<w.heap.size→(w.alloc (.cells v.cells t)).heap[b]? = w.heap[b]? :=fun b hb=>Ar w _ hb;have hsz:v.cells.size=n:=by rw [hc.1,hl]
  have hxn:xs.length=n:=by rw [hxl,hl]
  have hrun:(execOp a.eval o).run P w = .ok (.value (.pointer (some ⟨w.heap.size,0,none⟩))) (w.alloc (.cells v.cells t)):=by unfold execOp;rw [ho];simp [Instr.alloc,zeroValue,typeInfo,hi,hv,newVar,newRow]
  split at hK
  ·rename_i ri rv rk ro _;split at hK
   ·split at hK
    ·rename_i ver' size es hri;obtain ⟨kk,hkk⟩:=CE hr.heap hri;have hOL:OLe (.row false ver' size es) (.row false (ver'+1) n [xs]):=⟨rfl,le_succ _,(fun e=>by simp [AI.ver] at e),(fun e=>by cases e),(fun e=>by cases e),rfl⟩
     have x1:Ext κ h w (κ.set ri (some (w.heap.size,0))) (h.set ri (.row false (ver'+1) n [xs])) (w.alloc (.cells v.cells t)):=
      C5 (w':=w.alloc _) hr.heap hri rfl hOL hkk rfl rfl rfl (by simp) (fun b' hb' _=>h5 b' hb') (fun b base e=>by injection e with e;injection e with e;exact .inr (by omega)) (fun e=>by simp [AI.ver] at e)
     have hh1:=CN hr.heap hri hkk (fun b' hb' _=>h5 b' hb') (fun b base e=>by injection e with e;injection e with e;subst e;exact ⟨.inr (yI _),by simp⟩) x1 (U6 hn0 hxn hsz x1 hT);refine ⟨_,_,_,_,_,hK,hrun,?_,hh1,x1⟩;refine .rptr _ _ _ _ _ ⟨_,rfl⟩ ⟨_,As hri,yI _⟩ fun o' ho' _ => ?_;rw [As hri] at ho';cases ho';exact ⟨w.heap.size,0,As hkk,by simp,rfl,by simp [AI.len]⟩
    ·cases hK
   ·obtain ⟨v',h',κ',h1,h2,h3,h4⟩:=IP hK hr.heap (F2 hc) t;exact ⟨v',h',κ',_,_,h1,hrun,h2,h3,h4⟩
  ·have x2:Ext κ h w (κ++[some (w.heap.size,0)]) (h++[.row false 0 n [xs]]) (w.alloc (.cells v.cells t)):=
    CD (w':=w.alloc (.cells v.cells t)) hr.heap rfl rfl rfl (by simp) h5 fun b base e=>by injection e with e;injection e with e;omega
   have hh2:=Bs hr.heap h5 x2 (fun b base e=>by injection e with e;injection e with e;subst e;exact ⟨yI _,by simp⟩) (U6 hn0 hxn hsz x2 hT);refine ⟨_,_,_,_,_,hK,hrun,?_,hh2,x2⟩;refine .rptr _ _ _ _ _ ⟨_,rfl⟩ ⟨_,Am h _,yI _⟩ fun o' ho' _ => ?_;rw [Am h _] at ho';cases ho';exact ⟨w.heap.size,0,by rw [← hr.heap.len];exact Am κ _,by simp,rfl,by simp [AI.len]⟩
 ·cases hq
end Ab
namespace Ab
open Go
variable {R:Type} {P:Program} {B:Nat→Prop} {κ:BB} {h:Heap} {w:World}
theorem B7 {α:Type} {l:List α} {m i:Nat} {x:α} (hx:(l.take m)[i]? = some x):i<m∧l[i]? = some x:=by
 rcases yL i m with h1|h1
 ·rw [zT h1] at hx;exact ⟨h1,hx⟩
 ·simp [zS,yO.2 h1] at hx
theorem Ds {α:Type} {l:List α} {m i:Nat} {x:α} (hi:i<m) (hx:l[i]? = some x):(l.take m)[i]? = some x:=by rw [zT hi];exact hx
theorem Ex.take {m b:Nat} (hx:Ex (κ.take m) (h.take m) b):Ex κ h b:=by obtain ⟨i,base,o,h1,h2,h3⟩:=hx;exact ⟨i,base,o,(B7 h1).2,(B7 h2).2,h3⟩
theorem AQ.EF {m:Nat} {x:AV} {v:Value} (hv:AQ B κ h w x v) (hr:Refs m x):AQ B (κ.take m) (h.take m) w x v:=by
 induction hv with
 |undef v=>exact .undef v
 |t y v ht=>exact .t y v (ht.less fun b hb=>hb.imp id Ex.take)
 |nilsl a=>exact .nilsl a
 |ptr i off b base hk hb=>
  cases hr with
  |ptr _ _ hi=>obtain ⟨cs,hcs⟩:=hb;exact .ptr _ _ _ _ (Ds hi hk) ⟨cs,Ds hi hcs⟩
 |rptr i ver k off v h1 hex hv=>
  cases hr with
  |rptr _ _ _ _ hi=>
   obtain ⟨o,ho,hver⟩:=hex;refine .rptr _ _ _ _ _ h1 ⟨o,Ds hi ho,hver⟩ fun o' ho' he => ?_;obtain ⟨b,base,e0,e1⟩:=hv o' (B7 ho').2 he;exact ⟨b,base,Ds hi e0,e1⟩
 |eptr size cells off b base u h1 h2 h3 h4 h5=>exact .eptr _ _ _ _ _ u h1 h2 (fun hh=>h3 (hh.imp id Ex.take)) h4 fun c y hy=>(h5 c y hy).less fun b hb=>hb.imp id Ex.take
 |sref i ver off len v h1 hex hs=>
  cases hr with
  |sref _ _ _ _ hi=>
   obtain ⟨o,ho,hver⟩:=hex;exact .sref _ _ _ _ _ h1 ⟨o,Ds hi ho,hver⟩ fun k o' hk ho' he=>hs k o' (B7 hk).2 (B7 ho').2 he
 |bsl i off len size cap b hk hb hl=>
  cases hr with
  |bsl _ _ _ _ hi=>obtain ⟨cs,hcs,hc⟩:=hb;exact .bsl _ _ _ _ _ _ (Ds hi hk) ⟨cs,Ds hi hcs,hc⟩ hl
 |yld i b base hk hb=>
  cases hr with
  |yld _ hi=>obtain ⟨l,hl⟩:=hb;exact .yld _ _ _ (Ds hi hk) ⟨l,Ds hi hl⟩
 |func fn first captured fs cs h1 h2 _ _ i1 i2=>
  cases hr with
  |func _ _ _ r1 r2=>exact .func _ _ _ _ _ h1 h2 (fun j x hx=>i1 j x hx (r1 j x hx)) (fun j x hx=>i2 j x hx (r2 j x hx))
 |agg xs vs h1 _ ih=>
  cases hr with
  |agg _ r1=>exact .agg _ _ h1 fun j x hx=>ih j x hx (r1 j x hx)
 |tuple xs vs h1 _ ih=>
  cases hr with
  |tuple _ r1=>exact .tuple _ _ h1 fun j x hx=>ih j x hx (r1 j x hx)
theorem Ez {α:Type} {p:α→Bool} {l:List α} (hl:l.all p=true) {j:Nat} {x:α} (hx:l[j]? = some x):p x=true:=
 (zG.1 hl) x (yA hx)
theorem D5:∀(d:Nat) {m:Nat} {x:AV},below d m x=true→Refs m x
 |0,m,x,hb=>by simp [below] at hb
 |d+1,m,x,hb=>by
  cases x with
  |undef=>exact .undef
  |t y=>exact .t y
  |nilsl=>exact .nilsl
  |eptr a b c=>exact .eptr _ _ _
  |ptr i off=>exact .ptr _ _ (by simpa [below] using hb)
  |rptr i v k o=>exact .rptr _ _ _ _ (by simpa [below] using hb)
  |sref i v k o=>exact .sref _ _ _ _ (by simpa [below] using hb)
  |bsl i v k o=>exact .bsl _ _ _ _ (by simpa [below] using hb)
  |yld i=>exact .yld _ (by simpa [below] using hb)
  |func fn f c=>
   simp only [below,zC] at hb;exact .func _ _ _ (fun j x hx=>D5 d (Ez hb.1 hx)) (fun j x hx=>D5 d (Ez hb.2 hx))
  |agg cs=>simp only [below] at hb;exact .agg _ fun j x hx=>D5 d (Ez hb hx)
  |tuple cs=>simp only [below] at hb;exact .tuple _ fun j x hx=>D5 d (Ez hb hx)
theorem Refs.mono {m m':Nat} (hm:m≤m') {x:AV} (hx:Refs m x):Refs m' x:=by
 induction hx with
 |undef=>exact .undef
 |t y=>exact .t y
 |nilsl=>exact .nilsl
 |ptr i o hi=>exact .ptr _ _ (yK hi hm)
 |rptr i v k o hi=>exact .rptr _ _ _ _ (yK hi hm)
 |eptr a b c=>exact .eptr _ _ _
 |sref i v k o hi=>exact .sref _ _ _ _ (yK hi hm)
 |bsl i v k o hi=>exact .bsl _ _ _ _ (yK hi hm)
 |yld i hi=>exact .yld _ (yK hi hm)
 |func fn f c _ _ i1 i2=>exact .func _ _ _ i1 i2
 |agg xs _ ih=>exact .agg _ ih
 |tuple xs _ ih=>exact .tuple _ ih
theorem HA.EF {m:Nat} {k:Option (Nat×Nat)} {o:AI} (ho:HA B κ h w k o) (hb:H9 m o=true):HA B (κ.take m) (h.take m) w k o:=by
 cases k with
 |none=>
  cases o with
  |row f v s es=>exact ho
  |box cs=>exact ho.elim
  |loop l=>exact ho.elim
 |some p=>
  obtain ⟨b,base⟩:=p;cases o with
  |box cs=>
   obtain ⟨h0,cells,elem,hc,hs,hv⟩:=ho;exact ⟨h0,cells,elem,hc,hs,fun j y hy=>(hv j y hy).EF (D5 4 (Ez hb hy))⟩
  |row f v s es=>
   obtain ⟨hz,cells,elem,hc,hs,hl,hv⟩:=ho;exact ⟨hz,cells,elem,hc,hs,hl,fun j e c y he hy=>(hv j e c y he hy).less fun b hb=>hb.imp id Ex.take⟩
  |loop l=>
   obtain ⟨f,tmps,hc,hs,hv,hrf,hd,hn⟩:=ho;have hle:l.hl≤m:=by simpa [H9] using hb
   exact ⟨f,tmps,hc,hs,fun i=>(hv i).EF ((hrf i).mono hle),hrf,hd,fun he=>hn he.take⟩
theorem Ap.EF {m:Nat} (hh:Ap B κ h w) (hb:(h.take m).all (H9 m)=true):Ap B (κ.take m) (h.take m) w:=
  ⟨by simp [hh.len],fun i j b bs bs' hi hj=>hh.inj i j b bs bs' (B7 hi).2 (B7 hj).2,fun i b bs hi=>hh.notB i b bs (B7 hi).2,fun i b bs hi=>hh.lt i b bs (B7 hi).2,hh.ltB,
   fun i o k ho hk=>(hh.obj i o k (B7 ho).2 (B7 hk).2).EF (Ez hb ho)⟩
theorem Ext.EF {κ':BB} {h':Heap} {w':World} (x:Ext κ h w κ' h' w') {m:Nat} (hm:h.length≤m):Ext κ h w (κ'.take m) (h'.take m) w' where
 os:=x.os
 tape:=x.tape
 output:=x.output
 size:=x.size
 keep:=x.keep
 ex:=fun b hb=>x.ex b hb.take
 obj:=fun i o ho=>by obtain ⟨o',h1,h2⟩:=x.obj i o ho;exact ⟨o',Ds (yK (AU ho) hm) h1,h2⟩
 kap:=fun i o o' ho ho' hv=>by rw [zT (yK (AU ho) hm)];exact x.kap i o o' ho (B7 ho').2 hv
 cells:=fun i o o' ho ho' hv b base hk cells elem fr hc=>x.cells i o o' ho (B7 ho').2 hv b base hk cells elem fr hc
theorem Rt {x0 x:Tree} (hs:XW x0 x=true):Ru x0 x=x:=by
 cases x0 with
 |int k n=>exact (Pb hs).symm
 |bool b=>exact (Nn hs).symm
 |str b=>exact (PZ hs).symm
 |sl a b=>exact (SP hs).symm
 |const v=>rfl
 |mp k m=>rfl
theorem NA (d:Nat) (ih:∀{v v':AV},HU d v v'=true→v=v'):∀{a b:List AV},HU.sameL d a b=true→a=b
 |[],[],_=>rfl
 |[],_::_,h=>by simp [HU.sameL] at h
 |_::_,[],h=>by simp [HU.sameL] at h
 |x::a,y::b,h=>by simp only [HU.sameL,zC] at h;rw [ih h.1,NA d ih h.2]
theorem Hv:∀(d:Nat) {v v':AV},HU d v v'=true→v=v'
 |0,v,v',h=>by simp [HU] at h
 |d+1,v,v',h=>by
  unfold HU at h;split at h
  ·simp only [zC,beq_iff_eq] at h;rw [h.1,h.2]
  ·simp only [beq_iff_eq] at h;rw [h]
  ·rfl
  ·simp only [zC,beq_iff_eq] at h;rw [h.1.1,NA d (Hv d) h.1.2,NA d (Hv d) h.2]
  ·cases h
theorem H4 {v0 v:AV} (hs:JS v0 v=true):Fi v0 v=v:=by
 cases v0 with
 |t x=>
  simp only [JS,zC] at hs;cases v with
  |t y=>
   simp only [Fi,AE] at hs ⊢;rw [Rt hs.2]
  |_=>simp [isT] at hs
 |sref r a b c=>cases v<;>simp_all [JS,Fi,E3,HS,HT]
 |rptr r a b c=>cases v<;>simp_all [JS,Fi,E3]
 |ptr i o=>exact Hv 4 hs
 |yld i=>exact Hv 4 hs
 |func f a b=>exact Hv 4 hs
 |_=>rfl
theorem E7:∀{cs0 cs:List AV} (pre:List AV),D2 cs0 cs=true→C8 (.box (pre++cs)) cs0 pre.length=cs
 |[],[],pre,_=>rfl
 |[],c::cs,pre,hs=>by simp [D2] at hs
 |c0::cs0,[],pre,hs=>by simp [D2] at hs
 |c0::cs0,c::cs,pre,hs=>by
  simp only [D2,zC] at hs;have ih:=E7 (pre++[c]) hs.2;simp only [zH,yC,zV,zW,zX,yR] at ih;have hc:cellOf (.box (pre++c::cs)) pre.length=c:=by simp [cellOf]
  simp only [C8,hc,H4 hs.1,ih]
theorem Rv {v0 v:AV} (hs:M7 v0 v=true):H6 v0 v=v:=by
 cases v0 with
 |agg cs0=>
  simp only [M7,zC] at hs;cases v with
  |agg cs=>
   simp only [H6,Dj] at hs ⊢;rw [show C8 (.box cs) cs0 0=cs from E7 [] hs.2]
  |_=>simp [isAgg] at hs
 |_=>
  simp only [M7] at hs;simp only [H6];exact H4 hs
theorem NJ {o0 o:AI} (hs:EG o0 o=true) (hf:o0.MH=true→o=o0) (hrec:o0.kind=1→o.rec? = o0.rec?) (hfx:GD o0=true→o=o0):reshape o0 o=o:=by
 by_cases hfo:GD o0=true
 ·have:=hfx hfo;subst this;cases o with
  |box cs=>simp only [reshape,hfo,if_true]
  |_=>simp [GD] at hfo
 cases o0 with
 |box cs0=>
  cases o with
  |box cs=>simp only [EG,or_eq_true,hfo,zD,false_or] at hs;simp only [reshape,if_neg hfo];rw [show C8 (.box cs) cs0 0=cs from E7 [] hs]
  |row a b c d=>simp [EG] at hs
  |loop l=>simp [EG] at hs
 |row f v s es=>
  cases f with
  |true=>rw [hf rfl];rfl
  |false=>
   cases o with
   |box cs=>simp [EG] at hs
   |loop l=>simp [EG] at hs
   |row f' v' s' es'=>
    simp only [EG,zC,not_eq_true',or_eq_true,beq_iff_eq] at hs;obtain ⟨rfl,hs⟩:=hs;simp only [reshape,AI.ver,AI.size,Be];rcases hs with rfl|rfl
    ·simp
    ·split<;>simp_all
 |loop l0=>
  cases o with
  |box cs=>simp [EG] at hs
  |row a b c d=>simp [EG] at hs
  |loop l=>
   have hrec:=hrec rfl;simp only [AI.rec?,Option.some.injEq] at hrec;simp only [EG,zC,beq_iff_eq,Option.isNone_iff_eq_none] at hs;simp only [reshape];cases l;cases l0;simp_all
theorem Oq {o0 o o':AI} (hs:still o0=true):reshape o0 o=reshape o0 o':=by
 cases o0 with
 |box cs=>have hs:GD (.box cs)=true:=hs;simp only [reshape,hs,if_true]
 |row f v s es=>cases f with
  |true=>rfl
  |false=>cases hs
 |loop l=>rfl
theorem Mp:∀{h0 h:Heap} (pre:Heap),Ht h0 h=true→(∀(i:Nat) (o0 o:AI),h0[i]? = some o0→h[i]? = some o→(o0.MH=true→o=o0)∧(o0.kind=1→o.rec? = o0.rec?)∧(GD o0=true→o=o0))→
  ∀(rest:Heap),CI h0 pre.length (pre++(XU h0 h++rest))=h.take h0.length
 |[],h,pre,_,_,rest=>by simp [CI]
 |o0::h0,[],pre,hs,_,rest=>by simp [Ht] at hs
 |o0::h0,o::h,pre,hs,hx,rest=>by
  simp only [Ht,zC] at hs;have ih:=Mp (h0:=h0) (h:=h) (pre++[if still o0 then .box [] else o]) hs.2 (fun i a b ha hb=>hx (i+1) a b (by simpa using ha) (by simpa using hb)) rest;simp only [zH,yC,zV,zW,zX,yR] at ih;obtain ⟨h1,h2,h3⟩:=hx 0 o0 o rfl rfl;simp only [CI,XU,zW,List.take_succ_cons,cons_append];rw [ih];have hg:(pre++(if still o0 then .box [] else o)::(XU h0 h++rest)).getD pre.length default=(if still o0 then .box [] else o):=by simp [List.getD]
  rw [hg];by_cases hst:still o0=true
  ·rw [Oq hst (o':=o),NJ hs.1 h1 h2 h3]
  ·rw [if_neg hst,NJ hs.1 h1 h2 h3]
theorem Lc {r:R}:∀{h0 h:Heap} {a:Option R},WW h0 h a=some r→a=some r∧∀(i:Nat) (o0 o:AI),h0[i]? = some o0→h[i]? = some o→GD o0=true→o=o0
 |[],h,a,hr=>⟨hr,fun i o0 o h0=>by simp at h0⟩
 |o0::h0,[],a,hr=>by simp [WW] at hr
 |o0::h0,o::h,a,hr=>by
  unfold WW at hr;split at hr
  ·unfold Al at hr;split at hr
   ·rename_i he;obtain ⟨h1,h2⟩:=Lc hr;refine ⟨h1,fun i x y hx hy hf => ?_⟩;cases i with
    |zero=>simp at hx hy;rw [← hx,← hy,he]
    |succ i=>exact h2 i x y (by simpa using hx) (by simpa using hy) hf
   ·cases hr
  ·rename_i hn;obtain ⟨h1,h2⟩:=Lc hr;refine ⟨h1,fun i x y hx hy hf => ?_⟩;cases i with
   |zero=>simp at hx;rw [← hx] at hf;exact absurd hf hn
   |succ i=>exact h2 i x y (by simpa using hx) (by simpa using hy) hf
theorem Vb {h0 h':Heap} {K:Heap→Option R} {r:R} (hr:EC h0 h' K=some r) (hx:∀(i:Nat) (o0 o:AI),h0[i]? = some o0→h'[i]? = some o→(o0.MH=true→o=o0)∧(o0.kind=1→o.rec? = o0.rec?)) :
  ∃hs,K hs=some r∧CI h0 0 hs=h'.take h0.length∧(h'.take h0.length).all (H9 h0.length)=true:=by
 unfold EC at hr
 try simp only [AB] at hr
 obtain ⟨⟨h1,h2⟩,h3⟩:=AG hr;obtain ⟨h3,h4⟩:=Lc h3;refine ⟨_,h3,?_,h1⟩;have:=Mp [] h2 (fun i o0 o ha hb=>⟨(hx i o0 o ha hb).1,(hx i o0 o ha hb).2,h4 i o0 o ha hb⟩) [];simpa using this
theorem MB {P:Program}:∀{ts:List TypeId} {vs:List AV} (pre:List AV),BH P ts vs=true→H5 P (pre++vs) ts pre.length=vs
 |[],[],pre,_=>rfl
 |[],v::vs,pre,h=>by simp [BH] at h
 |t::ts,[],pre,h=>by simp [BH] at h
 |t::ts,v::vs,pre,h=>by
  simp only [BH,zC] at h;have ih:=MB (pre++[v]) h.2;simp only [zH,yC,zV,zW,zX,yR] at ih;have hc:(pre++v::vs).getD pre.length .undef=v:=by simp
  simp only [H5,hc,H4 h.1.2,ih]
theorem Rh {P:Program}:∀{ts:List TypeId} {vs:List AV},BH P ts vs=true→∀(i:Nat) (m:Nat),Refs m (vs.getD i .undef)
 |[],[],_,i,m=>by simp;exact .undef
 |[],v::vs,h,_,_=>by simp [BH] at h
 |t::ts,[],h,_,_=>by simp [BH] at h
 |t::ts,v::vs,h,i,m=>by
  simp only [BH,zC] at h;cases i with
  |zero=>
   have h1:=h.1.1;cases v<;>first|(exact .t _)|(simp [isT] at h1)
  |succ i=>simpa using Rh h.2 i m
theorem PK {h:Heap}:∀{ls:List AV} {i v:Nat},GA h ls=some (i,v)→∃s es,h[i]? = some (.row false v s es)
 |[],i,v,hr=>by simp [GA] at hr
 |x::ls,i,v,hr=>by
  cases x with
  |sref j a b c=>
   simp only [GA] at hr;split at hr
   ·rename_i v' s es hj;cases hr;exact ⟨s,es,hj⟩
   ·cases hr
  |_=>exact PK (ls:=ls) hr
theorem IG {i:Nat}:∀(ls:List AV) (h:Heap),Qd i ls=true→∀j,j≠i→(AX h ls)[j]? = h[j]?
 |[],h,_,j,_=>rfl
 |x::ls,h,ho,j,hj=>by
  simp only [Qd,zF,zC] at ho;show (AX (EM h x) ls)[j]? = h[j]?;rw [IG ls (EM h x) ho.2 j hj];cases x with
  |sref k a b c=>
   have hk:k=i:=by simpa using ho.1
   simp only [EM];split
   ·rw [List.getElem?_set_ne (by omega)]
   ·rfl
  |_=>rfl
theorem Pj {κ':BB} {h':Heap} {w':World} (x:Ext κ h w κ' h' w') (i:Nat) (o0 o:AI) (h0:h[i]? = some o0) (h1:h'[i]? = some o):(o0.MH=true→o=o0)∧(o0.kind=1→o.rec? = o0.rec?):=by obtain ⟨o',h2,h3⟩:=x.obj i o0 h0;rw [h1] at h2;cases h2;exact ⟨h3.2.2.2.1,fun _=>h3.2.2.2.2.2⟩
end Ab
namespace Ab
open Go
variable {R:Type} {P:Program} {B:Nat→Prop} {κ:BB} {h:Heap} {w:World}
theorem Co {x:AV} {xs:List AV} {v:Value} {vs:List Value} (h1:AQ B κ h w x v) (h2:AW B κ h w xs vs.toArray):AW B κ h w (x::xs) (v::vs).toArray:=by
 refine ⟨by simpa using h2.1,fun j y hy => ?_⟩;cases j with
 |zero=>simp at hy;subst hy;simpa using h1
 |succ j=>
  have:=h2.2 j y (by simpa using hy);rw [Bh] at this ⊢;simpa using this
theorem Md {x:AV} {xs:List AV} {vs:Array Value} (hc:AW B κ h w (x::xs) vs):∃v rest,vs=(v::rest).toArray∧AQ B κ h w x v∧AW B κ h w xs rest.toArray:=by
 obtain ⟨l⟩:=vs;cases l with
 |nil=>have:=hc.1;simp at this
 |cons v rest=>
  refine ⟨v,rest,rfl,by simpa using hc.2 0 x rfl,by simpa using hc.1,fun j y hy => ?_⟩;have:=hc.2 (j+1) y (by simpa using hy);have e1:({toList:=v::rest}:Array Value)=(v::rest).toArray:=rfl;rw [e1,Bh] at this;rw [Bh];simpa using this
theorem Et (leaf:Nat→AV) (off n j:Nat) (hj:j<n):(BV leaf off n)[j]? = some (leaf (off+j)):=by simp [BV,hj]
theorem KX:∀{ts:List TypeId} {avs:List AV} {K:List AV→Option R} {r:R} {vs:Array Value},Dt P ts avs K=some r→AW B κ h w avs vs→
  ∃(ls:List AV) (us:List Value),K ls=some r∧AW B κ h w ls us.toArray∧
   ∀(B':Nat→Prop) (κ':BB) (h':Heap) (w':World) (leaf:Nat→AV) (off:Nat),(∀j u,us[j]? = some u→AQ B' κ' h' w' (leaf (off+j)) u)→∃avs',Cn P leaf ts off=some avs'∧AW B' κ' h' w' avs' vs
 |[],[],K,r,vs,hr,hc=>by have e:vs = #[]:=zA hc.1;subst e;exact ⟨[],[],hr,⟨rfl,fun j x hx=>by simp at hx⟩,fun B' κ' h' w' leaf off _=>⟨[],rfl,rfl,fun j x hx=>by simp at hx⟩⟩
 |[],x::avs,K,r,vs,hr,hc=>by simp [Dt] at hr
 |t::ts,[],K,r,vs,hr,hc=>by simp [Dt] at hr
 |t::ts,x::avs,K,r,vs,hr,hc=>by
  obtain ⟨v,rest,rfl,hv,hrest⟩:=Md hc;simp only [Dt,AB] at hr;split at hr
  ·rename_i ha;split at hr
   ·rename_i cs;obtain ⟨hsz,hr1⟩:=AG hr;obtain ⟨ls,us,h1,h2,h3⟩:=KX hr1 hrest;cases hv with
    |agg _ arr hs hall=>
     refine ⟨cs++ls,arr.toList++us,h1,⟨by simpa [hs] using h2.1,fun j y hy => ?_⟩,fun B' κ' h' w' leaf off hl => ?_⟩
     ·rw [Bh];rcases yL j cs.length with hj|hj
      ·rw [zK hj] at hy;have:=hall j y hy;have hj':j<arr.toList.length:=by simp [hs];exact hj
       simp only [List.getD];rw [zK hj'];have hj2:j<arr.size:=by rw [hs];exact hj
       simp only [Array.getD,hj2,dif_pos] at this;simpa [hj2] using this
      ·rw [zL hj] at hy;have:=h2.2 _ y hy;rw [Bh] at this;simp only [List.getD] at this ⊢;rw [zL (by simp [hs];exact hj)];simpa [hs] using this
     ·obtain ⟨avs',e1,e2⟩:=h3 B' κ' h' w' leaf (off+cs.length) fun j u hu=>by have:=hl (cs.length+j) u (by rw [zL (by simp [hs])];simpa [hs] using hu);rwa [← yE] at this
      refine ⟨.agg (BV leaf off cs.length)::avs',?_,Co (.agg _ _ (by simp [BV,hs]) fun j y hy => ?_) e2⟩
      ·simp only [Cn,JI,ha,hsz,e1,yT]
      ·have hj:j<cs.length:=by have:=AU hy;simpa [BV] using this
       rw [Et leaf off _ _ hj] at hy;cases hy;have hj2:j<arr.size:=by rw [hs];exact hj
       exact hl j _ (by rw [zK (by simpa using hj2)];simp [Array.getD,hj2])
   ·cases hr
  ·rename_i ha;obtain ⟨hlf,hr1⟩:=AG hr;obtain ⟨ls,us,h1,h2,h3⟩:=KX hr1 hrest;refine ⟨x::ls,v::us,h1,Co hv h2,fun B' κ' h' w' leaf off hl => ?_⟩;obtain ⟨avs',e1,e2⟩:=h3 B' κ' h' w' leaf (off+1) fun j u hu=>by have:=hl (j+1) u (by simpa using hu);rwa [show off+(j+1)=off+1+j from by omega] at this
   refine ⟨leaf off::avs',?_,Co (by simpa using hl 0 v rfl) e2⟩;cases hsz:B3 P t<;>simp only [Cn,JI,ha,hsz,e1,yT]
  ·cases hr
def LJ (vs:Array Value):Value:=if h:vs.size=1 then vs[0] else .tuple vs
theorem YO {g:FuncId} {fn:Func} (hf:P.funcs[g]? = some fn) {leaf:Nat→AV} {avs:List AV} (hm:Cn P leaf fn.resultTypes.toList 0=some avs) {vs:Array Value} (hc:AW B κ h w avs vs) :
  ∃r,DC P g leaf=some r∧AQ B κ h w r (LJ vs):=by
 unfold DC;rw [hf];simp only [hm];cases avs with
 |nil=>
  refine ⟨_,rfl,?_⟩;have:¬vs.size=1:=by rw [hc.1];simp
  unfold LJ;rw [dif_neg this];exact .tuple _ _ hc.1 hc.2
 |cons x rest=>
  cases rest with
  |nil=>
   refine ⟨x,rfl,?_⟩;have h1:vs.size=1:=by rw [hc.1];simp
   unfold LJ;rw [dif_pos h1];have:=hc.2 0 x rfl;simpa [Array.getD,h1] using this
  |cons y rest=>
   refine ⟨_,rfl,?_⟩;have:¬vs.size=1:=by rw [hc.1];simp
   unfold LJ;rw [dif_neg this];exact .tuple _ _ hc.1 hc.2
def Fr (ro:Option Nat):Fence:={fn:=fun _=>True,depth:=none,alive:=false,round:=ro}
def Zf {R:Type} (P:Program) (g:FuncId) (avs:List AV) (h:Heap) (K:List AV→Heap→Option R) (res:R):Prop:=
 ∀(B:Nat→Prop) (κ:BB) (w:World) (vs:Array Value) (n:Nat),Ap B κ h w→AW B κ h w avs vs→
  CallsIn (Fr none) n P g vs w fun e w'=>∃v r κ' rs h',e = .returned v∧K rs h'=some res∧DC P g (fun i=>rs.getD i .undef)=some r∧AQ B κ' h' w' r v∧Ap B κ' h' w'∧Ext κ h w κ' h' w'
structure RR (w w':World):Prop where
 os:w'.os=w.os
 tape:w'.tape=w.tape
 output:w'.output=w.output
 size:w.heap.size≤w'.heap.size
 block:∀b,b<w.heap.size→w'.heap[b]? = w.heap[b]?
def Lt (P:Program) (g:FuncId) (xs ys:List Tree):Prop:=
 ∀(B:Nat→Prop) (w:World) (avs:List AV) (vs:Array Value) (n:Nat),Dm P g (fun i =>.t (xs.getD i default))=some avs→(∀b,B b→b<w.heap.size)→AW B [] [] w avs vs→
  CallsIn (Fr none) n P g vs w fun e w'=>∃v r,e = .returned v∧DC P g (fun i =>.t (ys.getD i default))=some r∧AQ B [] [] w' r v∧RR w w'∧(CZ P g=true→ys.all Tree.scalar=true)
def Vf {R:Type} (P:Program) (i:Nat) (args:List AV) (h:Heap) (K:List AV→Heap→Option R) (res:R):Prop:=
 ∀(B:Nat→Prop) (κ:BB) (w:World) (vs:Array Value) (b base n:Nat),Ap B κ h w→AW B κ h w args vs→κ[i]? = some (some (b,base))→
  ∃(f:FuncId) (tmps:Array Value) (assign body:Code),(Instr.yield b vs).run P w = .ok (.round b f tmps assign body) w∧
   RoundIn (Fr none) n P b f tmps assign body w fun e w'=>∃v κ' rs h',e = .returned v∧K rs h'=some res∧AQ B κ' h' w' (rs.getD 0 .undef) v∧Ap B κ' h' w'∧Ext κ h w κ' h' w'
def EB (P:Program) (rec:Rec):Prop:=∀(R:Type) (r:Req) (h:Heap) (K:List AV→Heap→Option R) (res:R),rec R r h K=some res→match r with
 | .fn g avs=>Zf P g avs h K res
 | .yield i args=>Vf P i args h K res
def NewSl (B:Nat→Prop) (w w':World) (s:Nat) (es:List (List Tree)) (v:Value):Prop:=
 (es=[]∧∃a,v = .slice a 0 0)∨∃b base cap cells elem,v = .slice (some ⟨b,base,none⟩) es.length cap∧es.length≤cap∧w.heap.size≤b∧b<w'.heap.size∧s≠0∧w'.heap[b]? = some (.cells cells elem (0,0))∧base+cap*s≤cells.size∧
  (∀(j:Nat) (e:List Tree),es[j]? = some e→e.length=s)∧∀(j:Nat) (e:List Tree) (c:Nat) (x:Tree),es[j]? = some e→e[c]? = some x→Bp w' (fun b'=>B b'∨b'=b) x (cells.getD (base+(j*s+c)) undef)
def OwnOk (P:Program) (g:FuncId) (xs ys:List Tree):Prop:=
 ∀(B:Nat→Prop) (w:World) (avs:List AV) (vs:Array Value) (n:Nat),Dm P g (fun i =>.t (xs.getD i default))=some avs→(∀b,B b→b<w.heap.size)→AW B [] [] w avs vs→
  CallsIn (Fr none) n P g vs w fun e w'=>∃v s es,e = .returned v∧ys=[.sl s es]∧RR w w'∧NewSl B w w' s es v
def ZJ (u:Value) (b:Nat):Prop:=∃off n cap,u = .slice (some ⟨b,off,none⟩) n cap∧0<cap
def ZH (P:Program) (j:Nat) (g:FuncId) (xs ys:List Tree):Prop:=
 ∀(B:Nat→Prop) (w:World) (avs:List AV) (vs:Array Value) (n:Nat),Dm P g (fun i =>.t (xs.getD i default))=some avs→(∀b,B b→b<w.heap.size)→AW B [] [] w avs vs→
  CallsIn (Fr none) n P g vs w fun e w'=>∃(v:Value) (us:List Value) (z:Nat) (es:List (List Tree)) (u:Value),e = .returned v∧RR w w'∧ys[j]? = some (.sl z es)∧us.length=ys.length∧us[j]? = some u∧NewSl B w w' z es u∧
   (∀(i:Nat) (y:Tree) (x:Value),i≠j→ys[i]? = some y→us[i]? = some x→Bp w' (fun b=>B b∨ZJ u b) y x)∧
   ∀(B2:Nat→Prop) (κ2:BB) (h2:Heap) (w2:World) (leaf:Nat→AV),(∀i x,us[i]? = some x→AQ B2 κ2 h2 w2 (leaf i) x)→∃rv,DC P g leaf=some rv∧AQ B2 κ2 h2 w2 rv v
def CW (P:Program) (pc:BN):Prop:=∀g xs ys,pc g xs=some ys→if g<OWN then Lt P g xs ys else if g<G9 then OwnOk P (g-OWN) xs ys else ZH P ((g-G9) % 64) ((g-G9) / 64) xs ys
theorem CallsIn.fr {ro:Option Nat} {n:Nat} {g:FuncId} {vs:Array Value} {Q:Ending→World→Prop} (hc:CallsIn (Fr none) n P g vs w Q):CallsIn (Fr ro) n P g vs w Q:=hc
theorem RoundIn.fr {ro:Option Nat} {n b:Nat} {g:FuncId} {vs:Array Value} {x y:Code} {Q:Ending→World→Prop} (hc:RoundIn (Fr none) n P b g vs x y w Q):RoundIn (Fr ro) n P b g vs x y w Q:=hc
theorem Jb {B:Nat→Prop} {w:World} (hB:∀b,B b→b<w.heap.size):Ap B [] [] w:=
 ⟨rfl,fun i j b bs bs' hi=>by simp at hi,fun i b bs hi=>by simp at hi,fun i b bs hi=>by simp at hi,hB,fun i o k ho=>by simp at ho⟩
theorem Du {b:Nat} (hx:Ex [] [] b):False:=by obtain ⟨i,base,o,hk,_⟩:=hx;simp at hk
theorem IF {w':World} (hh:Ap B κ h w) (g:RR w w'):Ext κ h w κ h w':=N4 hh g.os g.tape g.output g.size g.block
theorem Iv {w':World} (hh:Ap B κ h w) (g:RR w w'):Ap B κ h w':=It hh (IF hh g) g.block
theorem Nz (hh:Ap B κ h w) (v:AV):Ap B κ (EM h v) w∧Ext κ h w κ (EM h v) w:=by
 unfold EM;split
 ·rename_i i _ _ _;split
  ·rename_i f ver s es hi;by_cases hf:f=true
   ·subst hf;have:h.set i (.row true ver s es)=h:=by
     apply zJ;intro j;by_cases hij:j=i
     ·rw [hij,As hi,hi]
     ·rw [DM hij]
    rw [this];exact ⟨hh,Ext.refl _ _ _⟩
   ·have hf':f=false:=by simpa using hf
    subst hf';obtain ⟨k,hk⟩:=CE hh hi;have hset:κ.set i k=κ:=by
     apply zJ;intro j;by_cases hij:j=i
     ·rw [hij,As hk,hk]
     ·rw [DM hij]
    have x:Ext κ h w κ (h.set i (.row true ver s es)) w:=by
     have x':Ext κ h w (κ.set i k) (h.set i (.row true ver s es)) w:=
      C5 (o' :=.row true ver s es) (k':=k) (w':=w) hh hi rfl ⟨rfl,yI _,(fun _=>⟨rfl,rfl⟩),(fun e=>by cases e),(fun e=>by cases e),rfl⟩ hk rfl rfl rfl (yI _) (fun _ _ _=>rfl)
       (fun b base e =>.inl ⟨base,e⟩) (fun _=>⟨rfl,fun b base _ cells elem fr hc=>⟨cells,hc,rfl⟩⟩)
     rw [hset] at x';exact x'
    refine ⟨?_,x⟩;have ho:=hh.obj i _ _ hi hk;have hh':Ap B (κ.set i k) (h.set i (.row true ver s es)) w:=
     CN hh hi hk (fun _ _ _=>rfl) (fun b base e=>⟨.inl ⟨base,e⟩,hh.lt i b base (by rw [hk,e])⟩) (by rw [hset];exact x) (by
      rw [hset];cases k with
      |none=>exact ho
      |some p=>
       obtain ⟨b,base⟩:=p;obtain ⟨hz,cells,elem,hc,hs,hl,ht⟩:=ho;exact ⟨hz,cells,elem,hc,hs,hl,fun j e c y he hy=>(ht j e c y he hy).ext x⟩)
    rw [hset] at hh';exact hh'
  ·exact ⟨hh,Ext.refl _ _ _⟩
 ·exact ⟨hh,Ext.refl _ _ _⟩
theorem G2:∀(vs:List AV) {h:Heap},Ap B κ h w→Ap B κ (AX h vs) w∧Ext κ h w κ (AX h vs) w
 |[],h,hh=>⟨hh,Ext.refl _ _ _⟩
 |v::vs,h,hh=>by obtain ⟨h1,x1⟩:=Nz hh v;obtain ⟨h2,x2⟩:=G2 vs h1;exact ⟨h2,x1.trans x2⟩
theorem TO {x:Tree} {v:Value} {A A':Nat→Prop} {w w':World} (hs:x.scalar=true) (ht:Bp w A x v):Bp w' A' x v:=by
 cases ht with
 |int k n=>exact .int k n
 |bool b=>exact .bool b
 |str s=>exact .str s
 |const v _=>simp [Tree.scalar] at hs
 |mp _ _ _ _ _ _ _ _ _=>simp [Tree.scalar] at hs
 |nil _ _ _=>simp [Tree.scalar] at hs
 |sl _ _ _ _ _ _ _ _ _ _ _ _=>simp [Tree.scalar] at hs
end Ab
namespace Go.Proofs
open Go.Shelf Go.RowKit Go.Lib
variable {P:Program} {ρ:Ren}
set_option maxHeartbeats 4000000 in
set_option maxRecDepth 100000 in
theorem WS {z:Nat} (L:HR P ρ z) (b off n c i vb voff m vc:Nat) (cs vs:List Value) (w:World) (hi:i<n) (hm:0<m) (hroom:n+m≤c) (hc63:n+m≤9223372036854775807) (hvb:vb≠b)
  (hcl:cs.length=n*z) (hvl:vs.length=m*z)
  (hcs:∀j v,cs[j]? = some v→w.cell? ⟨b,off+j,none⟩=some v) (hsp:∀j,j<(n+m)*z→(w.cell? ⟨b,off+j,none⟩).isSome=true) (hfz:∀j,w.frozen? ⟨b,j,none⟩=false)
  (hvs:∀j v,vs[j]? = some v→w.cell? ⟨vb,voff+j,none⟩=some v) (h1c:∀v∈cs,v.oneCell'=true) (h1v:∀v∈vs,v.oneCell'=true)
  (tA tB:TypeId) (kA kB:Nat) (hsa:w.shape? vb=some (tA,kA)) (hsb:w.shape? b=some (tB,kB)) (hkA:kA≠0) :
  Calls P (ρ.f 22) #[.slice (some ⟨b,off,none⟩) n c,.int .i64 i,.slice (some ⟨vb,voff,none⟩) m vc] w fun e w'=>
   e = .returned (.slice (some ⟨b,off,none⟩) (n+m) c)∧w'=(w.drew.setCells b (off+(i+m)*z) (cs.drop (i*z))).setCells b (off+i*z) vs:=by
 have t3:=L.t3;have a3:=L.a3;have z3:=L.z3;have v3:=L.v3;have t4:=L.t4;have a4:=L.a4;have z4:=L.z4;have v4:=L.v4;have t24:=L.t24;have a24:=L.a24;have z24:=L.z24;have v24:=L.v24;have z9:=L.z9;have u3:=run_underlying L.t3;have u4:=run_underlying L.t4;have u24:=run_underlying L.t24;have hz1:¬((m:Int)=0):=by omega
 have hz2:¬((i:Int)=(n:Int)):=by omega
 obtain ⟨fo,hfo,ho1,ho2,ho3,ho4⟩:=L.f29;have hov:∀lb cb,(callFunc (ρ.f 29) #[.slice (some ⟨vb,voff,none⟩) m vc,.slice (some ⟨b,off+(i+m)*z,none⟩) lb cb]).run P w = .ok (.value (.bool false)) w:=fun lb cb=>by
  rw [run_callFunc_extern hfo ho1 ho2 ho3 ho4,
   LD w (ρ.t 24) (ρ.t 4) (ρ.t 9) L.t24 z L.z9 ⟨vb,voff,none⟩ ⟨b,off+(i+m)*z,none⟩ m vc lb cb hvb tA tB kA kB hsa hsb hkA (hfz _) (hfz _)]
  rfl
 have hdl:(cs.drop (i*z)).length=(n-i)*z:=by rw [length_drop,hcl,Nat.sub_mul]
 have mixed:=L.mixed;have hw1:IntKind.i64.wrap ((i:Int)+(m:Int))=(i:Int)+(m:Int):=by rw [IntKind.wrap_i64];omega
 have hb1:(0:Int)≤(i:Int)+(m:Int):=by omega
 have hin:i≤n:=by omega
 have htn:((i:Int)+(m:Int)).toNat=i+m:=by omega
 have hb2:¬(c=i+m):=by omega
 have hb3:(i:Int)≤(n:Int)+(m:Int):=by omega
 have hb4:¬(c=i):=by omega
 have hmul1:(i+m)*z+(n-i)*z=(n+m)*z:=by rw [← yG];congr 1;omega
 have hmul2:i*z+m*z≤(n+m)*z:=by rw [← yG];exact yN _ (by omega)
 have hcp1:∀ty dc sc,(Builtin.copy_ #[(ρ.t 24),(ρ.t 24)] ty #[.slice (some ⟨b,off+(i+m)*z,none⟩) (n+m-(i+m)) dc,.slice (some ⟨b,off+i*z,none⟩) (n+m-i) sc]).run P w.drew = .ok (goInt ((n-i:Nat):Int)) (w.drew.setCells b (off+(i+m)*z) (cs.drop (i*z))):=fun ty dc sc=>
  Dx w.drew _ _ ty (ρ.t 9) z b (off+(i+m)*z) (n+m-(i+m)) dc ⟨b,off+i*z,none⟩ (n+m-i) sc (n-i) (cs.drop (i*z)) L.t24 L.z9 (by simp only [min_def];split<;>omega) hdl
   (fun j v hj=>by rw [Addr.add_lit,yE];exact hcs (i*z+j) v (by rwa [zN] at hj))
   (fun j hj=>by rw [yE];exact hsp _ (by omega)) (fun j hj=>hfz _) (fun v hv=>h1c v (mem_of_mem_drop hv))
 obtain ⟨W1,hW1⟩:∃W1,W1=w.drew.setCells b (off+(i+m)*z) (cs.drop (i*z)):=⟨_,rfl⟩
 have hsp1:∀k,k<(n+m)*z→(W1.cell? ⟨b,off+k,none⟩).isSome=true:=fun k hk=>by rw [hW1];exact isSome_setCells b _ _ _ (fun j hj=>by rw [yE];exact hsp _ (by omega)) _ (hsp k hk)
 have hcp2:∀(W:World),(∀x,W.cell? x=W1.cell? x)→(∀x,W.frozen? x=W1.frozen? x)→∀ty dc,(Builtin.copy_ #[(ρ.t 24),(ρ.t 24)] ty #[.slice (some ⟨b,off+i*z,none⟩) (n+m-i) dc,.slice (some ⟨vb,voff,none⟩) m vc]).run P W = .ok (goInt m) (W.setCells b (off+i*z) vs):=fun W hWc hWf ty dc=>
  Dx W _ _ ty (ρ.t 9) z b (off+i*z) (n+m-i) dc ⟨vb,voff,none⟩ m vc m vs L.t24 L.z9 (by simp only [min_def];split<;>omega) hvl
   (fun j v hj=>by rw [Addr.add_lit,hWc,hW1,World.cell?_setCells_out b _ _ _ _ (fun h _=>absurd h hvb)];exact hvs j v hj)
   (fun j hj=>by rw [hWc,yE];exact hsp1 _ (by omega)) (fun j hj=>by rw [hWf,hW1,World.frozen?_setCells];exact hfz _) h1v
 rw [← hW1] at hcp1;clear hmul1 hmul2 hdl hsp1;obtain ⟨_,_,FG⟩:=L.f22
 go_enter FG,Body2.n22_ntmps ρ
 go_wp2_with (simp only [hov])
 go_region_law_o (refine step_copy_runI rfl _ _ (ρ.t 24) (ρ.t 24) rfl _ _ (by simp [Act.eval,Act.put]) (by simp [Act.eval,Act.put]) (hcp1 _ _ _) ?_)
 go_wp2_with (at_builtin;refine wpList_copy_runI _ rfl _ _ (ρ.t 24) (ρ.t 24) rfl _ _ rfl rfl (hcp2 _ (fun _=>rfl) (fun _=>rfl) _ _) ?_)
 go_ret
 first|exact ⟨rfl,rfl⟩|exact ⟨rfl,by rw [hW1]⟩
end Go.Proofs
