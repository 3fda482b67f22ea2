/- A part of the proof: see the last text. -/
import Derived.Test.YtehmfejagbcnbaaGreatDoorM5
import Derived.KernelRfl
import Derived.Test.YtehmfejagbcnbaaGreatDoorProg
import Derived.Deep.LoopGhost
import Derived.Deep.WholeRow
import Derived.Laws.ResultCell
import Derived.Below
import Derived.WalkKit
import Derived.Lib.Walk
import Derived.WideMake
set_option linter.unusedVariables false
set_option linter.unusedSimpArgs false
open Array (eq_empty_of_size_eq_zero getElem?_modify getElem?_push getElem?_push_lt)
open Int (le_of_lt lt_irrefl)
open List (all_eq_true drop ext_getElem? getElem?_map getElem?_range length mem_cons mem_map replicate take)
open Nat (le_refl lt_of_lt_of_le ne_of_lt zero_add)
open Option (map_some)
namespace Ab
open Go
variable {P:Program}
theorem Ta {d:Nat} {t:TypeId} {k:IntKind} (hu:P.underlying t=some (.int k)) {ts:List Tree} (h:Typed P d t ts):∃n,ts=[.int k n]∧(Lit.int k n).wf=true:=by
 cases d with
 |zero=>cases h
 |succ d=>unfold Typed at h;rw [hu] at h;exact h
theorem Q1 {d:Nat} {t:TypeId} (hu:P.underlying t=some .bool) {ts:List Tree} (h:Typed P d t ts):∃b,ts=[.bool b]:=by
 cases d with
 |zero=>cases h
 |succ d=>unfold Typed at h;rw [hu] at h;exact h
theorem EL {d:Nat} {t e:TypeId} (hu:P.underlying t=some (.slice e)) {ts:List Tree} (h:Typed P (d+1) t ts):∃es,ts=[.sl (P.cellsOf e) es]∧es.length≤maxLen∧∀x∈es,Typed P d e x:=by unfold Typed at h;rw [hu] at h;exact h
theorem OC {d:Nat} {t:TypeId} {fs:Array Field} (hu:P.underlying t=some (.struct fs)) {ts:List Tree} (h:Typed P (d+1) t ts):E6 (Typed P d) (fs.toList.map (·.type)) ts:=by unfold Typed at h;rw [hu] at h;exact h
def QI (P:Program) (t:TypeId):Option (List TypeId):=
 match P.underlying t with
 |some (.struct fs)=>some (fs.toList.map (·.type))
 |_=>none
theorem Cb {d:Nat} {t:TypeId} (l:List TypeId) (hu:QI P t=some l) {ts:List Tree} (h:Typed P (d+1) t ts):E6 (Typed P d) l ts:=by
 unfold QI at hu;split at hu
 ·rename_i fs hf;cases hu;exact OC hf h
 ·cases hu
theorem AX {Ty:TypeId→List Tree→Prop} {t:TypeId} {l:List TypeId} {ts:List Tree} (h:E6 Ty (t::l) ts):∃a b,ts=a++b∧Ty t a∧E6 Ty l b:=h
theorem Cx {Ty:TypeId→List Tree→Prop} {ts:List Tree} (h:E6 Ty [] ts):ts=[]:=h
theorem DB {α:Type} {enc:α→List Tree} {p:α→Prop}:∀{es:List (List Tree)},(∀x∈es,∃a,x=enc a∧p a)→∃l:List α,es=l.map enc∧∀a∈l,p a
 |[],_=>⟨[],rfl,by simp⟩
 |x::es,h=>by
  obtain ⟨a,ha,pa⟩:=h x (by simp);obtain ⟨l,hl,pl⟩:=DB (es:=es) fun y hy=>h y (by simp [hy]);refine ⟨a::l,by simp [ha,hl],fun b hb => ?_⟩;rcases mem_cons.1 hb with rfl|hb
  ·exact pa
  ·exact pl b hb
end Ab
set_option maxRecDepth 100000
namespace Ab
open Go Go.Proofs
theorem uInt:C.P.underlying 3=some (.int .i64):=by kernel_rfl
theorem uB:C.P.underlying 4=some .bool:=by kernel_rfl
theorem BK {d:Nat} {ts:List Tree} (h:Typed C.P d 3 ts):∃n,ts=[tI n]∧True:=by obtain ⟨n,h1,h2⟩:=Ta uInt h;exact ⟨n,h1,trivial⟩
theorem V4 {d:Nat} {ts:List Tree} (h:Typed C.P d 4 ts):∃b,ts=[.bool b]∧True:=by obtain ⟨b,h1⟩:=Q1 uB h;exact ⟨b,h1,trivial⟩
theorem QV {d:Nat} {ts:List Tree} (h:Typed C.P (d+1) 50 ts):∃e:AA,ts=e.enc∧True:=by have h1:=Cb (t:=50) [3,3,3,3,3,3,3] (by kernel_rfl) h;clear h;obtain ⟨_,t1,rfl,x1,g1⟩:=AX h1;obtain ⟨a1,rfl,_⟩:=BK x1;obtain ⟨_,t2,rfl,x2,g2⟩:=AX g1;obtain ⟨a2,rfl,_⟩:=BK x2;obtain ⟨_,t3,rfl,x3,g3⟩:=AX g2;obtain ⟨a3,rfl,_⟩:=BK x3;obtain ⟨_,t4,rfl,x4,g4⟩:=AX g3;obtain ⟨a4,rfl,_⟩:=BK x4;obtain ⟨_,t5,rfl,x5,g5⟩:=AX g4;obtain ⟨a5,rfl,_⟩:=BK x5;obtain ⟨_,t6,rfl,x6,g6⟩:=AX g5;obtain ⟨a6,rfl,_⟩:=BK x6;obtain ⟨_,t7,rfl,x7,g7⟩:=AX g6;obtain ⟨a7,rfl,_⟩:=BK x7;obtain rfl:=Cx g7;exact ⟨⟨a1,a2,a3,a4,a5,a6,a7⟩,rfl,trivial⟩
theorem QW {d:Nat} {ts:List Tree} (h:Typed C.P (d+1) 43 ts):∃e:AB,ts=e.enc∧True:=by have h1:=Cb (t:=43) [3,3,3,3] (by kernel_rfl) h;clear h;obtain ⟨_,t1,rfl,x1,g1⟩:=AX h1;obtain ⟨a1,rfl,_⟩:=BK x1;obtain ⟨_,t2,rfl,x2,g2⟩:=AX g1;obtain ⟨a2,rfl,_⟩:=BK x2;obtain ⟨_,t3,rfl,x3,g3⟩:=AX g2;obtain ⟨a3,rfl,_⟩:=BK x3;obtain ⟨_,t4,rfl,x4,g4⟩:=AX g3;obtain ⟨a4,rfl,_⟩:=BK x4;obtain rfl:=Cx g4;exact ⟨⟨a1,a2,a3,a4⟩,rfl,trivial⟩
theorem V3 {d:Nat} {ts:List Tree} (h:Typed C.P (d+1) 108 ts):∃e:AN,ts=e.enc∧True:=by have h1:=Cb (t:=108) [3,3,3,3,3] (by kernel_rfl) h;clear h;obtain ⟨_,t1,rfl,x1,g1⟩:=AX h1;obtain ⟨a1,rfl,_⟩:=BK x1;obtain ⟨_,t2,rfl,x2,g2⟩:=AX g1;obtain ⟨a2,rfl,_⟩:=BK x2;obtain ⟨_,t3,rfl,x3,g3⟩:=AX g2;obtain ⟨a3,rfl,_⟩:=BK x3;obtain ⟨_,t4,rfl,x4,g4⟩:=AX g3;obtain ⟨a4,rfl,_⟩:=BK x4;obtain ⟨_,t5,rfl,x5,g5⟩:=AX g4;obtain ⟨a5,rfl,_⟩:=BK x5;obtain rfl:=Cx g5;exact ⟨⟨a1,a2,a3,a4,a5⟩,rfl,trivial⟩
theorem dec_hop {d:Nat} {ts:List Tree} (h:Typed C.P (d+1) 59 ts):∃e:Hop,ts=e.enc∧True:=by have h1:=Cb (t:=59) [3,3,3,3] (by kernel_rfl) h;clear h;obtain ⟨_,t1,rfl,x1,g1⟩:=AX h1;obtain ⟨a1,rfl,_⟩:=BK x1;obtain ⟨_,t2,rfl,x2,g2⟩:=AX g1;obtain ⟨a2,rfl,_⟩:=BK x2;obtain ⟨_,t3,rfl,x3,g3⟩:=AX g2;obtain ⟨a3,rfl,_⟩:=BK x3;obtain ⟨_,t4,rfl,x4,g4⟩:=AX g3;obtain ⟨a4,rfl,_⟩:=BK x4;obtain rfl:=Cx g4;exact ⟨⟨a1,a2,a3,a4⟩,rfl,trivial⟩
theorem V1 {d:Nat} {ts:List Tree} (h:Typed C.P (d+2) 22 ts):∃l:List Int,ts=[.sl 1 (l.map encI)]∧True:=by obtain ⟨es,rfl,_,h2⟩:=EL (t:=22) (e:=3) (by kernel_rfl) h;obtain ⟨l,rfl,hl⟩:=DB (enc:=encI) (p:=fun _=>True) fun x hx=>BK (h2 x hx);exact ⟨l,by rw [show C.P.cellsOf 3=1 by kernel_rfl],trivial⟩
theorem Oy {d:Nat} {ts:List Tree} (h:Typed C.P (d+2) 23 ts):∃l:List AA,ts=[.sl 7 (l.map AA.enc)]∧True:=by obtain ⟨es,rfl,_,h2⟩:=EL (t:=23) (e:=50) (by kernel_rfl) h;obtain ⟨l,rfl,hl⟩:=DB (enc:=AA.enc) (p:=fun _=>True) fun x hx=>QV (h2 x hx);exact ⟨l,by rw [show C.P.cellsOf 50=7 by kernel_rfl],trivial⟩
theorem Oz {d:Nat} {ts:List Tree} (h:Typed C.P (d+2) 26 ts):∃l:List AB,ts=[.sl 4 (l.map AB.enc)]∧True:=by obtain ⟨es,rfl,_,h2⟩:=EL (t:=26) (e:=43) (by kernel_rfl) h;obtain ⟨l,rfl,hl⟩:=DB (enc:=AB.enc) (p:=fun _=>True) fun x hx=>QW (h2 x hx);exact ⟨l,by rw [show C.P.cellsOf 43=4 by kernel_rfl],trivial⟩
theorem UL {d:Nat} {ts:List Tree} (h:Typed C.P (d+2) 27 ts):∃l:List AN,ts=[.sl 5 (l.map AN.enc)]∧True:=by obtain ⟨es,rfl,_,h2⟩:=EL (t:=27) (e:=108) (by kernel_rfl) h;obtain ⟨l,rfl,hl⟩:=DB (enc:=AN.enc) (p:=fun _=>True) fun x hx=>V3 (h2 x hx);exact ⟨l,by rw [show C.P.cellsOf 108=5 by kernel_rfl],trivial⟩
theorem V2 {d:Nat} {ts:List Tree} (h:Typed C.P (d+2) 39 ts):∃l:List Hop,ts=[.sl 4 (l.map Hop.enc)]∧True:=by obtain ⟨es,rfl,_,h2⟩:=EL (t:=39) (e:=59) (by kernel_rfl) h;obtain ⟨l,rfl,hl⟩:=DB (enc:=Hop.enc) (p:=fun _=>True) fun x hx=>dec_hop (h2 x hx);exact ⟨l,by rw [show C.P.cellsOf 59=4 by kernel_rfl],trivial⟩
theorem V0 {d:Nat} {ts:List Tree} (h:Typed C.P (d+3) 25 ts):∃(q:List Int) (cs:List AA),ts=[.sl 1 (q.map encI),.sl 7 (cs.map AA.enc)]:=by have h1:=Cb (t:=25) [22,23] (by kernel_rfl) h;clear h;obtain ⟨_,t1,rfl,x1,g1⟩:=AX h1;obtain ⟨a1,rfl,_⟩:=V1 x1;obtain ⟨_,t2,rfl,x2,g2⟩:=AX g1;obtain ⟨a2,rfl,_⟩:=Oy x2;obtain rfl:=Cx g2;exact ⟨a1,a2,rfl⟩
theorem R4 {d:Nat} {ts:List Tree} (h:Typed C.P (d+4) 29 ts):∃(q:List Int) (cs:List AA) (bs:List AB) (hs:List AN),ts=[.sl 1 (q.map encI),.sl 7 (cs.map AA.enc),.sl 4 (bs.map AB.enc),.sl 5 (hs.map AN.enc)]:=by have h1:=Cb (t:=29) [25,26,27] (by kernel_rfl) h;clear h;obtain ⟨_,t1,rfl,x1,g1⟩:=AX h1;obtain ⟨a1,a2,rfl⟩:=V0 x1;obtain ⟨_,t2,rfl,x2,g2⟩:=AX g1;obtain ⟨a3,rfl,_⟩:=Oz x2;obtain ⟨_,t3,rfl,x3,g3⟩:=AX g2;obtain ⟨a4,rfl,_⟩:=UL x3;obtain rfl:=Cx g3;exact ⟨a1,a2,a3,a4,rfl⟩
theorem dec_rqt {d:Nat} {ts:List Tree} (h:Typed C.P (d+1) 31 ts):∃r:Rqt,ts=[tI r.src,tI r.dst,tI r.size,tI r.ready,tI r.dead,tI r.prio,.bool r.cust]:=by have h1:=Cb (t:=31) [3,3,3,3,3,3,4] (by kernel_rfl) h;clear h;obtain ⟨_,t1,rfl,x1,g1⟩:=AX h1;obtain ⟨a1,rfl,_⟩:=BK x1;obtain ⟨_,t2,rfl,x2,g2⟩:=AX g1;obtain ⟨a2,rfl,_⟩:=BK x2;obtain ⟨_,t3,rfl,x3,g3⟩:=AX g2;obtain ⟨a3,rfl,_⟩:=BK x3;obtain ⟨_,t4,rfl,x4,g4⟩:=AX g3;obtain ⟨a4,rfl,_⟩:=BK x4;obtain ⟨_,t5,rfl,x5,g5⟩:=AX g4;obtain ⟨a5,rfl,_⟩:=BK x5;obtain ⟨_,t6,rfl,x6,g6⟩:=AX g5;obtain ⟨a6,rfl,_⟩:=BK x6;obtain ⟨_,t7,rfl,x7,g7⟩:=AX g6;obtain ⟨a7,rfl,_⟩:=V4 x7;obtain rfl:=Cx g7;exact ⟨⟨a1,a2,a3,a4,a5,a6,a7⟩,rfl⟩
theorem own:ownKnob Tryz.prog.godebug=none:=by kernel_rfl
end Ab
namespace Ab
open Go
abbrev Ent:=FuncId×List Tree×List Tree
def EOk (P:Program) (e:Ent):Prop:=if e.1<OWN then HC P e.1 e.2.1 e.2.2 else if e.1<ES then Wb P (e.1-OWN) e.2.1 e.2.2 else SK P ((e.1-ES) % 64) ((e.1-ES) / 64) e.2.1 e.2.2
def tab:List Ent→BF
 |[],_,_=>none
 |e::l,g,xs=>match Nat.beq e.1 g with
  |true=>match tL e.2.1 xs with
   |true=>some e.2.2
   |false=>tab l g xs
  |false=>tab l g xs
def Wj (P:Program):List Ent→Prop
 |[]=>True
 |e::l=>EOk P e∧Wj P l
theorem Q2 {P:Program}:∀{l:List Ent},Wj P l→B7 P (tab l)
 |[],_=>fun g xs ys h=>by cases h
 |e::l,hl=>fun g xs ys h=>by
  unfold tab at h;split at h
  ·rename_i h1;split at h
   ·rename_i h2;cases h;have e1:=Nat.eq_of_beq_eq_true h1;have e2:=PW _ _ h2;subst e1 e2;exact hl.1
   ·exact Q2 hl.2 g xs ys h
  ·exact Q2 hl.2 g xs ys h
noncomputable def stepT (C:Cfg) (l:List Ent) (n:Nat) (e:Ent):Option (List Tree):=
 if e.1<OWN then Se C (inl C (pcx C (tab l)) n C.depth) (pcx C (tab l)) n e.1 e.2.1 else if e.1<ES then Iy C (inl C (pcx C (tab l)) n C.depth) (pcx C (tab l)) n (e.1-OWN) e.2.1
 else HP C (inl C (pcx C (tab l)) n C.depth) (pcx C (tab l)) n ((e.1-ES) % 64) ((e.1-ES) / 64) e.2.1
theorem AD {C:Cfg} (hmix:C.P.follows .mixedOrders=true) (hext:Mw C) {l:List Ent} (hl:Wj C.P l) {n:Nat} {e:Ent} (hk:stepT C l n e=some e.2.2):EOk C.P e:=by
 have hp:=ID hext (Q2 hl);unfold stepT at hk;unfold EOk;by_cases hg:e.1<OWN
 ·rw [if_pos hg] at hk ⊢;exact Sd (Gw hmix hp n C.depth) hp hmix hk
 ·rw [if_neg hg] at hk ⊢;by_cases hg2:e.1<ES
  ·rw [if_pos hg2] at hk ⊢;exact VF (Gw hmix hp n C.depth) hp hmix hk
  ·rw [if_neg hg2] at hk ⊢;exact Sh (Gw hmix hp n C.depth) hp hmix hk
end Ab
namespace Ab
open Go Go.Proofs Go.RowKit Go.Lib
set_option maxRecDepth 100000
set_option maxHeartbeats 4000000
theorem Q0 {P:Program} {o:Oper} {a:Act} {w:World} {K:Act→World→Prop} {Q:Exit→Act→World→Prop} {t:TypeId} {x:Operand} {v:Value} (ho:o.op = .load t x) (h:(Instr.loadAt t (a.eval x)).run P w = .ok v w) (hk:K (a.put o.dst v) w):o.wp P a w K Q:=by
 have:(execOp a.eval o).run P w = .ok (.value v) w:=by unfold execOp;rw [ho];simp [h]
 unfold Oper.wp;rw [this,Oper.upon_value];exact hk
theorem LK (r:Int) (w:World):Calls Tryz.prog 270 #[.int .u32 r] w fun e w'=>e = .returned (.int .u32 (steps 8 r))∧w'=w:=by
 go_enter Tryz.func270,Tryz.ntmps270
 go_wp2
 go_loopg [0,3] 8 (fun g s0 s3 wx=>∃i:Nat,i+g=8∧s0 = .int .u32 (steps i r)∧s3 = .int .i64 i∧wx=w)
 case atStart=>exact ⟨0,rfl,rfl,rfl,rfl⟩
 case round=>
  obtain ⟨i,hig,rfl,rfl,rfl⟩:=hrel;generalize hx:steps i r=x;cases gk with
  |zero=>
   obtain rfl:i=8:=by omega
   have hiz:¬(((8:Nat):Int)<(8:Int)):=by omega
   go_wp2
   go_ret
   exact ⟨rfl,rfl⟩
  |succ g=>
   have hiz:(i:Int)<(8:Int):=by omega
   have Hx:Aside (steps i r=x):=hx;clear hx;by_cases hodd:x.tmod 2=1
   ·have Hs:Aside (steps (i+1) r=xorK .u32 (IntKind.u32.wrap (x.tdiv 2)) 2197175160):=by show steps (i+1) r=_;rw [LJ,Hx.out,Pb,if_pos hodd]
    go_wp2
    go_roundg g
    case measure=>omega
    case rel=>exact ⟨i+1,by omega,by rw [Hs.out];rfl,by first|rfl|simp,rfl⟩
   ·have Hs:Aside (steps (i+1) r=IntKind.u32.wrap (x.tdiv 2)):=by show steps (i+1) r=_;rw [LJ,Hx.out,Pb,if_neg hodd]
    go_wp2
    go_roundg g
    case measure=>omega
    case rel=>exact ⟨i+1,by omega,by rw [Hs.out];rfl,by first|rfl|simp,rfl⟩
theorem PT (w:World):Calls Tryz.prog 245 #[] w fun e w'=>e = .returned (.agg (Am 256))∧w'=(w.alloc (.cells (Am 256) 341)).alloc (.cells (Am 256) 341):=by
 go_enter Tryz.func245,Tryz.ntmps245
 have e1:(zeroValue 341).run Tryz.prog w = .ok (.agg (Array.replicate 256 (.int .u32 0))) w:=Tryz.zeroValue341 w
 go_wp2
 rw [← Qa]
 go_loopg [2,3] 256 (fun g s2 s3 wx=>∃i:Nat,i+g=256∧s3 = .int .i64 i∧wx=(w.alloc (.cells (Am 0) 341)).alloc (.cells (Am i) 341))
 case atStart=>exact ⟨0,rfl,rfl,rfl⟩
 case round=>
  obtain ⟨i,hig,rfl,rfl⟩:=hrel;cases gk with
  |zero=>
   obtain rfl:i=256:=by omega
   have hiz:¬(((256:Nat):Int)<(256:Int)):=by omega
   have hsz:(w.alloc (.cells (Am 0) 341)).heap.size=w.heap.size+1:=by simp
   have hld:=run_loadAt_new (P:=Tryz.prog) (w.alloc (.cells (Am 0) 341)) 341 (Am 256) 256 294 (by kernel_rfl) (by rw [C6];kernel_rfl);rw [hsz] at hld;have h0:((w.alloc (.cells (Am 0) 341)).alloc (.cells (Am 256) 341)).heap[w.heap.size]? = some (.cells (Am 0) 341):=by show ((w.heap.push _).push _)[w.heap.size]? = _;rw [getElem?_push_lt (by simp)];simp
   have hW:((w.alloc (.cells (Am 0) 341)).alloc (.cells (Am 256) 341)).setRow w.heap.size (Am 256)=(w.alloc (.cells (Am 256) 341)).alloc (.cells (Am 256) 341):=by
    simp only [World.setRow,World.alloc];congr 1;apply Array.ext_getElem?;intro i;rw [getElem?_modify];by_cases h:w.heap.size=i
    ·subst h;rw [getElem?_push_lt (by simp),getElem?_push_lt (by simp)];simp
    ·simp only [h,if_false,getElem?_push];simp [Ne.symm h]
   have Hld:Aside _:=hld;have hst2:(storeCells ⟨w.heap.size,0,none⟩ (Am 256).toList 0).run Tryz.prog ((w.alloc (.cells (Am 0) 341)).alloc (.cells (Am 256) 341))= .ok () ((w.alloc (.cells (Am 256) 341)).alloc (.cells (Am 256) 341)):=by
    have h9:=run_storeCells_at Tryz.prog w.heap.size 0 341 (Am 256).toList 0 (Am 0) ((w.alloc (.cells (Am 0) 341)).alloc (.cells (Am 256) 341)) h0 (by simp [C6]) (fun v hv=>by have:=R8 256;rw [Array.all_eq_true_iff_forall_mem] at this;exact this v (by simpa using hv))
    have h10:((Am 0).toList.take (0+0)++(Am 256).toList++(Am 0).toList.drop (0+0+(Am 256).toList.length)).toArray=Am 256:=by rw [List.drop_of_length_le (by simp [C6])];simp
    rw [h10,hW] at h9;exact h9
   have Hst:Aside _:=hst2;have h1:((w.alloc (.cells (Am 256) 341)).alloc (.cells (Am 256) 341)).heap[w.heap.size]? = some (.cells (Am 256) 341):=by show ((w.heap.push _).push _)[w.heap.size]? = _;rw [getElem?_push_lt (by simp)];simp
   have hu341:Tryz.prog.underlying 341=some (.array 256 294):=by kernel_rfl
   have hl2:=run_loadVar_row (P:=Tryz.prog) ((w.alloc (.cells (Am 256) 341)).alloc (.cells (Am 256) 341)) w.heap.size 341 341 (Am 256) (0,0) _ h1 hu341 rfl (by rw [C6];kernel_rfl);have Hl2:Aside _:=hl2;clear hld hst2 hsz h0 h1 hW hl2 hu341
   go_wp2
   refine Q0 (v :=.agg (Am 256)) rfl Hld.out ?_
   go_wp2
   rw [Hst.out];simp only [Result.andThen];rw [Oper.upon_skip]
   go_wp2
   (try simp only [Exit.inBlock,Exit.then])
   refine bodyPost_ret (v :=.agg (Am 256)) ?_ rfl ⟨rfl,rfl⟩;simp [results,asAddr,Result.andThen,Act.put,Hl2.out]
  |succ g=>
   have hiz:(i:Int)<(256:Int):=by omega
   have hw:IntKind.u32.wrap (i:Int)=i:=by simp only [IntKind.wrap,IntKind.signed,IntKind.bits];simp;omega
   have Hi:Aside (i<256):=by show i<256;omega
   go_wp2_with (go_at_fn 270;refine (LK _ _).mono ?_)
   refine (LK _ _).mono ?_
   rintro e w1 ⟨rfl,rfl⟩
   have hcell:(Am i)[i]? = some (.int .u32 0):=by rw [MS i i Hi.out,if_neg (Nat.lt_irrefl i)]
   go_wp2
   go_roundg g
   case measure=>omega
   case rel=>exact ⟨i+1,by omega,by first|rfl|simp,by rw [Qb i Hi.out]⟩
theorem Ur:HC Tryz.prog 245 [] PU:=by
 intro B w avs vs n hm hB hc;have e:avs=[]:=by
  have:DH Tryz.prog 245 (fun i =>.t ((List.getD [] i default:Tree)))=some []:=by kernel_rfl
  rw [this] at hm;exact (Option.some.inj hm).symm
 subst e;obtain rfl:vs = #[]:=eq_empty_of_size_eq_zero (by simpa using hc.1);refine (callsIn_wide (n:=n)).2 (PT w) |>.mono ?_
 rintro e w' ⟨rfl,rfl⟩
 have hg:Grow w ((w.alloc (.cells (Am 256) 341)).alloc (.cells (Am 256) 341)):=⟨rfl,rfl,rfl,by simp;omega,fun b hb=>by show ((w.heap.push _).push _)[b]? = _;rw [getElem?_push,if_neg (by simp;omega),getElem?_push,if_neg (ne_of_lt hb)]⟩
 have hr:CQ Tryz.prog 245 (fun i =>.t (PU.getD i default))=some (.agg (A4 (fun i =>.t (PU.getD i default)) 0 256)):=by
  have h1:Az Tryz.prog 341=some true:=by kernel_rfl
  have h2:BZ Tryz.prog 341=some 256:=by kernel_rfl
  have h3:Tryz.prog.funcs[245]? = some Tryz.f245:=Tryz.func245;have h4:Tryz.f245.resultTypes.toList=[341]:=by kernel_rfl
  simp only [CQ,h3,h4,CB,Gq,h1,h2,map_some]
 refine ⟨_,_,rfl,hr,.agg _ _ (by rw [C6];simp [A4]) fun j x hx => ?_,hg,fun h => ?_⟩
 ·have hj:j<256:=by have:=AU hx;simpa [A4] using this
  have h1:=MS 256 j hj;rw [if_pos hj] at h1;have h2:(Am 256).getD j undef = .int .u32 (steps 8 j):=by rw [Array.getD_eq_getD_getElem?,h1];rfl
  rw [h2];simp only [A4,getElem?_map,getElem?_range hj,map_some,Option.some.injEq,zero_add] at hx;subst hx;have h3:PU.getD j default = .int .u32 (steps 8 j):=by simp [PU,hj]
  rw [h3];exact .t _ _ (.int _ _)
 ·show PU.all Tree.scalar=true;rw [all_eq_true];intro x hx;simp only [PU,mem_map] at hx;obtain ⟨j,_,rfl⟩:=hx;rfl
end Ab
namespace Ab
open Go Go.Proofs Go.Shelf Go.RowKit Go.Lib
set_option maxRecDepth 100000
theorem Gd {P:Program} {t key elem:TypeId} {kd:IntKind} (hu:P.underlying t=some (.map key elem)) (hk:P.underlying key=some (.int kd)) {w:World} {b:Nat} {es:Array MapEntry} {clock:Nat} (hb:w.heap[b]? = some (.map es clock)) (n:Int) (v:Value)
  (hnew:Instr.findNow (.int kd) (.int kd n) es.toList 0=some none) :
  (Instr.mapUpdate t (.map (some b)) (.int kd n) v).run P w = .ok () (w.putObj b (.map (es.push {key :=.int kd n,val:=v,born:=clock}) (clock+1))):=by
 have hck:(Instr.checkKey false 10000 key (.int kd n)).run P w = .ok () w:=by
  have:∀m:Nat,(Instr.checkKey false (m+1) key (.int kd n)).run P w = .ok () w:=fun m=>by simp [Instr.checkKey,run_underlying hk]
  exact this 9999
 simp only [Instr.mapUpdate,Sem.run_bind,run_underlying hu,Result.andThen_ok,Cd hb,hck,Instr.findKey,run_underlying hk,hnew,Sem.run_pure];simp [setObj,Sem.run,hb,World.putObj]
theorem L5 (w:World):Calls Tryz.prog 285 #[] w fun e w'=>∃b,e = .returned (.map (some b))∧w.heap.size≤b∧b<w'.heap.size∧Below w.heap.size w w'∧∃es clock,w'.heap[b]? = some (.map es clock)∧es.toList.map (fun e=>(e.key,e.val))=[(.int .i64 2,.func (.func 306) #[] #[]),(.int .i64 3,.func (.func 307) #[] #[])]:=by
 have hmm:=@Go.run_makeMap_plain Tryz.prog;have hw0:(w.alloc (.map #[] 0)).heap[w.heap.size]? = some (.map #[] 0):=by show (w.heap.push (.map #[] 0))[w.heap.size]? = _;exact Array.getElem?_push_size
 have h1:(Instr.mapUpdate 395 (.map (some w.heap.size)) (.int .i64 2) (.func (.func 306) #[] #[])).run Tryz.prog (w.alloc (.map #[] 0))= .ok () ((w.alloc (.map #[] 0)).putObj w.heap.size (.map #[{key :=.int .i64 2,val :=.func (.func 306) #[] #[],born:=0}] 1)):=
  Gd (P:=Tryz.prog) (t:=395) (key:=3) (elem:=393) (kd :=.i64) (by kernel_rfl) (by kernel_rfl) hw0 2 (.func (.func 306) #[] #[]) rfl
 have hlt:=DA hw0;have hw1:=World.putObj_heap_same (o :=.map #[{key :=.int .i64 2,val :=.func (.func 306) #[] #[],born:=0}] 1) hlt;have hlt2:=DA hw1;have hw2:=World.putObj_heap_same (o :=.map #[{key :=.int .i64 2,val :=.func (.func 306) #[] #[],born:=0},{key :=.int .i64 3,val :=.func (.func 307) #[] #[],born:=1}] 2) hlt2;have hlt3:=DA hw2;have h2:(Instr.mapUpdate 395 (.map (some w.heap.size)) (.int .i64 3) (.func (.func 307) #[] #[])).run Tryz.prog ((w.alloc (.map #[] 0)).putObj w.heap.size (.map #[{key :=.int .i64 2,val :=.func (.func 306) #[] #[],born:=0}] 1))= .ok () (((w.alloc (.map #[] 0)).putObj w.heap.size (.map #[{key :=.int .i64 2,val :=.func (.func 306) #[] #[],born:=0}] 1)).putObj w.heap.size (.map #[{key :=.int .i64 2,val :=.func (.func 306) #[] #[],born:=0},{key :=.int .i64 3,val :=.func (.func 307) #[] #[],born:=1}] 2)):=
  Gd (P:=Tryz.prog) (t:=395) (key:=3) (elem:=393) (kd :=.i64) (by kernel_rfl) (by kernel_rfl) hw1 3 (.func (.func 307) #[] #[]) rfl
 go_enter Tryz.func285,Tryz.ntmps285
 go_wp2
 go_ret
 exact ⟨w.heap.size,rfl,le_refl _,hlt3,⟨rfl,rfl,rfl,Nat.le_of_lt hlt3,fun k hk=>by rw [World.putObj_heap_other (ne_of_lt hk),World.putObj_heap_other (ne_of_lt hk)];show (w.heap.push (.map #[] 0))[k]? = _;rw [getElem?_push,if_neg (ne_of_lt hk)]⟩,_,_,hw2,rfl⟩
theorem mapExt:HC Tryz.prog 285 [] [.mp .i64 [(2,306),(3,307)]]:=by
 intro B w avs vs n hm hB hc;have e:avs=[]:=by
  have:DH Tryz.prog 285 (fun i =>.t ((List.getD [] i default:Tree)))=some []:=by kernel_rfl
  rw [this] at hm;exact (Option.some.inj hm).symm
 subst e;obtain rfl:vs = #[]:=eq_empty_of_size_eq_zero (by simpa using hc.1);refine (callsIn_wide (n:=n)).2 (L5 w) |>.mono ?_
 rintro e w' ⟨b,rfl,h1,h2,h3,es,clock,h4,h5⟩
 refine ⟨_,.t (.mp .i64 [(2,306),(3,307)]),rfl,by kernel_rfl,.t _ _ (.mp .i64 _ b es clock h2 ?_ h4 (by rw [h5];rfl)),⟨h3.os,h3.tape,h3.output,h3.size,h3.block⟩,fun h => ?_⟩
 ·rintro (h|h)
  ·exact Nat.lt_irrefl _ (lt_of_lt_of_le (hB b h) h1)
  ·exact DN h
 ·have:CC Tryz.prog 285=false:=by kernel_rfl
  rw [this] at h;cases h
theorem AG:Mw C0:=by
 intro g xs ys _ h;have h2:Oo g xs=some ys:=h;clear h;unfold Oo at h2;split at h2
 ·rename_i e;split at h2
  ·cases h2;subst e;exact Ur
  ·cases h2
 split at h2
 ·rename_i e;split at h2
  ·cases h2;subst e;exact mapExt
  ·cases h2
 cases h2
end Ab
set_option maxRecDepth 1000000
namespace Ab
open Go
def d0:Ent:=(114,[tI 1,tI 0,tI 15],[.bool true])
theorem k0:EOk C0.P d0:=AD AT AG (l:=[]) trivial (n:=5000) (by kernel_rfl)
def d1:Ent:=(114,[tI 0,tI 0,tI 1099511627776],[.bool true])
theorem k1:EOk C0.P d1:=AD AT AG (l:=[]) trivial (n:=5000) (by kernel_rfl)
def d2:Ent:=(112,[tI 1,tI 0,tI 0,tI 0,tI 0],[tI 0])
theorem k2:EOk C0.P d2:=AD AT AG (l:=[d0,d1]) ⟨k0,⟨k1,trivial⟩⟩ (n:=5000) (by kernel_rfl)
def d3:Ent:=(113,[tI 1,tI 2],[tI 0])
theorem k3:EOk C0.P d3:=AD AT AG (l:=[]) trivial (n:=5000) (by kernel_rfl)
def d4:Ent:=(114,[tI 0,tI 0,tI 2],[.bool true])
theorem k4:EOk C0.P d4:=AD AT AG (l:=[]) trivial (n:=5000) (by kernel_rfl)
def d5:Ent:=(114,[tI 0,tI 0,tI 127],[.bool true])
theorem k5:EOk C0.P d5:=AD AT AG (l:=[]) trivial (n:=5000) (by kernel_rfl)
def d6:Ent:=(115,[tI 1,tI 0,tI 0,tI 0,tI 0,tI 1,tI 2,tI 9,tI 0,tI 0,.sl 3 [],.str (ByteArray.mk #[104,105])],[tI 0])
theorem k6:EOk C0.P d6:=AD AT AG (l:=[d5]) ⟨k5,trivial⟩ (n:=5000) (by kernel_rfl)
def d7:Ent:=(116,[.sl 3 []],[tI 0])
theorem k7:EOk C0.P d7:=AD AT AG (l:=[]) trivial (n:=5000) (by kernel_rfl)
def d8:Ent:=(117,[tI 1,tI 0,tI 0,tI 0,tI 0,tI 1,tI 2,tI 9,tI 0,tI 0,.sl 3 [],.str (ByteArray.mk #[104,105])],[tI 0])
theorem k8:EOk C0.P d8:=AD AT AG (l:=[]) trivial (n:=5000) (by kernel_rfl)
def d9:Ent:=(59,[tI 1,tI 0,tI 0,tI 0,tI 0,tI 1,tI 2,tI 9,tI 0,tI 0,.sl 3 [],.str (ByteArray.mk #[104,105])],[tI 0])
theorem k9:EOk C0.P d9:=AD AT AG (l:=[d2,d3,d4,d6,d7,d8]) ⟨k2,⟨k3,⟨k4,⟨k6,⟨k7,⟨k8,trivial⟩⟩⟩⟩⟩⟩ (n:=5000) (by kernel_rfl)
def d10:Ent:=(118,[tI 3],[.bool true])
theorem k10:EOk C0.P d10:=AD AT AG (l:=[]) trivial (n:=5000) (by kernel_rfl)
def d11:Ent:=(120,[tI 3],[tI 6])
theorem k11:EOk C0.P d11:=AD AT AG (l:=[]) trivial (n:=5000) (by kernel_rfl)
def d12:Ent:=(62,[tI 3],[.str (ByteArray.mk #[6]),tI 0])
theorem k12:EOk C0.P d12:=AD AT AG (l:=[d10,d11]) ⟨k10,⟨k11,trivial⟩⟩ (n:=5000) (by kernel_rfl)
def d13:Ent:=(60,[.str (ByteArray.mk #[77,66,49])],[.str (ByteArray.mk #[6,77,66,49]),tI 0])
theorem k13:EOk C0.P d13:=AD AT AG (l:=[d12]) ⟨k12,trivial⟩ (n:=5000) (by kernel_rfl)
def d14:Ent:=(118,[tI 1],[.bool true])
theorem k14:EOk C0.P d14:=AD AT AG (l:=[]) trivial (n:=5000) (by kernel_rfl)
def d15:Ent:=(120,[tI 1],[tI 2])
theorem k15:EOk C0.P d15:=AD AT AG (l:=[]) trivial (n:=5000) (by kernel_rfl)
def d16:Ent:=(62,[tI 1],[.str (ByteArray.mk #[2]),tI 0])
theorem k16:EOk C0.P d16:=AD AT AG (l:=[d14,d15]) ⟨k14,⟨k15,trivial⟩⟩ (n:=5000) (by kernel_rfl)
def d17:Ent:=(118,[tI 0],[.bool true])
theorem k17:EOk C0.P d17:=AD AT AG (l:=[]) trivial (n:=5000) (by kernel_rfl)
def d18:Ent:=(120,[tI 0],[tI 0])
theorem k18:EOk C0.P d18:=AD AT AG (l:=[]) trivial (n:=5000) (by kernel_rfl)
def d19:Ent:=(62,[tI 0],[.str (ByteArray.mk #[0]),tI 0])
theorem k19:EOk C0.P d19:=AD AT AG (l:=[d17,d18]) ⟨k17,⟨k18,trivial⟩⟩ (n:=5000) (by kernel_rfl)
def d20:Ent:=(118,[tI 2],[.bool true])
theorem k20:EOk C0.P d20:=AD AT AG (l:=[]) trivial (n:=5000) (by kernel_rfl)
def d21:Ent:=(120,[tI 2],[tI 4])
theorem k21:EOk C0.P d21:=AD AT AG (l:=[]) trivial (n:=5000) (by kernel_rfl)
def d22:Ent:=(62,[tI 2],[.str (ByteArray.mk #[4]),tI 0])
theorem k22:EOk C0.P d22:=AD AT AG (l:=[d20,d21]) ⟨k20,⟨k21,trivial⟩⟩ (n:=5000) (by kernel_rfl)
def d23:Ent:=(118,[tI 9],[.bool true])
theorem k23:EOk C0.P d23:=AD AT AG (l:=[]) trivial (n:=5000) (by kernel_rfl)
def d24:Ent:=(120,[tI 9],[tI 18])
theorem k24:EOk C0.P d24:=AD AT AG (l:=[]) trivial (n:=5000) (by kernel_rfl)
def d25:Ent:=(62,[tI 9],[.str (ByteArray.mk #[18]),tI 0])
theorem k25:EOk C0.P d25:=AD AT AG (l:=[d23,d24]) ⟨k23,⟨k24,trivial⟩⟩ (n:=5000) (by kernel_rfl)
def d26:Ent:=(63,[.sl 3 []],[.str (ByteArray.mk #[0]),tI 0])
theorem k26:EOk C0.P d26:=AD AT AG (l:=[d19]) ⟨k19,trivial⟩ (n:=5000) (by kernel_rfl)
def d27:Ent:=(60,[.str (ByteArray.mk #[104,105])],[.str (ByteArray.mk #[4,104,105]),tI 0])
theorem k27:EOk C0.P d27:=AD AT AG (l:=[d22]) ⟨k22,trivial⟩ (n:=5000) (by kernel_rfl)
def d28:Ent:=(118,[tI 18],[.bool true])
theorem k28:EOk C0.P d28:=AD AT AG (l:=[]) trivial (n:=5000) (by kernel_rfl)
def d29:Ent:=(120,[tI 18],[tI 36])
theorem k29:EOk C0.P d29:=AD AT AG (l:=[]) trivial (n:=5000) (by kernel_rfl)
def d30:Ent:=(62,[tI 18],[.str (ByteArray.mk #[36]),tI 0])
theorem k30:EOk C0.P d30:=AD AT AG (l:=[d28,d29]) ⟨k28,⟨k29,trivial⟩⟩ (n:=5000) (by kernel_rfl)
def d31:Ent:=(60,[.str (ByteArray.mk #[6,77,66,49,2,0,0,0,0,2,4,18,0,0,0,4,104,105])],[.str (ByteArray.mk #[36,6,77,66,49,2,0,0,0,0,2,4,18,0,0,0,4,104,105]),tI 0])
theorem k31:EOk C0.P d31:=AD AT AG (l:=[d30]) ⟨k30,trivial⟩ (n:=5000) (by kernel_rfl)
def d32:Ent:=(207,[.int .u32 4294967295,.str (ByteArray.mk #[36,6,77,66,49,2,0,0,0,0,2,4,18,0,0,0,4,104,105])],[.int .u32 1216372440])
theorem k32:EOk C0.P d32:=AD AT AG (l:=[]) trivial (n:=5000) (by kernel_rfl)
def d33:Ent:=(165,[.str (ByteArray.mk #[36,6,77,66,49,2,0,0,0,0,2,4,18,0,0,0,4,104,105])],[tI 3078594855])
theorem k33:EOk C0.P d33:=AD AT AG (l:=[d32]) ⟨k32,trivial⟩ (n:=5000) (by kernel_rfl)
def d34:Ent:=(122,[.str (ByteArray.mk #[36,6,77,66,49,2,0,0,0,0,2,4,18,0,0,0,4,104,105])],[.str (ByteArray.mk #[39,161,127,183])])
theorem k34:EOk C0.P d34:=AD AT AG (l:=[d33]) ⟨k33,trivial⟩ (n:=5000) (by kernel_rfl)
def d35:Ent:=(64,[.str (ByteArray.mk #[6,77,66,49,2,0,0,0,0,2,4,18,0,0,0,4,104,105])],[.str (ByteArray.mk #[36,6,77,66,49,2,0,0,0,0,2,4,18,0,0,0,4,104,105,39,161,127,183]),tI 0])
theorem k35:EOk C0.P d35:=AD AT AG (l:=[d31,d34]) ⟨k31,⟨k34,trivial⟩⟩ (n:=5000) (by kernel_rfl)
def d36:Ent:=(26,[tI 1,tI 0,tI 0,tI 0,tI 0,tI 1,tI 2,tI 9,tI 0,tI 0,.sl 3 [],.str (ByteArray.mk #[104,105])],[.str (ByteArray.mk #[36,6,77,66,49,2,0,0,0,0,2,4,18,0,0,0,4,104,105,39,161,127,183]),tI 0])
theorem k36:EOk C0.P d36:=AD AT AG (l:=[d9,d13,d16,d19,d22,d25,d26,d27,d35]) ⟨k9,⟨k13,⟨k16,⟨k19,⟨k22,⟨k25,⟨k26,⟨k27,⟨k35,trivial⟩⟩⟩⟩⟩⟩⟩⟩⟩ (n:=5000) (by kernel_rfl)
def d37:Ent:=(123,[.str (ByteArray.mk #[36,6,77,66,49,2,0,0,0,0,2,4,18,0,0,0,4,104,105,39,161,127,183])],[tI 18,tI 1,tI 0])
theorem k37:EOk C0.P d37:=AD AT AG (l:=[d28]) ⟨k28,trivial⟩ (n:=5000) (by kernel_rfl)
def d38:Ent:=(65,[.str (ByteArray.mk #[36,6,77,66,49,2,0,0,0,0,2,4,18,0,0,0,4,104,105,39,161,127,183])],[.str (ByteArray.mk #[6,77,66,49,2,0,0,0,0,2,4,18,0,0,0,4,104,105]),tI 23,tI 0])
theorem k38:EOk C0.P d38:=AD AT AG (l:=[d37,d34]) ⟨k37,⟨k34,trivial⟩⟩ (n:=5000) (by kernel_rfl)
def d39:Ent:=(124,[.str (ByteArray.mk #[6,77,66,49,2,0,0,0,0,2,4,18,0,0,0,4,104,105])],[.str (ByteArray.mk #[77,66,49]),tI 4,tI 0])
theorem k39:EOk C0.P d39:=AD AT AG (l:=[d10]) ⟨k10,trivial⟩ (n:=5000) (by kernel_rfl)
def d40:Ent:=(123,[.str (ByteArray.mk #[2,0,0,0,0,2,4,18,0,0,0,4,104,105])],[tI 1,tI 1,tI 0])
theorem k40:EOk C0.P d40:=AD AT AG (l:=[d14]) ⟨k14,trivial⟩ (n:=5000) (by kernel_rfl)
def d41:Ent:=(123,[.str (ByteArray.mk #[0,0,0,0,2,4,18,0,0,0,4,104,105])],[tI 0,tI 1,tI 0])
theorem k41:EOk C0.P d41:=AD AT AG (l:=[d17]) ⟨k17,trivial⟩ (n:=5000) (by kernel_rfl)
def d42:Ent:=(123,[.str (ByteArray.mk #[0,0,0,2,4,18,0,0,0,4,104,105])],[tI 0,tI 1,tI 0])
theorem k42:EOk C0.P d42:=AD AT AG (l:=[d17]) ⟨k17,trivial⟩ (n:=5000) (by kernel_rfl)
def d43:Ent:=(123,[.str (ByteArray.mk #[0,0,2,4,18,0,0,0,4,104,105])],[tI 0,tI 1,tI 0])
theorem k43:EOk C0.P d43:=AD AT AG (l:=[d17]) ⟨k17,trivial⟩ (n:=5000) (by kernel_rfl)
def d44:Ent:=(123,[.str (ByteArray.mk #[0,2,4,18,0,0,0,4,104,105])],[tI 0,tI 1,tI 0])
theorem k44:EOk C0.P d44:=AD AT AG (l:=[d17]) ⟨k17,trivial⟩ (n:=5000) (by kernel_rfl)
def d45:Ent:=(123,[.str (ByteArray.mk #[2,4,18,0,0,0,4,104,105])],[tI 1,tI 1,tI 0])
theorem k45:EOk C0.P d45:=AD AT AG (l:=[d14]) ⟨k14,trivial⟩ (n:=5000) (by kernel_rfl)
def d46:Ent:=(123,[.str (ByteArray.mk #[4,18,0,0,0,4,104,105])],[tI 2,tI 1,tI 0])
theorem k46:EOk C0.P d46:=AD AT AG (l:=[d20]) ⟨k20,trivial⟩ (n:=5000) (by kernel_rfl)
def d47:Ent:=(123,[.str (ByteArray.mk #[18,0,0,0,4,104,105])],[tI 9,tI 1,tI 0])
theorem k47:EOk C0.P d47:=AD AT AG (l:=[d23]) ⟨k23,trivial⟩ (n:=5000) (by kernel_rfl)
def d48:Ent:=(123,[.str (ByteArray.mk #[0,0,0,4,104,105])],[tI 0,tI 1,tI 0])
theorem k48:EOk C0.P d48:=AD AT AG (l:=[d17]) ⟨k17,trivial⟩ (n:=5000) (by kernel_rfl)
def d49:Ent:=(123,[.str (ByteArray.mk #[0,0,4,104,105])],[tI 0,tI 1,tI 0])
theorem k49:EOk C0.P d49:=AD AT AG (l:=[d17]) ⟨k17,trivial⟩ (n:=5000) (by kernel_rfl)
def d50:Ent:=(123,[.str (ByteArray.mk #[0,4,104,105])],[tI 0,tI 1,tI 0])
theorem k50:EOk C0.P d50:=AD AT AG (l:=[d17]) ⟨k17,trivial⟩ (n:=5000) (by kernel_rfl)
def d51:Ent:=(126,[.str (ByteArray.mk #[0,4,104,105])],[.sl 3 [],tI 1,tI 0])
theorem k51:EOk C0.P d51:=AD AT AG (l:=[d50]) ⟨k50,trivial⟩ (n:=5000) (by kernel_rfl)
def d52:Ent:=(124,[.str (ByteArray.mk #[4,104,105])],[.str (ByteArray.mk #[104,105]),tI 3,tI 0])
theorem k52:EOk C0.P d52:=AD AT AG (l:=[d20]) ⟨k20,trivial⟩ (n:=5000) (by kernel_rfl)
def d53:Ent:=(27,[.str (ByteArray.mk #[36,6,77,66,49,2,0,0,0,0,2,4,18,0,0,0,4,104,105,39,161,127,183])],[tI 1,tI 0,tI 0,tI 0,tI 0,tI 1,tI 2,tI 9,tI 0,tI 0,.sl 3 [],.str (ByteArray.mk #[104,105]),tI 0])
theorem k53:EOk C0.P d53:=AD AT AG (l:=[d38,d39,d40,d41,d42,d43,d44,d45,d46,d47,d48,d49,d51,d52,d9]) ⟨k38,⟨k39,⟨k40,⟨k41,⟨k42,⟨k43,⟨k44,⟨k45,⟨k46,⟨k47,⟨k48,⟨k49,⟨k51,⟨k52,⟨k9,trivial⟩⟩⟩⟩⟩⟩⟩⟩⟩⟩⟩⟩⟩⟩⟩ (n:=5000) (by kernel_rfl)
def d54:Ent:=(28,[tI 0,tI 1,tI 0,tI 10],[tI 0,tI 1,tI 0,tI 10,tI 24,tI 5,tI 0])
theorem k54:EOk C0.P d54:=AD AT AG (l:=[]) trivial (n:=5000) (by kernel_rfl)
def d55:Ent:=(28,[tI 1,tI 2,tI 8,tI 20],[tI 1,tI 2,tI 8,tI 20,tI 24,tI 5,tI 0])
theorem k55:EOk C0.P d55:=AD AT AG (l:=[]) trivial (n:=5000) (by kernel_rfl)
def d56:Ent:=(139,[tI 0,tI 0,tI 15],[.bool true])
theorem k56:EOk C0.P d56:=AD AT AG (l:=[]) trivial (n:=5000) (by kernel_rfl)
def d57:Ent:=(139,[tI 1,tI 0,tI 15],[.bool true])
theorem k57:EOk C0.P d57:=AD AT AG (l:=[]) trivial (n:=5000) (by kernel_rfl)
def d58:Ent:=(139,[tI 24,tI 1,tI 1000],[.bool true])
theorem k58:EOk C0.P d58:=AD AT AG (l:=[]) trivial (n:=5000) (by kernel_rfl)
def d59:Ent:=(139,[tI 5,tI 1,tI 1048576],[.bool true])
theorem k59:EOk C0.P d59:=AD AT AG (l:=[]) trivial (n:=5000) (by kernel_rfl)
def d60:Ent:=(139,[tI 0,tI 0,tI 16],[.bool true])
theorem k60:EOk C0.P d60:=AD AT AG (l:=[]) trivial (n:=5000) (by kernel_rfl)
def d61:Ent:=(79,[tI 0,tI 1,tI 0,tI 10,tI 24,tI 5,tI 0],[tI 0])
theorem k61:EOk C0.P d61:=AD AT AG (l:=[d56,d57,d58,d59,d60]) ⟨k56,⟨k57,⟨k58,⟨k59,⟨k60,trivial⟩⟩⟩⟩⟩ (n:=5000) (by kernel_rfl)
def d62:Ent:=(139,[tI 2,tI 0,tI 15],[.bool true])
theorem k62:EOk C0.P d62:=AD AT AG (l:=[]) trivial (n:=5000) (by kernel_rfl)
def d63:Ent:=(79,[tI 1,tI 2,tI 8,tI 20,tI 24,tI 5,tI 0],[tI 0])
theorem k63:EOk C0.P d63:=AD AT AG (l:=[d57,d62,d58,d59,d60]) ⟨k57,⟨k62,⟨k58,⟨k59,⟨k60,trivial⟩⟩⟩⟩⟩ (n:=5000) (by kernel_rfl)
def d64:Ent:=(82,[tI 1,tI 2,tI 8,tI 20,tI 24,tI 5,tI 0,tI 0,tI 1,tI 0,tI 10,tI 24,tI 5,tI 0],[.bool false])
theorem k64:EOk C0.P d64:=AD AT AG (l:=[d63,d61]) ⟨k63,⟨k61,trivial⟩⟩ (n:=5000) (by kernel_rfl)
def d65:Ent:=(41,[.sl 1 [[tI 50],[tI 50],[tI 50]],.sl 7 [[tI 0,tI 1,tI 0,tI 10,tI 24,tI 5,tI 0],[tI 1,tI 2,tI 8,tI 20,tI 24,tI 5,tI 0]]],[tI 0])
theorem k65:EOk C0.P d65:=AD AT AG (l:=[d61,d63,d64]) ⟨k61,⟨k63,⟨k64,trivial⟩⟩⟩ (n:=5000) (by kernel_rfl)
def d66:Ent:=(13,[.sl 1 [[tI 50],[tI 50],[tI 50]],.sl 7 [[tI 0,tI 1,tI 0,tI 10,tI 24,tI 5,tI 0],[tI 1,tI 2,tI 8,tI 20,tI 24,tI 5,tI 0]],.sl 4 []],[tI 0])
theorem k66:EOk C0.P d66:=AD AT AG (l:=[d65]) ⟨k65,trivial⟩ (n:=5000) (by kernel_rfl)
def d67:Ent:=(195,[.int .u64 0],[tI 0])
theorem k67:EOk C0.P d67:=AD AT AG (l:=[]) trivial (n:=5000) (by kernel_rfl)
def d68:Ent:=(153,[.int .u64 0],[tI 0])
theorem k68:EOk C0.P d68:=AD AT AG (l:=[d67]) ⟨k67,trivial⟩ (n:=5000) (by kernel_rfl)
def d69:Ent:=(232,[.sl 1 [],tI 0,tI 0],[])
theorem k69:EOk C0.P d69:=AD AT AG (l:=[]) trivial (n:=5000) (by kernel_rfl)
def d70:Ent:=(196,[.sl 1 [],tI 0,tI 0,tI 0],[])
theorem k70:EOk C0.P d70:=AD AT AG (l:=[d69]) ⟨k69,trivial⟩ (n:=5000) (by kernel_rfl)
def d71:Ent:=(155,[.sl 1 []],[])
theorem k71:EOk C0.P d71:=AD AT AG (l:=[d68,d70]) ⟨k68,⟨k70,trivial⟩⟩ (n:=5000) (by kernel_rfl)
def d72:Ent:=(98,[.sl 5 [],tI 0],[.sl 2 []])
theorem k72:EOk C0.P d72:=AD AT AG (l:=[d71]) ⟨k71,trivial⟩ (n:=5000) (by kernel_rfl)
def d73:Ent:=(97,[.sl 2 []],[tI 0])
theorem k73:EOk C0.P d73:=AD AT AG (l:=[]) trivial (n:=5000) (by kernel_rfl)
def d74:Ent:=(98,[.sl 5 [],tI 1],[.sl 2 []])
theorem k74:EOk C0.P d74:=AD AT AG (l:=[d71]) ⟨k71,trivial⟩ (n:=5000) (by kernel_rfl)
def d75:Ent:=(98,[.sl 5 [],tI 2],[.sl 2 []])
theorem k75:EOk C0.P d75:=AD AT AG (l:=[d71]) ⟨k71,trivial⟩ (n:=5000) (by kernel_rfl)
def d76:Ent:=(48,[.sl 1 [[tI 50],[tI 50],[tI 50]],.sl 7 [[tI 0,tI 1,tI 0,tI 10,tI 24,tI 5,tI 0],[tI 1,tI 2,tI 8,tI 20,tI 24,tI 5,tI 0]],.sl 5 []],[tI 0])
theorem k76:EOk C0.P d76:=AD AT AG (l:=[d65,d72,d73,d74,d75]) ⟨k65,⟨k72,⟨k73,⟨k74,⟨k75,trivial⟩⟩⟩⟩⟩ (n:=5000) (by kernel_rfl)
def d77:Ent:=(17,[.sl 1 [[tI 50],[tI 50],[tI 50]],.sl 7 [[tI 0,tI 1,tI 0,tI 10,tI 24,tI 5,tI 0],[tI 1,tI 2,tI 8,tI 20,tI 24,tI 5,tI 0]],.sl 4 [],.sl 5 []],[tI 0])
theorem k77:EOk C0.P d77:=AD AT AG (l:=[d65,d66,d76]) ⟨k65,⟨k66,⟨k76,trivial⟩⟩⟩ (n:=5000) (by kernel_rfl)
def d78:Ent:=(71,[.sl 1 [[tI 50],[tI 50],[tI 50]],.sl 7 [[tI 0,tI 1,tI 0,tI 10,tI 24,tI 5,tI 0],[tI 1,tI 2,tI 8,tI 20,tI 24,tI 5,tI 0]],tI 0,tI 2,tI 16,tI 0,tI 50,tI 0,.bool false],[tI 0])
theorem k78:EOk C0.P d78:=AD AT AG (l:=[d65]) ⟨k65,trivial⟩ (n:=5000) (by kernel_rfl)
def d79:Ent:=(141,[.sl 1 [[tI 50],[tI 50],[tI 50]],.sl 7 [[tI 0,tI 1,tI 0,tI 10,tI 24,tI 5,tI 0],[tI 1,tI 2,tI 8,tI 20,tI 24,tI 5,tI 0]],.sl 4 [],tI 0],[tI 0])
theorem k79:EOk C0.P d79:=AD AT AG (l:=[d66]) ⟨k66,trivial⟩ (n:=5000) (by kernel_rfl)
def d80:Ent:=(38,[.sl 4 [],tI 0],[.sl 2 []])
theorem k80:EOk C0.P d80:=AD AT AG (l:=[]) trivial (n:=5000) (by kernel_rfl)
def d81:Ent:=(142,[.sl 1 [[tI 50],[tI 50],[tI 50]],.sl 7 [[tI 0,tI 1,tI 0,tI 10,tI 24,tI 5,tI 0],[tI 1,tI 2,tI 8,tI 20,tI 24,tI 5,tI 0]],.sl 4 [],tI 0,tI 0],[.sl 2 [[tI 0,tI 10]]])
theorem k81:EOk C0.P d81:=AD AT AG (l:=[d80]) ⟨k80,trivial⟩ (n:=5000) (by kernel_rfl)
def d82:Ent:=(83,[.sl 1 [[tI 50],[tI 50],[tI 50]],.sl 7 [[tI 0,tI 1,tI 0,tI 10,tI 24,tI 5,tI 0],[tI 1,tI 2,tI 8,tI 20,tI 24,tI 5,tI 0]],.sl 4 [],tI 0],[.sl 2 [[tI 0,tI 10]],tI 0])
theorem k82:EOk C0.P d82:=AD AT AG (l:=[d79,d81]) ⟨k79,⟨k81,trivial⟩⟩ (n:=5000) (by kernel_rfl)
def d83:Ent:=(139,[tI 16,tI 1,tI 65536],[.bool true])
theorem k83:EOk C0.P d83:=AD AT AG (l:=[]) trivial (n:=5000) (by kernel_rfl)
def d84:Ent:=(143,[tI 0,tI 1,tI 0,tI 10,tI 24,tI 5,tI 0,tI 16],[tI 0])
theorem k84:EOk C0.P d84:=AD AT AG (l:=[d61,d83]) ⟨k61,⟨k83,trivial⟩⟩ (n:=5000) (by kernel_rfl)
def d85:Ent:=(185,[tI 0,tI 1,tI 0,tI 10,tI 24,tI 5,tI 0,tI 16],[tI 1])
theorem k85:EOk C0.P d85:=AD AT AG (l:=[]) trivial (n:=5000) (by kernel_rfl)
def d86:Ent:=(184,[tI 0,tI 1,tI 0,tI 10,tI 24,tI 5,tI 0,tI 16],[tI 1])
theorem k86:EOk C0.P d86:=AD AT AG (l:=[d85]) ⟨k85,trivial⟩ (n:=5000) (by kernel_rfl)
def d87:Ent:=(144,[tI 0,tI 1,tI 0,tI 10,tI 24,tI 5,tI 0,tI 16],[tI 1])
theorem k87:EOk C0.P d87:=AD AT AG (l:=[d86,d85]) ⟨k86,⟨k85,trivial⟩⟩ (n:=5000) (by kernel_rfl)
def d88:Ent:=(84,[tI 0,tI 1,tI 0,tI 10,tI 24,tI 5,tI 0,tI 16],[tI 1,tI 0])
theorem k88:EOk C0.P d88:=AD AT AG (l:=[d84,d87]) ⟨k84,⟨k87,trivial⟩⟩ (n:=5000) (by kernel_rfl)
def d89:Ent:=(141,[.sl 1 [[tI 50],[tI 50],[tI 50]],.sl 7 [[tI 0,tI 1,tI 0,tI 10,tI 24,tI 5,tI 0],[tI 1,tI 2,tI 8,tI 20,tI 24,tI 5,tI 0]],.sl 4 [],tI 1],[tI 0])
theorem k89:EOk C0.P d89:=AD AT AG (l:=[d66]) ⟨k66,trivial⟩ (n:=5000) (by kernel_rfl)
def d90:Ent:=(38,[.sl 4 [],tI 1],[.sl 2 []])
theorem k90:EOk C0.P d90:=AD AT AG (l:=[]) trivial (n:=5000) (by kernel_rfl)
def d91:Ent:=(142,[.sl 1 [[tI 50],[tI 50],[tI 50]],.sl 7 [[tI 0,tI 1,tI 0,tI 10,tI 24,tI 5,tI 0],[tI 1,tI 2,tI 8,tI 20,tI 24,tI 5,tI 0]],.sl 4 [],tI 1,tI 8],[.sl 2 [[tI 8,tI 20]]])
theorem k91:EOk C0.P d91:=AD AT AG (l:=[d90]) ⟨k90,trivial⟩ (n:=5000) (by kernel_rfl)
def d92:Ent:=(83,[.sl 1 [[tI 50],[tI 50],[tI 50]],.sl 7 [[tI 0,tI 1,tI 0,tI 10,tI 24,tI 5,tI 0],[tI 1,tI 2,tI 8,tI 20,tI 24,tI 5,tI 0]],.sl 4 [],tI 1],[.sl 2 [[tI 8,tI 20]],tI 0])
theorem k92:EOk C0.P d92:=AD AT AG (l:=[d89,d91]) ⟨k89,⟨k91,trivial⟩⟩ (n:=5000) (by kernel_rfl)
def d93:Ent:=(143,[tI 1,tI 2,tI 8,tI 20,tI 24,tI 5,tI 0,tI 16],[tI 0])
theorem k93:EOk C0.P d93:=AD AT AG (l:=[d63,d83]) ⟨k63,⟨k83,trivial⟩⟩ (n:=5000) (by kernel_rfl)
def d94:Ent:=(185,[tI 1,tI 2,tI 8,tI 20,tI 24,tI 5,tI 0,tI 16],[tI 1])
theorem k94:EOk C0.P d94:=AD AT AG (l:=[]) trivial (n:=5000) (by kernel_rfl)
def d95:Ent:=(184,[tI 1,tI 2,tI 8,tI 20,tI 24,tI 5,tI 0,tI 16],[tI 1])
theorem k95:EOk C0.P d95:=AD AT AG (l:=[d94]) ⟨k94,trivial⟩ (n:=5000) (by kernel_rfl)
def d96:Ent:=(144,[tI 1,tI 2,tI 8,tI 20,tI 24,tI 5,tI 0,tI 16],[tI 1])
theorem k96:EOk C0.P d96:=AD AT AG (l:=[d95,d94]) ⟨k95,⟨k94,trivial⟩⟩ (n:=5000) (by kernel_rfl)
def d97:Ent:=(84,[tI 1,tI 2,tI 8,tI 20,tI 24,tI 5,tI 0,tI 16],[tI 1,tI 0])
theorem k97:EOk C0.P d97:=AD AT AG (l:=[d93,d96]) ⟨k93,⟨k96,trivial⟩⟩ (n:=5000) (by kernel_rfl)
def d98:Ent:=(85,[.sl 1 [[tI 50],[tI 50],[tI 50]],.sl 7 [[tI 0,tI 1,tI 0,tI 10,tI 24,tI 5,tI 0],[tI 1,tI 2,tI 8,tI 20,tI 24,tI 5,tI 0]],.sl 5 [],tI 0,tI 16],[.sl 2 [[tI 0,tI 1099511627776]],tI 0])
theorem k98:EOk C0.P d98:=AD AT AG (l:=[d76,d72]) ⟨k76,⟨k72,trivial⟩⟩ (n:=5000) (by kernel_rfl)
def d99:Ent:=(85,[.sl 1 [[tI 50],[tI 50],[tI 50]],.sl 7 [[tI 0,tI 1,tI 0,tI 10,tI 24,tI 5,tI 0],[tI 1,tI 2,tI 8,tI 20,tI 24,tI 5,tI 0]],.sl 5 [],tI 1,tI 16],[.sl 2 [[tI 0,tI 1099511627776]],tI 0])
theorem k99:EOk C0.P d99:=AD AT AG (l:=[d76,d74]) ⟨k76,⟨k74,trivial⟩⟩ (n:=5000) (by kernel_rfl)
def d100:Ent:=(85,[.sl 1 [[tI 50],[tI 50],[tI 50]],.sl 7 [[tI 0,tI 1,tI 0,tI 10,tI 24,tI 5,tI 0],[tI 1,tI 2,tI 8,tI 20,tI 24,tI 5,tI 0]],.sl 5 [],tI 2,tI 16],[.sl 2 [[tI 0,tI 1099511627776]],tI 0])
theorem k100:EOk C0.P d100:=AD AT AG (l:=[d76,d75]) ⟨k76,⟨k75,trivial⟩⟩ (n:=5000) (by kernel_rfl)
def d101:Ent:=(91,[tI 0,tI 0,tI 1099511627776,tI 0,tI 0,tI 0,tI 1099511627776,tI 0],[.bool true])
theorem k101:EOk C0.P d101:=AD AT AG (l:=[]) trivial (n:=5000) (by kernel_rfl)
def d102:Ent:=(91,[tI 1,tI 0,tI 1099511627776,tI 6,tI 0,tI 0,tI 1099511627776,tI 0],[.bool false])
theorem k102:EOk C0.P d102:=AD AT AG (l:=[]) trivial (n:=5000) (by kernel_rfl)
def d103:Ent:=(91,[tI 1,tI 0,tI 1099511627776,tI 6,tI 1,tI 0,tI 1099511627776,tI 6],[.bool true])
theorem k103:EOk C0.P d103:=AD AT AG (l:=[]) trivial (n:=5000) (by kernel_rfl)
def d104:Ent:=(195,[.int .u64 2],[tI 2])
theorem k104:EOk C0.P d104:=AD AT AG (l:=[]) trivial (n:=5000) (by kernel_rfl)
def d105:Ent:=(153,[.int .u64 2],[tI 2])
theorem k105:EOk C0.P d105:=AD AT AG (l:=[d104]) ⟨k104,trivial⟩ (n:=5000) (by kernel_rfl)
def d106:Ent:=(74,[tI 6],[.bool false])
theorem k106:EOk C0.P d106:=AD AT AG (l:=[]) trivial (n:=5000) (by kernel_rfl)
def d107:Ent:=(74,[tI 0],[.bool false])
theorem k107:EOk C0.P d107:=AD AT AG (l:=[]) trivial (n:=5000) (by kernel_rfl)
def d108:Ent:=(35,[tI 6,tI 0],[tI 1])
theorem k108:EOk C0.P d108:=AD AT AG (l:=[d106,d107]) ⟨k106,⟨k107,trivial⟩⟩ (n:=5000) (by kernel_rfl)
def d109:Ent:=(74,[tI 1],[.bool false])
theorem k109:EOk C0.P d109:=AD AT AG (l:=[]) trivial (n:=5000) (by kernel_rfl)
def d110:Ent:=(35,[tI 1,tI 0],[tI 1])
theorem k110:EOk C0.P d110:=AD AT AG (l:=[d109,d107]) ⟨k109,⟨k107,trivial⟩⟩ (n:=5000) (by kernel_rfl)
def d111:Ent:=(35,[tI 0,tI 0],[tI 0])
theorem k111:EOk C0.P d111:=AD AT AG (l:=[d107]) ⟨k107,trivial⟩ (n:=5000) (by kernel_rfl)
def d112:Ent:=(34,[.sl 1 [[tI 1],[tI 1],[tI 0]]],[tI 1])
theorem k112:EOk C0.P d112:=AD AT AG (l:=[]) trivial (n:=5000) (by kernel_rfl)
def d113:Ent:=(88,[tI 1,tI 0,tI 1099511627776,tI 6,tI 0,tI 0,tI 1099511627776,tI 0],[tI 1])
theorem k113:EOk C0.P d113:=AD AT AG (l:=[d108,d110,d111,d112]) ⟨k108,⟨k110,⟨k111,⟨k112,trivial⟩⟩⟩⟩ (n:=5000) (by kernel_rfl)
def d114:Ent:=(16,[.sl 1 [[tI 50],[tI 50],[tI 50]],.sl 7 [[tI 0,tI 1,tI 0,tI 10,tI 24,tI 5,tI 0],[tI 1,tI 2,tI 8,tI 20,tI 24,tI 5,tI 0]],.sl 4 [],.sl 5 [],tI 0,tI 2,tI 16,tI 0,tI 50,tI 0,.bool false],[tI 14,tI 0])
theorem k114:EOk C0.P d114:=AD AT AG (l:=[d77,d78,d82,d88,d92,d97,d98,d99,d100,d101,d102,d103,d105,d113]) ⟨k77,⟨k78,⟨k82,⟨k88,⟨k92,⟨k97,⟨k98,⟨k99,⟨k100,⟨k101,⟨k102,⟨k103,⟨k105,⟨k113,trivial⟩⟩⟩⟩⟩⟩⟩⟩⟩⟩⟩⟩⟩⟩ (n:=5000) (by kernel_rfl)
def d115:Ent:=(127,[.sl 2 []],[tI 0])
theorem Re:EOk C0.P d115:=AD AT AG (l:=[]) trivial (n:=5000) (by kernel_rfl)
def d116:Ent:=(172,[tI 0,tI 0,tI 1099511627776],[.bool true])
theorem k116:EOk C0.P d116:=AD AT AG (l:=[]) trivial (n:=5000) (by kernel_rfl)
def d117:Ent:=(256,[.str (ByteArray.mk #[104,101,108,108,111])],[.sl 2 [[tI 0,tI 5]]])
theorem k117:EOk C0.P d117:=AD AT AG (l:=[]) trivial (n:=5000) (by kernel_rfl)
def d118:Ent:=(171,[tI 0,tI 5],[.bool true])
theorem k118:EOk C0.P d118:=AD AT AG (l:=[]) trivial (n:=5000) (by kernel_rfl)
def d119:Ent:=(127,[.sl 2 [[tI 0,tI 5]]],[tI 0])
theorem k119:EOk C0.P d119:=AD AT AG (l:=[d118]) ⟨k118,trivial⟩ (n:=5000) (by kernel_rfl)
def d120:Ent:=(275,[.bool true,.bool false],[.bool true])
theorem k120:EOk C0.P d120:=AD AT AG (l:=[]) trivial (n:=5000) (by kernel_rfl)
def d121:Ent:=(275,[.bool false,.bool false],[.bool false])
theorem k121:EOk C0.P d121:=AD AT AG (l:=[]) trivial (n:=5000) (by kernel_rfl)
def d122:Ent:=(255,[.sl 2 [[tI 0,tI 5]],.sl 2 []],[.sl 2 [[tI 0,tI 5]],tI 0])
theorem k122:EOk C0.P d122:=AD AT AG (l:=[d119,d115,d120,d121]) ⟨k119,⟨Re,⟨k120,⟨k121,trivial⟩⟩⟩⟩ (n:=5000) (by kernel_rfl)
def d123:Ent:=(215,[tI 0,tI 0,tI 0,tI 0,tI 0,tI 0,tI 0,tI 0,.str (ByteArray.mk #[104,101,108,108,111]),tI 0,tI 0,tI 0,.sl 2 [],tI 0,tI 0],[.sl 2 [[tI 0,tI 5]]])
theorem k123:EOk C0.P d123:=AD AT AG (l:=[d117,d122]) ⟨k117,⟨k122,trivial⟩⟩ (n:=5000) (by kernel_rfl)
def d124:Ent:=(252,[tI 0,tI 0,tI 1099511627776],[.bool true])
theorem k124:EOk C0.P d124:=AD AT AG (l:=[]) trivial (n:=5000) (by kernel_rfl)
def d125:Ent:=(252,[tI 1,tI 1,tI 1099511627776],[.bool true])
theorem k125:EOk C0.P d125:=AD AT AG (l:=[]) trivial (n:=5000) (by kernel_rfl)
def d126:Ent:=(253,[.sl 2 [[tI 0,tI 5]],tI 5],[.bool true])
theorem k126:EOk C0.P d126:=AD AT AG (l:=[d119]) ⟨k119,trivial⟩ (n:=5000) (by kernel_rfl)
def d127:Ent:=(214,[tI 0,tI 1,.str (ByteArray.mk #[104,101,108,108,111]),.sl 2 [[tI 0,tI 5]]],[.sl 8 [[tI 1,tI 0,tI 1,tI 0,tI 5,.bool true,.str (ByteArray.mk #[104,101,108,108,111]),.sl 2 []]],tI 0])
theorem k127:EOk C0.P d127:=AD AT AG (l:=[d124,d125,d126]) ⟨k124,⟨k125,⟨k126,trivial⟩⟩⟩ (n:=5000) (by kernel_rfl)
def d128:Ent:=(174,[tI 0,tI 0,tI 0,tI 0,tI 0,tI 0,tI 0,tI 0,.str (ByteArray.mk #[104,101,108,108,111]),tI 0,tI 0,tI 0,.sl 2 [],tI 0,tI 0],[.sl 8 [[tI 1,tI 0,tI 1,tI 0,tI 5,.bool true,.str (ByteArray.mk #[104,101,108,108,111]),.sl 2 []]]])
theorem k128:EOk C0.P d128:=AD AT AG (l:=[d123,d127]) ⟨k123,⟨k127,trivial⟩⟩ (n:=5000) (by kernel_rfl)
def d129:Ent:=(252,[tI 1,tI 1,tI 3],[.bool true])
theorem k129:EOk C0.P d129:=AD AT AG (l:=[]) trivial (n:=5000) (by kernel_rfl)
def d130:Ent:=(252,[tI 1,tI 0,tI 1099511627776],[.bool true])
theorem k130:EOk C0.P d130:=AD AT AG (l:=[]) trivial (n:=5000) (by kernel_rfl)
def d131:Ent:=(252,[tI 5,tI 1,tI 65536],[.bool true])
theorem k131:EOk C0.P d131:=AD AT AG (l:=[]) trivial (n:=5000) (by kernel_rfl)
def d132:Ent:=(252,[tI 0,tI 0,tI 4],[.bool true])
theorem k132:EOk C0.P d132:=AD AT AG (l:=[]) trivial (n:=5000) (by kernel_rfl)
def d133:Ent:=(308,[tI 1,tI 0,tI 1,tI 0,tI 5,.bool true,.str (ByteArray.mk #[104,101,108,108,111]),.sl 2 []],[.bool true])
theorem k133:EOk C0.P d133:=AD AT AG (l:=[d131,d132]) ⟨k131,⟨k132,trivial⟩⟩ (n:=5000) (by kernel_rfl)
def d134:Ent:=(252,[tI 5,tI 1,tI 5],[.bool true])
theorem k134:EOk C0.P d134:=AD AT AG (l:=[]) trivial (n:=5000) (by kernel_rfl)
def d135:Ent:=(309,[tI 1,tI 0,tI 1,tI 0,tI 5,.bool true,.str (ByteArray.mk #[104,101,108,108,111]),.sl 2 []],[.bool true])
theorem k135:EOk C0.P d135:=AD AT AG (l:=[d134]) ⟨k134,trivial⟩ (n:=5000) (by kernel_rfl)
def d136:Ent:=(272,[tI 1,tI 0,tI 1,tI 0,tI 5,.bool true,.str (ByteArray.mk #[104,101,108,108,111]),.sl 2 []],[tI 0])
theorem k136:EOk C0.P d136:=AD AT AG (l:=[d129,d124,d130,d133,d135]) ⟨k129,⟨k124,⟨k130,⟨k133,⟨k135,trivial⟩⟩⟩⟩⟩ (n:=5000) (by kernel_rfl)
def d137:Ent:=(252,[tI 24,tI 1,tI 1000],[.bool true])
theorem k137:EOk C0.P d137:=AD AT AG (l:=[]) trivial (n:=5000) (by kernel_rfl)
def d138:Ent:=(251,[tI 24,tI 1,tI 0,tI 1,tI 0,tI 5,.bool true,.str (ByteArray.mk #[104,101,108,108,111]),.sl 2 []],[tI 1,tI 0])
theorem k138:EOk C0.P d138:=AD AT AG (l:=[d136,d137]) ⟨k136,⟨k137,trivial⟩⟩ (n:=5000) (by kernel_rfl)
def d139:Ent:=(213,[tI 0,tI 1,tI 0,tI 10,tI 24,tI 5,tI 0,tI 0,.str (ByteArray.mk #[104,101,108,108,111]),tI 10,tI 1,tI 1,.sl 2 [],tI 0,tI 1],[tI 12])
theorem k139:EOk C0.P d139:=AD AT AG (l:=[]) trivial (n:=5000) (by kernel_rfl)
def d140:Ent:=(2011087,[tI 0,tI 1,tI 0,tI 10,tI 24,tI 5,tI 0,tI 0,.str (ByteArray.mk #[104,101,108,108,111]),tI 10,tI 0,tI 0,.sl 2 [],tI 0,tI 0,tI 0,.sl 8 [[tI 1,tI 0,tI 1,tI 0,tI 5,.bool true,.str (ByteArray.mk #[104,101,108,108,111]),.sl 2 []]]],[tI 0,tI 1,tI 0,tI 10,tI 24,tI 5,tI 0,tI 0,.str (ByteArray.mk #[104,101,108,108,111]),tI 10,tI 1,tI 1,.sl 2 [],tI 12,tI 1,.sl 9 [[tI 1,tI 1,tI 0,tI 1,tI 0,tI 5,.bool true,.str (ByteArray.mk #[104,101,108,108,111]),.sl 2 []]]])
theorem k140:EOk C0.P d140:=AD AT AG (l:=[d138,d139]) ⟨k138,⟨k139,trivial⟩⟩ (n:=5000) (by kernel_rfl)
def d141:Ent:=(2008207,[tI 0,tI 1,tI 0,tI 10,tI 24,tI 5,tI 0,tI 0,.str (ByteArray.mk #[104,101,108,108,111]),tI 0,tI 10],[tI 0,tI 1,tI 0,tI 10,tI 24,tI 5,tI 0,tI 0,.str (ByteArray.mk #[104,101,108,108,111]),tI 10,tI 1,tI 1,.sl 2 [],tI 12,tI 1,.sl 9 [[tI 1,tI 1,tI 0,tI 1,tI 0,tI 5,.bool true,.str (ByteArray.mk #[104,101,108,108,111]),.sl 2 []]],tI 0])
theorem k141:EOk C0.P d141:=AD AT AG (l:=[d61,d116,d128,d140]) ⟨k61,⟨k116,⟨k128,⟨k140,trivial⟩⟩⟩⟩ (n:=5000) (by kernel_rfl)
def d142:Ent:=(175,[tI 5],[.bool true])
theorem Vd:EOk C0.P d142:=AD AT AG (l:=[]) trivial (n:=5000) (by kernel_rfl)
def d143:Ent:=(129,[tI 5],[tI 5,.sl 10 [],tI 0,tI 0,tI 0])
theorem k143:EOk C0.P d143:=AD AT AG (l:=[d142]) ⟨Vd,trivial⟩ (n:=5000) (by kernel_rfl)
def d144:Ent:=(130,[tI 0],[tI 0,tI (-1),.sl 2 [],.str (ByteArray.mk #[]),tI 0])
theorem k144:EOk C0.P d144:=AD AT AG (l:=[]) trivial (n:=5000) (by kernel_rfl)
def d145:Ent:=(257,[tI 5,.sl 10 [],tI 0,tI 0],[tI 0])
theorem k145:EOk C0.P d145:=AD AT AG (l:=[d142]) ⟨Vd,trivial⟩ (n:=5000) (by kernel_rfl)
def d146:Ent:=(218,[tI 5,.sl 10 [],tI 0,tI 0],[tI 0,.bool false])
theorem k146:EOk C0.P d146:=AD AT AG (l:=[d145]) ⟨k145,trivial⟩ (n:=5000) (by kernel_rfl)
def d147:Ent:=(295,[.sl 2 [],tI 1],[.bool false])
theorem k147:EOk C0.P d147:=AD AT AG (l:=[d115]) ⟨Re,trivial⟩ (n:=5000) (by kernel_rfl)
def d148:Ent:=(1000291,[.sl 10 []],[.sl 10 []])
theorem k148:EOk C0.P d148:=AD AT AG (l:=[]) trivial (n:=5000) (by kernel_rfl)
def d149:Ent:=(55,[.sl 1 [[tI 5]],tI 5],[tI 0])
theorem k149:EOk C0.P d149:=AD AT AG (l:=[]) trivial (n:=5000) (by kernel_rfl)
def d150:Ent:=(22,[.sl 1 [[tI 5]],tI 5],[.bool true])
theorem k150:EOk C0.P d150:=AD AT AG (l:=[d149]) ⟨k149,trivial⟩ (n:=5000) (by kernel_rfl)
def d151:Ent:=(276,[tI 5,.sl 10 [],tI 0,tI 0,tI 1,tI 1,tI 0,tI 1,tI 0,tI 5,.bool true,.str (ByteArray.mk #[104,101,108,108,111]),.sl 2 [],.sl 1 [[tI 5]]],[tI 5,.sl 10 [[tI 6,tI 0,tI 1,tI 0,tI 1,tI 0,tI 5,.bool true,.str (ByteArray.mk #[104,101,108,108,111]),.sl 2 []]],tI 1,tI 0,tI 0])
theorem k151:EOk C0.P d151:=AD AT AG (l:=[d145,d148,d150]) ⟨k145,⟨k148,⟨k150,trivial⟩⟩⟩ (n:=5000) (by kernel_rfl)
def d152:Ent:=(257,[tI 5,.sl 10 [[tI 6,tI 0,tI 1,tI 0,tI 1,tI 0,tI 5,.bool true,.str (ByteArray.mk #[104,101,108,108,111]),.sl 2 []]],tI 1,tI 0],[tI 0])
theorem k152:EOk C0.P d152:=AD AT AG (l:=[d142]) ⟨Vd,trivial⟩ (n:=5000) (by kernel_rfl)
def d153:Ent:=(218,[tI 5,.sl 10 [[tI 6,tI 0,tI 1,tI 0,tI 1,tI 0,tI 5,.bool true,.str (ByteArray.mk #[104,101,108,108,111]),.sl 2 []]],tI 1,tI 0],[tI 6,.bool true])
theorem k153:EOk C0.P d153:=AD AT AG (l:=[d152]) ⟨k152,trivial⟩ (n:=5000) (by kernel_rfl)
def d154:Ent:=(278,[tI 5,.sl 10 [[tI 6,tI 0,tI 1,tI 0,tI 1,tI 0,tI 5,.bool true,.str (ByteArray.mk #[104,101,108,108,111]),.sl 2 []]],tI 1,tI 0],[tI 5,.sl 10 [],tI 1,tI 0,tI 6,tI 0,tI 1,tI 0,tI 1,tI 0,tI 5,.bool true,.str (ByteArray.mk #[104,101,108,108,111]),.sl 2 [],tI 0])
theorem k154:EOk C0.P d154:=AD AT AG (l:=[d152,d148]) ⟨k152,⟨k148,trivial⟩⟩ (n:=5000) (by kernel_rfl)
def d155:Ent:=(298,[.str (ByteArray.mk #[]),.str (ByteArray.mk #[0])],[.str (ByteArray.mk #[])])
theorem k155:EOk C0.P d155:=AD AT AG (l:=[]) trivial (n:=5000) (by kernel_rfl)
def d156:Ent:=(279,[tI 0,tI (-1),.sl 2 [],.str (ByteArray.mk #[])],[tI 0])
theorem k156:EOk C0.P d156:=AD AT AG (l:=[d115,d155]) ⟨Re,⟨k155,trivial⟩⟩ (n:=5000) (by kernel_rfl)
def d157:Ent:=(330,[.bool false,.bool true],[.bool true])
theorem k157:EOk C0.P d157:=AD AT AG (l:=[]) trivial (n:=5000) (by kernel_rfl)
def d158:Ent:=(330,[.bool false,.bool false],[.bool false])
theorem k158:EOk C0.P d158:=AD AT AG (l:=[]) trivial (n:=5000) (by kernel_rfl)
def d159:Ent:=(303,[.sl 2 [],.sl 2 [[tI 0,tI 5]]],[.sl 2 [[tI 0,tI 5]],tI 0])
theorem k159:EOk C0.P d159:=AD AT AG (l:=[d115,d119,d157,d158]) ⟨Re,⟨k119,⟨k157,⟨k158,trivial⟩⟩⟩⟩ (n:=5000) (by kernel_rfl)
def d160:Ent:=(281,[tI 0,tI (-1),.sl 2 [],.str (ByteArray.mk #[]),tI 1,tI 0,tI 1,tI 0,tI 5,.bool true,.str (ByteArray.mk #[104,101,108,108,111]),.sl 2 []],[.sl 2 [[tI 0,tI 5]],tI 0])
theorem k160:EOk C0.P d160:=AD AT AG (l:=[d159]) ⟨k159,trivial⟩ (n:=5000) (by kernel_rfl)
def d161:Ent:=(280,[tI 0,tI (-1),.sl 2 [],.str (ByteArray.mk #[]),tI 1,tI 0,tI 1,tI 0,tI 5,.bool true,.str (ByteArray.mk #[104,101,108,108,111]),.sl 2 []],[.bool true])
theorem k161:EOk C0.P d161:=AD AT AG (l:=[d160]) ⟨k160,trivial⟩ (n:=5000) (by kernel_rfl)
def d162:Ent:=(283,[.sl 2 [[tI 0,tI 5]]],[.sl 2 [[tI 0,tI 5]]])
theorem k162:EOk C0.P d162:=AD AT AG (l:=[]) trivial (n:=5000) (by kernel_rfl)
def d163:Ent:=(252,[tI 2,tI 1,tI 3],[.bool true])
theorem k163:EOk C0.P d163:=AD AT AG (l:=[]) trivial (n:=5000) (by kernel_rfl)
def d164:Ent:=(310,[tI 2,tI 0,tI 1,tI 0,tI 5,.bool false,.str (ByteArray.mk #[]),.sl 2 [[tI 0,tI 5]]],[.bool true])
theorem k164:EOk C0.P d164:=AD AT AG (l:=[d131]) ⟨k131,trivial⟩ (n:=5000) (by kernel_rfl)
def d165:Ent:=(311,[tI 2,tI 0,tI 1,tI 0,tI 5,.bool false,.str (ByteArray.mk #[]),.sl 2 [[tI 0,tI 5]]],[.bool true])
theorem k165:EOk C0.P d165:=AD AT AG (l:=[d126]) ⟨k126,trivial⟩ (n:=5000) (by kernel_rfl)
def d166:Ent:=(272,[tI 2,tI 0,tI 1,tI 0,tI 5,.bool false,.str (ByteArray.mk #[]),.sl 2 [[tI 0,tI 5]]],[tI 0])
theorem k166:EOk C0.P d166:=AD AT AG (l:=[d163,d124,d130,d164,d165]) ⟨k163,⟨k124,⟨k130,⟨k164,⟨k165,trivial⟩⟩⟩⟩⟩ (n:=5000) (by kernel_rfl)
def d167:Ent:=(282,[tI 0,tI 1,tI 5,.sl 2 [[tI 0,tI 5]]],[tI 2,tI 0,tI 1,tI 0,tI 5,.bool false,.str (ByteArray.mk #[]),.sl 2 [[tI 0,tI 5]],tI 0])
theorem k167:EOk C0.P d167:=AD AT AG (l:=[d166]) ⟨k166,trivial⟩ (n:=5000) (by kernel_rfl)
def d168:Ent:=(260,[tI 0,tI (-1),.sl 2 [],.str (ByteArray.mk #[]),tI 1,tI 0,tI 1,tI 0,tI 5,.bool true,.str (ByteArray.mk #[104,101,108,108,111]),.sl 2 []],[tI 0,tI 5,.sl 2 [[tI 0,tI 5]],.str (ByteArray.mk #[104,101,108,108,111]),.sl 8 [[tI 2,tI 0,tI 1,tI 0,tI 5,.bool false,.str (ByteArray.mk #[]),.sl 2 [[tI 0,tI 5]]]],tI 0])
theorem k168:EOk C0.P d168:=AD AT AG (l:=[d156,d136,d161,d160,d162,d167]) ⟨k156,⟨k136,⟨k161,⟨k160,⟨k162,⟨k167,trivial⟩⟩⟩⟩⟩⟩ (n:=5000) (by kernel_rfl)
def d169:Ent:=(295,[.sl 2 [],tI 6],[.bool false])
theorem k169:EOk C0.P d169:=AD AT AG (l:=[d115]) ⟨Re,trivial⟩ (n:=5000) (by kernel_rfl)
def d170:Ent:=(276,[tI 5,.sl 10 [],tI 0,tI 0,tI 6,tI 2,tI 0,tI 1,tI 0,tI 5,.bool false,.str (ByteArray.mk #[]),.sl 2 [[tI 0,tI 5]],.sl 1 [[tI 5]]],[tI 5,.sl 10 [[tI 11,tI 0,tI 2,tI 0,tI 1,tI 0,tI 5,.bool false,.str (ByteArray.mk #[]),.sl 2 [[tI 0,tI 5]]]],tI 1,tI 0,tI 0])
theorem k170:EOk C0.P d170:=AD AT AG (l:=[d145,d148,d150]) ⟨k145,⟨k148,⟨k150,trivial⟩⟩⟩ (n:=5000) (by kernel_rfl)
def d171:Ent:=(279,[tI 0,tI 5,.sl 2 [[tI 0,tI 5]],.str (ByteArray.mk #[104,101,108,108,111])],[tI 0])
theorem k171:EOk C0.P d171:=AD AT AG (l:=[d119,d155]) ⟨k119,⟨k155,trivial⟩⟩ (n:=5000) (by kernel_rfl)
def d172:Ent:=(261,[tI 0,tI 5,.sl 2 [[tI 0,tI 5]],.str (ByteArray.mk #[104,101,108,108,111])],[.bool true])
theorem k172:EOk C0.P d172:=AD AT AG (l:=[d171]) ⟨k171,trivial⟩ (n:=5000) (by kernel_rfl)
def d173:Ent:=(257,[tI 5,.sl 10 [],tI 1,tI 0],[tI 0])
theorem k173:EOk C0.P d173:=AD AT AG (l:=[d142]) ⟨Vd,trivial⟩ (n:=5000) (by kernel_rfl)
def d174:Ent:=(218,[tI 5,.sl 10 [],tI 1,tI 0],[tI 0,.bool false])
theorem k174:EOk C0.P d174:=AD AT AG (l:=[d173]) ⟨k173,trivial⟩ (n:=5000) (by kernel_rfl)
def d175:Ent:=(257,[tI 5,.sl 10 [[tI 11,tI 0,tI 2,tI 0,tI 1,tI 0,tI 5,.bool false,.str (ByteArray.mk #[]),.sl 2 [[tI 0,tI 5]]]],tI 1,tI 0],[tI 0])
theorem k175:EOk C0.P d175:=AD AT AG (l:=[d142]) ⟨Vd,trivial⟩ (n:=5000) (by kernel_rfl)
def d176:Ent:=(218,[tI 5,.sl 10 [[tI 11,tI 0,tI 2,tI 0,tI 1,tI 0,tI 5,.bool false,.str (ByteArray.mk #[]),.sl 2 [[tI 0,tI 5]]]],tI 1,tI 0],[tI 11,.bool true])
theorem k176:EOk C0.P d176:=AD AT AG (l:=[d175]) ⟨k175,trivial⟩ (n:=5000) (by kernel_rfl)
def d177:Ent:=(278,[tI 5,.sl 10 [[tI 11,tI 0,tI 2,tI 0,tI 1,tI 0,tI 5,.bool false,.str (ByteArray.mk #[]),.sl 2 [[tI 0,tI 5]]]],tI 1,tI 0],[tI 5,.sl 10 [],tI 1,tI 0,tI 11,tI 0,tI 2,tI 0,tI 1,tI 0,tI 5,.bool false,.str (ByteArray.mk #[]),.sl 2 [[tI 0,tI 5]],tI 0])
theorem k177:EOk C0.P d177:=AD AT AG (l:=[d175,d148]) ⟨k175,⟨k148,trivial⟩⟩ (n:=5000) (by kernel_rfl)
def d178:Ent:=(172,[tI 5,tI 1,tI 65536],[.bool true])
theorem k178:EOk C0.P d178:=AD AT AG (l:=[]) trivial (n:=5000) (by kernel_rfl)
def d179:Ent:=(172,[tI 1,tI 0,tI 10],[.bool true])
theorem k179:EOk C0.P d179:=AD AT AG (l:=[]) trivial (n:=5000) (by kernel_rfl)
def d180:Ent:=(172,[tI 1,tI 1,tI 1099511627776],[.bool true])
theorem k180:EOk C0.P d180:=AD AT AG (l:=[]) trivial (n:=5000) (by kernel_rfl)
def d181:Ent:=(304,[tI 0,tI 1,tI 0,tI 10,tI 24,tI 5,tI 0,tI 0,.str (ByteArray.mk #[104,101,108,108,111]),tI 10,tI 1,tI 1,.sl 2 [],tI 12,tI 1],[tI 0])
theorem k181:EOk C0.P d181:=AD AT AG (l:=[d61,d116,d178,d179,d180,d115]) ⟨k61,⟨k116,⟨k178,⟨k179,⟨k180,⟨Re,trivial⟩⟩⟩⟩⟩⟩ (n:=5000) (by kernel_rfl)
def d182:Ent:=(331,[.sl 2 [],.sl 2 [[tI 0,tI 5]]],[.bool false])
theorem k182:EOk C0.P d182:=AD AT AG (l:=[]) trivial (n:=5000) (by kernel_rfl)
def d183:Ent:=(305,[tI 0,tI 1,tI 0,tI 10,tI 24,tI 5,tI 0,tI 0,.str (ByteArray.mk #[104,101,108,108,111]),tI 10,tI 1,tI 1,.sl 2 [],tI 12,tI 1],[.bool false])
theorem k183:EOk C0.P d183:=AD AT AG (l:=[d117,d182]) ⟨k117,⟨k182,trivial⟩⟩ (n:=5000) (by kernel_rfl)
def d184:Ent:=(213,[tI 0,tI 1,tI 0,tI 10,tI 24,tI 5,tI 0,tI 0,.str (ByteArray.mk #[104,101,108,108,111]),tI 10,tI 1,tI 1,.sl 2 [],tI 12,tI 1],[tI 12])
theorem k184:EOk C0.P d184:=AD AT AG (l:=[]) trivial (n:=5000) (by kernel_rfl)
def d185:Ent:=(284,[tI 0,tI 1,tI 0,tI 10,tI 24,tI 5,tI 0,tI 0,.str (ByteArray.mk #[104,101,108,108,111]),tI 10,tI 1,tI 1,.sl 2 [],tI 12,tI 1],[tI 0])
theorem k185:EOk C0.P d185:=AD AT AG (l:=[d181,d183,d184]) ⟨k181,⟨k183,⟨k184,trivial⟩⟩⟩ (n:=5000) (by kernel_rfl)
def d186:Ent:=(172,[tI 11,tI 1,tI 2199023255552],[.bool true])
theorem k186:EOk C0.P d186:=AD AT AG (l:=[]) trivial (n:=5000) (by kernel_rfl)
def d187:Ent:=(331,[.sl 2 [[tI 0,tI 5]],.sl 2 [[tI 0,tI 5]]],[.bool true])
theorem k187:EOk C0.P d187:=AD AT AG (l:=[]) trivial (n:=5000) (by kernel_rfl)
def d188:Ent:=(305,[tI 0,tI 1,tI 0,tI 10,tI 24,tI 5,tI 0,tI 0,.str (ByteArray.mk #[104,101,108,108,111]),tI 10,tI 1,tI 1,.sl 2 [[tI 0,tI 5]],tI 12,tI 1],[.bool true])
theorem k188:EOk C0.P d188:=AD AT AG (l:=[d117,d187]) ⟨k117,⟨k187,trivial⟩⟩ (n:=5000) (by kernel_rfl)
def d189:Ent:=(306,[tI 0,tI 1,tI 0,tI 10,tI 24,tI 5,tI 0,tI 0,.str (ByteArray.mk #[104,101,108,108,111]),tI 10,tI 1,tI 1,.sl 2 [],tI 12,tI 1,tI 11,tI 2,tI 0,tI 1,tI 0,tI 5,.bool false,.str (ByteArray.mk #[]),.sl 2 [[tI 0,tI 5]]],[tI 0,tI 1,tI 0,tI 10,tI 24,tI 5,tI 0,tI 0,.str (ByteArray.mk #[104,101,108,108,111]),tI 10,tI 1,tI 1,.sl 2 [[tI 0,tI 5]],tI 0,tI 2,.sl 9 []])
theorem k189:EOk C0.P d189:=AD AT AG (l:=[d159,d188]) ⟨k159,⟨k188,trivial⟩⟩ (n:=5000) (by kernel_rfl)
def d190:Ent:=(262,[tI 0,tI 1,tI 0,tI 10,tI 24,tI 5,tI 0,tI 0,.str (ByteArray.mk #[104,101,108,108,111]),tI 10,tI 1,tI 1,.sl 2 [],tI 12,tI 1,tI 11,tI 2,tI 0,tI 1,tI 0,tI 5,.bool false,.str (ByteArray.mk #[]),.sl 2 [[tI 0,tI 5]]],[tI 0,tI 1,tI 0,tI 10,tI 24,tI 5,tI 0,tI 0,.str (ByteArray.mk #[104,101,108,108,111]),tI 10,tI 1,tI 1,.sl 2 [[tI 0,tI 5]],tI 0,tI 2,.sl 9 [],tI 0])
theorem k190:EOk C0.P d190:=AD AT AG (l:=[d185,d166,d186,d189]) ⟨k185,⟨k166,⟨k186,⟨k189,trivial⟩⟩⟩⟩ (n:=5000) (by kernel_rfl)
end Ab
