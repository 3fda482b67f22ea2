/- A part of the proof: see the last text. -/
import Derived.Test.YtabheiodkaljcaaGreatDoorM1
import Derived.Shelf.Spec.SlicesInsertGrow
import Derived.LoopNIn
import Derived.RangeFuncNested
open Array (eq_empty_of_size_eq_zero)
open Array renaming getElem?_toList → yU, size_append → zB
open Bool renaming and_eq_true → zC, false_eq_true → zD, not_eq_true' → yV, or_eq_false_iff → yW, or_eq_true → yX
open Int (toNat toNat_natCast)
open List (drop foldl_cons getElem?_cons_zero getElem?_map getElem_mem length length_cons length_nil mapM_cons map_map replicate singleton_append size_toArray take take_of_length_le)
open List renaming all_eq_true → zG, any_eq_true → yY, append_assoc → zH, append_nil → yZ, append_of_mem → xA, cons_append → xB, eq_nil_of_length_eq_zero → zI, ext_getElem? → zJ, filterMap_cons → xC, filter_append → xD, filter_cons_of_neg → xE, filter_cons_of_pos → xF, filter_eq_self → xG, foldlM_append → xH, foldlM_cons → xI, getD_eq_getElem?_getD → xJ, getElem?_append_left → zK, getElem?_append_right → zL, getElem?_drop → zN, getElem?_eq_getElem → zO, getElem?_eq_none → zP, getElem?_range → zR, getElem?_take → zS, getElem?_take_of_lt → zT, length_append → zV, length_drop → xK, length_pos_iff → zY, length_range → xL, length_take → zZ, map_congr_left → xM, map_cons → xN, mem_append → xO, mem_cons → xP, mem_cons_of_mem → xQ, mem_filter → xR, mem_filterMap → xS, mem_map → xT, mem_of_getElem? → yA, mem_of_mem_drop → xU, mem_range → xV, mem_singleton → xW, nil_append → xX, nodup_append → xY, nodup_cons → xZ, nodup_nil → wA, nodup_range → wB, pairwise_cons → wC
open Nat (add_assoc le_succ min_def mod_lt not_lt succ_mul zero_le)
open Nat renaming add_le_add_left → yF, add_mul → yG, add_zero → yH, le_refl → yI, le_trans → yJ, lt_of_lt_of_le → yK, lt_or_ge → yL, mul_le_mul_right → yN, zero_add → yR
open Option (bind_none map_none)
open Option renaming bind_assoc → wD, map_some → yT
set_option linter.unusedVariables false
namespace Go.Proofs
open Go.Shelf Go.RowKit Go.Lib
variable {P:Program} {ρ:Ren}
set_option maxHeartbeats 4000000 in
set_option maxRecDepth 100000 in
theorem ins_end {z:Nat} (L:HR P ρ z) (b off n c m vc:Nat) (va:Option Addr) (w w1:World) (v1:Value) (hm:0<m) (hnc:n≤c) (hc63:n+m≤9223372036854775807)
  (hrun:∀ty,(Builtin.append_ #[(ρ.t 24),(ρ.t 24)] ty #[.slice (some ⟨b,off,none⟩) n c,.slice va m vc]).run P w = .ok v1 w1) :
  Calls P (ρ.f 22) #[.slice (some ⟨b,off,none⟩) n c,.int .i64 n,.slice va m vc] w fun e w'=>e = .returned v1∧w'=w1:=by
 have t3:=L.t3;have a3:=L.a3;have z3:=L.z3;have v3:=L.v3;have t4:=L.t4;have a4:=L.a4;have z4:=L.z4;have v4:=L.v4;have t24:=L.t24;have a24:=L.a24;have z24:=L.z24;have v24:=L.v24;have z9:=L.z9;have u3:=run_underlying L.t3;have u4:=run_underlying L.t4;have u24:=run_underlying L.t24;have mixed:=L.mixed;have hz1:¬((m:Int)=0):=by omega
 obtain ⟨_,_,FG⟩:=L.f22
 go_enter FG,Body2.n22_ntmps ρ
 go_wp2_with (at_builtin;refine Lib.wpList_append_run _ rfl _ _ _ _ rfl _ _ rfl rfl _ _ (hrun _) ?_)
 all_goals (go_ret;exact ⟨rfl,rfl⟩)
set_option maxHeartbeats 4000000 in
set_option maxRecDepth 100000 in
theorem VJ {z:Nat} (L:HR P ρ z) (a0:Option Addr) (m vc:Nat) (va:Option Addr) (w w1:World) (v1:Value) (hm:0<m)
  (hrun:∀ty,(Builtin.append_ #[(ρ.t 24),(ρ.t 24)] ty #[.slice a0 0 0,.slice va m vc]).run P w = .ok v1 w1) :
  Calls P (ρ.f 22) #[.slice a0 0 0,.int .i64 0,.slice va m vc] w fun e w'=>e = .returned v1∧w'=w1:=by
 have t3:=L.t3;have a3:=L.a3;have z3:=L.z3;have v3:=L.v3;have t4:=L.t4;have a4:=L.a4;have z4:=L.z4;have v4:=L.v4;have t24:=L.t24;have a24:=L.a24;have z24:=L.z24;have v24:=L.v24;have z9:=L.z9;have u3:=run_underlying L.t3;have u4:=run_underlying L.t4;have u24:=run_underlying L.t24;have mixed:=L.mixed;have hz1:¬((m:Int)=0):=by omega
 obtain ⟨_,_,FG⟩:=L.f22
 go_enter FG,Body2.n22_ntmps ρ
 cases a0 with
 |none=>
  go_wp2_with (at_builtin;refine Lib.wpList_append_run _ rfl _ _ _ _ rfl _ _ rfl rfl _ _ (hrun _) ?_)
  go_ret
  exact ⟨rfl,rfl⟩
 |some a=>
  obtain ⟨ab,ao,asp⟩:=a
  go_wp2_with (at_builtin;refine Lib.wpList_append_run _ rfl _ _ _ _ rfl _ _ rfl rfl _ _ (hrun _) ?_)
  all_goals (go_ret;exact ⟨rfl,rfl⟩)
set_option maxHeartbeats 4000000 in
set_option maxRecDepth 100000 in
theorem YY {z:Nat} (L:HR P ρ z) (b off n c i vb voff m vc:Nat) (cs vs:List Value) (w:World) (hi:i<n) (hm:0<m) (hnc:n≤c) (hroom:c<n+m) (hbig:(n+m)*65536≤140737488355328)
  (hcl:cs.length=n*z) (hvl:vs.length=m*z)
  (hcs:∀j v,cs[j]? = some v→w.cell? ⟨b,off+j,none⟩=some v)
  (hvs:∀j v,vs[j]? = some v→w.cell? ⟨vb,voff+j,none⟩=some v) (h1c:∀v∈cs,v.oneCell'=true) (h1v:∀v∈vs,v.oneCell'=true) :
  ∃(ROW:Array Value) (G:Nat),n+m≤G∧ROW.size=G*z∧(∀j,j<i*z→ROW[j]? = cs[j]?)∧
  Calls P (ρ.f 22) #[.slice (some ⟨b,off,none⟩) n c,.int .i64 i,.slice (some ⟨vb,voff,none⟩) m vc] w fun e w'=>
   e = .returned (.slice (some ⟨w.heap.size,0,none⟩) (n+m) G)∧
   w'=(((w.alloc (.cells ROW (ρ.t 9))).drew.setCells w.heap.size (i*z) vs).drew).setCells w.heap.size ((i+m)*z) (cs.drop (i*z)):=by
 have t3:=L.t3;have a3:=L.a3;have z3:=L.z3;have v3:=L.v3;have t4:=L.t4;have a4:=L.a4;have z4:=L.z4;have v4:=L.v4;have t24:=L.t24;have a24:=L.a24;have z24:=L.z24;have v24:=L.v24;have z9:=L.z9;have u3:=run_underlying L.t3;have u4:=run_underlying L.t4;have u24:=run_underlying L.t24;have mixed:=L.mixed;obtain ⟨i0,zv,hi0,hz0,hzs,hzz,hzb⟩:=L.i9;have hpos:=L.pos;have hz1:¬((m:Int)=0):=by omega
 have hz2:¬((i:Int)=(n:Int)):=by omega
 have hz3:(c:Int)<(n:Int)+(m:Int):=by omega
 have hnz:i*z<n*z:=Nat.mul_lt_mul_of_pos_right hi hpos;have hmz:0<m*z:=Nat.mul_pos hm hpos;have hbw:b<w.heap.size:=block_lt_of_cell (hcs 0 _ (zO (by omega)));have hvw:vb<w.heap.size:=block_lt_of_cell (hvs 0 _ (zO (by omega)));have hkk:(n:Int)+(m:Int)-(i:Int)=((n+m-i:Nat):Int):=by omega
 have hik:i+(n+m-i)=n+m:=by omega
 have hold:(Builtin.firstCells i0.size i (.slice (some ⟨b,off,none⟩) i c)).run P w.drew = .ok (cs.take (i*z)).toArray w.drew:=by
  rw [hzs];exact run_firstCells_some w.drew z i ⟨b,off,none⟩ i c (cs.take (i*z)) (by rw [zZ];omega) (fun j v hj=>by
   rw [Addr.add_lit];rw [zS] at hj;split at hj
   ·exact hcs j v hj
   ·cases hj)
 have hb1:(n+m)*i0.bytes≤140737488355328:=yJ (Nat.mul_le_mul_left _ hzb) hbig;have hb2:(n+m-i)*i0.bytes≤281474976710656:=yJ (yN _ (Nat.sub_le _ _)) (by omega);have hrz:∀ty,(Builtin.append_ #[(ρ.t 24),(ρ.t 3)] ty #[.slice (some ⟨b,off,none⟩) i c,.int .i64 ((n:Int)+(m:Int)-(i:Int))]).run P w =
   .ok (.slice (some ⟨w.heap.size,0,none⟩) (n+m) (grownCap w (n+m) c (ρ.t 9))) (w.drew.alloc (.cells ((cs.take (i*z)).toArray++Builtin.zeroCells zv.cells (n+m-i)++Builtin.zeroCells zv.cells (grownCap w (n+m) c (ρ.t 9)-(n+m))) (ρ.t 9))):=fun ty=>by
  have h:=Lib.run_append_grow_zeros w (ρ.t 24) (ρ.t 3) ty (ρ.t 9) i0 _ .i64 .i64 L.t24 L.t3 hi0 hz0 (some ⟨b,off,none⟩) i c (cs.take (i*z)) hold (n+m-i) (by omega) (by omega) (by omega) (by omega) hb2 (by rw [hik];exact growslice_fits hroom hb1);rw [hik] at h;rw [hkk];exact h
 have hzc:∀k,(Builtin.zeroCells zv.cells k).size=k*z:=fun k=>by simp [Builtin.zeroCells,hzz]
 obtain ⟨G,hG⟩:∃G,G=grownCap w (n+m) c (ρ.t 9):=⟨_,rfl⟩
 obtain ⟨ROW,hROW⟩:∃ROW:Array Value,ROW=(cs.take (i*z)).toArray++Builtin.zeroCells zv.cells (n+m-i)++Builtin.zeroCells zv.cells (G-(n+m)):=⟨_,rfl⟩
 rw [← hG] at hrz;rw [← hROW] at hrz;have hGn:n+m≤G:=by rw [hG];exact grownCap_ge w _ _ _
 have hRs:ROW.size=G*z:=by rw [hROW,zB,zB,hzc,hzc,size_toArray,zZ,hcl,Nat.min_eq_left (Nat.le_of_lt hnz),← yG,← yG];congr 1;omega
 have hRl:(n+m)*z≤ROW.size:=by rw [hRs];exact yN _ hGn
 refine ⟨ROW,G,hGn,hRs,fun j hj => ?_,?_⟩
 ·have h8:j<(cs.take (i*z)).length:=by rw [zZ];omega
  rw [hROW,Array.append_assoc,Array.getElem?_append,if_pos (by simpa using h8)];simp [hj]
 obtain ⟨W1,hW1⟩:∃W1,W1=w.drew.alloc (.cells ROW (ρ.t 9)):=⟨_,rfl⟩
 rw [← hW1] at hrz;have hN:∀j,j<(n+m)*z→(W1.cell? ⟨w.heap.size,j,none⟩).isSome=true:=fun j hj=>by rw [hW1,World.cell?_alloc_at (w:=w.drew) ROW _ w.heap.size j rfl,Array.getElem?_eq_getElem (by omega)];rfl
 have hNf:∀j,W1.frozen? ⟨w.heap.size,j,none⟩=false:=fun j=>by rw [hW1];exact World.frozen?_alloc_at (w:=w.drew) ROW _ w.heap.size j rfl
 have hOb:∀j v,w.cell? ⟨b,j,none⟩=some v→W1.cell? ⟨b,j,none⟩=some v:=fun j v h=>by rw [hW1,World.cell?_alloc_past (w:=w.drew) _ b j hbw];exact h
 have hOv:∀j v,w.cell? ⟨vb,j,none⟩=some v→W1.cell? ⟨vb,j,none⟩=some v:=fun j v h=>by rw [hW1,World.cell?_alloc_past (w:=w.drew) _ vb j hvw];exact h
 have hmul1:(i+m)*z+(n-i)*z=(n+m)*z:=by rw [← yG];congr 1;omega
 have hmul2:i*z+m*z≤(n+m)*z:=by rw [← yG];exact yN _ (by omega)
 have hcpA:∀(W:World),(∀x,W.cell? x=W1.cell? x)→(∀x,W.frozen? x=W1.frozen? x)→∀ty dc,(Builtin.copy_ #[(ρ.t 24),(ρ.t 24)] ty #[.slice (some ⟨w.heap.size,i*z,none⟩) (n+m-i) dc,.slice (some ⟨vb,voff,none⟩) m vc]).run P W = .ok (goInt m) (W.setCells w.heap.size (i*z) vs):=fun W hWc hWf ty dc=>
  Dx W _ _ ty (ρ.t 9) z w.heap.size (i*z) (n+m-i) dc ⟨vb,voff,none⟩ m vc m vs L.t24 L.z9 (by simp only [min_def];split<;>omega) hvl
   (fun j v hj=>by rw [Addr.add_lit,hWc];exact hOv _ v (hvs j v hj))
   (fun j hj=>by rw [hWc];exact hN _ (by omega)) (fun j hj=>by rw [hWf];exact hNf _) h1v
 have hG63:G≤9223372036854775807:=by have:=grownCap_le_maxLen w (n+m) c (ρ.t 9) (by unfold maxLen;omega);rw [← hG] at this;unfold maxLen at this;omega
 have hGi:¬(G=i):=by omega
 have hGim:¬(G=i+m):=by omega
 have hci:¬(c=i):=by omega
 have hbN:b≠w.heap.size:=by omega
 have hdl:(cs.drop (i*z)).length=(n-i)*z:=by rw [xK,hcl,Nat.sub_mul]
 have hcpB:∀(W:World),(∀x,W.cell? x=(W1.setCells w.heap.size (i*z) vs).cell? x)→(∀x,W.frozen? x=(W1.setCells w.heap.size (i*z) vs).frozen? x)→∀ty dc sc,(Builtin.copy_ #[(ρ.t 24),(ρ.t 24)] ty #[.slice (some ⟨w.heap.size,(i+m)*z,none⟩) (n+m-(i+m)) dc,.slice (some ⟨b,off+i*z,none⟩) (n-i) sc]).run P W = .ok (goInt ((n-i:Nat):Int)) (W.setCells w.heap.size ((i+m)*z) (cs.drop (i*z))):=fun W hWc hWf ty dc sc=>
  Dx W _ _ ty (ρ.t 9) z w.heap.size ((i+m)*z) (n+m-(i+m)) dc ⟨b,off+i*z,none⟩ (n-i) sc (n-i) (cs.drop (i*z)) L.t24 L.z9 (by simp only [min_def];split<;>omega) hdl
   (fun j v hj=>by rw [Addr.add_lit,hWc,World.cell?_setCells_out _ _ _ _ _ (fun h _=>absurd h hbN),add_assoc];exact hOb _ v (hcs (i*z+j) v (by rwa [zN] at hj)))
   (fun j hj=>by rw [hWc];exact isSome_setCells _ _ _ _ (fun t ht=>hN _ (by omega)) _ (hN _ (by omega)))
   (fun j hj=>by rw [hWf,World.frozen?_setCells];exact hNf _) (fun v hv=>h1c v (xU hv))
 subst hW1;have hE1:∀x,((w.alloc (.cells ROW (ρ.t 9))).drew).cell? x=(w.drew.alloc (.cells ROW (ρ.t 9))).cell? x:=fun x=>rfl;have hE2:∀x,((w.alloc (.cells ROW (ρ.t 9))).drew).frozen? x=(w.drew.alloc (.cells ROW (ρ.t 9))).frozen? x:=fun x=>rfl;have hF1:∀x,(((w.alloc (.cells ROW (ρ.t 9))).drew.setCells w.heap.size (i*z) vs).drew).cell? x=((w.drew.alloc (.cells ROW (ρ.t 9))).setCells w.heap.size (i*z) vs).cell? x:=fun x=>rfl;have hF2:∀x,(((w.alloc (.cells ROW (ρ.t 9))).drew.setCells w.heap.size (i*z) vs).drew).frozen? x=((w.drew.alloc (.cells ROW (ρ.t 9))).setCells w.heap.size (i*z) vs).frozen? x:=fun x=>rfl;have hw1:IntKind.i64.wrap ((i:Int)+(m:Int))=(i:Int)+(m:Int):=by rw [IntKind.wrap_i64];omega
 have hb1':(0:Int)≤(i:Int)+(m:Int):=by omega
 have hin:i≤n:=by omega
 have htn:((i:Int)+(m:Int)).toNat=i+m:=by omega
 have hb3:(i:Int)≤(n:Int):=by omega
 clear hkk hik hold hROW hG hRl hmul1 hmul2 hdl hRs hzc hb1 hb2 hnz hmz hN hNf hOb hOv;obtain ⟨_,_,FG⟩:=L.f22
 go_enter FG,Body2.n22_ntmps ρ
 go_wp2_with (first
  |(at_builtin;refine Lib.wpList_append_run _ rfl _ _ _ _ rfl _ _ rfl rfl _ _ (hrz _) ?_)
  |(at_builtin;refine wpList_copy_runI _ rfl _ _ (ρ.t 24) (ρ.t 24) rfl _ _ rfl rfl (hcpA _ hE1 hE2 _ _) ?_)
  |(at_builtin;refine wpList_copy_runI _ rfl _ _ (ρ.t 24) (ρ.t 24) rfl _ _ rfl rfl (hcpB _ (fun _=>rfl) (fun _=>rfl) _ _ _) ?_))
 go_region_law_o (refine step_copy_runI rfl _ _ (ρ.t 24) (ρ.t 24) rfl (.slice (some ⟨w.heap.size,(i+m)*z,none⟩) (n+m-(i+m)) (G-(i+m))) (.slice (some ⟨b,off+i*z,none⟩) (n-i) (c-i)) (by simp [Act.eval,Act.put]) (by simp [Act.eval,Act.put]) (hcpB _ hF1 hF2 (ρ.t 3) (G-(i+m)) (c-i)) ?_)
 go_wp2
 go_ret
 exact ⟨rfl,rfl⟩
end Go.Proofs
namespace Ab
open Go Go.Proofs Go.Shelf
variable {P:Program} {B:Nat→Prop} {κ:BB} {h:Heap} {w:World} {R:Type}
theorem Sp {n:Nat} {f:FuncId} {args:Array Value} {Q:Ending→World→Prop} (hc:Calls P f args w Q):CallsIn (Fr none) n P f args w Q:=callsIn_wide.2 hc
theorem FM {b o:Nat} {cells:Array Value} {el:TypeId} (hb:w.heap[b]? = some (.cells cells el (0,0))) (vs:List Value) (hfit:o+vs.length≤cells.size) (h1:∀v∈vs,v.oneCell'=true) :
  w.setCells b o vs=w.setRow b (Au cells o vs):=by
 have e1:=run_storeCells_cells (P:=default) b o vs 0 w (fun j hj=>by
  rw [Bq hb (by omega)];rfl) (fun j hj=>by
  simp [World.frozen?,hb]) h1
 have e2:=run_storeCells_at default b o el vs 0 cells w hb (by simpa using hfit) h1;rw [e1] at e2;simp only [yH] at e2;injection e2
theorem Oo {A:Nat→Prop} {z:Nat} {L:List (List Tree)} {f:Nat→Value} (hL:BT w A z L f) (k:Nat):BT w A z (L.take k) f∧BT w A z (L.drop k) fun q=>f (k*z+q):=by
 refine ⟨⟨fun j e he=>hL.1 j e (B7 he).2,fun j e c x he hx=>hL.2 j e c x (B7 he).2 hx⟩,⟨fun j e he => ?_,fun j e c x he hx => ?_⟩⟩
 ·rw [zN] at he;exact hL.1 _ e he
 ·rw [zN] at he;have:=hL.2 _ e c x he hx;rw [yG,add_assoc] at this;exact this
theorem J8 {A:Nat→Prop} {z k:Nat} {L M:List (List Tree)} {f m g:Nat→Value} (hL:BT w A z L f) (hM:BT w A z M m) (hk:k≤L.length)
  (h1:∀q,q<k*z→g q=f q) (h2:∀q,q<M.length*z→g (k*z+q)=m q) (h3:∀q,q<(L.length-k)*z→g ((k+M.length)*z+q)=f (k*z+q)):BT w A z (L.take k++M++L.drop k) g:=by
 have hp:=Oo hL k;have hlt:(L.take k).length=k:=by rw [zZ];omega
 have cong:∀{L:List (List Tree)} {f g:Nat→Value},BT w A z L f→(∀q,q<L.length*z→g q=f q)→BT w A z L g:=fun {L f g} hL hfg=>⟨hL.1,fun j e c x he hx=>by
  have h1:j<L.length:=(List.getElem?_eq_some_iff.1 he).1;have hcl:c<z:=by rw [← hL.1 j e he];exact (List.getElem?_eq_some_iff.1 hx).1
  have:=yN z (show j+1≤L.length from h1);rw [succ_mul] at this;rw [hfg _ (by omega)];exact hL.2 j e c x he hx⟩
 refine Dy (f:=g) (Dy hp.1 ?_ fun q hq=>by rw [hlt] at hq;exact h1 q hq) ?_ fun _ _=>rfl
 ·refine cong hM fun q hq => ?_;rw [hlt];exact h2 q hq
 ·refine cong hp.2 fun q hq => ?_;rw [zV,hlt];rw [xK] at hq;exact h3 q hq
theorem Tn {ρ:Ren} {z:Nat} (L:HR P ρ z) (hh:Ap B κ h w) {ri ver off len k:Nat} {es new:List (List Tree)} (hri:h[ri]? = some (.row false ver z es)) (hoff:off+len=es.length) (hk:k<len) (hnew:new≠[]) (hle:len+new.length≤1073741824)
  {vs vx:Value} (hs:AQ B κ h w (.sref ri ver off len) vs) (hx:Bp w (fun b=>B b∨Ex κ h b) (.sl z new) vx) :
  Calls P (ρ.f 22) #[vs,.int .i64 (k:Int),vx] w fun e w'=>∃val κ',e = .returned val∧AQ B κ' (h.set ri (.row false (ver+1) z ((es.drop off).take k++new++(es.drop off).drop k))) w' (.sref ri (ver+1) 0 (len+new.length)) val∧
   Ap B κ' (h.set ri (.row false (ver+1) z ((es.drop off).take k++new++(es.drop off).drop k))) w'∧Ext κ h w κ' (h.set ri (.row false (ver+1) z ((es.drop off).take k++new++(es.drop off).drop k))) w':=by
 have hz0:z≠0:=Nat.pos_iff_ne_zero.1 L.pos;have hOL:∀L,OLe (.row false ver z es) (.row false (ver+1) z L):=fun L=>⟨rfl,le_succ _,(fun e=>by simp [AI.ver] at e),(fun e=>by cases e),(fun e=>by cases e),rfl⟩
 have hver:∀L,(AI.row false ver z es).ver=(AI.row false (ver+1) z L).ver→∀{p:Prop},p:=fun L e=>by simp [AI.ver] at e
 cases hs with
 |sref _ _ _ _ _ _ hex hsr=>
 obtain ⟨kk,hkk⟩:=CE hh hri;obtain ⟨_,_,hm⟩:=hsr kk _ hkk hri rfl;have ho:=hh.obj ri _ _ hri hkk;rcases hm with ⟨rfl,hof,a0,rfl⟩|⟨b,base,rfl,cap,rfl,hcap',hcs⟩
 ·omega
 have hcap:len≤cap:=by simp only [AI.len] at hcap';omega
 obtain ⟨hsz0,cells,el,hcell,hcsz,hls,hct⟩:=ho;have hcapc:=hcs cells el _ hcell;simp only [AI.size] at hcapc ⊢;rw [yG] at hcapc;have hdl:(es.drop off).length=len:=by simp;omega
 have hold:BT w (fun b=>B b∨Ex κ h b) z (es.drop off) fun q=>cells.getD (base+off*z+q) undef:=by refine ⟨fun j e' he'=>hls _ e' (by rw [zN] at he';exact he'),fun j e' c y he' hy => ?_⟩;rw [zN] at he';have:=hct _ e' c y he' hy;rw [yG] at this;dsimp only;rw [show base+off*z+(j*z+c)=base+(off*z+j*z+c) from by omega];exact this
 have hbA:B b∨Ex κ h b :=.inr ⟨ri,base,_,hkk,hri,rfl⟩;have hpos:0<new.length:=zY.2 hnew;have hnb:∀nb o m ncap,vx = .slice (some ⟨nb,o,none⟩) m ncap→nb≠b:=fun nb o m ncap e e2=>by
  cases hx with
  |nil=>exact hnew rfl
  |sl _ _ b0 o0 c0 u _ _ hA _ _ _=>
   injection e with e3 e4 e5;injection e3 with e3;injection e3 with e6;exact hA (by rw [e6,e2];exact hbA)
 obtain ⟨nb,o,ncap,news,hvx,hnl,hnc,hn1,hnt⟩:=Gv hz0 (E5.KN hx) hnew;have hvb:=hnb _ _ _ _ hvx;subst hvx;have hne:es.drop off≠[]:=fun e=>by rw [e] at hdl;simp at hdl;omega
 have hmz:=yN z hcap;have hslr:E5 w (fun b=>B b∨Ex κ h b) z (es.drop off) (.slice (some ⟨b,base+off*z,none⟩) len cap):=⟨hold.1,_,cap,by rw [hdl],by rw [hdl];exact hcap,.inr ⟨b,base+off*z,rfl,hh.lt ri b base hkk,fun j e c x he hx=>by
  have hj:j<len:=by rw [← hdl];exact (List.getElem?_eq_some_iff.1 he).1
  have hcl:c<z:=by rw [← hold.1 j e he];exact (List.getElem?_eq_some_iff.1 hx).1
  have hq:=yN z (show j+1≤len from hj);rw [succ_mul] at hq;exact ⟨_,Bq hcell (by omega),hold.2 j e c x he hx⟩⟩⟩
 obtain ⟨b',o',cap',cs,hvs,hcl,hcc,hc1,hct'⟩:=Gv hz0 hslr hne;injection hvs with hv1 hv2 hv3;injection hv1 with hv1;injection hv1 with hv4 hv5;subst hv4 hv5;rw [hdl] at hcl;have hcc':∀j v,cs[j]? = some v→w.cell? ⟨b,base+off*z+j,none⟩=some v:=fun j v hj=>by have:=hcc j v hj;rwa [E1] at this
 have hnc':∀j v,news[j]? = some v→w.cell? ⟨nb,o+j,none⟩=some v:=fun j v hj=>by have:=hnc j v hj;rwa [E1] at this
 have hcg:∀q,q<len*z→cells.getD (base+off*z+q) undef=cs.getD q undef:=fun q hq=>by have h1:=hcc' q _ (Bg cs q undef (by omega));rw [Bq hcell (by omega)] at h1;exact Option.some.inj h1
 have hold':BT w (fun b=>B b∨Ex κ h b) z (es.drop off) fun q=>cs.getD q undef:=⟨hold.1,hct'⟩
 have hnr:BT w (fun b=>B b∨Ex κ h b) z new fun q=>news.getD q undef:=⟨(E5.KN hx).1,hnt⟩
 have hlen2:((es.drop off).take k++new++(es.drop off).drop k).length=len+new.length:=by simp only [zV,zZ,xK];omega
 have hm1:(k+new.length)*z+(len-k)*z=(len+new.length)*z:=by rw [← yG];congr 1;omega
 have hm2:(k+new.length)*z=k*z+new.length*z:=yG _ _ _;have hm3:(len+new.length)*z=len*z+new.length*z:=yG _ _ _;have hdl2:(cs.drop (k*z)).length=(len-k)*z:=by rw [xK,hcl,Nat.sub_mul]
 have hdg:∀q,(cs.drop (k*z)).getD q undef=cs.getD (k*z+q) undef:=fun q=>by simp [List.getD,zN]
 by_cases hroom:len+new.length≤cap
 ·have hmul:=yN z hroom;obtain ⟨tA,kA,hsa,hkA⟩:∃tA kA,w.shape? nb=some (tA,kA)∧kA≠0:=by
   have h1:=hnc' 0 _ (Bg news 0 undef (by rw [hnl];exact Nat.mul_pos hpos L.pos));cases hb0:w.heap[nb]? with
   |none=>simp [World.cell?,hb0] at h1
   |some ob=>
    cases ob with
    |cells c0 e0 f0=>
     refine ⟨e0,c0.size,by simp [World.shape?,hb0],fun e => ?_⟩;simp [World.cell?,hb0] at h1;obtain ⟨h2,_⟩:=Array.getElem?_eq_some_iff.1 h1;omega
    |_=>simp [World.cell?,hb0] at h1
  have hsb:w.shape? b=some (el,cells.size):=by simp [World.shape?,hcell]
  have key:=WS L b (base+off*z) len cap k nb o new.length ncap cs news w hk hpos hroom (by omega) hvb hcl hnl hcc'
   (fun j hj=>by rw [Bq hcell (by omega)];rfl) (fun j=>by simp [World.frozen?,hcell]) hnc' hc1 hn1 tA el kA cells.size hsa hsb hkA
  refine key.mono ?_
  rintro e w' ⟨rfl,rfl⟩
  have hf1:base+off*z+(k+new.length)*z+(cs.drop (k*z)).length≤cells.size:=by omega
  have hs1:=C2 cells _ _ hf1;have hf2:base+off*z+k*z+news.length≤(Au cells (base+off*z+(k+new.length)*z) (cs.drop (k*z))).size:=by rw [hs1];omega
  have hs2:=C2 _ _ _ hf2;have e1:w.drew.setCells b (base+off*z+(k+new.length)*z) (cs.drop (k*z))=w.drew.setRow b (Au cells (base+off*z+(k+new.length)*z) (cs.drop (k*z))):=FM (w:=w.drew) hcell _ hf1 fun v hv=>hc1 v (xU hv);have hr1:=setRow_heap w.drew b cells (Au cells (base+off*z+(k+new.length)*z) (cs.drop (k*z))) el _ hcell;rw [e1,FM hr1 news hf2 hn1];have hr2:=setRow_heap _ b _ (Au (Au cells (base+off*z+(k+new.length)*z) (cs.drop (k*z))) (base+off*z+k*z) news) el _ hr1;generalize hW:(w.drew.setRow b (Au cells (base+off*z+(k+new.length)*z) (cs.drop (k*z)))).setRow b (Au (Au cells (base+off*z+(k+new.length)*z) (cs.drop (k*z))) (base+off*z+k*z) news)=W at hr2 ⊢;have h5:∀b',b'<w.heap.size→(∀base',(some (b,base):Option (Nat×Nat))≠some (b',base'))→W.heap[b']? = w.heap[b']? :=fun b' _ hb'=>by have hbn:b'≠b:=fun e=>hb' base (by rw [e]);rw [← hW,setRow_other _ b _ hbn,setRow_other _ b _ hbn];rfl
  have hsz:W.heap.size=w.heap.size:=by rw [← hW,setRow_size,setRow_size];rfl
  have x1:Ext κ h w (κ.set ri (some (b,base+off*z))) (h.set ri (.row false (ver+1) z ((es.drop off).take k++new++(es.drop off).drop k))) W:=
   C5 (w':=W) hh hri rfl (hOL _) hkk (by rw [← hW];rfl) (by rw [← hW];rfl) (by rw [← hW];rfl) (by rw [hsz];exact yI _) h5 (fun b' base' e=>by injection e with e;injection e with e1 e2;subst e1;exact .inl ⟨base,rfl⟩) (fun e=>hver _ e)
  have hh1:=CN hh hri hkk h5 (fun b' base' e=>by injection e with e;injection e with e1 e2;subst e1;exact ⟨.inl ⟨base,rfl⟩,by rw [hsz];exact hh.lt ri _ base hkk⟩) x1
   (Cj hz0 hr2 (by rw [hlen2,hs2,hs1];omega) (Df x1 (J8 hold' hnr (by omega) (fun q hq=>by
    have hqk:q<len*z:=yK hq (yN z (by omega));rw [Bf _ _ _ hf2,if_neg (by omega),Bf _ _ _ hf1,if_neg (by omega),hcg q hqk]) (fun q hq=>by
    rw [Bf _ _ _ hf2,if_pos ⟨by omega,by omega⟩];congr 1;omega) (fun q hq=>by
    rw [hdl] at hq;rw [Bf _ _ _ hf2,if_neg (by omega),Bf _ _ _ hf1,if_pos ⟨by omega,by omega⟩,← hdg];congr 1;omega))))
  exact ⟨_,_,rfl,Cc (As hkk) (As hri) hr2 (by rw [hs2,hs1];omega) hlen2 hroom,hh1,x1⟩
 ·have hbig:(len+new.length)*65536≤140737488355328:=yJ (yN _ hle) (by omega);obtain ⟨ROW,G,hG,hRs,hR,key⟩:=YY L b (base+off*z) len cap k nb o new.length ncap cs news w hk hpos hcap (by omega) hbig hcl hnl hcc' hnc' hc1 hn1;refine key.mono ?_
  rintro e w' ⟨rfl,rfl⟩
  have hGz:=yN z hG;have ha:(w.alloc (.cells ROW (ρ.t 9))).drew.heap[w.heap.size]? = some (.cells ROW (ρ.t 9) (0,0)):=BY w _;have hf1:k*z+news.length≤ROW.size:=by omega
  have hs1:=C2 ROW _ _ hf1;have hf2:(k+new.length)*z+(cs.drop (k*z)).length≤(Au ROW (k*z) news).size:=by rw [hs1];omega
  have hs2:=C2 _ _ _ hf2;have hr1:=setRow_heap (w.alloc (.cells ROW (ρ.t 9))).drew w.heap.size ROW (Au ROW (k*z) news) (ρ.t 9) _ ha;have hr1':(((w.alloc (.cells ROW (ρ.t 9))).drew.setRow w.heap.size (Au ROW (k*z) news)).drew).heap[w.heap.size]? = some (.cells (Au ROW (k*z) news) (ρ.t 9) (0,0)):=hr1;rw [FM ha news hf1 hn1,FM hr1' _ hf2 fun v hv=>hc1 v (xU hv)];have hr2:=setRow_heap _ w.heap.size _ (Au (Au ROW (k*z) news) ((k+new.length)*z) (cs.drop (k*z))) (ρ.t 9) _ hr1';generalize hW:(((w.alloc (.cells ROW (ρ.t 9))).drew.setRow w.heap.size (Au ROW (k*z) news)).drew).setRow w.heap.size (Au (Au ROW (k*z) news) ((k+new.length)*z) (cs.drop (k*z)))=W at hr2 ⊢;have h5:∀b',b'<w.heap.size→W.heap[b']? = w.heap[b']? :=fun b' hb'=>by rw [← hW,setRow_other _ _ _ (by omega)];show ((w.alloc (.cells ROW (ρ.t 9))).drew.setRow w.heap.size (Au ROW (k*z) news)).heap[b']? = _;rw [setRow_other _ _ _ (by omega)];exact Ar w _ hb'
  have hsz:W.heap.size=w.heap.size+1:=by rw [← hW,setRow_size];show ((w.alloc (.cells ROW (ρ.t 9))).drew.setRow w.heap.size (Au ROW (k*z) news)).heap.size=_;rw [setRow_size];simp
  have x1:Ext κ h w (κ.set ri (some (w.heap.size,0))) (h.set ri (.row false (ver+1) z ((es.drop off).take k++new++(es.drop off).drop k))) W:=
   C5 (w':=W) hh hri rfl (hOL _) hkk (by rw [← hW];rfl) (by rw [← hW];rfl) (by rw [← hW];rfl) (by omega) (fun b' hb' _=>h5 b' hb') (fun b' base' e=>by injection e with e;injection e with e;exact .inr (by omega)) (fun e=>hver _ e)
  have hh1:=CN hh hri hkk (fun b' hb' _=>h5 b' hb') (fun b' base' e=>by injection e with e;injection e with e;subst e;exact ⟨.inr (yI _),by omega⟩) x1
   (Cj hz0 hr2 (by rw [hlen2,hs2,hs1];omega) (Df x1 (J8 hold' hnr (by omega) (fun q hq=>by
    rw [yR,Bf _ _ _ hf2,if_neg (by omega),Bf _ _ _ hf1,if_neg (by omega)];have:=hR q hq;simp only [Array.getD_eq_getD_getElem?,xJ,this]) (fun q hq=>by
    rw [yR,Bf _ _ _ hf2,if_neg (by omega),Bf _ _ _ hf1,if_pos ⟨by omega,by omega⟩];congr 1;omega) (fun q hq=>by
    rw [hdl] at hq;rw [yR,Bf _ _ _ hf2,if_pos ⟨by omega,by omega⟩,← hdg];congr 1;omega))))
  exact ⟨_,_,rfl,Cc (As hkk) (As hri) hr2 (by rw [hs2,hs1];omega) hlen2 hG,hh1,x1⟩
end Ab
namespace Ab
open Go Go.Proofs Go.Shelf
variable {P:Program} {B:Nat→Prop} {κ:BB} {h:Heap} {w:World} {R:Type}
theorem Pe {ρ:Ren} {z:Nat} (L:HR P ρ z):OH P (ρ.t 24)=some z:=by obtain ⟨i,zv,h1,h2,h3,h4,h5⟩:=L.i9;have:=L.pos;simp only [OH,L.t24,h1,h2];rw [if_pos ⟨by omega,by omega,h5⟩,h3]
theorem ains_ok {ρ:Ren} {z:Nat} (L:HR P ρ z) {avs:List AV} {K:AV→Heap→Option R} {r:R} (hr:ains z h avs K=some r) (hh:Ap B κ h w) {vs:Array Value} (hc:AW B κ h w avs vs) (n:Nat) :
  CallsIn (Fr none) n P (ρ.f 22) vs w fun e w'=>∃val v h' κ',e = .returned val∧K v h'=some r∧AQ B κ' h' w' v val∧Ap B κ' h' w'∧Ext κ h w κ' h' w':=by
 refine Sp ?_;unfold ains at hr
 try simp only [AB] at hr
 split at hr
 ·rename_i s kx z' new;obtain ⟨k,hk,hr1⟩:=bind_some hr;obtain ⟨⟨rfl,hn0⟩,hr2⟩:=AG hr1;clear hr hr1;obtain ⟨vs⟩:=vs;have hl:vs.length=3:=by simpa using hc.1
  match vs,hl with
  |[v0,v1,v2],_=>
  have c0:AQ B κ h w s v0:=hc.2 0 s rfl;have c1:AQ B κ h w kx v1:=hc.2 1 kx rfl;have c2:AQ B κ h w (.t (.sl z' new)) v2:=hc.2 2 _ rfl;have hk1:v1 = .int .i64 k:=Cg hk c1;subst hk1;have hnew:new≠[]:=fun e=>hn0 (by rw [e];rfl);have hpos:0<new.length:=zY.2 hnew;obtain ⟨va,vc,hva⟩:∃va vc,v2 = .slice va new.length vc:=by
   cases c2 with
   |t _ _ ht=>cases ht with
    |nil=>exact (hnew rfl).elim
    |sl _ _ b0 o0 c0 u _ _ hA _ _ _=>exact ⟨_,_,rfl⟩
  split at hr2
  ·obtain ⟨⟨rfl,hle⟩,hK⟩:=AG hr2;have hap:ER P (ρ.t 24) h .nilsl (.t (.sl z' new)) K=some r:=by simp [ER,Pe L,elems,AB,hle,hK]
   obtain ⟨v,h',κ',val,w',h1,h2,h3,h4,h5⟩:=Jm hap hh c0 c2 0;cases c0 with
   |nilsl a0=>
    subst hva;refine (VJ L a0 new.length vc va w w' val hpos fun ty=>h2).mono ?_
    rintro e w2 ⟨rfl,rfl⟩
    exact ⟨_,_,_,_,rfl,h1,h3,h4,h5⟩
  ·rename_i i ver off len;split at hr2
   ·rename_i ver' size es hi;obtain ⟨⟨rfl,rfl,hoff,hle,hk0,hkl⟩,hK⟩:=AG hr2;obtain ⟨k',rfl⟩:=Int.eq_ofNat_of_zero_le hk0;simp only [toNat_natCast] at hK;have hdl:(es.drop off).length=len:=by simp;omega
    by_cases hkk:k'=len
    ·subst hkk;have hap:ER P (ρ.t 24) h (.sref i ver' off k') (.t (.sl size new)) K=some r:=by have hA:(es.drop off).take k'=es.drop off:=take_of_length_le (by omega);have hB:(es.drop off).drop k'=[]:=List.drop_eq_nil_of_le (by omega);rw [hA,hB,yZ] at hK;simp [ER,Pe L,elems,AB,hi,hoff,hle,hA,hK]
     obtain ⟨v,h',κ',val,w',h1,h2,h3,h4,h5⟩:=Jm hap hh c0 c2 0;cases c0 with
     |sref _ _ _ _ _ _ hex hsr=>
     obtain ⟨kk,hkk⟩:=CE hh hi;obtain ⟨_,_,hm⟩:=hsr kk _ hkk hi rfl;have ho:=hh.obj i _ _ hi hkk;subst hva;rcases hm with ⟨rfl,hof,a0,rfl⟩|⟨b,base,rfl,cap,rfl,hcap',hcs⟩
     ·refine (VJ L a0 new.length vc va w w' val hpos fun ty=>h2).mono ?_
      rintro e w2 ⟨rfl,rfl⟩
      exact ⟨_,_,_,_,rfl,h1,h3,h4,h5⟩
     ·have hcap:k'≤cap:=by simp only [AI.len] at hcap';omega
      refine (ins_end L b _ k' cap new.length vc va w w' val hpos hcap (by omega) fun ty=>h2).mono ?_
      rintro e w2 ⟨rfl,rfl⟩
      exact ⟨_,_,_,_,rfl,h1,h3,h4,h5⟩
    ·refine (Tn L hh hi hoff (by omega) hnew hle c0 (by cases c2 with|t _ _ ht=>exact ht)).mono ?_
     rintro e w' ⟨val,κ',rfl,h3,h4,h5⟩
     exact ⟨_,_,_,_,rfl,hK,h3,h4,h5⟩
   ·cases hr2
  ·cases hr2
 ·cases hr
theorem Y5 {ρ:Ren} {z:Nat} (L:Vu P ρ z) {avs:List AV} {K:AV→Heap→Option R} {r:R} (hr:Y6 z h avs K=some r) (hh:Ap B κ h w) {vs:Array Value} (hc:AW B κ h w avs vs) (n:Nat) :
  CallsIn (Fr none) n P (ρ.f 4) vs w fun e w'=>∃val v h' κ',e = .returned val∧K v h'=some r∧AQ B κ' h' w' v val∧Ap B κ' h' w'∧Ext κ h w κ' h' w':=by
 refine Sp ?_;unfold Y6 at hr
 try simp only [AB] at hr
 split at hr
 ·rename_i nx;obtain ⟨k,hk,hr1⟩:=bind_some hr;obtain ⟨⟨h0,hle⟩,hK⟩:=AG hr1;obtain ⟨vs⟩:=vs;have hl:vs.length=2:=by simpa using hc.1
  match vs,hl with
  |[v0,v1],_=>
  have c0:AQ B κ h w .nilsl v0:=hc.2 0 _ rfl;have c1:AQ B κ h w nx v1:=hc.2 1 nx rfl;obtain rfl:v1 = .int .i64 k:=Cg hk c1;obtain ⟨m,rfl⟩:=Int.eq_ofNat_of_zero_le h0;obtain ⟨i,zv,hi,hzv,hsz,hzs,hby⟩:=L.i25;have hz0:z≠0:=by have:=L.pos;omega
  cases c0 with
  |nilsl a0=>
   by_cases hm:m=0
   ·subst hm;refine (Any8.slices_Grow_room L.lay a0 0 0 0 w (yI _) (by omega) (by omega) (by omega)).mono ?_
    rintro e w' ⟨rfl,he⟩
    subst he;have x1:Ext κ h w' (κ++[none]) (h++[.row false 0 z []]) w':=CD hh rfl rfl rfl (yI _) (fun _ _=>rfl) (fun b base e=>by cases e);have hh1:=Bs hh (fun _ _=>rfl) x1 (fun b base e=>by cases e) (show HA B (κ++[none]) (h++[.row false 0 z []]) w' none (.row false 0 z []) from rfl);exact ⟨_,_,_,_,rfl,hK,CP (by rw [← hh.len];exact Am κ _) (Am h _),hh1,x1⟩
   ·have hbig:(0+m)*i.bytes≤140737488355328:=by have h2:m*i.bytes≤1073741824*65536:=Nat.mul_le_mul (by omega) hby;rw [yR];omega
    refine (Any8.slices_Grow_grow L.lay i zv hi hzv (by omega) a0 0 0 m [] w (yI _) (by omega) hbig (by omega) (by simp) (fun _=>rfl) (fun a _ j v hj=>by simp at hj)).mono ?_
    rintro e w' ⟨rfl,rfl⟩
    generalize hC:([]:List Value).toArray++Builtin.zeroCells zv.cells (0+m-0)++Builtin.zeroCells zv.cells (grownCap w (0+m) 0 (ρ.t 25)-(0+m))=CS;have hge:=grownCap_ge w (0+m) 0 (ρ.t 25);have hCs:CS.size=grownCap w (0+m) 0 (ρ.t 25)*z:=by rw [← hC];simp only [zB,size_toArray,length_nil,size_zeroCells,hzs];rw [yR,← yG];congr 1;omega
    have h5:∀b',b'<w.heap.size→(w.drew.alloc (.cells CS (ρ.t 25))).heap[b']? = w.heap[b']? :=fun b' hb'=>Ar w.drew _ hb';have x1:Ext κ h w (κ++[some (w.heap.size,0)]) (h++[.row false 0 z []]) (w.drew.alloc (.cells CS (ρ.t 25))):=
     CD (w':=w.drew.alloc _) hh rfl rfl rfl (by simp) h5 fun b base e=>by injection e with e;injection e with e;omega
    have hnew:=BY w.drew (.cells CS (ρ.t 25));have hh1:=Bs hh h5 x1 (fun b base e=>by injection e with e;injection e with e;subst e;exact ⟨yI _,by simp⟩)
     (Cj hz0 hnew (by simp) ⟨fun j e he=>by simp at he,fun j e c x he=>by simp at he⟩)
    exact ⟨_,_,_,_,rfl,hK,Cc (by rw [← hh.len];exact Am κ _) (Am h _) hnew (by rw [hCs];omega) rfl (zero_le _),hh1,x1⟩
 ·cases hr
theorem Y2 {g:FuncId} {p:Prim} (L:UG P g p) {avs:List AV} {K:AV→Heap→Option R} {r:R} (hr:aprim p h avs K=some r) (hh:Ap B κ h w) {vs:Array Value} (hc:AW B κ h w avs vs) (n:Nat) :
  CallsIn (Fr none) n P g vs w fun e w'=>∃val v h' κ',e = .returned val∧K v h'=some r∧AQ B κ' h' w' v val∧Ap B κ' h' w'∧Ext κ h w κ' h' w':=by
 cases p with
 |ins z=>
  obtain ⟨ρ,rfl,hL⟩:=L;exact ains_ok hL hr hh hc n
 |grow z=>
  obtain ⟨ρ,rfl,hL⟩:=L;exact Y5 hL hr hh hc n
end Ab
namespace Ab
open Go
variable {R:Type} {P:Program} {B:Nat→Prop} {κ:BB} {h:Heap} {w:World}
theorem NY {f:Nat→Tree} {t:TypeId} {off:Nat} {x:AV} {off':Nat} (hm:JI P t (fun i =>.t (f i)) off=some (x,off')) {B1 B2:Nat→Prop} {κ1 κ2:BB} {h1 h2:Heap} {w1 w2:World} {v:Value} (hv:AQ B1 κ1 h1 w1 x v)
  (ht:∀i u,Bp w1 (fun b=>B1 b∨Ex κ1 h1 b) (f i) u→Bp w2 (fun b=>B2 b∨Ex κ2 h2 b) (f i) u):AQ B2 κ2 h2 w2 x v:=by
 unfold JI at hm;split at hm
 ·rename_i n _ _;simp only [Option.some.injEq,Prod.mk.injEq] at hm;obtain ⟨rfl,_⟩:=hm;cases hv with
  |agg _ vs hs hall=>
   refine .agg _ _ hs fun j y hy => ?_;have:=hall j y hy;have hj:j<n:=by have:=AU hy;simpa [BV] using this
   rw [Et _ _ _ _ hj] at hy;cases hy;cases this with
   |t _ _ h3=>exact .t _ _ (ht _ _ h3)
 ·simp only [Option.some.injEq,Prod.mk.injEq] at hm;obtain ⟨rfl,_⟩:=hm;cases hv with
  |t _ _ h3=>exact .t _ _ (ht _ _ h3)
 ·cases hm
theorem E9 {f:Nat→Tree}:∀{ts:List TypeId} {off:Nat} {avs:List AV},Cn P (fun i =>.t (f i)) ts off=some avs→∀{B1 B2:Nat→Prop} {κ1 κ2:BB} {h1 h2:Heap} {w1 w2:World}
  (_:∀i u,Bp w1 (fun b=>B1 b∨Ex κ1 h1 b) (f i) u→Bp w2 (fun b=>B2 b∨Ex κ2 h2 b) (f i) u) (x:AV) (_:x∈avs) (v:Value),AQ B1 κ1 h1 w1 x v→AQ B2 κ2 h2 w2 x v
 |[],off,avs,hm,B1,B2,κ1,κ2,h1,h2,w1,w2,ht,x,hx,v,hv=>by simp only [Cn,Option.some.injEq] at hm;subst hm;cases hx
 |t::ts,off,avs,hm,B1,B2,κ1,κ2,h1,h2,w1,w2,ht,x,hx,v,hv=>by
  simp only [Cn] at hm;split at hm
  ·rename_i y off' hy;cases hr:Cn P (fun i =>.t (f i)) ts off' with
   |none=>rw [hr] at hm;cases hm
   |some rest=>
    rw [hr] at hm;simp only [yT,Option.some.injEq] at hm;subst hm;cases hx with
    |head=>exact NY hy hv ht
    |tail _ hx=>exact E9 hr ht x hx v hv
  ·cases hm
theorem IB {f:Nat→Tree} {g:FuncId} {r:AV} (hm:DC P g (fun i =>.t (f i))=some r) {B1 B2:Nat→Prop} {κ1 κ2:BB} {h1 h2:Heap} {w1 w2:World}
  (ht:∀i u,Bp w1 (fun b=>B1 b∨Ex κ1 h1 b) (f i) u→Bp w2 (fun b=>B2 b∨Ex κ2 h2 b) (f i) u) {v:Value} (hv:AQ B1 κ1 h1 w1 r v):AQ B2 κ2 h2 w2 r v:=by
 unfold DC at hm;split at hm
 ·rename_i fn hf;split at hm
  ·rename_i x hx;cases hm;exact E9 hx ht _ (xW.2 rfl) v hv
  ·rename_i avs _ hx;cases hm;cases hv with
   |tuple _ vs hs hall=>exact .tuple _ _ hs fun j y hy=>E9 hx ht y (yA hy) _ (hall j y hy)
  ·cases hm
 ·cases hm
theorem IA {m:Nat} {leaf:Nat→AV} (hl:∀i,Refs m (leaf i)):∀{ts:List TypeId} {off:Nat} {avs:List AV},Cn P leaf ts off=some avs→∀x∈avs,Refs m x
 |[],off,avs,hm,x,hx=>by simp only [Cn,Option.some.injEq] at hm;subst hm;cases hx
 |t::ts,off,avs,hm,x,hx=>by
  simp only [Cn] at hm;split at hm
  ·rename_i y off' hy;cases hr:Cn P leaf ts off' with
   |none=>rw [hr] at hm;cases hm
   |some rest=>
    rw [hr] at hm;simp only [yT,Option.some.injEq] at hm;subst hm;cases hx with
    |tail _ hx=>exact IA hl hr x hx
    |head=>
     unfold JI at hy;split at hy
     ·rename_i n _ _;simp only [Option.some.injEq,Prod.mk.injEq] at hy;obtain ⟨rfl,_⟩:=hy;refine .agg _ fun j z hz => ?_;have hj:j<n:=by have:=AU hz;simpa [BV] using this
      rw [Et _ _ _ _ hj] at hz;cases hz;exact hl _
     ·simp only [Option.some.injEq,Prod.mk.injEq] at hy;obtain ⟨rfl,_⟩:=hy;exact hl _
     ·cases hy
  ·cases hm
theorem NZ {m:Nat} {leaf:Nat→AV} (hl:∀i,Refs m (leaf i)) {g:FuncId} {r:AV} (hm:DC P g leaf=some r):Refs m r:=by
 unfold DC at hm;split at hm
 ·split at hm
  ·rename_i x hx;cases hm;exact IA hl hx _ (xW.2 rfl)
  ·rename_i avs _ hx;cases hm;exact .tuple _ fun j y hy=>IA hl hx y (yA hy)
  ·cases hm
 ·cases hm
def JA (B:Nat→Prop) (κ:BB) (h:Heap) (w:World) (q:Bool) (K:AV→Heap→Option R) (r:R) (e:Ending) (w':World):Prop:=
 ∃val v h' κ',e = .returned val∧K v h'=some r∧AQ B κ' h' w' v val∧Ap B κ' h' w'∧Ext κ h w κ' h' w'∧(q=true→h'=h∧κ'=κ)
theorem Ri {ys:List Tree} (hs:ys.all Tree.scalar=true) (i:Nat):(ys.getD i default).scalar=true:=by
 rcases yL i ys.length with hi|hi
 ·exact Ez hs (Bg ys i default hi)
 ·simp only [List.getD,zP hi];rfl
theorem Uj {m:Nat} {rs:List AV} {κ':BB} {h1:Heap} {w':World} {rv:AV} {v:Value} (hh':Ap B κ' h1 w') (x:Ext κ h w κ' h1 w') (hm:h.length≤m) (hrefs:(∀i,Refs m (rs.getD i .undef))→Refs m rv) (hv:AQ B κ' h1 w' rv v) :
  ∃κ2,AQ B κ2 (trim m rs h1) w' rv v∧Ap B κ2 (trim m rs h1) w'∧Ext κ h w κ2 (trim m rs h1) w':=by
 unfold trim;split
 ·rename_i hc;simp only [zC] at hc;refine ⟨κ'.take m,hv.EF (hrefs fun i => ?_),hh'.EF hc.2,x.EF hm⟩;rcases yL i rs.length with hi|hi
  ·exact D5 4 (Ez hc.1 (Bg rs i .undef hi))
  ·simp only [List.getD,zP hi];exact .undef
 ·exact ⟨κ',hv,hh',x⟩
theorem WI (g j:Nat) (hj:j<64):¬G9+(64*g+j)<OWN∧¬G9+(64*g+j)<G9∧(G9+(64*g+j)-G9) % 64=j∧(G9+(64*g+j)-G9) / 64=g:=by unfold OWN G9;omega
theorem YE {g:Nat} (h:g<OWN):OWN+g<G9:=by unfold OWN at h;unfold OWN G9;omega
theorem Sa {C:Cfg} {rec:Rec} {pc:BN} (hrec:EB C.P rec) (hpc:CW C.P pc) {q:Bool} {g:FuncId} {avs:List AV} {K:AV→Heap→Option R} {r:R} (hr:F6 C rec pc q g avs h K=some r)
  (hh:Ap B κ h w) {vs:Array Value} (hc:AW B κ h w avs vs) (n:Nat):CallsIn (Fr none) n C.P g vs w (JA B κ h w q K r):=by
 unfold F6 at hr
 try simp only [AB] at hr
 split at hr
 ·split at hr
  ·cases hr
  ·rename_i hq;obtain ⟨ls,us,hr1,hls,hbuild⟩:=KX hr hc;clear hr;obtain ⟨hh1,x1⟩:=G2 ls hh;have hls1:=hls.ext x1;obtain ⟨xs,hr3,hxl,_,hxt⟩:=DD (vs:=us) hr1 hh1 (by simpa using hls1.1) (B5 hls1);have hul:us.length=xs.length:=by rw [hxl];simpa using hls1.1
   have hargs:∃avs',Dm C.P g (fun i =>.t (xs.getD i default))=some avs'∧AW (fun b=>B b∨Ex κ (AX h ls) b) [] [] w avs' vs:=by
    obtain ⟨avs',ha1,ha2⟩:=hbuild (fun b=>B b∨Ex κ (AX h ls) b) [] [] w (fun i =>.t (xs.getD i default)) 0 (fun j u hu=>by
     have hj:j<xs.length:=by rw [← hul];exact AU hu
     have:=hxt j _ u (Bg xs j default hj) hu;rw [yR];exact .t _ _ (this.less fun b hb=>by
      rcases hb with (hb|hb)|hb
      ·exact .inl hb
      ·exact .inr ⟨rfl,hb⟩
      ·exact (Du hb).elim))
    refine ⟨avs',?_,ha2⟩;unfold Dm;unfold Ik at ha1;cases hf:C.P.funcs[g]? with
    |none=>
     have:DC C.P g (fun _ =>.undef)=none:=by unfold DC;rw [hf]
     exact absurd hf (by
      intro hf;have hn:=hr3;split at hn
      ·try simp only [AB] at hn
       obtain ⟨_,hn⟩:=AG hn;obtain ⟨ys,_,hn⟩:=bind_some hn;have hn:=J9 hn;split at hn
       ·simp only [DC,hf] at hn;cases hn
       ·cases hn
      ·obtain ⟨ys,_,hn⟩:=bind_some hn;simp only [A6,hf] at hn;cases hn)
    |some fn=>rw [hf] at ha1;exact ha1
   split at hr3
   ·rename_i j ho2
    try simp only [AB] at hr3
    obtain ⟨hj64,hr3⟩:=AG hr3;obtain ⟨ys,hy,hr4⟩:=bind_some hr3;have hown:=hpc (G9+(64*g+j)) xs ys hy;obtain ⟨o1,o2,o3,o4⟩:=WI g j hj64;rw [if_neg o1,if_neg o2,o3,o4] at hown;have hr4:=J9 hr4;obtain ⟨avs',ha3,ha2⟩:=hargs;refine (hown (fun b=>B b∨Ex κ (AX h ls) b) w avs' vs n ha3 (fun b hb=>hb.elim (hh1.ltB b) fun ⟨i,base,o,hk,_,_⟩=>hh1.lt i b base hk) ha2).mono ?_
    rintro e w' ⟨v,us2,z,es,u,rfl,hg,hyj,hul2,huj,hnew,hoth,hbld⟩
    rw [hyj] at hr4;simp only at hr4;have hh2:=Iv hh1 hg;have x2:=IF hh1 hg;have key:∀(k:Option (Nat×Nat)),Ap B (κ++[k]) (AX h ls++[.row false 0 z es]) w'→Ext κ h w (κ++[k]) (AX h ls++[.row false 0 z es]) w'→AQ B (κ++[k]) (AX h ls++[.row false 0 z es]) w' (.sref (AX h ls).length 0 0 es.length) u→
      (∀b,Ex (κ++[k]) (AX h ls++[.row false 0 z es]) b→Ex κ (AX h ls) b∨ZJ u b)→JA B κ h w q K r (.returned v) w':=fun k q1 q2 q3 q4=>by
     obtain ⟨rv,e1,e2⟩:=hbld B (κ++[k]) (AX h ls++[.row false 0 z es]) w' (fun i=>if i=j then .sref (AX h ls).length 0 0 es.length else .t (ys.getD i default)) fun i x hx=>by
      by_cases hij:i=j
      ·subst hij;rw [if_pos rfl];rw [huj] at hx;cases hx;exact q3
      ·rw [if_neg hij];have hi:i<ys.length:=by rw [← hul2];exact AU hx
       refine .t _ _ ((hoth i _ x hij (Bg ys i default hi) hx).less fun b hb => ?_);rcases hb with hb|hb
       ·exact .inl (.inl hb)
       ·rcases q4 b hb with hb|hb
        ·exact .inl (.inr hb)
        ·exact .inr hb
     rw [e1] at hr4;exact ⟨_,_,_,_,rfl,hr4,e2,q1,q2,fun e=>(hq e).elim⟩
    have hnil:es=[]→∀a0,u = .slice a0 0 0→JA B κ h w q K r (.returned v) w':=fun he a0 hu0=>by
     subst he;subst hu0;have x3:Ext κ (AX h ls) w' (κ++[none]) (AX h ls++[.row false 0 z []]) w':=CD hh2 rfl rfl rfl (yI _) (fun _ _=>rfl) (fun b base e=>by cases e);have hh3:=Bs hh2 (fun _ _=>rfl) x3 (fun b base e=>by cases e) (show HA B (κ++[none]) (AX h ls++[.row false 0 z []]) w' none (.row false 0 z []) from rfl);refine key none hh3 ((x1.trans x2).trans x3) (CP (by rw [← hh2.len];exact Am κ _) (Am _ _)) fun b ⟨i,bs,o,k1,k2,k3⟩=> ?_;rcases CO κ _ i k1 with ⟨_,k1'⟩|⟨rfl,k1'⟩
     ·have hi:i<(AX h ls).length:=by rw [← hh2.len];exact AU k1'
      rw [zK hi] at k2;exact .inl ⟨i,bs,o,k1',k2,k3⟩
     ·cases k1'
    rcases hnew with ⟨he,a0,hu0⟩|⟨b,base,cap,cells,elem,hu0,h1,h2,h3,h4,h5,h6,h7,h8⟩
    ·exact hnil he a0 hu0
    ·by_cases hcap0:cap=0
     ·exact hnil (zI (by omega)) _ (by rw [hu0,hcap0,show es.length=0 by omega])
     subst hu0;have x3:Ext κ (AX h ls) w (κ++[some (b,base)]) (AX h ls++[.row false 0 z es]) w':=
      CD hh1 hg.os hg.tape hg.output hg.size hg.block fun b' base' e=>by injection e with e;injection e with e;omega
     have hEx:∀b',Ex (κ++[some (b,base)]) (AX h ls++[.row false 0 z es]) b'→Ex κ (AX h ls) b'∨b'=b:=fun b' ⟨i,bs,o,k1,k2,k3⟩=>by
      rcases CO κ _ i k1 with ⟨_,k1'⟩|⟨rfl,k1'⟩
      ·have hi:i<(AX h ls).length:=by rw [← hh1.len];exact AU k1'
       rw [zK hi] at k2;exact .inl ⟨i,bs,o,k1',k2,k3⟩
      ·injection k1' with k1';injection k1' with k1';exact .inr k1'
     have hh3:=Bs hh1 hg.block x3 (fun b' base' e=>by injection e with e;injection e with e;subst e;exact ⟨h2,h3⟩)
      (Cj h4 h5 (yJ (yF (yN _ h1) _) h6) ⟨h7,fun j e' c x he hx=>(h8 j e' c x he hx).less fun b' hb'=>by
       rcases hb' with hb'|hb'
       ·exact .inl (.inl hb')
       ·rcases hEx b' hb' with hb'|hb'
        ·exact .inl (.inr hb')
        ·exact .inr hb'⟩)
     refine key (some (b,base)) hh3 (x1.trans x3) (Cc (by rw [← hh1.len];exact Am κ _) (Am _ _) h5 h6 rfl h1) fun b' hb' => ?_;rcases hEx b' hb' with hb'|rfl
     ·exact .inl hb'
     ·exact .inr ⟨_,_,_,rfl,by omega⟩
   obtain ⟨ys,hy,hr4⟩:=bind_some hr3;have hown:=hpc (OWN+g) xs ys hy;split at hr4
   ·rename_i t ht;obtain ⟨z,hz,hr5⟩:=bind_some hr4;obtain ⟨hgO,hr6⟩:=AG hr5;obtain ⟨⟨hyl,hys⟩,hK⟩:=AG hr6;rw [if_neg (not_lt.2 (Nat.le_add_right OWN g)),if_pos (YE hgO),Nat.add_sub_cancel_left] at hown;obtain ⟨avs',ha3,ha2⟩:=hargs;refine (hown (fun b=>B b∨Ex κ (AX h ls) b) w avs' vs n ha3 (fun b hb=>hb.elim (hh1.ltB b) fun ⟨i,base,o,hk,_,_⟩=>hh1.lt i b base hk) ha2).mono ?_
    rintro e w' ⟨v,s,es,rfl,rfl,hg,hnew⟩
    have hes:B8 (([Tree.sl s es]:List Tree).getD 0 default)=es:=rfl;have hsz:s=z:=by have h1:FI z (Tree.sl s es)=true:=hys;simpa [FI] using h1
    subst hsz;rw [hes] at hK;have hh2:=Iv hh1 hg;have x2:=IF hh1 hg;unfold QY at hK;split at hK
    ·rename_i i0 v0 hre;have hre:GA h ls=some (i0,v0):=by
      split at hre
      ·exact hre
      ·cases hre
     split at hK
     ·rename_i honly;obtain ⟨size0,es0,hi0⟩:=PK hre;obtain ⟨kk,hkk⟩:=CE hh hi0;have hOL:∀L,OLe (.row false v0 size0 es0) (.row false (v0+1) s L):=fun L=>⟨rfl,le_succ _,(fun e=>by simp [AI.ver] at e),(fun e=>by cases e),(fun e=>by cases e),rfl⟩
      have hver:∀L,(AI.row false v0 size0 es0).ver=(AI.row false (v0+1) s L).ver→∀{p:Prop},p:=fun L e=>by simp [AI.ver] at e
      rcases hnew with ⟨rfl,a0,rfl⟩|⟨b,base,cap,cells,elem,rfl,h1,h2,h3,h4,h5,h6,h7,h8⟩
      ·have x3:Ext κ h w (κ.set i0 none) (h.set i0 (.row false (v0+1) s [])) w':=
        C5 hh hi0 rfl (hOL []) hkk hg.os hg.tape hg.output hg.size (fun b' hb' _=>hg.block b' hb') (fun b base e=>by cases e) (fun e=>hver [] e)
       have hh3:=CN hh hi0 hkk (fun b' hb' _=>hg.block b' hb') (fun b base e=>by cases e) x3 (show HA B (κ.set i0 none) (h.set i0 (.row false (v0+1) s [])) w' none (.row false (v0+1) s []) from rfl);exact ⟨_,_,_,_,rfl,hK,CP (As hkk) (As hi0),hh3,x3,fun e=>(hq e).elim⟩
      ·have x3:Ext κ h w (κ.set i0 (some (b,base))) (h.set i0 (.row false (v0+1) s es)) w':=
        C5 hh hi0 rfl (hOL es) hkk hg.os hg.tape hg.output hg.size (fun b' hb' _=>hg.block b' hb') (fun b' base' e=>by injection e with e;injection e with e;exact .inr (by omega)) (fun e=>hver es e)
       have hh3:=CN hh hi0 hkk (fun b' hb' _=>hg.block b' hb') (fun b' base' e=>by injection e with e;injection e with e;subst e;exact ⟨.inr h2,h3⟩) x3
        (Cj h4 h5 (yJ (yF (yN _ h1) _) h6) ⟨h7,fun j e' c x he hx=>(h8 j e' c x he hx).less fun b' hb'=>by
         rcases hb' with hb'|⟨i,bs,o,k1,k2,k3⟩
         ·exact .inl (.inl hb')
         ·by_cases hii:i=i0
          ·subst hii;rw [As hkk] at k1;injection k1 with k1;injection k1 with k1;injection k1 with k1;exact .inr k1.symm
          ·rw [List.getElem?_set_ne (fun e=>hii e.symm)] at k1 k2;exact .inl (.inr ⟨i,bs,o,k1,by rw [IG ls h honly i hii];exact k2,k3⟩)⟩)
       exact ⟨_,_,_,_,rfl,hK,Cc (As hkk) (As hi0) h5 h6 rfl h1,hh3,x3,fun e=>(hq e).elim⟩
     ·cases hK
    rcases hnew with ⟨rfl,a0,rfl⟩|⟨b,base,cap,cells,elem,rfl,h1,h2,h3,h4,h5,h6,h7,h8⟩
    ·have x3:Ext κ (AX h ls) w' (κ++[none]) (AX h ls++[.row false 0 s []]) w':=CD hh2 rfl rfl rfl (yI _) (fun _ _=>rfl) (fun b base e=>by cases e);have hh3:=Bs hh2 (fun _ _=>rfl) x3 (fun b base e=>by cases e) (show HA B (κ++[none]) (AX h ls++[.row false 0 s []]) w' none (.row false 0 s []) from rfl);exact ⟨_,_,_,_,rfl,hK,CP (by rw [← hh2.len];exact Am κ _) (Am _ _),hh3,(x1.trans x2).trans x3,fun e=>(hq e).elim⟩
    ·
     have x3:Ext κ (AX h ls) w (κ++[some (b,base)]) (AX h ls++[.row false 0 s es]) w':=
      CD hh1 hg.os hg.tape hg.output hg.size hg.block fun b' base' e=>by injection e with e;injection e with e;omega
     have hh3:=Bs hh1 hg.block x3 (fun b' base' e=>by injection e with e;injection e with e;subst e;exact ⟨h2,h3⟩)
      (Cj h4 h5 (yJ (yF (yN _ h1) _) h6) ⟨h7,fun j e' c x he hx=>(h8 j e' c x he hx).less fun b' hb'=>by
       rcases hb' with hb'|⟨i,bs,o,k1,k2,k3⟩
       ·exact .inl (.inl hb')
       ·rcases CO κ _ i k1 with ⟨_,k1'⟩|⟨rfl,k1'⟩
        ·have hi:i<(AX h ls).length:=by rw [← hh1.len];exact AU k1'
         rw [zK hi] at k2;exact .inl (.inr ⟨i,bs,o,k1',k2,k3⟩)
        ·injection k1' with k1';injection k1' with k1';exact .inr k1'⟩)
     exact ⟨_,_,_,_,rfl,hK,Cc (by rw [← hh1.len];exact Am κ _) (Am _ _) h5 h6 rfl h1,hh3,x1.trans x3,fun e=>(hq e).elim⟩
   ·cases hr4
 split at hr
 ·split at hr
  ·cases hr
  ·rename_i hq;split at hr
   ·rename_i p hp;refine (Y2 (C.primOk g p hp) hr hh hc n).mono ?_
    rintro e w' ⟨val,v,h',κ',rfl,hK,y1,y2,y3⟩
    exact ⟨val,v,h',κ',rfl,hK,y1,y2,y3,fun e=>(hq e).elim⟩
   split at hr
   ·unfold join at hr;have hcall:=hrec _ _ _ _ _ hr;refine (hcall B κ w vs n hh hc).mono ?_
    rintro e w' ⟨v,rv,κ',rs,h1,rfl,hK,hm,hv,hh',x⟩
    simp only at hK;obtain ⟨hsh,hK⟩:=AG hK;obtain ⟨hs,hK2,hun,hbe⟩:=Vb hK (Pj x);have hrl:H5 C.P rs (A6 C.P g) 0=rs:=MB [] hsh;simp only [hrl,hm,hun] at hK2;exact ⟨v,rv,_,κ'.take h.length,rfl,hK2,hv.EF (NZ (fun i=>Rh hsh i _) hm),hh'.EF hbe,x.EF (yI _),fun e=>(hq e).elim⟩
   have hcall:=hrec _ _ _ _ _ hr;refine (hcall B κ w vs n hh hc).mono ?_
   rintro e w' ⟨v,rv,κ',rs,h1,rfl,hK,hm,hv,hh',x⟩
   simp only [hm] at hK;obtain ⟨κ2,y1,y2,y3⟩:=Uj (m:=h.length) hh' x (yI _) (fun hl=>NZ hl hm) hv;exact ⟨v,rv,_,κ2,rfl,hK,y1,y2,y3,fun e=>(hq e).elim⟩
 ·obtain ⟨ls,us,hr1,hls,hbuild⟩:=KX hr hc;clear hr;obtain ⟨h1,hh1,x1,hqq,hr2⟩:∃h1,Ap B κ h1 w∧Ext κ h w κ h1 w∧(q=true→h1=h)∧(Dw C.P (!CZ C.P g) h1 (KJ C.P g) ls fun xs=>if g<OWN then ((pc g xs).bind fun ys=>KA C.P (A6 C.P g) ys fun ys=>
    match DC C.P g (fun i =>.t (ys.getD i default)) with
    |some v=>K v h1
    |none=>none) else none)=some r:=by
   by_cases hb:(q||CZ C.P g)=true
   ·exact ⟨h,hh,Ext.refl _ _ _,fun _=>rfl,by simp only [hb,if_true] at hr1;exact hr1⟩
   ·have hb':(q||CZ C.P g)=false:=by simpa using hb
    obtain ⟨hh1,x1⟩:=G2 ls hh;refine ⟨AX h ls,hh1,x1,fun e => ?_,by simp only [hb',zD,if_false] at hr1;exact hr1⟩;rw [e] at hb';cases hb'
  clear hr1;have hls1:=hls.ext x1;obtain ⟨xs,hr3,hxl,_,hxt⟩:=DD (vs:=us) hr2 hh1 (by simpa using hls1.1) (B5 hls1);clear hr2;obtain ⟨hgo,hr3⟩:=AG hr3;obtain ⟨ys,hy,hr4⟩:=bind_some hr3;clear hr3;have hr4:=J9 hr4;split at hr4
  ·rename_i v hm;have hpure:=hpc g xs ys hy;rw [if_pos hgo] at hpure;have hfn:∃fn,C.P.funcs[g]? = some fn:=by
    unfold DC at hm;split at hm
    ·rename_i fn hf;exact ⟨fn,hf⟩
    ·cases hm
   obtain ⟨fn,hf⟩:=hfn;have hul:us.length=xs.length:=by rw [hxl];simpa using hls1.1
   have hleaf:∀(Bc:Nat→Prop),(∀b,Bc b→B b∨((!CZ C.P g)=true∧Ex κ h1 b))→∀j u,us[j]? = some u→AQ Bc [] [] w (.t (xs.getD (0+j) default)) u:=by
    intro Bc hBc j u hu;have hj:j<xs.length:=by rw [← hul];exact AU hu
    have:=hxt j _ u (Bg xs j default hj) hu;rw [yR];exact .t _ _ (this.less fun b hb=>hb.elim (hBc b) fun e=>(Du e).elim)
   by_cases hscal:CZ C.P g=true
   ·obtain ⟨avs',ha1,ha2⟩:=hbuild (fun _=>False) [] [] w (fun i =>.t (xs.getD i default)) 0 (fun j u hu=>hleaf (fun _=>False) (fun b hb=>hb.elim) j u hu);have ha3:Dm C.P g (fun i =>.t (xs.getD i default))=some avs':=by unfold Dm;unfold Ik at ha1;rw [hf] at ha1 ⊢;exact ha1
    refine (hpure (fun _=>False) w avs' vs n ha3 (fun b hb=>hb.elim) ha2).mono ?_
    rintro e w' ⟨val,rv,rfl,hm',hv,hg,hsc⟩
    rw [hm] at hm';cases hm';have hsy:=hsc hscal;refine ⟨val,v,h1,κ,rfl,hr4,IB hm (fun i u ht=>TO (Ri hsy i) ht) hv,Iv hh1 hg,x1.trans (IF hh1 hg),fun e=>⟨hqq e,rfl⟩⟩
   ·have hns:(!CZ C.P g)=true:=by simpa using hscal
    obtain ⟨avs',ha1,ha2⟩:=hbuild (fun b=>B b∨Ex κ h1 b) [] [] w (fun i =>.t (xs.getD i default)) 0 (fun j u hu=>hleaf _ (fun b hb=>hb.imp id fun e=>⟨hns,e⟩) j u hu);have ha3:Dm C.P g (fun i =>.t (xs.getD i default))=some avs':=by unfold Dm;unfold Ik at ha1;rw [hf] at ha1 ⊢;exact ha1
    refine (hpure (fun b=>B b∨Ex κ h1 b) w avs' vs n ha3 (fun b hb=>hb.elim (hh1.ltB b) fun ⟨i,base,o,hk,_,_⟩=>hh1.lt i b base hk) ha2).mono ?_
    rintro e w' ⟨val,rv,rfl,hm',hv,hg,hsc⟩
    rw [hm] at hm';cases hm';exact ⟨val,v,h1,κ,rfl,hr4,IB hm (fun i u ht=>ht.less fun b hb =>.inl hb) hv,Iv hh1 hg,x1.trans (IF hh1 hg),fun e=>⟨hqq e,rfl⟩⟩
  ·cases hr4
end Ab
namespace Ab
open Go
variable {R:Type} {P:Program} {B:Nat→Prop} {κ:BB} {h:Heap} {w:World} {N:Nat} {env:Env} {a:Act}
theorem Gn {g:FuncId} (he:enters P g=true) (vs:Array Value):(callFunc g vs).run P w = .ok (.enter g vs) w:=by
 unfold enters at he;split at he
 ·rename_i fn hf;simp only [zC,yV] at he;obtain ⟨hb,hn⟩:=he;have hb':fn.body.isNone=false:=by cases h:fn.body<;>simp_all
  simp only [callFunc,Sem.run_bind,run_program,Result.andThen_ok,hf,hn,hb',zD,if_false,Sem.run_pure]
 ·cases he
theorem D1 {xs ys:List AV} {us vs:Array Value} (h1:AW B κ h w xs us) (h2:AW B κ h w ys vs):AW B κ h w (xs++ys) (us++vs):=by
 obtain ⟨us⟩:=us;obtain ⟨vs⟩:=vs;have e1:us.length=xs.length:=by simpa using h1.1
 have e2:vs.length=ys.length:=by simpa using h2.1
 have eu:({toList:=us}:Array Value)=us.toArray:=rfl;have ev:({toList:=vs}:Array Value)=vs.toArray:=rfl;rw [eu,ev] at *;have e3:us.toArray++vs.toArray=(us++vs).toArray:=by simp
 rw [e3];refine ⟨by simp [e1,e2],fun j y hy => ?_⟩;rw [Bh];rcases yL j xs.length with hj|hj
 ·rw [zK hj] at hy;have:=h1.2 j y hy;rw [Bh] at this;simp only [List.getD] at this ⊢;rw [zK (by omega)];exact this
 ·rw [zL hj] at hy;have:=h2.2 _ y hy;rw [Bh] at this;simp only [List.getD] at this ⊢;rw [zL (by omega),e1];exact this
def ZI (B:Nat→Prop) (κ:BB) (h:Heap) (w:World) (q:Bool) (K:AV→Heap→Option R) (r:R) (o:Oper) (a:Act) (next:Act→World→Prop):Prop:=
 ∀v h' κ' val w',K v h'=some r→AQ B κ' h' w' v val→Ap B κ' h' w'→Ext κ h w κ' h' w'→(q=true→h'=h∧κ'=κ)→next (a.put o.dst val) w'
theorem OL {q:Bool} {K:AV→Heap→Option R} {r:R} {o:Oper} {next:Act→World→Prop} {Q:Exit→Act→World→Prop} (hn:ZI B κ h w q K r o a next) {e:Ending} {w':World} (ha:JA B κ h w q K r e w') :
  (match e,w' with
   | .returned v,w''=>next (a.put o.dst v) w''
   | .panicked chain,w''=>Q (.panic chain) a w''
   | .outgrown,_=>LetsOut Q):=by
 obtain ⟨val,v,h',κ',rfl,h1,h2,h3,h4,h5⟩:=ha;exact hn v h' κ' val w' h1 h2 h3 h4 h5
theorem Wl {C:Cfg} {rec:Rec} {pc:BN} (hrec:EB C.P rec) (hpc:CW C.P pc) {q:Bool} {f:AV} {args:List AV} {K:AV→Heap→Option R} {r:R} (hr:OB C rec pc q f args h K=some r) (hh:Ap B κ h w)
  {fv:Value} (hf:AQ B κ h w f fv) {vs:Array Value} (hc:AW B κ h w args vs) (o:Oper) (next:Act→World→Prop) (Q:Exit→Act→World→Prop) (n:Nat) (ro:Option Nat) (hn:ZI B κ h w q K r o a next) :
  o.uponIn (Fr ro) n C.P a next Q ((do let d ← Deferred.ofValue fv vs;invoke d.target d.args:Sem Next).run C.P w):=by
 unfold OB at hr
 try simp only [AB] at hr
 split at hr
 ·rename_i g first captured
  obtain ⟨hent,hr1⟩:=AG hr;cases hf with
  |func _ _ _ fs cs h1 h2 h3 h4=>
   have hc2:AW B κ h w (first++args++captured) (fs++vs++cs):=D1 (D1 ⟨h1,h3⟩ hc) ⟨h2,h4⟩;have hcall:=Sa hrec hpc hr1 hh hc2 (n-1);have hrun:(do let d ← Deferred.ofValue (.func (.func g) fs cs) vs;invoke d.target d.args:Sem Next).run C.P w = .ok (.enter g (fs++vs++cs)) w:=by simp [Deferred.ofValue,invoke,Gn hent]
   rw [hrun,Oper.uponIn_enter];refine ⟨fun e=>by simp [Fr] at e,(CallsIn.fr hcall).mono fun e w' ha => ?_⟩;have:=OL (Q:=Q) hn ha;cases e<;>exact this
 ·rename_i g;obtain ⟨hent,hr1⟩:=AG hr;cases hf with
  |t _ _ ht=>
   cases ht with
   |const _ _=>
    have hcall:=Sa hrec hpc hr1 hh hc (n-1);have hrun:(do let d ← Deferred.ofValue (.func (.func g) ⟨[]⟩ ⟨[]⟩) vs;invoke d.target d.args:Sem Next).run C.P w = .ok (.enter g vs) w:=by
     have e1:(⟨[]⟩:Array Value)++vs=vs:=by simp
     have e2:vs++(⟨[]⟩:Array Value)=vs:=by simp
     simp [Deferred.ofValue,invoke,e1,e2,Gn hent]
    rw [hrun,Oper.uponIn_enter];refine ⟨fun e=>by simp [Fr] at e,(CallsIn.fr hcall).mono fun e w' ha => ?_⟩;have:=OL (Q:=Q) hn ha;cases e<;>exact this
 ·rename_i i;split at hr
  ·cases hr
  ·rename_i hq;have hy:=hrec _ _ _ _ _ hr;cases hf with
   |yld _ b base hk hb=>
    obtain ⟨f,tmps,assign,body,hrun,hround⟩:=hy B κ w vs b base (n-1) hh hc hk;have hrun2:(do let d ← Deferred.ofValue (.func (.yield b) #[] #[]) vs;invoke d.target d.args:Sem Next).run C.P w = .ok (.round b f tmps assign body) w:=by simp [Deferred.ofValue,invoke,hrun]
    rw [hrun2,Oper.uponIn_round];refine ⟨fun e=>by simp [Fr] at e,(RoundIn.fr hround).mono ?_⟩
    rintro e w' ⟨v,κ',rs,h1,rfl,hK,hv,hh',x⟩
    obtain ⟨κ2,y1,y2,y3⟩:=Uj (m:=h.length) (rs:=[rs.getD 0 .undef]) hh' x (yI _) (fun hl=>hl 0) hv;exact hn _ _ _ v w' hK y1 y2 y3 (fun e=>(hq e).elim)
 ·cases hr
theorem step_ok {C:Cfg} {rec:Rec} {pc:BN} (hrec:EB C.P rec) (hpc:CW C.P pc) {q:Bool} {K:AV→Heap→Option R} {r:R} (o:Oper) (hs:Ad C rec pc q env h o.op K=some r) (hr:Rel B N κ env h a w)
  (next:Act→World→Prop) (Q:Exit→Act→World→Prop) (n:Nat) (ro:Option Nat) (hn:ZI B κ h w q K r o a next):o.wpIn (Fr ro) n C.P a w next Q:=by
 refine ⟨fun _ _=>trivial,?_⟩;have hnd:∀c,o.op ≠ .defer c:=fun c e=>by rw [e] at hs;simp [Ad,A8,qop] at hs
 rw [Oper.semAt_eq _ _ _ hnd];unfold Ad at hs
 try simp only [AB] at hs
 split at hs
 ·split at hs
  ·cases hs
  ·rename_i hq;split at hs
   ·rename_i t x himm;have hop:o.op = .box t x:=by cases hop:o.op<;>rw [hop] at himm<;>simp only [C3] at himm<;>first|(cases himm;done)|(split at himm<;>first|(cases himm;rfl)|(cases himm;done)|(split at himm<;>first|(cases himm;rfl)|cases himm))
    obtain ⟨v,κ',val,w',h1,h2,h3,h4,h5⟩:=Wm hs hr o hop;rw [h2,Oper.uponIn_value];exact hn v h κ' val w' h1 h3 h4 h5 fun e=>(hq e).elim
   ·rename_i t himm;have hop:o.op = .alloc t:=by cases hop:o.op<;>rw [hop] at himm<;>simp only [C3] at himm<;>first|(cases himm;done)|(split at himm<;>first|(cases himm;rfl)|(cases himm;done)|(split at himm<;>first|(cases himm;rfl)|cases himm))
    obtain ⟨v,h',κ',val,w',h1,h2,h3,h4,h5⟩:=S0 hs hr o hop;rw [h2,Oper.uponIn_value];exact hn v h' κ' val w' h1 h3 h4 h5 fun e=>(hq e).elim
   ·rename_i t d himm;have hop:o.op = .alloc t:=by cases hop:o.op<;>rw [hop] at himm<;>simp only [C3] at himm<;>first|cases himm|(split at himm<;>first|(cases himm;rfl)|(cases himm;done)|(split at himm<;>first|(cases himm;rfl)|cases himm))
    obtain ⟨v,h',κ',val,w',h1,h2,h3,h4,h5⟩:=Sz hs hr o hop;rw [h2,Oper.uponIn_value];exact hn v h' κ' val w' h1 h3 h4 h5 fun e=>(hq e).elim
   ·rename_i t p x himm;have hop:o.op = .store t p x:=by cases hop:o.op<;>rw [hop] at himm<;>simp only [C3] at himm<;>first|(cases himm;done)|(split at himm<;>first|(cases himm;rfl)|(cases himm;done)|(split at himm<;>first|(cases himm;rfl)|cases himm))
    obtain ⟨h',κ',w',h1,h2,h3,h4⟩:=P4 (P:=C.P) hs hr.heap (BZ hr _) (BZ hr _);obtain ⟨f1,f2⟩:=Nz h3 (Mg (ev env p));have e2:(execOp a.eval o).run C.P w = .ok .skip w':=by unfold execOp;rw [hop];simp [h2]
    rw [e2,Oper.uponIn_skip];exact hn _ _ κ' undef w' h1 (.undef _) f1 (h4.trans f2) fun e=>(hq e).elim
   ·obtain ⟨v,h',κ',val,w',h1,h2,h3,h4,h5⟩:=hop_ok hs hr o rfl;rcases h2 with h2|⟨h2,rfl⟩
    ·rw [h2,Oper.uponIn_value];exact hn v h' κ' val w' h1 h3 h4 h5 fun e=>(hq e).elim
    ·rw [h2,Oper.uponIn_skip];exact hn v h' κ' undef w' h1 h3 h4 h5 fun e=>(hq e).elim
 ·split at hs
  ·rename_i f args argTypes ho;have hx:=Wl hrec hpc hs hr.heap (BZ hr f) (Je hr args) o next Q n ro hn;have he:(execOp a.eval o).run C.P w=(do let d ← Deferred.ofValue (a.eval f) (args.map a.eval);invoke d.target d.args:Sem Next).run C.P w:=by unfold execOp;rw [ho];simp [resolve]
   rw [he];exact hx
  ·rename_i t len parts ho;split at hs
   ·split at hs
    ·cases hs
    ·rename_i hq;obtain ⟨v,h',κ',val,w',h1,h2,h3,h4,h5⟩:=Ss hs hr o ho;rw [h2,Oper.uponIn_value];exact hn v h' κ' val w' h1 h3 h4 h5 fun e=>(hq e).elim
   ·obtain ⟨v,val,w',h1,h2,h3,h4,h5⟩:=X9 hs hr o ho;rw [h2,Oper.uponIn_value];exact hn v h κ val w' h1 h3 h4 h5 fun _=>⟨rfl,rfl⟩
  ·obtain ⟨v,val,w',h1,h2,h3,h4,h5⟩:=X9 hs hr o rfl;rw [h2,Oper.uponIn_value];exact hn v h κ val w' h1 h3 h4 h5 fun _=>⟨rfl,rfl⟩
theorem R1 {env:Env} {d:Tmp} {v:AV} (hv:env d=v):env.put (some d) v=env:=by
 funext i;simp only [Env.put];split
 ·rename_i e;rw [e,hv]
 ·rfl
theorem FO (hr:Rel B N κ env h a w) {κ':BB} {h':Heap} {w':World} (hh:Ap B κ' h' w') (x:Ext κ h w κ' h' w') {v:AV} {val:Value} (hv:AQ B κ' h' w' v val) (o:Oper) (hd:Ke N o=true) :
  Rel B N κ' (env.put o.dst v) h' (a.put o.dst val) w':=by
 refine ⟨hh,?_,fun i => ?_⟩
 ·cases hdst:o.dst with
  |none=>exact hr.size
  |some d=>simpa [Act.put] using hr.size
 ·cases hdst:o.dst with
  |none=>exact (hr.slot i).ext x
  |some d=>
   have hdl:d<N:=by simpa [Ke,hdst] using hd
   have hdt:d<a.tmps.size:=by rw [hr.size];exact hdl
   simp only [Env.put,Act.put];by_cases hi:i=d
   ·subst hi;rw [if_pos rfl];have:(a.tmps.setIfInBounds i val).getD i undef=val:=by simp [Array.getD,hdt]
    rw [this];exact hv
   ·rw [if_neg hi];have:(a.tmps.setIfInBounds d val).getD i undef=a.tmps.getD i undef:=by
     by_cases h1:i<a.tmps.size
     ·simp [Array.getD,h1,Ne.symm hi]
     ·simp [Array.getD,h1]
    rw [this];exact (hr.slot i).ext x
theorem getD_some {arr:Array Value} {d:Nat} {v:Value} (hd:arr.getD d undef=v) (hne:v≠undef):arr[d]? = some v:=by
 by_cases h1:d<arr.size
 ·simp only [Array.getD,h1,dif_pos] at hd;rw [Array.getElem?_eq_getElem h1];exact congrArg some hd
 ·simp only [Array.getD,h1,dif_neg,not_false_eq_true] at hd;exact (hne hd.symm).elim
theorem IE {ops:Array Oper} {o:Oper} {K1 K0:Env→Option R} {r:R} (hg:GC ops o env K1 K0=some r) (hr:Rel B N κ env h a w) :
  (Region.wanted o (yielded ops a.tmps)=true∧K1 env=some r)∨(Region.wanted o (yielded ops a.tmps)=false∧K0 env=some r):=by
 unfold GC at hg
 try simp only [AB] at hg
 unfold Region.wanted;split at hg
 ·rename_i hgd;rw [hgd];exact .inl ⟨rfl,hg⟩
 ·rename_i j want hgd;rw [hgd];simp only;split at hg
  ·rename_i d hd;split at hg
   ·rename_i b hb;have hv:=hr.slot d;rw [hb] at hv;have hval:a.tmps.getD d undef = .bool b:=by
     generalize a.tmps.getD d undef=u at hv;cases hv with
     |t _ _ ht=>cases ht;rfl
    have hy:yielded ops a.tmps j=some b:=by unfold yielded;rw [hd];simp only [Option.bind_some];rw [getD_some hval (by simp [undef])]
    rw [hy];cases b<;>cases want<;>simp only [zD,if_false,if_true] at hg<;>rw [R1 hb] at hg
    ·exact .inl ⟨rfl,hg⟩
    ·exact .inr ⟨rfl,hg⟩
    ·exact .inr ⟨rfl,hg⟩
    ·exact .inl ⟨rfl,hg⟩
   ·rename_i hb;have hv:=hr.slot d;rw [hb] at hv;have hval:a.tmps.getD d undef = .tuple #[]:=by
     generalize a.tmps.getD d undef=u at hv;cases hv with
     |tuple _ vs hs _=>rw [eq_empty_of_size_eq_zero hs]
    have hy:yielded ops a.tmps j=none:=by
     unfold yielded;rw [hd];simp only [Option.bind_some];by_cases h1:d<a.tmps.size
     ·simp only [Array.getD,h1,dif_pos] at hval;rw [Array.getElem?_eq_getElem h1];have:a.tmps[d]= .tuple #[]:=hval;rw [this]
     ·rw [Array.getElem?_eq_none (Nat.le_of_not_lt h1)]
    rw [hy];exact .inr ⟨rfl,hg⟩
   ·cases hg
  ·cases hg
def Kt (B:Nat→Prop) (N:Nat) (κ:BB) (h:Heap) (w:World) (q:Bool) (os:List Oper) (env:Env) (a:Act) (K:Env→Heap→Option R) (r:R) (next:Act→World→Prop):Prop:=
 ∀env' h' κ' a' w',K env' h'=some r→Rel B N κ' env' h' a' w'→Ext κ h w κ' h' w'→(∀i,i∉os.filterMap (·.dst)→env' i=env i)→a'.defers=a.defers→(q=true→h'=h∧κ'=κ)→next a' w'
theorem I3 {C:Cfg} {rec:Rec} {pc:BN} (hrec:EB C.P rec) (hpc:CW C.P pc) {q:Bool} (ops:Array Oper) (Q:Exit→Act→World→Prop) (n:Nat) (ro:Option Nat) (rest:List Nat) :
  ∀(os:List Oper) (l:List Nat) {K:Env→Heap→Option R} {r:R} {env:Env} {h:Heap} {κ:BB} {a:Act} {w:World},l.length=os.length→(∀(j i:Nat) (o:Oper),l[j]? = some i→os[j]? = some o→ops[i]? = some o)→
   EO C rec pc N q ops os env h K=some r→Rel B N κ env h a w→Kt B N κ h w q os env a K r (wpOpsIn (Fr ro) n C.P ops Q rest)→wpOpsIn (Fr ro) n C.P ops Q (l++rest) a w
 |[],l,K,r,env,h,κ,a,w,hl,hi,hk,hr,hn=>by obtain rfl:l=[]:=zI (by simpa using hl);exact hn env h κ a w hk hr (Ext.refl _ _ _) (fun _ _=>rfl) rfl fun _=>⟨rfl,rfl⟩
 |o::os,l,K,r,env,h,κ,a,w,hl,hi,hk,hr,hn=>by
  cases l with
  |nil=>simp at hl
  |cons i l=>
   simp only [EO,AB] at hk;obtain ⟨hd,hk⟩:=AG hk;have ho:=hi 0 i o rfl rfl;have hi':∀(j i:Nat) (o:Oper),l[j]? = some i→os[j]? = some o→ops[i]? = some o:=fun j i o h1 h2=>hi (j+1) i o (by simpa using h1) (by simpa using h2);simp only [xB,wpOpsIn,ho];have hput:∀(v:AV) (i:Tmp),i∉(o::os).filterMap (·.dst)→(env.put o.dst v) i=env i:=fun v i hni=>by
    cases hdst:o.dst with
    |none=>rfl
    |some d=>
     simp only [Env.put];rw [if_neg fun e=>hni (by simp [hdst,e])]
   have hpd:∀val,(a.put o.dst val).defers=a.defers:=fun val=>by cases o.dst<;>rfl
   have hsub:∀i,i∉(o::os).filterMap (·.dst)→i∉os.filterMap (·.dst):=fun i hni hm=>hni (by
    simp only [xC];split
    ·exact hm
    ·exact xQ _ hm)
   rcases IE hk hr with ⟨hw,hk1⟩|⟨hw,hk1⟩
   ·simp only [hw,if_true];refine step_ok hrec hpc o hk1 hr _ Q n ro fun v h' κ' val w' h1 h2 h3 h4 h5 => ?_;refine I3 hrec hpc ops Q n ro rest os l (by simpa using hl) hi' h1 (FO hr h3 h4 h2 o hd) fun env2 h2 κ2 a2 w2 k1 k2 k3 k4 k5 k6 => ?_;exact hn env2 h2 κ2 a2 w2 k1 k2 (h4.trans k3) (fun i hni=>(k4 i (hsub i hni)).trans (hput v i hni)) (k5.trans (hpd _)) fun e=>by obtain ⟨e1,e2⟩:=h5 e;obtain ⟨e3,e4⟩:=k6 e;exact ⟨e3.trans e1,e4.trans e2⟩
   ·simp only [hw,zD,if_false];refine ⟨fun _ _=>trivial,?_⟩;refine I3 hrec hpc ops Q n ro rest os l (by simpa using hl) hi' hk1 (FO hr hr.heap (Ext.refl _ _ _) (.tuple _ _ rfl fun j x hx=>by simp at hx) o hd) fun env2 h2 κ2 a2 w2 k1 k2 k3 k4 k5 k6 => ?_;exact hn env2 h2 κ2 a2 w2 k1 k2 k3 (fun i hni=>(k4 i (hsub i hni)).trans (hput _ i hni)) (k5.trans (hpd _)) k6
end Ab
namespace Ab
open Go
def Det {α:Type} (f:∀R:Type,(α→Option R)→Option R):Prop:=(∃v,∀R K,f R K=K v)∨∀R K,f R K=none
theorem Det.none {α:Type}:Det (α:=α) (fun _ _=>Option.none):=.inr fun _ _=>rfl
theorem Det.val {α:Type} (v:α):Det (fun _ K=>K v):=.inl ⟨v,fun _ _=>rfl⟩
theorem Det.bind {α β:Type} (x:Option β) {f:β→∀R:Type,(α→Option R)→Option R} (hf:∀b,Det (f b)):Det (fun R K=>x.bind fun b=>f b R K):=by
 cases x with
 |none=>exact .none
 |some b=>exact hf b
theorem Det.ite {α:Type} {c:Prop} [Decidable c] {f:∀R:Type,(α→Option R)→Option R} (hf:Det f):Det (fun R K=>if c then f R K else Option.none):=by
 by_cases hc:c
 ·simp only [if_pos hc];exact hf
 ·simp only [if_neg hc];exact .none
theorem Det.WR {α:Type} {c:Prop} [Decidable c] {f g:∀R:Type,(α→Option R)→Option R} (hf:Det f) (hg:Det g):Det (fun R K=>if c then f R K else g R K):=by
 by_cases hc:c
 ·simp only [if_pos hc];exact hf
 ·simp only [if_neg hc];exact hg
theorem Det.comp {α β:Type} {f:∀R:Type,(β→Option R)→Option R} (hf:Det f) {g:β→∀R:Type,(α→Option R)→Option R} (hg:∀b,Det (g b)):Det (fun R K=>f R fun b=>g b R K):=by
 rcases hf with ⟨v,hv⟩|hn
 ·simp only [hv];exact hg v
 ·simp only [hn];exact .none
variable {P:Program} {h:Heap}
theorem T0 (t:TypeId) (total:Nat) (get:Nat→AV) (off:Nat):Det (fun R K=>rd (R:=R) P t total get off K):=by
 unfold rd
 try simp only [AB]
 cases A9 P t with
 |none=>exact .none
 |some b=>
  cases b with
  |false=>exact .ite (.val _)
  |true=>
   cases B3 P t with
   |none=>exact .none
   |some n=>exact .ite (.val _)
theorem Wc (t:TypeId) (a:AV):Det (fun R K=>JO (R:=R) P t h a K):=by
 unfold JO
 try simp only [AB]
 cases a with
 |ptr i off=>
  dsimp only;cases h[i]? with
  |none=>exact .none
  |some o=>cases o with
   |box cs=>exact T0 _ _ _ _
   |_=>exact .none
 |rptr i ver k off=>
  dsimp only;cases h[i]? with
  |none=>exact .none
  |some o=>cases o with
   |row f v s es=>exact .ite (.bind _ fun e=>T0 _ _ _ _)
   |_=>exact .none
 |eptr s c o=>exact T0 _ _ _ _
 |_=>exact .none
theorem Yp (fz:Bool) (ty:TypeId) (v:AV):Det (fun R K=>conv (R:=R) P fz h ty v K):=by
 unfold conv
 try simp only [AB]
 cases v with
 |t x=>exact .val _
 |nilsl=>exact .bind _ fun s =>.val _
 |sref i ver off len=>
  dsimp only;cases h[i]? with
  |none=>exact .none
  |some o=>cases o with
   |row f v s es=>exact .bind _ fun s =>.ite (.val _)
   |_=>exact .none
 |func fn a b=>
  cases a with
  |nil=>cases b with
   |nil=>exact .val _
   |cons x xs=>exact .none
  |cons x xs=>exact .none
 |_=>exact .none
theorem Ce (fz:Bool):∀(ts:List TypeId) (vs:List AV),Det (fun R K=>Dw (R:=R) P fz h ts vs K)
 |[],[]=>.val _
 |[],_::_ =>.none
 |_::_,[]=>.none
 |t::ts,v::vs =>.comp (Yp fz t v) fun x =>.comp (Ce fz ts vs) fun xs =>.val _
theorem T8 (op:BinOp) (k:IntKind) (a b:Int):Det (fun R K=>OQ (R:=R) op k a b K):=by
 unfold OQ
 try simp only [AB]
 cases op<;>first|exact .val _|exact .none|skip
 ·by_cases hb:b=0
  ·simp only [if_pos hb];exact .none
  ·simp only [if_neg hb];exact .val _
 ·by_cases hb:b=0
  ·simp only [if_pos hb];exact .none
  ·simp only [if_neg hb];exact .val _
theorem T2 (op:BinOp) (k:IntKind) (a b:Int):Det (fun R K=>OE (R:=R) op k a b K):=by
 unfold OE
 try simp only [AB]
 by_cases hb:b<0
 ·simp only [if_pos hb];cases op<;>exact .none
 ·simp only [if_neg hb];cases op<;>first|exact .val _|exact .none
theorem Sf:∀(d:Nat) (t:TypeId) (gx gy:Nat→AV) (off:Nat),Det (fun R K=>Ox (R:=R) P d t gx gy off K)
 |0,t,gx,gy,off =>.none
 |d+1,t,gx,gy,off=>by
  unfold Ox
  try simp only [AB]
  cases hu:P.underlying t with
  |none=>exact .none
  |some ty=>
   cases ty with
   |int k=>exact .bind _ fun a =>.bind _ fun b =>.val _
   |bool=>exact .bind _ fun a =>.bind _ fun b =>.val _
   |string=>exact .bind _ fun a =>.bind _ fun b =>.val _
   |struct fs=>
    cases hs:B3 P t with
    |none=>exact .none
    |some n=>
     refine .ite ?_;have key:∀(l:List Field) (acc:Bool),Det (fun R (K:Bool→Option R)=>l.foldr (fun f (K':Bool→Option R) (acc:Bool)=>
       match B3 P f.type with
       | some m => if f.name ≠ "_" ∧ f.offset + m ≤ n ∧ (A9 P f.type = some true ∨ A9 P f.type = some false ∧ m = 1) then Ox P d f.type gx gy (off + f.offset) fun b => K' (acc && b) else none
       |none=>none) K acc):=by
      intro l
      induction l with
      |nil=>intro acc;exact .val _
      |cons f l ih=>
       intro acc;simp only [List.foldr_cons];cases B3 P f.type with
       |none=>exact .none
       |some m=>exact .ite (.comp (Sf d _ _ _ _) fun b=>ih _)
     exact key fs.toList true
   |_=>exact .none
theorem Yr (op:BinOp) (t:TypeId) (x y:AV):Det (fun R K=>Y8 (R:=R) P op t x y K):=by
 unfold Y8
 try simp only [AB]
 cases hu:P.underlying t with
 |none=>exact .none
 |some ty=>
  cases ty with
  |int k=>
   by_cases hs:VH op=true
   ·simp only [hs,if_true];exact .bind _ fun a =>.bind _ fun b=>T2 _ _ _ _
   ·simp only [hs,zD,if_false];exact .bind _ fun a =>.bind _ fun b=>T8 _ _ _ _
  |bool=>exact .bind _ fun a =>.bind _ fun b=>by cases op<;>first|exact .val _|exact .none
  |string=>exact .bind _ fun a =>.bind _ fun b=>by cases op<;>first|exact .val _|exact .ite (.val _)|exact .none
  |struct fs=>
   cases x with
   |agg xs=>
    cases y with
    |agg ys=>
     cases B3 P t with
     |none=>exact .none
     |some n=>exact .ite (by cases op<;>first|exact .comp (Sf _ _ _ _ _) (fun b =>.val _)|exact .none)
    |_=>exact .none
   |_=>exact .none
  |_=>exact .none
theorem det_aun (op:UnOp) (x:AV):Det (fun R K=>aun (R:=R) op x K):=by
 unfold aun;cases op with
 |not=>exact .bind _ fun b =>.val _
 |neg=>cases x with
  |t y=>cases y<;>first|exact .val _|exact .none
  |_=>exact .none
 |_=>exact .none
theorem MO (mx:Bool):∀(l:List AV) (a:Int),Det (fun R K=>Km.go (R:=R) mx a l K)
 |[],a =>.val _
 |y::l,a =>.bind _ fun b=>MO mx l _
theorem Wa (mx:Bool) (l:List AV):Det (fun R K=>Km (R:=R) mx l K):=by
 cases l with
 |nil=>exact .none
 |cons x l=>exact .bind _ fun a=>MO mx l a
theorem T4 (t:TypeId) (a:AV) (f:Nat):Det (fun R K=>Jk (R:=R) P t h a f K):=by
 unfold Jk
 try simp only [AB]
 refine .bind _ fun o => ?_;cases a with
 |ptr i off=>exact .val _
 |eptr s c o=>exact .val _
 |rptr i v k o=>exact .bind _ fun ob =>.ite (.val _)
 |_=>exact .none
theorem Iy {α:Type} (i:Int) {f:Nat→α}:∀(n:Nat),Det (fun R (K:α→Option R)=>KE i n fun j=>K (f j))
 |0 =>.none
 |n+1=>by simp only [KE,AB];exact .WR (.val _) (Iy i n)
theorem T3 (t:TypeId) (x ix:AV):Det (fun R K=>Lp (R:=R) P t h x ix K):=by
 unfold Lp
 try simp only [AB]
 refine .bind _ fun i => ?_;cases P.underlying t with
 |none=>exact .none
 |some ty=>
  cases ty with
  |slice e=>
   refine .bind _ fun s => ?_;cases x with
   |t y=>cases y with
    |sl size es=>exact .ite (.bind _ fun c =>.val _)
    |_=>exact .none
   |sref r v o l=>
    dsimp only;cases h[r]? with
    |none=>exact .none
    |some o=>cases o with
     |row f v s es=>exact .ite (.val _)
     |_=>exact .none
   |bsl r o l s=>exact .ite (.WR (Iy i l) (.val _))
   |_=>exact .none
  |array n e=>
   refine .bind _ fun s => ?_;cases x with
   |ptr r off=>exact .ite (.WR (Iy i n) (.val _))
   |_=>exact .none
  |_=>exact .none
theorem Yq (t:TypeId) (x:AV):Det (fun R K=>Wq (R:=R) P t h x K):=by
 unfold Wq
 try simp only [AB]
 cases P.underlying t with
 |none=>exact .none
 |some ty=>
  cases ty with
  |slice e=>
   cases x with
   |t y=>cases y with
    |sl size es=>exact .val _
    |_=>exact .none
   |nilsl=>exact .val _
   |sref r v o l=>
    dsimp only;cases h[r]? with
    |none=>exact .none
    |some o=>cases o with
     |row f v s es=>exact .ite (.val _)
     |_=>exact .none
   |bsl r o l s=>exact .val _
   |_=>exact .none
  |string=>exact .bind _ fun s =>.val _
  |array n e=>exact .val _
  |_=>exact .none
theorem BM (x:Option AV) (d hi:Nat):Det (fun R K=>Cp (R:=R) x d hi K):=by
 unfold Cp
 try simp only [AB]
 cases x with
 |none=>exact .val _
 |some v=>exact .bind _ fun i =>.ite (.val _)
theorem T1 (t:TypeId) (x:AV) (lo hi mx:Option AV):Det (fun R K=>Ln (R:=R) P t h x lo hi mx K):=by
 unfold Ln
 try simp only [AB]
 cases mx with
 |some m=>
  cases P.underlying t with
  |none=>exact .none
  |some ty=>
   cases ty with
   |slice e=>
    refine .bind _ fun z => ?_;cases hi with
    |none=>cases x with
     |t y=>cases y<;>exact .none
     |_=>exact .none
    |some b=>
     cases x with
     |t y=>cases y with
      |sl size es=>exact .ite (.comp (BM _ _ _) fun m =>.comp (BM _ _ _) fun b =>.comp (BM _ _ _) fun a =>.val _)
      |_=>exact .none
     |nilsl=>exact .comp (BM _ _ _) fun m =>.comp (BM _ _ _) fun b =>.comp (BM _ _ _) fun a =>.val _
     |sref r v o l=>
      dsimp only;cases h[r]? with
      |none=>exact .none
      |some o=>cases o with
       |row f v s es=>exact .ite (.comp (BM _ _ _) fun m =>.comp (BM _ _ _) fun b =>.comp (BM _ _ _) fun a =>.val _)
       |_=>exact .none
     |_=>exact .none
   |_=>exact .none
 |none=>
  cases P.underlying t with
  |none=>exact .none
  |some ty=>
   cases ty with
   |string=>exact .bind _ fun s =>.comp (BM _ _ _) fun b =>.comp (BM _ _ _) fun a =>.val _
   |slice e=>
    refine .bind _ fun z => ?_;cases x with
    |t y=>cases y with
     |sl size es=>exact .ite (.comp (BM _ _ _) fun b =>.comp (BM _ _ _) fun a =>.val _)
     |_=>exact .none
    |nilsl=>exact .comp (BM _ _ _) fun b =>.comp (BM _ _ _) fun a =>.val _
    |sref r v o l=>
     dsimp only;cases h[r]? with
     |none=>exact .none
     |some o=>cases o with
      |row f v s es=>exact .ite (.comp (BM _ _ _) fun b =>.comp (BM _ _ _) fun a =>.val _)
      |_=>exact .none
    |_=>exact .none
   |_=>exact .none
theorem T7 (t:TypeId) (parts:List (Nat×AV)):Det (fun R K=>OP (R:=R) P t parts K):=by
 unfold OP;cases P.underlying t with
 |none=>exact .none
 |some ty=>
  cases ty with
  |struct fs=>
   dsimp only;cases fs.toList.mapM (fun f=>(P.info? f.type).map fun i=>(f.offset,i.size)) with
   |none=>exact .none
   |some places=>exact .bind _ fun z =>.bind _ fun cs =>.val _
  |array n e=>exact .bind _ fun s =>.bind _ fun z =>.bind _ fun cs =>.val _
  |_=>exact .none
theorem Mc (t:TypeId) (len:Nat) (parts:List (Nat×AV)):Det (fun R K=>EA (R:=R) P t h len parts K):=by
 unfold EA
 try simp only [AB]
 cases P.underlying t with
 |none=>exact .none
 |some ty=>
  cases ty with
  |slice e=>exact .bind _ fun s =>.bind _ fun z =>.ite (.bind _ fun cs =>.comp (Ce _ _ _) fun xs =>.val _)
  |_=>exact .none
theorem Iz:∀(ts:List TypeId) (vs:List AV),Det (fun R K=>Dt (R:=R) P ts vs K)
 |[],[]=>.val _
 |[],_::_ =>.none
 |_::_,[]=>.none
 |t::ts,v::vs=>by
  simp only [Dt,AB];cases A9 P t with
  |none=>exact .none
  |some b=>
   cases b with
   |true=>cases v with
    |agg cs=>exact .ite (.comp (Iz ts vs) fun rs =>.val _)
    |_=>exact .none
   |false=>exact .ite (.comp (Iz ts vs) fun rs =>.val _)
theorem Yn (t:TypeId) (v:AV):Det (fun R K=>QV (R:=R) P t v K):=by
 rcases NH P t v with h|h
 ·exact .inl ⟨v,h⟩
 ·exact .inr h
theorem Pr (ts:List TypeId) (ys:List Tree):Det (fun R K=>KA (R:=R) P ts ys K):=by
 rcases MA P ts ys with h|h
 ·exact .inl ⟨ys,h⟩
 ·exact .inr h
theorem Qv (src dst:TypeId) (x:AV):Det (fun R K=>IT (R:=R) P src dst x K):=by
 unfold IT;cases P.underlying src with
 |none=>exact .none
 |some a=>
  cases P.underlying dst with
  |none=>cases a<;>exact .none
  |some b=>cases a<;>cases b<;>first|exact .none|exact .bind _ fun n =>.val _
theorem N7 (n:Int):∀(m:List (Int×Nat)),Det (fun R K=>Lo (R:=R) n m K)
 |[]=>.val _
 |p::m=>by simp only [Lo,AB];exact .WR (.val _) (N7 n m)
theorem Sg (t:TypeId) (m x:AV):Det (fun R K=>Kn (R:=R) P t m x K):=by
 unfold Kn;simp only [AB];split
 ·exact .ite (N7 _ _)
 ·exact .none
theorem FW (h:Heap) (z:Nat) (x:AV):Det (fun R (K:List (List Tree)→Option R)=>elems (R:=R) h z x K):=by
 unfold elems
 try simp only [AB]
 cases x with
 |t y=>
  cases y with
  |sl s es=>exact .ite (.val _)
  |_=>exact .none
 |nilsl=>exact .val _
 |sref i ver off len=>
  dsimp only;cases h[i]? with
  |none=>exact .none
  |some o=>
   cases o with
   |row f ver' s es=>exact .ite (.val _)
   |_=>exact .none
 |_=>exact .none
theorem Pq (h:Heap) (z:Nat) (x:AV):Det (fun R (K:List (List Tree)→Option R)=>Rg (R:=R) h z x K):=by
 unfold Rg
 try simp only [AB]
 split
 ·exact .ite (.val _)
 ·exact FW _ _ _
theorem T5 (src dst:TypeId) (x:AV):Det (fun R K=>Lq (R:=R) P h src dst x K):=by
 unfold Lq;simp only [AB];split
 ·split
  ·exact .comp (FW _ _ _) fun es =>.ite (.val _)
  ·exact .none
 ·exact Qv _ _ _
theorem Si (t:TypeId) (x ix:AV):Det (fun R K=>Ko (R:=R) P t x ix K):=by
 unfold Ko;simp only [AB];split
 ·exact .ite (.val _)
 ·exact .ite (.ite (Iy _ _))
 ·exact .none
theorem det_qop (env:Env) (op:Op):Det (fun R K=>qop (R:=R) P env h op K):=by
 cases op with
 |move x=>exact .val _
 |assign x=>exact .val _
 |pick c a b=>
  simp only [qop,AB];exact .bind _ fun t =>.WR (.val _) (.val _)
 |build t parts=>exact T7 _ _
 |buildSlice t len parts=>exact Mc _ _ _
 |load t a=>exact .comp (Wc _ _) fun v=>Yn _ _
 |binOp op t x y yt=>exact Yr _ _ _ _
 |unOp op t x=>exact det_aun _ _
 |convert src dst x=>exact T5 _ _ _
 |makeFunc fn first captured=>cases fn<;>first|exact .val _|exact .none
 |slice t x lo hi mx=>exact T1 _ _ _ _ _
 |fieldAddr t x f=>exact T4 _ _ _
 |indexAddr t x ix=>exact T3 _ _ _
 |extract t i=>
  simp only [qop];cases ev env t with
  |tuple vs=>cases hv:vs[i]? with
   |none=>simp only [hv];exact .none
   |some v=>simp only [hv];exact .val _
  |_=>exact .none
 |lookup t m x ok=>cases ok<;>first|exact Sg _ _ _|exact .none
 |index t x ix=>exact Si _ _ _
 |nilCheck x=>
  simp only [qop];cases ev env x with
  |ptr i off=>exact .val _
  |eptr s c o=>exact .val _
  |yld i=>exact .val _
  |rptr i v k o=>exact .val _
  |func fn a b=>cases fn<;>first|exact .val _|exact .none
  |_=>exact .none
 |call c=>
  obtain ⟨callee,args,argTypes⟩:=c;cases callee with
  |builtin b=>
   cases b<;>first|exact Wa _ _|exact .none|skip
   simp only [qop]
   match args.toList,argTypes.toList with
   |[x],[t]=>exact Yq _ _
   |[],_=>exact .none
   |_::_::_,_=>exact .none
   |[x],[]=>exact .none
   |[x],_::_::_=>exact .none
  |value f=>exact .none
  |invoke r m=>exact .none
 |_=>exact .none
theorem Ym (C:Cfg) (rec:Rec) (pc:BN) (env:Env) (op:Op) :
  (∃v,∀(R:Type) (K:AV→Heap→Option R),Ad C rec pc true env h op K=K v h)∨∀(R:Type) (K:AV→Heap→Option R),Ad C rec pc true env h op K=none:=by
 have lift:∀{f:∀R:Type,(AV→Option R)→Option R},Det f→(∃v,∀(R:Type) (K:AV→Heap→Option R),f R (fun v=>K v h)=K v h)∨∀(R:Type) (K:AV→Heap→Option R),f R (fun v=>K v h)=none:=by
  intro f hf;rcases hf with ⟨v,hv⟩|hn
  ·exact .inl ⟨v,fun R K=>hv R _⟩
  ·exact .inr fun R K=>hn R _
 have hfc:∀(g:FuncId) (avs:List AV),(∃v,∀(R:Type) (K:AV→Heap→Option R),F6 C rec pc true g avs h K=K v h)∨∀(R:Type) (K:AV→Heap→Option R),F6 C rec pc true g avs h K=none:=by
  intro g avs;unfold F6
  try simp only [AB]
  by_cases ho:C.own g=true
  ·exact .inr fun R K=>by simp [ho]
  have ho':C.own g=false:=by simpa using ho
  by_cases hg:C.heapful g=true
  ·exact .inr fun R K=>by simp [ho',hg]
  ·have hg':C.heapful g=false:=by simpa using hg
   simp only [ho',hg',zD,if_false,Bool.true_or,if_true];have hd:Det (fun R (K:AV→Option R)=>Dt C.P (Ik C.P g) avs fun ls=>Dw C.P (!CZ C.P g) h (KJ C.P g) ls fun xs=>if g<OWN then ((pc g xs).bind fun ys=>KA C.P (A6 C.P g) ys fun ys=>
     match DC C.P g (fun i =>.t (ys.getD i default)) with
     |some v=>K v
     |none=>none) else none):=
    .comp (Iz _ _) fun ls =>.comp (Ce _ _ _) fun xs =>.ite (.bind _ fun ys =>.comp (Pr _ _) fun ys=>by
     cases DC C.P g (fun i =>.t (ys.getD i default)) with
     |none=>exact .none
     |some v=>exact .val _)
   exact lift hd
 unfold Ad
 try simp only
 by_cases hh:A8 op=true
 ·exact .inr fun R K=>by simp [hh]
 ·have hh':A8 op=false:=by simpa using hh
  simp only [hh',zD,if_false];have hq:=lift (det_qop (P:=C.P) (h:=h) env op);cases op with
  |buildSlice t len parts=>
   dsimp only;by_cases hf:C.fnTy t=true
   ·simp only [hf,if_true];exact .inr fun _ _=>trivial
   ·simp only [hf,zD,if_false];exact hq
  |call c=>
   obtain ⟨callee,args,argTypes⟩:=c;cases callee with
   |value f=>
    dsimp only;unfold OB
    try simp only [AB]
    have hif:∀(g:FuncId) (avs:List AV),(∃v,∀(R:Type) (K:AV→Heap→Option R),(if enters C.P g=true then F6 C rec pc true g avs h K else none)=K v h)∨∀(R:Type) (K:AV→Heap→Option R),(if enters C.P g=true then F6 C rec pc true g avs h K else none)=none:=by
     intro g avs;by_cases he:enters C.P g=true
     ·simp only [if_pos he];exact hfc g avs
     ·simp only [if_neg he];exact .inr fun _ _=>trivial
    cases ev env f with
    |func fn a b=>
     cases fn with
     |func g=>exact hif g _
     |_=>exact .inr fun _ _=>rfl
    |t x=>
     cases x with
     |const v=>
      cases v with
      |func fn a b=>
       cases fn with
       |func g=>
        obtain ⟨a⟩:=a;obtain ⟨b⟩:=b;cases a with
        |nil=>cases b with
         |nil=>exact hif g _
         |cons x xs=>exact .inr fun _ _=>rfl
        |cons x xs=>exact .inr fun _ _=>rfl
       |_=>exact .inr fun _ _=>rfl
      |_=>exact .inr fun _ _=>rfl
     |_=>exact .inr fun _ _=>rfl
    |yld i=>exact .inr fun _ _=>by simp
    |_=>exact .inr fun _ _=>rfl
   |builtin b=>exact hq
   |invoke a b=>exact hq
  |_=>exact hq
noncomputable def Hc (C:Cfg) (rec:Rec) (pc:BN) (h:Heap) (env:Env) (op:Op):Option AV:=Ad C rec pc true env h op fun v _=>some v
theorem step_eq {R:Type} (C:Cfg) (rec:Rec) (pc:BN) (env:Env) (op:Op) (K:AV→Heap→Option R):Ad C rec pc true env h op K=(Hc C rec pc h env op).bind fun v=>K v h:=by
 unfold Hc;rcases Ym (h:=h) C rec pc env op with ⟨v,hv⟩|hn
 ·rw [hv,hv];rfl
 ·rw [hn,hn];rfl
def Ov (ops:Array Oper) (o:Oper) (env:Env):Option Bool:=
 match o.guard with
 |none=>some true
 |some (j,want)=>
  match (ops[j]?).bind (·.dst) with
  |some d=>match env d with
   | .t (.bool b)=>some (b==want)
   | .tuple []=>some false
   |_=>none
  |none=>none
theorem SU {R:Type} (ops:Array Oper) (o:Oper) (env:Env) (K1 K0:Env→Option R):GC ops o env K1 K0=(Ov ops o env).bind fun b=>if b then K1 env else K0 env:=by
 unfold GC Ov
 try simp only [AB]
 cases hg:o.guard with
 |none=>rfl
 |some p=>
  obtain ⟨j,want⟩:=p;dsimp only;cases hd:(ops[j]?).bind (·.dst) with
  |none=>rfl
  |some d=>
   dsimp only;cases hb:env d with
   |t x=>
    cases x with
    |bool b=>cases b<;>cases want<;>simp [R1 hb]
    |_=>rfl
   |tuple vs=>cases vs<;>rfl
   |_=>rfl
theorem TY (C:Cfg) (rec:Rec) (pc:BN) {env env':Env} (op:Op) (hE:∀x∈op.operands,ev env x=ev env' x):Hc C rec pc h env op=Hc C rec pc h env' op:=by
 have hmap:∀(xs:Array Operand),(∀x∈xs,ev env x=ev env' x)→xs.toList.map (ev env)=xs.toList.map (ev env'):=fun xs hx=>
  xM fun x hm=>hx x (by simpa using hm)
 have hparts:∀(ps:Array (Nat×Operand)),(∀x∈(ps.toList.map (·.2)).toArray,ev env x=ev env' x)→ps.toList.map (fun p=>(p.1,ev env p.2))=ps.toList.map (fun p=>(p.1,ev env' p.2)):=fun ps hx=>
  xM fun p hm=>by rw [hx p.2 (by simp;exact ⟨p.1,by simpa using hm⟩)]
 have hopt:∀(x:Option Operand),(∀y∈x.toArray,ev env y=ev env' y)→KL env x=KL env' x:=fun x hx=>by
  cases x with
  |none=>rfl
  |some y=>simp only [KL];rw [hx y (by simp)]
 unfold Hc;cases op with
 |move x=>have h1:=hE x (by simp [Op.operands]);simp only [Ad,A8,zD,if_false,qop,h1]
 |assign x=>have h1:=hE x (by simp [Op.operands]);simp only [Ad,A8,zD,if_false,qop,h1]
 |pick c a b=>
  have h1:=hE c (by simp [Op.operands]);have h2:=hE a (by simp [Op.operands]);have h3:=hE b (by simp [Op.operands]);simp only [Ad,A8,zD,if_false,qop,h1,h2,h3,AB]
 |alloc t=>simp [Ad,A8]
 |box t x=>simp [Ad,A8]
 |store t a x=>simp [Ad,A8]
 |build t ps=>have h1:=hparts ps hE;simp only [Ad,A8,zD,if_false,qop,h1]
 |buildSlice t l ps=>have h1:=hparts ps hE;simp only [Ad,A8,zD,if_false,qop,if_true,h1]
 |load t x=>have h1:=hE x (by simp [Op.operands]);simp only [Ad,A8,zD,if_false,qop,h1]
 |nilCheck x=>have h1:=hE x (by simp [Op.operands]);simp only [Ad,A8,zD,if_false,qop,h1]
 |binOp op t x y yt=>
  have h1:=hE x (by simp [Op.operands]);have h2:=hE y (by simp [Op.operands]);by_cases hi:A8 (.binOp op t x y yt)=true
  ·simp only [Ad,hi,if_true]
  ·simp only [Ad,hi,zD,if_false,qop,h1,h2]
 |unOp op t x=>have h1:=hE x (by simp [Op.operands]);simp only [Ad,A8,zD,if_false,qop,h1]
 |convert src dst x=>have h1:=hE x (by simp [Op.operands]);simp only [Ad,A8,zD,if_false,qop,h1]
 |makeSlice t n c=>simp [Ad,A8]
 |makeFunc fn first captured=>
  have h1:=hmap first fun x hx=>hE x (by simp [Op.operands,hx])
  have h2:=hmap captured fun x hx=>hE x (by simp [Op.operands,hx]);simp only [Ad,A8,zD,if_false,qop,h1,h2]
 |slice t x lo hi mx=>
  have h1:=hE x (by simp [Op.operands]);have h2:=hopt lo fun y hy=>hE y (by simp [Op.operands] at hy ⊢;simp [hy]);have h3:=hopt hi fun y hy=>hE y (by simp [Op.operands] at hy ⊢;simp [hy]);have h4:=hopt mx fun y hy=>hE y (by simp [Op.operands] at hy ⊢;simp [hy]);simp only [Ad,A8,zD,if_false,qop,h1,h2,h3,h4]
 |fieldAddr t x f=>have h1:=hE x (by simp [Op.operands]);simp only [Ad,A8,zD,if_false,qop,h1]
 |indexAddr t x y=>
  have h1:=hE x (by simp [Op.operands]);have h2:=hE y (by simp [Op.operands]);simp only [Ad,A8,zD,if_false,qop,h1,h2]
 |lookup t m x ok=>have h1:=hE m (by simp [Op.operands]);have h2:=hE x (by simp [Op.operands]);cases ok<;>simp only [Ad,A8,zD,if_false,qop,h1,h2]
 |index t x y=>
  have h1:=hE x (by simp [Op.operands]);have h2:=hE y (by simp [Op.operands]);simp only [Ad,A8,zD,if_false,qop,h1,h2]
 |extract x i=>have h1:=hE x (by simp [Op.operands]);simp only [Ad,A8,zD,if_false,qop,h1]
 |call c=>
  obtain ⟨callee,args,argTypes⟩:=c;cases callee with
  |value f=>
   have h1:=hE f (by simp [Op.operands,Call.operands]);have h2:=hmap args fun x hx=>hE x (by simp [Op.operands,Call.operands,hx]);simp only [Ad,A8,zD,if_false,h1,h2]
  |builtin b=>
   have h2:∀x∈args.toList,ev env x=ev env' x:=fun x hx=>hE x (by simp [Op.operands,Call.operands];simpa using hx);have h3:=hmap args fun x hx=>h2 x (by simpa using hx);cases b<;>first|(simp [Ad,A8];done)|(simp only [Ad,A8,zD,if_false,qop,h3];done)|(simp only [Ad,A8,zD,if_false,qop];done)|skip
   simp only [Ad,A8,zD,if_false,qop]
   match hl:args.toList,argTypes.toList with
   |[x],[t]=>simp only [h2 x (by rw [hl];simp)]
   |[],_=>rfl
   |_::_::_,_=>rfl
   |[x],[]=>rfl
   |[x],_::_::_=>rfl
  |invoke r m=>simp only [Ad,A8,zD,if_false,qop]
 |_=>simp only [Ad,A8,zD,if_false,qop]
theorem Nt (ops:Array Oper) (o:Oper) {env env':Env} (hE:∀t∈o.looksAt ops,env t=env' t):Ov ops o env=Ov ops o env':=by
 unfold Ov;cases hg:o.guard with
 |none=>rfl
 |some p=>
  obtain ⟨j,want⟩:=p;dsimp only;cases hd:(ops[j]?).bind (·.dst) with
  |none=>rfl
  |some d=>
   dsimp only;rw [hE d (by simp [Oper.looksAt,hg,hd])]
theorem Nf (ops:Array Oper) (o:Oper) {env env':Env} (hE:∀t∈o.looksAt ops,env t=env' t):∀x∈o.op.operands,ev env x=ev env' x:=by
 intro x hx;cases x with
 |tmp t=>exact hE t (by simp only [Oper.looksAt,xO,xS];exact .inl ⟨.tmp t,by simpa using hx,rfl⟩)
 |_=>rfl
theorem Cv {env:Env} {o:Oper} {v:AV} {t:Tmp} (ht:∀d,o.dst=some d→d≠t):(env.put o.dst v) t=env t:=by
 cases hd:o.dst with
 |none=>rfl
 |some d=>simp only [Env.put];rw [if_neg fun e=>ht d hd e.symm]
theorem put_comm {env:Env} {x y:Oper} {v u:AV} (hxy:∀d,x.dst=some d→y.dst≠some d):(env.put x.dst v).put y.dst u=(env.put y.dst u).put x.dst v:=by
 cases hx:x.dst with
 |none=>cases y.dst<;>rfl
 |some d=>
  cases hy:y.dst with
  |none=>rfl
  |some e=>
   funext i;simp only [Env.put];have hne:d≠e:=fun h=>hxy d hx (by rw [hy,h]);by_cases h1:i=e
   ·rw [if_pos h1];by_cases h2:i=d
    ·exact (hne (h2.symm.trans h1)).elim
    ·rw [if_neg h2,if_pos h1]
   ·rw [if_neg h1];by_cases h2:i=d
    ·rw [if_pos h2,if_pos h2]
    ·rw [if_neg h2,if_neg h2,if_neg h1]
theorem Jf {h:Heap}:∀(os vs:List AV),Det (fun R (K:List AV→Option R)=>Eb (R:=R) h os vs K)
 |os,[]=>by
  have:(fun R (K:List AV→Option R)=>Eb (R:=R) h os [] K)=fun R K=>K []:=by funext R K;cases os<;>rfl
  rw [this];exact .val _
 |[],v::vs =>.val _
 |o::os,v::vs=>by
  have plain:∀x:AV,Det (fun R (K:List AV→Option R)=>Eb (R:=R) h os vs fun vs'=>K (x::vs')):=fun x =>.comp (Jf os vs) fun vs' =>.val _;unfold Eb
  try simp only [AB]
  split
  ·split
   ·exact .ite (plain _)
   ·exact plain _
  ·exact plain _
theorem G5:∀(ts:List TypeId) (vs:List AV) (h:Heap),Det (fun R (K:List AV×Heap→Option R)=>EZ (R:=R) P ts vs h fun vs' h'=>K (vs',h'))
 |ts,[],h =>.val ([],h)
 |ts,v::vs,h=>by
  cases v with
  |nilsl=>
   have:=G5 ts.tail vs (h++[.row false 0 ((FH P (ts.headD 0)).getD 0) []]);rcases this with ⟨p,hp⟩|hn
   ·exact .inl ⟨(.sref h.length 0 0 0::p.1,p.2),fun R K=>hp R fun q=>K (.sref h.length 0 0 0::q.1,q.2)⟩
   ·exact .inr fun R K=>hn R fun q=>K (.sref h.length 0 0 0::q.1,q.2)
  |_=>
   have:=G5 ts.tail vs h;rcases this with ⟨p,hp⟩|hn
   ·exact .inl ⟨(_::p.1,p.2),fun R K=>hp R fun q=>K (_::q.1,q.2)⟩
   ·exact .inr fun R K=>hn R fun q=>K (_::q.1,q.2)
theorem Kf (t:TypeId) (cs:List AV) (h:Heap):Det (fun R (K:AV×Heap→Option R)=>EP (R:=R) P t cs h fun v h'=>K (v,h')):=by
 unfold EP;rcases G5 (P:=P) (B4 P 16 t) cs h with ⟨p,hp⟩|hn
 ·exact .inl ⟨(.ptr p.2.length 0,p.2++[.box p.1]),fun R K=>hp R fun q=>K (.ptr q.2.length 0,q.2++[.box q.1])⟩
 ·exact .inr fun R K=>hn R fun q=>K (.ptr q.2.length 0,q.2++[.box q.1])
theorem N6 (t:TypeId) (h:Heap) (a v:AV):Det (fun R (K:Heap→Option R)=>IN (R:=R) P t h a v K):=by
 unfold IN
 try simp only [AB]
 cases v.cells with
 |none=>exact .none
 |some vs=>
  cases B3 P t with
  |none=>exact .none
  |some n=>
   refine .ite ?_;cases a with
   |ptr i off=>
    dsimp only;cases h[i]? with
    |none=>exact .none
    |some o=>
     cases o with
     |box cs=>
      refine .ite ?_;refine .comp (Jf _ _) fun vs => ?_;rcases G5 (P:=P) (B4 P 16 t) vs h with ⟨p,hp⟩|hn
      ·exact .inl ⟨_,fun R K=>hp R fun q=>K (q.2.set i (.box (setAt cs off q.1)))⟩
      ·exact .inr fun R K=>hn R fun q=>K (q.2.set i (.box (setAt cs off q.1)))
     |row f ver s es=>exact .none
     |loop l=>exact .none
   |rptr i ver k off=>
    dsimp only;cases h[i]? with
    |none=>exact .none
    |some o=>
     cases o with
     |box cs=>exact .none
     |loop l=>exact .none
     |row f ver' s es=>
      cases f with
      |true=>exact .none
      |false=>exact .ite (.bind _ fun e =>.comp (Ce _ _ _) fun xs =>.val _)
   |_=>exact .none
theorem Sj (t:TypeId) (h:Heap) (s x:AV):Det (fun R (K:AV×Heap→Option R)=>ER (R:=R) P t h s x fun v h'=>K (v,h')):=by
 unfold ER
 try simp only [AB]
 refine .bind _ fun z =>.comp (FW h z x) fun new => ?_;cases s with
 |nilsl=>exact .ite (.val (_,_))
 |sref i ver off len=>
  dsimp only;cases h[i]? with
  |none=>exact .none
  |some o=>
   cases o with
   |row f ver' sz es=>
    cases f with
    |true=>exact .none
    |false=>exact .WR (.ite (.val (_,_))) (.ite (.val (_,_)))
   |_=>exact .none
 |_=>exact .none
theorem Oz (t:TypeId) (h:Heap) (s x:AV):Det (fun R (K:AV×Heap→Option R)=>Em (R:=R) P t h s x fun v h'=>K (v,h')):=by
 unfold Em
 try simp only [AB]
 refine .bind _ fun z =>.comp (FW h z x) fun new => ?_;cases s with
 |sref i ver off len=>
  dsimp only;cases h[i]? with
  |none=>exact .none
  |some o=>
   cases o with
   |row f ver' sz es=>
    cases f with
    |true=>exact .none
    |false=>exact .ite (.val (_,_))
   |_=>exact .none
 |_=>exact .none
theorem Ix (h:Heap) (e:TypeId):Det (fun R (K:List Tree→Option R)=>O2 (R:=R) P h e K):=by
 unfold O2
 try simp only [AB]
 cases zeroCells? P e with
 |none=>exact .none
 |some z=>
  cases B3 P e with
  |none=>exact .none
  |some n=>exact .ite (Ce _ _ _)
theorem T6 (t:TypeId) (h:Heap) (x:AV):Det (fun R (K:Heap→Option R)=>Jl (R:=R) P t h x K):=by
 unfold Jl
 try simp only [AB]
 cases P.underlying t with
 |none=>exact .none
 |some ty=>
  cases ty with
  |slice e=>
   cases x with
   |t y=>cases y with
    |sl z es=>exact .ite (.val _)
    |_=>exact .none
   |nilsl=>exact .val _
   |sref i ver off len=>
    dsimp only;refine .comp (Ix h e) fun zs => ?_;cases h[i]? with
    |none=>exact .none
    |some o=>
     cases o with
     |row f ver' sz es=>
      cases f with
      |true=>exact .none
      |false=>exact .ite (.val _)
     |_=>exact .none
   |_=>exact .none
  |_=>exact .none
theorem We (t:TypeId) (h:Heap) (d x:AV):Det (fun R (K:AV×Heap→Option R)=>ON (R:=R) P t h d x fun v h'=>K (v,h')):=by
 unfold ON
 try simp only [AB]
 refine .bind _ fun z =>.comp (Pq h z x) fun new => ?_;cases d with
 |sref i ver off len=>
  dsimp only;cases h[i]? with
  |none=>exact .none
  |some o=>
   cases o with
   |row f ver' sz es=>
    cases f with
    |true=>exact .none
    |false=>exact .ite (.val (_,_))
   |_=>exact .none
 |_=>exact .none
theorem Wb (t:TypeId) (h:Heap) (n c:AV):Det (fun R (K:AV×Heap→Option R)=>OJ (R:=R) P t h n c fun v h'=>K (v,h')):=by
 unfold OJ
 try simp only [AB]
 refine .bind _ fun z => ?_;cases P.underlying t with
 |none=>exact .none
 |some ty=>
  cases ty with
  |slice e=>exact .bind _ fun a =>.bind _ fun b =>.comp (Ix h e) fun zs =>.ite (.val (_,_))
  |_=>exact .none
theorem N5 (t:TypeId) (v:AV) (h:Heap):Det (fun R (K:AV×Heap→Option R)=>Ll (R:=R) P t v h fun v=>K (v,h)):=by
 unfold Ll
 try simp only [AB]
 cases v.cells with
 |none=>exact .none
 |some cs=>
  cases B3 P t with
  |none=>exact .none
  |some n=>exact .ite (.comp (Ce _ _ _) fun xs =>.val (_,_))
theorem Qu (t:TypeId) (h:Heap):Det (fun R (K:AV×Heap→Option R)=>Gd (R:=R) P t h fun v h'=>K (v,h')):=by
 unfold Gd
 try simp only [AB]
 cases zeroCells? P t with
 |none=>exact .none
 |some z=>
  cases B3 P t with
  |none=>exact .none
  |some n=>exact .ite (.comp (Ce _ _ _) fun xs =>.val (_,_))
theorem Oy {P:Program} {t:TypeId} {h:Heap} (len:Nat) (parts:List (Nat×AV)):Det (fun R (K:AV×Heap→Option R)=>El (R:=R) P t h len parts fun v h'=>K (v,h')):=by
 unfold El
 try simp only [AB]
 cases P.underlying t with
 |none=>exact .none
 |some u=>cases u with
  |slice e=>exact .bind _ fun s =>.bind _ fun z =>.ite (.bind _ fun cs =>.val (_,_))
  |_=>exact .none
theorem Yo (C:Cfg) (rec:Rec) (pc:BN) (env:Env) (op:Op) (hl:Ae C op=true):Det (fun R (K:AV×Heap→Option R)=>Ad (R:=R) C rec pc false env h op fun v h'=>K (v,h')):=by
 by_cases hh:A8 op=true
 case neg=>
  have hw:(∃g args argTypes,op = .call {callee :=.value (.func g),args,argTypes})∨∃t len parts,op = .buildSlice t len parts:=by unfold Ae at hl;split at hl<;>first|(exact absurd rfl hh)|(exact .inl ⟨_,_,_,rfl⟩)|(exact .inr ⟨_,_,_,rfl⟩)|cases hl
  rcases hw with ⟨g,args,argTypes,rfl⟩|⟨t,len,parts,rfl⟩
  case inr=>
   have hf:C.fnTy t=true:=hl;show Det (fun R (K:AV×Heap→Option R)=>Ad (R:=R) C rec pc false env h (.buildSlice t len parts) fun v h'=>K (v,h'));simp only [Ad,A8,zD,if_false,hf,if_true];exact Oy _ _
  have hown:C.own g=true:=hl;have hh':A8 (.call {callee :=.value (.func g),args,argTypes})=false:=by simpa using hh
  unfold Ad;simp only [hh',zD,if_false,ev,OB,AB];refine .ite ?_;unfold F6;simp only [hown,if_true,zD,if_false,AB];refine .comp (Iz _ _) fun ls =>.comp (Ce _ _ _) fun xs => ?_;split
  ·rename_i j ho2;refine .ite (.bind _ fun ys =>.comp (Pr _ _) fun ys => ?_);split
   ·rename_i z es _;split
    ·exact .val (_,_)
    ·exact .none
   ·exact .none
  refine .bind _ fun ys => ?_;split
  ·refine .bind _ fun z =>.ite (.ite ?_);unfold QY;split
   ·split
    ·exact .val (_,_)
    ·exact .none
   ·exact .val (_,_)
  ·exact .none
 unfold Ad;simp only [hh,if_true,zD,if_false];cases op with
 |alloc t=>
  have hrn:C.ren t=none:=by simpa [Ae] using hl
  simp only [C3,hrn];split
  ·exact (by simpa using N5 (P:=C.P) _ _ _)
  ·rename_i t' himm;exact Qu _ _
  ·rename_i t' d himm;split at himm<;>cases himm
  ·rename_i t' a x himm;split at himm<;>cases himm
  ·simp only [hop];cases zeroCells? C.P t with
   |none=>exact .none
   |some z=>exact Kf _ _ _
 |box t x=>
  simp only [C3];split
  ·exact N5 _ _ _
  ·rename_i t' himm;split at himm<;>cases himm
  ·rename_i t' d himm;split at himm<;>cases himm
  ·rename_i t' a x' himm;split at himm<;>cases himm
  ·simp only [hop];cases (ev env x).cells with
   |none=>exact .none
   |some cs=>exact Kf _ _ _
 |store t a x=>
  simp only [C3];split
  ·rename_i himm;split at himm<;>cases himm
  ·rename_i himm;split at himm<;>cases himm
  ·rename_i himm;split at himm<;>cases himm
  ·rename_i t' a' x' himm;exact .comp (N6 _ _ _ _) fun h' =>.val (_,_)
  ·simp only [hop];exact .comp (N6 _ _ _ _) fun h' =>.val (_,_)
 |call c=>
  obtain ⟨callee,args,argTypes⟩:=c;cases callee with
  |builtin b=>
   cases b<;>first|(simp [Ae] at hl;done)|skip
   ·simp only [C3,hop,AB];split
    ·rename_i s x t t' _ _;refine .ite ?_;by_cases hsr:QS (ev env s) (ev env x)=true
     ·simp only [hsr,if_true];exact Oz _ _ _ _
     ·simp only [hsr,zD,if_false];exact Sj _ _ _ _
    ·exact .none
   ·simp only [C3,hop];split
    ·exact .comp (T6 _ _ _) fun h' =>.val (_,_)
    ·exact .none
   ·simp only [C3,hop];split
    ·exact We _ _ _ _
    ·exact .none
  |_=>simp [A8] at hh
 |makeSlice t n c=>simp only [C3,hop];exact Wb _ _ _ _
 |_=>first|(simp [Ae] at hl;done)|(simp [A8] at hh;done)
def HF (h h':Heap) (v:AV):Prop:=(∃d,HX d v=true)∨∃i,Bm v=some i∧h[i]? = h'[i]?
theorem HF.cells {h h':Heap} {v:AV} {cs:List AV} (hv:HF h h' v) (hc:v.cells=some cs):∀x∈cs,HF h h' x:=by
 rcases hv with ⟨d,hd⟩|⟨i,hi,he⟩
 ·cases d with
  |zero=>cases hd
  |succ d=>
   cases v<;>simp only [AV.cells,Option.some.injEq,reduceCtorEq] at hc<;>first|(cases hc;done)|skip
   all_goals first
    |(subst hc;intro x hx;simp at hx;subst hx;exact .inl ⟨d+1,hd⟩)
    |(subst hc;intro x hx;simp only [HX] at hd;exact .inl ⟨d,zG.1 hd x hx⟩)
 ·cases v<;>simp only [Bm,reduceCtorEq] at hi<;>simp only [AV.cells,Option.some.injEq] at hc<;>(subst hc;intro x hx;simp at hx;subst hx;exact .inr ⟨i,by simpa [Bm] using hi,he⟩)
theorem Wg {R:Type} {fz:Bool} {h h':Heap} {ty:TypeId} {v:AV} (hv:HF h h' v) (K:Tree→Option R):conv P fz h ty v K=conv P fz h' ty v K:=by
 cases v with
 |sref i ver off len=>
  rcases hv with ⟨d,hd⟩|⟨j,hj,he⟩
  ·cases d with
   |zero=>cases hd
   |succ d=>simp [HX] at hd
  ·simp only [Bm,Option.some.injEq] at hj;subst hj;simp only [conv,he]
 |func fn f c=>cases f<;>cases c<;>rfl
 |_=>rfl
theorem Jh {R:Type} {fz:Bool} {h h':Heap}:∀(ts:List TypeId) (vs:List AV),(∀v∈vs,HF h h' v)→∀(K:List Tree→Option R),Dw P fz h ts vs K=Dw P fz h' ts vs K
 |[],[],_,K=>rfl
 |[],_::_,_,K=>rfl
 |_::_,[],_,K=>rfl
 |t::ts,v::vs,hv,K=>by simp only [Dw];rw [Wg (h':=h') (hv v (by simp))];congr 1;funext x;exact Jh ts vs (fun u hu=>hv u (by simp [hu])) _
theorem Jc {R:Type} {h h':Heap}:∀(ts:List TypeId) (vs:List AV),(∀v∈vs,HF h h' v)→∀(K K':List AV→Option R),(∀ls,(∀v∈ls,HF h h' v)→K ls=K' ls)→Dt P ts vs K=Dt P ts vs K'
 |[],[],_,K,K',hk=>hk [] (by simp)
 |[],_::_,_,K,K',hk=>rfl
 |_::_,[],_,K,K',hk=>rfl
 |t::ts,v::vs,hv,K,K',hk=>by
  have hv1:=hv v (by simp);have hvs:∀u∈vs,HF h h' u:=fun u hu=>hv u (by simp [hu]);simp only [Dt,AB];cases A9 P t with
  |none=>rfl
  |some b=>
   cases b with
   |true=>
    cases v with
    |agg cs=>
     dsimp only;split
     ·refine Jc ts vs hvs _ _ fun ls hl=>hk _ fun u hu => ?_;rcases xO.1 hu with hu|hu
      ·exact hv1.cells (cs:=cs) rfl u hu
      ·exact hl u hu
     ·rfl
    |_=>rfl
   |false=>
    dsimp only;split
    ·refine Jc ts vs hvs _ _ fun ls hl=>hk _ fun u hu => ?_;rcases xP.1 hu with rfl|hu
     ·exact hv1
     ·exact hl u hu
    ·rfl
theorem Ph {h h':Heap} {place:Nat→Option (Nat×Nat)}:∀(ps:List (Nat×AV)) (cs cs':List AV),(∀p∈ps,HF h h' p.2)→(∀v∈cs,HF h h' v)→CA place cs ps=some cs'→∀v∈cs',HF h h' v
 |[],cs,cs',_,hc,h=>by cases h;exact hc
 |(i,v)::ps,cs,cs',hp,hc,h=>by
  simp only [CA] at h;split at h
  ·rename_i off size vs hpl hvc;split at h
   ·refine Ph ps _ cs' (fun p hpp=>hp p (by simp [hpp])) (fun u hu => ?_) h;simp only [setAt,xO] at hu;rcases hu with hu|hu|hu
    ·exact hc u (List.mem_of_mem_take hu)
    ·exact (hp (i,v) (by simp)).cells hvc u hu
    ·exact hc u (xU hu)
   ·cases h
  ·cases h
theorem ID (d:Nat) (v:Value):HX (d+2) (FV v)=true:=by unfold FV;split<;>rfl
theorem Qe (v:Value):HX 4 (ofConst v)=true:=by
 unfold ofConst;split
 ·simp only [HX];exact zG.2 fun x hx=>by obtain ⟨u,_,rfl⟩:=xT.1 hx;exact ID 1 u
 ·exact ID 2 _
theorem V0 {h h':Heap} {e:TypeId} {z:List AV} (hz:zeroCells? P e=some z):∀v∈z,HF h h' v:=by
 unfold zeroCells? at hz;split at hz
 ·exact HF.cells (.inl ⟨4,Qe _⟩) hz
 ·cases hz
theorem HF.obj {h h':Heap} {v:AV} (hv:HF h h' v) {i:Nat} (hi:Bm v=some i):h[i]? = h'[i]? :=by
 rcases hv with ⟨d,hd⟩|⟨j,hj,he⟩
 ·cases d with
  |zero=>cases hd
  |succ d=>cases v<;>simp only [Bm,reduceCtorEq] at hi<;>simp [HX] at hd
 ·rw [hi] at hj;cases hj;exact he
theorem Ry {R:Type} {h h':Heap} {env:Env} {op:Op} (hf:∀x∈op.operands,HF h h' (ev env x)) (K:AV→Option R):qop P env h op K=qop P env h' op K:=by
 cases op with
 |load t x=>
  have h1:=hf x (by simp [Op.operands]);simp only [qop,JO];generalize ev env x=v at h1;cases v<;>first|rfl|(simp only [h1.obj rfl])
 |fieldAddr t x f=>
  have h1:=hf x (by simp [Op.operands]);simp only [qop,Jk];generalize ev env x=v at h1;cases v<;>first|rfl|(simp only [h1.obj rfl])
 |indexAddr t x y=>
  have h1:=hf x (by simp [Op.operands]);simp only [qop,Lp];generalize ev env x=v at h1;cases v with
  |sref i ver off len=>simp only [h1.obj rfl]
  |t y=>cases y<;>rfl
  |_=>rfl
 |convert src dst x=>
  have h1:=hf x (by simp [Op.operands]);simp only [qop,Lq];generalize ev env x=v at h1;split
  ·split
   ·unfold elems;cases v with
    |sref i ver off len=>simp only [h1.obj rfl]
    |t y=>cases y<;>rfl
    |_=>rfl
   ·rfl
  ·rfl
 |slice t x lo hi mx=>
  have h1:=hf x (by simp [Op.operands]);simp only [qop,Ln];generalize ev env x=v at h1;generalize KL env hi=oh;generalize KL env mx=om;cases v with
  |sref i ver off len=>cases oh<;>simp only [h1.obj rfl]
  |t y=>cases y<;>cases oh<;>rfl
  |_=>cases oh<;>rfl
 |buildSlice t len ps=>
  simp only [qop,EA,AB];split
  ·rename_i e hu;congr 1;funext s;cases hzc:zeroCells? P e with
   |none=>rfl
   |some z=>
    simp only [Option.bind_some];split
    ·cases hfc:CA (fun i=>some (i*s,s)) (replicate len z).flatten (ps.toList.map fun p=>(p.1,ev env p.2)) with
     |none=>rfl
     |some cs=>
      simp only [Option.bind_some];refine Jh _ _ (Ph _ _ _ (fun p hp => ?_) (fun v hv => ?_) hfc) _
      ·obtain ⟨q,hq,rfl⟩:=xT.1 hp;exact hf q.2 (by simp [Op.operands];exact ⟨q.1,by simpa using hq⟩)
      ·obtain ⟨l,hl,hv⟩:=List.mem_flatten.1 hv;rw [(List.mem_replicate.1 hl).2] at hv;exact V0 hzc v hv
    ·rfl
  ·rfl
 |call c=>
  obtain ⟨callee,args,argTypes⟩:=c;cases callee with
  |builtin b=>
   cases b<;>first|rfl|skip
   simp only [qop];split
   ·rename_i x t hx _;have h1:=hf x (by
     have:x∈args.toList:=by rw [hx];simp
     simp [Op.operands,Call.operands];simpa using this)
    simp only [Wq];generalize ev env x=v at h1;cases v with
    |sref i ver off len=>simp only [h1.obj rfl]
    |t y=>cases y<;>rfl
    |_=>rfl
   ·rfl
  |_=>rfl
 |lookup t m x ok=>cases ok<;>rfl
 |_=>rfl
theorem UC {C:Cfg} {rec:Rec} {pc:BN} {h h':Heap} {env:Env} {op:Op} (hb:G8 op=true):Hc C rec pc h env op=Hc C rec pc h' env op:=by
 unfold Hc Ad;by_cases hh:A8 op=true
 ·simp [hh]
 ·have hh':A8 op=false:=by simpa using hh
  simp only [hh',zD,if_false];cases op<;>first|(simp [G8] at hb;done)|rfl|skip
  rename_i c;obtain ⟨callee,args,argTypes⟩:=c;cases callee with
  |builtin b=>cases b<;>first|(simp [G8] at hb;done)|rfl
  |_=>simp [G8] at hb
theorem Su {h:Heap} {i:Nat} (hi:i<1024):At h i=h[i]? :=by unfold At;rw [if_pos hi]
theorem X6 {S:List Nat} {h h':Heap} (hag:∀i∈S,At h i=At h' i) {v:AV} (hv:QX S v=true):HF h h' v:=by
 unfold QX at hv;rw [yX] at hv;rcases hv with hv|hv
 ·exact .inl ⟨4,hv⟩
 ·cases ho:Bm v with
  |none=>rw [ho] at hv;cases hv
  |some i=>
   rw [ho] at hv;simp only [zC,decide_eq_true_eq] at hv;have h1:=hag i (by simpa using hv.2);rw [Su hv.1,Su hv.1] at h1;exact .inr ⟨i,ho,h1⟩
theorem Ta {g g':Nat→AV}:∀(n off:Nat),(∀j,j<n→g (off+j)=g' (off+j))→BV g off n=BV g' off n:=by intro n off hj;unfold BV;exact xM fun j hm=>hj j (xV.1 hm)
theorem WG {P:Program} {t:TypeId} {h h':Heap} {i off n:Nat} (hi:i<1024) (ho:off<4096) (hn:ldN P t=some n) (hag:At h (JH i off n)=At h' (JH i off n)) {R:Type} (K:AV→Option R) :
  JO P t h (.ptr i off) K=JO P t h' (.ptr i off) K:=by
 have e1:¬JH i off n<1024:=by unfold JH;omega
 have e2:JH i off n % 1024=i:=by unfold JH;omega
 have e3:JH i off n / 1024-1=off+4096*n:=by unfold JH;omega
 have e4:(off+4096*n) % 4096=off:=by omega
 have e5:(off+4096*n) / 4096=n:=by omega
 unfold At at hag;rw [if_neg e1,if_neg e1,e2,e3,e4,e5] at hag;unfold JO;dsimp only;cases h1:h[i]? with
 |none=>
  rw [h1] at hag;cases h2:h'[i]? with
  |none=>rfl
  |some o=>rw [h2] at hag;cases hag
 |some o=>
  rw [h1] at hag;cases h2:h'[i]? with
  |none=>rw [h2] at hag;cases hag
  |some o'=>
   rw [h2] at hag;simp only [yT,Option.some.injEq] at hag;cases o with
   |box cs=>
    cases o' with
    |box cs'=>
     simp only [O3,AI.box.injEq,List.cons.injEq,AV.yld.injEq] at hag;obtain ⟨hl,hm⟩:=hag;have hcell:∀j,j<n→cs.getD (off+j) .undef=cs'.getD (off+j) .undef:=fun j hj=>by have:=congrArg (fun l:List AV=>l[j]?) hm;simpa [getElem?_map,zR hj] using this
     unfold ldN at hn;unfold rd;dsimp only;rw [hl];cases ha:A9 P t with
     |none=>rfl
     |some b=>
      rw [ha] at hn;cases b with
      |true=>
       have hn:B3 P t=some n:=hn;rw [hn];dsimp only;rw [Ta (g:=fun c=>cs.getD c .undef) (g':=fun c=>cs'.getD c .undef) n off hcell]
      |false=>
       have hn:some 1=some n:=hn;cases hn;have:=hcell 0 (by omega);simp only [yH] at this;simp only [this]
    |row a b c d=>simp [O3] at hag
    |loop l=>simp [O3] at hag
   |row a b c d=>
    cases o' with
    |box cs'=>simp [O3] at hag
    |row a b c d=>rfl
    |loop l=>rfl
   |loop l=>
    cases o' with
    |box cs'=>simp [O3] at hag
    |row a b c d=>rfl
    |loop l=>rfl
theorem WH {C:Cfg} {rec:Rec} {pc:BN} {h h':Heap} {env:Env} {op:Op} {S:List Nat} (hag:∀i∈S,At h i=At h' i) (hf:partAt C.P S env op=true):Hc C rec pc h env op=Hc C rec pc h' env op:=by
 unfold partAt at hf;split at hf
 ·rename_i t a;split at hf
  ·rename_i i off n he hn;simp only [zC,decide_eq_true_eq] at hf;unfold Hc Ad;simp only [A8,zD,if_false,qop];rw [he];exact WG hf.1.1 hf.1.2 hn (hag _ (by simpa using hf.2)) _
  ·cases hf
 ·rename_i t x f;split at hf
  ·rename_i i off he;unfold Hc Ad;simp only [A8,zD,if_false,qop,Jk];rw [he]
  ·cases hf
 ·cases hf
theorem WA {C:Cfg} {rec:Rec} {pc:BN} {h h':Heap} {env:Env} {op:Op} {S:List Nat} (hag:∀i∈S,At h i=At h' i) (hf:G0 C.P S env op=true):Hc C rec pc h env op=Hc C rec pc h' env op:=by
 unfold G0 at hf;rw [yX,yX] at hf;rcases hf with hf|hf|hf
 ·exact UC hf
 ·exact WH hag hf
 have hf':∀x∈op.operands,HF h h' (ev env x):=fun x hx=>X6 hag (zG.1 hf x (by simpa using hx));unfold Hc Ad;by_cases hh:A8 op=true
 ·simp [hh]
 ·have hh':A8 op=false:=by simpa using hh
  simp only [hh',zD,if_false];split
  ·rename_i f args argTypes;have hcall:∀(g:FuncId) (avs:List AV),(∀v∈avs,HF h h' v)→F6 C rec pc true g avs h (fun v _=>some v)=F6 C rec pc true g avs h' (fun v _=>some v):=by
    intro g avs hav;unfold F6;by_cases ho:C.own g=true
    ·simp [ho]
    have ho':C.own g=false:=by simpa using ho
    by_cases hg:C.heapful g=true
    ·simp [ho',hg]
    ·have hg':C.heapful g=false:=by simpa using hg
     simp only [ho',hg',zD,if_false,Bool.true_or,if_true];refine Jc _ _ hav _ _ fun ls hl => ?_;rw [Jh (h':=h') _ _ hl]
   have hargs:∀v∈args.toList.map (ev env),HF h h' v:=fun v hv=>by obtain ⟨x,hx,rfl⟩:=xT.1 hv;exact hf' x (by simp [Op.operands,Call.operands];right;simpa using hx)
   have hfun:HF h h' (ev env f):=hf' f (by simp [Op.operands,Call.operands]);unfold OB
   try simp only [AB]
   split
   ·rename_i g first captured he
    rw [he] at hfun;rcases hfun with ⟨d,hd⟩|⟨i,hi,_⟩
    ·cases d with
     |zero=>cases hd
     |succ d=>
      simp only [HX,zC] at hd;rw [hcall g _ (fun v hv=>by
       simp only [xO] at hv;rcases hv with (hv|hv)|hv
       ·exact .inl ⟨d,zG.1 hd.1 v hv⟩
       ·exact hargs v hv
       ·exact .inl ⟨d,zG.1 hd.2 v hv⟩)]
    ·cases hi
   ·rw [hcall _ _ hargs]
   ·rfl
   ·rfl
  ·split
   ·rfl
   ·exact Ry hf' _
  ·exact Ry hf' _
end Ab
namespace Ab
open Go
def K4 (ops:Array Oper) (S:List Nat) (i:Nat):Prop:=∀o,ops[i]? = some o→∀e∈o.after.toList,Region.binds .any e=true→e.on∈S
def Vh (ops:Array Oper) (S:List Nat) (i:Nat):Prop:=i<ops.size∧i∉S∧K4 ops S i
inductive OW (ops:Array Oper):List Nat→List Nat→Prop
 |nil (S:List Nat):(∀i,¬Vh ops S i)→OW ops S []
 |cons (S:List Nat) (i:Nat) (l:List Nat):Vh ops S i→OW ops (i::S) l→OW ops S (i::l)
def RB (ops:Array Oper) (listed:Array Bool) (S:List Nat):Prop:=listed.size=ops.size∧∀i,i<ops.size→(listed.getD i true=true↔i∈S)
theorem PH {ops:Array Oper} {listed:Array Bool} {S:List Nat} (hl:RB ops listed S) (hS:∀i∈S,i<ops.size) (i:Nat):i∈Region.ready .any ops listed↔Vh ops S i:=by
 unfold Region.ready Vh K4;simp only [xR,xV,zC,yV];constructor
 ·rintro ⟨hi,hn,he⟩
  refine ⟨hi,fun hm => ?_,fun o ho e hem hb => ?_⟩
  ·have:=(hl.2 i hi).2 hm;rw [this] at hn;cases hn
  ·rw [ho] at he;simp only [yT,Option.getD_some] at he;have h1:=(Array.all_eq_true_iff_forall_mem.1 he) e (by simpa using hem);rw [hb] at h1;simp only [Bool.not_true,Bool.false_or] at h1;have hlt:e.on<ops.size:=by
    rcases yL e.on ops.size with h|h
    ·exact h
    ·have:listed.getD e.on false=false:=by
      have h2:¬e.on<listed.size:=by rw [hl.1];omega
      simp only [Array.getD,h2,dif_neg,not_false_eq_true]
     rw [this] at h1;cases h1
   refine (hl.2 e.on hlt).1 ?_;have h2:e.on<listed.size:=by rw [hl.1];exact hlt
   simp only [Array.getD,h2,dif_pos] at h1 ⊢;exact h1
 ·rintro ⟨hi,hn,he⟩
  refine ⟨hi,?_,?_⟩
  ·cases hg:listed.getD i true with
   |false=>rfl
   |true=>exact (hn ((hl.2 i hi).1 hg)).elim
  ·have ho:ops[i]? = some ops[i]:=Array.getElem?_eq_getElem hi;rw [ho];simp only [yT,Option.getD_some];refine Array.all_eq_true_iff_forall_mem.2 fun e hem => ?_;cases hb:Region.binds .any e with
   |false=>rfl
   |true=>
    have h1:=he _ ho e (by simpa using hem) hb;have hlt:=hS _ h1;have h2:=(hl.2 e.on hlt).2 h1;have h3:e.on<listed.size:=by rw [hl.1];exact hlt
    simp only [Array.getD,h3,dif_pos] at h2 ⊢;simpa using h2
theorem Tk {ops:Array Oper} {listed:Array Bool} {S:List Nat} (hl:RB ops listed S) {i:Nat} (hi:i<ops.size):RB ops (listed.setIfInBounds i true) (i::S):=by
 refine ⟨by simpa using hl.1,fun j hj => ?_⟩;have h1:j<listed.size:=by rw [hl.1];exact hj
 have:=hl.2 j hj;simp only [Array.getD,h1,dif_pos] at this;by_cases hij:j=i
 ·subst hij;simp [Array.getD,h1]
 ·simp only [Array.getD,Array.size_setIfInBounds,h1,dif_pos,xP,hij,false_or];rw [← this];have e:(listed.setIfInBounds i true)[j]'(by simpa using h1)=listed[j]:=Array.getElem_setIfInBounds_ne (by simpa using h1) (Ne.symm hij);show (listed.setIfInBounds i true)[j]'(by simpa using h1)=true↔listed[j]=true;rw [e]
theorem LP:∀(n:Nat) (l:List Nat),l.Nodup→(∀x∈l,x<n)→l.length≤n
 |0,l,hn,hl=>by
  cases l with
  |nil=>simp
  |cons x xs=>exact absurd (hl x (by simp)) (by omega)
 |n+1,l,hn,hl=>by
  by_cases hm:n∈l
  ·have h1:=LP n (l.erase n) (hn.erase n) fun x hx=>by have h2:=(List.Nodup.mem_erase_iff hn).1 hx;have h3:=hl x h2.2;have h4:=h2.1;omega
   rw [List.length_erase_of_mem hm] at h1;omega
  ·have:=LP n l hn fun x hx=>by have h3:=hl x hx;have h4:x≠n:=fun e=>hm (e ▸ hx);omega
   omega
theorem QG {n:Nat} {S:List Nat} (hn:S.Nodup) (hS:∀i∈S,i<n) {i:Nat} (hi:i<n) (hni:i∉S):S.length<n:=by
 have:=LP n (i::S) (xZ.2 ⟨hni,hn⟩) fun x hx=>by
  rcases xP.1 hx with rfl|hx
  ·exact hi
  ·exact hS x hx
 simp only [length_cons] at this;omega
theorem SV (ops:Array Oper):∀(fuel t:Nat) (listed:Array Bool) (S:List Nat),RB ops listed S→S.Nodup→(∀i∈S,i<ops.size)→ops.size≤fuel+S.length→OW ops S (Region.linearise.go .any ops fuel t listed [])
 |0,t,listed,S,hl,hn,hS,hf=>by refine .nil S fun i hr => ?_;have:=QG hn hS hr.1 hr.2.1;omega
 |fuel+1,t,listed,S,hl,hn,hS,hf=>by
  simp only [Region.linearise.go];change OW ops S (match (Region.ready .any ops listed)[t % (Region.ready .any ops listed).length]? with
   |some i=>Region.linearise.go .any ops fuel (t / (Region.ready .any ops listed).length) (listed.setIfInBounds i true) [i]
   |none=>[].reverse)
  cases hi:(Region.ready .any ops listed)[t % (Region.ready .any ops listed).length]? with
  |none=>
   have hnil:Region.ready .any ops listed=[]:=by
    cases hr:Region.ready .any ops listed with
    |nil=>rfl
    |cons x xs=>
     rw [hr] at hi;have hlt:t % (x::xs).length<(x::xs).length:=mod_lt _ (by simp);rw [zO hlt] at hi;cases hi
   refine .nil S fun i hr => ?_;have:=(PH hl hS i).2 hr;rw [hnil] at this;cases this
  |some i=>
   simp only [];rw [linearise_go_acc,List.reverse_singleton,singleton_append];have hr:=(PH hl hS i).1 (yA hi);refine .cons S i _ hr (SV ops fuel _ _ (i::S) (Tk hl hr.1) (xZ.2 ⟨hr.2.1,hn⟩) (fun j hj => ?_) (by simp;omega));rcases xP.1 hj with rfl|hj
   ·exact hr.1
   ·exact hS j hj
theorem FA (ops:Array Oper) (t:Nat):OW ops [] (Region.linearise .any ops t):=by refine SV ops ops.size t _ [] ⟨by simp,fun i hi => ?_⟩ wA (fun i hi=>by cases hi) (by simp);simp [Array.getD,hi]
def Ub (ops:Array Oper) (S:List Nat):Prop:=∀i∈S,K4 ops S i
theorem PW {acc:List Nat} {i:Nat}:∀(es:List Edge) (s:Nat),(es.foldl (fun s e=>if Region.binds .any e then s ||| (2 ^ e.on ||| acc.getD e.on 0) else s) s).testBit i=true→
  s.testBit i=true∨∃e∈es,Region.binds .any e=true∧(e.on=i∨(acc.getD e.on 0).testBit i=true)
 |[],s,h =>.inl h
 |e::es,s,h=>by
  simp only [foldl_cons] at h;rcases PW es _ h with h1|⟨e',h1,h2⟩
  ·by_cases hb:Region.binds .any e=true
   ·rw [if_pos hb] at h1;simp only [Nat.testBit_or,yX] at h1;rcases h1 with h1|h1|h1
    ·exact .inl h1
    ·refine .inr ⟨e,by simp,hb,.inl ?_⟩;rw [Nat.testBit_two_pow] at h1;simpa using h1
    ·exact .inr ⟨e,by simp,hb,.inr h1⟩
   ·rw [if_neg hb] at h1;exact .inl h1
  ·exact .inr ⟨e',by simp [h1],h2⟩
theorem Dr:∀(os:List Oper) (acc:List Nat) (j:Nat),(j<acc.length→(Ed os acc)[j]? = acc[j]?)∧∀o,os[j]? = some o→(Ed os acc)[acc.length+j]? = some (Gy ((Ed os acc).take (acc.length+j)) o)
 |[],acc,j=>⟨fun _=>rfl,fun o ho=>by simp at ho⟩
 |o'::os,acc,j=>by
  simp only [Ed];obtain ⟨h1,_⟩:=Dr os (acc++[Gy acc o']) j;refine ⟨fun hj => ?_,fun o ho => ?_⟩
  ·rw [h1 (by simp;omega),zK hj]
  ·cases j with
   |zero=>
    simp only [getElem?_cons_zero,Option.some.injEq] at ho;subst ho;have h0:=(Dr os (acc++[Gy acc o']) acc.length).1 (by simp);have ht:(Ed os (acc++[Gy acc o'])).take acc.length=acc:=by
     apply zJ;intro i;rcases yL i acc.length with hi|hi
     ·rw [zT hi,(Dr os (acc++[Gy acc o']) i).1 (by simp;omega),zK hi]
     ·rw [zP (by simp;omega),zP hi]
    rw [yH,ht,h0];simp
   |succ j=>
    have h2:=(Dr os (acc++[Gy acc o']) j).2 o (by simpa using ho);have e:(acc++[Gy acc o']).length+j=acc.length+(j+1):=by simp;omega
    rw [e] at h2;exact h2
theorem WM (ops:Array Oper) {j:Nat} {o:Oper} (ho:ops[j]? = some o):(AO ops)[j]? = some (Gy ((AO ops).take j) o):=by have:=(Dr ops.toList [] j).2 o (by simpa using ho);simpa [AO] using this
theorem Sn {ops:Array Oper} {S:List Nat} (hc:Ub ops S):∀(k:Nat) (j:Nat),j≤k→(j∈S∨K4 ops S j)→j<ops.size→∀i,((AO ops).getD j 0).testBit i=true→i∈S:=by
 intro k
 induction k using Nat.strongRecOn with
 |_ k ih=>
  intro j hjk hj hjs i hi;have ho:ops[j]? = some ops[j]:=Array.getElem?_eq_getElem hjs;have he:K4 ops S j:=hj.elim (hc j) id;have hm:=WM ops ho;simp only [List.getD,hm,Option.getD_some] at hi;rcases PW _ _ hi with h0|⟨e,hem,hb,h1⟩
  ·simp at h0
  ·have hin:=he _ ho e hem hb;rcases h1 with rfl|h1
   ·exact hin
   ·have hlt:e.on<j:=by
     rcases yL e.on j with h|h
     ·exact h
     ·simp [List.getD,zS,not_lt.2 h] at h1
    have h2:((AO ops).getD e.on 0).testBit i=true:=by simp only [List.getD] at h1 ⊢;rw [zT hlt] at h1;exact h1
    exact ih e.on (by omega) e.on (yI _) (.inl hin) (by omega) i h2
theorem Hu {ops:Array Oper} (hed:G4 ops=true):∀{S l:List Nat},OW ops S l→Ub ops S→
  l.Nodup∧(∀x∈l,x∉S∧x<ops.size)∧(∀i,i<ops.size→i∈S∨i∈l)∧∀l1 x l2,l=l1++x::l2→∀y,((AO ops).getD x 0).testBit y=true→y∈S∨y∈l1:=by
 intro S l hs
 induction hs with
 |nil S hno=>
  intro hc;refine ⟨wA,(fun x hx=>by cases hx),fun i hi => ?_,(fun l1 x l2 e=>by simp at e)⟩;have key:∀k i,i≤k→i<ops.size→i∈S:=by
   intro k
   induction k using Nat.strongRecOn with
   |_ k ih=>
    intro i hik his;by_cases hm:i∈S
    ·exact hm
    ·refine (hno i ⟨his,hm,fun o ho e hem hb => ?_⟩).elim;unfold G4 at hed;have h1:=(zG.1 hed) i (xV.2 his);rw [ho] at h1;have h2:=(zG.1 h1) e hem;rw [hb] at h2;have h3:e.on<i:=by simpa using h2
     exact ih e.on (by omega) e.on (yI _) (by omega)
  exact .inl (key i i (yI _) hi)
 |cons S i l hr hs ih=>
  intro hc;have hc':Ub ops (i::S):=fun j hj o ho e hem hb=>by
   rcases xP.1 hj with rfl|hj
   ·exact xQ _ (hr.2.2 o ho e hem hb)
   ·exact xQ _ (hc j hj o ho e hem hb)
  obtain ⟨h1,h2,h3,h4⟩:=ih hc';refine ⟨xZ.2 ⟨fun hm=>(h2 i hm).1 (by simp),h1⟩,fun x hx => ?_,fun j hj => ?_,fun l1 x l2 e y hy => ?_⟩
  ·rcases xP.1 hx with rfl|hx
   ·exact ⟨hr.2.1,hr.1⟩
   ·exact ⟨fun hm=>(h2 x hx).1 (xQ _ hm),(h2 x hx).2⟩
  ·rcases h3 j hj with h|h
   ·rcases xP.1 h with rfl|h
    ·exact .inr (by simp)
    ·exact .inl h
   ·exact .inr (xQ _ h)
  ·cases l1 with
   |nil=>
    simp only [xX,List.cons.injEq] at e;obtain ⟨rfl,rfl⟩:=e;exact .inl (Sn hc i i (yI _) (.inr hr.2.2) hr.1 y hy)
   |cons z l1=>
    simp only [xB,List.cons.injEq] at e;obtain ⟨rfl,rfl⟩:=e;rcases h4 l1 x l2 rfl y hy with h|h
    ·rcases xP.1 h with rfl|h
     ·exact .inr (by simp)
     ·exact .inl h
    ·exact .inr (xQ _ h)
theorem F4 {n:Nat}:∀(k:Nat) (l:List Nat),l.Nodup→(∀i,i∈l↔i<n+k)→(∀l1 x l2,l=l1++x::l2→n≤x→∀y,y<x→y∈l1)→∃lp,l=lp++List.range' n k∧lp.Nodup∧∀i,i∈lp↔i<n
 |0,l,hn,hm,hf=>⟨l,by simp,hn,by simpa using hm⟩
 |k+1,l,hn,hm,hf=>by
  have hlast:n+k∈l:=(hm _).2 (by omega);obtain ⟨l1,l2,e⟩:=xA hlast;have hall:=hf l1 (n+k) l2 e (by omega);have hnil:l2=[]:=by
   cases l2 with
   |nil=>rfl
   |cons z l2=>
    have hz:z∈l:=by rw [e];simp
    have hzl:=(hm z).1 hz;rw [e] at hn;rw [xY] at hn;obtain ⟨_,hn2,hn3⟩:=hn;by_cases hzk:z=n+k
    ·subst hzk;simp at hn2
    ·exact (hn3 z (hall z (by omega)) z (by simp) rfl).elim
  subst hnil;have hn':=hn;rw [e,xY] at hn';obtain ⟨lp,h1,h2,h3⟩:=F4 (n:=n) k l1 hn'.1 (fun i=>by
   constructor
   ·intro hi;have h4:=(hm i).1 (by rw [e];simp [hi]);have h5:i≠n+k:=fun h=>hn'.2.2 i hi (n+k) (by simp) h;omega
   ·intro hi;exact hall i (by omega)) (fun a x b e2 hx y hy=>by exact hf a x (b++[n+k]) (by rw [e,e2];simp) hx y hy)
  refine ⟨lp,?_,h2,h3⟩;rw [e,h1,List.range'_concat,zH];simp
theorem PT {σ:Type} (f:Nat→σ→Option σ) (x:Nat):∀(l:List Nat),(∀y∈l,∀s,(f x s).bind (f y)=(f y s).bind (f x))→∀s,(f x s).bind (fun s'=>l.foldlM (fun s i=>f i s) s')=(l.foldlM (fun s i=>f i s) s).bind (f x)
 |[],_,s=>by simp
 |y::l,hc,s=>by
  have ih:=PT f x l fun z hz=>hc z (by simp [hz]);simp only [xI];have h1:=hc y (by simp) s;cases hy:f y s with
  |none=>
   rw [hy] at h1;cases hx:f x s with
   |none=>rfl
   |some s1=>rw [hx] at h1;simp only [Option.bind_some,bind_none] at h1;simp [h1]
  |some s2=>
   rw [hy] at h1;simp only [Option.bind_some] at h1;have h2:=ih s2;rw [← h1] at h2;show (f x s).bind (fun s'=>(f y s').bind fun s''=>l.foldlM (fun s i=>f i s) s'')=((some s2).bind fun s''=>l.foldlM (fun s i=>f i s) s'').bind (f x);rw [← wD,h2];rfl
theorem GR {σ:Type} (f:Nat→σ→Option σ):∀(n:Nat) (l:List Nat),l.Nodup→(∀i,i∈l↔i<n)→(∀l1 x l2 y,l=l1++x::l2→y∈l2→y<x→∀s,(f x s).bind (f y)=(f y s).bind (f x))→
  ∀s,l.foldlM (fun s i=>f i s) s=(List.range n).foldlM (fun s i=>f i s) s
 |0,l,hn,hm,hc,s=>by
  cases l with
  |nil=>rfl
  |cons x xs=>exact absurd ((hm x).1 (by simp)) (by omega)
 |n+1,l,hn,hm,hc,s=>by
  have hlast:n∈l:=(hm _).2 (by omega);obtain ⟨l1,l2,e⟩:=xA hlast;have hn':=hn;rw [e,xY,xZ] at hn';obtain ⟨n1,⟨n2,n3⟩,n4⟩:=hn';have hm2:∀i,i∈l1++l2↔i<n:=fun i=>by
   constructor
   ·intro hi;have h5:=(hm i).1 (by rw [e];simp only [xO,xP];rcases xO.1 hi with h|h;exact .inl h;exact .inr (.inr h));have h6:i≠n:=fun h=>by
     subst h;rcases xO.1 hi with h|h
     ·exact n4 i h i (by simp) rfl
     ·exact n2 h
    omega
   ·intro hi;have h5:=(hm i).2 (by omega);rw [e] at h5;simp only [xO,xP] at h5 ⊢;rcases h5 with h5|h5|h5
    ·exact .inl h5
    ·omega
    ·exact .inr h5
  have ih:=GR f n (l1++l2) (xY.2 ⟨n1,n3,fun a ha b hb=>n4 a ha b (by simp [hb])⟩) hm2 (fun a x b y e2 hy hlt=>by
   rcases List.append_eq_append_iff.1 e2 with ⟨a',h1,h2⟩|⟨c',h1,h2⟩
   ·
    exact hc (l1++n::a') x b y (by rw [e,h2];simp) hy hlt
   ·cases c' with
    |nil=>
     simp only [yZ] at h1;simp only [xX] at h2;exact hc (l1++[n]) x b y (by rw [e,← h2];simp) hy hlt
    |cons z c'=>
     simp only [xB,List.cons.injEq] at h2;obtain ⟨rfl,h2⟩:=h2;exact hc a x (c'++n::l2) y (by rw [e,h1];simp) (by rw [h2] at hy;simp only [xO,xP] at hy ⊢;rcases hy with h|h;exact .inl h;exact .inr (.inr h)) hlt) s
  have hmv:=fun s=>PT f n l2 (fun y hy s=>hc l1 n l2 y e hy (by have h5:=(hm y).1 (by rw [e];simp [hy]);have h6:y≠n:=fun h=>n2 (h ▸ hy);omega) s) s
  rw [e,List.range_succ,xH,xH,← ih,xH];show (l1.foldlM (fun s i=>f i s) s).bind _=((l1.foldlM (fun s i=>f i s) s).bind _).bind _;cases l1.foldlM (fun s i=>f i s) s with
  |none=>rfl
  |some s1=>
   simp only [Option.bind_some,xI];have:=hmv s1;show (f n s1).bind (fun s'=>l2.foldlM (fun s i=>f i s) s')=(l2.foldlM (fun s i=>f i s) s1).bind (fun s'=>(f n s').bind fun s''=>List.foldlM (fun s i=>f i s) s'' []);rw [this];congr 1;funext s';cases f n s'<;>rfl
end Ab
namespace Ab
open Go
variable {R:Type} {P:Program} {h:Heap}
def Cz (T:List Nat) (h h':Heap):Prop:=h.length≤h'.length∧∀i,i<h.length→i∉T→h'[i]? = h[i]?
theorem Cz.refl (T:List Nat) (h:Heap):Cz T h h:=⟨yI _,fun _ _ _=>rfl⟩
theorem Cz.trans {T:List Nat} {a b c:Heap} (x:Cz T a b) (y:Cz T b c):Cz T a c:=
 ⟨yJ x.1 y.1,fun i hi hn=>(y.2 i (yK hi x.1) hn).trans (x.2 i hi hn)⟩
theorem Cz.push (T:List Nat) (h:Heap) (o:AI):Cz T h (h++[o]):=
 ⟨by simp,fun i hi _=>zK hi⟩
theorem Cz.set {T:List Nat} (h:Heap) {i:Nat} (hi:i∈T) (o:AI):Cz T h (h.set i o):=
 ⟨by simp,fun j _ hn=>by rw [List.getElem?_set_ne];intro e;exact hn (e ▸ hi)⟩
theorem Cz.mono {T T':List Nat} (hT:∀i∈T,i∈T') {a b:Heap} (x:Cz T a b):Cz T' a b:=
 ⟨x.1,fun i hi hn=>x.2 i hi fun hm=>hn (hT i hm)⟩
theorem FN (T:List Nat):∀(vs:List AV) (ts:List TypeId) (h:Heap) {K:List AV→Heap→Option R} {r:R},EZ P ts vs h K=some r→∃vs' h',K vs' h'=some r∧Cz T h h'
 |[],ts,h,K,r,hr=>⟨[],h,by simpa [EZ] using hr,.refl _ _⟩
 |v::vs,ts,h,K,r,hr=>by
  cases v with
  |nilsl=>
   simp only [EZ] at hr;obtain ⟨vs',h',h1,h2⟩:=FN T vs _ _ hr;exact ⟨_,h',h1,(Cz.push T h _).trans h2⟩
  |_=>
   simp only [EZ] at hr;obtain ⟨vs',h',h1,h2⟩:=FN T vs _ _ hr;exact ⟨_,h',h1,h2⟩
theorem IQ (T:List Nat) {t:TypeId} {cs:List AV} {K:AV→Heap→Option R} {r:R} (hr:EP P t cs h K=some r):∃v h',K v h'=some r∧Cz T h h':=by unfold EP at hr;obtain ⟨vs',h',h1,h2⟩:=FN T _ _ _ hr;exact ⟨_,_,h1,h2.trans (.push T _ _)⟩
theorem Dv {α:Type} {f:∀R:Type,(α→Option R)→Option R} (hd:Det f) {R:Type} {K:α→Option R} {r:R} (hr:f R K=some r):∃v,K v=some r:=by
 rcases hd with ⟨v,hv⟩|hn
 ·exact ⟨v,(hv R K).symm.trans hr⟩
 ·rw [hn] at hr;cases hr
theorem Kj {t:TypeId} {a v:AV} {K:Heap→Option R} {r:R} (hr:IN P t h a v K=some r):∃h',K h'=some r∧Cz (Bm a).toList h h':=by
 unfold IN at hr
 try simp only [AB] at hr
 split at hr
 ·obtain ⟨_,hr⟩:=AG hr;split at hr
  ·split at hr
   ·obtain ⟨_,hr⟩:=AG hr;obtain ⟨vs1,hr⟩:=Dv (Jf (h:=h) _ _) hr;obtain ⟨vs',h',h1,h2⟩:=FN _ _ _ _ hr;exact ⟨_,h1,h2.trans (.set _ (by simp [Bm]) _)⟩
   ·cases hr
  ·split at hr
   ·obtain ⟨_,hr⟩:=AG hr;obtain ⟨e,_,hr⟩:=bind_some hr;obtain ⟨xs,hK⟩:=Dv (Ce (P:=P) (h:=h) _ _ _) hr;exact ⟨_,hK,.set _ (by simp [Bm]) _⟩
   ·cases hr
  ·cases hr
 ·cases hr
theorem O0 {t:TypeId} {s x:AV} {K:AV→Heap→Option R} {r:R} (hr:ER P t h s x K=some r):∃v h',K v h'=some r∧Cz (Bm s).toList h h':=by
 unfold ER at hr
 try simp only [AB] at hr
 obtain ⟨z,_,hr⟩:=bind_some hr;obtain ⟨new,hr⟩:=Dv (FW h z x) hr;split at hr
 ·obtain ⟨_,hr⟩:=AG hr;exact ⟨_,_,hr,.push _ _ _⟩
 ·split at hr
  ·split at hr
   ·obtain ⟨_,hr⟩:=AG hr;exact ⟨_,_,hr,.refl _ _⟩
   ·obtain ⟨_,hr⟩:=AG hr;exact ⟨_,_,hr,.set _ (by simp [Bm]) _⟩
  ·cases hr
 ·cases hr
theorem Me {t:TypeId} {s x:AV} {K:AV→Heap→Option R} {r:R} (hr:Em P t h s x K=some r):∃v h',K v h'=some r∧Cz (Bm s).toList h h':=by
 unfold Em at hr
 try simp only [AB] at hr
 obtain ⟨z,_,hr⟩:=bind_some hr;obtain ⟨new,hr⟩:=Dv (FW h z x) hr;split at hr
 ·split at hr
  ·obtain ⟨_,hr⟩:=AG hr;exact ⟨_,_,hr,.set _ (by simp [Bm]) _⟩
  ·cases hr
 ·cases hr
theorem S3 {t:TypeId} {d x:AV} {K:AV→Heap→Option R} {r:R} (hr:ON P t h d x K=some r):∃v h',K v h'=some r∧Cz (Bm d).toList h h':=by
 unfold ON at hr
 try simp only [AB] at hr
 obtain ⟨z,_,hr⟩:=bind_some hr;obtain ⟨new,hr⟩:=Dv (Pq h z x) hr;split at hr
 ·split at hr
  ·obtain ⟨_,hr⟩:=AG hr;exact ⟨_,_,hr,.set _ (by simp [Bm]) _⟩
  ·cases hr
 ·cases hr
theorem Q7 {t:TypeId} {x:AV} {K:Heap→Option R} {r:R} (hr:Jl P t h x K=some r):∃h',K h'=some r∧Cz (Bm x).toList h h':=by
 unfold Jl at hr
 try simp only [AB] at hr
 split at hr
 ·split at hr
  ·obtain ⟨_,hr⟩:=AG hr;exact ⟨_,hr,.refl _ _⟩
  ·exact ⟨_,hr,.refl _ _⟩
  ·obtain ⟨zs,hr⟩:=Dv (Ix (P:=P) h _) hr;split at hr
   ·obtain ⟨_,hr⟩:=AG hr;exact ⟨_,hr,.set _ (by simp [Bm]) _⟩
   ·cases hr
  ·cases hr
 ·cases hr
theorem Sx (T:List Nat) {t:TypeId} {n c:AV} {K:AV→Heap→Option R} {r:R} (hr:OJ P t h n c K=some r):∃v h',K v h'=some r∧Cz T h h':=by
 unfold OJ at hr
 try simp only [AB] at hr
 obtain ⟨z,_,hr⟩:=bind_some hr;split at hr
 ·obtain ⟨a,_,hr⟩:=bind_some hr;obtain ⟨b,_,hr⟩:=bind_some hr;obtain ⟨zs,hr⟩:=Dv (Ix (P:=P) h _) hr;obtain ⟨_,hr⟩:=AG hr;exact ⟨_,_,hr,.push _ _ _⟩
 ·cases hr
theorem JL (h:Heap) (v:AV):Cz (Bm v).toList h (EM h v):=by
 unfold EM;split
 ·split
  ·exact .set _ (by simp [Bm]) _
  ·exact .refl _ _
 ·exact .refl _ _
theorem FE:∀(vs:List AV) (h:Heap),Cz (vs.filterMap Bm) h (AX h vs)
 |[],h =>.refl _ _
 |v::vs,h=>by
  have h1:=FE vs (EM h v);have h2:=JL h v;refine (h2.mono fun i hi => ?_).trans (h1.mono fun i hi => ?_)
  ·rw [xC];cases ho:Bm v with
   |none=>rw [ho] at hi;simp at hi
   |some j=>rw [ho] at hi;simp at hi;simp [hi]
  ·rw [xC];split
   ·exact hi
   ·exact xQ _ hi
theorem JV {h:Heap}:∀{ls:List AV} {i v:Nat},GA h ls=some (i,v)→i∈ls.filterMap Bm
 |[],i,v,hr=>by simp [GA] at hr
 |x::ls,i,v,hr=>by
  cases x with
  |sref j a b c=>
   simp only [GA] at hr;split at hr
   ·cases hr;simp [Bm]
   ·cases hr
  |_=>first
   |(have:=JV (ls:=ls) hr;simp only [xC,Bm];exact this)
   |(have:=JV (ls:=ls) hr;simp only [xC,Bm,xP];exact .inr this)
theorem Lb:∀(ts:List TypeId) (avs:List AV) {K:List AV→Option R} {r:R},Dt P ts avs K=some r→∃ls,K ls=some r∧∀i∈ls.filterMap Bm,i∈(avs.map fun v=>match v.cells with|some cs=>cs.filterMap Bm|none=>[]).flatten
 |[],[],K,r,hr=>⟨[],by simpa [Dt] using hr,fun i hi=>by simp at hi⟩
 |t::ts,v::vs,K,r,hr=>by
  unfold Dt at hr
  try simp only [AB] at hr
  split at hr
  ·split at hr
   ·rename_i cs;obtain ⟨_,hr⟩:=AG hr;obtain ⟨ls,h1,h2⟩:=Lb ts vs hr;refine ⟨_,h1,fun i hi => ?_⟩;rw [List.filterMap_append,xO] at hi;rw [xN,List.flatten_cons,xO];rcases hi with hi|hi
    ·exact .inl (by simpa [AV.cells] using hi)
    ·exact .inr (h2 i hi)
   ·cases hr
  ·obtain ⟨hlf,hr⟩:=AG hr;obtain ⟨ls,h1,h2⟩:=Lb ts vs hr;refine ⟨_,h1,fun i hi => ?_⟩;rw [xC] at hi;rw [xN,List.flatten_cons,xO];cases ho:Bm v with
   |none=>rw [ho] at hi;exact .inr (h2 i hi)
   |some j=>
    rw [ho] at hi;simp only [xP] at hi;rcases hi with hi|hi
    ·refine .inl ?_;cases v<;>simp [Bm] at ho<;>simp [AV.cells,Bm,hi,ho]
    ·exact .inr (h2 i hi)
  ·cases hr
 |[],v::vs,K,r,hr=>by simp [Dt] at hr
 |t::ts,[],K,r,hr=>by simp [Dt] at hr
theorem Tg {C:Cfg} {rec:Rec} {pc:BN} {env:Env} {op:Op} {K:AV→Heap→Option R} {r:R} (hl:Ae C op=true) (hr:Ad C rec pc false env h op K=some r):∃v h',K v h'=some r∧Cz (Fe env op) h h':=by
 by_cases hh:A8 op=true
 case neg=>
  have hw:(∃g args argTypes,op = .call {callee :=.value (.func g),args,argTypes})∨∃t len parts,op = .buildSlice t len parts:=by unfold Ae at hl;split at hl<;>first|(exact absurd rfl hh)|(exact .inl ⟨_,_,_,rfl⟩)|(exact .inr ⟨_,_,_,rfl⟩)|cases hl
  rcases hw with ⟨g,args,argTypes,rfl⟩|⟨t,len,parts,rfl⟩
  case inr=>
   have hf:C.fnTy t=true:=hl;simp only [Ad,A8,zD,if_false,hf,if_true] at hr;unfold El at hr
   try simp only [AB] at hr
   split at hr
   ·obtain ⟨s,_,hr⟩:=bind_some hr;obtain ⟨z,_,hr⟩:=bind_some hr;obtain ⟨_,hr⟩:=AG hr;obtain ⟨cs,_,hr⟩:=bind_some hr;exact ⟨_,_,hr,.push _ _ _⟩
   ·cases hr
  have hown:C.own g=true:=hl;have hh':A8 (.call {callee :=.value (.func g),args,argTypes})=false:=by simpa using hh
  unfold Ad at hr;simp only [hh',zD,if_false,ev,OB,AB] at hr;obtain ⟨_,hr⟩:=AG hr;unfold F6 at hr;simp only [hown,if_true,zD,if_false,AB] at hr;obtain ⟨ls,hr,hls⟩:=Lb _ _ hr;obtain ⟨xs,hr⟩:=Dv (Ce (P:=C.P) (h:=AX h ls) _ _ _) hr;have hsub0:∀i∈ls.filterMap Bm,i∈Fe env (.call {callee :=.value (.func g),args,argTypes}):=fun i hi=>by have:=hls i hi;rw [xX,yZ,map_map] at this;exact this
  split at hr
  ·obtain ⟨_,hr⟩:=AG hr;obtain ⟨ys,_,hr⟩:=bind_some hr;have hr:=J9 hr;split at hr
   ·split at hr
    ·exact ⟨_,_,hr,((FE ls h).mono hsub0).trans (.push _ _ _)⟩
    ·cases hr
   ·cases hr
  obtain ⟨ys,_,hr⟩:=bind_some hr;split at hr
  ·obtain ⟨z,_,hr⟩:=bind_some hr;obtain ⟨_,hr⟩:=AG hr;obtain ⟨_,hr⟩:=AG hr;have hsub:∀i∈ls.filterMap Bm,i∈Fe env (.call {callee :=.value (.func g),args,argTypes}):=fun i hi=>by have:=hls i hi;rw [xX,yZ,map_map] at this;exact this
   unfold QY at hr;split at hr
   ·rename_i i0 v0 hre;split at hr
    ·refine ⟨_,_,hr,.set _ (hsub i0 ?_) _⟩;have hre:GA h ls=some (i0,v0):=by
      split at hre
      ·exact hre
      ·cases hre
     exact JV hre
    ·cases hr
   ·exact ⟨_,_,hr,((FE ls h).mono hsub).trans (.push _ _ _)⟩
  ·cases hr
 unfold Ad at hr;simp only [hh,if_true,zD,if_false] at hr;cases op with
 |alloc t=>
  have hrn:C.ren t=none:=by simpa [Ae] using hl
  simp only [C3,hrn] at hr;by_cases hc:C.curT t=true
  ·simp only [hc,if_true] at hr;unfold Gd at hr
   try simp only [AB] at hr
   split at hr
   ·obtain ⟨_,hr⟩:=AG hr;obtain ⟨xs,hr⟩:=Dv (Ce (P:=C.P) (h:=h) _ _ _) hr;exact ⟨_,_,hr,.push _ _ _⟩
   ·cases hr
  ·simp only [hc,zD,if_false,hop] at hr;split at hr
   ·exact IQ _ hr
   ·cases hr
 |box t x=>
  simp only [C3] at hr;by_cases hc:C.cur (FT x)=true
  ·simp only [hc,if_true] at hr;unfold Ll at hr
   try simp only [AB] at hr
   split at hr
   ·obtain ⟨_,hr⟩:=AG hr;obtain ⟨xs,hr⟩:=Dv (Ce (P:=C.P) (h:=h) _ _ _) hr;exact ⟨_,_,hr,.refl _ _⟩
   ·cases hr
  ·simp only [hc,zD,if_false,hop] at hr;split at hr
   ·exact IQ _ hr
   ·cases hr
 |store t a x=>
  simp only [C3] at hr;by_cases hc:C.curT t=true
  ·simp only [hc,if_true] at hr;obtain ⟨h',hr,hk⟩:=Kj hr;refine ⟨_,_,hr,?_⟩;refine hk.trans ?_;cases hv:ev env a<;>first|(simp only [Mg];exact .refl _ _)|skip
   ·simp only [Mg];exact (JL h' _).mono fun i hi=>by simpa [Bm] using hi
  ·simp only [hc,zD,if_false,hop] at hr;obtain ⟨h',hr,hk⟩:=Kj hr;exact ⟨_,_,hr,hk⟩
 |call c=>
  obtain ⟨callee,args,argTypes⟩:=c;cases callee with
  |builtin b=>
   cases b<;>first|(simp [Ae] at hl;done)|skip
   ·simp only [C3,hop,AB] at hr;split at hr
    ·rename_i s x t t' hx _;obtain ⟨_,hr⟩:=AG hr;by_cases hsr:QS (ev env s) (ev env x)=true
     ·simp only [hsr,if_true] at hr;obtain ⟨v,h',hr,hk⟩:=Me hr;exact ⟨v,h',hr,hk.mono fun i hi=>by simp only [Fe,hx];exact hi⟩
     ·simp only [hsr,zD,if_false] at hr;obtain ⟨v,h',hr,hk⟩:=O0 hr;exact ⟨v,h',hr,hk.mono fun i hi=>by simp only [Fe,hx];exact hi⟩
    ·cases hr
   ·simp only [C3,hop] at hr;split at hr
    ·rename_i x t hx _;obtain ⟨h',hr,hk⟩:=Q7 hr;exact ⟨_,h',hr,hk.mono fun i hi=>by simp only [Fe,hx];exact hi⟩
    ·cases hr
   ·simp only [C3,hop] at hr;split at hr
    ·rename_i d x t _ hx _;obtain ⟨v,h',hr,hk⟩:=S3 hr;exact ⟨v,h',hr,hk.mono fun i hi=>by simp only [Fe,hx];exact hi⟩
    ·cases hr
  |_=>simp [A8] at hh
 |makeSlice t n c=>simp only [C3,hop] at hr;exact Sx _ hr
 |_=>first|(simp [Ae] at hl;done)|(simp [A8] at hh;done)
end Ab
namespace Ab
open Go
variable {R:Type} {P:Program} {B:Nat→Prop} {κ:BB} {h:Heap} {w:World} {N:Nat} {env:Env} {a:Act}
theorem KB (hr:Rel B N κ env h a w):Rel B N κ env h a {w with drawn:=w.drawn+1}:=
 ⟨It hr.heap (IK hr.heap) fun _ _=>rfl,hr.size,fun i=>(hr.slot i).ext (IK hr.heap)⟩
theorem Aq {ops:Array Oper} {i:Nat} (hi:i<ops.size):ops[i]? = some (ops.getD i default):=by simp only [Array.getD,hi,dif_pos];exact Array.getElem?_eq_getElem hi
theorem Th {R:Type} (C:Cfg) (rec:Rec) (pc:BN) {env env':Env} {op:Op} (hl:Ae C op=true) (hE:∀x∈op.operands,ev env x=ev env' x) (K:AV→Heap→Option R) :
  Ad C rec pc false env h op K=Ad C rec pc false env' h op K:=by
 by_cases hh:A8 op=true
 case neg=>
  have hw:(∃g args argTypes,op = .call {callee :=.value (.func g),args,argTypes})∨∃t len parts,op = .buildSlice t len parts:=by unfold Ae at hl;split at hl<;>first|(exact absurd rfl hh)|(exact .inl ⟨_,_,_,rfl⟩)|(exact .inr ⟨_,_,_,rfl⟩)|cases hl
  rcases hw with ⟨g,args,argTypes,rfl⟩|⟨t,len,parts,rfl⟩
  case inr=>
   have hf:C.fnTy t=true:=hl;have hparts:parts.toList.map (fun p=>(p.1,ev env p.2))=parts.toList.map (fun p=>(p.1,ev env' p.2)):=
    xM fun p hm=>by rw [hE p.2 (by simp [Op.operands];exact ⟨p.1,by simpa using hm⟩)]
   simp only [Ad,A8,zD,if_false,hf,if_true,hparts]
  have hh':A8 (.call {callee :=.value (.func g),args,argTypes})=false:=by simpa using hh
  have hm:args.toList.map (ev env)=args.toList.map (ev env'):=xM fun y hy=>hE y (by simp [Op.operands,Call.operands];right;simpa using hy);unfold Ad;simp only [hh',zD,if_false,hm];rfl
 unfold Ad;simp only [hh,if_true,zD,if_false];cases op with
 |alloc t=>
  have hrn:C.ren t=none:=by simpa [Ae] using hl
  simp only [C3,hrn];by_cases hc:C.curT t=true<;>simp [hc,hop]
 |box t x=>
  have h1:=hE x (by simp [Op.operands]);simp only [C3];by_cases hc:C.cur (FT x)=true<;>simp [hc,hop,h1]
 |store t a x=>
  have h1:=hE a (by simp [Op.operands]);have h2:=hE x (by simp [Op.operands]);simp only [C3];by_cases hc:C.curT t=true<;>simp [hc,hop,h1,h2]
 |call c=>
  obtain ⟨callee,args,argTypes⟩:=c;cases callee with
  |builtin b=>
   cases b<;>first|(simp [Ae] at hl;done)|skip
   ·simp only [C3,hop];split
    ·rename_i s x t t' hx _;have hm:∀y∈args.toList,ev env y=ev env' y:=fun y hy=>hE y (by simp [Op.operands,Call.operands];simpa using hy);rw [hm s (by rw [hx];simp),hm x (by rw [hx];simp)]
    ·rfl
   ·simp only [C3,hop];split
    ·rename_i x t hx _;have hm:∀y∈args.toList,ev env y=ev env' y:=fun y hy=>hE y (by simp [Op.operands,Call.operands];simpa using hy);rw [hm x (by rw [hx];simp)]
    ·rfl
   ·simp only [C3,hop];split
    ·rename_i d x t _ hx _;have hm:∀y∈args.toList,ev env y=ev env' y:=fun y hy=>hE y (by simp [Op.operands,Call.operands];simpa using hy);rw [hm d (by rw [hx];simp),hm x (by rw [hx];simp)]
    ·rfl
  |_=>simp [A8] at hh
 |makeSlice t n c=>
  have h1:=hE n (by simp [Op.operands]);have h2:=hE c (by simp [Op.operands]);simp [C3,hop,h1,h2]
 |_=>first|(simp [Ae] at hl;done)|(simp [A8] at hh;done)
noncomputable def Qt (C:Cfg) (rec:Rec) (pc:BN) (env:Env) (h:Heap) (op:Op):Option (AV×Heap):=Ad C rec pc (!Ae C op) env h op fun v h'=>some (v,h')
theorem dval_eq {R:Type} (C:Cfg) (rec:Rec) (pc:BN) (env:Env) (op:Op) (K:AV→Heap→Option R):Ad C rec pc (!Ae C op) env h op K=(Qt C rec pc env h op).bind fun p=>K p.1 p.2:=by
 unfold Qt;cases hl:Ae C op with
 |false=>
  simp only [Bool.not_false,step_eq];cases Hc C rec pc h env op<;>rfl
 |true=>
  simp only [Bool.not_true];rcases Yo (h:=h) C rec pc env op hl with ⟨p,hp⟩|hn
  ·rw [show Ad C rec pc false env h op K=K p.1 p.2 from hp R fun q=>K q.1 q.2,show (Ad C rec pc false env h op fun v h'=>some (v,h'))=some p from hp (AV×Heap) some];rfl
  ·rw [show Ad C rec pc false env h op K=none from hn R fun q=>K q.1 q.2,show (Ad C rec pc false env h op fun v h'=>some (v,h'))=none from hn (AV×Heap) some];rfl
def Gg (C:Cfg) (N:Nat) (S:List Nat) (nf:Bool) (o:Oper) (env:Env) (h:Heap):Prop:=Ke N o=true∧(nf=true→G0 C.P S env o.op=true)∧Bd S h=true∧(Ae C o.op=true→Q5 S (Fe env o.op)=true)
instance (C:Cfg) (N:Nat) (S:List Nat) (nf:Bool) (o:Oper) (env:Env) (h:Heap):Decidable (Gg C N S nf o env h):=by unfold Gg;infer_instance
noncomputable def FR (C:Cfg) (rec:Rec) (pc:BN) (N:Nat) (ops:Array Oper) (S:List Nat) (nf:Bool) (o:Oper) (env:Env) (h:Heap):Option (AV×Heap):=
 if Gg C N S nf o env h then (Ov ops o env).bind fun b=>if b then Qt C rec pc env h o.op else some (.tuple [],h) else none
noncomputable def Ao (C:Cfg) (rec:Rec) (pc:BN) (N:Nat) (ops:Array Oper) (S:List Nat) (nf:Nat→Bool) (i:Nat) (s:Env×Heap):Option (Env×Heap):=
 match ops[i]? with
 |some o=>(FR C rec pc N ops S (nf i) o s.1 s.2).map fun p=>(s.1.put o.dst p.1,p.2)
 |none=>none
theorem BE {R:Type} (C:Cfg) (rec:Rec) (pc:BN) (N:Nat) (ops:Array Oper) (S:List Nat) (nf:Nat→Bool):∀(l:List Nat) (env:Env) (h:Heap) (K:Env→Heap→Option R),
  Bw C rec pc N ops S nf l env h K=(l.foldlM (fun s i=>Ao C rec pc N ops S nf i s) (env,h)).bind fun s=>K s.1 s.2
 |[],env,h,K=>rfl
 |i::l,env,h,K=>by
  simp only [Bw,xI,Ao];cases ho:ops[i]? with
  |none=>rfl
  |some o=>
   simp only [FR,AB];by_cases hd:Gg C N S (nf i) o env h
   ·rw [if_pos (show _∧_ from hd),if_pos hd,SU];cases Ov ops o env with
    |none=>rfl
    |some b=>
     cases b with
     |true=>
      simp only [Option.bind_some,if_true,dval_eq];cases Qt C rec pc env h o.op with
      |none=>rfl
      |some p=>simp only [Option.bind_some,yT,BE C rec pc N ops S nf l];rfl
     |false=>simp only [Option.bind_some,zD,if_false,BE C rec pc N ops S nf l];rfl
   ·rw [if_neg (show ¬(_∧_) from hd),if_neg hd];rfl
theorem Tb {P:Program} {S:List Nat} {env env':Env} {op:Op} (hE:∀x∈op.operands,ev env x=ev env' x):partAt P S env op=partAt P S env' op:=by
 cases op with
 |load t a=>simp only [partAt,hE a (by simp [Op.operands])]
 |fieldAddr t a f=>simp only [partAt,hE a (by simp [Op.operands])]
 |_=>rfl
theorem Ts {P:Program} {S:List Nat} {env env':Env} {op:Op} (hE:∀x∈op.operands,ev env x=ev env' x):G0 P S env op=G0 P S env' op:=by
 unfold G0;rw [Tb hE];cases G8 op with
 |true=>rfl
 |false=>
  simp only [Bool.false_or];congr 1;rw [Bool.eq_iff_iff,zG,zG];constructor
  ·intro hh x hx;rw [← hE x (by simpa using hx)];exact hh x hx
  ·intro hh x hx;rw [hE x (by simpa using hx)];exact hh x hx
theorem Re {env env':Env} {op:Op} (hE:∀x∈op.operands,ev env x=ev env' x):Fe env op=Fe env' op:=by
 cases op with
 |store t a x=>
  have h1:=hE a (by simp [Op.operands]);simp only [Fe,h1]
 |call c=>
  obtain ⟨callee,args,argTypes⟩:=c;cases callee with
  |builtin b=>
   simp only [Fe];split
   ·rename_i s rest hx;have hm:∀y∈args.toList,ev env y=ev env' y:=fun y hy=>hE y (by simp [Op.operands,Call.operands];simpa using hy);rw [hm s (by rw [hx];simp)]
   ·rfl
  |value f=>
   have hm:∀y∈args.toList,ev env y=ev env' y:=fun y hy=>hE y (by simp [Op.operands,Call.operands];right;simpa using hy);simp only [Fe];congr 1;exact xM fun y hy=>by rw [hm y hy]
  |_=>rfl
 |_=>rfl
theorem MU (C:Cfg) (N:Nat) (S:List Nat) (nf:Bool) (o:Oper) {env env':Env} (hE:∀x∈o.op.operands,ev env x=ev env' x):Gg C N S nf o env h↔Gg C N S nf o env' h:=by unfold Gg;rw [Ts hE,Re hE]
theorem Fo (C:Cfg) (rec:Rec) (pc:BN) (N:Nat) (ops:Array Oper) (S:List Nat) (nf:Bool) (o:Oper) {env env':Env} (hE:∀t∈o.looksAt ops,env t=env' t):FR C rec pc N ops S nf o env h=FR C rec pc N ops S nf o env' h:=by
 have h1:=Nf ops o hE;unfold FR;rw [Nt ops o hE];have:Qt C rec pc env h o.op=Qt C rec pc env' h o.op:=by
  unfold Qt;cases hl:Ae C o.op with
  |true=>exact Th C rec pc hl h1 _
  |false=>
   simp only [Bool.not_false,step_eq];rw [TY C rec pc o.op h1]
 rw [this];by_cases hd:Gg C N S nf o env h
 ·rw [if_pos hd,if_pos ((MU C N S nf o h1).1 hd)]
 ·rw [if_neg hd,if_neg fun hd'=>hd ((MU C N S nf o h1).2 hd')]
noncomputable def GU (C:Cfg) (rec:Rec) (pc:BN) (N:Nat) (ops:Array Oper) (S:List Nat) (nf:Bool) (o:Oper) (env:Env) (h:Heap):Option AV:=
 if Gg C N S nf o env h then (Ov ops o env).bind fun b=>if b then Hc C rec pc h env o.op else some (.tuple []) else none
theorem Eg (C:Cfg) (rec:Rec) (pc:BN) (N:Nat) (ops:Array Oper) (S:List Nat) (nf:Bool) (o:Oper) (env:Env) (hl:Ae C o.op=false):FR C rec pc N ops S nf o env h=(GU C rec pc N ops S nf o env h).map fun v=>(v,h):=by
 unfold FR GU Qt;rw [hl];simp only [Bool.not_false,step_eq];split
 ·cases Ov ops o env with
  |none=>rfl
  |some b=>
   cases b
   ·rfl
   ·simp only [Option.bind_some,if_true];cases Hc C rec pc h env o.op<;>rfl
 ·rfl
theorem NO (C:Cfg) (rec:Rec) (pc:BN) (N:Nat) (ops:Array Oper) (S:List Nat) (o:Oper) (env:Env) {h h':Heap} (hin:Bd S h=true) (hin':Bd S h'=true) (hag:∀i∈S,At h i=At h' i):GU C rec pc N ops S true o env h=GU C rec pc N ops S true o env h':=by
 unfold GU;have hiff:Gg C N S true o env h↔Gg C N S true o env h':=by unfold Gg;rw [hin,hin']
 by_cases hd:Gg C N S true o env h
 ·rw [if_pos hd,if_pos (hiff.1 hd),WA hag (hd.2.1 rfl)]
 ·rw [if_neg hd,if_neg fun hd'=>hd (hiff.2 hd')]
theorem at_of {h h':Heap} {c:Nat} (he:h'[ob c]? = h[ob c]?):At h' c=At h c:=by
 unfold At;unfold ob at he;by_cases hc:c<1024
 ·rw [if_pos hc] at he;rw [if_pos hc,if_pos hc,he]
 ·rw [if_neg hc] at he;rw [if_neg hc,if_neg hc,he]
theorem Y0 {h:Heap} {c:Nat} {o:AI} (he:At h c=some o):ob c<h.length:=by
 unfold At at he;unfold ob;by_cases hc:c<1024
 ·rw [if_pos hc] at he;rw [if_pos hc];exact (List.getElem?_eq_some_iff.1 he).1
 ·rw [if_neg hc] at he;rw [if_neg hc];cases h1:h[c % 1024]? with
  |none=>rw [h1] at he;cases he
  |some o'=>exact (List.getElem?_eq_some_iff.1 h1).1
theorem at_some {h:Heap} {c:Nat} (hi:ob c<h.length):∃o,At h c=some o:=by
 unfold ob at hi;unfold At;by_cases hc:c<1024
 ·rw [if_pos hc] at hi;rw [if_pos hc];exact ⟨_,zO hi⟩
 ·rw [if_neg hc] at hi;rw [if_neg hc,zO hi];exact ⟨_,rfl⟩
theorem P3 {h h':Heap} {c:Nat} (he:At h' c=At h c) (hi:ob c<h'.length):ob c<h.length:=by obtain ⟨o,ho⟩:=at_some hi;exact Y0 (he.symm.trans ho)
theorem Ql {S T:List Nat} {h h':Heap} (hin:Bd S h=true) (hk:Cz T h h'):Bd S h'=true:=by unfold Bd at *;rw [zG] at *;intro i hi;have:=hin i hi;simp only [decide_eq_true_eq] at *;have:=hk.1;omega
theorem S1 {S T:List Nat} {h h':Heap} (hin:Bd S h=true) (hap:Q5 S T=true) (hk:Cz T h h'):∀i∈S,At h' i=At h i:=by intro i hi;unfold Bd at hin;rw [zG] at hin;refine at_of (hk.2 (ob i) (by simpa using hin i hi) fun hT => ?_);unfold Q5 at hap;rw [zG] at hap;have:=hap i hi;simp at this;exact this hT
theorem WZ {C:Cfg} {rec:Rec} {pc:BN} {N:Nat} {ops:Array Oper} {S:List Nat} {nf:Bool} {o:Oper} {env:Env} {h:Heap} {p:AV×Heap} (hl:Ae C o.op=true) (hd:FR C rec pc N ops S nf o env h=some p):Bd S h=true∧Bd S p.2=true∧∀i∈S,At p.2 i=At h i:=by
 unfold FR at hd;obtain ⟨ha,hd⟩:=AG hd;have hin:=ha.2.2.1;obtain ⟨b,_,hd⟩:=bind_some hd;cases b with
 |false=>
  simp only [zD,if_false,Option.some.injEq] at hd;subst hd;exact ⟨hin,hin,fun _ _=>rfl⟩
 |true=>
  simp only [if_true] at hd;unfold Qt at hd;rw [hl] at hd;simp only [Bool.not_true] at hd;obtain ⟨v,h',hv,hk⟩:=Tg hl hd;cases hv;exact ⟨hin,Ql hin hk,S1 hin (ha.2.2.2 hl) hk⟩
theorem D8 (C:Cfg) (rec:Rec) (pc:BN) (N:Nat) (ops:Array Oper) (S:List Nat) (nf:Nat→Bool) {i j:Nat} {a b:Oper} (hi:ops[i]? = some a) (hj:ops[j]? = some b) (h1:∀d,a.dst=some d→d∉b.looksAt ops) (h2:∀d,a.dst=some d→b.dst≠some d) (h3:∀d,b.dst=some d→d∉a.looksAt ops)
  (ha:Ae C a.op=true) (hb:Ae C b.op=false) (hnf:nf j=true) (s:Env×Heap):(Ao C rec pc N ops S nf i s).bind (Ao C rec pc N ops S nf j)=(Ao C rec pc N ops S nf j s).bind (Ao C rec pc N ops S nf i):=by
 obtain ⟨env,h⟩:=s;have hA:∀v,FR C rec pc N ops S (nf i) a (env.put b.dst v) h=FR C rec pc N ops S (nf i) a env h:=fun v=>Fo C rec pc N ops S _ a fun t ht=>Cv fun d hd e=>h3 d hd (e ▸ ht);have hB:∀v h',Bd S h=true→Bd S h'=true→(∀i∈S,At h' i=At h i)→FR C rec pc N ops S (nf j) b (env.put a.dst v) h'=(GU C rec pc N ops S true b env h).map fun u=>(u,h'):=fun v h' hi1 hi2 hag=>by rw [Fo (env':=env) C rec pc N ops S _ b fun t ht=>Cv fun d hd e=>h1 d hd (e ▸ ht),hnf,Eg C rec pc N ops S true b env hb,NO C rec pc N ops S b env hi2 hi1 hag]
 have hB0:FR C rec pc N ops S (nf j) b env h=(GU C rec pc N ops S true b env h).map fun u=>(u,h):=by rw [hnf,Eg C rec pc N ops S true b env hb]
 have fi:Ao C rec pc N ops S nf i=fun s=>(FR C rec pc N ops S (nf i) a s.1 s.2).map fun p=>(s.1.put a.dst p.1,p.2):=by funext s;simp only [Ao,hi]
 have fj:Ao C rec pc N ops S nf j=fun s=>(FR C rec pc N ops S (nf j) b s.1 s.2).map fun p=>(s.1.put b.dst p.1,p.2):=by funext s;simp only [Ao,hj]
 simp only [fi,fj];cases hd:FR C rec pc N ops S (nf i) a env h with
 |none=>
  rw [hB0];cases GU C rec pc N ops S true b env h with
  |none=>rfl
  |some u=>simp [hA,hd]
 |some p=>
  obtain ⟨hi1,hi2,hag⟩:=WZ ha hd;simp only [yT,Option.bind_some,hB _ _ hi1 hi2 hag,hB0];cases GU C rec pc N ops S true b env h with
  |none=>rfl
  |some u=>
   simp only [yT,Option.bind_some,hA,hd];rw [put_comm h2]
theorem Gt (C:Cfg) (rec:Rec) (pc:BN) (N:Nat) (ops:Array Oper) (S:List Nat) (nf:Nat→Bool) {i j:Nat} {a b:Oper} (hi:ops[i]? = some a) (hj:ops[j]? = some b) (h1:∀d,a.dst=some d→d∉b.looksAt ops) (h2:∀d,a.dst=some d→b.dst≠some d) (h3:∀d,b.dst=some d→d∉a.looksAt ops)
  (ha:Ae C a.op=false) (hb:Ae C b.op=false) (s:Env×Heap):(Ao C rec pc N ops S nf i s).bind (Ao C rec pc N ops S nf j)=(Ao C rec pc N ops S nf j s).bind (Ao C rec pc N ops S nf i):=by
 obtain ⟨env,h⟩:=s;have hA:∀v,FR C rec pc N ops S (nf i) a (env.put b.dst v) h=FR C rec pc N ops S (nf i) a env h:=fun v=>Fo C rec pc N ops S _ a fun t ht=>Cv fun d hd e=>h3 d hd (e ▸ ht);have hB:∀v,FR C rec pc N ops S (nf j) b (env.put a.dst v) h=FR C rec pc N ops S (nf j) b env h:=fun v=>Fo C rec pc N ops S _ b fun t ht=>Cv fun d hd e=>h1 d hd (e ▸ ht);have qa:=Eg (h:=h) C rec pc N ops S (nf i) a env ha;have qb:=Eg (h:=h) C rec pc N ops S (nf j) b env hb;have fi:Ao C rec pc N ops S nf i=fun s=>(FR C rec pc N ops S (nf i) a s.1 s.2).map fun p=>(s.1.put a.dst p.1,p.2):=by funext s;simp only [Ao,hi]
 have fj:Ao C rec pc N ops S nf j=fun s=>(FR C rec pc N ops S (nf j) b s.1 s.2).map fun p=>(s.1.put b.dst p.1,p.2):=by funext s;simp only [Ao,hj]
 simp only [fi,fj];cases hqa:GU C rec pc N ops S (nf i) a env h with
 |none=>
  rw [hqa] at qa;rw [qa];cases hqb:GU C rec pc N ops S (nf j) b env h with
  |none=>rw [hqb] at qb;rw [qb];rfl
  |some u=>rw [hqb] at qb;rw [qb];simp [hA,qa]
 |some v=>
  rw [hqa] at qa;rw [qa];cases hqb:GU C rec pc N ops S (nf j) b env h with
  |none=>rw [hqb] at qb;simp [hB,qb]
  |some u=>
   rw [hqb] at qb;simp only [yT,Option.bind_some,hA,hB,qa,qb];rw [put_comm h2]
theorem Cy {C:Cfg} {rec:Rec} {pc:BN} (hrec:EB C.P rec) (hpc:CW C.P pc) (ops:Array Oper) (S:List Nat) (nf:Nat→Bool) (Q:Exit→Act→World→Prop) (n:Nat) (ro:Option Nat) (rest:List Nat) :
  ∀(l:List Nat) {K:Env→Heap→Option R} {r:R} {env:Env} {h:Heap} {κ:BB} {a:Act} {w:World},
   Bw C rec pc N ops S nf l env h K=some r→Rel B N κ env h a w→Kt B N κ h w false (l.map fun i=>ops.getD i default) env a K r (wpOpsIn (Fr ro) n C.P ops Q rest)→wpOpsIn (Fr ro) n C.P ops Q (l++rest) a w
 |[],K,r,env,h,κ,a,w,hk,hr,hn=>hn env h κ a w hk hr (Ext.refl _ _ _) (fun _ _=>rfl) rfl fun e=>by cases e
 |i::l,K,r,env,h,κ,a,w,hk,hr,hn=>by
  simp only [Bw,AB] at hk;split at hk
  ·rename_i o ho;obtain ⟨⟨hd,_⟩,hk⟩:=AG hk;have hgo:ops.getD i default=o:=by have hlt:i<ops.size:=(Array.getElem?_eq_some_iff.1 ho).1;have:=Aq hlt;rw [ho] at this;exact (Option.some.inj this).symm
   simp only [xB,wpOpsIn,ho];simp only [xN,hgo] at hn;have hput:∀(v:AV) (t:Tmp),t∉(o::l.map fun i=>ops.getD i default).filterMap (·.dst)→(env.put o.dst v) t=env t:=fun v t hni=>by
    cases hdst:o.dst with
    |none=>rfl
    |some d=>
     simp only [Env.put];rw [if_neg fun e=>hni (by simp [hdst,e])]
   have hpd:∀val,(a.put o.dst val).defers=a.defers:=fun val=>by cases o.dst<;>rfl
   have hsub:∀t,t∉(o::l.map fun i=>ops.getD i default).filterMap (·.dst)→t∉(l.map fun i=>ops.getD i default).filterMap (·.dst):=fun t hni hm=>hni (by
    simp only [xC];split
    ·exact hm
    ·exact xQ _ hm)
   rcases IE hk hr with ⟨hw,hk1⟩|⟨hw,hk1⟩
   ·simp only [hw,if_true];refine step_ok hrec hpc o hk1 hr _ Q n ro fun v h' κ' val w' h1 h2 h3 h4 h5 => ?_;refine Cy hrec hpc ops S nf Q n ro rest l h1 (FO hr h3 h4 h2 o hd) fun env2 h2 κ2 a2 w2 k1 k2 k3 k4 k5 k6 => ?_;exact hn env2 h2 κ2 a2 w2 k1 k2 (h4.trans k3) (fun t hni=>(k4 t (hsub t hni)).trans (hput v t hni)) (k5.trans (hpd _)) fun e=>by cases e
   ·simp only [hw,zD,if_false];refine ⟨fun _ _=>trivial,?_⟩;refine Cy hrec hpc ops S nf Q n ro rest l hk1 (FO hr hr.heap (Ext.refl _ _ _) (.tuple _ _ rfl fun j x hx=>by simp at hx) o hd) fun env2 h2 κ2 a2 w2 k1 k2 k3 k4 k5 k6 => ?_;exact hn env2 h2 κ2 a2 w2 k1 k2 k3 (fun t hni=>(k4 t (hsub t hni)).trans (hput _ t hni)) (k5.trans (hpd _)) fun e=>by cases e
  ·cases hk
theorem Hw:∀(xs ys:List AV),Fg xs ys=true→xs=ys
 |[],[],_=>rfl
 |x::xs,y::ys,hs=>by
  cases x<;>cases y<;>simp only [Fg,zC,beq_iff_eq] at hs<;>first|(cases hs;done)|skip
  ·obtain ⟨⟨rfl,rfl⟩,h3⟩:=hs;rw [Hw xs ys h3]
  ·obtain ⟨rfl,h3⟩:=hs;rw [Hw xs ys h3]
 |[],_::_,hs=>by simp [Fg] at hs
 |x::_,[],hs=>by cases x<;>simp [Fg] at hs
theorem LC {h h':Heap} {i:Nat} (hs:sameAt h h' i=true):At h' i=At h i∧ob i<h'.length:=by
 unfold sameAt at hs;split at hs
 ·rename_i xs ys h1 h2;rw [Hw _ _ hs] at h1;exact ⟨h2.trans h1.symm,Y0 h2⟩
 ·cases hs
theorem UB {R:Type} (C:Cfg) (rec:Rec) (pc:BN) {env env':Env} {op:Op} (hl:Cl C op=true) (hE:∀x∈op.operands,ev env x=ev env' x) (K:AV→Heap→Option R) :
  Ad C rec pc false env h op K=Ad C rec pc false env' h op K:=by
 obtain ⟨g,args,argTypes,rfl⟩:∃g args argTypes,op = .call {callee :=.value (.func g),args,argTypes}:=by
  unfold Cl at hl;split at hl
  ·exact ⟨_,_,_,rfl⟩
  ·cases hl
 have hh':A8 (.call {callee :=.value (.func g),args,argTypes})=false:=rfl;have hm:args.toList.map (ev env)=args.toList.map (ev env'):=xM fun y hy=>hE y (by simp [Op.operands,Call.operands];right;simpa using hy);unfold Ad;simp only [hh',zD,if_false,hm];rfl
theorem MQ {R:Type} (C:Cfg) (rec:Rec) (pc:BN) {env env':Env} {op:Op} (hl:KU op=true) (hE:∀x∈op.operands,ev env x=ev env' x) (K:AV→Heap→Option R) :
  Ad C rec pc false env h op K=Ad C rec pc false env' h op K:=by
 obtain ⟨f,args,argTypes,rfl⟩:∃f args argTypes,op = .call {callee :=.value f,args,argTypes}:=by
  unfold KU at hl;split at hl
  ·exact ⟨_,_,_,rfl⟩
  ·cases hl
 have hh':A8 (.call {callee :=.value f,args,argTypes})=false:=rfl;have hm:args.toList.map (ev env)=args.toList.map (ev env'):=xM fun y hy=>hE y (by simp [Op.operands,Call.operands];right;simpa using hy);have hf:ev env f=ev env' f:=hE f (by simp [Op.operands,Call.operands]);unfold Ad;simp only [hh',zD,if_false,hm,hf]
theorem JU (C:Cfg) (rec:Rec) (pc:BN) (N:Nat) (ops:Array Oper) (S:List Nat) (nf:Nat→Bool) (o:Oper):∀(l:List Nat) (env:Env) (h:Heap) (s2:Env×Heap),
  (∀y∈l,∃o',ops[y]? = some o'∧Ae C o'.op=false∧nf y=true∧(∀d,o.dst=some d→d∉o'.looksAt ops)∧(∀d,o.dst=some d→o'.dst≠some d)∧∀d,o'.dst=some d→d∉o.looksAt ops)→
  l.foldlM (fun s i=>Ao C rec pc N ops S nf i s) (env,h)=some s2→s2.2=h∧(∀t∈o.looksAt ops,s2.1 t=env t)∧∀v h',Bd S h'=true→Bd S h=true→(∀i∈S,At h' i=At h i)→
   l.foldlM (fun s i=>Ao C rec pc N ops S nf i s) (env.put o.dst v,h')=some (s2.1.put o.dst v,h')
 |[],env,h,s2,_,hf=>by simp only [List.foldlM_nil] at hf;cases hf;exact ⟨rfl,fun _ _=>rfl,fun v h' _ _ _=>rfl⟩
 |y::l,env,h,s2,hq,hf=>by
  obtain ⟨o',ho',hl,hnf,q1,q2,q3⟩:=hq y (by simp);have fy:∀s,Ao C rec pc N ops S nf y s=(FR C rec pc N ops S (nf y) o' s.1 s.2).map fun p=>(s.1.put o'.dst p.1,p.2):=fun s=>by simp only [Ao,ho']
  rw [xI,fy,hnf,Eg C rec pc N ops S true o' env hl] at hf;cases hu:GU C rec pc N ops S true o' env h with
  |none=>rw [hu] at hf;cases hf
  |some u=>
   rw [hu] at hf;have hf':l.foldlM (fun s i=>Ao C rec pc N ops S nf i s) (env.put o'.dst u,h)=some s2:=hf;obtain ⟨e1,e2,e3⟩:=JU C rec pc N ops S nf o l (env.put o'.dst u) h s2 (fun z hz=>hq z (by simp [hz])) hf';refine ⟨e1,fun t ht=>(e2 t ht).trans (Cv fun d hd e=>q3 d hd (e ▸ ht)),fun v h' hi' hi hag => ?_⟩;have h1:FR C rec pc N ops S true o' (env.put o.dst v) h'=some (u,h'):=by rw [Fo (env':=env) C rec pc N ops S true o' fun t ht=>Cv fun d hd e=>q1 d hd (e ▸ ht),Eg C rec pc N ops S true o' env hl,NO C rec pc N ops S o' env hi' hi hag,hu];rfl
   rw [xI,fy,hnf];simp only [h1,yT];rw [put_comm q2];exact e3 v h' hi' hi hag
theorem WQ {C:Cfg} {rec:Rec} {pc:BN} {N:Nat} {ops:Array Oper} {S:List Nat} {nf:Nat→Bool} {o:Oper} {l1 l2:List Nat} {env:Env} {h:Heap} {K:Env→Heap→Option R} {r:R} (hcg:∀(env' env1:Env) (h1:Heap) (K1:AV→Heap→Option R),(∀x∈o.op.operands,ev env1 x=ev env' x)→Ad C rec pc false env1 h1 o.op K1=Ad C rec pc false env' h1 o.op K1)
  (hq:∀y∈l2,∃o',ops[y]? = some o'∧Ae C o'.op=false∧nf y=true∧(∀d,o.dst=some d→d∉o'.looksAt ops)∧(∀d,o.dst=some d→o'.dst≠some d)∧∀d,o'.dst=some d→d∉o.looksAt ops)
  (hk:Bw C rec pc N ops S nf (l1++l2) env h (fun env' h'=>SN C rec pc N S o env' h' K)=some r) :
  Ke N o=true∧o.guard=none∧Bw C rec pc N ops S nf l1 env h (fun env1 h1=>Ad C rec pc false env1 h1 o.op fun v h'=>cnd (S.all (sameAt h1 h')=true) (Bw C rec pc N ops S nf l2 (env1.put o.dst v) h' K) none)=some r:=by
 rw [BE,xH] at hk;rw [BE];cases h1:l1.foldlM (fun s i=>Ao C rec pc N ops S nf i s) (env,h) with
 |none=>rw [h1] at hk;cases hk
 |some s1=>
  rw [h1] at hk;have hk:(l2.foldlM (fun s i=>Ao C rec pc N ops S nf i s) s1).bind (fun s=>SN C rec pc N S o s.1 s.2 K)=some r:=hk;cases h2:l2.foldlM (fun s i=>Ao C rec pc N ops S nf i s) s1 with
  |none=>rw [h2] at hk;cases hk
  |some s2=>
   rw [h2] at hk;simp only [Option.bind_some] at hk;obtain ⟨e1,e2,e3⟩:=JU C rec pc N ops S nf o l2 s1.1 s1.2 s2 hq h2;unfold SN at hk;simp only [AB] at hk;obtain ⟨⟨hd,hg⟩,hk⟩:=AG hk;refine ⟨hd,hg,?_⟩;simp only [Option.bind_some];rw [e1,hcg s1.1 s2.1 _ _ (Nf ops o e2)] at hk;rw [← hk];congr 1;funext v h';simp only [AB];by_cases hs:S.all (sameAt s1.2 h')=true
   ·rw [if_pos hs,if_pos hs,BE];have hall:=zG.1 hs;have hi':Bd S h'=true:=by unfold Bd;rw [zG];intro i hi;simpa using (LC (hall i hi)).2
    have hi:Bd S s1.2=true:=by unfold Bd;rw [zG];intro i hi;have h3:=LC (hall i hi);simpa using P3 h3.1 h3.2
    rw [e3 v h' hi' hi fun i hi=>(LC (hall i hi)).1];rfl
   ·rw [if_neg hs,if_neg hs]
theorem Rz {Q:Nat→Nat→Prop}:∀(l:List Nat),(∀a x b y,l=a++x::b→y∈b→Q x y)→l.Pairwise Q
 |[],_ =>.nil
 |z::l,hh=>wC.2 ⟨fun y hy=>hh [] z l y rfl hy,Rz l fun a x b y e hy=>hh (z::a) x b y (by rw [e];rfl) hy⟩
theorem H7 {Q:Nat→Nat→Prop} {l a b:List Nat} {x y:Nat} (hp:l.Pairwise Q) (e:l=a++x::b) (hy:y∈b):Q x y:=by subst e;rw [List.pairwise_append] at hp;exact (wC.1 hp.2.1).1 y hy
theorem sort_to {σ:Type} (f:Nat→σ→Option σ) (m:Nat) (T l:List Nat) (hT:T.Perm (List.range m)) (hn:l.Nodup) (hm:∀i,i∈l↔i<m)
  (hc:∀l1 x l2 y,l=l1++x::l2→y∈l2→T.idxOf y<T.idxOf x→∀s,(f x s).bind (f y)=(f y s).bind (f x)) (s:σ) :
  l.foldlM (fun s i=>f i s) s=T.foldlM (fun s i=>f i s) s:=by
 have hTn:T.Nodup:=hT.nodup_iff.2 wB;have hTl:T.length=m:=by rw [hT.length_eq,xL]
 have hTm:∀i,i∈T↔i<m:=fun i=>by rw [hT.mem_iff,xV]
 have hget:∀x,x<m→T.getD (T.idxOf x) 0=x:=fun x hx=>by have hlt:=List.idxOf_lt_length_of_mem ((hTm x).2 hx);rw [xJ,zO hlt,Option.getD_some];exact List.getElem_idxOf hlt
 have hidx:∀k,k<m→T.idxOf (T.getD k 0)=k:=fun k hk=>by rw [xJ,zO (by omega),Option.getD_some];exact hTn.idxOf_getElem k (by omega)
 have key:=GR (fun k=>f (T.getD k 0)) m (l.map T.idxOf) ?_ ?_ ?_ s
 ·rw [List.foldlM_map] at key;have e1:∀(q:List Nat),(∀i∈q,i<m)→∀s,q.foldlM (fun s i=>f (T.getD (T.idxOf i) 0) s) s=q.foldlM (fun s i=>f i s) s:=by
   intro q
   induction q with
   |nil=>intro _ s;rfl
   |cons x q ih=>
    intro hq s;rw [xI,xI,hget x (hq x (by simp))];congr 1;funext s';exact ih (fun i hi=>hq i (by simp [hi])) s'
  rw [e1 l (fun i hi=>(hm i).1 hi)] at key;rw [key];have e2:T=(List.range m).map fun k=>T.getD k 0:=by
   apply zJ;intro k;rw [getElem?_map];by_cases hk:k<m
   ·rw [zR hk,zO (by omega),yT,xJ,zO (by omega),Option.getD_some]
   ·rw [zP (by omega),zP (by simp;omega),map_none]
  conv=>rhs;rw [e2]
  rw [List.foldlM_map]
 ·rw [List.nodup_iff_pairwise_ne,List.pairwise_map];refine (List.nodup_iff_pairwise_ne.1 hn).imp_of_mem fun {a b} ha hb hab e=>hab ?_;rw [← hget a ((hm a).1 ha),← hget b ((hm b).1 hb),e]
 ·intro k;rw [xT];constructor
  ·rintro ⟨x,hx,rfl⟩
   have:=List.idxOf_lt_length_of_mem ((hTm x).2 ((hm x).1 hx));omega
  ·intro hk;refine ⟨T.getD k 0,(hm _).2 ((hTm _).1 ?_),hidx k hk⟩;rw [xJ,zO (by omega),Option.getD_some];exact getElem_mem _
 ·intro l1 x l2 y e hy hlt s;obtain ⟨a1,a2,rfl,rfl,e2⟩:=List.map_eq_append_iff.1 e;obtain ⟨z,b2,rfl,rfl,rfl⟩:=List.map_eq_cons_iff.1 e2;obtain ⟨w,hw,rfl⟩:=xT.1 hy;have hz:=(hm z).1 (by simp);have hwm:=(hm w).1 (by simp [hw]);simp only [hget z hz,hget w hwm];exact hc a1 z b2 w rfl hw hlt s
theorem YI {b:List Nat}:∀{T:List Nat} {x y:Nat},U9 b T=true→x∈T→y∈T→T.idxOf y<T.idxOf x→¬(b.getD y 0).testBit x=true
 |[],_,_,_,hx,_,_=>by cases hx
 |z::T,x,y,ho,hx,hy,hlt=>by
  simp only [U9,zC,zG,yV] at ho;by_cases hyz:z=y
  ·subst hyz;rcases xP.1 hx with rfl|hx
   ·omega
   ·rw [ho.1 x hx];exact Bool.false_ne_true
  ·by_cases hxz:z=x
   ·subst hxz;rw [List.idxOf_cons_self] at hlt;omega
   ·have e1:(z::T).idxOf y=T.idxOf y+1:=by rw [List.idxOf_cons,beq_false_of_ne hyz];rfl
    have e2:(z::T).idxOf x=T.idxOf x+1:=by rw [List.idxOf_cons,beq_false_of_ne hxz];rfl
    rw [e1,e2] at hlt;refine YI ho.2 ?_ ?_ (by omega)
    ·exact (xP.1 hx).resolve_left fun e=>hxz e.symm
    ·exact (xP.1 hy).resolve_left fun e=>hyz e.symm
theorem Nr {l l1 l2:List Nat} {x y:Nat} (e:l=l1++x::l2) (hn:l.Nodup) (hy:y∈l2):l.idxOf x<l.idxOf y:=by
 subst e;rw [xY,xZ] at hn;obtain ⟨n1,⟨n2,n3⟩,n4⟩:=hn;have hx1:x∉l1:=fun h=>n4 x h x (by simp) rfl;have hy1:y∉l1:=fun h=>n4 y h y (by simp [hy]) rfl;have hxy:x≠y:=fun h=>n2 (h ▸ hy);have e1:(x::l2).idxOf y=l2.idxOf y+1:=by rw [List.idxOf_cons,beq_false_of_ne hxy];rfl
 rw [List.idxOf_append,List.idxOf_append,if_neg hx1,if_neg hy1,List.idxOf_cons_self,e1];omega
theorem NL {C:Cfg} {rec:Rec} {pc:BN} (hrec:EB C.P rec) (hpc:CW C.P pc) (hmix:C.P.follows .mixedOrders=true) {id:Nat} {ops:Array Oper} {K:Env→Heap→Option R} {r:R} {S:List Nat} {m i0 j0:Nat}
  (hp:Tc C ops (AO ops) m i0 j0=true) (hff:D3 (AO ops) ops.size m=true) (hed:G4 ops=true) (hle:m≤ops.size)
  (hA:Bw C rec pc N ops S (An C ops (AO ops) m) (List.range m) env h (fun env' h'=>EO C rec pc N false ops (ops.toList.drop m) env' h' K)=some r)
  (hB:Bw C rec pc N ops S (An C ops (AO ops) m) (JW (AO ops) m i0 j0) env h (fun env' h'=>EO C rec pc N false ops (ops.toList.drop m) env' h' K)=some r)
  (hr:Rel B N κ env h a w) (Q:Exit→Act→World→Prop) (n:Nat) (ro:Option Nat)
  (hn:Kt B N κ h w false ops.toList env a K r fun a' w'=>Q .normal a' w'):(Code.region id ops true).wpIn (Fr ro) n C.P Q a w:=by
 unfold Tc at hp;simp only [zC,decide_eq_true_eq] at hp;obtain ⟨hdo,hperm,hord,hidx⟩:=hp;have hT:=List.isPerm_iff.1 hperm;generalize JW (AO ops) m i0 j0=T at *;refine wpIn_region_draw fun t => ?_;have hsch:Region.schedule (C.P.follows .mixedOrders) ops t=Region.linearise .any ops t:=by simp only [Region.schedule,hmix,Bool.true_or,if_true]
 rw [hsch];obtain ⟨p1,p2,p3,p4⟩:=Hu hed (FA ops t) (fun i hi=>by cases hi);obtain ⟨lp,hL,hlpn,hlpm⟩:=F4 (n:=m) (ops.size-m) (Region.linearise .any ops t) p1 (fun i=>by
  constructor
  ·intro hi;have:=(p2 i hi).2;omega
  ·intro hi;exact (p3 i (by omega)).resolve_left (by simp)) (fun l1 x l2 e hx y hy=>by
   have hxs:x<ops.size:=(p2 x (by rw [e];simp)).2;have h1:=(zG.1 hff) x (xV.2 hxs);have h2:(AO ops).getD x 0=2 ^ x-1:=by simp only [yX,decide_eq_true_eq,beq_iff_eq] at h1;exact h1.resolve_left (by omega)
   refine (p4 l1 x l2 e y ?_).resolve_left (by simp);rw [h2,Nat.testBit_two_pow_sub_one];simpa using hy)
 rw [hL];let g:Nat→Oper:=fun i=>ops.getD i default;have hlt:∀i∈lp,i<ops.size:=fun i hi=>by have:=(hlpm i).1 hi;omega
 have hpair:∀x y,x<m→y<x→¬((AO ops).getD x 0).testBit y=true→¬(y=i0∧x=j0)→
   (BQ C ops y&&BQ C ops x)=false∧(∀d,(g y).dst=some d→d∉(g x).looksAt ops)∧(∀d,(g y).dst=some d→(g x).dst≠some d)∧(∀d,(g x).dst=some d→d∉(g y).looksAt ops)∧
   (BQ C ops x=true→An C ops (AO ops) m y=true)∧(BQ C ops y=true→An C ops (AO ops) m x=true):=fun x y hx hlt2 h2 hne=>by
  have h1:=(zG.1 ((zG.1 hdo) x (xV.2 hx))) y (xV.2 hlt2);have ex:=Aq (show x<ops.size by omega);have ey:=Aq (show y<ops.size by omega);rw [ex,ey] at h1;simp only [yX,zC,yV,beq_iff_eq] at h1;obtain ⟨hnl,hap⟩:=h1.resolve_left (fun h=>h.elim h2 hne);obtain ⟨q1,q2,q3⟩:=Oper.apart_spec hap;have hun:ED (AO ops) x y=true:=by unfold ED;rw [if_neg (by omega)];simpa using h2
  have hun':ED (AO ops) y x=true:=by unfold ED;rw [if_pos hlt2];simpa using h2
  refine ⟨hnl,q1,q2,q3,fun hlx => ?_,fun hly => ?_⟩
  ·unfold An;refine yY.2 ⟨x,xV.2 hx,?_⟩;simp only [zC,bne_iff_ne];exact ⟨⟨hlx,by omega⟩,hun'⟩
  ·unfold An;refine yY.2 ⟨y,xV.2 (by omega),?_⟩;simp only [zC,bne_iff_ne];exact ⟨⟨hly,by omega⟩,hun⟩
 have hopen:lp.Pairwise fun x y=>y<x→¬((AO ops).getD x 0).testBit y=true:=Rz lp fun l1 x l2 y e hy hlt2 hb=>by have:=(p4 l1 x (l2++List.range' m (ops.size-m)) (by rw [hL,e];simp) y hb).resolve_left (by simp);rw [e,xY] at hlpn;exact hlpn.2.2 y this y (by simp [hy]) rfl
 have hcom:∀x y,x<m→y<x→¬((AO ops).getD x 0).testBit y=true→¬(y=i0∧x=j0)→∀s:Env×Heap,(Ao C rec pc N ops S (An C ops (AO ops) m) x s).bind (Ao C rec pc N ops S (An C ops (AO ops) m) y)=(Ao C rec pc N ops S (An C ops (AO ops) m) y s).bind (Ao C rec pc N ops S (An C ops (AO ops) m) x):=fun x y hx hlt2 h2 hne s=>by
  obtain ⟨hnl,q1,q2,q3,n1,n2⟩:=hpair x y hx hlt2 h2 hne;have ex:=Aq (show x<ops.size by omega);have ey:=Aq (show y<ops.size by omega);have lx:BQ C ops x=(Ae C (g x).op||Cl C (g x).op):=by unfold BQ;rw [ex]
  have ly:BQ C ops y=(Ae C (g y).op||Cl C (g y).op):=by unfold BQ;rw [ey]
  cases hlx:Ae C (g x).op with
  |true=>
   have hlx':BQ C ops x=true:=by rw [lx,hlx];rfl
   have hly:Ae C (g y).op=false:=by rw [hlx',Bool.and_true,ly,yW] at hnl;exact hnl.1
   exact D8 C rec pc N ops S _ ex ey q3 (fun d hd hd2=>q2 d hd2 hd) q1 hlx hly (n1 hlx') s
  |false=>
   cases hly:Ae C (g y).op with
   |true=>exact (D8 C rec pc N ops S _ ey ex q1 q2 q3 hly hlx (n2 (by rw [ly,hly];rfl)) s).symm
   |false=>exact (Gt C rec pc N ops S _ ey ex q1 q2 q3 hly hlx s).symm
 have hsub:∀(l:List Nat),(∀i∈l,i<ops.size)→∀i,i∉ops.toList.filterMap (·.dst)→i∉(l.map g).filterMap (·.dst):=fun l hl i hni hm=>hni (by rw [xS] at hm ⊢;obtain ⟨o,ho,hd⟩:=hm;obtain ⟨x,hx,rfl⟩:=xT.1 ho;refine ⟨g x,?_,hd⟩;have:=Aq (hl x hx);exact yA (i:=x) (by rw [yU];exact this))
 have hrest:∀env1 h1 κ1 a1 w1,EO C rec pc N false ops (ops.toList.drop m) env1 h1 K=some r→Rel B N κ1 env1 h1 a1 w1→Ext κ h w κ1 h1 w1→(∀i,i∉ops.toList.filterMap (·.dst)→env1 i=env i)→a1.defers=a.defers→
   wpOpsIn (Fr ro) n C.P ops Q (List.range' m (ops.size-m)) a1 w1:=fun env1 h1 κ1 a1 w1 k1 k2 k3 k4 k5=>by
  have:=I3 hrec hpc ops Q n ro [] (ops.toList.drop m) (List.range' m (ops.size-m)) (by simp) (fun j i o hj ho=>by
   have hjl:j<ops.size-m:=by simpa using AU hj
   rw [List.getElem?_range' hjl] at hj;cases hj;rw [zN] at ho;simpa using ho) k1 k2 (fun env2 h2 κ2 a2 w2 j1 j2 j3 j4 j5 j6=>by
    refine hn env2 h2 κ2 a2 w2 j1 j2 (k3.trans j3) (fun i hni => ?_) (j5.trans k5) (fun e=>by cases e);have hsub1:i∉(ops.toList.drop m).filterMap (·.dst):=fun hm=>hni (by rw [xS] at hm ⊢;obtain ⟨o,ho,hd⟩:=hm;exact ⟨o,xU ho,hd⟩)
    exact (j4 i hsub1).trans (k4 i hni))
  simpa using this
 have hx0:=IK hr.heap;have hfinish:Bw C rec pc N ops S (An C ops (AO ops) m) lp env h (fun env' h'=>EO C rec pc N false ops (ops.toList.drop m) env' h' K)=some r→wpOpsIn (Fr ro) n C.P ops Q (lp++List.range' m (ops.size-m)) a {w with drawn:=w.drawn+1}:=fun hk2=>by refine Cy hrec hpc ops S _ Q n ro (List.range' m (ops.size-m)) lp hk2 (KB hr) fun env1 h1 κ1 a1 w1 k1 k2 k3 k4 k5 k6 => ?_;exact hrest env1 h1 κ1 a1 w1 k1 k2 (hx0.trans k3) (fun i hni=>k4 i (hsub lp hlt i hni)) k5
 by_cases hcls:lp.idxOf i0<lp.idxOf j0
 ·have hrun:∀s:Env×Heap,lp.foldlM (fun s i=>Ao C rec pc N ops S (An C ops (AO ops) m) i s) s=(List.range m).foldlM (fun s i=>Ao C rec pc N ops S (An C ops (AO ops) m) i s) s:=fun s=>
   GR (fun i s=>Ao C rec pc N ops S (An C ops (AO ops) m) i s) m lp hlpn hlpm (fun b1 x b2 y e2 hy hlt2 s=>
    hcom x y ((hlpm x).1 (by rw [e2];simp)) hlt2 (H7 hopen e2 hy hlt2) (fun hh=>by have:=Nr e2 hlpn hy;rw [hh.1,hh.2] at this;omega) s) s
  refine hfinish ?_;rw [BE] at hA ⊢;rw [hrun];exact hA
 ·have hrun:∀s:Env×Heap,lp.foldlM (fun s i=>Ao C rec pc N ops S (An C ops (AO ops) m) i s) s=T.foldlM (fun s i=>Ao C rec pc N ops S (An C ops (AO ops) m) i s) s:=fun s=>
   sort_to (fun i s=>Ao C rec pc N ops S (An C ops (AO ops) m) i s) m T lp hT hlpn hlpm (fun b1 x b2 y e2 hy hlt2 s=>by
    have hx:=(hlpm x).1 (by rw [e2];simp);have hy':=(hlpm y).1 (by rw [e2];simp [hy]);have hib:=Nr e2 hlpn hy;rcases Nat.lt_trichotomy y x with hyx|hyx|hyx
    ·exact hcom x y hx hyx (H7 hopen e2 hy hyx) (fun hh=>by rw [hh.1,hh.2] at hlt2;omega) s
    ·subst hyx;rfl
    ·refine (hcom y x hy' hyx (YI hord (hT.mem_iff.2 (xV.2 hx)) (hT.mem_iff.2 (xV.2 hy')) hlt2) (fun hh => ?_) s).symm;rw [hh.1,hh.2] at hib;exact hcls hib) s
  refine hfinish ?_;rw [BE] at hB ⊢;rw [hrun];exact hB
theorem F5 {σ:Type} (f:Nat→σ→Option σ) (p:Nat→Bool):∀(l:List Nat) (s:σ),l.foldlM (fun s i=>if p i=true then f i s else some s) s=(l.filter p).foldlM (fun s i=>f i s) s
 |[],s=>rfl
 |x::l,s=>by
  by_cases hx:p x=true
  ·rw [xF hx,xI,xI,if_pos hx];congr 1;funext s';exact F5 f p l s'
  ·rw [xE hx,xI,if_neg hx];exact F5 f p l s
theorem J4 {σ:Type} (f:Nat→σ→Option σ) (p:Nat→Bool) (lo hi:Nat) (lp:List Nat) (hn:lp.Nodup) (hm:∀i,i∈lp↔lo≤i∧i<hi) (hle:lo≤hi) (hp:∀i,p i=true→lo≤i)
  (hcom:lp.Pairwise fun x y=>y<x→p x=true→p y=true→∀s,(f x s).bind (f y)=(f y s).bind (f x)) (s:σ) :
  (lp.filter p).foldlM (fun s i=>f i s) s=((List.range hi).filter p).foldlM (fun s i=>f i s) s:=by
 have hf0:(List.range lo).filter p=[]:=by rw [List.filter_eq_nil_iff];intro i hi;have:=xV.1 hi;intro h;have:=hp i h;omega
 have e:lp.filter p=(List.range lo++lp).filter p:=by rw [xD,hf0,xX]
 rw [e,← F5,← F5];have hpw:(List.range lo++lp).Pairwise fun x y=>y<x→∀s,(if p x=true then f x s else some s).bind (fun s=>if p y=true then f y s else some s)=(if p y=true then f y s else some s).bind (fun s=>if p x=true then f x s else some s):=by
  have htriv:∀x y,¬(p x=true∧p y=true)→∀s,(if p x=true then f x s else some s).bind (fun s=>if p y=true then f y s else some s)=(if p y=true then f y s else some s).bind (fun s=>if p x=true then f x s else some s):=fun x y h s=>by
   by_cases hx:p x=true
   ·by_cases hy:p y=true
    ·exact absurd ⟨hx,hy⟩ h
    ·simp only [hx,hy,if_true,zD,if_false,Option.bind_some];cases f x s<;>rfl
   ·simp only [hx,zD,if_false,Option.bind_some];cases (if p y=true then f y s else some s)<;>rfl
  rw [List.pairwise_append];refine ⟨?_,?_,?_⟩
  ·refine List.Pairwise.imp_of_mem (R:=fun _ _=>True) (fun {x y} hx hy _ _=>htriv x y fun h => ?_) (List.pairwise_of_forall fun _ _=>trivial);have:=hp x h.1;have:=xV.1 hx;omega
  ·refine hcom.imp fun {x y} h hlt => ?_;by_cases hb:p x=true∧p y=true
   ·intro s;have:=h hlt hb.1 hb.2 s;simp only [hb.1,hb.2,if_true];exact this
   ·exact htriv x y hb
  ·intro x hx y hy _;refine htriv x y fun h => ?_;have:=hp x h.1;have:=xV.1 hx;omega
 refine GR (fun i s=>if p i=true then f i s else some s) hi (List.range lo++lp) ?_ ?_ (fun l1 x l2 y e hy hlt s=>H7 hpw e hy hlt s) s
 ·rw [xY];refine ⟨wB,hn,fun x hx y hy h => ?_⟩;have:=xV.1 hx;have:=(hm y).1 hy;omega
 ·intro i;rw [xO,xV,hm];omega
theorem Wh {R:Type} {x y:AI} {a:Option R} {r:R} (h:Al x y a=some r):x=y∧a=some r:=by
 unfold Al at h;by_cases hxy:x=y
 ·rw [if_pos hxy] at h;exact ⟨hxy,h⟩
 ·rw [if_neg hxy] at h;cases h
theorem AS {R:Type} (x:AI) (a:Option R):Al x x a=a:=by unfold Al;exact if_pos rfl
theorem TP {R:Type} {h h':Heap} {i:Nat} {a:Option R} {r:R} (hs:PF h h' i a=some r):(At h' i=At h i∧ob i<h'.length)∧a=some r∧∀b:Option R,PF h h' i b=b:=by
 unfold PF at hs;split at hs
 ·rename_i x y h1 h2;obtain ⟨e,h3⟩:=Wh hs;subst e;refine ⟨⟨h2.trans h1.symm,Y0 h2⟩,h3,fun b => ?_⟩;unfold PF;rw [h1,h2];exact AS x b
 ·cases hs
theorem EH {R:Type} {h h':Heap}:∀{S:List Nat} {a:Option R} {r:R},Er h h' S a=some r→(∀i∈S,At h' i=At h i∧ob i<h'.length)∧a=some r∧∀b:Option R,Er h h' S b=b
 |[],a,r,hs=>⟨fun _ hi=>(by cases hi),hs,fun _=>rfl⟩
 |i::S,a,r,hs=>by
  obtain ⟨h1,h2,h3⟩:=TP hs;obtain ⟨k1,k2,k3⟩:=EH h2;refine ⟨fun j hj => ?_,k2,fun b => ?_⟩
  ·rcases xP.1 hj with rfl|hj
   ·exact h1
   ·exact k1 j hj
  ·show PF h h' i (Er h h' S b)=b;rw [k3,h3]
theorem Ng {C:Cfg} {rec:Rec} {pc:BN} {N:Nat} {ops:Array Oper} {S:List Nat} {nf:Nat→Bool} {o:Oper} {l1 l2:List Nat} {env:Env} {h:Heap} {K:Env→Heap→Option R} {r:R} (hcg:∀(env' env1:Env) (h1:Heap) (K1:AV→Heap→Option R),(∀x∈o.op.operands,ev env1 x=ev env' x)→Ad C rec pc false env1 h1 o.op K1=Ad C rec pc false env' h1 o.op K1)
  (hq:∀y∈l2,∃o',ops[y]? = some o'∧Ae C o'.op=false∧nf y=true∧(∀d,o.dst=some d→d∉o'.looksAt ops)∧(∀d,o.dst=some d→o'.dst≠some d)∧∀d,o'.dst=some d→d∉o.looksAt ops)
  (hk:Bw C rec pc N ops S nf (l1++l2) env h (fun env' h'=>Ni C rec pc N ops S o env' h' K)=some r) :
  Ke N o=true∧Bw C rec pc N ops S nf l1 env h (fun env1 h1=>GC ops o env1 (fun env1=>Ad C rec pc false env1 h1 o.op fun v h'=>Er h1 h' S (Bw C rec pc N ops S nf l2 (env1.put o.dst v) h' K))
   (fun env1=>cnd (Bd S h1=true) (Bw C rec pc N ops S nf l2 (env1.put o.dst (.tuple [])) h1 K) none))=some r:=by
 rw [BE,xH] at hk;rw [BE];cases h1:l1.foldlM (fun s i=>Ao C rec pc N ops S nf i s) (env,h) with
 |none=>rw [h1] at hk;cases hk
 |some s1=>
  rw [h1] at hk;have hk:(l2.foldlM (fun s i=>Ao C rec pc N ops S nf i s) s1).bind (fun s=>Ni C rec pc N ops S o s.1 s.2 K)=some r:=hk;cases h2:l2.foldlM (fun s i=>Ao C rec pc N ops S nf i s) s1 with
  |none=>rw [h2] at hk;cases hk
  |some s2=>
   rw [h2] at hk;simp only [Option.bind_some] at hk;obtain ⟨e1,e2,e3⟩:=JU C rec pc N ops S nf o l2 s1.1 s1.2 s2 hq h2;unfold Ni at hk;simp only [AB] at hk;obtain ⟨hd,hk⟩:=AG hk;refine ⟨hd,?_⟩;simp only [Option.bind_some];rw [SU] at hk ⊢;rw [Nt ops o e2] at hk;cases hgv:Ov ops o s1.1 with
   |none=>rw [hgv] at hk;cases hk
   |some bb=>
    rw [hgv] at hk;cases bb with
    |true=>
     simp only [Option.bind_some,if_true] at hk ⊢;rw [e1,hcg s1.1 s2.1 _ _ (Nf ops o e2)] at hk;rw [← hk];congr 1;funext v h';have key:∀q,Er s1.2 h' S (Bw C rec pc N ops S nf l2 (s1.1.put o.dst v) h' K)=some q↔Er s1.2 h' S (K (s2.1.put o.dst v) h')=some q:=by
      have hback:(∀i∈S,At h' i=At s1.2 i∧ob i<h'.length)→Bw C rec pc N ops S nf l2 (s1.1.put o.dst v) h' K=K (s2.1.put o.dst v) h':=fun hall=>by
       have hi':Bd S h'=true:=by unfold Bd;rw [zG];intro i hi;simpa using (hall i hi).2
       have hi:Bd S s1.2=true:=by unfold Bd;rw [zG];intro i hi;have h3:=hall i hi;simpa using P3 h3.1 h3.2
       rw [BE,e3 v h' hi' hi fun i hi=>(hall i hi).1];rfl
      intro q;constructor
      ·intro hs;obtain ⟨k1,k2,k3⟩:=EH hs;rw [k3,← hback k1];exact k2
      ·intro hs;obtain ⟨k1,k2,k3⟩:=EH hs;rw [k3,hback k1];exact k2
     cases hA:Er s1.2 h' S (Bw C rec pc N ops S nf l2 (s1.1.put o.dst v) h' K) with
     |some q=>exact ((key q).1 hA).symm
     |none=>
      cases hB:Er s1.2 h' S (K (s2.1.put o.dst v) h') with
      |none=>rfl
      |some q=>rw [(key q).2 hB] at hA;cases hA
    |false=>
     simp only [Option.bind_some,zD,if_false,AB] at hk ⊢;obtain ⟨hin,hk⟩:=AG hk;rw [e1] at hin hk;rw [if_pos hin,BE,e3 (.tuple []) s1.2 hin hin fun _ _=>rfl];exact hk
theorem LN {σ:Type} (f:Nat→σ→Option σ) (p:Nat→Bool):∀(l:List Nat),(l.Pairwise fun x y=>p x=false→p y=true→∀s,(f x s).bind (f y)=(f y s).bind (f x))→∀s,
  (l.filter p++l.filter fun i => !p i).foldlM (fun s i=>f i s) s=l.foldlM (fun s i=>f i s) s
 |[],_,s=>rfl
 |x::l,hp,s=>by
  obtain ⟨h1,h2⟩:=wC.1 hp;cases hx:p x with
  |true=>
   rw [xF hx,xE (by simp [hx]),xB,xI,xI];congr 1;funext s';exact LN f p l h2 s'
  |false=>
   rw [xE (by simp [hx]),xF (by simp [hx]),xI];have e0:(f x s).bind (fun s'=>l.foldlM (fun s i=>f i s) s')=(f x s).bind fun s'=>(l.filter p++l.filter fun i => !p i).foldlM (fun s i=>f i s) s':=by congr 1;funext s';exact (LN f p l h2 s').symm
   show _=(f x s).bind fun s'=>l.foldlM (fun s i=>f i s) s';rw [e0];have key:∀(q:List Nat),(∀y∈q,∀s,(f x s).bind (f y)=(f y s).bind (f x))→∀(t:List Nat) s,(q++x::t).foldlM (fun s i=>f i s) s=(f x s).bind fun s'=>(q++t).foldlM (fun s i=>f i s) s':=by
    intro q
    induction q with
    |nil=>intro _ t s;rfl
    |cons y q ih=>
     intro hq t s;rw [xB,xI];have e1:(f x s).bind (fun s'=>(y::q++t).foldlM (fun s i=>f i s) s')=((f x s).bind (f y)).bind fun s'=>(q++t).foldlM (fun s i=>f i s) s':=by rw [wD];rfl
     rw [e1,hq y (by simp),wD];show (f y s).bind _=(f y s).bind _;congr 1;funext s';exact ih (fun z hz=>hq z (by simp [hz])) t s'
   refine key _ (fun y hy s => ?_) _ s;rw [xR] at hy;exact h1 y hy.1 hx hy.2 s
theorem YH {C:Cfg} {rec:Rec} {pc:BN} (hrec:EB C.P rec) (hpc:CW C.P pc) {ops:Array Oper} {K:Env→Heap→Option R} {r:R} {lo hi m:Nat} {u:Option Nat} {S:List Nat} {o:Oper} (hle:hi≤ops.size) (hlo:lo≤hi) (ho:ops[m]? = some o)
  (lp:List Nat) (hlpn:lp.Nodup) (hlpm:∀i,i∈lp↔lo≤i∧i<hi) (hopen:lp.Pairwise fun x y=>y<x→¬((AO ops).getD x 0).testBit y=true)
  (hso:Td C ops (AO ops) lo hi m u=true) (hcv:KU o.op=true)
  (hkA:Te C rec pc N ops (AO ops) lo hi m none S (nf3 C ops (AO ops) lo hi (some m)) o env h K=some r)
  (hkB:∀u',u=some u'→Te C rec pc N ops (AO ops) lo hi m (some u') S (nf3 C ops (AO ops) lo hi (some m)) o env h K=some r)
  (hr:Rel B N κ env h a w) (Q:Exit→Act→World→Prop) (n:Nat) (ro:Option Nat) (rest:List Nat)
  (hcont:∀env1 h1 κ1 a1 w1,K env1 h1=some r→Rel B N κ1 env1 h1 a1 w1→Ext κ h w κ1 h1 w1→(∀i,i∉ops.toList.filterMap (·.dst)→env1 i=env i)→a1.defers=a.defers→wpOpsIn (Fr ro) n C.P ops Q rest a1 w1) :
  wpOpsIn (Fr ro) n C.P ops Q (lp++rest) a w:=by
 let g:Nat→Oper:=fun i=>ops.getD i default;have hlt:∀i∈lp,i<ops.size:=fun i hi=>by have:=(hlpm i).1 hi;omega
 have hsub:∀(l:List Nat),(∀i∈l,i<ops.size)→∀i,i∉ops.toList.filterMap (·.dst)→i∉(l.map g).filterMap (·.dst):=fun l hl i hni hm=>hni (by rw [xS] at hm ⊢;obtain ⟨o,ho,hd⟩:=hm;obtain ⟨x,hx,rfl⟩:=xT.1 ho;refine ⟨g x,?_,hd⟩;have:=Aq (hl x hx);exact yA (i:=x) (by rw [yU];exact this))
 unfold Td at hso;simp only [zC,decide_eq_true_eq] at hso;obtain ⟨hps,⟨hm1,hm2⟩,hbits,hdn,hdu⟩:=hso;have hbitm:∀i,i<hi→i≤m→¬((AO ops).getD i 0).testBit m=true:=fun i hi1 him=>by have:=(zG.1 hbits) i (xV.2 hi1);simp only [zC,yX,decide_eq_true_eq] at this;simpa using this.1.resolve_left (by omega)
 have hbitu:∀u',u=some u'→∀i,i<hi→i≤u'→¬((AO ops).getD i 0).testBit u'=true:=fun u' hu i hi1 hiu=>by have:=(zG.1 hbits) i (xV.2 hi1);rw [hu] at this;simp only [zC,yX,decide_eq_true_eq] at this;simpa using this.2.resolve_left (by omega)
 have hpair:∀x y,x<hi→lo≤y→y<x→¬((AO ops).getD x 0).testBit y=true→LV m u y x=false→
   (Cw C ops (some m) y&&Cw C ops (some m) x)=false∧(∀d,(g y).dst=some d→d∉(g x).looksAt ops)∧(∀d,(g y).dst=some d→(g x).dst≠some d)∧(∀d,(g x).dst=some d→d∉(g y).looksAt ops)∧
   (Cw C ops (some m) x=true→nf3 C ops (AO ops) lo hi (some m) y=true)∧(Cw C ops (some m) y=true→nf3 C ops (AO ops) lo hi (some m) x=true):=fun x y hx hloy hlt2 h2 hip=>by
  have h0:=(zG.1 hps) x (xV.2 hx);rw [yX] at h0;have h1:=h0.resolve_left (by simp;omega);have h1:=(zG.1 h1) y (xV.2 hlt2);have ex:=Aq (show x<ops.size by omega);have ey:=Aq (show y<ops.size by omega);rw [ex,ey,hip] at h1;simp only [yX,zC,yV,decide_eq_true_eq,zD,false_or] at h1;obtain ⟨hnl,hap⟩:=(h1.resolve_left (by omega)).resolve_left h2;obtain ⟨q1,q2,q3⟩:=Oper.apart_spec hap;have hun:ED (AO ops) x y=true:=by unfold ED;rw [if_neg (by omega)];simpa using h2
  have hun':ED (AO ops) y x=true:=by unfold ED;rw [if_pos hlt2];simpa using h2
  refine ⟨hnl,q1,q2,q3,fun hlx => ?_,fun hly => ?_⟩
  ·unfold nf3;refine yY.2 ⟨x,xV.2 hx,?_⟩;simp only [zC,bne_iff_ne,decide_eq_true_eq];exact ⟨by omega,⟨hlx,by omega⟩,hun'⟩
  ·unfold nf3;refine yY.2 ⟨y,xV.2 (by omega),?_⟩;simp only [zC,bne_iff_ne,decide_eq_true_eq];exact ⟨by omega,⟨hly,by omega⟩,hun⟩
 generalize hnf:nf3 C ops (AO ops) lo hi (some m)=nf at *;have hcom:∀x y,x<hi→lo≤y→y<x→¬((AO ops).getD x 0).testBit y=true→x≠m→y≠m→∀s:Env×Heap,(Ao C rec pc N ops S nf x s).bind (Ao C rec pc N ops S nf y)=(Ao C rec pc N ops S nf y s).bind (Ao C rec pc N ops S nf x):=fun x y hx hloy hlt2 h2 hxm hym s=>by
  obtain ⟨hnl,q1,q2,q3,n1,n2⟩:=hpair x y hx hloy hlt2 h2 (by
   unfold LV;cases u with
   |none=>rfl
   |some u=>simp [hxm,hym])
  have ex:=Aq (show x<ops.size by omega);have ey:=Aq (show y<ops.size by omega);have l3:∀z,z<ops.size→Ae C (g z).op=true→Cw C ops (some m) z=true:=fun z hz hl=>by unfold Cw BQ;rw [Aq hz];have hl':Ae C (ops.getD z default).op=true:=hl;show ((Ae C (ops.getD z default).op||Cl C (ops.getD z default).op)||_)=true;rw [hl'];rfl
  cases hlx:Ae C (g x).op with
  |true=>
   have hlx':=l3 x (by omega) hlx;have hly:Ae C (g y).op=false:=by
    cases hly:Ae C (g y).op with
    |false=>rfl
    |true=>
     rw [hlx',l3 y (by omega) hly] at hnl;cases hnl
   exact D8 C rec pc N ops S _ ex ey q3 (fun d hd hd2=>q2 d hd2 hd) q1 hlx hly (n1 hlx') s
  |false=>
   cases hly:Ae C (g y).op with
   |true=>exact (D8 C rec pc N ops S _ ey ex q1 q2 q3 hly hlx (n2 (l3 y (by omega) hly)) s).symm
   |false=>exact (Gt C rec pc N ops S _ ey ex q1 q2 q3 hly hlx s).symm
 obtain ⟨l1,l2,e⟩:=xA ((hlpm m).2 ⟨hm1,hm2⟩);have hn':=hlpn;rw [e,xY,xZ] at hn';obtain ⟨n1,⟨n2,n3⟩,n4⟩:=hn';obtain ⟨v,hkv,hvu,hv2,hdv⟩:∃v:Option Nat,Te C rec pc N ops (AO ops) lo hi m v S nf o env h K=some r∧(∀u',u=some u'→u'∈l2→v=some u')∧(∀u',v=some u'→u=some u'∧u'∈l2)∧Tz (AO ops) lo hi m v=true:=by
  cases hu:u with
  |none=>exact ⟨none,hkA,(fun u' e=>by cases e),(fun u' e=>by cases e),hdn⟩
  |some u'=>
   rw [hu] at hdu;simp only [zC] at hdu;by_cases hin:u'∈l2
   ·exact ⟨some u',hkB u' hu,(fun q hq _=>hq),(fun q hq=>⟨hq,by cases hq;exact hin⟩),hdu.2⟩
   ·exact ⟨none,hkA,(fun q hq hq2=>by cases hq;exact absurd hq2 hin),(fun q hq=>by cases hq),hdn⟩
 let p:Nat→Bool:=Jg (AO ops) lo m v;have hbef:∀x∈l1,∀y∈m::l2,y<x→¬((AO ops).getD x 0).testBit y=true:=fun x hx y hy=>by have h1:=hopen;rw [e,List.pairwise_append] at h1;exact h1.2.2 x hx y hy
 have hp1:∀x∈l1,p x=true:=fun x hx=>by
  obtain ⟨hx1,hx2⟩:=(hlpm x).1 (by rw [e];simp [hx]);have hxm:x≠m:=fun h=>n4 x hx m (by simp) h;show Jg (AO ops) lo m v x=true;unfold Jg;have b1:((AO ops).getD x 0).testBit m=false:=by
   rcases yL m x with hlt3|hge
   ·simpa using hbef x hx m (by simp) hlt3
   ·simpa using hbitm x hx2 hge
  cases hv:v with
  |none=>rw [decide_eq_true hx1,b1,show (x != m)=true from by simpa using hxm];rfl
  |some u'=>
   obtain ⟨hu,hul⟩:=hv2 u' hv;have hxu:x≠u':=fun h=>n4 x hx u' (by simp [hul]) h;have b2:((AO ops).getD x 0).testBit u'=false:=by
    rcases yL u' x with hlt3|hge
    ·simpa using hbef x hx u' (by simp [hul]) hlt3
    ·simpa using hbitu u' hu x hx2 hge
   dsimp only;rw [decide_eq_true hx1,b1,b2,show (x != m)=true from by simpa using hxm,show (x != u')=true from by simpa using hxu];rfl
 have hpm:p m=false:=by show Jg (AO ops) lo m v m=false;unfold Jg;simp
 have hpd:∀y,p y=true→lo≤y∧y≠m∧¬((AO ops).getD y 0).testBit m=true∧∀u',v=some u'→y≠u':=fun y hy=>by have hy:Jg (AO ops) lo m v y=true:=hy;unfold Jg at hy;simp only [zC,decide_eq_true_eq,bne_iff_ne,yV] at hy;obtain ⟨h1,h2,h3,h4⟩:=hy;refine ⟨h1,h2,by simpa using h3,fun u' hv => ?_⟩;rw [hv] at h4;simp only [zC,bne_iff_ne] at h4;exact h4.1
 have hfil:lp.filter p=l1++l2.filter p:=by rw [e,xD,xE (by simp [hpm]),xG.2 hp1]
 have hrun:∀s:Env×Heap,(l1++l2.filter p).foldlM (fun s i=>Ao C rec pc N ops S nf i s) s=((List.range hi).filter p).foldlM (fun s i=>Ao C rec pc N ops S nf i s) s:=fun s=>by rw [← hfil];refine J4 (fun i s=>Ao C rec pc N ops S nf i s) p lo hi lp hlpn hlpm hlo (fun i h=>(hpd i h).1) ?_ s;refine hopen.imp_of_mem fun {x y} hx hy h hlt px py s => ?_;exact hcom x y ((hlpm x).1 hx).2 ((hlpm y).1 hy).1 hlt (h hlt) (hpd x px).2.1 (hpd y py).2.1 s
 have hrest:∀i∈l2,(F1 (AO ops) lo m v i=true↔p i=false):=fun i hi2=>by obtain ⟨hx1,_⟩:=(hlpm i).1 (by rw [e];simp [hi2]);have hne:i≠m:=fun h=>n2 (h ▸ hi2);unfold F1;show _↔Jg (AO ops) lo m v i=false;simp [hx1,hne]
 have hfil2:lp.filter (F1 (AO ops) lo m v)=l2.filter fun i => !p i:=by
  rw [e,xD,xE (by unfold F1;simp),List.filter_eq_nil_iff.2 (fun x hx=>by have h1:Jg (AO ops) lo m v x=true:=hp1 x hx;unfold F1;rw [h1];simp),xX]
  refine List.filter_congr fun i hi2 => ?_;rw [Bool.eq_iff_iff,hrest i hi2];simp
 have hrun2:∀s:Env×Heap,(l2.filter p++(List.range hi).filter (F1 (AO ops) lo m v)).foldlM (fun s i=>Ao C rec pc N ops S nf i s) s=l2.foldlM (fun s i=>Ao C rec pc N ops S nf i s) s:=fun s=>by
  have hs:∀s:Env×Heap,(l2.filter fun i => !p i).foldlM (fun s i=>Ao C rec pc N ops S nf i s) s=((List.range hi).filter (F1 (AO ops) lo m v)).foldlM (fun s i=>Ao C rec pc N ops S nf i s) s:=fun s=>by
   rw [← hfil2];refine J4 (fun i s=>Ao C rec pc N ops S nf i s) (F1 (AO ops) lo m v) lo hi lp hlpn hlpm hlo (fun i h => ?_) ?_ s
   ·unfold F1 at h;simp only [zC,decide_eq_true_eq] at h;exact h.1
   ·refine hopen.imp_of_mem fun {x y} hx hy h hlt px py s => ?_;have hne:∀z,F1 (AO ops) lo m v z=true→z≠m:=fun z hz=>by unfold F1 at hz;simp only [zC,bne_iff_ne] at hz;exact hz.2.1
    exact hcom x y ((hlpm x).1 hx).2 ((hlpm y).1 hy).1 hlt (h hlt) (hne x px) (hne y py) s
  rw [xH];have h2:=LN (fun i s=>Ao C rec pc N ops S nf i s) p l2 (by
   have h1:=hopen;rw [e,List.pairwise_append] at h1;have h1:=(wC.1 h1.2.1).2;refine h1.imp_of_mem fun {x y} hx hy h px py s => ?_;obtain ⟨hx1,hx2⟩:=(hlpm x).1 (by rw [e];simp [hx]);obtain ⟨hy1,hy2⟩:=(hlpm y).1 (by rw [e];simp [hy]);have hxm:x≠m:=fun h=>n2 (h ▸ hx);have hym:y≠m:=fun h=>n2 (h ▸ hy);rcases Nat.lt_trichotomy y x with hlt3|heq|hgt
   ·exact hcom x y hx2 hy1 hlt3 (h hlt3) hxm hym s
   ·subst heq;exact absurd py (by rw [px];simp)
   ·have hd:=(zG.1 hdv) y (xV.2 hy2);have py':Jg (AO ops) lo m v y=true:=py;have px':Jg (AO ops) lo m v x=false:=px;rw [py',Bool.not_true,Bool.false_or] at hd;have hd:=(zG.1 hd) x (xV.2 hx2);rw [px'] at hd;simp only [yX,decide_eq_true_eq,zD,false_or] at hd;have hd:=hd.resolve_left (by omega);exact (hcom y x hy2 hx1 hgt (by simpa using hd) hym hxm s).symm) s
  rw [xH] at h2;rw [← h2];congr 1;funext s';exact (hs s').symm
 have hgo:g m=o:=by have h1:=Aq (show m<ops.size by omega);rw [ho] at h1;exact (Option.some.inj h1).symm
 unfold Te at hkv;have hk2:Bw C rec pc N ops S nf (l1++l2.filter p) env h (fun env' h'=>Ni C rec pc N ops S o env' h' fun env2 h2=>Bw C rec pc N ops S nf ((List.range hi).filter (F1 (AO ops) lo m v)) env2 h2 K)=some r:=by rw [BE] at hkv ⊢;rw [hrun];exact hkv
 have hlm:Cw C ops (some m) m=true:=by unfold Cw;simp
 obtain ⟨hd,hk3⟩:=Ng (fun _ _ _ K1 hE=>MQ C rec pc hcv hE K1) (fun y hy=>by
  rw [xR] at hy;obtain ⟨hy,py⟩:=hy;obtain ⟨_,hne,hnm,hnu⟩:=hpd y py;obtain ⟨hy1,hy2⟩:=(hlpm y).1 (by rw [e];simp [hy]);have ey:=Aq (show y<ops.size by omega);have hip:LV m u m y=false∧LV m u y m=false:=by
   unfold LV;cases hu:u with
   |none=>exact ⟨rfl,rfl⟩
   |some u'=>
    have:y≠u':=fun h=>hnu u' (hvu u' hu (h ▸ hy)) h;simp [hne,this]
  have hquiet:(Cw C ops (some m) y)=false→Ae C (g y).op=false:=fun hq=>by unfold Cw BQ at hq;rw [ey] at hq;rw [yW,yW] at hq;exact hq.1.1
  rcases Nat.lt_or_gt_of_ne hne with hlt3|hlt3
  ·have hno:=H7 hopen e hy hlt3;obtain ⟨hnl,q1,q2,q3,f1,f2⟩:=hpair m y hm2 hy1 hlt3 hno hip.2;rw [hgo] at q1 q2 q3;refine ⟨g y,ey,hquiet ?_,f1 hlm,q3,fun d hd hd2=>q2 d hd2 hd,q1⟩;rw [hlm,Bool.and_true] at hnl;exact hnl
  ·obtain ⟨hnl,q1,q2,q3,f1,f2⟩:=hpair y m hy2 hm1 hlt3 hnm hip.1;rw [hgo] at q1 q2 q3;refine ⟨g y,ey,hquiet ?_,f2 hlm,q1,q2,q3⟩;rw [hlm,Bool.true_and] at hnl;exact hnl) hk2
 have hjoin:∀(e1:Env) (h1:Heap),Bw C rec pc N ops S nf (l2.filter p) e1 h1 (fun env2 h2=>Bw C rec pc N ops S nf ((List.range hi).filter (F1 (AO ops) lo m v)) env2 h2 K)=Bw C rec pc N ops S nf l2 e1 h1 K:=fun e1 h1=>by
  rw [BE,BE,← hrun2,xH];cases (l2.filter p).foldlM (fun s i=>Ao C rec pc N ops S nf i s) (e1,h1) with
  |none=>rfl
  |some s'=>exact BE C rec pc N ops S nf _ s'.1 s'.2 K
 have hl1lt:∀i∈l1,i<ops.size:=fun i hi=>hlt i (by rw [e];simp [hi]);have hl2lt:∀i∈l2,i<ops.size:=fun i hi=>hlt i (by rw [e];simp [hi]);have hdm:∀i,i∉ops.toList.filterMap (·.dst)→∀d,o.dst=some d→d≠i:=fun i hni d hd' e'=>hni (by subst e';rw [xS];exact ⟨o,yA (i:=m) (by rw [yU];exact ho),hd'⟩)
 rw [e,zH];refine Cy hrec hpc ops S _ Q n ro (m::l2++rest) l1 hk3 hr fun env1 h1 κ1 a1 w1 k1 k2 k3 k4 k5 k6 => ?_;simp only [xB,wpOpsIn,ho];have hpd:∀val,(a1.put o.dst val).defers=a1.defers:=fun val=>by cases o.dst<;>rfl
 rcases IE k1 k2 with ⟨hw,hk4⟩|⟨hw,hk4⟩
 ·simp only [hw,if_true];refine step_ok hrec hpc o hk4 k2 _ Q n ro fun v' h' κ' val w' g1 g2 g3 g4 g5 => ?_;obtain ⟨_,g1,_⟩:=EH g1;rw [hjoin] at g1;refine Cy hrec hpc ops S _ Q n ro rest l2 g1 (FO k2 g3 g4 g2 o hd) fun env2 h2 κ2 a2 w2 j1 j2 j3 j4 j5 j6 => ?_;refine hcont env2 h2 κ2 a2 w2 j1 j2 ((k3.trans g4).trans j3) (fun i hni => ?_) ((j5.trans (hpd _)).trans k5);exact (j4 i (hsub l2 hl2lt i hni)).trans ((Cv fun d hd'=>hdm i hni d hd').trans (k4 i (hsub l1 hl1lt i hni)))
 ·simp only [hw,zD,if_false];simp only [AB] at hk4;obtain ⟨_,hk4⟩:=AG hk4;rw [hjoin] at hk4;refine ⟨fun _ _=>trivial,?_⟩;refine Cy hrec hpc ops S _ Q n ro rest l2 hk4 (FO k2 k2.heap (Ext.refl _ _ _) (.tuple _ _ rfl fun j x hx=>by simp at hx) o hd) fun env2 h2 κ2 a2 w2 j1 j2 j3 j4 j5 j6 => ?_;refine hcont env2 h2 κ2 a2 w2 j1 j2 (k3.trans j3) (fun i hni => ?_) ((j5.trans (hpd _)).trans k5);exact (j4 i (hsub l2 hl2lt i hni)).trans ((Cv fun d hd'=>hdm i hni d hd').trans (k4 i (hsub l1 hl1lt i hni)))
theorem seg_ok {C:Cfg} {rec:Rec} {pc:BN} (hrec:EB C.P rec) (hpc:CW C.P pc) {ops:Array Oper} {K:Env→Heap→Option R} {r:R} {lo hi:Nat} (hle:hi≤ops.size) (hlo:lo≤hi)
  (lp:List Nat) (hlpn:lp.Nodup) (hlpm:∀i,i∈lp↔lo≤i∧i<hi) (hopen:lp.Pairwise fun x y=>y<x→¬((AO ops).getD x 0).testBit y=true)
  (hk:segK C rec pc N ops (AO ops) lo hi env h K=some r) (hr:Rel B N κ env h a w) (Q:Exit→Act→World→Prop) (n:Nat) (ro:Option Nat) (rest:List Nat)
  (hcont:∀env1 h1 κ1 a1 w1,K env1 h1=some r→Rel B N κ1 env1 h1 a1 w1→Ext κ h w κ1 h1 w1→(∀i,i∉ops.toList.filterMap (·.dst)→env1 i=env i)→a1.defers=a.defers→wpOpsIn (Fr ro) n C.P ops Q rest a1 w1) :
  wpOpsIn (Fr ro) n C.P ops Q (lp++rest) a w:=by
 let g:Nat→Oper:=fun i=>ops.getD i default;have hlt:∀i∈lp,i<ops.size:=fun i hi=>by have:=(hlpm i).1 hi;omega
 have hsub:∀(l:List Nat),(∀i∈l,i<ops.size)→∀i,i∉ops.toList.filterMap (·.dst)→i∉(l.map g).filterMap (·.dst):=fun l hl i hni hm=>hni (by rw [xS] at hm ⊢;obtain ⟨o,ho,hd⟩:=hm;obtain ⟨x,hx,rfl⟩:=xT.1 ho;refine ⟨g x,?_,hd⟩;have:=Aq (hl x hx);exact yA (i:=x) (by rw [yU];exact this))
 have hpair:∀(m0:Option Nat),L9 C ops (AO ops) lo hi m0=true→∀x y,x<hi→lo≤y→y<x→¬((AO ops).getD x 0).testBit y=true→
   (Cw C ops m0 y&&Cw C ops m0 x)=false∧(∀d,(g y).dst=some d→d∉(g x).looksAt ops)∧(∀d,(g y).dst=some d→(g x).dst≠some d)∧(∀d,(g x).dst=some d→d∉(g y).looksAt ops)∧
   (Cw C ops m0 x=true→nf3 C ops (AO ops) lo hi m0 y=true)∧(Cw C ops m0 y=true→nf3 C ops (AO ops) lo hi m0 x=true):=fun m0 hso x y hx hloy hlt2 h2=>by
  unfold L9 at hso;rw [zC] at hso;have h0:=(zG.1 hso.1) x (xV.2 hx);have h1:((List.range x).all fun i=>decide (i<lo)||((AO ops).getD x 0).testBit i||(!(Cw C ops m0 i&&Cw C ops m0 x)&&(match ops[i]?,ops[x]? with
   |some x,some y=>x.apart ops y
   |_,_=>false)))=true:=by
   simp only [yX,decide_eq_true_eq] at h0;have:=h0.resolve_left (by omega);rw [zG] at this ⊢;intro i hi;rw [Bool.or_assoc];exact this i hi
  have h1:=(zG.1 h1) y (xV.2 hlt2);have ex:=Aq (show x<ops.size by omega);have ey:=Aq (show y<ops.size by omega);rw [ex,ey] at h1;simp only [yX,zC,yV,decide_eq_true_eq] at h1;obtain ⟨hnl,hap⟩:=h1.resolve_left (fun q=>q.elim (fun q=>by omega) h2);obtain ⟨q1,q2,q3⟩:=Oper.apart_spec hap;have hun:ED (AO ops) x y=true:=by unfold ED;rw [if_neg (by omega)];simpa using h2
  have hun':ED (AO ops) y x=true:=by unfold ED;rw [if_pos hlt2];simpa using h2
  refine ⟨hnl,q1,q2,q3,fun hlx => ?_,fun hly => ?_⟩
  ·unfold nf3;refine yY.2 ⟨x,xV.2 hx,?_⟩;simp only [zC,bne_iff_ne,decide_eq_true_eq];exact ⟨by omega,⟨hlx,by omega⟩,hun'⟩
  ·unfold nf3;refine yY.2 ⟨y,xV.2 (by omega),?_⟩;simp only [zC,bne_iff_ne,decide_eq_true_eq];exact ⟨by omega,⟨hly,by omega⟩,hun⟩
 have hcom:∀(m0:Option Nat) (S:List Nat),L9 C ops (AO ops) lo hi m0=true→∀x y,x<hi→lo≤y→y<x→¬((AO ops).getD x 0).testBit y=true→∀s:Env×Heap,(Ao C rec pc N ops S (nf3 C ops (AO ops) lo hi m0) x s).bind (Ao C rec pc N ops S (nf3 C ops (AO ops) lo hi m0) y)=(Ao C rec pc N ops S (nf3 C ops (AO ops) lo hi m0) y s).bind (Ao C rec pc N ops S (nf3 C ops (AO ops) lo hi m0) x):=fun m0 S hso x y hx hloy hlt2 h2 s=>by
  obtain ⟨hnl,q1,q2,q3,n1,n2⟩:=hpair m0 hso x y hx hloy hlt2 h2;have ex:=Aq (show x<ops.size by omega);have ey:=Aq (show y<ops.size by omega);have l3:∀z,z<ops.size→Ae C (g z).op=true→Cw C ops m0 z=true:=fun z hz hl=>by unfold Cw BQ;rw [Aq hz];have hl':Ae C (ops.getD z default).op=true:=hl;show ((Ae C (ops.getD z default).op||Cl C (ops.getD z default).op)||_)=true;rw [hl'];rfl
  cases hlx:Ae C (g x).op with
  |true=>
   have hlx':=l3 x (by omega) hlx;have hly:Ae C (g y).op=false:=by
    cases hly:Ae C (g y).op with
    |false=>rfl
    |true=>
     rw [hlx',l3 y (by omega) hly] at hnl;cases hnl
   exact D8 C rec pc N ops S _ ex ey q3 (fun d hd hd2=>q2 d hd2 hd) q1 hlx hly (n1 hlx') s
  |false=>
   cases hly:Ae C (g y).op with
   |true=>exact (D8 C rec pc N ops S _ ey ex q1 q2 q3 hly hlx (n2 (l3 y (by omega) hly)) s).symm
   |false=>exact (Gt C rec pc N ops S _ ey ex q1 q2 q3 hly hlx s).symm
 unfold segK at hk;split at hk
 ·rename_i m0 hmc;split at hk
  ·rename_i o ho;by_cases hsf:L9 C ops (AO ops) lo hi (some m0)=false
   ·rw [if_pos hsf] at hk;simp only [AB] at hk;obtain ⟨⟨hso,hcv⟩,hk1⟩:=AG hk;generalize looks C.P ops (nfS C ops (AO ops) lo hi m0) hi env h=S at hk1;cases hu:ordU C ops (AO ops) lo hi m0 with
    |none=>
     rw [hu] at hk1 hso;exact YH hrec hpc hle hlo ho lp hlpn hlpm hopen hso hcv hk1 (fun u' e=>by cases e) hr Q n ro rest hcont
    |some u=>
     rw [hu] at hk1 hso;obtain ⟨hA,hB⟩:=I1 hk1;exact YH hrec hpc hle hlo ho lp hlpn hlpm hopen hso hcv hA (fun u' e=>by cases e;exact hB) hr Q n ro rest hcont
   rw [if_neg hsf] at hk;simp only [AB] at hk;obtain ⟨⟨hso,hcv⟩,hk1⟩:=AG hk;generalize looks C.P ops (nfS C ops (AO ops) lo hi m0) hi env h=S at hk1;have hso2:=hso;unfold L9 at hso2;simp only [zC,decide_eq_true_eq] at hso2;obtain ⟨_,⟨hm1,hm2⟩,hnone⟩:=hso2;have hnone:∀j,lo≤j→j<hi→¬((AO ops).getD j 0).testBit m0=true:=fun j hj1 hj2=>by have:=(zG.1 hnone) j (xV.2 hj2);simp only [yX,decide_eq_true_eq] at this;simpa using this.resolve_left (by omega)
   have hgo:g m0=o:=by have h1:=Aq (show m0<ops.size by omega);rw [ho] at h1;exact (Option.some.inj h1).symm
   obtain ⟨l1,l2,e⟩:=xA ((hlpm m0).2 ⟨hm1,hm2⟩);have hn':=hlpn;rw [e,xY,xZ] at hn';obtain ⟨n1,⟨n2,n3⟩,n4⟩:=hn';have hfil:lp.filter (fun i=>decide (lo≤i)&&i != m0)=l1++l2:=by
    have hall:∀x∈lp,lo≤x:=fun x hx=>((hlpm x).1 hx).1;rw [e] at hall;rw [e,xD,xE (by simp),xG.2 (fun x hx=>by have:=n4 x hx m0 (by simp);have:=hall x (by simp [hx]);simp [*]),xG.2 (fun x hx=>by have:x≠m0:=fun h=>n2 (h ▸ hx);have:=hall x (by simp [hx]);simp [*])]
   have hrun:∀s:Env×Heap,(l1++l2).foldlM (fun s i=>Ao C rec pc N ops S (nf3 C ops (AO ops) lo hi (some m0)) i s) s=((List.range hi).filter fun i=>decide (lo≤i)&&i != m0).foldlM (fun s i=>Ao C rec pc N ops S (nf3 C ops (AO ops) lo hi (some m0)) i s) s:=fun s=>by rw [← hfil];refine J4 (fun i s=>Ao C rec pc N ops S (nf3 C ops (AO ops) lo hi (some m0)) i s) _ lo hi lp hlpn hlpm hlo (fun i h=>by simp only [zC,decide_eq_true_eq] at h;exact h.1) ?_ s;refine hopen.imp_of_mem fun {x y} hx hy h hlt px py s => ?_;exact hcom (some m0) S hso x y ((hlpm x).1 hx).2 ((hlpm y).1 hy).1 hlt (h hlt) s
   have hk2:Bw C rec pc N ops S (nf3 C ops (AO ops) lo hi (some m0)) (l1++l2) env h (fun env' h'=>Ni C rec pc N ops S o env' h' K)=some r:=by rw [BE] at hk1 ⊢;rw [hrun];exact hk1
   have hlm:Cw C ops (some m0) m0=true:=by unfold Cw;simp
   obtain ⟨hd,hk3⟩:=Ng (fun _ _ _ K1 hE=>MQ C rec pc hcv hE K1) (fun y hy=>by
    have hne:y≠m0:=fun h=>n2 (h ▸ hy);obtain ⟨hy1,hy2⟩:=(hlpm y).1 (by rw [e];simp [hy]);have ey:=Aq (show y<ops.size by omega);have hquiet:(Cw C ops (some m0) y)=false→Ae C (g y).op=false:=fun hq=>by unfold Cw BQ at hq;rw [ey] at hq;rw [yW,yW] at hq;exact hq.1.1
    rcases Nat.lt_or_gt_of_ne hne with hlt3|hlt3
    ·have hno:=H7 hopen e hy hlt3;obtain ⟨hnl,q1,q2,q3,f1,f2⟩:=hpair (some m0) hso m0 y hm2 hy1 hlt3 hno;rw [hgo] at q1 q2 q3;refine ⟨g y,ey,hquiet ?_,f1 hlm,q3,fun d hd hd2=>q2 d hd2 hd,q1⟩;rw [hlm,Bool.and_true] at hnl;exact hnl
    ·have hno:=hnone y hy1 hy2;obtain ⟨hnl,q1,q2,q3,f1,f2⟩:=hpair (some m0) hso y m0 hy2 hm1 hlt3 hno;rw [hgo] at q1 q2 q3;refine ⟨g y,ey,hquiet ?_,f2 hlm,q1,q2,q3⟩;rw [hlm,Bool.true_and] at hnl;exact hnl) hk2
   have hl1lt:∀i∈l1,i<ops.size:=fun i hi=>hlt i (by rw [e];simp [hi]);have hl2lt:∀i∈l2,i<ops.size:=fun i hi=>hlt i (by rw [e];simp [hi]);have hdm:∀i,i∉ops.toList.filterMap (·.dst)→∀d,o.dst=some d→d≠i:=fun i hni d hd' e'=>hni (by subst e';rw [xS];exact ⟨o,yA (i:=m0) (by rw [yU];exact ho),hd'⟩)
   rw [e,zH];refine Cy hrec hpc ops S _ Q n ro (m0::l2++rest) l1 hk3 hr fun env1 h1 κ1 a1 w1 k1 k2 k3 k4 k5 k6 => ?_;simp only [xB,wpOpsIn,ho];have hpd:∀val,(a1.put o.dst val).defers=a1.defers:=fun val=>by cases o.dst<;>rfl
   rcases IE k1 k2 with ⟨hw,hk4⟩|⟨hw,hk4⟩
   ·simp only [hw,if_true];refine step_ok hrec hpc o hk4 k2 _ Q n ro fun v h' κ' val w' g1 g2 g3 g4 g5 => ?_;obtain ⟨_,g1,_⟩:=EH g1;refine Cy hrec hpc ops S _ Q n ro rest l2 g1 (FO k2 g3 g4 g2 o hd) fun env2 h2 κ2 a2 w2 j1 j2 j3 j4 j5 j6 => ?_;refine hcont env2 h2 κ2 a2 w2 j1 j2 ((k3.trans g4).trans j3) (fun i hni => ?_) ((j5.trans (hpd _)).trans k5);exact (j4 i (hsub l2 hl2lt i hni)).trans ((Cv fun d hd'=>hdm i hni d hd').trans (k4 i (hsub l1 hl1lt i hni)))
   ·simp only [hw,zD,if_false];simp only [AB] at hk4;obtain ⟨_,hk4⟩:=AG hk4;refine ⟨fun _ _=>trivial,?_⟩;refine Cy hrec hpc ops S _ Q n ro rest l2 hk4 (FO k2 k2.heap (Ext.refl _ _ _) (.tuple _ _ rfl fun j x hx=>by simp at hx) o hd) fun env2 h2 κ2 a2 w2 j1 j2 j3 j4 j5 j6 => ?_;refine hcont env2 h2 κ2 a2 w2 j1 j2 (k3.trans j3) (fun i hni => ?_) ((j5.trans (hpd _)).trans k5);exact (j4 i (hsub l2 hl2lt i hni)).trans ((Cv fun d hd'=>hdm i hni d hd').trans (k4 i (hsub l1 hl1lt i hni)))
  ·cases hk
 ·rename_i hmc;simp only [AB] at hk;obtain ⟨hso,hk1⟩:=AG hk;generalize looks C.P ops (nf3 C ops (AO ops) lo hi none) hi env h=S at hk1;have hfil:lp.filter (fun i=>decide (lo≤i))=lp:=xG.2 fun x hx=>by simpa using ((hlpm x).1 hx).1
  have hrun:∀s:Env×Heap,lp.foldlM (fun s i=>Ao C rec pc N ops S (nf3 C ops (AO ops) lo hi none) i s) s=((List.range hi).filter fun i=>decide (lo≤i)).foldlM (fun s i=>Ao C rec pc N ops S (nf3 C ops (AO ops) lo hi none) i s) s:=fun s=>by have:=J4 (fun i s=>Ao C rec pc N ops S (nf3 C ops (AO ops) lo hi none) i s) (fun i=>decide (lo≤i)) lo hi lp hlpn hlpm hlo (fun i h=>by simpa using h) (hopen.imp_of_mem fun {x y} hx hy h hlt px py s=>hcom none S hso x y ((hlpm x).1 hx).2 ((hlpm y).1 hy).1 hlt (h hlt) s) s;rw [hfil] at this;exact this
  have hk2:Bw C rec pc N ops S (nf3 C ops (AO ops) lo hi none) lp env h K=some r:=by rw [BE] at hk1 ⊢;rw [hrun];exact hk1
  refine Cy hrec hpc ops S _ Q n ro rest lp hk2 hr fun env1 h1 κ1 a1 w1 k1 k2 k3 k4 k5 k6 => ?_;exact hcont env1 h1 κ1 a1 w1 k1 k2 k3 (fun i hni=>k4 i (hsub lp hlt i hni)) k5
theorem Ps (k:Nat):∀(l:List Nat),(l.Pairwise fun x y=>¬(k≤x∧y<k))→l=(l.filter fun i=>decide (i<k))++l.filter fun i => !decide (i<k)
 |[],_=>rfl
 |x::l,h=>by
  obtain ⟨h1,h2⟩:=wC.1 h;by_cases hx:x<k
  ·rw [xF (by simpa using hx),xE (by simpa using hx),xB,← Ps k l h2]
  ·have e:l.filter (fun i=>decide (i<k))=[]:=by rw [List.filter_eq_nil_iff];intro y hy;have:=h1 y hy;simp only [decide_eq_true_eq];omega
   have e2:l.filter (fun i => !decide (i<k))=l:=xG.2 fun y hy=>by have:=h1 y hy;simp;omega
   rw [xE (by simpa using hx),xF (by simpa using hx),e,e2,xX]
theorem Uq {C:Cfg} {rec:Rec} {pc:BN} (hrec:EB C.P rec) (hpc:CW C.P pc) {ops:Array Oper} {K:Env→Heap→Option R} {r:R} {m:Nat} (hff:D3 (AO ops) ops.size m=true) (hle:m≤ops.size) (Q:Exit→Act→World→Prop) (n:Nat) (ro:Option Nat) :
  ∀(ks:List Nat) (lo:Nat) (l:List Nat) {env:Env} {h:Heap} {κ:BB} {a:Act} {w:World},Lf (AO ops) ops.size m ks lo=true→l.Nodup→(∀i,i∈l↔lo≤i∧i<ops.size)→
   (∀l1 x l2,l=l1++x::l2→∀y,lo≤y→((AO ops).getD x 0).testBit y=true→y∈l1)→
   PE C rec pc N ops (AO ops) ks lo env h K=some r→Rel B N κ env h a w→
   (∀env1 h1 κ1 a1 w1,K env1 h1=some r→Rel B N κ1 env1 h1 a1 w1→Ext κ h w κ1 h1 w1→(∀i,i∉ops.toList.filterMap (·.dst)→env1 i=env i)→a1.defers=a.defers→wpOpsIn (Fr ro) n C.P ops Q (List.range' m (ops.size-m)) a1 w1)→
   wpOpsIn (Fr ro) n C.P ops Q l a w
 |[],lo,l,env,h,κ,a,w,hc,hn,hm,hord,hk,hr,hcont=>by
  unfold Lf at hc;have hlo:lo=m:=by simpa using hc
  subst hlo;have hmem:∀i,i∈List.range lo++l↔i<lo+(ops.size-lo):=fun i=>by rw [xO,xV,hm];omega
  have hnd:(List.range lo++l).Nodup:=by rw [xY];refine ⟨wB,hn,fun x hx y hy h => ?_⟩;have:=xV.1 hx;have:=(hm y).1 hy;omega
  obtain ⟨lp,hL,hlpn,hlpm⟩:=F4 (n:=lo) (ops.size-lo) (List.range lo++l) hnd hmem (fun l1 x l2 e hx y hy=>by
   have hxs:x<ops.size:=by have:=(hmem x).1 (by rw [e];simp);omega
   have hxl:x∈l:=by
    have:x∈List.range lo++l:=by rw [e];simp
    rcases xO.1 this with h|h
    ·have:=xV.1 h;omega
    ·exact h
   obtain ⟨b1,b2,eb⟩:=xA hxl;have e3:List.range lo++l=(List.range lo++b1)++x::b2:=by rw [eb,zH]
   have e4:l1=List.range lo++b1:=by
    have hnx:∀{u1 u2 v1 v2:List Nat},(u1++x::u2).Nodup→u1++x::u2=v1++x::v2→u1=v1:=by
     intro u1
     induction u1 with
     |nil=>
      intro u2 v1 v2 hn he;cases v1 with
      |nil=>rfl
      |cons z v1=>
       simp only [xX,xB,List.cons.injEq] at he;obtain ⟨h1,h2⟩:=he;simp only [xX,xZ] at hn;exact absurd (by rw [h2];simp) hn.1
     |cons z u1 ih=>
      intro u2 v1 v2 hn he;cases v1 with
      |nil=>
       simp only [xX,xB,List.cons.injEq] at he;obtain ⟨h1,h2⟩:=he;simp only [xB,xZ] at hn;exact absurd (by rw [h1];simp) hn.1
      |cons z' v1=>
       simp only [xB,List.cons.injEq] at he;obtain ⟨h1,h2⟩:=he;simp only [xB,xZ] at hn;rw [h1,ih hn.2 h2]
    rw [e] at hnd e3;exact hnx hnd e3
   rw [e4];by_cases hyl:y<lo
   ·exact xO.2 (.inl (xV.2 hyl))
   ·have h1:=(zG.1 hff) x (xV.2 hxs);have h2:(AO ops).getD x 0=2 ^ x-1:=by simp only [yX,decide_eq_true_eq,beq_iff_eq] at h1;exact h1.resolve_left (by omega)
    refine xO.2 (.inr (hord b1 x b2 eb y (by omega) ?_));rw [h2,Nat.testBit_two_pow_sub_one];simpa using hy)
  have hlen:lp.length=(List.range lo).length:=by
   have h1:=congrArg length hL;have h2:l.length=ops.size-lo:=by
    have h3:(List.range lo++l).length=ops.size:=by
     have hp:(List.range lo++l).Perm (List.range ops.size):=by refine (List.perm_ext_iff_of_nodup hnd wB).2 fun i => ?_;rw [hmem,xV];omega
     rw [hp.length_eq,xL]
    simp only [zV,xL] at h3;omega
   simp only [zV,xL,List.length_range'] at h1 ⊢;omega
  have hl:l=List.range' lo (ops.size-lo):=(List.append_inj hL hlen.symm).2;rw [hl];unfold PE at hk;exact hcont env h κ a w hk hr (Ext.refl _ _ _) (fun _ _=>rfl) rfl
 |k::ks,lo,l,env,h,κ,a,w,hc,hn,hm,hord,hk,hr,hcont=>by
  unfold Lf at hc;simp only [zC,decide_eq_true_eq] at hc;obtain ⟨⟨hlk,hkm⟩,hcut,hc⟩:=hc;have hbit:∀x,k≤x→x<ops.size→∀y,y<k→((AO ops).getD x 0).testBit y=true:=fun x hx hxs y hy=>by unfold cutAt at hcut;have:=(zG.1 hcut) x (xV.2 hxs);simp only [yX,decide_eq_true_eq] at this;exact (zG.1 (this.resolve_left (by omega))) y (xV.2 hy)
  have hpw:l.Pairwise fun x y=>¬(k≤x∧y<k):=Rz l fun l1 x l2 y e hy hh=>by have hx:=(hm x).1 (by rw [e];simp);have hyl:=(hm y).1 (by rw [e];simp [hy]);have hy1:=hord l1 x l2 e y hyl.1 (hbit x hh.1 hx.2 y hh.2);rw [e,xY] at hn;exact hn.2.2 y hy1 y (by simp [hy]) rfl
  have hsplit:=Ps k l hpw;generalize hlp:(l.filter fun i=>decide (i<k))=lp at hsplit;generalize hlr:(l.filter fun i => !decide (i<k))=lr at hsplit;have hlpm:∀i,i∈lp↔lo≤i∧i<k:=fun i=>by rw [← hlp,xR,hm,decide_eq_true_eq];omega
  have hlrm:∀i,i∈lr↔k≤i∧i<ops.size:=fun i=>by rw [← hlr,xR,hm];simp;omega
  have hnn:=hn;rw [hsplit,xY] at hnn;rw [hsplit];unfold PE at hk;refine seg_ok hrec hpc (by omega) (by omega) lp hnn.1 hlpm (Rz lp fun l1 x l2 y e hy hlt2 hb => ?_) hk hr Q n ro lr fun env1 h1 κ1 a1 w1 k1 k2 k3 k4 k5 => ?_
  ·have hyl:=(hlpm y).1 (by rw [e];simp [hy]);have hy1:=hord l1 x (l2++lr) (by rw [hsplit,e];simp) y hyl.1 hb;have:=hnn.1;rw [e,xY] at this;exact this.2.2 y hy1 y (by simp [hy]) rfl
  ·refine Uq hrec hpc hff hle Q n ro ks k lr hc hnn.2.1 hlrm (fun l1 x l2 e y hy hb => ?_) k1 k2 fun env2 h2 κ2 a2 w2 j1 j2 j3 j4 j5=>hcont env2 h2 κ2 a2 w2 j1 j2 (k3.trans j3) (fun i hi=>(j4 i hi).trans (k4 i hi)) (j5.trans k5);have hy1:=hord (lp++l1) x l2 (by rw [hsplit,e,zH]) y (by omega) hb;rcases xO.1 hy1 with h|h
   ·have:=(hlpm y).1 h;omega
   ·exact h
theorem NK {C:Cfg} {rec:Rec} {pc:BN} (hrec:EB C.P rec) (hpc:CW C.P pc) (hmix:C.P.follows .mixedOrders=true) {id:Nat} {ops:Array Oper} {K:Env→Heap→Option R} {r:R} {m:Nat} {ks:List Nat}
  (hcs:Lf (AO ops) ops.size m ks 0=true) (hff:D3 (AO ops) ops.size m=true) (hed:G4 ops=true) (hle:m≤ops.size)
  (hk1:PE C rec pc N ops (AO ops) ks 0 env h (fun env' h'=>EO C rec pc N false ops (ops.toList.drop m) env' h' K)=some r)
  (hr:Rel B N κ env h a w) (Q:Exit→Act→World→Prop) (n:Nat) (ro:Option Nat)
  (hn:Kt B N κ h w false ops.toList env a K r fun a' w'=>Q .normal a' w'):(Code.region id ops true).wpIn (Fr ro) n C.P Q a w:=by
 refine wpIn_region_draw fun t => ?_;have hsch:Region.schedule (C.P.follows .mixedOrders) ops t=Region.linearise .any ops t:=by simp only [Region.schedule,hmix,Bool.true_or,if_true]
 rw [hsch];obtain ⟨p1,p2,p3,p4⟩:=Hu hed (FA ops t) (fun i hi=>by cases hi);have hx0:=IK hr.heap;refine Uq hrec hpc hff hle Q n ro ks 0 (Region.linearise .any ops t) hcs p1 (fun i => ?_) (fun l1 x l2 e y _ hb=>(p4 l1 x l2 e y hb).resolve_left (by simp)) hk1 (KB hr) fun env1 h1 κ1 a1 w1 k1 k2 k3 k4 k5 => ?_
 ·constructor
  ·intro hi;exact ⟨zero_le _,(p2 i hi).2⟩
  ·intro hi;exact (p3 i hi.2).resolve_left (by simp)
 ·have:=I3 hrec hpc ops Q n ro [] (ops.toList.drop m) (List.range' m (ops.size-m)) (by simp) (fun j i o hj ho=>by
   have hjl:j<ops.size-m:=by simpa using AU hj
   rw [List.getElem?_range' hjl] at hj;cases hj;rw [zN] at ho;simpa using ho) k1 k2 (fun env2 h2 κ2 a2 w2 j1 j2 j3 j4 j5 j6=>by
    refine hn env2 h2 κ2 a2 w2 j1 j2 ((hx0.trans k3).trans j3) (fun i hni => ?_) (j5.trans k5) (fun e=>by cases e);have hsub1:i∉(ops.toList.drop m).filterMap (·.dst):=fun hm=>hni (by rw [xS] at hm ⊢;obtain ⟨o,ho,hd⟩:=hm;exact ⟨o,xU ho,hd⟩)
    exact (j4 i hsub1).trans (k4 i hni))
  simpa using this
theorem PG {C:Cfg} {rec:Rec} {pc:BN} (hrec:EB C.P rec) (hpc:CW C.P pc) (hmix:C.P.follows .mixedOrders=true) {id:Nat} {ops:Array Oper} {draw:Bool} {K:Env→Heap→Option R} {r:R}
  (hk:Mi C rec pc N ops draw env h K=some r) (hr:Rel B N κ env h a w) (Q:Exit→Act→World→Prop) (n:Nat) (ro:Option Nat)
  (hn:Kt B N κ h w false ops.toList env a K r fun a' w'=>Q .normal a' w'):(Code.region id ops draw).wpIn (Fr ro) n C.P Q a w:=by
 unfold Mi at hk
 try simp only [AB] at hk
 cases draw with
 |false=>
  simp only [zD,if_false] at hk;refine wpIn_region ?_;have:=I3 hrec hpc ops Q n ro [] ops.toList (List.range ops.size) (by simp) (fun j i o hj ho=>by
   have hjl:j<ops.size:=by simpa using AU hj
   rw [zR hjl] at hj;cases hj;simpa using ho) hk hr hn
  simpa using this
 |true=>
  simp only [if_true] at hk;split at hk
  ·rename_i i0 j0 heq0;obtain ⟨⟨hp,hff,hed,hle⟩,hk1⟩:=AG hk;obtain ⟨hA,hB⟩:=I1 hk1;exact NL hrec hpc hmix hp hff hed hle hA hB hr Q n ro hn
  split at hk
  ·rename_i heqm;obtain ⟨⟨hcs,hff,hed,hle⟩,hk1⟩:=AG hk;exact NK hrec hpc hmix hcs hff hed hle hk1 hr Q n ro hn
  obtain ⟨⟨hdo,hff,hed,hle⟩,hk1⟩:=AG hk;clear hk;refine wpIn_region_draw fun t => ?_;have hsch:Region.schedule (C.P.follows .mixedOrders) ops t=Region.linearise .any ops t:=by simp only [Region.schedule,hmix,Bool.true_or,if_true]
  rw [hsch];generalize Pp (AO ops) ops.size=m at *;generalize hS:looks C.P ops (An C ops (AO ops) m) m env h=S at *;clear hS;obtain ⟨p1,p2,p3,p4⟩:=Hu hed (FA ops t) (fun i hi=>by cases hi);obtain ⟨lp,hL,hlpn,hlpm⟩:=F4 (n:=m) (ops.size-m) (Region.linearise .any ops t) p1 (fun i=>by
   constructor
   ·intro hi;have:=(p2 i hi).2;omega
   ·intro hi;exact (p3 i (by omega)).resolve_left (by simp)) (fun l1 x l2 e hx y hy=>by
    have hxs:x<ops.size:=(p2 x (by rw [e];simp)).2;have h1:=(zG.1 hff) x (xV.2 hxs);have h2:(AO ops).getD x 0=2 ^ x-1:=by simp only [yX,decide_eq_true_eq,beq_iff_eq] at h1;exact h1.resolve_left (by omega)
    refine (p4 l1 x l2 e y ?_).resolve_left (by simp);rw [h2,Nat.testBit_two_pow_sub_one];simpa using hy)
  rw [hL];let g:Nat→Oper:=fun i=>ops.getD i default;have hlt:∀i∈lp,i<ops.size:=fun i hi=>by have:=(hlpm i).1 hi;omega
  have hpair:∀x y,x<m→y<x→¬((AO ops).getD x 0).testBit y=true→
    (BQ C ops y&&BQ C ops x)=false∧(∀d,(g y).dst=some d→d∉(g x).looksAt ops)∧(∀d,(g y).dst=some d→(g x).dst≠some d)∧(∀d,(g x).dst=some d→d∉(g y).looksAt ops)∧
    (BQ C ops x=true→An C ops (AO ops) m y=true)∧(BQ C ops y=true→An C ops (AO ops) m x=true):=fun x y hx hlt2 h2=>by
   have h1:=(zG.1 ((zG.1 hdo) x (xV.2 hx))) y (xV.2 hlt2);have ex:=Aq (show x<ops.size by omega);have ey:=Aq (show y<ops.size by omega);rw [ex,ey] at h1;simp only [yX,zC,yV] at h1;obtain ⟨hnl,hap⟩:=h1.resolve_left h2;obtain ⟨q1,q2,q3⟩:=Oper.apart_spec hap;have hun:ED (AO ops) x y=true:=by unfold ED;rw [if_neg (by omega)];simpa using h2
   have hun':ED (AO ops) y x=true:=by unfold ED;rw [if_pos hlt2];simpa using h2
   refine ⟨hnl,q1,q2,q3,fun hlx => ?_,fun hly => ?_⟩
   ·unfold An;refine yY.2 ⟨x,xV.2 hx,?_⟩;simp only [zC,bne_iff_ne];exact ⟨⟨hlx,by omega⟩,hun'⟩
   ·unfold An;refine yY.2 ⟨y,xV.2 (by omega),?_⟩;simp only [zC,bne_iff_ne];exact ⟨⟨hly,by omega⟩,hun⟩
  have hopen:lp.Pairwise fun x y=>y<x→¬((AO ops).getD x 0).testBit y=true:=Rz lp fun l1 x l2 y e hy hlt2 hb=>by have:=(p4 l1 x (l2++List.range' m (ops.size-m)) (by rw [hL,e];simp) y hb).resolve_left (by simp);rw [e,xY] at hlpn;exact hlpn.2.2 y this y (by simp [hy]) rfl
  have hcom:∀x y,x<m→y<x→¬((AO ops).getD x 0).testBit y=true→∀s:Env×Heap,(Ao C rec pc N ops S (An C ops (AO ops) m) x s).bind (Ao C rec pc N ops S (An C ops (AO ops) m) y)=(Ao C rec pc N ops S (An C ops (AO ops) m) y s).bind (Ao C rec pc N ops S (An C ops (AO ops) m) x):=fun x y hx hlt2 h2 s=>by
   obtain ⟨hnl,q1,q2,q3,n1,n2⟩:=hpair x y hx hlt2 h2;have ex:=Aq (show x<ops.size by omega);have ey:=Aq (show y<ops.size by omega);have lx:BQ C ops x=(Ae C (g x).op||Cl C (g x).op):=by unfold BQ;rw [ex]
   have ly:BQ C ops y=(Ae C (g y).op||Cl C (g y).op):=by unfold BQ;rw [ey]
   cases hlx:Ae C (g x).op with
   |true=>
    have hlx':BQ C ops x=true:=by rw [lx,hlx];rfl
    have hly:Ae C (g y).op=false:=by rw [hlx',Bool.and_true,ly,yW] at hnl;exact hnl.1
    exact D8 C rec pc N ops S _ ex ey q3 (fun d hd hd2=>q2 d hd2 hd) q1 hlx hly (n1 hlx') s
   |false=>
    cases hly:Ae C (g y).op with
    |true=>exact (D8 C rec pc N ops S _ ey ex q1 q2 q3 hly hlx (n2 (by rw [ly,hly];rfl)) s).symm
    |false=>exact (Gt C rec pc N ops S _ ey ex q1 q2 q3 hly hlx s).symm
  have hsub:∀(l:List Nat),(∀i∈l,i<ops.size)→∀i,i∉ops.toList.filterMap (·.dst)→i∉(l.map g).filterMap (·.dst):=fun l hl i hni hm=>hni (by rw [xS] at hm ⊢;obtain ⟨o,ho,hd⟩:=hm;obtain ⟨x,hx,rfl⟩:=xT.1 ho;refine ⟨g x,?_,hd⟩;have:=Aq (hl x hx);exact yA (i:=x) (by rw [yU];exact this))
  have hrest:∀env1 h1 κ1 a1 w1,EO C rec pc N false ops (ops.toList.drop m) env1 h1 K=some r→Rel B N κ1 env1 h1 a1 w1→Ext κ h w κ1 h1 w1→(∀i,i∉ops.toList.filterMap (·.dst)→env1 i=env i)→a1.defers=a.defers→
    wpOpsIn (Fr ro) n C.P ops Q (List.range' m (ops.size-m)) a1 w1:=fun env1 h1 κ1 a1 w1 k1 k2 k3 k4 k5=>by
   have:=I3 hrec hpc ops Q n ro [] (ops.toList.drop m) (List.range' m (ops.size-m)) (by simp) (fun j i o hj ho=>by
    have hjl:j<ops.size-m:=by simpa using AU hj
    rw [List.getElem?_range' hjl] at hj;cases hj;rw [zN] at ho;simpa using ho) k1 k2 (fun env2 h2 κ2 a2 w2 j1 j2 j3 j4 j5 j6=>by
     refine hn env2 h2 κ2 a2 w2 j1 j2 (k3.trans j3) (fun i hni => ?_) (j5.trans k5) (fun e=>by cases e);have hsub1:i∉(ops.toList.drop m).filterMap (·.dst):=fun hm=>hni (by rw [xS] at hm ⊢;obtain ⟨o,ho,hd⟩:=hm;exact ⟨o,xU ho,hd⟩)
     exact (j4 i hsub1).trans (k4 i hni))
   simpa using this
  have hx0:=IK hr.heap;split at hk1
  ·
   rename_i m0 o heq;have hsel:m=m0+1∧ops[m0]? = some o∧Cl C o.op=true:=by
    split at heq
    ·rename_i k;split at heq
     ·rename_i o' ho';split at heq
      ·cases heq;exact ⟨rfl,ho',by assumption⟩
      ·cases heq
     ·cases heq
    ·cases heq
   obtain ⟨hm0,ho,hhc⟩:=hsel;have hgo:g m0=o:=by have h1:=Aq (show m0<ops.size by omega);rw [ho] at h1;exact (Option.some.inj h1).symm
   obtain ⟨l1,l2,e⟩:=xA ((hlpm m0).2 (by omega));have hn':=hlpn;rw [e,xY,xZ] at hn';obtain ⟨n1,⟨n2,n3⟩,n4⟩:=hn';have hm2:∀i,i∈l1++l2↔i<m0:=fun i=>by
    constructor
    ·intro hi;have h5:=(hlpm i).1 (by rw [e];simp only [xO,xP];rcases xO.1 hi with h|h;exact .inl h;exact .inr (.inr h));have h6:i≠m0:=fun h=>by
      subst h;rcases xO.1 hi with h|h
      ·exact n4 i h i (by simp) rfl
      ·exact n2 h
     omega
    ·intro hi;have h5:=(hlpm i).2 (by omega);rw [e] at h5;simp only [xO,xP] at h5 ⊢;rcases h5 with h5|h5|h5
     ·exact .inl h5
     ·omega
     ·exact .inr h5
   have hpw:(l1++l2).Pairwise fun x y=>y<x→¬((AO ops).getD x 0).testBit y=true:=by refine hopen.sublist ?_;rw [e];exact List.Sublist.append (List.Sublist.refl _) (List.sublist_cons_self _ _)
   have hrun:∀s:Env×Heap,(l1++l2).foldlM (fun s i=>Ao C rec pc N ops S (An C ops (AO ops) m) i s) s=(List.range m0).foldlM (fun s i=>Ao C rec pc N ops S (An C ops (AO ops) m) i s) s:=fun s=>
    GR (fun i s=>Ao C rec pc N ops S (An C ops (AO ops) m) i s) m0 (l1++l2) (xY.2 ⟨n1,n3,fun a ha b hb=>n4 a ha b (by simp [hb])⟩) hm2 (fun b1 x b2 y e2 hy hlt2 s=>
     hcom x y (by have:=(hm2 x).1 (by rw [e2];simp);omega) hlt2 (H7 hpw e2 hy hlt2) s) s
   have hk2:Bw C rec pc N ops S (An C ops (AO ops) m) (l1++l2) env h (fun env' h'=>SN C rec pc N S o env' h' fun env' h'=>EO C rec pc N false ops (ops.toList.drop m) env' h' K)=some r:=by rw [BE] at hk1 ⊢;rw [hrun];exact hk1
   have hl2:∀y∈l2,y<m0:=fun y hy=>(hm2 y).1 (by simp [hy]);obtain ⟨hd,hg,hk3⟩:=WQ (fun _ _ _ K1 hE=>UB C rec pc hhc hE K1) (fun y hy=>by
    have hym:=hl2 y hy;have hno:=H7 hopen e hy hym;obtain ⟨hnl,q1,q2,q3,f1,f2⟩:=hpair m0 y (by omega) hym hno;have hlm:BQ C ops m0=true:=by unfold BQ;rw [ho];simp [hhc]
    have ey:=Aq (show y<ops.size by omega);rw [hgo] at q1 q2 q3;refine ⟨g y,ey,?_,f1 hlm,q3,fun d hd hd2=>q2 d hd2 hd,q1⟩;rw [hlm,Bool.and_true] at hnl;unfold BQ at hnl;rw [ey] at hnl;rw [yW] at hnl;exact hnl.1) hk2
   have hl1lt:∀i∈l1,i<ops.size:=fun i hi=>hlt i (by rw [e];simp [hi]);have hl2lt:∀i∈l2,i<ops.size:=fun i hi=>hlt i (by rw [e];simp [hi]);rw [e,zH];refine Cy hrec hpc ops S _ Q n ro (m0::l2++List.range' m (ops.size-m)) l1 hk3 (KB hr) fun env1 h1 κ1 a1 w1 k1 k2 k3 k4 k5 k6 => ?_;simp only [xB,wpOpsIn,ho];have hgk:GC ops o env1 (fun env1=>Ad C rec pc false env1 h1 o.op fun v h'=>cnd (S.all (sameAt h1 h')=true) (Bw C rec pc N ops S (An C ops (AO ops) m) l2 (env1.put o.dst v) h' fun env' h'=>EO C rec pc N false ops (ops.toList.drop m) env' h' K) none) (fun _=>none)=some r:=by unfold GC;rw [hg];exact k1
   rcases IE hgk k2 with ⟨hw,hk4⟩|⟨hw,hk4⟩
   ·simp only [hw,if_true];refine step_ok hrec hpc o hk4 k2 _ Q n ro fun v h' κ' val w' g1 g2 g3 g4 g5 => ?_;simp only [AB] at g1;obtain ⟨_,g1⟩:=AG g1;refine Cy hrec hpc ops S _ Q n ro (List.range' m (ops.size-m)) l2 g1 (FO k2 g3 g4 g2 o hd) fun env2 h2 κ2 a2 w2 j1 j2 j3 j4 j5 j6 => ?_;have hpd:∀val,(a1.put o.dst val).defers=a1.defers:=fun val=>by cases o.dst<;>rfl
    refine hrest env2 h2 κ2 a2 w2 j1 j2 (((hx0.trans k3).trans g4).trans j3) (fun i hni => ?_) ((j5.trans (hpd _)).trans k5);refine (j4 i (hsub l2 hl2lt i hni)).trans (Eq.trans ?_ (k4 i (hsub l1 hl1lt i hni)));refine Cv fun d hd' e'=>hni ?_;subst e';rw [xS];exact ⟨o,yA (i:=m0) (by rw [yU];exact ho),hd'⟩
   ·cases hk4
  ·have hrun:∀s:Env×Heap,lp.foldlM (fun s i=>Ao C rec pc N ops S (An C ops (AO ops) m) i s) s=(List.range m).foldlM (fun s i=>Ao C rec pc N ops S (An C ops (AO ops) m) i s) s:=fun s=>
    GR (fun i s=>Ao C rec pc N ops S (An C ops (AO ops) m) i s) m lp hlpn hlpm (fun b1 x b2 y e2 hy hlt2 s=>
     hcom x y ((hlpm x).1 (by rw [e2];simp)) hlt2 (H7 hopen e2 hy hlt2) s) s
   have hk2:Bw C rec pc N ops S (An C ops (AO ops) m) lp env h (fun env' h'=>EO C rec pc N false ops (ops.toList.drop m) env' h' K)=some r:=by rw [BE] at hk1 ⊢;rw [hrun];exact hk1
   refine Cy hrec hpc ops S _ Q n ro (List.range' m (ops.size-m)) lp hk2 (KB hr) fun env1 h1 κ1 a1 w1 k1 k2 k3 k4 k5 k6 => ?_;exact hrest env1 h1 κ1 a1 w1 k1 k2 (hx0.trans k3) (fun i hni=>k4 i (hsub lp hlt i hni)) k5
end Ab
namespace Ab
open Go
variable {R:Type} {P:Program} {B:Nat→Prop} {κ:BB} {h:Heap} {w:World} {N:Nat} {env:Env} {a:Act} {ro:Option Nat} {base:Nat}
def mark (r:Nat):Deferred:={target :=.collected r,args := #[]}
def Marks (base:Nat) (κ:BB) (h:Heap) (w:World) (ds:List Deferred):Prop:=
 ∃rs:List Nat,ds=rs.map mark∧rs.Nodup∧∀r∈rs,base≤r∧w.heap[r]? = some (.deferred (some []))∧¬Ex κ h r
def Kq (ro:Option Nat) (κ:BB) (h:Heap):Prop:=∀b,ro=some b→∃(i d:Nat) (l:DS),κ[i]? = some (some (b,d))∧h[i]? = some (.loop l)
structure St (B:Nat→Prop) (N:Nat) (ro:Option Nat) (base:Nat) (κ:BB) (env:Env) (h:Heap) (a:Act) (w:World):Prop where
 rel:Rel B N κ env h a w
 marks:Marks base κ h w a.defers
 round:Kq ro κ h
 bsz:base≤w.heap.size
theorem D0 {r:Nat} {o:Obj} (hr:w.heap[r]? = some o):r<w.heap.size:=by
 rcases yL r w.heap.size with y|y
 ·exact y
 ·rw [Array.getElem?_eq_none y] at hr;cases hr
theorem Marks.ext {κ':BB} {h':Heap} {w':World} (x:Ext κ h w κ' h' w') {ds:List Deferred} (hm:Marks base κ h w ds):Marks base κ' h' w' ds:=by
 obtain ⟨rs,h1,h2,h3⟩:=hm;refine ⟨rs,h1,h2,fun r hr => ?_⟩;obtain ⟨h4,h5,h6⟩:=h3 r hr;have hlt:=D0 h5;refine ⟨h4,(x.keep r hlt h6).trans h5,fun he => ?_⟩;rcases x.ex r he with y|y
 ·exact h6 y
 ·omega
theorem Kq.ext {κ':BB} {h':Heap} {w':World} (x:Ext κ h w κ' h' w') (hm:Kq ro κ h):Kq ro κ' h':=by
 intro b hb;obtain ⟨i,d,l,h1,h2⟩:=hm b hb;obtain ⟨o',h3,h4⟩:=x.obj i _ h2;have hk:=h4.1;cases o' with
 |loop l'=>exact ⟨i,d,l',(x.kap i _ _ h2 h3 rfl).trans h1,h3⟩
 |box cs=>simp [AI.kind] at hk
 |row a b c d=>simp [AI.kind] at hk
theorem St.next (hs:St B N ro base κ env h a w) {κ':BB} {env':Env} {h':Heap} {a':Act} {w':World} (hr:Rel B N κ' env' h' a' w') (x:Ext κ h w κ' h' w') (hd:a'.defers=a.defers):St B N ro base κ' env' h' a' w':=
 ⟨hr,by rw [hd];exact hs.marks.ext x,hs.round.ext x,yJ hs.bsz x.size⟩
def Ks (B:Nat→Prop) (N:Nat) (ro:Option Nat) (base:Nat) (κ:BB) (env:Env) (h:Heap) (w:World) (W:List Tmp) (K:Exit→Env→Heap→Option R) (r:R) (e:Exit) (a':Act) (w':World):Prop:=
 ∃env' h' κ',K e env' h'=some r∧St B N ro base κ' env' h' a' w'∧Ext κ h w κ' h' w'∧∀i,i∉W→env' i=env i
theorem N1:∀(L:List Tmp) (i:Tmp) (k j:Nat),findIdx i L k=some j→∃m,j=k+m∧L[m]? = some i
 |[],i,k,j,h=>by simp [findIdx] at h
 |x::L,i,k,j,h=>by
  simp only [findIdx] at h;split at h
  ·rename_i e;cases h;exact ⟨0,rfl,by simp [e]⟩
  ·obtain ⟨m,h1,h2⟩:=N1 L i (k+1) j h;exact ⟨m+1,by omega,by simpa using h2⟩
theorem U8 {tm:Tmp→AV} {env0:Env} {h0:Heap} {κ0:BB} {w0:World} {a0:Act} {L W:List Tmp} {K:List AV→Heap→Option R} {r:R} (hk:HV tm env0 h0 L env h K=some r) (hs0:Rel B N κ0 env0 h0 a0 w0) (hr:Rel B N κ env h a w) (x:Ext κ0 h0 w0 κ h w)
  (hW:∀i,i∉W→env i=env0 i) :
  ∃s hs,K s hs=some r∧Rel B N (κ.take h0.length) (DI tm W L env0 s) (CI h0 0 hs) a w∧Ext κ0 h0 w0 (κ.take h0.length) (CI h0 0 hs) w∧(∀i,i∉W→DI tm W L env0 s i=env0 i)∧∀b,Ex (κ.take h0.length) (CI h0 0 hs) b→Ex κ h b:=by
 unfold HV at hk
 try simp only [AB] at hk
 obtain ⟨hL,hk1⟩:=AG hk;obtain ⟨hs,hk2,hun,hbe⟩:=Vb hk1 (Pj x);have hLi:∀(m:Nat) (i:Tmp),L[m]? = some i→below 4 h0.length (env i)=true∧M7 (Vd tm env0 i) (env i)=true:=fun m i hm=>by have:=Ez hL hm;simpa using this
 have hget:∀(i:Tmp) (k:Nat),findIdx i L 0=some k→H6 (Vd tm env0 i) ((L.map env).getD k .undef)=env i∧below 4 h0.length (env i)=true:=fun i k hf=>by
  obtain ⟨m,rfl,hm⟩:=N1 L i 0 k hf;have h1:(L.map env).getD (0+m) .undef=env i:=by simp [List.getD,hm]
  rw [h1];exact ⟨Rv (hLi m i hm).2,(hLi m i hm).1⟩
 refine ⟨_,hs,hk2,⟨?_,hr.size,fun i => ?_⟩,?_,fun i hi => ?_,fun b hb => ?_⟩
 ·rw [hun];exact hr.heap.EF hbe
 ·rw [hun];unfold DI;cases hf:findIdx i L 0 with
  |some k=>
   obtain ⟨h1,h2⟩:=hget i k hf;simp only [h1];exact (hr.slot i).EF (D5 4 h2)
  |none=>
   dsimp only;split
   ·exact .undef _
   ·rename_i hc;have hni:i∉W:=fun hm=>hc (by simpa using hm);rw [← hW i hni];refine (hr.slot i).EF ?_;rw [hW i hni];exact (hs0.slot i).refs
 ·rw [hun];exact x.EF (yI _)
 ·unfold DI;cases hf:findIdx i L 0 with
  |some k=>
   obtain ⟨h1,_⟩:=hget i k hf;simp only [h1];exact hW i hi
  |none=>
   dsimp only;rw [if_neg (by simpa using hi)]
 ·rw [hun] at hb;exact hb.take
theorem Marks.less {κ':BB} {h':Heap} (hx:∀b,Ex κ' h' b→Ex κ h b) {ds:List Deferred} (hm:Marks base κ h w ds):Marks base κ' h' w ds:=by obtain ⟨rs,h1,h2,h3⟩:=hm;exact ⟨rs,h1,h2,fun r hr=>⟨(h3 r hr).1,(h3 r hr).2.1,fun he=>(h3 r hr).2.2 (hx r he)⟩⟩
theorem KK {tm:Tmp→AV} {env0:Env} {h0:Heap} {κ0:BB} {w0:World} {a0:Act} {L W:List Tmp} {K:List AV→Heap→Option R} {r:R} (hk:HV tm env0 h0 L env h K=some r) (hs0:St B N ro base κ0 env0 h0 a0 w0) (hr:St B N ro base κ env h a w) (x:Ext κ0 h0 w0 κ h w)
  (hW:∀i,i∉W→env i=env0 i) :
  ∃s hs,K s hs=some r∧St B N ro base (κ.take h0.length) (DI tm W L env0 s) (CI h0 0 hs) a w∧Ext κ0 h0 w0 (κ.take h0.length) (CI h0 0 hs) w∧∀i,i∉W→DI tm W L env0 s i=env0 i:=by
 obtain ⟨s,hs,k1,k2,k3,k4,k5⟩:=U8 hk hs0.rel hr.rel x hW;exact ⟨s,hs,k1,⟨k2,hr.marks.less k5,hs0.round.ext k3,hr.bsz⟩,k3,k4⟩
theorem EY {hi:Hints} {W:List Tmp}:∀{L:List Tmp} {env:Env} {h:Heap} {κ:BB} {K:Env→Heap→Option R} {r:R},F0 hi L env h K=some r→Rel B N κ env h a w→(∀i∈L,i∈W)→
  ∃env' h' κ',K env' h'=some r∧Rel B N κ' env' h' a w∧Ext κ h w κ' h' w∧∀i,i∉W→env' i=env i
 |[],env,h,κ,K,r,hk,hr,hL=>⟨env,h,κ,hk,hr,Ext.refl _ _ _,fun _ _=>rfl⟩
 |i::L,env,h,κ,K,r,hk,hr,hL=>by
  simp only [F0] at hk;split at hk
  ·rename_i hn;have hh:=hr.heap;have hv:=hr.slot i;rw [hn] at hv;obtain ⟨a0,hval⟩:∃a0,a.tmps.getD i undef = .slice a0 0 0:=by generalize a.tmps.getD i undef=u at hv;cases hv with|nilsl a0=>exact ⟨a0,rfl⟩
   split at hk
   ·have hr1:Rel B N κ (env.put (some i) (.t (.sl (hi.rowsz i) []))) h a w:=by
     refine ⟨hh,hr.size,fun j => ?_⟩;simp only [Env.put];by_cases hj:j=i
     ·rw [if_pos hj,hj,hval];exact .t _ _ (.nil _ _ _)
     ·rw [if_neg hj];exact hr.slot j
    obtain ⟨env',h',κ',k1,k2,k3,k4⟩:=EY (W:=W) hk hr1 fun j hj=>hL j (by simp [hj]);refine ⟨env',h',κ',k1,k2,k3,fun j hj => ?_⟩;rw [k4 j hj];simp only [Env.put];rw [if_neg fun e=>hj (hL j (by simp [e]))]
   generalize hi.rowsz i=z0 at hk;have x1:Ext κ h w (κ++[none]) (h++[.row false 0 z0 []]) w:=CD hh rfl rfl rfl (yI _) (fun _ _=>rfl) (fun b base e=>by cases e);have hh1:=Bs hh (fun _ _=>rfl) x1 (fun b base e=>by cases e) (show HA B (κ++[none]) (h++[.row false 0 z0 []]) w none (.row false 0 z0 []) from rfl);have hr1:Rel B N (κ++[none]) (env.put (some i) (.sref h.length 0 0 0)) (h++[.row false 0 z0 []]) a w:=by
    refine ⟨hh1,hr.size,fun j => ?_⟩;simp only [Env.put];by_cases hj:j=i
    ·rw [if_pos hj,hj,hval];exact CP (by rw [← hh.len];exact Am κ _) (Am h _)
    ·rw [if_neg hj];exact (hr.slot j).ext x1
   obtain ⟨env',h',κ',k1,k2,k3,k4⟩:=EY (W:=W) hk hr1 fun j hj=>hL j (by simp [hj]);refine ⟨env',h',κ',k1,k2,x1.trans k3,fun j hj => ?_⟩;rw [k4 j hj];simp only [Env.put];rw [if_neg fun e=>hj (hL j (by simp [e]))]
  ·exact EY hk hr fun j hj=>hL j (by simp [hj])
theorem Jd {W L:List Tmp}:∀i∈L.filter (fun i=>W.contains i),i∈W:=fun i hi=>by simpa using (xR.1 hi).2
end Ab
namespace Ab
open Go
variable {R:Type} {B:Nat→Prop} {κ:BB} {h:Heap} {w:World} {N:Nat} {env:Env} {a:Act} {ro:Option Nat} {base:Nat}
theorem Ks.of {W W':List Tmp} {K:Exit→Env→Heap→Option R} {r:R} {e:Exit} {a':Act} {w':World} {κ1:BB} {env1:Env} {h1:Heap} {w1:World} (x:Ext κ h w κ1 h1 w1) (hW:∀i,i∉W→env1 i=env i) (hsub:∀i,i∉W→i∉W')
  (hp:Ks B N ro base κ1 env1 h1 w1 W' K r e a' w'):Ks B N ro base κ env h w W K r e a' w':=by
 obtain ⟨env',h',κ',k1,k2,k3,k4⟩:=hp;exact ⟨env',h',κ',k1,k2,x.trans k3,fun i hi=>(k4 i (hsub i hi)).trans (hW i hi)⟩
def Vi (C:Cfg) (fn:FuncId) (N:Nat) (rec:Rec):Prop:=∀{R:Type} (B:Nat→Prop) (ro:Option Nat) (base n:Nat) (f:Operand) (params:Array Tmp) (assign body:Code) (env:Env) (h:Heap) (K:Exit→Env→Heap→Option R) (r:R) (κ:BB) (a:Act) (w:World),
 (match ev env f with
  | .func (.func g) first captured=>if enters C.P g=false then none else
   rec R (.fn g (first++[.yld h.length]++captured)) (h++[.loop {fn,size:=N,env,params:=params.toList,assign,body,busy:=false,pending:=none,ended:=false,hl:=h.length}]) fun _ h1=>
    (Tm h1 h.length).bind fun j=>if (((h1.take h.length).all (H9 h.length))=true) then (match j with
     |none=>K .normal env (h1.take h.length)
     |some c=>(Tv c).bind fun e=>K e env (h1.take h.length)) else none
  |_=>none)=some r→St B N ro base κ env h a w→(Code.rangeFunc f params assign body).wpIn (Fr ro) n C.P (Ks B N ro base κ env h w [] K r) a w
theorem OM {C:Cfg} {hi:Hints} {fn:FuncId} {rec:Rec} {pc:BN} {fuel:Nat} (hrec:EB C.P rec) (hpc:CW C.P pc) (hmix:C.P.follows .mixedOrders=true) (hrange:Vi C fn N rec) (n:Nat) :
  ∀(c:Code) {env:Env} {h:Heap} {K:Exit→Env→Heap→Option R} {r:R} {κ:BB} {a:Act} {w:World},Db C hi fn N rec pc fuel c env h K=some r→St B N ro base κ env h a w→
   c.wpIn (Fr ro) n C.P (Ks B N ro base κ env h w (writes c) K r) a w:=by
 intro c
 induction c with
 |skip=>intro env h K r κ a w hk hs;exact wpIn_skip ⟨env,h,κ,hk,hs,Ext.refl _ _ _,fun _ _=>rfl⟩
 |label l=>intro env h K r κ a w hk hs;exact wpIn_label ⟨env,h,κ,hk,hs,Ext.refl _ _ _,fun _ _=>rfl⟩
 |ret=>intro env h K r κ a w hk hs;exact wpIn_ret ⟨env,h,κ,hk,hs,Ext.refl _ _ _,fun _ _=>rfl⟩
 |exit id=>intro env h K r κ a w hk hs;exact wpIn_exit ⟨env,h,κ,hk,hs,Ext.refl _ _ _,fun _ _=>rfl⟩
 |goto l=>intro env h K r κ a w hk hs;simp [Db] at hk
 |refuse why=>intro env h K r κ a w hk hs;simp [Db] at hk
 |scope c _=>intro env h K r κ a w hk hs;simp [Db] at hk
 |region id ops draw=>
  intro env h K r κ a w hk hs;simp only [Db] at hk;split at hk
  ·unfold join at hk;refine PG hrec hpc hmix hk hs.rel _ n ro fun env' h' κ' a' w' k1 k2 k3 k4 k5 k6 => ?_;obtain ⟨s,hs',k7,k8,k9,k10,_⟩:=U8 (W:=dsts ops) k1 hs.rel k2 k3 k4;exact ⟨_,_,_,k7,hs.next k8 k9 k5,k9,k10⟩
  ·refine PG hrec hpc hmix hk hs.rel _ n ro fun env' h' κ' a' w' k1 k2 k3 k4 k5 k6 => ?_;exact ⟨env',h',κ',k1,hs.next k2 k3 k5,k3,k4⟩
 |seq x y ihx ihy=>
  intro env h K r κ a w hk hs;simp only [Db] at hk;refine wpIn_seq (wpIn_mono (ihx hk hs) ?_);intro e a' w' hp;obtain ⟨env',h',κ',k1,k2,k3,k4⟩:=hp;cases e with
  |normal=>
   show y.wpIn (Fr ro) n C.P _ a' w';refine wpIn_mono (ihy k1 k2) fun e2 a2 w2 hp2 => ?_;exact Ks.of k3 (fun i hni=>k4 i fun hm=>hni (by simp [writes,hm])) (fun i hni hm=>hni (by simp [writes,hm])) hp2
  |exit id=>exact ⟨env',h',κ',k1,k2,k3,fun i hni=>k4 i fun hm=>hni (by simp [writes,hm])⟩
  |goto l=>exact ⟨env',h',κ',k1,k2,k3,fun i hni=>k4 i fun hm=>hni (by simp [writes,hm])⟩
  |ret=>exact ⟨env',h',κ',k1,k2,k3,fun i hni=>k4 i fun hm=>hni (by simp [writes,hm])⟩
  |panic ch=>exact ⟨env',h',κ',k1,k2,k3,fun i hni=>k4 i fun hm=>hni (by simp [writes,hm])⟩
  |outgrown=>exact ⟨env',h',κ',k1,k2,k3,fun i hni=>k4 i fun hm=>hni (by simp [writes,hm])⟩
 |cond c x y ihx ihy=>
  intro env h K r κ a w hk hs;simp only [Db,AB] at hk;obtain ⟨t,ht,hk1⟩:=bind_some hk;have hcv:=Ei ht (BZ hs.rel c);refine wpIn_cond hcv ?_;split at hk1
  ·obtain ⟨env1,h1,κ1,k1,k2,k3,k4⟩:=EY (W:=writes x++writes y) hk1 hs.rel Jd;have hs1:St B N ro base κ1 env1 h1 a w:=hs.next k2 k3 rfl;unfold join at k1;have fin:∀(z:Code) (hz:∀i,i∈writes z→i∈writes x++writes y),z.wpIn (Fr ro) n C.P (Ks B N ro base κ1 env1 h1 w (writes z) (fun e env' h'=>match e with
      | .normal=>HV hi.tm env1 h1 (hi.cond (FT c)) env' h' fun s hs=>K .normal (DI hi.tm (writes x++writes y) (hi.cond (FT c)) env1 s) (CI h1 0 hs)
      |e=>K e env' h') r) a w→z.wpIn (Fr ro) n C.P (Ks B N ro base κ env h w (writes (.cond c x y)) K r) a w:=by
    intro z hz hw;refine wpIn_mono hw fun e a' w' hp => ?_;obtain ⟨env',h',κ',j1,j2,j3,j4⟩:=hp;have j4':∀i,i∉writes x++writes y→env' i=env1 i:=fun i hni=>j4 i fun hm=>hni (hz i hm);cases e with
    |normal=>
     obtain ⟨s,hs',k7,k8,k9,k10⟩:=KK (W:=writes x++writes y) j1 hs1 j2 j3 j4';exact ⟨_,_,_,k7,k8,k3.trans k9,fun i hni=>(k10 i hni).trans (k4 i hni)⟩
    |exit id=>exact ⟨env',h',κ',j1,j2,k3.trans j3,fun i hni=>(j4' i hni).trans (k4 i hni)⟩
    |goto l=>exact ⟨env',h',κ',j1,j2,k3.trans j3,fun i hni=>(j4' i hni).trans (k4 i hni)⟩
    |ret=>exact ⟨env',h',κ',j1,j2,k3.trans j3,fun i hni=>(j4' i hni).trans (k4 i hni)⟩
    |panic ch=>exact ⟨env',h',κ',j1,j2,k3.trans j3,fun i hni=>(j4' i hni).trans (k4 i hni)⟩
    |outgrown=>exact ⟨env',h',κ',j1,j2,k3.trans j3,fun i hni=>(j4' i hni).trans (k4 i hni)⟩
   cases t with
   |true=>exact fin x (fun i hm=>by simp [hm]) (ihx k1 hs1)
   |false=>exact fin y (fun i hm=>by simp [hm]) (ihy k1 hs1)
  ·cases t with
   |true=>exact wpIn_mono (ihx hk1 hs) fun e a' w' hp=>Ks.of (Ext.refl _ _ _) (fun _ _=>rfl) (fun i hni hm=>hni (by simp [writes,hm])) hp
   |false=>exact wpIn_mono (ihy hk1 hs) fun e a' w' hp=>Ks.of (Ext.refl _ _ _) (fun _ _=>rfl) (fun i hni hm=>hni (by simp [writes,hm])) hp
 |block id x ih=>
  intro env h K r κ a w hk hs;simp only [Db] at hk;refine wpIn_block ?_;generalize (if MM x=true then 1 else 0)=one at hk;split at hk
  ·refine wpIn_mono (ih hk hs) fun e a' w' hp => ?_;obtain ⟨env',h',κ',j1,j2,j3,j4⟩:=hp;cases e with
   |exit id'=>
    simp only [Exit.inBlock];dsimp only at j1;split at j1
    ·rename_i he;rw [if_pos he];exact ⟨env',h',κ',j1,j2,j3,j4⟩
    ·rename_i he;rw [if_neg he];exact ⟨env',h',κ',j1,j2,j3,j4⟩
   |normal=>exact ⟨env',h',κ',j1,j2,j3,j4⟩
   |goto l=>exact ⟨env',h',κ',j1,j2,j3,j4⟩
   |ret=>exact ⟨env',h',κ',j1,j2,j3,j4⟩
   |panic ch=>exact ⟨env',h',κ',j1,j2,j3,j4⟩
   |outgrown=>exact ⟨env',h',κ',j1,j2,j3,j4⟩
  ·obtain ⟨env1,h1,κ1,k1,k2,k3,k4⟩:=EY (W:=writes x) hk hs.rel Jd;have hs1:St B N ro base κ1 env1 h1 a w:=hs.next k2 k3 rfl;unfold join at k1;refine wpIn_mono (ih k1 hs1) fun e a' w' hp => ?_;obtain ⟨env',h',κ',j1,j2,j3,j4⟩:=hp;have k5:∀i,i∉writes x→env' i=env i:=fun i hni=>(j4 i hni).trans (k4 i hni);cases e with
   |exit id'=>
    simp only [Exit.inBlock];dsimp only at j1;split at j1
    ·rename_i he;rw [if_pos he];obtain ⟨s,hs',k7,k8,k9,k10⟩:=KK (W:=writes x) j1 hs1 j2 j3 j4;exact ⟨_,_,_,k7,k8,k3.trans k9,fun i hni=>(k10 i hni).trans (k4 i hni)⟩
    ·rename_i he;rw [if_neg he];exact ⟨env',h',κ',j1,j2,k3.trans j3,k5⟩
   |normal=>
    obtain ⟨s,hs',k7,k8,k9,k10⟩:=KK (W:=writes x) j1 hs1 j2 j3 j4;exact ⟨_,_,_,k7,k8,k3.trans k9,fun i hni=>(k10 i hni).trans (k4 i hni)⟩
   |goto l=>exact ⟨env',h',κ',j1,j2,k3.trans j3,k5⟩
   |ret=>exact ⟨env',h',κ',j1,j2,k3.trans j3,k5⟩
   |panic ch=>exact ⟨env',h',κ',j1,j2,k3.trans j3,k5⟩
   |outgrown=>exact ⟨env',h',κ',j1,j2,k3.trans j3,k5⟩
 |loop x ih=>
  intro env h K r κ a w hk hs;simp only [Db] at hk;obtain ⟨env1,h1,κ1,k1,k2,k3,k4⟩:=EY (W:=writes x) hk hs.rel Jd;have hs1:St B N ro base κ1 env1 h1 a w:=hs.next k2 k3 rfl;obtain ⟨s,hs',k7,k8,k9,k10⟩:=KK (W:=writes x) k1 hs1 hs1 (Ext.refl _ _ _) (fun _ _=>rfl);refine wpIn_loop_rounds fuel ?_
  revert k7 k8 k9 k10
  generalize κ1.take h1.length=κ2;have key:∀(m:Nat) (s:List AV) (hs':Heap) (κ2:BB) (a2:Act) (w2:World),AH (fun (p:List AV×Heap) again=>Db C hi fn N rec pc fuel x (DI hi.tm (writes x) (hi.loop (Cx x)) env1 p.1) (CI h1 0 p.2) fun e env' h'=>match e with
    | .normal=>HV hi.tm env1 h1 (hi.loop (Cx x)) env' h' fun s hs=>again (s,hs)
    |e=>K e env' h') m (s,hs')=some r→St B N ro base κ2 (DI hi.tm (writes x) (hi.loop (Cx x)) env1 s) (CI h1 0 hs') a2 w2→Ext κ1 h1 w κ2 (CI h1 0 hs') w2→
    (∀i,i∉writes x→DI hi.tm (writes x) (hi.loop (Cx x)) env1 s i=env1 i)→Code.roundsIn (Fr ro) n C.P x (Ks B N ro base κ env h w (writes x) K r) m a2 w2:=by
   intro m
   induction m with
   |zero=>intro s hs' κ2 a2 w2 q1 q2 q3 q4;simp [AH] at q1
   |succ m ihm=>
    intro s hs' κ2 a2 w2 q1 q2 q3 q4;simp only [AH] at q1;show x.wpIn (Fr ro) n C.P (Exit.then (Code.roundsIn (Fr ro) n C.P x (Ks B N ro base κ env h w (writes x) K r) m) (Ks B N ro base κ env h w (writes x) K r)) a2 w2;refine wpIn_mono (ih q1 q2) fun e a' w' hp => ?_;obtain ⟨env',h',κ',j1,j2,j3,j4⟩:=hp;have j4':∀i,i∉writes x→env' i=env1 i:=fun i hni=>(j4 i hni).trans (q4 i hni);have k5:∀i,i∉writes x→env' i=env i:=fun i hni=>(j4' i hni).trans (k4 i hni);cases e with
    |normal=>
     obtain ⟨s3,hs3,k7,k8,k9,k10⟩:=KK (W:=writes x) j1 hs1 j2 (q3.trans j3) j4';exact ihm s3 hs3 _ a' w' k7 k8 k9 k10
    |exit id'=>exact ⟨env',h',κ',j1,j2,k3.trans (q3.trans j3),k5⟩
    |goto l=>exact ⟨env',h',κ',j1,j2,k3.trans (q3.trans j3),k5⟩
    |ret=>exact ⟨env',h',κ',j1,j2,k3.trans (q3.trans j3),k5⟩
    |panic ch=>exact ⟨env',h',κ',j1,j2,k3.trans (q3.trans j3),k5⟩
    |outgrown=>exact ⟨env',h',κ',j1,j2,k3.trans (q3.trans j3),k5⟩
  exact fun k7 k8 k9 k10=>key fuel s hs' κ2 a w k7 k8 k9 k10
 |rangeFunc f params assign body _ _=>
  intro env h K r κ a w hk hs;simp only [Db,AB] at hk;exact hrange B ro base n f params assign body env h K r κ a w hk hs
end Ab
namespace Ab
open Go
variable {R:Type} {B:Nat→Prop} {κ:BB} {h:Heap} {w:World} {N:Nat} {env:Env} {a:Act} {ro:Option Nat} {base:Nat}
theorem WO (hr:Rel B N κ env h a w) {w1:World} {l d:Nat} {fn f:FuncId} {params:Array Tmp} {assign body:Code} {LR:DS} (hLR:LR={fn,size:=N,env,params:=params.toList,assign,body,busy:=false,pending:=none,ended:=false,hl:=h.length}) (h1:w1.os=w.os) (h2:w1.tape=w.tape) (h3:w1.output=w.output) (h4:w.heap.size≤w1.heap.size)
  (h5:∀b,b<w.heap.size→w1.heap[b]? = w.heap[b]?) (hl:w.heap.size≤l) (hl1:l<w1.heap.size) (hld:d≠l) (hd:w1.heap[d]? = some (.deferred (some []))) (hnd:¬Ex κ h d)
  (hlo:w1.heap[l]? = some (.loop {state :=.ready,pending:=none,fn:=f,tmps:=a.tmps,params,assign,body,defers:=d})) :
  Ap B (κ++[some (l,d)]) (h++[.loop LR]) w1∧
  Ext κ h w (κ++[some (l,d)]) (h++[.loop LR]) w1:=by
 have x:Ext κ h w (κ++[some (l,d)]) (h++[.loop LR]) w1:=
  CD hr.heap h1 h2 h3 h4 h5 (fun b bs e=>by cases e;exact hl)
 refine ⟨Bs hr.heap h5 x (fun b bs e=>by cases e;exact ⟨hl,hl1⟩) ?_,x⟩;subst hLR;refine ⟨f,a.tmps,?_,hr.size,fun i=>(hr.slot i).ext x,fun i=>(hr.slot i).refs,hd,?_⟩
 ·simpa using hlo
 ·rintro ⟨i,bs,o,k1,k2,k3⟩
  rcases CO κ _ i k1 with ⟨_,k1⟩|⟨rfl,e⟩
  ·rcases CO h _ i k2 with ⟨_,k2⟩|⟨rfl,e⟩
   ·exact hnd ⟨i,bs,o,k1,k2,k3⟩
   ·have:=AU k1;rw [hr.heap.len] at this;omega
  ·cases e;exact hld rfl
theorem Nd (hh:Ap B κ h w) {i b d:Nat} {l l':DS} (hi:h[i]? = some (.loop l)) (hk:κ[i]? = some (some (b,d))) (hrec:(AI.loop l').rec? = (AI.loop l).rec?) :
  ∃(f:FuncId) (tmps:Array Value) (r:Loop),w.heap[b]? = some (.loop r)∧r={state:=if l.ended then .exhausted else if l.busy then .busy else if l.pending.isSome then .done else .ready,pending:=l.pending,fn:=f,tmps,params:=l.params.toArray,assign:=l.assign,body:=l.body,defers:=d}∧
   tmps.size=l.size∧(∀j,AQ B κ h w (l.env j) (tmps.getD j undef))∧w.heap[d]? = some (.deferred (some []))∧
   ∀(o:Obj),o = .loop {r with state:=if l'.ended then .exhausted else if l'.busy then .busy else if l'.pending.isSome then .done else .ready,pending:=l'.pending}→
    Ap B κ (h.set i (.loop l')) (w.putObj b o)∧Ext κ h w κ (h.set i (.loop l')) (w.putObj b o):=by
 have ho:=hh.obj i _ _ hi hk;obtain ⟨f,tmps,h1,h2,h3,h4,h5,h6⟩:=ho;refine ⟨f,tmps,_,h1,rfl,h2,h3,h5,?_⟩;intro o ho;have hlt:=D0 h1;have hset:κ.set i (some (b,d))=κ:=by
  apply zJ;intro j;by_cases hij:j=i
  ·rw [hij,As hk,hk]
  ·rw [DM hij]
 have hne:∀b',b'<w.heap.size→(∀bs,(some (b,d):Option (Nat×Nat))≠some (b',bs))→(w.putObj b o).heap[b']? = w.heap[b']? :=fun b' _ hn=>World.putObj_heap_other fun e=>hn d (by rw [e]);have x:Ext κ h w κ (h.set i (.loop l')) (w.putObj b o):=by
  have x':Ext κ h w (κ.set i (some (b,d))) (h.set i (.loop l')) (w.putObj b o):=
   C5 (o :=.loop l) (o' :=.loop l') (k:=some (b,d)) hh hi rfl ⟨rfl,yI _,fun _=>⟨rfl,rfl⟩,fun e=>(by cases e),fun e=>(by cases e),hrec⟩ hk rfl rfl rfl (by simp) hne (fun b' bs e =>.inl ⟨bs,e⟩)
    (fun _=>⟨rfl,fun b' bs e cells elem fr hc=>by cases e;rw [World.putObj_heap_same hlt] at hc;rw [ho] at hc;cases hc⟩)
  rw [hset] at x';exact x'
 refine ⟨?_,x⟩;have hbd:d≠b:=fun e=>by rw [e] at h5;rw [h1] at h5;cases h5
 have hre:=hrec;simp only [AI.rec?,Option.some.injEq] at hre;have hr1:l'.size=l.size:=by have:=congrArg DS.size hre;exact this
 have hr2:l'.env=l.env:=by have:=congrArg DS.env hre;exact this
 have hr3:l'.params=l.params:=by have:=congrArg DS.params hre;exact this
 have hr4:l'.assign=l.assign:=by have:=congrArg DS.assign hre;exact this
 have hr5:l'.body=l.body:=by have:=congrArg DS.body hre;exact this
 have hr6:l'.hl=l.hl:=by have:=congrArg DS.hl hre;exact this
 have hh':Ap B (κ.set i (some (b,d))) (h.set i (.loop l')) (w.putObj b o):=
  CN hh hi hk hne (fun b' bs e=>⟨.inl ⟨bs,e⟩,by cases e;simpa using hlt⟩) (by rw [hset];exact x) (by
   rw [hset];refine ⟨f,tmps,?_,h2.trans hr1.symm,fun j=>by rw [hr2];exact (h3 j).ext x,fun j=>by rw [hr2,hr6];exact h4 j,(World.putObj_heap_other hbd).trans h5,fun he => ?_⟩
   ·rw [World.putObj_heap_same hlt,ho,hr3,hr4,hr5]
   ·rcases x.ex d he with y|y
    ·exact h6 y
    ·have:=D0 h5;omega)
 rw [hset] at hh';exact hh'
theorem take_set {α:Type} {l:List α} {m i:Nat} {x:α} (hi:m≤i):(l.set i x).take m=l.take m:=by
 apply zJ;intro j;rcases yL j m with hj|hj
 ·rw [zT hj,zT hj,DM (by omega)]
 ·simp [zS,not_lt.2 hj]
theorem KQ:∀{xs ys:List Nat},xs.map mark=ys.map mark→xs=ys
 |[],[],_=>rfl
 |[],y::ys,h=>by simp at h
 |x::xs,[],h=>by simp at h
 |x::xs,y::ys,h=>by
  simp only [xN,List.cons.injEq] at h;have h1:x=y:=by have:=congrArg Deferred.target h.1;simpa [mark] using this
  rw [h1,KQ h.2]
theorem NN {C:Cfg} {fn:FuncId} {rec:Rec} (hrec:EB C.P rec):Vi C fn N rec:=by
 intro R B ro base n f params assign body env h K r κ a w hk hs;split at hk
 ·rename_i g first captured hfv
  split at hk
  ·cases hk
  ·rename_i hent;have hent':enters C.P g=true:=by simpa using hent
   obtain ⟨LR,hLR⟩:∃LR:DS,LR={fn,size:=N,env,params:=params.toList,assign,body,busy:=false,pending:=none,ended:=false,hl:=h.length}:=⟨_,rfl⟩
   rw [← hLR] at hk;have hcall:=hrec _ _ _ _ _ hk;dsimp only at hcall;have hval:=BZ hs.rel f;rw [hfv] at hval;generalize hav:a.eval f=fv at hval;cases hval with
   |func _ _ _ fs cs q1 q2 q3 q4=>
    have go:∀(fn0:FuncId) (l d:Nat) (mk:List Deferred) (w1:World),(Instr.enterLoop fn0 a.tmps params assign body ro).run C.P w = .ok (l,mk) w1→w1.os=w.os→w1.tape=w.tape→w1.output=w.output→w.heap.size≤w1.heap.size→
      (∀b,b<w.heap.size→w1.heap[b]? = w.heap[b]?)→w.heap.size≤l→l<w1.heap.size→d≠l→w1.heap[d]? = some (.deferred (some []))→¬Ex κ h d→
      w1.heap[l]? = some (.loop {state :=.ready,pending:=none,fn:=fn0,tmps:=a.tmps,params,assign,body,defers:=d})→
      (∀κ4 h4 w4,Ext κ h w κ4 h4 w4→w4.heap[d]? = some (.deferred (some []))→¬Ex κ4 h4 d→Marks base κ4 h4 w4 (mk++a.defers))→
      ∃(l:Nat) (mark:List Deferred) (w₁:World) (d:Deferred) (w₁':World) (f':FuncId) (args:Array Value) (w₂:World),
       (Instr.enterLoop fn0 a.tmps params assign body (Fr ro).round).run C.P w = .ok (l,mark) w₁∧
       (resolve a.eval (rangeCall f l) 0).run C.P w₁ = .ok d w₁'∧
       (∀f',Target.leads C.P w₁' d.target d.args=some f'→(Fr ro).fn f')∧
       (invoke d.target d.args).run C.P w₁' = .ok (.enter f' args) w₂∧
       ((Fr ro).depth.isSome=true→1≤n)∧
       CallsIn (Fr ro) (n-1) C.P f' args w₂ (rangePost (Fr ro) n C.P l (Ks B N ro base κ env h w [] K r) {a with defers:=mark++a.defers}):=by
     intro fn0 l d mk w1 he o1 o2 o3 o4 o5 o6 o7 o8 o9 o10 o11 hmarks;obtain ⟨hh1,x1⟩:=WO hs.rel hLR o1 o2 o3 o4 o5 o6 o7 o8 o9 o10 o11;have hyl:AQ B (κ++[some (l,d)]) (h++[.loop LR]) w1 (.yld h.length) (.func (.yield l) #[] #[]):=
      .yld _ l d (by rw [← hs.rel.heap.len];exact Am κ _) ⟨_,Am h _⟩
     have hc:AW B (κ++[some (l,d)]) (h++[.loop LR]) w1 (first++[.yld h.length]++captured) (fs ++ #[.func (.yield l) #[] #[]]++cs):=
      D1 (D1 ⟨q1,fun j x hx=>(q3 j x hx).ext x1⟩ ⟨rfl,fun j x hx=>by
       cases j with
       |zero=>cases hx;exact hyl
       |succ j=>simp at hx⟩) ⟨q2,fun j x hx=>(q4 j x hx).ext x1⟩
     have hcl:=hcall B _ w1 _ (n-1) hh1 hc;refine ⟨l,mk,w1,{target :=.fn (.func g) cs,args:=fs ++ #[.func (.yield l) #[] #[]]},w1,g,fs ++ #[.func (.yield l) #[] #[]]++cs,w1,he,?_,fun _ _=>trivial,?_,fun e=>(by simp [Fr] at e),?_⟩
     ·have e1:a.eval (.const (.func (.yield l) #[] #[]))= .func (.yield l) #[] #[]:=rfl;simp [resolve,hav,e1,Deferred.ofValue]
     ·simp [invoke,Gn hent']
     ·refine (CallsIn.fr hcl).mono ?_
      rintro e w3 ⟨v,rv,κ3,rs,h2,rfl,hK,hm,hv,hh3,x3⟩
      obtain ⟨j,hj,hk2⟩:=bind_some hK;unfold Tm at hj;split at hj
      ·rename_i l2 hl2;split at hj
       ·cases hj
       ·rename_i hbe;simp only [yX,not_or,Bool.not_eq_true] at hbe;cases hj;obtain ⟨k3,k1⟩:=AG hk2;have hk3:κ3[h.length]? = some (some (l,d)):=(x3.kap h.length _ _ (Am h _) hl2 rfl).trans (by rw [← hs.rel.heap.len];exact Am κ _);obtain ⟨f3,tmps3,r3,g1,g2,g3,g4,g5,g6⟩:=Nd (l':={l2 with ended:=true}) hh3 hl2 hk3 rfl;have hst:r3.state ≠ .busy:=by rw [g2,hbe.1,hbe.2];simp only [zD,if_false];split<;>simp
        have hpe:r3.pending=l2.pending:=by rw [g2]
        obtain ⟨hh4,x4⟩:=g6 (.loop {r3 with state :=.exhausted}) (by rw [g2];simp);have x5:=(x1.trans x3).trans x4;have htk:(h2.set h.length (.loop {l2 with ended:=true})).take h.length=h2.take h.length:=take_set (yI _);have x6:=x5.EF (m:=h.length) (yI _);rw [htk] at x6;have hh6:=hh4.EF (m:=h.length) (by rw [htk];exact k3);rw [htk] at hh6;have hlo4:=hh4.obj h.length _ _ (As hl2) hk3;obtain ⟨_,_,_,_,_,_,d1,d2⟩:=hlo4;have hst6:St B N ro base (κ3.take h.length) env (h2.take h.length) {a with defers:=mk++a.defers} (w3.putObj l (.loop {r3 with state :=.exhausted})):=by
         refine ⟨⟨hh6,hs.rel.size,fun i => ?_⟩,hmarks _ _ _ x6 d1 fun he=>d2 ?_,hs.round.ext x6,yJ hs.bsz x6.size⟩
         ·have:=((hs.rel.slot i).ext x5).EF (m:=h.length) (hs.rel.slot i).refs;rw [htk] at this;exact this
         ·rw [← htk] at he;exact he.take
        refine ⟨l2.pending,w3.putObj l (.loop {r3 with state :=.exhausted}),(run_endLoop g1 hst).trans (congrArg (fun z=>Result.ok z (w3.putObj l (.loop {r3 with state :=.exhausted}))) hpe),?_⟩;cases hpd:l2.pending with
        |none=>
         rw [hpd] at k1;exact ⟨_,_,_,k1,hst6,x6,fun _ _=>rfl⟩
        |some c=>
         rw [hpd] at k1;obtain ⟨e,he2,k1⟩:=bind_some k1;cases c<;>simp only [Tv] at he2<;>first|cases he2|skip
         ·exact wpIn_exit ⟨_,_,_,k1,hst6,x6,fun _ _=>rfl⟩
         ·exact wpIn_ret ⟨_,_,_,k1,hst6,x6,fun _ _=>rfl⟩
      ·cases hj
    refine wpIn_rangeFunc fun fn0 _ => ?_;cases ro with
    |none=>
     refine go fn0 (w.heap.size+1) w.heap.size _ _ (run_enterLoop_outer fn0 a.tmps params assign body) rfl rfl rfl (by simp [World.size_alloc];omega) (fun b hb => ?_) (by omega) (by simp [World.size_alloc]) (by omega) ?_ ?_ ?_ ?_
     ·rw [Ar _ _ (by simp;omega),Ar _ _ hb]
     ·rw [Ar _ _ (by simp)];exact World.alloc_heap_new _ _
     ·rintro ⟨i,bs,o,y1,y2,y3⟩
      have:=hs.rel.heap.lt i _ _ y1;omega
     ·have:=World.alloc_heap_new (w.alloc (.deferred (some []))) (.loop {state :=.ready,pending:=none,fn:=fn0,tmps:=a.tmps,params:=params,assign:=assign,body:=body,defers:=w.heap.size});rw [World.size_alloc] at this;exact this
     ·intro κ4 h4 w4 x y1 y2;obtain ⟨rs4,z1,z2,z3⟩:=hs.marks.ext x;obtain ⟨rs5,z4,z5,z6⟩:=hs.marks;refine ⟨w.heap.size::rs5,by rw [z4];rfl,?_,fun q hq => ?_⟩
      ·refine xZ.2 ⟨fun hm => ?_,z5⟩;have:=D0 (z6 _ hm).2.1;omega
      ·rcases xP.1 hq with rfl|hq
       ·exact ⟨hs.bsz,y1,y2⟩
       ·have e:rs5=rs4:=by have e1:rs5.map mark=rs4.map mark:=z4.symm.trans z1;exact KQ e1
        rw [e] at hq;exact z3 q hq
    |some b0=>
     obtain ⟨i,d,l0,r1,r2⟩:=hs.round b0 rfl;obtain ⟨f0,t0,e1,e2,e3,e4,e5,e6⟩:=hs.rel.heap.obj i _ _ r2 r1;refine go fn0 w.heap.size d _ _ (run_enterLoop_inner e1 fn0 a.tmps params assign body) rfl rfl rfl (by simp [World.size_alloc]) (fun b hb => ?_) (yI _) (by simp [World.size_alloc]) ?_ ?_ e6 ?_ ?_
     ·exact Ar _ _ hb
     ·have:=D0 e5;omega
     ·rw [Ar _ _ (D0 e5)];exact e5
     ·exact World.alloc_heap_new _ _
     ·intro κ4 h4 w4 x _ _;exact hs.marks.ext x
 ·cases hk
end Ab
namespace Ab
open Go
variable {R:Type} {P:Program} {B:Nat→Prop} {κ:BB} {h:Heap} {w:World} {N:Nat} {env:Env} {a:Act} {ro:Option Nat} {base:Nat}
theorem PI:∀(ps:List Tmp) (args:List AV) (us:List Value) (env:Env) (tmps:Array Value),args.length=ps.length→us.length=ps.length→(∀t∈ps,t<tmps.size)→(∀j x,args[j]? = some x→AQ B κ h w x (us.getD j undef))→
  (∀i,AQ B κ h w (env i) (tmps.getD i undef))→((ps.zip us).foldl (fun (tmps:Array Value) (p:Tmp×Value)=>tmps.setIfInBounds p.1 p.2) tmps).size=tmps.size∧∀i,AQ B κ h w (NP env ps args i) (((ps.zip us).foldl (fun (tmps:Array Value) (p:Tmp×Value)=>tmps.setIfInBounds p.1 p.2) tmps).getD i undef)
 |[],[],[],env,tmps,_,_,_,_,hv=>⟨rfl,hv⟩
 |[],x::args,us,env,tmps,h1,_,_,_,_=>by simp at h1
 |[],[],u::us,env,tmps,_,h2,_,_,_=>by simp at h2
 |p::ps,[],us,env,tmps,h1,_,_,_,_=>by simp at h1
 |p::ps,x::args,[],env,tmps,_,h2,_,_,_=>by simp at h2
 |p::ps,x::args,u::us,env,tmps,h1,h2,hlt,ha,hv=>by
  have hp:p<tmps.size:=hlt p (by simp);obtain ⟨e1,e2⟩:=PI ps args us (env.put (some p) x) (tmps.setIfInBounds p u) (by simpa using h1) (by simpa using h2) (fun t ht=>by simpa using hlt t (by simp [ht]))
   (fun j y hy=>by simpa using ha (j+1) y (by simpa using hy)) (fun i=>by
    simp only [Env.put];by_cases hi:i=p
    ·subst hi;rw [if_pos rfl];have:(tmps.setIfInBounds i u).getD i undef=u:=by simp [Array.getD,hp]
     rw [this];simpa using ha 0 x rfl
    ·rw [if_neg hi];have:(tmps.setIfInBounds p u).getD i undef=tmps.getD i undef:=by simp only [Array.getD_eq_getD_getElem?];rw [Array.getElem?_setIfInBounds_ne (Ne.symm hi)]
     rw [this];exact hv i)
  refine ⟨by simpa using e1,fun i => ?_⟩;simpa [NP] using e2 i
theorem M8 {i:Nat} {l:DS} (hi:h[i]? = some (.loop l)) (bz:Bool) (pd:Option Code):Gm h i bz pd=h.set i (.loop {l with busy:=bz,pending:=pd}):=by unfold Gm;rw [hi]
theorem PN {i:Nat} (ho:Qc h i=true):∃l,h[i]? = some (.loop l)∧l.ended=false:=by
 unfold Qc at ho;split at ho
 ·rename_i l hl;exact ⟨l,hl,by simpa using ho⟩
 ·cases ho
theorem TX {i:Nat} (ho:QW h i=true):∃l,h[i]? = some (.loop l)∧l.ended=false∧l.busy=false∧l.pending=none:=by
 unfold QW at ho;split at ho
 ·rename_i l hl;simp only [zC,yV,Option.isNone_iff_eq_none] at ho;exact ⟨l,hl,ho.1.1,ho.1.2,ho.2⟩
 ·cases ho
theorem Le {i b d:Nat} (hh:Ap B κ h w) (ho:Qc h i=true) (hk:κ[i]? = some (some (b,d))) (jump:Option Code) :
  ∃w',(Instr.endRound b jump).run P w = .ok (.bool jump.isNone) w'∧Ap B κ (Gm h i false jump) w'∧Ext κ h w κ (Gm h i false jump) w':=by
 obtain ⟨l,hl,he⟩:=PN ho;obtain ⟨f3,tmps3,r3,g1,g2,g3,g4,g5,g6⟩:=Nd (l':={l with busy:=false,pending:=jump}) hh hl hk rfl;obtain ⟨hh4,x4⟩:=g6 (.loop {r3 with state:=if jump.isNone then .ready else .done,pending:=jump}) (by cases jump<;>simp [he])
 rw [M8 hl];exact ⟨_,run_endRound jump g1,hh4,x4⟩
theorem Xr {C:Cfg} {rec:Rec} {pc:BN} (hrec:EB C.P rec) (hpc:CW C.P pc) (hmix:C.P.follows .mixedOrders=true) {m i:Nat} {args:List AV} {K:List AV→Heap→Option R} {res:R} (hk:NG C rec pc m i args h K=some res):Vf C.P i args h K res:=by
 intro B κ w vs b d n hh hc hki;unfold NG at hk
 try simp only [AB] at hk
 split at hk
 ·rename_i l hi;obtain ⟨⟨hb,he,hp,hal,hpl⟩,hk1⟩:=AG hk;obtain ⟨f,tmps,h1,h2,h3,h4,h5,h6⟩:=hh.obj i _ _ hi hki;have hpn:l.pending=none:=by simpa using hp
  have h1':w.heap[b]? = some (.loop {state :=.ready,pending:=none,fn:=f,tmps,params:=l.params.toArray,assign:=l.assign,body:=l.body,defers:=d}):=by rw [h1,he,hb,hpn];rfl
  have hsz:vs.size=l.params.length:=hc.1.trans hal;have hfold:(l.params.toArray.zip vs).foldl (fun tmps (t,a)=>tmps.setIfInBounds t a) tmps=(l.params.zip vs.toList).foldl (fun (tmps:Array Value) (p:Tmp×Value)=>tmps.setIfInBounds p.1 p.2) tmps:=by obtain ⟨us⟩:=vs;have e:l.params.toArray.zip ({toList:=us}:Array Value)=(l.params.zip us).toArray:=List.zip_toArray ..;rw [e];simp
  obtain ⟨p1,p2⟩:=PI l.params args vs.toList l.env tmps hal (by simpa using hsz) (fun t ht=>by
    rw [h2];have:=zG.1 hpl t ht;simpa using this) (fun j x hx=>by
    have:=hc.2 j x hx;rw [← Array.toArray_toList (xs:=vs),Bh] at this;exact this) h3
  refine ⟨f,_,l.assign,l.body,run_yield h1' (by simpa using hsz),?_⟩;rw [hfold];refine roundIn_of_wpIn trivial ?_;have hs:St B l.size (some b) w.heap.size κ (NP l.env l.params args) h {tmps:=(l.params.zip vs.toList).foldl (fun (tmps:Array Value) (p:Tmp×Value)=>tmps.setIfInBounds p.1 p.2) tmps,defers:=[]} w:=
   ⟨⟨hh,p1.trans h2,p2⟩,⟨[],rfl,wA,fun r hr=>by simp at hr⟩,fun b' hb'=>by cases hb';exact ⟨i,d,l,hki,hi⟩,yI _⟩
  refine wpIn_mono (OM (C:=C.at l.fn) hrec hpc hmix (NN hrec) n l.assign hk1 hs) fun e a1 w1 hp1 => ?_;obtain ⟨env1,ha,κ1,j1,j2,j3,j4⟩:=hp1;cases e with
  |normal=>
   dsimp only at j1;obtain ⟨hrd,j1⟩:=AG j1;obtain ⟨l1,hl1,r1,r2,r3⟩:=TX hrd;have hk1':κ1[i]? = some (some (b,d)):=(j3.kap i _ _ hi hl1 rfl).trans hki;obtain ⟨f3,tmps3,rr,g1,g2,g3,g4,g5,g6⟩:=Nd (l':={l1 with busy:=true,pending:=none}) j2.rel.heap hl1 hk1' rfl;obtain ⟨hh4,x4⟩:=g6 (.loop {rr with state :=.busy}) (by rw [g2];simp [r1,r3]);rw [M8 hl1] at j1;refine ⟨_,run_beginRound g1 (by rw [g2];simp [r1,r2,r3]),?_⟩;have hs4:St B l.size (some b) w.heap.size κ1 env1 (ha.set i (.loop {l1 with busy:=true,pending:=none})) a1 (w1.putObj b (.loop {rr with state :=.busy})):=
    j2.next ⟨hh4,j2.rel.size,fun j=>(j2.rel.slot j).ext x4⟩ x4 rfl
   refine wpIn_mono (OM (C:=C.at l.fn) hrec hpc hmix (NN hrec) n l.body j1 hs4) fun e a2 w2 hp2 => ?_;obtain ⟨env2,hb2,κ2,q1,q2,q3,q4⟩:=hp2;obtain ⟨hop,q1⟩:=AG q1;obtain ⟨l5,hl5,_⟩:=PN hop;have hk2':κ2[i]? = some (some (b,d)):=(q3.kap i _ _ (As hl1) hl5 rfl).trans hk1';cases e with
   |normal=>
    obtain ⟨w6,e1,e2,e3⟩:=Le (P:=C.P) q2.rel.heap hop hk2' none;exact ⟨_,w6,e1,_,κ2,_,_,rfl,q1,.t _ _ (.bool _),e2,((j3.trans x4).trans q3).trans e3⟩
   |ret=>
    obtain ⟨w6,e1,e2,e3⟩:=Le (P:=C.P) q2.rel.heap hop hk2' (some .ret);exact ⟨_,w6,e1,_,κ2,_,_,rfl,q1,.t _ _ (.bool _),e2,((j3.trans x4).trans q3).trans e3⟩
   |exit id=>
    obtain ⟨w6,e1,e2,e3⟩:=Le (P:=C.P) q2.rel.heap hop hk2' (some (.exit id));exact ⟨_,w6,e1,_,κ2,_,_,rfl,q1,.t _ _ (.bool _),e2,((j3.trans x4).trans q3).trans e3⟩
   |goto t=>cases q1
   |panic ch=>cases q1
   |outgrown=>cases q1
  |exit id=>cases j1
  |goto t=>cases j1
  |ret=>cases j1
  |panic ch=>cases j1
  |outgrown=>cases j1
 ·cases hk
structure L6 (w w':World):Prop where
 size:w'.heap.size=w.heap.size
 blk:∀(b:Nat) cells elem fr,w'.heap[b]? = some (.cells cells elem fr)↔w.heap[b]? = some (.cells cells elem fr)
 mp:∀(b:Nat) es clock,w.heap[b]? = some (.map es clock)→w'.heap[b]? = some (.map es clock)
theorem L6.cell {w':World} (c:L6 w w') (x:Addr):w'.cell? x=w.cell? x:=by
 unfold World.cell?;cases h1:w'.heap[x.block]? with
 |none=>
  cases h2:w.heap[x.block]? with
  |none=>rfl
  |some o=>
   cases o with
   |cells cs e f=>rw [(c.blk _ cs e f).2 h2] at h1;cases h1
   |_=>rfl
 |some o=>
  cases o with
  |cells cs e f=>rw [(c.blk _ cs e f).1 h1]
  |_=>
   cases h2:w.heap[x.block]? with
   |none=>rfl
   |some o'=>
    cases o' with
    |cells cs e f=>rw [(c.blk _ cs e f).2 h2] at h1;cases h1
    |_=>rfl
theorem Bp.Ji {w':World} (c:L6 w w') {A:Nat→Prop} {x:Tree} {v:Value} (hx:Bp w A x v):Bp w' A x v:=by
 induction hx with
 |int k n=>exact .int k n
 |bool b=>exact .bool b
 |str s=>exact .str s
 |const v h=>exact .const v h
 |mp k m b es clock h1 h2 h3 h4=>exact .mp k m b es clock (by rw [c.size];exact h1) h2 (c.mp _ _ _ h3) h4
 |nil size cap a=>exact .nil size cap a
 |sl size es b off cap u h1 h2 h3 h4 h5 _ ih=>exact .sl size es b off cap u h1 (by rw [c.size];exact h2) h3 h4 (fun j e cc x he hx=>(c.cell _).trans (h5 j e cc x he hx)) ih
theorem AQ.Ji {w':World} (c:L6 w w') {x:AV} {v:Value} (hx:AQ B κ h w x v):AQ B κ h w' x v:=by
 induction hx with
 |undef v=>exact .undef v
 |t y v ht=>exact .t y v (ht.Ji c)
 |nilsl a=>exact .nilsl a
 |ptr i off b base hk hb=>exact .ptr _ _ _ _ hk hb
 |rptr i ver k off v h1 hex hv=>exact .rptr _ _ _ _ _ h1 hex hv
 |eptr size cells off b base u h1 h2 h3 h4 h5=>exact .eptr _ _ _ _ _ u h1 (by rw [c.size];exact h2) h3 (fun j y hy=>(c.cell _).trans (h4 j y hy)) fun j y hy=>(h5 j y hy).Ji c
 |sref i ver off len v h1 hex hs=>
  refine .sref _ _ _ _ _ h1 hex fun k o hk ho he => ?_;obtain ⟨e1,e2,e3⟩:=hs k o hk ho he;refine ⟨e1,e2,?_⟩;rcases e3 with e3|⟨b,bs,rfl,cap,f1,f2,f3⟩
  ·exact .inl e3
  ·exact .inr ⟨b,bs,rfl,cap,f1,f2,fun cells elem fr hc=>f3 cells elem fr ((c.blk _ _ _ _).1 hc)⟩
 |bsl i off len size cap b hk hb hl=>exact .bsl _ _ _ _ _ _ hk hb hl
 |yld i b base hk hb=>exact .yld _ _ _ hk hb
 |func fn first captured fs cs h1 h2 _ _ i1 i2=>exact .func _ _ _ _ _ h1 h2 i1 i2
 |agg xs vs h1 _ ih=>exact .agg _ _ h1 ih
 |tuple xs vs h1 _ ih=>exact .tuple _ _ h1 ih
def UH (κ:BB) (h:Heap) (r:Nat):Prop:=∀(i b d:Nat) (l:DS),κ[i]? = some (some (b,d))→h[i]? = some (.loop l)→d≠r
theorem Hr {r:Nat} {x:Option (List Deferred)} {y:Option (List Deferred)} (hr:w.heap[r]? = some (.deferred x)):L6 w (w.putObj r (.deferred y)):=by
 refine ⟨by simp,fun b cells elem fr => ?_,fun b es clock h => ?_⟩;rotate_left
 ·by_cases hb:b=r
  ·subst hb;rw [hr] at h;cases h
  ·rw [World.putObj_heap_other hb];exact h
 by_cases hb:b=r
 ·subst hb;rw [World.putObj_heap_same (D0 hr),hr];simp
 ·rw [World.putObj_heap_other hb]
theorem V4 {r:Nat} {x y:Option (List Deferred)} (hh:Ap B κ h w) (hr:w.heap[r]? = some (.deferred x)) (hn:UH κ h r):Ap B κ h (w.putObj r (.deferred y)):=by
 have c:L6 w (w.putObj r (.deferred y)):=Hr hr;refine ⟨hh.len,hh.inj,hh.notB,fun i b bs hi=>by rw [c.size];exact hh.lt i b bs hi,fun b hb=>by rw [c.size];exact hh.ltB b hb,fun i o k ho hk => ?_⟩;have hob:=hh.obj i o k ho hk;cases k with
 |none=>cases o<;>exact hob
 |some p=>
  obtain ⟨b,bs⟩:=p;cases o with
  |box cs=>
   obtain ⟨h0,cells,elem,hc,hs,hv⟩:=hob;exact ⟨h0,cells,elem,(c.blk _ _ _ _).2 hc,hs,fun j y hy=>(hv j y hy).Ji c⟩
  |row f v s es=>
   obtain ⟨hz,cells,elem,hc,hs,hl,hv⟩:=hob;exact ⟨hz,cells,elem,(c.blk _ _ _ _).2 hc,hs,hl,fun j e cc y he hy=>(hv j e cc y he hy).Ji c⟩
  |loop l=>
   obtain ⟨f,tmps,hc,hs,hv,hrf,hd,hnx⟩:=hob;have hbr:b≠r:=fun e=>by rw [e,hr] at hc;cases hc
   have hdr:bs≠r:=hn i b bs l hk ho;exact ⟨f,tmps,(World.putObj_heap_other hbr).trans hc,hs,fun j=>(hv j).Ji c,hrf,(World.putObj_heap_other hdr).trans hd,hnx⟩
theorem XV {κ':BB} {h':Heap} {w':World} {r:Nat} {x y:Option (List Deferred)} (e:Ext κ h w κ' h' w') (hr:w'.heap[r]? = some (.deferred x)) (hb:w.heap.size≤r):Ext κ h w κ' h' (w'.putObj r (.deferred y)) where
 os:=e.os
 tape:=e.tape
 output:=e.output
 size:=by simpa using e.size
 keep:=fun b hlt hn=>(World.putObj_heap_other (by omega)).trans (e.keep b hlt hn)
 ex:=e.ex
 obj:=e.obj
 kap:=e.kap
 cells:=fun i o o' ho ho' hv b bs hk cells elem fr hc=>e.cells i o o' ho ho' hv b bs hk cells elem fr (((Hr (y:=y) hr).blk _ _ _ _).1 hc)
end Ab
namespace Ab
open Go
variable {R:Type} {P:Program} {B:Nat→Prop} {κ:BB} {h:Heap} {w:World} {N:Nat} {env:Env} {a:Act} {ro:Option Nat} {base:Nat}
def X4 (tmps:Array Value):ResultVar→Sem Value
 | .tmp t=>pure (tmps.getD t undef)
 | .cell a t=>do loadVar t (← asAddr (tmps.getD a undef))
theorem TU (fn:Func) (tmps:Array Value):results fn tmps=(do let vs ← fn.results.mapM (X4 tmps);pure (LJ vs)):=rfl
theorem Tj {t:TypeId} {v val:Value} (hl:(Instr.loadAt t v).run P w = .ok val w):(do loadVar t (← asAddr v):Sem Value).run P w = .ok val w:=by
 unfold Instr.loadAt at hl;cases v with
 |pointer p=>
  cases p with
  |some x=>exact hl
  |none=>simp [Instr.sureAddr] at hl
 |_=>simp [Instr.sureAddr] at hl
theorem TV (hr:Rel B N κ env h a w):∀{rv:List ResultVar} {K:List AV→Option R} {r:R},TW P env h rv K=some r→
  ∃(avs:List AV) (us:List Value),K avs=some r∧(rv.mapM (X4 a.tmps)).run P w = .ok us w∧AW B κ h w avs us.toArray
 |[],K,r,hk=>⟨[],[],hk,by simp,rfl,fun j x hx=>by simp at hx⟩
 | .tmp t::rv,K,r,hk=>by simp only [TW] at hk;obtain ⟨avs,us,h1,h2,h3⟩:=TV hr hk;refine ⟨_,_::us,h1,?_,Co (hr.slot t) h3⟩;simp only [mapM_cons,X4,Sem.run_bind,Sem.run_pure,Result.andThen_ok,h2]
 | .cell x t::rv,K,r,hk=>by simp only [TW] at hk;obtain ⟨v,val,h4,h5,h6⟩:=Sy (P:=P) hk hr.heap (hr.slot x);obtain ⟨avs,us,h1,h2,h3⟩:=TV hr h4;refine ⟨_,val::us,h1,?_,Co h6 h3⟩;have h7:=Tj h5;rw [mapM_cons,Sem.run_bind];have h8:(X4 a.tmps (.cell x t)).run P w = .ok val w:=h7;rw [h8,Result.andThen_ok,Sem.run_bind,h2,Result.andThen_ok,Sem.run_pure]
theorem Rs {fn:Func} {tmps:Array Value} {us:List Value} (hm:(fn.results.toList.mapM (X4 tmps)).run P w = .ok us w):(results fn tmps).run P w = .ok (LJ us.toArray) w:=by rw [TU,Array.mapM_eq_mapM_toList];simp only [Sem.run_bind,map_eq_pure_bind,hm,Result.andThen_ok,Sem.run_pure]
theorem MF {fn:Func} {n:Nat} {κ0:BB} {h0:Heap} {w0:World} {Q:Ending→World→Prop} (hb:w0.heap.size≤base)
  (fin:∀w,Rel B N κ env h a w→Ext κ0 h0 w0 κ h w→∃v,(results fn a.tmps).run P w = .ok v w∧Q (.returned v) w) :
  ∀(rs:List Nat) (w:World),rs.Nodup→(∀r∈rs,base≤r∧w.heap[r]? = some (.deferred (some []))∧UH κ h r)→Rel B N κ env h a w→Ext κ0 h0 w0 κ h w→LeavesInM (Fr none) n P fn a.tmps Q (rs.map mark) .returning w
 |[],w,_,_,hr,hx=>fin w hr hx
 |r::rs,w,hnd,hall,hr,hx=>by obtain ⟨h1,h2,h3⟩:=hall r (by simp);refine ⟨by simp,.inl ⟨r,w.putObj r (.deferred none),rfl,run_takeDeferred h2,?_⟩⟩;refine MF hb fin rs _ (xZ.1 hnd).2 (fun q hq => ?_) ⟨V4 hr.heap h2 h3,hr.size,fun i=>(hr.slot i).Ji (Hr h2)⟩ (XV hx h2 (yJ hb h1));obtain ⟨h4,h5,h6⟩:=hall q (by simp [hq]);have hne:q≠r:=fun e=>(xZ.1 hnd).1 (e ▸ hq);exact ⟨h4,(World.putObj_heap_other hne).trans h5,h6⟩
theorem WK {κ':BB} {h':Heap} {w':World} (hh:Ap B κ h w) (x:Ext κ h w κ' h' w') (hd:(h'.drop h.length).all Qf=true) {r:Nat} (hr:w.heap.size≤r):UH κ' h' r:=by
 intro i b d l hk hi he;rcases yL i h.length with hl|hl
 ·have hg:h[i]? = some h[i]:=zO hl;obtain ⟨o',h1,h2⟩:=x.obj i _ hg;rw [hi] at h1;cases h1;have hkd:=h2.1;cases ho:h[i] with
  |box cs=>rw [ho] at hkd;cases hkd
  |row a b c d=>rw [ho] at hkd;cases hkd
  |loop l0=>
   rw [ho] at hg;have hk0:=(x.kap i _ _ hg hi rfl).symm.trans hk;obtain ⟨_,_,_,_,_,_,h5,_⟩:=hh.obj i _ _ hg hk0;have:=D0 h5;omega
 ·have:(h'.drop h.length)[i-h.length]? = some (.loop l):=by rw [zN,show h.length+(i-h.length)=i from by omega];exact hi
  have:=Ez hd this;cases this
theorem Y1 {vs:Array Value} {avs:List AV} (hh:Ap B κ h w) (hc:AW B κ h w avs vs) {M:Nat} (hM:avs.length≤M):Rel B M κ (fun i=>avs.getD i .undef) h {tmps:=vs++Array.replicate (M-vs.size) undef,defers:=[]} w:=by
 have hsz:=hc.1;refine ⟨hh,by simp;omega,fun i => ?_⟩;rcases yL i avs.length with hi|hi
 ·have hg:avs[i]? = some avs[i]:=zO hi;have:=hc.2 i _ hg;have e:avs.getD i .undef=avs[i]:=by simp [List.getD,hg]
  rw [e];have e2:(vs++Array.replicate (M-vs.size) undef).getD i undef=vs.getD i undef:=by simp only [Array.getD_eq_getD_getElem?];rw [Array.getElem?_append_left (by omega)]
  rw [e2];exact this
 ·have e:avs.getD i .undef = .undef:=by simp [List.getD,zP hi]
  rw [e];exact .undef _
theorem Ml {C:Cfg} {rec:Rec} {pc:BN} (hrec:EB C.P rec) (hpc:CW C.P pc) (hmix:C.P.follows .mixedOrders=true) {m:Nat} {g:FuncId} {avs:List AV} {K:List AV→Heap→Option R} {r:R} (hk:Da C rec pc m g avs h K=some r)
  {vs:Array Value} (n:Nat) (hh:Ap B κ h w) (hc:AW B κ h w avs vs) (Q:Ending→World→Prop)
  (fin:∀(ls:List AV) (us:List Value) (h':Heap) (κ':BB) (w':World) (res:Value),K ls h'=some r→AW B κ' h' w' ls us.toArray→Ap B κ' h' w'→Ext κ h w κ' h' w'→
   (∀(B2:Nat→Prop) (κ2:BB) (h2:Heap) (w2:World) (leaf:Nat→AV),(∀j u,us[j]? = some u→AQ B2 κ2 h2 w2 (leaf j) u)→∃rv,DC C.P g leaf=some rv∧AQ B2 κ2 h2 w2 rv res)→Q (.returned res) w') :
  CallsIn (Fr none) n C.P g vs w Q:=by
 unfold Da at hk
 try simp only [AB] at hk
 split at hk
 ·rename_i fn hf;split at hk
  ·rename_i c hb;obtain ⟨hN,hk1⟩:=AG hk;refine callsIn_of_wp_marks hf hb trivial ?_;have hs:St B fn.ntmps none w.heap.size κ (fun i=>avs.getD i .undef) h {tmps:=vs++Array.replicate (fn.ntmps-vs.size) undef,defers:=[]} w:=
    ⟨Y1 hh hc hN,⟨[],rfl,wA,fun r hr=>by simp at hr⟩,fun b' hb'=>(by cases hb'),yI _⟩
   refine wpIn_mono (OM (C:=C.at g) hrec hpc hmix (NN hrec) n c hk1 hs) fun e a1 w1 hp1 => ?_;obtain ⟨env1,h1,κ1,j1,j2,j3,j4⟩:=hp1;have go:(if ((h1.drop h.length).all Qf)=true then TW C.P env1 h1 fn.results.toList fun vs=>Dt C.P fn.resultTypes.toList vs fun rs=>K rs h1 else none)=some r→LeavesInM (Fr none) n C.P fn a1.tmps Q a1.defers .returning w1:=by
    intro j1;obtain ⟨hnl,j1⟩:=AG j1;obtain ⟨rs,m1,m2,m3⟩:=j2.marks;rw [m1];refine MF (base:=w.heap.size) (yI _) ?_ rs w1 m2 (fun q hq=>⟨(m3 q hq).1,(m3 q hq).2.1,WK hh j3 hnl (m3 q hq).1⟩) j2.rel j3;intro w2 hr2 x2;obtain ⟨avs2,us2,k1,k2,k3⟩:=TV (P:=C.P) hr2 j1;obtain ⟨ls,us,f1,f2,f3⟩:=KX k1 k3;refine ⟨_,Rs k2,fin ls us h1 κ1 w2 _ f1 f2 hr2.heap x2 fun B2 κ2 h2 w2 leaf hl => ?_⟩;obtain ⟨avs',e1,e2⟩:=f3 B2 κ2 h2 w2 leaf 0 fun j u hu=>by rw [yR];exact hl j u hu
    exact YO hf e1 e2
   cases e with
   |normal=>exact go j1
   |ret=>exact go j1
   |exit id=>cases j1
   |goto t=>cases j1
   |panic ch=>cases j1
   |outgrown=>cases j1
  ·cases hk
 ·cases hk
theorem call_ok {C:Cfg} {rec:Rec} {pc:BN} (hrec:EB C.P rec) (hpc:CW C.P pc) (hmix:C.P.follows .mixedOrders=true) {m:Nat} {g:FuncId} {avs:List AV} {K:List AV→Heap→Option R} {res:R} (hk:Da C rec pc m g avs h K=some res):Zf C.P g avs h K res:=by
 intro B κ w vs n hh hc;refine Ml hrec hpc hmix hk n hh hc _ fun ls us h1 κ' w' rv0 k1 k2 k3 k4 k5 => ?_;obtain ⟨rv,e1,e2⟩:=k5 B κ' h1 w' (fun i=>ls.getD i .undef) fun j u hu=>by
  have hj:j<ls.length:=by have:=AU hu;have h2:=k2.1;simp at h2;omega
  have hg:ls[j]? = some ls[j]:=zO hj;have:=k2.2 j _ hg;rw [Bh] at this;simp only [List.getD,hg,hu,Option.getD_some] at this ⊢;exact this
 exact ⟨rv0,rv,κ',ls,h1,rfl,k1,e1,e2,k3,k4⟩
theorem pure_ok {C:Cfg} {rec:Rec} {pc:BN} (hrec:EB C.P rec) (hpc:CW C.P pc) (hmix:C.P.follows .mixedOrders=true) {m:Nat} {g:FuncId} {xs ys:List Tree} (hk:JG C rec pc m g xs=some ys):Lt C.P g xs ys:=by
 unfold JG at hk
 try simp only [AB] at hk
 split at hk
 ·rename_i avs hm;intro B w avs' vs n hm' hB hc;rw [hm] at hm';cases hm';refine Ml hrec hpc hmix hk n (Jb hB) hc _ fun ls us h1 κ' w' res k1 k2 k3 k4 k5 => ?_;have hlen:us.length=ls.length:=by simpa using k2.1
  obtain ⟨zs,c1,c2,c3,c4⟩:=DD (P:=C.P) k1 k3 (vs:=us) hlen (fun j x v hx hv=>by have:=k2.2 j x hx;rw [Bh] at this;simp only [List.getD,hv,Option.getD_some] at this;exact this)
  obtain ⟨hsc,c1⟩:=AG c1;cases c1;obtain ⟨rv,e1,e2⟩:=k5 B [] [] w' (fun i =>.t (ys.getD i default)) fun j u hu=>by
   have hj:j<ys.length:=by have:=AU hu;omega
   have hg:ys[j]? = some ys[j]:=zO hj;have:=c4 j _ u hg hu;have e:ys.getD j default=ys[j]:=by simp [List.getD,hg]
   rw [e];exact .t _ _ (this.less fun b hb=>by
    rcases hb with hb|hb
    ·exact .inl hb
    ·exact (Du hb).elim)
  exact ⟨res,rv,rfl,e1,e2,⟨k4.os,k4.tape,k4.output,k4.size,fun b hb=>k4.keep b hb fun he=>Du he⟩,hsc⟩
 ·cases hk
theorem WD {P:Program} {g:FuncId} (hp:NQ P g=true) (leaf:Nat→AV):DC P g leaf=some (leaf 0):=by
 unfold NQ at hp;unfold DC;split at hp
 ·rename_i fn hf
  try rw [hf]
  split at hp
  ·rename_i t ht;have ha:A9 P t=some false:=by simpa using hp
   try dsimp only
   rw [ht];cases hs:B3 P t<;>simp [Cn,JI,ha,hs]
  ·cases hp
 ·cases hp
theorem own_ok {C:Cfg} {rec:Rec} {pc:BN} (hrec:EB C.P rec) (hpc:CW C.P pc) (hmix:C.P.follows .mixedOrders=true) {m:Nat} {g:FuncId} {xs ys:List Tree} (hk:NR C rec pc m g xs=some ys):OwnOk C.P g xs ys:=by
 unfold NR at hk
 try simp only [AB] at hk
 split at hk
 ·rename_i avs t hm ht;obtain ⟨z,hz,hk⟩:=bind_some hk;obtain ⟨hplain,hk⟩:=AG hk;intro B w avs' vs n hm' hB hc;rw [hm] at hm';cases hm';refine Ml hrec hpc hmix hk n (Jb hB) hc _ fun ls us h1 κ' w' res k1 k2 k3 k4 k5 => ?_;have hgrow:RR w w':=⟨k4.os,k4.tape,k4.output,k4.size,fun b hb=>k4.keep b hb fun he=>Du he⟩
  have hlen:us.length=ls.length:=by simpa using k2.1
  obtain ⟨rv,e1,e2⟩:=k5 B κ' h1 w' (fun i=>ls.getD i .undef) fun j u hu=>by
   have hj:j<ls.length:=by have:=AU hu;omega
   have hg:ls[j]? = some ls[j]:=zO hj;have:=k2.2 j _ hg;rw [Bh] at this;simp only [List.getD,hg,hu,Option.getD_some] at this ⊢;exact this
  rw [WD hplain] at e1;cases e1;split at k1
  ·cases k1;have e3:AQ B κ' h1 w' .nilsl res:=e2;cases e3 with
   |nilsl a0=>exact ⟨_,z,[],rfl,rfl,hgrow,.inl ⟨rfl,a0,rfl⟩⟩
  ·rename_i i ver off len;split at k1
   ·rename_i ver' size es hi;obtain ⟨hvs,k1'⟩:=AG k1;clear k1;obtain ⟨rfl,rfl⟩:=hvs;cases k1';have e3:AQ B κ' h1 w' (.sref i ver' off len) res:=e2;refine ⟨res,size,_,rfl,rfl,hgrow,?_⟩;cases e3 with
    |sref _ _ _ _ _ _ _ hsr=>
     obtain ⟨kk,hkk⟩:=CE k3 hi;obtain ⟨_,hle,hmm⟩:=hsr kk _ hkk hi rfl;simp only [AI.len] at hle;have ho:=k3.obj i _ _ hi hkk;rcases hmm with ⟨rfl,hof,a0,rfl⟩|⟨b,base,rfl,cap,rfl,hcap',hcs⟩
     ·exact .inl ⟨by simp,a0,rfl⟩
     ·skip
      have hcap:len≤cap:=by simp only [AI.len] at hcap';omega
      obtain ⟨hz0,cells,elem,hb,hbs,hel,hT⟩:=ho;have hex:Ex κ' h1 b:=⟨i,base,_,hkk,hi,rfl⟩
      have hnew:w.heap.size≤b:=by
       rcases k4.ex b hex with h|h
       ·exact (Du h).elim
       ·exact h
      have hcsz:=hcs cells elem _ hb;have hlen2:((es.drop off).take len).length=len:=by simp;omega
      have hget:∀(j:Nat) (e:List Tree),((es.drop off).take len)[j]? = some e→es[off+j]? = some e:=fun j e he=>by have:=B7 he;rw [zN] at this;exact this.2
      refine .inr ⟨b,base+off*size,cap,cells,elem,by simp only [AI.size];rw [hlen2],by rw [hlen2];exact hcap,hnew,k3.lt i b base hkk,hz0,hb,?_,fun j e he=>hel _ e (hget j e he),fun j e c x he hx => ?_⟩
      ·have:base+(off+cap)*size≤cells.size:=hcsz;rw [yG] at this;omega
      ·have h8:=hT (off+j) e c x (hget j e he) hx;rw [show base+off*size+(j*size+c)=base+((off+j)*size+c) by rw [yG];omega];exact h8.less fun b' hb'=>by
        rcases hb' with hb'|rfl
        ·exact .inl hb'
        ·exact .inr hex
   ·cases k1
  ·cases k1
 ·cases hk
theorem own2_ok {C:Cfg} {rec:Rec} {pc:BN} (hrec:EB C.P rec) (hpc:CW C.P pc) (hmix:C.P.follows .mixedOrders=true) {m j:Nat} {g:FuncId} {xs ys:List Tree} (hk:LO C rec pc m j g xs=some ys):ZH C.P j g xs ys:=by
 unfold LO at hk
 try simp only [AB] at hk
 split at hk
 ·rename_i avs t hm ht;obtain ⟨z,hz,hk⟩:=bind_some hk;intro B w avs' vs n hm' hB hc;rw [hm] at hm';cases hm';refine Ml hrec hpc hmix hk n (Jb hB) hc _ fun ls us h1 κ' w' res k1 k2 k3 k4 k5 => ?_;have hgrow:RR w w':=⟨k4.os,k4.tape,k4.output,k4.size,fun b hb=>k4.keep b hb fun he=>Du he⟩
  have hlen:us.length=ls.length:=by simpa using k2.1
  have hleaf:∀(i:Nat) (x:AV) (u:Value),ls[i]? = some x→us[i]? = some u→AQ B κ' h1 w' x u:=fun i x u hx hu=>by have:=k2.2 i x hx;rw [Bh] at this;simp only [List.getD,hu,Option.getD_some] at this;exact this
  have hend:∀(x:Tree) (u:Value),us[j]? = some u→Mj C.P h1 (A6 C.P g) ls j x=some ys→us.length=ys.length∧ys[j]? = some x∧
    ∀(i:Nat) (y:Tree) (v:Value),i≠j→ys[i]? = some y→us[i]? = some v→Bp w' (fun b=>B b∨Ex κ' h1 b) y v:=fun x u hu he=>by
   unfold Mj at he
   try simp only [AB] at he
   obtain ⟨hts,he⟩:=AG he;have hjl:j<ls.length:=by rw [← hlen];exact AU hu
   obtain ⟨pa,he1,l1,_,t1⟩:=DD (P:=C.P) he k3 (vs:=us.take j) (by simp [hlen]) (fun i x v hx hv=>hleaf i x v (by rw [zS] at hx;split at hx;exact hx;cases hx) (by rw [zS] at hv;split at hv;exact hv;cases hv));obtain ⟨pb,he2,l2,_,t2⟩:=DD (P:=C.P) he1 k3 (vs:=us.drop (j+1)) (by simp [hlen]) (fun i x v hx hv=>hleaf (j+1+i) x v (by rw [zN] at hx;exact hx) (by rw [zN] at hv;exact hv));cases he2;have la:pa.length=j:=by rw [l1];simp;omega
   have lb:pb.length=ls.length-(j+1):=by rw [l2];simp
   refine ⟨by simp [la,lb];omega,by rw [zL (by omega),la];simp,fun i y v hij hy hv => ?_⟩;rcases yL i j with hi|hi
   ·rw [zK (by omega)] at hy;exact (t1 i y v hy (by rw [zT hi];exact hv)).less fun b hb=>hb.imp id fun e=>⟨rfl,e⟩
   ·rw [zL (by omega),la,show i-j=(i-j-1)+1 by omega,List.getElem?_cons_succ] at hy;exact (t2 (i-j-1) y v hy (by rw [zN,show j+1+(i-j-1)=i by omega];exact hv)).less fun b hb=>hb.imp id fun e=>⟨rfl,e⟩
  have hbld:∀(B2:Nat→Prop) (κ2:BB) (h2:Heap) (w2:World) (leaf:Nat→AV),(∀i x,us[i]? = some x→AQ B2 κ2 h2 w2 (leaf i) x)→∃rv,DC C.P g leaf=some rv∧AQ B2 κ2 h2 w2 rv res:=fun B2 κ2 h2 w2 leaf hl=>k5 B2 κ2 h2 w2 leaf hl;split at k1
  ·rename_i hj;obtain ⟨u,hu⟩:∃u,us[j]? = some u:=⟨us[j]'(by rw [hlen];exact AU hj),zO _⟩
   obtain ⟨e1,e2,e3⟩:=hend _ u hu k1;have hv:=hleaf j _ u hj hu;cases hv with
   |nilsl a0=>exact ⟨res,us,z,[],_,rfl,hgrow,e2,e1,hu,.inl ⟨rfl,a0,rfl⟩,(fun i y v hij hy hv=>(e3 i y v hij hy hv).less fun b hb=>hb.imp id fun ⟨o,nn,cc,e,hc⟩=>by injection e with e1 e2 e3;omega),hbld⟩
  ·rename_i i ver off len hj;obtain ⟨u,hu⟩:∃u,us[j]? = some u:=⟨us[j]'(by rw [hlen];exact AU hj),zO _⟩
   split at k1
   ·rename_i ver' size es hi;obtain ⟨hvs,k1'⟩:=AG k1;clear k1;obtain ⟨rfl,rfl⟩:=hvs;obtain ⟨e1,e2,e3⟩:=hend _ u hu k1';have hv:=hleaf j _ u hj hu;cases hv with
    |sref _ _ _ _ _ _ _ hsr=>
     obtain ⟨kk,hkk⟩:=CE k3 hi;obtain ⟨_,hle,hmm⟩:=hsr kk _ hkk hi rfl;simp only [AI.len] at hle;have ho:=k3.obj i _ _ hi hkk;rcases hmm with ⟨rfl,hof,a0,rfl⟩|⟨b,base,rfl,cap,rfl,hcap',hcs⟩
     ·exact ⟨res,us,size,_,_,rfl,hgrow,e2,e1,hu,.inl ⟨by simp,a0,rfl⟩,(fun i y v hij hy hv=>(e3 i y v hij hy hv).less fun b hb=>hb.imp id fun ⟨o,nn,cc,e,hc⟩=>by injection e with e1 e2 e3;omega),hbld⟩
     ·have hcap:len≤cap:=by simp only [AI.len] at hcap';omega
      obtain ⟨hz0,cells,elem,hb,hbs,hel,hT⟩:=ho;have hex:Ex κ' h1 b:=⟨i,base,_,hkk,hi,rfl⟩
      have hnew:w.heap.size≤b:=by
       rcases k4.ex b hex with h|h
       ·exact (Du h).elim
       ·exact h
      have hcsz:=hcs cells elem _ hb;have hlen2:((es.drop off).take len).length=len:=by simp;omega
      have hget:∀(j:Nat) (e:List Tree),((es.drop off).take len)[j]? = some e→es[off+j]? = some e:=fun j e he=>by have:=B7 he;rw [zN] at this;exact this.2
      refine ⟨res,us,size,_,_,rfl,hgrow,e2,e1,hu,.inr ⟨b,base+off*size,cap,cells,elem,by simp only [AI.size];rw [hlen2],by rw [hlen2];exact hcap,hnew,k3.lt i b base hkk,hz0,hb,?_,fun j e he=>hel _ e (hget j e he),fun j e c x he hx => ?_⟩,(fun i2 y v hij hy hv=>(e3 i2 y v hij hy hv).less fun b2 hb2=>hb2.imp id fun ⟨o,nn,cc,e,hc⟩=> ?_),hbld⟩
      ·have:base+(off+cap)*size≤cells.size:=hcsz;rw [yG] at this;omega
      ·have h8:=hT (off+j) e c x (hget j e he) hx;rw [show base+off*size+(j*size+c)=base+((off+j)*size+c) by rw [yG];omega];exact h8.less fun b' hb'=>by
        rcases hb' with hb'|rfl
        ·exact .inl hb'
        ·exact .inr hex
      ·injection e with e4 e5 e6;injection e4 with e4;injection e4 with e7;rw [← e7];exact hex
   ·cases k1
  ·cases k1
 ·cases hk
theorem Nq {C:Cfg} (hmix:C.P.follows .mixedOrders=true) {pc:BN} (hpc:CW C.P pc) (n:Nat):∀d,EB C.P (inl C pc n d)
 |0=>fun R r h K res hk=>(by cases hk)
 |d+1=>fun R r h K res hk=>by
  cases r with
  |fn g avs=>exact call_ok (Nq hmix hpc n d) hpc hmix hk
  |yield i args=>exact Xr (Nq hmix hpc n d) hpc hmix hk
def TI (C:Cfg):Prop:=∀g xs ys,g<OWN→C.ext g xs=some ys→Lt C.P g xs ys
theorem LM {C:Cfg} {pc:BN} (hext:TI C) (hpc:CW C.P pc):CW C.P (pcx C pc):=fun g xs ys hk=>by
 unfold pcx at hk;split at hk
 ·split at hk
  ·rename_i hg;split at hk
   ·rename_i he;cases hk;rw [if_pos hg];exact hext g [] _ hg he
   ·exact hpc g _ _ hk
  ·exact hpc g _ _ hk
 ·exact hpc g _ _ hk
theorem Ek {C:Cfg} (hmix:C.P.follows .mixedOrders=true) (hext:TI C):∀n,CW C.P (AA C n)
 |0=>fun g xs ys hk=>(by cases hk)
 |n+1=>fun g xs ys hk=>by
  unfold AA at hk;by_cases hg:g<OWN
  ·rw [if_pos hg] at hk ⊢;split at hk
   ·rename_i ys' he;cases hk;exact hext g xs _ hg he
   exact pure_ok (Nq hmix (LM hext (Ek hmix hext n)) n C.depth) (LM hext (Ek hmix hext n)) hmix hk
  ·rw [if_neg hg] at hk ⊢;by_cases hg2:g<G9
   ·rw [if_pos hg2] at hk ⊢;exact own_ok (Nq hmix (LM hext (Ek hmix hext n)) n C.depth) (LM hext (Ek hmix hext n)) hmix hk
   ·rw [if_neg hg2] at hk ⊢;exact own2_ok (Nq hmix (LM hext (Ek hmix hext n)) n C.depth) (LM hext (Ek hmix hext n)) hmix hk
theorem Sv {C:Cfg} (hmix:C.P.follows .mixedOrders=true) (hext:TI C) {n:Nat} {g:FuncId} {xs ys:List Tree} (hg:g<OWN) (hk:AA C n g xs=some ys):Lt C.P g xs ys:=by have:=Ek hmix hext n g xs ys hk;rwa [if_pos hg] at this
#print axioms Sv
end Ab
