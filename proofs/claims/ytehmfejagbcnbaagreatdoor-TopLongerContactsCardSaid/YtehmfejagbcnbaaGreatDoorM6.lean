/- A part of the proof: see the last text. -/
import Derived.Test.YtehmfejagbcnbaaGreatDoorM5
import Derived.KernelRfl
import Derived.Test.YtehmfejagbcnbaaGreatDoorProg
import Derived.Deep.LoopGhost
import Derived.Deep.WholeRow
import Derived.Laws.ResultCell
import Derived.Below
import Derived.WalkKit
import Derived.Lib.Walk
import Derived.WideMake
set_option linter.unusedVariables false
set_option linter.unusedSimpArgs false
open Array (eq_empty_of_size_eq_zero getElem?_modify getElem?_push getElem?_push_lt)
open Bool (and_eq_true not_eq_true' or_eq_false_iff)
open Int (lt_irrefl tmod toNat toNat_natCast)
open List (all_eq_true append_nil cons_append drop drop_succ_cons drop_zero ext_getElem? foldl_cons getElem?_cons_succ getElem?_eq_getElem getElem?_map getElem?_range getElem?_set_ne getElem_mem length length_append length_cons length_map length_nil length_range length_take map_append map_cons map_map map_nil mem_append_left mem_append_right mem_cons mem_cons_of_mem mem_cons_self mem_filterMap mem_iff_getElem mem_map mem_of_getElem? mem_range mem_singleton nil_append replicate take take_of_length_le take_succ_cons take_zero)
open Nat (le_refl le_trans lt_of_lt_of_le ne_of_lt reduceAdd reduceEqDiff zero_add zero_le)
open Option (getD_none isSome_none isSome_some map_some)
namespace Ab
open Go
structure ASt where
 ls:List Lab
 vo:Nat
 jk:List (List Tree)
def aH (T:Tb) (a:ASt) (b:Option Int) (suf:Heap):Heap:=
 gH T T.g.gaps T.g.Ar T.g.dur (.box [.ptr 3 0] :: .row false a.ls.length 4 (a.ls.map Lab.enc) :: .box [.sref 5 a.ls.length 0 a.ls.length] :: .row false a.vo 4 a.jk :: .box [.sref 7 a.vo 0 0] ::
  .box [.ptr 3 0] :: .box [.t (tI (b.getD 0))] :: .box [.t (.bool b.isSome)]::suf)
theorem hop66 (T:Tb) (a:ASt) (b:Option Int) (x:Lab) (rm:Span) (k:Nat) (c:AG) (hk:T.cs[k]? = some c) (d:Int) (hd:Sm d) (ht:Sm x.time) (hr:Sm rm.frm) (hc:0≤c.rng∧c.rng≤1048576) (kh:Heap)
  (gs:List Span) (hgs:∀a∈gs,Sm a.frm∧Sm a.to) (hgl:gs.length≤100000) :
  Ev fun n=>∀z,AO (fun p again=>Nj n (spE gs) (rgE rm) x.enc [tI d] ([.t (tI k)],kh) z p again) n ([.t (tI (0:Nat))],aH T a b [.box [],.box [.ptr 3 0],.box [],.box [],.box [],HS])
   = z (hpA (IF k c d gs (if rm.frm>x.time then rm.frm else x.time)),aH T a b [.box [],.box [.ptr 3 0],.box [],.box [],.box []]):=by
 refine BZ gs (fun i _=>(([.t (tI i)],aH T a b [.box [],.box [.ptr 3 0],.box [],.box [],.box [],HS]):List AV×Heap)) (Gc c k d (if rm.frm>x.time then rm.frm else x.time)) (fun _=>none)
  (fun (z:List AV×Heap→Option (List Tree)) o=>z (hpA o,aH T a b [.box [],.box [.ptr 3 0],.box [],.box [],.box []])) (fun _ _=>True) () rfl trivial (NF c k d _ gs 0)
  (fun i s' e ha hI=>Ev.of fun n z again => ?_) (fun _ _ _ _ _ _ _=>trivial) (fun s' hI=>Ev.of fun n z again => ?_)
 ·have hi:=AN ha;obtain ⟨h1,h2⟩:=hgs e (mem_of_getElem? ha);have hb:Sm (DB (if rm.frm>x.time then rm.frm else x.time) e):=by unfold DB Sm at *;omega
  have e1:w64 (DB (if rm.frm>x.time then rm.frm else x.time) e+d)=DB (if rm.frm>x.time then rm.frm else x.time) e+d:=S4 hb hd;have e3:w64 (DB (if rm.frm>x.time then rm.frm else x.time) e+d+c.rng)=DB (if rm.frm>x.time then rm.frm else x.time) e+d+c.rng:=by unfold Sm at hb hd;exact A6 (by omega) (by omega)
  have e4:(if (if rm.frm>x.time then rm.frm else x.time)>e.frm then (if rm.frm>x.time then rm.frm else x.time) else e.frm)=DB (if rm.frm>x.time then rm.frm else x.time) e:=rfl;simp only [gt_iff_lt] at e1 e3 e4;simp only [Nj,aH,gH,spE,rgE,Lab.enc,HS,vv,reduceCtorEq,reduceAdd,reduceEqDiff,ha,Span.enc,e1,e3,e4,hk,AG.enc,(show (i:Int)<gs.length by omega),AY (show i<4611686018427387904 by omega),Gc];by_cases hc2:DB (if x.time<rm.frm then rm.frm else x.time) e+d≤e.to
  ·simp only [hc2,vv,reduceCtorEq,reduceAdd,reduceEqDiff,Rd.Ap,hpA]
  ·simp only [hc2,vv,reduceCtorEq,reduceAdd,reduceEqDiff,Rd.Ae]
 ·simp only [Nj,aH,gH,spE,rgE,Lab.enc,HS,vv,reduceCtorEq,reduceAdd,reduceEqDiff,lt_irrefl,hpA]
def arO (T:Tb) (b:Option Int):Option (Lab×Hop)→Option Int
 |none=>b
 |some m=>FY T.g b m
theorem mv71 (T:Tb) (a:ASt) (b:Option Int) (x:Lab) (rm:Span) (k:Nat) (c:AG) (hk:T.cs[k]? = some c) (hc:0≤c.rng∧c.rng≤1048576) (o:Option Hop) (hh:∀h,o=some h→h.con=k∧Sm h.stop) :
  ∀n z,HY n z c.enc x.enc (rgE rm) (hpA o,aH T a b [.box [],.box [.ptr 3 0],.box [],.box [],.box []])=z ([],aH T a (arO T b (mvH T x c rm o)) [.box [],.box [.ptr 3 0],.box [],.box []]):=by
 intro n z;cases o with
 |none=>
  simp only [HY,Fc,aH,gH,hpA,mvH,arO,vv,reduceCtorEq,reduceAdd,reduceEqDiff]
 |some h=>
  obtain ⟨c1,c2⟩:=hh h rfl;have e1:w64 (2*c.rng)=2*c.rng:=A6 (by omega) (by omega);have e2:w64 (h.stop+2*c.rng)=h.stop+2*c.rng:=by unfold Sm at c2;exact A6 (by omega) (by omega)
  have hA:HY n z c.enc x.enc (rgE rm) (hpA (some h),aH T a b [.box [],.box [.ptr 3 0],.box [],.box [],.box []])=
    Fc n z (hpA (some h),aH T a b [.box [],.box [.ptr 3 0],.box [],.box [],.box []]) c.enc ([.t (.bool (O8 T x c rm h))],aH T a b [.box [],.box [.ptr 3 0],.box [],.box [],.box [],.box []]):=by
   have hB:∀lv:Int,∀w,Np n x.enc w (hpA (some h),aH T a b [.box [],.box [.ptr 3 0],.box [],.box [],.box []]) c.enc (rgE rm) ([.t (tI lv)],aH T a b [.box [],.box [.ptr 3 0],.box [],.box [],.box [],.box []])=
     w ([.t (.bool (decide (lv>x.to∨h.arr>T.r.dead∨(c.to≠T.r.dst∧h.arr≥rm.to))))],aH T a b [.box [],.box [.ptr 3 0],.box [],.box [],.box [],.box []]):=fun lv w=>by
    simp only [Np,aH,gH,hpA,Lab.enc,rgE,AG.enc,vv,reduceCtorEq,reduceAdd,reduceEqDiff];by_cases b1:x.to<lv
    ·simp only [b1,vv,reduceCtorEq,reduceAdd,reduceEqDiff]
    ·by_cases b2:T.r.dead<h.arr
     ·simp only [b1,b2,vv,reduceCtorEq,reduceAdd,reduceEqDiff]
     ·by_cases b3:c.to=T.r.dst
      ·simp only [b1,b2,b3,bne_self_eq_false,vv,reduceCtorEq,reduceAdd,reduceEqDiff,ne_eq,not_true_eq_false]
      ·simp only [b1,b2,b3,bne_iff_ne,vv,reduceCtorEq,reduceAdd,reduceEqDiff,ne_eq,not_false_eq_true]
   have hC:HY n z c.enc x.enc (rgE rm) (hpA (some h),aH T a b [.box [],.box [.ptr 3 0],.box [],.box [],.box []])=
     Np n x.enc (fun p183=>Fc n z (hpA (some h),aH T a b [.box [],.box [.ptr 3 0],.box [],.box [],.box []]) c.enc p183) (hpA (some h),aH T a b [.box [],.box [.ptr 3 0],.box [],.box [],.box []]) c.enc (rgE rm) ([.t (tI (Ew T.r c h))],aH T a b [.box [],.box [.ptr 3 0],.box [],.box [],.box [],.box []]):=by
    simp only [HY,aH,gH,hpA,Ew,c1,hk,AG.enc,Lab.enc,e1,e2,vv,reduceCtorEq,reduceAdd,reduceEqDiff];cases T.r.cust<;>simp only [vv,reduceCtorEq,reduceAdd,reduceEqDiff]
   rw [hC,hB];rfl
  rw [hA];cases hb:O8 T x c rm h with
  |true=>
   have hm:mvH T x c rm (some h)=none:=by simp only [O8,decide_eq_true_eq] at hb;simp only [mvH,if_pos hb]
   simp only [Fc,aH,gH,hm,arO,vv,reduceCtorEq,reduceAdd,reduceEqDiff]
  |false=>
   have hm:mvH T x c rm (some h)=some (⟨c.to,rm.frm,rm.to,h.arr⟩,h):=by simp only [O8,decide_eq_false_iff_not] at hb;simp only [mvH,if_neg hb]
   rw [hm];have hg:T.g.rq=T.r:=rfl;simp only [arO,FY,hg];by_cases hd:c.to=T.r.dst
   ·cases b with
    |none=>simp only [Fc,Ld,Le,aH,gH,hpA,AG.enc,hd,beq_self_eq_true,Od,vv,reduceCtorEq,reduceAdd,reduceEqDiff,isSome_none,isSome_some,Option.getD_some]
    |some v=>
     by_cases hv:h.arr<v
     ·simp only [Fc,Ld,Le,aH,gH,hpA,AG.enc,hd,beq_self_eq_true,Od,hv,vv,reduceCtorEq,reduceAdd,reduceEqDiff,isSome_none,isSome_some,Option.getD_some]
     ·simp only [Fc,Ld,Le,aH,gH,hpA,AG.enc,hd,beq_self_eq_true,Od,hv,vv,reduceCtorEq,reduceAdd,reduceEqDiff,isSome_none,isSome_some,Option.getD_some]
   ·simp only [Fc,Ld,Le,aH,gH,hpA,AG.enc,hd,beq_eq_false_iff_ne.2 hd,vv,reduceCtorEq,reduceAdd,reduceEqDiff]
theorem rm73 (T:Tb) (a:ASt) (b0:Option Int) (x:Lab) (k:Nat) (c:AG) (d:Int) (gs:List Span) (hk:CtOk T k c d gs) (ht:0≤x.time∧x.time≤1099511627776) (kh:Heap)
  (rs:List Span) (hol:rs.length≤10000000) (hrs:∀a∈rs,Sm a.frm) :
  Ev fun n=>∀z,AO (fun p again=>La n (spE rs) c.enc x.enc ([.t (tI k)],kh) z p again) n ([.t (tI (0:Nat))],aH T a b0 [.box [],.box [.ptr 3 0],.box [],.box []])
   = z ([],aH T a (rs.foldl (fun b rm=>arO T b (mv1 T.g x k c rm)) b0) [.box [],.box [.ptr 3 0],.box []]):=by
 refine BZ rs (fun i b=>(([.t (tI i)],aH T a b [.box [],.box [.ptr 3 0],.box [],.box []]):List AV×Heap)) (fun _ b rm =>.next (arO T b (mv1 T.g x k c rm))) (fun s=>s)
  (fun (z:List AV×Heap→Option (List Tree)) b=>z ([],aH T a b [.box [],.box [.ptr 3 0],.box []])) (fun i b=>True) b0 rfl trivial (by rw [CJ])
  (fun i b rm ha hI => ?_) (fun _ _ _ _ _ _ _=>trivial) (fun b hI=>Ev.of fun n z again => ?_)
 ·have hi:=AN ha;have hg1:T.g.dur.getD k 0=d:=by simp [List.getD,hk.dur]
  have hg2:T.g.gaps.getD k []=gs:=by simp [List.getD,hk.gap]
  have hkl:=AN hk.gap;have hkd:=AN hk.dur;have hS:=hk.durS;have hA:=hop66 T a b x rm k c hk.con d (by unfold Sm;omega) (by unfold Sm;omega) (hrs rm (mem_of_getElem? ha)) hk.rng kh gs (fun a ha=>by have:=hk.gapS a ha;unfold Sm;omega) hk.gapL;have hB:=mv71 T a b x rm k c hk.con hk.rng (IF k c d gs (if rm.frm>x.time then rm.frm else x.time)) (fun h hh=>by obtain ⟨h1,a,h2,h3,h4,h5,h6,h7⟩:=Oa hh;have:=hk.gapS a h2;exact ⟨h1,by unfold Sm;omega⟩)
  refine hA.mono fun n h1 z again => ?_;have a1:=h1 (fun p240=>HY n (fun p237=>No n again ([.t (tI i)],aH T a b [.box [],.box [.ptr 3 0],.box [],.box []]) p237) c.enc x.enc (rgE rm) p240);have a2:=hB n (fun p237=>No n again ([.t (tI i)],aH T a b [.box [],.box [.ptr 3 0],.box [],.box []]) p237);rw [Rd.Ae,TZ,hg1,hg2];refine Eq.trans ?_ (a1.trans (a2.trans ?_))
  ·simp only [La,aH,gH,spE,rgE,HS,vv,reduceCtorEq,reduceAdd,reduceEqDiff,ha,Span.enc,hk.dur,hk.gap,encI,(show (i:Int)<rs.length by omega),(show (k:Int)<T.g.gaps.length by omega),(show (k:Int)<T.g.dur.length by omega)];rfl
  ·simp only [No,aH,gH,vv,reduceCtorEq,reduceAdd,reduceEqDiff,AY (show i<4611686018427387904 by omega)]
 ·simp only [La,aH,gH,spE,vv,reduceCtorEq,reduceAdd,reduceEqDiff,lt_irrefl]
theorem eq65 (n:Nat) (y y2:List Tree) (p132:List AV×Heap) (ag:List AV×Heap→Option (List Tree)) (p:List AV×Heap) (again:List AV×Heap→Option (List Tree)) :
  Uj n y y2 p132 ag p again=La n (spE [⟨0,1099511627776⟩]) y y2 p132 ag p again:=rfl
end Ab
namespace Ab
open Go
def arK (T:Tb) (x:Lab) (k:Nat) (b:Option Int) (c:AG):Option Int:=if c.frm=x.node then (Bn T.g c.to).foldl (fun b rm=>arO T b (mv1 T.g x k c rm)) b else b
def arA (T:Tb) (x:Lab):Nat→List AG→Option Int→Option Int
 |_,[],b=>b
 |k,c::l,b=>arA T x (k+1) l (arK T x k b c)
theorem PB (T:Tb) (x:Lab) (k:Nat) (c:AG):∀(rs:List Span) (b:Option Int),rs.foldl (fun b rm=>arO T b (mv1 T.g x k c rm)) b=FZ T.g b (rs.filterMap (mv1 T.g x k c))
 |[],b=>rfl
 |r::rs,b=>by
  rw [foldl_cons,PB T x k c rs];cases h:mv1 T.g x k c r with
  |none=>rw [List.filterMap_cons_none h];rfl
  |some m=>rw [List.filterMap_cons_some h];rfl
theorem PC (T:Tb) (x:Lab):∀(l:List AG) (k:Nat) (b:Option Int),arA T x k l b=FZ T.g b (mvL T.g x k l)
 |[],k,b=>rfl
 |c::l,k,b=>by
  unfold arA mvL;rw [PC T x l,← PA];congr 1;unfold arK mvC;split
  ·exact PB T x k c _ b
  ·rfl
theorem ct75 (T:Tb) (hT:TOk T) (a:ASt) (b0:Option Int) (x:Lab) (ht:0≤x.time∧x.time≤1099511627776) (p204:List AV×Heap) (h204:cL p204 3 1=T.cs.map AG.enc) (i:Nat) (hi0:vI p204 0=i) (hi:i≤100000) :
  Ev fun n=>∀z,AO (fun p again=>JG n p204 x.enc z p again) n ([.t (tI (0:Nat))],aH T a b0 [.box [],.box [.ptr 3 0],.box []])
   = z ([.t (tI ((i+1:Nat):Int))],aH T a (FZ T.g b0 (BT T.g x)) []):=by
 have hrun:∀(l:List AG) (k:Nat) (b:Option Int),A9 (fun i b c=>(.next (arK T x i b c):Rd (Option Int) (Option Int))) (fun s=>s) k l b=arA T x k l b:=fun l=>by
  induction l with
  |nil=>intro k s;rfl
  |cons c l ih=>intro k s;exact ih (k+1) _
 have hfin:A9 (fun i b c=>(.next (arK T x i b c):Rd (Option Int) (Option Int))) (fun s=>s) 0 T.cs b0=FZ T.g b0 (BT T.g x):=by rw [hrun,PC];rfl
 refine BZ T.cs (fun i b=>(([.t (tI i)],aH T a b [.box [],.box [.ptr 3 0],.box []]):List AV×Heap)) (fun i b c =>.next (arK T x i b c)) (fun s=>s)
  (fun (z:List AV×Heap→Option (List Tree)) b=>z ([.t (tI ((i+1:Nat):Int))],aH T a b [])) (fun _ _=>True) b0 rfl trivial hfin
  (fun i b c ha hI => ?_) (fun _ _ _ _ _ _ _=>trivial) (fun b hI=>Ev.of fun n z again => ?_)
 ·have hi:=AN ha;have hcl:=hT.cl;obtain ⟨d,gs,hk⟩:=hT.ct i c ha;have hto:=hT.to c (mem_of_getElem? ha);simp only [Rd.Ae];by_cases hf:c.frm=x.node
  ·by_cases hd:c.to=T.r.dst
   ·have hrm:Bn T.g c.to=[⟨0,1099511627776⟩]:=by unfold Bn;exact if_pos hd
    have hR:=rm73 T a b x i c d gs hk ht (aH T a b [.box [],.box [.ptr 3 0],.box []]) [⟨0,1099511627776⟩] (by simp only [length_cons,length_nil];omega) (fun a ha=>by cases mem_singleton.1 ha;unfold Sm;exact ⟨by decide,by decide⟩);refine hR.mono fun n h z again => ?_;have a1:=h (fun p134=>JI n again ([.t (tI i)],aH T a b [.box [],.box [.ptr 3 0],.box []]) p134);have hs:arK T x i b c=[⟨0,1099511627776⟩].foldl (fun b rm=>arO T b (mv1 T.g x i c rm)) b:=by unfold arK;rw [if_pos hf,hrm]
    rw [hs];refine Eq.trans ?_ (a1.trans ?_)
    ·simp only [JG,h204,aH,gH,eq65,vv,reduceCtorEq,reduceAdd,reduceEqDiff,ha,AG.enc,Lab.enc,hf,hd,bne_self_eq_false,beq_self_eq_true,(show (i:Int)<T.cs.length by omega)];rfl
    ·simp only [JI,aH,gH,vv,reduceCtorEq,reduceAdd,reduceEqDiff,AY (show i<4611686018427387904 by omega)]
   ·have hlt:c.to.toNat<T.g.Ar.length:=by omega
    have hg:T.g.Ar[c.to.toNat]? = some T.g.Ar[c.to.toNat]:=getElem?_eq_getElem hlt;have hm:=hT.room _ (mem_of_getElem? hg);have hrm:Bn T.g c.to=T.g.Ar[c.to.toNat]:=by unfold Bn;rw [if_neg (show ¬c.to=T.g.rq.dst from hd)];simp [List.getD,hg]
    generalize T.g.Ar[c.to.toNat]=rs at hg hm hrm;have hR:=rm73 T a b x i c d gs hk ht (aH T a b [.box [],.box [.ptr 3 0],.box []]) rs (by omega) (fun a ha=>by have:=hm.2 a ha;unfold Sm;omega);refine hR.mono fun n h z again => ?_;have a1:=h (fun p134=>JI n again ([.t (tI i)],aH T a b [.box [],.box [.ptr 3 0],.box []]) p134);have hs:arK T x i b c=rs.foldl (fun b rm=>arO T b (mv1 T.g x i c rm)) b:=by unfold arK;rw [if_pos hf,hrm]
    rw [hs];refine Eq.trans ?_ (a1.trans ?_)
    ·have t1:okL 2 (spE rs) 0=true:=rfl;simp only [JG,h204,aH,gH,vv,reduceCtorEq,reduceAdd,reduceEqDiff,ha,AG.enc,Lab.enc,hf,bne_self_eq_false,beq_eq_false_iff_ne.2 hd,hg,t1,hto.1,hto.2,(show (i:Int)<T.cs.length by omega)];rfl
    ·simp only [JI,aH,gH,vv,reduceCtorEq,reduceAdd,reduceEqDiff,AY (show i<4611686018427387904 by omega)]
  ·refine Ev.of fun n z again => ?_;have hs:arK T x i b c=b:=by unfold arK;rw [if_neg hf]
   simp only [JG,JI,aH,gH,h204,hs,vv,reduceCtorEq,reduceAdd,reduceEqDiff,ha,AG.enc,Lab.enc,bne_iff_ne.2 hf,AY (show i<4611686018427387904 by omega),(show (i:Int)<T.cs.length by omega)]
 ·simp only [JG,aH,gH,h204,hi0,vv,reduceCtorEq,reduceAdd,reduceEqDiff,lt_irrefl,AY (show i<4611686018427387904 by omega)]
theorem ar76 (T:Tb) (hT:TOk T) (a:ASt) (hl:a.ls.length≤10000) (ht:∀x∈a.ls,0≤x.time∧x.time≤1099511627776) (p31:List AV×Heap) (h1:AB p31 6 0=a.ls.length) (h2:AD p31 6 0=a.ls.length) (h3:AE p31 6 0=0) :
  Ev fun n=>∀z,AO (fun p again=>Ni n p31 z p again) n ([.t (tI (0:Nat))],aH T a none [])
   = z ([.t (tI ((DX T.g a.ls).getD 0)),.t (.bool (DX T.g a.ls).isSome)],lH T ⟨a.ls,a.vo,[],a.jk⟩ []):=by
 refine BZ a.ls (fun i b=>(([.t (tI i)],aH T a b []):List AV×Heap)) (fun _ b x =>.next (FZ T.g b (BT T.g x))) (fun s=>s)
  (fun (z:List AV×Heap→Option (List Tree)) b=>z ([.t (tI (b.getD 0)),.t (.bool b.isSome)],lH T ⟨a.ls,a.vo,[],a.jk⟩ [])) (fun _ _=>True) none rfl trivial (by rw [CJ];rfl)
  (fun i b x ha hI => ?_) (fun _ _ _ _ _ _ _=>trivial) (fun b hI=>Ev.of fun n z again => ?_)
 ·have hi:=AN ha;have hct:=ct75 T hT a b x (ht x (mem_of_getElem? ha)) ([.t (tI i)],aH T a b []) (by simp only [aH,gH,vv,reduceCtorEq,reduceAdd,reduceEqDiff]) i (by simp only [vv,reduceCtorEq,reduceAdd,reduceEqDiff]) (by omega);refine hct.mono fun n h z again => ?_;refine Eq.trans ?_ (h again);simp only [Ni,aH,gH,h1,h2,h3,vv,reduceCtorEq,reduceAdd,reduceEqDiff,ha,Lab.enc,(show (i:Int)<a.ls.length by omega)];rfl
 ·simp only [Ni,aH,lH,gH,h1,h2,h3,vv,reduceCtorEq,reduceAdd,reduceEqDiff,lt_irrefl,map_nil,nil_append,length_nil]
end Ab
namespace Ab
open Go
def UC (e:List Tree):Lab:=⟨intOf (e.getD 0 default),intOf (e.getD 1 default),intOf (e.getD 2 default),intOf (e.getD 3 default)⟩
theorem K5 (h:Lab):UC h.enc=h:=rfl
noncomputable def soI:List Lab→List Lab:=lift Lab.enc UC (Fo (BL [3,0,1]))
theorem soI_enc (l:List Lab):(soI l).map Lab.enc=Fo (BL [3,0,1]) (l.map Lab.enc):=Kh K5 (fun d=>Dk (CA _) d) l
theorem Hk (l:List Lab):(soI l).Perm l:=Is K5 (fun d=>Dk (CA _) d) l
theorem OW (l:List Lab):Av 4 (l.map Lab.enc)=true:=by simp [Av,Lab.enc,G2]
def IX:Option Int→List Tree
 |none=>[tI 0,tI 18]
 |some a=>[tI a,tI 0]
theorem RC (T:Tb) (hT:TOk T) (x:Lab):∀(l:List AG) (k:Nat),(∀c∈l,c∈T.cs)→(mvL T.g x k l).length≤100*l.length
 |[],k,_=>le_refl _
 |c::l,k,hl=>by
  have ih:=RC T hT x l (k+1) fun c hc=>hl c (mem_cons_of_mem _ hc);have h1:(mvC T.g x k c).length≤100:=by
   unfold mvC;split
   ·refine le_trans (List.length_filterMap_le _ _) ?_;unfold Bn;split
    ·simp
    ·have ht:=hT.to c (hl c (mem_cons_self ..));have hlt:c.to.toNat<T.g.Ar.length:=by omega
     have hr:=hT.room T.g.Ar[c.to.toNat] (getElem_mem hlt);simp only [List.getD,getElem?_eq_getElem hlt,Option.getD_some];exact hr.1
   ·simp
  unfold mvL;simp only [length_append,length_cons];omega
theorem TY (T:Tb) (hT:TOk T) (done:List Lab) (x:Lab):(M6 T.g done x).length≤1000:=by unfold M6;rw [length_map];refine le_trans (List.length_filter_le _ _) ?_;have:=RC T hT x T.cs 0 fun c hc=>hc;have h2:=hT.cl;show (mvL T.g x 0 T.cs).length≤1000;omega
theorem Tg (T:Tb) (hT:TOk T):(EW T.g).length≤600:=by
 unfold EW;rw [List.length_flatten];have h1:∀n∈((List.range T.g.Ar.length).map fun n=>(T.g.Ar.getD n []).map fun r=>((n:Int),r.frm)).map length,n≤100:=fun n hn=>by simp only [map_map,mem_map,mem_range,Function.comp,length_map] at hn;obtain ⟨j,hj,rfl⟩:=hn;have hr:=hT.room T.g.Ar[j] (getElem_mem hj);simp only [List.getD,getElem?_eq_getElem hj,Option.getD_some];exact hr.1
 have h2:∀l:List Nat,(∀n∈l,n≤100)→l.sum≤100*l.length:=fun l=>by
  induction l with
  |nil=>intro _;simp
  |cons a l ih=>
   intro h;have e1:=h a (mem_cons_self ..);have e2:=ih fun n hn=>h n (mem_cons_of_mem _ hn);simp only [List.sum_cons,length_cons];omega
 have h3:=h2 _ h1;have h4:=hT.rl;simp only [length_map,length_range] at h3;omega
theorem KP (T:Tb) (hT:TOk T) (hg:GOk T.g) {x:Lab} (h:Reach T.g x):0≤x.time∧x.time≤1099511627776:=by
 have hd:=hT.dead
 induction h with
 |start h=>
  unfold ER at h;obtain ⟨r,h1,h2⟩:=mem_filterMap.1 h;split at h2
  ·cases h2;exact ⟨hd.1,Int.le_trans hd.2.1 hd.2.2⟩
  ·cases h2
 |step h1 h2 h3 ih=>
  have hl:=HH hg h2;obtain ⟨k,c,r,m1,m2,m3,m4⟩:=FB.1 h2;obtain ⟨b,e1,e2,e3,e4⟩:=H7 m4;have hg:T.g.rq=T.r:=rfl;rw [hg] at e4;omega
structure Sq (T:Tb) (s:LSt):Prop where
 inv:PQ T.g s.done s.opn
 four:∀e∈s.jk,e.length=4
 ol:s.opn.length≤100+1000*s.done.length
theorem Tc {T:Tb} (hT:TOk T) (hg:GOk T.g) {s:LSt} (h:Sq T s):SOk s:=by have h1:=H9 hg h.inv;have h2:=Tg T hT;have h3:=h.ol;exact ⟨h.four,by omega,by omega⟩
theorem Td {T:Tb} (hT:TOk T) (hg:GOk T.g) {s:LSt} (h:Sq T s) {o:Lab} {os:List Lab} (ho:s.opn=o::os):Sq T (s.nxt T (C6 o os)):=by
 have hm:C6 o os∈s.opn:=by rw [ho];exact (EM os o).1
 obtain ⟨h1,h2,h3⟩:=P0 T s h.four (C6 o os) hm;refine ⟨?_,h3,?_⟩
 ·rw [h1,h2,ho];have:=h.inv;rw [ho] at this;exact MB hg this
 ·rw [h1,h2];have e1:=TY T hT (s.done++[C6 o os]) (C6 o os);have e2:=List.length_filter_le (fun y => !A3 (C6 o os) y) s.opn;have e3:=h.ol;simp only [length_append,length_cons,length_nil];omega
def EV (T:Tb) (s:LSt):Rd LSt (List Lab):=match s.opn with
 |[]=>.done s.done
 |o::os =>.next (s.nxt T (C6 o os))
theorem lm78 (T:Tb) (hT:TOk T) (hg:GOk T.g) (s0:LSt) (h0:Sq T s0) (hd0:s0.done=[]) :
  Ev fun n=>AO (fun p again=>Nh n p again) n ([],lH T s0 [])=some (IX (DX T.g (soI (SC T.g ((EW T.g).length+1) [] s0.opn)))):=by
 refine JO (fun l:List Lab=>IX (DX T.g (soI l))) (fun s=>(([],lH T s []):List AV×Heap)) (EV T) (Sq T) (fun s=>(EW T.g).length+1-s.done.length) (fun s=>SC T.g ((EW T.g).length+1-s.done.length) s.done s.opn) s0 rfl h0 (by rw [hd0];rfl)
  (fun s hI => ?_) (fun s s' hI h => ?_) (fun s hI => ?_)
 ·have hS:=Tc hT hg hI;cases ho:s.opn with
  |nil=>
   have hst:EV T s = .done s.done:=by unfold EV;rw [ho]
   rw [hst];have hsl:(soI s.done).length=s.done.length:=(Hk s.done).length_eq;have hdl:=hS.dl;refine (ar76 T hT ⟨soI s.done,s.vo,s.jk⟩ (by simp only;omega) (fun x hx=>KP T hT hg (hI.inv.reach x (mem_append_left _ ((Hk s.done).mem_iff.1 hx)))) ([],lH T s []) (by simp only [lH,gH,vv,reduceCtorEq,reduceAdd,reduceEqDiff,hsl]) (by simp only [lH,gH,vv,reduceCtorEq,reduceAdd,reduceEqDiff,hsl]) (by simp only [lH,gH,vv,reduceCtorEq,reduceAdd,reduceEqDiff])).mono fun n h again => ?_;have a1:=h (fun p202=>Nn n p202);have t3:take s.done.length (s.done.map Lab.enc)=s.done.map Lab.enc:=take_of_length_le (by simp);have b1:s.done.length≤1073741824:=by omega
   have e1:A0 (s.done.map Lab.enc) 0 ((soI s.done).map Lab.enc)=(soI s.done).map Lab.enc:=FM (by simp [hsl]);rw [Rd.Ap];refine Eq.trans ?_ (a1.trans ?_)
   ·simp only [Nh,lH,aH,gH,ho,vv,reduceCtorEq,reduceAdd,reduceEqDiff,lt_irrefl,map_nil,nil_append,length_nil,le_refl,b1,t3,OW,← soI_enc,e1,hsl,getD_none,isSome_none,(show ¬(0:Int)<((0:Nat):Int) by decide)];rfl
   ·cases h:DX T.g (soI s.done) with
    |none=>simp only [Nn,vv,reduceCtorEq,reduceAdd,reduceEqDiff,isSome_none,getD_none,IX]
    |some v=>simp only [Nn,vv,reduceCtorEq,reduceAdd,reduceEqDiff,isSome_some,Option.getD_some,IX]
  |cons o os=>
   have hst:EV T s = .next (s.nxt T (C6 o os)):=by unfold EV;rw [ho]
   have hm:C6 o os∈s.opn:=by rw [ho];exact (EM os o).1
   have htm:=KP T hT hg (hI.inv.reach _ (mem_append_right _ hm));have hol:=hS.ol;rw [hst];refine ((mn4 T s o os ho (by omega) []).and (nx57 T hT s hS (C6 o os) hm htm)).mono fun n ⟨h1,h2⟩ again => ?_;have a1:=h1 (fun p33=>Nq n again p33);have a2:=h2 again;rw [Rd.Ae];refine Eq.trans ?_ (a1.trans a2);have hlen:(0:Int)<s.opn.length:=by rw [ho];simp only [length_cons];omega
   have hg0:(s.opn.map Lab.enc++s.jk)[0]? = some [tI o.node,tI o.frm,tI o.to,tI o.time]:=by rw [ho];rfl
   simp only [Nh,lH,gH,xA,HS,vv,reduceCtorEq,reduceAdd,reduceEqDiff,hlen,hg0,(show ¬(s.opn.length:Int)<1 by omega)];rfl
 ·have h1:=H9 hg hI.inv;cases ho:s.opn with
  |nil=>unfold EV at h;rw [ho] at h;cases h
  |cons o os=>
   unfold EV at h;rw [ho] at h;cases h;have hm:C6 o os∈s.opn:=by rw [ho];exact (EM os o).1
   refine ⟨Td hT hg hI ho,?_⟩;rw [(P0 T s hI.four (C6 o os) hm).1];simp only [length_append,length_cons,length_nil];omega
 ·have h1:=H9 hg hI.inv;obtain ⟨f,hf⟩:∃f,(EW T.g).length+1-s.done.length=f+1:=⟨(EW T.g).length-s.done.length,by omega⟩
  cases ho:s.opn with
  |nil=>
   have hst:EV T s = .done s.done:=by unfold EV;rw [ho]
   rw [hst,hf];rfl
  |cons o os=>
   have hst:EV T s = .next (s.nxt T (C6 o os)):=by unfold EV;rw [ho]
   have hm:C6 o os∈s.opn:=by rw [ho];exact (EM os o).1
   obtain ⟨e1,e2,e3⟩:=P0 T s hI.four (C6 o os) hm;rw [hst];simp only [Rd.fin,e1,e2,hf];have hf2:(EW T.g).length+1-(s.done++[C6 o os]).length=f:=by simp only [length_append,length_cons,length_nil];omega
   rw [hf2,ho];rfl
end Ab
namespace Ab
open Go
theorem HJ (bs:List AJ):∀(l:List AG) (k j:Nat),(En bs k l)[j]? = (l[j]?).map fun c=>Bg c.stop (busy bs (k+j:Nat)) c.start
 |[],k,j=>by simp [En]
 |c::l,k,j=>by
  cases j with
  |zero=>simp [En]
  |succ j=>
   have:=HJ bs l (k+1) j;simp only [En,getElem?_cons_succ,this];congr 2;funext c;rw [show k+1+j=k+(j+1) by omega]
theorem MI (bs:List AJ):∀(l:List AG) (k:Nat),(En bs k l).length=l.length
 |[],k=>rfl
 |c::l,k=>by simp [En,MI bs l (k+1)]
theorem Rt (Q size:Int) (ls:List Lvl):(Ar Q size ls).length≤ls.length+2:=by
 have h1:∀(ls:List Lvl) (s:List Span×Int),(ls.foldl (Bu Q size) s).1.length≤s.1.length+ls.length:=fun ls=>by
  induction ls with
  |nil=>intro s;simp
  |cons x ls ih=>
   intro s;rw [foldl_cons];have e1:=ih (Bu Q size s x);have e2:=Hq Q size s x;simp only [length_cons];omega
 have h2:=h1 ls (Di Q size ([],-1) 0 0);have h3:(Di Q size (([],-1):List Span×Int) 0 0).1.length=0:=by
  unfold Di CW;split
  ·simp
  ·split<;>simp
 unfold Ar CW;split
 ·simp only [length_append,length_cons,length_nil];omega
 ·simp only;omega
structure In (T:Tb):Prop where
 tab:Be T.q T.cs T.bs T.hs=0
 req:BG T.q T.cs T.r=0
 ql:T.q.length≤6
 cl:T.cs.length≤10
 hl:T.hs.length≤30
theorem tok_of {T:Tb} (h:In T):TOk T:=by
 obtain ⟨p1,p2,p3⟩:=Bp h.tab;have hr:=CQ h.req;obtain ⟨s1,s2,s3⟩:=D1 p3;have hb:=CY p2;have hn:=Dj p1;have hrl:T.g.Ar.length=T.q.length:=ET T.hs T.r.size T.q 0;refine ⟨fun k c hc => ?_,fun c hc => ?_,fun rs hm => ?_,h.cl,by rw [hrl];exact h.ql,⟨hr.2.2.2.2.2.2.2.2.1,hr.2.2.2.2.2.2.2.2.2.1,hr.2.2.2.2.2.2.2.2.2.2.1⟩⟩
 ·have hcc:=(hn c (mem_of_getElem? hc)).1;have o:=BO hcc;refine ⟨Cw c T.r.size,Bg c.stop (busy T.bs (k:Nat)) c.start,hc,?_,?_,EZ hcc (by omega) hr.2.2.2.2.2.2.2.1,⟨by omega,by omega⟩,fun a ha => ?_,?_⟩
  ·show (T.cs.map fun c=>Cw c T.r.size)[k]? = _;rw [getElem?_map,hc];rfl
  ·show (En T.bs 0 T.cs)[k]? = _;rw [HJ,hc];simp
  ·have hrow:=IV hb.2.2 (k:=((k:Nat):Int)) (c:=c) (by rw [toNat_natCast];exact hc) hcc;have:=EO _ _ _ hrow (Int.le_refl _) a ha;omega
  ·have h1:=MH c.stop (busy T.bs (k:Nat)) c.start;have h2:=LF T.bs (k:Nat);have h3:=hb.2.1;omega
 ·have h1:=hn c hc;have o:=BO h1.1;rw [hrl];omega
 ·have h1:=L0 (q:=T.q) (hs:=T.hs) (size:=T.r.size) s3 (by omega) rs hm;refine ⟨?_,fun a ha => ?_⟩
  ·obtain ⟨j,hj,rfl⟩:=mem_iff_getElem.1 hm;have h2:=FN T.hs T.r.size T.q 0 j;have h3:(Dh T.hs T.r.size 0 T.q)[j]? = some T.g.Ar[j]:=getElem?_eq_getElem hj;rw [h3] at h2;cases hq:T.q[j]? with
   |none=>rw [hq] at h2;cases h2
   |some Q=>
    rw [hq] at h2;simp only [map_some,Option.some.injEq] at h2;rw [h2];have h4:=Rt Q T.r.size (levels T.hs (0+j:Nat));have h5:=FR T.hs (0+j:Nat);have h6:=h.hl;omega
  ·have:=h1.2 a ha;omega
def J8 (T:Tb) (s:LSt) (rm:Span):LSt:=if rm.frm≤T.r.ready∧T.r.ready<rm.to then s.push ⟨T.r.src,rm.frm,rm.to,T.r.ready⟩ else s
def staF (T:Tb) (r:Span):Option Lab:=if r.frm≤T.r.ready∧T.r.ready<r.to then some ⟨T.r.src,r.frm,r.to,T.r.ready⟩ else none
theorem Hj (T:Tb):∀(rs:List Span) (s:LSt),(rs.foldl (J8 T) s).done=s.done∧(rs.foldl (J8 T) s).opn=s.opn++rs.filterMap (staF T)
 |[],s=>by simp
 |r::rs,s=>by
  rw [foldl_cons];obtain ⟨h1,h2⟩:=Hj T rs (J8 T s r);rw [h1,h2];unfold J8;by_cases hc:r.frm≤T.r.ready∧T.r.ready<r.to
  ·have e:staF T r=some ⟨T.r.src,r.frm,r.to,T.r.ready⟩:=if_pos hc;rw [if_pos hc,List.filterMap_cons_some e];simp [LSt.push]
  ·have e:staF T r=none:=if_neg hc;rw [if_neg hc,List.filterMap_cons_none e];exact ⟨rfl,rfl⟩
theorem S0 (T:Tb):∀(rs:List Span) (s:LSt),s.jk=[]→(rs.foldl (J8 T) s).jk=[]
 |[],s,h=>h
 |r::rs,s,h=>by
  rw [foldl_cons];refine S0 T rs _ ?_;unfold J8;split
  ·rfl
  ·exact h
theorem st79 (T:Tb) (hT:TOk T) (hg:GOk T.g) (rs:List Span) (hrs:rs=T.g.Ar.getD T.r.src.toNat []) (hl:rs.length≤100) :
  Ev fun n=>AO (fun p again=>JF n (spE rs) p again) n ([.t (tI (0:Nat))],lH T ⟨[],0,[],[]⟩ [])=some (IX (DX T.g (soI (labels T.g)))):=by
 have hs0:ER T.g=(rs.foldl (J8 T) ⟨[],0,[],[]⟩).opn:=by rw [(Hj T rs _).2,hrs];exact (nil_append _).symm
 refine An (fun o:Option Int=>IX o) rs (fun i s=>(([.t (tI i)],lH T s []):List AV×Heap)) (fun _ s rm =>.next (J8 T s rm)) (fun s=>DX T.g (soI (SC T.g ((EW T.g).length+1) [] s.opn)))
  (fun i s=>i≤rs.length∧s=(rs.take i).foldl (J8 T) ⟨[],0,[],[]⟩∧s.opn.length≤i) ⟨[],0,[],[]⟩ rfl ⟨zero_le _,rfl,le_refl _⟩ ?_
  (fun i s rm ha hI=>Ev.of fun n again => ?_) (fun i s rm s' ha hI h => ?_) (fun s hI => ?_)
 ·rw [CJ];unfold labels;rw [hs0]
 ·have hi:=AN ha;have t1:take s.opn.length (s.opn.map Lab.enc++s.jk)=s.opn.map Lab.enc:=by rw [List.take_append_of_le_length (by simp)];exact take_of_length_le (by simp)
  have b1:s.opn.length+1≤1073741824:=by omega
  have b2:s.opn.length≤s.opn.length+s.jk.length:=Nat.le_add_right _ _;rw [Rd.Ae];unfold J8;by_cases c1:rm.frm≤T.r.ready
  ·by_cases c2:T.r.ready<rm.to
   ·rw [if_pos ⟨c1,c2⟩];simp only [JF,Rg,Rh,lH,gH,spE,vv,reduceCtorEq,reduceAdd,reduceEqDiff,ha,Span.enc,c1,c2,(show (i:Int)<rs.length by omega),AY (show i<4611686018427387904 by omega),t1,b1,b2,length_append,LSt.push,map_append,map_cons,map_nil,Lab.enc,append_nil]
   ·rw [if_neg fun h=>c2 h.2];simp only [JF,Rg,Rh,lH,gH,spE,vv,reduceCtorEq,reduceAdd,reduceEqDiff,ha,Span.enc,c1,c2,(show (i:Int)<rs.length by omega),AY (show i<4611686018427387904 by omega)]
  ·rw [if_neg fun h=>c1 h.1];simp only [JF,Rg,Rh,lH,gH,spE,vv,reduceCtorEq,reduceAdd,reduceEqDiff,ha,Span.enc,c1,(show (i:Int)<rs.length by omega),AY (show i<4611686018427387904 by omega)]
 ·have hi:=AN ha;simp only [Rd.next.injEq] at h;subst h;obtain ⟨i1,i2,i3⟩:=hI;refine ⟨hi,?_,?_⟩
  ·obtain ⟨_,he⟩:=List.getElem?_eq_some_iff.1 ha;rw [List.take_succ_eq_append_getElem hi,List.foldl_append,← i2,he];rfl
  ·unfold J8;split
   ·simp only [LSt.push,length_append,length_cons,length_nil];omega
   ·omega
 ·obtain ⟨i1,i2,i3⟩:=hI;rw [take_of_length_le (le_refl _)] at i2;have hM:Sq T s:=by
   refine ⟨?_,?_,?_⟩
   ·rw [i2,(Hj T rs _).1,← hs0];exact Kg T.g
   ·rw [i2,S0 T rs _ rfl];intro e he;cases he
   ·omega
  refine (lm78 T hT hg s hM (by rw [i2,(Hj T rs _).1])).mono fun n h again => ?_;refine Eq.trans ?_ h;simp only [JF,lH,gH,spE,vv,reduceCtorEq,reduceAdd,reduceEqDiff,lt_irrefl]
theorem st80 (T:Tb) (hI:In T) (ga:List (List Span)) (du:List Int) (hga:ga=T.g.gaps) (hdu:du=T.g.dur) :
  Ev fun n=>AO (fun p again=>Ng n (T.q.map encI) (T.cs.map AG.enc) (T.hs.map AP.enc) T.r.size p again) n ([.t (tI (0:Nat))],gH T ga [] du [])=some (IX (DX T.g (soI (labels T.g)))):=by
 have hT:=tok_of hI;have hg:GOk T.g:=QG hI.tab hI.req;obtain ⟨p1,p2,p3⟩:=Bp hI.tab;have hr:=CQ hI.req;have hrl:T.g.Ar.length=T.q.length:=ET T.hs T.r.size T.q 0;have hql:=hI.ql;subst hga;subst hdu;refine An (fun o:Option Int=>IX o) T.q (fun i ro=>(([.t (tI i)],gH T T.g.gaps ro T.g.dur []):List AV×Heap)) (fun i ro Q =>.next (ro++[Ar Q T.r.size (levels T.hs (i:Nat))])) (fun _=>DX T.g (soI (labels T.g)))
  (fun i ro=>i≤T.q.length∧ro=T.g.Ar.take i) [] rfl ⟨zero_le _,rfl⟩ (by
   have:∀(l:List Int) (i:Nat) (ro:List (List Span)),A9 (fun i ro Q=>(.next (ro++[Ar Q T.r.size (levels T.hs (i:Nat))]):Rd (List (List Span)) (Option Int))) (fun _=>DX T.g (soI (labels T.g))) i l ro=DX T.g (soI (labels T.g)):=fun l=>by
    induction l with
    |nil=>intro i ro;rfl
    |cons a l ih=>intro i ro;exact ih _ _
   exact this _ _ _)
  (fun i ro Q ha hJ => ?_) (fun i ro Q s' ha hJ h => ?_) (fun ro hJ => ?_)
 ·have hi:=AN ha;obtain ⟨j1,j2⟩:=hJ;have hlen:ro.length=i:=by rw [j2,length_take];omega
  have b1:ro.length+1≤1073741824:=by omega
  have t1:take ro.length (ro.map spE)=ro.map spE:=take_of_length_le (by simp);refine (s85 T.q T.cs T.hs p3 i Q ha T.r.size hr.2.2.2.2.2.2.1 hr.2.2.2.2.2.2.2.1).mono fun n h again => ?_;simp only [Ng,gH,h,vv,reduceCtorEq,reduceAdd,reduceEqDiff,(show (i:Int)<T.q.length by omega),AY (show i<4611686018427387904 by omega),t1,b1,le_refl,Rd.Ae,length_append,map_append,map_cons,map_nil,spE]
 ·have hi:=AN ha;simp only [Rd.next.injEq] at h;subst h;obtain ⟨j1,j2⟩:=hJ;refine ⟨hi,?_⟩;have h1:T.g.Ar[i]? = some (Ar Q T.r.size (levels T.hs (i:Nat))):=by show (Dh T.hs T.r.size 0 T.q)[i]? = _;rw [FN,ha];simp
  obtain ⟨h2,h3⟩:=List.getElem?_eq_some_iff.1 h1;rw [List.take_succ_eq_append_getElem h2,← j2,h3]
 ·obtain ⟨j1,j2⟩:=hJ;have hro:ro=T.g.Ar:=by rw [j2];exact take_of_length_le (by omega)
  subst hro;have hs1:=hg.src;have hrq:T.g.rq=T.r:=rfl;rw [hrq] at hs1;have hlt:T.r.src.toNat<T.g.Ar.length:=by omega
  have hgt:T.g.Ar[T.r.src.toNat]? = some T.g.Ar[T.r.src.toNat]:=getElem?_eq_getElem hlt;have hm:=hT.room _ (mem_of_getElem? hgt);have hgd:T.g.Ar[T.r.src.toNat]=T.g.Ar.getD T.r.src.toNat []:=by simp [List.getD,hgt]
  generalize T.g.Ar[T.r.src.toNat]=rs at hgt hm hgd;refine (st79 T hT hg rs hgd hm.1).mono fun n h again => ?_;refine Eq.trans ?_ h;have t1:okL 2 (spE rs) 0=true:=rfl;simp only [Ng,lH,gH,vv,reduceCtorEq,reduceAdd,reduceEqDiff,lt_irrefl,hgt,t1,hs1.1,hs1.2.1,map_nil,length_nil,append_nil];rfl
theorem st81 (T:Tb) (hI:In T) :
  Ev fun n=>AO (fun p again=>Nf n (T.cs.map AG.enc) (T.q.map encI) (T.bs.map AJ.enc) T.r.size (T.hs.map AP.enc) p again) n ([.t (tI (0:Nat))],gH T [] [] [] [])=some (IX (DX T.g (soI (labels T.g)))):=by
 obtain ⟨p1,p2,p3⟩:=Bp hI.tab;have hr:=CQ hI.req;have hb:=CY p2;have hgl:T.g.gaps.length=T.cs.length:=MI T.bs T.cs 0;have hdl:T.g.dur.length=T.cs.length:=length_map ..;have hcl:=hI.cl;refine An (fun o:Option Int=>IX o) T.cs (fun i (s:List (List Span)×List Int)=>(([.t (tI i)],gH T s.1 [] s.2 []):List AV×Heap)) (fun i s c =>.next (s.1++[Bg c.stop (busy T.bs (i:Nat)) c.start],s.2++[Cw c T.r.size])) (fun _=>DX T.g (soI (labels T.g)))
  (fun i s=>i≤T.cs.length∧s.1=T.g.gaps.take i∧s.2=T.g.dur.take i) ([],[]) rfl ⟨zero_le _,rfl,rfl⟩ (by
   have:∀(l:List AG) (i:Nat) (s:List (List Span)×List Int),A9 (fun i s c=>(.next (s.1++[Bg c.stop (busy T.bs (i:Nat)) c.start],s.2++[Cw c T.r.size]):Rd (List (List Span)×List Int) (Option Int))) (fun _=>DX T.g (soI (labels T.g))) i l s=DX T.g (soI (labels T.g)):=fun l=>by
    induction l with
    |nil=>intro i s;rfl
    |cons a l ih=>intro i s;exact ih _ _
   exact this _ _ _)
  (fun i s c ha hJ => ?_) (fun i s c s' ha hJ h => ?_) (fun s hJ => ?_)
 ·have hi:=AN ha;obtain ⟨j1,j2,j3⟩:=hJ;have hl1:s.1.length=i:=by rw [j2,length_take];omega
  have hl2:s.2.length=i:=by rw [j3,length_take];omega
  have b1:i+1≤1073741824:=by omega
  have t1:take i (s.1.map spE)=s.1.map spE:=take_of_length_le (by simp [hl1]);have t2:take i (s.2.map encI)=s.2.map encI:=take_of_length_le (by simp [hl2]);have hcc:=(Dj p1 c (mem_of_getElem? ha)).1;have hck:EK T.q T.cs T.bs (i:Nat)=0:=by unfold EK;rw [if_neg (by omega),if_neg (by omega)]
  have hdc:By c T.r.size=0:=by unfold By;rw [if_neg (by omega),if_pos ⟨hr.2.2.2.2.2.2.1,hr.2.2.2.2.2.2.2.1⟩]
  have hfr:IJ T.q T.cs T.bs (i:Nat)=Bg c.stop (busy T.bs (i:Nat)) c.start:=by unfold IJ;rw [if_neg (by omega),toNat_natCast,ha];exact (NI _ _ (IV hb.2.2 (by rw [toNat_natCast];exact ha) hcc)).symm
  have h83:=s83 T.q T.cs T.bs (i:Nat);rw [hfr,hck] at h83;have h84:=s84 c T.r.size;rw [hdc,if_pos rfl] at h84;refine (h83.and h84).mono fun n ⟨h,k⟩ again => ?_;simp only [AG.enc,cons_append,nil_append] at k;simp only [Nf,gH,h,k,vv,reduceCtorEq,reduceAdd,reduceEqDiff,ha,AG.enc,hl1,hl2,(show (i:Int)<T.cs.length by omega),AY (show i<4611686018427387904 by omega),t1,t2,b1,le_refl,Rd.Ae,length_append,map_append,map_cons,map_nil,spE,encI]
 ·have hi:=AN ha;simp only [Rd.next.injEq] at h;subst h;obtain ⟨j1,j2,j3⟩:=hJ;have h1:T.g.gaps[i]? = some (Bg c.stop (busy T.bs (i:Nat)) c.start):=by show (En T.bs 0 T.cs)[i]? = _;rw [HJ,ha];simp
  have h2:T.g.dur[i]? = some (Cw c T.r.size):=by show (T.cs.map fun c=>Cw c T.r.size)[i]? = _;rw [getElem?_map,ha];rfl
  obtain ⟨g1,g2⟩:=List.getElem?_eq_some_iff.1 h1;obtain ⟨d1,d2⟩:=List.getElem?_eq_some_iff.1 h2;refine ⟨hi,?_,?_⟩
  ·rw [List.take_succ_eq_append_getElem g1,← j2,g2]
  ·rw [List.take_succ_eq_append_getElem d1,← j3,d2]
 ·obtain ⟨j1,j2,j3⟩:=hJ;have e1:s.1=T.g.gaps:=by rw [j2];exact take_of_length_le (by omega)
  have e2:s.2=T.g.dur:=by rw [j3];exact take_of_length_le (by omega)
  refine (st80 T hI s.1 s.2 e1 e2).mono fun n h again => ?_;refine Eq.trans ?_ h;simp only [Nf,gH,vv,reduceCtorEq,reduceAdd,reduceEqDiff,lt_irrefl,map_nil,length_nil];rfl
theorem s16 (T:Tb) (hI:In T):Af C 16 [.sl 1 (T.q.map encI),.sl 7 (T.cs.map AG.enc),.sl 4 (T.bs.map AJ.enc),.sl 5 (T.hs.map AP.enc),tI T.r.src,tI T.r.dst,tI T.r.size,tI T.r.ready,tI T.r.dead,tI T.r.prio,.bool T.r.cust] (IX (DX T.g (soI (labels T.g)))):=by refine Af.of (fun n=>e16 n _ _ _ _ _ _ _ _ _ _ _) ?_;refine ((s17 T.q T.cs T.bs T.hs).and ((s71 T.q T.cs T.r).and (st81 T hI))).mono fun n ⟨h1,h2,h3⟩=> ?_;refine Eq.trans ?_ h3;simp only [h1,h2,hI.tab,hI.req,Ul,gH,vv,reduceCtorEq,reduceAdd,reduceEqDiff,bne_self_eq_false,map_nil,length_nil];rfl
end Ab
namespace Ab
open Go
def lon (cs:List AG) (k:Nat) (by_:Int):List AG:=match cs[k]? with
 |none=>cs
 |some c=>cs.set k {c with stop:=c.stop+by_}
theorem lon_len (cs:List AG) (k:Nat) (by_:Int):(lon cs k by_).length=cs.length:=by unfold lon;split<;>simp
theorem lon_le (cs:List AG) (k:Nat) (by_:Int) (h:0≤by_):CLe cs (lon cs k by_):=by
 unfold lon;cases hk:cs[k]? with
 |none=>exact ⟨rfl,fun j c hc=>⟨c,hc,rfl,rfl,rfl,rfl,rfl,rfl,Int.le_refl _⟩⟩
 |some d=>
  refine ⟨by simp,fun j c hc => ?_⟩;have hj:=AN hc;by_cases he:j=k
  ·subst he;rw [hk] at hc;cases hc;refine ⟨{d with stop:=d.stop+by_},by simp [hj],rfl,rfl,rfl,rfl,rfl,rfl,?_⟩;simp only;omega
  ·exact ⟨c,by simp only [getElem?_set_ne (fun e=>he e.symm)];exact hc,rfl,rfl,rfl,rfl,rfl,rfl,Int.le_refl _⟩
theorem l4 (q:List Int) (cs:List AG) (bs:List AJ) (hs:List AP) (r:Rqt) (i by_:Int) (hi:0≤i∧i≤255) (hb:0≤by_∧by_≤255) (l:List Hop) :
  Af C 4 [.sl 1 (q.map encI),.sl 7 (cs.map AG.enc),.sl 4 (bs.map AJ.enc),.sl 5 (hs.map AP.enc),tI r.src,tI r.dst,tI r.size,tI r.ready,tI r.dead,tI r.prio,.bool r.cust,.int .u8 i,.int .u8 by_,.sl 4 (l.map Hop.enc)] [.bool true]:=by
 refine Af.of (fun n=>e4 n _ _ _ _ _ _ _ _ _ _ _ _ _ _) ?_;cases hf:MN q cs bs hs r with
 |false=>
  refine (s6 q cs bs hs r).mono fun n h => ?_;simp only [h,hf,vv,reduceCtorEq,reduceAdd,reduceEqDiff]
 |true=>
  by_cases h0:cs.length=0
  ·refine (s6 q cs bs hs r).mono fun n h => ?_;simp only [h,hf,h0,vv,reduceCtorEq,reduceAdd,reduceEqDiff];rfl
  by_cases h12:l.length>12
  ·refine (s6 q cs bs hs r).mono fun n h => ?_;have e0:((cs.length:Int)==0)=false:=beq_eq_false_iff_ne.2 (by omega);simp only [h,hf,e0,vv,reduceCtorEq,reduceAdd,reduceEqDiff,(show (12:Int)<l.length by omega)]
  unfold MN Iw Ix at hf;simp only [and_eq_true,not_eq_true',or_eq_false_iff,decide_eq_false_iff_not,decide_eq_true_eq] at hf;obtain ⟨⟨⟨⟨f1,f2⟩,f3⟩,f4⟩,f5⟩:=hf;have ht:=Nz f4;obtain ⟨p1,p2,p3⟩:=Bp ht;have hI:In ⟨q,cs,bs,hs,r⟩:=⟨ht,f5,by simp only;omega,by simp only;omega,by simp only;omega⟩
  have hk:∃k:Nat,k<cs.length∧tmod (w64 i) (cs.length:Int)=(k:Int):=by have e1:w64 i=i:=A6 (by omega) (by omega);rw [e1,Int.tmod_eq_emod_of_nonneg hi.1];have h1:=Int.emod_nonneg i (show (cs.length:Int)≠0 by omega);have h2:=Int.emod_lt_of_pos i (show (0:Int)<cs.length by omega);exact ⟨(i % (cs.length:Int)).toNat,by omega,by omega⟩
  obtain ⟨k,k1,k2⟩:=hk;have hck:cs[k]? = some cs[k]:=getElem?_eq_getElem k1;generalize hcv:cs[k]=c at hck;have o:=BO (Mw p1 c (mem_of_getElem? hck));have hstop:w64 (c.stop+w64 by_)=c.stop+by_:=by have e1:w64 by_=by_:=A6 (by omega) (by omega);rw [e1];exact A6 (by omega) (by omega)
  have hlon:lon cs k by_=cs.set k {c with stop:=c.stop+by_}:=by unfold lon;rw [hck]
  have hset:take cs.length (List.set (cs.map AG.enc) k [tI c.frm,tI c.to,tI c.start,tI (c.stop+by_),tI c.rate,tI c.rng,tI c.loss])=(lon cs k by_).map AG.enc:=by rw [hlon,take_of_length_le (by simp),List.map_set];rfl
  have hle:=lon_le cs k by_ hb.1;have hll:=lon_len cs k by_;generalize lon cs k by_=cs' at hset hle hll;have hcl:=TC (cs.map AG.enc) (by simp;omega);have e0:((cs.length:Int)==0)=false:=beq_eq_false_iff_ne.2 (by omega);have hfine:MN q cs bs hs r=true:=by unfold MN Iw Ix;simp only [and_eq_true,not_eq_true',or_eq_false_iff,decide_eq_false_iff_not,decide_eq_true_eq];exact ⟨⟨⟨⟨f1,f2⟩,f3⟩,f4⟩,f5⟩
  by_cases hp':AQ q cs'=0
  ·have ht':=G9 hle hp' ht;have hr':BG q cs' r=0:=by rw [← Et p1 hp'];exact f5
   have hI':In ⟨q,cs',bs,hs,r⟩:=⟨ht',hr',by simp only;omega,by simp only;omega,by simp only;omega⟩
   have hA:=s16 ⟨q,cs,bs,hs,r⟩ hI;have hA':=s16 ⟨q,cs',bs,hs,r⟩ hI';have hT':=s17 q cs' bs hs;rw [ht'] at hT';have hD:=s18 q cs bs hs r l (by omega);have hD':=s18 q cs' bs hs r l (by omega);have hadm:=NZ (sb:=sbI) (sh:=shI) (q:=q) (cs:=cs) (cs':=cs') (bs:=bs) (hs:=hs) (r:=r) (l:=l) hle hp';have harr:∀a,DX (Tb.g ⟨q,cs,bs,hs,r⟩) (soI (labels (Tb.g ⟨q,cs,bs,hs,r⟩)))=some a→∃a',DX (Tb.g ⟨q,cs',bs,hs,r⟩) (soI (labels (Tb.g ⟨q,cs',bs,hs,r⟩)))=some a'∧a'≤a:=fun a h=>
    Qe hle hp' ht f5 (Hk _) (Hk _) h
   generalize DX (Tb.g ⟨q,cs,bs,hs,r⟩) (soI (labels (Tb.g ⟨q,cs,bs,hs,r⟩)))=A at hA harr;generalize DX (Tb.g ⟨q,cs',bs,hs,r⟩) (soI (labels (Tb.g ⟨q,cs',bs,hs,r⟩)))=A' at hA' harr;generalize Fa sbI shI q cs bs hs r l=D at hD hadm;generalize Fa sbI shI q cs' bs hs r l=D' at hD' hadm;have h15:=s15 q cs';rw [hp'] at h15;refine ((s6 q cs bs hs r).and (hcl.and (h15.and (hA.and (hA'.and (hT'.and (hD.and hD'))))))).mono fun n ⟨g1,g2,g3,g4,g5,g6,g7,g8⟩=> ?_;simp only at g4 g5;simp only [g1,hfine,e0,(show ¬(12:Int)<l.length by omega),g2,k2,vv,reduceCtorEq,reduceAdd,reduceEqDiff,hck,AG.enc,hstop,(show ¬(cs.length:Int)=0 by omega),(show (k:Int)<cs.length by omega),take_succ_cons,take_zero,drop_succ_cons,drop_zero,cons_append,nil_append,hset,g3,g4,g5,g6,g7,g8,bne_self_eq_false];have hlast:cnd ((D != 0)=true) (some [Tree.bool true]) (cnd ((D'==0)=true) (some [Tree.bool true]) (some [Tree.bool false]))=some [Tree.bool true]:=by
    by_cases hD0:D=0
    ·have:=hadm hD0;subst this;subst hD0;simp only [bne_self_eq_false,beq_self_eq_true,vv,reduceCtorEq,reduceAdd,reduceEqDiff]
    ·simp only [bne_iff_ne.2 hD0,vv,reduceCtorEq,reduceAdd,reduceEqDiff]
   cases A with
   |none=>
    cases A' with
    |none=>simp only [IX,vv,reduceCtorEq,reduceAdd,reduceEqDiff];exact hlast
    |some a'=>simp only [IX,vv,reduceCtorEq,reduceAdd,reduceEqDiff];exact hlast
   |some a=>
    obtain ⟨a',e1,e2⟩:=harr a rfl;subst e1;simp only [IX,vv,reduceCtorEq,reduceAdd,reduceEqDiff,beq_self_eq_true,bne_self_eq_false,(show ¬a<a' by omega)];exact hlast
  ·have h15:=s15 q cs';refine ((s6 q cs bs hs r).and (hcl.and h15)).mono fun n ⟨g1,g2,g3⟩=> ?_;simp only [g1,hfine,e0,(show ¬(12:Int)<l.length by omega),g2,k2,vv,reduceCtorEq,reduceAdd,reduceEqDiff,hck,AG.enc,hstop,(show ¬(cs.length:Int)=0 by omega),(show (k:Int)<cs.length by omega),take_succ_cons,take_zero,drop_succ_cons,drop_zero,cons_append,nil_append,hset,g3,bne_iff_ne.2 hp']
end Ab
namespace Ab
open Go
variable {P:Program}
theorem Lv {d:Nat} {t:TypeId} {k:IntKind} (hu:P.underlying t=some (.int k)) {ts:List Tree} (h:Typed P d t ts):∃n,ts=[.int k n]∧(Lit.int k n).wf=true:=by
 cases d with
 |zero=>cases h
 |succ d=>unfold Typed at h;rw [hu] at h;exact h
theorem PS {d:Nat} {t:TypeId} (hu:P.underlying t=some .bool) {ts:List Tree} (h:Typed P d t ts):∃b,ts=[.bool b]:=by
 cases d with
 |zero=>cases h
 |succ d=>unfold Typed at h;rw [hu] at h;exact h
theorem D0 {d:Nat} {t e:TypeId} (hu:P.underlying t=some (.slice e)) {ts:List Tree} (h:Typed P (d+1) t ts):∃es,ts=[.sl (P.cellsOf e) es]∧es.length≤maxLen∧∀x∈es,Typed P d e x:=by unfold Typed at h;rw [hu] at h;exact h
theorem Mi {d:Nat} {t:TypeId} {fs:Array Field} (hu:P.underlying t=some (.struct fs)) {ts:List Tree} (h:Typed P (d+1) t ts):Ee (Typed P d) (fs.toList.map (·.type)) ts:=by unfold Typed at h;rw [hu] at h;exact h
def Of (P:Program) (t:TypeId):Option (List TypeId):=
 match P.underlying t with
 |some (.struct fs)=>some (fs.toList.map (·.type))
 |_=>none
theorem CT {d:Nat} {t:TypeId} (l:List TypeId) (hu:Of P t=some l) {ts:List Tree} (h:Typed P (d+1) t ts):Ee (Typed P d) l ts:=by
 unfold Of at hu;split at hu
 ·rename_i fs hf;cases hu;exact Mi hf h
 ·cases hu
theorem AW {Ty:TypeId→List Tree→Prop} {t:TypeId} {l:List TypeId} {ts:List Tree} (h:Ee Ty (t::l) ts):∃a b,ts=a++b∧Ty t a∧Ee Ty l b:=h
theorem Cm {Ty:TypeId→List Tree→Prop} {ts:List Tree} (h:Ee Ty [] ts):ts=[]:=h
theorem Cx {α:Type} {enc:α→List Tree} {p:α→Prop}:∀{es:List (List Tree)},(∀x∈es,∃a,x=enc a∧p a)→∃l:List α,es=l.map enc∧∀a∈l,p a
 |[],_=>⟨[],rfl,by simp⟩
 |x::es,h=>by
  obtain ⟨a,ha,pa⟩:=h x (by simp);obtain ⟨l,hl,pl⟩:=Cx (es:=es) fun y hy=>h y (by simp [hy]);refine ⟨a::l,by simp [ha,hl],fun b hb => ?_⟩;rcases mem_cons.1 hb with rfl|hb
  ·exact pa
  ·exact pl b hb
end Ab
set_option maxRecDepth 100000
namespace Ab
open Go Go.Proofs
theorem uInt:C.P.underlying 3=some (.int .i64):=by kernel_rfl
theorem uU8:C.P.underlying 5=some (.int .u8):=by kernel_rfl
theorem uB:C.P.underlying 4=some .bool:=by kernel_rfl
theorem BF {d:Nat} {ts:List Tree} (h:Typed C.P d 3 ts):∃n,ts=[tI n]∧True:=by obtain ⟨n,h1,h2⟩:=Lv uInt h;exact ⟨n,h1,trivial⟩
theorem T6 {d:Nat} {ts:List Tree} (h:Typed C.P d 5 ts):∃n:Int,ts=[.int .u8 n]∧(0≤n∧n≤255):=by obtain ⟨n,h1,h2⟩:=Lv uU8 h;exact ⟨n,h1,by simpa [Lit.wf,IntKind.min,IntKind.max,IntKind.signed,IntKind.bits] using h2⟩
theorem UB {d:Nat} {ts:List Tree} (h:Typed C.P d 4 ts):∃b,ts=[.bool b]∧True:=by obtain ⟨b,h1⟩:=PS uB h;exact ⟨b,h1,trivial⟩
theorem Ox {d:Nat} {ts:List Tree} (h:Typed C.P (d+1) 50 ts):∃e:AG,ts=e.enc∧True:=by have h1:=CT (t:=50) [3,3,3,3,3,3,3] (by kernel_rfl) h;clear h;obtain ⟨_,t1,rfl,x1,g1⟩:=AW h1;obtain ⟨a1,rfl,_⟩:=BF x1;obtain ⟨_,t2,rfl,x2,g2⟩:=AW g1;obtain ⟨a2,rfl,_⟩:=BF x2;obtain ⟨_,t3,rfl,x3,g3⟩:=AW g2;obtain ⟨a3,rfl,_⟩:=BF x3;obtain ⟨_,t4,rfl,x4,g4⟩:=AW g3;obtain ⟨a4,rfl,_⟩:=BF x4;obtain ⟨_,t5,rfl,x5,g5⟩:=AW g4;obtain ⟨a5,rfl,_⟩:=BF x5;obtain ⟨_,t6,rfl,x6,g6⟩:=AW g5;obtain ⟨a6,rfl,_⟩:=BF x6;obtain ⟨_,t7,rfl,x7,g7⟩:=AW g6;obtain ⟨a7,rfl,_⟩:=BF x7;obtain rfl:=Cm g7;exact ⟨⟨a1,a2,a3,a4,a5,a6,a7⟩,rfl,trivial⟩
theorem Oy {d:Nat} {ts:List Tree} (h:Typed C.P (d+1) 43 ts):∃e:AJ,ts=e.enc∧True:=by have h1:=CT (t:=43) [3,3,3,3] (by kernel_rfl) h;clear h;obtain ⟨_,t1,rfl,x1,g1⟩:=AW h1;obtain ⟨a1,rfl,_⟩:=BF x1;obtain ⟨_,t2,rfl,x2,g2⟩:=AW g1;obtain ⟨a2,rfl,_⟩:=BF x2;obtain ⟨_,t3,rfl,x3,g3⟩:=AW g2;obtain ⟨a3,rfl,_⟩:=BF x3;obtain ⟨_,t4,rfl,x4,g4⟩:=AW g3;obtain ⟨a4,rfl,_⟩:=BF x4;obtain rfl:=Cm g4;exact ⟨⟨a1,a2,a3,a4⟩,rfl,trivial⟩
theorem UA {d:Nat} {ts:List Tree} (h:Typed C.P (d+1) 108 ts):∃e:AP,ts=e.enc∧True:=by have h1:=CT (t:=108) [3,3,3,3,3] (by kernel_rfl) h;clear h;obtain ⟨_,t1,rfl,x1,g1⟩:=AW h1;obtain ⟨a1,rfl,_⟩:=BF x1;obtain ⟨_,t2,rfl,x2,g2⟩:=AW g1;obtain ⟨a2,rfl,_⟩:=BF x2;obtain ⟨_,t3,rfl,x3,g3⟩:=AW g2;obtain ⟨a3,rfl,_⟩:=BF x3;obtain ⟨_,t4,rfl,x4,g4⟩:=AW g3;obtain ⟨a4,rfl,_⟩:=BF x4;obtain ⟨_,t5,rfl,x5,g5⟩:=AW g4;obtain ⟨a5,rfl,_⟩:=BF x5;obtain rfl:=Cm g5;exact ⟨⟨a1,a2,a3,a4,a5⟩,rfl,trivial⟩
theorem dec_hop {d:Nat} {ts:List Tree} (h:Typed C.P (d+1) 59 ts):∃e:Hop,ts=e.enc∧True:=by have h1:=CT (t:=59) [3,3,3,3] (by kernel_rfl) h;clear h;obtain ⟨_,t1,rfl,x1,g1⟩:=AW h1;obtain ⟨a1,rfl,_⟩:=BF x1;obtain ⟨_,t2,rfl,x2,g2⟩:=AW g1;obtain ⟨a2,rfl,_⟩:=BF x2;obtain ⟨_,t3,rfl,x3,g3⟩:=AW g2;obtain ⟨a3,rfl,_⟩:=BF x3;obtain ⟨_,t4,rfl,x4,g4⟩:=AW g3;obtain ⟨a4,rfl,_⟩:=BF x4;obtain rfl:=Cm g4;exact ⟨⟨a1,a2,a3,a4⟩,rfl,trivial⟩
theorem T8 {d:Nat} {ts:List Tree} (h:Typed C.P (d+2) 22 ts):∃l:List Int,ts=[.sl 1 (l.map encI)]∧True:=by obtain ⟨es,rfl,_,h2⟩:=D0 (t:=22) (e:=3) (by kernel_rfl) h;obtain ⟨l,rfl,hl⟩:=Cx (enc:=encI) (p:=fun _=>True) fun x hx=>BF (h2 x hx);exact ⟨l,by rw [show C.P.cellsOf 3=1 by kernel_rfl],trivial⟩
theorem NR {d:Nat} {ts:List Tree} (h:Typed C.P (d+2) 23 ts):∃l:List AG,ts=[.sl 7 (l.map AG.enc)]∧True:=by obtain ⟨es,rfl,_,h2⟩:=D0 (t:=23) (e:=50) (by kernel_rfl) h;obtain ⟨l,rfl,hl⟩:=Cx (enc:=AG.enc) (p:=fun _=>True) fun x hx=>Ox (h2 x hx);exact ⟨l,by rw [show C.P.cellsOf 50=7 by kernel_rfl],trivial⟩
theorem NS {d:Nat} {ts:List Tree} (h:Typed C.P (d+2) 26 ts):∃l:List AJ,ts=[.sl 4 (l.map AJ.enc)]∧True:=by obtain ⟨es,rfl,_,h2⟩:=D0 (t:=26) (e:=43) (by kernel_rfl) h;obtain ⟨l,rfl,hl⟩:=Cx (enc:=AJ.enc) (p:=fun _=>True) fun x hx=>Oy (h2 x hx);exact ⟨l,by rw [show C.P.cellsOf 43=4 by kernel_rfl],trivial⟩
theorem SQ {d:Nat} {ts:List Tree} (h:Typed C.P (d+2) 27 ts):∃l:List AP,ts=[.sl 5 (l.map AP.enc)]∧True:=by obtain ⟨es,rfl,_,h2⟩:=D0 (t:=27) (e:=108) (by kernel_rfl) h;obtain ⟨l,rfl,hl⟩:=Cx (enc:=AP.enc) (p:=fun _=>True) fun x hx=>UA (h2 x hx);exact ⟨l,by rw [show C.P.cellsOf 108=5 by kernel_rfl],trivial⟩
theorem T9 {d:Nat} {ts:List Tree} (h:Typed C.P (d+2) 39 ts):∃l:List Hop,ts=[.sl 4 (l.map Hop.enc)]∧True:=by obtain ⟨es,rfl,_,h2⟩:=D0 (t:=39) (e:=59) (by kernel_rfl) h;obtain ⟨l,rfl,hl⟩:=Cx (enc:=Hop.enc) (p:=fun _=>True) fun x hx=>dec_hop (h2 x hx);exact ⟨l,by rw [show C.P.cellsOf 59=4 by kernel_rfl],trivial⟩
theorem T7 {d:Nat} {ts:List Tree} (h:Typed C.P (d+3) 25 ts):∃(q:List Int) (cs:List AG),ts=[.sl 1 (q.map encI),.sl 7 (cs.map AG.enc)]:=by have h1:=CT (t:=25) [22,23] (by kernel_rfl) h;clear h;obtain ⟨_,t1,rfl,x1,g1⟩:=AW h1;obtain ⟨a1,rfl,_⟩:=T8 x1;obtain ⟨_,t2,rfl,x2,g2⟩:=AW g1;obtain ⟨a2,rfl,_⟩:=NR x2;obtain rfl:=Cm g2;exact ⟨a1,a2,rfl⟩
theorem QV {d:Nat} {ts:List Tree} (h:Typed C.P (d+4) 29 ts):∃(q:List Int) (cs:List AG) (bs:List AJ) (hs:List AP),ts=[.sl 1 (q.map encI),.sl 7 (cs.map AG.enc),.sl 4 (bs.map AJ.enc),.sl 5 (hs.map AP.enc)]:=by have h1:=CT (t:=29) [25,26,27] (by kernel_rfl) h;clear h;obtain ⟨_,t1,rfl,x1,g1⟩:=AW h1;obtain ⟨a1,a2,rfl⟩:=T7 x1;obtain ⟨_,t2,rfl,x2,g2⟩:=AW g1;obtain ⟨a3,rfl,_⟩:=NS x2;obtain ⟨_,t3,rfl,x3,g3⟩:=AW g2;obtain ⟨a4,rfl,_⟩:=SQ x3;obtain rfl:=Cm g3;exact ⟨a1,a2,a3,a4,rfl⟩
theorem dec_rqt {d:Nat} {ts:List Tree} (h:Typed C.P (d+1) 31 ts):∃r:Rqt,ts=[tI r.src,tI r.dst,tI r.size,tI r.ready,tI r.dead,tI r.prio,.bool r.cust]:=by have h1:=CT (t:=31) [3,3,3,3,3,3,4] (by kernel_rfl) h;clear h;obtain ⟨_,t1,rfl,x1,g1⟩:=AW h1;obtain ⟨a1,rfl,_⟩:=BF x1;obtain ⟨_,t2,rfl,x2,g2⟩:=AW g1;obtain ⟨a2,rfl,_⟩:=BF x2;obtain ⟨_,t3,rfl,x3,g3⟩:=AW g2;obtain ⟨a3,rfl,_⟩:=BF x3;obtain ⟨_,t4,rfl,x4,g4⟩:=AW g3;obtain ⟨a4,rfl,_⟩:=BF x4;obtain ⟨_,t5,rfl,x5,g5⟩:=AW g4;obtain ⟨a5,rfl,_⟩:=BF x5;obtain ⟨_,t6,rfl,x6,g6⟩:=AW g5;obtain ⟨a6,rfl,_⟩:=BF x6;obtain ⟨_,t7,rfl,x7,g7⟩:=AW g6;obtain ⟨a7,rfl,_⟩:=UB x7;obtain rfl:=Cm g7;exact ⟨⟨a1,a2,a3,a4,a5,a6,a7⟩,rfl⟩
theorem own:ownKnob Tryz.prog.godebug=none:=by kernel_rfl
end Ab
namespace Ab
open Go
abbrev Ent:=FuncId×List Tree×List Tree
def EOk (P:Program) (e:Ent):Prop:=if e.1<OWN then GQ P e.1 e.2.1 e.2.2 else if e.1<D5 then Ug P (e.1-OWN) e.2.1 e.2.2 else Qm P ((e.1-D5) % 64) ((e.1-D5) / 64) e.2.1 e.2.2
def tab:List Ent→BC
 |[],_,_=>none
 |e::l,g,xs=>match Nat.beq e.1 g with
  |true=>match tL e.2.1 xs with
   |true=>some e.2.2
   |false=>tab l g xs
  |false=>tab l g xs
def Up (P:Program):List Ent→Prop
 |[]=>True
 |e::l=>EOk P e∧Up P l
theorem PT {P:Program}:∀{l:List Ent},Up P l→Bz P (tab l)
 |[],_=>fun g xs ys h=>by cases h
 |e::l,hl=>fun g xs ys h=>by
  unfold tab at h;split at h
  ·rename_i h1;split at h
   ·rename_i h2;cases h;have e1:=Nat.eq_of_beq_eq_true h1;have e2:=N0 _ _ h2;subst e1 e2;exact hl.1
   ·exact PT hl.2 g xs ys h
  ·exact PT hl.2 g xs ys h
noncomputable def stepT (C:Cfg) (l:List Ent) (n:Nat) (e:Ent):Option (List Tree):=
 if e.1<OWN then Q2 C (inl C (pcx C (tab l)) n C.depth) (pcx C (tab l)) n e.1 e.2.1 else if e.1<D5 then H3 C (inl C (pcx C (tab l)) n C.depth) (pcx C (tab l)) n (e.1-OWN) e.2.1
 else Ga C (inl C (pcx C (tab l)) n C.depth) (pcx C (tab l)) n ((e.1-D5) % 64) ((e.1-D5) / 64) e.2.1
theorem AH {C:Cfg} (hmix:C.P.follows .mixedOrders=true) (hext:Lf C) {l:List Ent} (hl:Up C.P l) {n:Nat} {e:Ent} (hk:stepT C l n e=some e.2.2):EOk C.P e:=by
 have hp:=HE hext (PT hl);unfold stepT at hk;unfold EOk;by_cases hg:e.1<OWN
 ·rw [if_pos hg] at hk ⊢;exact Q1 (GC hmix hp n C.depth) hp hmix hk
 ·rw [if_neg hg] at hk ⊢;by_cases hg2:e.1<D5
  ·rw [if_pos hg2] at hk ⊢;exact TI (GC hmix hp n C.depth) hp hmix hk
  ·rw [if_neg hg2] at hk ⊢;exact Q4 (GC hmix hp n C.depth) hp hmix hk
end Ab
namespace Ab
open Go Go.Proofs Go.RowKit Go.Lib
set_option maxRecDepth 100000
set_option maxHeartbeats 4000000
theorem PR {P:Program} {o:Oper} {a:Act} {w:World} {K:Act→World→Prop} {Q:Exit→Act→World→Prop} {t:TypeId} {x:Operand} {v:Value} (ho:o.op = .load t x) (h:(Instr.loadAt t (a.eval x)).run P w = .ok v w) (hk:K (a.put o.dst v) w):o.wp P a w K Q:=by
 have:(execOp a.eval o).run P w = .ok (.value v) w:=by unfold execOp;rw [ho];simp [h]
 unfold Oper.wp;rw [this,Oper.upon_value];exact hk
theorem J6 (r:Int) (w:World):Calls Tryz.prog 270 #[.int .u32 r] w fun e w'=>e = .returned (.int .u32 (steps 8 r))∧w'=w:=by
 go_enter Tryz.func270,Tryz.ntmps270
 go_wp2
 go_loopg [0,3] 8 (fun g s0 s3 wx=>∃i:Nat,i+g=8∧s0 = .int .u32 (steps i r)∧s3 = .int .i64 i∧wx=w)
 case atStart=>exact ⟨0,rfl,rfl,rfl,rfl⟩
 case round=>
  obtain ⟨i,hig,rfl,rfl,rfl⟩:=hrel;generalize hx:steps i r=x;cases gk with
  |zero=>
   obtain rfl:i=8:=by omega
   have hiz:¬(((8:Nat):Int)<(8:Int)):=by omega
   go_wp2
   go_ret
   exact ⟨rfl,rfl⟩
  |succ g=>
   have hiz:(i:Int)<(8:Int):=by omega
   have Hx:Aside (steps i r=x):=hx;clear hx;by_cases hodd:x.tmod 2=1
   ·have Hs:Aside (steps (i+1) r=xorK .u32 (IntKind.u32.wrap (x.tdiv 2)) 2197175160):=by show steps (i+1) r=_;rw [J5,Hx.out,N3,if_pos hodd]
    go_wp2
    go_roundg g
    case measure=>omega
    case rel=>exact ⟨i+1,by omega,by rw [Hs.out];rfl,by first|rfl|simp,rfl⟩
   ·have Hs:Aside (steps (i+1) r=IntKind.u32.wrap (x.tdiv 2)):=by show steps (i+1) r=_;rw [J5,Hx.out,N3,if_neg hodd]
    go_wp2
    go_roundg g
    case measure=>omega
    case rel=>exact ⟨i+1,by omega,by rw [Hs.out];rfl,by first|rfl|simp,rfl⟩
theorem Nx (w:World):Calls Tryz.prog 245 #[] w fun e w'=>e = .returned (.agg (Ak 256))∧w'=(w.alloc (.cells (Ak 256) 341)).alloc (.cells (Ak 256) 341):=by
 go_enter Tryz.func245,Tryz.ntmps245
 have e1:(zeroValue 341).run Tryz.prog w = .ok (.agg (Array.replicate 256 (.int .u32 0))) w:=Tryz.zeroValue341 w
 go_wp2
 rw [← O2]
 go_loopg [2,3] 256 (fun g s2 s3 wx=>∃i:Nat,i+g=256∧s3 = .int .i64 i∧wx=(w.alloc (.cells (Ak 0) 341)).alloc (.cells (Ak i) 341))
 case atStart=>exact ⟨0,rfl,rfl,rfl⟩
 case round=>
  obtain ⟨i,hig,rfl,rfl⟩:=hrel;cases gk with
  |zero=>
   obtain rfl:i=256:=by omega
   have hiz:¬(((256:Nat):Int)<(256:Int)):=by omega
   have hsz:(w.alloc (.cells (Ak 0) 341)).heap.size=w.heap.size+1:=by simp
   have hld:=run_loadAt_new (P:=Tryz.prog) (w.alloc (.cells (Ak 0) 341)) 341 (Ak 256) 256 294 (by kernel_rfl) (by rw [Cs];kernel_rfl);rw [hsz] at hld;have h0:((w.alloc (.cells (Ak 0) 341)).alloc (.cells (Ak 256) 341)).heap[w.heap.size]? = some (.cells (Ak 0) 341):=by show ((w.heap.push _).push _)[w.heap.size]? = _;rw [getElem?_push_lt (by simp)];simp
   have hW:((w.alloc (.cells (Ak 0) 341)).alloc (.cells (Ak 256) 341)).setRow w.heap.size (Ak 256)=(w.alloc (.cells (Ak 256) 341)).alloc (.cells (Ak 256) 341):=by
    simp only [World.setRow,World.alloc];congr 1;apply Array.ext_getElem?;intro i;rw [getElem?_modify];by_cases h:w.heap.size=i
    ·subst h;rw [getElem?_push_lt (by simp),getElem?_push_lt (by simp)];simp
    ·simp only [h,if_false,getElem?_push];simp [Ne.symm h]
   have Hld:Aside _:=hld;have hst2:(storeCells ⟨w.heap.size,0,none⟩ (Ak 256).toList 0).run Tryz.prog ((w.alloc (.cells (Ak 0) 341)).alloc (.cells (Ak 256) 341))= .ok () ((w.alloc (.cells (Ak 256) 341)).alloc (.cells (Ak 256) 341)):=by
    have h9:=run_storeCells_at Tryz.prog w.heap.size 0 341 (Ak 256).toList 0 (Ak 0) ((w.alloc (.cells (Ak 0) 341)).alloc (.cells (Ak 256) 341)) h0 (by simp [Cs]) (fun v hv=>by have:=QZ 256;rw [Array.all_eq_true_iff_forall_mem] at this;exact this v (by simpa using hv))
    have h10:((Ak 0).toList.take (0+0)++(Ak 256).toList++(Ak 0).toList.drop (0+0+(Ak 256).toList.length)).toArray=Ak 256:=by rw [List.drop_of_length_le (by simp [Cs])];simp
    rw [h10,hW] at h9;exact h9
   have Hst:Aside _:=hst2;have h1:((w.alloc (.cells (Ak 256) 341)).alloc (.cells (Ak 256) 341)).heap[w.heap.size]? = some (.cells (Ak 256) 341):=by show ((w.heap.push _).push _)[w.heap.size]? = _;rw [getElem?_push_lt (by simp)];simp
   have hu341:Tryz.prog.underlying 341=some (.array 256 294):=by kernel_rfl
   have hl2:=run_loadVar_row (P:=Tryz.prog) ((w.alloc (.cells (Ak 256) 341)).alloc (.cells (Ak 256) 341)) w.heap.size 341 341 (Ak 256) (0,0) _ h1 hu341 rfl (by rw [Cs];kernel_rfl);have Hl2:Aside _:=hl2;clear hld hst2 hsz h0 h1 hW hl2 hu341
   go_wp2
   refine PR (v :=.agg (Ak 256)) rfl Hld.out ?_
   go_wp2
   rw [Hst.out];simp only [Result.andThen];rw [Oper.upon_skip]
   go_wp2
   (try simp only [Exit.inBlock,Exit.then])
   refine bodyPost_ret (v :=.agg (Ak 256)) ?_ rfl ⟨rfl,rfl⟩;simp [results,asAddr,Result.andThen,Act.put,Hl2.out]
  |succ g=>
   have hiz:(i:Int)<(256:Int):=by omega
   have hw:IntKind.u32.wrap (i:Int)=i:=by simp only [IntKind.wrap,IntKind.signed,IntKind.bits];simp;omega
   have Hi:Aside (i<256):=by show i<256;omega
   go_wp2_with (go_at_fn 270;refine (J6 _ _).mono ?_)
   refine (J6 _ _).mono ?_
   rintro e w1 ⟨rfl,rfl⟩
   have hcell:(Ak i)[i]? = some (.int .u32 0):=by rw [LA i i Hi.out,if_neg (Nat.lt_irrefl i)]
   go_wp2
   go_roundg g
   case measure=>omega
   case rel=>exact ⟨i+1,by omega,by first|rfl|simp,by rw [O3 i Hi.out]⟩
theorem Sw:GQ Tryz.prog 245 [] Ny:=by
 intro B w avs vs n hm hB hc;have e:avs=[]:=by
  have:C2 Tryz.prog 245 (fun i =>.t ((List.getD [] i default:Tree)))=some []:=by kernel_rfl
  rw [this] at hm;exact (Option.some.inj hm).symm
 subst e;obtain rfl:vs = #[]:=eq_empty_of_size_eq_zero (by simpa using hc.1);refine (callsIn_wide (n:=n)).2 (Nx w) |>.mono ?_
 rintro e w' ⟨rfl,rfl⟩
 have hg:Grow w ((w.alloc (.cells (Ak 256) 341)).alloc (.cells (Ak 256) 341)):=⟨rfl,rfl,rfl,by simp;omega,fun b hb=>by show ((w.heap.push _).push _)[b]? = _;rw [getElem?_push,if_neg (by simp;omega),getElem?_push,if_neg (ne_of_lt hb)]⟩
 have hr:CL Tryz.prog 245 (fun i =>.t (Ny.getD i default))=some (.agg (A1 (fun i =>.t (Ny.getD i default)) 0 256)):=by
  have h1:Ax Tryz.prog 341=some true:=by kernel_rfl
  have h2:BV Tryz.prog 341=some 256:=by kernel_rfl
  have h3:Tryz.prog.funcs[245]? = some Tryz.f245:=Tryz.func245;have h4:Tryz.f245.resultTypes.toList=[341]:=by kernel_rfl
  simp only [CL,h3,h4,B5,F7,h1,h2,map_some]
 refine ⟨_,_,rfl,hr,.agg _ _ (by rw [Cs];simp [A1]) fun j x hx => ?_,hg,fun h => ?_⟩
 ·have hj:j<256:=by have:=AU hx;simpa [A1] using this
  have h1:=LA 256 j hj;rw [if_pos hj] at h1;have h2:(Ak 256).getD j undef = .int .u32 (steps 8 j):=by rw [Array.getD_eq_getD_getElem?,h1];rfl
  rw [h2];simp only [A1,getElem?_map,getElem?_range hj,map_some,Option.some.injEq,zero_add] at hx;subst hx;have h3:Ny.getD j default = .int .u32 (steps 8 j):=by simp [Ny,hj]
  rw [h3];exact .t _ _ (.int _ _)
 ·show Ny.all Tree.scalar=true;rw [all_eq_true];intro x hx;simp only [Ny,mem_map] at hx;obtain ⟨j,_,rfl⟩:=hx;rfl
end Ab
namespace Ab
open Go Go.Proofs Go.Shelf Go.RowKit Go.Lib
set_option maxRecDepth 100000
theorem Fx {P:Program} {t key elem:TypeId} {kd:IntKind} (hu:P.underlying t=some (.map key elem)) (hk:P.underlying key=some (.int kd)) {w:World} {b:Nat} {es:Array MapEntry} {clock:Nat} (hb:w.heap[b]? = some (.map es clock)) (n:Int) (v:Value)
  (hnew:Instr.findNow (.int kd) (.int kd n) es.toList 0=some none) :
  (Instr.mapUpdate t (.map (some b)) (.int kd n) v).run P w = .ok () (w.putObj b (.map (es.push {key :=.int kd n,val:=v,born:=clock}) (clock+1))):=by
 have hck:(Instr.checkKey false 10000 key (.int kd n)).run P w = .ok () w:=by
  have:∀m:Nat,(Instr.checkKey false (m+1) key (.int kd n)).run P w = .ok () w:=fun m=>by simp [Instr.checkKey,run_underlying hk]
  exact this 9999
 simp only [Instr.mapUpdate,Sem.run_bind,run_underlying hu,Result.andThen_ok,CV hb,hck,Instr.findKey,run_underlying hk,hnew,Sem.run_pure];simp [setObj,Sem.run,hb,World.putObj]
theorem Kq (w:World):Calls Tryz.prog 285 #[] w fun e w'=>∃b,e = .returned (.map (some b))∧w.heap.size≤b∧b<w'.heap.size∧Below w.heap.size w w'∧∃es clock,w'.heap[b]? = some (.map es clock)∧es.toList.map (fun e=>(e.key,e.val))=[(.int .i64 2,.func (.func 306) #[] #[]),(.int .i64 3,.func (.func 307) #[] #[])]:=by
 have hmm:=@Go.run_makeMap_plain Tryz.prog;have hw0:(w.alloc (.map #[] 0)).heap[w.heap.size]? = some (.map #[] 0):=by show (w.heap.push (.map #[] 0))[w.heap.size]? = _;exact Array.getElem?_push_size
 have h1:(Instr.mapUpdate 395 (.map (some w.heap.size)) (.int .i64 2) (.func (.func 306) #[] #[])).run Tryz.prog (w.alloc (.map #[] 0))= .ok () ((w.alloc (.map #[] 0)).putObj w.heap.size (.map #[{key :=.int .i64 2,val :=.func (.func 306) #[] #[],born:=0}] 1)):=
  Fx (P:=Tryz.prog) (t:=395) (key:=3) (elem:=393) (kd :=.i64) (by kernel_rfl) (by kernel_rfl) hw0 2 (.func (.func 306) #[] #[]) rfl
 have hlt:=Cv hw0;have hw1:=World.putObj_heap_same (o :=.map #[{key :=.int .i64 2,val :=.func (.func 306) #[] #[],born:=0}] 1) hlt;have hlt2:=Cv hw1;have hw2:=World.putObj_heap_same (o :=.map #[{key :=.int .i64 2,val :=.func (.func 306) #[] #[],born:=0},{key :=.int .i64 3,val :=.func (.func 307) #[] #[],born:=1}] 2) hlt2;have hlt3:=Cv hw2;have h2:(Instr.mapUpdate 395 (.map (some w.heap.size)) (.int .i64 3) (.func (.func 307) #[] #[])).run Tryz.prog ((w.alloc (.map #[] 0)).putObj w.heap.size (.map #[{key :=.int .i64 2,val :=.func (.func 306) #[] #[],born:=0}] 1))= .ok () (((w.alloc (.map #[] 0)).putObj w.heap.size (.map #[{key :=.int .i64 2,val :=.func (.func 306) #[] #[],born:=0}] 1)).putObj w.heap.size (.map #[{key :=.int .i64 2,val :=.func (.func 306) #[] #[],born:=0},{key :=.int .i64 3,val :=.func (.func 307) #[] #[],born:=1}] 2)):=
  Fx (P:=Tryz.prog) (t:=395) (key:=3) (elem:=393) (kd :=.i64) (by kernel_rfl) (by kernel_rfl) hw1 3 (.func (.func 307) #[] #[]) rfl
 go_enter Tryz.func285,Tryz.ntmps285
 go_wp2
 go_ret
 exact ⟨w.heap.size,rfl,le_refl _,hlt3,⟨rfl,rfl,rfl,Nat.le_of_lt hlt3,fun k hk=>by rw [World.putObj_heap_other (ne_of_lt hk),World.putObj_heap_other (ne_of_lt hk)];show (w.heap.push (.map #[] 0))[k]? = _;rw [getElem?_push,if_neg (ne_of_lt hk)]⟩,_,_,hw2,rfl⟩
theorem mapExt:GQ Tryz.prog 285 [] [.mp .i64 [(2,306),(3,307)]]:=by
 intro B w avs vs n hm hB hc;have e:avs=[]:=by
  have:C2 Tryz.prog 285 (fun i =>.t ((List.getD [] i default:Tree)))=some []:=by kernel_rfl
  rw [this] at hm;exact (Option.some.inj hm).symm
 subst e;obtain rfl:vs = #[]:=eq_empty_of_size_eq_zero (by simpa using hc.1);refine (callsIn_wide (n:=n)).2 (Kq w) |>.mono ?_
 rintro e w' ⟨b,rfl,h1,h2,h3,es,clock,h4,h5⟩
 refine ⟨_,.t (.mp .i64 [(2,306),(3,307)]),rfl,by kernel_rfl,.t _ _ (.mp .i64 _ b es clock h2 ?_ h4 (by rw [h5];rfl)),⟨h3.os,h3.tape,h3.output,h3.size,h3.block⟩,fun h => ?_⟩
 ·rintro (h|h)
  ·exact Nat.lt_irrefl _ (lt_of_lt_of_le (hB b h) h1)
  ·exact C8 h
 ·have:B6 Tryz.prog 285=false:=by kernel_rfl
  rw [this] at h;cases h
theorem AK:Lf C0:=by
 intro g xs ys _ h;have h2:NK g xs=some ys:=h;clear h;unfold NK at h2;split at h2
 ·rename_i e;split at h2
  ·cases h2;subst e;exact Sw
  ·cases h2
 split at h2
 ·rename_i e;split at h2
  ·cases h2;subst e;exact mapExt
  ·cases h2
 cases h2
end Ab
set_option maxRecDepth 1000000
namespace Ab
open Go
def d0:Ent:=(114,[tI 1,tI 0,tI 15],[.bool true])
theorem k0:EOk C0.P d0:=AH AT AK (l:=[]) trivial (n:=5000) (by kernel_rfl)
def d1:Ent:=(114,[tI 0,tI 0,tI 1099511627776],[.bool true])
theorem k1:EOk C0.P d1:=AH AT AK (l:=[]) trivial (n:=5000) (by kernel_rfl)
def d2:Ent:=(112,[tI 1,tI 0,tI 0,tI 0,tI 0],[tI 0])
theorem k2:EOk C0.P d2:=AH AT AK (l:=[d0,d1]) ⟨k0,⟨k1,trivial⟩⟩ (n:=5000) (by kernel_rfl)
def d3:Ent:=(113,[tI 1,tI 2],[tI 0])
theorem k3:EOk C0.P d3:=AH AT AK (l:=[]) trivial (n:=5000) (by kernel_rfl)
def d4:Ent:=(114,[tI 0,tI 0,tI 2],[.bool true])
theorem k4:EOk C0.P d4:=AH AT AK (l:=[]) trivial (n:=5000) (by kernel_rfl)
def d5:Ent:=(114,[tI 0,tI 0,tI 127],[.bool true])
theorem k5:EOk C0.P d5:=AH AT AK (l:=[]) trivial (n:=5000) (by kernel_rfl)
def d6:Ent:=(115,[tI 1,tI 0,tI 0,tI 0,tI 0,tI 1,tI 2,tI 9,tI 0,tI 0,.sl 3 [],.str (ByteArray.mk #[104,105])],[tI 0])
theorem k6:EOk C0.P d6:=AH AT AK (l:=[d5]) ⟨k5,trivial⟩ (n:=5000) (by kernel_rfl)
def d7:Ent:=(116,[.sl 3 []],[tI 0])
theorem k7:EOk C0.P d7:=AH AT AK (l:=[]) trivial (n:=5000) (by kernel_rfl)
def d8:Ent:=(117,[tI 1,tI 0,tI 0,tI 0,tI 0,tI 1,tI 2,tI 9,tI 0,tI 0,.sl 3 [],.str (ByteArray.mk #[104,105])],[tI 0])
theorem k8:EOk C0.P d8:=AH AT AK (l:=[]) trivial (n:=5000) (by kernel_rfl)
def d9:Ent:=(59,[tI 1,tI 0,tI 0,tI 0,tI 0,tI 1,tI 2,tI 9,tI 0,tI 0,.sl 3 [],.str (ByteArray.mk #[104,105])],[tI 0])
theorem k9:EOk C0.P d9:=AH AT AK (l:=[d2,d3,d4,d6,d7,d8]) ⟨k2,⟨k3,⟨k4,⟨k6,⟨k7,⟨k8,trivial⟩⟩⟩⟩⟩⟩ (n:=5000) (by kernel_rfl)
def d10:Ent:=(118,[tI 3],[.bool true])
theorem k10:EOk C0.P d10:=AH AT AK (l:=[]) trivial (n:=5000) (by kernel_rfl)
def d11:Ent:=(120,[tI 3],[tI 6])
theorem k11:EOk C0.P d11:=AH AT AK (l:=[]) trivial (n:=5000) (by kernel_rfl)
def d12:Ent:=(62,[tI 3],[.str (ByteArray.mk #[6]),tI 0])
theorem k12:EOk C0.P d12:=AH AT AK (l:=[d10,d11]) ⟨k10,⟨k11,trivial⟩⟩ (n:=5000) (by kernel_rfl)
def d13:Ent:=(60,[.str (ByteArray.mk #[77,66,49])],[.str (ByteArray.mk #[6,77,66,49]),tI 0])
theorem k13:EOk C0.P d13:=AH AT AK (l:=[d12]) ⟨k12,trivial⟩ (n:=5000) (by kernel_rfl)
def d14:Ent:=(118,[tI 1],[.bool true])
theorem k14:EOk C0.P d14:=AH AT AK (l:=[]) trivial (n:=5000) (by kernel_rfl)
def d15:Ent:=(120,[tI 1],[tI 2])
theorem k15:EOk C0.P d15:=AH AT AK (l:=[]) trivial (n:=5000) (by kernel_rfl)
def d16:Ent:=(62,[tI 1],[.str (ByteArray.mk #[2]),tI 0])
theorem k16:EOk C0.P d16:=AH AT AK (l:=[d14,d15]) ⟨k14,⟨k15,trivial⟩⟩ (n:=5000) (by kernel_rfl)
def d17:Ent:=(118,[tI 0],[.bool true])
theorem k17:EOk C0.P d17:=AH AT AK (l:=[]) trivial (n:=5000) (by kernel_rfl)
def d18:Ent:=(120,[tI 0],[tI 0])
theorem k18:EOk C0.P d18:=AH AT AK (l:=[]) trivial (n:=5000) (by kernel_rfl)
def d19:Ent:=(62,[tI 0],[.str (ByteArray.mk #[0]),tI 0])
theorem k19:EOk C0.P d19:=AH AT AK (l:=[d17,d18]) ⟨k17,⟨k18,trivial⟩⟩ (n:=5000) (by kernel_rfl)
def d20:Ent:=(118,[tI 2],[.bool true])
theorem k20:EOk C0.P d20:=AH AT AK (l:=[]) trivial (n:=5000) (by kernel_rfl)
def d21:Ent:=(120,[tI 2],[tI 4])
theorem k21:EOk C0.P d21:=AH AT AK (l:=[]) trivial (n:=5000) (by kernel_rfl)
def d22:Ent:=(62,[tI 2],[.str (ByteArray.mk #[4]),tI 0])
theorem k22:EOk C0.P d22:=AH AT AK (l:=[d20,d21]) ⟨k20,⟨k21,trivial⟩⟩ (n:=5000) (by kernel_rfl)
def d23:Ent:=(118,[tI 9],[.bool true])
theorem k23:EOk C0.P d23:=AH AT AK (l:=[]) trivial (n:=5000) (by kernel_rfl)
def d24:Ent:=(120,[tI 9],[tI 18])
theorem k24:EOk C0.P d24:=AH AT AK (l:=[]) trivial (n:=5000) (by kernel_rfl)
def d25:Ent:=(62,[tI 9],[.str (ByteArray.mk #[18]),tI 0])
theorem k25:EOk C0.P d25:=AH AT AK (l:=[d23,d24]) ⟨k23,⟨k24,trivial⟩⟩ (n:=5000) (by kernel_rfl)
def d26:Ent:=(63,[.sl 3 []],[.str (ByteArray.mk #[0]),tI 0])
theorem k26:EOk C0.P d26:=AH AT AK (l:=[d19]) ⟨k19,trivial⟩ (n:=5000) (by kernel_rfl)
def d27:Ent:=(60,[.str (ByteArray.mk #[104,105])],[.str (ByteArray.mk #[4,104,105]),tI 0])
theorem k27:EOk C0.P d27:=AH AT AK (l:=[d22]) ⟨k22,trivial⟩ (n:=5000) (by kernel_rfl)
def d28:Ent:=(118,[tI 18],[.bool true])
theorem k28:EOk C0.P d28:=AH AT AK (l:=[]) trivial (n:=5000) (by kernel_rfl)
def d29:Ent:=(120,[tI 18],[tI 36])
theorem k29:EOk C0.P d29:=AH AT AK (l:=[]) trivial (n:=5000) (by kernel_rfl)
def d30:Ent:=(62,[tI 18],[.str (ByteArray.mk #[36]),tI 0])
theorem k30:EOk C0.P d30:=AH AT AK (l:=[d28,d29]) ⟨k28,⟨k29,trivial⟩⟩ (n:=5000) (by kernel_rfl)
def d31:Ent:=(60,[.str (ByteArray.mk #[6,77,66,49,2,0,0,0,0,2,4,18,0,0,0,4,104,105])],[.str (ByteArray.mk #[36,6,77,66,49,2,0,0,0,0,2,4,18,0,0,0,4,104,105]),tI 0])
theorem k31:EOk C0.P d31:=AH AT AK (l:=[d30]) ⟨k30,trivial⟩ (n:=5000) (by kernel_rfl)
def d32:Ent:=(207,[.int .u32 4294967295,.str (ByteArray.mk #[36,6,77,66,49,2,0,0,0,0,2,4,18,0,0,0,4,104,105])],[.int .u32 1216372440])
theorem k32:EOk C0.P d32:=AH AT AK (l:=[]) trivial (n:=5000) (by kernel_rfl)
def d33:Ent:=(165,[.str (ByteArray.mk #[36,6,77,66,49,2,0,0,0,0,2,4,18,0,0,0,4,104,105])],[tI 3078594855])
theorem k33:EOk C0.P d33:=AH AT AK (l:=[d32]) ⟨k32,trivial⟩ (n:=5000) (by kernel_rfl)
def d34:Ent:=(122,[.str (ByteArray.mk #[36,6,77,66,49,2,0,0,0,0,2,4,18,0,0,0,4,104,105])],[.str (ByteArray.mk #[39,161,127,183])])
theorem k34:EOk C0.P d34:=AH AT AK (l:=[d33]) ⟨k33,trivial⟩ (n:=5000) (by kernel_rfl)
def d35:Ent:=(64,[.str (ByteArray.mk #[6,77,66,49,2,0,0,0,0,2,4,18,0,0,0,4,104,105])],[.str (ByteArray.mk #[36,6,77,66,49,2,0,0,0,0,2,4,18,0,0,0,4,104,105,39,161,127,183]),tI 0])
theorem k35:EOk C0.P d35:=AH AT AK (l:=[d31,d34]) ⟨k31,⟨k34,trivial⟩⟩ (n:=5000) (by kernel_rfl)
def d36:Ent:=(26,[tI 1,tI 0,tI 0,tI 0,tI 0,tI 1,tI 2,tI 9,tI 0,tI 0,.sl 3 [],.str (ByteArray.mk #[104,105])],[.str (ByteArray.mk #[36,6,77,66,49,2,0,0,0,0,2,4,18,0,0,0,4,104,105,39,161,127,183]),tI 0])
theorem k36:EOk C0.P d36:=AH AT AK (l:=[d9,d13,d16,d19,d22,d25,d26,d27,d35]) ⟨k9,⟨k13,⟨k16,⟨k19,⟨k22,⟨k25,⟨k26,⟨k27,⟨k35,trivial⟩⟩⟩⟩⟩⟩⟩⟩⟩ (n:=5000) (by kernel_rfl)
def d37:Ent:=(123,[.str (ByteArray.mk #[36,6,77,66,49,2,0,0,0,0,2,4,18,0,0,0,4,104,105,39,161,127,183])],[tI 18,tI 1,tI 0])
theorem k37:EOk C0.P d37:=AH AT AK (l:=[d28]) ⟨k28,trivial⟩ (n:=5000) (by kernel_rfl)
def d38:Ent:=(65,[.str (ByteArray.mk #[36,6,77,66,49,2,0,0,0,0,2,4,18,0,0,0,4,104,105,39,161,127,183])],[.str (ByteArray.mk #[6,77,66,49,2,0,0,0,0,2,4,18,0,0,0,4,104,105]),tI 23,tI 0])
theorem k38:EOk C0.P d38:=AH AT AK (l:=[d37,d34]) ⟨k37,⟨k34,trivial⟩⟩ (n:=5000) (by kernel_rfl)
def d39:Ent:=(124,[.str (ByteArray.mk #[6,77,66,49,2,0,0,0,0,2,4,18,0,0,0,4,104,105])],[.str (ByteArray.mk #[77,66,49]),tI 4,tI 0])
theorem k39:EOk C0.P d39:=AH AT AK (l:=[d10]) ⟨k10,trivial⟩ (n:=5000) (by kernel_rfl)
def d40:Ent:=(123,[.str (ByteArray.mk #[2,0,0,0,0,2,4,18,0,0,0,4,104,105])],[tI 1,tI 1,tI 0])
theorem k40:EOk C0.P d40:=AH AT AK (l:=[d14]) ⟨k14,trivial⟩ (n:=5000) (by kernel_rfl)
def d41:Ent:=(123,[.str (ByteArray.mk #[0,0,0,0,2,4,18,0,0,0,4,104,105])],[tI 0,tI 1,tI 0])
theorem k41:EOk C0.P d41:=AH AT AK (l:=[d17]) ⟨k17,trivial⟩ (n:=5000) (by kernel_rfl)
def d42:Ent:=(123,[.str (ByteArray.mk #[0,0,0,2,4,18,0,0,0,4,104,105])],[tI 0,tI 1,tI 0])
theorem k42:EOk C0.P d42:=AH AT AK (l:=[d17]) ⟨k17,trivial⟩ (n:=5000) (by kernel_rfl)
def d43:Ent:=(123,[.str (ByteArray.mk #[0,0,2,4,18,0,0,0,4,104,105])],[tI 0,tI 1,tI 0])
theorem k43:EOk C0.P d43:=AH AT AK (l:=[d17]) ⟨k17,trivial⟩ (n:=5000) (by kernel_rfl)
def d44:Ent:=(123,[.str (ByteArray.mk #[0,2,4,18,0,0,0,4,104,105])],[tI 0,tI 1,tI 0])
theorem k44:EOk C0.P d44:=AH AT AK (l:=[d17]) ⟨k17,trivial⟩ (n:=5000) (by kernel_rfl)
def d45:Ent:=(123,[.str (ByteArray.mk #[2,4,18,0,0,0,4,104,105])],[tI 1,tI 1,tI 0])
theorem k45:EOk C0.P d45:=AH AT AK (l:=[d14]) ⟨k14,trivial⟩ (n:=5000) (by kernel_rfl)
def d46:Ent:=(123,[.str (ByteArray.mk #[4,18,0,0,0,4,104,105])],[tI 2,tI 1,tI 0])
theorem k46:EOk C0.P d46:=AH AT AK (l:=[d20]) ⟨k20,trivial⟩ (n:=5000) (by kernel_rfl)
def d47:Ent:=(123,[.str (ByteArray.mk #[18,0,0,0,4,104,105])],[tI 9,tI 1,tI 0])
theorem k47:EOk C0.P d47:=AH AT AK (l:=[d23]) ⟨k23,trivial⟩ (n:=5000) (by kernel_rfl)
def d48:Ent:=(123,[.str (ByteArray.mk #[0,0,0,4,104,105])],[tI 0,tI 1,tI 0])
theorem k48:EOk C0.P d48:=AH AT AK (l:=[d17]) ⟨k17,trivial⟩ (n:=5000) (by kernel_rfl)
def d49:Ent:=(123,[.str (ByteArray.mk #[0,0,4,104,105])],[tI 0,tI 1,tI 0])
theorem k49:EOk C0.P d49:=AH AT AK (l:=[d17]) ⟨k17,trivial⟩ (n:=5000) (by kernel_rfl)
def d50:Ent:=(123,[.str (ByteArray.mk #[0,4,104,105])],[tI 0,tI 1,tI 0])
theorem k50:EOk C0.P d50:=AH AT AK (l:=[d17]) ⟨k17,trivial⟩ (n:=5000) (by kernel_rfl)
def d51:Ent:=(126,[.str (ByteArray.mk #[0,4,104,105])],[.sl 3 [],tI 1,tI 0])
theorem k51:EOk C0.P d51:=AH AT AK (l:=[d50]) ⟨k50,trivial⟩ (n:=5000) (by kernel_rfl)
def d52:Ent:=(124,[.str (ByteArray.mk #[4,104,105])],[.str (ByteArray.mk #[104,105]),tI 3,tI 0])
theorem k52:EOk C0.P d52:=AH AT AK (l:=[d20]) ⟨k20,trivial⟩ (n:=5000) (by kernel_rfl)
def d53:Ent:=(27,[.str (ByteArray.mk #[36,6,77,66,49,2,0,0,0,0,2,4,18,0,0,0,4,104,105,39,161,127,183])],[tI 1,tI 0,tI 0,tI 0,tI 0,tI 1,tI 2,tI 9,tI 0,tI 0,.sl 3 [],.str (ByteArray.mk #[104,105]),tI 0])
theorem k53:EOk C0.P d53:=AH AT AK (l:=[d38,d39,d40,d41,d42,d43,d44,d45,d46,d47,d48,d49,d51,d52,d9]) ⟨k38,⟨k39,⟨k40,⟨k41,⟨k42,⟨k43,⟨k44,⟨k45,⟨k46,⟨k47,⟨k48,⟨k49,⟨k51,⟨k52,⟨k9,trivial⟩⟩⟩⟩⟩⟩⟩⟩⟩⟩⟩⟩⟩⟩⟩ (n:=5000) (by kernel_rfl)
def d54:Ent:=(28,[tI 0,tI 1,tI 0,tI 10],[tI 0,tI 1,tI 0,tI 10,tI 24,tI 5,tI 0])
theorem k54:EOk C0.P d54:=AH AT AK (l:=[]) trivial (n:=5000) (by kernel_rfl)
def d55:Ent:=(28,[tI 1,tI 2,tI 8,tI 20],[tI 1,tI 2,tI 8,tI 20,tI 24,tI 5,tI 0])
theorem k55:EOk C0.P d55:=AH AT AK (l:=[]) trivial (n:=5000) (by kernel_rfl)
def d56:Ent:=(139,[tI 0,tI 0,tI 15],[.bool true])
theorem k56:EOk C0.P d56:=AH AT AK (l:=[]) trivial (n:=5000) (by kernel_rfl)
def d57:Ent:=(139,[tI 1,tI 0,tI 15],[.bool true])
theorem k57:EOk C0.P d57:=AH AT AK (l:=[]) trivial (n:=5000) (by kernel_rfl)
def d58:Ent:=(139,[tI 24,tI 1,tI 1000],[.bool true])
theorem k58:EOk C0.P d58:=AH AT AK (l:=[]) trivial (n:=5000) (by kernel_rfl)
def d59:Ent:=(139,[tI 5,tI 1,tI 1048576],[.bool true])
theorem k59:EOk C0.P d59:=AH AT AK (l:=[]) trivial (n:=5000) (by kernel_rfl)
def d60:Ent:=(139,[tI 0,tI 0,tI 16],[.bool true])
theorem k60:EOk C0.P d60:=AH AT AK (l:=[]) trivial (n:=5000) (by kernel_rfl)
def d61:Ent:=(79,[tI 0,tI 1,tI 0,tI 10,tI 24,tI 5,tI 0],[tI 0])
theorem k61:EOk C0.P d61:=AH AT AK (l:=[d56,d57,d58,d59,d60]) ⟨k56,⟨k57,⟨k58,⟨k59,⟨k60,trivial⟩⟩⟩⟩⟩ (n:=5000) (by kernel_rfl)
def d62:Ent:=(139,[tI 2,tI 0,tI 15],[.bool true])
theorem k62:EOk C0.P d62:=AH AT AK (l:=[]) trivial (n:=5000) (by kernel_rfl)
def d63:Ent:=(79,[tI 1,tI 2,tI 8,tI 20,tI 24,tI 5,tI 0],[tI 0])
theorem k63:EOk C0.P d63:=AH AT AK (l:=[d57,d62,d58,d59,d60]) ⟨k57,⟨k62,⟨k58,⟨k59,⟨k60,trivial⟩⟩⟩⟩⟩ (n:=5000) (by kernel_rfl)
def d64:Ent:=(82,[tI 1,tI 2,tI 8,tI 20,tI 24,tI 5,tI 0,tI 0,tI 1,tI 0,tI 10,tI 24,tI 5,tI 0],[.bool false])
theorem k64:EOk C0.P d64:=AH AT AK (l:=[d63,d61]) ⟨k63,⟨k61,trivial⟩⟩ (n:=5000) (by kernel_rfl)
def d65:Ent:=(41,[.sl 1 [[tI 50],[tI 50],[tI 50]],.sl 7 [[tI 0,tI 1,tI 0,tI 10,tI 24,tI 5,tI 0],[tI 1,tI 2,tI 8,tI 20,tI 24,tI 5,tI 0]]],[tI 0])
theorem k65:EOk C0.P d65:=AH AT AK (l:=[d61,d63,d64]) ⟨k61,⟨k63,⟨k64,trivial⟩⟩⟩ (n:=5000) (by kernel_rfl)
def d66:Ent:=(13,[.sl 1 [[tI 50],[tI 50],[tI 50]],.sl 7 [[tI 0,tI 1,tI 0,tI 10,tI 24,tI 5,tI 0],[tI 1,tI 2,tI 8,tI 20,tI 24,tI 5,tI 0]],.sl 4 []],[tI 0])
theorem k66:EOk C0.P d66:=AH AT AK (l:=[d65]) ⟨k65,trivial⟩ (n:=5000) (by kernel_rfl)
def d67:Ent:=(195,[.int .u64 0],[tI 0])
theorem k67:EOk C0.P d67:=AH AT AK (l:=[]) trivial (n:=5000) (by kernel_rfl)
def d68:Ent:=(153,[.int .u64 0],[tI 0])
theorem k68:EOk C0.P d68:=AH AT AK (l:=[d67]) ⟨k67,trivial⟩ (n:=5000) (by kernel_rfl)
def d69:Ent:=(232,[.sl 1 [],tI 0,tI 0],[])
theorem k69:EOk C0.P d69:=AH AT AK (l:=[]) trivial (n:=5000) (by kernel_rfl)
def d70:Ent:=(196,[.sl 1 [],tI 0,tI 0,tI 0],[])
theorem k70:EOk C0.P d70:=AH AT AK (l:=[d69]) ⟨k69,trivial⟩ (n:=5000) (by kernel_rfl)
def d71:Ent:=(155,[.sl 1 []],[])
theorem k71:EOk C0.P d71:=AH AT AK (l:=[d68,d70]) ⟨k68,⟨k70,trivial⟩⟩ (n:=5000) (by kernel_rfl)
def d72:Ent:=(98,[.sl 5 [],tI 0],[.sl 2 []])
theorem k72:EOk C0.P d72:=AH AT AK (l:=[d71]) ⟨k71,trivial⟩ (n:=5000) (by kernel_rfl)
def d73:Ent:=(97,[.sl 2 []],[tI 0])
theorem k73:EOk C0.P d73:=AH AT AK (l:=[]) trivial (n:=5000) (by kernel_rfl)
def d74:Ent:=(98,[.sl 5 [],tI 1],[.sl 2 []])
theorem k74:EOk C0.P d74:=AH AT AK (l:=[d71]) ⟨k71,trivial⟩ (n:=5000) (by kernel_rfl)
def d75:Ent:=(98,[.sl 5 [],tI 2],[.sl 2 []])
theorem k75:EOk C0.P d75:=AH AT AK (l:=[d71]) ⟨k71,trivial⟩ (n:=5000) (by kernel_rfl)
def d76:Ent:=(48,[.sl 1 [[tI 50],[tI 50],[tI 50]],.sl 7 [[tI 0,tI 1,tI 0,tI 10,tI 24,tI 5,tI 0],[tI 1,tI 2,tI 8,tI 20,tI 24,tI 5,tI 0]],.sl 5 []],[tI 0])
theorem k76:EOk C0.P d76:=AH AT AK (l:=[d65,d72,d73,d74,d75]) ⟨k65,⟨k72,⟨k73,⟨k74,⟨k75,trivial⟩⟩⟩⟩⟩ (n:=5000) (by kernel_rfl)
def d77:Ent:=(17,[.sl 1 [[tI 50],[tI 50],[tI 50]],.sl 7 [[tI 0,tI 1,tI 0,tI 10,tI 24,tI 5,tI 0],[tI 1,tI 2,tI 8,tI 20,tI 24,tI 5,tI 0]],.sl 4 [],.sl 5 []],[tI 0])
theorem k77:EOk C0.P d77:=AH AT AK (l:=[d65,d66,d76]) ⟨k65,⟨k66,⟨k76,trivial⟩⟩⟩ (n:=5000) (by kernel_rfl)
def d78:Ent:=(71,[.sl 1 [[tI 50],[tI 50],[tI 50]],.sl 7 [[tI 0,tI 1,tI 0,tI 10,tI 24,tI 5,tI 0],[tI 1,tI 2,tI 8,tI 20,tI 24,tI 5,tI 0]],tI 0,tI 2,tI 16,tI 0,tI 50,tI 0,.bool false],[tI 0])
theorem k78:EOk C0.P d78:=AH AT AK (l:=[d65]) ⟨k65,trivial⟩ (n:=5000) (by kernel_rfl)
def d79:Ent:=(141,[.sl 1 [[tI 50],[tI 50],[tI 50]],.sl 7 [[tI 0,tI 1,tI 0,tI 10,tI 24,tI 5,tI 0],[tI 1,tI 2,tI 8,tI 20,tI 24,tI 5,tI 0]],.sl 4 [],tI 0],[tI 0])
theorem k79:EOk C0.P d79:=AH AT AK (l:=[d66]) ⟨k66,trivial⟩ (n:=5000) (by kernel_rfl)
def d80:Ent:=(38,[.sl 4 [],tI 0],[.sl 2 []])
theorem k80:EOk C0.P d80:=AH AT AK (l:=[]) trivial (n:=5000) (by kernel_rfl)
def d81:Ent:=(142,[.sl 1 [[tI 50],[tI 50],[tI 50]],.sl 7 [[tI 0,tI 1,tI 0,tI 10,tI 24,tI 5,tI 0],[tI 1,tI 2,tI 8,tI 20,tI 24,tI 5,tI 0]],.sl 4 [],tI 0,tI 0],[.sl 2 [[tI 0,tI 10]]])
theorem k81:EOk C0.P d81:=AH AT AK (l:=[d80]) ⟨k80,trivial⟩ (n:=5000) (by kernel_rfl)
def d82:Ent:=(83,[.sl 1 [[tI 50],[tI 50],[tI 50]],.sl 7 [[tI 0,tI 1,tI 0,tI 10,tI 24,tI 5,tI 0],[tI 1,tI 2,tI 8,tI 20,tI 24,tI 5,tI 0]],.sl 4 [],tI 0],[.sl 2 [[tI 0,tI 10]],tI 0])
theorem k82:EOk C0.P d82:=AH AT AK (l:=[d79,d81]) ⟨k79,⟨k81,trivial⟩⟩ (n:=5000) (by kernel_rfl)
def d83:Ent:=(139,[tI 16,tI 1,tI 65536],[.bool true])
theorem k83:EOk C0.P d83:=AH AT AK (l:=[]) trivial (n:=5000) (by kernel_rfl)
def d84:Ent:=(143,[tI 0,tI 1,tI 0,tI 10,tI 24,tI 5,tI 0,tI 16],[tI 0])
theorem k84:EOk C0.P d84:=AH AT AK (l:=[d61,d83]) ⟨k61,⟨k83,trivial⟩⟩ (n:=5000) (by kernel_rfl)
def d85:Ent:=(185,[tI 0,tI 1,tI 0,tI 10,tI 24,tI 5,tI 0,tI 16],[tI 1])
theorem k85:EOk C0.P d85:=AH AT AK (l:=[]) trivial (n:=5000) (by kernel_rfl)
def d86:Ent:=(184,[tI 0,tI 1,tI 0,tI 10,tI 24,tI 5,tI 0,tI 16],[tI 1])
theorem k86:EOk C0.P d86:=AH AT AK (l:=[d85]) ⟨k85,trivial⟩ (n:=5000) (by kernel_rfl)
def d87:Ent:=(144,[tI 0,tI 1,tI 0,tI 10,tI 24,tI 5,tI 0,tI 16],[tI 1])
theorem k87:EOk C0.P d87:=AH AT AK (l:=[d86,d85]) ⟨k86,⟨k85,trivial⟩⟩ (n:=5000) (by kernel_rfl)
def d88:Ent:=(84,[tI 0,tI 1,tI 0,tI 10,tI 24,tI 5,tI 0,tI 16],[tI 1,tI 0])
theorem k88:EOk C0.P d88:=AH AT AK (l:=[d84,d87]) ⟨k84,⟨k87,trivial⟩⟩ (n:=5000) (by kernel_rfl)
def d89:Ent:=(141,[.sl 1 [[tI 50],[tI 50],[tI 50]],.sl 7 [[tI 0,tI 1,tI 0,tI 10,tI 24,tI 5,tI 0],[tI 1,tI 2,tI 8,tI 20,tI 24,tI 5,tI 0]],.sl 4 [],tI 1],[tI 0])
theorem k89:EOk C0.P d89:=AH AT AK (l:=[d66]) ⟨k66,trivial⟩ (n:=5000) (by kernel_rfl)
def d90:Ent:=(38,[.sl 4 [],tI 1],[.sl 2 []])
theorem k90:EOk C0.P d90:=AH AT AK (l:=[]) trivial (n:=5000) (by kernel_rfl)
def d91:Ent:=(142,[.sl 1 [[tI 50],[tI 50],[tI 50]],.sl 7 [[tI 0,tI 1,tI 0,tI 10,tI 24,tI 5,tI 0],[tI 1,tI 2,tI 8,tI 20,tI 24,tI 5,tI 0]],.sl 4 [],tI 1,tI 8],[.sl 2 [[tI 8,tI 20]]])
theorem k91:EOk C0.P d91:=AH AT AK (l:=[d90]) ⟨k90,trivial⟩ (n:=5000) (by kernel_rfl)
def d92:Ent:=(83,[.sl 1 [[tI 50],[tI 50],[tI 50]],.sl 7 [[tI 0,tI 1,tI 0,tI 10,tI 24,tI 5,tI 0],[tI 1,tI 2,tI 8,tI 20,tI 24,tI 5,tI 0]],.sl 4 [],tI 1],[.sl 2 [[tI 8,tI 20]],tI 0])
theorem k92:EOk C0.P d92:=AH AT AK (l:=[d89,d91]) ⟨k89,⟨k91,trivial⟩⟩ (n:=5000) (by kernel_rfl)
def d93:Ent:=(143,[tI 1,tI 2,tI 8,tI 20,tI 24,tI 5,tI 0,tI 16],[tI 0])
theorem k93:EOk C0.P d93:=AH AT AK (l:=[d63,d83]) ⟨k63,⟨k83,trivial⟩⟩ (n:=5000) (by kernel_rfl)
def d94:Ent:=(185,[tI 1,tI 2,tI 8,tI 20,tI 24,tI 5,tI 0,tI 16],[tI 1])
theorem k94:EOk C0.P d94:=AH AT AK (l:=[]) trivial (n:=5000) (by kernel_rfl)
def d95:Ent:=(184,[tI 1,tI 2,tI 8,tI 20,tI 24,tI 5,tI 0,tI 16],[tI 1])
theorem k95:EOk C0.P d95:=AH AT AK (l:=[d94]) ⟨k94,trivial⟩ (n:=5000) (by kernel_rfl)
def d96:Ent:=(144,[tI 1,tI 2,tI 8,tI 20,tI 24,tI 5,tI 0,tI 16],[tI 1])
theorem k96:EOk C0.P d96:=AH AT AK (l:=[d95,d94]) ⟨k95,⟨k94,trivial⟩⟩ (n:=5000) (by kernel_rfl)
def d97:Ent:=(84,[tI 1,tI 2,tI 8,tI 20,tI 24,tI 5,tI 0,tI 16],[tI 1,tI 0])
theorem k97:EOk C0.P d97:=AH AT AK (l:=[d93,d96]) ⟨k93,⟨k96,trivial⟩⟩ (n:=5000) (by kernel_rfl)
def d98:Ent:=(85,[.sl 1 [[tI 50],[tI 50],[tI 50]],.sl 7 [[tI 0,tI 1,tI 0,tI 10,tI 24,tI 5,tI 0],[tI 1,tI 2,tI 8,tI 20,tI 24,tI 5,tI 0]],.sl 5 [],tI 0,tI 16],[.sl 2 [[tI 0,tI 1099511627776]],tI 0])
theorem k98:EOk C0.P d98:=AH AT AK (l:=[d76,d72]) ⟨k76,⟨k72,trivial⟩⟩ (n:=5000) (by kernel_rfl)
def d99:Ent:=(85,[.sl 1 [[tI 50],[tI 50],[tI 50]],.sl 7 [[tI 0,tI 1,tI 0,tI 10,tI 24,tI 5,tI 0],[tI 1,tI 2,tI 8,tI 20,tI 24,tI 5,tI 0]],.sl 5 [],tI 1,tI 16],[.sl 2 [[tI 0,tI 1099511627776]],tI 0])
theorem k99:EOk C0.P d99:=AH AT AK (l:=[d76,d74]) ⟨k76,⟨k74,trivial⟩⟩ (n:=5000) (by kernel_rfl)
def d100:Ent:=(85,[.sl 1 [[tI 50],[tI 50],[tI 50]],.sl 7 [[tI 0,tI 1,tI 0,tI 10,tI 24,tI 5,tI 0],[tI 1,tI 2,tI 8,tI 20,tI 24,tI 5,tI 0]],.sl 5 [],tI 2,tI 16],[.sl 2 [[tI 0,tI 1099511627776]],tI 0])
theorem k100:EOk C0.P d100:=AH AT AK (l:=[d76,d75]) ⟨k76,⟨k75,trivial⟩⟩ (n:=5000) (by kernel_rfl)
def d101:Ent:=(91,[tI 0,tI 0,tI 1099511627776,tI 0,tI 0,tI 0,tI 1099511627776,tI 0],[.bool true])
theorem k101:EOk C0.P d101:=AH AT AK (l:=[]) trivial (n:=5000) (by kernel_rfl)
def d102:Ent:=(91,[tI 1,tI 0,tI 1099511627776,tI 6,tI 0,tI 0,tI 1099511627776,tI 0],[.bool false])
theorem k102:EOk C0.P d102:=AH AT AK (l:=[]) trivial (n:=5000) (by kernel_rfl)
def d103:Ent:=(91,[tI 1,tI 0,tI 1099511627776,tI 6,tI 1,tI 0,tI 1099511627776,tI 6],[.bool true])
theorem k103:EOk C0.P d103:=AH AT AK (l:=[]) trivial (n:=5000) (by kernel_rfl)
def d104:Ent:=(195,[.int .u64 2],[tI 2])
theorem k104:EOk C0.P d104:=AH AT AK (l:=[]) trivial (n:=5000) (by kernel_rfl)
def d105:Ent:=(153,[.int .u64 2],[tI 2])
theorem k105:EOk C0.P d105:=AH AT AK (l:=[d104]) ⟨k104,trivial⟩ (n:=5000) (by kernel_rfl)
def d106:Ent:=(74,[tI 6],[.bool false])
theorem k106:EOk C0.P d106:=AH AT AK (l:=[]) trivial (n:=5000) (by kernel_rfl)
def d107:Ent:=(74,[tI 0],[.bool false])
theorem k107:EOk C0.P d107:=AH AT AK (l:=[]) trivial (n:=5000) (by kernel_rfl)
def d108:Ent:=(35,[tI 6,tI 0],[tI 1])
theorem k108:EOk C0.P d108:=AH AT AK (l:=[d106,d107]) ⟨k106,⟨k107,trivial⟩⟩ (n:=5000) (by kernel_rfl)
def d109:Ent:=(74,[tI 1],[.bool false])
theorem k109:EOk C0.P d109:=AH AT AK (l:=[]) trivial (n:=5000) (by kernel_rfl)
def d110:Ent:=(35,[tI 1,tI 0],[tI 1])
theorem k110:EOk C0.P d110:=AH AT AK (l:=[d109,d107]) ⟨k109,⟨k107,trivial⟩⟩ (n:=5000) (by kernel_rfl)
def d111:Ent:=(35,[tI 0,tI 0],[tI 0])
theorem k111:EOk C0.P d111:=AH AT AK (l:=[d107]) ⟨k107,trivial⟩ (n:=5000) (by kernel_rfl)
def d112:Ent:=(34,[.sl 1 [[tI 1],[tI 1],[tI 0]]],[tI 1])
theorem k112:EOk C0.P d112:=AH AT AK (l:=[]) trivial (n:=5000) (by kernel_rfl)
def d113:Ent:=(88,[tI 1,tI 0,tI 1099511627776,tI 6,tI 0,tI 0,tI 1099511627776,tI 0],[tI 1])
theorem k113:EOk C0.P d113:=AH AT AK (l:=[d108,d110,d111,d112]) ⟨k108,⟨k110,⟨k111,⟨k112,trivial⟩⟩⟩⟩ (n:=5000) (by kernel_rfl)
def d114:Ent:=(16,[.sl 1 [[tI 50],[tI 50],[tI 50]],.sl 7 [[tI 0,tI 1,tI 0,tI 10,tI 24,tI 5,tI 0],[tI 1,tI 2,tI 8,tI 20,tI 24,tI 5,tI 0]],.sl 4 [],.sl 5 [],tI 0,tI 2,tI 16,tI 0,tI 50,tI 0,.bool false],[tI 14,tI 0])
theorem k114:EOk C0.P d114:=AH AT AK (l:=[d77,d78,d82,d88,d92,d97,d98,d99,d100,d101,d102,d103,d105,d113]) ⟨k77,⟨k78,⟨k82,⟨k88,⟨k92,⟨k97,⟨k98,⟨k99,⟨k100,⟨k101,⟨k102,⟨k103,⟨k105,⟨k113,trivial⟩⟩⟩⟩⟩⟩⟩⟩⟩⟩⟩⟩⟩⟩ (n:=5000) (by kernel_rfl)
def d115:Ent:=(127,[.sl 2 []],[tI 0])
theorem P5:EOk C0.P d115:=AH AT AK (l:=[]) trivial (n:=5000) (by kernel_rfl)
def d116:Ent:=(172,[tI 0,tI 0,tI 1099511627776],[.bool true])
theorem k116:EOk C0.P d116:=AH AT AK (l:=[]) trivial (n:=5000) (by kernel_rfl)
def d117:Ent:=(256,[.str (ByteArray.mk #[104,101,108,108,111])],[.sl 2 [[tI 0,tI 5]]])
theorem k117:EOk C0.P d117:=AH AT AK (l:=[]) trivial (n:=5000) (by kernel_rfl)
def d118:Ent:=(171,[tI 0,tI 5],[.bool true])
theorem k118:EOk C0.P d118:=AH AT AK (l:=[]) trivial (n:=5000) (by kernel_rfl)
def d119:Ent:=(127,[.sl 2 [[tI 0,tI 5]]],[tI 0])
theorem k119:EOk C0.P d119:=AH AT AK (l:=[d118]) ⟨k118,trivial⟩ (n:=5000) (by kernel_rfl)
def d120:Ent:=(275,[.bool true,.bool false],[.bool true])
theorem k120:EOk C0.P d120:=AH AT AK (l:=[]) trivial (n:=5000) (by kernel_rfl)
def d121:Ent:=(275,[.bool false,.bool false],[.bool false])
theorem k121:EOk C0.P d121:=AH AT AK (l:=[]) trivial (n:=5000) (by kernel_rfl)
def d122:Ent:=(255,[.sl 2 [[tI 0,tI 5]],.sl 2 []],[.sl 2 [[tI 0,tI 5]],tI 0])
theorem k122:EOk C0.P d122:=AH AT AK (l:=[d119,d115,d120,d121]) ⟨k119,⟨P5,⟨k120,⟨k121,trivial⟩⟩⟩⟩ (n:=5000) (by kernel_rfl)
def d123:Ent:=(215,[tI 0,tI 0,tI 0,tI 0,tI 0,tI 0,tI 0,tI 0,.str (ByteArray.mk #[104,101,108,108,111]),tI 0,tI 0,tI 0,.sl 2 [],tI 0,tI 0],[.sl 2 [[tI 0,tI 5]]])
theorem k123:EOk C0.P d123:=AH AT AK (l:=[d117,d122]) ⟨k117,⟨k122,trivial⟩⟩ (n:=5000) (by kernel_rfl)
def d124:Ent:=(252,[tI 0,tI 0,tI 1099511627776],[.bool true])
theorem k124:EOk C0.P d124:=AH AT AK (l:=[]) trivial (n:=5000) (by kernel_rfl)
def d125:Ent:=(252,[tI 1,tI 1,tI 1099511627776],[.bool true])
theorem k125:EOk C0.P d125:=AH AT AK (l:=[]) trivial (n:=5000) (by kernel_rfl)
def d126:Ent:=(253,[.sl 2 [[tI 0,tI 5]],tI 5],[.bool true])
theorem k126:EOk C0.P d126:=AH AT AK (l:=[d119]) ⟨k119,trivial⟩ (n:=5000) (by kernel_rfl)
def d127:Ent:=(214,[tI 0,tI 1,.str (ByteArray.mk #[104,101,108,108,111]),.sl 2 [[tI 0,tI 5]]],[.sl 8 [[tI 1,tI 0,tI 1,tI 0,tI 5,.bool true,.str (ByteArray.mk #[104,101,108,108,111]),.sl 2 []]],tI 0])
theorem k127:EOk C0.P d127:=AH AT AK (l:=[d124,d125,d126]) ⟨k124,⟨k125,⟨k126,trivial⟩⟩⟩ (n:=5000) (by kernel_rfl)
def d128:Ent:=(174,[tI 0,tI 0,tI 0,tI 0,tI 0,tI 0,tI 0,tI 0,.str (ByteArray.mk #[104,101,108,108,111]),tI 0,tI 0,tI 0,.sl 2 [],tI 0,tI 0],[.sl 8 [[tI 1,tI 0,tI 1,tI 0,tI 5,.bool true,.str (ByteArray.mk #[104,101,108,108,111]),.sl 2 []]]])
theorem k128:EOk C0.P d128:=AH AT AK (l:=[d123,d127]) ⟨k123,⟨k127,trivial⟩⟩ (n:=5000) (by kernel_rfl)
def d129:Ent:=(252,[tI 1,tI 1,tI 3],[.bool true])
theorem k129:EOk C0.P d129:=AH AT AK (l:=[]) trivial (n:=5000) (by kernel_rfl)
def d130:Ent:=(252,[tI 1,tI 0,tI 1099511627776],[.bool true])
theorem k130:EOk C0.P d130:=AH AT AK (l:=[]) trivial (n:=5000) (by kernel_rfl)
def d131:Ent:=(252,[tI 5,tI 1,tI 65536],[.bool true])
theorem k131:EOk C0.P d131:=AH AT AK (l:=[]) trivial (n:=5000) (by kernel_rfl)
def d132:Ent:=(252,[tI 0,tI 0,tI 4],[.bool true])
theorem k132:EOk C0.P d132:=AH AT AK (l:=[]) trivial (n:=5000) (by kernel_rfl)
def d133:Ent:=(308,[tI 1,tI 0,tI 1,tI 0,tI 5,.bool true,.str (ByteArray.mk #[104,101,108,108,111]),.sl 2 []],[.bool true])
theorem k133:EOk C0.P d133:=AH AT AK (l:=[d131,d132]) ⟨k131,⟨k132,trivial⟩⟩ (n:=5000) (by kernel_rfl)
def d134:Ent:=(252,[tI 5,tI 1,tI 5],[.bool true])
theorem k134:EOk C0.P d134:=AH AT AK (l:=[]) trivial (n:=5000) (by kernel_rfl)
def d135:Ent:=(309,[tI 1,tI 0,tI 1,tI 0,tI 5,.bool true,.str (ByteArray.mk #[104,101,108,108,111]),.sl 2 []],[.bool true])
theorem k135:EOk C0.P d135:=AH AT AK (l:=[d134]) ⟨k134,trivial⟩ (n:=5000) (by kernel_rfl)
def d136:Ent:=(272,[tI 1,tI 0,tI 1,tI 0,tI 5,.bool true,.str (ByteArray.mk #[104,101,108,108,111]),.sl 2 []],[tI 0])
theorem k136:EOk C0.P d136:=AH AT AK (l:=[d129,d124,d130,d133,d135]) ⟨k129,⟨k124,⟨k130,⟨k133,⟨k135,trivial⟩⟩⟩⟩⟩ (n:=5000) (by kernel_rfl)
def d137:Ent:=(252,[tI 24,tI 1,tI 1000],[.bool true])
theorem k137:EOk C0.P d137:=AH AT AK (l:=[]) trivial (n:=5000) (by kernel_rfl)
def d138:Ent:=(251,[tI 24,tI 1,tI 0,tI 1,tI 0,tI 5,.bool true,.str (ByteArray.mk #[104,101,108,108,111]),.sl 2 []],[tI 1,tI 0])
theorem k138:EOk C0.P d138:=AH AT AK (l:=[d136,d137]) ⟨k136,⟨k137,trivial⟩⟩ (n:=5000) (by kernel_rfl)
def d139:Ent:=(213,[tI 0,tI 1,tI 0,tI 10,tI 24,tI 5,tI 0,tI 0,.str (ByteArray.mk #[104,101,108,108,111]),tI 10,tI 1,tI 1,.sl 2 [],tI 0,tI 1],[tI 12])
theorem k139:EOk C0.P d139:=AH AT AK (l:=[]) trivial (n:=5000) (by kernel_rfl)
def d140:Ent:=(2011087,[tI 0,tI 1,tI 0,tI 10,tI 24,tI 5,tI 0,tI 0,.str (ByteArray.mk #[104,101,108,108,111]),tI 10,tI 0,tI 0,.sl 2 [],tI 0,tI 0,tI 0,.sl 8 [[tI 1,tI 0,tI 1,tI 0,tI 5,.bool true,.str (ByteArray.mk #[104,101,108,108,111]),.sl 2 []]]],[tI 0,tI 1,tI 0,tI 10,tI 24,tI 5,tI 0,tI 0,.str (ByteArray.mk #[104,101,108,108,111]),tI 10,tI 1,tI 1,.sl 2 [],tI 12,tI 1,.sl 9 [[tI 1,tI 1,tI 0,tI 1,tI 0,tI 5,.bool true,.str (ByteArray.mk #[104,101,108,108,111]),.sl 2 []]]])
theorem k140:EOk C0.P d140:=AH AT AK (l:=[d138,d139]) ⟨k138,⟨k139,trivial⟩⟩ (n:=5000) (by kernel_rfl)
def d141:Ent:=(2008207,[tI 0,tI 1,tI 0,tI 10,tI 24,tI 5,tI 0,tI 0,.str (ByteArray.mk #[104,101,108,108,111]),tI 0,tI 10],[tI 0,tI 1,tI 0,tI 10,tI 24,tI 5,tI 0,tI 0,.str (ByteArray.mk #[104,101,108,108,111]),tI 10,tI 1,tI 1,.sl 2 [],tI 12,tI 1,.sl 9 [[tI 1,tI 1,tI 0,tI 1,tI 0,tI 5,.bool true,.str (ByteArray.mk #[104,101,108,108,111]),.sl 2 []]],tI 0])
theorem k141:EOk C0.P d141:=AH AT AK (l:=[d61,d116,d128,d140]) ⟨k61,⟨k116,⟨k128,⟨k140,trivial⟩⟩⟩⟩ (n:=5000) (by kernel_rfl)
def d142:Ent:=(175,[tI 5],[.bool true])
theorem Th:EOk C0.P d142:=AH AT AK (l:=[]) trivial (n:=5000) (by kernel_rfl)
def d143:Ent:=(129,[tI 5],[tI 5,.sl 10 [],tI 0,tI 0,tI 0])
theorem k143:EOk C0.P d143:=AH AT AK (l:=[d142]) ⟨Th,trivial⟩ (n:=5000) (by kernel_rfl)
def d144:Ent:=(130,[tI 0],[tI 0,tI (-1),.sl 2 [],.str (ByteArray.mk #[]),tI 0])
theorem k144:EOk C0.P d144:=AH AT AK (l:=[]) trivial (n:=5000) (by kernel_rfl)
def d145:Ent:=(257,[tI 5,.sl 10 [],tI 0,tI 0],[tI 0])
theorem k145:EOk C0.P d145:=AH AT AK (l:=[d142]) ⟨Th,trivial⟩ (n:=5000) (by kernel_rfl)
def d146:Ent:=(218,[tI 5,.sl 10 [],tI 0,tI 0],[tI 0,.bool false])
theorem k146:EOk C0.P d146:=AH AT AK (l:=[d145]) ⟨k145,trivial⟩ (n:=5000) (by kernel_rfl)
def d147:Ent:=(295,[.sl 2 [],tI 1],[.bool false])
theorem k147:EOk C0.P d147:=AH AT AK (l:=[d115]) ⟨P5,trivial⟩ (n:=5000) (by kernel_rfl)
def d148:Ent:=(1000291,[.sl 10 []],[.sl 10 []])
theorem k148:EOk C0.P d148:=AH AT AK (l:=[]) trivial (n:=5000) (by kernel_rfl)
def d149:Ent:=(55,[.sl 1 [[tI 5]],tI 5],[tI 0])
theorem k149:EOk C0.P d149:=AH AT AK (l:=[]) trivial (n:=5000) (by kernel_rfl)
def d150:Ent:=(22,[.sl 1 [[tI 5]],tI 5],[.bool true])
theorem k150:EOk C0.P d150:=AH AT AK (l:=[d149]) ⟨k149,trivial⟩ (n:=5000) (by kernel_rfl)
def d151:Ent:=(276,[tI 5,.sl 10 [],tI 0,tI 0,tI 1,tI 1,tI 0,tI 1,tI 0,tI 5,.bool true,.str (ByteArray.mk #[104,101,108,108,111]),.sl 2 [],.sl 1 [[tI 5]]],[tI 5,.sl 10 [[tI 6,tI 0,tI 1,tI 0,tI 1,tI 0,tI 5,.bool true,.str (ByteArray.mk #[104,101,108,108,111]),.sl 2 []]],tI 1,tI 0,tI 0])
theorem k151:EOk C0.P d151:=AH AT AK (l:=[d145,d148,d150]) ⟨k145,⟨k148,⟨k150,trivial⟩⟩⟩ (n:=5000) (by kernel_rfl)
def d152:Ent:=(257,[tI 5,.sl 10 [[tI 6,tI 0,tI 1,tI 0,tI 1,tI 0,tI 5,.bool true,.str (ByteArray.mk #[104,101,108,108,111]),.sl 2 []]],tI 1,tI 0],[tI 0])
theorem k152:EOk C0.P d152:=AH AT AK (l:=[d142]) ⟨Th,trivial⟩ (n:=5000) (by kernel_rfl)
def d153:Ent:=(218,[tI 5,.sl 10 [[tI 6,tI 0,tI 1,tI 0,tI 1,tI 0,tI 5,.bool true,.str (ByteArray.mk #[104,101,108,108,111]),.sl 2 []]],tI 1,tI 0],[tI 6,.bool true])
theorem k153:EOk C0.P d153:=AH AT AK (l:=[d152]) ⟨k152,trivial⟩ (n:=5000) (by kernel_rfl)
def d154:Ent:=(278,[tI 5,.sl 10 [[tI 6,tI 0,tI 1,tI 0,tI 1,tI 0,tI 5,.bool true,.str (ByteArray.mk #[104,101,108,108,111]),.sl 2 []]],tI 1,tI 0],[tI 5,.sl 10 [],tI 1,tI 0,tI 6,tI 0,tI 1,tI 0,tI 1,tI 0,tI 5,.bool true,.str (ByteArray.mk #[104,101,108,108,111]),.sl 2 [],tI 0])
theorem k154:EOk C0.P d154:=AH AT AK (l:=[d152,d148]) ⟨k152,⟨k148,trivial⟩⟩ (n:=5000) (by kernel_rfl)
def d155:Ent:=(298,[.str (ByteArray.mk #[]),.str (ByteArray.mk #[0])],[.str (ByteArray.mk #[])])
theorem k155:EOk C0.P d155:=AH AT AK (l:=[]) trivial (n:=5000) (by kernel_rfl)
def d156:Ent:=(279,[tI 0,tI (-1),.sl 2 [],.str (ByteArray.mk #[])],[tI 0])
theorem k156:EOk C0.P d156:=AH AT AK (l:=[d115,d155]) ⟨P5,⟨k155,trivial⟩⟩ (n:=5000) (by kernel_rfl)
def d157:Ent:=(330,[.bool false,.bool true],[.bool true])
theorem k157:EOk C0.P d157:=AH AT AK (l:=[]) trivial (n:=5000) (by kernel_rfl)
def d158:Ent:=(330,[.bool false,.bool false],[.bool false])
theorem k158:EOk C0.P d158:=AH AT AK (l:=[]) trivial (n:=5000) (by kernel_rfl)
def d159:Ent:=(303,[.sl 2 [],.sl 2 [[tI 0,tI 5]]],[.sl 2 [[tI 0,tI 5]],tI 0])
theorem k159:EOk C0.P d159:=AH AT AK (l:=[d115,d119,d157,d158]) ⟨P5,⟨k119,⟨k157,⟨k158,trivial⟩⟩⟩⟩ (n:=5000) (by kernel_rfl)
def d160:Ent:=(281,[tI 0,tI (-1),.sl 2 [],.str (ByteArray.mk #[]),tI 1,tI 0,tI 1,tI 0,tI 5,.bool true,.str (ByteArray.mk #[104,101,108,108,111]),.sl 2 []],[.sl 2 [[tI 0,tI 5]],tI 0])
theorem k160:EOk C0.P d160:=AH AT AK (l:=[d159]) ⟨k159,trivial⟩ (n:=5000) (by kernel_rfl)
def d161:Ent:=(280,[tI 0,tI (-1),.sl 2 [],.str (ByteArray.mk #[]),tI 1,tI 0,tI 1,tI 0,tI 5,.bool true,.str (ByteArray.mk #[104,101,108,108,111]),.sl 2 []],[.bool true])
theorem k161:EOk C0.P d161:=AH AT AK (l:=[d160]) ⟨k160,trivial⟩ (n:=5000) (by kernel_rfl)
def d162:Ent:=(283,[.sl 2 [[tI 0,tI 5]]],[.sl 2 [[tI 0,tI 5]]])
theorem k162:EOk C0.P d162:=AH AT AK (l:=[]) trivial (n:=5000) (by kernel_rfl)
def d163:Ent:=(252,[tI 2,tI 1,tI 3],[.bool true])
theorem k163:EOk C0.P d163:=AH AT AK (l:=[]) trivial (n:=5000) (by kernel_rfl)
def d164:Ent:=(310,[tI 2,tI 0,tI 1,tI 0,tI 5,.bool false,.str (ByteArray.mk #[]),.sl 2 [[tI 0,tI 5]]],[.bool true])
theorem k164:EOk C0.P d164:=AH AT AK (l:=[d131]) ⟨k131,trivial⟩ (n:=5000) (by kernel_rfl)
def d165:Ent:=(311,[tI 2,tI 0,tI 1,tI 0,tI 5,.bool false,.str (ByteArray.mk #[]),.sl 2 [[tI 0,tI 5]]],[.bool true])
theorem k165:EOk C0.P d165:=AH AT AK (l:=[d126]) ⟨k126,trivial⟩ (n:=5000) (by kernel_rfl)
def d166:Ent:=(272,[tI 2,tI 0,tI 1,tI 0,tI 5,.bool false,.str (ByteArray.mk #[]),.sl 2 [[tI 0,tI 5]]],[tI 0])
theorem k166:EOk C0.P d166:=AH AT AK (l:=[d163,d124,d130,d164,d165]) ⟨k163,⟨k124,⟨k130,⟨k164,⟨k165,trivial⟩⟩⟩⟩⟩ (n:=5000) (by kernel_rfl)
def d167:Ent:=(282,[tI 0,tI 1,tI 5,.sl 2 [[tI 0,tI 5]]],[tI 2,tI 0,tI 1,tI 0,tI 5,.bool false,.str (ByteArray.mk #[]),.sl 2 [[tI 0,tI 5]],tI 0])
theorem k167:EOk C0.P d167:=AH AT AK (l:=[d166]) ⟨k166,trivial⟩ (n:=5000) (by kernel_rfl)
def d168:Ent:=(260,[tI 0,tI (-1),.sl 2 [],.str (ByteArray.mk #[]),tI 1,tI 0,tI 1,tI 0,tI 5,.bool true,.str (ByteArray.mk #[104,101,108,108,111]),.sl 2 []],[tI 0,tI 5,.sl 2 [[tI 0,tI 5]],.str (ByteArray.mk #[104,101,108,108,111]),.sl 8 [[tI 2,tI 0,tI 1,tI 0,tI 5,.bool false,.str (ByteArray.mk #[]),.sl 2 [[tI 0,tI 5]]]],tI 0])
theorem k168:EOk C0.P d168:=AH AT AK (l:=[d156,d136,d161,d160,d162,d167]) ⟨k156,⟨k136,⟨k161,⟨k160,⟨k162,⟨k167,trivial⟩⟩⟩⟩⟩⟩ (n:=5000) (by kernel_rfl)
def d169:Ent:=(295,[.sl 2 [],tI 6],[.bool false])
theorem k169:EOk C0.P d169:=AH AT AK (l:=[d115]) ⟨P5,trivial⟩ (n:=5000) (by kernel_rfl)
def d170:Ent:=(276,[tI 5,.sl 10 [],tI 0,tI 0,tI 6,tI 2,tI 0,tI 1,tI 0,tI 5,.bool false,.str (ByteArray.mk #[]),.sl 2 [[tI 0,tI 5]],.sl 1 [[tI 5]]],[tI 5,.sl 10 [[tI 11,tI 0,tI 2,tI 0,tI 1,tI 0,tI 5,.bool false,.str (ByteArray.mk #[]),.sl 2 [[tI 0,tI 5]]]],tI 1,tI 0,tI 0])
theorem k170:EOk C0.P d170:=AH AT AK (l:=[d145,d148,d150]) ⟨k145,⟨k148,⟨k150,trivial⟩⟩⟩ (n:=5000) (by kernel_rfl)
def d171:Ent:=(279,[tI 0,tI 5,.sl 2 [[tI 0,tI 5]],.str (ByteArray.mk #[104,101,108,108,111])],[tI 0])
theorem k171:EOk C0.P d171:=AH AT AK (l:=[d119,d155]) ⟨k119,⟨k155,trivial⟩⟩ (n:=5000) (by kernel_rfl)
def d172:Ent:=(261,[tI 0,tI 5,.sl 2 [[tI 0,tI 5]],.str (ByteArray.mk #[104,101,108,108,111])],[.bool true])
theorem k172:EOk C0.P d172:=AH AT AK (l:=[d171]) ⟨k171,trivial⟩ (n:=5000) (by kernel_rfl)
def d173:Ent:=(257,[tI 5,.sl 10 [],tI 1,tI 0],[tI 0])
theorem k173:EOk C0.P d173:=AH AT AK (l:=[d142]) ⟨Th,trivial⟩ (n:=5000) (by kernel_rfl)
def d174:Ent:=(218,[tI 5,.sl 10 [],tI 1,tI 0],[tI 0,.bool false])
theorem k174:EOk C0.P d174:=AH AT AK (l:=[d173]) ⟨k173,trivial⟩ (n:=5000) (by kernel_rfl)
def d175:Ent:=(257,[tI 5,.sl 10 [[tI 11,tI 0,tI 2,tI 0,tI 1,tI 0,tI 5,.bool false,.str (ByteArray.mk #[]),.sl 2 [[tI 0,tI 5]]]],tI 1,tI 0],[tI 0])
theorem k175:EOk C0.P d175:=AH AT AK (l:=[d142]) ⟨Th,trivial⟩ (n:=5000) (by kernel_rfl)
def d176:Ent:=(218,[tI 5,.sl 10 [[tI 11,tI 0,tI 2,tI 0,tI 1,tI 0,tI 5,.bool false,.str (ByteArray.mk #[]),.sl 2 [[tI 0,tI 5]]]],tI 1,tI 0],[tI 11,.bool true])
theorem k176:EOk C0.P d176:=AH AT AK (l:=[d175]) ⟨k175,trivial⟩ (n:=5000) (by kernel_rfl)
def d177:Ent:=(278,[tI 5,.sl 10 [[tI 11,tI 0,tI 2,tI 0,tI 1,tI 0,tI 5,.bool false,.str (ByteArray.mk #[]),.sl 2 [[tI 0,tI 5]]]],tI 1,tI 0],[tI 5,.sl 10 [],tI 1,tI 0,tI 11,tI 0,tI 2,tI 0,tI 1,tI 0,tI 5,.bool false,.str (ByteArray.mk #[]),.sl 2 [[tI 0,tI 5]],tI 0])
theorem k177:EOk C0.P d177:=AH AT AK (l:=[d175,d148]) ⟨k175,⟨k148,trivial⟩⟩ (n:=5000) (by kernel_rfl)
def d178:Ent:=(172,[tI 5,tI 1,tI 65536],[.bool true])
theorem k178:EOk C0.P d178:=AH AT AK (l:=[]) trivial (n:=5000) (by kernel_rfl)
def d179:Ent:=(172,[tI 1,tI 0,tI 10],[.bool true])
theorem k179:EOk C0.P d179:=AH AT AK (l:=[]) trivial (n:=5000) (by kernel_rfl)
def d180:Ent:=(172,[tI 1,tI 1,tI 1099511627776],[.bool true])
theorem k180:EOk C0.P d180:=AH AT AK (l:=[]) trivial (n:=5000) (by kernel_rfl)
def d181:Ent:=(304,[tI 0,tI 1,tI 0,tI 10,tI 24,tI 5,tI 0,tI 0,.str (ByteArray.mk #[104,101,108,108,111]),tI 10,tI 1,tI 1,.sl 2 [],tI 12,tI 1],[tI 0])
theorem k181:EOk C0.P d181:=AH AT AK (l:=[d61,d116,d178,d179,d180,d115]) ⟨k61,⟨k116,⟨k178,⟨k179,⟨k180,⟨P5,trivial⟩⟩⟩⟩⟩⟩ (n:=5000) (by kernel_rfl)
def d182:Ent:=(331,[.sl 2 [],.sl 2 [[tI 0,tI 5]]],[.bool false])
theorem k182:EOk C0.P d182:=AH AT AK (l:=[]) trivial (n:=5000) (by kernel_rfl)
def d183:Ent:=(305,[tI 0,tI 1,tI 0,tI 10,tI 24,tI 5,tI 0,tI 0,.str (ByteArray.mk #[104,101,108,108,111]),tI 10,tI 1,tI 1,.sl 2 [],tI 12,tI 1],[.bool false])
theorem k183:EOk C0.P d183:=AH AT AK (l:=[d117,d182]) ⟨k117,⟨k182,trivial⟩⟩ (n:=5000) (by kernel_rfl)
def d184:Ent:=(213,[tI 0,tI 1,tI 0,tI 10,tI 24,tI 5,tI 0,tI 0,.str (ByteArray.mk #[104,101,108,108,111]),tI 10,tI 1,tI 1,.sl 2 [],tI 12,tI 1],[tI 12])
theorem k184:EOk C0.P d184:=AH AT AK (l:=[]) trivial (n:=5000) (by kernel_rfl)
def d185:Ent:=(284,[tI 0,tI 1,tI 0,tI 10,tI 24,tI 5,tI 0,tI 0,.str (ByteArray.mk #[104,101,108,108,111]),tI 10,tI 1,tI 1,.sl 2 [],tI 12,tI 1],[tI 0])
theorem k185:EOk C0.P d185:=AH AT AK (l:=[d181,d183,d184]) ⟨k181,⟨k183,⟨k184,trivial⟩⟩⟩ (n:=5000) (by kernel_rfl)
def d186:Ent:=(172,[tI 11,tI 1,tI 2199023255552],[.bool true])
theorem k186:EOk C0.P d186:=AH AT AK (l:=[]) trivial (n:=5000) (by kernel_rfl)
def d187:Ent:=(331,[.sl 2 [[tI 0,tI 5]],.sl 2 [[tI 0,tI 5]]],[.bool true])
theorem k187:EOk C0.P d187:=AH AT AK (l:=[]) trivial (n:=5000) (by kernel_rfl)
def d188:Ent:=(305,[tI 0,tI 1,tI 0,tI 10,tI 24,tI 5,tI 0,tI 0,.str (ByteArray.mk #[104,101,108,108,111]),tI 10,tI 1,tI 1,.sl 2 [[tI 0,tI 5]],tI 12,tI 1],[.bool true])
theorem k188:EOk C0.P d188:=AH AT AK (l:=[d117,d187]) ⟨k117,⟨k187,trivial⟩⟩ (n:=5000) (by kernel_rfl)
def d189:Ent:=(306,[tI 0,tI 1,tI 0,tI 10,tI 24,tI 5,tI 0,tI 0,.str (ByteArray.mk #[104,101,108,108,111]),tI 10,tI 1,tI 1,.sl 2 [],tI 12,tI 1,tI 11,tI 2,tI 0,tI 1,tI 0,tI 5,.bool false,.str (ByteArray.mk #[]),.sl 2 [[tI 0,tI 5]]],[tI 0,tI 1,tI 0,tI 10,tI 24,tI 5,tI 0,tI 0,.str (ByteArray.mk #[104,101,108,108,111]),tI 10,tI 1,tI 1,.sl 2 [[tI 0,tI 5]],tI 0,tI 2,.sl 9 []])
theorem k189:EOk C0.P d189:=AH AT AK (l:=[d159,d188]) ⟨k159,⟨k188,trivial⟩⟩ (n:=5000) (by kernel_rfl)
def d190:Ent:=(262,[tI 0,tI 1,tI 0,tI 10,tI 24,tI 5,tI 0,tI 0,.str (ByteArray.mk #[104,101,108,108,111]),tI 10,tI 1,tI 1,.sl 2 [],tI 12,tI 1,tI 11,tI 2,tI 0,tI 1,tI 0,tI 5,.bool false,.str (ByteArray.mk #[]),.sl 2 [[tI 0,tI 5]]],[tI 0,tI 1,tI 0,tI 10,tI 24,tI 5,tI 0,tI 0,.str (ByteArray.mk #[104,101,108,108,111]),tI 10,tI 1,tI 1,.sl 2 [[tI 0,tI 5]],tI 0,tI 2,.sl 9 [],tI 0])
theorem k190:EOk C0.P d190:=AH AT AK (l:=[d185,d166,d186,d189]) ⟨k185,⟨k166,⟨k186,⟨k189,trivial⟩⟩⟩⟩ (n:=5000) (by kernel_rfl)
end Ab
