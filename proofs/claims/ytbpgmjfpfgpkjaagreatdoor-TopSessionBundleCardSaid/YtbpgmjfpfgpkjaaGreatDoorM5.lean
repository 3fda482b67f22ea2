/- A part of the proof: see the last text. -/
import Derived.Test.YtbpgmjfpfgpkjaaGreatDoorM4
set_option linter.unusedVariables false
open Bool (false_eq_true)
open ByteArray renaming size_extract → vJ
open Classical (not_forall)
open Int (natCast_add natCast_nonneg tdiv toNat_natCast)
open Int renaming emod_nonneg → vK, lt_irrefl → wP, mul_nonneg → vM, natCast_zero → vN, tmod → wS, toNat → wT
open List (drop drop_succ_cons drop_zero getD_eq_getElem?_getD getElem?_drop getElem?_eq_none getElem?_map getElem?_take length map_congr_left map_drop map_map map_nil map_take replicate take)
open List renaming append_nil → yW, cons_append → yY, cons_ne_nil → vO, countP_cons → vP, dropLast_concat_getLast → wU, eq_nil_of_length_eq_zero → zI, foldl_cons → vQ, getElem?_cons_zero → xC, getElem?_eq_getElem → zO, getLast?_concat → wX, getLast?_map → vR, head?_cons → vT, length_append → xE, length_cons → xF, length_eq_zero_iff → wY, length_map → xH, length_nil → zV, map_cons → xJ, mem_append → xK, mem_cons → xL, mem_cons_of_mem → xM, mem_cons_self → vC, mem_flatMap → vU, mem_map → wJ, mem_map_of_mem → vV, mem_of_getElem? → xN, mem_singleton → xQ, nil_append → xR, pairwise_append → wL, pairwise_cons → wM, take_of_length_le → vD
open Nat (add_assoc add_mul add_zero lt_or_ge reduceEqDiff sub_zero)
open Nat renaming le_refl → yE, reduceAdd → vE, zero_add → yN
open Option (bind_none map_none)
open Option renaming map_some → yP
namespace Ab
open Go
theorem s251 (es:List (List Tree)) (hl:es.length≤1073741824):AL C 251 [.sl 2 es] [.sl 2 es]:=by
 refine AL.of (fun n=>e251 n _) (Ev.of fun n => ?_);by_cases h:es.length=0
 ·have:es=[]:=zI h;subst this;simp [AB,AT]
 ·rw [A9 h,A9 hl,vD (yE _)]
def EZ (k:Nat):List UInt8:=replicate k 0
def EI (r:Rcv) (x:Seg):List UInt8:=Mf (Mf (EZ x.tot.toNat) 0 (bl r.data)) x.off.toNat (bl x.data)
def CI (r:Rcv) (x:Seg):Seg:=⟨2,r.ses,x.ser,0,x.tot,false,ByteArray.mk #[],DW r.known [sp x]⟩
def C6 (r:Rcv) (x:Seg):Rcv:=⟨r.ses,x.tot,DW r.known [sp x],mkB (EI r x)⟩
def zeroR:Rcv:=⟨0,0,[],ByteArray.mk #[]⟩
def Fp (r:Rcv) (x:Seg):Rcv×List Seg×Int:=
 if ¬(E6 r=0∧DA x=0) then (zeroR,[],1) else if Es r x=false then (r,[],0) else (C6 r x,if x.chk=true then [CI r x] else [],0)
def hearT (q:Rcv×List Seg×Int):List Tree:=[tI q.1.ses,tI q.1.tot,.sl 2 (q.1.known.map Span.enc),.str q.1.data,.sl 8 (q.2.1.map Seg.enc),tI q.2.2]
theorem Hj {a b:List Span} (h:Ew a b=0):BU a=0∧BU b=0∧DW a b=uni a b∧BU (DW a b)=0∧∀t,AU t (DW a b)↔AU t a∨AU t b:=by
 unfold Ew at h;split at h
 ·rename_i hc;split at h
  ·omega
  ·rename_i hl;obtain ⟨h1,h2⟩:=J6 ((Ax _).1 hc.1).2.1 ((Ax _).1 hc.2).2.1;have e:DW a b=uni a b:=by unfold DW;rw [if_pos hc,if_neg hl]
   refine ⟨hc.1,hc.2,e,?_,by rw [e];exact h2⟩;rw [e,Ax];refine ⟨by omega,h1,mem_top h1 fun t m => ?_⟩;rcases (h2 t).1 m with m|m
   ·exact Qj ((Ax _).1 hc.1).2.2 ((Ax _).1 hc.1).2.1 m
   ·exact Qj ((Ax _).1 hc.2).2.2 ((Ax _).1 hc.2).2.1 m
 ·omega
theorem Du {r:Rcv} {x:Seg}:Es r x=true↔x.kind=1∧x.ses=r.ses∧(r.tot = -1∨x.tot=r.tot)∧agree r x∧Ew r.known [sp x]=0:=by unfold Es;rw [decide_eq_true_eq]
theorem MK {r:Rcv} {x:Seg} (hr:E6 r=0) (hx:DA x=0) (hs:Es r x=true):B8 (DW r.known [sp x]) x.tot∧DW r.known [sp x]≠[]:=by
 obtain ⟨h1,h2,h3,h4,h5⟩:=Du.1 hs;obtain ⟨g1,g2,g3,g4,g5,g6,g7⟩:=Ed hx h1;obtain ⟨c1,c2,c3,c4⟩:=DU hr;obtain ⟨u1,u2,u3,u4,u5⟩:=Hj h5;have hW:=Na hr;have hm:AU x.off (DW r.known [sp x]):=(u5 _).2 (.inr (.inl ⟨Int.le_refl _,by show x.off<x.off+x.data.size;omega⟩));refine ⟨G5 ((Ax _).1 u4).2.1 fun t m => ?_,fun e=>by rw [e] at hm;exact hm⟩;rcases (u5 t).1 m with m|m
 ·have:=Gw hW m;have h0:r.tot ≠ -1:=fun h0=>by have:=c2.2.1.2 h0;rw [this] at m;exact m
  have:x.tot=r.tot:=by rcases h3 with h|h;exact (h0 h).elim;exact h
  have:(r.data.size:Int)=r.tot:=by rw [c3];unfold KE;rw [if_neg];rcases c1.2 with h|h<;>omega
  omega
 ·rcases m with m|m
  ·have m1:x.off≤t:=m.1;have m2:t<x.off+x.data.size:=m.2;omega
  ·exact m.elim
theorem TF {r:Rcv} {x:Seg} (hr:E6 r=0) (hx:DA x=0) (hs:Es r x=true) (hc:x.chk=true):DA (CI r x)=0:=by
 obtain ⟨h1,h2,h3,h4,h5⟩:=Du.1 hs;obtain ⟨g1,g2,g3,g4,g5,g6,g7,g8,g9⟩:=Ed hx h1;obtain ⟨c1,c2,c3,c4⟩:=DU hr;obtain ⟨u1,u2,u3,u4,u5⟩:=Hj h5;have hn:CW (CI r x):=by unfold CW CI;simp only;have:=c1.1;have:=g8 hc;grind
 have hk:DD (CI r x):=by
  have:inside (DW r.known [sp x]) x.tot=true:=by unfold inside;rw [decide_eq_true_eq];exact ⟨u4,(CP u4).2 (MK hr hx hs).1⟩
  unfold DD CI;simp only [this];simp;rfl
 unfold DA;rw [if_neg (not_not_intro (by simp [CI])),if_neg (not_not_intro hn),if_neg (not_not_intro hk)]
theorem size_le {r:Rcv} {x:Seg} (hr:E6 r=0) (hx:DA x=0) (hs:Es r x=true):r.data.size≤x.tot.toNat∧(r.data.size=0∨r.data.size=x.tot.toNat):=by
 obtain ⟨h1,h2,h3,h4,h5⟩:=Du.1 hs;obtain ⟨g1,g2,g3,g4,g5,g6,g7,g8⟩:=Ed hx h1;obtain ⟨c1,c2,c3,c4⟩:=DU hr;unfold KE at c3;rcases c1.2 with h|h
 ·rw [if_pos (by omega)] at c3;omega
 ·rw [if_neg (by omega)] at c3;have:x.tot=r.tot:=by rcases h3 with h|h<;>omega
  omega
theorem s210 (r:Rcv) (x:Seg):AL C 210 (r.enc++x.enc) (hearT (Fp r x)):=by
 refine AL.of (fun n=>e210 n _ _ _ _ _ _ _ _ _ _ _ _) ?_;simp only [join_eq];refine Ev.rw (s247 r) (fun n h=>by simp only [Rcv.enc] at h;simp only [h,vv,vf];rfl) ?_;unfold Fp;by_cases hr:E6 r=0
 ·simp only [hr,bne_self_eq_false,vv];refine Ev.rw (X7 x) (fun n h=>by simp only [Seg.enc] at h;simp only [h,vv];rfl) ?_;by_cases hx:DA x=0
  ·simp only [hx,bne_self_eq_false,Rm,vv,vf,vE,not_true_eq_false];refine Ev.rw (s248 r x hr hx) (fun n h=>by simp only [Rcv.enc,Seg.enc,yY,xR] at h;simp only [h,vv];rfl) ?_;by_cases hs:Es r x=true
   ·simp only [hs,vv,reduceCtorEq];obtain ⟨h1,h2,h3,h4,h5⟩:=Du.1 hs;obtain ⟨g1,g2,g3,g4,g5,g6,g7,g8⟩:=Ed hx h1;have hsz:=(size_le hr hx hs).1;refine Ev.rw (s249 r x hx) (fun n h=>by simp only [Rcv.enc,Seg.enc,yY,xR] at h;simp only [h,vv,vE];rfl) ?_;have hz:(EZ x.tot.toNat).length=x.tot.toNat:=by simp [EZ]
    have l1:(Mf (EZ x.tot.toNat) 0 (bl r.data)).length=x.tot.toNat:=by rw [Gd _ _ _ (by rw [Aj,hz];omega),hz]
    have l2:(EI r x).length=x.tot.toNat:=by unfold EI;rw [Gd _ _ _ (by rw [Aj,l1];omega),l1]
    have r1:take x.tot.toNat (AZ r.data)=(bl r.data).map tb:=by rw [Gb,vD (by rw [xH,Aj];exact hsz)]
    have r2:take (x.tot.toNat-x.off.toNat) (AZ x.data)=(bl x.data).map tb:=by rw [Gb,vD (by rw [xH,Aj];omega)]
    have r0:replicate x.tot.toNat ([Tree.int IntKind.u8 0]:List Tree)=(EZ x.tot.toNat).map tb:=YN _;have r3:BM (BM ((EZ x.tot.toNat).map tb) 0 ((bl r.data).map tb)) (0+x.off.toNat) ((bl x.data).map tb)=(EI r x).map tb:=by rw [Io,yN,Io];rfl
    have r4:take x.tot.toNat ((EI r x).map tb)=(EI r x).map tb:=by rw [vD (by rw [xH,l2];exact yE _)]
    have r5:(BM ((EZ x.tot.toNat).map tb) 0 ((bl r.data).map tb)).length=x.tot.toNat:=by rw [Io,xH,l1]
    simp only [yN] at r3;simp only [r0,r1,r2,r3,r4,G4,HD,vv];have k1:(0:Int)≤x.tot:=by omega
    have k2:x.tot≤1073741824:=by omega
    have k3:x.off≤(x.tot.toNat:Int):=by omega
    have k4:x.off.toNat<x.tot.toNat∨x.off.toNat=0 :=.inl (by omega);simp only [k1,k2,k3,g3,vv];by_cases hc:x.chk=true
    ·simp only [hc,vv];refine Ev.rw (s251 ((DW r.known [sp x]).map Span.enc) (by have:=B3 (Hj h5).2.2.2.1;rw [xH];omega)) (fun n h=>by simp only [h,vv];rfl) ?_;have hcl:=TF hr hx hs hc;refine (s250 r.ses x.ser x.tot (DW r.known [sp x])).mono fun n h => ?_;unfold CI at hcl;rw [if_pos hcl] at h;simp only [Seg.enc,yY,xR] at h;simp only [h,bne_self_eq_false,vv,vE];rfl
    ·have hc':x.chk=false:=by simpa using hc
     simp only [hc',vv];exact Ev.of fun n=>rfl
   ·have hs':Es r x=false:=by simpa using hs
    simp only [hs',vv];exact Ev.of fun n=>rfl
  ·have hb:(DA x != 0)=true:=by simpa using hx
   simp only [hb,hx,Rm,vv,vf,vE,not_false_eq_true];exact Ev.of fun n=>rfl
 ·have hb:(E6 r != 0)=true:=by simpa using hr
  simp only [hb,hr,Rm,vv,vf,vE,not_false_eq_true];exact Ev.of fun n=>rfl
end Ab
namespace Ab
open Go
def BQ (r:Rcv):Bool:=decide (E6 r=0∧r.known=[⟨0,r.tot⟩])
theorem YZ {l:List Span}:l.length=1↔∃x,l=[x]:=by
 constructor
 ·intro h
  match l,h with
  |[x],_=>exact ⟨x,rfl⟩
 ·rintro ⟨x,rfl⟩;rfl
theorem s211 (r:Rcv):AL C 211 r.enc [.bool (BQ r)]:=by
 refine AL.of (fun n=>e211 n _ _ _ _) ?_;refine (s247 r).mono fun n h => ?_;simp only [Rcv.enc] at h;simp only [h,vv,vf,vE];unfold BQ;by_cases hr:E6 r=0
 ·simp only [hr,beq_self_eq_true,vv];by_cases hl:r.known.length=1
  ·obtain ⟨x,hx⟩:=YZ.1 hl;simp only [hx,vv,xC,Span.enc];obtain ⟨a,b⟩:=x;simp only [AB,List.cons.injEq,and_true,Span.mk.injEq];by_cases h1:a=0<;>by_cases h2:b=r.tot<;>simp [h1,h2]
  ·have h1:((r.known.length:Int)==1)=false:=by simpa using fun h=>hl (by omega)
   have h2:¬r.known=[⟨0,r.tot⟩]:=fun h=>hl (by rw [h];rfl);simp only [h1,h2,vv]
 ·have h1:(E6 r==0)=false:=by simpa using hr
  simp only [h1,hr,vv]
def Ye (n:Int):Rcv×Int:=if 0≤n∧n≤1099511627776 then (⟨n,-1,[],ByteArray.mk #[]⟩,0) else (zeroR,2)
theorem s64 (n:Int):AL C 64 [tI n] ((Ye n).1.enc++[tI (Ye n).2]):=by
 refine AL.of (fun m=>e64 m _) (Ev.of fun m => ?_);unfold Ye;simp only [AB,decide_eq_true_eq];by_cases h1:n<0
 ·rw [if_pos h1,if_neg (by omega)];rfl
 ·by_cases h2:n>1099511627776
  ·rw [if_neg h1,if_pos h2,if_neg (by omega)];rfl
  ·rw [if_neg h1,if_neg h2,if_pos (by omega)];rfl
end Ab
namespace Ab
open Go
def DR (n:Int):List Tree:=[tI n]
theorem s147 (l:List Int) (e:Int) (hl:l.length≤1000000):AL C 147 [.sl 1 (l.map DR),tI e] [tI (idx (fun x=>decide (x=e)) l)]:=by
 refine AL.of (fun n=>e147 n _ _) ?_;refine A7 (fun r=>[tI r]) l (fun i _=>(([.t (tI i)],[]):List AV×Heap)) (fun i _ x=>if decide (x=e)=true then .done (i:Int) else .next ()) (fun _ => -1) (fun _ _=>True) () rfl trivial (W2 _ l)
  (fun i s x hx hI=>Ev.of fun n again => ?_) (fun _ _ _ _ _ _ _=>trivial) (fun s hI=>Ev.of fun n again => ?_)
 ·have hi:=AW hx;simp only [U4,vv,hx,DR,BE (show i<4611686018427387904 by omega),(show (i:Int)<l.length by omega)];simp only [AB];grind [Rd.Aw,Rd.Be]
 ·simp only [U4,vv,wP]
theorem s92 (l:List Int) (e:Int) (hl:l.length≤1000000):AL C 92 [.sl 1 (l.map DR),tI e] [.bool (decide (e∈l))]:=by refine AL.of (fun n=>e92 n _ _) ?_;refine (s147 l e hl).mono fun n h => ?_;simp only [h,vv,vf];congr 3;rw [Bool.eq_iff_iff];simp only [decide_eq_true_eq,UT];simp
theorem s110 (a:Int):AL C 110 [tI a] [.bool (decide (1≤a∧a≤1048576))]:=by refine AL.of (fun n=>e110 n _) (Ev.of fun n => ?_);simp only [JX,vv];congr 3;rw [Bool.eq_iff_iff];split<;>simp<;>omega
theorem s310 (a b:Int) (ha : -9223372036854775808≤a∧a≤9223372036854775807) (hb:1≤b∧b≤1048576):AL C 310 [tI a,tI b] [tI (a / b),tI (a % b)]:=by
 refine AL.of (fun n=>e310 n _ _) (Ev.of fun n => ?_);have hb0:¬b=0:=by omega
 have hb1:(0:Int)<b:=by omega
 have hq : -9223372036854775808≤a / b∧a / b≤9223372036854775807:=by
  constructor
  ·rw [Int.le_ediv_iff_mul_le hb1];have : -9223372036854775808*b≤ -9223372036854775808*1:=Int.mul_le_mul_of_nonpos_left (by omega) (by omega);omega
  ·have:a / b≤if 0≤a then a else 0:=by
    split
    ·exact Int.ediv_le_self b (by omega)
    ·have:=Int.ediv_lt_of_lt_mul hb1 (show a<0*b by omega);omega
   split at this<;>omega
 have hm:=vK a hb0;have hml:=Int.emod_lt_of_pos a hb1;have hdm:=Int.mul_ediv_add_emod a b;have ht:wS a b=if 0≤a∨a % b=0 then a % b else a % b-b:=by
  rw [Int.tmod_eq_emod];have:(↑b.natAbs:Int)=b:=by omega
  have hdv:b∣a↔a % b=0:=Int.dvd_iff_emod_eq_zero;simp only [hdv];split<;>omega
 have htd:tdiv a b=if 0≤a∨a % b=0 then a / b else a / b+1:=by rw [Int.tdiv_eq_ediv];have hdv:b∣a↔a % b=0:=Int.dvd_iff_emod_eq_zero;have hs:b.sign=1:=Int.sign_eq_one_of_pos hb1;simp only [hdv,hs];split<;>omega
 by_cases h:0≤a∨a % b=0
 ·simp only [ht,htd,h,if_true,vv,hb0,(show ¬a % b<0 by omega),AN (show -9223372036854775808≤a / b by omega) (by omega)]
 ·have hneg:a / b<0:=Int.ediv_lt_of_lt_mul hb1 (by omega);simp only [ht,htd,h,if_false,vv,hb0,(show a % b-b<0 by omega)];rw [AN (x:=a / b+1) (by omega) (by omega),AN (x:=a / b+1-1) (by omega) (by omega),AN (by omega) (by omega)];simp
def C2 (n r:Int):List Int:=if n % 8<4 then [r] else if n % 8<6 then [r,r+1+n / 8 % r] else if n % 8=6 then [r+1+n / 8 % r] else []
theorem s272 (n r:Int) (hn : -9223372036854775808≤n∧n≤9223372036854775807) (hr:1≤r∧r≤1048576):AL C 272 [tI n,tI r] [.sl 1 ((C2 n r).map DR),tI 0]:=by
 refine AL.of (fun n=>e272 n _ _) ?_;have hm:=vK (n / 8) (show r≠0 by omega);have hml:=Int.emod_lt_of_pos (n / 8) (show 0<r by omega);have h19:AL C 326 [tI r,tI (n / 8 % r)] [.sl 1 [[tI r]]]:=AL.of (fun n=>e326 n _ _) (Ev.of fun n=>rfl);have hw:w64 (w64 (r+1)+n / 8 % r)=r+1+n / 8 % r:=by rw [AN (x:=r+1) (by omega) (by omega),AN (by omega) (by omega)]
 have h20:AL C 327 [tI r,tI (n / 8 % r)] [.sl 1 [[tI r],[tI (r+1+n / 8 % r)]]]:=AL.of (fun n=>e327 n _ _) (Ev.of fun n=>by rw [hw]);have h21:AL C 328 [tI r,tI (n / 8 % r)] [.sl 1 [[tI (r+1+n / 8 % r)]]]:=AL.of (fun n=>e328 n _ _) (Ev.of fun n=>by rw [hw]);have h22:AL C 329 [tI r,tI (n / 8 % r)] [.sl 1 []]:=AL.of (fun n=>e329 n _ _) (Ev.of fun n=>rfl);refine ((s110 r).and ((s310 n 8 hn (by omega)).and ((s310 (n / 8) r (by omega) hr).and (h19.and (h20.and (h21.and h22)))))).mono fun m h => ?_;obtain ⟨k1,k2,k3,k4,k5,k6,k7⟩:=h;have h8:0≤n % 8∧n % 8<8:=by omega
 simp only [k1,k2,k3,k4,k5,k6,k7,vv,vf,vE,hr,h8,and_self];unfold C2;rcases (show n % 8=0∨n % 8=1∨n % 8=2∨n % 8=3∨n % 8=4∨n % 8=5∨n % 8=6∨n % 8=7 by omega) with e|e|e|e|e|e|e|e<;>simp [e,AB,DR]
end Ab
namespace Ab
open Go
structure Frame where
 arr:Int
 num:Int
 seg:Seg
 deriving DecidableEq
def Frame.enc (f:Frame):List Tree:=[tI f.arr,tI f.num,tI f.seg.kind,tI f.seg.ses,tI f.seg.ser,tI f.seg.off,tI f.seg.tot,.bool f.seg.chk,.str f.seg.data,.sl 2 (f.seg.claims.map Span.enc)]
structure Cm where
 rng:Int
 frames:List Frame
 sent:Int
 lost:Int
def Cm.enc (c:Cm):List Tree:=[tI c.rng,.sl 10 (c.frames.map Frame.enc),tI c.sent,tI c.lost]
structure Cw (c:Cm):Prop where
 rng:1≤c.rng∧c.rng≤1048576
 lost:0≤c.lost∧c.lost≤c.sent
 sent:c.sent≤1152921504606846976
 len:c.frames.length≤10000
 frm:∀f∈c.frames,0≤f.arr∧f.arr≤2199023255552∧0≤f.num∧f.num<c.sent
 srt:c.frames.Pairwise fun a b=>a.arr≤b.arr
theorem R7 (es:List (List Tree)) (hl:es.length≤1073741824):AL C 1000267 [.sl 10 es] [.sl 10 es]:=by
 refine AL.of (fun n=>Y5 n _) (Ev.of fun n => ?_);by_cases h:es.length=0
 ·have:es=[]:=zI h;subst this;simp [AB,AT]
 ·rw [A9 h,A9 hl,vD (yE _)]
theorem s207 (c:Cm) (hc:Cw c):AL C 207 c.enc [tI 0]:=by
 refine AL.of (fun n=>e207 n _ _ _ _) ?_;have h1:=hc.rng;have h2:=hc.lost;have h3:=hc.len;refine Ev.rw (T' := ?TT) (s110 c.rng) (fun n h => ?g1) ?g2
 case g1=>
  simp only [h,vv,vf,h1,and_self,(show ¬c.sent<0 by omega),(show ¬c.lost<0 by omega),(show ¬c.sent<c.lost by omega),(show ¬(10000:Int)<(c.frames.length:Int) by omega)];rfl
 case g2=>
  refine A7 (fun (r:Int)=>[tI r]) c.frames (fun i (_:Unit)=>(([.t (tI i)],[]):List AV×Heap)) (fun _ _ _ =>.next ()) (fun _=>0) (fun _ _=>True) () rfl trivial (C4 (fun _ _=>()) (fun _=>0) 0 _ ())
   (fun i s f hx hI=>Ev.of fun n again => ?_) (fun _ _ _ _ _ _ _=>trivial) (fun s hI=>Ev.of fun n again => ?_)
  ·have hi:=AW hx;have hf:=hc.frm f (xN hx);by_cases hi0:i=0
   ·subst hi0;simp only [Re,VD,vv,vf,vE,hx,Frame.enc,(show ((0:Nat):Int)<c.frames.length by omega),(show ¬f.arr<0 by omega),(show ¬(2199023255552:Int)<f.arr by omega),(show ¬f.num<0 by omega),(show ¬c.sent≤f.num by omega),(show ¬(0:Int)<((0:Nat):Int) by omega),BE (show 0<4611686018427387904 by omega),Rd.Aw]
   ·have hp:c.frames[i-1]? = some c.frames[i-1]:=zO (by omega);have hs:=List.pairwise_iff_getElem.1 hc.srt (i-1) i (by omega) hi (by omega);rw [zO hi] at hx;have hx2:=Option.some.inj hx;rw [hx2] at hs;rw [← zO hi] at hx;simp only [Re,VD,vv,vf,vE,hx,hp,Frame.enc,(show (i:Int)<c.frames.length by omega),(show ¬f.arr<0 by omega),(show ¬(2199023255552:Int)<f.arr by omega),(show ¬f.num<0 by omega),(show ¬c.sent≤f.num by omega),(show (0:Int)<(i:Int) by omega),BE (show i<4611686018427387904 by omega),Mz (show i<4611686018427387904 by omega) (by omega),(show ¬f.arr<(c.frames[i-1]).arr by omega),Rd.Aw]
  ·simp only [Re,vv,vf,vE,wP]
theorem s63 (r:Int) (hr:1≤r∧r≤1048576):AL C 63 [tI r] [tI r,.sl 10 [],tI 0,tI 0,tI 0]:=by refine AL.of (fun n=>e63 n _) ?_;refine (s110 r).mono fun n h => ?_;simp only [h,vv,vf,hr,and_self]
theorem s246 (c:Cm) (hc:Cw c) (f:Frame) (rest:List Frame) (hf:c.frames=f::rest) :
  AL C 246 c.enc [tI c.rng,.sl 10 (rest.map Frame.enc),tI c.sent,tI c.lost,tI f.arr,tI f.num,tI f.seg.kind,tI f.seg.ses,tI f.seg.ser,tI f.seg.off,tI f.seg.tot,.bool f.seg.chk,.str f.seg.data,.sl 2 (f.seg.claims.map Span.enc),tI 0]:=by
 refine AL.of (fun n=>e246 n _ _ _ _) ?_;have hlen:=hc.len;rw [hf] at hlen;simp only [xF] at hlen;refine ((s207 c hc).and (R7 (rest.map Frame.enc) (by simp;omega))).mono fun n h => ?_;obtain ⟨h1,h2⟩:=h;have e1:take rest.length (List.map Frame.enc rest)=List.map Frame.enc rest:=vD (by simp);simp only [Cm.enc,hf,xJ,Frame.enc] at h1;simp only [hf,xJ,Frame.enc,h1,vv,vf,vE,bne_self_eq_false,(show (((rest.length+1:Nat):Int)==0)=false by simp;omega),xC,(show (0:Int)≤1 by omega),(show (1:Int)≤((rest.length+1:Nat):Int) by omega),List.take_succ_cons,drop_succ_cons,e1,h2]
def Le (at_ num:Int) (ser:Seg) (fs:List Frame) (d:Int):List Frame:=Ji (fun x=>decide (x.arr>at_+d)) ⟨at_+d,num,ser⟩ fs
def Mh (at_ num:Int) (ser:Seg) (ds:List Int) (fs:List Frame):List Frame:=ds.foldl (Le at_ num ser) fs
def Lb (c:Cm) (ds:List Int):Int:=if c.rng∈ds then 0 else 1
def CX (c:Cm) (at_:Int) (ser:Seg) (ds:List Int):Cm:=⟨c.rng,Mh at_ c.sent ser ds c.frames,c.sent+1,c.lost+Lb c ds⟩
theorem N3 (at_ num:Int) (ser:Seg) (fs:List Frame) (d:Int):(Le at_ num ser fs d).length=fs.length+1:=Ss _ _ _
theorem Sr {at_ num:Int} {ser:Seg} {fs:List Frame} {d:Int} (h:fs.Pairwise fun a b=>a.arr≤b.arr):(Le at_ num ser fs d).Pairwise fun a b=>a.arr≤b.arr:=by
 unfold Le;refine JP h (fun x _ hg => ?_) (fun x _ hg => ?_) (fun x _ y _ hr hg => ?_)
 ·simp only [decide_eq_true_eq] at hg;simp only;omega
 ·simp only [decide_eq_false_iff_not] at hg;simp only;omega
 ·simp only [decide_eq_true_eq] at *;omega
theorem S3 {fs:List Frame} (t:Int) (h:fs.Pairwise fun a b=>a.arr≤b.arr):Down (fun x:Frame=>decide (x.arr≤t)) fs:=by
 intro i j x y hij hx hy hlt;rcases lt_or_ge i j with hl|hl
 ·have h1:=AW hx;have h2:=AW hy;have:=List.pairwise_iff_getElem.1 h i j h1 h2 hl;rw [zO h1] at hx;rw [zO h2] at hy;cases hx;cases hy;simp only [decide_eq_true_eq] at *;omega
 ·obtain rfl:i=j:=by omega
  rw [hx] at hy;cases hy;exact hlt
theorem s244 (c:Cm) (hc:Cw c) (at_:Int) (ser:Seg) (ha:0≤at_∧at_≤1099511627776) (ds:List Int) (hd:∀d∈ds,c.rng≤d∧d≤2*c.rng) (hl:c.frames.length+ds.length≤10000) :
  AL C 244 (c.enc++[tI at_,tI ser.kind,tI ser.ses,tI ser.ser,tI ser.off,tI ser.tot,.bool ser.chk,.str ser.data,.sl 2 (ser.claims.map Span.enc),.sl 1 (ds.map DR)]) ((CX c at_ ser ds).enc++[tI 0]):=by
 refine AL.of (fun n=>e244 n _ _ _ _ _ _ _ _ _ _ _ _ _ _) ?_;have h1:=hc.rng;have hsent:=hc.sent;have hlost:=hc.lost;have hw2:w64 (2*c.rng)=2*c.rng:=AN (by omega) (by omega);refine Ev.rw (T' := ?TT) (s207 c hc) (fun n h => ?g1) ?g2
 case g1=>
  simp only [Cm.enc] at h;simp only [h,vv,vf,bne_self_eq_false,(show ¬at_<0 by omega),(show ¬(1099511627776:Int)<at_ by omega)];rfl
 case g2=>
  refine A7 (fun (r:List Tree)=>r) ds (fun i (_:Unit)=>(([.t (tI i)],[.box [.t (tI c.rng),.t (.sl 10 (c.frames.map Frame.enc)),.t (tI c.sent),.t (tI c.lost)],.row false 0 10 [],.box [.t (tI 0),.sref 1 0 0 0,.t (tI 0),.t (tI 0)]]):List AV×Heap)) (fun _ _ _ =>.next ()) (fun _=>(CX c at_ ser ds).enc++[tI 0]) (fun _ _=>True) () rfl trivial (C4 (fun _ _=>()) (fun _=>(CX c at_ ser ds).enc++[tI 0]) 0 ds ())
   (fun i s d hx hI=>Ev.of fun n again => ?_) (fun _ _ _ _ _ _ _=>trivial) (fun s hI => ?_)
  ·have hi:=AW hx;have hdd:=hd d (xN hx);simp only [U3,Zv,Ri,vv,vf,vE,hx,DR,(show (i:Int)<ds.length by omega),(show ¬d<c.rng by omega),hw2,(show ¬2*c.rng<d by omega),BE (show i<4611686018427387904 by omega),Rd.Aw]
  ·have hwl:w64 ((c.frames.length:Int)+(ds.length:Int))=((c.frames.length+ds.length:Nat):Int):=by rw [AN (by omega) (by omega)];omega
   simp only [U3,Zu,Ri,WS,vv,vf,reduceCtorEq,vE,wP,(show ¬(0:Int)≤ -1 by omega),hwl,(show ¬(10000:Int)<((c.frames.length+ds.length:Nat):Int) by omega)];refine W4 (Ev.rw (T' := ?TT2) (R7 (c.frames.map Frame.enc) (by simp;omega)) (fun n h => ?g3) ?g4)
   case g3=>
    simp only [h,vv];rfl
   case g4=>
    refine A7 (fun (fs:List Frame)=>(⟨c.rng,fs,c.sent+1,c.lost+Lb c ds⟩:Cm).enc++[tI 0]) ds (fun i (s:Nat×List Frame)=>(([.t (tI i)],[.box [.t (tI c.rng),.t (.sl 10 (c.frames.map Frame.enc)),.t (tI c.sent),.t (tI c.lost)],.row false 0 10 [],.box [.t (tI 0),.sref 1 0 0 0,.t (tI 0),.t (tI 0)],.row false s.1 10 (s.2.map Frame.enc),.row false 0 10 [],.box [.sref 3 s.1 0 s.2.length]]):List AV×Heap))
     (fun _ s d =>.next (s.1+1,Le at_ c.sent ser s.2 d)) (fun s=>s.2) (fun i s=>s.2.Pairwise (fun a b=>a.arr≤b.arr)∧s.2.length=c.frames.length+i) (0,c.frames) (by simp) ⟨hc.srt,by simp⟩ ?_
     (fun i s d hx hI => ?_) (fun i s d s' hx hI hs' => ?_) (fun s hI => ?_)
    ·rw [C4];have:∀(ds:List Int) (s:Nat×List Frame),(ds.foldl (fun (s:Nat×List Frame) d=>(s.1+1,Le at_ c.sent ser s.2 d)) s).2=Mh at_ c.sent ser ds s.2:=by
      intro ds
      induction ds with
      |nil=>intro s;rfl
      |cons d ds ih=>intro s;exact ih _
     exact this ds (0,c.frames)
    ·have hi:=AW hx;have hdd:=hd d (xN hx);obtain ⟨v,fs⟩:=s;obtain ⟨hsr,hfl⟩:=hI;simp only at hsr hfl;have hwd:w64 (at_+d)=at_+d:=AN (by omega) (by omega);have hins:Le at_ c.sent ser fs d=fs.take (fs.countP fun x=>decide (x.arr≤at_+d))++⟨at_+d,c.sent,ser⟩::fs.drop (fs.countP fun x=>decide (x.arr≤at_+d)):=by
      unfold Le;rw [Vp];obtain ⟨h1,h2⟩:=MV (S3 (at_+d) hsr);rw [h1,h2];have hf:(fun x:Frame => !decide (x.arr>at_+d))=fun x=>decide (x.arr≤at_+d):=by funext x;rw [Bool.eq_iff_iff];simp
      rw [hf]
     have key:=ZK (R:=List Tree) (Z:=List AV×Heap→Option (List Tree))
      (B:=fun n z p again=>Rc n at_ [tI d] (fun p32=>VC n z (([.t (tI i)],[.box [.t (tI c.rng),.t (.sl 10 (c.frames.map Frame.enc)),.t (tI c.sent),.t (tI c.lost)],.row false 0 10 [],.box [.t (tI 0),.sref 1 0 0 0,.t (tI 0),.t (tI 0)],.row false v 10 (fs.map Frame.enc),.row false 0 10 [],.box [.sref 3 v 0 fs.length]]):List AV×Heap) at_ [tI d] ser.kind ser.ses ser.ser ser.off ser.tot ser.chk ser.data (ser.claims.map Span.enc) p32) p again)
      (fun z (k:Nat)=>z ([.t (tI ((i+1:Nat):Int))],[.box [.t (tI c.rng),.t (.sl 10 (c.frames.map Frame.enc)),.t (tI c.sent),.t (tI c.lost)],.row false 0 10 [],.box [.t (tI 0),.sref 1 0 0 0,.t (tI 0),.t (tI 0)],.row false (v+1) 10 (((fs.map Frame.enc).take k++[(⟨at_+d,c.sent,ser⟩:Frame).enc])++(fs.map Frame.enc).drop k),.row false 0 10 [],.box [.sref 3 (v+1) 0 (fs.length+1)]]))
      (fun x:Frame=>decide (x.arr≤at_+d)) fs id (fun s=>(([.t (tI s.1),.t (tI s.2)],[.box [.t (tI c.rng),.t (.sl 10 (c.frames.map Frame.enc)),.t (tI c.sent),.t (tI c.lost)],.row false 0 10 [],.box [.t (tI 0),.sref 1 0 0 0,.t (tI 0),.t (tI 0)],.row false v 10 (fs.map Frame.enc),.row false 0 10 [],.box [.sref 3 v 0 fs.length],.box []]):List AV×Heap)) (S3 _ hsr) rfl
      (fun s a1 a2 a3=>Ev.of fun n z again=>by
       obtain ⟨a,b⟩:=s;simp only at a1 a2 a3;by_cases hab:a<b
       ·have hm:fs[(a+b) / 2]? = some fs[(a+b) / 2]:=zO (by omega);simp only [Rc,Zt,vv,vf,vE,halfU a b (by omega),hm,Frame.enc,(show (a:Int)<(b:Int) by omega),Ls,if_pos hab,(show (((a+b) / 2:Nat):Int)<(fs.length:Int) by omega),BE (show (a+b) / 2<4611686018427387904 by omega),hwd];by_cases hx:(fs[(a+b) / 2]).arr≤at_+d
        ·simp only [hx,(show ¬at_+d<(fs[(a+b) / 2]).arr by omega),vv,Rd.Aw]
        ·simp only [hx,(show at_+d<(fs[(a+b) / 2]).arr by omega),vv,Rd.Aw]
       ·obtain rfl:a=b:=by omega
        simp only [Rc,VC,vv,vf,vE,A9 (show (10:Nat)≠1 by decide),wP,Ls,Nat.lt_irrefl,Rd.Be,id,hwd,Frame.enc,BE (show i<4611686018427387904 by omega),(show fs.length+1≤1073741824 by omega),(show (a:Int)≤(fs.length:Int) by omega)])
     have hkl:fs.countP (fun x:Frame=>decide (x.arr≤at_+d))≤fs.length:=List.countP_le_length;refine key.mono fun n h again => ?_;have h:=h again;simp only [Rb,vv,vf,reduceCtorEq,vE,hx,DR,(show (i:Int)<ds.length by omega),Rd.Aw];refine h.trans ?_;simp only [id];have hil:=N3 at_ c.sent ser fs d;rw [hil,hins];simp [Frame.enc,map_take,map_drop]
    ·have hi:=AW hx;simp only [Rd.next.injEq] at hs';subst hs';exact ⟨Sr hI.1,by rw [N3,hI.2];omega⟩
    ·obtain ⟨v,fs⟩:=s;simp only at hI;refine (s92 ds c.rng (by omega)).mono fun n h again => ?_;have e1:take fs.length (List.map Frame.enc fs)=List.map Frame.enc fs:=vD (by simp);have w1:w64 (c.sent+1)=c.sent+1:=AN (by omega) (by omega);have w2:w64 (c.lost+1)=c.lost+1:=AN (by omega) (by omega);by_cases hm:c.rng∈ds
     ·simp only [Rb,vv,vf,reduceCtorEq,vE,wP,h,hm,e1,w1,w2,Lb,Cm.enc];simp
     ·simp only [Rb,vv,vf,reduceCtorEq,vE,wP,h,hm,e1,w1,w2,Lb,Cm.enc];simp
end Ab
namespace Ab
open Go
def Bn (c:Cm):Option Int:=c.frames.head?.map (·.arr)
def GV:Option Int→List Tree
 |none=>[tI 0,.bool false]
 |some t=>[tI t,.bool true]
theorem Hq (c:Cm) (hc:Cw c):AL C 163 c.enc (GV (Bn c)):=by
 refine AL.of (fun n=>e163 n _ _ _ _) ?_;refine (s207 c hc).mono fun n h => ?_;cases hf:c.frames with
 |nil=>
  simp only [Cm.enc,hf,map_nil] at h;simp only [hf,map_nil,h,vv,vf,bne_self_eq_false,(show (((0:Nat):Int)==0)=true from rfl),Bn,List.head?_nil,GV]
 |cons f rest=>
  simp only [Cm.enc,hf,xJ,Frame.enc] at h;simp only [hf,xJ,Frame.enc,h,vv,vf,bne_self_eq_false,(show (((rest.length+1:Nat):Int)==0)=false by simp;omega),xC,Frame.enc,Bn,vT,GV]
end Ab
namespace Ab
open Go
end Ab
namespace Ab
open Go
inductive Sh where
 |i
 |k (k:IntKind)
 |b
 |s
 |l (n:Nat)
 |r (o:Nat)
 |c (v:AV)
def rcell (p:List AV×Heap) (k j:Nat):Sh→AV
 | .i =>.t (tI (cI p k j))
 | .k q =>.t (.int q (cI p k j))
 | .b =>.t (.bool (cB p k j))
 | .s =>.t (.str (cS p k j))
 | .l n =>.t (.sl n (cL p k j))
 | .r o =>.sref o (AK p k j) (AR p k j) (AJ p k j)
 | .c v=>v
def rb (p:List AV×Heap) (k:Nat):Nat→List Sh→List AV
 |_,[]=>[]
 |j,x::l=>rcell p k j x::rb p k (j+1) l
inductive OSh where
 |row (z:Nat)
 |frz (z:Nat)
 |box (l:List Sh)
def robj (p:List AV×Heap) (k:Nat):OSh→AF
 | .row z =>.row false (AE p k) z (oEs p k)
 | .frz z =>.row true (AE p k) z (oEs p k)
 | .box l =>.box (rb p k 0 l)
def rh (p:List AV×Heap):Nat→List OSh→Heap
 |_,[]=>[]
 |k,s::l=>robj p k s::rh p (k+1) l
def upd {α:Type}:List α→List (Nat×α)→List α
 |l,[]=>l
 |l,(j,x)::c=>upd (l.set j x) c
noncomputable def IG (C:Cfg) (pc:BX) (n:Nat) (ff:Nat→Rec) (S:List FuncId):Nat→Rec
 |0=>fun _ _ _ _ _=>none
 |d+1=>fun R _ r h K=>match r with
  | .fn g avs=>match S.contains g with
   |true=>ff (d+1) R (.fn g avs) h K
   |false=>Et C (IG C pc n ff S d) pc n g avs h K
  | .yield i args=>NT C (IG C pc n ff S d) pc n i args h K
noncomputable def fI (C:Cfg) (n:Nat):Nat→Rec:=inl C (pcx C (AA C n)) n
theorem Iw (C:Cfg) (n:Nat) (S:List FuncId):∀d,IG C (pcx C (AA C n)) n (fI C n) S d=inl C (pcx C (AA C n)) n d
 |0=>rfl
 |d+1=>by
  funext R i r h K;cases r with
  |fn g avs=>
   show (match S.contains g with
    |true=>fI C n (d+1) R (.fn g avs) h K
    |false=>Et C (IG C (pcx C (AA C n)) n (fI C n) S d) (pcx C (AA C n)) n g avs h K)=_
   cases S.contains g with
   |true=>rfl
   |false=>rw [Iw C n S d];rfl
  |yield i args=>
   show NT C (IG C (pcx C (AA C n)) n (fI C n) S d) (pcx C (AA C n)) n i args h K=_;rw [Iw C n S d];rfl
theorem MR (C:Cfg) (n:Nat) (S:List FuncId) (d:Nat) (R:Type) [Dq R] (g:FuncId) (avs:List AV) (h:Heap) (K:List AV→Heap→Option R) :
  fI C n (d+1) R (.fn g avs) h K=Et C (IG C (pcx C (AA C n)) n (fI C n) S d) (pcx C (AA C n)) n g avs h K:=by
 rw [Iw];rfl
theorem pureO (C:Cfg) (n:Nat) (S:List FuncId) (g:FuncId) (xs:List Tree):JN C (IG C (pcx C (AA C n)) n (fI C n) S C.depth) (pcx C (AA C n)) n g xs=JN C (inl C (pcx C (AA C n)) n C.depth) (pcx C (AA C n)) n g xs:=by rw [Iw]
theorem Oa (C:Cfg) (n:Nat) (g:FuncId) (xs:List Tree) (hg:g<OWN) (he:C.ext g xs=none):AA C (n+1) g xs=JN C (inl C (pcx C (AA C n)) n C.depth) (pcx C (AA C n)) n g xs:=by
 show (if g<OWN then _ else _)=_;rw [if_pos hg];show (match C.ext g xs with
  |some ys=>some ys
  |none=>JN C (inl C (pcx C (AA C n)) n C.depth) (pcx C (AA C n)) n g xs)=_
 rw [he]
end Ab
namespace Ab
open Go
def Q8 (l:List Span) (t:Int):Bool:=decide (BU l=0∧AU t l)
theorem PD (l:List Span) (t:Int):AL C 271 [.sl 2 (l.map Span.enc),tI t] [.bool (Q8 l t)]:=by
 refine AL.of (fun n=>e271 n _ _) ?_;unfold Q8;by_cases hc:BU l=0
 ·refine Ev.rw (T' := ?TT) (s61 l) (fun n h => ?g1) ?g2
  case g1=>
   simp only [h,vv,vf,hc,beq_self_eq_true];rfl
  case g2=>
   have hlen:=B3 hc;have hm:decide (BU l=0∧AU t l)=l.any (fun x=>decide (x.fro≤t∧t<x.to)):=by rw [Bool.eq_iff_iff,decide_eq_true_eq];simp only [hc,true_and];exact Sg t l
   have key:=A7 (R:=List Tree) (B:=fun n p again=>L5 n (l.map Span.enc) (fun p7=>L7 n (fun p5=>Ic n (fun p2=>Jx n p2) p5) p7) t p again) (fun (q:Bool)=>[Tree.bool q]) l (fun i (_:Unit)=>(([.t (tI i)],[]):List AV×Heap))
    (fun _ _ x=>if (fun x:Span=>decide (x.fro≤t∧t<x.to)) x=true then .done true else .next ()) (fun _=>false) (fun _ _=>True) () (s:=(([.t (tI 0)],[]):List AV×Heap)) rfl trivial (R9 (fun x:Span=>decide (x.fro≤t∧t<x.to)) 0 l)
    (fun i s x hx hI=>Ev.of fun n again => ?_) (fun _ _ _ _ _ _ _=>trivial) (fun s hI=>Ev.of fun n again => ?_)
   ·refine key.mono fun n h => ?_;rw [hm];simpa only [hc,true_and] using h
   ·have hi:=AW hx;by_cases h1:x.fro≤t
    ·by_cases h2:t<x.to
     ·simp only [L5,O2,L7,Ic,Jx,vv,vf,vE,hx,Span.enc,(show (i:Int)<l.length by omega),h1,h2,Rd.Be,and_self]
     ·simp only [L5,O2,L7,Ic,Jx,vv,vf,vE,hx,Span.enc,(show (i:Int)<l.length by omega),h1,h2,Rd.Aw,and_self,BE (show i<4611686018427387904 by omega)]
    ·simp only [L5,O2,L7,Ic,Jx,vv,vf,vE,hx,Span.enc,(show (i:Int)<l.length by omega),h1,Rd.Aw,BE (show i<4611686018427387904 by omega)]
   ·simp only [L5,O2,L7,Ic,Jx,vv,vf,vE,wP,(show ¬(0:Int)≤ -1 by omega)]
 ·refine (s61 l).mono fun n h => ?_;have hc':(BU l==0)=false:=by simpa using hc
  simp only [h,Jx,vv,vf,hc,hc']
structure Gh where
 v0:Nat
 v4:Nat
 v5:Nat
 pre:List (List Tree)
abbrev E0:AF :=.box []
structure Ses where
 dat:Cm
 rep:Cm
 picks:List Int
 limit:Int
 dark:List Span
 entered:Int
 dist:Int
 sent:List Out
 told:List Out
 now:Int
 snd:Snd
 rcv:Rcv
 pend:List Out
 rcvd:Bool
 arrive:Int
 kno:Bool
 knoAt:Int
def DF (s:Ses) (R:Int):List Int×Int:=
 if Q8 s.dark s.now=true then ([],s.dist)
 else if s.picks=[] then ([R],s.dist)
 else if (C2 (s.picks.getD (s.entered % s.picks.length).toNat 0) R).head? = some R then (C2 (s.picks.getD (s.entered % s.picks.length).toNat 0) R,s.dist)
 else if 0≤s.limit∧s.limit≤s.dist then ([R],s.dist)
 else (C2 (s.picks.getD (s.entered % s.picks.length).toNat 0) R,s.dist+1)
def D4 (s:Ses) (x:Seg):Ses:={s with dat:=CX s.dat s.now x (DF s s.dat.rng).1,dist:=(DF s s.dat.rng).2,entered:=s.entered+1,sent:=s.sent++[⟨s.now,x⟩]}
def DQ (s:Ses) (x:Seg):Ses:={s with rep:=CX s.rep s.now x (DF s s.rep.rng).1,dist:=(DF s s.rep.rng).2,entered:=s.entered+1,told:=s.told++[⟨s.now,x⟩]}
def txS:Nat→Ses→Ses
 |0,s=>s
 |k+1,s=>match s.pend with
  |[]=>s
  |o::l=>if o.at_=s.now then txS k {D4 s o.seg with pend:=l} else s
def By (s:Ses):Ses:={s with dat:={s.dat with frames:=s.dat.frames.tail}}
def B7 (s:Ses):Ses:={s with rep:={s.rep with frames:=s.rep.frames.tail}}
def rxH (s:Ses) (x:Seg):Ses:=(Fp s.rcv x).2.1.foldl DQ {s with rcv:=(Fp s.rcv x).1}
def rxF (s:Ses):Ses:=if s.rcvd=false∧BQ s.rcv=true then {s with rcvd:=true,arrive:=s.now} else s
def rxX (s:Ses) (x:Seg):Ses:=rxF (rxH s x)
def rxS:Nat→Ses→Ses
 |0,s=>s
 |k+1,s=>match s.dat.frames with
  |[]=>s
  |f::_=>if f.arr=s.now then rxS k (rxX (By s) f.seg) else s
def lsF (s:Ses):Ses:=if s.kno=false∧s.snd.st=2 then {s with kno:=true,knoAt:=s.now} else s
def lsX (s:Ses) (x:Seg):Ses:=if s.now<s.snd.busy then s else lsF {s with snd:=(Bx s.snd s.now x).1,pend:=s.pend++(Bx s.snd s.now x).2.1}
def lsS:Nat→Ses→Ses
 |0,s=>s
 |k+1,s=>match s.rep.frames with
  |[]=>s
  |f::_=>if f.arr=s.now then lsS k (lsX (B7 s) f.seg) else s
def exS (s:Ses):Ses:=if s.snd.st=1∧s.snd.due=s.now then {s with snd:=(DY s.snd s.now).1,pend:=s.pend++(DY s.snd s.now).2.1} else s
def Dn:Option Int→Option Int→Option Int
 |none,o=>o
 |some a,none=>some a
 |some a,some b=>some (if b<a then b else a)
def nxS (s:Ses):Option Int:=Dn (Dn (Dn (s.pend.head?.map (·.at_)) (Bn s.dat)) (Bn s.rep)) (if s.snd.st=1 then some s.snd.due else none)
def ph1 (s:Ses) (t:Int):Ses:=txS s.pend.length {s with now:=t}
def ph2 (s:Ses) (t:Int):Ses:=rxS (ph1 s t).dat.frames.length (ph1 s t)
def ph3 (s:Ses) (t:Int):Ses:=lsS (ph2 s t).rep.frames.length (ph2 s t)
def stS (s:Ses) (t:Int):Ses:=exS (ph3 s t)
def Hu:Nat→Ses→Ses
 |0,s=>s
 |k+1,s=>match nxS s with
  |none=>s
  |some t=>Hu k (stS s t)
end Ab
namespace Ab
open Go
theorem vv2 :
  (∀(e:List AV) (h:Heap) (k:Nat),vI (e,h) k=intOf (AG (List.getD e k AV.undef)))∧
  (∀(e:List AV) (h:Heap) (k:Nat),vB (e,h) k=BN (AG (List.getD e k AV.undef)))∧
  (∀(e:List AV) (h:Heap) (k:Nat),vS (e,h) k=strOf (AG (List.getD e k AV.undef)))∧
  (∀(e:List AV) (h:Heap) (k:Nat),vL (e,h) k=Cx (AG (List.getD e k AV.undef)))∧
  (∀(e:List AV) (h:Heap) (k:Nat),Bg (e,h) k=FN (List.getD e k AV.undef))∧
  (∀(e:List AV) (h:Heap) (k:Nat),CO (e,h) k=HT (List.getD e k AV.undef))∧
  (∀(e:List AV) (h:Heap) (k:Nat),Ak (e,h) k=HU (List.getD e k AV.undef))∧
  (∀(x:Tree) (l:List Tree),gI (x::l) (0:Nat)=intOf x)∧
  (∀(x:Tree) (l:List Tree) (k:Nat),gI (x::l) (k+(1:Nat))=gI l k)∧
  (∀(x:Tree) (l:List Tree),gB (x::l) (0:Nat)=BN x)∧
  (∀(x:Tree) (l:List Tree) (k:Nat),gB (x::l) (k+(1:Nat))=gB l k)∧
  (∀(x:Tree) (l:List Tree),gS (x::l) (0:Nat)=strOf x)∧
  (∀(x:Tree) (l:List Tree) (k:Nat),gS (x::l) (k+(1:Nat))=gS l k)∧
  (∀(x:Tree) (l:List Tree),gL (x::l) (0:Nat)=Cx x)∧
  (∀(x:Tree) (l:List Tree) (k:Nat),gL (x::l) (k+(1:Nat))=gL l k)∧
  (∀(x:Tree) (l:List Tree),okI (x::l) (0:Nat)=(EO IntKind.i64 x=true))∧
  (∀(x:Tree) (l:List Tree) (k:Nat),okI (x::l) (k+(1:Nat))=okI l k)∧
  (∀(x:Tree) (l:List Tree),okB (x::l) (0:Nat)=(EJ x=true))∧
  (∀(x:Tree) (l:List Tree) (k:Nat),okB (x::l) (k+(1:Nat))=okB l k)∧
  (∀(x:Tree) (l:List Tree),okS (x::l) (0:Nat)=(FZ x=true))∧
  (∀(x:Tree) (l:List Tree) (k:Nat),okS (x::l) (k+(1:Nat))=okS l k)∧
  (∀(z:Nat) (x:Tree) (l:List Tree),okL z (x::l) (0:Nat)=(Fh z x=true))∧
  (∀(z:Nat) (x:Tree) (l:List Tree) (k:Nat),okL z (x::l) (k+(1:Nat))=okL z l k)∧
  (∀(k:IntKind) (n:Int),EO k (Tree.int k n)=true)∧
  (∀(b:Bool),EJ (Tree.bool b)=true)∧
  (∀(b:ByteArray),FZ (Tree.str b)=true)∧
  (∀(z:Nat) (es:List (List Tree)),Fh z (Tree.sl z es)=true)∧
  (∀(k:IntKind) (n:Int),intOf (Tree.int k n)=n)∧
  (∀(b:Bool),BN (Tree.bool b)=b)∧
  (∀(b:ByteArray),strOf (Tree.str b)=b)∧
  (∀(z:Nat) (es:List (List Tree)),Cx (Tree.sl z es)=es)∧
  (∀(x:Tree),AG (AV.t x)=x)∧
  (∀(i v o l:Nat),FN (AV.sref i v o l)=v)∧
  (∀(i v k o:Nat),FN (AV.rptr i v k o)=v)∧
  (∀(i v o l:Nat),HT (AV.sref i v o l)=o)∧
  (∀(i v o l:Nat),HU (AV.sref i v o l)=l)∧
  (∀(f:Bool) (v z:Nat) (es:List (List Tree)),AF.ver (AF.row f v z es)=v)∧
  (∀(f:Bool) (v z:Nat) (es:List (List Tree)),CA (AF.row f v z es)=es)∧
  (∀(cs:List AV) (j:Nat),cellOf (AF.box cs) j=List.getD cs j AV.undef)∧
  (∀(e:List AV) (h:Heap) (k j:Nat),aI (e,h) k j=intOf (AG (List.getD (D1 (List.getD e k AV.undef)) j AV.undef)))∧
  (∀(e:List AV) (h:Heap) (k j:Nat),aB (e,h) k j=BN (AG (List.getD (D1 (List.getD e k AV.undef)) j AV.undef)))∧
  (∀(e:List AV) (h:Heap) (k j:Nat),aS (e,h) k j=strOf (AG (List.getD (D1 (List.getD e k AV.undef)) j AV.undef)))∧
  (∀(e:List AV) (h:Heap) (k j:Nat),aL (e,h) k j=Cx (AG (List.getD (D1 (List.getD e k AV.undef)) j AV.undef)))∧
  (∀(cs:List AV),D1 (AV.agg cs)=cs)∧
  (∀{R S:Type} (J:S→Option R) (f:(S→Option R)→Option R),join J f=f J)∧
  (∀{α:Type} {x:α} {xs:List α} {d:α},List.getD (x::xs) (0:Nat) d=x)∧
  (∀{α:Type} {x:α} {xs:List α} {n:Nat} {d:α},List.getD (x::xs) (n+(1:Nat)) d=List.getD xs n d)∧
  (∀(h:Decidable True),@decide True h=true)∧
  (∀(h:Decidable False),@decide False h=false)∧
  (∀{R:Type} {i:Decidable True} (a b:Option R),@cnd R True i a b=a)∧
  (∀{R:Type} {i:Decidable False} (a b:Option R),@cnd R False i a b=b)∧
  (∀(p:Prop),(True∧p)=p)∧
  (∀(p:Prop),(p∧True)=p)∧
  (∀(p:Prop),(False∧p)=False)∧
  (∀(p:Prop),(p∧False)=False)∧
  (∀{α β:Type} (a:α) (f:α→Option β),Option.bind (some a) f=f a)∧
  (∀{α β:Type} (f:α→Option β),Option.bind (none:Option α) f=none)∧
  (∀{α:Type} {a:α} {l:List α},length (a::l)=length l+(1:Nat))∧
  (∀{α:Type},length ([]:List α)=(0:Nat))∧
  (∀{α β:Type} {l:List α} (f:α→β),length (List.map f l)=length l)∧
  (∀{α β:Type} {f:α→β} {l:List α} {i:Nat},(List.map f l)[i]? = Option.map f l[i]?)∧
  (∀{α β:Type} (a:α) (f:α→β),Option.map f (some a)=some (f a))∧
  (∀{α β:Type} (f:α→β),Option.map f (none:Option α)=none)∧
  (∀(n:Nat),wT (n:Int)=n)∧
  (∀{α:Type} (a:α),(a=a)=True)∧
  (∀{α:Type} {x:Decidable True} (t e:α),@ite α True x t e=t)∧
  (∀{α:Type} {x:Decidable False} (t e:α),@ite α False x t e=e)∧
  (∀(n:Nat),(0:Nat)+n=n)∧
  (∀(n:Nat),(0:Int)≤(n:Int))∧
  (∀{α:Type} {l:List α},drop (0:Nat) l=l)∧
  (∀(p:Prop),(p∨True)=True)∧
  (∀(p:Prop),(True∨p)=True)∧
  (∀(p:Prop),(p∨False)=p)∧
  (∀(p:Prop),(False∨p)=p)∧
  ((!true)=false)∧
  ((!false)=true)∧
  ((false=true)=False)∧
  (∀{p:Prop} [inst:Decidable p],(decide p=true)=p)∧
  (∀{α:Type} [inst:LE α] {x y:α},x≥y↔y≤x)∧
  (∀{α:Type} [inst:LT α] {x y:α},x>y↔y<x):=
 ⟨@vI_mk,@PV,@vS_mk,@vL_mk,@VQ,@VR,@VS,@Vz,@V0,@V1,@V2,@Vv,@Vw,@Vx,@Vy,@SR,@SS,@SU,@SV,@SN,@SO,@SP,@SQ,@N1,@Kj,@N0,@Sn,@intOf_int,@MX,@PZ,@VM,@Rv,@NG,@NH,@NI,@NJ,@J5,@IL,@OP,@aI_mk,@aB_mk,@aS_mk,@aL_mk,@QY,@join_eq,@List.getD_cons_zero,@List.getD_cons_succ,@decide_true,@decide_false,@TC,@QK,@true_and,@and_true,@false_and,@and_false,@Option.bind_some,@bind_none,@xF,@zV,@xH,@getElem?_map,@yP,@map_none,@toNat_natCast,@eq_self,@if_true,@if_false,@yN,@natCast_nonneg,@drop_zero,@or_true,@true_or,@or_false,@false_or,@Bool.not_true,@Bool.not_false,@false_eq_true,@decide_eq_true_eq,@ge_iff_le,@gt_iff_lt⟩
theorem Kp (n r:Int):(C2 n r).length≤2:=by
 unfold C2
 repeat' split
 all_goals simp
theorem Ko {n r d:Int} (hr:1≤r) (h:d∈C2 n r):r≤d∧d≤2*r:=by
 have hm:=vK (n / 8) (show r≠0 by omega);have hml:=Int.emod_lt_of_pos (n / 8) (show 0<r by omega);unfold C2 at h
 repeat' split at h
 all_goals simp at h
 all_goals omega
def Dc (x:Seg):List AV:=[.t (tI x.kind),.t (tI x.ses),.t (tI x.ser),.t (tI x.off),.t (tI x.tot),.t (.bool x.chk),.t (.str x.data),.t (.sl 2 (x.claims.map Span.enc))]
structure EOk (s:Ses) (c:Cm):Prop where
 gc:Cw c
 now:0≤s.now∧s.now≤1099511627776
 pk:∀p∈s.picks,-9223372036854775808≤p∧p≤9223372036854775807
 ent:0≤s.entered∧s.entered<10000
 len:c.frames.length+2≤10000
 dst:0≤s.dist∧s.dist≤10000
 sl:s.sent.length<1000000∧s.told.length<1000000
 pl:s.picks.length≤1000
theorem Ks (s:Ses) (x:Seg) (ds:List Int) (u:Int) (h:DF s s.dat.rng=(ds,u)):D4 s x={s with dat:=CX s.dat s.now x ds,dist:=u,entered:=s.entered+1,sent:=s.sent++[⟨s.now,x⟩]}:=by unfold D4;rw [h]
theorem Kr (s:Ses) (x:Seg) (ds:List Int) (u:Int) (h:DF s s.rep.rng=(ds,u)):DQ s x={s with rep:=CX s.rep s.now x ds,dist:=u,entered:=s.entered+1,told:=s.told++[⟨s.now,x⟩]}:=by unfold DQ;rw [h]
def boO (o:Option Int):Heap:=[.box [.t (tI (o.getD 0))],.box [.t (.bool o.isSome)]]
def Fg (o:Option Int):List AV:=[.t (tI (o.getD 0)),.t (.bool o.isSome)]
def exG (g:Gh) (s:Ses):Gh:=if s.snd.st=1∧s.snd.due=s.now then {g with v0:=g.v0+1,pre:=[]} else g
def J3:Seg:=⟨0,0,0,0,0,false,ByteArray.mk #[],[]⟩
def Da (s:Ses):Ses×Option Seg:=
 match s.rep.frames with
 |[]=>(s,none)
 |f::_=>if f.arr=s.now then (B7 s,some f.seg) else (s,none)
def Db (s:Ses):Ses×Option Seg:=
 match s.dat.frames with
 |[]=>(s,none)
 |f::_=>if f.arr=s.now then (By s,some f.seg) else (s,none)
theorem F8 {c:Cm} (hc:Cw c):Cw {c with frames:=c.frames.tail}:=by
 refine ⟨hc.rng,hc.lost,hc.sent,?_,fun f hf=>hc.frm f (List.mem_of_mem_tail hf),?_⟩
 ·have:=hc.len;simp;omega
 ·have:=hc.srt;cases h:c.frames with
  |nil=>simp
  |cons f l=>rw [h] at this;exact (wM.1 this).2
def gP (g:Gh):Gh:={g with v0:=g.v0+1,pre:=[]}
def lsG (g:Gh) (s:Ses):Gh:=if s.now<s.snd.busy then g else gP g
structure LsP (P:Ses→Prop):Prop where
 rep:∀s,P s→Cw s.rep
 ack:∀s,P s→s.snd.acked.length≤400∧s.pend.length≤1000000
 Fp:∀s f l,P s→s.rep.frames=f::l→f.arr=s.now→(f.seg.claims.length≤400∨1000<f.seg.claims.length)∧(¬s.now<s.snd.busy→(Bx s.snd s.now f.seg).2.2=0∧(Bx s.snd s.now f.seg).2.1.length≤1000000)∧P (lsX (B7 s) f.seg)
def lsT:Nat→Gh×Ses→Gh×Ses
 |0,q=>q
 |k+1,q=>match q.2.rep.frames with
  |[]=>q
  |f::_=>if f.arr=q.2.now then lsT k (lsG q.1 (B7 q.2),lsX (B7 q.2) f.seg) else q
theorem Vl:∀(k:Nat) (q:Gh×Ses),(lsT k q).2=lsS k q.2
 |0,q=>rfl
 |k+1,q=>by
  unfold lsT lsS;cases q.2.rep.frames with
  |nil=>rfl
  |cons f l=>
   simp only;split
   ·exact Vl k _
   ·rfl
theorem Kf (s:Ses) (x:Seg):(lsX s x).rep=s.rep:=by
 unfold lsX lsF;split
 ·rfl
 ·split<;>rfl
structure LS where
 g:Gh
 s:Ses
 v:Nat
 o:Option Seg
def LS.step (q:LS):Rd LS (Gh×Ses):=match q.o with
 |none =>.done (q.g,q.s)
 |some x =>.next ⟨lsG q.g q.s,(Da (lsX q.s x)).1,q.v+1,(Da (lsX q.s x)).2⟩
def LS.res (q:LS):Gh×Ses:=match q.o with
 |none=>(q.g,q.s)
 |some x=>lsT q.s.rep.frames.length (lsG q.g q.s,lsX q.s x)
def LS.inv (P:Ses→Prop) (q:LS):Prop:=Cw q.s.rep∧match q.o with
 |none=>True
 |some x=>(q.s.snd.acked.length≤400∧q.s.pend.length≤1000000)∧(x.claims.length≤400∨1000<x.claims.length)∧(¬q.s.now<q.s.snd.busy→(Bx q.s.snd q.s.now x).2.2=0∧(Bx q.s.snd q.s.now x).2.1.length≤1000000)∧P (lsX q.s x)
theorem LS.take {P:Ses→Prop} (hP:LsP P) {s:Ses} (h:P s) (g:Gh) (v:Nat):LS.inv P ⟨g,(Da s).1,v,(Da s).2⟩∧LS.res ⟨g,(Da s).1,v,(Da s).2⟩=lsT s.rep.frames.length (g,s):=by
 have hg:=hP.rep s h;unfold Da;cases hf:s.rep.frames with
 |nil=>exact ⟨⟨hg,trivial⟩,by simp [LS.res,lsT]⟩
 |cons f l=>
  simp only;split
  ·rename_i ha;obtain ⟨h1,h2,h3⟩:=hP.Fp s f l h hf ha;refine ⟨⟨F8 hg,hP.ack s h,h1,h2,h3⟩,?_⟩;simp only [LS.res,xF,lsT,hf,ha,if_true];have:(B7 s).rep.frames.length=l.length:=by simp [B7,hf]
   rw [this]
  ·rename_i ha;refine ⟨⟨hg,trivial⟩,?_⟩;simp only [LS.res,xF,lsT,hf,ha,if_false]
theorem LS.sound {P:Ses→Prop} (hP:LsP P) (q q':LS) (h:q.inv P) (hs:q.step = .next q'):q'.inv P∧(q'.s.rep.frames.length+(if q'.o.isSome then 1 else 0)<q.s.rep.frames.length+(if q.o.isSome then 1 else 0)):=by
 obtain ⟨g,s,v,o⟩:=q;unfold LS.step at hs;cases o with
 |none=>cases hs
 |some x=>
  cases hs;refine ⟨(LS.take hP h.2.2.2.2 _ _).1,?_⟩;simp only [Da,Kf];cases hf:s.rep.frames with
  |nil=>simp [Kf,hf]
  |cons f l=>
   simp only;split
   ·simp [B7,Kf,hf]
   ·simp [Kf,hf]
theorem LS.fin {P:Ses→Prop} (hP:LsP P) (q:LS) (h:q.inv P):q.res=q.step.fin LS.res:=by
 obtain ⟨g,s,v,o⟩:=q;cases o with
 |none=>rfl
 |some x=>
  simp only [LS.step,Rd.fin];rw [(LS.take hP h.2.2.2.2 _ _).2,Kf];rfl
end Ab
namespace Ab
open Go
structure Bud (k:Nat) (s:Ses):Prop where
 gd:Cw s.dat
 gr:Cw s.rep
 now:0≤s.now∧(0<k→s.now≤1099511627776)
 pk:∀p∈s.picks,-9223372036854775808≤p∧p≤9223372036854775807
 ent:0≤s.entered∧s.entered+k≤5000
 ld:(s.dat.frames.length:Int)≤2*s.entered
 lr:(s.rep.frames.length:Int)≤2*s.entered
 sd:s.dat.sent≤s.entered
 sr:s.rep.sent≤s.entered
 dst:0≤s.dist∧s.dist≤s.entered
 sl:(s.sent.length:Int)≤s.entered
 tl:(s.told.length:Int)≤s.entered
 pl:s.picks.length≤1000
theorem Bud.eD {k:Nat} {s:Ses} (h:Bud (k+1) s):EOk s s.dat:=by have:=h.ent;have:=h.ld;have:=h.dst;have:=h.sl;have:=h.tl;exact ⟨h.gd,⟨h.now.1,h.now.2 (by omega)⟩,h.pk,by omega,by omega,by omega,by omega,h.pl⟩
theorem Bud.eR {k:Nat} {s:Ses} (h:Bud (k+1) s):EOk s s.rep:=by have:=h.ent;have:=h.lr;have:=h.dst;have:=h.sl;have:=h.tl;exact ⟨h.gr,⟨h.now.1,h.now.2 (by omega)⟩,h.pk,by omega,by omega,by omega,by omega,h.pl⟩
theorem Gj (t num:Int) (x:Seg):∀(ds:List Int) (fs:List Frame),(Mh t num x ds fs).length=fs.length+ds.length
 |[],fs=>by simp [Mh]
 |d::ds,fs=>by show (Mh t num x ds (Le t num x fs d)).length=_;rw [Gj t num x ds,N3];simp;omega
theorem D7 {t num:Int} {x:Seg} {f:Frame}:∀{ds:List Int} {fs:List Frame},f∈Mh t num x ds fs↔f∈fs∨∃d∈ds,f=⟨t+d,num,x⟩
 |[],fs=>by simp [Mh]
 |d::ds,fs=>by
  show f∈Mh t num x ds (Le t num x fs d)↔_;rw [D7];unfold Le;rw [N4];simp only [xL,exists_eq_or_imp];constructor
  ·rintro ((h|h)|h)
   ·exact .inr (.inl h)
   ·exact .inl h
   ·exact .inr (.inr h)
  ·rintro (h|h|h)
   ·exact .inl (.inr h)
   ·exact .inl (.inl h)
   ·exact .inr h
theorem SJ {t num:Int} {x:Seg}:∀{ds:List Int} {fs:List Frame},fs.Pairwise (fun a b=>a.arr≤b.arr)→(Mh t num x ds fs).Pairwise fun a b=>a.arr≤b.arr
 |[],fs,h=>h
 |d::ds,fs,h=>SJ (ds:=ds) (Sr h)
theorem RK {s:Ses} {R:Int} (hR:1≤R):(∀d∈(DF s R).1,R≤d∧d≤2*R)∧(DF s R).1.length≤2∧s.dist≤(DF s R).2∧(DF s R).2≤s.dist+1:=by
 unfold DF;split
 ·simp;omega
 ·split
  ·simp;omega
  ·split
   ·exact ⟨fun d hd=>Ko hR hd,Kp _ _,by simp,by simp only;omega⟩
   ·split
    ·simp;omega
    ·exact ⟨fun d hd=>Ko hR hd,Kp _ _,by simp only;omega,by simp⟩
theorem N9 {c:Cm} {t:Int} {x:Seg} {ds:List Int} (hc:Cw c) (ht:0≤t∧t≤1099511627776) (hd:∀d∈ds,c.rng≤d∧d≤2*c.rng) (hl:c.frames.length+ds.length≤10000) (hs:c.sent<1152921504606846976):Cw (CX c t x ds):=by
 have h1:=hc.rng;have h2:=hc.lost;refine ⟨h1,?_,?_,?_,fun f hf => ?_,SJ hc.srt⟩
 ·simp only [CX,Lb];split<;>omega
 ·simp only [CX];omega
 ·simp only [CX,Gj];exact hl
 ·simp only [CX] at hf;rcases D7.1 hf with hf|⟨d,hdd,rfl⟩
  ·have:=hc.frm f hf;simp only [CX];omega
  ·have:=hd d hdd;simp only [CX];omega
theorem Bud.D4 {k:Nat} {s:Ses} (h:Bud (k+1) s) (x:Seg):Bud k (D4 s x):=by
 have he:=h.eD;have hr:=h.gd.rng;obtain ⟨d1,d2,d3,d4⟩:=RK (s:=s) hr.1;have:=h.ent;have:=h.ld;have:=h.lr;have:=h.dst;have:=h.sl;have:=h.tl;have:=h.sd;have:=h.sr;refine ⟨N9 h.gd he.now d1 (by omega) (by omega),h.gr,⟨h.now.1,fun _=>h.now.2 (by omega)⟩,h.pk,?_,?_,?_,?_,?_,?_,?_,?_,h.pl⟩
 all_goals simp only [Ab.D4,CX,Gj,xE,xF,zV]
 all_goals omega
theorem Bud.DQ {k:Nat} {s:Ses} (h:Bud (k+1) s) (x:Seg):Bud k (DQ s x):=by
 have he:=h.eR;have hr:=h.gr.rng;obtain ⟨d1,d2,d3,d4⟩:=RK (s:=s) hr.1;have:=h.ent;have:=h.ld;have:=h.lr;have:=h.dst;have:=h.sl;have:=h.tl;have:=h.sd;have:=h.sr;refine ⟨h.gd,N9 h.gr he.now d1 (by omega) (by omega),⟨h.now.1,fun _=>h.now.2 (by omega)⟩,h.pk,?_,?_,?_,?_,?_,?_,?_,?_,h.pl⟩
 all_goals simp only [Ab.DQ,CX,Gj,xE,xF,zV]
 all_goals omega
theorem Bud.By {k:Nat} {s:Ses} (h:Bud k s):Bud k (By s):={h with gd:=F8 h.gd,ld:=by have:=h.ld;simp only [Ab.By,List.length_tail];omega}
theorem Bud.of {k:Nat} {s s':Ses} (h:Bud k s) (h1:s'.dat=s.dat) (h2:s'.rep=s.rep) (h3:s'.now=s.now) (h4:s'.picks=s.picks) (h5:s'.entered=s.entered) (h6:s'.dist=s.dist) (h7:s'.sent=s.sent) (h8:s'.told=s.told):Bud k s':=
 ⟨h1 ▸ h.gd,h2 ▸ h.gr,h3 ▸ h.now,h4 ▸ h.pk,h5 ▸ h.ent,by rw [h1,h5];exact h.ld,by rw [h2,h5];exact h.lr,by rw [h1,h5];exact h.sd,by rw [h2,h5];exact h.sr,by rw [h6,h5];exact h.dst,by rw [h7,h5];exact h.sl,by rw [h8,h5];exact h.tl,h4 ▸ h.pl⟩
theorem Lh:∀(l:List Seg) (s:Ses),(l.foldl DQ s).dat=s.dat
 |[],s=>rfl
 |x::l,s=>by rw [vQ,Lh l];rfl
theorem Lg:∀(l:List Seg) (s:Ses),(l.foldl DQ s).now=s.now
 |[],s=>rfl
 |x::l,s=>by rw [vQ,Lg l];rfl
def rxG (g:Gh) (s:Ses) (x:Seg):Gh:={g with v5:=g.v5+(Fp s.rcv x).2.1.length}
structure RxP (P:Ses→Prop):Prop where
 dat:∀s,P s→Cw s.dat
 Fp:∀s f l,P s→s.dat.frames=f::l→f.arr=s.now→(Fp s.rcv f.seg).2.2=0∧Bud (Fp s.rcv f.seg).2.1.length (By s)∧P (rxX (By s) f.seg)
def rxT:Nat→Gh×Ses→Gh×Ses
 |0,q=>q
 |k+1,q=>match q.2.dat.frames with
  |[]=>q
  |f::_=>if f.arr=q.2.now then rxT k (rxG q.1 (By q.2) f.seg,rxX (By q.2) f.seg) else q
theorem VT:∀(k:Nat) (q:Gh×Ses),(rxT k q).2=rxS k q.2
 |0,q=>rfl
 |k+1,q=>by
  unfold rxT rxS;cases q.2.dat.frames with
  |nil=>rfl
  |cons f l=>
   simp only;split
   ·exact VT k _
   ·rfl
theorem GH (s:Ses) (x:Seg):(rxX s x).dat=s.dat:=by
 unfold rxX rxF rxH;split
 ·show (List.foldl DQ _ _).dat=_;rw [Lh]
 ·rw [Lh]
theorem Qo (s:Ses) (x:Seg):(rxX s x).now=s.now:=by
 unfold rxX rxF rxH;split
 ·show (List.foldl DQ _ _).now=_;rw [Lg]
 ·rw [Lg]
structure RS where
 g:Gh
 s:Ses
 v:Nat
 o:Option Seg
def RS.step (q:RS):Rd RS (Gh×Ses):=match q.o with
 |none =>.done (q.g,q.s)
 |some x =>.next ⟨rxG q.g q.s x,(Db (rxX q.s x)).1,q.v+1,(Db (rxX q.s x)).2⟩
def RS.res (q:RS):Gh×Ses:=match q.o with
 |none=>(q.g,q.s)
 |some x=>rxT q.s.dat.frames.length (rxG q.g q.s x,rxX q.s x)
def RS.inv (P:Ses→Prop) (q:RS):Prop:=Cw q.s.dat∧match q.o with
 |none=>True
 |some x=>(Ab.Fp q.s.rcv x).2.2=0∧Bud (Ab.Fp q.s.rcv x).2.1.length q.s∧P (rxX q.s x)
theorem RS.take {P:Ses→Prop} (hP:RxP P) {s:Ses} (h:P s) (g:Gh) (v:Nat):RS.inv P ⟨g,(Db s).1,v,(Db s).2⟩∧RS.res ⟨g,(Db s).1,v,(Db s).2⟩=rxT s.dat.frames.length (g,s):=by
 have hg:=hP.dat s h;unfold Db;cases hf:s.dat.frames with
 |nil=>exact ⟨⟨hg,trivial⟩,by simp [RS.res,rxT]⟩
 |cons f l=>
  simp only;split
  ·rename_i ha;obtain ⟨h1,h2,h3⟩:=hP.Fp s f l h hf ha;refine ⟨⟨F8 hg,h1,h2,h3⟩,?_⟩;simp only [RS.res,xF,rxT,hf,ha,if_true];have:(By s).dat.frames.length=l.length:=by simp [By,hf]
   rw [this]
  ·rename_i ha;refine ⟨⟨hg,trivial⟩,?_⟩;simp only [RS.res,xF,rxT,hf,ha,if_false]
theorem RS.sound {P:Ses→Prop} (hP:RxP P) (q q':RS) (h:q.inv P) (hs:q.step = .next q'):q'.inv P∧(q'.s.dat.frames.length+(if q'.o.isSome then 1 else 0)<q.s.dat.frames.length+(if q.o.isSome then 1 else 0)):=by
 obtain ⟨g,s,v,o⟩:=q;unfold RS.step at hs;cases o with
 |none=>cases hs
 |some x=>
  cases hs;refine ⟨(RS.take hP h.2.2.2 _ _).1,?_⟩;simp only [Db,GH];cases hf:s.dat.frames with
  |nil=>simp [GH,hf]
  |cons f l=>
   simp only;split
   ·simp [By,GH,hf]
   ·simp [GH,hf]
theorem RS.fin {P:Ses→Prop} (hP:RxP P) (q:RS) (h:q.inv P):q.res=q.step.fin RS.res:=by
 obtain ⟨g,s,v,o⟩:=q;cases o with
 |none=>rfl
 |some x=>
  simp only [RS.step,Rd.fin];rw [(RS.take hP h.2.2.2 _ _).2,GH];rfl
def SF (r:Rcv):AF :=.box [.t (tI r.ses),.t (tI r.tot),.t (.sl 2 (r.known.map Span.enc)),.t (.str r.data)]
theorem Yx:∀(l:List Seg) (g:Gh) (s:Ses),l.foldl (fun (q:Gh×Ses) y=>({q.1 with v5:=q.1.v5+1},DQ q.2 y)) (g,s)=({g with v5:=g.v5+l.length},l.foldl DQ s)
 |[],g,s=>rfl
 |x::l,g,s=>by rw [vQ,Yx l];simp only [xF,vQ,add_assoc,Nat.add_comm 1]
def txT:Nat→Gh×Ses→Gh×Ses
 |0,q=>q
 |k+1,q=>match q.2.pend with
  |[]=>q
  |o::l=>if o.at_=q.2.now then txT k ({q.1 with v4:=q.1.v4+1,pre:=q.1.pre++[o.enc]},{D4 q.2 o.seg with pend:=l}) else q
theorem VH:∀(k:Nat) (q:Gh×Ses),(txT k q).2=txS k q.2
 |0,q=>rfl
 |k+1,q=>by
  unfold txT txS;cases q.2.pend with
  |nil=>rfl
  |cons o l=>
   simp only;split
   ·exact VH k _
   ·rfl
structure ExOk (s:Ses):Prop where
 ent:s.entered<10000
 ack:s.snd.acked.length≤400
 pl:s.pend.length≤1000000
 w:s.snd.st=1→s.snd.due=s.now→(DY s.snd s.now).2.2=0∧(DY s.snd s.now).2.1.length≤1000000
structure XX (W P1 P2:Ses→Prop) (μ:Ses→Nat):Prop where
 rx:RxP P1
 ls:LsP P2
 nx:∀s,W s→s.entered<10000∧Cw s.dat∧Cw s.rep
 tx:∀s t,W s→nxS s=some t→Bud s.pend.length {s with now:=t}
 p1:∀s t,W s→nxS s=some t→P1 (ph1 s t)
 p2:∀s t,W s→nxS s=some t→P2 (ph2 s t)
 ex:∀s t,W s→nxS s=some t→ExOk (ph3 s t)
 st:∀s t,W s→nxS s=some t→W (stS s t)∧μ (stS s t)<μ s
def g1T (g:Gh) (s:Ses) (t:Int):Gh:=(txT s.pend.length (g,{s with now:=t})).1
def g2T (g:Gh) (s:Ses) (t:Int):Gh:=(rxT (ph1 s t).dat.frames.length (g1T g s t,ph1 s t)).1
def g3T (g:Gh) (s:Ses) (t:Int):Gh:=(lsT (ph2 s t).rep.frames.length (g2T g s t,ph2 s t)).1
def stT (q:Gh×Ses) (t:Int):Gh×Ses:=(exG (g3T q.1 q.2 t) (ph3 q.2 t),stS q.2 t)
def rnT:Nat→Gh×Ses→Gh×Ses
 |0,q=>q
 |k+1,q=>match nxS q.2 with
  |none=>q
  |some t=>rnT k (stT q t)
theorem VY:∀(k:Nat) (q:Gh×Ses),(rnT k q).2=Hu k q.2
 |0,q=>rfl
 |k+1,q=>by
  unfold rnT Hu;cases nxS q.2 with
  |none=>rfl
  |some t=>exact VY k _
theorem Jb {W P1 P2:Ses→Prop} {μ:Ses→Nat} (hR:XX W P1 P2 μ):∀(k:Nat) (q:Gh×Ses),W q.2→μ q.2≤k→rnT k q=rnT (μ q.2) q
 |0,q,h,hk=>by rw [show μ q.2=0 by omega]
 |k+1,q,h,hk=>by
  cases hn:nxS q.2 with
  |none=>
   cases hm:μ q.2 with
   |zero=>simp only [rnT,hn]
   |succ m=>simp only [rnT,hn]
  |some t=>
   obtain ⟨h1,h2⟩:=hR.st q.2 t h hn;cases hm:μ q.2 with
   |zero=>omega
   |succ m=>
    simp only [rnT,hn];rw [Jb hR k (stT q t) h1 (by simp only [stT];omega),← Jb hR m (stT q t) h1 (by simp only [stT];omega)]
theorem UM {S R:Type} (B:S→(S→Option R)→Option R) (s0 s1 s2 s3 s4:S) (r:Option R) (n:Nat) (hn:5≤n) (h0:∀ag,B s0 ag=ag s1) (h1:∀ag,B s1 ag=ag s2) (h2:∀ag,B s2 ag=ag s3) (h3:∀ag,B s3 ag=ag s4) (h4:∀ag,B s4 ag=r):AH B n s0=r:=by
 obtain ⟨m,rfl⟩:∃m,n=m+5:=⟨n-5,by omega⟩
 show B s0 (AH B (m+4))=r;rw [h0];show B s1 (AH B (m+3))=r;rw [h1];show B s2 (AH B (m+2))=r;rw [h2];show B s3 (AH B (m+1))=r;rw [h3];show B s4 (AH B m)=r;rw [h4]
def ini (c:Con) (b e:Int) (d:ByteArray) (ps:List Int) (lim:Int) (dk:List Span):Ses:=
 ⟨⟨c.rng,[],0,0⟩,⟨c.rng,[],0,0⟩,ps,lim,dk,0,0,[],[],0,(BS c 0 d b e).1,⟨0,-1,[],ByteArray.mk #[]⟩,(BS c 0 d b e).2.1,false,0,false,0⟩
def OK (c:Con) (b e:Int) (d:ByteArray) (ps:List Int) (lim:Int) (dk:List Span):Int:=
 if 1000<ps.length then 4 else if lim < -1 then 2 else if BU dk≠0 then 1 else (BS c 0 d b e).2.2
def OZ (c:Con) (b e:Int) (d:ByteArray) (ps:List Int) (lim:Int) (dk:List Span):List Tree:=c.enc++[tI b,tI e,.str d,.sl 1 (ps.map DR),tI lim,.sl 2 (dk.map Span.enc)]
theorem Pb {c:Con} {b e:Int} {d:ByteArray} (h:(BS c 0 d b e).2.2=0):1≤c.rng∧c.rng≤1048576:=by
 unfold BS at h;split at h
 ·simp [Di] at h
 ·rename_i h1;have h1:ES c=0:=by simpa using h1
  obtain ⟨c1,c2⟩:=Dy h1;unfold GR at c1;omega
def Wy (s:Ses):List Tree:=[.sl 9 (s.sent.map Out.enc),.sl 9 (s.told.map Out.enc),tI 0]
def outT (s:Ses):List Tree:=[.bool s.rcvd,tI s.arrive,.bool s.kno,tI s.knoAt,tI s.snd.busy,tI s.entered,tI (s.dat.lost+s.rep.lost),tI 0]
end Ab
namespace Ab
open Go
theorem EV (r:Int):∀(l:List Seg) (t:Int),(BD r t l).map Out.seg=l
 |[],t=>rfl
 |x::l,t=>by simp only [BD,xJ,EV r l]
theorem RM {s:Snd} (h:He s=0) (hf:fits s=true):Hc s=0:=by unfold Hc;rw [if_neg (fun f=>f h),if_pos hf]
theorem V4 {s:Snd} (h:He s=0):Hc (De s)=0:=by refine RM h ?_;unfold fits De;simp
theorem VN {s:Snd} {t ser:Int} (h:He s=0) (hc:complete s=false) (ht:s.c.start≤t∧t≤s.fin) (hr:1≤ser∧ser≤1099511627776):Hc (BJ s t ser)=0:=by
 refine RM ?_ ?_
 ·obtain ⟨c1,c2,c3⟩:=DV h;unfold FC at c2;have a1:FC (BJ s t ser):=by unfold FC BJ;simp only;omega
  have a2:Rp (BJ s t ser):=c3;have a0:ES (BJ s t ser).c=0:=c1;unfold He;rw [if_neg (fun f=>f a0),if_neg (fun f=>f a1),if_neg (fun f=>f a2)]
 ·unfold fits;refine decide_eq_true (.inl ⟨rfl,hc,rfl⟩)
theorem done_ok {s:Snd} (h:He s=0) (hc:complete s=true):Hc {s with due:=0,st:=2}=0:=by refine RM h ?_;unfold fits;exact decide_eq_true (.inr (.inl ⟨rfl,hc,rfl⟩))
end Ab
namespace Ab
open Go
theorem F1 (k:Nat):(EZ k).length=k:=by simp [EZ]
theorem OA {l:List UInt8} {i:Nat} (h:l.length≤i):l.getD i 0=0:=by simp [List.getD,getElem?_eq_none h]
theorem Ts (k i:Nat):(EZ k).getD i 0=0:=by
 by_cases h:i<k
 ·simp [EZ,List.getD,h]
 ·exact OA (by simp [EZ];omega)
theorem Sc {r:Rcv} {x:Seg} (h1:r.data.size≤x.tot.toNat) (h2:x.off.toNat+x.data.size≤x.tot.toNat):(EI r x).length=x.tot.toNat:=by
 have l1:(Mf (EZ x.tot.toNat) 0 (bl r.data)).length=x.tot.toNat:=by rw [Gd _ _ _ (by rw [Aj,F1];omega),F1]
 unfold EI;rw [Gd _ _ _ (by rw [Aj,l1];omega),l1]
theorem Se {r:Rcv} {x:Seg} (h1:r.data.size≤x.tot.toNat) (h2:x.off.toNat+x.data.size≤x.tot.toNat) (i:Nat) :
  (EI r x).getD i 0=if x.off.toNat≤i∧i<x.off.toNat+x.data.size then (bl x.data).getD (i-x.off.toNat) 0 else (bl r.data).getD i 0:=by
 have l1:(Mf (EZ x.tot.toNat) 0 (bl r.data)).length=x.tot.toNat:=by rw [Gd _ _ _ (by rw [Aj,F1];omega),F1]
 unfold EI;rw [KF _ _ _ (by rw [Aj,l1];omega),KF _ _ _ (by rw [Aj,F1];omega),Aj,Aj];split
 ·rfl
 ·split
  ·rw [sub_zero]
  ·rw [Ts,OA (by rw [Aj];omega)]
theorem V3 {r:Rcv} {x:Seg} (hr:E6 r=0) (hx:DA x=0) (hs:Es r x=true):r.data.size≤x.tot.toNat∧x.off.toNat+x.data.size≤x.tot.toNat:=by obtain ⟨g1,g2,g3,g4,g5,g6,g7⟩:=Ed hx (Du.1 hs).1;exact ⟨(size_le hr hx hs).1,by omega⟩
theorem Yk {x:Seg} {t:Int}:AU t [sp x]↔x.off≤t∧t<x.off+x.data.size:=by simp only [AU,or_false];rfl
theorem KZ {r:Rcv} {x:Seg} (hs:Es r x=true) (t:Int):AU t (C6 r x).known↔AU t r.known∨(x.off≤t∧t<x.off+x.data.size):=by rw [← Yk];exact (Hj (Du.1 hs).2.2.2.2).2.2.2.2 t
theorem Sb {r:Rcv} {x:Seg} (hr:E6 r=0) (hx:DA x=0) (hs:Es r x=true) (i:Nat) :
  (bl (C6 r x).data).getD i 0=if x.off.toNat≤i∧i<x.off.toNat+x.data.size then (bl x.data).getD (i-x.off.toNat) 0 else (bl r.data).getD i 0:=by
 show (bl (mkB (EI r x))).getD i 0=_;rw [IS];exact Se (V3 hr hx hs).1 (V3 hr hx hs).2 i
theorem Wm {r:Rcv} {x:Seg} (hr:E6 r=0) (hx:DA x=0) (hs:Es r x=true):(C6 r x).data.size=x.tot.toNat:=by show (mkB (EI r x)).size=_;rw [DL];exact Sc (V3 hr hx hs).1 (V3 hr hx hs).2
theorem Nn {r:Rcv} {x:Seg} (hr:E6 r=0) (hx:DA x=0) (hs:Es r x=true):E6 (C6 r x)=0:=by
 obtain ⟨h1,h2,h3,h4,h5⟩:=Du.1 hs;obtain ⟨g1,g2,g3,g4,g5,g6,g7⟩:=Ed hx h1;obtain ⟨c1,c2,c3,c4⟩:=DU hr;obtain ⟨w1,w2⟩:=MK hr hx hs;obtain ⟨u1,u2,u3,u4,u5⟩:=Hj h5;have a1:Uv (C6 r x):=⟨c1.1,.inr ⟨g1,g2⟩⟩
 have a2:KnR (C6 r x):=by refine ⟨u4,⟨fun h=>(w2 h).elim,fun h => ?_⟩,(CP u4).2 w1⟩;have:x.tot = -1:=h;omega
 have a3:((C6 r x).data.size:Int)=KE (C6 r x).tot:=by rw [Wm hr hx hs];show ((x.tot.toNat:Nat):Int)=KE x.tot;unfold KE;rw [if_neg (by omega)];omega
 have a4:Tb (C6 r x):=by
  intro i hi hi0;rw [Sb hr hx hs] at hi0;rw [KZ hs];split at hi0
  ·right;omega
  ·left;refine c4 i ?_ hi0;rw [← Aj];rcases lt_or_ge i (bl r.data).length with h|h
   ·exact h
   ·exact (hi0 (OA h)).elim
 unfold E6;rw [if_neg (not_not_intro a1),if_neg (not_not_intro a2),if_neg (not_not_intro a3),if_pos a4]
theorem Q6 {r:Rcv} {x:Seg} (hr:E6 r=0) (hx:DA x=0):Fp r x=if Es r x=true then (C6 r x,if x.chk=true then [CI r x] else [],0) else (r,[],0):=by
 unfold Fp;rw [if_neg (not_not_intro ⟨hr,hx⟩)];by_cases hs:Es r x=true
 ·rw [if_neg (by rw [hs];decide),if_pos hs]
 ·rw [if_pos (by simpa using hs),if_neg hs]
theorem UW {r:Rcv} {x:Seg} (hr:E6 r=0) (hx:DA x=0):E6 (Fp r x).1=0:=by
 rw [Q6 hr hx];split
 ·rename_i hs;exact Nn hr hx hs
 ·exact hr
theorem Nz {r:Rcv} {x:Seg} (hr:E6 r=0) (hx:DA x=0) (hc:BQ r=true):BQ (Fp r x).1=true:=by
 have hv:=UW hr hx;unfold BQ at hc ⊢;rw [decide_eq_true_eq] at hc ⊢;refine ⟨hv,?_⟩;rw [Q6 hr hx] at hv ⊢;split
 ·rename_i hs;rw [if_pos hs] at hv;obtain ⟨h1,h2,h3,h4,h5⟩:=Du.1 hs;obtain ⟨g1,g2,g3,g4,g5,g6,g7⟩:=Ed hx h1;obtain ⟨c1,c2,c3,c4⟩:=DU hr;obtain ⟨d1,d2,d3,d4⟩:=DU hv;have ht:r.tot ≠ -1:=fun h=>by have:=c2.2.1.2 h;rw [this] at hc;cases hc.2
  have htt:x.tot=r.tot:=by rcases h3 with h|h;exact (ht h).elim;exact h
  show (C6 r x).known=[⟨0,x.tot⟩];refine DM ((Ax _).1 d2.1).2.1 (b' := -1) ⟨by show (-1:Int)<0;decide,by show (0:Int)<x.tot;omega,trivial⟩ fun t => ?_;rw [KZ hs,hc.2];simp only [AU,or_false];omega
 ·exact hc.2
end Ab
namespace Ab
open Go
def Df (D:ByteArray) (x:Seg):Prop:=DA x=0∧x.kind=1∧x.ses=0∧x.tot=D.size∧∀i,i<x.data.size→(bl x.data).getD i 0=(bl D).getD (x.off.toNat+i) 0
def Cov (l:List Seg) (t:Int):Prop:=∃x∈l,x.off≤t∧t<x.off+x.data.size
def R0:Rcv:=⟨0,-1,[],ByteArray.mk #[]⟩
structure Hd (D:ByteArray) (r:Rcv) (l:List Seg):Prop where
 ok:E6 r=0
 ses:r.ses=0
 tot:r.tot=if l=[] then -1 else (D.size:Int)
 mem:∀t,AU t r.known↔Cov l t
 get:∀i:Nat,Cov l (i:Int)→(bl r.data).getD i 0=(bl D).getD i 0
theorem Xx (D:ByteArray):Hd D R0 []:=⟨by decide,rfl,rfl,fun t=>⟨fun h=>h.elim,fun ⟨x,h,_⟩=>by cases h⟩,fun i ⟨x,h,_⟩=>by cases h⟩
theorem TB {l:List Seg} {x:Seg} {t:Int}:Cov (l++[x]) t↔Cov l t∨(x.off≤t∧t<x.off+x.data.size):=by
 unfold Cov;constructor
 ·rintro ⟨y,hy,h⟩
  rcases xK.1 hy with hy|hy
  ·exact .inl ⟨y,hy,h⟩
  ·simp only [xQ] at hy;subst hy;exact .inr h
 ·rintro (⟨y,hy,h⟩|h)
  ·exact ⟨y,List.mem_append_left _ hy,h⟩
  ·exact ⟨x,by simp,h⟩
theorem Eg {D:ByteArray} {x:Seg} (hx:Df D x):0≤x.off∧1≤x.data.size∧x.off+x.data.size≤D.size∧x.data.size≤16:=by obtain ⟨g1,g2,g3,g4,g5,g6,g7⟩:=Ed hx.1 hx.2.1;have:=hx.2.2.2.1;omega
theorem ZH {D:ByteArray} {l:List Seg} (hl:∀x∈l,Df D x) {t:Int} (h:Cov l t):0≤t∧t<D.size:=by obtain ⟨x,hx,h1,h2⟩:=h;have:=Eg (hl x hx);omega
theorem ND {D:ByteArray} {r:Rcv} {l:List Seg} {x:Seg} (h:Hd D r l) (hl:∀x∈l,Df D x) (hx:Df D x) (hD:D.size≤900):Es r x=true:=by
 obtain ⟨c1,c2,c3,c4⟩:=DU h.ok;obtain ⟨b1,b2,b3,b4⟩:=Eg hx;refine Du.2 ⟨hx.2.1,by rw [hx.2.2.1,h.ses],?_,fun i hi hm => ?_,?_⟩
 ·rw [h.tot,hx.2.2.2.1];by_cases hn:l=[]
  ·left;rw [if_pos hn]
  ·right;rw [if_neg hn]
 ·have:=h.get (x.off.toNat+i) (by rw [show ((x.off.toNat+i:Nat):Int)=x.off+(i:Int) by omega];exact (h.mem _).1 hm);rw [this,hx.2.2.2.2 i hi]
 ·have hs:BU [sp x]=0:=by
   rw [Ax];refine ⟨by simp,⟨?_,?_,trivial⟩,fun y hy => ?_⟩
   ·show -1152921504606846977<x.off;omega
   ·show x.off<x.off+x.data.size;omega
   ·simp only [xQ] at hy;subst hy;show x.off+x.data.size≤_;omega
  obtain ⟨u1,u2⟩:=J6 ((Ax _).1 c2.1).2.1 ((Ax _).1 hs).2.1;have hin:∀t,AU t (uni r.known [sp x])→0≤t∧t<D.size:=fun t m=>by
   rcases (u2 t).1 m with m|m
   ·exact ZH hl ((h.mem t).1 m)
   ·rw [Yk] at m;omega
  have hw:=G5 u1 hin;have hlen:((uni r.known [sp x]).length:Int)≤D.size-(-1):=by
   refine XG (b := -1) ?_ (by omega) (fun y hy=>(hw y hy).2);cases hu:uni r.known [sp x] with
   |nil=>trivial
   |cons y l'=>
    rw [hu] at u1 hw;exact ⟨by have:=(hw y vC).1;omega,u1.2.1,u1.2.2⟩
  unfold Ew;rw [if_pos ⟨c2.1,hs⟩,if_neg (by omega)]
theorem st_next {D:ByteArray} {r:Rcv} {l:List Seg} {x:Seg} (h:Hd D r l) (hl:∀x∈l,Df D x) (hx:Df D x) (hD:D.size≤900):Hd D (C6 r x) (l++[x]):=by
 have hs:=ND h hl hx hD;obtain ⟨b1,b2,b3,b4⟩:=Eg hx;refine ⟨Nn h.ok hx.1 hs,h.ses,?_,fun t => ?_,fun i hi => ?_⟩
 ·rw [if_neg (by simp)];exact hx.2.2.2.1
 ·rw [KZ hs,h.mem,TB]
 ·rw [Sb h.ok hx.1 hs];split
  ·rename_i hr;rw [hx.2.2.2.2 _ (by omega),show x.off.toNat+(i-x.off.toNat)=i by omega]
  ·rename_i hr;rcases TB.1 hi with hc|hc
   ·exact h.get i hc
   ·omega
theorem st_hear {D:ByteArray} {r:Rcv} {l:List Seg} {x:Seg} (h:Hd D r l) (hl:∀x∈l,Df D x) (hx:Df D x) (hD:D.size≤900):Fp r x=(C6 r x,if x.chk=true then [CI r x] else [],0):=by rw [Q6 h.ok hx.1,if_pos (ND h hl hx hD)]
end Ab
namespace Ab
open Go
theorem Wc {d:ByteArray} {p:Int×Int} (h:0≤p.1∧p.1<p.2∧p.2≤d.size) (i:Nat) (hi:i<(raw d 0 p).data.size):(bl (raw d 0 p).data).getD i 0=(bl d).getD ((raw d 0 p).off.toNat+i) 0:=by
 have hs:(raw d 0 p).data.size=p.2.toNat-p.1.toNat:=by simp only [raw,vJ];omega
 rw [hs] at hi;show (bl (d.extract p.1.toNat p.2.toNat)).getD i 0=(bl d).getD (p.1.toNat+i) 0;rw [Cf];simp [getD_eq_getElem?_getD,hi,getElem?_drop]
structure LB (d:ByteArray) (x:Seg):Prop where
 pc:Df d x
 sr:x.chk=false→x.ser=0
 cl:x.claims=[]
theorem Wa {d:ByteArray} {l:List Span} (h:Oo l d.size) (hd:1≤d.size∧d.size≤65536):∀x∈Cu d 0 l,LB d x∧x.chk=false:=by intro x hx;have hp:=Nb (ses:=0) h x hx;unfold Cu at hx;obtain ⟨y,hy,hx⟩:=vU.1 hx;obtain ⟨p,hpm,rfl⟩:=wJ.1 hx;have h1:=h y hy;have h2:=GP _ y.fro y.to (yE _) p hpm;exact ⟨⟨⟨YQ hp (by omega) hd,hp.kind,hp.ses_,hp.tot,fun i hi=>Wc (by omega) i hi⟩,fun _=>rfl,rfl⟩,rfl⟩
theorem Wr {d:ByteArray} {x:Seg} {ser:Int} (h:LB d x) (hc:x.chk=false) (hr:1≤ser∧ser≤1099511627776):LB d {x with ser:=ser,chk:=true}:=by
 obtain ⟨⟨h1,h2,h3,h4,h5⟩,h6,h7⟩:=h;obtain ⟨k1,k2,k3⟩:=E7 h1;refine ⟨⟨?_,h2,h3,h4,h5⟩,fun f=>(by cases f),h7⟩;have n:CW {x with ser:=ser,chk:=true}:=by unfold CW at k2 ⊢;have q:=k2.2.2.2 h2;exact ⟨k2.1,fun f=>absurd (h2.symm.trans f) (by decide),fun f=>absurd (h2.symm.trans f) (by decide),fun _=>⟨q.1,q.2.1,fun _=>hr,fun f=>by cases f⟩⟩
 have c:DD {x with ser:=ser,chk:=true}:=by unfold DD at k3 ⊢;exact ⟨fun f=>absurd (h2.symm.trans f) (by decide),fun f=>absurd (h2.symm.trans f) (by decide),fun _=>k3.2.2 h2⟩
 unfold DA;rw [if_neg (fun f=>f k1),if_neg (fun f=>f n),if_neg (fun f=>f c)]
structure Hg (d:ByteArray) (ser:Int) (l:List Seg):Prop where
 ex:∃pre x,l=pre++[x]∧x.chk=true∧x.ser=ser∧∀y∈pre,y.chk=false
 pc:∀x∈l,LB d x
 len:(l.length:Int)≤nB d
theorem batP {ser:Int} {d:ByteArray} {l:List Span} (h:Lu 0 ser d l=0):Hg d ser (Bh 0 ser d l):=by
 have hb:=OW h;have h0:=h;unfold Lu at h0;split at h0
 ·cases h0
 split at h0
 ·cases h0
 split at h0
 ·cases h0
 split at h0
 ·cases h0
 split at h0
 ·cases h0
 rename_i k1 k2 k3 k4 k5;have k4:inside l d.size=true:=by simpa using k4
 obtain ⟨g1,g2⟩:=Ld k4;have hn:=Va (ses:=0) g1 k5;obtain ⟨pre,x,hx⟩:∃pre x,Cu d 0 l=pre++[x]:=⟨_,_,(wU hn).symm⟩
 have hp:=Wa g1 (by omega);rw [hx] at hp;have e:Bh 0 ser d l=pre++[{x with ser:=ser,chk:=true}]:=by unfold Bh;rw [if_pos h,hx,FO]
 have hx2:=hp x (by simp);refine ⟨⟨pre,_,e,rfl,rfl,fun y hy=>(hp y (by simp [hy])).2⟩,?_,hb.len⟩;rw [e];intro y hy;rcases xK.1 hy with hy|hy
 ·exact (hp y (by simp [hy])).1
 ·rw [xQ] at hy;subst hy;exact Wr hx2.1 hx2.2 (by omega)
theorem Hg.last {d:ByteArray} {ser:Int} {l:List Seg} (h:Hg d ser l):Hg d ser (Br l):=by obtain ⟨⟨pre,x,rfl,h1,h2,h3⟩,h4,h5⟩:=h;rw [GX];exact ⟨⟨[],x,rfl,h1,h2,fun y hy=>by cases hy⟩,fun y hy=>h4 y (by simp at hy;simp [hy]),by simp;(unfold nB;omega)⟩
theorem LB.Ci {d:ByteArray} {x:Seg} (h:LB d x) {r:Int} (hr:1≤r∧r≤1000):Ci r x=((x.data.size:Int)+7+r) / r∧1≤Ci r x:=by
 have h1:=h.pc.1;have h2:=h.pc.2.1;have e:Ab.Ci r x=((x.data.size:Int)+7+r) / r:=by unfold Ab.Ci;rw [if_pos ⟨h1,hr.1,hr.2,h2⟩]
 refine ⟨e,?_⟩;rw [e,Int.le_ediv_iff_mul_le (by omega)];omega
theorem It {r:Int}:∀(l:List Seg) (t:Int),(∀x∈l,1≤Ci r x)→
  (BD r t l).Pairwise (fun a b=>a.at_<b.at_)∧(∀o∈BD r t l,t<o.at_∧o.at_≤Ah r t l∧o.seg∈l)∧t+(l.length:Int)≤Ah r t l
 |[],t,h=>⟨List.Pairwise.nil,(fun o ho=>by cases ho),by simp [Ah]⟩
 |x::l,t,h=>by
  have hx:=h x (by simp);obtain ⟨h1,h2,h3⟩:=It l (t+Ci r x) (fun y hy=>h y (by simp [hy]));refine ⟨?_,?_,?_⟩
  ·simp only [BD,wM];exact ⟨fun o ho=>(h2 o ho).1,h1⟩
  ·intro o ho;simp only [BD,xL] at ho;have hE:=IM r l (t+Ci r x);rcases ho with rfl|ho
   ·exact ⟨by simp only;omega,by simp only [Ah];omega,by simp⟩
   ·have:=h2 o ho;exact ⟨by omega,by simp only [Ah];omega,by simp [this.2.2]⟩
  ·simp only [Ah,xF];omega
end Ab
namespace Ab
open Go
theorem OI {l:List Span} {n:Int} (h:BU l=0) (hw:B8 l n) (hn:0≤n∧n≤300):l.length≤150:=by have hc:=((Ax _).1 h).2.1;have:=OQ (n:=n) (Jr hc hw) (by omega) (fun x hx=>(hw x hx).2);omega
structure Par where
 c:Con
 b:Int
 e:Int
 d:ByteArray
 ps:List Int
 lim:Int
 dk:List Span
structure POk (p:Par):Prop where
 con:ES p.c=0
 t:p.c.start≤p.b∧p.b≤p.e∧p.e≤p.c.fin
 sz:1≤p.d.size∧p.d.size≤300
 pk:∀x∈p.ps,-9223372036854775808≤x∧x≤9223372036854775807
 pl:p.ps.length≤1000
 bud:∀k:Int,1≤k→p.b+1+(k-1)*(2*p.c.rng+1)≤p.e→(nB p.d*k+2*k≤4990∨(p.e-p.b)+2*k≤4990)
theorem POk.rng {p:Par} (h:POk p):1≤p.c.rng∧p.c.rng≤1048576∧1≤p.c.rate∧p.c.rate≤1000∧0≤p.b∧p.b≤p.e∧p.e≤1099511627776-2*p.c.rng∧0≤p.c.loss∧p.c.loss≤16:=by obtain ⟨c1,c2⟩:=Dy h.con;unfold GR at c1;have:=h.t;omega
structure JV (d:ByteArray) (x:Seg):Prop where
 g:DA x=0
 kind:x.kind=2
 ses:x.ses=0
 tot:x.tot=d.size
theorem JV.cl {d:ByteArray} {x:Seg} (h:JV d x):BU x.claims=0∧B8 x.claims d.size:=by obtain ⟨k1,k2,k3⟩:=E7 h.g;unfold DD at k3;have hi:=(k3.2.1 h.kind).2.2;unfold inside at hi;have hi:=of_decide_eq_true hi;exact ⟨hi.1,h.tot ▸ (CP hi.1).1 hi.2⟩
theorem JV.few {d:ByteArray} {x:Seg} (h:JV d x) (hd:d.size≤300):x.claims.length≤150:=OI h.cl.1 h.cl.2 (by omega)
structure LA (p:Par) (s:Snd):Prop where
 c:s.c=p.c
 ses:s.ses=0
 data:s.data=p.d
 fin:s.fin=p.e
 ok:Hc s=0
 t:p.b+1+(s.ser-1)*(2*p.c.rng+1)≤s.busy
theorem LA.fo {p:Par} {s:Snd} (hp:POk p) (h:LA p s):FOk s∧s.acked.length≤150:=by have hf:=(Lo h.ok).1;obtain ⟨c1,c2,c3⟩:=DV hf;have hw:=(CP c3.1).1 c3.2;have hsz:=hp.sz;have:=OI c3.1 hw (by rw [h.data];omega);exact ⟨⟨hf,by omega⟩,this⟩
theorem LA.num {p:Par} {s:Snd} (hp:POk p) (h:LA p s):p.c.start≤s.busy∧s.busy≤p.e∧1≤s.ser∧s.ser<1099511627776∧p.b+1≤s.busy∧(s.ser-1)≤s.busy-p.b-1:=by have hn:=(h.fo hp).1.num;have hr:=hp.rng;have ht:=h.t;have hc:=h.c;have hfin:=h.fin;rw [hc] at hn;have h0:(s.ser-1)*1≤(s.ser-1)*(2*p.c.rng+1):=Int.mul_le_mul_of_nonneg_left (by omega) (by omega);omega
structure Inv (p:Par) (s:Ses):Prop where
 rd:s.dat.rng=p.c.rng
 rr:s.rep.rng=p.c.rng
 ps:s.picks=p.ps
 lim:s.limit=p.lim
 dk:s.dark=p.dk
 gd:Cw s.dat
 gr:Cw s.rep
 now:0≤s.now
 sn:LA p s.snd
 rc:∃hl,Hd p.d s.rcv hl∧∀x∈hl,Df p.d x
 fd:∀f∈s.dat.frames,LB p.d f.seg∧f.seg.ser≤s.snd.ser∧s.now≤f.arr∧f.arr≤p.e+2*p.c.rng∧(f.seg.chk=true→f.seg.ser=s.snd.ser→s.snd.busy+p.c.rng≤f.arr)
 fr:∀f∈s.rep.frames,JV p.d f.seg∧f.seg.ser≤s.snd.ser∧s.now≤f.arr∧f.arr≤p.e+4*p.c.rng∧(f.seg.ser=s.snd.ser→s.snd.busy+2*p.c.rng≤f.arr)
 pd:∀o∈s.pend,LB p.d o.seg∧s.now≤o.at_∧o.at_≤s.snd.busy∧o.seg.ser≤s.snd.ser∧(o.seg.chk=true→o.at_=s.snd.busy)
 po:s.pend.Pairwise (fun a b=>a.at_<b.at_)
 du:s.snd.st=1→s.now≤s.snd.due
 c1:s.entered=s.dat.sent+s.rep.sent
 c2:s.dat.sent=s.sent.length
 c3:s.rep.sent=s.told.length
 c4:(s.sent.length:Int)+s.pend.length≤s.snd.busy-p.b
 c5:(s.sent.length:Int)+s.pend.length≤nB p.d*s.snd.ser
 c6:(s.told.length:Int)+s.dat.frames.countP (fun f=>f.seg.chk)+2*s.pend.countP (fun o=>o.seg.chk)≤2*s.snd.ser
 l1:(s.dat.frames.length:Int)≤2*s.dat.sent
 l2:(s.rep.frames.length:Int)≤2*s.rep.sent
 ds:0≤s.dist∧s.dist≤s.entered
 kn:s.kno=true↔s.snd.st=2
 rv:s.rcvd=BQ s.rcv
def PGt (s:Ses):Prop:=∀o∈s.pend,s.now<o.at_
def DGt (s:Ses):Prop:=∀f∈s.dat.frames,s.now<f.arr
def RGt (s:Ses):Prop:=∀f∈s.rep.frames,s.now<f.arr
def UGt (s:Ses):Prop:=s.snd.st=1→s.now<s.snd.due
theorem Inv.bud {p:Par} {s:Ses} (hp:POk p) (h:Inv p s) {k:Nat} (hk:(k:Int)≤s.pend.length+s.dat.frames.countP (fun f=>f.seg.chk)) (hn:0<k→s.now≤1099511627776):Bud k s:=by
 have hs:=h.sn.num hp;have hb:=hp.bud s.snd.ser (by omega) (by have:=h.sn.t;omega);have:=h.c1;have:=h.c2;have:=h.c3;have:=h.c4;have:=h.c5;have:=h.c6;have:=h.l1;have:=h.l2;have:=h.gd.lost;have:=h.gr.lost;refine ⟨h.gd,h.gr,⟨h.now,hn⟩,by rw [h.ps];exact hp.pk,?_,?_,?_,?_,?_,?_,?_,?_,by rw [h.ps];exact hp.pl⟩
 ·refine ⟨by omega,?_⟩;rcases hb with hb|hb<;>omega
 all_goals have:=h.ds;omega
end Ab
namespace Ab
open Go
theorem MP {α:Type} (g:α→Bool) (b:α) (q:α→Bool):∀l:List α,(Ji g b l).countP q=l.countP q+(if q b=true then 1 else 0)
 |[]=>by simp [Ji,vP]
 |x::l=>by
  unfold Ji;split
  ·simp only [vP]
  ·simp only [vP,MP g b q l];omega
theorem MJ (t num:Int) (x:Seg):∀(ds:List Int) (fs:List Frame),(Mh t num x ds fs).countP (fun f=>f.seg.chk)=fs.countP (fun f=>f.seg.chk)+(if x.chk=true then ds.length else 0)
 |[],fs=>by simp [Mh]
 |d::ds,fs=>by show (Mh t num x ds (Le t num x fs d)).countP _=_;rw [MJ t num x ds];unfold Le;rw [MP];simp only [xF];split<;>omega
theorem Inv.del {p:Par} {s:Ses} (hp:POk p) (h:Inv p s):(∀d∈(DF s p.c.rng).1,p.c.rng≤d∧d≤2*p.c.rng)∧(DF s p.c.rng).1.length≤2∧s.dist≤(DF s p.c.rng).2∧(DF s p.c.rng).2≤s.dist+1:=RK hp.rng.1
theorem Inv.tx {p:Par} {s:Ses} (hp:POk p) (h:Inv p s) {o:Out} {l:List Out} (hpd:s.pend=o::l) (ho:o.at_=s.now):Inv p {D4 s o.seg with pend:=l}:=by
 have hr:=hp.rng;have hn:=h.sn.num hp;obtain ⟨o1,o2,o3,o4,o5⟩:=h.pd o (by rw [hpd];simp);obtain ⟨d1,d2,d3,d4⟩:=h.del hp;have hb:=h.bud hp (k:=0+1) (by rw [hpd];simp;omega) (fun _=>by omega);have hB:=hb.D4 o.seg;have c1:=h.c1;have c2:=h.c2;have c3:=h.c3;have c4:=h.c4;have c5:=h.c5;have c6:=h.c6;have l1:=h.l1;have l2:=h.l2;have hds:=h.ds;rw [hpd] at c4 c5 c6;simp only [xF,vP] at c4 c5 c6;have hrd:=h.rd;refine ⟨h.rd,h.rr,h.ps,h.lim,h.dk,hB.gd,hB.gr,h.now,h.sn,h.rc,fun f hf => ?_,h.fr,fun x hx=>h.pd x (by rw [hpd];simp [hx]),?_,h.du,?_,?_,h.c3,?_,?_,?_,?_,h.l2,?_,h.kn,h.rv⟩
 ·simp only [D4,CX] at hf;rcases D7.1 hf with hf|⟨d,hd,rfl⟩
  ·exact h.fd f hf
  ·rw [hrd] at hd;have:=d1 d hd;refine ⟨o1,o4,?_,?_,fun hc hs => ?_⟩
   ·simp only [D4];omega
   ·simp only;omega
   ·have:=o5 hc;simp only [D4];omega
 ·have:=h.po;rw [hpd] at this;exact (wM.1 this).2
 ·simp only [D4,CX];omega
 ·simp only [D4,CX,xE,xF,zV];omega
 ·simp only [D4,xE,xF,zV];omega
 ·simp only [D4,xE,xF,zV];omega
 ·simp only [D4,CX,MJ,hrd];split
  ·rename_i hc;rw [if_pos hc] at c6;omega
  ·rename_i hc;rw [if_neg hc] at c6;omega
 ·simp only [D4,CX,Gj,hrd];omega
 ·simp only [D4,hrd];omega
theorem Inv.Vq {p:Par} {s:Ses} (hp:POk p) (h:Inv p s) {x:Seg} (hx:LB p.d x):Fp s.rcv x=(C6 s.rcv x,if x.chk=true then [CI s.rcv x] else [],0)∧(∃hl,Hd p.d (C6 s.rcv x) hl∧∀y∈hl,Df p.d y)∧(x.chk=true→JV p.d (CI s.rcv x))∧(∀t,AU t (C6 s.rcv x).known↔AU t s.rcv.known∨(x.off≤t∧t<x.off+x.data.size))∧(BQ s.rcv=true→BQ (C6 s.rcv x)=true)∧(CI s.rcv x).claims=(C6 s.rcv x).known:=by
 obtain ⟨hl,h1,h2⟩:=h.rc;have hsz:=hp.sz;have hs:=ND h1 h2 hx.pc (by omega);have he:=st_hear h1 h2 hx.pc (by omega);refine ⟨he,⟨hl++[x],st_next h1 h2 hx.pc (by omega),fun y hy => ?_⟩,fun hc=>⟨TF h1.ok hx.pc.1 hs hc,rfl,h1.ses,hx.pc.2.2.2.1⟩,KZ hs,fun hc => ?_,rfl⟩
 ·rcases xK.1 hy with hy|hy
  ·exact h2 y hy
  ·rw [xQ] at hy;subst hy;exact hx.pc
 ·have:=Nz h1.ok hx.pc.1 hc;rw [he] at this;exact this
theorem VU {p:Par} {s:Ses} (h:Inv p {s with rcvd:=BQ s.rcv}) (hr:s.rcvd=true→BQ s.rcv=true):Inv p (rxF s):=by
 unfold rxF;split
 ·rename_i hc;rw [hc.2] at h;exact {h with}
 ·rename_i hc;have e:s.rcvd=BQ s.rcv:=by
   cases h1:s.rcvd with
   |true=>exact (hr h1).symm
   |false=>
    cases h2:BQ s.rcv with
    |false=>rfl
    |true=>exact (hc ⟨h1,h2⟩).elim
  rw [← e] at h;exact h
theorem Inv.rx {p:Par} {s:Ses} (hp:POk p) (h:Inv p s) {f:Frame} {l:List Frame} (hf:s.dat.frames=f::l) (ha:f.arr=s.now):Inv p (rxX (By s) f.seg):=by
 have hr:=hp.rng;have hn:=h.sn.num hp;obtain ⟨f1,f2,f3,f4,f5⟩:=h.fd f (by rw [hf];simp);obtain ⟨e1,e2,e3,e4,e5,e6⟩:=h.Vq hp f1;have c1:=h.c1;have c2:=h.c2;have c3:=h.c3;have c4:=h.c4;have c5:=h.c5;have c6:=h.c6;have l1:=h.l1;have l2:=h.l2;have hds:=h.ds;have hrr:=h.rr;have hpop:(By s).rcv=s.rcv:=rfl;unfold rxX rxH;rw [hpop,e1];simp only;have hfr:s.dat.frames.tail=l:=by rw [hf];rfl
 rw [hf] at c6 l1;simp only [xF,vP] at c6 l1;by_cases hc:f.seg.chk=true
 ·rw [if_pos hc];simp only [vQ,List.foldl_nil];rw [if_pos hc] at c6;have hrep:=e3 hc;have hb:=h.bud hp (k:=0+1) (by rw [hf];simp only [vP,hc,if_true];omega) (fun _=>by omega);have hb2:Bud (0+1) {By s with rcv:=C6 s.rcv f.seg}:=hb.By.of rfl rfl rfl rfl rfl rfl rfl rfl;have hB:=hb2.DQ (CI s.rcv f.seg);obtain ⟨d1,d2,d3,d4⟩:=RK (s:={By s with rcv:=C6 s.rcv f.seg}) (R:=p.c.rng) hr.1;refine VU ⟨h.rd,h.rr,h.ps,h.lim,h.dk,hB.gd,hB.gr,h.now,h.sn,e2,fun x hx=>h.fd x (by rw [hf];simp only [DQ,By,hfr] at hx;simp [hx]),fun x hx => ?_,h.pd,h.po,h.du,?_,h.c2,?_,h.c4,h.c5,?_,?_,?_,?_,h.kn,rfl⟩ (fun hq=>e5 (by rw [← h.rv];exact hq))
  ·simp only [DQ,CX,By] at hx;rcases D7.1 hx with hx|⟨d,hd,rfl⟩
   ·exact h.fr x hx
   ·have:=d1 d (by simpa only [By,hrr] using hd);have hser:(CI s.rcv f.seg).ser=f.seg.ser:=rfl;refine ⟨hrep,by rw [hser];exact f2,?_,?_,fun hs => ?_⟩
    ·simp only [DQ,By];omega
    ·simp only;omega
    ·have:=f5 hc (by rw [← hser];exact hs);simp only [DQ,By];omega
  ·simp only [DQ,CX,By];omega
  ·simp only [DQ,CX,By,xE,xF,zV];omega
  ·simp only [DQ,CX,By,hfr,xE,xF,zV];omega
  ·simp only [DQ,By,hfr];omega
  ·simp only [DQ,CX,By,Gj,hrr];simp only [By] at d2;omega
  ·simp only [DQ,By,hrr];simp only [By] at d3 d4;omega
 ·rw [if_neg hc];simp only [List.foldl_nil];rw [if_neg hc] at c6;refine VU ⟨h.rd,h.rr,h.ps,h.lim,h.dk,F8 h.gd,h.gr,h.now,h.sn,e2,fun x hx=>h.fd x (by rw [hf];simp only [By,hfr] at hx;simp [hx]),h.fr,h.pd,h.po,h.du,h.c1,h.c2,h.c3,h.c4,h.c5,?_,?_,h.l2,h.ds,h.kn,rfl⟩ (fun hq=>e5 (by rw [← h.rv];exact hq))
  ·simp only [By,hfr];omega
  ·simp only [By,hfr];omega
end Ab
namespace Ab
open Go
structure Oq (p:Par) (s q:Snd):Prop where
 fo:FOk q
 c:q.c=p.c
 ses:q.ses=0
 data:q.data=p.d
 fin:q.fin=p.e
 ser:q.ser=s.ser
 busy:q.busy=s.busy
theorem LA.ack {p:Par} {s:Snd} {x:Seg} (hp:POk p) (h:LA p s) (hx:JV p.d x):Oq p s (BO s x)∧(∀t,AU t (BO s x).acked↔AU t s.acked∨AU t x.claims):=by obtain ⟨h1,h2⟩:=h.fo hp;have hd:=hp.sz;have hf:=hx.few hd.2;have hk:=WD h1 (by omega) ⟨hx.g,by omega⟩ hx.kind (by rw [hx.tot,h.data]);have hw:=h1.win;rw [h.data] at hw;obtain ⟨u1,u2,u3⟩:=Xe h1.ack hx.cl.1 hw hx.cl.2 (by omega) (by omega);exact ⟨⟨hk,h.c,h.ses,h.data,h.fin,rfl,rfl⟩,u3⟩
theorem Oq.bat {p:Par} {s q:Snd} (hp:POk p) (h:LA p s) (hq:Oq p s q) (hc:complete q=false):Hg p.d (s.ser+1) (Aa q):=by have hn:=h.num hp;have hb:=hq.fo.bat hc (by rw [hq.ser];omega);unfold Aa;rw [hq.ses,hq.data,hq.ser] at *;exact batP hb
theorem Oq.send {p:Par} {s q:Snd} {l:List Seg} {t:Int} (hp:POk p) (h:LA p s) (hq:Oq p s q) (hc:complete q=false) (hl:Hg p.d (s.ser+1) l) :
  (p.e<Ah p.c.rate t l∧CK q t l=(De q,[]))∨(Ah p.c.rate t l≤p.e∧CK q t l=(BJ q (Ah p.c.rate t l) (s.ser+1),BD p.c.rate t l)):=by
 have hn:=h.num hp;obtain ⟨pre,x,e,h1,h2,h3⟩:=hl.ex;have hlast:l.getLast? = some x:=by rw [e];exact wX ..
 unfold CK;rw [hlast];simp only;rw [hq.fin,hq.c,h2];by_cases hb:p.e<Ah p.c.rate t l
 ·exact .inl ⟨hb,by rw [if_pos (.inl hb)]⟩
 ·exact .inr ⟨by omega,by rw [if_neg (by omega)]⟩
inductive LsR (p:Par) (s:Ses) (x:Seg):Ses→Prop
 |busy:s.now<s.snd.busy→LsR p s x s
 |same:¬s.now<s.snd.busy→s.snd.st≠1∨x.ser≠s.snd.ser→LsR p s x s
 |done:¬s.now<s.snd.busy→s.snd.st=1→x.ser=s.snd.ser→complete (BO s.snd x)=true→LsR p s x {s with snd:={BO s.snd x with due:=0,st:=2},kno:=true,knoAt:=s.now}
 |fail:¬s.now<s.snd.busy→s.snd.st=1→x.ser=s.snd.ser→complete (BO s.snd x)=false→p.e<Ah p.c.rate s.now (Aa (BO s.snd x))→LsR p s x {s with snd:=De (BO s.snd x)}
 |send:¬s.now<s.snd.busy→s.snd.st=1→x.ser=s.snd.ser→complete (BO s.snd x)=false→Ah p.c.rate s.now (Aa (BO s.snd x))≤p.e→
   LsR p s x {s with snd:=BJ (BO s.snd x) (Ah p.c.rate s.now (Aa (BO s.snd x))) (s.snd.ser+1),pend:=BD p.c.rate s.now (Aa (BO s.snd x))}
theorem LA.Bx {p:Par} {s:Snd} {x:Seg} {t:Int} (hp:POk p) (h:LA p s) (hx:JV p.d x) (ht:s.busy≤t∧t≤2199023255552) :
  ((s.st≠1∨x.ser≠s.ser)→Bx s t x=(s,[],0))∧(s.st=1→x.ser=s.ser→complete (BO s x)=true→Bx s t x=({BO s x with due:=0,st:=2},[],0))∧
  (s.st=1→x.ser=s.ser→complete (BO s x)=false→Bx s t x=((CK (BO s x) t (Aa (BO s x))).1,(CK (BO s x) t (Aa (BO s x))).2,0)):=by
 have hk:=hx.kind;have hses:x.ses=s.ses:=by rw [hx.ses,h.ses]
 have htot:x.tot=s.data.size:=by rw [hx.tot,h.data]
 have hg:=hx.g;have hok:=h.ok;refine ⟨fun hq => ?_,fun h1 h2 h3 => ?_,fun h1 h2 h3 => ?_⟩
 ·unfold Ab.Bx;rw [if_neg (by omega),if_neg (by omega)];rcases hq with hq|hq
  ·rw [if_pos (.inl hq)]
  ·by_cases hst:s.st=1
   ·rw [if_neg (by omega),if_neg (by omega)];unfold H3;rw [if_pos (.inl hq)]
   ·rw [if_pos (.inl hst)]
 ·unfold Ab.Bx;rw [if_neg (by omega),if_neg (by omega),if_neg (by omega),if_neg (by omega)];unfold H3;rw [if_neg (by omega),if_pos h3]
 ·unfold Ab.Bx;rw [if_neg (by omega),if_neg (by omega),if_neg (by omega),if_neg (by omega)];unfold H3;rw [if_neg (by omega),if_neg (by rw [h3];simp)]
theorem DN {p:Par} {s:Ses} (h:Inv p s) (hg:PGt s) (hb:¬s.now<s.snd.busy):s.pend=[]:=by
 cases hp:s.pend with
 |nil=>rfl
 |cons o l=>
  have h1:=h.pd o (by rw [hp];simp);have h2:=hg o (by rw [hp];simp);omega
theorem Inv.lsR {p:Par} {s:Ses} (hp:POk p) (h:Inv p s) (hg:PGt s) {f:Frame} {l:List Frame} (hf:s.rep.frames=f::l) (ha:f.arr=s.now) :
  LsR p (B7 s) f.seg (lsX (B7 s) f.seg)∧(¬s.now<s.snd.busy→(Bx s.snd s.now f.seg).2.2=0∧(Bx s.snd s.now f.seg).2.1.length≤1000000):=by
 have hr:=hp.rng;obtain ⟨f1,f2,f3,f4,f5⟩:=h.fr f (by rw [hf];simp);by_cases hb:s.now<s.snd.busy
 ·refine ⟨?_,fun q=>(q hb).elim⟩;have e:lsX (B7 s) f.seg=B7 s:=if_pos hb;rw [e];exact .busy hb
 ·have hpn:=DN h hg hb;obtain ⟨k1,k2,k3⟩:=h.sn.Bx hp f1 (t:=s.now) (by omega);have e:lsX (B7 s) f.seg=lsF {B7 s with snd:=(Bx s.snd s.now f.seg).1,pend:=s.pend++(Bx s.snd s.now f.seg).2.1}:=if_neg hb;rw [e,hpn];by_cases hq:s.snd.st≠1∨f.seg.ser≠s.snd.ser
  ·rw [k1 hq];refine ⟨?_,fun _=>⟨rfl,by simp⟩⟩;have e2:lsF {B7 s with snd:=s.snd,pend:=[]++[]}=B7 s:=by
    unfold lsF;rw [if_neg]
    ·simp only [B7,hpn,yW]
    ·rintro ⟨q1,q2⟩
     have:=h.kn.2 q2;rw [show (B7 s).kno=s.kno from rfl] at q1;rw [q1] at this;cases this
   simp only;rw [e2];exact .same hb hq
  ·have hst:s.snd.st=1:=by omega
   have hser:f.seg.ser=s.snd.ser:=by omega
   have hk:s.kno=false:=by
    cases hkk:s.kno with
    |false=>rfl
    |true=>have:=h.kn.1 hkk;omega
   cases hc:complete (BO s.snd f.seg) with
   |true=>
    rw [k2 hst hser hc];refine ⟨?_,fun _=>⟨rfl,by simp⟩⟩;have e2:lsF {B7 s with snd:={BO s.snd f.seg with due:=0,st:=2},pend:=[]++[]}={B7 s with snd:={BO s.snd f.seg with due:=0,st:=2},kno:=true,knoAt:=s.now}:=by unfold lsF;rw [if_pos ⟨hk,rfl⟩];simp only [B7,hpn,yW]
    simp only;rw [e2];exact .done hb hst hser hc
   |false=>
    rw [k3 hst hser hc];obtain ⟨hQ,_⟩:=h.sn.ack hp f1;have hB:=hQ.bat hp h.sn hc;have hlen:=hB.len;unfold nB at hlen;have hsz:=hp.sz;rcases hQ.send (t:=s.now) hp h.sn hc hB with ⟨g1,g2⟩|⟨g1,g2⟩
    ·rw [g2];refine ⟨?_,fun _=>⟨rfl,by simp⟩⟩;have e2:lsF {B7 s with snd:=De (BO s.snd f.seg),pend:=[]++[]}={B7 s with snd:=De (BO s.snd f.seg)}:=by unfold lsF;rw [if_neg (by simp [De])];simp only [B7,hpn,yW]
     simp only;rw [e2];exact .fail hb hst hser hc g1
    ·rw [g2];refine ⟨?_,fun _=>⟨rfl,by simp only [CL];omega⟩⟩;have e2:lsF {B7 s with snd:=BJ (BO s.snd f.seg) (Ah p.c.rate s.now (Aa (BO s.snd f.seg))) (s.snd.ser+1),pend:=[]++BD p.c.rate s.now (Aa (BO s.snd f.seg))}={B7 s with snd:=BJ (BO s.snd f.seg) (Ah p.c.rate s.now (Aa (BO s.snd f.seg))) (s.snd.ser+1),pend:=BD p.c.rate s.now (Aa (BO s.snd f.seg))}:=by unfold lsF;rw [if_neg (by simp [BJ]),xR]
     simp only;rw [e2];exact .send hb hst hser hc g1
end Ab
namespace Ab
open Go
theorem Hg.outs {d:ByteArray} {ser r t:Int} {l:List Seg} (h:Hg d ser l) (hr:1≤r∧r≤1000) (hs:0≤ser) :
  (BD r t l).Pairwise (fun a b=>a.at_<b.at_)∧(∀o∈BD r t l,LB d o.seg∧t<o.at_∧o.at_≤Ah r t l∧o.seg.ser≤ser∧(o.seg.chk=true→o.at_=Ah r t l∧o.seg.ser=ser))∧t+(l.length:Int)≤Ah r t l∧(BD r t l).countP (fun o=>o.seg.chk)=1∧1≤l.length:=by
 obtain ⟨h1,h2,h3⟩:=It (r:=r) l t (fun x hx=>((h.pc x hx).Ci hr).2);obtain ⟨pre,x,e,e1,e2,e3⟩:=h.ex;have hc:∀o∈BD r t pre,o.seg.chk=false:=fun o ho=>by have:o.seg∈(BD r t pre).map Out.seg:=vV ho;rw [EV] at this;exact e3 _ this
 refine ⟨h1,fun o ho => ?_,h3,?_,by rw [e];simp⟩
 ·obtain ⟨k1,k2,k3⟩:=h2 o ho;have hsp:=h.pc _ k3;rw [e,Dm] at ho;rcases xK.1 ho with ho|ho
  ·have:=hc o ho;refine ⟨hsp,k1,k2,?_,fun q=>by rw [this] at q;cases q⟩;rw [hsp.sr this];exact hs
  ·rw [xQ] at ho;subst ho;refine ⟨hsp,k1,k2,by simp only;omega,fun _=>⟨by rw [e],e2⟩⟩
 ·rw [e,Dm,List.countP_append,List.countP_eq_zero.2 (fun o ho=>by rw [hc o ho];simp)];simp [e1]
theorem Inv.B7 {p:Par} {s:Ses} (h:Inv p s):Inv p (B7 s):=
 {h with
  gr:=F8 h.gr
  fr:=fun f hf=>h.fr f (List.mem_of_mem_tail hf)
  l2:=by have:=h.l2;simp only [Ab.B7,List.length_tail];omega}
theorem Inv.send {p:Par} {s:Ses} (hp:POk p) (h:Inv p s) {q:Snd} {l:List Seg} (hpn:s.pend=[]) (hq:Oq p s.snd q) (hc:complete q=false) (hl:Hg p.d (s.snd.ser+1) l) (hst:s.snd.st=1) (hnow:s.snd.busy+2*p.c.rng≤s.now) (he:Ah p.c.rate s.now l≤p.e) :
  Inv p {s with snd:=BJ q (Ah p.c.rate s.now l) (s.snd.ser+1),pend:=BD p.c.rate s.now l}:=by
 have hr:=hp.rng;have hn:=h.sn.num hp;obtain ⟨o1,o2,o3,o4,o5⟩:=hl.outs (t:=s.now) ⟨hr.2.2.1,hr.2.2.2.1⟩ (by omega);have hsz:=hp.sz;have hlen:=hl.len;have c4:=h.c4;have c5:=h.c5;have c6:=h.c6;rw [hpn] at c4 c5 c6;simp only [zV,List.countP_nil,vN,Int.add_zero,Int.mul_zero] at c4 c5 c6;have ht:=h.sn.t;have hcs:=hp.t;have hm1:(s.snd.ser+1-1)*(2*p.c.rng+1)=(s.snd.ser-1)*(2*p.c.rng+1)+(2*p.c.rng+1):=by rw [show s.snd.ser+1-1=(s.snd.ser-1)+1 by omega,Int.add_mul,Int.one_mul]
 have hm2:nB p.d*(s.snd.ser+1)=nB p.d*s.snd.ser+nB p.d:=by rw [Int.mul_add,Int.mul_one]
 have hk:s.kno=false:=by
  cases hkk:s.kno with
  |false=>rfl
  |true=>have:=h.kn.1 hkk;omega
 have hqf:=hq.fo.f;have hok:Hc (BJ q (Ah p.c.rate s.now l) (s.snd.ser+1))=0:=VN hqf hc (by rw [hq.c,hq.fin];omega) (by omega);refine ⟨h.rd,h.rr,h.ps,h.lim,h.dk,h.gd,h.gr,h.now,⟨hq.c,hq.ses,hq.data,hq.fin,hok,?_⟩,h.rc,fun f hf => ?_,fun f hf => ?_,fun o ho => ?_,o1,fun _ => ?_,h.c1,h.c2,h.c3,?_,?_,?_,h.l1,h.l2,h.ds,?_,h.rv⟩
 ·simp only [BJ];omega
 ·obtain ⟨f1,f2,f3,f4,f5⟩:=h.fd f hf;exact ⟨f1,by simp only [BJ];omega,f3,f4,fun _ hs=>by simp only [BJ] at hs;omega⟩
 ·obtain ⟨f1,f2,f3,f4,f5⟩:=h.fr f hf;exact ⟨f1,by simp only [BJ];omega,f3,f4,fun hs=>by simp only [BJ] at hs;omega⟩
 ·obtain ⟨k1,k2,k3,k4,k5⟩:=o2 o ho;exact ⟨k1,by simp only;omega,by simp only [BJ];omega,by simp only [BJ];omega,fun hcc=>(k5 hcc).1⟩
 ·simp only [BJ,hq.c];omega
 ·simp only [BJ,CL];omega
 ·simp only [BJ,CL];omega
 ·simp only [BJ,o4];omega
 ·simp only [BJ,hk];simp
theorem Inv.turn {p:Par} {s:Ses} (h:Inv p s) {q:Snd} (hq:Oq p s.snd q) (st due:Int) (hst:st≠1) (hok:Hc {q with due:=due,st:=st}=0) (kno:Bool) (t:Int) (hk:kno=true↔st=2) :
  Inv p {s with snd:={q with due:=due,st:=st},kno:=kno,knoAt:=t}:=by
 refine ⟨h.rd,h.rr,h.ps,h.lim,h.dk,h.gd,h.gr,h.now,⟨hq.c,hq.ses,hq.data,hq.fin,hok,?_⟩,h.rc,fun f hf => ?_,fun f hf => ?_,fun o ho => ?_,h.po,fun q=>(hst q).elim,h.c1,h.c2,h.c3,?_,?_,?_,h.l1,h.l2,h.ds,hk,h.rv⟩
 ·simp only [hq.ser,hq.busy];exact h.sn.t
 ·simp only [hq.ser,hq.busy];exact h.fd f hf
 ·simp only [hq.ser,hq.busy];exact h.fr f hf
 ·simp only [hq.ser,hq.busy];exact h.pd o ho
 ·simp only [hq.busy];exact h.c4
 ·simp only [hq.ser];exact h.c5
 ·simp only [hq.ser];exact h.c6
theorem Inv.ls {p:Par} {s s':Ses} (hp:POk p) (h:Inv p s) (hg:PGt s) {f:Frame} {l:List Frame} (hf:s.rep.frames=f::l) (ha:f.arr=s.now) (hs:LsR p (Ab.B7 s) f.seg s'):Inv p s':=by
 have hI:=h.B7;obtain ⟨f1,f2,f3,f4,f5⟩:=h.fr f (by rw [hf];simp);obtain ⟨hQ,_⟩:=h.sn.ack hp f1;have hkf:s.snd.st=1→s.kno=false:=fun q=>by
  cases hkk:s.kno with
  |false=>rfl
  |true=>have:=h.kn.1 hkk;omega
 cases hs with
 |busy _=>exact hI
 |same _ _=>exact hI
 |done h1 h2 h3 h4=>exact hI.turn hQ 2 0 (by decide) (done_ok hQ.fo.f h4) true s.now (by simp)
 |fail h1 h2 h3 h4 h5=>
  have:=hI.turn hQ 3 0 (by decide) (V4 hQ.fo.f) s.kno s.knoAt (by rw [hkf h2];simp);exact this
 |send h1 h2 h3 h4 h5=>
  have hb:=f5 h3;have hpn0:=DN (s:=s) h hg h1;have hpn:(Ab.B7 s).pend=[]:=hpn0;exact hI.send hp hpn hQ h4 (hQ.bat hp h.sn h4) h2 (by show s.snd.busy+2*p.c.rng≤s.now;omega) h5
inductive ExR (p:Par) (s:Ses):Ses→Prop
 |same:¬(s.snd.st=1∧s.snd.due=s.now)→ExR p s s
 |fail:s.snd.st=1→s.snd.due=s.now→p.e<Ah p.c.rate s.now (Br (Aa s.snd))→ExR p s {s with snd:=De s.snd}
 |send:s.snd.st=1→s.snd.due=s.now→complete s.snd=false→Ah p.c.rate s.now (Br (Aa s.snd))≤p.e→
   ExR p s {s with snd:=BJ s.snd (Ah p.c.rate s.now (Br (Aa s.snd))) (s.snd.ser+1),pend:=BD p.c.rate s.now (Br (Aa s.snd))}
theorem LA.q {p:Par} {s:Snd} (hp:POk p) (h:LA p s):Oq p s s:=⟨(h.fo hp).1,h.c,h.ses,h.data,h.fin,rfl,rfl⟩
theorem Inv.due {p:Par} {s:Ses} (h:Inv p s) (h1:s.snd.st=1):complete s.snd=false∧s.snd.due=s.snd.busy+2*p.c.rng+1:=by have:=P4 h.sn.ok h1;rw [h.sn.c] at this;exact this
theorem Inv.exR {p:Par} {s:Ses} (hp:POk p) (h:Inv p s) (hg:PGt s):ExR p s (exS s)∧(s.snd.st=1→s.snd.due=s.now→(DY s.snd s.now).2.2=0∧(DY s.snd s.now).2.1.length≤1000000):=by
 by_cases hq:s.snd.st=1∧s.snd.due=s.now
 ·obtain ⟨h1,h2⟩:=hq;obtain ⟨d1,d2⟩:=h.due h1;have hr:=hp.rng;have hn:=h.sn.num hp;have hsz:=hp.sz;have hpn:=DN h hg (by omega);have hQ:=h.sn.q hp;have hB:=(hQ.bat hp h.sn d1).last;have hw:DY s.snd s.now=((CK s.snd s.now (Br (Aa s.snd))).1,(CK s.snd s.now (Br (Aa s.snd))).2,0):=by unfold DY;rw [if_neg (by have:=h.sn.ok;omega),if_neg (by omega),if_neg (by omega)]
  have e:exS s={s with snd:=(DY s.snd s.now).1,pend:=s.pend++(DY s.snd s.now).2.1}:=if_pos ⟨h1,h2⟩;have hlen:=hB.len;unfold nB at hlen;rw [e,hw,hpn];rcases hQ.send (t:=s.now) hp h.sn d1 hB with ⟨g1,g2⟩|⟨g1,g2⟩
  ·rw [g2];refine ⟨?_,fun _ _=>⟨rfl,by simp⟩⟩;have e2:{s with snd:=De s.snd,pend:=[]++[]}={s with snd:=De s.snd}:=by simp only [hpn,yW]
   simp only;rw [e2];exact .fail h1 h2 g1
  ·rw [g2];refine ⟨?_,fun _ _=>⟨rfl,by simp only [CL];omega⟩⟩;simp only [xR];exact .send h1 h2 d1 g1
 ·have e:exS s=s:=if_neg hq;rw [e];exact ⟨.same hq,fun a b=>(hq ⟨a,b⟩).elim⟩
theorem Inv.ex {p:Par} {s s':Ses} (hp:POk p) (h:Inv p s) (hg:PGt s) (hs:ExR p s s'):Inv p s':=by
 have hQ:=h.sn.q hp;have hkf:s.snd.st=1→s.kno=false:=fun q=>by
  cases hkk:s.kno with
  |false=>rfl
  |true=>have:=h.kn.1 hkk;omega
 cases hs with
 |same _=>exact h
 |fail h1 h2 h3=>
  have:=h.turn hQ 3 0 (by decide) (V4 hQ.fo.f) s.kno s.knoAt (by rw [hkf h1];simp);exact this
 |send h1 h2 h3 h4=>
  obtain ⟨d1,d2⟩:=h.due h1;have hr:=hp.rng;exact h.send hp (DN h hg (by omega)) hQ h3 (hQ.bat hp h.sn h3).last h1 (by omega) h4
end Ab
namespace Ab
open Go
inductive Mic (p:Par):Ses→Ses→Prop
 |time (s:Ses) (t:Int):Inv p s→PGt s→DGt s→RGt s→UGt s→nxS s=some t→Mic p s {s with now:=t}
 |tx (s:Ses) (o:Out) (l:List Out):Inv p s→s.pend=o::l→o.at_=s.now→Mic p s {D4 s o.seg with pend:=l}
 |rx (s:Ses) (f:Frame) (l:List Frame):Inv p s→PGt s→s.dat.frames=f::l→f.arr=s.now→Mic p s (rxX (By s) f.seg)
 |ls (s s':Ses) (f:Frame) (l:List Frame):Inv p s→PGt s→DGt s→s.rep.frames=f::l→f.arr=s.now→LsR p (B7 s) f.seg s'→Mic p s s'
 |ex (s s':Ses):Inv p s→PGt s→DGt s→RGt s→ExR p s s'→Mic p s s'
inductive Reach (p:Par) (s:Ses):Ses→Prop
 |refl:Reach p s s
 |step {t u:Ses}:Reach p s t→Mic p t u→Reach p s u
theorem Reach.trans {p:Par} {a b c:Ses} (h:Reach p a b) (k:Reach p b c):Reach p a c:=by
 induction k with
 |refl=>exact h
 |step _ m ih=>exact ih.step m
theorem Reach.one {p:Par} {a b:Ses} (m:Mic p a b):Reach p a b:=Reach.refl.step m
theorem Kc {a b:Option Int} {t:Int} (h:Dn a b=some t):(∀x,a=some x→t≤x)∧(∀x,b=some x→t≤x)∧(a=some t∨b=some t):=by
 cases a with
 |none=>
  simp only [Dn] at h;subst h;exact ⟨fun x hx=>(by cases hx),fun x hx=>(by cases hx;omega),.inr rfl⟩
 |some a=>
  cases b with
  |none=>
   simp only [Dn] at h;cases h;exact ⟨fun x hx=>(by cases hx;omega),fun x hx=>(by cases hx),.inl rfl⟩
  |some b=>
   simp only [Dn,Option.some.injEq] at h;split at h
   ·subst h;exact ⟨fun x hx=>(by cases hx;omega),fun x hx=>(by cases hx;omega),.inr rfl⟩
   ·subst h;exact ⟨fun x hx=>(by cases hx;omega),fun x hx=>(by cases hx;omega),.inl rfl⟩
theorem Fx {a b:Option Int} (h:Dn a b=none):a=none∧b=none:=by
 cases a with
 |none=>cases b with
  |none=>exact ⟨rfl,rfl⟩
  |some b=>simp [Dn] at h
 |some a=>cases b<;>simp [Dn] at h
theorem Yd {p:Par} {s:Ses} {t:Int} (h:Inv p s) (ht:nxS s=some t) :
  (∀o∈s.pend,t≤o.at_)∧(∀f∈s.dat.frames,t≤f.arr)∧(∀f∈s.rep.frames,t≤f.arr)∧(s.snd.st=1→t≤s.snd.due)∧
  ((∃o∈s.pend,o.at_=t)∨(∃f∈s.dat.frames,f.arr=t)∨(∃f∈s.rep.frames,f.arr=t)∨(s.snd.st=1∧s.snd.due=t)):=by
 unfold nxS at ht;obtain ⟨a1,a2,a3⟩:=Kc ht;have hp:∀x,s.pend.head?.map (·.at_)=some x→(∀o∈s.pend,x≤o.at_)∧∃o∈s.pend,o.at_=x:=by
  intro x hx;have hs:=h.po;cases hpd:s.pend with
  |nil=>rw [hpd] at hx;cases hx
  |cons o l=>
   rw [hpd] at hx hs;simp only [vT,yP,Option.some.injEq] at hx;subst hx;rw [wM] at hs;refine ⟨fun y hy => ?_,o,by simp,rfl⟩;rcases xL.1 hy with rfl|hy
   ·omega
   ·have:=hs.1 y hy;omega
 have hc:∀(c:Cm) x,c.frames.Pairwise (fun a b=>a.arr≤b.arr)→Bn c=some x→(∀f∈c.frames,x≤f.arr)∧∃f∈c.frames,f.arr=x:=by
  intro c x hs hx;unfold Bn at hx;cases hpd:c.frames with
  |nil=>rw [hpd] at hx;cases hx
  |cons o l=>
   rw [hpd] at hx hs;simp only [vT,yP,Option.some.injEq] at hx;subst hx;rw [wM] at hs;refine ⟨fun y hy => ?_,o,by simp,rfl⟩;rcases xL.1 hy with rfl|hy
   ·omega
   ·exact hs.1 y hy
 have key:∀{a b:Option Int} {t:Int},Dn a b=some t→(∀x,a=some x→t≤x)∧(∀x,b=some x→t≤x):=fun h=>⟨(Kc h).1,(Kc h).2.1⟩
 have h3:∀x,Dn (Dn (s.pend.head?.map (·.at_)) (Bn s.dat)) (Bn s.rep)=some x→(∀o∈s.pend,x≤o.at_)∧(∀f∈s.dat.frames,x≤f.arr)∧(∀f∈s.rep.frames,x≤f.arr)∧((∃o∈s.pend,o.at_=x)∨(∃f∈s.dat.frames,f.arr=x)∨∃f∈s.rep.frames,f.arr=x):=by
  intro x hx;obtain ⟨b1,b2,b3⟩:=Kc hx;have hr:∀f∈s.rep.frames,x≤f.arr:=by
   intro f hf;cases hn:Bn s.rep with
   |none=>
    unfold Bn at hn;cases hff:s.rep.frames with
    |nil=>rw [hff] at hf;cases hf
    |cons a l=>rw [hff] at hn;cases hn
   |some y=>have:=(hc s.rep y h.gr.srt hn).1 f hf;have:=b2 y hn;omega
  have h2:∀y,Dn (s.pend.head?.map (·.at_)) (Bn s.dat)=some y→(∀o∈s.pend,y≤o.at_)∧(∀f∈s.dat.frames,y≤f.arr)∧((∃o∈s.pend,o.at_=y)∨∃f∈s.dat.frames,f.arr=y):=by
   intro y hy;obtain ⟨d1,d2,d3⟩:=Kc hy;refine ⟨fun o ho => ?_,fun f hf => ?_,?_⟩
   ·cases hn:s.pend.head?.map (·.at_) with
    |none=>
     cases hff:s.pend with
     |nil=>rw [hff] at ho;cases ho
     |cons a l=>rw [hff] at hn;cases hn
    |some z=>have:=(hp z hn).1 o ho;have:=d1 z hn;omega
   ·cases hn:Bn s.dat with
    |none=>
     unfold Bn at hn;cases hff:s.dat.frames with
     |nil=>rw [hff] at hf;cases hf
     |cons a l=>rw [hff] at hn;cases hn
    |some z=>have:=(hc s.dat z h.gd.srt hn).1 f hf;have:=d2 z hn;omega
   ·rcases d3 with d3|d3
    ·exact .inl (hp y d3).2
    ·exact .inr (hc s.dat y h.gd.srt d3).2
  cases hm:Dn (s.pend.head?.map (·.at_)) (Bn s.dat) with
  |none=>
   obtain ⟨e1,e2⟩:=Fx hm;have hpe:s.pend=[]:=by cases hff:s.pend with|nil=>rfl|cons a l=>rw [hff] at e1;cases e1
   have hde:s.dat.frames=[]:=by unfold Bn at e2;cases hff:s.dat.frames with|nil=>rfl|cons a l=>rw [hff] at e2;cases e2
   rw [hm] at b3;rcases b3 with b3|b3
   ·cases b3
   ·exact ⟨by rw [hpe];simp,by rw [hde];simp,hr,.inr (.inr (hc s.rep x h.gr.srt b3).2)⟩
  |some y=>
   obtain ⟨q1,q2,q3⟩:=h2 y hm;have hxy:=b1 y hm;refine ⟨fun o ho=>by have:=q1 o ho;omega,fun f hf=>by have:=q2 f hf;omega,hr,?_⟩;rcases b3 with b3|b3
   ·rw [hm] at b3;cases b3;rcases q3 with q3|q3
    ·exact .inl q3
    ·exact .inr (.inl q3)
   ·exact .inr (.inr (hc s.rep x h.gr.srt b3).2)
 have hdue:s.snd.st=1→t≤s.snd.due:=fun q=>a2 _ (by rw [if_pos q]);cases hm:Dn (Dn (s.pend.head?.map (·.at_)) (Bn s.dat)) (Bn s.rep) with
 |none=>
  obtain ⟨e0,e3⟩:=Fx hm;obtain ⟨e1,e2⟩:=Fx e0;have hpe:s.pend=[]:=by cases hff:s.pend with|nil=>rfl|cons a l=>rw [hff] at e1;cases e1
  have hde:s.dat.frames=[]:=by unfold Bn at e2;cases hff:s.dat.frames with|nil=>rfl|cons a l=>rw [hff] at e2;cases e2
  have hre:s.rep.frames=[]:=by unfold Bn at e3;cases hff:s.rep.frames with|nil=>rfl|cons a l=>rw [hff] at e3;cases e3
  refine ⟨by rw [hpe];simp,by rw [hde];simp,by rw [hre];simp,hdue,?_⟩;rw [hm] at a3;rcases a3 with a3|a3
  ·cases a3
  ·by_cases q:s.snd.st=1
   ·rw [if_pos q] at a3;cases a3;exact .inr (.inr (.inr ⟨q,rfl⟩))
   ·rw [if_neg q] at a3;cases a3
 |some y=>
  obtain ⟨q1,q2,q3,q4⟩:=h3 y hm;have hty:=a1 y hm;refine ⟨fun o ho=>by have:=q1 o ho;omega,fun f hf=>by have:=q2 f hf;omega,fun f hf=>by have:=q3 f hf;omega,hdue,?_⟩;rcases a3 with a3|a3
  ·rw [hm] at a3;cases a3;rcases q4 with q|q|q
   ·exact .inl q
   ·exact .inr (.inl q)
   ·exact .inr (.inr (.inl q))
  ·by_cases q:s.snd.st=1
   ·rw [if_pos q] at a3;cases a3;exact .inr (.inr (.inr ⟨q,rfl⟩))
   ·rw [if_neg q] at a3;cases a3
theorem SX {s:Ses} (h:nxS s=none):s.pend=[]∧s.dat.frames=[]∧s.rep.frames=[]∧s.snd.st≠1:=by unfold nxS at h;obtain ⟨e0,e4⟩:=Fx h;obtain ⟨e0,e3⟩:=Fx e0;obtain ⟨e1,e2⟩:=Fx e0;refine ⟨(by cases hff:s.pend with|nil=>rfl|cons a l=>rw [hff] at e1;cases e1),(by unfold Bn at e2;cases hff:s.dat.frames with|nil=>rfl|cons a l=>rw [hff] at e2;cases e2),(by unfold Bn at e3;cases hff:s.rep.frames with|nil=>rfl|cons a l=>rw [hff] at e3;cases e3),fun q => ?_⟩;rw [if_pos q] at e4;cases e4
theorem Inv.at {p:Par} {s:Ses} {t:Int} (h:Inv p s) (ht0:0≤t) (ht:nxS s=some t):Inv p {s with now:=t}:=by
 obtain ⟨n1,n2,n3,n4,n5⟩:=Yd h ht;exact {h with
  now:=ht0
  fd:=fun f hf=>by obtain ⟨f1,f2,f3,f4,f5⟩:=h.fd f hf;exact ⟨f1,f2,n2 f hf,f4,f5⟩
  fr:=fun f hf=>by obtain ⟨f1,f2,f3,f4,f5⟩:=h.fr f hf;exact ⟨f1,f2,n3 f hf,f4,f5⟩
  pd:=fun o ho=>by obtain ⟨f1,f2,f3,f4,f5⟩:=h.pd o ho;exact ⟨f1,n1 o ho,f3,f4,f5⟩
  du:=n4}
structure Wt (p:Par) (s:Ses):Prop where
 i:Inv p s
 pg:PGt s
 dg:DGt s
 rg:RGt s
 ug:UGt s
theorem Wt.nx {p:Par} {s:Ses} {t:Int} (hp:POk p) (h:Wt p s) (ht:nxS s=some t):s.now<t∧t≤p.e+4*p.c.rng+2:=by
 have hr:=hp.rng;have hn:=h.i.sn.num hp;rcases (Yd h.i ht).2.2.2.2 with ⟨o,ho,rfl⟩|⟨f,hf,rfl⟩|⟨f,hf,rfl⟩|⟨h1,rfl⟩
 ·have:=h.pg o ho;have:=h.i.pd o ho;omega
 ·have:=h.dg f hf;have:=h.i.fd f hf;omega
 ·have:=h.rg f hf;have:=h.i.fr f hf;omega
 ·have:=h.ug h1;have:=(h.i.due h1).2;omega
theorem Mic.inv {p:Par} {s s':Ses} (hp:POk p) (m:Mic p s s'):Inv p s':=by
 cases m with
 |time t h1 h2 h3 h4 h5 h6=>exact h1.at (by have:=(Wt.nx hp ⟨h1,h2,h3,h4,h5⟩ h6).1;have:=h1.now;omega) h6
 |tx o l h1 h2 h3=>exact h1.tx hp h2 h3
 |rx f l h1 h2 h3 h4=>exact h1.rx hp h3 h4
 |ls _ f l h1 h2 h3 h4 h5 h6=>exact h1.ls hp h2 h4 h5 h6
 |ex _ h1 h2 h3 h4 h5=>exact h1.ex hp h2 h5
end Ab
namespace Ab
open Go
theorem tx_gt {p:Par} {s:Ses} {o:Out} {l:List Out} (h:Inv p s) (hp:s.pend=o::l) (ho:o.at_≠s.now):PGt s:=by
 have h0:=(h.pd o (by rw [hp];simp)).2.1;have hs:=h.po;rw [hp,wM] at hs;intro x hx;rw [hp] at hx;rcases xL.1 hx with rfl|hx
 ·omega
 ·have:=hs.1 x hx;omega
theorem Xn {p:Par} (hp:POk p):∀(k:Nat) (s:Ses),Inv p s→s.pend.length≤k→Reach p s (txS k s)∧Inv p (txS k s)∧PGt (txS k s)∧(txS k s).now=s.now
 |0,s,h,hk=>⟨.refl,h,(fun o ho=>by have e:s.pend=[]:=wY.1 (by omega);change o∈s.pend at ho;rw [e] at ho;cases ho),rfl⟩
 |k+1,s,h,hk=>by
  unfold txS;cases hpd:s.pend with
  |nil=>exact ⟨.refl,h,fun o ho=>(by simp only [hpd] at ho;cases ho),rfl⟩
  |cons o l=>
   simp only;split
   ·rename_i ha;have hI:=h.tx hp hpd ha;obtain ⟨i1,i2,i3,i4⟩:=Xn hp k _ hI (by rw [hpd] at hk;simpa using hk);exact ⟨(Reach.one (.tx s o l h hpd ha)).trans i1,i2,i3,i4⟩
   ·rename_i ha;exact ⟨.refl,h,tx_gt h hpd ha,rfl⟩
theorem OE:∀(l:List Seg) (s:Ses),(l.foldl DQ s).pend=s.pend∧(l.foldl DQ s).snd=s.snd∧(l.foldl DQ s).sent=s.sent∧(l.foldl DQ s).rcv=s.rcv∧(l.foldl DQ s).kno=s.kno∧(l.foldl DQ s).knoAt=s.knoAt∧(l.foldl DQ s).rcvd=s.rcvd∧(l.foldl DQ s).arrive=s.arrive
 |[],s=>⟨rfl,rfl,rfl,rfl,rfl,rfl,rfl,rfl⟩
 |x::l,s=>by rw [vQ];exact OE l _
theorem R8 (s:Ses) (x:Seg):(rxX s x).pend=s.pend∧(rxX s x).snd=s.snd∧(rxX s x).sent=s.sent∧(rxX s x).kno=s.kno∧(rxX s x).knoAt=s.knoAt:=by
 obtain ⟨a1,a2,a3,a4,a5,a6,a7⟩:=OE (Fp s.rcv x).2.1 {s with rcv:=(Fp s.rcv x).1};unfold rxX rxF rxH;split
 ·exact ⟨a1,a2,a3,a5,a6⟩
 ·exact ⟨a1,a2,a3,a5,a6⟩
theorem Inv.rxG {p:Par} {s:Ses} (h:PGt s) {x:Seg}:PGt (rxX (By s) x):=by intro o ho;rw [(R8 _ _).1] at ho;rw [Qo];exact h o ho
theorem X8 {p:Par} (hp:POk p):∀(k:Nat) (s:Ses),Inv p s→PGt s→s.dat.frames.length≤k→Reach p s (rxS k s)∧Inv p (rxS k s)∧PGt (rxS k s)∧DGt (rxS k s)∧(rxS k s).now=s.now
 |0,s,h,hg,hk=>⟨.refl,h,hg,(fun o ho=>by have e:s.dat.frames=[]:=wY.1 (by omega);change o∈s.dat.frames at ho;rw [e] at ho;cases ho),rfl⟩
 |k+1,s,h,hg,hk=>by
  unfold rxS;cases hpd:s.dat.frames with
  |nil=>exact ⟨.refl,h,hg,fun o ho=>(by rw [hpd] at ho;cases ho),rfl⟩
  |cons f l=>
   simp only;split
   ·rename_i ha;have hI:=h.rx hp hpd ha;obtain ⟨i1,i2,i3,i4,i5⟩:=X8 hp k _ hI (Inv.rxG (p:=p) hg) (by rw [GH];simp only [By,List.length_tail];omega);exact ⟨(Reach.one (.rx s f l h hg hpd ha)).trans i1,i2,i3,i4,by rw [i5,Qo];rfl⟩
   ·rename_i ha;refine ⟨.refl,h,hg,?_,rfl⟩;have h0:=(h.fd f (by rw [hpd];simp)).2.2.1;have hs:=h.gd.srt;rw [hpd,wM] at hs;intro x hx;rw [hpd] at hx;rcases xL.1 hx with rfl|hx
    ·omega
    ·have:=hs.1 x hx;omega
theorem Hg.gt {p:Par} {s:Ses} {q:Snd} {l:List Seg} (hp:POk p) (hl:Hg p.d (s.snd.ser+1) l) (hs:0≤s.snd.ser+1) {o:Out} (ho:o∈BD p.c.rate s.now l):s.now<o.at_:=by have hr:=hp.rng;exact ((hl.outs (t:=s.now) ⟨hr.2.2.1,hr.2.2.2.1⟩ hs).2.1 o ho).2.1
theorem Mic.lsG {p:Par} {s s':Ses} (hp:POk p) (h:Inv p s) (hg:PGt s) (hd:DGt s) {f:Frame} {l:List Frame} (hf:s.rep.frames=f::l) (ha:f.arr=s.now) (hs:LsR p (B7 s) f.seg s'):PGt s'∧DGt s'∧s'.now=s.now∧s'.rep.frames=l:=by
 obtain ⟨f1,f2,f3,f4,f5⟩:=h.fr f (by rw [hf];simp);have hl:(B7 s).rep.frames=l:=by simp [B7,hf]
 cases hs with
 |busy _=>exact ⟨hg,hd,rfl,hl⟩
 |same _ _=>exact ⟨hg,hd,rfl,hl⟩
 |done h1 h2 h3 h4=>exact ⟨hg,hd,rfl,hl⟩
 |fail h1 h2 h3 h4 h5=>exact ⟨hg,hd,rfl,hl⟩
 |send h1 h2 h3 h4 h5=>
  obtain ⟨hQ,_⟩:=h.sn.ack hp f1;have hn:=h.sn.num hp;have hB:=hQ.bat hp h.sn h4;exact ⟨fun o ho=>Hg.gt (s:=s) (q:=s.snd) hp hB (by omega) ho,hd,rfl,hl⟩
theorem Yl {p:Par} (hp:POk p):∀(k:Nat) (s:Ses),Inv p s→PGt s→DGt s→s.rep.frames.length≤k→Reach p s (lsS k s)∧Inv p (lsS k s)∧PGt (lsS k s)∧DGt (lsS k s)∧RGt (lsS k s)∧(lsS k s).now=s.now
 |0,s,h,hg,hd,hk=>⟨.refl,h,hg,hd,(fun o ho=>by have e:s.rep.frames=[]:=wY.1 (by omega);change o∈s.rep.frames at ho;rw [e] at ho;cases ho),rfl⟩
 |k+1,s,h,hg,hd,hk=>by
  unfold lsS;cases hpd:s.rep.frames with
  |nil=>exact ⟨.refl,h,hg,hd,fun o ho=>(by rw [hpd] at ho;cases ho),rfl⟩
  |cons f l=>
   simp only;split
   ·rename_i ha;have hR:=(h.lsR hp hg hpd ha).1;have hI:=h.ls hp hg hpd ha hR;obtain ⟨g1,g2,g3,g4⟩:=Mic.lsG hp h hg hd hpd ha hR;obtain ⟨i1,i2,i3,i4,i5,i6⟩:=Yl hp k _ hI g1 g2 (by rw [g4];rw [hpd] at hk;simpa using hk);exact ⟨(Reach.one (.ls s _ f l h hg hd hpd ha hR)).trans i1,i2,i3,i4,i5,by rw [i6,g3]⟩
   ·rename_i ha;refine ⟨.refl,h,hg,hd,?_,rfl⟩;have h0:=(h.fr f (by rw [hpd];simp)).2.2.1;have hs:=h.gr.srt;rw [hpd,wM] at hs;intro x hx;rw [hpd] at hx;rcases xL.1 hx with rfl|hx
    ·omega
    ·have:=hs.1 x hx;omega
theorem exR_ok {p:Par} {s s':Ses} (hp:POk p) (h:Inv p s) (hg:PGt s) (hd:DGt s) (hr:RGt s) (hR:ExR p s s'):Wt p s'∧s'.now=s.now:=by
 have hI:=h.ex hp hg hR;cases hR with
 |same hn=>exact ⟨⟨h,hg,hd,hr,fun h1=>by have:=h.du h1;have:=fun q=>hn ⟨h1,q⟩;omega⟩,rfl⟩
 |fail h1 h2 h3=>exact ⟨⟨hI,hg,hd,hr,fun q=>by simp [De] at q⟩,rfl⟩
 |send h1 h2 h3 h4=>
  have hQ:=h.sn.q hp;have hB:=(hQ.bat hp h.sn h3).last;have hn:=h.sn.num hp;have hrr:=hp.rng;have ho:=hB.outs (t:=s.now) ⟨hrr.2.2.1,hrr.2.2.2.1⟩ (by omega);refine ⟨⟨hI,fun o ho=>Hg.gt (s:=s) (q:=s.snd) hp hB (by omega) ho,hd,hr,fun q => ?_⟩,rfl⟩;have:=(hI.due q).2;have e:({s with snd:=BJ s.snd (Ah p.c.rate s.now (Br (Aa s.snd))) (s.snd.ser+1),pend:=BD p.c.rate s.now (Br (Aa s.snd))}:Ses).snd.busy=Ah p.c.rate s.now (Br (Aa s.snd)):=rfl;rw [e] at this;show s.now<_;omega
theorem YT {p:Par} {s:Ses} {t:Int} (hp:POk p) (h:Wt p s) (ht:nxS s=some t):Reach p s (ph1 s t)∧Inv p (ph1 s t)∧PGt (ph1 s t)∧(ph1 s t).now=t:=by have hI:=h.i.at (t:=t) (by have:=(h.nx hp ht).1;have:=h.i.now;omega) ht;obtain ⟨a1,a2,a3,a4⟩:=Xn hp s.pend.length _ hI (yE _);exact ⟨(Reach.one (.time s t h.i h.pg h.dg h.rg h.ug ht)).trans a1,a2,a3,a4⟩
theorem YS {p:Par} {s:Ses} {t:Int} (hp:POk p) (h:Wt p s) (ht:nxS s=some t):Reach p s (ph2 s t)∧Inv p (ph2 s t)∧PGt (ph2 s t)∧DGt (ph2 s t)∧(ph2 s t).now=t:=by obtain ⟨a1,a2,a3,a4⟩:=YT hp h ht;obtain ⟨b1,b2,b3,b4,b5⟩:=X8 hp _ _ a2 a3 (yE _);exact ⟨a1.trans b1,b2,b3,b4,by unfold ph2;rw [b5,a4]⟩
theorem YR {p:Par} {s:Ses} {t:Int} (hp:POk p) (h:Wt p s) (ht:nxS s=some t):Reach p s (ph3 s t)∧Inv p (ph3 s t)∧PGt (ph3 s t)∧DGt (ph3 s t)∧RGt (ph3 s t)∧(ph3 s t).now=t:=by obtain ⟨a1,a2,a3,a4,a5⟩:=YS hp h ht;obtain ⟨b1,b2,b3,b4,b5,b6⟩:=Yl hp _ _ a2 a3 a4 (yE _);exact ⟨a1.trans b1,b2,b3,b4,b5,by unfold ph3;rw [b6,a5]⟩
theorem Xy {p:Par} {s:Ses} {t:Int} (hp:POk p) (h:Wt p s) (ht:nxS s=some t):Reach p s (stS s t)∧Wt p (stS s t)∧(stS s t).now=t:=by obtain ⟨a1,a2,a3,a4,a5,a6⟩:=YR hp h ht;have hR:=(a2.exR hp a3).1;obtain ⟨b1,b2⟩:=exR_ok hp a2 a3 a4 a5 hR;exact ⟨a1.trans (Reach.one (.ex _ _ a2 a3 a4 a5 hR)),b1,by unfold stS;rw [b2,a6]⟩
def muS (p:Par) (s:Ses):Nat:=(p.e+4*p.c.rng+3-s.now).toNat
theorem Inv.small {p:Par} {s:Ses} (hp:POk p) (h:Inv p s):s.entered≤5000∧s.pend.length≤5000:=by have hB:=h.bud hp (k:=0) (by omega) (fun q=>by omega);have:=hB.ent;have hs:=h.sn.num hp;have hb:=hp.bud s.snd.ser (by omega) (by have:=h.sn.t;omega);have:=h.c4;have:=h.c5;have:=h.sn.t;have hz:(s.snd.ser-1)*1≤(s.snd.ser-1)*(2*p.c.rng+1):=Int.mul_le_mul_of_nonneg_left (by have:=hp.rng;omega) (by omega);refine ⟨by omega,?_⟩;rcases hb with hb|hb<;>omega
theorem runP {p:Par} (hp:POk p):XX (Wt p) (fun s=>Inv p s∧PGt s) (fun s=>Inv p s∧PGt s∧DGt s) (muS p):=by
 refine ⟨⟨fun s h=>h.1.gd,fun s f l h hf ha => ?_⟩,⟨fun s h=>h.1.gr,fun s h => ?_,fun s f l h hf ha => ?_⟩,fun s h => ?_,fun s t h ht => ?_,fun s t h ht => ?_,fun s t h ht => ?_,fun s t h ht => ?_,fun s t h ht => ?_⟩
 ·obtain ⟨hI,hg⟩:=h;obtain ⟨f1,f2,f3,f4,f5⟩:=hI.fd f (by rw [hf];simp);have hn:=hI.sn.num hp;have hr:=hp.rng;refine ⟨by rw [(hI.Vq hp f1).1],?_,hI.rx hp hf ha,Inv.rxG (p:=p) hg⟩;rw [(hI.Vq hp f1).1];refine (hI.bud hp ?_ (fun _=>by omega)).By;rw [hf];simp only [vP];split
  ·simp only [xF,zV];omega
  ·simp only [zV];omega
 ·have:=(h.1.sn.fo hp).2;have:=(h.1.small hp).2;omega
 ·obtain ⟨hI,hg,hd⟩:=h;obtain ⟨f1,f2,f3,f4,f5⟩:=hI.fr f (by rw [hf];simp);obtain ⟨r1,r2⟩:=hI.lsR hp hg hf ha;obtain ⟨g1,g2,g3,g4⟩:=Mic.lsG hp hI hg hd hf ha r1;have:=f1.few hp.sz.2;exact ⟨.inl (by omega),r2,hI.ls hp hg hf ha r1,g1,g2⟩
 ·have:=(h.i.small hp).1;exact ⟨by omega,h.i.gd,h.i.gr⟩
 ·have hI:=h.i.at (t:=t) (by have:=(h.nx hp ht).1;have:=h.i.now;omega) ht;refine hI.bud hp (show (s.pend.length:Int)≤s.pend.length+(s.dat.frames.countP (fun f=>f.seg.chk):Nat) by omega) (fun hk => ?_);obtain ⟨n1,n2⟩:=Yd h.i ht;cases hpd:s.pend with
  |nil=>rw [hpd] at hk;simp at hk
  |cons o l=>
   have h1:=n1 o (by rw [hpd];simp);have h2:=h.i.pd o (by rw [hpd];simp);have hn:=h.i.sn.num hp;have hr:=hp.rng;show t≤_;omega
 ·have:=YT hp h ht;exact ⟨this.2.1,this.2.2.1⟩
 ·have:=YS hp h ht;exact ⟨this.2.1,this.2.2.1,this.2.2.2.1⟩
 ·obtain ⟨a1,a2,a3,a4,a5,a6⟩:=YR hp h ht;have:=(a2.small hp)
  have:=(a2.sn.fo hp).2;exact ⟨by omega,by omega,by omega,(a2.exR hp a3).2⟩
 ·obtain ⟨a1,a2,a3⟩:=Xy hp h ht;have:=h.nx hp ht;refine ⟨a2,?_⟩;unfold muS;rw [a3];omega
theorem VW {p:Par} (hp:POk p):∀(k:Nat) (s:Ses),Wt p s→muS p s≤k→Reach p s (Hu k s)∧Wt p (Hu k s)∧nxS (Hu k s)=none
 |0,s,h,hk=>by
  refine ⟨.refl,h,?_⟩;cases hn:nxS s with
  |none=>exact hn
  |some t=>
   have:=h.nx hp hn;unfold muS at hk;omega
 |k+1,s,h,hk=>by
  unfold Hu;cases hn:nxS s with
  |none=>exact ⟨.refl,h,hn⟩
  |some t=>
   simp only;obtain ⟨a1,a2,a3⟩:=Xy hp h hn;have:=h.nx hp hn;obtain ⟨b1,b2,b3⟩:=VW hp k _ a2 (by unfold muS at hk ⊢;rw [a3];omega);exact ⟨a1.trans b1,b2,b3⟩
theorem Hk {p:Par} (hp:POk p) (h:(BS p.c 0 p.d p.b p.e).2.2=0) :
  Hg p.d 1 (Bh 0 1 p.d (AM p.d))∧Ah p.c.rate p.b (Bh 0 1 p.d (AM p.d))≤p.e∧
  (BS p.c 0 p.d p.b p.e).1=BJ (Bf p.c 0 p.d p.e) (Ah p.c.rate p.b (Bh 0 1 p.d (AM p.d))) 1∧(BS p.c 0 p.d p.b p.e).2.1=BD p.c.rate p.b (Bh 0 1 p.d (AM p.d)):=by
 have hd:=hp.sz;have hB:=batP (Fw (ses:=0) (d:=p.d) ⟨by omega,by omega⟩ ⟨by omega,by omega⟩);obtain ⟨pre,x,e,h1,h2,h3⟩:=hB.ex;have hlast:(Bh 0 1 p.d (AM p.d)).getLast? = some x:=by rw [e];exact wX ..
 have ht:=hp.t;have e0:BS p.c 0 p.d p.b p.e=if (CK (Bf p.c 0 p.d p.e) p.b (Bh 0 1 p.d (AM p.d))).1.st=3 then Di 16 else ((CK (Bf p.c 0 p.d p.e) p.b (Bh 0 1 p.d (AM p.d))).1,(CK (Bf p.c 0 p.d p.e) p.b (Bh 0 1 p.d (AM p.d))).2,0):=by unfold BS;rw [if_neg (by have:=hp.con;omega),if_neg (by omega),if_neg (by omega),if_neg (by omega),if_neg (by omega)]
 have e1:CK (Bf p.c 0 p.d p.e) p.b (Bh 0 1 p.d (AM p.d))=if p.e<Ah p.c.rate p.b (Bh 0 1 p.d (AM p.d))∨1099511627776<x.ser then (De (Bf p.c 0 p.d p.e),[]) else (BJ (Bf p.c 0 p.d p.e) (Ah p.c.rate p.b (Bh 0 1 p.d (AM p.d))) x.ser,BD p.c.rate p.b (Bh 0 1 p.d (AM p.d))):=by unfold CK;rw [hlast];rfl
 by_cases hb:p.e<Ah p.c.rate p.b (Bh 0 1 p.d (AM p.d))
 ·exfalso;rw [e0,e1,if_pos (Or.inl hb)] at h;simp [Di,De] at h
 ·rw [if_neg (by omega),h2] at e1;rw [e0,e1,if_neg (by simp [BJ])];exact ⟨hB,by omega,rfl,rfl⟩
def Ei (p:Par):Ses:=ini p.c p.b p.e p.d p.ps p.lim p.dk
theorem US {p:Par} (hp:POk p) (h:(BS p.c 0 p.d p.b p.e).2.2=0):Wt p (Ei p):=by
 obtain ⟨hB,he,e1,e2⟩:=Hk hp h;have hr:=hp.rng;have hd:=hp.sz;have ht:=hp.t;obtain ⟨o1,o2,o3,o4,o5⟩:=hB.outs (t:=p.b) ⟨hr.2.2.1,hr.2.2.2.1⟩ (by omega);have hlen:=hB.len;have hnb:nB p.d=((p.d.size:Int)+1) / 2+(p.d.size:Int) / 16+1:=rfl;let q:Snd:={Bf p.c 0 p.d p.e with busy:=Ah p.c.rate p.b (Bh 0 1 p.d (AM p.d)),ser:=1}
 have hq:He q=0:=by
  unfold He;have a1:FC q:=by unfold FC;simp only [q,Bf];omega
  have a2:Rp q:=⟨RL,.inl rfl⟩
  rw [if_neg (fun f=>f hp.con),if_neg (fun f=>f a1),if_neg (fun f=>f a2)]
 have hc0:complete q=false:=by simp [complete,q,Bf,AM]
 have hok:=VN (t:=Ah p.c.rate p.b (Bh 0 1 p.d (AM p.d))) (ser:=1) hq hc0 (by simp only [q,Bf];omega) (by omega);have e3:BJ q (Ah p.c.rate p.b (Bh 0 1 p.d (AM p.d))) 1=BJ (Bf p.c 0 p.d p.e) (Ah p.c.rate p.b (Bh 0 1 p.d (AM p.d))) 1:=rfl;rw [e3] at hok;have ei:Ei p=⟨⟨p.c.rng,[],0,0⟩,⟨p.c.rng,[],0,0⟩,p.ps,p.lim,p.dk,0,0,[],[],0,BJ (Bf p.c 0 p.d p.e) (Ah p.c.rate p.b (Bh 0 1 p.d (AM p.d))) 1,R0,BD p.c.rate p.b (Bh 0 1 p.d (AM p.d)),false,0,false,0⟩:=by unfold Ei ini;rw [e1,e2];rfl
 rw [ei];have hgc:Cw ⟨p.c.rng,[],0,0⟩:=⟨by simp only;omega,by simp,by simp,by simp,(fun f hf=>by cases hf),List.Pairwise.nil⟩
 refine ⟨⟨rfl,rfl,rfl,rfl,rfl,hgc,hgc,Int.le_refl _,⟨rfl,rfl,rfl,rfl,hok,?_⟩,⟨[],Xx _,fun x hx=>by cases hx⟩,(fun f hf=>by cases hf),(fun f hf=>by cases hf),fun o ho => ?_,o1,fun _ => ?_,rfl,rfl,rfl,?_,?_,?_,?_,?_,?_,?_,(show false=BQ R0 by decide)⟩,fun o ho => ?_,(fun f hf=>by cases hf),(fun f hf=>by cases hf),fun _ => ?_⟩
 ·simp only [BJ,Bf];omega
 ·obtain ⟨k1,k2,k3,k4,k5⟩:=o2 o ho;exact ⟨k1,by simp only;omega,by simp only [BJ];omega,by simp only [BJ];omega,fun hcc=>(k5 hcc).1⟩
 ·simp only [BJ,Bf];omega
 ·simp only [BJ,Bf,CL,zV];omega
 ·simp only [BJ,Bf,CL,zV];omega
 ·simp only [BJ,Bf,o4,zV,List.countP_nil];omega
 ·simp
 ·simp
 ·simp
 ·simp [BJ]
 ·have:=o2 o ho;simp only;omega
 ·simp only [BJ,Bf];omega
end Ab
namespace Ab
open Go
theorem Xb {l:List Span} {n:Int} (h:BU l=0) (hn:0<n) (hm:∀t,AU t l↔0≤t∧t<n):l=[⟨0,n⟩]:=
 DM (b' := -1) ((Ax _).1 h).2.1 ⟨by simp only;omega,by simp only;omega,trivial⟩ fun t=>by rw [hm];simp [AU]
theorem Inv.full {p:Par} {s:Ses} (hp:POk p) (h:Inv p s):BQ s.rcv=true↔∀t,AU t s.rcv.known↔0≤t∧t<p.d.size:=by
 obtain ⟨hl,h1,h2⟩:=h.rc;have hd:=hp.sz;have hc:=(DU h1.ok).2.1.1;unfold BQ;rw [decide_eq_true_eq];constructor
 ·rintro ⟨_,e⟩ t
  by_cases hn:hl=[]
  ·exfalso;have hcc:=((Ax _).1 hc).2.1;rw [e,h1.tot,if_pos hn] at hcc;have:=hcc.2.1;simp only at this;omega
  ·rw [e,h1.tot,if_neg hn];simp [AU]
 ·intro hm;refine ⟨h1.ok,?_⟩;have hn:hl≠[]:=by
   rintro rfl
   obtain ⟨x,hx,_⟩:=(h1.mem 0).1 ((hm 0).2 (by omega));cases hx
  rw [h1.tot,if_neg hn];exact Xb hc (by omega) hm
theorem Inv.kin {p:Par} {s:Ses} (h:Inv p s) {t:Int} (ht:AU t s.rcv.known):0≤t∧t<p.d.size:=by obtain ⟨hl,h1,h2⟩:=h.rc;exact ZH h2 ((h1.mem t).1 ht)
structure RxF (p:Par) (s s':Ses) (f:Frame) (l:List Frame):Prop where
 sp:LB p.d f.seg
 rcv:s'.rcv=C6 s.rcv f.seg
 mem:∀t,AU t s'.rcv.known↔AU t s.rcv.known∨(f.seg.off≤t∧t<f.seg.off+f.seg.data.size)
 dat:s'.dat={s.dat with frames:=l}
 snd:s'.snd=s.snd
 pend:s'.pend=s.pend
 sent:s'.sent=s.sent
 now:s'.now=s.now
 kno:s'.kno=s.kno
 knoAt:s'.knoAt=s.knoAt
 rcvd:s'.rcvd=BQ s'.rcv
 arr:s'.arrive=if s.rcvd=false∧s'.rcvd=true then s.now else s.arrive
 cl:(CI s.rcv f.seg).claims=s'.rcv.known
 no:f.seg.chk=false→s'.rep=s.rep∧s'.told=s.told∧s'.entered=s.entered∧s'.dist=s.dist
 yes:f.seg.chk=true→JV p.d (CI s.rcv f.seg)∧s'.rep=CX s.rep s.now (CI s.rcv f.seg) (DF s p.c.rng).1∧s'.told=s.told++[⟨s.now,CI s.rcv f.seg⟩]∧s'.entered=s.entered+1∧s'.dist=(DF s p.c.rng).2
 mono:s.rcvd=true→s'.rcvd=true
theorem rxF_f (s:Ses):(rxF s).rcv=s.rcv∧(rxF s).rep=s.rep∧(rxF s).told=s.told∧(rxF s).entered=s.entered∧(rxF s).dist=s.dist∧(rxF s).arrive=if s.rcvd=false∧BQ s.rcv=true then s.now else s.arrive:=by
 unfold rxF;by_cases h:s.rcvd=false∧BQ s.rcv=true
 ·rw [if_pos h,if_pos h];exact ⟨rfl,rfl,rfl,rfl,rfl,rfl⟩
 ·rw [if_neg h,if_neg h];exact ⟨rfl,rfl,rfl,rfl,rfl,rfl⟩
theorem Inv.rxFs {p:Par} {s:Ses} (hp:POk p) (h:Inv p s) {f:Frame} {l:List Frame} (hf:s.dat.frames=f::l) (ha:f.arr=s.now):RxF p s (rxX (By s) f.seg) f l:=by
 obtain ⟨f1,f2,f3,f4,f5⟩:=h.fd f (by rw [hf];simp);obtain ⟨e1,e2,e3,e4,e5,e6⟩:=h.Vq hp f1;have hI:=h.rx hp hf ha;have hfr:s.dat.frames.tail=l:=by rw [hf];rfl
 have hrr:(By s).rep.rng=p.c.rng:=h.rr;have hpop:(By s).rcv=s.rcv:=rfl;have hH:rxH (By s) f.seg=if f.seg.chk=true then DQ {By s with rcv:=C6 s.rcv f.seg} (CI s.rcv f.seg) else {By s with rcv:=C6 s.rcv f.seg}:=by unfold rxH;rw [hpop,e1];split<;>rfl
 obtain ⟨q1,q2,q3,q4,q5,q6⟩:=rxF_f (rxH (By s) f.seg);have e0:rxX (By s) f.seg=rxF (rxH (By s) f.seg):=rfl;rw [← e0] at q1 q2 q3 q4 q5 q6;have hrv:(rxX (By s) f.seg).rcv=C6 s.rcv f.seg:=by rw [q1,hH];split<;>rfl
 obtain ⟨p1,p2,p3,p4,p5⟩:=R8 (By s) f.seg;have hrc:(rxX (By s) f.seg).rcvd=BQ (C6 s.rcv f.seg):=by rw [hI.rv,hrv]
 refine ⟨f1,hrv,by rw [hrv];exact e4,by rw [GH];simp [By,hfr],p2,p1,p3,by rw [Qo];rfl,p4,p5,hI.rv,?_,by rw [hrv];exact e6,fun hc => ?_,fun hc=>⟨e3 hc,?_⟩,fun q=>by rw [hrc];exact e5 (by rw [← h.rv];exact q)⟩
 ·rw [hrc,q6,hH];split<;>rfl
 ·rw [q2,q3,q4,q5,hH,if_neg (by simp [hc])];exact ⟨rfl,rfl,rfl,rfl⟩
 ·rw [q2,q3,q4,q5,hH,if_pos hc];have e:(DF {By s with rcv:=C6 s.rcv f.seg} p.c.rng)=DF s p.c.rng:=rfl;simp only [DQ];rw [hrr,e];exact ⟨rfl,rfl,rfl,rfl⟩
theorem Dw {c:Cm} {t:Int} {x:Seg} {ds:List Int} {f:Frame} (h:f∈(CX c t x ds).frames):f∈c.frames∨∃d∈ds,f=⟨t+d,c.sent,x⟩:=D7.1 h
structure Knw (p:Par) (kt:Int→Int) (s:Ses):Prop where
 pd:∀o∈s.pend,p.b<o.at_
 fd:∀f∈s.dat.frames,p.b+p.c.rng<f.arr
 k1:∀t,AU t s.rcv.known→p.b+p.c.rng<kt t∧kt t≤s.now
 k2:∀t,AU t s.snd.acked→AU t s.rcv.known∧kt t+p.c.rng≤s.now
 k3:∀f∈s.rep.frames,∀t,AU t f.seg.claims→AU t s.rcv.known∧kt t+p.c.rng≤f.arr
 k4:s.rcvd=true→(∀t,AU t s.rcv.known→kt t≤s.arrive)∧∃t,AU t s.rcv.known∧kt t=s.arrive
 k5:s.rcvd=false→s.arrive=0
 k6:s.kno=false→s.knoAt=0
 k7:s.kno=true→s.rcvd=true∧s.arrive+p.c.rng≤s.knoAt
theorem Knw.mic {p:Par} {s s':Ses} {kt:Int→Int} (hp:POk p) (h:Knw p kt s) (m:Mic p s s'):∃kt',Knw p kt' s':=by
 have hr:=hp.rng;have hI':=m.inv hp;cases m with
 |time t h1 h2 h3 h4 h5 h6=>
  have hlt:=(Wt.nx hp ⟨h1,h2,h3,h4,h5⟩ h6).1;exact ⟨kt,h.pd,h.fd,fun t ht=>by have:=h.k1 t ht;simp only;omega,fun t ht=>by have:=h.k2 t ht;refine ⟨this.1,?_⟩;simp only;omega,h.k3,h.k4,h.k5,h.k6,h.k7⟩
 |tx o l h1 h2 h3=>
  refine ⟨kt,fun x hx=>h.pd x (by rw [h2];simp [hx]),fun f hf => ?_,h.k1,h.k2,h.k3,h.k4,h.k5,h.k6,h.k7⟩;rcases Dw hf with hf|⟨d,hd,rfl⟩
  ·exact h.fd f hf
  ·have hd:=(h1.del hp).1 d (by rw [← h1.rd];exact hd);have:=h.pd o (by rw [h2];simp);simp only;omega
 |rx f l h1 h2 h3 h4=>
  have hF:=h1.rxFs hp h3 h4;refine ⟨fun t=>open Classical in if AU t s.rcv.known then kt t else s.now,?_,?_,?_,?_,?_,?_,?_,?_,?_⟩
  ·rw [hF.pend];exact h.pd
  ·rw [hF.dat];exact fun x hx=>h.fd x (by rw [h3];exact xM _ hx)
  ·intro t ht;rw [hF.now];split
   ·rename_i hk;exact h.k1 t hk
   ·have:=h.fd f (by rw [h3];simp);omega
  ·intro t ht;rw [hF.snd] at ht;obtain ⟨k1,k2⟩:=h.k2 t ht;rw [hF.now];rw [if_pos k1];exact ⟨(hF.mem t).2 (.inl k1),k2⟩
  ·have old:∀x∈s.rep.frames,∀t,AU t x.seg.claims→AU t (rxX (By s) f.seg).rcv.known∧(open Classical in if AU t s.rcv.known then kt t else s.now)+p.c.rng≤x.arr:=by intro x hx t ht;obtain ⟨k1,k2⟩:=h.k3 x hx t ht;rw [if_pos k1];exact ⟨(hF.mem t).2 (.inl k1),k2⟩
   cases hc:f.seg.chk with
   |false=>rw [(hF.no hc).1];exact old
   |true=>
    rw [(hF.yes hc).2.1];intro x hx t ht;rcases Dw hx with hx|⟨d,hd,rfl⟩
    ·exact old x hx t ht
    ·have hd:=(h1.del hp).1 d hd;rw [hF.cl] at ht;refine ⟨ht,?_⟩;split
     ·rename_i hk;have:=(h.k1 t hk).2;show _≤s.now+d;omega
     ·show _≤s.now+d;omega
  ·intro hq;have hI:=hI';have hful:=(hI.full hp).1 (by rw [← hF.rcvd];exact hq);rw [hF.arr];cases ho:s.rcvd with
   |true=>
    rw [if_neg (by simp)];obtain ⟨k1,t,k2,k3⟩:=h.k4 ho;have hfo:=(h1.full hp).1 (by rw [← h1.rv];exact ho);refine ⟨fun t ht => ?_,t,(hF.mem t).2 (.inl k2),?_⟩
    ·have hk:=(hfo t).2 ((hful t).1 ht);rw [if_pos hk];exact k1 t hk
    ·rw [if_pos k2];exact k3
   |false=>
    rw [if_pos ⟨rfl,hq⟩];refine ⟨fun t ht => ?_,?_⟩
    ·split
     ·rename_i hk;exact (h.k1 t hk).2
     ·exact Int.le_refl _
    ·have hno:¬∀t,AU t s.rcv.known↔0≤t∧t<p.d.size:=fun q=>by have:=(h1.full hp).2 q;rw [← h1.rv,ho] at this;cases this
     obtain ⟨t,ht⟩:=not_forall.1 hno;have hn:¬AU t s.rcv.known:=fun q=>ht ⟨fun _=>h1.kin q,fun _=>q⟩;have hin:0≤t∧t<p.d.size:=Classical.byContradiction fun q=>ht ⟨fun m=>(hn m).elim,fun m=>(q m).elim⟩;exact ⟨t,(hful t).2 hin,by rw [if_neg hn]⟩
  ·intro hq;rw [hF.arr];have ho:s.rcvd=false:=by
    cases hs:s.rcvd with
    |false=>rfl
    |true=>rw [hF.mono hs] at hq;cases hq
   rw [if_neg (by rw [hq];simp)];exact h.k5 ho
  ·rw [hF.kno,hF.knoAt];exact h.k6
  ·intro hq;rw [hF.kno] at hq;obtain ⟨k1,k2⟩:=h.k7 hq;rw [hF.knoAt,hF.arr,k1,if_neg (by simp)];exact ⟨hF.mono k1,k2⟩
 |ls _ f l h1 h2 h3 h4 h5 h6=>
  obtain ⟨f1,f2,f3,f4,f5⟩:=h1.fr f (by rw [h4];simp);obtain ⟨hQ,hack⟩:=h1.sn.ack hp f1;have hk3:∀x∈l,∀t,AU t x.seg.claims→AU t s.rcv.known∧kt t+p.c.rng≤x.arr:=fun x hx=>h.k3 x (by rw [h4];simp [hx]);have hl:(B7 s).rep.frames=l:=by simp [B7,h4]
  have hk3':∀x∈(B7 s).rep.frames,∀t,AU t x.seg.claims→AU t s.rcv.known∧kt t+p.c.rng≤x.arr:=by rw [hl];exact hk3
  have ha:∀t,AU t (BO s.snd f.seg).acked→AU t s.rcv.known∧kt t+p.c.rng≤s.now:=fun t ht=>by
   rcases (hack t).1 ht with ht|ht
   ·exact h.k2 t ht
   ·have:=h.k3 f (by rw [h4];simp) t ht;exact ⟨this.1,by omega⟩
  refine ⟨kt,?_⟩;cases h6 with
  |busy q1=>exact ⟨h.pd,h.fd,h.k1,h.k2,hk3',h.k4,h.k5,h.k6,h.k7⟩
  |same q1 q2=>exact ⟨h.pd,h.fd,h.k1,h.k2,hk3',h.k4,h.k5,h.k6,h.k7⟩
  |done q1 q2 q3 q4=>
   refine ⟨h.pd,h.fd,h.k1,ha,hk3',h.k4,h.k5,fun q=>(by cases q),fun _ => ?_⟩;have hw:(BO s.snd f.seg).acked=AM p.d:=by have:=of_decide_eq_true (show decide ((BO s.snd f.seg).acked=AM (BO s.snd f.seg).data)=true from q4);rw [this,hQ.data]
   have hall:∀t,AU t s.rcv.known↔0≤t∧t<p.d.size:=fun t=>⟨fun m=>h1.kin m,fun m=>(ha t (by rw [hw];simpa [AU,AM] using m)).1⟩
   have hrc:s.rcvd=true:=by rw [h1.rv];exact (h1.full hp).2 hall
   obtain ⟨k1,t,k2,k3⟩:=h.k4 hrc;have:=(ha t (by rw [hw];have:=(hall t).1 k2;simpa [AU,AM] using this)).2;exact ⟨hrc,by show s.arrive+p.c.rng≤s.now;omega⟩
  |fail q1 q2 q3 q4 q5=>exact ⟨h.pd,h.fd,h.k1,ha,hk3',h.k4,h.k5,h.k6,h.k7⟩
  |send q1 q2 q3 q4 q5=>
   have hn:=h1.sn.num hp;refine ⟨fun o ho => ?_,h.fd,h.k1,ha,hk3',h.k4,h.k5,h.k6,h.k7⟩;have:=Hg.gt (s:=s) (q:=s.snd) hp (hQ.bat hp h1.sn q4) (by omega) ho;have:¬s.now<s.snd.busy:=q1;omega
 |ex _ h1 h2 h3 h4 h5=>
  refine ⟨kt,?_⟩;cases h5 with
  |same q=>exact h
  |fail q1 q2 q3=>exact ⟨h.pd,h.fd,h.k1,h.k2,h.k3,h.k4,h.k5,h.k6,h.k7⟩
  |send q1 q2 q3 q4=>
   have hn:=h1.sn.num hp;have hdu:=(h1.due q1).2;refine ⟨fun o ho => ?_,h.fd,h.k1,h.k2,h.k3,h.k4,h.k5,h.k6,h.k7⟩;have:=Hg.gt (s:=s) (q:=s.snd) hp (((h1.sn.q hp).bat hp h1.sn q3).last) (by omega) ho;omega
theorem Reach.ind {p:Par} {a b:Ses} (P:Ses→Prop) (h:Reach p a b) (h0:P a) (hs:∀s s',P s→Mic p s s'→P s'):P b:=by
 induction h with
 |refl=>exact h0
 |step _ m ih=>exact hs _ _ ih m
theorem knw_ini {p:Par} (hp:POk p) (h:(BS p.c 0 p.d p.b p.e).2.2=0):∃kt,Knw p kt (Ei p):=by
 obtain ⟨hB,he,e1,e2⟩:=Hk hp h;have hr:=hp.rng;have ho:=hB.outs (t:=p.b) ⟨hr.2.2.1,hr.2.2.2.1⟩ (by omega);have ee1:(Ei p).pend=BD p.c.rate p.b (Bh 0 1 p.d (AM p.d)):=e2;have ee2:(Ei p).snd.acked=[]:=by show (BS p.c 0 p.d p.b p.e).1.acked=[];rw [e1];rfl
 refine ⟨fun _=>0,fun o ho' => ?_,(fun f hf=>by cases hf),(fun t ht=>by cases ht),fun t ht => ?_,(fun f hf=>by cases hf),(fun q=>by cases q),fun _=>rfl,fun _=>rfl,(fun q=>by cases q)⟩
 ·rw [ee1] at ho';exact (ho.2.1 o ho').2.1
 ·rw [ee2] at ht;cases ht
def ER (p:Par):Ses:=Hu (muS p (Ei p)) (Ei p)
theorem OG {p:Par} (hp:POk p) (h:(BS p.c 0 p.d p.b p.e).2.2=0):Reach p (Ei p) (ER p)∧Wt p (ER p)∧nxS (ER p)=none:=VW hp _ _ (US hp h) (yE _)
end Ab
namespace Ab
open Go
def cov (x:Seg) (t:Int):Prop:=x.off≤t∧t<x.off+x.data.size
theorem QI:∀(k:Nat) (a b:Int),(b-a).toNat≤k→∀t,a≤t→t<b→∃q∈cut a b,q.1≤t∧t<q.2
 |0,a,b,hk,t,h1,h2=>by omega
 |k+1,a,b,hk,t,h1,h2=>by
  have hq:a<b:=by omega
  have hc:=Ft hq;rw [FI hq];by_cases h:t<ED a b
  ·exact ⟨(a,ED a b),by simp,h1,h⟩
  ·obtain ⟨q,q1,q2⟩:=QI k (ED a b) b (by omega) t (by omega) h2;exact ⟨q,by simp [q1],q2⟩
theorem TA:∀(k:Nat) (a b:Int),(b-a).toNat≤k→(cut a b).Pairwise fun q r=>q.2≤r.1
 |0,a,b,hk=>by rw [FJ (by omega)];exact List.Pairwise.nil
 |k+1,a,b,hk=>by
  by_cases hq:a<b
  ·have hc:=Ft hq;rw [FI hq,wM];exact ⟨fun r hr=>(GP _ _ _ (yE _) r hr).1,TA k (ED a b) b (by omega)⟩
  ·rw [FJ hq];exact List.Pairwise.nil
structure QA (p:Par) (B:Int) (ck:Seg) (s:Ses):Prop where
 st:s.snd.st=1
 ser:s.snd.ser=1
 bu:s.snd.busy=B
 hck:ck.chk=true∧ck.ser=1∧1≤ck.data.size∧0≤ck.off∧ck.off+(ck.data.size:Int)≤(p.d.size:Int)
 all:∀t:Int,0≤t→t<p.d.size→AU t s.rcv.known∨cov ck t∨(∃o∈s.pend,o.seg.chk=false∧cov o.seg t)∨∃f∈s.dat.frames,cov f.seg t∧f.arr<B+p.c.rng
 dj:∀t,cov ck t→¬AU t s.rcv.known∧(∀o∈s.pend,o.seg.chk=false→¬cov o.seg t)∧∀f∈s.dat.frames,f.seg.chk=false→¬cov f.seg t
 pn:∀o∈s.pend,(o.seg.chk=false→o.at_<B)∧(o.seg.chk=true→o.seg=ck∧o.at_=B)
 fn:∀f∈s.dat.frames,f.seg.chk=true→f.seg=ck∧B+p.c.rng≤f.arr
 ex:(∃o∈s.pend,o.seg=ck)∨((∃f∈s.dat.frames,f.seg=ck∧f.arr=B+p.c.rng)∧∀o∈s.pend,o.seg.chk=false)
 rp:s.rep.frames=[]
 kn:s.kno=false
 rc:s.rcvd=false
structure QB (p:Par) (B:Int) (s:Ses):Prop where
 st:s.snd.st=1
 ser:s.snd.ser=1
 bu:s.snd.busy=B
 rc:s.rcvd=true
 ar:s.arrive=B+p.c.rng
 nw:B+p.c.rng≤s.now
 pn:s.pend=[]
 kn:s.kno=false
 wh:∀f∈s.rep.frames,∀t:Int,0≤t→t<p.d.size→AU t f.seg.claims
 ex:∃f∈s.rep.frames,f.seg.ser=1∧f.arr=B+2*p.c.rng
structure QC (p:Par) (B:Int) (s:Ses):Prop where
 st:s.snd.st=2
 bu:s.snd.busy=B
 rc:s.rcvd=true
 ar:s.arrive=B+p.c.rng
 kn:s.kno=true
 ka:s.knoAt=B+2*p.c.rng
def Q (p:Par) (B:Int) (s:Ses):Prop:=(∃ck,QA p B ck s)∨QB p B s∨QC p B s
end Ab
namespace Ab
open Go
def tk (r n:Int):Int:=(n+7+r) / r
def Ru (r:Int):List Int→Int
 |[]=>0
 |x::l=>tk r x+Ru r l
def D0 (r n:Int):Int:=(n / 16)*tk r 16+if 0<n % 16 then tk r (n % 16) else 0
theorem S1 {d:ByteArray} {r:Int} (hr:1≤r∧r≤1000):∀(l:List Seg) (t:Int),(∀x∈l,LB d x)→Ah r t l=t+Ru r (l.map fun x=>(x.data.size:Int))
 |[],t,h=>by simp [Ah,Ru]
 |x::l,t,h=>by have h1:=((h x (by simp)).Ci hr).1;simp only [Ah,xJ,Ru];rw [S1 hr l _ fun y hy=>h y (by simp [hy]),h1];unfold tk;omega
theorem QG {r:Int}:∀(k:Nat) (a b:Int),(b-a).toNat≤k→0≤a→a≤b→a % 16=0→Ru r ((cut a b).map fun q=>q.2-q.1)=D0 r (b-a)∧((cut a b).length:Int)=(b-a+15) / 16
 |k,a,b,hk,h0,h1,h2=>by
  by_cases hq:a<b
  ·rw [FI hq];by_cases hc:a+16<b
   ·have e:ED a b=a+16:=by unfold ED;rw [show (a / 16+1)*16=a+16 by omega,if_pos hc]
    cases k with
    |zero=>omega
    |succ k=>
     obtain ⟨i1,i2⟩:=QG (r:=r) k (a+16) b (by omega) (by omega) (by omega) (by omega);rw [e];simp only [xJ,Ru,xF];rw [i1];refine ⟨?_,by omega⟩;unfold D0;rw [show (b-a) / 16=(b-(a+16)) / 16+1 by omega,show (b-a) % 16=(b-(a+16)) % 16 by omega,Int.add_mul,show a+16-a=16 by omega];omega
   ·have e:ED a b=b:=by unfold ED;rw [show (a / 16+1)*16=a+16 by omega,if_neg hc]
    rw [e,FJ (by omega)];simp only [xJ,map_nil,Ru,xF,zV];refine ⟨?_,by omega⟩;unfold D0;by_cases h16:b-a=16
    ·rw [h16];simp
    ·rw [show (b-a) / 16=0 by omega,show (b-a) % 16=b-a by omega,if_pos (by omega)];omega
  ·have:b-a=0:=by omega
   rw [FJ hq,this];simp [Ru,D0]
theorem UJ (ser:Int) (l:List Seg):(DO ser l).map (fun x=>(x.data.size:Int))=l.map fun x=>(x.data.size:Int):=by
 cases h:l.getLast? with
 |none=>rw [List.getLast?_eq_none_iff.1 h];rfl
 |some x=>
  obtain ⟨pre,rfl⟩:∃pre,l=pre++[x]:=by
   cases l with
   |nil=>cases h
   |cons y l=>
    have:=wU (vO y l);rw [List.getLast?_eq_some_getLast (vO y l),Option.some.injEq] at h;rw [h] at this;exact ⟨_,this.symm⟩
  rw [FO];simp
theorem TM {d:ByteArray} {r t:Int} (hr:1≤r∧r≤1000) (hd:1≤d.size∧d.size≤65536):Ah r t (Bh 0 1 d (AM d))=t+D0 r d.size∧((Bh 0 1 d (AM d)).length:Int)=((d.size:Int)+15) / 16:=by
 have hb:=Fw (ses:=0) (d:=d) ⟨by omega,by omega⟩ hd;have hB:=batP hb;have hw:Cu d 0 (AM d)=(cut 0 d.size).map (raw d 0):=by simp [Cu,AM]
 obtain ⟨c1,c2⟩:=QG (r:=r) _ 0 (d.size:Int) (yE _) (Int.le_refl _) (by omega) (by omega);have hm:=GP _ 0 (d.size:Int) (yE _);have hsz:(Bh 0 1 d (AM d)).map (fun x=>(x.data.size:Int))=(cut 0 d.size).map fun q=>q.2-q.1:=by unfold Bh;rw [if_pos hb,UJ,hw,map_map];refine map_congr_left fun q hq => ?_;have:=hm q hq;simp only [Function.comp,raw,vJ];omega
 refine ⟨?_,?_⟩
 ·rw [S1 hr _ _ hB.pc,hsz,c1];simp
 ·have:=congrArg length hsz;simp only [xH] at this;rw [this,c2];simp
end Ab
namespace Ab
open Go
def Blk (d:ByteArray) (x:Seg):Prop:=0≤x.off∧x.off<d.size∧x.off % 16=0∧(x.data.size:Int)=if x.off+16<d.size then 16 else d.size-x.off
theorem Blk.cov {d:ByteArray} {x:Seg} (h:Blk d x) (t:Int):cov x t↔(0≤t∧t<d.size)∧t / 16=x.off / 16:=by obtain ⟨h1,h2,h3,h4⟩:=h;unfold Ab.cov;rw [h4];split<;>omega
def Clo (d:ByteArray) (l:List Span):Prop:=∀t t':Int,AU t l→0≤t'→t'<d.size→t / 16=t' / 16→AU t' l
theorem Kd (t:Int):∀(l:List Span),AU t l↔∃x∈l,x.fro≤t∧t<x.to
 |[]=>by simp [AU]
 |x::l=>by simp only [AU,Kd t l,xL,exists_eq_or_imp]
theorem XF {l:List Span}:∀{b:Int},Canon b l→∀x∈l,¬AU (x.fro-1) l∧¬AU x.to l:=by
 induction l with
 |nil=>intro b _ x hx;cases hx
 |cons y l ih=>
  intro b h x hx;have h1:=h.2.1;have hm:∀t,AU t (y::l)↔(y.fro≤t∧t<y.to)∨AU t l:=fun t=>by simp [AU]
  rcases xL.1 hx with rfl|hx
  ·rw [hm,hm];refine ⟨?_,?_⟩
   ·rintro (a|a)
    ·omega
    ·have:=B5 h.2.2 a;omega
   ·rintro (a|a)
    ·omega
    ·have:=B5 h.2.2 a;omega
  ·obtain ⟨i1,i2⟩:=ih h.2.2 x hx;have h2:=Gq h.2.2 x hx;rw [hm,hm];refine ⟨?_,?_⟩
   ·rintro (a|a)
    ·omega
    ·exact i1 a
   ·rintro (a|a)
    ·omega
    ·exact i2 a
theorem V8 {n:Int}:∀(k:Nat) (a b:Int),(b-a).toNat≤k→0≤a→a % 16=0→(b % 16=0∨b=n)→b≤n→∀q∈cut a b,q.1 % 16=0∧q.2=if q.1+16<n then q.1+16 else n
 |k,a,b,hk,h0,h1,h2,h3,q,hq=>by
  by_cases hab:a<b
  ·rw [FI hab] at hq;have hc:=Ft hab;have e:ED a b=if a+16<n then a+16 else n:=by unfold ED;rw [show (a / 16+1)*16=a+16 by omega];split<;>split<;>omega
   rcases xL.1 hq with rfl|hq
   ·exact ⟨h1,e⟩
   ·cases k with
    |zero=>omega
    |succ k=>
     by_cases hb:ED a b<b
     ·refine V8 k (ED a b) b (by omega) (by omega) ?_ h2 h3 q hq;rw [e] at hb ⊢;split at hb
      ·rw [if_pos (by assumption)];omega
      ·omega
     ·rw [FJ hb] at hq;cases hq
  ·rw [FJ hab] at hq;cases hq
theorem SG {d:ByteArray}:∀{l:List Span} {b:Int},Canon b l→(Cu d 0 l).Pairwise (fun x y=>x.off<y.off)∧∀x∈Cu d 0 l,b<x.off
 |[],b,h=>⟨by simp [Cu],fun x hx=>by simp [Cu] at hx⟩
 |s::l,b,h=>by
  obtain ⟨i1,i2⟩:=SG (d:=d) h.2.2;have e:Cu d 0 (s::l)=(cut s.fro s.to).map (raw d 0)++Cu d 0 l:=by simp [Cu]
  have hm:=GP _ s.fro s.to (yE _);rw [e,wL];refine ⟨⟨?_,i1,fun x hx y hy => ?_⟩,fun x hx => ?_⟩
  ·rw [List.pairwise_map];refine List.Pairwise.imp_of_mem ?_ (TA _ s.fro s.to (yE _));intro q r hq hr hqr;have:=hm q hq;show q.1<r.1;omega
  ·obtain ⟨q,hq,rfl⟩:=wJ.1 hx;have:=hm q hq;have:=i2 y hy;show q.1<_;omega
  ·have h1:=h.1;have h2:=h.2.1;rcases xK.1 hx with hx|hx
   ·obtain ⟨q,hq,rfl⟩:=wJ.1 hx;have:=hm q hq;show _<q.1;omega
   ·have:=i2 x hx;omega
theorem Q4:∀(l l':List Int),l.Pairwise (· < ·)→(∀x∈l,x∈l')→l.length≤l'.length
 |[],l',h,hs=>by simp
 |x::l,l',h,hs=>by rw [wM] at h;have hx:=hs x (by simp);have:=Q4 l (l'.erase x) h.2 fun y hy=>(List.mem_erase_of_ne (by have:=h.1 y hy;omega)).2 (hs y (by simp [hy]));rw [List.length_erase_of_mem hx] at this;have:=List.length_pos_of_mem hx;simp only [xF];omega
theorem tk_mono {r n:Int} (hr:1≤r) (hn:n≤16):tk r n≤tk r 16:=Int.ediv_le_ediv (by omega) (by omega)
theorem end_len {d:ByteArray} {r:Int} (hr:1≤r∧r≤1000) (l:List Seg) (t:Int) (h:∀x∈l,LB d x):Ah r t l≤t+l.length*tk r 16:=by
 induction l generalizing t with
 |nil=>simp [Ah]
 |cons x l ih=>
  have h1:=((h x (by simp)).Ci hr).1;have h2:=(Lp (h x (by simp)).pc.1 (h x (by simp)).pc.2.1).1;have h3:=ih (t+Ci r x) fun y hy=>h y (by simp [hy]);have h4:=tk_mono (r:=r) (n:=(x.data.size:Int)) (by omega) (by omega);simp only [Ah,xF];rw [show ((l.length+1:Nat):Int)*tk r 16=l.length*tk r 16+tk r 16 by rw [natCast_add,Int.add_mul];simp];unfold tk at h4;rw [h1] at h3 ⊢;unfold tk at h3 ⊢;omega
structure LBk (d:ByteArray) (a:List Span) (l:List Seg):Prop where
 bk:∀x∈l,Blk d x∧¬AU x.off a
 al:∀t:Int,0≤t→t<d.size→¬AU t a→∃x∈l,cov x t
 od:(l.map fun x=>x.off / 16).Pairwise (· < ·)
theorem Nc {d:ByteArray} {a l:List Span} (hl:∀t,AU t l↔(0≤t∧t<d.size)∧¬AU t a) (hc:BU l=0) (hw:B8 l d.size) (ha:Clo d a):LBk d a (Cu d 0 l):=by
 have hcn:=Jr ((Ax _).1 hc).2.1 hw;have hmem:∀x∈Cu d 0 l,∃s∈l,∃q∈cut s.fro s.to,x=raw d 0 q:=fun x hx=>by unfold Cu at hx;obtain ⟨s,hs,hx⟩:=vU.1 hx;obtain ⟨q,hq,rfl⟩:=wJ.1 hx;exact ⟨s,hs,q,hq,rfl⟩
 have hsp:∀s∈l,0≤s.fro∧s.fro<s.to∧s.to≤d.size∧s.fro % 16=0∧(s.to % 16=0∨s.to=d.size):=fun s hs=>by
  have h1:=Gq hcn s hs;have h2:=hw s hs;obtain ⟨o1,o2⟩:=XF hcn s hs;have m1:AU s.fro l:=(Kd _ _).2 ⟨s,hs,by omega⟩;have m2:AU (s.to-1) l:=(Kd _ _).2 ⟨s,hs,by omega⟩;refine ⟨by omega,h1.2,h2.2,?_,?_⟩
  ·refine Classical.byContradiction fun q=>o1 ((hl _).2 ⟨by omega,fun m => ?_⟩);exact ((hl _).1 m1).2 (ha _ _ m (by omega) (by omega) (by omega))
  ·refine Classical.byContradiction fun q=>o2 ((hl _).2 ⟨by omega,fun m => ?_⟩);exact ((hl _).1 m2).2 (ha _ _ m (by omega) (by omega) (by omega))
 have hblk:∀x∈Cu d 0 l,Blk d x∧¬AU x.off a:=fun x hx=>by
  obtain ⟨s,hs,q,hq,rfl⟩:=hmem x hx;obtain ⟨k1,k2,k3,k4,k5⟩:=hsp s hs;have c1:=GP _ s.fro s.to (yE _) q hq;obtain ⟨c2,c3⟩:=V8 (n:=d.size) _ s.fro s.to (yE _) k1 k4 k5 k3 q hq;refine ⟨⟨by show 0≤q.1;omega,by show q.1<_;omega,c2,?_⟩,fun m => ?_⟩
  ·show ((raw d 0 q).data.size:Int)=if q.1+16<d.size then 16 else d.size-q.1
   simp only [raw,vJ];split at c3
   ·rw [if_pos (by assumption)];omega
   ·rw [if_neg (by assumption)];omega
  ·exact ((hl q.1).1 ((Kd _ _).2 ⟨s,hs,by omega⟩)).2 m
 refine ⟨hblk,fun t h0 h1 hn => ?_,?_⟩
 ·obtain ⟨s,hs,hst⟩:=(Kd _ _).1 ((hl t).2 ⟨⟨h0,h1⟩,hn⟩);obtain ⟨q,hq,hq2⟩:=QI _ s.fro s.to (yE _) t hst.1 hst.2;refine ⟨raw d 0 q,vU.2 ⟨s,hs,vV hq⟩,?_⟩;have c1:=GP _ s.fro s.to (yE _) q hq;have k3:=hsp s hs;unfold cov;show q.1≤t∧t<q.1+((raw d 0 q).data.size:Int);simp only [raw,vJ];omega
 ·rw [List.pairwise_map];refine List.Pairwise.imp_of_mem ?_ (SG (d:=d) hcn).1;intro x y hx hy hxy;have h1:=(hblk x hx).1;have h2:=(hblk y hy).1;unfold Blk at h1 h2;omega
theorem La (ser:Int) (l:List Seg):(DO ser l).map (fun x=>(x.off,(x.data.size:Int)))=l.map fun x=>(x.off,(x.data.size:Int)):=by
 cases h:l.getLast? with
 |none=>rw [List.getLast?_eq_none_iff.1 h];rfl
 |some x=>
  obtain ⟨pre,rfl⟩:∃pre,l=pre++[x]:=by
   cases l with
   |nil=>cases h
   |cons y l=>
    have:=wU (vO y l);rw [List.getLast?_eq_some_getLast (vO y l),Option.some.injEq] at h;rw [h] at this;exact ⟨_,this.symm⟩
  rw [FO];simp
theorem LBk.of {d:ByteArray} {a:List Span} {l l':List Seg} (h:LBk d a l) (e:l'.map (fun x=>(x.off,(x.data.size:Int)))=l.map fun x=>(x.off,(x.data.size:Int))):LBk d a l':=by
 have hm:∀x∈l',∃y∈l,y.off=x.off∧(y.data.size:Int)=x.data.size:=fun x hx=>by
  have:(x.off,(x.data.size:Int))∈l.map fun x=>(x.off,(x.data.size:Int)):=by rw [← e];exact vV hx
  obtain ⟨y,hy,e⟩:=wJ.1 this;injection e with e1 e2;exact ⟨y,hy,e1,e2⟩
 have hm':∀y∈l,∃x∈l',y.off=x.off∧(y.data.size:Int)=x.data.size:=fun y hy=>by
  have:(y.off,(y.data.size:Int))∈l'.map fun x=>(x.off,(x.data.size:Int)):=by rw [e];exact vV hy
  obtain ⟨x,hx,e⟩:=wJ.1 this;injection e with e1 e2;exact ⟨x,hx,e1.symm,e2.symm⟩
 refine ⟨fun x hx => ?_,fun t h0 h1 hn => ?_,?_⟩
 ·obtain ⟨y,hy,e1,e2⟩:=hm x hx;obtain ⟨b1,b2⟩:=h.bk y hy;refine ⟨?_,by rw [← e1];exact b2⟩;unfold Blk at b1 ⊢;rw [← e1,← e2];exact b1
 ·obtain ⟨y,hy,hc⟩:=h.al t h0 h1 hn;obtain ⟨x,hx,e1,e2⟩:=hm' y hy;refine ⟨x,hx,?_⟩;unfold cov at hc ⊢;rw [← e1,← e2];exact hc
 ·have:=h.od;have e3:=congrArg (List.map fun q:Int×Int=>q.1 / 16) e;rw [map_map,map_map] at e3;have e4:(l'.map fun x=>x.off / 16)=l.map fun x=>x.off / 16:=e3;rw [e4];exact this
theorem Oq.blk {p:Par} {s q:Snd} (hp:POk p) (h:LA p s) (hq:Oq p s q) (hc:complete q=false) (ha:Clo p.d q.acked) :
  LBk p.d q.acked (Aa q)∧∃y z,(Aa q).getLast? = some y∧(Cu p.d 0 (Dd q)).getLast? = some z∧y.off=z.off:=by
 have hB:=hq.bat hp h hc;have hn:=h.num hp;have hb:=hq.fo.bat hc (by rw [hq.ser];omega);have hm:∀t,AU t (Dd q)↔(0≤t∧t<p.d.size)∧¬AU t q.acked:=fun t=>by rw [hq.fo.Ym,hq.data]
 have hwn:=hq.fo.Sj;rw [hq.data] at hwn;have hR:=Nc hm hq.fo.Sk hwn ha;have e0:Aa q=DO (s.ser+1) (Cu p.d 0 (Dd q)):=by have e1:Aa q=Bh q.ses (q.ser+1) q.data (Dd q):=rfl;rw [e1];unfold Bh;rw [if_pos hb,hq.ses,hq.data,hq.ser]
 have e:(Aa q).map (fun x=>(x.off,(x.data.size:Int)))=(Cu p.d 0 (Dd q)).map fun x=>(x.off,(x.data.size:Int)):=by rw [e0];exact La _ _
 refine ⟨hR.of e,?_⟩;obtain ⟨pre,x,ex,_⟩:=hB.ex;have e2:=congrArg List.getLast? e;rw [vR,vR] at e2;cases hz:(Cu p.d 0 (Dd q)).getLast? with
 |none=>
  rw [hz,ex] at e2;simp at e2
 |some z=>
  rw [hz,ex,wX] at e2;simp only [yP,Option.some.injEq] at e2;injection e2 with e3 e4;exact ⟨x,z,by rw [ex];exact wX ..,rfl,e3⟩
end Ab
namespace Ab
open Go
theorem fate_or (n r:Int) (hr:1≤r):(C2 n r).head? = some r∨r∉C2 n r:=by
 have hm:=vK (n / 8) (show r≠0 by omega);unfold C2;split
 ·exact .inl rfl
 ·split
  ·exact .inl rfl
  ·split
   ·refine .inr fun h => ?_;rw [xQ] at h;omega
   ·exact .inr (by simp)
theorem RJ {s:Ses} {R:Int} (hR:1≤R) (hk:s.dark=[]):(R∈(DF s R).1∧(DF s R).2=s.dist)∨(R∉(DF s R).1∧(DF s R).2=s.dist+1∧(0≤s.limit→s.dist<s.limit)):=by
 have e:Q8 s.dark s.now=false:=by rw [hk];simp [Q8,AU]
 unfold DF;rw [if_neg (by rw [e];simp)];split
 ·exact .inl ⟨by simp,rfl⟩
 ·split
  ·rename_i h;exact .inl ⟨List.mem_of_mem_head? h,rfl⟩
  ·rename_i h;split
   ·exact .inl ⟨by simp,rfl⟩
   ·rcases fate_or (s.picks.getD (s.entered % s.picks.length).toNat 0) R hR with k|k
    ·exact (h k).elim
    ·exact .inr ⟨k,rfl,fun q=>by omega⟩
def TTp (p:Par):Int:=2*p.c.rng+1+tk p.c.rate 16
structure BP (p:Par):Prop where
 dk:p.dk=[]
 l:0≤p.lim∧p.lim≤p.c.loss
 e:p.e=p.b+D0 p.c.rate p.d.size+p.c.loss*TTp p
structure BA (p:Par) (X:Int) (Bl:List Int) (v:Int) (s:Ses):Prop where
 x0:0≤X
 v01:0≤v∧v≤1
 bu:s.snd.busy≤p.b+D0 p.c.rate p.d.size+X*TTp p
 se:s.snd.ser≤1+X
 sn:(s.sent.length:Int)+s.pend.length≤((p.d.size:Int)+15) / 16+X
 di:X+Bl.length+v≤s.dist
 dl:s.dist≤p.lim
 lo:s.dat.lost+s.rep.lost=s.dist
 pb:∀o∈s.pend,Blk p.d o.seg
 fb:∀f∈s.dat.frames,Blk p.d f.seg
 rc:Clo p.d s.rcv.known
 ra:Clo p.d s.snd.acked
 rf:∀f∈s.rep.frames,Clo p.d f.seg.claims
structure BW (p:Par) (Bl:List Int) (v:Int) (ck:Seg) (s:Ses):Prop where
 cb:Blk p.d ck
 pn:∀o∈s.pend,(o.seg.chk=false→o.at_<s.snd.busy)∧(o.seg.chk=true→o.seg=ck)
 cv:∀t:Int,0≤t→t<p.d.size→AU t s.rcv.known∨t / 16∈Bl∨cov ck t∨(∃o∈s.pend,o.seg.chk=false∧cov o.seg t)∨∃f∈s.dat.frames,cov f.seg t∧f.arr<s.snd.busy+p.c.rng
 lz:∃z,(Cu p.d 0 (Dd s.snd)).getLast? = some z∧ck.off=z.off
 cs:ck.chk=true∧ck.ser=s.snd.ser
 fc:∀f∈s.dat.frames,f.seg.chk=true→f.seg.ser=s.snd.ser→f.seg=ck
 rq:∀f∈s.rep.frames,f.seg.ser=s.snd.ser→∀t:Int,0≤t→t<p.d.size→AU t f.seg.claims∨t / 16∈Bl
 al:v=0→(∃o∈s.pend,o.seg.chk=true)∨(∃f∈s.dat.frames,f.seg.chk=true∧f.seg.ser=s.snd.ser∧f.arr=s.snd.busy+p.c.rng)∨∃f∈s.rep.frames,f.seg.ser=s.snd.ser∧f.arr=s.snd.busy+2*p.c.rng
def BI (p:Par) (s:Ses):Prop:=∃X Bl v,BA p X Bl v s∧((s.snd.st=1∧∃ck,BW p Bl v ck s)∨(s.snd.st=2∧s.pend=[]∧s.knoAt≤p.e+2*p.c.rng))
theorem Si {c:Cm} {t:Int} {x:Seg} {ds:List Int}:(c.rng∈ds→(CX c t x ds).lost=c.lost)∧(c.rng∉ds→(CX c t x ds).lost=c.lost+1):=by simp only [CX,Lb];exact ⟨fun h=>by rw [if_pos h];omega,fun h=>by rw [if_neg h]⟩
theorem BI.tx {p:Par} {s:Ses} {o:Out} {l:List Out} (hp:POk p) (hb:BP p) (h:BI p s) (q1:Inv p s) (q2:s.pend=o::l) (q3:o.at_=s.now):BI p {D4 s o.seg with pend:=l}:=by
 obtain ⟨X,Bl,v,a,w⟩:=h;have hr:=hp.rng;rcases w with ⟨hst,ck,w⟩|⟨_,e,_⟩;rotate_left
 ·rw [e] at q2;cases q2
 have hrd:=q1.rd;have hv:=a.v01;have hdi:=a.di;have hdl:=a.dl;have hlo:=a.lo;have hsn:=a.sn;rw [q2] at hsn;simp only [xF] at hsn;obtain ⟨o1,o2,o3,o4,o5⟩:=q1.pd o (by rw [q2];simp);have hob:=a.pb o (by rw [q2];simp);obtain ⟨n1,n2⟩:=w.pn o (by rw [q2];simp);have hD:=RJ (s:=s) (R:=s.dat.rng) (by omega) (by rw [q1.dk];exact hb.dk);obtain ⟨L1,L2⟩:=Si (c:=s.dat) (t:=s.now) (x:=o.seg) (ds:=(DF s s.dat.rng).1);have hlim:=q1.lim;have hl:=hb.l;have hsn':(((s.sent++[⟨s.now,o.seg⟩]:List Out).length:Nat):Int)+l.length≤((p.d.size:Int)+15) / 16+X:=by simp only [xE,xF,zV];omega
 have hfb:∀f∈(D4 s o.seg).dat.frames,Blk p.d f.seg:=fun f hf=>by
  rcases Dw hf with hf|⟨d,hd,rfl⟩
  ·exact a.fb f hf
  ·exact hob
 have hA:∀Bl' v',0≤v'∧v'≤1→X+(Bl':List Int).length+v'≤(DF s s.dat.rng).2→BA p X Bl' v' {D4 s o.seg with pend:=l}:=fun Bl' v' k1 k2=>
  ⟨a.x0,k1,a.bu,a.se,hsn',k2,by
   show (DF s s.dat.rng).2≤_;rcases hD with ⟨d1,d2⟩|⟨d1,d2,d3⟩
   ·omega
   ·have:=d3 (by omega);omega,by
   show (CX s.dat s.now o.seg (DF s s.dat.rng).1).lost+s.rep.lost=(DF s s.dat.rng).2;rcases hD with ⟨d1,d2⟩|⟨d1,d2,d3⟩
   ·rw [L1 d1,d2];omega
   ·rw [L2 d1,d2];omega,fun x hx=>a.pb x (by rw [q2];simp [hx]),hfb,a.rc,a.ra,a.rf⟩
 have hold:∀f∈s.dat.frames,f∈(D4 s o.seg).dat.frames:=fun f hf=>D7.2 (.inl hf);have hpn:∀x∈l,(x.seg.chk=false→x.at_<s.snd.busy)∧(x.seg.chk=true→x.seg=ck):=fun x hx=>w.pn x (by rw [q2];simp [hx]);have hfc:∀f∈(D4 s o.seg).dat.frames,f.seg.chk=true→f.seg.ser=s.snd.ser→f.seg=ck:=fun f hf hc hs=>by
  rcases Dw hf with hf|⟨d,hd,rfl⟩
  ·exact w.fc f hf hc hs
  ·exact n2 hc
 cases hc:o.seg.chk with
 |false=>
  have hlt:=n1 hc;rcases hD with ⟨d1,d2⟩|⟨d1,d2,d3⟩
  ·have hg:(⟨s.now+s.dat.rng,s.dat.sent,o.seg⟩:Frame)∈(D4 s o.seg).dat.frames:=D7.2 (.inr ⟨_,d1,rfl⟩);refine ⟨X,Bl,v,hA Bl v hv (by omega),.inl ⟨hst,ck,w.cb,hpn,fun t h0 h1 => ?_,w.lz,w.cs,hfc,w.rq,fun hz => ?_⟩⟩
   ·rcases w.cv t h0 h1 with k|k|k|⟨x,hx,k⟩|⟨f,hf,k⟩
    ·exact .inl k
    ·exact .inr (.inl k)
    ·exact .inr (.inr (.inl k))
    ·rw [q2] at hx;rcases xL.1 hx with rfl|hx
     ·exact .inr (.inr (.inr (.inr ⟨_,hg,k.2,by show s.now+s.dat.rng<s.snd.busy+_;omega⟩)))
     ·exact .inr (.inr (.inr (.inl ⟨x,hx,k⟩)))
    ·exact .inr (.inr (.inr (.inr ⟨f,hold f hf,k⟩)))
   ·rcases w.al hz with ⟨x,hx,k⟩|⟨f,hf,k⟩|k
    ·rw [q2] at hx;rcases xL.1 hx with rfl|hx
     ·rw [hc] at k;cases k
     ·exact .inl ⟨x,hx,k⟩
    ·exact .inr (.inl ⟨f,hold f hf,k⟩)
    ·exact .inr (.inr k)
  ·refine ⟨X,o.seg.off / 16::Bl,v,hA _ v hv (by simp only [xF];omega),.inl ⟨hst,ck,w.cb,hpn,fun t h0 h1 => ?_,w.lz,w.cs,hfc,fun f hf hs t h0 h1 => ?_,fun hz => ?_⟩⟩
   ·rcases w.cv t h0 h1 with k|k|k|⟨x,hx,k⟩|⟨f,hf,k⟩
    ·exact .inl k
    ·exact .inr (.inl (xM _ k))
    ·exact .inr (.inr (.inl k))
    ·rw [q2] at hx;rcases xL.1 hx with rfl|hx
     ·have:=((hob.cov t).1 k.2).2;exact .inr (.inl (by rw [this];exact vC ..))
     ·exact .inr (.inr (.inr (.inl ⟨x,hx,k⟩)))
    ·exact .inr (.inr (.inr (.inr ⟨f,hold f hf,k⟩)))
   ·rcases w.rq f hf hs t h0 h1 with k|k
    ·exact .inl k
    ·exact .inr (xM _ k)
   ·rcases w.al hz with ⟨x,hx,k⟩|⟨f,hf,k⟩|k
    ·rw [q2] at hx;rcases xL.1 hx with rfl|hx
     ·rw [hc] at k;cases k
     ·exact .inl ⟨x,hx,k⟩
    ·exact .inr (.inl ⟨f,hold f hf,k⟩)
    ·exact .inr (.inr k)
 |true=>
  have hcv:∀t:Int,0≤t→t<p.d.size→AU t s.rcv.known∨t / 16∈Bl∨cov ck t∨(∃o∈l,o.seg.chk=false∧cov o.seg t)∨∃f∈(D4 s o.seg).dat.frames,cov f.seg t∧f.arr<s.snd.busy+p.c.rng:=fun t h0 h1=>by
   rcases w.cv t h0 h1 with k|k|k|⟨x,hx,k⟩|⟨f,hf,k⟩
   ·exact .inl k
   ·exact .inr (.inl k)
   ·exact .inr (.inr (.inl k))
   ·rw [q2] at hx;rcases xL.1 hx with rfl|hx
    ·rw [hc] at k;cases k.1
    ·exact .inr (.inr (.inr (.inl ⟨x,hx,k⟩)))
   ·exact .inr (.inr (.inr (.inr ⟨f,hold f hf,k⟩)))
  have hat:=o5 hc;rcases hD with ⟨d1,d2⟩|⟨d1,d2,d3⟩
  ·have hg:(⟨s.now+s.dat.rng,s.dat.sent,o.seg⟩:Frame)∈(D4 s o.seg).dat.frames:=D7.2 (.inr ⟨_,d1,rfl⟩);refine ⟨X,Bl,v,hA Bl v hv (by omega),.inl ⟨hst,ck,w.cb,hpn,hcv,w.lz,w.cs,hfc,w.rq,fun hz =>.inr (.inl ⟨_,hg,hc,?_,?_⟩)⟩⟩
   ·show o.seg.ser=_;rw [n2 hc];exact w.cs.2
   ·show s.now+s.dat.rng=s.snd.busy+p.c.rng;omega
  ·exact ⟨X,Bl,1,hA Bl 1 (by omega) (by omega),.inl ⟨hst,ck,w.cb,hpn,hcv,w.lz,w.cs,hfc,w.rq,fun hz=>by omega⟩⟩
theorem BA.rx {p:Par} {s s':Ses} {f:Frame} {l:List Frame} {X:Int} {Bl:List Int} {v:Int} (hp:POk p) (hb:BP p) (a:BA p X Bl v s) (q1:Inv p s) (q3:s.dat.frames=f::l) (hF:RxF p s s' f l) {v':Int} (hv:0≤v'∧v'≤1) (hd:X+Bl.length+v'≤s'.dist):BA p X Bl v' s':=by
 have hr:=hp.rng;have hlim:=q1.lim;have hl:=hb.l;have hdl:=a.dl;have hlo:=a.lo;have hfb:=a.fb f (by rw [q3];simp);have hrc:Clo p.d s'.rcv.known:=by
  intro t t' h h0 h1 he;rw [hF.mem] at h ⊢;rcases h with h|h
  ·exact .inl (a.rc t t' h h0 h1 he)
  ·have:=(hfb.cov t).1 h;exact .inr ((hfb.cov t').2 ⟨⟨h0,h1⟩,by omega⟩)
 have hD:=RJ (s:=s) (R:=p.c.rng) (by omega) (by rw [q1.dk];exact hb.dk);obtain ⟨L1,L2⟩:=Si (c:=s.rep) (t:=s.now) (x:=CI s.rcv f.seg) (ds:=(DF s p.c.rng).1);rw [q1.rr] at L1 L2;refine ⟨a.x0,hv,by rw [hF.snd];exact a.bu,by rw [hF.snd];exact a.se,by rw [hF.sent,hF.pend];exact a.sn,hd,?_,?_,by rw [hF.pend];exact a.pb,by rw [hF.dat];exact fun x hx=>a.fb x (by rw [q3];exact xM _ hx),hrc,by rw [hF.snd];exact a.ra,?_⟩
 ·cases hc:f.seg.chk with
  |false=>rw [(hF.no hc).2.2.2];exact hdl
  |true=>
   rw [(hF.yes hc).2.2.2.2];rcases hD with ⟨d1,d2⟩|⟨d1,d2,d3⟩
   ·omega
   ·have:=d3 (by omega);omega
 ·rw [hF.dat];cases hc:f.seg.chk with
  |false=>rw [(hF.no hc).2.2.2,(hF.no hc).1];exact hlo
  |true=>
   rw [(hF.yes hc).2.2.2.2,(hF.yes hc).2.1];rcases hD with ⟨d1,d2⟩|⟨d1,d2,d3⟩
   ·rw [L1 d1,d2];exact hlo
   ·rw [L2 d1,d2];show s.dat.lost+(s.rep.lost+1)=_;omega
 ·cases hc:f.seg.chk with
  |false=>rw [(hF.no hc).1];exact a.rf
  |true=>
   rw [(hF.yes hc).2.1];intro x hx;rcases Dw hx with hx|⟨d,hd,rfl⟩
   ·exact a.rf x hx
   ·show Clo p.d (CI s.rcv f.seg).claims;rw [hF.cl];exact hrc
theorem BI.rx {p:Par} {s s':Ses} {f:Frame} {l:List Frame} (hp:POk p) (hb:BP p) (h:BI p s) (q1:Inv p s) (q3:s.dat.frames=f::l) (q4:f.arr=s.now) (hF:RxF p s s' f l):BI p s':=by
 obtain ⟨X,Bl,v,a,w⟩:=h;have hr:=hp.rng;have hdi:=a.di;have hv:=a.v01;have hD:=RJ (s:=s) (R:=p.c.rng) (by omega) (by rw [q1.dk];exact hb.dk);have hdist:s.dist≤s'.dist:=by
  cases hc:f.seg.chk with
  |false=>rw [(hF.no hc).2.2.2];exact Int.le_refl _
  |true=>rw [(hF.yes hc).2.2.2.2];omega
 rcases w with ⟨hst,ck,w⟩|⟨w1,w2,w3⟩;rotate_left
 ·exact ⟨X,Bl,v,a.rx hp hb q1 q3 hF hv (by omega),.inr ⟨by rw [hF.snd];exact w1,by rw [hF.pend];exact w2,by rw [hF.knoAt];exact w3⟩⟩
 have hst':s'.snd.st=1:=by rw [hF.snd];exact hst
 have hfd:=q1.fd;have hcv:∀t:Int,0≤t→t<p.d.size→AU t s'.rcv.known∨t / 16∈Bl∨cov ck t∨(∃o∈s'.pend,o.seg.chk=false∧cov o.seg t)∨∃f∈s'.dat.frames,cov f.seg t∧f.arr<s'.snd.busy+p.c.rng:=fun t h0 h1=>by
  rw [hF.pend,hF.dat,hF.snd,hF.mem];rcases w.cv t h0 h1 with k|k|k|k|⟨g,hg,k⟩
  ·exact .inl (.inl k)
  ·exact .inr (.inl k)
  ·exact .inr (.inr (.inl k))
  ·exact .inr (.inr (.inr (.inl k)))
  ·rw [q3] at hg;rcases xL.1 hg with rfl|hg
   ·exact .inl (.inr k.1)
   ·exact .inr (.inr (.inr (.inr ⟨g,hg,k⟩)))
 have hpn:∀o∈s'.pend,(o.seg.chk=false→o.at_<s'.snd.busy)∧(o.seg.chk=true→o.seg=ck):=by rw [hF.pend,hF.snd];exact w.pn
 have hlz:∃z,(Cu p.d 0 (Dd s'.snd)).getLast? = some z∧ck.off=z.off:=by rw [hF.snd];exact w.lz
 have hcs:ck.chk=true∧ck.ser=s'.snd.ser:=by rw [hF.snd];exact w.cs
 have hfc:∀f∈s'.dat.frames,f.seg.chk=true→f.seg.ser=s'.snd.ser→f.seg=ck:=by rw [hF.dat,hF.snd];exact fun g hg=>w.fc g (by rw [q3];exact xM _ hg)
 cases hc:f.seg.chk with
 |false=>
  obtain ⟨r1,r2,r3,r4⟩:=hF.no hc;refine ⟨X,Bl,v,a.rx hp hb q1 q3 hF hv (by omega),.inl ⟨hst',ck,w.cb,hpn,hcv,hlz,hcs,hfc,by rw [r1,hF.snd];exact w.rq,fun hz => ?_⟩⟩;rw [hF.pend,hF.dat,hF.snd,r1];rcases w.al hz with k|⟨g,hg,k⟩|k
  ·exact .inl k
  ·rw [q3] at hg;rcases xL.1 hg with rfl|hg
   ·rw [hc] at k;cases k.1
   ·exact .inr (.inl ⟨g,hg,k⟩)
  ·exact .inr (.inr k)
 |true=>
  obtain ⟨y1,y2,y3,y4,y5⟩:=hF.yes hc;have hser:(CI s.rcv f.seg).ser=f.seg.ser:=rfl;have hrq:∀x∈s'.rep.frames,x.seg.ser=s'.snd.ser→∀t:Int,0≤t→t<p.d.size→AU t x.seg.claims∨t / 16∈Bl:=by
   rw [y2,hF.snd];intro x hx hs t h0 h1;rcases Dw hx with hx|⟨d,hd,rfl⟩
   ·exact w.rq x hx hs t h0 h1
   ·have hs:f.seg.ser=s.snd.ser:=hs;have hck:=w.fc f (by rw [q3];simp) hc hs;have hbu:=(hfd f (by rw [q3];simp)).2.2.2.2 hc hs;show AU t (CI s.rcv f.seg).claims∨_;rw [hF.cl];rw [hF.mem];rcases w.cv t h0 h1 with k|k|k|⟨o,ho,k⟩|⟨g,hg,k⟩
    ·exact .inl (.inl k)
    ·exact .inr k
    ·exact .inl (.inr (by rw [hck];exact k))
    ·have:=(q1.pd o ho).2;omega
    ·have:=(hfd g hg).2.2.1;omega
  rcases hD with ⟨d1,d2⟩|⟨d1,d2,d3⟩
  ·refine ⟨X,Bl,v,a.rx hp hb q1 q3 hF hv (by omega),.inl ⟨hst',ck,w.cb,hpn,hcv,hlz,hcs,hfc,hrq,fun hz => ?_⟩⟩;rw [hF.pend,hF.dat,hF.snd,y2];rcases w.al hz with k|⟨g,hg,k⟩|⟨g,hg,k⟩
   ·exact .inl k
   ·rw [q3] at hg;rcases xL.1 hg with rfl|hg
    ·exact .inr (.inr ⟨⟨s.now+p.c.rng,s.rep.sent,CI s.rcv g.seg⟩,D7.2 (.inr ⟨_,d1,rfl⟩),k.2.1,by show s.now+p.c.rng=_;omega⟩)
    ·exact .inr (.inl ⟨g,hg,k⟩)
   ·exact .inr (.inr ⟨g,D7.2 (.inl hg),k⟩)
  ·exact ⟨X,Bl,1,a.rx hp hb q1 q3 hF (by omega) (by omega),.inl ⟨hst',ck,w.cb,hpn,hcv,hlz,hcs,hfc,hrq,fun hz=>by omega⟩⟩
theorem BA.go {p:Par} {s:Ses} {X:Int} {Bl:List Int} {v:Int} (hp:POk p) (a:BA p X Bl v s) (hI:Inv p s) {q:Snd} {l:List Seg} {y:Seg} {Bl':List Int} (hpn:s.pend=[]) (hq:Oq p s.snd q)
  (hl:Hg p.d (s.snd.ser+1) l) (hy:l.getLast? = some y) (hbl:∀x∈l,Blk p.d x) (hqa:Clo p.d q.acked) (hz:∃z,(Cu p.d 0 (Dd q)).getLast? = some z∧y.off=z.off)
  (hnow:s.now≤s.snd.busy+2*p.c.rng+1) (hX:X+l.length+Bl'.length≤s.dist) (hcv:∀t:Int,0≤t→t<p.d.size→AU t s.rcv.known∨t / 16∈Bl'∨∃x∈l,cov x t) :
  BA p (X+l.length) Bl' 0 {s with snd:=BJ q (Ah p.c.rate s.now l) (s.snd.ser+1),pend:=BD p.c.rate s.now l}∧BW p Bl' 0 y {s with snd:=BJ q (Ah p.c.rate s.now l) (s.snd.ser+1),pend:=BD p.c.rate s.now l}:=by
 have hr:=hp.rng;have hn:=hI.sn.num hp;obtain ⟨pre,y',e,e1,e2,e3⟩:=hl.ex;have hyy:y'=y:=by rw [e,wX] at hy;exact Option.some.inj hy
 subst hyy;have hlen:1≤l.length:=by rw [e];simp
 have hend:=end_len (r:=p.c.rate) ⟨hr.2.2.1,hr.2.2.2.1⟩ l s.now hl.pc;have hbu:=a.bu;have hsn:=a.sn;rw [hpn] at hsn;simp only [zV,vN,Int.add_zero] at hsn;have hmul:(X+l.length)*TTp p=X*TTp p+(l.length*(2*p.c.rng+1)+l.length*tk p.c.rate 16):=by unfold TTp;rw [Int.add_mul,Int.mul_add (l.length:Int)]
 have hge:1*(2*p.c.rng+1)≤(l.length:Int)*(2*p.c.rng+1):=Int.mul_le_mul_of_nonneg_right (by omega) (by omega);have hx0:=a.x0;have hse:=a.se;have hmem:∀x∈l,∃o∈BD p.c.rate s.now l,o.seg=x:=fun x hx=>by
  have:x∈(BD p.c.rate s.now l).map Out.seg:=by rw [EV];exact hx
  obtain ⟨o,ho,h⟩:=wJ.1 this;exact ⟨o,ho,h⟩
 have hmem':∀o∈BD p.c.rate s.now l,o.seg∈l:=fun o ho=>by have:o.seg∈(BD p.c.rate s.now l).map Out.seg:=vV ho;rw [EV] at this;exact this
 refine ⟨⟨by omega,by omega,?_,?_,?_,(show X+(l.length:Int)+Bl'.length+0≤s.dist by omega),a.dl,a.lo,fun o ho=>hbl _ (hmem' o ho),a.fb,a.rc,hqa,a.rf⟩,⟨hbl y' (by rw [e];simp),fun o ho => ?_,fun t h0 h1 => ?_,hz,⟨e1,e2⟩,fun f hf hc hs => ?_,fun f hf hs => ?_,fun _ => ?_⟩⟩
 ·show Ah p.c.rate s.now l≤_;omega
 ·show s.snd.ser+1≤_;omega
 ·show (s.sent.length:Int)+(BD p.c.rate s.now l).length≤_;rw [CL];omega
 ·have ht:=(hl.pc y' (by rw [e];simp)).Ci (r:=p.c.rate) ⟨hr.2.2.1,hr.2.2.2.1⟩;have hee:Ah p.c.rate s.now l=Ah p.c.rate s.now pre+Ci p.c.rate y':=by rw [e,Iz]
  show (_→_<Ah p.c.rate s.now l)∧_;have ho':=ho;simp only [e,Dm] at ho';rcases xK.1 ho' with ho'|ho'
  ·have:=(It (r:=p.c.rate) pre s.now fun x hx=>((hl.pc x (by rw [e];simp [hx])).Ci ⟨hr.2.2.1,hr.2.2.2.1⟩).2).2.1 o ho';have hf:=e3 _ this.2.2;exact ⟨fun _=>by omega,fun q=>by rw [hf] at q;cases q⟩
  ·rw [xQ] at ho';subst ho';exact ⟨fun q=>(by rw [e1] at q;cases q),fun _=>rfl⟩
 ·rcases hcv t h0 h1 with k|k|⟨x,hx,k⟩
  ·exact .inl k
  ·exact .inr (.inl k)
  ·have hx':=hx;rw [e] at hx';rcases xK.1 hx' with hx'|hx'
   ·obtain ⟨o,ho,rfl⟩:=hmem x hx;exact .inr (.inr (.inr (.inl ⟨o,ho,e3 _ hx',k⟩)))
   ·rw [xQ] at hx';subst hx';exact .inr (.inr (.inl k))
 ·have:=(hI.fd f hf).2.1;have hs:f.seg.ser=s.snd.ser+1:=hs;omega
 ·have:=(hI.fr f hf).2.1;have hs:f.seg.ser=s.snd.ser+1:=hs;omega
 ·obtain ⟨o,ho,k⟩:=hmem y' (by rw [e];simp);exact .inl ⟨o,ho,by rw [k];exact e1⟩
end Ab
namespace Ab
open Go
theorem GS {r n:Int} (hr:1≤r∧r≤1000) (hn:1≤n∧n≤16):1≤tk r n∧tk r n≤24:=by unfold tk;refine ⟨(Int.le_ediv_iff_mul_le (by omega)).2 (by omega),?_⟩;have h:(n+7+r) / r<25:=(Int.ediv_lt_iff_lt_mul (by omega)).2 (by omega);omega
theorem FQ {c:Con} (h:ES c=0):(1≤c.rng∧c.rng≤1048576)∧(1≤c.rate∧c.rate≤1000)∧(0≤c.loss∧c.loss≤16)∧0≤c.start∧c.start<c.fin∧c.fin≤1099511627776-2*c.rng:=by obtain ⟨c1,c2⟩:=Dy h;unfold GR at c1;omega
theorem tk_run {r n:Int} (hr:1≤r∧r≤1000) (hn:1≤n∧n≤16):w64 (tdiv (w64 (w64 (w64 (n+8)+r)-1)) r)=tk r n:=by have ht:=GS hr hn;rw [AN (x:=n+8) (by omega) (by omega),AN (x:=n+8+r) (by omega) (by omega),AN (x:=n+8+r-1) (by omega) (by omega),Int.tdiv_eq_ediv_of_nonneg (by omega),show n+8+r-1=n+7+r by omega];exact AN (by unfold tk at ht;omega) (by unfold tk at ht;omega)
theorem s105 (c:Con) (n:Int) (hc:ES c=0) (hn:1≤n∧n≤16):AL C 105 (c.enc++[tI n]) [tI (tk c.rate n)]:=by have h:=FQ hc;refine AL.of (fun m=>e105 m _ _ _ _ _ _ _ _) (Ev.of fun m => ?_);rw [CT (by omega),tk_run h.2.1 hn]
theorem SK {r n:Int} (hr:1≤r∧r≤1000) (hn:0≤n∧n≤65536):0≤D0 r n∧D0 r n≤100000∧0≤(n / 16)*tk r 16∧(n / 16)*tk r 16≤98304:=by
 have h16:=GS hr (n:=16) (by omega);have h1:(n / 16)*tk r 16≤4096*24:=Int.mul_le_mul (by omega) (by omega) (by omega) (by omega);have h2:0≤(n / 16)*tk r 16:=vM (by omega) (by omega);unfold D0;split
 ·have:=GS hr (n:=n % 16) (by omega);omega
 ·omega
theorem Wf {r m:Int} (hm:0<m):D0 r m=tk r (if 16<m then 16 else m)+D0 r (if 0≤m-16 then m-16 else 0):=by
 unfold D0;by_cases h:16≤m
 ·rw [show m / 16=(m-16) / 16+1 by omega,if_pos (show 0≤m-16 by omega),show m % 16=(m-16) % 16 by omega,Int.add_mul,Int.one_mul];by_cases h2:16<m
  ·rw [if_pos h2];omega
  ·rw [if_neg h2,show m=16 by omega];omega
 ·rw [show m / 16=0 by omega,if_neg (show ¬0≤m-16 by omega),show m % 16=m by omega,if_pos hm,if_neg (by omega)];simp
theorem s104 (c:Con) (n:Int) (hc:ES c=0) (hn:1≤n∧n≤65536):AL C 104 (c.enc++[tI n]) [tI (D0 c.rate n)]:=by
 have h:=FQ hc;refine AL.of (fun m=>e104 m _ _ _ _ _ _ _ _) ?_;refine Hh (σ:=Int×Int) (fun (q:Int)=>[tI q]) (fun s=>(([.t (tI s.1)],[.box [.t (tI s.2)],.box []]):List AV×Heap)) (fun s=>if 0<s.1 then .next (s.1-16,s.2+tk c.rate (if 16<s.1 then 16 else s.1)) else .done s.2) (fun s => -16≤s.1∧s.1≤65536∧0≤s.2∧s.2≤24*(65536-s.1)) (fun s=>(s.1+16).toNat) (fun s=>s.2+D0 c.rate (if 0≤s.1 then s.1 else 0)) (n,0) rfl ⟨by simp only;omega,by simp only;omega,by simp,by simp only;omega⟩ ?_ (fun s hI => ?_) (fun s s' hI hs => ?_) (fun s hI => ?_)
 ·simp only [Int.zero_add];rw [if_pos (by omega)]
 ·obtain ⟨m,a⟩:=s;simp only at hI;by_cases hm:0<m
  ·have hq:1≤(if 16<m then (16:Int) else m)∧(if 16<m then (16:Int) else m)≤16:=by split<;>omega
   have ht:=GS h.2.1 hq;refine (s105 c _ hc hq).mono fun n e again => ?_;simp only [Con.enc,yY,xR] at e;simp only [U5,vv,vf,hm,e,Rd.Aw,AN (x:=m-16) (by omega) (by omega),AN (x:=a+tk c.rate (if 16<m then 16 else m)) (by omega) (by omega)]
  ·refine Ev.of fun n again => ?_;simp only [U5,vv,vf,hm,Rd.Be]
 ·obtain ⟨m,a⟩:=s;simp only at hI hs;split at hs
  ·rename_i hm;have hq:1≤(if 16<m then (16:Int) else m)∧(if 16<m then (16:Int) else m)≤16:=by split<;>omega
   have ht:=GS h.2.1 hq;cases hs;simp only;omega
  ·cases hs
 ·obtain ⟨m,a⟩:=s;simp only at hI ⊢;by_cases hm:0<m
  ·rw [if_pos hm,if_pos (by omega)];simp only [Rd.fin];rw [Wf hm];omega
  ·rw [if_neg hm];simp only [Rd.fin];have e:(if 0≤m then m else (0:Int))=0:=by split<;>omega
   rw [e];simp [D0]
def IV (c:Con) (n:Int):Int:=if ES c≠0 then 1 else if 1≤n∧n≤65536 then 0 else 2
theorem s22 (c:Con) (n:Int):AL C 22 (c.enc++[tI n]) [tI (IV c n)]:=by
 refine AL.of (fun m=>e22 m _ _ _ _ _ _ _ _) ?_;refine ((s57 c).and (s58 n 1 65536)).mono fun m h => ?_;obtain ⟨h1,h2⟩:=h;simp only [Con.enc] at h1;simp only [h1,h2,vv,vf,IV,wi];by_cases a:ES c=0
 ·by_cases b:1≤n∧n≤65536<;>simp [a,b,AB]
 ·simp [a,AB]
theorem Lw {c:Con} {n:Int} (h:IV c n=0):ES c=0∧1≤n∧n≤65536:=by
 unfold IV at h;split at h
 ·omega
 ·split at h
  ·omega
  ·omega
end Ab
namespace Ab
open Go
theorem WG {p:Par} (hp:POk p):2*p.c.rng+2≤TTp p:=by have hr:=hp.rng;have:=GS (r:=p.c.rate) (n:=16) (by omega) (by omega);unfold TTp;omega
theorem Q5 {p:Par} (hp:POk p) (hb:BP p) {k:Int} (hk:k≤p.c.loss):p.b+D0 p.c.rate p.d.size+k*TTp p≤p.e:=by have:=WG hp;have hr:=hp.rng;have h:=Int.mul_le_mul_of_nonneg_right hk (show 0≤TTp p by omega);have:=hb.e;omega
theorem BA.B7 {p:Par} {X:Int} {Bl:List Int} {v:Int} {s:Ses} (a:BA p X Bl v s):BA p X Bl v (Ab.B7 s):=
 {a with rf:=fun f hf=>a.rf f (List.mem_of_mem_tail hf)}
theorem BI.ls {p:Par} {s s':Ses} {f:Frame} {l:List Frame} {kt:Int→Int} (hp:POk p) (hb:BP p) (hk:Knw p kt s) (h:BI p s) (q1:Inv p s) (q2:PGt s) (q3:DGt s) (q4:s.rep.frames=f::l) (q5:f.arr=s.now) (q6:LsR p (B7 s) f.seg s'):BI p s':=by
 obtain ⟨X,Bl,v,a,w⟩:=h;have hr:=hp.rng;have hn:=q1.sn.num hp;have hdi:=a.di;have hdl:=a.dl;have hv:=a.v01;have hbu:=a.bu;have hlim:=hb.l;obtain ⟨f1,f2,f3,f4,f5⟩:=q1.fr f (by rw [q4];simp);obtain ⟨hQ,hack⟩:=q1.sn.ack hp f1;have hl:(Ab.B7 s).rep.frames=l:=by simp [Ab.B7,q4]
 have a':=a.B7;have hcf:=a.rf f (by rw [q4];simp);have hra:Clo p.d (BO s.snd f.seg).acked:=by
  intro t t' h h0 h1 he;rw [hack] at h ⊢;rcases h with h|h
  ·exact .inl (a.ra t t' h h0 h1 he)
  ·exact .inr (hcf t t' h h0 h1 he)
 rcases w with ⟨hst,ck,w⟩|⟨w1,w2,w3⟩;rotate_left
 ·cases q6 with
  |busy a1=>exact ⟨X,Bl,v,a',.inr ⟨w1,w2,w3⟩⟩
  |same a1 a2=>exact ⟨X,Bl,v,a',.inr ⟨w1,w2,w3⟩⟩
  |done a1 a2 a3 a4=>have:s.snd.st=1:=a2;omega
  |fail a1 a2 a3 a4 a5=>have:s.snd.st=1:=a2;omega
  |send a1 a2 a3 a4 a5=>have:s.snd.st=1:=a2;omega
 have hrq:∀x∈l,x.seg.ser=s.snd.ser→∀t:Int,0≤t→t<p.d.size→AU t x.seg.claims∨t / 16∈Bl:=fun x hx=>w.rq x (by rw [q4];simp [hx]);have keep:(∀g:Frame,g=f→g.seg.ser=s.snd.ser→g.arr=s.snd.busy+2*p.c.rng→False)→BI p (Ab.B7 s):=fun hno=>by
  refine ⟨X,Bl,v,a',.inl ⟨hst,ck,w.cb,w.pn,w.cv,w.lz,w.cs,w.fc,by rw [hl];exact hrq,fun hz => ?_⟩⟩;rcases w.al hz with k|k|⟨g,hg,k1,k2⟩
  ·exact .inl k
  ·exact .inr (.inl k)
  ·rw [q4] at hg;rcases xL.1 hg with e|hg
   ·exact (hno g e k1 k2).elim
   ·exact .inr (.inr ⟨g,by rw [hl];exact hg,k1,k2⟩)
 have hdue:=(q1.due hst).2;have hdu:=q1.du hst;have hv1:s.now=s.snd.busy+2*p.c.rng+1→¬s.now<s.snd.busy→v=1:=fun e nb=>by
  refine Classical.byContradiction fun hv' => ?_;rcases w.al (by omega) with ⟨o,ho,k⟩|⟨g,hg,k1,k2,k3⟩|⟨g,hg,k1,k2⟩
  ·rw [DN q1 q2 nb] at ho;cases ho
  ·have:=q3 g hg;omega
  ·have:=(q1.fr g hg).2.2.1;omega
 have hbat:¬s.now<s.snd.busy→s.snd.st=1→f.seg.ser=s.snd.ser→complete (BO s.snd f.seg)=false→∃y,X+(Aa (BO s.snd f.seg)).length≤p.c.loss∧
   BA p (X+(Aa (BO s.snd f.seg)).length) [] 0 {B7 s with snd:=BJ (BO s.snd f.seg) (Ah p.c.rate s.now (Aa (BO s.snd f.seg))) (s.snd.ser+1),pend:=BD p.c.rate s.now (Aa (BO s.snd f.seg))}∧
   BW p [] 0 y {B7 s with snd:=BJ (BO s.snd f.seg) (Ah p.c.rate s.now (Aa (BO s.snd f.seg))) (s.snd.ser+1),pend:=BD p.c.rate s.now (Aa (BO s.snd f.seg))}:=fun a1 a2 a3 a4=>by
  obtain ⟨hL,y,z,y1,y2,y3⟩:=hQ.blk hp q1.sn a4 hra;have hlen:(Aa (BO s.snd f.seg)).length≤Bl.length:=by
   have:=Q4 _ Bl hL.od fun k hk=>by
    obtain ⟨x,hx,rfl⟩:=wJ.1 hk;obtain ⟨b1,b2⟩:=hL.bk x hx;rcases w.rq f (by rw [q4];simp) a3 x.off b1.1 b1.2.1 with m|m
    ·exact (b2 ((hack _).2 (.inr m))).elim
    ·exact m
   rwa [xH] at this
  refine ⟨y,by omega,?_⟩;refine BA.go (s:=Ab.B7 s) (Bl':=[]) hp a' q1.B7 (DN (s:=s) q1 q2 a1) hQ (hQ.bat hp q1.sn a4) y1 (fun x hx=>(hL.bk x hx).1) hra ⟨z,y2,y3⟩ (by show s.now≤s.snd.busy+_+1;omega) (by show X+_+0≤s.dist;omega) fun t h0 h1 => ?_;by_cases hm:AU t (BO s.snd f.seg).acked
  ·refine .inl ?_;rcases (hack t).1 hm with m|m
   ·exact (hk.k2 t m).1
   ·exact (hk.k3 f (by rw [q4];simp) t m).1
  ·exact .inr (.inr (hL.al t h0 h1 hm))
 cases q6 with
 |busy a1=>
  have a1:s.now<s.snd.busy:=a1;exact keep fun g e k1 k2=>by rw [e] at k2;omega
 |same a1 a2=>
  have a2:s.snd.st≠1∨f.seg.ser≠s.snd.ser:=a2;exact keep fun g e k1 k2=>by rw [e] at k1;omega
 |done a1 a2 a3 a4=>
  have a1:¬s.now<s.snd.busy:=a1;have h5:=f5 a3;refine ⟨X,Bl,v,⟨a.x0,a.v01,a.bu,a.se,a.sn,a.di,a.dl,a.lo,a.pb,a.fb,a.rc,hra,a'.rf⟩,.inr ⟨rfl,DN (s:=s) q1 q2 a1,?_⟩⟩;show s.now≤_;by_cases e:s.now=s.snd.busy+2*p.c.rng+1
  ·have:=hv1 e a1;have h1:=Q5 hp hb (k:=X+1) (by omega);rw [Int.add_mul,Int.one_mul] at h1;have:=WG hp;omega
  ·omega
 |fail a1 a2 a3 a4 a5=>
  obtain ⟨y,k1,k2,k3⟩:=hbat a1 a2 a3 a4;have h1:=Q5 hp hb k1;have h2:Ah p.c.rate s.now (Aa (BO s.snd f.seg))≤_:=k2.bu;have a5:p.e<Ah p.c.rate s.now (Aa (BO s.snd f.seg)):=a5;omega
 |send a1 a2 a3 a4 a5=>
  obtain ⟨y,k1,k2,k3⟩:=hbat a1 a2 a3 a4;exact ⟨_,[],0,k2,.inl ⟨rfl,y,k3⟩⟩
theorem BI.ex {p:Par} {s s':Ses} (hp:POk p) (hb:BP p) (h:BI p s) (q1:Inv p s) (q2:PGt s) (q3:DGt s) (q4:RGt s) (q5:ExR p s s'):BI p s':=by
 have h0:=h;obtain ⟨X,Bl,v,a,w⟩:=h;have hr:=hp.rng;have hdi:=a.di;have hdl:=a.dl;have hv:=a.v01;have hbu:=a.bu;have hlim:=hb.l;have hQ:=q1.sn.q hp;have hbat:s.snd.st=1→s.snd.due=s.now→complete s.snd=false→∃y,X+1≤p.c.loss∧(Br (Aa s.snd)).length=1∧
   BA p (X+(Br (Aa s.snd)).length) Bl 0 {s with snd:=BJ s.snd (Ah p.c.rate s.now (Br (Aa s.snd))) (s.snd.ser+1),pend:=BD p.c.rate s.now (Br (Aa s.snd))}∧
   BW p Bl 0 y {s with snd:=BJ s.snd (Ah p.c.rate s.now (Br (Aa s.snd))) (s.snd.ser+1),pend:=BD p.c.rate s.now (Br (Aa s.snd))}:=fun a1 a2 a3=>by
  have hdue:=(q1.due a1).2;rcases w with ⟨hst,ck,w⟩|⟨w1,_⟩;rotate_left
  ·omega
  have hpn:=DN q1 q2 (by omega);have hv1:v=1:=by
   refine Classical.byContradiction fun hv' => ?_;rcases w.al (by omega) with ⟨o,ho,k⟩|⟨g,hg,k1,k2,k3⟩|⟨g,hg,k1,k2⟩
   ·rw [hpn] at ho;cases ho
   ·have:=q3 g hg;omega
   ·have:=q4 g hg;omega
  obtain ⟨hL,y,z,y1,y2,y3⟩:=hQ.blk hp q1.sn a3 a.ra;have hB:=hQ.bat hp q1.sn a3;obtain ⟨pre,x,ex,e1,e2,e3⟩:=hB.ex;have hxy:x=y:=by rw [ex,wX] at y1;exact Option.some.inj y1
  subst hxy;have el:Br (Aa s.snd)=[x]:=by rw [ex,GX]
  have hxm:x∈Aa s.snd:=by rw [ex];simp
  obtain ⟨z',z1,z2⟩:=w.lz;have hzz:z'=z:=by rw [z1] at y2;exact Option.some.inj y2
  rw [hzz] at z2;refine ⟨x,by omega,by rw [el];rfl,BA.go hp a q1 hpn hQ hB.last (by rw [el];rfl) (fun u hu => ?_) a.ra ⟨z,y2,y3⟩ (by omega) (by rw [el];simp only [xF,zV];omega) fun t h0 h1 => ?_⟩
  ·rw [el,xQ] at hu;subst hu;exact (hL.bk u hxm).1
  ·rcases w.cv t h0 h1 with k|k|k|⟨o,ho,k⟩|⟨f,hf,k1,k2⟩
   ·exact .inl k
   ·exact .inr (.inl k)
   ·refine .inr (.inr ⟨x,by rw [el];simp,?_⟩);have b1:=(hL.bk x hxm).1;have b2:=(w.cb.cov t).1 k;exact (b1.cov t).2 ⟨b2.1,by rw [b2.2,y3,z2]⟩
   ·rw [hpn] at ho;cases ho
   ·have:=q3 f hf;omega
 cases q5 with
 |same a1=>exact h0
 |fail a1 a2 a3=>
  obtain ⟨y,k1,k0,k2,k3⟩:=hbat a1 a2 (q1.due a1).1;have h1:=Q5 hp hb k1;have h2:Ah p.c.rate s.now (Br (Aa s.snd))≤_:=k2.bu;rw [k0] at h2;have h3:(X+((1:Nat):Int))*TTp p=(X+1)*TTp p:=rfl;omega
 |send a1 a2 a3 a4=>
  obtain ⟨y,k1,k0,k2,k3⟩:=hbat a1 a2 a3;exact ⟨_,Bl,0,k2,.inl ⟨rfl,y,k3⟩⟩
theorem BI.mic {p:Par} {s s':Ses} (hp:POk p) (hb:BP p) (h:(∃kt,Knw p kt s)∧BI p s) (m:Mic p s s'):(∃kt,Knw p kt s')∧BI p s':=by
 obtain ⟨⟨kt,hk⟩,h⟩:=h;refine ⟨hk.mic hp m,?_⟩;cases m with
 |time t q1 q2 q3 q4 q5 q6=>
  obtain ⟨X,Bl,v,a,w⟩:=h;refine ⟨X,Bl,v,{a with},?_⟩;rcases w with ⟨hst,ck,w⟩|w
  ·exact .inl ⟨hst,ck,{w with}⟩
  ·exact .inr w
 |tx o l q1 q2 q3=>exact h.tx hp hb q1 q2 q3
 |rx f l q1 q2 q3 q4=>exact h.rx hp hb q1 q3 q4 (q1.rxFs hp q3 q4)
 |ls _ f l q1 q2 q3 q4 q5 q6=>exact BI.ls hp hb hk h q1 q2 q3 q4 q5 q6
 |ex _ q1 q2 q3 q4 q5=>exact h.ex hp hb q1 q2 q3 q4 q5
theorem I5 (d:ByteArray):Clo d []:=fun t t' h=>by simp [AU] at h
theorem bi_ini {p:Par} (hp:POk p) (hb:BP p) (h:(BS p.c 0 p.d p.b p.e).2.2=0):BI p (Ei p):=by
 obtain ⟨hB,he,g1,g2⟩:=Hk hp h;have hr:=hp.rng;have hd:=hp.sz;obtain ⟨t1,t2⟩:=TM (d:=p.d) (r:=p.c.rate) (t:=p.b) ⟨by omega,by omega⟩ ⟨by omega,by omega⟩;have hbe:=Fw (ses:=0) (d:=p.d) ⟨by omega,by omega⟩ ⟨by omega,by omega⟩;have ee1:(Ei p).pend=BD p.c.rate p.b (Bh 0 1 p.d (AM p.d)):=g2;have ee2:(Ei p).snd=BJ (Bf p.c 0 p.d p.e) (Ah p.c.rate p.b (Bh 0 1 p.d (AM p.d))) 1:=g1;have eb:(Ei p).snd.busy=Ah p.c.rate p.b (Bh 0 1 p.d (AM p.d)):=by rw [ee2];rfl
 have es:(Ei p).snd.ser=1:=by rw [ee2];rfl
 have ea:(Ei p).snd.acked=[]:=by rw [ee2];rfl
 have est:(Ei p).snd.st=1:=by rw [ee2];rfl
 have edt:(Ei p).snd.data=p.d:=by rw [ee2];rfl
 have ef:Dd (Ei p).snd=AM p.d:=Nv ⟨by omega,by omega⟩ _ edt ea;have hwc:BU (AM p.d)=0:=by rw [Ax];refine ⟨by simp [AM],⟨by simp only;omega,by simp only;omega,trivial⟩,fun x hx => ?_⟩;simp only [AM,xQ] at hx;subst hx;simp only;omega
 have hww:B8 (AM p.d) p.d.size:=fun x hx=>by simp only [AM,xQ] at hx;subst hx;simp only;omega
 have hR:=Nc (d:=p.d) (a:=[]) (l:=AM p.d) (fun t=>by simp [AM,AU]) hwc hww (I5 _);have e0:Bh 0 1 p.d (AM p.d)=DO 1 (Cu p.d 0 (AM p.d)):=by unfold Bh;rw [if_pos hbe]
 have eo:(Bh 0 1 p.d (AM p.d)).map (fun x=>(x.off,(x.data.size:Int)))=(Cu p.d 0 (AM p.d)).map fun x=>(x.off,(x.data.size:Int)):=by rw [e0];exact La _ _
 have hL:=hR.of eo;obtain ⟨pre,ck,ex,x1,x2,x3⟩:=hB.ex;have hz:∃z,(Cu p.d 0 (AM p.d)).getLast? = some z∧ck.off=z.off:=by
  have e2:=congrArg List.getLast? eo;rw [vR,vR] at e2;cases hz:(Cu p.d 0 (AM p.d)).getLast? with
  |none=>rw [hz,ex] at e2;simp at e2
  |some z=>
   rw [hz,ex,wX] at e2;simp only [yP,Option.some.injEq] at e2;injection e2 with e3 e4;exact ⟨z,rfl,e3⟩
 have hmem:∀x∈Bh 0 1 p.d (AM p.d),∃o∈(Ei p).pend,o.seg=x:=fun x hx=>by
  rw [ee1];have:x∈(BD p.c.rate p.b (Bh 0 1 p.d (AM p.d))).map Out.seg:=by rw [EV];exact hx
  obtain ⟨o,ho,h⟩:=wJ.1 this;exact ⟨o,ho,h⟩
 have hmem':∀o∈(Ei p).pend,o.seg∈Bh 0 1 p.d (AM p.d):=fun o ho=>by rw [ee1] at ho;have:o.seg∈(BD p.c.rate p.b (Bh 0 1 p.d (AM p.d))).map Out.seg:=vV ho;rw [EV] at this;exact this
 refine ⟨0,[],0,⟨Int.le_refl _,by omega,by rw [eb,t1];simp,by rw [es];omega,?_,by show (0:Int)+0+0≤0;omega,hb.l.1,rfl,fun o ho=>(hL.bk _ (hmem' o ho)).1,(fun f hf=>by cases hf),I5 _,by rw [ea];exact I5 _,(fun f hf=>by cases hf)⟩,
  .inl ⟨est,ck,(hL.bk ck (by rw [ex];simp)).1,fun o ho => ?_,fun t h0 h1 => ?_,by rw [ef];exact hz,⟨x1,by rw [es];exact x2⟩,(fun f hf=>by cases hf),(fun f hf=>by cases hf),fun _ => ?_⟩⟩
 ·rw [ee1,CL];show (0:Int)+_≤_;omega
 ·rw [eb];have ho':=ho;rw [ee1,ex,Dm] at ho';have ht:=(hB.pc ck (by rw [ex];simp)).Ci (r:=p.c.rate) ⟨hr.2.2.1,hr.2.2.2.1⟩;have hee:Ah p.c.rate p.b (Bh 0 1 p.d (AM p.d))=Ah p.c.rate p.b pre+Ci p.c.rate ck:=by rw [ex,Iz]
  rcases xK.1 ho' with ho'|ho'
  ·have:=(It (r:=p.c.rate) pre p.b fun x hx=>((hB.pc x (by rw [ex];simp [hx])).Ci ⟨hr.2.2.1,hr.2.2.2.1⟩).2).2.1 o ho';have hf:=x3 _ this.2.2;exact ⟨fun _=>by omega,fun q=>by rw [hf] at q;cases q⟩
  ·rw [xQ] at ho';subst ho';exact ⟨fun q=>(by rw [x1] at q;cases q),fun _=>rfl⟩
 ·obtain ⟨x,hx,k⟩:=hL.al t h0 h1 (by simp [AU]);have hx':=hx;rw [ex] at hx';rcases xK.1 hx' with hx'|hx'
  ·obtain ⟨o,ho,rfl⟩:=hmem x hx;exact .inr (.inr (.inr (.inl ⟨o,ho,x3 _ hx',k⟩)))
  ·rw [xQ] at hx';subst hx';exact .inr (.inr (.inl k))
 ·obtain ⟨o,ho,k⟩:=hmem ck (by rw [ex];simp);exact .inl ⟨o,ho,by rw [k];exact x1⟩
theorem bi_fin {p:Par} (hp:POk p) (hb:BP p) (h:(BS p.c 0 p.d p.b p.e).2.2=0) :
  (ER p).rcvd=true∧(ER p).kno=true∧(ER p).arrive+p.c.rng≤p.e+2*p.c.rng∧(ER p).knoAt≤p.e+2*p.c.rng∧(ER p).snd.busy≤p.e∧(ER p).entered≤((p.d.size:Int)+15) / 16+3*p.c.loss+2∧(ER p).dat.lost+(ER p).rep.lost≤p.lim:=by
 obtain ⟨f1,f2,f3⟩:=OG hp h;obtain ⟨⟨kt,hk⟩,X,Bl,v,a,w⟩:=f1.ind (fun s=>(∃kt,Knw p kt s)∧BI p s) ⟨knw_ini hp h,bi_ini hp hb h⟩ fun s s' k m=>BI.mic hp hb k m;obtain ⟨n1,n2,n3,n4⟩:=SX f3;have hn:=f2.i.sn.num hp;rcases w with ⟨hst,_⟩|⟨w1,w2,w3⟩
 ·exact (n4 hst).elim
 have hkn:=f2.i.kn.2 w1;obtain ⟨r1,r2⟩:=hk.k7 hkn;have hsn:=a.sn;have hse:=a.se;have hdi:=a.di;have hdl:=a.dl;have hlo:=a.lo;have hv:=a.v01;have c1:=f2.i.c1;have c2:=f2.i.c2;have c3:=f2.i.c3;have c6:=f2.i.c6;have hl:=hb.l;rw [n1] at hsn c6;rw [n2] at c6;simp only [zV,List.countP_nil,vN,Int.add_zero,Int.mul_zero] at hsn c6;exact ⟨r1,hkn,by omega,w3,hn.2.1,by omega,by omega⟩
theorem bnd_ok {p:Par} (hb:BP p) (hc:ES p.c=0) (hs:p.c.start≤p.b) (he:p.e≤p.c.fin) (hd:1≤p.d.size∧p.d.size≤300) (hpl:p.ps.length≤60) (hpk:∀x∈p.ps,-9223372036854775808≤x∧x≤9223372036854775807) :
  POk p∧p.ps.length≤1000∧ -1≤p.lim∧BU p.dk=0∧(BS p.c 0 p.d p.b p.e).2.2=0:=by
 obtain ⟨c1,c2⟩:=Dy hc;unfold GR at c1;have hl:=hb.l;have hE:=hb.e;have h16:=GS (r:=p.c.rate) (n:=16) (by omega) (by omega);have hps:0≤D0 p.c.rate p.d.size∧D0 p.c.rate p.d.size≤456:=by
  have h1:((p.d.size:Int) / 16)*tk p.c.rate 16≤18*24:=Int.mul_le_mul (by omega) (by omega) (by omega) (by omega);have h2:0≤((p.d.size:Int) / 16)*tk p.c.rate 16:=vM (by omega) (by omega);unfold D0;split
  ·have:=GS (r:=p.c.rate) (n:=(p.d.size:Int) % 16) (by omega) (by omega);omega
  ·omega
 have hTT:p.c.loss*TTp p=p.c.loss*(2*p.c.rng+1)+p.c.loss*tk p.c.rate 16:=by unfold TTp;rw [Int.mul_add]
 have hm1:p.c.loss*(2*p.c.rng+1)≤16*(2*p.c.rng+1):=Int.mul_le_mul_of_nonneg_right (by omega) (by omega);have hm2:p.c.loss*tk p.c.rate 16≤16*24:=Int.mul_le_mul (by omega) (by omega) (by omega) (by omega);have hm3:0≤p.c.loss*(2*p.c.rng+1):=vM (by omega) (by omega);have hm4:0≤p.c.loss*tk p.c.rate 16:=vM (by omega) (by omega);have hp:POk p:=by
  refine ⟨hc,⟨hs,by omega,he⟩,hd,hpk,by omega,fun k k1 k2 => ?_⟩;by_cases hR:100≤p.c.rng
  ·refine .inl ?_;have hk:k≤22:=by refine Classical.byContradiction fun q => ?_;have:22*(2*p.c.rng+1)≤(k-1)*(2*p.c.rng+1):=Int.mul_le_mul_of_nonneg_right (by omega) (by omega);omega
   have:nB p.d*k≤170*k:=Int.mul_le_mul_of_nonneg_right (by unfold nB;omega) (by omega);omega
  ·refine .inr ?_;have hk:k≤297:=by refine Classical.byContradiction fun q => ?_;have:297*(2*p.c.rng+1)≤(k-1)*(2*p.c.rng+1):=Int.mul_le_mul_of_nonneg_right (by omega) (by omega);omega
   omega
 refine ⟨hp,by omega,by omega,by rw [hb.dk];simp [BU,CJ],?_⟩;have hB:=batP (Fw (ses:=0) (d:=p.d) ⟨by omega,by omega⟩ ⟨by omega,by omega⟩);obtain ⟨pre,x,e,h1,h2,h3⟩:=hB.ex;have hlast:(Bh 0 1 p.d (AM p.d)).getLast? = some x:=by rw [e];exact wX ..
 have ht:=(TM (d:=p.d) (r:=p.c.rate) (t:=p.b) ⟨by omega,by omega⟩ ⟨by omega,by omega⟩).1;have e1:CK (Bf p.c 0 p.d p.e) p.b (Bh 0 1 p.d (AM p.d))=(BJ (Bf p.c 0 p.d p.e) (Ah p.c.rate p.b (Bh 0 1 p.d (AM p.d))) x.ser,BD p.c.rate p.b (Bh 0 1 p.d (AM p.d))):=by unfold CK;rw [hlast];show (if p.e<Ah p.c.rate p.b _∨1099511627776<x.ser then _ else _)=_;rw [if_neg (by omega)];rfl
 unfold BS;rw [if_neg (by omega),if_neg (by omega),if_neg (by omega),if_neg (by omega),if_neg (by omega),e1,if_neg (by simp [BJ])]
end Ab
namespace Ab
open Go
def ChT (r:Int):Int→List Out→Prop
 |_,[]=>True
 |t,o::l=>t≤o.at_-Ci r o.seg∧ChT r o.at_ l
def enT:Int→List Out→Int
 |t,[]=>t
 |_,o::l=>enT o.at_ l
theorem ChT.weak {r:Int}:∀{l:List Out} {t t':Int},ChT r t l→t'≤t→ChT r t' l
 |[],_,_,h,_=>h
 |o::l,t,t',h,ht=>⟨by have:=h.1;omega,h.2⟩
theorem ChT.app {r:Int}:∀{l:List Out} {t:Int} {l':List Out},ChT r t l→ChT r (enT t l) l'→ChT r t (l++l')
 |[],_,_,_,h=>h
 |o::l,t,l',h,h'=>⟨h.1,ChT.app h.2 h'⟩
theorem ChT.outs (r:Int):∀(l:List Seg) (t:Int),ChT r t (BD r t l)
 |[],_=>trivial
 |x::l,t=>⟨by simp only;omega,ChT.outs r l _⟩
theorem Y2 {b:Int}:∀{l:List Out} {t:Int},t≤b→(∀o∈l,o.at_≤b)→enT t l≤b
 |[],_,h,_=>h
 |o::l,t,h,k=>show enT o.at_ l≤b from Y2 (k o (by simp)) fun x hx=>k x (by simp [hx])
structure IC (p:Par) (F:Int) (s:Ses):Prop where
 ch:ChT p.c.rate p.b (s.sent++s.pend)
 hd:((s.sent++s.pend).head?).map (fun o=>o.at_)=some F
 sg:∀o∈s.sent,LB p.d o.seg∧o.at_≤s.snd.busy∧0≤o.at_
 pf:∀o∈s.pend,F≤o.at_
 ff:∀f∈s.dat.frames,F+p.c.rng≤f.arr
 tl:∀o∈s.told,o.seg.kind=2∧F+p.c.rng≤o.at_∧o.at_≤s.now
 ts:s.told.Pairwise fun a b=>a.at_≤b.at_
theorem IC.go {p:Par} {s:Ses} {F:Int} {q:Snd} {l:List Seg} (hp:POk p) (h:IC p F s) (hpn:s.pend=[]) (hI:Inv p s) (hn:s.snd.busy≤s.now) (hl:Hg p.d (s.snd.ser+1) l) :
  IC p F {s with snd:=BJ q (Ah p.c.rate s.now l) (s.snd.ser+1),pend:=BD p.c.rate s.now l}:=by
 have hr:=hp.rng;have hsn:=hI.sn.num hp;have hch:=h.ch;have hhd:=h.hd;rw [hpn,yW] at hch hhd;have ho:=hl.outs (t:=s.now) ⟨hr.2.2.1,hr.2.2.2.1⟩ (by omega);have hend:=IM p.c.rate l s.now;have hF:F≤s.snd.busy:=by
  cases hs:s.sent with
  |nil=>rw [hs] at hhd;simp at hhd
  |cons o k=>
   rw [hs] at hhd;simp only [vT,yP,Option.some.injEq] at hhd;have:=(h.sg o (by rw [hs];simp)).2.1;omega
 refine ⟨?_,?_,fun o hx => ?_,fun o hx => ?_,h.ff,h.tl,h.ts⟩
 ·refine ChT.app hch ((ChT.outs p.c.rate l s.now).weak (Y2 (by omega) fun o hx => ?_));have:=(h.sg o hx).2.1;omega
 ·show (((s.sent++BD p.c.rate s.now l):List Out).head?).map _=_;cases hs:s.sent with
  |nil=>rw [hs] at hhd;simp at hhd
  |cons o k=>rw [hs] at hhd;simpa using hhd
 ·have:=h.sg o hx;refine ⟨this.1,?_,this.2.2⟩;show o.at_≤Ah p.c.rate s.now l;omega
 ·have:=(ho.2.1 o hx).2.1;omega
theorem IC.mic {p:Par} {s s':Ses} {F:Int} (hp:POk p) (h:IC p F s) (m:Mic p s s'):IC p F s':=by
 have hr:=hp.rng;cases m with
 |time t q1 q2 q3 q4 q5 q6=>
  have hlt:=(Wt.nx hp ⟨q1,q2,q3,q4,q5⟩ q6).1;exact ⟨h.ch,h.hd,h.sg,h.pf,h.ff,fun o ho=>by have:=h.tl o ho;exact ⟨this.1,this.2.1,by show _≤t;omega⟩,h.ts⟩
 |tx o l q1 q2 q3=>
  obtain ⟨o1,o2,o3,o4,o5⟩:=q1.pd o (by rw [q2];simp);have hnow:=q1.now;have e:(⟨s.now,o.seg⟩:Out)=o:=by rw [← q3]
  have el:(s.sent++[⟨s.now,o.seg⟩])++l=s.sent++s.pend:=by rw [e,q2];simp
  refine ⟨by show ChT _ _ ((s.sent++[(⟨s.now,o.seg⟩:Out)])++l);rw [el];exact h.ch,by show (((s.sent++[(⟨s.now,o.seg⟩:Out)])++l).head?).map _=_;rw [el];exact h.hd,fun x hx => ?_,fun x hx=>h.pf x (by rw [q2];simp [hx]),fun f hf => ?_,h.tl,h.ts⟩
  ·rcases xK.1 hx with hx|hx
   ·exact h.sg x hx
   ·rw [xQ] at hx;subst hx;exact ⟨o1,by show s.now≤s.snd.busy;omega,hnow⟩
  ·rcases Dw hf with hf|⟨d,hd,rfl⟩
   ·exact h.ff f hf
   ·have hd:=(q1.del hp).1 d (by rw [← q1.rd];exact hd);have:=h.pf o (by rw [q2];simp);show _≤s.now+d;omega
 |rx f l q1 q2 q3 q4=>
  have hF:=q1.rxFs hp q3 q4;have hff:=h.ff f (by rw [q3];simp);refine ⟨by rw [hF.sent,hF.pend];exact h.ch,by rw [hF.sent,hF.pend];exact h.hd,by rw [hF.sent,hF.snd];exact h.sg,by rw [hF.pend];exact h.pf,(by rw [hF.dat];exact fun x hx=>h.ff x (by rw [q3];exact xM _ hx)),?_,?_⟩
  ·rw [hF.now];cases hc:f.seg.chk with
   |false=>rw [(hF.no hc).2.1];exact h.tl
   |true=>
    rw [(hF.yes hc).2.2.1];intro o ho;rcases xK.1 ho with ho|ho
    ·exact h.tl o ho
    ·rw [xQ] at ho;subst ho;exact ⟨(hF.yes hc).1.kind,(show F+p.c.rng≤s.now by omega),Int.le_refl _⟩
  ·cases hc:f.seg.chk with
   |false=>rw [(hF.no hc).2.1];exact h.ts
   |true=>
    rw [(hF.yes hc).2.2.1,wL];refine ⟨h.ts,List.pairwise_singleton ..,fun a ha b hb => ?_⟩;rw [xQ] at hb;subst hb;exact (h.tl a ha).2.2
 |ls _ f l q1 q2 q3 q4 q5 q6=>
  obtain ⟨f1,f2,f3,f4,f5⟩:=q1.fr f (by rw [q4];simp);obtain ⟨hQ,_⟩:=q1.sn.ack hp f1;cases q6 with
  |busy a1=>exact ⟨h.ch,h.hd,h.sg,h.pf,h.ff,h.tl,h.ts⟩
  |same a1 a2=>exact ⟨h.ch,h.hd,h.sg,h.pf,h.ff,h.tl,h.ts⟩
  |done a1 a2 a3 a4=>exact ⟨h.ch,h.hd,h.sg,h.pf,h.ff,h.tl,h.ts⟩
  |fail a1 a2 a3 a4 a5=>exact ⟨h.ch,h.hd,h.sg,h.pf,h.ff,h.tl,h.ts⟩
  |send a1 a2 a3 a4 a5=>
   have a1:¬s.now<s.snd.busy:=a1;have k:=IC.go (q:=BO s.snd f.seg) hp h (DN q1 q2 a1) q1 (by omega) (hQ.bat hp q1.sn a4);exact ⟨k.ch,k.hd,k.sg,k.pf,k.ff,k.tl,k.ts⟩
 |ex _ q1 q2 q3 q4 q5=>
  cases q5 with
  |same a1=>exact h
  |fail a1 a2 a3=>exact ⟨h.ch,h.hd,h.sg,h.pf,h.ff,h.tl,h.ts⟩
  |send a1 a2 a3 a4=>
   have hdu:=(q1.due a1).2;exact IC.go (q:=s.snd) hp h (DN q1 q2 (by omega)) q1 (by omega) ((q1.sn.q hp).bat hp q1.sn a3).last
theorem ic_fin {p:Par} (hp:POk p) (h:(BS p.c 0 p.d p.b p.e).2.2=0):∃F,IC p F (ER p)∧(ER p).pend=[]:=by
 obtain ⟨f1,f2,f3⟩:=OG hp h;obtain ⟨hB,he,g1,g2⟩:=Hk hp h;have hr:=hp.rng;have ee1:(Ei p).pend=BD p.c.rate p.b (Bh 0 1 p.d (AM p.d)):=g2;obtain ⟨pre,x,ex,_⟩:=hB.ex;have ho:=hB.outs (r:=p.c.rate) (t:=p.b) ⟨hr.2.2.1,hr.2.2.2.1⟩ (by omega);cases hl:(Ei p).pend with
 |nil=>
  have:=congrArg length hl;rw [ee1,CL,ex] at this;simp at this
 |cons o l=>
  refine ⟨o.at_,f1.ind (IC p o.at_) ⟨?_,?_,(fun x hx=>by cases hx),fun y hy => ?_,(fun x hx=>by cases hx),(fun x hx=>by cases hx),List.Pairwise.nil⟩ fun s s' k m=>k.mic hp m,(SX f3).1⟩
  ·show ChT _ _ ([]++(Ei p).pend);rw [xR,ee1];exact ChT.outs _ _ _
  ·show (([]++(Ei p).pend).head?).map _=_;rw [hl];rfl
  ·have hs:=ho.1;rw [← ee1,hl,wM] at hs;rw [hl] at hy;rcases xL.1 hy with rfl|hy
   ·exact Int.le_refl _
   ·have:=hs.1 y hy;omega
end Ab
namespace Ab
open Go
structure DC (p:Par) (s:Ses):Prop where
 pb:∀o∈s.pend,Blk p.d o.seg
 fb:∀f∈s.dat.frames,Blk p.d f.seg∧∃o∈s.sent,o.seg=f.seg∧o.at_+p.c.rng≤f.arr
 rc:Clo p.d s.rcv.known
 ra:Clo p.d s.snd.acked
 rf:∀f∈s.rep.frames,Clo p.d f.seg.claims
 sn:(s.sent.length:Int)+s.pend.length≤19*s.snd.ser
 kn:∀t,AU t s.rcv.known→∃o∈s.sent,cov o.seg t∧o.at_+p.c.rng≤s.now
 tl:∀r∈s.told,JV p.d r.seg∧∀t,AU t r.seg.claims→∃o∈s.sent,cov o.seg t∧o.at_+p.c.rng≤r.at_
theorem LBk.few {d:ByteArray} {a:List Span} {l:List Seg} (h:LBk d a l) (hd:d.size≤300):l.length≤19:=by
 have:=Q4 _ [0,1,2,3,4,5,6,7,8,9,10,11,12,13,14,15,16,17,18] h.od fun k hk=>by obtain ⟨x,hx,rfl⟩:=wJ.1 hk;have b:=(h.bk x hx).1;unfold Blk at b;simp only [xL,List.not_mem_nil,or_false];omega
 rwa [xH] at this
theorem DC.go {p:Par} {s:Ses} {q:Snd} {l:List Seg} (h:DC p s) (hpn:s.pend=[]) (hl:l.length≤19) (hb:∀x∈l,Blk p.d x) (ha:Clo p.d q.acked) :
  DC p {s with snd:=BJ q (Ah p.c.rate s.now l) (s.snd.ser+1),pend:=BD p.c.rate s.now l}:=by
 refine ⟨fun o ho => ?_,h.fb,h.rc,ha,h.rf,?_,h.kn,h.tl⟩
 ·have:o.seg∈(BD p.c.rate s.now l).map Out.seg:=vV ho;rw [EV] at this;exact hb _ this
 ·have:=h.sn;rw [hpn] at this;simp only [zV] at this;show (s.sent.length:Int)+(BD p.c.rate s.now l).length≤19*(s.snd.ser+1);rw [CL];omega
theorem DC.mic {p:Par} {s s':Ses} (hp:POk p) (h:DC p s) (m:Mic p s s'):DC p s':=by
 have hr:=hp.rng;have hsz:=hp.sz;cases m with
 |time t q1 q2 q3 q4 q5 q6=>
  have hlt:=(Wt.nx hp ⟨q1,q2,q3,q4,q5⟩ q6).1;exact ⟨h.pb,h.fb,h.rc,h.ra,h.rf,h.sn,fun t' ht=>by obtain ⟨o,h1,h2,h3⟩:=h.kn t' ht;exact ⟨o,h1,h2,by show _≤t;omega⟩,h.tl⟩
 |tx o l q1 q2 q3=>
  have hmem:∀x∈s.sent,x∈s.sent++[(⟨s.now,o.seg⟩:Out)]:=fun x hx=>xK.2 (.inl hx);have hsn:=h.sn;rw [q2] at hsn;simp only [xF] at hsn;refine ⟨fun x hx=>h.pb x (by rw [q2];simp [hx]),fun f hf => ?_,h.rc,h.ra,h.rf,?_,fun t ht => ?_,fun r hr=>⟨(h.tl r hr).1,fun t ht => ?_⟩⟩
  ·rcases Dw hf with hf|⟨d,hd,rfl⟩
   ·obtain ⟨k1,x,k2,k3⟩:=h.fb f hf;exact ⟨k1,x,hmem x k2,k3⟩
   ·have hd:=(q1.del hp).1 d (by rw [← q1.rd];exact hd);exact ⟨h.pb o (by rw [q2];simp),⟨s.now,o.seg⟩,xK.2 (.inr (by simp)),rfl,by show s.now+_≤s.now+d;omega⟩
  ·show ((s.sent++[(⟨s.now,o.seg⟩:Out)]).length:Int)+l.length≤19*s.snd.ser;rw [xE];simp only [xF,zV];omega
  ·obtain ⟨x,k1,k2⟩:=h.kn t ht;exact ⟨x,hmem x k1,k2⟩
  ·obtain ⟨x,k1,k2⟩:=(h.tl r hr).2 t ht;exact ⟨x,hmem x k1,k2⟩
 |rx f l q1 q2 q3 q4=>
  have hF:=q1.rxFs hp q3 q4;obtain ⟨fb1,o,fb2,fb3,fb4⟩:=h.fb f (by rw [q3];simp);have hrc:Clo p.d (rxX (By s) f.seg).rcv.known:=by
   intro t t' h' h0 h1 he;rw [hF.mem] at h' ⊢;rcases h' with h'|h'
   ·exact .inl (h.rc t t' h' h0 h1 he)
   ·have:=(fb1.cov t).1 h';exact .inr ((fb1.cov t').2 ⟨⟨h0,h1⟩,by omega⟩)
  have hkn:∀t,AU t (rxX (By s) f.seg).rcv.known→∃o∈s.sent,cov o.seg t∧o.at_+p.c.rng≤s.now:=fun t ht=>by
   rcases (hF.mem t).1 ht with ht|ht
   ·exact h.kn t ht
   ·exact ⟨o,fb2,by rw [fb3];exact ht,by omega⟩
  refine ⟨by rw [hF.pend];exact h.pb,by rw [hF.dat,hF.sent];exact fun x hx=>h.fb x (by rw [q3];exact xM _ hx),hrc,by rw [hF.snd];exact h.ra,?_,by rw [hF.sent,hF.pend,hF.snd];exact h.sn,by rw [hF.sent,hF.now];exact hkn,?_⟩
  ·cases hc:f.seg.chk with
   |false=>rw [(hF.no hc).1];exact h.rf
   |true=>
    rw [(hF.yes hc).2.1];intro x hx;rcases Dw hx with hx|⟨d,hd,rfl⟩
    ·exact h.rf x hx
    ·show Clo p.d (CI s.rcv f.seg).claims;rw [hF.cl];exact hrc
  ·rw [hF.sent];cases hc:f.seg.chk with
   |false=>rw [(hF.no hc).2.1];exact h.tl
   |true=>
    rw [(hF.yes hc).2.2.1];intro r hr;rcases xK.1 hr with hr|hr
    ·exact h.tl r hr
    ·rw [xQ] at hr;subst hr;refine ⟨(hF.yes hc).1,fun t ht=>hkn t ?_⟩;rw [← hF.cl];exact ht
 |ls _ f l q1 q2 q3 q4 q5 q6=>
  obtain ⟨f1,f2,f3,f4,f5⟩:=q1.fr f (by rw [q4];simp);obtain ⟨hQ,hack⟩:=q1.sn.ack hp f1;have hcf:=h.rf f (by rw [q4];simp);have hra:Clo p.d (BO s.snd f.seg).acked:=by
   intro t t' h' h0 h1 he;rw [hack] at h' ⊢;rcases h' with h'|h'
   ·exact .inl (h.ra t t' h' h0 h1 he)
   ·exact .inr (hcf t t' h' h0 h1 he)
  have h':DC p (B7 s):={h with rf:=fun f hf=>h.rf f (List.mem_of_mem_tail hf)}
  cases q6 with
  |busy a1=>exact h'
  |same a1 a2=>exact h'
  |done a1 a2 a3 a4=>exact ⟨h.pb,h.fb,h.rc,hra,h'.rf,h.sn,h.kn,h.tl⟩
  |fail a1 a2 a3 a4 a5=>exact ⟨h.pb,h.fb,h.rc,hra,h'.rf,h.sn,h.kn,h.tl⟩
  |send a1 a2 a3 a4 a5=>
   obtain ⟨hL,_⟩:=hQ.blk hp q1.sn a4 hra;exact h'.go (DN (s:=s) q1 q2 a1) (hL.few (by omega)) (fun x hx=>(hL.bk x hx).1) hra
 |ex _ q1 q2 q3 q4 q5=>
  cases q5 with
  |same a1=>exact h
  |fail a1 a2 a3=>exact ⟨h.pb,h.fb,h.rc,h.ra,h.rf,h.sn,h.kn,h.tl⟩
  |send a1 a2 a3 a4=>
   have hdu:=(q1.due a1).2;have hQ:=q1.sn.q hp;obtain ⟨hL,_⟩:=hQ.blk hp q1.sn a3 h.ra;obtain ⟨pre,x,ex,e1,e2,e3⟩:=(hQ.bat hp q1.sn a3).ex;have el:Br (Aa s.snd)=[x]:=by rw [ex,GX]
   refine h.go (DN q1 q2 (by omega)) (by rw [el];simp) (fun y hy => ?_) h.ra;rw [el,xQ] at hy;subst hy;exact (hL.bk y (by rw [ex];simp)).1
theorem dc_ini {p:Par} (hp:POk p) (h:(BS p.c 0 p.d p.b p.e).2.2=0):DC p (Ei p):=by
 obtain ⟨hB,he,g1,g2⟩:=Hk hp h;have hr:=hp.rng;have hd:=hp.sz;have hbe:=Fw (ses:=0) (d:=p.d) ⟨by omega,by omega⟩ ⟨by omega,by omega⟩;have ee1:(Ei p).pend=BD p.c.rate p.b (Bh 0 1 p.d (AM p.d)):=g2;have ee2:(Ei p).snd=BJ (Bf p.c 0 p.d p.e) (Ah p.c.rate p.b (Bh 0 1 p.d (AM p.d))) 1:=g1;have es:(Ei p).snd.ser=1:=by rw [ee2];rfl
 have ea:(Ei p).snd.acked=[]:=by rw [ee2];rfl
 have hwc:BU (AM p.d)=0:=by rw [Ax];refine ⟨by simp [AM],⟨by simp only;omega,by simp only;omega,trivial⟩,fun x hx => ?_⟩;simp only [AM,xQ] at hx;subst hx;simp only;omega
 have hww:B8 (AM p.d) p.d.size:=fun x hx=>by simp only [AM,xQ] at hx;subst hx;simp only;omega
 have hR:=Nc (d:=p.d) (a:=[]) (l:=AM p.d) (fun t=>by simp [AM,AU]) hwc hww (I5 _);have e0:Bh 0 1 p.d (AM p.d)=DO 1 (Cu p.d 0 (AM p.d)):=by unfold Bh;rw [if_pos hbe]
 have eo:(Bh 0 1 p.d (AM p.d)).map (fun x=>(x.off,(x.data.size:Int)))=(Cu p.d 0 (AM p.d)).map fun x=>(x.off,(x.data.size:Int)):=by rw [e0];exact La _ _
 have hL:=hR.of eo;have hlen:=hL.few (by omega);refine ⟨fun o ho => ?_,(fun f hf=>by cases hf),I5 _,by rw [ea];exact I5 _,(fun f hf=>by cases hf),?_,(fun t ht=>by cases ht),(fun f hf=>by cases hf)⟩
 ·rw [ee1] at ho;have:o.seg∈(BD p.c.rate p.b (Bh 0 1 p.d (AM p.d))).map Out.seg:=vV ho;rw [EV] at this;exact (hL.bk _ this).1
 ·rw [es,ee1,CL];show (0:Int)+_≤_;omega
theorem dc_fin {p:Par} (hp:POk p) (h:(BS p.c 0 p.d p.b p.e).2.2=0):DC p (ER p):=
 (OG hp h).1.ind (DC p) (dc_ini hp h) fun s s' k m=>k.mic hp m
end Ab
namespace Ab
open Go
def EB (c:Con) (n:Int):Int:=D0 c.rate n+c.loss*(2*c.rng+1+tk c.rate 16)
theorem Mu {c:Con} {n:Int} (hc:ES c=0) (hn:1≤n∧n≤65536):0≤EB c n∧EB c n≤40000000∧0≤c.loss*(2*c.rng+1+tk c.rate 16)∧c.loss*(2*c.rng+1+tk c.rate 16)≤16*2097200:=by have h:=FQ hc;have ht:=GS (r:=c.rate) (n:=16) h.2.1 (by omega);have hp:=SK (r:=c.rate) (n:=n) h.2.1 (by omega);have h1:c.loss*(2*c.rng+1+tk c.rate 16)≤16*2097200:=Int.mul_le_mul (by omega) (by omega) (by omega) (by omega);have h2:0≤c.loss*(2*c.rng+1+tk c.rate 16):=vM (by omega) (by omega);unfold EB;omega
theorem s59 (c:Con) (n:Int) (hc:ES c=0) (hn:1≤n∧n≤65536):AL C 59 (c.enc++[tI n]) [tI (EB c n)]:=by have h:=FQ hc;have ht:=GS (r:=c.rate) (n:=16) h.2.1 (by omega);have hp:=SK (r:=c.rate) (n:=n) h.2.1 (by omega);have hd:=Mu hc hn;refine AL.of (fun m=>e59 m _ _ _ _ _ _ _ _) ?_;refine ((s104 c n hc hn).and (s105 c 16 hc (by omega))).mono fun m h => ?_;obtain ⟨h1,h2⟩:=h;simp only [Con.enc,yY,xR] at h1 h2;simp only [h1,h2,vv,vf,AN (x:=2*c.rng) (by omega) (by omega),AN (x:=2*c.rng+1) (by omega) (by omega),AN (x:=2*c.rng+1+tk c.rate 16) (by omega) (by omega),AN (x:=c.loss*(2*c.rng+1+tk c.rate 16)) (by omega) (by omega),AN (x:=D0 c.rate n+c.loss*(2*c.rng+1+tk c.rate 16)) (by omega) (by omega),EB]
def PK (c:Con) (t n:Int):Bool:=decide (c.start≤t∧t≤c.fin-EB c n)
theorem s23 (c:Con) (t n:Int) (hc:ES c=0) (hn:1≤n∧n≤65536):AL C 23 (c.enc++[tI t,tI n]) [.bool (PK c t n)]:=by have h:=FQ hc;have hd:=Mu hc hn;refine AL.of (fun m=>e23 m _ _ _ _ _ _ _ _ _) ?_;refine (s59 c n hc hn).mono fun m h1 => ?_;simp only [Con.enc,yY,xR] at h1;simp only [h1,vv,vf,AN (x:=c.fin-EB c n) (by omega) (by omega),PK];by_cases a:c.start≤t<;>simp [a,AB]
theorem s7 (c:Con) (t n:Int):AL C 7 (c.enc++[tI t,tI n]) [.bool (decide (IV c n=0)&&PK c t n)]:=by
 refine AL.of (fun m=>e7 m _ _ _ _ _ _ _ _ _) ?_;by_cases h0:IV c n=0
 ·obtain ⟨a1,a2⟩:=Lw h0;refine ((s22 c n).and (s23 c t n a1 a2)).mono fun m h => ?_;obtain ⟨h1,h2⟩:=h;simp only [Con.enc,yY,xR] at h1 h2;simp only [h1,h2,vv,vf,h0,beq_self_eq_true,Bool.true_and]
 ·refine (s22 c n).mono fun m h1 => ?_;simp only [Con.enc,yY,xR] at h1;have hne:(IV c n==0)=false:=by simpa using h0
  simp only [h1,vv,vf,hne,h0,Bool.false_and]
theorem s60 (c:Con) (n:Int):AL C 60 (c.enc++[tI n]) [tI (if IV c n=0 then EB c n else 0),tI (IV c n)]:=by
 refine AL.of (fun m=>e60 m _ _ _ _ _ _ _ _) ?_;by_cases h0:IV c n=0
 ·obtain ⟨a1,a2⟩:=Lw h0;refine ((s22 c n).and (s59 c n a1 a2)).mono fun m h => ?_;obtain ⟨h1,h2⟩:=h;simp only [Con.enc,yY,xR] at h1 h2;simp only [h1,h2,vv,vf,h0,bne_self_eq_false]
 ·refine (s22 c n).mono fun m h1 => ?_;simp only [Con.enc,yY,xR] at h1;have hne:(IV c n != 0)=true:=by simpa using h0
  simp only [h1,vv,vf,hne,if_neg h0]
theorem RA {c:Con} {t n:Int} (hc:ES c=0) (h:PK c t n=true) (hn:1≤n∧n≤65536):c.start≤t∧t+EB c n≤c.fin∧0≤t:=by have hh:=FQ hc;have:=of_decide_eq_true h;omega
end Ab
set_option maxRecDepth 100000
namespace Ab
open Go Go.Proofs
def ix:Bool→Nat→Nat
 |false,m=>m
 |true,m=>m+1
def pz:Bool→Heap→Heap
 |false,l=>l
 |true,l =>.box [.t (.bool false),.t (tI 0),.t (.bool false),.t (tI 0),.t (tI 0),.t (tI 0),.t (tI 0)]::l
def px:Bool→List OSh→List OSh
 |false,l=>l
 |true,l=>OSh.box [Sh.b,Sh.i,Sh.b,Sh.i,Sh.i,Sh.i,Sh.i]::l
def BT (zq:Bool):List Sh:=[Sh.i,Sh.l 10,Sh.i,Sh.i,Sh.i,Sh.l 10,Sh.i,Sh.i,Sh.l 1,Sh.i,Sh.l 2,Sh.i,Sh.i,Sh.r (ix zq 4),Sh.r (ix zq 5),Sh.i,Sh.i,Sh.i,Sh.i,Sh.i,Sh.i,Sh.i,Sh.i,Sh.i,Sh.s,Sh.i,Sh.i,Sh.i,Sh.l 2,Sh.i,Sh.i,Sh.i,Sh.i,Sh.l 2,Sh.s,Sh.r (ix zq 0),Sh.b,Sh.i,Sh.b,Sh.i]
def CC (zq:Bool):List OSh:=px zq [OSh.row 9,OSh.frz 15,OSh.frz 4,OSh.frz 4,OSh.row 9,OSh.row 9,OSh.box (BT zq)]
def DE:List Sh:=[]
def BSM_3:List Sh:=[Sh.i]
def BSM_4:List Sh:=[Sh.b]
def Dt (zq:Bool):List OSh:=px zq [OSh.row 9,OSh.box DE,OSh.box DE,OSh.box DE,OSh.row 9,OSh.row 9,OSh.box (BT zq),OSh.box BSM_3,OSh.box BSM_4]
def Bo (zq:Bool):List OSh:=px zq [OSh.row 9,OSh.box DE,OSh.box DE,OSh.box DE,OSh.row 9,OSh.row 9,OSh.box (BT zq)]
def Tr:List Sh:=[Sh.i,Sh.i,Sh.i,Sh.i,Sh.i,Sh.b,Sh.s,Sh.l 2]
def Qa (zq:Bool):List OSh:=px zq [OSh.row 9,OSh.box DE,OSh.box DE,OSh.box DE,OSh.row 9,OSh.row 9,OSh.box (BT zq),OSh.box Tr]
def D2 (zq:Bool):List OSh:=px zq [OSh.row 9,OSh.box DE,OSh.box DE,OSh.box DE,OSh.row 9,OSh.row 9,OSh.box (BT zq),OSh.row 8]
def MB (zq:Bool):List OSh:=px zq [OSh.row 9,OSh.box DE,OSh.box DE,OSh.box DE,OSh.row 9,OSh.row 9,OSh.box (BT zq),OSh.row 8,OSh.box Tr]
def Ro:List Sh:=[Sh.i,Sh.i,Sh.l 2,Sh.s]
def J2 (zq:Bool):List OSh:=px zq [OSh.row 9,OSh.frz 15,OSh.frz 4,OSh.frz 4,OSh.row 9,OSh.row 9,OSh.box (BT zq),OSh.row 8,OSh.box Ro,OSh.box Tr]
def Cl (zq:Bool):List OSh:=px zq [OSh.row 9,OSh.box DE,OSh.box DE,OSh.box DE,OSh.row 9,OSh.row 9,OSh.box (BT zq),OSh.row 8,OSh.box Ro,OSh.box Tr]
def aR:List Sh:=[Sh.i,Sh.l 10,Sh.i,Sh.i]
def MA (zq:Bool):List OSh:=px zq [OSh.row 9,OSh.box DE,OSh.box DE,OSh.box DE,OSh.row 9,OSh.row 9,OSh.box (BT zq),OSh.row 8,OSh.box Ro,OSh.box Tr,OSh.box aR]
def O5 (zq:Bool):List OSh:=px zq [OSh.row 9,OSh.box DE,OSh.box DE,OSh.box DE,OSh.row 9,OSh.row 9,OSh.box (BT zq),OSh.row 8,OSh.box Ro]
def L9 (zq:Bool):List OSh:=px zq [OSh.row 9,OSh.box DE,OSh.box DE,OSh.box DE,OSh.row 9,OSh.row 9,OSh.box (BT zq),OSh.box aR]
def Gu:List FuncId:=[65,111,165,166,167,168,208]
noncomputable def JM_1 (zq:Bool) (n:Nat) (ff:Nat→Rec) (k26:KT) (p28:ST):RT:=k26 ([],rh p28 0 (Dt zq))
noncomputable def JM_2 (zq:Bool) (n:Nat) (ff:Nat→Rec) (k20:KT) (p70:ST):RT:=k20 (tv [tI (cI p70 (ix zq 7) 0),.bool (cB p70 (ix zq 8) 0)],rh p70 0 (Bo zq))
noncomputable def U6 (zq:Bool) (n:Nat) (ff:Nat→Rec) (p52:ST) (k20:KT) (p64:ST):RT:=A8 (.box [AV.yld 40,.t (tI (cI p52 (ix zq 6) 29))]) (.box [AV.yld 40,.t (tI (cI p64 (ix zq 6) 29))]) (join (JM_2 zq n ff k20) fun k71=>cnd (vB p64 0=true) (cnd ((!(cB p64 (ix zq 8) 0))=true) (k71 ([],upd (rh p64 0 (Dt zq)) [((ix zq 7),.box [.t (tI (cI p52 (ix zq 6) 29))]),((ix zq 8),.box [.t (.bool true)])])) (cnd (decide (cI p52 (ix zq 6) 29<cI p64 (ix zq 7) 0)=true) (k71 ([],upd (rh p64 0 (Dt zq)) [((ix zq 7),.box [.t (tI (cI p52 (ix zq 6) 29))]),((ix zq 8),.box [.t (.bool true)])])) (k71 ([],rh p64 0 (Dt zq))))) (k71 ([],rh p64 0 (Dt zq))))
noncomputable def JM_4 (zq:Bool) (n:Nat) (ff:Nat→Rec) (k20:KT) (p52:ST):RT:=join (U6 zq n ff p52 k20) fun k65=>cnd ((cI p52 (ix zq 6) 30==1)=true) (k65 ([.t (.bool (!(decide (cI p52 (ix zq 6) 11≥(10000:Int)))))],rh p52 0 (Dt zq))) (k65 ([.t (.bool false)],rh p52 0 (Dt zq)))
noncomputable def XZ (zq:Bool) (n:Nat) (ff:Nat→Rec) (k20:KT) (p39:ST):RT:=bd [0,1] (AA C n 163 (ct [0,13,0,0] p39 (ix zq 6) 4 [])) fun y51=>join (JM_4 zq n ff k20) fun k53=>cnd (gB y51 1=true) (cnd ((!(cB p39 (ix zq 8) 0))=true) (k53 ([],upd (rh p39 0 (Dt zq)) [((ix zq 7),.box [.t (tI (gI y51 0))]),((ix zq 8),.box [.t (.bool true)])])) (cnd (decide (gI y51 0<cI p39 (ix zq 7) 0)=true) (k53 ([],upd (rh p39 0 (Dt zq)) [((ix zq 7),.box [.t (tI (gI y51 0))]),((ix zq 8),.box [.t (.bool true)])])) (k53 ([],rh p39 0 (Dt zq))))) (k53 ([],rh p39 0 (Dt zq)))
noncomputable def XY (zq:Bool) (n:Nat) (ff:Nat→Rec) (k20:KT) (p25:ST):RT:=bd [0,1] (AA C n 163 (ct [0,13,0,0] p25 (ix zq 6) 0 [])) fun y38=>join (XZ zq n ff k20) fun k40=>cnd (gB y38 1=true) (cnd ((!(cB p25 (ix zq 8) 0))=true) (k40 ([],upd (rh p25 0 (Dt zq)) [((ix zq 7),.box [.t (tI (gI y38 0))]),((ix zq 8),.box [.t (.bool true)])])) (cnd (decide (gI y38 0<cI p25 (ix zq 7) 0)=true) (k40 ([],upd (rh p25 0 (Dt zq)) [((ix zq 7),.box [.t (tI (gI y38 0))]),((ix zq 8),.box [.t (.bool true)])])) (k40 ([],rh p25 0 (Dt zq))))) (k40 ([],rh p25 0 (Dt zq)))
noncomputable def JM_7 (zq:Bool) (n:Nat) (ff:Nat→Rec) (k20:KT) (p23:ST):RT:=cnd (AE p23 (ix zq 0)=AK p23 (ix zq 6) 35) (join (XY zq n ff k20) fun k26=>cnd (decide ((AJ p23 (ix zq 6) 35:Int)>0)=true) (cnd (AE p23 (ix zq 0)=AK p23 (ix zq 6) 35∧9=9∧(0:Int)≤0∧0<(AJ p23 (ix zq 6) 35:Int)) (cnd (AE p23 (ix zq 0)=AK p23 (ix zq 6) 35) (cnd (AE p23 (ix zq 0)=AK p23 (ix zq 6) 35) (Option.bind (oEs p23 (ix zq 0))[AR p23 (ix zq 6) 35]? fun y27=>cnd (okI y27 0) (join (JM_1 zq n ff k26) fun k29=>cnd ((!(cB p23 (ix zq 8) 0))=true) (k29 ([],upd (rh p23 0 (Dt zq)) [((ix zq 7),.box [.t (tI (gI y27 0))]),((ix zq 8),.box [.t (.bool true)])])) (cnd (decide (gI y27 0<cI p23 (ix zq 7) 0)=true) (k29 ([],upd (rh p23 0 (Dt zq)) [((ix zq 7),.box [.t (tI (gI y27 0))]),((ix zq 8),.box [.t (.bool true)])])) (k29 ([],rh p23 0 (Dt zq))))) none) none) none) none) (k26 ([],rh p23 0 (Dt zq)))) none
noncomputable def CM_1 (zq:Bool) (n:Nat) (ff:Nat→Rec) (k20:KT) (p19:ST):RT:=ff 10 (List Tree) (.fn 111 [AV.ptr (ix zq 6) 0]) (rh p19 0 (CC zq)) fun rs h1=>cnd (CG C.P (Bm C.P 111) rs=true) (Gn (rh p19 0 (CC zq)) h1 fun hs=>k20 (rs,hs)) none
noncomputable def XM_1 (zq:Bool) (n:Nat) (ff:Nat→Rec) (k20:KT) (p19:ST):RT:=join (JM_7 zq n ff k20) fun k24=>cnd (decide (cI p19 (ix zq 6) 11≥(10000:Int))=true) (cnd (AE p19 (ix zq 0)=AK p19 (ix zq 6) 35) (k24 ([],upd (rh p19 0 (Dt zq)) [((ix zq 6),.box (upd (rb p19 (ix zq 6) 0 (BT zq)) [(35,.sref (ix zq 0) (AK p19 (ix zq 6) 35) (length (oEs p19 (ix zq 0))) 0)])),((ix zq 7),.box [.t (tI 0)]),((ix zq 8),.box [.t (.bool false)])])) none) (k24 ([],upd (rh p19 0 (Dt zq)) [((ix zq 7),.box [.t (tI 0)]),((ix zq 8),.box [.t (.bool false)])]))
theorem vCM_1 (zq:Bool) (n:Nat) (ff:Nat→Rec) (k20:KT) (p19:ST):Et C (IG C (pcx C (AA C n)) n ff Gu 9) (pcx C (AA C n)) n 111 [AV.ptr (ix zq 6) 0] (rh p19 0 (CC zq)) (fun rs h1=>cnd (CG C.P (Bm C.P 111) rs=true) (Gn (rh p19 0 (CC zq)) h1 fun hs=>k20 (rs,hs)) none)=XM_1 zq n ff k20 p19:=by cases zq<;>kernel_rfl
theorem tCM_1 (zq:Bool) (n:Nat) (k20:KT) (p19:ST):CM_1 zq n (fI C n) k20 p19=XM_1 zq n (fI C n) k20 p19:=(MR C n Gu 9 _ 111 _ _ _).trans (vCM_1 zq n (fI C n) k20 p19)
noncomputable def JM_8 (zq:Bool) (n:Nat) (ff:Nat→Rec) (k91:KT) (p92:ST):RT:=cnd ((!(vB p92 0))=true) (k91 ([.t (.bool true)],rh p92 0 (Bo zq))) (k91 ([.t (.bool ((cI p92 (ix zq 6) 29) != cI p92 (ix zq 6) 15))],rh p92 0 (Bo zq)))
noncomputable def JM_9 (zq:Bool) (n:Nat) (ff:Nat→Rec) (k89:KT) (p90:ST):RT:=cnd (vB p90 0=true) (k89 ([],rh p90 0 (Bo zq))) (bd [0,0,0,0,0,0,0,0,2,0,0,0,5,0,0,12,0] (AA C n 213 (ct kS p90 (ix zq 6) 16 [tI (cI p90 (ix zq 6) 15)])) fun y98=>cnd (((gI y98 16) != 0)=true) (k89 ([],upd (rh p90 0 (Bo zq)) [((ix zq 6),.box (upd (rb p90 (ix zq 6) 0 (BT zq)) [(29,.t (tI 0)),(30,.t (tI 3))]))])) (cnd (length (gL y98 15)=0∧AR p90 (ix zq 6) 35+AJ p90 (ix zq 6) 35<length (oEs p90 (ix zq 0))) (cnd (AE p90 (ix zq 0)=AK p90 (ix zq 6) 35) (k89 ([],upd (rh p90 0 (Bo zq)) [((ix zq 6),.box (upd (rb p90 (ix zq 6) 0 (BT zq)) [(16,.t (tI (gI y98 0))),(17,.t (tI (gI y98 1))),(18,.t (tI (gI y98 2))),(19,.t (tI (gI y98 3))),(20,.t (tI (gI y98 4))),(21,.t (tI (gI y98 5))),(22,.t (tI (gI y98 6))),(23,.t (tI (gI y98 7))),(24,.t (.str (gS y98 8))),(25,.t (tI (gI y98 9))),(26,.t (tI (gI y98 10))),(27,.t (tI (gI y98 11))),(28,.t (.sl 2 (gL y98 12))),(29,.t (tI (gI y98 13))),(30,.t (tI (gI y98 14)))]))])) none) (cnd (AE p90 (ix zq 0)=AK p90 (ix zq 6) 35∧(9=9∨9=0)∧AR p90 (ix zq 6) 35+AJ p90 (ix zq 6) 35≤length (oEs p90 (ix zq 0))∧AJ p90 (ix zq 6) 35+length (gL y98 15)≤1073741824) (k89 ([],upd (rh p90 0 (Bo zq)) [((ix zq 0),.row false (AK p90 (ix zq 6) 35+1) 9 (take (AJ p90 (ix zq 6) 35) (drop (AR p90 (ix zq 6) 35) (oEs p90 (ix zq 0)))++gL y98 15)),((ix zq 6),.box (upd (rb p90 (ix zq 6) 0 (BT zq)) [(16,.t (tI (gI y98 0))),(17,.t (tI (gI y98 1))),(18,.t (tI (gI y98 2))),(19,.t (tI (gI y98 3))),(20,.t (tI (gI y98 4))),(21,.t (tI (gI y98 5))),(22,.t (tI (gI y98 6))),(23,.t (tI (gI y98 7))),(24,.t (.str (gS y98 8))),(25,.t (tI (gI y98 9))),(26,.t (tI (gI y98 10))),(27,.t (tI (gI y98 11))),(28,.t (.sl 2 (gL y98 12))),(29,.t (tI (gI y98 13))),(30,.t (tI (gI y98 14))),(35,.sref (ix zq 0) (AK p90 (ix zq 6) 35+1) 0 (AJ p90 (ix zq 6) 35+length (gL y98 15)))]))])) none)))
noncomputable def CM_2 (zq:Bool) (n:Nat) (ff:Nat→Rec) (k89:KT) (p88:ST):RT:=ff 10 (List Tree) (.fn 168 [AV.ptr (ix zq 6) 0]) (rh p88 0 (CC zq)) fun rs h1=>cnd (CG C.P (Bm C.P 168) rs=true) (Gn (rh p88 0 (CC zq)) h1 fun hs=>k89 (rs,hs)) none
noncomputable def Zd (zq:Bool) (n:Nat) (ff:Nat→Rec) (k89:KT) (p88:ST):RT:=join (JM_9 zq n ff k89) fun k91=>join (JM_8 zq n ff k91) fun k93=>cnd ((cI p88 (ix zq 6) 30==1)=true) (k93 ([.t (.bool (!(decide (cI p88 (ix zq 6) 11≥(10000:Int)))))],rh p88 0 (Bo zq))) (k93 ([.t (.bool false)],rh p88 0 (Bo zq)))
theorem vCM_2 (zq:Bool) (n:Nat) (ff:Nat→Rec) (k89:KT) (p88:ST):Et C (IG C (pcx C (AA C n)) n ff Gu 9) (pcx C (AA C n)) n 168 [AV.ptr (ix zq 6) 0] (rh p88 0 (CC zq)) (fun rs h1=>cnd (CG C.P (Bm C.P 168) rs=true) (Gn (rh p88 0 (CC zq)) h1 fun hs=>k89 (rs,hs)) none)=Zd zq n ff k89 p88:=by cases zq<;>kernel_rfl
theorem Xu (zq:Bool) (n:Nat) (k89:KT) (p88:ST):CM_2 zq n (fI C n) k89 p88=Zd zq n (fI C n) k89 p88:=(MR C n Gu 9 _ 168 _ _ _).trans (vCM_2 zq n (fI C n) k89 p88)
noncomputable def Md (zq:Bool) (n:Nat) (ff:Nat→Rec) (k87:KT) (p86 p99:ST):RT:=k87 ([.t (tI (w64 (vI p86 0+1)))],rh p99 0 (Bo zq))
noncomputable def WR (zq:Bool) (n:Nat) (ff:Nat→Rec) (p108:ST) (k107:KT) (p130:ST):RT:=cnd (vB p130 0=true) (cnd (AE p130 (ix zq 7)=AE p108 (ix zq 7)+1∧8≤8) (Option.bind (oEs p130 (ix zq 7))[0]? fun y132=>k107 ([.rptr (ix zq 7) (AE p108 (ix zq 7)+1) 0 0,.t (.bool false)],upd (rh p130 0 (D2 zq)) [((ix zq 7),.row false (AE p108 (ix zq 7)+1) 8 (List.set (oEs p130 (ix zq 7)) 0 (zt kG []++drop 8 y132)))])) none) (bd [0,13,0,0,0,0,0,0,0,0,0,1,2,5,0] (AA C n 246 (ct [0,13,0,0] p130 (ix zq 6) 4 [])) fun y133=>cnd (AE p130 (ix zq 7)=AE p108 (ix zq 7)+1∧8≤8) (Option.bind (oEs p130 (ix zq 7))[0]? fun y134=>k107 ([.rptr (ix zq 7) (AE p108 (ix zq 7)+1) 0 0,.t (.bool true)],upd (rh p130 0 (D2 zq)) [((ix zq 6),.box (upd (rb p130 (ix zq 6) 0 (BT zq)) [(4,.t (tI (gI y133 0))),(5,.t (.sl 10 (gL y133 1))),(6,.t (tI (gI y133 2))),(7,.t (tI (gI y133 3)))])),((ix zq 7),.row false (AE p108 (ix zq 7)+1) 8 (List.set (oEs p130 (ix zq 7)) 0 (gt kG y133 6 []++drop 8 y134)))])) none)
noncomputable def To (zq:Bool) (n:Nat) (ff:Nat→Rec) (p106:ST) (k107:KT) (p108:ST):RT:=cnd (AE p108 (ix zq 7)=Bg p106 0) (Option.bind (oEs p108 (ix zq 7))[0]? fun y128=>bk kG 0 y128 (cnd (AE p108 (ix zq 7)+1=AE p108 (ix zq 7)+1∧8≤8) (bd [0,1] (AA C n 163 (ct [0,13,0,0] p108 (ix zq 6) 4 [])) fun y129=>join (WR zq n ff p108 k107) fun k131=>cnd ((!(gB y129 1))=true) (k131 ([.t (.bool true)],upd (rh p108 0 (MB zq)) [((ix zq 7),.row false (AE p108 (ix zq 7)+1) 8 [[tI (gI y128 0),tI (gI y128 1),tI (gI y128 2),tI (gI y128 3),tI (gI y128 4),.bool (gB y128 5),.str (gS y128 6),.sl 2 (gL y128 7)]]),((ix zq 8),.box (tv (zt kG [])))])) (k131 ([.t (.bool ((gI y129 0) != cI p108 (ix zq 6) 15))],upd (rh p108 0 (MB zq)) [((ix zq 7),.row false (AE p108 (ix zq 7)+1) 8 [[tI (gI y128 0),tI (gI y128 1),tI (gI y128 2),tI (gI y128 3),tI (gI y128 4),.bool (gB y128 5),.str (gS y128 6),.sl 2 (gL y128 7)]]),((ix zq 8),.box (tv (zt kG [])))]))) none)) none
noncomputable def HY (zq:Bool) (n:Nat) (ff:Nat→Rec) (k102:KT) (p106:ST) (k107:KT):RT:=cnd (vB p106 1=true) (join (To zq n ff p106 k107) fun k109=>cnd (decide (cI p106 (ix zq 6) 15<cI p106 (ix zq 6) 26)=true) (k109 ([],rh p106 0 (D2 zq))) (cnd (AE p106 (ix zq 7)=Bg p106 0) (Option.bind (oEs p106 (ix zq 7))[0]? fun y110=>bk kG 0 y110 (bd [0,0,0,0,0,0,0,0,2,0,0,0,5,0,0,12,0] (AA C n 212 (ct kS p106 (ix zq 6) 16 (tI (cI p106 (ix zq 6) 15)::gt kG y110 0 []))) fun y111=>cnd (((gI y111 16) != 0)=true) (k109 ([],rh p106 0 (D2 zq))) (cnd (length (gL y111 15)=0∧AR p106 (ix zq 6) 35+AJ p106 (ix zq 6) 35<length (oEs p106 (ix zq 0))) (cnd (AE p106 (ix zq 0)=AK p106 (ix zq 6) 35) (cnd ((!(cB p106 (ix zq 6) 38))=true) (cnd ((gI y111 14==2)=true) (k109 ([],upd (rh p106 0 (D2 zq)) [((ix zq 6),.box (upd (rb p106 (ix zq 6) 0 (BT zq)) [(16,.t (tI (gI y111 0))),(17,.t (tI (gI y111 1))),(18,.t (tI (gI y111 2))),(19,.t (tI (gI y111 3))),(20,.t (tI (gI y111 4))),(21,.t (tI (gI y111 5))),(22,.t (tI (gI y111 6))),(23,.t (tI (gI y111 7))),(24,.t (.str (gS y111 8))),(25,.t (tI (gI y111 9))),(26,.t (tI (gI y111 10))),(27,.t (tI (gI y111 11))),(28,.t (.sl 2 (gL y111 12))),(29,.t (tI (gI y111 13))),(30,.t (tI (gI y111 14))),(38,.t (.bool true)),(39,.t (tI (cI p106 (ix zq 6) 15)))]))])) (k109 ([],upd (rh p106 0 (D2 zq)) [((ix zq 6),.box (upd (rb p106 (ix zq 6) 0 (BT zq)) [(16,.t (tI (gI y111 0))),(17,.t (tI (gI y111 1))),(18,.t (tI (gI y111 2))),(19,.t (tI (gI y111 3))),(20,.t (tI (gI y111 4))),(21,.t (tI (gI y111 5))),(22,.t (tI (gI y111 6))),(23,.t (tI (gI y111 7))),(24,.t (.str (gS y111 8))),(25,.t (tI (gI y111 9))),(26,.t (tI (gI y111 10))),(27,.t (tI (gI y111 11))),(28,.t (.sl 2 (gL y111 12))),(29,.t (tI (gI y111 13))),(30,.t (tI (gI y111 14)))]))]))) (k109 ([],upd (rh p106 0 (D2 zq)) [((ix zq 6),.box (upd (rb p106 (ix zq 6) 0 (BT zq)) [(16,.t (tI (gI y111 0))),(17,.t (tI (gI y111 1))),(18,.t (tI (gI y111 2))),(19,.t (tI (gI y111 3))),(20,.t (tI (gI y111 4))),(21,.t (tI (gI y111 5))),(22,.t (tI (gI y111 6))),(23,.t (tI (gI y111 7))),(24,.t (.str (gS y111 8))),(25,.t (tI (gI y111 9))),(26,.t (tI (gI y111 10))),(27,.t (tI (gI y111 11))),(28,.t (.sl 2 (gL y111 12))),(29,.t (tI (gI y111 13))),(30,.t (tI (gI y111 14)))]))]))) none) (cnd (AE p106 (ix zq 0)=AK p106 (ix zq 6) 35∧(9=9∨9=0)∧AR p106 (ix zq 6) 35+AJ p106 (ix zq 6) 35≤length (oEs p106 (ix zq 0))∧AJ p106 (ix zq 6) 35+length (gL y111 15)≤1073741824) (cnd ((!(cB p106 (ix zq 6) 38))=true) (cnd ((gI y111 14==2)=true) (k109 ([],upd (rh p106 0 (D2 zq)) [((ix zq 0),.row false (AK p106 (ix zq 6) 35+1) 9 (take (AJ p106 (ix zq 6) 35) (drop (AR p106 (ix zq 6) 35) (oEs p106 (ix zq 0)))++gL y111 15)),((ix zq 6),.box (upd (rb p106 (ix zq 6) 0 (BT zq)) [(16,.t (tI (gI y111 0))),(17,.t (tI (gI y111 1))),(18,.t (tI (gI y111 2))),(19,.t (tI (gI y111 3))),(20,.t (tI (gI y111 4))),(21,.t (tI (gI y111 5))),(22,.t (tI (gI y111 6))),(23,.t (tI (gI y111 7))),(24,.t (.str (gS y111 8))),(25,.t (tI (gI y111 9))),(26,.t (tI (gI y111 10))),(27,.t (tI (gI y111 11))),(28,.t (.sl 2 (gL y111 12))),(29,.t (tI (gI y111 13))),(30,.t (tI (gI y111 14))),(35,.sref (ix zq 0) (AK p106 (ix zq 6) 35+1) 0 (AJ p106 (ix zq 6) 35+length (gL y111 15))),(38,.t (.bool true)),(39,.t (tI (cI p106 (ix zq 6) 15)))]))])) (k109 ([],upd (rh p106 0 (D2 zq)) [((ix zq 0),.row false (AK p106 (ix zq 6) 35+1) 9 (take (AJ p106 (ix zq 6) 35) (drop (AR p106 (ix zq 6) 35) (oEs p106 (ix zq 0)))++gL y111 15)),((ix zq 6),.box (upd (rb p106 (ix zq 6) 0 (BT zq)) [(16,.t (tI (gI y111 0))),(17,.t (tI (gI y111 1))),(18,.t (tI (gI y111 2))),(19,.t (tI (gI y111 3))),(20,.t (tI (gI y111 4))),(21,.t (tI (gI y111 5))),(22,.t (tI (gI y111 6))),(23,.t (tI (gI y111 7))),(24,.t (.str (gS y111 8))),(25,.t (tI (gI y111 9))),(26,.t (tI (gI y111 10))),(27,.t (tI (gI y111 11))),(28,.t (.sl 2 (gL y111 12))),(29,.t (tI (gI y111 13))),(30,.t (tI (gI y111 14))),(35,.sref (ix zq 0) (AK p106 (ix zq 6) 35+1) 0 (AJ p106 (ix zq 6) 35+length (gL y111 15)))]))]))) (k109 ([],upd (rh p106 0 (D2 zq)) [((ix zq 0),.row false (AK p106 (ix zq 6) 35+1) 9 (take (AJ p106 (ix zq 6) 35) (drop (AR p106 (ix zq 6) 35) (oEs p106 (ix zq 0)))++gL y111 15)),((ix zq 6),.box (upd (rb p106 (ix zq 6) 0 (BT zq)) [(16,.t (tI (gI y111 0))),(17,.t (tI (gI y111 1))),(18,.t (tI (gI y111 2))),(19,.t (tI (gI y111 3))),(20,.t (tI (gI y111 4))),(21,.t (tI (gI y111 5))),(22,.t (tI (gI y111 6))),(23,.t (tI (gI y111 7))),(24,.t (.str (gS y111 8))),(25,.t (tI (gI y111 9))),(26,.t (tI (gI y111 10))),(27,.t (tI (gI y111 11))),(28,.t (.sl 2 (gL y111 12))),(29,.t (tI (gI y111 13))),(30,.t (tI (gI y111 14))),(35,.sref (ix zq 0) (AK p106 (ix zq 6) 35+1) 0 (AJ p106 (ix zq 6) 35+length (gL y111 15)))]))]))) none)))) none)) (k102 ([],rh p106 0 (Bo zq)))
noncomputable def WQ (zq:Bool) (n:Nat) (ff:Nat→Rec) (k102:KT) (p104:ST):RT:=cnd (vB p104 0=true) (AH (HY zq n ff k102) n ([.rptr (ix zq 7) 0 0 0,.t (.bool false)],upd (rh p104 0 (D2 zq)) [((ix zq 7),.row false 0 8 [[tI 0,tI 0,tI 0,tI 0,tI 0,.bool false,.str B0,.sl 2 []]])])) (bd [0,13,0,0,0,0,0,0,0,0,0,1,2,5,0] (AA C n 246 (ct [0,13,0,0] p104 (ix zq 6) 4 [])) fun y135=>AH (HY zq n ff k102) n ([.rptr (ix zq 7) 0 0 0,.t (.bool true)],upd (rh p104 0 (D2 zq)) [((ix zq 6),.box (upd (rb p104 (ix zq 6) 0 (BT zq)) [(4,.t (tI (gI y135 0))),(5,.t (.sl 10 (gL y135 1))),(6,.t (tI (gI y135 2))),(7,.t (tI (gI y135 3)))])),((ix zq 7),.row false 0 8 [[tI (gI y135 6),tI (gI y135 7),tI (gI y135 8),tI (gI y135 9),tI (gI y135 10),.bool (gB y135 11),.str (gS y135 12),.sl 2 (gL y135 13)]])]))
noncomputable def CM_3 (zq:Bool) (n:Nat) (ff:Nat→Rec) (k102:KT) (p101:ST):RT:=ff 10 (List Tree) (.fn 167 [AV.ptr (ix zq 6) 0]) (rh p101 0 (CC zq)) fun rs h1=>cnd (CG C.P (Bm C.P 167) rs=true) (Gn (rh p101 0 (CC zq)) h1 fun hs=>k102 (rs,hs)) none
noncomputable def Zc (zq:Bool) (n:Nat) (ff:Nat→Rec) (k102:KT) (p101:ST):RT:=bd [0,1] (AA C n 163 (ct [0,13,0,0] p101 (ix zq 6) 4 [])) fun y103=>join (WQ zq n ff k102) fun k105=>cnd ((!(gB y103 1))=true) (k105 ([.t (.bool true)],upd (rh p101 0 (Qa zq)) [((ix zq 7),.box (tv (zt kG [])))])) (k105 ([.t (.bool ((gI y103 0) != cI p101 (ix zq 6) 15))],upd (rh p101 0 (Qa zq)) [((ix zq 7),.box (tv (zt kG [])))]))
theorem vCM_3 (zq:Bool) (n:Nat) (ff:Nat→Rec) (k102:KT) (p101:ST):Et C (IG C (pcx C (AA C n)) n ff Gu 9) (pcx C (AA C n)) n 167 [AV.ptr (ix zq 6) 0] (rh p101 0 (CC zq)) (fun rs h1=>cnd (CG C.P (Bm C.P 167) rs=true) (Gn (rh p101 0 (CC zq)) h1 fun hs=>k102 (rs,hs)) none)=Zc zq n ff k102 p101:=by cases zq<;>kernel_rfl
theorem Xt (zq:Bool) (n:Nat) (k102:KT) (p101:ST):CM_3 zq n (fI C n) k102 p101=Zc zq n (fI C n) k102 p101:=(MR C n Gu 9 _ 167 _ _ _).trans (vCM_3 zq n (fI C n) k102 p101)
noncomputable def Fj (zq:Bool) (n:Nat) (ff:Nat→Rec) (p181:ST) (k182:KT) (y189:List Tree) (p194:ST):RT:=cnd (vB p194 0=true) (A8 (.box [AV.yld 40,.t (tI (cI p181 (ix zq 6) 4)),.t (.sl 10 (cL p181 (ix zq 6) 5)),.t (tI (cI p181 (ix zq 6) 6)),.t (tI (cI p181 (ix zq 6) 7))]) (.box [AV.yld 40,.t (tI (cI p194 (ix zq 6) 4)),.t (.sl 10 (cL p194 (ix zq 6) 5)),.t (tI (cI p194 (ix zq 6) 6)),.t (tI (cI p194 (ix zq 6) 7))]) (A8 (.box [AV.yld 40,.t (tI (cI p181 (ix zq 6) 4))]) (.box [AV.yld 40,.t (tI (cI p194 (ix zq 6) 4))]) (A8 (.row false (AE p181 (ix zq 4)) 9 (oEs p181 (ix zq 4))) (.row false (AE p194 (ix zq 4)) 9 (oEs p194 (ix zq 4))) (A8 (.row false (AE p181 (ix zq 5)) 9 (oEs p181 (ix zq 5))) (.row false (AE p194 (ix zq 5)) 9 (oEs p194 (ix zq 5))) (A8 (.row false (AE p181 (ix zq 0)) 9 (oEs p181 (ix zq 0))) (.row false (AE p194 (ix zq 0)) 9 (oEs p194 (ix zq 0))) (bd [0,13,0,0,0] (AA C n 244 (ct [0,13,0,0] p181 (ix zq 6) 4 [tI (vI p181 3),tI (aI p181 4 0),tI (aI p181 4 1),tI (aI p181 4 2),tI (aI p181 4 3),tI (aI p181 4 4),.bool (aB p181 4 5),.str (aS p181 4 6),.sl 2 (aL p181 4 7),.sl 1 [[tI (cI p181 (ix zq 6) 4)]]])) fun y196=>cnd (((gI y196 4) != 0)=true) (k182 ([],rh p194 0 (Cl zq))) (cnd (AE p194 (ix zq 5)=AK p194 (ix zq 6) 14∧(9=9∨9=0)∧AR p194 (ix zq 6) 14+AJ p194 (ix zq 6) 14≤length (oEs p194 (ix zq 5))∧AJ p194 (ix zq 6) 14+1≤1073741824) (k182 ([],upd (rh p194 0 (Cl zq)) [((ix zq 5),.row false (AK p194 (ix zq 6) 14+1) 9 (take (AJ p194 (ix zq 6) 14) (drop (AR p194 (ix zq 6) 14) (oEs p194 (ix zq 5)))++[[tI (vI p181 3),tI (aI p181 4 0),tI (aI p181 4 1),tI (aI p181 4 2),tI (aI p181 4 3),tI (aI p181 4 4),Tree.bool (aB p181 4 5),.str (aS p181 4 6),.sl 2 (aL p181 4 7)]])),((ix zq 6),.box (upd (rb p194 (ix zq 6) 0 (BT zq)) [(4,.t (tI (gI y196 0))),(5,.t (.sl 10 (gL y196 1))),(6,.t (tI (gI y196 2))),(7,.t (tI (gI y196 3))),(11,.t (tI (w64 (cI p194 (ix zq 6) 11+1)))),(14,.sref (ix zq 5) (AK p194 (ix zq 6) 14+1) 0 (AJ p194 (ix zq 6) 14+1))]))])) none))))))) (A8 (.box [AV.yld 40,.t (tI (cI p181 (ix zq 6) 4)),.t (.sl 10 (cL p181 (ix zq 6) 5)),.t (tI (cI p181 (ix zq 6) 6)),.t (tI (cI p181 (ix zq 6) 7))]) (.box [AV.yld 40,.t (tI (cI p194 (ix zq 6) 4)),.t (.sl 10 (cL p194 (ix zq 6) 5)),.t (tI (cI p194 (ix zq 6) 6)),.t (tI (cI p194 (ix zq 6) 7))]) (A8 (.box [AV.yld 40,.t (tI (cI p181 (ix zq 6) 4))]) (.box [AV.yld 40,.t (tI (cI p194 (ix zq 6) 4))]) (A8 (.row false (AE p181 (ix zq 4)) 9 (oEs p181 (ix zq 4))) (.row false (AE p194 (ix zq 4)) 9 (oEs p194 (ix zq 4))) (A8 (.row false (AE p181 (ix zq 5)) 9 (oEs p181 (ix zq 5))) (.row false (AE p194 (ix zq 5)) 9 (oEs p194 (ix zq 5))) (A8 (.row false (AE p181 (ix zq 0)) 9 (oEs p181 (ix zq 0))) (.row false (AE p194 (ix zq 0)) 9 (oEs p194 (ix zq 0))) (bd [0,13,0,0,0] (AA C n 244 (ct [0,13,0,0] p181 (ix zq 6) 4 [tI (vI p181 3),tI (aI p181 4 0),tI (aI p181 4 1),tI (aI p181 4 2),tI (aI p181 4 3),tI (aI p181 4 4),.bool (aB p181 4 5),.str (aS p181 4 6),.sl 2 (aL p181 4 7),.sl 1 (gL y189 0)])) fun y197=>cnd (((gI y197 4) != 0)=true) (k182 ([],upd (rh p194 0 (Cl zq)) [((ix zq 6),.box (upd (rb p194 (ix zq 6) 0 (BT zq)) [(12,.t (tI (w64 (cI p194 (ix zq 6) 12+1))))]))])) (cnd (AE p194 (ix zq 5)=AK p194 (ix zq 6) 14∧(9=9∨9=0)∧AR p194 (ix zq 6) 14+AJ p194 (ix zq 6) 14≤length (oEs p194 (ix zq 5))∧AJ p194 (ix zq 6) 14+1≤1073741824) (k182 ([],upd (rh p194 0 (Cl zq)) [((ix zq 5),.row false (AK p194 (ix zq 6) 14+1) 9 (take (AJ p194 (ix zq 6) 14) (drop (AR p194 (ix zq 6) 14) (oEs p194 (ix zq 5)))++[[tI (vI p181 3),tI (aI p181 4 0),tI (aI p181 4 1),tI (aI p181 4 2),tI (aI p181 4 3),tI (aI p181 4 4),.bool (aB p181 4 5),.str (aS p181 4 6),.sl 2 (aL p181 4 7)]])),((ix zq 6),.box (upd (rb p194 (ix zq 6) 0 (BT zq)) [(4,.t (tI (gI y197 0))),(5,.t (.sl 10 (gL y197 1))),(6,.t (tI (gI y197 2))),(7,.t (tI (gI y197 3))),(11,.t (tI (w64 (cI p194 (ix zq 6) 11+1)))),(12,.t (tI (w64 (cI p194 (ix zq 6) 12+1)))),(14,.sref (ix zq 5) (AK p194 (ix zq 6) 14+1) 0 (AJ p194 (ix zq 6) 14+1))]))])) none)))))))
noncomputable def Mc (zq:Bool) (n:Nat) (ff:Nat→Rec) (p181:ST) (y189:List Tree) (k182:KT) (p190:ST):RT:=cnd (vB p190 0=true) (A8 (.box [AV.yld 40,.t (tI (cI p181 (ix zq 6) 4)),.t (.sl 10 (cL p181 (ix zq 6) 5)),.t (tI (cI p181 (ix zq 6) 6)),.t (tI (cI p181 (ix zq 6) 7))]) (.box [AV.yld 40,.t (tI (cI p190 (ix zq 6) 4)),.t (.sl 10 (cL p190 (ix zq 6) 5)),.t (tI (cI p190 (ix zq 6) 6)),.t (tI (cI p190 (ix zq 6) 7))]) (A8 (.box [AV.yld 40,.t (tI (cI p181 (ix zq 6) 4))]) (.box [AV.yld 40,.t (tI (cI p190 (ix zq 6) 4))]) (A8 (.row false (AE p181 (ix zq 4)) 9 (oEs p181 (ix zq 4))) (.row false (AE p190 (ix zq 4)) 9 (oEs p190 (ix zq 4))) (A8 (.row false (AE p181 (ix zq 5)) 9 (oEs p181 (ix zq 5))) (.row false (AE p190 (ix zq 5)) 9 (oEs p190 (ix zq 5))) (A8 (.row false (AE p181 (ix zq 0)) 9 (oEs p181 (ix zq 0))) (.row false (AE p190 (ix zq 0)) 9 (oEs p190 (ix zq 0))) (bd [0,13,0,0,0] (AA C n 244 (ct [0,13,0,0] p181 (ix zq 6) 4 [tI (vI p181 3),tI (aI p181 4 0),tI (aI p181 4 1),tI (aI p181 4 2),tI (aI p181 4 3),tI (aI p181 4 4),.bool (aB p181 4 5),.str (aS p181 4 6),.sl 2 (aL p181 4 7),.sl 1 (gL y189 0)])) fun y193=>cnd (((gI y193 4) != 0)=true) (k182 ([],rh p190 0 (Cl zq))) (cnd (AE p190 (ix zq 5)=AK p190 (ix zq 6) 14∧(9=9∨9=0)∧AR p190 (ix zq 6) 14+AJ p190 (ix zq 6) 14≤length (oEs p190 (ix zq 5))∧AJ p190 (ix zq 6) 14+1≤1073741824) (k182 ([],upd (rh p190 0 (Cl zq)) [((ix zq 5),.row false (AK p190 (ix zq 6) 14+1) 9 (take (AJ p190 (ix zq 6) 14) (drop (AR p190 (ix zq 6) 14) (oEs p190 (ix zq 5)))++[[tI (vI p181 3),tI (aI p181 4 0),tI (aI p181 4 1),tI (aI p181 4 2),tI (aI p181 4 3),tI (aI p181 4 4),.bool (aB p181 4 5),.str (aS p181 4 6),.sl 2 (aL p181 4 7)]])),((ix zq 6),.box (upd (rb p190 (ix zq 6) 0 (BT zq)) [(4,.t (tI (gI y193 0))),(5,.t (.sl 10 (gL y193 1))),(6,.t (tI (gI y193 2))),(7,.t (tI (gI y193 3))),(11,.t (tI (w64 (cI p190 (ix zq 6) 11+1)))),(14,.sref (ix zq 5) (AK p190 (ix zq 6) 14+1) 0 (AJ p190 (ix zq 6) 14+1))]))])) none))))))) (join (Fj zq n ff p181 k182 y189) fun k195=>cnd (decide (cI p190 (ix zq 6) 9≥(0:Int))=true) (k195 ([.t (.bool (decide (cI p190 (ix zq 6) 12≥cI p190 (ix zq 6) 9)))],rh p190 0 (MA zq))) (k195 ([.t (.bool false)],rh p190 0 (MA zq))))
noncomputable def Mb (zq:Bool) (n:Nat) (ff:Nat→Rec) (p181:ST) (y202:List Tree) (k182:KT) (p203:ST):RT:=cnd (vB p203 0=true) (A8 (.box [AV.yld 40,.t (tI (cI p181 (ix zq 6) 4)),.t (.sl 10 (cL p181 (ix zq 6) 5)),.t (tI (cI p181 (ix zq 6) 6)),.t (tI (cI p181 (ix zq 6) 7))]) (.box [AV.yld 40,.t (tI (cI p203 (ix zq 6) 4)),.t (.sl 10 (cL p203 (ix zq 6) 5)),.t (tI (cI p203 (ix zq 6) 6)),.t (tI (cI p203 (ix zq 6) 7))]) (A8 (.box [AV.yld 40,.t (tI (cI p181 (ix zq 6) 4))]) (.box [AV.yld 40,.t (tI (cI p203 (ix zq 6) 4))]) (A8 (.row false (AE p181 (ix zq 4)) 9 (oEs p181 (ix zq 4))) (.row false (AE p203 (ix zq 4)) 9 (oEs p203 (ix zq 4))) (A8 (.row false (AE p181 (ix zq 5)) 9 (oEs p181 (ix zq 5))) (.row false (AE p203 (ix zq 5)) 9 (oEs p203 (ix zq 5))) (A8 (.row false (AE p181 (ix zq 0)) 9 (oEs p181 (ix zq 0))) (.row false (AE p203 (ix zq 0)) 9 (oEs p203 (ix zq 0))) (bd [0,13,0,0,0] (AA C n 244 (ct [0,13,0,0] p181 (ix zq 6) 4 [tI (vI p181 3),tI (aI p181 4 0),tI (aI p181 4 1),tI (aI p181 4 2),tI (aI p181 4 3),tI (aI p181 4 4),.bool (aB p181 4 5),.str (aS p181 4 6),.sl 2 (aL p181 4 7),.sl 1 (gL y202 0)])) fun y206=>cnd (((gI y206 4) != 0)=true) (k182 ([],rh p203 0 (Cl zq))) (cnd (AE p203 (ix zq 5)=AK p203 (ix zq 6) 14∧(9=9∨9=0)∧AR p203 (ix zq 6) 14+AJ p203 (ix zq 6) 14≤length (oEs p203 (ix zq 5))∧AJ p203 (ix zq 6) 14+1≤1073741824) (k182 ([],upd (rh p203 0 (Cl zq)) [((ix zq 5),.row false (AK p203 (ix zq 6) 14+1) 9 (take (AJ p203 (ix zq 6) 14) (drop (AR p203 (ix zq 6) 14) (oEs p203 (ix zq 5)))++[[tI (vI p181 3),tI (aI p181 4 0),tI (aI p181 4 1),tI (aI p181 4 2),tI (aI p181 4 3),tI (aI p181 4 4),.bool (aB p181 4 5),.str (aS p181 4 6),.sl 2 (aL p181 4 7)]])),((ix zq 6),.box (upd (rb p203 (ix zq 6) 0 (BT zq)) [(4,.t (tI (gI y206 0))),(5,.t (.sl 10 (gL y206 1))),(6,.t (tI (gI y206 2))),(7,.t (tI (gI y206 3))),(11,.t (tI (w64 (cI p203 (ix zq 6) 11+1)))),(14,.sref (ix zq 5) (AK p203 (ix zq 6) 14+1) 0 (AJ p203 (ix zq 6) 14+1))]))])) none))))))) (join (Fj zq n ff p181 k182 y202) fun k208=>cnd (decide (cI p203 (ix zq 6) 9≥(0:Int))=true) (k208 ([.t (.bool (decide (cI p203 (ix zq 6) 12≥cI p203 (ix zq 6) 9)))],rh p203 0 (Cl zq))) (k208 ([.t (.bool false)],rh p203 0 (Cl zq))))
noncomputable def CM_4 (zq:Bool) (n:Nat) (ff:Nat→Rec) (k182:KT) (p181:ST):RT:=ff 9 (List Tree) (.fn 208 [AV.ptr (ix zq 6) 0,AV.ptr (ix zq 6) 4,.t (tI 1),.t (tI (vI p181 3)),AV.agg (tv [tI (aI p181 4 0),tI (aI p181 4 1),tI (aI p181 4 2),tI (aI p181 4 3),tI (aI p181 4 4),.bool (aB p181 4 5),.str (aS p181 4 6),.sl 2 (aL p181 4 7)])]) (rh p181 0 (J2 zq)) fun rs h1=>cnd (CG C.P (Bm C.P 208) rs=true) (Gn (rh p181 0 (J2 zq)) h1 fun hs=>k182 (rs,hs)) none
noncomputable def On (zq:Bool) (n:Nat) (ff:Nat→Rec) (k182:KT) (p181:ST):RT:=cnd (decide (cI p181 (ix zq 6) 11≥(10000:Int))=true) (k182 ([],rh p181 0 (Cl zq))) (both (bd [1] (AA C n 271 [.sl 2 (cL p181 (ix zq 6) 10),tI (vI p181 3)]) fun y185=>cnd (gB y185 0=true) (A8 (.box [AV.yld 40,.t (tI (cI p181 (ix zq 6) 4)),.t (.sl 10 (cL p181 (ix zq 6) 5)),.t (tI (cI p181 (ix zq 6) 6)),.t (tI (cI p181 (ix zq 6) 7))]) (.box [AV.yld 40,.t (tI (cI p181 (ix zq 6) 4)),.t (.sl 10 (cL p181 (ix zq 6) 5)),.t (tI (cI p181 (ix zq 6) 6)),.t (tI (cI p181 (ix zq 6) 7))]) (A8 (.box [AV.yld 40,.t (tI (cI p181 (ix zq 6) 4))]) (.box [AV.yld 40,.t (tI (cI p181 (ix zq 6) 4))]) (A8 (.row false (AE p181 (ix zq 4)) 9 (oEs p181 (ix zq 4))) (.row false (AE p181 (ix zq 4)) 9 (oEs p181 (ix zq 4))) (A8 (.row false (AE p181 (ix zq 5)) 9 (oEs p181 (ix zq 5))) (.row false (AE p181 (ix zq 5)) 9 (oEs p181 (ix zq 5))) (A8 (.row false (AE p181 (ix zq 0)) 9 (oEs p181 (ix zq 0))) (.row false (AE p181 (ix zq 0)) 9 (oEs p181 (ix zq 0))) (bd [0,13,0,0,0] (AA C n 244 (ct [0,13,0,0] p181 (ix zq 6) 4 [tI (vI p181 3),tI (aI p181 4 0),tI (aI p181 4 1),tI (aI p181 4 2),tI (aI p181 4 3),tI (aI p181 4 4),.bool (aB p181 4 5),.str (aS p181 4 6),.sl 2 (aL p181 4 7),.sl 1 []])) fun y186=>cnd (((gI y186 4) != 0)=true) (k182 ([],rh p181 0 (Cl zq))) (cnd (AE p181 (ix zq 5)=AK p181 (ix zq 6) 14∧(9=9∨9=0)∧AR p181 (ix zq 6) 14+AJ p181 (ix zq 6) 14≤length (oEs p181 (ix zq 5))∧AJ p181 (ix zq 6) 14+1≤1073741824) (k182 ([],upd (rh p181 0 (Cl zq)) [((ix zq 5),.row false (AK p181 (ix zq 6) 14+1) 9 (take (AJ p181 (ix zq 6) 14) (drop (AR p181 (ix zq 6) 14) (oEs p181 (ix zq 5)))++[[tI (vI p181 3),tI (aI p181 4 0),tI (aI p181 4 1),tI (aI p181 4 2),tI (aI p181 4 3),tI (aI p181 4 4),.bool (aB p181 4 5),.str (aS p181 4 6),.sl 2 (aL p181 4 7)]])),((ix zq 6),.box (upd (rb p181 (ix zq 6) 0 (BT zq)) [(4,.t (tI (gI y186 0))),(5,.t (.sl 10 (gL y186 1))),(6,.t (tI (gI y186 2))),(7,.t (tI (gI y186 3))),(11,.t (tI (w64 (cI p181 (ix zq 6) 11+1)))),(14,.sref (ix zq 5) (AK p181 (ix zq 6) 14+1) 0 (AJ p181 (ix zq 6) 14+1))]))])) none))))))) (cnd (((length (cL p181 (ix zq 6) 8):Int)==0)=true) (A8 (.box [AV.yld 40,.t (tI (cI p181 (ix zq 6) 4)),.t (.sl 10 (cL p181 (ix zq 6) 5)),.t (tI (cI p181 (ix zq 6) 6)),.t (tI (cI p181 (ix zq 6) 7))]) (.box [AV.yld 40,.t (tI (cI p181 (ix zq 6) 4)),.t (.sl 10 (cL p181 (ix zq 6) 5)),.t (tI (cI p181 (ix zq 6) 6)),.t (tI (cI p181 (ix zq 6) 7))]) (A8 (.box [AV.yld 40,.t (tI (cI p181 (ix zq 6) 4))]) (.box [AV.yld 40,.t (tI (cI p181 (ix zq 6) 4))]) (A8 (.row false (AE p181 (ix zq 4)) 9 (oEs p181 (ix zq 4))) (.row false (AE p181 (ix zq 4)) 9 (oEs p181 (ix zq 4))) (A8 (.row false (AE p181 (ix zq 5)) 9 (oEs p181 (ix zq 5))) (.row false (AE p181 (ix zq 5)) 9 (oEs p181 (ix zq 5))) (A8 (.row false (AE p181 (ix zq 0)) 9 (oEs p181 (ix zq 0))) (.row false (AE p181 (ix zq 0)) 9 (oEs p181 (ix zq 0))) (bd [0,13,0,0,0] (AA C n 244 (ct [0,13,0,0] p181 (ix zq 6) 4 [tI (vI p181 3),tI (aI p181 4 0),tI (aI p181 4 1),tI (aI p181 4 2),tI (aI p181 4 3),tI (aI p181 4 4),.bool (aB p181 4 5),.str (aS p181 4 6),.sl 2 (aL p181 4 7),.sl 1 [[tI (cI p181 (ix zq 6) 4)]]])) fun y187=>cnd (((gI y187 4) != 0)=true) (k182 ([],rh p181 0 (Cl zq))) (cnd (AE p181 (ix zq 5)=AK p181 (ix zq 6) 14∧(9=9∨9=0)∧AR p181 (ix zq 6) 14+AJ p181 (ix zq 6) 14≤length (oEs p181 (ix zq 5))∧AJ p181 (ix zq 6) 14+1≤1073741824) (k182 ([],upd (rh p181 0 (Cl zq)) [((ix zq 5),.row false (AK p181 (ix zq 6) 14+1) 9 (take (AJ p181 (ix zq 6) 14) (drop (AR p181 (ix zq 6) 14) (oEs p181 (ix zq 5)))++[[tI (vI p181 3),tI (aI p181 4 0),tI (aI p181 4 1),tI (aI p181 4 2),tI (aI p181 4 3),tI (aI p181 4 4),.bool (aB p181 4 5),.str (aS p181 4 6),.sl 2 (aL p181 4 7)]])),((ix zq 6),.box (upd (rb p181 (ix zq 6) 0 (BT zq)) [(4,.t (tI (gI y187 0))),(5,.t (.sl 10 (gL y187 1))),(6,.t (tI (gI y187 2))),(7,.t (tI (gI y187 3))),(11,.t (tI (w64 (cI p181 (ix zq 6) 11+1)))),(14,.sref (ix zq 5) (AK p181 (ix zq 6) 14+1) 0 (AJ p181 (ix zq 6) 14+1))]))])) none))))))) (cnd ((length (cL p181 (ix zq 6) 8):Int)=0) none (cnd (1=1∧0≤wS (cI p181 (ix zq 6) 11) (length (cL p181 (ix zq 6) 8):Int)) (Option.bind (cL p181 (ix zq 6) 8)[wT (wS (cI p181 (ix zq 6) 11) (length (cL p181 (ix zq 6) 8):Int))]? fun y188=>cnd (okI y188 0) (bd [4,0] (AA C n 272 [tI (gI y188 0),tI (cI p181 (ix zq 6) 4)]) fun y189=>join (Mc zq n ff p181 y189 k182) fun k191=>cnd (decide ((length (gL y189 0):Int)>0)=true) (Option.bind (gL y189 0)[0]? fun y192=>cnd (okI y192 0) (k191 ([.t (.bool (gI y192 0==cI p181 (ix zq 6) 4))],upd (rh p181 0 (MA zq)) [((ix zq 10),.box (tv (zt [0,13,0,0] [])))])) none) (k191 ([.t (.bool false)],upd (rh p181 0 (MA zq)) [((ix zq 10),.box (tv (zt [0,13,0,0] [])))]))) none) none)))) (bd [1] (AA C n 271 [.sl 2 (cL p181 (ix zq 6) 10),tI (vI p181 3)]) fun y198=>cnd (gB y198 0=true) (A8 (.box [AV.yld 40,.t (tI (cI p181 (ix zq 6) 4)),.t (.sl 10 (cL p181 (ix zq 6) 5)),.t (tI (cI p181 (ix zq 6) 6)),.t (tI (cI p181 (ix zq 6) 7))]) (.box [AV.yld 40,.t (tI (cI p181 (ix zq 6) 4)),.t (.sl 10 (cL p181 (ix zq 6) 5)),.t (tI (cI p181 (ix zq 6) 6)),.t (tI (cI p181 (ix zq 6) 7))]) (A8 (.box [AV.yld 40,.t (tI (cI p181 (ix zq 6) 4))]) (.box [AV.yld 40,.t (tI (cI p181 (ix zq 6) 4))]) (A8 (.row false (AE p181 (ix zq 4)) 9 (oEs p181 (ix zq 4))) (.row false (AE p181 (ix zq 4)) 9 (oEs p181 (ix zq 4))) (A8 (.row false (AE p181 (ix zq 5)) 9 (oEs p181 (ix zq 5))) (.row false (AE p181 (ix zq 5)) 9 (oEs p181 (ix zq 5))) (A8 (.row false (AE p181 (ix zq 0)) 9 (oEs p181 (ix zq 0))) (.row false (AE p181 (ix zq 0)) 9 (oEs p181 (ix zq 0))) (bd [0,13,0,0,0] (AA C n 244 (ct [0,13,0,0] p181 (ix zq 6) 4 [tI (vI p181 3),tI (aI p181 4 0),tI (aI p181 4 1),tI (aI p181 4 2),tI (aI p181 4 3),tI (aI p181 4 4),.bool (aB p181 4 5),.str (aS p181 4 6),.sl 2 (aL p181 4 7),.sl 1 []])) fun y199=>cnd (((gI y199 4) != 0)=true) (k182 ([],rh p181 0 (Cl zq))) (cnd (AE p181 (ix zq 5)=AK p181 (ix zq 6) 14∧(9=9∨9=0)∧AR p181 (ix zq 6) 14+AJ p181 (ix zq 6) 14≤length (oEs p181 (ix zq 5))∧AJ p181 (ix zq 6) 14+1≤1073741824) (k182 ([],upd (rh p181 0 (Cl zq)) [((ix zq 5),.row false (AK p181 (ix zq 6) 14+1) 9 (take (AJ p181 (ix zq 6) 14) (drop (AR p181 (ix zq 6) 14) (oEs p181 (ix zq 5)))++[[tI (vI p181 3),tI (aI p181 4 0),tI (aI p181 4 1),tI (aI p181 4 2),tI (aI p181 4 3),tI (aI p181 4 4),.bool (aB p181 4 5),.str (aS p181 4 6),.sl 2 (aL p181 4 7)]])),((ix zq 6),.box (upd (rb p181 (ix zq 6) 0 (BT zq)) [(4,.t (tI (gI y199 0))),(5,.t (.sl 10 (gL y199 1))),(6,.t (tI (gI y199 2))),(7,.t (tI (gI y199 3))),(11,.t (tI (w64 (cI p181 (ix zq 6) 11+1)))),(14,.sref (ix zq 5) (AK p181 (ix zq 6) 14+1) 0 (AJ p181 (ix zq 6) 14+1))]))])) none))))))) (cnd (((length (cL p181 (ix zq 6) 8):Int)==0)=true) (A8 (.box [AV.yld 40,.t (tI (cI p181 (ix zq 6) 4)),.t (.sl 10 (cL p181 (ix zq 6) 5)),.t (tI (cI p181 (ix zq 6) 6)),.t (tI (cI p181 (ix zq 6) 7))]) (.box [AV.yld 40,.t (tI (cI p181 (ix zq 6) 4)),.t (.sl 10 (cL p181 (ix zq 6) 5)),.t (tI (cI p181 (ix zq 6) 6)),.t (tI (cI p181 (ix zq 6) 7))]) (A8 (.box [AV.yld 40,.t (tI (cI p181 (ix zq 6) 4))]) (.box [AV.yld 40,.t (tI (cI p181 (ix zq 6) 4))]) (A8 (.row false (AE p181 (ix zq 4)) 9 (oEs p181 (ix zq 4))) (.row false (AE p181 (ix zq 4)) 9 (oEs p181 (ix zq 4))) (A8 (.row false (AE p181 (ix zq 5)) 9 (oEs p181 (ix zq 5))) (.row false (AE p181 (ix zq 5)) 9 (oEs p181 (ix zq 5))) (A8 (.row false (AE p181 (ix zq 0)) 9 (oEs p181 (ix zq 0))) (.row false (AE p181 (ix zq 0)) 9 (oEs p181 (ix zq 0))) (bd [0,13,0,0,0] (AA C n 244 (ct [0,13,0,0] p181 (ix zq 6) 4 [tI (vI p181 3),tI (aI p181 4 0),tI (aI p181 4 1),tI (aI p181 4 2),tI (aI p181 4 3),tI (aI p181 4 4),.bool (aB p181 4 5),.str (aS p181 4 6),.sl 2 (aL p181 4 7),.sl 1 [[tI (cI p181 (ix zq 6) 4)]]])) fun y200=>cnd (((gI y200 4) != 0)=true) (k182 ([],rh p181 0 (Cl zq))) (cnd (AE p181 (ix zq 5)=AK p181 (ix zq 6) 14∧(9=9∨9=0)∧AR p181 (ix zq 6) 14+AJ p181 (ix zq 6) 14≤length (oEs p181 (ix zq 5))∧AJ p181 (ix zq 6) 14+1≤1073741824) (k182 ([],upd (rh p181 0 (Cl zq)) [((ix zq 5),.row false (AK p181 (ix zq 6) 14+1) 9 (take (AJ p181 (ix zq 6) 14) (drop (AR p181 (ix zq 6) 14) (oEs p181 (ix zq 5)))++[[tI (vI p181 3),tI (aI p181 4 0),tI (aI p181 4 1),tI (aI p181 4 2),tI (aI p181 4 3),tI (aI p181 4 4),.bool (aB p181 4 5),.str (aS p181 4 6),.sl 2 (aL p181 4 7)]])),((ix zq 6),.box (upd (rb p181 (ix zq 6) 0 (BT zq)) [(4,.t (tI (gI y200 0))),(5,.t (.sl 10 (gL y200 1))),(6,.t (tI (gI y200 2))),(7,.t (tI (gI y200 3))),(11,.t (tI (w64 (cI p181 (ix zq 6) 11+1)))),(14,.sref (ix zq 5) (AK p181 (ix zq 6) 14+1) 0 (AJ p181 (ix zq 6) 14+1))]))])) none))))))) (cnd ((length (cL p181 (ix zq 6) 8):Int)=0) none (cnd (1=1∧0≤wS (cI p181 (ix zq 6) 11) (length (cL p181 (ix zq 6) 8):Int)) (Option.bind (cL p181 (ix zq 6) 8)[wT (wS (cI p181 (ix zq 6) 11) (length (cL p181 (ix zq 6) 8):Int))]? fun y201=>cnd (okI y201 0) (bd [4,0] (AA C n 272 [tI (gI y201 0),tI (cI p181 (ix zq 6) 4)]) fun y202=>join (Mb zq n ff p181 y202 k182) fun k204=>cnd (decide ((length (gL y202 0):Int)>0)=true) (Option.bind (gL y202 0)[0]? fun y205=>cnd (okI y205 0) (k204 ([.t (.bool (gI y205 0==cI p181 (ix zq 6) 4))],rh p181 0 (Cl zq))) none) (k204 ([.t (.bool false)],rh p181 0 (Cl zq)))) none) none)))))
theorem vCM_4 (zq:Bool) (n:Nat) (ff:Nat→Rec) (k182:KT) (p181:ST):Et C (IG C (pcx C (AA C n)) n ff Gu 8) (pcx C (AA C n)) n 208 [AV.ptr (ix zq 6) 0,AV.ptr (ix zq 6) 4,.t (tI 1),.t (tI (vI p181 3)),AV.agg (tv [tI (aI p181 4 0),tI (aI p181 4 1),tI (aI p181 4 2),tI (aI p181 4 3),tI (aI p181 4 4),.bool (aB p181 4 5),.str (aS p181 4 6),.sl 2 (aL p181 4 7)])] (rh p181 0 (J2 zq)) (fun rs h1=>cnd (CG C.P (Bm C.P 208) rs=true) (Gn (rh p181 0 (J2 zq)) h1 fun hs=>k182 (rs,hs)) none)=On zq n ff k182 p181:=by cases zq<;>kernel_rfl
theorem KB (zq:Bool) (n:Nat) (k182:KT) (p181:ST):CM_4 zq n (fI C n) k182 p181=On zq n (fI C n) k182 p181:=(MR C n Gu 8 _ 208 _ _ _).trans (vCM_4 zq n (fI C n) k182 p181)
noncomputable def Zm (zq:Bool) (n:Nat) (ff:Nat→Rec) (k179:KT) (p178 p211:ST):RT:=k179 ([.t (tI (w64 (vI p178 0+1)))],rh p211 0 (O5 zq))
noncomputable def Ov (zq:Bool) (n:Nat) (ff:Nat→Rec) (y177:List Tree) (p167:ST) (k175:KT) (p178:ST) (k179:KT):RT:=cnd (decide (vI p178 0<(length (gL y177 4):Int))=true) (cnd (8=8∧0≤vI p178 0) (Option.bind (gL y177 4)[wT (vI p178 0)]? fun y180=>bk kG 0 y180 (join (Zm zq n ff k179 p178) fun k212=>CM_4 zq n ff k212 ([AV.ptr (ix zq 6) 0,AV.ptr (ix zq 6) 4,.t (tI 1),.t (tI (cI p178 (ix zq 6) 15)),AV.agg (tv (gt kG y180 0 []))],upd (rh p178 0 (J2 zq)) [((ix zq 1),.row true (AE p167 (ix zq 1)) 15 (oEs p167 (ix zq 1))),((ix zq 2),.row true (AE p167 (ix zq 2)) 4 (oEs p167 (ix zq 2))),((ix zq 3),.row true (AE p167 (ix zq 3)) 4 (oEs p167 (ix zq 3))),((ix zq 9),.box (tv (gt kG y180 0 [])))]))) none) (cnd ((!(cB p178 (ix zq 6) 36))=true) (bd [1] (AA C n 211 (ct [0,0,5,2] p178 (ix zq 6) 31 [])) fun y215=>cnd (gB y215 0=true) (k175 ([],upd (rh p178 0 (D2 zq)) [((ix zq 6),.box (upd (rb p178 (ix zq 6) 0 (BT zq)) [(36,.t (Tree.bool true)),(37,.t (tI (cI p178 (ix zq 6) 15)))]))])) (k175 ([],rh p178 0 (D2 zq)))) (k175 ([],rh p178 0 (D2 zq))))
noncomputable def WO (zq:Bool) (n:Nat) (ff:Nat→Rec) (p174:ST) (k173:KT) (p224:ST):RT:=cnd (vB p224 0=true) (cnd (AE p224 (ix zq 7)=AE p174 (ix zq 7)+1∧8≤8) (Option.bind (oEs p224 (ix zq 7))[0]? fun y226=>k173 ([.rptr (ix zq 7) (AE p174 (ix zq 7)+1) 0 0,.t (.bool false)],upd (rh p224 0 (D2 zq)) [((ix zq 7),.row false (AE p174 (ix zq 7)+1) 8 (List.set (oEs p224 (ix zq 7)) 0 (zt kG []++drop 8 y226)))])) none) (bd [0,13,0,0,0,0,0,0,0,0,0,1,2,5,0] (AA C n 246 (ct [0,13,0,0] p224 (ix zq 6) 0 [])) fun y227=>cnd (AE p224 (ix zq 7)=AE p174 (ix zq 7)+1∧8≤8) (Option.bind (oEs p224 (ix zq 7))[0]? fun y228=>k173 ([.rptr (ix zq 7) (AE p174 (ix zq 7)+1) 0 0,.t (.bool true)],upd (rh p224 0 (D2 zq)) [((ix zq 6),.box (upd (rb p224 (ix zq 6) 0 (BT zq)) [(0,.t (tI (gI y227 0))),(1,.t (.sl 10 (gL y227 1))),(2,.t (tI (gI y227 2))),(3,.t (tI (gI y227 3)))])),((ix zq 7),.row false (AE p174 (ix zq 7)+1) 8 (List.set (oEs p224 (ix zq 7)) 0 (gt kG y227 6 []++drop 8 y228)))])) none)
noncomputable def Tn (zq:Bool) (n:Nat) (ff:Nat→Rec) (p172:ST) (k173:KT) (p174:ST):RT:=cnd (AE p174 (ix zq 7)=Bg p172 0) (Option.bind (oEs p174 (ix zq 7))[0]? fun y222=>bk kG 0 y222 (cnd (AE p174 (ix zq 7)+1=AE p174 (ix zq 7)+1∧8≤8) (bd [0,1] (AA C n 163 (ct [0,13,0,0] p174 (ix zq 6) 0 [])) fun y223=>join (WO zq n ff p174 k173) fun k225=>cnd ((!(gB y223 1))=true) (k225 ([.t (.bool true)],upd (rh p174 0 (MB zq)) [((ix zq 7),.row false (AE p174 (ix zq 7)+1) 8 [[tI (gI y222 0),tI (gI y222 1),tI (gI y222 2),tI (gI y222 3),tI (gI y222 4),.bool (gB y222 5),.str (gS y222 6),.sl 2 (gL y222 7)]]),((ix zq 8),.box (tv (zt kG [])))])) (k225 ([.t (.bool ((gI y223 0) != cI p174 (ix zq 6) 15))],upd (rh p174 0 (MB zq)) [((ix zq 7),.row false (AE p174 (ix zq 7)+1) 8 [[tI (gI y222 0),tI (gI y222 1),tI (gI y222 2),tI (gI y222 3),tI (gI y222 4),.bool (gB y222 5),.str (gS y222 6),.sl 2 (gL y222 7)]]),((ix zq 8),.box (tv (zt kG [])))]))) none)) none
noncomputable def LF (zq:Bool) (n:Nat) (ff:Nat→Rec) (p167:ST) (k168:KT) (p172:ST) (k173:KT):RT:=cnd (vB p172 1=true) (join (Tn zq n ff p172 k173) fun k175=>cnd (AE p172 (ix zq 7)=Bg p172 0) (Option.bind (oEs p172 (ix zq 7))[0]? fun y176=>bk kG 0 y176 (bd [0,0,5,2,11,0] (AA C n 210 (ct [0,0,5,2] p172 (ix zq 6) 31 (gt kG y176 0 []))) fun y177=>cnd (((gI y177 5) != 0)=true) (k175 ([],rh p172 0 (D2 zq))) (AH (Ov zq n ff y177 p167 k175) n ([.t (tI 0)],upd (rh p172 0 (O5 zq)) [((ix zq 6),.box (upd (rb p172 (ix zq 6) 0 (BT zq)) [(31,.t (tI (gI y177 0))),(32,.t (tI (gI y177 1))),(33,.t (.sl 2 (gL y177 2))),(34,.t (.str (gS y177 3)))])),((ix zq 8),.box (tv (gt [0,0,5,2] y177 0 [])))])))) none) (k168 ([],rh p172 0 (Bo zq)))
noncomputable def WN (zq:Bool) (n:Nat) (ff:Nat→Rec) (p167:ST) (k168:KT) (p170:ST):RT:=cnd (vB p170 0=true) (AH (LF zq n ff p167 k168) n ([.rptr (ix zq 7) 0 0 0,.t (.bool false)],upd (rh p170 0 (D2 zq)) [((ix zq 7),.row false 0 8 [[tI 0,tI 0,tI 0,tI 0,tI 0,.bool false,.str B0,.sl 2 []]])])) (bd [0,13,0,0,0,0,0,0,0,0,0,1,2,5,0] (AA C n 246 (ct [0,13,0,0] p170 (ix zq 6) 0 [])) fun y229=>AH (LF zq n ff p167 k168) n ([.rptr (ix zq 7) 0 0 0,.t (.bool true)],upd (rh p170 0 (D2 zq)) [((ix zq 6),.box (upd (rb p170 (ix zq 6) 0 (BT zq)) [(0,.t (tI (gI y229 0))),(1,.t (.sl 10 (gL y229 1))),(2,.t (tI (gI y229 2))),(3,.t (tI (gI y229 3)))])),((ix zq 7),.row false 0 8 [[tI (gI y229 6),tI (gI y229 7),tI (gI y229 8),tI (gI y229 9),tI (gI y229 10),.bool (gB y229 11),.str (gS y229 12),.sl 2 (gL y229 13)]])]))
noncomputable def CM_5 (zq:Bool) (n:Nat) (ff:Nat→Rec) (k168:KT) (p167:ST):RT:=ff 10 (List Tree) (.fn 166 [AV.ptr (ix zq 6) 0]) (rh p167 0 (CC zq)) fun rs h1=>cnd (CG C.P (Bm C.P 166) rs=true) (Gn (rh p167 0 (CC zq)) h1 fun hs=>k168 (rs,hs)) none
noncomputable def Zb (zq:Bool) (n:Nat) (ff:Nat→Rec) (k168:KT) (p167:ST):RT:=bd [0,1] (AA C n 163 (ct [0,13,0,0] p167 (ix zq 6) 0 [])) fun y169=>join (WN zq n ff p167 k168) fun k171=>cnd ((!(gB y169 1))=true) (k171 ([.t (.bool true)],upd (rh p167 0 (Qa zq)) [((ix zq 7),.box (tv (zt kG [])))])) (k171 ([.t (.bool ((gI y169 0) != cI p167 (ix zq 6) 15))],upd (rh p167 0 (Qa zq)) [((ix zq 7),.box (tv (zt kG [])))]))
theorem vCM_5 (zq:Bool) (n:Nat) (ff:Nat→Rec) (k168:KT) (p167:ST):Et C (IG C (pcx C (AA C n)) n ff Gu 9) (pcx C (AA C n)) n 166 [AV.ptr (ix zq 6) 0] (rh p167 0 (CC zq)) (fun rs h1=>cnd (CG C.P (Bm C.P 166) rs=true) (Gn (rh p167 0 (CC zq)) h1 fun hs=>k168 (rs,hs)) none)=Zb zq n ff k168 p167:=by cases zq<;>kernel_rfl
theorem Xs (zq:Bool) (n:Nat) (k168:KT) (p167:ST):CM_5 zq n (fI C n) k168 p167=Zb zq n (fI C n) k168 p167:=(MR C n Gu 9 _ 166 _ _ _).trans (vCM_5 zq n (fI C n) k168 p167)
noncomputable def Fi (zq:Bool) (n:Nat) (ff:Nat→Rec) (p267:ST) (k268:KT) (y275:List Tree) (p280:ST):RT:=cnd (vB p280 0=true) (A8 (.box [AV.yld 40,.t (tI (cI p267 (ix zq 6) 0)),.t (.sl 10 (cL p267 (ix zq 6) 1)),.t (tI (cI p267 (ix zq 6) 2)),.t (tI (cI p267 (ix zq 6) 3))]) (.box [AV.yld 40,.t (tI (cI p280 (ix zq 6) 0)),.t (.sl 10 (cL p280 (ix zq 6) 1)),.t (tI (cI p280 (ix zq 6) 2)),.t (tI (cI p280 (ix zq 6) 3))]) (A8 (.box [AV.yld 40,.t (tI (cI p267 (ix zq 6) 0))]) (.box [AV.yld 40,.t (tI (cI p280 (ix zq 6) 0))]) (A8 (.row false (AE p267 (ix zq 4)) 9 (oEs p267 (ix zq 4))) (.row false (AE p280 (ix zq 4)) 9 (oEs p280 (ix zq 4))) (A8 (.row false (AE p267 (ix zq 5)) 9 (oEs p267 (ix zq 5))) (.row false (AE p280 (ix zq 5)) 9 (oEs p280 (ix zq 5))) (A8 (.row false (AE p267 (ix zq 0)) 9 (oEs p267 (ix zq 0))) (.row false (AE p280 (ix zq 0)) 9 (oEs p280 (ix zq 0))) (bd [0,13,0,0,0] (AA C n 244 (ct [0,13,0,0] p267 (ix zq 6) 0 [tI (vI p267 3),tI (aI p267 4 0),tI (aI p267 4 1),tI (aI p267 4 2),tI (aI p267 4 3),tI (aI p267 4 4),.bool (aB p267 4 5),.str (aS p267 4 6),.sl 2 (aL p267 4 7),.sl 1 [[tI (cI p267 (ix zq 6) 0)]]])) fun y282=>cnd (((gI y282 4) != 0)=true) (k268 ([],rh p280 0 (Bo zq))) (cnd (AE p280 (ix zq 4)=AK p280 (ix zq 6) 13∧(9=9∨9=0)∧AR p280 (ix zq 6) 13+AJ p280 (ix zq 6) 13≤length (oEs p280 (ix zq 4))∧AJ p280 (ix zq 6) 13+1≤1073741824) (k268 ([],upd (rh p280 0 (Bo zq)) [((ix zq 4),.row false (AK p280 (ix zq 6) 13+1) 9 (take (AJ p280 (ix zq 6) 13) (drop (AR p280 (ix zq 6) 13) (oEs p280 (ix zq 4)))++[[tI (vI p267 3),tI (aI p267 4 0),tI (aI p267 4 1),tI (aI p267 4 2),tI (aI p267 4 3),tI (aI p267 4 4),Tree.bool (aB p267 4 5),.str (aS p267 4 6),.sl 2 (aL p267 4 7)]])),((ix zq 6),.box (upd (rb p280 (ix zq 6) 0 (BT zq)) [(0,.t (tI (gI y282 0))),(1,.t (.sl 10 (gL y282 1))),(2,.t (tI (gI y282 2))),(3,.t (tI (gI y282 3))),(11,.t (tI (w64 (cI p280 (ix zq 6) 11+1)))),(13,.sref (ix zq 4) (AK p280 (ix zq 6) 13+1) 0 (AJ p280 (ix zq 6) 13+1))]))])) none))))))) (A8 (.box [AV.yld 40,.t (tI (cI p267 (ix zq 6) 0)),.t (.sl 10 (cL p267 (ix zq 6) 1)),.t (tI (cI p267 (ix zq 6) 2)),.t (tI (cI p267 (ix zq 6) 3))]) (.box [AV.yld 40,.t (tI (cI p280 (ix zq 6) 0)),.t (.sl 10 (cL p280 (ix zq 6) 1)),.t (tI (cI p280 (ix zq 6) 2)),.t (tI (cI p280 (ix zq 6) 3))]) (A8 (.box [AV.yld 40,.t (tI (cI p267 (ix zq 6) 0))]) (.box [AV.yld 40,.t (tI (cI p280 (ix zq 6) 0))]) (A8 (.row false (AE p267 (ix zq 4)) 9 (oEs p267 (ix zq 4))) (.row false (AE p280 (ix zq 4)) 9 (oEs p280 (ix zq 4))) (A8 (.row false (AE p267 (ix zq 5)) 9 (oEs p267 (ix zq 5))) (.row false (AE p280 (ix zq 5)) 9 (oEs p280 (ix zq 5))) (A8 (.row false (AE p267 (ix zq 0)) 9 (oEs p267 (ix zq 0))) (.row false (AE p280 (ix zq 0)) 9 (oEs p280 (ix zq 0))) (bd [0,13,0,0,0] (AA C n 244 (ct [0,13,0,0] p267 (ix zq 6) 0 [tI (vI p267 3),tI (aI p267 4 0),tI (aI p267 4 1),tI (aI p267 4 2),tI (aI p267 4 3),tI (aI p267 4 4),.bool (aB p267 4 5),.str (aS p267 4 6),.sl 2 (aL p267 4 7),.sl 1 (gL y275 0)])) fun y283=>cnd (((gI y283 4) != 0)=true) (k268 ([],upd (rh p280 0 (Bo zq)) [((ix zq 6),.box (upd (rb p280 (ix zq 6) 0 (BT zq)) [(12,.t (tI (w64 (cI p280 (ix zq 6) 12+1))))]))])) (cnd (AE p280 (ix zq 4)=AK p280 (ix zq 6) 13∧(9=9∨9=0)∧AR p280 (ix zq 6) 13+AJ p280 (ix zq 6) 13≤length (oEs p280 (ix zq 4))∧AJ p280 (ix zq 6) 13+1≤1073741824) (k268 ([],upd (rh p280 0 (Bo zq)) [((ix zq 4),.row false (AK p280 (ix zq 6) 13+1) 9 (take (AJ p280 (ix zq 6) 13) (drop (AR p280 (ix zq 6) 13) (oEs p280 (ix zq 4)))++[[tI (vI p267 3),tI (aI p267 4 0),tI (aI p267 4 1),tI (aI p267 4 2),tI (aI p267 4 3),tI (aI p267 4 4),.bool (aB p267 4 5),.str (aS p267 4 6),.sl 2 (aL p267 4 7)]])),((ix zq 6),.box (upd (rb p280 (ix zq 6) 0 (BT zq)) [(0,.t (tI (gI y283 0))),(1,.t (.sl 10 (gL y283 1))),(2,.t (tI (gI y283 2))),(3,.t (tI (gI y283 3))),(11,.t (tI (w64 (cI p280 (ix zq 6) 11+1)))),(12,.t (tI (w64 (cI p280 (ix zq 6) 12+1)))),(13,.sref (ix zq 4) (AK p280 (ix zq 6) 13+1) 0 (AJ p280 (ix zq 6) 13+1))]))])) none)))))))
noncomputable def Ma (zq:Bool) (n:Nat) (ff:Nat→Rec) (p267:ST) (y275:List Tree) (k268:KT) (p276:ST):RT:=cnd (vB p276 0=true) (A8 (.box [AV.yld 40,.t (tI (cI p267 (ix zq 6) 0)),.t (.sl 10 (cL p267 (ix zq 6) 1)),.t (tI (cI p267 (ix zq 6) 2)),.t (tI (cI p267 (ix zq 6) 3))]) (.box [AV.yld 40,.t (tI (cI p276 (ix zq 6) 0)),.t (.sl 10 (cL p276 (ix zq 6) 1)),.t (tI (cI p276 (ix zq 6) 2)),.t (tI (cI p276 (ix zq 6) 3))]) (A8 (.box [AV.yld 40,.t (tI (cI p267 (ix zq 6) 0))]) (.box [AV.yld 40,.t (tI (cI p276 (ix zq 6) 0))]) (A8 (.row false (AE p267 (ix zq 4)) 9 (oEs p267 (ix zq 4))) (.row false (AE p276 (ix zq 4)) 9 (oEs p276 (ix zq 4))) (A8 (.row false (AE p267 (ix zq 5)) 9 (oEs p267 (ix zq 5))) (.row false (AE p276 (ix zq 5)) 9 (oEs p276 (ix zq 5))) (A8 (.row false (AE p267 (ix zq 0)) 9 (oEs p267 (ix zq 0))) (.row false (AE p276 (ix zq 0)) 9 (oEs p276 (ix zq 0))) (bd [0,13,0,0,0] (AA C n 244 (ct [0,13,0,0] p267 (ix zq 6) 0 [tI (vI p267 3),tI (aI p267 4 0),tI (aI p267 4 1),tI (aI p267 4 2),tI (aI p267 4 3),tI (aI p267 4 4),.bool (aB p267 4 5),.str (aS p267 4 6),.sl 2 (aL p267 4 7),.sl 1 (gL y275 0)])) fun y279=>cnd (((gI y279 4) != 0)=true) (k268 ([],rh p276 0 (Bo zq))) (cnd (AE p276 (ix zq 4)=AK p276 (ix zq 6) 13∧(9=9∨9=0)∧AR p276 (ix zq 6) 13+AJ p276 (ix zq 6) 13≤length (oEs p276 (ix zq 4))∧AJ p276 (ix zq 6) 13+1≤1073741824) (k268 ([],upd (rh p276 0 (Bo zq)) [((ix zq 4),.row false (AK p276 (ix zq 6) 13+1) 9 (take (AJ p276 (ix zq 6) 13) (drop (AR p276 (ix zq 6) 13) (oEs p276 (ix zq 4)))++[[tI (vI p267 3),tI (aI p267 4 0),tI (aI p267 4 1),tI (aI p267 4 2),tI (aI p267 4 3),tI (aI p267 4 4),.bool (aB p267 4 5),.str (aS p267 4 6),.sl 2 (aL p267 4 7)]])),((ix zq 6),.box (upd (rb p276 (ix zq 6) 0 (BT zq)) [(0,.t (tI (gI y279 0))),(1,.t (.sl 10 (gL y279 1))),(2,.t (tI (gI y279 2))),(3,.t (tI (gI y279 3))),(11,.t (tI (w64 (cI p276 (ix zq 6) 11+1)))),(13,.sref (ix zq 4) (AK p276 (ix zq 6) 13+1) 0 (AJ p276 (ix zq 6) 13+1))]))])) none))))))) (join (Fi zq n ff p267 k268 y275) fun k281=>cnd (decide (cI p276 (ix zq 6) 9≥(0:Int))=true) (k281 ([.t (.bool (decide (cI p276 (ix zq 6) 12≥cI p276 (ix zq 6) 9)))],rh p276 0 (L9 zq))) (k281 ([.t (.bool false)],rh p276 0 (L9 zq))))
noncomputable def MZ (zq:Bool) (n:Nat) (ff:Nat→Rec) (p267:ST) (y288:List Tree) (k268:KT) (p289:ST):RT:=cnd (vB p289 0=true) (A8 (.box [AV.yld 40,.t (tI (cI p267 (ix zq 6) 0)),.t (.sl 10 (cL p267 (ix zq 6) 1)),.t (tI (cI p267 (ix zq 6) 2)),.t (tI (cI p267 (ix zq 6) 3))]) (.box [AV.yld 40,.t (tI (cI p289 (ix zq 6) 0)),.t (.sl 10 (cL p289 (ix zq 6) 1)),.t (tI (cI p289 (ix zq 6) 2)),.t (tI (cI p289 (ix zq 6) 3))]) (A8 (.box [AV.yld 40,.t (tI (cI p267 (ix zq 6) 0))]) (.box [AV.yld 40,.t (tI (cI p289 (ix zq 6) 0))]) (A8 (.row false (AE p267 (ix zq 4)) 9 (oEs p267 (ix zq 4))) (.row false (AE p289 (ix zq 4)) 9 (oEs p289 (ix zq 4))) (A8 (.row false (AE p267 (ix zq 5)) 9 (oEs p267 (ix zq 5))) (.row false (AE p289 (ix zq 5)) 9 (oEs p289 (ix zq 5))) (A8 (.row false (AE p267 (ix zq 0)) 9 (oEs p267 (ix zq 0))) (.row false (AE p289 (ix zq 0)) 9 (oEs p289 (ix zq 0))) (bd [0,13,0,0,0] (AA C n 244 (ct [0,13,0,0] p267 (ix zq 6) 0 [tI (vI p267 3),tI (aI p267 4 0),tI (aI p267 4 1),tI (aI p267 4 2),tI (aI p267 4 3),tI (aI p267 4 4),.bool (aB p267 4 5),.str (aS p267 4 6),.sl 2 (aL p267 4 7),.sl 1 (gL y288 0)])) fun y292=>cnd (((gI y292 4) != 0)=true) (k268 ([],rh p289 0 (Bo zq))) (cnd (AE p289 (ix zq 4)=AK p289 (ix zq 6) 13∧(9=9∨9=0)∧AR p289 (ix zq 6) 13+AJ p289 (ix zq 6) 13≤length (oEs p289 (ix zq 4))∧AJ p289 (ix zq 6) 13+1≤1073741824) (k268 ([],upd (rh p289 0 (Bo zq)) [((ix zq 4),.row false (AK p289 (ix zq 6) 13+1) 9 (take (AJ p289 (ix zq 6) 13) (drop (AR p289 (ix zq 6) 13) (oEs p289 (ix zq 4)))++[[tI (vI p267 3),tI (aI p267 4 0),tI (aI p267 4 1),tI (aI p267 4 2),tI (aI p267 4 3),tI (aI p267 4 4),.bool (aB p267 4 5),.str (aS p267 4 6),.sl 2 (aL p267 4 7)]])),((ix zq 6),.box (upd (rb p289 (ix zq 6) 0 (BT zq)) [(0,.t (tI (gI y292 0))),(1,.t (.sl 10 (gL y292 1))),(2,.t (tI (gI y292 2))),(3,.t (tI (gI y292 3))),(11,.t (tI (w64 (cI p289 (ix zq 6) 11+1)))),(13,.sref (ix zq 4) (AK p289 (ix zq 6) 13+1) 0 (AJ p289 (ix zq 6) 13+1))]))])) none))))))) (join (Fi zq n ff p267 k268 y288) fun k294=>cnd (decide (cI p289 (ix zq 6) 9≥(0:Int))=true) (k294 ([.t (.bool (decide (cI p289 (ix zq 6) 12≥cI p289 (ix zq 6) 9)))],rh p289 0 (Bo zq))) (k294 ([.t (.bool false)],rh p289 0 (Bo zq))))
noncomputable def CM_6 (zq:Bool) (n:Nat) (ff:Nat→Rec) (k268:KT) (p267:ST):RT:=ff 9 (List Tree) (.fn 208 [AV.ptr (ix zq 6) 0,AV.ptr (ix zq 6) 0,.t (tI 0),.t (tI (vI p267 3)),AV.agg (tv [tI (aI p267 4 0),tI (aI p267 4 1),tI (aI p267 4 2),tI (aI p267 4 3),tI (aI p267 4 4),.bool (aB p267 4 5),.str (aS p267 4 6),.sl 2 (aL p267 4 7)])]) (rh p267 0 (CC zq)) fun rs h1=>cnd (CG C.P (Bm C.P 208) rs=true) (Gn (rh p267 0 (CC zq)) h1 fun hs=>k268 (rs,hs)) none
noncomputable def Om (zq:Bool) (n:Nat) (ff:Nat→Rec) (k268:KT) (p267:ST):RT:=cnd (decide (cI p267 (ix zq 6) 11≥(10000:Int))=true) (k268 ([],rh p267 0 (Bo zq))) (both (bd [1] (AA C n 271 [.sl 2 (cL p267 (ix zq 6) 10),tI (vI p267 3)]) fun y271=>cnd (gB y271 0=true) (A8 (.box [AV.yld 40,.t (tI (cI p267 (ix zq 6) 0)),.t (.sl 10 (cL p267 (ix zq 6) 1)),.t (tI (cI p267 (ix zq 6) 2)),.t (tI (cI p267 (ix zq 6) 3))]) (.box [AV.yld 40,.t (tI (cI p267 (ix zq 6) 0)),.t (.sl 10 (cL p267 (ix zq 6) 1)),.t (tI (cI p267 (ix zq 6) 2)),.t (tI (cI p267 (ix zq 6) 3))]) (A8 (.box [AV.yld 40,.t (tI (cI p267 (ix zq 6) 0))]) (.box [AV.yld 40,.t (tI (cI p267 (ix zq 6) 0))]) (A8 (.row false (AE p267 (ix zq 4)) 9 (oEs p267 (ix zq 4))) (.row false (AE p267 (ix zq 4)) 9 (oEs p267 (ix zq 4))) (A8 (.row false (AE p267 (ix zq 5)) 9 (oEs p267 (ix zq 5))) (.row false (AE p267 (ix zq 5)) 9 (oEs p267 (ix zq 5))) (A8 (.row false (AE p267 (ix zq 0)) 9 (oEs p267 (ix zq 0))) (.row false (AE p267 (ix zq 0)) 9 (oEs p267 (ix zq 0))) (bd [0,13,0,0,0] (AA C n 244 (ct [0,13,0,0] p267 (ix zq 6) 0 [tI (vI p267 3),tI (aI p267 4 0),tI (aI p267 4 1),tI (aI p267 4 2),tI (aI p267 4 3),tI (aI p267 4 4),.bool (aB p267 4 5),.str (aS p267 4 6),.sl 2 (aL p267 4 7),.sl 1 []])) fun y272=>cnd (((gI y272 4) != 0)=true) (k268 ([],rh p267 0 (Bo zq))) (cnd (AE p267 (ix zq 4)=AK p267 (ix zq 6) 13∧(9=9∨9=0)∧AR p267 (ix zq 6) 13+AJ p267 (ix zq 6) 13≤length (oEs p267 (ix zq 4))∧AJ p267 (ix zq 6) 13+1≤1073741824) (k268 ([],upd (rh p267 0 (Bo zq)) [((ix zq 4),.row false (AK p267 (ix zq 6) 13+1) 9 (take (AJ p267 (ix zq 6) 13) (drop (AR p267 (ix zq 6) 13) (oEs p267 (ix zq 4)))++[[tI (vI p267 3),tI (aI p267 4 0),tI (aI p267 4 1),tI (aI p267 4 2),tI (aI p267 4 3),tI (aI p267 4 4),.bool (aB p267 4 5),.str (aS p267 4 6),.sl 2 (aL p267 4 7)]])),((ix zq 6),.box (upd (rb p267 (ix zq 6) 0 (BT zq)) [(0,.t (tI (gI y272 0))),(1,.t (.sl 10 (gL y272 1))),(2,.t (tI (gI y272 2))),(3,.t (tI (gI y272 3))),(11,.t (tI (w64 (cI p267 (ix zq 6) 11+1)))),(13,.sref (ix zq 4) (AK p267 (ix zq 6) 13+1) 0 (AJ p267 (ix zq 6) 13+1))]))])) none))))))) (cnd (((length (cL p267 (ix zq 6) 8):Int)==0)=true) (A8 (.box [AV.yld 40,.t (tI (cI p267 (ix zq 6) 0)),.t (.sl 10 (cL p267 (ix zq 6) 1)),.t (tI (cI p267 (ix zq 6) 2)),.t (tI (cI p267 (ix zq 6) 3))]) (.box [AV.yld 40,.t (tI (cI p267 (ix zq 6) 0)),.t (.sl 10 (cL p267 (ix zq 6) 1)),.t (tI (cI p267 (ix zq 6) 2)),.t (tI (cI p267 (ix zq 6) 3))]) (A8 (.box [AV.yld 40,.t (tI (cI p267 (ix zq 6) 0))]) (.box [AV.yld 40,.t (tI (cI p267 (ix zq 6) 0))]) (A8 (.row false (AE p267 (ix zq 4)) 9 (oEs p267 (ix zq 4))) (.row false (AE p267 (ix zq 4)) 9 (oEs p267 (ix zq 4))) (A8 (.row false (AE p267 (ix zq 5)) 9 (oEs p267 (ix zq 5))) (.row false (AE p267 (ix zq 5)) 9 (oEs p267 (ix zq 5))) (A8 (.row false (AE p267 (ix zq 0)) 9 (oEs p267 (ix zq 0))) (.row false (AE p267 (ix zq 0)) 9 (oEs p267 (ix zq 0))) (bd [0,13,0,0,0] (AA C n 244 (ct [0,13,0,0] p267 (ix zq 6) 0 [tI (vI p267 3),tI (aI p267 4 0),tI (aI p267 4 1),tI (aI p267 4 2),tI (aI p267 4 3),tI (aI p267 4 4),.bool (aB p267 4 5),.str (aS p267 4 6),.sl 2 (aL p267 4 7),.sl 1 [[tI (cI p267 (ix zq 6) 0)]]])) fun y273=>cnd (((gI y273 4) != 0)=true) (k268 ([],rh p267 0 (Bo zq))) (cnd (AE p267 (ix zq 4)=AK p267 (ix zq 6) 13∧(9=9∨9=0)∧AR p267 (ix zq 6) 13+AJ p267 (ix zq 6) 13≤length (oEs p267 (ix zq 4))∧AJ p267 (ix zq 6) 13+1≤1073741824) (k268 ([],upd (rh p267 0 (Bo zq)) [((ix zq 4),.row false (AK p267 (ix zq 6) 13+1) 9 (take (AJ p267 (ix zq 6) 13) (drop (AR p267 (ix zq 6) 13) (oEs p267 (ix zq 4)))++[[tI (vI p267 3),tI (aI p267 4 0),tI (aI p267 4 1),tI (aI p267 4 2),tI (aI p267 4 3),tI (aI p267 4 4),.bool (aB p267 4 5),.str (aS p267 4 6),.sl 2 (aL p267 4 7)]])),((ix zq 6),.box (upd (rb p267 (ix zq 6) 0 (BT zq)) [(0,.t (tI (gI y273 0))),(1,.t (.sl 10 (gL y273 1))),(2,.t (tI (gI y273 2))),(3,.t (tI (gI y273 3))),(11,.t (tI (w64 (cI p267 (ix zq 6) 11+1)))),(13,.sref (ix zq 4) (AK p267 (ix zq 6) 13+1) 0 (AJ p267 (ix zq 6) 13+1))]))])) none))))))) (cnd ((length (cL p267 (ix zq 6) 8):Int)=0) none (cnd (1=1∧0≤wS (cI p267 (ix zq 6) 11) (length (cL p267 (ix zq 6) 8):Int)) (Option.bind (cL p267 (ix zq 6) 8)[wT (wS (cI p267 (ix zq 6) 11) (length (cL p267 (ix zq 6) 8):Int))]? fun y274=>cnd (okI y274 0) (bd [4,0] (AA C n 272 [tI (gI y274 0),tI (cI p267 (ix zq 6) 0)]) fun y275=>join (Ma zq n ff p267 y275 k268) fun k277=>cnd (decide ((length (gL y275 0):Int)>0)=true) (Option.bind (gL y275 0)[0]? fun y278=>cnd (okI y278 0) (k277 ([.t (.bool (gI y278 0==cI p267 (ix zq 6) 0))],upd (rh p267 0 (L9 zq)) [((ix zq 7),.box (tv (zt [0,13,0,0] [])))])) none) (k277 ([.t (.bool false)],upd (rh p267 0 (L9 zq)) [((ix zq 7),.box (tv (zt [0,13,0,0] [])))]))) none) none)))) (bd [1] (AA C n 271 [.sl 2 (cL p267 (ix zq 6) 10),tI (vI p267 3)]) fun y284=>cnd (gB y284 0=true) (A8 (.box [AV.yld 40,.t (tI (cI p267 (ix zq 6) 0)),.t (.sl 10 (cL p267 (ix zq 6) 1)),.t (tI (cI p267 (ix zq 6) 2)),.t (tI (cI p267 (ix zq 6) 3))]) (.box [AV.yld 40,.t (tI (cI p267 (ix zq 6) 0)),.t (.sl 10 (cL p267 (ix zq 6) 1)),.t (tI (cI p267 (ix zq 6) 2)),.t (tI (cI p267 (ix zq 6) 3))]) (A8 (.box [AV.yld 40,.t (tI (cI p267 (ix zq 6) 0))]) (.box [AV.yld 40,.t (tI (cI p267 (ix zq 6) 0))]) (A8 (.row false (AE p267 (ix zq 4)) 9 (oEs p267 (ix zq 4))) (.row false (AE p267 (ix zq 4)) 9 (oEs p267 (ix zq 4))) (A8 (.row false (AE p267 (ix zq 5)) 9 (oEs p267 (ix zq 5))) (.row false (AE p267 (ix zq 5)) 9 (oEs p267 (ix zq 5))) (A8 (.row false (AE p267 (ix zq 0)) 9 (oEs p267 (ix zq 0))) (.row false (AE p267 (ix zq 0)) 9 (oEs p267 (ix zq 0))) (bd [0,13,0,0,0] (AA C n 244 (ct [0,13,0,0] p267 (ix zq 6) 0 [tI (vI p267 3),tI (aI p267 4 0),tI (aI p267 4 1),tI (aI p267 4 2),tI (aI p267 4 3),tI (aI p267 4 4),.bool (aB p267 4 5),.str (aS p267 4 6),.sl 2 (aL p267 4 7),.sl 1 []])) fun y285=>cnd (((gI y285 4) != 0)=true) (k268 ([],rh p267 0 (Bo zq))) (cnd (AE p267 (ix zq 4)=AK p267 (ix zq 6) 13∧(9=9∨9=0)∧AR p267 (ix zq 6) 13+AJ p267 (ix zq 6) 13≤length (oEs p267 (ix zq 4))∧AJ p267 (ix zq 6) 13+1≤1073741824) (k268 ([],upd (rh p267 0 (Bo zq)) [((ix zq 4),.row false (AK p267 (ix zq 6) 13+1) 9 (take (AJ p267 (ix zq 6) 13) (drop (AR p267 (ix zq 6) 13) (oEs p267 (ix zq 4)))++[[tI (vI p267 3),tI (aI p267 4 0),tI (aI p267 4 1),tI (aI p267 4 2),tI (aI p267 4 3),tI (aI p267 4 4),.bool (aB p267 4 5),.str (aS p267 4 6),.sl 2 (aL p267 4 7)]])),((ix zq 6),.box (upd (rb p267 (ix zq 6) 0 (BT zq)) [(0,.t (tI (gI y285 0))),(1,.t (.sl 10 (gL y285 1))),(2,.t (tI (gI y285 2))),(3,.t (tI (gI y285 3))),(11,.t (tI (w64 (cI p267 (ix zq 6) 11+1)))),(13,.sref (ix zq 4) (AK p267 (ix zq 6) 13+1) 0 (AJ p267 (ix zq 6) 13+1))]))])) none))))))) (cnd (((length (cL p267 (ix zq 6) 8):Int)==0)=true) (A8 (.box [AV.yld 40,.t (tI (cI p267 (ix zq 6) 0)),.t (.sl 10 (cL p267 (ix zq 6) 1)),.t (tI (cI p267 (ix zq 6) 2)),.t (tI (cI p267 (ix zq 6) 3))]) (.box [AV.yld 40,.t (tI (cI p267 (ix zq 6) 0)),.t (.sl 10 (cL p267 (ix zq 6) 1)),.t (tI (cI p267 (ix zq 6) 2)),.t (tI (cI p267 (ix zq 6) 3))]) (A8 (.box [AV.yld 40,.t (tI (cI p267 (ix zq 6) 0))]) (.box [AV.yld 40,.t (tI (cI p267 (ix zq 6) 0))]) (A8 (.row false (AE p267 (ix zq 4)) 9 (oEs p267 (ix zq 4))) (.row false (AE p267 (ix zq 4)) 9 (oEs p267 (ix zq 4))) (A8 (.row false (AE p267 (ix zq 5)) 9 (oEs p267 (ix zq 5))) (.row false (AE p267 (ix zq 5)) 9 (oEs p267 (ix zq 5))) (A8 (.row false (AE p267 (ix zq 0)) 9 (oEs p267 (ix zq 0))) (.row false (AE p267 (ix zq 0)) 9 (oEs p267 (ix zq 0))) (bd [0,13,0,0,0] (AA C n 244 (ct [0,13,0,0] p267 (ix zq 6) 0 [tI (vI p267 3),tI (aI p267 4 0),tI (aI p267 4 1),tI (aI p267 4 2),tI (aI p267 4 3),tI (aI p267 4 4),.bool (aB p267 4 5),.str (aS p267 4 6),.sl 2 (aL p267 4 7),.sl 1 [[tI (cI p267 (ix zq 6) 0)]]])) fun y286=>cnd (((gI y286 4) != 0)=true) (k268 ([],rh p267 0 (Bo zq))) (cnd (AE p267 (ix zq 4)=AK p267 (ix zq 6) 13∧(9=9∨9=0)∧AR p267 (ix zq 6) 13+AJ p267 (ix zq 6) 13≤length (oEs p267 (ix zq 4))∧AJ p267 (ix zq 6) 13+1≤1073741824) (k268 ([],upd (rh p267 0 (Bo zq)) [((ix zq 4),.row false (AK p267 (ix zq 6) 13+1) 9 (take (AJ p267 (ix zq 6) 13) (drop (AR p267 (ix zq 6) 13) (oEs p267 (ix zq 4)))++[[tI (vI p267 3),tI (aI p267 4 0),tI (aI p267 4 1),tI (aI p267 4 2),tI (aI p267 4 3),tI (aI p267 4 4),.bool (aB p267 4 5),.str (aS p267 4 6),.sl 2 (aL p267 4 7)]])),((ix zq 6),.box (upd (rb p267 (ix zq 6) 0 (BT zq)) [(0,.t (tI (gI y286 0))),(1,.t (.sl 10 (gL y286 1))),(2,.t (tI (gI y286 2))),(3,.t (tI (gI y286 3))),(11,.t (tI (w64 (cI p267 (ix zq 6) 11+1)))),(13,.sref (ix zq 4) (AK p267 (ix zq 6) 13+1) 0 (AJ p267 (ix zq 6) 13+1))]))])) none))))))) (cnd ((length (cL p267 (ix zq 6) 8):Int)=0) none (cnd (1=1∧0≤wS (cI p267 (ix zq 6) 11) (length (cL p267 (ix zq 6) 8):Int)) (Option.bind (cL p267 (ix zq 6) 8)[wT (wS (cI p267 (ix zq 6) 11) (length (cL p267 (ix zq 6) 8):Int))]? fun y287=>cnd (okI y287 0) (bd [4,0] (AA C n 272 [tI (gI y287 0),tI (cI p267 (ix zq 6) 0)]) fun y288=>join (MZ zq n ff p267 y288 k268) fun k290=>cnd (decide ((length (gL y288 0):Int)>0)=true) (Option.bind (gL y288 0)[0]? fun y291=>cnd (okI y291 0) (k290 ([.t (.bool (gI y291 0==cI p267 (ix zq 6) 0))],rh p267 0 (Bo zq))) none) (k290 ([.t (.bool false)],rh p267 0 (Bo zq)))) none) none)))))
theorem vCM_6 (zq:Bool) (n:Nat) (ff:Nat→Rec) (k268:KT) (p267:ST):Et C (IG C (pcx C (AA C n)) n ff Gu 8) (pcx C (AA C n)) n 208 [AV.ptr (ix zq 6) 0,AV.ptr (ix zq 6) 0,.t (tI 0),.t (tI (vI p267 3)),AV.agg (tv [tI (aI p267 4 0),tI (aI p267 4 1),tI (aI p267 4 2),tI (aI p267 4 3),tI (aI p267 4 4),.bool (aB p267 4 5),.str (aS p267 4 6),.sl 2 (aL p267 4 7)])] (rh p267 0 (CC zq)) (fun rs h1=>cnd (CG C.P (Bm C.P 208) rs=true) (Gn (rh p267 0 (CC zq)) h1 fun hs=>k268 (rs,hs)) none)=Om zq n ff k268 p267:=by cases zq<;>kernel_rfl
theorem KA (zq:Bool) (n:Nat) (k268:KT) (p267:ST):CM_6 zq n (fI C n) k268 p267=Om zq n (fI C n) k268 p267:=(MR C n Gu 8 _ 208 _ _ _).trans (vCM_6 zq n (fI C n) k268 p267)
noncomputable def JM_39 (zq:Bool) (n:Nat) (ff:Nat→Rec) (k262:KT) (p297:ST):RT:=cnd (AE p297 (ix zq 0)=AK p297 (ix zq 6) 35∧(9=9∨9=0)) (cnd ((0:Int)≤1∧1≤(AJ p297 (ix zq 6) 35:Int)) (k262 ([],upd (rh p297 0 (Bo zq)) [((ix zq 6),.box (upd (rb p297 (ix zq 6) 0 (BT zq)) [(35,.sref (ix zq 0) (AK p297 (ix zq 6) 35) (AR p297 (ix zq 6) 35+1) (AJ p297 (ix zq 6) 35-1))]))])) none) none
noncomputable def WM (zq:Bool) (n:Nat) (ff:Nat→Rec) (k262:KT) (p259:ST) (k260:KT) (p263:ST):RT:=cnd (vB p263 0=true) (cnd (AE p263 (ix zq 0)=AK p263 (ix zq 6) 35∧9=9∧(0:Int)≤0∧0<(AJ p263 (ix zq 6) 35:Int)) (cnd (AE p263 (ix zq 0)=AK p263 (ix zq 6) 35) (cnd (AE p263 (ix zq 0)=AK p263 (ix zq 6) 35) (Option.bind (oEs p263 (ix zq 0))[AR p263 (ix zq 6) 35]? fun y266=>bk kG 1 y266 (join (JM_39 zq n ff k262) fun k298=>CM_6 zq n ff k298 ([AV.ptr (ix zq 6) 0,AV.ptr (ix zq 6) 0,.t (tI 0),.t (tI (cI p263 (ix zq 6) 15)),AV.agg (tv (gt kG y266 1 []))],upd (rh p263 0 (CC zq)) [((ix zq 1),.row true (AE p259 (ix zq 1)) 15 (oEs p259 (ix zq 1))),((ix zq 2),.row true (AE p259 (ix zq 2)) 4 (oEs p259 (ix zq 2))),((ix zq 3),.row true (AE p259 (ix zq 3)) 4 (oEs p259 (ix zq 3)))]))) none) none) none) (k260 ([],rh p263 0 (Bo zq)))
noncomputable def Td (zq:Bool) (n:Nat) (ff:Nat→Rec) (p259:ST) (k260:KT) (p261:ST) (k262:KT):RT:=join (WM zq n ff k262 p259 k260) fun k264=>cnd (AE p261 (ix zq 0)=AK p261 (ix zq 6) 35) (cnd (decide ((AJ p261 (ix zq 6) 35:Int)>0)=true) (cnd (AE p261 (ix zq 0)=AK p261 (ix zq 6) 35∧9=9∧(0:Int)≤0∧0<(AJ p261 (ix zq 6) 35:Int)) (cnd (AE p261 (ix zq 0)=AK p261 (ix zq 6) 35) (cnd (AE p261 (ix zq 0)=AK p261 (ix zq 6) 35) (Option.bind (oEs p261 (ix zq 0))[AR p261 (ix zq 6) 35]? fun y265=>cnd (okI y265 0) (k264 ([.t (.bool (gI y265 0==cI p261 (ix zq 6) 15))],rh p261 0 (Bo zq))) none) none) none) none) (k264 ([.t (.bool false)],rh p261 0 (Bo zq)))) none
noncomputable def CM_7 (zq:Bool) (n:Nat) (ff:Nat→Rec) (k260:KT) (p259:ST):RT:=ff 10 (List Tree) (.fn 165 [AV.ptr (ix zq 6) 0]) (rh p259 0 (CC zq)) fun rs h1=>cnd (CG C.P (Bm C.P 165) rs=true) (Gn (rh p259 0 (CC zq)) h1 fun hs=>k260 (rs,hs)) none
noncomputable def XM_7 (zq:Bool) (n:Nat) (ff:Nat→Rec) (k260:KT) (p259:ST):RT:=AH (Td zq n ff p259 k260) n ([],rh p259 0 (Bo zq))
theorem vCM_7 (zq:Bool) (n:Nat) (ff:Nat→Rec) (k260:KT) (p259:ST):Et C (IG C (pcx C (AA C n)) n ff Gu 9) (pcx C (AA C n)) n 165 [AV.ptr (ix zq 6) 0] (rh p259 0 (CC zq)) (fun rs h1=>cnd (CG C.P (Bm C.P 165) rs=true) (Gn (rh p259 0 (CC zq)) h1 fun hs=>k260 (rs,hs)) none)=XM_7 zq n ff k260 p259:=by cases zq<;>kernel_rfl
theorem tCM_7 (zq:Bool) (n:Nat) (k260:KT) (p259:ST):CM_7 zq n (fI C n) k260 p259=XM_7 zq n (fI C n) k260 p259:=(MR C n Gu 9 _ 165 _ _ _).trans (vCM_7 zq n (fI C n) k260 p259)
noncomputable def JM_43 (zq:Bool) (n:Nat) (ff:Nat→Rec) (k85:KT) (p301:ST):RT:=k85 (tv [tI (vI p301 0),.bool (vB p301 1)],rh p301 0 (Bo zq))
noncomputable def Ou (zq:Bool) (n:Nat) (ff:Nat→Rec) (p17:ST) (k85:KT) (p86:ST) (k87:KT):RT:=cnd (decide (vI p86 0<4)=true) (cnd (0≤vI p86 0∧vI p86 0<4) (cnd (vI p86 0=(3:Int)) (join (Md zq n ff k87 p86) fun k100=>CM_2 zq n ff k100 ([AV.ptr (ix zq 6) 0],upd (rh p86 0 (CC zq)) [((ix zq 1),.row true (AE p17 (ix zq 1)) 15 (oEs p17 (ix zq 1))),((ix zq 2),.row true (AE p17 (ix zq 2)) 4 (oEs p17 (ix zq 2))),((ix zq 3),.row true (AE p17 (ix zq 3)) 4 (oEs p17 (ix zq 3)))])) (cnd (vI p86 0=(2:Int)) (join (Md zq n ff k87 p86) fun k166=>CM_3 zq n ff k166 ([AV.ptr (ix zq 6) 0],upd (rh p86 0 (CC zq)) [((ix zq 1),.row true (AE p17 (ix zq 1)) 15 (oEs p17 (ix zq 1))),((ix zq 2),.row true (AE p17 (ix zq 2)) 4 (oEs p17 (ix zq 2))),((ix zq 3),.row true (AE p17 (ix zq 3)) 4 (oEs p17 (ix zq 3)))])) (cnd (vI p86 0=(1:Int)) (join (Md zq n ff k87 p86) fun k258=>CM_5 zq n ff k258 ([AV.ptr (ix zq 6) 0],upd (rh p86 0 (CC zq)) [((ix zq 1),.row true (AE p17 (ix zq 1)) 15 (oEs p17 (ix zq 1))),((ix zq 2),.row true (AE p17 (ix zq 2)) 4 (oEs p17 (ix zq 2))),((ix zq 3),.row true (AE p17 (ix zq 3)) 4 (oEs p17 (ix zq 3)))])) (cnd (vI p86 0=(0:Int)) (join (Md zq n ff k87 p86) fun k300=>CM_7 zq n ff k300 ([AV.ptr (ix zq 6) 0],upd (rh p86 0 (CC zq)) [((ix zq 1),.row true (AE p17 (ix zq 1)) 15 (oEs p17 (ix zq 1))),((ix zq 2),.row true (AE p17 (ix zq 2)) 4 (oEs p17 (ix zq 2))),((ix zq 3),.row true (AE p17 (ix zq 3)) 4 (oEs p17 (ix zq 3)))])) none)))) none) (join (JM_43 zq n ff k85) fun k302=>CM_1 zq n ff k302 ([AV.ptr (ix zq 6) 0],upd (rh p86 0 (CC zq)) [((ix zq 1),.row true (AE p17 (ix zq 1)) 15 (oEs p17 (ix zq 1))),((ix zq 2),.row true (AE p17 (ix zq 2)) 4 (oEs p17 (ix zq 2))),((ix zq 3),.row true (AE p17 (ix zq 3)) 4 (oEs p17 (ix zq 3)))]))
noncomputable def Tc (zq:Bool) (n:Nat) (ff:Nat→Rec) (p17:ST) (k18:KT) (p84:ST) (k85:KT):RT:=cnd (vB p84 1=true) (AH (Ou zq n ff p17 k85) n ([.t (tI 0)],upd (rh p84 0 (Bo zq)) [((ix zq 6),.box (upd (rb p84 (ix zq 6) 0 (BT zq)) [(15,.t (tI (vI p84 0)))]))])) (k18 ([],rh p84 0 (Bo zq)))
noncomputable def JM_46 (zq:Bool) (n:Nat) (ff:Nat→Rec) (p17:ST) (k18:KT) (p82:ST):RT:=AH (Tc zq n ff p17 k18) n (tv [tI (vI p82 0),.bool (vB p82 1)],rh p82 0 (Bo zq))
noncomputable def Xa (zq:Bool) (n:Nat) (ff:Nat→Rec) (k18:KT) (p17:ST):RT:=ff 11 (List Tree) (.fn 65 [AV.ptr (ix zq 6) 0]) (rh p17 0 (CC zq)) fun rs h1=>cnd (CG C.P (Bm C.P 65) rs=true) (Gn (rh p17 0 (CC zq)) h1 fun hs=>k18 (rs,hs)) none
noncomputable def XM_8 (zq:Bool) (n:Nat) (ff:Nat→Rec) (k18:KT) (p17:ST):RT:=join (JM_46 zq n ff p17 k18) fun k83=>CM_1 zq n ff k83 ([AV.ptr (ix zq 6) 0],rh p17 0 (CC zq))
theorem vCM_8 (zq:Bool) (n:Nat) (ff:Nat→Rec) (k18:KT) (p17:ST):Et C (IG C (pcx C (AA C n)) n ff Gu 10) (pcx C (AA C n)) n 65 [AV.ptr (ix zq 6) 0] (rh p17 0 (CC zq)) (fun rs h1=>cnd (CG C.P (Bm C.P 65) rs=true) (Gn (rh p17 0 (CC zq)) h1 fun hs=>k18 (rs,hs)) none)=XM_8 zq n ff k18 p17:=by cases zq<;>kernel_rfl
theorem tCM_8 (zq:Bool) (n:Nat) (k18:KT) (p17:ST):Xa zq n (fI C n) k18 p17=XM_8 zq n (fI C n) k18 p17:=(MR C n Gu 10 _ 65 _ _ _).trans (vCM_8 zq n (fI C n) k18 p17)
noncomputable def U9 (n:Nat) (ff:Nat→Rec) (p303:ST):RT:=cnd ((false=true∨false=false)∧AE p303 (ix false 4)=AK p303 (ix false 6) 13∧(9=9∨9=0)) (cnd ((false=true∨false=false)∧AE p303 (ix false 5)=AK p303 (ix false 6) 14∧(9=9∨9=0)) (some [.sl 9 (take (AJ p303 (ix false 6) 13) (drop (AR p303 (ix false 6) 13) (oEs p303 (ix false 4)))),.sl 9 (take (AJ p303 (ix false 6) 14) (drop (AR p303 (ix false 6) 14) (oEs p303 (ix false 5)))),tI 0]) none) none
theorem v27 (n:Nat) (ff:Nat→Rec) (a0 a1 a2 a3 a4 a5 a6 a7 a8:Int) (a9:ByteArray) (a10:TT) (a11:Int) (a12:TT):JN C (IG C (pcx C (AA C n)) n ff Gu C.depth) (pcx C (AA C n)) n 27 [tI a0,tI a1,tI a2,tI a3,tI a4,tI a5,tI a6,tI a7,tI a8,.str a9,.sl 1 a10,tI a11,.sl 2 a12]=cnd (decide ((length a10:Int)>1000)=true) (some [.sl 9 [],.sl 9 [],tI 4]) (cnd (decide (a11<(-1))=true) (some [.sl 9 [],.sl 9 [],tI 2]) (bd [0] (AA C n 61 [.sl 2 a12]) fun y13=>cnd (((gI y13 0) != 0)=true) (some [.sl 9 [],.sl 9 [],tI 1]) (bd [0,0,0,0,0,0,0,0,2,0,0,0,5,0,0,12,0] (AA C n 2003983 [tI a0,tI a1,tI a2,tI a3,tI a4,tI a5,tI a6,tI 0,.str a9,tI a7,tI a8]) fun y14=>cnd (((gI y14 16) != 0)=true) (cnd (((gI y14 16) != 0)=true) (some [.sl 9 [],.sl 9 [],tI (gI y14 16)]) none) (bd [0,13,0,0,0] (AA C n 63 [tI a5]) fun y15=>bd [0,0,5,2,0] (AA C n 64 [tI 0]) fun y16=>join (U9 n ff) fun k304=>Xa false n ff k304 ([AV.ptr (ix false 6) 0],[.row false 0 9 (gL y14 15),.row true 0 15 [[tI (gI y14 0),tI (gI y14 1),tI (gI y14 2),tI (gI y14 3),tI (gI y14 4),tI (gI y14 5),tI (gI y14 6),tI (gI y14 7),.str (gS y14 8),tI (gI y14 9),tI (gI y14 10),tI (gI y14 11),.sl 2 (gL y14 12),tI (gI y14 13),tI (gI y14 14)]],.row true 0 4 [[tI (gI y15 0),.sl 10 (gL y15 1),tI (gI y15 2),tI (gI y15 3)]],.row true 0 4 [[tI (gI y16 0),tI (gI y16 1),.sl 2 (gL y16 2),.str (gS y16 3)]],.row false 0 9 [],.row false 0 9 [],.box [.t (tI (gI y15 0)),.t (.sl 10 (gL y15 1)),.t (tI (gI y15 2)),.t (tI (gI y15 3)),.t (tI (gI y15 0)),.t (.sl 10 (gL y15 1)),.t (tI (gI y15 2)),.t (tI (gI y15 3)),.t (.sl 1 a10),.t (tI a11),.t (.sl 2 a12),.t (tI 0),.t (tI 0),.sref (ix false 4) 0 0 0,.sref (ix false 5) 0 0 0,.t (tI 0),.t (tI (gI y14 0)),.t (tI (gI y14 1)),.t (tI (gI y14 2)),.t (tI (gI y14 3)),.t (tI (gI y14 4)),.t (tI (gI y14 5)),.t (tI (gI y14 6)),.t (tI (gI y14 7)),.t (.str (gS y14 8)),.t (tI (gI y14 9)),.t (tI (gI y14 10)),.t (tI (gI y14 11)),.t (.sl 2 (gL y14 12)),.t (tI (gI y14 13)),.t (tI (gI y14 14)),.t (tI (gI y16 0)),.t (tI (gI y16 1)),.t (.sl 2 (gL y16 2)),.t (.str (gS y16 3)),.sref (ix false 0) 0 0 (length (gL y14 15)),.t (.bool false),.t (tI 0),.t (.bool false),.t (tI 0)]]))))):=by kernel_rfl
theorem u27 (a0:Int) (a1:Int) (a2:Int) (a3:Int) (a4:Int) (a5:Int) (a6:Int) (a7:Int) (a8:Int) (a9:ByteArray) (a10:List (List Tree)) (a11:Int) (a12:List (List Tree)):C.ext 27 [tI a0,tI a1,tI a2,tI a3,tI a4,tI a5,tI a6,tI a7,tI a8,.str a9,.sl 1 a10,tI a11,.sl 2 a12]=none:=by kernel_rfl
theorem e27 (n:Nat) (a0 a1 a2 a3 a4 a5 a6 a7 a8:Int) (a9:ByteArray) (a10:TT) (a11:Int) (a12:TT):AA C (n+1) 27 [tI a0,tI a1,tI a2,tI a3,tI a4,tI a5,tI a6,tI a7,tI a8,.str a9,.sl 1 a10,tI a11,.sl 2 a12]=cnd (decide ((length a10:Int)>1000)=true) (some [.sl 9 [],.sl 9 [],tI 4]) (cnd (decide (a11<(-1))=true) (some [.sl 9 [],.sl 9 [],tI 2]) (bd [0] (AA C n 61 [.sl 2 a12]) fun y13=>cnd (((gI y13 0) != 0)=true) (some [.sl 9 [],.sl 9 [],tI 1]) (bd [0,0,0,0,0,0,0,0,2,0,0,0,5,0,0,12,0] (AA C n 2003983 [tI a0,tI a1,tI a2,tI a3,tI a4,tI a5,tI a6,tI 0,.str a9,tI a7,tI a8]) fun y14=>cnd (((gI y14 16) != 0)=true) (cnd (((gI y14 16) != 0)=true) (some [.sl 9 [],.sl 9 [],tI (gI y14 16)]) none) (bd [0,13,0,0,0] (AA C n 63 [tI a5]) fun y15=>bd [0,0,5,2,0] (AA C n 64 [tI 0]) fun y16=>join (fun (p303:ST)=>U9 n (fI C n) p303) fun k304=>Xa false n (fI C n) k304 ([AV.ptr (ix false 6) 0],[.row false 0 9 (gL y14 15),.row true 0 15 [[tI (gI y14 0),tI (gI y14 1),tI (gI y14 2),tI (gI y14 3),tI (gI y14 4),tI (gI y14 5),tI (gI y14 6),tI (gI y14 7),.str (gS y14 8),tI (gI y14 9),tI (gI y14 10),tI (gI y14 11),.sl 2 (gL y14 12),tI (gI y14 13),tI (gI y14 14)]],.row true 0 4 [[tI (gI y15 0),.sl 10 (gL y15 1),tI (gI y15 2),tI (gI y15 3)]],.row true 0 4 [[tI (gI y16 0),tI (gI y16 1),.sl 2 (gL y16 2),.str (gS y16 3)]],.row false 0 9 [],.row false 0 9 [],.box [.t (tI (gI y15 0)),.t (.sl 10 (gL y15 1)),.t (tI (gI y15 2)),.t (tI (gI y15 3)),.t (tI (gI y15 0)),.t (.sl 10 (gL y15 1)),.t (tI (gI y15 2)),.t (tI (gI y15 3)),.t (.sl 1 a10),.t (tI a11),.t (.sl 2 a12),.t (tI 0),.t (tI 0),.sref (ix false 4) 0 0 0,.sref (ix false 5) 0 0 0,.t (tI 0),.t (tI (gI y14 0)),.t (tI (gI y14 1)),.t (tI (gI y14 2)),.t (tI (gI y14 3)),.t (tI (gI y14 4)),.t (tI (gI y14 5)),.t (tI (gI y14 6)),.t (tI (gI y14 7)),.t (.str (gS y14 8)),.t (tI (gI y14 9)),.t (tI (gI y14 10)),.t (tI (gI y14 11)),.t (.sl 2 (gL y14 12)),.t (tI (gI y14 13)),.t (tI (gI y14 14)),.t (tI (gI y16 0)),.t (tI (gI y16 1)),.t (.sl 2 (gL y16 2)),.t (.str (gS y16 3)),.sref (ix false 0) 0 0 (length (gL y14 15)),.t (.bool false),.t (tI 0),.t (.bool false),.t (tI 0)]]))))):=(Oa C n 27 _ (by decide) (u27 a0 a1 a2 a3 a4 a5 a6 a7 a8 a9 a10 a11 a12)).trans ((pureO C n Gu 27 _).symm.trans (v27 n (fI C n) a0 a1 a2 a3 a4 a5 a6 a7 a8 a9 a10 a11 a12))
noncomputable def Zn (n:Nat) (ff:Nat→Rec) (p303:ST):RT:=some (ct [1,0,1,0] p303 (ix true 6) 36 [tI (cI p303 (ix true 6) 26),tI (cI p303 (ix true 6) 11),tI (w64 (cI p303 (ix true 6) 3+cI p303 (ix true 6) 7)),tI 0])
theorem v9 (n:Nat) (ff:Nat→Rec) (a0 a1 a2 a3 a4 a5 a6 a7 a8:Int) (a9:ByteArray) (a10:TT) (a11:Int) (a12:TT):JN C (IG C (pcx C (AA C n)) n ff Gu C.depth) (pcx C (AA C n)) n 9 [tI a0,tI a1,tI a2,tI a3,tI a4,tI a5,tI a6,tI a7,tI a8,.str a9,.sl 1 a10,tI a11,.sl 2 a12]=cnd (decide ((length a10:Int)>1000)=true) (some (zt [1,0,1,0,0,0,0] [tI 4])) (cnd (decide (a11<(-1))=true) (some (zt [1,0,1,0,0,0,0] [tI 2])) (bd [0] (AA C n 61 [.sl 2 a12]) fun y13=>cnd (((gI y13 0) != 0)=true) (some (zt [1,0,1,0,0,0,0] [tI 1])) (bd [0,0,0,0,0,0,0,0,2,0,0,0,5,0,0,12,0] (AA C n 2003983 [tI a0,tI a1,tI a2,tI a3,tI a4,tI a5,tI a6,tI 0,.str a9,tI a7,tI a8]) fun y14=>cnd (((gI y14 16) != 0)=true) (cnd (((gI y14 16) != 0)=true) (some (zt [1,0,1,0,0,0,0] [tI (gI y14 16)])) none) (bd [0,13,0,0,0] (AA C n 63 [tI a5]) fun y15=>bd [0,0,5,2,0] (AA C n 64 [tI 0]) fun y16=>join (Zn n ff) fun k304=>Xa true n ff k304 ([AV.ptr (ix true 6) 0],[.box (tv (zt [1,0,1,0,0,0,0] [])),.row false 0 9 (gL y14 15),.row true 0 15 [[tI (gI y14 0),tI (gI y14 1),tI (gI y14 2),tI (gI y14 3),tI (gI y14 4),tI (gI y14 5),tI (gI y14 6),tI (gI y14 7),.str (gS y14 8),tI (gI y14 9),tI (gI y14 10),tI (gI y14 11),Tree.sl 2 (gL y14 12),tI (gI y14 13),tI (gI y14 14)]],.row true 0 4 [[tI (gI y15 0),.sl 10 (gL y15 1),tI (gI y15 2),tI (gI y15 3)]],.row true 0 4 [[tI (gI y16 0),tI (gI y16 1),.sl 2 (gL y16 2),.str (gS y16 3)]],.row false 0 9 [],.row false 0 9 [],.box [.t (tI (gI y15 0)),.t (.sl 10 (gL y15 1)),.t (tI (gI y15 2)),.t (tI (gI y15 3)),.t (tI (gI y15 0)),.t (.sl 10 (gL y15 1)),.t (tI (gI y15 2)),.t (tI (gI y15 3)),.t (.sl 1 a10),.t (tI a11),.t (.sl 2 a12),.t (tI 0),.t (tI 0),.sref (ix true 4) 0 0 0,.sref (ix true 5) 0 0 0,.t (tI 0),.t (tI (gI y14 0)),.t (tI (gI y14 1)),.t (tI (gI y14 2)),.t (tI (gI y14 3)),.t (tI (gI y14 4)),.t (tI (gI y14 5)),.t (tI (gI y14 6)),.t (tI (gI y14 7)),.t (.str (gS y14 8)),.t (tI (gI y14 9)),.t (tI (gI y14 10)),.t (tI (gI y14 11)),.t (.sl 2 (gL y14 12)),.t (tI (gI y14 13)),.t (tI (gI y14 14)),.t (tI (gI y16 0)),.t (tI (gI y16 1)),.t (.sl 2 (gL y16 2)),.t (.str (gS y16 3)),.sref (ix true 0) 0 0 (length (gL y14 15)),.t (.bool false),.t (tI 0),.t (.bool false),.t (tI 0)]]))))):=by kernel_rfl
theorem u9 (a0:Int) (a1:Int) (a2:Int) (a3:Int) (a4:Int) (a5:Int) (a6:Int) (a7:Int) (a8:Int) (a9:ByteArray) (a10:List (List Tree)) (a11:Int) (a12:List (List Tree)):C.ext 9 [tI a0,tI a1,tI a2,tI a3,tI a4,tI a5,tI a6,tI a7,tI a8,.str a9,.sl 1 a10,tI a11,.sl 2 a12]=none:=by kernel_rfl
theorem e9 (n:Nat) (a0 a1 a2 a3 a4 a5 a6 a7 a8:Int) (a9:ByteArray) (a10:TT) (a11:Int) (a12:TT):AA C (n+1) 9 [tI a0,tI a1,tI a2,tI a3,tI a4,tI a5,tI a6,tI a7,tI a8,.str a9,.sl 1 a10,tI a11,.sl 2 a12]=cnd (decide ((length a10:Int)>1000)=true) (some (zt [1,0,1,0,0,0,0] [tI 4])) (cnd (decide (a11<(-1))=true) (some (zt [1,0,1,0,0,0,0] [tI 2])) (bd [0] (AA C n 61 [.sl 2 a12]) fun y13=>cnd (((gI y13 0) != 0)=true) (some (zt [1,0,1,0,0,0,0] [tI 1])) (bd [0,0,0,0,0,0,0,0,2,0,0,0,5,0,0,12,0] (AA C n 2003983 [tI a0,tI a1,tI a2,tI a3,tI a4,tI a5,tI a6,tI 0,.str a9,tI a7,tI a8]) fun y14=>cnd (((gI y14 16) != 0)=true) (cnd (((gI y14 16) != 0)=true) (some (zt [1,0,1,0,0,0,0] [tI (gI y14 16)])) none) (bd [0,13,0,0,0] (AA C n 63 [tI a5]) fun y15=>bd [0,0,5,2,0] (AA C n 64 [tI 0]) fun y16=>join (fun (p303:ST)=>Zn n (fI C n) p303) fun k304=>Xa true n (fI C n) k304 ([AV.ptr (ix true 6) 0],[.box (tv (zt [1,0,1,0,0,0,0] [])),.row false 0 9 (gL y14 15),.row true 0 15 [[tI (gI y14 0),tI (gI y14 1),tI (gI y14 2),tI (gI y14 3),tI (gI y14 4),tI (gI y14 5),tI (gI y14 6),tI (gI y14 7),.str (gS y14 8),tI (gI y14 9),tI (gI y14 10),tI (gI y14 11),.sl 2 (gL y14 12),tI (gI y14 13),tI (gI y14 14)]],.row true 0 4 [[tI (gI y15 0),.sl 10 (gL y15 1),tI (gI y15 2),tI (gI y15 3)]],.row true 0 4 [[tI (gI y16 0),tI (gI y16 1),.sl 2 (gL y16 2),.str (gS y16 3)]],.row false 0 9 [],.row false 0 9 [],.box [.t (tI (gI y15 0)),.t (.sl 10 (gL y15 1)),.t (tI (gI y15 2)),.t (tI (gI y15 3)),.t (tI (gI y15 0)),.t (.sl 10 (gL y15 1)),.t (tI (gI y15 2)),.t (tI (gI y15 3)),.t (.sl 1 a10),.t (tI a11),.t (.sl 2 a12),.t (tI 0),.t (tI 0),.sref (ix true 4) 0 0 0,.sref (ix true 5) 0 0 0,.t (tI 0),.t (tI (gI y14 0)),.t (tI (gI y14 1)),.t (tI (gI y14 2)),.t (tI (gI y14 3)),.t (tI (gI y14 4)),.t (tI (gI y14 5)),.t (tI (gI y14 6)),.t (tI (gI y14 7)),.t (.str (gS y14 8)),.t (tI (gI y14 9)),.t (tI (gI y14 10)),.t (tI (gI y14 11)),.t (.sl 2 (gL y14 12)),.t (tI (gI y14 13)),.t (tI (gI y14 14)),.t (tI (gI y16 0)),.t (tI (gI y16 1)),.t (.sl 2 (gL y16 2)),.t (.str (gS y16 3)),.sref (ix true 0) 0 0 (length (gL y14 15)),.t (.bool false),.t (tI 0),.t (.bool false),.t (tI 0)]]))))):=(Oa C n 9 _ (by decide) (u9 a0 a1 a2 a3 a4 a5 a6 a7 a8 a9 a10 a11 a12)).trans ((pureO C n Gu 9 _).symm.trans (v9 n (fI C n) a0 a1 a2 a3 a4 a5 a6 a7 a8 a9 a10 a11 a12))
end Ab
