/- A part of the proof: see the last text. -/
import Derived.Test.YtehmfejagbcnbaaGreatDoorM3
set_option linter.unusedVariables false
set_option linter.unusedSimpArgs false
open Array (extract_eq_self_of_le)
open List (all_eq_true length size_toArray)
open Nat (le_refl lt_of_lt_of_le zero_le)
namespace Ab
open Go Go.Proofs Go.RowKit Go.Lib Go.Shelf Go.Sort
set_option maxRecDepth 1000000
set_option maxHeartbeats 16000000
variable {P:Program} {k:Nat}
theorem sym_c (lt:List Tree→List Tree→Bool) (f:Nat) (d:Array (List Tree)) (a m b mid s0 r0 s e:Nat) (h1:m-a≠1) (h2:b-m≠1) (hmid:(a+b) / 2=mid) (hs0:(if mid<m then mid+m-b else a)=s0∧(if mid<m then mid else m)=r0)
  (hs:bsH (fun c => !lt d[mid+m-1-c]! d[c]!) (r0-s0) s0 r0=s) (he:mid+m-s=e) (d1 d2 d3:Array (List Tree)) (hd1:(if s<m∧m<e then DP (e-s) m (m-s) (e-m) d else d)=d1) (hd2:(if a<s∧s<mid then Be lt f d1 a s mid else d1)=d2) (hd3:(if mid<e∧e<b then Be lt f d2 mid e b else d2)=d3) :
  Be lt (f+1) d a m b=d3:=by
 obtain ⟨rfl,rfl⟩:=hs0;subst hmid hs he hd1 hd2 hd3;rw [Be,if_neg h1,if_neg h2]
theorem sym136c (L:StL P k) (cf:List Tree→List Tree→Int) (blk off cap:Nat) (d:Array (List Tree)) (w:World) (hcmp:CmpLays P 33 #[] (AO k) k cf blk off d.size w) (eg:∀args w,(callFunc 33 args).run P w = .ok (.enter 33 args) w) (hH:HoldsK (AO k) k w blk off d) (hblk:blk<w.heap.size) (hsz:d.size<1000000) (f:Nat)
  (IH:∀(a m b:Nat) (dk:Array (List Tree)) (q:Nat) (os:Array Obj),a<m→m<b→b≤d.size→b-a≤f→dk.size=d.size→Calls P 136 #[.slice (some ⟨blk,off,none⟩) d.size cap,.int .i64 a,.int .i64 m,.int .i64 b,.func (.func 33) #[] #[]] (sortWorldK (AO k) k w blk off q dk os) fun e w'=>e = .returned (.tuple #[])∧∃q' os',w'=sortWorldK (AO k) k w blk off q' (Be (ltOf cf) f dk a m b) os')
  (a m b:Nat) (dk:Array (List Tree)) (q:Nat) (os:Array Obj) (ham:a+1<m) (hmb:m+1<b) (hb:b≤d.size) (hf:b-a≤f+1) (hsk:dk.size=d.size) :
  Calls P 136 #[.slice (some ⟨blk,off,none⟩) d.size cap,.int .i64 a,.int .i64 m,.int .i64 b,.func (.func 33) #[] #[]] (sortWorldK (AO k) k w blk off q dk os) fun e w'=>e = .returned (.tuple #[])∧∃q' os',w'=sortWorldK (AO k) k w blk off q' (Be (ltOf cf) (f+1) dk a m b) os':=by
 have mixed:=L.mixed;have t0:=L.t0;have a0:=L.a0;have z0:=L.z0;have v0:=L.v0;have t3:=L.t3;have a3:=L.a3;have z3:=L.z3;have v3:=L.v3;have t4:=L.t4;have a4:=L.a4;have z4:=L.z4;have v4:=L.v4;have t26:=L.t26;have a26:=L.a26;have z26:=L.z26;have v26:=L.v26;have t86:=L.t86;have a86:=L.a86;have z86:=L.z86;have v86:=L.v86;have t234:=L.t234;have a234:=L.a234;have z234:=L.z234;have v234:=L.v234;have aE:=L.aE;have zE:=L.zE;have u26:=run_underlying L.t26;have hne1:((m:Int)-(a:Int)==1)=false:=by simp;omega
 have hne2:((b:Int)-(m:Int)==1)=false:=by simp;omega
 have HC:Aside _:=hcmp;have HH:Hid (HoldsK (AO k) k w blk off d):=hH;have HK:Hid (∀x,(AO k x).length=k):=Ep k;have H1:Hid (∀x,∀v∈AO k x,v.oneCell'=true):=Eo k;have HI:Aside _:=IH;have HR:Hid (∀(a m b:Nat) (dk:Array (List Tree)) (q:Nat) (os:Array Obj),dk.size=d.size→a<m→m<b→b≤d.size→Calls P 181 #[.slice (some ⟨blk,off,none⟩) d.size cap,.int .i64 a,.int .i64 m,.int .i64 b,.func (.func 33) #[] #[]] (sortWorldK (AO k) k w blk off q dk os) fun e w'=>e = .returned (.tuple #[])∧∃q',w'=sortWorldK (AO k) k w blk off q' (DP (b-a) m (m-a) (b-m) dk) os):=
  fun a m b dk q os h1 h2 h3 h4=>rot181 L blk off cap a m b _ d dk w q os hH hblk h1 h2 h3 h4 hsz
 have e181:∀args w,(callFunc 181 args).run P w = .ok (.enter 181 args) w:=enters_of L.f181 (by kernel_rfl) rfl;have e136:∀args w,(callFunc 136 args).run P w = .ok (.enter 136 args) w:=enters_of L.f136 (by kernel_rfl) rfl;clear hcmp hH IH;have hh:((a:Int)+(b:Int)) / 2=(((a+b) / 2:Nat):Int):=by omega
 obtain ⟨mid,hmid⟩:∃mid,(a+b) / 2=mid:=⟨_,rfl⟩
 have hm1:2*mid≤a+b:=by omega
 have hm2:a+b≤2*mid+1:=by omega
 rw [hmid] at hh;have HM:Hid ((a+b) / 2=mid):=hmid;clear hmid
 go_enter L.f136,Tryz.ntmps136
 by_cases hmm:mid<m
 ·have hmz:(mid:Int)<(m:Int):=by omega
  obtain ⟨s0,hs0⟩:∃s0,s0+b=mid+m:=⟨mid+m-b,by omega⟩
  have hs0z:(mid:Int)+(m:Int)-(b:Int)=(s0:Int):=by omega
  have HS0:Hid ((if mid<m then mid+m-b else a)=s0∧(if mid<m then mid else m)=mid):=by show _∧_;rw [if_pos hmm,if_pos hmm];exact ⟨by omega,rfl⟩
  have hb0:a≤s0∧s0≤mid:=by omega
  go_wp2
  go_loopg [20,21] (mid-s0) (fun g1 vi vj wr=>∃(i j q:Nat) (os:Array Obj),vi = .int .i64 i∧vj = .int .i64 j∧s0≤i∧i≤j∧j≤mid∧j-i≤g1∧wr=sortWorldK (AO k) k w blk off q dk os∧Hid (bsH (fun c => !ltOf cf dk[mid+m-1-c]! dk[c]!) (mid-s0) i j=bsH (fun c => !ltOf cf dk[mid+m-1-c]! dk[c]!) (mid-s0) s0 mid))
  case atStart=>exact ⟨s0,mid,q,os,by go_num,by go_num,le_refl _,by omega,le_refl _,le_refl _,rfl,rfl⟩
  case round=>
   obtain ⟨i,j,q,os,rfl,rfl,hmi,hij,hjb,hg1,rfl,HO⟩:=hrel;by_cases hlt:i<j
   ·have hltz:(i:Int)<(j:Int):=by omega
    have wa:IntKind.i64.wrap ((i:Int)+(j:Int))=((i+j:Nat):Int):=by rw [IntKind.wrap_i64];omega
    go_wp2_with fail
    have hh2:((i:Int)+(j:Int)) / 2=(((i+j) / 2:Nat):Int):=by omega
    simp only [hh2];obtain ⟨h,hhe⟩:∃h,(i+j) / 2=h:=⟨_,rfl⟩
    have hb1:i≤h∧h<j:=by omega
    have HHE:Hid ((i+j) / 2=h):=hhe;rw [hhe];clear hhe hh2 wa;obtain ⟨pc,hpc⟩:∃pc,pc+h+1=mid+m:=⟨mid+m-1-h,by omega⟩
    have hpz:(mid:Int)+(m:Int)-1-(h:Int)=(pc:Int):=by omega
    have hpw:IntKind.i64.wrap (pc:Int)=(pc:Int):=by rw [IntKind.wrap_i64];omega
    have hp0:(0:Int)≤(pc:Int):=by omega
    obtain ⟨x,hx⟩:∃x,dk[pc]! = x:=⟨_,rfl⟩
    obtain ⟨y,hy⟩:∃y,dk[h]! = y:=⟨_,rfl⟩
    have jh:(h:Int)<(d.size:Int):=by omega
    have jp:(pc:Int)<(d.size:Int):=by omega
    have hcls:∀n' os',grow ((sortWorldK (AO k) k w blk off q dk os).drewN n') os'=sortWorldK (AO k) k w blk off (q+n') dk (os++os'):=fun n' os'=>sortWorldK_grown_c (AO k) k w blk off q n' dk os os';have hHc:∀n' os',HoldsK (AO k) k (grow ((sortWorldK (AO k) k w blk off q dk os).drewN n') os') blk off dk:=fun n' os'=>by rw [hcls];exact holdsK_sortWorldK_c (AO k) k w blk off d dk _ _ HH.out hblk hsk
    have lx:∀n' os',Sem.run P (loadCellsFrom ⟨blk,off+pc*k,none⟩ 0 k #[]) (grow ((sortWorldK (AO k) k w blk off q dk os).drewN n') os')= .ok (AO k x).toArray (grow ((sortWorldK (AO k) k w blk off q dk os).drewN n') os'):=fun n' os'=>by rw [← hx];exact run_loadCellsFrom_list P _ _ _ k (HK.out _) (HoldsK.cells (hHc n' os') HK.out (by omega))
    have ly:∀n' os',Sem.run P (loadCellsFrom ⟨blk,off+h*k,none⟩ 0 k #[]) (grow ((sortWorldK (AO k) k w blk off q dk os).drewN n') os')= .ok (AO k y).toArray (grow ((sortWorldK (AO k) k w blk off q dk os).drewN n') os'):=fun n' os'=>by rw [← hy];exact run_loadCellsFrom_list P _ _ _ k (HK.out _) (HoldsK.cells (hHc n' os') HK.out (by omega))
    have hcg:∀n' os',Calls P 33 (#[.agg (AO k x).toArray,.agg (AO k y).toArray] ++ #[]) (grow ((sortWorldK (AO k) k w blk off q dk os).drewN n') os') fun e w'=>e = .returned (.int .i64 (cf x y))∧∃q' os'',w'=grow ((grow ((sortWorldK (AO k) k w blk off q dk os).drewN n') os').drewN q') os'':=fun n' os'=>by rw [hcls];exact HC.out _ _ dk hsk x y
    have CLS:Hid _:=hcls;clear hcls hHc;obtain ⟨f2,hf2⟩:∃f,mid-s0=f+1:=⟨mid-s0-1,by omega⟩
    have STEP:Hid (bsH (fun c => !ltOf cf dk[mid+m-1-c]! dk[c]!) (mid-s0) i j=if (!ltOf cf x y)=true then bsH (fun c => !ltOf cf dk[mid+m-1-c]! dk[c]!) (mid-s0) (h+1) j else bsH (fun c => !ltOf cf dk[mid+m-1-c]! dk[c]!) (mid-s0) i h):=by
     show _=_
     conv=>lhs;rw [hf2,bsH,if_pos hlt,HHE.out]
     simp only [show mid+m-1-h=pc by omega,hx,hy];split
     ·exact DH _ _ _ _ _ (by omega) (by omega)
     ·exact DH _ _ _ _ _ (by omega) (by omega)
    generalize hwq:sortWorldK (AO k) k w blk off q dk os=wq at lx ly hcg CLS ⊢;by_cases hlv:cf x y<0
    ·go_quiet_grown (first|(go_at_fn 33;refine Calls.grown_of (hcg _ _)))
     go_wp2
     go_roundg (h-i)
     case measure=>omega
     case rel=>
      refine ⟨i,h,_,_,rfl,by go_num,hmi,by omega,by omega,le_refl _,CLS.out nq osq,(show Hid _ from ?_)⟩;show _=_;rw [← HO.out,STEP.out,if_neg (by rw [show ltOf cf x y=true from decide_eq_true hlv];decide)]
    ·go_quiet_grown (first|(go_at_fn 33;refine Calls.grown_of (hcg _ _)))
     go_wp2
     go_roundg (j-(h+1))
     case measure=>omega
     case rel=>
      refine ⟨h+1,j,_,_,by go_num,rfl,by omega,by omega,hjb,le_refl _,CLS.out nq osq,(show Hid _ from ?_)⟩;show _=_;rw [← HO.out,STEP.out,if_pos (by rw [show ltOf cf x y=false from decide_eq_false (by omega)];rfl)]
   ·have hltz:¬(i:Int)<(j:Int):=by omega
    obtain rfl:i=j:=by omega
    have hI:Hid (bsH (fun c => !ltOf cf dk[mid+m-1-c]! dk[c]!) (mid-s0) s0 mid=i):=by
     show _=_;rw [← HO.out];cases hf:mid-s0 with
     |zero=>rfl
     |succ f=>rw [bsH,if_neg (by omega)]
    clear HO hg1;obtain ⟨e,he⟩:∃e,mid+m-i=e:=⟨_,rfl⟩
    have hei:e+i=mid+m:=by omega
    have HE:Hid (mid+m-i=e):=he;clear he;have hez:(mid:Int)+(m:Int)-(i:Int)=(e:Int):=by omega
    obtain ⟨d1,hd1⟩:∃d1,(if i<m∧m<e then DP (e-i) m (m-i) (e-m) dk else dk)=d1:=⟨_,rfl⟩
    have hs1:d1.size=d.size:=by
     rw [← hd1];split
     ·rw [FY];exact hsk
     ·exact hsk
    have HD1:Hid ((if i<m∧m<e then DP (e-i) m (m-i) (e-m) dk else dk)=d1):=hd1;obtain ⟨d2,hd2⟩:∃d2,(if a<i∧i<mid then Be (ltOf cf) f d1 a i mid else d1)=d2:=⟨_,rfl⟩
    have hs2:d2.size=d.size:=by
     rw [← hd2];split
     ·rw [Jd];exact hs1
     ·exact hs1
    have HD2:Hid ((if a<i∧i<mid then Be (ltOf cf) f d1 a i mid else d1)=d2):=hd2;obtain ⟨d3,hd3⟩:∃d3,(if mid<e∧e<b then Be (ltOf cf) f d2 mid e b else d2)=d3:=⟨_,rfl⟩
    have HD3:Hid ((if mid<e∧e<b then Be (ltOf cf) f d2 mid e b else d2)=d3):=hd3;have HSY:Hid (Be (ltOf cf) (f+1) dk a m b=d3):=sym_c (ltOf cf) f dk a m b mid s0 mid i e (by omega) (by omega) HM.out HS0.out hI.out HE.out d1 d2 d3 hd1 hd2 hd3;clear hd1 hd2 hd3 hI HS0 HM HE;by_cases r1:i<m
    ·have r1z:(i:Int)<(m:Int):=by omega
     by_cases r2:m<e
     ·have r2z:(m:Int)<(e:Int):=by omega
      have hr:=HR.out i m e dk q os hsk r1 r2 (by omega);have e1:DP (e-i) m (m-i) (e-m) dk=d1:=by rw [← HD1.out,if_pos ⟨r1,r2⟩]
      rw [e1] at hr;clear e1
      go_wp2_with (go_at_fn 181;fail)
      refine Calls.mono hr ?_
      rintro _ _ ⟨rfl,q1,rfl⟩
      by_cases t1:a<i
      ·have t1z:(a:Int)<(i:Int):=by omega
       by_cases t2:i<mid
       ·have t2z:(i:Int)<(mid:Int):=by omega
        have hr:=HI.out a i mid d1 q1 os t1 t2 (by omega) (by omega) hs1;have e1:Be (ltOf cf) f d1 a i mid=d2:=by rw [← HD2.out,if_pos ⟨t1,t2⟩]
        rw [e1] at hr;clear e1
        go_wp2_with (go_at_fn 136;fail)
        refine Calls.mono hr ?_
        rintro _ _ ⟨rfl,q2,os2,rfl⟩
        by_cases u1:mid<e
        ·have u1z:(mid:Int)<(e:Int):=by omega
         by_cases u2:e<b
         ·have u2z:(e:Int)<(b:Int):=by omega
          have hr:=HI.out mid e b d2 q2 os2 u1 u2 hb (by omega) hs2;have e1:Be (ltOf cf) f d2 mid e b=d3:=by rw [← HD3.out,if_pos ⟨u1,u2⟩]
          rw [e1] at hr;clear e1
          go_wp2_with (go_at_fn 136;fail)
          refine Calls.mono hr ?_
          rintro _ _ ⟨rfl,q3,os3,rfl⟩
          go_wp2
          go_end0
          exact ⟨rfl,q3,os3,by rw [HSY.out]⟩
         ·have u2z:¬(e:Int)<(b:Int):=by omega
          obtain rfl:d3=d2:=by rw [← HD3.out,if_neg fun h=>u2 h.2]
          go_wp2
          go_end0
          exact ⟨rfl,q2,os2,by rw [HSY.out]⟩
        ·have u1z:¬(mid:Int)<(e:Int):=by omega
         obtain rfl:d3=d2:=by rw [← HD3.out,if_neg fun h=>u1 h.1]
         go_wp2
         go_end0
         exact ⟨rfl,q2,os2,by rw [HSY.out]⟩
       ·have t2z:¬(i:Int)<(mid:Int):=by omega
        obtain rfl:d2=d1:=by rw [← HD2.out,if_neg fun h=>t2 h.2]
        obtain ⟨q2,hq2⟩:∃q2,q1=q2:=⟨_,rfl⟩
        obtain ⟨os2,ho2⟩:∃os2,os=os2:=⟨_,rfl⟩
        rw [hq2,ho2];clear hq2 ho2;by_cases u1:mid<e
        ·have u1z:(mid:Int)<(e:Int):=by omega
         by_cases u2:e<b
         ·have u2z:(e:Int)<(b:Int):=by omega
          have hr:=HI.out mid e b d2 q2 os2 u1 u2 hb (by omega) hs2;have e1:Be (ltOf cf) f d2 mid e b=d3:=by rw [← HD3.out,if_pos ⟨u1,u2⟩]
          rw [e1] at hr;clear e1
          go_wp2_with (go_at_fn 136;fail)
          refine Calls.mono hr ?_
          rintro _ _ ⟨rfl,q3,os3,rfl⟩
          go_wp2
          go_end0
          exact ⟨rfl,q3,os3,by rw [HSY.out]⟩
         ·have u2z:¬(e:Int)<(b:Int):=by omega
          obtain rfl:d3=d2:=by rw [← HD3.out,if_neg fun h=>u2 h.2]
          go_wp2
          go_end0
          exact ⟨rfl,q2,os2,by rw [HSY.out]⟩
        ·have u1z:¬(mid:Int)<(e:Int):=by omega
         obtain rfl:d3=d2:=by rw [← HD3.out,if_neg fun h=>u1 h.1]
         go_wp2
         go_end0
         exact ⟨rfl,q2,os2,by rw [HSY.out]⟩
      ·have t1z:¬(a:Int)<(i:Int):=by omega
       obtain rfl:d2=d1:=by rw [← HD2.out,if_neg fun h=>t1 h.1]
       obtain ⟨q2,hq2⟩:∃q2,q1=q2:=⟨_,rfl⟩
       obtain ⟨os2,ho2⟩:∃os2,os=os2:=⟨_,rfl⟩
       rw [hq2,ho2];clear hq2 ho2;by_cases u1:mid<e
       ·have u1z:(mid:Int)<(e:Int):=by omega
        by_cases u2:e<b
        ·have u2z:(e:Int)<(b:Int):=by omega
         have hr:=HI.out mid e b d2 q2 os2 u1 u2 hb (by omega) hs2;have e1:Be (ltOf cf) f d2 mid e b=d3:=by rw [← HD3.out,if_pos ⟨u1,u2⟩]
         rw [e1] at hr;clear e1
         go_wp2_with (go_at_fn 136;fail)
         refine Calls.mono hr ?_
         rintro _ _ ⟨rfl,q3,os3,rfl⟩
         go_wp2
         go_end0
         exact ⟨rfl,q3,os3,by rw [HSY.out]⟩
        ·have u2z:¬(e:Int)<(b:Int):=by omega
         obtain rfl:d3=d2:=by rw [← HD3.out,if_neg fun h=>u2 h.2]
         go_wp2
         go_end0
         exact ⟨rfl,q2,os2,by rw [HSY.out]⟩
       ·have u1z:¬(mid:Int)<(e:Int):=by omega
        obtain rfl:d3=d2:=by rw [← HD3.out,if_neg fun h=>u1 h.1]
        go_wp2
        go_end0
        exact ⟨rfl,q2,os2,by rw [HSY.out]⟩
     ·have r2z:¬(m:Int)<(e:Int):=by omega
      obtain rfl:d1=dk:=by rw [← HD1.out,if_neg fun h=>r2 h.2]
      obtain ⟨q1,hq1⟩:∃q1,q=q1:=⟨_,rfl⟩
      rw [hq1];clear hq1;by_cases t1:a<i
      ·have t1z:(a:Int)<(i:Int):=by omega
       by_cases t2:i<mid
       ·have t2z:(i:Int)<(mid:Int):=by omega
        have hr:=HI.out a i mid d1 q1 os t1 t2 (by omega) (by omega) hs1;have e1:Be (ltOf cf) f d1 a i mid=d2:=by rw [← HD2.out,if_pos ⟨t1,t2⟩]
        rw [e1] at hr;clear e1
        go_wp2_with (go_at_fn 136;fail)
        refine Calls.mono hr ?_
        rintro _ _ ⟨rfl,q2,os2,rfl⟩
        by_cases u1:mid<e
        ·have u1z:(mid:Int)<(e:Int):=by omega
         by_cases u2:e<b
         ·have u2z:(e:Int)<(b:Int):=by omega
          have hr:=HI.out mid e b d2 q2 os2 u1 u2 hb (by omega) hs2;have e1:Be (ltOf cf) f d2 mid e b=d3:=by rw [← HD3.out,if_pos ⟨u1,u2⟩]
          rw [e1] at hr;clear e1
          go_wp2_with (go_at_fn 136;fail)
          refine Calls.mono hr ?_
          rintro _ _ ⟨rfl,q3,os3,rfl⟩
          go_wp2
          go_end0
          exact ⟨rfl,q3,os3,by rw [HSY.out]⟩
         ·have u2z:¬(e:Int)<(b:Int):=by omega
          obtain rfl:d3=d2:=by rw [← HD3.out,if_neg fun h=>u2 h.2]
          go_wp2
          go_end0
          exact ⟨rfl,q2,os2,by rw [HSY.out]⟩
        ·have u1z:¬(mid:Int)<(e:Int):=by omega
         obtain rfl:d3=d2:=by rw [← HD3.out,if_neg fun h=>u1 h.1]
         go_wp2
         go_end0
         exact ⟨rfl,q2,os2,by rw [HSY.out]⟩
       ·have t2z:¬(i:Int)<(mid:Int):=by omega
        obtain rfl:d2=d1:=by rw [← HD2.out,if_neg fun h=>t2 h.2]
        obtain ⟨q2,hq2⟩:∃q2,q1=q2:=⟨_,rfl⟩
        obtain ⟨os2,ho2⟩:∃os2,os=os2:=⟨_,rfl⟩
        rw [hq2,ho2];clear hq2 ho2;by_cases u1:mid<e
        ·have u1z:(mid:Int)<(e:Int):=by omega
         by_cases u2:e<b
         ·have u2z:(e:Int)<(b:Int):=by omega
          have hr:=HI.out mid e b d2 q2 os2 u1 u2 hb (by omega) hs2;have e1:Be (ltOf cf) f d2 mid e b=d3:=by rw [← HD3.out,if_pos ⟨u1,u2⟩]
          rw [e1] at hr;clear e1
          go_wp2_with (go_at_fn 136;fail)
          refine Calls.mono hr ?_
          rintro _ _ ⟨rfl,q3,os3,rfl⟩
          go_wp2
          go_end0
          exact ⟨rfl,q3,os3,by rw [HSY.out]⟩
         ·have u2z:¬(e:Int)<(b:Int):=by omega
          obtain rfl:d3=d2:=by rw [← HD3.out,if_neg fun h=>u2 h.2]
          go_wp2
          go_end0
          exact ⟨rfl,q2,os2,by rw [HSY.out]⟩
        ·have u1z:¬(mid:Int)<(e:Int):=by omega
         obtain rfl:d3=d2:=by rw [← HD3.out,if_neg fun h=>u1 h.1]
         go_wp2
         go_end0
         exact ⟨rfl,q2,os2,by rw [HSY.out]⟩
      ·have t1z:¬(a:Int)<(i:Int):=by omega
       obtain rfl:d2=d1:=by rw [← HD2.out,if_neg fun h=>t1 h.1]
       obtain ⟨q2,hq2⟩:∃q2,q1=q2:=⟨_,rfl⟩
       obtain ⟨os2,ho2⟩:∃os2,os=os2:=⟨_,rfl⟩
       rw [hq2,ho2];clear hq2 ho2;by_cases u1:mid<e
       ·have u1z:(mid:Int)<(e:Int):=by omega
        by_cases u2:e<b
        ·have u2z:(e:Int)<(b:Int):=by omega
         have hr:=HI.out mid e b d2 q2 os2 u1 u2 hb (by omega) hs2;have e1:Be (ltOf cf) f d2 mid e b=d3:=by rw [← HD3.out,if_pos ⟨u1,u2⟩]
         rw [e1] at hr;clear e1
         go_wp2_with (go_at_fn 136;fail)
         refine Calls.mono hr ?_
         rintro _ _ ⟨rfl,q3,os3,rfl⟩
         go_wp2
         go_end0
         exact ⟨rfl,q3,os3,by rw [HSY.out]⟩
        ·have u2z:¬(e:Int)<(b:Int):=by omega
         obtain rfl:d3=d2:=by rw [← HD3.out,if_neg fun h=>u2 h.2]
         go_wp2
         go_end0
         exact ⟨rfl,q2,os2,by rw [HSY.out]⟩
       ·have u1z:¬(mid:Int)<(e:Int):=by omega
        obtain rfl:d3=d2:=by rw [← HD3.out,if_neg fun h=>u1 h.1]
        go_wp2
        go_end0
        exact ⟨rfl,q2,os2,by rw [HSY.out]⟩
    ·have r1z:¬(i:Int)<(m:Int):=by omega
     obtain rfl:d1=dk:=by rw [← HD1.out,if_neg fun h=>r1 h.1]
     obtain ⟨q1,hq1⟩:∃q1,q=q1:=⟨_,rfl⟩
     rw [hq1];clear hq1;by_cases t1:a<i
     ·have t1z:(a:Int)<(i:Int):=by omega
      by_cases t2:i<mid
      ·have t2z:(i:Int)<(mid:Int):=by omega
       have hr:=HI.out a i mid d1 q1 os t1 t2 (by omega) (by omega) hs1;have e1:Be (ltOf cf) f d1 a i mid=d2:=by rw [← HD2.out,if_pos ⟨t1,t2⟩]
       rw [e1] at hr;clear e1
       go_wp2_with (go_at_fn 136;fail)
       refine Calls.mono hr ?_
       rintro _ _ ⟨rfl,q2,os2,rfl⟩
       by_cases u1:mid<e
       ·have u1z:(mid:Int)<(e:Int):=by omega
        by_cases u2:e<b
        ·have u2z:(e:Int)<(b:Int):=by omega
         have hr:=HI.out mid e b d2 q2 os2 u1 u2 hb (by omega) hs2;have e1:Be (ltOf cf) f d2 mid e b=d3:=by rw [← HD3.out,if_pos ⟨u1,u2⟩]
         rw [e1] at hr;clear e1
         go_wp2_with (go_at_fn 136;fail)
         refine Calls.mono hr ?_
         rintro _ _ ⟨rfl,q3,os3,rfl⟩
         go_wp2
         go_end0
         exact ⟨rfl,q3,os3,by rw [HSY.out]⟩
        ·have u2z:¬(e:Int)<(b:Int):=by omega
         obtain rfl:d3=d2:=by rw [← HD3.out,if_neg fun h=>u2 h.2]
         go_wp2
         go_end0
         exact ⟨rfl,q2,os2,by rw [HSY.out]⟩
       ·have u1z:¬(mid:Int)<(e:Int):=by omega
        obtain rfl:d3=d2:=by rw [← HD3.out,if_neg fun h=>u1 h.1]
        go_wp2
        go_end0
        exact ⟨rfl,q2,os2,by rw [HSY.out]⟩
      ·have t2z:¬(i:Int)<(mid:Int):=by omega
       obtain rfl:d2=d1:=by rw [← HD2.out,if_neg fun h=>t2 h.2]
       obtain ⟨q2,hq2⟩:∃q2,q1=q2:=⟨_,rfl⟩
       obtain ⟨os2,ho2⟩:∃os2,os=os2:=⟨_,rfl⟩
       rw [hq2,ho2];clear hq2 ho2;by_cases u1:mid<e
       ·have u1z:(mid:Int)<(e:Int):=by omega
        by_cases u2:e<b
        ·have u2z:(e:Int)<(b:Int):=by omega
         have hr:=HI.out mid e b d2 q2 os2 u1 u2 hb (by omega) hs2;have e1:Be (ltOf cf) f d2 mid e b=d3:=by rw [← HD3.out,if_pos ⟨u1,u2⟩]
         rw [e1] at hr;clear e1
         go_wp2_with (go_at_fn 136;fail)
         refine Calls.mono hr ?_
         rintro _ _ ⟨rfl,q3,os3,rfl⟩
         go_wp2
         go_end0
         exact ⟨rfl,q3,os3,by rw [HSY.out]⟩
        ·have u2z:¬(e:Int)<(b:Int):=by omega
         obtain rfl:d3=d2:=by rw [← HD3.out,if_neg fun h=>u2 h.2]
         go_wp2
         go_end0
         exact ⟨rfl,q2,os2,by rw [HSY.out]⟩
       ·have u1z:¬(mid:Int)<(e:Int):=by omega
        obtain rfl:d3=d2:=by rw [← HD3.out,if_neg fun h=>u1 h.1]
        go_wp2
        go_end0
        exact ⟨rfl,q2,os2,by rw [HSY.out]⟩
     ·have t1z:¬(a:Int)<(i:Int):=by omega
      obtain rfl:d2=d1:=by rw [← HD2.out,if_neg fun h=>t1 h.1]
      obtain ⟨q2,hq2⟩:∃q2,q1=q2:=⟨_,rfl⟩
      obtain ⟨os2,ho2⟩:∃os2,os=os2:=⟨_,rfl⟩
      rw [hq2,ho2];clear hq2 ho2;by_cases u1:mid<e
      ·have u1z:(mid:Int)<(e:Int):=by omega
       by_cases u2:e<b
       ·have u2z:(e:Int)<(b:Int):=by omega
        have hr:=HI.out mid e b d2 q2 os2 u1 u2 hb (by omega) hs2;have e1:Be (ltOf cf) f d2 mid e b=d3:=by rw [← HD3.out,if_pos ⟨u1,u2⟩]
        rw [e1] at hr;clear e1
        go_wp2_with (go_at_fn 136;fail)
        refine Calls.mono hr ?_
        rintro _ _ ⟨rfl,q3,os3,rfl⟩
        go_wp2
        go_end0
        exact ⟨rfl,q3,os3,by rw [HSY.out]⟩
       ·have u2z:¬(e:Int)<(b:Int):=by omega
        obtain rfl:d3=d2:=by rw [← HD3.out,if_neg fun h=>u2 h.2]
        go_wp2
        go_end0
        exact ⟨rfl,q2,os2,by rw [HSY.out]⟩
      ·have u1z:¬(mid:Int)<(e:Int):=by omega
       obtain rfl:d3=d2:=by rw [← HD3.out,if_neg fun h=>u1 h.1]
       go_wp2
       go_end0
       exact ⟨rfl,q2,os2,by rw [HSY.out]⟩
 ·have hmz:¬(mid:Int)<(m:Int):=by omega
  have HS0:Hid ((if mid<m then mid+m-b else a)=a∧(if mid<m then mid else m)=m):=by show _∧_;rw [if_neg hmm,if_neg hmm];exact ⟨rfl,rfl⟩
  go_wp2
  go_loopg [20,21] (m-a) (fun g1 vi vj wr=>∃(i j q:Nat) (os:Array Obj),vi = .int .i64 i∧vj = .int .i64 j∧a≤i∧i≤j∧j≤m∧j-i≤g1∧wr=sortWorldK (AO k) k w blk off q dk os∧Hid (bsH (fun c => !ltOf cf dk[mid+m-1-c]! dk[c]!) (m-a) i j=bsH (fun c => !ltOf cf dk[mid+m-1-c]! dk[c]!) (m-a) a m))
  case atStart=>exact ⟨a,m,q,os,by go_num,by go_num,le_refl _,by omega,le_refl _,le_refl _,rfl,rfl⟩
  case round=>
   obtain ⟨i,j,q,os,rfl,rfl,hmi,hij,hjb,hg1,rfl,HO⟩:=hrel;by_cases hlt:i<j
   ·have hltz:(i:Int)<(j:Int):=by omega
    have wa:IntKind.i64.wrap ((i:Int)+(j:Int))=((i+j:Nat):Int):=by rw [IntKind.wrap_i64];omega
    go_wp2_with fail
    have hh2:((i:Int)+(j:Int)) / 2=(((i+j) / 2:Nat):Int):=by omega
    simp only [hh2];obtain ⟨h,hhe⟩:∃h,(i+j) / 2=h:=⟨_,rfl⟩
    have hb1:i≤h∧h<j:=by omega
    have HHE:Hid ((i+j) / 2=h):=hhe;rw [hhe];clear hhe hh2 wa;obtain ⟨pc,hpc⟩:∃pc,pc+h+1=mid+m:=⟨mid+m-1-h,by omega⟩
    have hpz:(mid:Int)+(m:Int)-1-(h:Int)=(pc:Int):=by omega
    have hpw:IntKind.i64.wrap (pc:Int)=(pc:Int):=by rw [IntKind.wrap_i64];omega
    have hp0:(0:Int)≤(pc:Int):=by omega
    obtain ⟨x,hx⟩:∃x,dk[pc]! = x:=⟨_,rfl⟩
    obtain ⟨y,hy⟩:∃y,dk[h]! = y:=⟨_,rfl⟩
    have jh:(h:Int)<(d.size:Int):=by omega
    have jp:(pc:Int)<(d.size:Int):=by omega
    have hcls:∀n' os',grow ((sortWorldK (AO k) k w blk off q dk os).drewN n') os'=sortWorldK (AO k) k w blk off (q+n') dk (os++os'):=fun n' os'=>sortWorldK_grown_c (AO k) k w blk off q n' dk os os';have hHc:∀n' os',HoldsK (AO k) k (grow ((sortWorldK (AO k) k w blk off q dk os).drewN n') os') blk off dk:=fun n' os'=>by rw [hcls];exact holdsK_sortWorldK_c (AO k) k w blk off d dk _ _ HH.out hblk hsk
    have lx:∀n' os',Sem.run P (loadCellsFrom ⟨blk,off+pc*k,none⟩ 0 k #[]) (grow ((sortWorldK (AO k) k w blk off q dk os).drewN n') os')= .ok (AO k x).toArray (grow ((sortWorldK (AO k) k w blk off q dk os).drewN n') os'):=fun n' os'=>by rw [← hx];exact run_loadCellsFrom_list P _ _ _ k (HK.out _) (HoldsK.cells (hHc n' os') HK.out (by omega))
    have ly:∀n' os',Sem.run P (loadCellsFrom ⟨blk,off+h*k,none⟩ 0 k #[]) (grow ((sortWorldK (AO k) k w blk off q dk os).drewN n') os')= .ok (AO k y).toArray (grow ((sortWorldK (AO k) k w blk off q dk os).drewN n') os'):=fun n' os'=>by rw [← hy];exact run_loadCellsFrom_list P _ _ _ k (HK.out _) (HoldsK.cells (hHc n' os') HK.out (by omega))
    have hcg:∀n' os',Calls P 33 (#[.agg (AO k x).toArray,.agg (AO k y).toArray] ++ #[]) (grow ((sortWorldK (AO k) k w blk off q dk os).drewN n') os') fun e w'=>e = .returned (.int .i64 (cf x y))∧∃q' os'',w'=grow ((grow ((sortWorldK (AO k) k w blk off q dk os).drewN n') os').drewN q') os'':=fun n' os'=>by rw [hcls];exact HC.out _ _ dk hsk x y
    have CLS:Hid _:=hcls;clear hcls hHc;obtain ⟨f2,hf2⟩:∃f,m-a=f+1:=⟨m-a-1,by omega⟩
    have STEP:Hid (bsH (fun c => !ltOf cf dk[mid+m-1-c]! dk[c]!) (m-a) i j=if (!ltOf cf x y)=true then bsH (fun c => !ltOf cf dk[mid+m-1-c]! dk[c]!) (m-a) (h+1) j else bsH (fun c => !ltOf cf dk[mid+m-1-c]! dk[c]!) (m-a) i h):=by
     show _=_
     conv=>lhs;rw [hf2,bsH,if_pos hlt,HHE.out]
     simp only [show mid+m-1-h=pc by omega,hx,hy];split
     ·exact DH _ _ _ _ _ (by omega) (by omega)
     ·exact DH _ _ _ _ _ (by omega) (by omega)
    generalize hwq:sortWorldK (AO k) k w blk off q dk os=wq at lx ly hcg CLS ⊢;by_cases hlv:cf x y<0
    ·go_quiet_grown (first|(go_at_fn 33;refine Calls.grown_of (hcg _ _)))
     go_wp2
     go_roundg (h-i)
     case measure=>omega
     case rel=>
      refine ⟨i,h,_,_,rfl,by go_num,hmi,by omega,by omega,le_refl _,CLS.out nq osq,(show Hid _ from ?_)⟩;show _=_;rw [← HO.out,STEP.out,if_neg (by rw [show ltOf cf x y=true from decide_eq_true hlv];decide)]
    ·go_quiet_grown (first|(go_at_fn 33;refine Calls.grown_of (hcg _ _)))
     go_wp2
     go_roundg (j-(h+1))
     case measure=>omega
     case rel=>
      refine ⟨h+1,j,_,_,by go_num,rfl,by omega,by omega,hjb,le_refl _,CLS.out nq osq,(show Hid _ from ?_)⟩;show _=_;rw [← HO.out,STEP.out,if_pos (by rw [show ltOf cf x y=false from decide_eq_false (by omega)];rfl)]
   ·have hltz:¬(i:Int)<(j:Int):=by omega
    obtain rfl:i=j:=by omega
    have hI:Hid (bsH (fun c => !ltOf cf dk[mid+m-1-c]! dk[c]!) (m-a) a m=i):=by
     show _=_;rw [← HO.out];cases hf:m-a with
     |zero=>rfl
     |succ f=>rw [bsH,if_neg (by omega)]
    clear HO hg1;obtain ⟨e,he⟩:∃e,mid+m-i=e:=⟨_,rfl⟩
    have hei:e+i=mid+m:=by omega
    have HE:Hid (mid+m-i=e):=he;clear he;have hez:(mid:Int)+(m:Int)-(i:Int)=(e:Int):=by omega
    obtain ⟨d1,hd1⟩:∃d1,(if i<m∧m<e then DP (e-i) m (m-i) (e-m) dk else dk)=d1:=⟨_,rfl⟩
    have hs1:d1.size=d.size:=by
     rw [← hd1];split
     ·rw [FY];exact hsk
     ·exact hsk
    have HD1:Hid ((if i<m∧m<e then DP (e-i) m (m-i) (e-m) dk else dk)=d1):=hd1;obtain ⟨d2,hd2⟩:∃d2,(if a<i∧i<mid then Be (ltOf cf) f d1 a i mid else d1)=d2:=⟨_,rfl⟩
    have hs2:d2.size=d.size:=by
     rw [← hd2];split
     ·rw [Jd];exact hs1
     ·exact hs1
    have HD2:Hid ((if a<i∧i<mid then Be (ltOf cf) f d1 a i mid else d1)=d2):=hd2;obtain ⟨d3,hd3⟩:∃d3,(if mid<e∧e<b then Be (ltOf cf) f d2 mid e b else d2)=d3:=⟨_,rfl⟩
    have HD3:Hid ((if mid<e∧e<b then Be (ltOf cf) f d2 mid e b else d2)=d3):=hd3;have HSY:Hid (Be (ltOf cf) (f+1) dk a m b=d3):=sym_c (ltOf cf) f dk a m b mid a m i e (by omega) (by omega) HM.out HS0.out hI.out HE.out d1 d2 d3 hd1 hd2 hd3;clear hd1 hd2 hd3 hI HS0 HM HE;by_cases r1:i<m
    ·have r1z:(i:Int)<(m:Int):=by omega
     by_cases r2:m<e
     ·have r2z:(m:Int)<(e:Int):=by omega
      have hr:=HR.out i m e dk q os hsk r1 r2 (by omega);have e1:DP (e-i) m (m-i) (e-m) dk=d1:=by rw [← HD1.out,if_pos ⟨r1,r2⟩]
      rw [e1] at hr;clear e1
      go_wp2_with (go_at_fn 181;fail)
      refine Calls.mono hr ?_
      rintro _ _ ⟨rfl,q1,rfl⟩
      by_cases t1:a<i
      ·have t1z:(a:Int)<(i:Int):=by omega
       by_cases t2:i<mid
       ·have t2z:(i:Int)<(mid:Int):=by omega
        have hr:=HI.out a i mid d1 q1 os t1 t2 (by omega) (by omega) hs1;have e1:Be (ltOf cf) f d1 a i mid=d2:=by rw [← HD2.out,if_pos ⟨t1,t2⟩]
        rw [e1] at hr;clear e1
        go_wp2_with (go_at_fn 136;fail)
        refine Calls.mono hr ?_
        rintro _ _ ⟨rfl,q2,os2,rfl⟩
        by_cases u1:mid<e
        ·have u1z:(mid:Int)<(e:Int):=by omega
         by_cases u2:e<b
         ·have u2z:(e:Int)<(b:Int):=by omega
          have hr:=HI.out mid e b d2 q2 os2 u1 u2 hb (by omega) hs2;have e1:Be (ltOf cf) f d2 mid e b=d3:=by rw [← HD3.out,if_pos ⟨u1,u2⟩]
          rw [e1] at hr;clear e1
          go_wp2_with (go_at_fn 136;fail)
          refine Calls.mono hr ?_
          rintro _ _ ⟨rfl,q3,os3,rfl⟩
          go_wp2
          go_end0
          exact ⟨rfl,q3,os3,by rw [HSY.out]⟩
         ·have u2z:¬(e:Int)<(b:Int):=by omega
          obtain rfl:d3=d2:=by rw [← HD3.out,if_neg fun h=>u2 h.2]
          go_wp2
          go_end0
          exact ⟨rfl,q2,os2,by rw [HSY.out]⟩
        ·have u1z:¬(mid:Int)<(e:Int):=by omega
         obtain rfl:d3=d2:=by rw [← HD3.out,if_neg fun h=>u1 h.1]
         go_wp2
         go_end0
         exact ⟨rfl,q2,os2,by rw [HSY.out]⟩
       ·have t2z:¬(i:Int)<(mid:Int):=by omega
        obtain rfl:d2=d1:=by rw [← HD2.out,if_neg fun h=>t2 h.2]
        obtain ⟨q2,hq2⟩:∃q2,q1=q2:=⟨_,rfl⟩
        obtain ⟨os2,ho2⟩:∃os2,os=os2:=⟨_,rfl⟩
        rw [hq2,ho2];clear hq2 ho2;by_cases u1:mid<e
        ·have u1z:(mid:Int)<(e:Int):=by omega
         by_cases u2:e<b
         ·have u2z:(e:Int)<(b:Int):=by omega
          have hr:=HI.out mid e b d2 q2 os2 u1 u2 hb (by omega) hs2;have e1:Be (ltOf cf) f d2 mid e b=d3:=by rw [← HD3.out,if_pos ⟨u1,u2⟩]
          rw [e1] at hr;clear e1
          go_wp2_with (go_at_fn 136;fail)
          refine Calls.mono hr ?_
          rintro _ _ ⟨rfl,q3,os3,rfl⟩
          go_wp2
          go_end0
          exact ⟨rfl,q3,os3,by rw [HSY.out]⟩
         ·have u2z:¬(e:Int)<(b:Int):=by omega
          obtain rfl:d3=d2:=by rw [← HD3.out,if_neg fun h=>u2 h.2]
          go_wp2
          go_end0
          exact ⟨rfl,q2,os2,by rw [HSY.out]⟩
        ·have u1z:¬(mid:Int)<(e:Int):=by omega
         obtain rfl:d3=d2:=by rw [← HD3.out,if_neg fun h=>u1 h.1]
         go_wp2
         go_end0
         exact ⟨rfl,q2,os2,by rw [HSY.out]⟩
      ·have t1z:¬(a:Int)<(i:Int):=by omega
       obtain rfl:d2=d1:=by rw [← HD2.out,if_neg fun h=>t1 h.1]
       obtain ⟨q2,hq2⟩:∃q2,q1=q2:=⟨_,rfl⟩
       obtain ⟨os2,ho2⟩:∃os2,os=os2:=⟨_,rfl⟩
       rw [hq2,ho2];clear hq2 ho2;by_cases u1:mid<e
       ·have u1z:(mid:Int)<(e:Int):=by omega
        by_cases u2:e<b
        ·have u2z:(e:Int)<(b:Int):=by omega
         have hr:=HI.out mid e b d2 q2 os2 u1 u2 hb (by omega) hs2;have e1:Be (ltOf cf) f d2 mid e b=d3:=by rw [← HD3.out,if_pos ⟨u1,u2⟩]
         rw [e1] at hr;clear e1
         go_wp2_with (go_at_fn 136;fail)
         refine Calls.mono hr ?_
         rintro _ _ ⟨rfl,q3,os3,rfl⟩
         go_wp2
         go_end0
         exact ⟨rfl,q3,os3,by rw [HSY.out]⟩
        ·have u2z:¬(e:Int)<(b:Int):=by omega
         obtain rfl:d3=d2:=by rw [← HD3.out,if_neg fun h=>u2 h.2]
         go_wp2
         go_end0
         exact ⟨rfl,q2,os2,by rw [HSY.out]⟩
       ·have u1z:¬(mid:Int)<(e:Int):=by omega
        obtain rfl:d3=d2:=by rw [← HD3.out,if_neg fun h=>u1 h.1]
        go_wp2
        go_end0
        exact ⟨rfl,q2,os2,by rw [HSY.out]⟩
     ·have r2z:¬(m:Int)<(e:Int):=by omega
      obtain rfl:d1=dk:=by rw [← HD1.out,if_neg fun h=>r2 h.2]
      obtain ⟨q1,hq1⟩:∃q1,q=q1:=⟨_,rfl⟩
      rw [hq1];clear hq1;by_cases t1:a<i
      ·have t1z:(a:Int)<(i:Int):=by omega
       by_cases t2:i<mid
       ·have t2z:(i:Int)<(mid:Int):=by omega
        have hr:=HI.out a i mid d1 q1 os t1 t2 (by omega) (by omega) hs1;have e1:Be (ltOf cf) f d1 a i mid=d2:=by rw [← HD2.out,if_pos ⟨t1,t2⟩]
        rw [e1] at hr;clear e1
        go_wp2_with (go_at_fn 136;fail)
        refine Calls.mono hr ?_
        rintro _ _ ⟨rfl,q2,os2,rfl⟩
        by_cases u1:mid<e
        ·have u1z:(mid:Int)<(e:Int):=by omega
         by_cases u2:e<b
         ·have u2z:(e:Int)<(b:Int):=by omega
          have hr:=HI.out mid e b d2 q2 os2 u1 u2 hb (by omega) hs2;have e1:Be (ltOf cf) f d2 mid e b=d3:=by rw [← HD3.out,if_pos ⟨u1,u2⟩]
          rw [e1] at hr;clear e1
          go_wp2_with (go_at_fn 136;fail)
          refine Calls.mono hr ?_
          rintro _ _ ⟨rfl,q3,os3,rfl⟩
          go_wp2
          go_end0
          exact ⟨rfl,q3,os3,by rw [HSY.out]⟩
         ·have u2z:¬(e:Int)<(b:Int):=by omega
          obtain rfl:d3=d2:=by rw [← HD3.out,if_neg fun h=>u2 h.2]
          go_wp2
          go_end0
          exact ⟨rfl,q2,os2,by rw [HSY.out]⟩
        ·have u1z:¬(mid:Int)<(e:Int):=by omega
         obtain rfl:d3=d2:=by rw [← HD3.out,if_neg fun h=>u1 h.1]
         go_wp2
         go_end0
         exact ⟨rfl,q2,os2,by rw [HSY.out]⟩
       ·have t2z:¬(i:Int)<(mid:Int):=by omega
        obtain rfl:d2=d1:=by rw [← HD2.out,if_neg fun h=>t2 h.2]
        obtain ⟨q2,hq2⟩:∃q2,q1=q2:=⟨_,rfl⟩
        obtain ⟨os2,ho2⟩:∃os2,os=os2:=⟨_,rfl⟩
        rw [hq2,ho2];clear hq2 ho2;by_cases u1:mid<e
        ·have u1z:(mid:Int)<(e:Int):=by omega
         by_cases u2:e<b
         ·have u2z:(e:Int)<(b:Int):=by omega
          have hr:=HI.out mid e b d2 q2 os2 u1 u2 hb (by omega) hs2;have e1:Be (ltOf cf) f d2 mid e b=d3:=by rw [← HD3.out,if_pos ⟨u1,u2⟩]
          rw [e1] at hr;clear e1
          go_wp2_with (go_at_fn 136;fail)
          refine Calls.mono hr ?_
          rintro _ _ ⟨rfl,q3,os3,rfl⟩
          go_wp2
          go_end0
          exact ⟨rfl,q3,os3,by rw [HSY.out]⟩
         ·have u2z:¬(e:Int)<(b:Int):=by omega
          obtain rfl:d3=d2:=by rw [← HD3.out,if_neg fun h=>u2 h.2]
          go_wp2
          go_end0
          exact ⟨rfl,q2,os2,by rw [HSY.out]⟩
        ·have u1z:¬(mid:Int)<(e:Int):=by omega
         obtain rfl:d3=d2:=by rw [← HD3.out,if_neg fun h=>u1 h.1]
         go_wp2
         go_end0
         exact ⟨rfl,q2,os2,by rw [HSY.out]⟩
      ·have t1z:¬(a:Int)<(i:Int):=by omega
       obtain rfl:d2=d1:=by rw [← HD2.out,if_neg fun h=>t1 h.1]
       obtain ⟨q2,hq2⟩:∃q2,q1=q2:=⟨_,rfl⟩
       obtain ⟨os2,ho2⟩:∃os2,os=os2:=⟨_,rfl⟩
       rw [hq2,ho2];clear hq2 ho2;by_cases u1:mid<e
       ·have u1z:(mid:Int)<(e:Int):=by omega
        by_cases u2:e<b
        ·have u2z:(e:Int)<(b:Int):=by omega
         have hr:=HI.out mid e b d2 q2 os2 u1 u2 hb (by omega) hs2;have e1:Be (ltOf cf) f d2 mid e b=d3:=by rw [← HD3.out,if_pos ⟨u1,u2⟩]
         rw [e1] at hr;clear e1
         go_wp2_with (go_at_fn 136;fail)
         refine Calls.mono hr ?_
         rintro _ _ ⟨rfl,q3,os3,rfl⟩
         go_wp2
         go_end0
         exact ⟨rfl,q3,os3,by rw [HSY.out]⟩
        ·have u2z:¬(e:Int)<(b:Int):=by omega
         obtain rfl:d3=d2:=by rw [← HD3.out,if_neg fun h=>u2 h.2]
         go_wp2
         go_end0
         exact ⟨rfl,q2,os2,by rw [HSY.out]⟩
       ·have u1z:¬(mid:Int)<(e:Int):=by omega
        obtain rfl:d3=d2:=by rw [← HD3.out,if_neg fun h=>u1 h.1]
        go_wp2
        go_end0
        exact ⟨rfl,q2,os2,by rw [HSY.out]⟩
    ·have r1z:¬(i:Int)<(m:Int):=by omega
     obtain rfl:d1=dk:=by rw [← HD1.out,if_neg fun h=>r1 h.1]
     obtain ⟨q1,hq1⟩:∃q1,q=q1:=⟨_,rfl⟩
     rw [hq1];clear hq1;by_cases t1:a<i
     ·have t1z:(a:Int)<(i:Int):=by omega
      by_cases t2:i<mid
      ·have t2z:(i:Int)<(mid:Int):=by omega
       have hr:=HI.out a i mid d1 q1 os t1 t2 (by omega) (by omega) hs1;have e1:Be (ltOf cf) f d1 a i mid=d2:=by rw [← HD2.out,if_pos ⟨t1,t2⟩]
       rw [e1] at hr;clear e1
       go_wp2_with (go_at_fn 136;fail)
       refine Calls.mono hr ?_
       rintro _ _ ⟨rfl,q2,os2,rfl⟩
       by_cases u1:mid<e
       ·have u1z:(mid:Int)<(e:Int):=by omega
        by_cases u2:e<b
        ·have u2z:(e:Int)<(b:Int):=by omega
         have hr:=HI.out mid e b d2 q2 os2 u1 u2 hb (by omega) hs2;have e1:Be (ltOf cf) f d2 mid e b=d3:=by rw [← HD3.out,if_pos ⟨u1,u2⟩]
         rw [e1] at hr;clear e1
         go_wp2_with (go_at_fn 136;fail)
         refine Calls.mono hr ?_
         rintro _ _ ⟨rfl,q3,os3,rfl⟩
         go_wp2
         go_end0
         exact ⟨rfl,q3,os3,by rw [HSY.out]⟩
        ·have u2z:¬(e:Int)<(b:Int):=by omega
         obtain rfl:d3=d2:=by rw [← HD3.out,if_neg fun h=>u2 h.2]
         go_wp2
         go_end0
         exact ⟨rfl,q2,os2,by rw [HSY.out]⟩
       ·have u1z:¬(mid:Int)<(e:Int):=by omega
        obtain rfl:d3=d2:=by rw [← HD3.out,if_neg fun h=>u1 h.1]
        go_wp2
        go_end0
        exact ⟨rfl,q2,os2,by rw [HSY.out]⟩
      ·have t2z:¬(i:Int)<(mid:Int):=by omega
       obtain rfl:d2=d1:=by rw [← HD2.out,if_neg fun h=>t2 h.2]
       obtain ⟨q2,hq2⟩:∃q2,q1=q2:=⟨_,rfl⟩
       obtain ⟨os2,ho2⟩:∃os2,os=os2:=⟨_,rfl⟩
       rw [hq2,ho2];clear hq2 ho2;by_cases u1:mid<e
       ·have u1z:(mid:Int)<(e:Int):=by omega
        by_cases u2:e<b
        ·have u2z:(e:Int)<(b:Int):=by omega
         have hr:=HI.out mid e b d2 q2 os2 u1 u2 hb (by omega) hs2;have e1:Be (ltOf cf) f d2 mid e b=d3:=by rw [← HD3.out,if_pos ⟨u1,u2⟩]
         rw [e1] at hr;clear e1
         go_wp2_with (go_at_fn 136;fail)
         refine Calls.mono hr ?_
         rintro _ _ ⟨rfl,q3,os3,rfl⟩
         go_wp2
         go_end0
         exact ⟨rfl,q3,os3,by rw [HSY.out]⟩
        ·have u2z:¬(e:Int)<(b:Int):=by omega
         obtain rfl:d3=d2:=by rw [← HD3.out,if_neg fun h=>u2 h.2]
         go_wp2
         go_end0
         exact ⟨rfl,q2,os2,by rw [HSY.out]⟩
       ·have u1z:¬(mid:Int)<(e:Int):=by omega
        obtain rfl:d3=d2:=by rw [← HD3.out,if_neg fun h=>u1 h.1]
        go_wp2
        go_end0
        exact ⟨rfl,q2,os2,by rw [HSY.out]⟩
     ·have t1z:¬(a:Int)<(i:Int):=by omega
      obtain rfl:d2=d1:=by rw [← HD2.out,if_neg fun h=>t1 h.1]
      obtain ⟨q2,hq2⟩:∃q2,q1=q2:=⟨_,rfl⟩
      obtain ⟨os2,ho2⟩:∃os2,os=os2:=⟨_,rfl⟩
      rw [hq2,ho2];clear hq2 ho2;by_cases u1:mid<e
      ·have u1z:(mid:Int)<(e:Int):=by omega
       by_cases u2:e<b
       ·have u2z:(e:Int)<(b:Int):=by omega
        have hr:=HI.out mid e b d2 q2 os2 u1 u2 hb (by omega) hs2;have e1:Be (ltOf cf) f d2 mid e b=d3:=by rw [← HD3.out,if_pos ⟨u1,u2⟩]
        rw [e1] at hr;clear e1
        go_wp2_with (go_at_fn 136;fail)
        refine Calls.mono hr ?_
        rintro _ _ ⟨rfl,q3,os3,rfl⟩
        go_wp2
        go_end0
        exact ⟨rfl,q3,os3,by rw [HSY.out]⟩
       ·have u2z:¬(e:Int)<(b:Int):=by omega
        obtain rfl:d3=d2:=by rw [← HD3.out,if_neg fun h=>u2 h.2]
        go_wp2
        go_end0
        exact ⟨rfl,q2,os2,by rw [HSY.out]⟩
      ·have u1z:¬(mid:Int)<(e:Int):=by omega
       obtain rfl:d3=d2:=by rw [← HD3.out,if_neg fun h=>u1 h.1]
       go_wp2
       go_end0
       exact ⟨rfl,q2,os2,by rw [HSY.out]⟩
end Ab
namespace Ab
open Go Go.Proofs Go.RowKit Go.Lib Go.Shelf Go.Sort
def Pa (d d':Array (List Tree)):Prop:=d'.size=d.size∧d'.toList.Perm d.toList
theorem Pa.refl (d:Array (List Tree)):Pa d d:=⟨rfl,List.Perm.refl _⟩
theorem Pa.trans {a b c:Array (List Tree)} (h1:Pa a b) (h2:Pa b c):Pa a c:=⟨h2.1.trans h1.1,h2.2.trans h1.2⟩
theorem pa_of {d d':Array (List Tree)} (h:PermIn 0 d.size d d'):Pa d d':=by
 obtain ⟨h1,h2,h3⟩:=h;refine ⟨h1,?_⟩;have e1:d'.extract 0 d.size=d':=by rw [extract_eq_self_of_le];rw [h1];exact le_refl _
 have e2:d.extract 0 d.size=d:=by rw [extract_eq_self_of_le];exact le_refl _
 rw [e1,e2] at h3;exact h3
theorem Qq (d:Array (List Tree)) (i j:Nat) (hi:i<d.size) (hj:j<d.size):Pa d (swp d i j):=pa_of (swp_permIn d 0 d.size i j (zero_le _) hi (zero_le _) hj (le_refl _))
theorem IX (d:Array (List Tree)) (a b:Nat):∀n,a+n≤d.size→b+n≤d.size→Pa d (EB d a b n)
 |0,_,_=>Pa.refl d
 |n+1,h1,h2=>by have ih:=IX d a b n (by omega) (by omega);exact ih.trans (Qq _ _ _ (by rw [ih.1];omega) (by rw [ih.1];omega))
theorem N9:∀(f m i j:Nat) (d:Array (List Tree)),i≤m→m+j≤d.size→Pa d (DP f m i j d)
 |0,_,_,_,d,_,_=>Pa.refl d
 |f+1,m,i,j,d,h1,h2=>by
  unfold DP;split
  ·exact IX d _ _ _ (by omega) (by omega)
  ·split
   ·have h:=IX d (m-i) m j (by omega) (by omega);exact h.trans (N9 f m _ _ _ (by omega) (by rw [h.1];omega))
   ·have h:=IX d (m-i) (m+j-i) i (by omega) (by omega);exact h.trans (N9 f m _ _ _ h1 (by rw [h.1];omega))
theorem Uh (d:Array (List Tree)) (a:Nat):∀n,(0<n→a+n<d.size)→Pa d (shU d a n)
 |0,_=>Pa.refl d
 |n+1,h=>by
  have h':=h (Nat.succ_pos n);have ih:=Uh d a n fun _=>by omega
  exact ih.trans (Qq _ _ _ (by rw [ih.1];omega) (by rw [ih.1];omega))
theorem Ui (d:Array (List Tree)) (m:Nat) (hm:m<d.size):∀n,Pa d (shD d m n)
 |0=>Pa.refl d
 |n+1=>by have ih:=Ui d m hm n;exact ih.trans (Qq _ _ _ (by rw [ih.1];omega) (by rw [ih.1];omega))
theorem N4 (lt:List Tree→List Tree→Bool):∀(f:Nat) (d:Array (List Tree)) (a m b:Nat),a<m→m<b→b≤d.size→Pa d (Be lt f d a m b)
 |0,d,_,_,_,_,_,_=>Pa.refl d
 |f+1,d,a,m,b,h1,h2,h3=>by
  unfold Be;split
  ·refine Uh d a _ fun hp => ?_;have:=(HV (fun h=>lt d[h]! d[a]!) (b-m) m b (by omega)).2;omega
  ·split
   ·exact Ui d m (by omega) _
   ·simp only;have hs:∀s0 r0:Nat,s0≤r0→s0≤bsH (fun c => !lt d[(a+b) / 2+m-1-c]! d[c]!) (r0-s0) s0 r0∧bsH (fun c => !lt d[(a+b) / 2+m-1-c]! d[c]!) (r0-s0) s0 r0≤r0:=fun s0 r0 h=>HV _ _ _ _ h;have hb:∃s,bsH (fun c => !lt d[(a+b) / 2+m-1-c]! d[c]!) ((if (a+b) / 2<m then (a+b) / 2 else m)-(if (a+b) / 2<m then (a+b) / 2+m-b else a)) (if (a+b) / 2<m then (a+b) / 2+m-b else a) (if (a+b) / 2<m then (a+b) / 2 else m)=s∧s≤m∧(a+b) / 2+m-s≤b:=by
     refine ⟨_,rfl,?_⟩;by_cases hc:(a+b) / 2<m
     ·simp only [if_pos hc];have:=hs ((a+b) / 2+m-b) ((a+b) / 2) (by omega);omega
     ·simp only [if_neg hc];have:=hs a m (by omega);omega
    obtain ⟨s,hse,hs1,hs2⟩:=hb;rw [hse];have p1:Pa d (if s<m∧m<(a+b) / 2+m-s then DP ((a+b) / 2+m-s-s) m (m-s) ((a+b) / 2+m-s-m) d else d):=by
     split
     ·rename_i hc;exact N9 _ _ _ _ _ (by omega) (by omega)
     ·exact Pa.refl d
    generalize (if s<m∧m<(a+b) / 2+m-s then DP ((a+b) / 2+m-s-s) m (m-s) ((a+b) / 2+m-s-m) d else d)=d1 at p1;have p2:Pa d1 (if a<s∧s<(a+b) / 2 then Be lt f d1 a s ((a+b) / 2) else d1):=by
     split
     ·rename_i hc;exact N4 lt f d1 a s _ hc.1 hc.2 (by rw [p1.1];omega)
     ·exact Pa.refl d1
    generalize (if a<s∧s<(a+b) / 2 then Be lt f d1 a s ((a+b) / 2) else d1)=d2 at p2;have p12:=p1.trans p2;refine p12.trans ?_;split
    ·rename_i hc;exact N4 lt f d2 _ _ b hc.1 hc.2 (by rw [p12.1];exact h3)
    ·exact Pa.refl d2
def NB (lt:List Tree→List Tree→Bool) (d:Array (List Tree)):Array (List Tree):=
 let d2:=Sort.insertionSort lt (Sort.insertionSort lt d 0 20) 20 d.size
 if 20<d.size then Be lt 40 d2 0 20 d.size else d2
def Hn (cf:List Tree→List Tree→Int) (d:List (List Tree)):List (List Tree):=if d.length<20 then RW cf d else (NB (ltOf cf) d.toArray).toList
theorem L0 {lt:List Tree→List Tree→Bool} (hO:SWO lt) (d:Array (List Tree)) (a b:Nat) (hab:a≤b) (hb:b≤d.size):Pa d (Sort.insertionSort lt d a b):=by obtain ⟨h1,_⟩:=insertionSort_holds hO d a b hab hb;exact pa_of (permIn_mono d _ a b 0 d.size (zero_le _) hb (le_refl _) h1)
theorem UX {lt:List Tree→List Tree→Bool} (hO:SWO lt) (d:Array (List Tree)) (h:20≤d.size):Pa d (NB lt d):=by
 have p1:=L0 hO d 0 20 (by omega) h;have p2:=p1.trans (L0 hO (Sort.insertionSort lt d 0 20) 20 d.size h (by rw [p1.1];exact le_refl _));unfold NB;simp only;split
 ·rename_i hc;exact p2.trans (N4 lt 40 _ 0 20 d.size (by omega) hc (by rw [p2.1];exact le_refl _))
 ·exact p2
theorem Ed {cf:List Tree→List Tree→Int} (hO:SWO (ltOf cf)) (d:List (List Tree)):(Hn cf d).Perm d:=by
 unfold Hn;split
 ·exact HB hO d
 ·rename_i h;have:=(UX hO d.toArray (by simp;omega)).2;simpa using this
end Ab
namespace Ab
open Go Go.Proofs Go.RowKit Go.Lib Go.Shelf Go.Sort
set_option maxRecDepth 1000000
set_option maxHeartbeats 8000000
variable {P:Program} {k:Nat}
theorem UT (L:StL P k) (cf:List Tree→List Tree→Int) (blk off cap:Nat) (d:Array (List Tree)) (w:World) (hcmp:CmpLays P 33 #[] (AO k) k cf blk off d.size w) (eg:∀args w,(callFunc 33 args).run P w = .ok (.enter 33 args) w) (hH:HoldsK (AO k) k w blk off d) (hblk:blk<w.heap.size) (hsz:d.size<1000000) :
  ∀(f a m b:Nat) (dk:Array (List Tree)) (q:Nat) (os:Array Obj),a<m→m<b→b≤d.size→b-a≤f→dk.size=d.size→Calls P 136 #[.slice (some ⟨blk,off,none⟩) d.size cap,.int .i64 a,.int .i64 m,.int .i64 b,.func (.func 33) #[] #[]] (sortWorldK (AO k) k w blk off q dk os) fun e w'=>e = .returned (.tuple #[])∧∃q' os',w'=sortWorldK (AO k) k w blk off q' (Be (ltOf cf) f dk a m b) os'
 |0,a,m,b,dk,q,os,h1,h2,_,h4,_=>by omega
 |f+1,a,m,b,dk,q,os,h1,h2,h3,h4,h5=>by
  by_cases c1:m-a=1
  ·have h:=sym136a L cf blk off cap d w hcmp eg hH hblk hsz a m b dk q os h1 (by omega) h2 h3 h5;rw [Be,if_pos c1];exact h
  ·by_cases c2:b-m=1
   ·have h:=sym136b L cf blk off cap d w hcmp eg hH hblk hsz a m b dk q os (by omega) h2 (by omega) h3 h5;rw [Be,if_neg c1,if_pos c2];exact h
   ·exact sym136c L cf blk off cap d w hcmp eg hH hblk hsz f (UT L cf blk off cap d w hcmp eg hH hblk hsz f) a m b dk q os (by omega) (by omega) h3 h4 h5
theorem VM (L:StL P k) (cf:List Tree→List Tree→Int) (hO:SWO (ltOf cf)) (blk off cap:Nat) (d:Array (List Tree)) (w:World) (hcmp:CmpLays P 33 #[] (AO k) k cf blk off d.size w) (eg:∀args w,(callFunc 33 args).run P w = .ok (.enter 33 args) w) (hH:HoldsK (AO k) k w blk off d) (hblk:blk<w.heap.size) (hsz:d.size<1000000)
  (a b:Nat) (dk:Array (List Tree)) (q:Nat) (os:Array Obj) (hab:a≤b) (hb:b≤d.size) (hsk:dk.size=d.size):Calls P 135 #[.slice (some ⟨blk,off,none⟩) d.size cap,.int .i64 a,.int .i64 b,.func (.func 33) #[] #[]] (sortWorldK (AO k) k w blk off q dk os) fun e w'=>e = .returned (.tuple #[])∧∃q' os',w'=sortWorldK (AO k) k w blk off q' (Sort.insertionSort (ltOf cf) dk a b) os':=by
 have hH2:=holdsK_sortWorldK_c (AO k) k w blk off d dk q os hH hblk hsk;have hb2:blk<(sortWorldK (AO k) k w blk off q dk os).heap.size:=lt_of_lt_of_le hblk (size_sortWorldK_c (AO k) k w blk off q dk os);have hw:∀(m:Nat) (os':Array Obj) (dj:Array (List Tree)),dj.size=d.size→∃os2,sortWorldK (AO k) k (sortWorldK (AO k) k w blk off q dk os) blk off m dj os'=sortWorldK (AO k) k w blk off (q+m) dj os2:=fun m os' dj hj=>⟨os++os',by
  unfold sortWorldK;exact grow_step_growK (AO k) k w os os' q m blk off dk dj hblk (by rw [hj,hsk])⟩
 have hc2:CmpLays P 33 #[] (AO k) k cf blk off dk.size (sortWorldK (AO k) k w blk off q dk os):=fun m os' dj hj x y=>by obtain ⟨os2,e2⟩:=hw m os' dj (by rw [hj,hsk]);rw [e2];exact hcmp _ _ dj (by rw [hj,hsk]) x y
 have h:=AnyQ.insertionSortCmpFunc L.ins k L.aE L.zE (AO k) (Ep k) (Eo k) cf 33 #[] blk off cap a b dk _ eg hc2 hH2 hb2 hab (by rw [hsk];exact hb) (by rw [hsk];omega);rw [hsk] at h;refine Calls.mono h ?_
 rintro e w' ⟨h1,n,os',rfl⟩
 obtain ⟨os2,e2⟩:=hw n os' (Sort.insertionSort (ltOf cf) dk a b) (by rw [(L0 hO dk a b hab (by rw [hsk];exact hb)).1,hsk]);exact ⟨h1,_,os2,e2⟩
theorem stab73 (L:StL P k) (cf:List Tree→List Tree→Int) (hO:SWO (ltOf cf)) (blk off cap:Nat) (d:Array (List Tree)) (w:World) (hcmp:CmpLays P 33 #[] (AO k) k cf blk off d.size w) (eg:∀args w,(callFunc 33 args).run P w = .ok (.enter 33 args) w) (hH:HoldsK (AO k) k w blk off d) (hblk:blk<w.heap.size) (h20:20≤d.size) (h39:d.size<40) :
  Calls P 73 #[.slice (some ⟨blk,off,none⟩) d.size cap,.int .i64 d.size,.func (.func 33) #[] #[]] w fun e w'=>e = .returned (.tuple #[])∧∃q' os',w'=sortWorldK (AO k) k w blk off q' (NB (ltOf cf) d) os':=by
 have mixed:=L.mixed;have t0:=L.t0;have a0:=L.a0;have z0:=L.z0;have v0:=L.v0;have t3:=L.t3;have a3:=L.a3;have z3:=L.z3;have v3:=L.v3;have t4:=L.t4;have a4:=L.a4;have z4:=L.z4;have v4:=L.v4;have t26:=L.t26;have a26:=L.a26;have z26:=L.z26;have v26:=L.v26;have t86:=L.t86;have a86:=L.a86;have z86:=L.z86;have v86:=L.v86;have aE:=L.aE;have zE:=L.zE;have u26:=run_underlying L.t26;have e136:∀args w,(callFunc 136 args).run P w = .ok (.enter 136 args) w:=enters_of L.f136 (by kernel_rfl) rfl;have e135:∀args w,(callFunc 135 args).run P w = .ok (.enter 135 args) w:=by obtain ⟨nm,hn,hF⟩:=L.ins.f20;exact enters_of hF (by simpa using hn) rfl
 have hw0:w=sortWorldK (AO k) k w blk off 0 d #[]:=by unfold sortWorldK;rw [grow_empty];exact (putRowK_self (AO k) k w blk off d hH).symm
 have p1:=L0 hO d 0 20 (by omega) h20;have p2:=p1.trans (L0 hO (Sort.insertionSort (ltOf cf) d 0 20) 20 d.size h20 (by rw [p1.1];exact le_refl _));have c1:=VM L cf hO blk off cap d w hcmp eg hH hblk (by omega) 0 20 d 0 #[] (by omega) h20 rfl;rw [← hw0] at c1;have C2:Aside (∀q os,Calls P 135 #[.slice (some ⟨blk,off,none⟩) d.size cap,.int .i64 (20:Nat),.int .i64 d.size,.func (.func 33) #[] #[]] (sortWorldK (AO k) k w blk off q (Sort.insertionSort (ltOf cf) d 0 20) os) fun e w'=>e = .returned (.tuple #[])∧∃q' os',w'=sortWorldK (AO k) k w blk off q' (Sort.insertionSort (ltOf cf) (Sort.insertionSort (ltOf cf) d 0 20) 20 d.size) os'):=
  fun q os=>VM L cf hO blk off cap d w hcmp eg hH hblk (by omega) 20 d.size _ q os h20 (le_refl _) p1.1
 have C3:Aside (∀q os,20<d.size→Calls P 136 #[.slice (some ⟨blk,off,none⟩) d.size cap,.int .i64 (0:Nat),.int .i64 (20:Nat),.int .i64 d.size,.func (.func 33) #[] #[]] (sortWorldK (AO k) k w blk off q (Sort.insertionSort (ltOf cf) (Sort.insertionSort (ltOf cf) d 0 20) 20 d.size) os) fun e w'=>e = .returned (.tuple #[])∧∃q' os',w'=sortWorldK (AO k) k w blk off q' (Be (ltOf cf) 40 (Sort.insertionSort (ltOf cf) (Sort.insertionSort (ltOf cf) d 0 20) 20 d.size) 0 20 d.size) os'):=
  fun q os h=>UT L cf blk off cap d w hcmp eg hH hblk (by omega) 40 0 20 d.size _ q os (by omega) h (le_refl _) (by omega) p2.1
 have SA:Hid (NB (ltOf cf) d=if 20<d.size then Be (ltOf cf) 40 (Sort.insertionSort (ltOf cf) (Sort.insertionSort (ltOf cf) d 0 20) 20 d.size) 0 20 d.size else Sort.insertionSort (ltOf cf) (Sort.insertionSort (ltOf cf) d 0 20) 20 d.size):=rfl;have h1:(20:Int)≤(d.size:Int):=by omega
 have h2:¬(40:Int)≤(d.size:Int):=by omega
 have h3:¬(40:Int)<(d.size:Int):=by omega
 clear hcmp hH hw0 p1 p2
 go_enter L.f73,Tryz.ntmps73
 go_wp2
 refine wp_loop_rounds 2 ?_;rw [rounds_succ]
 go_wp2_with (go_at_fn 135;fail)
 refine Calls.mono c1 ?_
 rintro _ _ ⟨rfl,q1,os1,rfl⟩
 go_wp2
 rw [rounds_succ]
 go_wp2_with (go_at_fn 135;fail)
 refine Calls.mono (C2.out q1 os1) ?_
 rintro _ _ ⟨rfl,q2,os2,rfl⟩
 go_wp2
 by_cases hlt:20<d.size
 ·have hltz:(20:Int)<(d.size:Int):=by omega
  refine wp_loop_rounds 2 ?_;rw [rounds_succ]
  go_wp2
  refine wp_loop_rounds 1 ?_;rw [rounds_succ]
  go_wp2_with (go_at_fn 136;fail)
  refine Calls.mono (C3.out q2 os2 hlt) ?_
  rintro _ _ ⟨rfl,q3,os3,rfl⟩
  go_wp2
  rw [rounds_succ]
  go_wp2
  go_end0
  exact ⟨rfl,q3,os3,by rw [SA.out,if_pos hlt]⟩
 ·have hltz:¬(20:Int)<(d.size:Int):=by omega
  refine wp_loop_rounds 1 ?_;rw [rounds_succ]
  go_wp2
  go_end0
  exact ⟨rfl,q2,os2,by rw [SA.out,if_neg hlt]⟩
theorem stab32 (blk off cap n:Nat) (fv:Value) (w:World) (R:World→Prop) (h:Calls Tryz.prog 73 #[.slice (some ⟨blk,off,none⟩) n cap,.int .i64 n,fv] w fun e w'=>e = .returned (.tuple #[])∧R w') :
  Calls Tryz.prog 32 #[.slice (some ⟨blk,off,none⟩) n cap,fv] w fun e w'=>e = .returned (.tuple #[])∧R w':=by
 go_enter Tryz.func32,Tryz.ntmps32
 go_wp2_with (go_at_fn 73;fail)
 refine Calls.mono h ?_
 rintro e w' ⟨rfl,hR⟩
 go_wp2
 go_end0
 exact ⟨rfl,hR⟩
theorem perm32s:GB Tryz.prog 32 4 39 (some 33) (Hn (BH [0,1])) where
 len:=fun d=>(Ed (Bm _) d).length_eq
 int:=fun d h=>all_eq_true.2 fun e he=>all_eq_true.1 h e ((Ed (Bm _) d).mem_iff.1 he)
 nil:=Uu.nil
 run:=fun d w b o cap cells el fr hint hlen hb hth hfit hcell=>by
  by_cases h20:d.length<20
  ·have h:=Uu.run d w b o cap cells el fr hint (by omega) hb hth hfit hcell;have e:Hn (BH [0,1]) d=RW (BH [0,1]) d:=if_pos h20;rw [e];exact h
  ·have hH:=holds_of hint hb hth hfit hcell;have hpm:=Ed (Bm [0,1]) d;have hcon:=stab73 Tryz.stL (BH [0,1]) (Bm [0,1]) b o cap d.toArray w (fun _ _ _ _ x y=>Ko.calls x y _) Ko.enters hH (Array.getElem?_eq_some_iff.1 hb).1 (by simp;omega) (by simp;omega);simp only [size_toArray] at hcon;refine stab32 b o cap d.length _ w _ (Calls.mono hcon fun e w' h => ?_);obtain ⟨h1,n,os,rfl⟩:=h;refine ⟨h1,?_⟩;have hi2:A7 4 (Hn (BH [0,1]) d)=true:=all_eq_true.2 fun e he=>all_eq_true.1 hint e (hpm.mem_iff.1 he);have:=Ee (n:=n) hb hi2 (by rw [hpm.length_eq];exact hfit) os;have e:Hn (BH [0,1]) d=(NB (ltOf (BH [0,1])) d.toArray).toList:=if_neg h20;rw [e] at this ⊢;simpa using this
end Ab
