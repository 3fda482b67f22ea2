/- A part of the proof: see the last text. -/
import Derived.Test.YtefjndpcjdbebaaGreatDoorM5
import Derived.Test.YtefjndpcjdbebaaGreatDoorProg
import Derived.Deep.LoopGhost
import Derived.Below
import Derived.WideMake
import Derived.WalkKit
import Derived.KernelRfl
import Derived.Test.YtefjndpcjdbebaaGreatDoorRows
import Derived.Test.YtefjndpcjdbebaaGreatDoorChecked
import Derived.JoinedOf
import Derived.ProofKit
import Derived.RowKit
set_option linter.unusedVariables false
set_option linter.unusedSimpArgs false
open Array (eq_empty_of_size_eq_zero getElem?_push getElem?_toList)
open Bool (false_eq_true not_eq_true')
open Int (lt_irrefl natCast_nonneg tdiv tmod toNat toNat_natCast toNat_zero)
open List (append_assoc append_nil cons_append drop drop_drop drop_eq_getElem_cons drop_left drop_left' drop_nil drop_zero eq_nil_of_length_eq_zero flatten_append flatten_cons foldl_cons getD_eq_getElem?_getD getElem?_append_left getElem?_cons_succ getElem?_cons_zero getElem?_drop getElem?_eq_getElem getElem?_eq_none getElem?_map getElem?_range getElem?_take getElem?_take_of_lt length length_append length_cons length_drop length_map length_nil length_pos_iff length_range length_take map_append map_cons map_nil mem_append mem_append_left mem_cons mem_cons_of_mem mem_cons_self mem_map mem_of_getElem? mem_of_mem_drop mem_of_mem_take mem_range mem_singleton nil_append not_mem_nil take take_add_one take_append_drop take_length take_nil take_of_length_le take_zero)
open Nat (add_zero le_refl lt_of_lt_of_le lt_or_ge mod_eq_of_lt mod_lt mul_comm mul_one ne_of_lt reduceAdd reduceEqDiff sub_zero zero_add zero_le)
open Option (map_some)
namespace Ab
open Go
def zz (n:Int):Nat:=(if n<0 then -2*n-1 else 2*n).toNat
def nkF:Nat→Nat→Nat
 |0,_=>0
 |f+1,m=>if m<128 then 0 else nkF f (m / 128)+1
def nk (m:Nat):Nat:=nkF 9 m
theorem div_pow (m j:Nat):m / 128 ^ (j+1)=m / 128 / 128 ^ j:=by rw [Nat.pow_succ,mul_comm,Nat.div_div_eq_div_mul]
theorem div_pow' (m j:Nat):m / 128 ^ (j+1)=m / 128 ^ j / 128:=by rw [Nat.pow_succ,Nat.div_div_eq_div_mul]
theorem OW:∀(f m:Nat),m<128 ^ (f+1)→m / 128 ^ nkF f m<128∧(∀j,j<nkF f m→128≤m / 128 ^ j)∧nkF f m≤f
 |0,m,h=>by refine ⟨by simpa [nkF] using h,fun j hj => ?_,le_refl _⟩;simp [nkF] at hj
 |f+1,m,h=>by
  unfold nkF;by_cases hm:m<128
  ·simp only [hm,if_true];exact ⟨by simpa using hm,fun j hj=>by omega,by omega⟩
  ·simp only [hm,if_false];have h1:m / 128<128 ^ (f+1):=by rw [Nat.pow_succ] at h;exact Nat.div_lt_of_lt_mul (by rw [mul_comm];exact h)
   obtain ⟨a,b,c⟩:=OW f (m / 128) h1;refine ⟨by rw [div_pow];exact a,fun j hj => ?_,by omega⟩;cases j with
   |zero=>simpa using hm
   |succ j=>rw [div_pow];exact b j (by omega)
theorem Gy {m:Nat} (h:m<9223372036854775808):m / 128 ^ nk m<128∧(∀j,j<nk m→128≤m / 128 ^ j)∧nk m≤8:=by
 obtain ⟨a,b,c⟩:=OW 9 m (by
  have:(128:Nat) ^ (9+1)=1180591620717411303424:=by decide
  omega)
 refine ⟨a,b,?_⟩;rcases lt_or_ge (nkF 9 m) 9 with h1|h1
 ·show nkF 9 m≤8;omega
 ·have h2:=b 8 (by omega);have e:(128:Nat) ^ 8=72057594037927936:=by decide
  rw [e] at h2;have:72057594037927936*(m / 72057594037927936)≤m:=Nat.mul_div_le _ _;omega
def grp (m:Nat):Nat→List UInt8
 |0=>[UInt8.ofNat (m % 128)]
 |j+1=>UInt8.ofNat (m / 128 ^ (j+1) % 128+128)::grp m j
theorem Ii (m:Nat):∀k,(grp m k).length=k+1
 |0=>rfl
 |k+1=>by rw [grp,length_cons,Ii m k]
theorem Nc (m:Nat):∀k i,i≤k→(grp m k)[i]? = some (UInt8.ofNat (m / 128 ^ (k-i) % 128+if i<k then 128 else 0))
 |0,i,h=>by
  obtain rfl:i=0:=by omega
  simp [grp]
 |k+1,0,_=>by simp [grp]
 |k+1,i+1,h=>by
  rw [grp,getElem?_cons_succ,Nc m k i (by omega)];congr 3
  ·rw [show k+1-(i+1)=k-i by omega]
  ·simp
theorem UC (m k:Nat) (i:Nat) (hi:i≤k):(grp m k).take (i+1)=(grp m k).take i++[UInt8.ofNat (m / 128 ^ (k-i) % 128+if i<k then 128 else 0)]:=by rw [take_add_one,Nc m k i hi];rfl
def Ak (n:Int):List UInt8:=grp (zz n) (nk (zz n))
def CK (n:Int):ByteArray:=mkB (Ak n)
def inR (n:Int):Prop := -1152921504606846976≤n∧n≤1152921504606846976
instance (n:Int):Decidable (inR n):=by unfold inR;exact inferInstance
theorem MG {n:Int} (h:inR n):zz n<2305843009213693953:=by unfold inR at h;unfold zz;split<;>omega
theorem Gc (n:Int):(Ak n).length=nk (zz n)+1:=Ii _ _
theorem DX (n:Int) (h:inR n):1≤(Ak n).length∧(Ak n).length≤9:=by have:=(Gy (m:=zz n) (by have:=MG h;omega)).2.2;rw [Gc];omega
theorem Cr (n:Int) (h:inR n):1≤(CK n).size∧(CK n).size≤9:=by rw [CK,Bp];exact DX n h
theorem s75 (n:Int):AL C 75 [tI n] [.bool (decide (inR n))]:=by refine AL.of (fun m=>e75 m _) (Ev.of fun m => ?_);simp only [AD,ge_iff_le,decide_eq_true_eq,inR];by_cases h : -1152921504606846976≤n<;>simp [h]
theorem s77 (n:Int) (h:inR n):AL C 77 [tI n] [tI (zz n:Nat)]:=by
 refine AL.of (fun m=>e77 m _) (Ev.of fun m => ?_);unfold inR at h;simp only [AD,decide_eq_true_eq,zz];by_cases hn:n<0
 ·rw [if_pos hn,if_pos hn,AX (x := -2*n) (by omega) (by omega),AX (by omega) (by omega)];congr 3;omega
 ·rw [if_neg hn,if_neg hn,AX (by omega) (by omega)];congr 3;omega
theorem fdiv_pow (m p:Nat):Int.fdiv (m:Int) ((2:Int) ^ p)=((m / 2 ^ p:Nat):Int):=by
 have e:((2:Int) ^ p)=((2 ^ p:Nat):Int):=by simp
 rw [e,Int.fdiv_eq_ediv_of_nonneg _ (natCast_nonneg _)];rfl
theorem shr7 (m i:Nat) (h:7*i≤64):Df .i64 (m:Int) ((7*i:Nat):Int)=((m / 128 ^ i:Nat):Int):=by
 unfold Df;have e:min ((7*i:Nat):Int).toNat IntKind.i64.bits=7*i:=by show min ((7*i:Nat):Int).toNat 64=_;omega
 rw [e,fdiv_pow,Nat.pow_mul]
theorem wrap_u8 (x:Int):IntKind.wrap .u8 x=x % 256:=by simp only [IntKind.wrap,IntKind.signed,IntKind.bits];simp
theorem DG (k x:Nat) (h:x<2 ^ k):(BitVec.ofInt k (x:Int)).toNat=x:=by rw [BitVec.ofInt_natCast,BitVec.toNat_ofNat,mod_eq_of_lt h]
theorem Lf (x:Nat) (h:x<256):Dg .u8 (x:Int) 127=((x % 128:Nat):Int):=by
 unfold Dg;have e1:(BitVec.ofInt IntKind.u8.bits (x:Int)).toNat=x:=DG 8 x h;have e2:(BitVec.ofInt IntKind.u8.bits 127).toNat=127:=by decide
 rw [BitVec.toNat_and,e1,e2,show (127:Nat)=2 ^ 7-1 by decide,Nat.and_two_pow_sub_one_eq_mod,wrap_u8];omega
theorem and1 (x:Nat) (h:x<9223372036854775808):Dg .i64 (x:Int) 1=((x % 2:Nat):Int):=by
 unfold Dg;have e1:(BitVec.ofInt IntKind.i64.bits (x:Int)).toNat=x:=DG 64 x (by omega);have e2:(BitVec.ofInt IntKind.i64.bits 1).toNat=1:=by decide
 rw [BitVec.toNat_and,e1,e2,show (1:Nat)=2 ^ 1-1 by decide,Nat.and_two_pow_sub_one_eq_mod,wrap64];omega
theorem or7 (a b:Nat) (ha:a<36028797018963968) (hb:b<128):orK .i64 (NF .i64 (a:Int) 7) (b:Int)=((a*128+b:Nat):Int):=by
 have e0:NF .i64 (a:Int) 7=((a*128:Nat):Int):=by
  unfold NF;have:min (7:Int).toNat IntKind.i64.bits=7:=by decide
  rw [this,wrap64];omega
 rw [e0];unfold orK;have e1:(BitVec.ofInt IntKind.i64.bits ((a*128:Nat):Int)).toNat=a*128:=DG 64 _ (by omega);have e2:(BitVec.ofInt IntKind.i64.bits (b:Int)).toNat=b:=DG 64 _ (by omega);have e3:a*128 ||| b=a*128+b:=by have:=Nat.shiftLeft_add_eq_or_of_lt (i:=7) hb a;rw [Nat.shiftLeft_eq] at this;exact this.symm
 rw [BitVec.toNat_or,e1,e2,e3,wrap64];omega
theorem byte_hi (m p:Nat):IntKind.wrap .u8 (Dg .u8 (IntKind.wrap .u8 ((m / 128 ^ p:Nat):Int)) 127+128)=((m / 128 ^ p % 128+128:Nat):Int):=by rw [wrap_u8 ((m / 128 ^ p:Nat):Int),show (((m / 128 ^ p:Nat):Int) % 256)=((m / 128 ^ p % 256:Nat):Int) by omega,Lf _ (by omega),wrap_u8];omega
theorem byte_lo (m p:Nat):Dg .u8 (IntKind.wrap .u8 ((m / 128 ^ p:Nat):Int)) 127=((m / 128 ^ p % 128:Nat):Int):=by rw [wrap_u8 ((m / 128 ^ p:Nat):Int),show (((m / 128 ^ p:Nat):Int) % 256)=((m / 128 ^ p % 256:Nat):Int) by omega,Lf _ (by omega)];omega
theorem KX (x:Nat) (h:x<256):([Tree.int IntKind.u8 (x:Int)]:List Tree)=tb (UInt8.ofNat x):=by unfold tb;rw [UInt8.toNat_ofNat'];congr 2;omega
def stW (m k i:Nat) (j:Int):List AV×Heap:=([.t (tI j)],[.row false i 1 (((grp m k).take i).map tb),.box [.sref 0 i 0 i],.box []])
theorem write32 (m k:Nat) (hm:m<2305843009213693953) (hk:k≤8) (y:List Tree) (hy:gI y 0=(m:Int)) :
  Ev fun n=>AH (fun p ag=>Pd n y p ag) n (stW m k 0 (7*k:Nat))=some [.str (mkB (grp m k)),tI 0]:=by
 refine Ao (B:=fun n=>Pd n y) id (List.range (k+1)) (fun i _=>stW m k i (7*(k:Int)-7*i)) (fun _ _ _ =>.next ()) (fun _=>[Tree.str (mkB (grp m k)),tI 0]) (fun _ _=>True) () ?_ trivial ?_
  (fun i s x hx hI=>Ev.of fun n again => ?_) (fun _ _ _ _ _ _ _=>trivial) (fun s hI=>Ev.of fun n again => ?_)
 ·simp only [stW];congr 4
 ·generalize List.range (k+1)=l;generalize 0=i
  induction l generalizing i with
  |nil=>rfl
  |cons x l ih=>exact ih (i+1)
 ·have hi:i≤k:=by have:=AY hx;simp at this;omega
  have h1:(7*(k:Int)-7*i)=((7*(k-i):Nat):Int):=by omega
  have h2:((grp m k).take i).length=i:=by rw [length_take,Ii];omega
  have h3:=UC m k i hi;have h9:take i (List.map tb ((grp m k).take i))=List.map tb ((grp m k).take i):=take_of_length_le (by rw [length_map,h2];exact le_refl _);rw [Rd.As];unfold Pd;simp only [stW,vv,reduceCtorEq,reduceAdd,reduceEqDiff,hy,h1,shr7 m (k-i) (by omega),J32_1,h9,h2];have h4:¬(((7*(k-i):Nat):Int)<0):=by omega
  have h5:(0:Int)≤((7*(k-i):Nat):Int):=by omega
  have h6:w64 (((7*(k-i):Nat):Int)-7)=7*(k:Int)-7*((i+1:Nat):Int):=by rw [AX (by omega) (by omega)];omega
  have h7:i+1≤1073741824:=by omega
  simp only [h4,h5,h6,h7,h9,vv,reduceCtorEq,reduceAdd,reduceEqDiff,le_refl,length_map,h2];by_cases hq:i<k
  ·have h8:(((7*(k-i):Nat):Int)==0)=false:=by rw [beq_eq_false_iff_ne];omega
   simp only [h8,vv,reduceCtorEq,reduceAdd,reduceEqDiff,byte_hi,h9];rw [h3,if_pos hq,map_append,map_cons,map_nil,KX _ (by omega)]
  ·have h8:(((7*(k-i):Nat):Int)==0)=true:=by rw [beq_iff_eq];omega
   simp only [h8,vv,reduceCtorEq,reduceAdd,reduceEqDiff,byte_lo,h9];rw [if_neg hq] at h3;simp only [add_zero] at h3;rw [h3,map_append,map_cons,map_nil,KX _ (by omega)]
 ·have h1:¬((0:Int)≤7*(k:Int)-7*((List.range (k+1)).length:Nat)):=by rw [length_range];omega
  have h2:(grp m k).take (List.range (k+1)).length=grp m k:=take_of_length_le (by rw [Ii,length_range];omega);have h3:take (List.range (k+1)).length ((grp m k).map tb)=(grp m k).map tb:=take_of_length_le (by rw [length_map,Ii,length_range];omega);unfold Pd;simp only [stW,vv,reduceCtorEq,reduceAdd,reduceEqDiff,h1,h2,h3,Eb,Fp,id]
theorem s32 (n:Int) (hn:inR n):AL C 32 [tI n] [.str (CK n),tI 0]:=by
 refine AL.of (fun m=>e32 m _) ?_;have hz:=MG hn;obtain ⟨k1,k2,k3⟩:=Gy (m:=zz n) (by omega);refine Ev.rw ((s75 n).and (s77 n hn)) (T':=fun m=>AH (fun p ag=>Pc m [tI (zz n:Nat)] p ag) m (stW (zz n) (nk (zz n)) 0 0)) (fun m h=>by simp only [h.1,h.2,hn,vv,reduceCtorEq,reduceAdd,reduceEqDiff,stW,take_zero,map_nil]) ?_
 refine Ao (B:=fun m=>Pc m [tI (zz n:Nat)]) id (List.range (nk (zz n))) (fun i _=>stW (zz n) (nk (zz n)) 0 (7*i:Nat)) (fun _ _ _ =>.next ()) (fun _=>[Tree.str (CK n),tI 0]) (fun _ _=>True) () rfl trivial ?_
  (fun i s x hx hI=>Ev.of fun m again => ?_) (fun _ _ _ _ _ _ _=>trivial) (fun s hI => ?_)
 ·generalize List.range (nk (zz n))=l;generalize 0=i
  induction l generalizing i with
  |nil=>rfl
  |cons x l ih=>exact ih (i+1)
 ·have hi:i<nk (zz n):=by have:=AY hx;simpa using this
  have h1:=k2 i hi;have h2:¬(((7*i:Nat):Int)<0):=by omega
  have h3:w64 (((7*i:Nat):Int)+7)=((7*(i+1):Nat):Int):=by rw [AX (by omega) (by omega)];omega
  rw [Rd.As];unfold Pc;simp only [stW,vv,reduceCtorEq,reduceAdd,reduceEqDiff,shr7 (zz n) i (by omega),h2,h3,take_zero,map_nil];rw [AZ (by omega)]
 ·refine (write32 (zz n) (nk (zz n)) (by omega) k3 [tI (zz n:Nat)] rfl).mono fun m h again => ?_;have h0:((List.range (nk (zz n))).length)=nk (zz n):=length_range;have h2:¬(((7*nk (zz n):Nat):Int)<0):=by omega
  have h3:¬((128:Int)≤((zz n / 128 ^ nk (zz n):Nat):Int)):=by omega
  unfold Pc;simp only [h0,stW,vv,reduceCtorEq,reduceAdd,reduceEqDiff,shr7 (zz n) (nk (zz n)) (by omega),h2,h3,take_zero,map_nil];simp only [stW,take_zero,map_nil] at h;exact h
def uz (m:Nat):Int:=if m % 2=1 then -((m / 2:Nat):Int)-1 else ((m / 2:Nat):Int)
theorem TG (n:Int):uz (zz n)=n:=by
 unfold uz zz;by_cases h:n<0
 ·rw [if_pos h,if_pos (by omega)];omega
 ·rw [if_neg h,if_neg (by omega)];omega
theorem shr1 (m:Nat):Df .i64 (m:Int) 1=((m / 2:Nat):Int):=by
 have:=fdiv_pow m 1;unfold Df;have e:min (1:Int).toNat IntKind.i64.bits=1:=by decide
 rw [e,this]
def JD (s:ByteArray) (n:Int):Prop:=inR n∧s.size≤1099511627776∧∃post,bl s=Ak n++post
theorem JD.byte {s:ByteArray} {n:Int} (h:JD s n) {i:Nat} (hi:i≤nk (zz n)):i<s.size∧Ax s i=((zz n / 128 ^ (nk (zz n)-i) % 128+if i<nk (zz n) then 128 else 0:Nat):Int):=by
 obtain ⟨h1,h2,post,h3⟩:=h;have h4:=Nc (zz n) (nk (zz n)) i hi;have h5:(bl s)[i]? = some (UInt8.ofNat (zz n / 128 ^ (nk (zz n)-i) % 128+if i<nk (zz n) then 128 else 0)):=by rw [h3,getElem?_append_left (by rw [Gc];omega)];exact h4
 refine ⟨by rw [← AS];exact AY h5,?_⟩;rw [Jd,getD_eq_getElem?_getD,h5,Option.getD_some,UInt8.toNat_ofNat'];congr 1;apply mod_eq_of_lt;split<;>omega
def stR (s:ByteArray) (n:Int) (i:Nat):List AV×Heap:=([.t (tI ((zz n / 128 ^ (nk (zz n)+1-i):Nat):Int)),.t (.bool (decide (i=nk (zz n)+1))),.t (tI (i:Nat))],[.box [.t (.str s),.t (tI 0),.t (tI 0)]])
theorem Kd (s:ByteArray) {n:Int} (hn:inR n):stR s n 0=([.t (tI 0),.t (.bool false),.t (tI 0)],[.box [.t (.str s),.t (tI 0),.t (tI 0)]]):=by
 have hz:=MG hn;obtain ⟨k1,k2,k3⟩:=Gy (m:=zz n) (by omega);have:zz n / 128 ^ (nk (zz n)+1-0)=0:=by rw [sub_zero,div_pow',Nat.div_eq_of_lt k1]
 unfold stR;rw [this,decide_eq_false (by omega)];rfl
theorem read83 {s:ByteArray} {n:Int} (h:JD s n):Ev fun m=>∀ag:List AV×Heap→Option (List Tree),AH (fun p again=>PX m ag p again) m ([.t (tI 0),.t (.bool false),.t (tI 0)],[.box [.t (.str s),.t (tI 0),.t (tI 0)]])=
  ag ([.t (tI n)],[.box [.t (.str s),.t (tI ((Ak n).length:Nat)),.t (tI 0)]]):=by
 have hn:=h.1;have hz:=MG hn;obtain ⟨k1,k2,k3⟩:=Gy (m:=zz n) (by omega);have hsz:=h.2.1;refine Fg (B:=fun m ag p again=>PX m ag p again) (List.range (nk (zz n)+1)) (fun i _=>stR s n i) (fun _ _ _ =>.next ()) (fun _=>(([.t (tI n)],[.box [.t (.str s),.t (tI ((Ak n).length:Nat)),.t (tI 0)]]):List AV×Heap)) (fun ag q=>ag q) (fun _ _=>True) ()
  (Kd s hn).symm trivial ?_ (fun i s' x hx hI=>Ev.of fun m ag again => ?_) (fun _ _ _ _ _ _ _=>trivial) (fun s' hI => ?_)
 ·generalize List.range (nk (zz n)+1)=l;generalize 0=i
  induction l generalizing i with
  |nil=>rfl
  |cons x l ih=>exact ih (i+1)
 ·have hi:i≤nk (zz n):=by have:=AY hx;simp at this;omega
  obtain ⟨b1,b2⟩:=h.byte hi;rw [Rd.As];unfold PX;have e1:w64 (((s.size:Nat):Int)-0)=(s.size:Int):=by rw [AX (by omega) (by omega)];omega
  have e2:w64 (0+((i:Nat):Int))=(i:Int):=by rw [AX (by omega) (by omega)];omega
  have e3:((i:Int)==9)=false:=by rw [beq_eq_false_iff_ne];omega
  have e4:(((s.size:Nat):Int)==(i:Int))=false:=by rw [beq_eq_false_iff_ne];omega
  have e5:decide (i=nk (zz n)+1)=false:=by rw [decide_eq_false_iff_not];omega
  simp only [stR,vv,reduceCtorEq,reduceAdd,reduceEqDiff,e1,e2,e3,e4,e5,toNat_natCast,(show (i:Int)<(s.size:Int) by omega),b2];have e6:(zz n / 128 ^ (nk (zz n)-i) % 128+if i<nk (zz n) then 128 else 0)<256:=by split<;>omega
  rw [Lf _ e6];have e7:(zz n / 128 ^ (nk (zz n)-i) % 128+if i<nk (zz n) then 128 else 0) % 128=zz n / 128 ^ (nk (zz n)-i) % 128:=by split<;>omega
  have e8:zz n / 128 ^ (nk (zz n)+1-i)=zz n / 128 ^ (nk (zz n)-i) / 128:=by rw [show nk (zz n)+1-i=nk (zz n)-i+1 by omega,div_pow']
  have e9:zz n / 128 ^ (nk (zz n)-i)≤zz n:=Nat.div_le_self _ _;have e10:w64 ((zz n / 128 ^ (nk (zz n)-i) % 128:Nat):Int)=((zz n / 128 ^ (nk (zz n)-i) % 128:Nat):Int):=AX (by omega) (by omega);rw [e7,e10,e8,or7 _ _ (by omega) (by omega)];have e11:zz n / 128 ^ (nk (zz n)-i) / 128*128+zz n / 128 ^ (nk (zz n)-i) % 128=zz n / 128 ^ (nk (zz n)+1-(i+1)):=by rw [show nk (zz n)+1-(i+1)=nk (zz n)-i by omega];omega
  have e12:w64 ((i:Int)+1)=((i+1:Nat):Int):=BL (by omega);have e13:decide (((zz n / 128 ^ (nk (zz n)-i) % 128+if i<nk (zz n) then 128 else 0:Nat):Int)<128)=decide (i=nk (zz n)):=by
   by_cases hq:i<nk (zz n)
   ·rw [if_pos hq,decide_eq_false (by omega),decide_eq_false (by omega)]
   ·rw [if_neg hq,decide_eq_true (by omega),decide_eq_true (by omega)]
  rw [e11,e12,e13]
 ·obtain ⟨b1,b2⟩:=h.byte (zero_le _);refine (s75 n).mono fun m h75 ag again => ?_;have h0:(List.range (nk (zz n)+1)).length=nk (zz n)+1:=length_range;have hne:(((zz n / 128 ^ (nk (zz n)-0) % 128+if 0<nk (zz n) then 128 else 0:Nat):Int)==128)=false:=by
   rw [beq_eq_false_iff_ne,sub_zero];by_cases hq:0<nk (zz n)
   ·have:=k2 (nk (zz n)-1) (by omega);have e:zz n / 128 ^ nk (zz n)=zz n / 128 ^ (nk (zz n)-1) / 128:=by rw [← div_pow',show nk (zz n)-1+1=nk (zz n) by omega]
    rw [if_pos hq];omega
   ·rw [if_neg hq];omega
  have hv:zz n / 128 ^ (nk (zz n)+1-(nk (zz n)+1))=zz n:=by simp
  have hu:=TG n;unfold uz at hu;unfold PX;have e14:w64 (0+(((nk (zz n)+1:Nat)):Int))=(((Ak n).length:Nat):Int):=by rw [Gc,AX (by omega) (by omega)];omega
  have e15:¬(((zz n:Nat):Int)<0):=by omega
  simp only [h0,stR,vv,reduceCtorEq,reduceAdd,reduceEqDiff,hv,(show (0:Int)<(s.size:Int) by omega),b2,hne,toNat_zero,J83_6,J83_5,Int.le_refl,and1 (zz n) (by omega),shr1,e14,e15];by_cases hp:zz n % 2=1
  ·rw [if_pos hp] at hu;have e16:w64 (w64 (0-((zz n / 2:Nat):Int))-1)=n:=by rw [AX (x:=0-((zz n / 2:Nat):Int)) (by omega) (by omega),AX (by omega) (by omega)];omega
   have e17:(((zz n % 2:Nat):Int)==1)=true:=by rw [beq_iff_eq];omega
   simp only [e17,e16,vv,reduceCtorEq,reduceAdd,reduceEqDiff,h75,hn]
  ·rw [if_neg hp] at hu;have e17:(((zz n % 2:Nat):Int)==1)=false:=by rw [beq_eq_false_iff_ne];omega
   simp only [e17,hu,vv,reduceCtorEq,reduceAdd,reduceEqDiff,h75,hn]
theorem read84 {s:ByteArray} {n:Int} (h:JD s n):Ev fun m=>∀ag:List AV×Heap→Option (List Tree),AH (fun p again=>PW m ag p again) m ([.t (tI 0),.t (.bool false),.t (tI 0)],[.box [.t (.str s),.t (tI 0),.t (tI 0)]])=
  ag ([.t (tI n)],[.box [.t (.str s),.t (tI ((Ak n).length:Nat)),.t (tI 0)]]):=by
 have hn:=h.1;have hz:=MG hn;obtain ⟨k1,k2,k3⟩:=Gy (m:=zz n) (by omega);have hsz:=h.2.1;refine Fg (B:=fun m ag p again=>PW m ag p again) (List.range (nk (zz n)+1)) (fun i _=>stR s n i) (fun _ _ _ =>.next ()) (fun _=>(([.t (tI n)],[.box [.t (.str s),.t (tI ((Ak n).length:Nat)),.t (tI 0)]]):List AV×Heap)) (fun ag q=>ag q) (fun _ _=>True) ()
  (Kd s hn).symm trivial ?_ (fun i s' x hx hI=>Ev.of fun m ag again => ?_) (fun _ _ _ _ _ _ _=>trivial) (fun s' hI => ?_)
 ·generalize List.range (nk (zz n)+1)=l;generalize 0=i
  induction l generalizing i with
  |nil=>rfl
  |cons x l ih=>exact ih (i+1)
 ·have hi:i≤nk (zz n):=by have:=AY hx;simp at this;omega
  obtain ⟨b1,b2⟩:=h.byte hi;rw [Rd.As];unfold PW;have e1:w64 (((s.size:Nat):Int)-0)=(s.size:Int):=by rw [AX (by omega) (by omega)];omega
  have e2:w64 (0+((i:Nat):Int))=(i:Int):=by rw [AX (by omega) (by omega)];omega
  have e3:((i:Int)==9)=false:=by rw [beq_eq_false_iff_ne];omega
  have e4:(((s.size:Nat):Int)==(i:Int))=false:=by rw [beq_eq_false_iff_ne];omega
  have e5:decide (i=nk (zz n)+1)=false:=by rw [decide_eq_false_iff_not];omega
  simp only [stR,vv,reduceCtorEq,reduceAdd,reduceEqDiff,e1,e2,e3,e4,e5,toNat_natCast,(show (i:Int)<(s.size:Int) by omega),b2];have e6:(zz n / 128 ^ (nk (zz n)-i) % 128+if i<nk (zz n) then 128 else 0)<256:=by split<;>omega
  rw [Lf _ e6];have e7:(zz n / 128 ^ (nk (zz n)-i) % 128+if i<nk (zz n) then 128 else 0) % 128=zz n / 128 ^ (nk (zz n)-i) % 128:=by split<;>omega
  have e8:zz n / 128 ^ (nk (zz n)+1-i)=zz n / 128 ^ (nk (zz n)-i) / 128:=by rw [show nk (zz n)+1-i=nk (zz n)-i+1 by omega,div_pow']
  have e9:zz n / 128 ^ (nk (zz n)-i)≤zz n:=Nat.div_le_self _ _;have e10:w64 ((zz n / 128 ^ (nk (zz n)-i) % 128:Nat):Int)=((zz n / 128 ^ (nk (zz n)-i) % 128:Nat):Int):=AX (by omega) (by omega);rw [e7,e10,e8,or7 _ _ (by omega) (by omega)];have e11:zz n / 128 ^ (nk (zz n)-i) / 128*128+zz n / 128 ^ (nk (zz n)-i) % 128=zz n / 128 ^ (nk (zz n)+1-(i+1)):=by rw [show nk (zz n)+1-(i+1)=nk (zz n)-i by omega];omega
  have e12:w64 ((i:Int)+1)=((i+1:Nat):Int):=BL (by omega);have e13:decide (((zz n / 128 ^ (nk (zz n)-i) % 128+if i<nk (zz n) then 128 else 0:Nat):Int)<128)=decide (i=nk (zz n)):=by
   by_cases hq:i<nk (zz n)
   ·rw [if_pos hq,decide_eq_false (by omega),decide_eq_false (by omega)]
   ·rw [if_neg hq,decide_eq_true (by omega),decide_eq_true (by omega)]
  rw [e11,e12,e13]
 ·obtain ⟨b1,b2⟩:=h.byte (zero_le _);refine (s75 n).mono fun m h75 ag again => ?_;have h0:(List.range (nk (zz n)+1)).length=nk (zz n)+1:=length_range;have hne:(((zz n / 128 ^ (nk (zz n)-0) % 128+if 0<nk (zz n) then 128 else 0:Nat):Int)==128)=false:=by
   rw [beq_eq_false_iff_ne,sub_zero];by_cases hq:0<nk (zz n)
   ·have:=k2 (nk (zz n)-1) (by omega);have e:zz n / 128 ^ nk (zz n)=zz n / 128 ^ (nk (zz n)-1) / 128:=by rw [← div_pow',show nk (zz n)-1+1=nk (zz n) by omega]
    rw [if_pos hq];omega
   ·rw [if_neg hq];omega
  have hv:zz n / 128 ^ (nk (zz n)+1-(nk (zz n)+1))=zz n:=by simp
  have hu:=TG n;unfold uz at hu;unfold PW;have e14:w64 (0+(((nk (zz n)+1:Nat)):Int))=(((Ak n).length:Nat):Int):=by rw [Gc,AX (by omega) (by omega)];omega
  have e15:¬(((zz n:Nat):Int)<0):=by omega
  simp only [h0,stR,vv,reduceCtorEq,reduceAdd,reduceEqDiff,hv,(show (0:Int)<(s.size:Int) by omega),b2,hne,toNat_zero,J84_6,J84_5,Int.le_refl,and1 (zz n) (by omega),shr1,e14,e15];by_cases hp:zz n % 2=1
  ·rw [if_pos hp] at hu;have e16:w64 (w64 (0-((zz n / 2:Nat):Int))-1)=n:=by rw [AX (x:=0-((zz n / 2:Nat):Int)) (by omega) (by omega),AX (by omega) (by omega)];omega
   have e17:(((zz n % 2:Nat):Int)==1)=true:=by rw [beq_iff_eq];omega
   simp only [e17,e16,vv,reduceCtorEq,reduceAdd,reduceEqDiff,h75,hn]
  ·rw [if_neg hp] at hu;have e17:(((zz n % 2:Nat):Int)==1)=false:=by rw [beq_eq_false_iff_ne];omega
   simp only [e17,hu,vv,reduceCtorEq,reduceAdd,reduceEqDiff,h75,hn]
theorem read85 {s:ByteArray} {n:Int} (h:JD s n):Ev fun m=>∀ag:List AV×Heap→Option (List Tree),AH (fun p again=>PV m ag p again) m ([.t (tI 0),.t (.bool false),.t (tI 0)],[.box [.t (.str s),.t (tI 0),.t (tI 0)]])=
  ag ([.t (tI n)],[.box [.t (.str s),.t (tI ((Ak n).length:Nat)),.t (tI 0)]]):=by
 have hn:=h.1;have hz:=MG hn;obtain ⟨k1,k2,k3⟩:=Gy (m:=zz n) (by omega);have hsz:=h.2.1;refine Fg (B:=fun m ag p again=>PV m ag p again) (List.range (nk (zz n)+1)) (fun i _=>stR s n i) (fun _ _ _ =>.next ()) (fun _=>(([.t (tI n)],[.box [.t (.str s),.t (tI ((Ak n).length:Nat)),.t (tI 0)]]):List AV×Heap)) (fun ag q=>ag q) (fun _ _=>True) ()
  (Kd s hn).symm trivial ?_ (fun i s' x hx hI=>Ev.of fun m ag again => ?_) (fun _ _ _ _ _ _ _=>trivial) (fun s' hI => ?_)
 ·generalize List.range (nk (zz n)+1)=l;generalize 0=i
  induction l generalizing i with
  |nil=>rfl
  |cons x l ih=>exact ih (i+1)
 ·have hi:i≤nk (zz n):=by have:=AY hx;simp at this;omega
  obtain ⟨b1,b2⟩:=h.byte hi;rw [Rd.As];unfold PV;have e1:w64 (((s.size:Nat):Int)-0)=(s.size:Int):=by rw [AX (by omega) (by omega)];omega
  have e2:w64 (0+((i:Nat):Int))=(i:Int):=by rw [AX (by omega) (by omega)];omega
  have e3:((i:Int)==9)=false:=by rw [beq_eq_false_iff_ne];omega
  have e4:(((s.size:Nat):Int)==(i:Int))=false:=by rw [beq_eq_false_iff_ne];omega
  have e5:decide (i=nk (zz n)+1)=false:=by rw [decide_eq_false_iff_not];omega
  simp only [stR,vv,reduceCtorEq,reduceAdd,reduceEqDiff,e1,e2,e3,e4,e5,toNat_natCast,(show (i:Int)<(s.size:Int) by omega),b2];have e6:(zz n / 128 ^ (nk (zz n)-i) % 128+if i<nk (zz n) then 128 else 0)<256:=by split<;>omega
  rw [Lf _ e6];have e7:(zz n / 128 ^ (nk (zz n)-i) % 128+if i<nk (zz n) then 128 else 0) % 128=zz n / 128 ^ (nk (zz n)-i) % 128:=by split<;>omega
  have e8:zz n / 128 ^ (nk (zz n)+1-i)=zz n / 128 ^ (nk (zz n)-i) / 128:=by rw [show nk (zz n)+1-i=nk (zz n)-i+1 by omega,div_pow']
  have e9:zz n / 128 ^ (nk (zz n)-i)≤zz n:=Nat.div_le_self _ _;have e10:w64 ((zz n / 128 ^ (nk (zz n)-i) % 128:Nat):Int)=((zz n / 128 ^ (nk (zz n)-i) % 128:Nat):Int):=AX (by omega) (by omega);rw [e7,e10,e8,or7 _ _ (by omega) (by omega)];have e11:zz n / 128 ^ (nk (zz n)-i) / 128*128+zz n / 128 ^ (nk (zz n)-i) % 128=zz n / 128 ^ (nk (zz n)+1-(i+1)):=by rw [show nk (zz n)+1-(i+1)=nk (zz n)-i by omega];omega
  have e12:w64 ((i:Int)+1)=((i+1:Nat):Int):=BL (by omega);have e13:decide (((zz n / 128 ^ (nk (zz n)-i) % 128+if i<nk (zz n) then 128 else 0:Nat):Int)<128)=decide (i=nk (zz n)):=by
   by_cases hq:i<nk (zz n)
   ·rw [if_pos hq,decide_eq_false (by omega),decide_eq_false (by omega)]
   ·rw [if_neg hq,decide_eq_true (by omega),decide_eq_true (by omega)]
  rw [e11,e12,e13]
 ·obtain ⟨b1,b2⟩:=h.byte (zero_le _);refine (s75 n).mono fun m h75 ag again => ?_;have h0:(List.range (nk (zz n)+1)).length=nk (zz n)+1:=length_range;have hne:(((zz n / 128 ^ (nk (zz n)-0) % 128+if 0<nk (zz n) then 128 else 0:Nat):Int)==128)=false:=by
   rw [beq_eq_false_iff_ne,sub_zero];by_cases hq:0<nk (zz n)
   ·have:=k2 (nk (zz n)-1) (by omega);have e:zz n / 128 ^ nk (zz n)=zz n / 128 ^ (nk (zz n)-1) / 128:=by rw [← div_pow',show nk (zz n)-1+1=nk (zz n) by omega]
    rw [if_pos hq];omega
   ·rw [if_neg hq];omega
  have hv:zz n / 128 ^ (nk (zz n)+1-(nk (zz n)+1))=zz n:=by simp
  have hu:=TG n;unfold uz at hu;unfold PV;have e14:w64 (0+(((nk (zz n)+1:Nat)):Int))=(((Ak n).length:Nat):Int):=by rw [Gc,AX (by omega) (by omega)];omega
  have e15:¬(((zz n:Nat):Int)<0):=by omega
  simp only [h0,stR,vv,reduceCtorEq,reduceAdd,reduceEqDiff,hv,(show (0:Int)<(s.size:Int) by omega),b2,hne,toNat_zero,J85_6,J85_5,Int.le_refl,and1 (zz n) (by omega),shr1,e14,e15];by_cases hp:zz n % 2=1
  ·rw [if_pos hp] at hu;have e16:w64 (w64 (0-((zz n / 2:Nat):Int))-1)=n:=by rw [AX (x:=0-((zz n / 2:Nat):Int)) (by omega) (by omega),AX (by omega) (by omega)];omega
   have e17:(((zz n % 2:Nat):Int)==1)=true:=by rw [beq_iff_eq];omega
   simp only [e17,e16,vv,reduceCtorEq,reduceAdd,reduceEqDiff,h75,hn]
  ·rw [if_neg hp] at hu;have e17:(((zz n % 2:Nat):Int)==1)=false:=by rw [beq_eq_false_iff_ne];omega
   simp only [e17,hu,vv,reduceCtorEq,reduceAdd,reduceEqDiff,h75,hn]
theorem s83 {s:ByteArray} {n:Int} (h:JD s n):AL C 83 [.str s] [tI n,tI ((Ak n).length:Nat),tI 0]:=by refine AL.of (fun m=>e83 m _) ?_;refine (read83 h).mono fun m hm => ?_;rw [join_eq,hm];simp only [J83_8,vv,reduceCtorEq,reduceAdd,reduceEqDiff];rfl
theorem TV:AL C 83 [.str (ByteArray.mk #[])] [tI 0,tI 0,tI 12]:=by refine AL.of (fun m=>e83 m _) (Ev.succ (Ev.of fun m => ?_));rfl
end Ab
namespace Ab
open Go
theorem DY (a b:ByteArray):bl (a++b)=bl a++bl b:=by simp [bl]
theorem FA (n:Int):bl (CK n)=Ak n:=DJ _
theorem A9 (a b:ByteArray):(a++b).size=a.size+b.size:=by rw [← AS,DY,length_append,AS,AS]
def AT (s:ByteArray):ByteArray:=CK s.size++s
theorem Dz {k:Nat} (h:k≤1152921504606846976):inR (k:Int):=by unfold inR;omega
theorem Gf (s:ByteArray):bl (AT s)=Ak s.size++bl s:=by rw [AT,DY,FA]
theorem BR (s:ByteArray) (h:s.size≤1152921504606846976):s.size+1≤(AT s).size∧(AT s).size≤s.size+9:=by have:=Cr s.size (Dz h);rw [AT,A9];omega
theorem s30 (s:ByteArray) (h:s.size≤65536):AL C 30 [.str s] [.str (AT s),tI 0]:=by refine AL.of (fun m=>e30 m _) ?_;refine (s32 (s.size:Nat) (Dz (by omega))).mono fun m hm => ?_;have h1:=Cr s.size (Dz (by omega));rw [Aw (by rw [decide_eq_true_eq];omega)];simp only [hm,vv,reduceCtorEq,reduceAdd,reduceEqDiff,AZ (show (CK (s.size:Nat)).size+s.size≤9223372036854775807 by omega)];rfl
theorem s84 {S t:ByteArray} {post:List UInt8} (h:bl S=bl (AT t)++post) (ht:t.size≤65536) (hS:S.size≤1099511627776):AL C 84 [.str S] [.str t,tI ((AT t).size:Nat),tI 0]:=by
 refine AL.of (fun m=>e84 m _) ?_;have hI:JD S (t.size:Nat):=⟨Dz (by omega),hS,bl t++post,by rw [h,Gf,append_assoc]⟩
 refine (read84 hI).mono fun m hm => ?_;have hlen:S.size=(Ak (t.size:Nat)).length+t.size+post.length:=by rw [← AS S,h,length_append,Gf,length_append,AS]
 have hp:=DX (t.size:Nat) (Dz (by omega));have e1:¬(((t.size:Nat):Int)<0):=by omega
 have e2:¬((65536:Int)<((t.size:Nat):Int)):=by omega
 have e3:w64 ((S.size:Int)-(((Ak (t.size:Nat)).length:Nat):Int))=(t.size+post.length:Nat):=by rw [AX (by omega) (by omega)];omega
 have e4:w64 ((((Ak (t.size:Nat)).length:Nat):Int)+((t.size:Nat):Int))=(((AT t).size:Nat):Int):=by rw [AX (by omega) (by omega),AT,A9,CK,Bp];omega
 have e5:(AT t).size=(Ak (t.size:Nat)).length+t.size:=by rw [AT,A9,CK,Bp]
 rw [join_eq,join_eq,hm];simp only [J84_8,J84_9,vv,reduceCtorEq,reduceAdd,reduceEqDiff,e1,e2,e3,e4,bne_self_eq_false];rw [Aw (by omega),AZ (by omega),AZ (by omega)];congr 3;apply CW;rw [Bl,h,Gf,append_assoc,drop_left,e5,Nat.add_sub_cancel_left,List.take_left' (AS t)]
theorem ET:Ak 0=[0]:=by decide
theorem s40_nil:AL C 40 [.sl 1 []] [.str (CK 0),tI 0]:=by
 refine AL.of (fun m=>e40 m _) ?_;refine ((s32 0 (by decide)).and (Ev.ge 1)).mono fun m h => ?_;obtain ⟨hm,h1⟩:=h;obtain ⟨k,rfl⟩:∃k,m=k+1:=⟨m-1,by omega⟩
 have hm':AB C (k+1) 32 [tI ((([]:List (List Tree)).length:Nat):Int)]=some [.str (CK 0),tI 0]:=hm;rw [Aw (by decide),hm'];simp only [vv,reduceCtorEq,reduceAdd,reduceEqDiff];show U6 _ _ _ _=_;unfold U6;simp only [vv,reduceCtorEq,reduceAdd,reduceEqDiff,lt_irrefl,(show ¬((0:Int)<((([]:List (List Tree)).length:Nat):Int)) by decide)];have e2:(CK 0).size=1:=by rw [CK,Bp,ET];rfl
 simp only [e2,Di,FA,ET,map_cons,map_nil,List.take_succ_cons,take_zero,Eb];rfl
theorem s85_nil {S:ByteArray} {post:List UInt8} (h:bl S=Ak 0++post) (hS:S.size≤1099511627776):AL C 85 [.str S] [.sl 1 [],tI 1,tI 0]:=by
 refine AL.of (fun m=>e85 m _) ?_;have hI:JD S 0:=⟨by decide,hS,post,h⟩
 refine ((read85 hI).and (Ev.ge 1)).mono fun m hm => ?_;obtain ⟨hm,h1⟩:=hm;obtain ⟨k,rfl⟩:∃k,m=k+1:=⟨m-1,by omega⟩
 rw [join_eq,join_eq,hm];have e1:(Ak 0).length=1:=by rw [ET];rfl
 simp only [J85_8,VC,vv,reduceCtorEq,reduceAdd,reduceEqDiff,e1];rw [Aw (by decide),Aw (by decide)];show Q0 _ _ _ _=_;unfold Q0;simp only [vv,reduceCtorEq,reduceAdd,reduceEqDiff,VD];rw [Aw (by decide)];rfl
def upd (r:Int) (b:UInt8):Int:=Ck .u32 (Df .u32 r 8) (intOf (ID.getD (Ck .u8 (IntKind.wrap .u8 r) (b.toNat:Int)).toNat default))
def crcF (r:Int) (l:List UInt8):Int:=l.foldl upd r
theorem xor8 (a b:Int):0≤Ck .u8 a b∧Ck .u8 a b<256:=by unfold Ck;rw [wrap_u8];omega
theorem TK (i:Nat) (h:i<256):Ce .u32 (ID.getD i default)=true:=by
 have:ID.getD i default = .int .u32 (steps 8 (i:Nat)):=by simp [ID,h]
 rw [this];rfl
def stC (i:Nat) (r:Int):List AV×Heap:=([.t (tI (i:Nat))],[.box [.t (.int .u32 r)],.box [],.box []])
theorem s186 (r:Int) (s:ByteArray) (hs:s.size≤1099511627776):AL C 186 [.int .u32 r,.str s] [.int .u32 (crcF r (bl s))]:=by
 refine AL.of (fun m=>e186 m _ _) ?_;refine Ao (B:=fun m=>N2 m s) (fun q=>[Tree.int .u32 q]) (bl s) (fun i x=>stC i x) (fun _ x b =>.next (upd x b)) (fun x=>x) (fun _ _=>True) r rfl trivial (CQ upd (fun x=>x) 0 (bl s) r)
  (fun i x b hx hI=>Ev.of fun m again => ?_) (fun _ _ _ _ _ _ _=>trivial) (fun x hI=>Ev.of fun m again => ?_)
 ·have hi:=AY hx;rw [AS] at hi;have hb:Ax s i=(b.toNat:Int):=by rw [Jd,getD_eq_getElem?_getD,hx];rfl
  have hr:=xor8 (IntKind.wrap .u8 x) (b.toNat:Int);have hn:(Ck .u8 (IntKind.wrap .u8 x) (b.toNat:Int)).toNat<256:=by omega
  rw [Rd.As];unfold N2;simp only [stC,vv,reduceCtorEq,reduceAdd,reduceEqDiff,(show (i:Int)<(s.size:Int) by omega),hb,hr,mul_one,hn,TK _ hn,BL (show i<4611686018427387904 by omega)];rfl
 ·unfold N2;simp only [stC,vv,reduceCtorEq,reduceAdd,reduceEqDiff,AS,lt_irrefl]
def sumI (s:ByteArray):Int:=w64 (Ck .u32 (crcF 4294967295 (bl s)) 4294967295)
theorem s129 (s:ByteArray) (hs:s.size≤1099511627776):AL C 129 [.str s] [tI (sumI s)]:=by refine AL.of (fun m=>e129 m _) ?_;refine (s186 4294967295 s hs).mono fun m hm => ?_;simp only [hm,vv,reduceCtorEq,reduceAdd,reduceEqDiff];rfl
theorem O7 (es:List (List Tree)):bytesOf es=mkB (es.map HY):=by unfold bytesOf;apply CW;rw [MP,DJ];rfl
def tail4 (x:Int):List UInt8:=[HY [.int .u8 (IntKind.wrap .u8 x)],HY [.int .u8 (IntKind.wrap .u8 (Df .i64 x 8))],HY [.int .u8 (IntKind.wrap .u8 (Df .i64 x 16))],HY [.int .u8 (IntKind.wrap .u8 (Df .i64 x 24))]]
def F8 (s:ByteArray):ByteArray:=mkB (tail4 (sumI s))
theorem EX (s:ByteArray):(F8 s).size=4:=by rw [F8,Bp];rfl
theorem s79 (s:ByteArray) (hs:s.size≤1099511627776):AL C 79 [.str s] [.str (F8 s)]:=by refine AL.of (fun m=>e79 m _) ?_;have hb:∀a b c d:Int,DU [[.int .u8 a],[.int .u8 b],[.int .u8 c],[.int .u8 d]]=true:=fun _ _ _ _=>rfl;refine (s129 s hs).mono fun m hm => ?_;simp only [hm,vv,reduceCtorEq,reduceAdd,reduceEqDiff,hb];rw [O7];rfl
def Cu (s:ByteArray):ByteArray:=AT s++F8 (AT s)
theorem Cc (s:ByteArray) (h:s.size≤65536):s.size+5≤(Cu s).size∧(Cu s).size≤s.size+13:=by have:=BR s (by omega);rw [Cu,A9,EX];omega
theorem s34 (s:ByteArray) (h:s.size≤65536):AL C 34 [.str s] [.str (Cu s),tI 0]:=by refine AL.of (fun m=>e34 m _) ?_;have hz:=BR s (by omega);refine ((s30 s h).and (s79 (AT s) (by omega))).mono fun m hm => ?_;simp only [hm.1,hm.2,vv,reduceCtorEq,reduceAdd,reduceEqDiff,bne_self_eq_false];rw [AZ (by rw [EX];omega)];rfl
theorem RE {S t:ByteArray} {d post:List UInt8} (h:bl S=bl (AT t)++(d++post)) (hd:d.length=4) (ht:t.size≤65536) (hS:S.size≤1099511627776) :
  AL C 41 [.str S] (if d=bl (F8 (AT t)) then [.str t,tI ((Cu t).size:Nat),tI 0] else [.str (ByteArray.mk #[]),tI 0,tI 13]):=by
 refine AL.of (fun m=>e41 m _) ?_;have hI:JD S (t.size:Nat):=⟨Dz (by omega),hS,bl t++(d++post),by rw [h,Gf,append_assoc]⟩
 have hz:=BR t (by omega);have hlen:S.size=(AT t).size+4+post.length:=by rw [← AS S,h,length_append,length_append,AS,hd];omega
 have e5:(AT t).size=(Ak (t.size:Nat)).length+t.size:=by rw [AT,A9,CK,Bp]
 have hp:=DX (t.size:Nat) (Dz (by omega));have x1:S.extract 0 (AT t).size=AT t:=by apply CW;rw [Bl,drop_zero,sub_zero,h,← AS (AT t),List.take_left]
 have x2:bl (S.extract (AT t).size ((AT t).size+4))=d:=by rw [Bl,h,← AS (AT t),drop_left,Nat.add_sub_cancel_left,List.take_left' hd]
 have x3:S.extract (Ak (t.size:Nat)).length (AT t).size=t:=by apply CW;rw [Bl,h,Gf,append_assoc,drop_left,e5,Nat.add_sub_cancel_left,List.take_left' (AS t)]
 refine ((s83 hI).and (s79 (AT t) (by omega))).mono fun m hm => ?_;have e1:¬(((t.size:Nat):Int)<0):=by omega
 have e2:¬((65536:Int)<((t.size:Nat):Int)):=by omega
 have e3:w64 ((((Ak (t.size:Nat)).length:Nat):Int)+((t.size:Nat):Int))=(((AT t).size:Nat):Int):=by rw [AX (by omega) (by omega)];omega
 have e4:w64 ((((AT t).size:Nat):Int)+4)=(((AT t).size+4:Nat):Int):=by rw [AX (by omega) (by omega)];omega
 simp only [hm.1,vv,reduceCtorEq,reduceAdd,reduceEqDiff,bne_self_eq_false,e1,e2,J41_1,e3,e4,toNat_natCast,x1,x3,hm.2];rw [Aw (by omega),AZ (by omega),AZ (by omega),AZ (by omega)];by_cases hq:d=bl (F8 (AT t))
 ·have:S.extract (AT t).size ((AT t).size+4)=F8 (AT t):=CW (by rw [x2,hq]);rw [if_pos hq,this];simp only [bne,Dn,decide_true,Bool.not_true];rw [Aw (by decide),AZ (by omega),AZ (by omega)];have:(Cu t).size=(AT t).size+4:=by rw [Cu,A9,EX]
  rw [this]
 ·rw [if_neg hq,AZ];have hne:¬F8 (AT t)=S.extract (AT t).size ((AT t).size+4):=fun e=>hq (by rw [e,x2]);simp only [bne,Dn,hne,decide_false,Bool.not_false]
theorem s41 {S t:ByteArray} {post:List UInt8} (h:bl S=bl (Cu t)++post) (ht:t.size≤65536) (hS:S.size≤1099511627776):AL C 41 [.str S] [.str t,tI ((Cu t).size:Nat),tI 0]:=by have:=RE (S:=S) (t:=t) (d:=bl (F8 (AT t))) (post:=post) (by rw [h,Cu,DY,append_assoc]) (by rw [AS,EX]) ht hS;rw [if_pos rfl] at this;exact this
theorem TX:AL C 41 [.str (ByteArray.mk #[])] [.str (ByteArray.mk #[]),tI 0,tI 12]:=by refine AL.of (fun m=>e41 m _) ?_;refine TV.mono fun m hm => ?_;simp only [hm,vv,reduceCtorEq,reduceAdd,reduceEqDiff];rfl
end Ab
namespace Ab
open Go
structure Blk where
 kind:Int
 flags:Int
 data:ByteArray
 deriving DecidableEq
structure Bun where
 src:Int
 cre:Int
 seq:Int
 off:Int
 tot:Int
 dk:Int
 dn:Int
 life:Int
 pri:Int
 flg:Int
 blocks:List Blk
 pay:ByteArray
 deriving DecidableEq
def Blk.enc (x:Blk):List Tree:=[tI x.kind,tI x.flags,.str x.data]
def Bun.enc (b:Bun):List Tree:=[tI b.src,tI b.cre,tI b.seq,tI b.off,tI b.tot,tI b.dk,tI b.dn,tI b.life,tI b.pri,tI b.flg,.sl 3 (b.blocks.map Blk.enc),.str b.pay]
def F4 (x:Blk):Prop:=(1≤x.kind∧x.kind≤255)∧(0≤x.flags∧x.flags≤15)∧x.data.size≤1024
instance (x:Blk):Decidable (F4 x):=by unfold F4;exact inferInstance
def Jb (x:Blk):Int:=if x.kind<1 then 8 else if x.kind>255 then 8 else if x.flags<0 then 2 else if x.flags>15 then 2 else if (x.data.size:Int)>1024 then 4 else 0
theorem Iv (x:Blk):Jb x=0↔F4 x:=by
 unfold Jb F4
 repeat' split
 all_goals omega
theorem s64 (x:Blk):AL C 64 x.enc [tI (Jb x)]:=by
 refine AL.of (fun m=>e64 m _ _ _) (Ev.of fun m => ?_);unfold Jb;simp only [AD,decide_eq_true_eq]
 repeat' split
 all_goals rfl
theorem s127 (x:Blk):AL C 127 x.enc [tI (Jb x)]:=by
 refine AL.of (fun m=>e127 m _ _ _) (Ev.of fun m => ?_);unfold Jb;simp only [AD,decide_eq_true_eq]
 repeat' split
 all_goals rfl
def Dy (l:List Blk) (i:Nat) (_:Unit) (x:Blk):Rd Unit Int:=match l[i]? with
 |some y=>if x.kind≤y.kind then .done 9 else .next ()
 |none =>.next ()
def PC (l:List Blk):Int:=if 8<l.length then 4 else B9 (fun _ (_:Unit) x=>if Jb x≠0 then Rd.done (Jb x) else .next ()) (fun _=>B9 (Dy l) (fun _=>0) 0 (l.drop 1) ()) 0 l ()
def Asc:List Blk→Prop
 |x::y::l=>x.kind<y.kind∧Asc (y::l)
 |_=>True
def BV (l:List Blk):Prop:=l.length≤8∧(∀x∈l,F4 x)∧Asc l
theorem RL (L:List Blk):∀(l pre:List Blk) (p:Blk),L=pre++p::l→(B9 (Dy L) (fun _=>(0:Int)) pre.length l ()=0↔Asc (p::l))
 |[],pre,p,h=>by simp [B9,Asc]
 |x::l,pre,p,h=>by
  have hp:L[pre.length]? = some p:=by rw [h];simp
  have ih:=RL L l (pre++[p]) x (by rw [h];simp);rw [length_append,List.length_singleton] at ih;unfold B9;simp only [Dy,hp];by_cases hx:x.kind≤p.kind
  ·simp only [hx,if_true,Asc];constructor
   ·intro h;cases h
   ·intro h;omega
  ·simp only [hx,if_false,Asc];rw [ih];constructor
   ·intro h;exact ⟨by omega,h⟩
   ·exact fun h=>h.2
theorem RF (fin:Int):∀(i:Nat) (l:List Blk),B9 (fun _ (_:Unit) x=>if Jb x≠0 then Rd.done (Jb x) else .next ()) (fun _=>fin) i l ()=0↔(∀x∈l,F4 x)∧fin=0
 |_,[]=>by simp [B9]
 |i,x::l=>by
  unfold B9;by_cases h:Jb x=0
  ·simp only [h,ne_eq,not_true_eq_false,if_false];rw [RF fin (i+1) l];simp [(Iv x).1 h]
  ·simp only [ne_eq,h,not_false_eq_true,if_true];have:¬F4 x:=fun e=>h ((Iv x).2 e);simp [this]
theorem PB (l:List Blk):PC l=0↔BV l:=by
 unfold PC BV;by_cases h:8<l.length
 ·rw [if_pos h];constructor
  ·intro e;cases e
  ·intro e;omega
 ·rw [if_neg h,RF];have e:B9 (Dy l) (fun _=>(0:Int)) 0 (l.drop 1) ()=0↔Asc l:=by
   cases l with
   |nil=>simp [B9,Asc]
   |cons p l=>exact RL (p::l) l [] p rfl
  rw [e];constructor
  ·rintro ⟨a,b⟩;exact ⟨by omega,a,b⟩
  ·rintro ⟨_,a,b⟩;exact ⟨a,b⟩
theorem ord25 (l:List Blk) (hl:l.length≤8):Ev fun n=>AH (fun p again=>Pe n (l.map Blk.enc) p again) n ([.t (tI 1)],[])=some [tI (B9 (Dy l) (fun _=>0) 0 (l.drop 1) ())]:=by
 refine Ao (B:=fun n=>Pe n (l.map Blk.enc)) (fun r=>[tI r]) (l.drop 1) (fun i _=>(([.t (tI ((i+1:Nat):Int))],[]):List AV×Heap)) (Dy l) (fun _=>0) (fun _ _=>True) () rfl trivial rfl
  (fun i s x hx hI=>Ev.of fun n again => ?_) (fun _ _ _ _ _ _ _=>trivial) (fun s hI=>Ev.of fun n again => ?_)
 ·rw [getElem?_drop] at hx;have hi:=AY hx;have hy:l[i]? = some l[i]:=getElem?_eq_getElem (by omega);have hx':l[i+1]? = some x:=by rw [← hx];congr 1;omega
  have e1:w64 (((i+1:Nat):Int)-1)=(i:Int):=by rw [AX (by omega) (by omega)];omega
  unfold Pe;simp only [vv,reduceCtorEq,reduceAdd,reduceEqDiff,hx',hy,Blk.enc,e1,BL (show i+1<4611686018427387904 by omega),(show ((i+1:Nat):Int)<l.length by omega),Dy];by_cases hq:x.kind≤l[i].kind
  ·simp only [hq,if_true,vv,reduceCtorEq,reduceAdd,reduceEqDiff,Rd.BX]
  ·simp only [hq,if_false,vv,reduceCtorEq,reduceAdd,reduceEqDiff,Rd.As]
 ·unfold Pe;simp only [vv,reduceCtorEq,reduceAdd,reduceEqDiff,length_drop];rw [Aw (by omega)]
theorem s25 (l:List Blk):AL C 25 [.sl 3 (l.map Blk.enc)] [tI (PC l)]:=by
 refine AL.of (fun m=>e25 m _) ?_;unfold PC;simp only [vv,reduceCtorEq,reduceAdd,reduceEqDiff];by_cases hl:8<l.length
 ·rw [if_pos hl];exact Ev.of fun m=>by rw [AZ (by omega)]
 ·simp only [if_neg hl,(show ¬((8:Int)<(l.length:Int)) by omega),vv,reduceCtorEq,reduceAdd,reduceEqDiff];refine Ao (B:=fun n=>Rq n (l.map Blk.enc)) (fun r=>[tI r]) l (fun i _=>(([.t (tI (i:Nat))],[]):List AV×Heap)) _ _ (fun _ _=>True) () rfl trivial rfl
   (fun i s x hx hI => ?_) (fun _ _ _ _ _ _ _=>trivial) (fun s hI => ?_)
  ·have hi:=AY hx;refine (s64 x).mono fun n h again => ?_;simp only [Blk.enc] at h;unfold Rq;simp only [vv,reduceCtorEq,reduceAdd,reduceEqDiff,hx,Blk.enc,h,BL (show i<4611686018427387904 by omega),(show (i:Int)<l.length by omega)];by_cases hq:Jb x=0
   ·simp only [hq,bne_self_eq_false,vv,reduceCtorEq,reduceAdd,reduceEqDiff,ne_eq,not_true_eq_false,Rd.As]
   ·simp only [bne,beq_eq_false_iff_ne.2 hq,vv,reduceCtorEq,reduceAdd,reduceEqDiff,ne_eq,hq,not_false_eq_true,Rd.BX]
  ·refine (ord25 l (by omega)).mono fun n h again => ?_;unfold Rq;simp only [vv,reduceCtorEq,reduceAdd,reduceEqDiff,lt_irrefl];exact h
theorem ord73 (l:List Blk) (hl:l.length≤8):Ev fun n=>AH (fun p again=>PY n (l.map Blk.enc) p again) n ([.t (tI 1)],[])=some [tI (B9 (Dy l) (fun _=>0) 0 (l.drop 1) ())]:=by
 refine Ao (B:=fun n=>PY n (l.map Blk.enc)) (fun r=>[tI r]) (l.drop 1) (fun i _=>(([.t (tI ((i+1:Nat):Int))],[]):List AV×Heap)) (Dy l) (fun _=>0) (fun _ _=>True) () rfl trivial rfl
  (fun i s x hx hI=>Ev.of fun n again => ?_) (fun _ _ _ _ _ _ _=>trivial) (fun s hI=>Ev.of fun n again => ?_)
 ·rw [getElem?_drop] at hx;have hi:=AY hx;have hy:l[i]? = some l[i]:=getElem?_eq_getElem (by omega);have hx':l[i+1]? = some x:=by rw [← hx];congr 1;omega
  have e1:w64 (((i+1:Nat):Int)-1)=(i:Int):=by rw [AX (by omega) (by omega)];omega
  unfold PY;simp only [vv,reduceCtorEq,reduceAdd,reduceEqDiff,hx',hy,Blk.enc,e1,BL (show i+1<4611686018427387904 by omega),(show ((i+1:Nat):Int)<l.length by omega),Dy];by_cases hq:x.kind≤l[i].kind
  ·simp only [hq,if_true,vv,reduceCtorEq,reduceAdd,reduceEqDiff,Rd.BX]
  ·simp only [hq,if_false,vv,reduceCtorEq,reduceAdd,reduceEqDiff,Rd.As]
 ·unfold PY;simp only [vv,reduceCtorEq,reduceAdd,reduceEqDiff,length_drop];rw [Aw (by omega)]
theorem s73 (l:List Blk):AL C 73 [.sl 3 (l.map Blk.enc)] [tI (PC l)]:=by
 refine AL.of (fun m=>e73 m _) ?_;unfold PC;simp only [vv,reduceCtorEq,reduceAdd,reduceEqDiff];by_cases hl:8<l.length
 ·rw [if_pos hl];exact Ev.of fun m=>by rw [AZ (by omega)]
 ·simp only [if_neg hl,(show ¬((8:Int)<(l.length:Int)) by omega),vv,reduceCtorEq,reduceAdd,reduceEqDiff];refine Ao (B:=fun n=>Rm n (l.map Blk.enc)) (fun r=>[tI r]) l (fun i _=>(([.t (tI (i:Nat))],[]):List AV×Heap)) _ _ (fun _ _=>True) () rfl trivial rfl
   (fun i s x hx hI => ?_) (fun _ _ _ _ _ _ _=>trivial) (fun s hI => ?_)
  ·have hi:=AY hx;refine (s127 x).mono fun n h again => ?_;simp only [Blk.enc] at h;unfold Rm;simp only [vv,reduceCtorEq,reduceAdd,reduceEqDiff,hx,Blk.enc,h,BL (show i<4611686018427387904 by omega),(show (i:Int)<l.length by omega)];by_cases hq:Jb x=0
   ·simp only [hq,bne_self_eq_false,vv,reduceCtorEq,reduceAdd,reduceEqDiff,ne_eq,not_true_eq_false,Rd.As]
   ·simp only [bne,beq_eq_false_iff_ne.2 hq,vv,reduceCtorEq,reduceAdd,reduceEqDiff,ne_eq,hq,not_false_eq_true,Rd.BX]
  ·refine (ord73 l (by omega)).mono fun n h again => ?_;unfold Rm;simp only [vv,reduceCtorEq,reduceAdd,reduceEqDiff,lt_irrefl];exact h
def N9 (b:Bun):Prop:=(0≤b.src∧b.src≤15)∧(0≤b.cre∧b.cre≤1099511627776)∧(0≤b.seq∧b.seq≤1099511627776)∧(b.off=0∧b.tot=0∨(1≤b.tot∧b.tot≤4096)∧(0≤b.off∧b.off≤b.tot-1))
def J7 (b:Bun):Prop:=b.dk=1∧0≤b.dn∧b.dn<16∨b.dk=2∧0≤b.dn∧b.dn<8
def Ei (f:Int) (q:Nat):Bool:=decide (f.toNat / q % 2=1)
def Ru (b:Bun):Prop:=(0≤b.flg∧b.flg≤127)∧(Ei b.flg 4=true→Ei b.flg 64=false)∧(b.tot>0→Ei b.flg 2=false)
def PT (b:Bun):Prop:=b.pay.size≤4096∧(b.tot>0→1≤b.pay.size∧(b.pay.size:Int)≤b.tot-b.off)
instance (b:Bun):Decidable (N9 b):=by unfold N9;exact inferInstance
instance (b:Bun):Decidable (J7 b):=by unfold J7;exact inferInstance
instance (b:Bun):Decidable (Ru b):=by unfold Ru;exact inferInstance
instance (b:Bun):Decidable (PT b):=by unfold PT;exact inferInstance
structure Gp (b:Bun):Prop where
 id:N9 b
 dest:J7 b
 life:1≤b.life∧b.life≤1099511627776-b.cre
 pri:0≤b.pri∧b.pri≤2
 flg:Ru b
 blk:BV b.blocks
 pay:PT b
theorem s71 (n a c:Int):AL C 71 [tI n,tI a,tI c] [.bool (wi n a c)]:=AL.of (fun m=>e71 m _ _ _) (Ev.of fun m=>by rw [AD];exact Gq n a c)
theorem s62 (n:Int):AL C 62 [tI n] [.bool (wi n 0 1099511627776)]:=AL.of (fun m=>e62 m _) (Ev.of fun m=>by rw [AD];exact Gq n 0 1099511627776)
theorem s22 (b:Bun):AL C 22 [tI b.src,tI b.cre,tI b.seq,tI b.off,tI b.tot] [.bool (decide (N9 b))]:=by
 refine AL.of (fun m=>e22 m _ _ _ _ _) ?_;refine ((s62 b.cre).and (s62 b.seq)).mono fun m h => ?_;simp only [join_eq,J22_1,vv,reduceCtorEq,reduceAdd,reduceEqDiff,h.1,h.2,wi,not_eq_true',decide_eq_false_iff_not,decide_not,Bool.not_eq_eq_eq_not];unfold N9;simp only [AD,decide_eq_true_eq];by_cases h1:b.src<0
 ·simp [h1,show ¬0≤b.src by omega]
 by_cases h2:16≤b.src
 ·simp [h1,h2,show ¬b.src≤15 by omega]
 have h3:0≤b.src∧b.src≤15:=by omega
 by_cases h4:0≤b.cre∧b.cre≤1099511627776
 ·by_cases h5:0≤b.seq∧b.seq≤1099511627776
  ·simp only [h1,h2,h3,h4,h5,if_false,not_true_eq_false,true_and,and_self,decide_true,Bool.not_true,false_eq_true];by_cases h6:b.tot=0
   ·simp [h6];by_cases h7:b.off=0<;>simp [h7]
   ·simp [h6];by_cases h7:1≤b.tot
    ·by_cases h8:b.tot≤4096
     ·by_cases h9:0≤b.off
      ·simp [h7,h8,h9];omega
      ·simp [h7,h8,h9]
     ·simp [h7,h8]
    ·simp [h7]
  ·simp [h1,h2,h4,h5]
 ·simp [h1,h2,h4]
theorem s69 (b:Bun) (h:N9 b):AL C 69 [tI b.src,tI b.cre,tI b.seq,tI b.off,tI b.tot] [tI 0]:=by
 refine AL.of (fun m=>e69 m _ _ _ _ _) ?_;obtain ⟨h1,h2,h3,h4⟩:=h;refine ((s71 b.src 0 15).and ((s71 b.cre 0 1099511627776).and ((s71 b.seq 0 1099511627776).and ((s71 b.tot 1 4096).and (s71 b.off 0 (w64 (b.tot-1))))))).mono fun m h => ?_;obtain ⟨g1,g2,g3,g4,g5⟩:=h;simp only [join_eq,J69_2,vv,reduceCtorEq,reduceAdd,reduceEqDiff,g1,g2,g3,g4,g5,wi,h1,h2,h3];rcases h4 with ⟨a,c⟩|⟨a,c⟩
 ·simp [a,c,AD]
 ·have e:w64 (b.tot-1)=b.tot-1:=AX (by omega) (by omega);rw [e];have hn:¬b.tot=0:=by omega
  by_cases hz:b.off=0<;>simp [hz,a,c,AD,hn]
  all_goals omega
theorem s23 (b:Bun):∃c,AL C 23 [tI b.dk,tI b.dn] [tI c]∧(c=0→J7 b):=by
 refine ⟨if b.dk≠1∧b.dk≠2 then 8 else if b.dn<0 then 2 else if b.dk=1∧b.dn≥16 then 2 else if b.dk=2∧b.dn≥8 then 2 else 0,?_,fun h => ?_⟩
 ·refine AL.of (fun m=>e23 m _ _) (Ev.of fun m => ?_);simp only [join_eq,J23_1,vv,reduceCtorEq,reduceAdd,reduceEqDiff];by_cases h1:b.dk=1
  ·simp [h1,AD];by_cases h2:b.dn<0
   ·simp [h2]
   ·by_cases h3:16≤b.dn<;>simp [h2,h3]
  ·by_cases h4:b.dk=2
   ·simp [h4,AD];by_cases h2:b.dn<0
    ·simp [h2]
    ·by_cases h3:8≤b.dn<;>simp [h2,h3]
   ·simp [h1,h4,AD,bne,beq_eq_false_iff_ne.2 h1,beq_eq_false_iff_ne.2 h4]
 ·unfold J7
  revert h
  repeat' split
  all_goals omega
theorem s70 (b:Bun) (h:J7 b):AL C 70 [tI b.dk,tI b.dn] [tI 0]:=by
 refine AL.of (fun m=>e70 m _ _) (Ev.of fun m => ?_);rcases h with ⟨h1,h2,h3⟩|⟨h1,h2,h3⟩
 ·simp [h1,AD,show ¬b.dn<0 by omega,show ¬16≤b.dn by omega]
 ·simp [h1,AD,show ¬b.dn<0 by omega,show ¬8≤b.dn by omega]
theorem s63 (f:Int) (q:Nat) (hf:0≤f∧f≤127) (hq:q≠0):AL C 63 [tI f,tI (q:Nat)] [.bool (Ei f q)]:=by refine AL.of (fun m=>e63 m _ _) (Ev.of fun m => ?_);obtain ⟨k,rfl⟩:=Int.eq_ofNat_of_zero_le hf.1;have e1:tdiv (k:Int) (q:Int)=((k / q:Nat):Int):=rfl;have hk:k / q≤k:=Nat.div_le_self _ _;unfold Ei;rw [Aw (by omega),e1,toNat_natCast];generalize k / q=z at hk;have e2:w64 (z:Int)=(z:Int):=AX (by omega) (by omega);have e3:tmod (z:Int) 2=((z % 2:Nat):Int):=rfl;rw [e2,e3];congr 3;rw [Bool.eq_iff_iff,beq_iff_eq,decide_eq_true_eq];omega
def Q6 (b:Bun):Prop:=(0≤b.flg∧b.flg≤127)∧(Ei b.flg 4=true→Ei b.flg 64=false)∧(¬b.tot=0→Ei b.flg 2=false)
instance (b:Bun):Decidable (Q6 b):=by unfold Q6;exact inferInstance
theorem s24 (b:Bun):AL C 24 b.enc [.bool (decide (Q6 b))]:=by
 refine AL.of (fun m=>e24 m _ _ _ _ _ _ _ _ _ _ _ _) ?_;by_cases h1:b.flg<0
 ·refine Ev.of fun m => ?_;rw [AZ (by simpa using h1)];simp [Q6,show ¬0≤b.flg by omega]
 by_cases h2:127<b.flg
 ·refine Ev.of fun m => ?_;rw [Aw (by simpa using h1),AZ (by simpa using h2)];simp [Q6,show ¬b.flg≤127 by omega]
 have hf:0≤b.flg∧b.flg≤127:=by omega
 refine ((s63 b.flg 4 hf (by decide)).and ((s63 b.flg 64 hf (by decide)).and (s63 b.flg 2 hf (by decide)))).mono fun m h => ?_;obtain ⟨g1,g2,g3⟩:=h;have g1':AB C m 63 [tI b.flg,tI 4]=some [.bool (Ei b.flg 4)]:=g1;have g2':AB C m 63 [tI b.flg,tI 64]=some [.bool (Ei b.flg 64)]:=g2;have g3':AB C m 63 [tI b.flg,tI 2]=some [.bool (Ei b.flg 2)]:=g3;simp only [vv,reduceCtorEq,reduceAdd,reduceEqDiff,h1,h2,g1',g2',g3',Q6,hf];cases Ei b.flg 4<;>cases Ei b.flg 64<;>cases Ei b.flg 2<;>by_cases ht:b.tot=0<;>simp [ht,AD]
theorem Ui (f:Int) (hf:0≤f∧f≤127):((Dg .i64 f 4 != 0)=Ei f 4)∧((Dg .i64 f 64 != 0)=Ei f 64)∧((Dg .i64 f 2 != 0)=Ei f 2):=by
 obtain ⟨k,rfl⟩:=Int.eq_ofNat_of_zero_le hf.1;have hk:k<128:=by omega
 have key:∀k:Fin 128,((Dg .i64 ((k.val:Nat):Int) 4 != 0)=Ei ((k.val:Nat):Int) 4)∧((Dg .i64 ((k.val:Nat):Int) 64 != 0)=Ei ((k.val:Nat):Int) 64)∧((Dg .i64 ((k.val:Nat):Int) 2 != 0)=Ei ((k.val:Nat):Int) 2):=by decide
 exact key ⟨k,hk⟩
theorem s72 (b:Bun) (h:Ru b):AL C 72 b.enc [tI 0]:=by
 refine AL.of (fun m=>e72 m _ _ _ _ _ _ _ _ _ _ _ _) ?_;obtain ⟨h1,h2,h3⟩:=h;obtain ⟨a1,a2,a3⟩:=Ui b.flg h1;refine (s71 b.flg 0 127).mono fun m g => ?_;simp only [vv,reduceCtorEq,reduceAdd,reduceEqDiff,g,wi,h1,a1,a2,a3]
 revert h2 h3
 cases Ei b.flg 4<;>cases Ei b.flg 64<;>cases Ei b.flg 2<;>by_cases ht:b.tot>0<;>simp [ht,AD]
theorem s74 (b:Bun) (h:PT b) (hi:N9 b):AL C 74 b.enc [tI 0]:=by
 refine AL.of (fun m=>e74 m _ _ _ _ _ _ _ _ _ _ _ _) ?_;obtain ⟨h1,h2⟩:=h;refine (s71 (b.pay.size:Nat) 1 (w64 (b.tot-b.off))).mono fun m g => ?_;simp only [vv,reduceCtorEq,reduceAdd,reduceEqDiff,g,wi];rw [Aw (by omega)];by_cases ht:b.tot>0
 ·obtain ⟨h3,h4⟩:=h2 ht;have e:w64 (b.tot-b.off)=b.tot-b.off:=by have:=hi.2.2.2;exact AX (by omega) (by omega)
  rw [AZ (by omega),e,Aw (by simp;omega)]
 ·rw [Aw (by omega)]
theorem s29 (b:Bun) (h:Gp b):AL C 29 b.enc [tI 0]:=by refine AL.of (fun m=>e29 m _ _ _ _ _ _ _ _ _ _ _ _) ?_;have hb:=(PB b.blocks).2 h.blk;refine ((s69 b h.id).and ((s70 b h.dest).and ((s71 b.pri 0 2).and ((s72 b h.flg).and ((s73 b.blocks).and (s74 b h.pay h.id)))))).mono fun m g => ?_;obtain ⟨g1,g2,g3,g4,g5,g6⟩:=g;simp only [Bun.enc] at g4 g6;have hl:=h.life;have hc:=h.id.2.1;have e:w64 (1099511627776-b.cre)=1099511627776-b.cre:=AX (by omega) (by omega);simp only [join_eq,J29_1,vv,reduceCtorEq,reduceAdd,reduceEqDiff,g1,g2,g3,g4,g5,g6,wi,h.pri,bne_self_eq_false,hb,e,(show ¬b.life<1 by omega),(show ¬(1099511627776-b.cre<b.life) by omega)]
theorem s5 (b:Bun):∃c,AL C 5 b.enc [tI c]∧(c=0→Gp b):=by
 obtain ⟨c23,g23,i23⟩:=s23 b;by_cases h1:N9 b;rotate_left
 ·refine ⟨2,AL.of (fun m=>e5 m _ _ _ _ _ _ _ _ _ _ _ _) ((s22 b).mono fun m g => ?_),fun e=>by cases e⟩;simp only [vv,reduceCtorEq,reduceAdd,reduceEqDiff,g,h1]
 by_cases h2:c23=0;rotate_left
 ·refine ⟨c23,AL.of (fun m=>e5 m _ _ _ _ _ _ _ _ _ _ _ _) (((s22 b).and g23).mono fun m g => ?_),fun e=>(h2 e).elim⟩;simp only [vv,reduceCtorEq,reduceAdd,reduceEqDiff,g.1,g.2,h1,bne,beq_eq_false_iff_ne.2 h2]
 subst h2;have hc:=h1.2.1;have e:w64 (1099511627776-b.cre)=1099511627776-b.cre:=AX (by omega) (by omega);by_cases h3:1≤b.life∧b.life≤1099511627776-b.cre;rotate_left
 ·refine ⟨2,AL.of (fun m=>e5 m _ _ _ _ _ _ _ _ _ _ _ _) (((s22 b).and g23).mono fun m g => ?_),fun e=>by cases e⟩;simp only [vv,reduceCtorEq,reduceAdd,reduceEqDiff,g.1,g.2,h1,bne_self_eq_false,join_eq,TD,e];by_cases hq:b.life<1
  ·simp [hq,AD,vv]
  ·simp [hq,AD,vv,show 1099511627776-b.cre<b.life by omega]
 by_cases h4:0≤b.pri∧b.pri≤2;rotate_left
 ·refine ⟨8,AL.of (fun m=>e5 m _ _ _ _ _ _ _ _ _ _ _ _) (((s22 b).and g23).mono fun m g => ?_),fun e=>by cases e⟩;simp only [vv,reduceCtorEq,reduceAdd,reduceEqDiff,g.1,g.2,h1,bne_self_eq_false,join_eq,TD,VE,e,(show ¬b.life<1 by omega),(show ¬(1099511627776-b.cre<b.life) by omega)];by_cases hq:b.pri<0
  ·simp [hq,AD,vv]
  ·simp [hq,AD,vv,show 2<b.pri by omega]
 by_cases h5:Q6 b;rotate_left
 ·refine ⟨1,AL.of (fun m=>e5 m _ _ _ _ _ _ _ _ _ _ _ _) (((s22 b).and (g23.and (s24 b))).mono fun m g => ?_),fun e=>by cases e⟩;obtain ⟨g1,g2,g3⟩:=g;simp only [Bun.enc] at g3;simp only [vv,reduceCtorEq,reduceAdd,reduceEqDiff,g1,g2,g3,h1,h5,bne_self_eq_false,join_eq,TD,VE,e,(show ¬b.life<1 by omega),(show ¬(1099511627776-b.cre<b.life) by omega),(show ¬b.pri<0 by omega),(show ¬2<b.pri by omega)]
 by_cases h6:PC b.blocks=0;rotate_left
 ·refine ⟨PC b.blocks,AL.of (fun m=>e5 m _ _ _ _ _ _ _ _ _ _ _ _) (((s22 b).and (g23.and ((s24 b).and (s25 b.blocks)))).mono fun m g => ?_),fun e=>(h6 e).elim⟩;obtain ⟨g1,g2,g3,g4⟩:=g;simp only [Bun.enc] at g3;simp only [vv,reduceCtorEq,reduceAdd,reduceEqDiff,g1,g2,g3,g4,h1,h5,bne,beq_self_eq_true,beq_eq_false_iff_ne.2 h6,join_eq,TD,VE,e,(show ¬b.life<1 by omega),(show ¬(1099511627776-b.cre<b.life) by omega),(show ¬b.pri<0 by omega),(show ¬2<b.pri by omega)]
 refine ⟨if 4096<b.pay.size then 4 else if 0<b.tot then if b.pay.size=0 then 10 else if (b.pay.size:Int)>b.tot-b.off then 10 else 0 else 0,AL.of (fun m=>e5 m _ _ _ _ _ _ _ _ _ _ _ _) (((s22 b).and (g23.and ((s24 b).and (s25 b.blocks)))).mono fun m g => ?_),fun e => ?_⟩
 ·obtain ⟨g1,g2,g3,g4⟩:=g;simp only [Bun.enc] at g3;have e2:w64 (b.tot-b.off)=b.tot-b.off:=by have:=h1.2.2.2;exact AX (by omega) (by omega)
  simp only [vv,reduceCtorEq,reduceAdd,reduceEqDiff,g1,g2,g3,g4,h1,h5,h6,bne,beq_self_eq_true,join_eq,TD,VE,e,e2,(show ¬b.life<1 by omega),(show ¬(1099511627776-b.cre<b.life) by omega),(show ¬b.pri<0 by omega),(show ¬2<b.pri by omega)];by_cases hp:4096<b.pay.size
  ·rw [if_pos hp,AZ (by omega)]
  ·rw [if_neg hp,Aw (by omega)];by_cases ht:0<b.tot
   ·rw [if_pos ht,AZ ht];by_cases hz:b.pay.size=0
    ·rw [if_pos hz,AZ (by rw [hz];rfl)]
    ·rw [if_neg hz,Aw (by rw [beq_iff_eq];omega)];by_cases hw:(b.pay.size:Int)>b.tot-b.off
     ·rw [if_pos hw,AZ (by omega)]
     ·rw [if_neg hw,Aw (by omega)]
   ·rw [if_neg ht,Aw ht]
 ·refine ⟨h1,i23 rfl,h3,h4,⟨h5.1,h5.2.1,fun ht=>h5.2.2 (by omega)⟩,(PB _).1 h6,?_⟩;unfold PT
  revert e
  repeat' split
  all_goals omega
end Ab
namespace Ab
open Go
def inB (x:Blk):ByteArray:=(CK x.kind++CK x.flags)++AT x.data
def ER (x:Blk):ByteArray:=Cu (inB x)
theorem LC {x:Blk} (h:F4 x):(inB x).size≤x.data.size+27:=by obtain ⟨h1,h2,h3⟩:=h;have a1:=Cr x.kind (by unfold inR;omega);have a2:=Cr x.flags (by unfold inR;omega);have a3:=BR x.data (by omega);rw [inB,A9,A9];omega
theorem FR {x:Blk} (h:F4 x):5≤(ER x).size∧(ER x).size≤1064:=by have a:=LC h;have:=h.2.2;have b:=Cc (inB x) (by omega);unfold ER;omega
theorem s78 (x:Blk) (h:F4 x):AL C 78 x.enc [.str (ER x),tI 0]:=by
 refine AL.of (fun m=>e78 m _ _ _) ?_;have h2:=h;obtain ⟨h3,h4,h5⟩:=h2;have k1:inR x.kind:=by unfold inR;omega
 have k2:inR x.flags:=by unfold inR;omega
 have a1:=Cr x.kind k1;have a2:=Cr x.flags k2;have a3:=BR x.data (by omega);have a4:=LC h;have hc:=(Iv x).2 h;refine ((s127 x).and ((s32 x.kind k1).and ((s32 x.flags k2).and ((s30 x.data (by omega)).and (s34 (inB x) (by omega)))))).mono fun m g => ?_;obtain ⟨g1,g2,g3,g4,g5⟩:=g;simp only [Blk.enc] at g1;simp only [g1,g2,g3,g4,hc,bne_self_eq_false,vv,reduceCtorEq,reduceAdd,reduceEqDiff];rw [AZ (by omega),AZ (by rw [A9];omega)];show Option.bind (AB C m 34 [Tree.str (inB x)]) _=_;rw [g5];simp only [vv,reduceCtorEq,reduceAdd,reduceEqDiff];rfl
def Ci (l:List Blk):ByteArray:=l.foldl (fun s x=>s++ER x) (CK (l.length:Nat))
theorem fold_bl (l:List Blk) (s:ByteArray):bl (l.foldl (fun s x=>s++ER x) s)=bl s++(l.map fun x=>bl (ER x)).flatten:=by
 induction l generalizing s with
 |nil=>simp
 |cons x l ih=>rw [foldl_cons,ih,DY,map_cons,flatten_cons,append_assoc]
theorem Gh (l:List Blk):bl (Ci l)=Ak (l.length:Nat)++(l.map fun x=>bl (ER x)).flatten:=by rw [Ci,fold_bl,FA]
theorem UE {l:List Blk} (h:∀x∈l,F4 x):((l.map fun x=>bl (ER x)).flatten).length≤1064*l.length:=by
 induction l with
 |nil=>simp
 |cons x l ih=>
  have h1:=FR (h x (by simp));have h2:=ih fun y hy=>h y (by simp [hy]);rw [map_cons,flatten_cons,length_append,AS,length_cons];omega
theorem H3 {l:List Blk} (h:BV l):(Ci l).size≤8521:=by have h1:=UE h.2.1;have h2:=DX (l.length:Nat) (Dz (by have:=h.1;omega));have h3:=h.1;rw [← AS,Gh,length_append];omega
theorem Nr:∀{l:List Blk} {i:Nat} {y x:Blk},Asc l→l[i]? = some y→l[i+1]? = some x→y.kind<x.kind
 |[],i,y,x,h,hy,hx=>by simp at hy
 |[a],i,y,x,h,hy,hx=>by simp at hx
 |a::b::l,0,y,x,h,hy,hx=>by simp at hy hx;subst hy hx;exact h.1
 |a::b::l,i+1,y,x,h,hy,hx=>Nr (l:=b::l) h.2 (by simpa using hy) (by simpa using hx)
theorem s33 (l:List Blk) (h:BV l):AL C 33 [.sl 3 (l.map Blk.enc)] [.str (Ci l),tI 0]:=by
 refine AL.of (fun m=>e33 m _) ?_;obtain ⟨h1,h2,h3⟩:=h;have k1:inR (l.length:Nat):=Dz (by omega);refine Ev.rw (s32 (l.length:Nat) k1) (T':=fun m=>AH (fun p again=>Pb m (l.map Blk.enc) p again) m ([.t (.str (CK (l.length:Nat))),.t (tI 0)],[])) (fun m g=>by simp only [vv,reduceCtorEq,reduceAdd,reduceEqDiff];rw [Aw (by omega),g];simp only [vv,reduceCtorEq,reduceAdd,reduceEqDiff]) ?_
 have hsz0:=Cr (l.length:Nat) k1;refine Ao (B:=fun m=>Pb m (l.map Blk.enc)) (fun q=>[Tree.str q,tI 0]) l (fun i s=>(([.t (.str s),.t (tI (i:Nat))],[]):List AV×Heap)) (fun _ s x =>.next (s++ER x)) (fun s=>s) (fun i s=>s.size≤9+1064*i) (CK (l.length:Nat)) rfl (by omega) (CQ (fun s x=>s++ER x) (fun s=>s) 0 l _)
  (fun i s x hx hI => ?_) (fun i s x s' hx hI hs => ?_) (fun s hI=>Ev.of fun m again => ?_)
 ·have hi:=AY hx;have hb:=FR (h2 x (mem_of_getElem? hx));refine (s78 x (h2 x (mem_of_getElem? hx))).mono fun m g again => ?_;simp only [Blk.enc] at g;rw [Rd.As];unfold Pb;simp only [vv,reduceCtorEq,reduceAdd,reduceEqDiff,hx,Blk.enc,g,bne_self_eq_false,(show (i:Int)<l.length by omega),BL (show i<4611686018427387904 by omega)];cases i with
  |zero=>
   rw [Aw (by decide),AZ (by omega)]
  |succ i=>
   have hy:l[i]? = some l[i]:=getElem?_eq_getElem (by omega);have hlt:=Nr h3 hy hx;have e1:w64 (((i+1:Nat):Int)-1)=(i:Int):=by rw [AX (by omega) (by omega)];omega
   simp only [e1,hy,vv,reduceCtorEq,reduceAdd,reduceEqDiff,Blk.enc,(show (0:Int)<((i+1:Nat):Int) by omega),(show ¬x.kind≤l[i].kind by omega)];rw [AZ (by omega)]
 ·have hb:=FR (h2 x (mem_of_getElem? hx));cases hs;rw [A9];omega
 ·unfold Pb;simp only [vv,reduceCtorEq,reduceAdd,reduceEqDiff,lt_irrefl]
theorem CL (s:ByteArray) (i:Nat):bl (s.extract i s.size)=(bl s).drop i:=by rw [Bl];apply take_of_length_le;rw [length_drop,AS];omega
theorem Nf (s:ByteArray):s.extract 0 s.size=s:=CW (by rw [CL,drop_zero])
theorem DW (s:ByteArray) (i:Nat):(s.extract i s.size).size=s.size-i:=by rw [← AS,CL,length_drop,AS]
theorem s153 {S:ByteArray} {x:Blk} {post:List UInt8} (h:F4 x) (hS:bl S=bl (ER x)++post) (hz:S.size≤1099511627776):AL C 153 [.str S] [tI x.kind,tI x.flags,.str x.data,tI ((ER x).size:Nat),tI 0]:=by
 refine AL.of (fun m=>e153 m _) ?_;have h2:=h;obtain ⟨h3,h4,h5⟩:=h2;have k1:inR x.kind:=by unfold inR;omega
 have k2:inR x.flags:=by unfold inR;omega
 have p1:=DX x.kind k1;have p2:=DX x.flags k2;have a4:=LC h;have hc:=(Iv x).2 h;have hbl:bl (inB x)=Ak x.kind++(Ak x.flags++bl (AT x.data)):=by rw [inB,DY,DY,FA,FA,append_assoc]
 have hsz:(inB x).size=(Ak x.kind).length+(Ak x.flags).length+(AT x.data).size:=by rw [← AS,hbl];simp [AS];omega
 have q1:JD (inB x) x.kind:=⟨k1,by omega,_,hbl⟩
 have e2:bl ((inB x).extract (Ak x.kind).length (inB x).size)=Ak x.flags++bl (AT x.data):=by rw [CL,hbl,drop_left]
 have q2:JD ((inB x).extract (Ak x.kind).length (inB x).size) x.flags:=⟨k2,by rw [DW];omega,_,e2⟩
 have e3:bl ((inB x).extract ((Ak x.kind).length+(Ak x.flags).length) (inB x).size)=bl (AT x.data)++[]:=by rw [CL,hbl,← append_assoc,drop_left' (by simp),append_nil]
 refine ((s41 (t:=inB x) (post:=post) hS (by omega) hz).and ((s83 q1).and ((s83 q2).and ((s84 e3 (by omega) (by rw [DW];omega)).and (s127 x))))).mono fun m g => ?_;obtain ⟨g1,g2,g3,g4,g5⟩:=g;simp only [Blk.enc] at g5;have w1:w64 (0+(((Ak x.kind).length:Nat):Int))=(((Ak x.kind).length:Nat):Int):=by rw [AX (by omega) (by omega)];omega
 have w2:w64 ((((Ak x.kind).length:Nat):Int)+(((Ak x.flags).length:Nat):Int))=(((Ak x.kind).length+(Ak x.flags).length:Nat):Int):=by rw [AX (by omega) (by omega)];omega
 have w3:w64 ((((Ak x.kind).length+(Ak x.flags).length:Nat):Int)+(((AT x.data).size:Nat):Int))=(((inB x).size:Nat):Int):=by rw [hsz,AX (by omega) (by omega)];omega
 have z0:(0:Int)≤0:=Int.le_refl _;simp only [g1,vv,reduceCtorEq,reduceAdd,reduceEqDiff,bne_self_eq_false,z0,Nf,g2,w1,(show (((Ak x.kind).length:Nat):Int)≤((inB x).size:Nat) by omega),g3,w2,(show (((Ak x.kind).length+(Ak x.flags).length:Nat):Int)≤((inB x).size:Nat) by omega),g4,w3,g5,hc];rfl
def GM (l:List Blk) (i:Nat):Nat:=(Ak (l.length:Nat)).length+(((l.take i).map fun x=>bl (ER x)).flatten).length
theorem JR {l:List Blk} {i:Nat} {x:Blk} (h:l[i]? = some x):GM l (i+1)=GM l i+(ER x).size:=by
 have:l.take (i+1)=l.take i++[x]:=by rw [take_add_one,h];rfl
 unfold GM;rw [this,map_append,flatten_append,length_append];simp [AS];omega
theorem Mm {l:List Blk} {i:Nat} {x:Blk} (h:l[i]? = some x) {S:ByteArray} {post:List UInt8} (hS:bl S=bl (Ci l)++post) :
  (bl S).drop (GM l i)=bl (ER x)++((((l.drop (i+1)).map fun x=>bl (ER x)).flatten)++post):=by
 have hi:=AY h;have e:l=l.take i++(x::l.drop (i+1)):=by have h9:=getElem?_eq_getElem hi;rw [h] at h9;have h10:=drop_eq_getElem_cons hi;rw [← Option.some.inj h9] at h10;rw [← h10,take_append_drop]
 have e2:(l.map fun x=>bl (ER x)).flatten=((l.take i).map fun x=>bl (ER x)).flatten++(bl (ER x)++((l.drop (i+1)).map fun x=>bl (ER x)).flatten):=by
  conv=>lhs;rw [e]
  rw [map_append,flatten_append,map_cons,flatten_cons]
 rw [hS,Gh,e2,GM,append_assoc,append_assoc,← append_assoc (Ak _),drop_left' (by rw [length_append]),append_assoc]
theorem s93 {S:ByteArray} {l:List Blk} {post:List UInt8} (h:BV l) (hS:bl S=bl (Ci l)++post) (hz:S.size≤1099511627776):AL C 93 [.str S] [.sl 3 (l.map Blk.enc),tI ((Ci l).size:Nat),tI 0]:=by
 refine AL.of (fun m=>e93 m _) ?_;obtain ⟨h1,h2,h3⟩:=h;have k1:inR (l.length:Nat):=Dz (by omega);have q1:JD S (l.length:Nat):=⟨k1,hz,_,by rw [hS,Gh,append_assoc]⟩
 have hlen:GM l l.length≤S.size:=by rw [← AS S,hS,Gh,GM,take_length,length_append,length_append];omega
 have hpos:∀i x,l[i]? = some x→GM l (i+1)≤S.size:=fun i x hx=>by have:=Mm hx hS;have h9:=congrArg length this;rw [length_drop,length_append,AS,AS] at h9;rw [JR hx];have hb:=FR (h2 x (mem_of_getElem? hx));omega
 have hfin:GM l l.length=(Ci l).size:=by rw [← AS (Ci l),Gh,GM,take_length,length_append]
 refine Ev.rw (s83 q1) (T':=fun m=>AH (fun p again=>PU m [tI (l.length:Nat),tI ((Ak (l.length:Nat)).length:Nat),tI 0] S p again) m ([.sref 0 0 0 0,.t (tI (GM l 0:Nat)),.t (tI 0)],[.row false 0 3 []])) (fun m g=>by simp only [g,vv,reduceCtorEq,reduceAdd,reduceEqDiff,bne_self_eq_false];rw [Aw (by omega),Aw (by omega)];rfl) ?_
 refine Ao (B:=fun m=>PU m [tI (l.length:Nat),tI ((Ak (l.length:Nat)).length:Nat),tI 0] S) (fun q=>[Tree.sl 3 (l.map Blk.enc),tI (GM l l.length:Nat),tI 0]) l
  (fun i _=>(([.sref 0 i 0 i,.t (tI (GM l i:Nat)),.t (tI (i:Nat))],[.row false i 3 ((l.take i).map Blk.enc)]):List AV×Heap)) (fun _ _ _ =>.next ()) (fun _=>()) (fun _ _=>True) () rfl trivial rfl
  (fun i s x hx hI => ?_) (fun _ _ _ _ _ _ _=>trivial) (fun s hI=>Ev.of fun m again => ?_) |>.mono fun m g => ?_
 ·have hi:=AY hx;have hp:=hpos i x hx;have hb:=FR (h2 x (mem_of_getElem? hx));rw [JR hx] at hp;have hd:bl (S.extract (GM l i) S.size)=bl (ER x)++((((l.drop (i+1)).map fun x=>bl (ER x)).flatten)++post):=by rw [CL,Mm hx hS]
  refine (s153 (h2 x (mem_of_getElem? hx)) hd (by rw [DW];omega)).mono fun m g again => ?_;have e1:w64 ((GM l i:Int)+((ER x).size:Int))=((GM l (i+1):Nat):Int):=by rw [JR hx,AX (by omega) (by omega)];omega
  have htk:((l.take i).map Blk.enc).length=i:=by simp;omega
  have e2:take i ((l.take i).map Blk.enc)=(l.take i).map Blk.enc:=take_of_length_le (by rw [htk];exact le_refl _);have e3:l.take (i+1)=l.take i++[x]:=by rw [take_add_one,hx];rfl
  rw [Rd.As];unfold PU;simp only [vv,reduceCtorEq,reduceAdd,reduceEqDiff,g,bne_self_eq_false,(show (i:Int)<l.length by omega),(show ((GM l i:Nat):Int)≤(S.size:Nat) by omega),BL (show i<4611686018427387904 by omega),J93_3];cases i with
  |zero=>
   rw [Aw (by decide)];simp only [vv,reduceCtorEq,reduceAdd,reduceEqDiff,e1,e3,take_zero,map_nil,nil_append];rfl
  |succ i=>
   have hy:l[i]? = some l[i]:=getElem?_eq_getElem (by omega);have hlt:=Nr h3 hy hx;have e5:w64 (((i+1:Nat):Int)-1)=(i:Int):=by rw [AX (by omega) (by omega)];omega
   have e6:((l.take (i+1)).map Blk.enc)[i]? = some (l[i]).enc:=by rw [getElem?_map,getElem?_take_of_lt (by omega),hy];rfl
   simp only [e5,vv,reduceCtorEq,reduceAdd,reduceEqDiff,(show (0:Int)<((i+1:Nat):Int) by omega),(show ((i:Nat):Int)<((i+1:Nat):Int) by omega),getElem?_map,getElem?_take_of_lt (show i<i+1 by omega),hy,Blk.enc,(show ¬x.kind≤l[i].kind by omega),e1,e3,htk,(show i+1+1≤1073741824 by omega),le_refl];rw [AZ (by rw [length_take];omega),e2,map_append];rfl
 ·unfold PU;simp only [vv,reduceCtorEq,reduceAdd,reduceEqDiff,lt_irrefl,take_length,take_of_length_le (show (l.map Blk.enc).length≤l.length by simp)]
 ·rw [hfin] at g;exact g
end Ab
namespace Ab
open Go
def JQ (p:List UInt8) (L:List (List UInt8)) (i:Nat):Nat:=p.length+(L.take i).flatten.length
theorem MQ {p:List UInt8} {L:List (List UInt8)} {i:Nat} {x:List UInt8} (h:L[i]? = some x):JQ p L (i+1)=JQ p L i+x.length:=by
 have:L.take (i+1)=L.take i++[x]:=by rw [take_add_one,h];rfl
 unfold JQ;rw [this,flatten_append,length_append];simp;omega
theorem Ml {p post:List UInt8} {L:List (List UInt8)} {i:Nat} {x:List UInt8} (h:L[i]? = some x):(p++(L.flatten++post)).drop (JQ p L i)=x++((L.drop (i+1)).flatten++post):=by
 have hi:=AY h;have e:L=L.take i++(x::L.drop (i+1)):=by have h9:=getElem?_eq_getElem hi;rw [h] at h9;have h10:=drop_eq_getElem_cons hi;rw [← Option.some.inj h9] at h10;rw [← h10,take_append_drop]
 have e2:L.flatten=(L.take i).flatten++(x++(L.drop (i+1)).flatten):=by
  conv=>lhs;rw [e]
  rw [flatten_append,flatten_cons]
 rw [e2,JQ,append_assoc,← append_assoc p,drop_left' (by rw [length_append]),append_assoc]
theorem UK {p post:List UInt8} {L:List (List UInt8)}:(p++(L.flatten++post)).drop (JQ p L L.length)=post:=by rw [JQ,take_length,← append_assoc,drop_left' (by rw [length_append])]
theorem posG_le {p:List UInt8} {L:List (List UInt8)} {i:Nat} {x:List UInt8} (h:L[i]? = some x):JQ p L (i+1)≤p.length+L.flatten.length:=by
 have h9:=congrArg length (Ml (p:=p) (post:=[]) h);rw [MQ h];simp only [append_nil,length_drop,length_append] at h9;have hx:JQ p L i≤p.length+L.flatten.length:=by
  unfold JQ;have e:L.flatten=(L.take i).flatten++(L.drop i).flatten:=by rw [← flatten_append,take_append_drop]
  rw [e,length_append];omega
 omega
theorem nc4:((4:Nat):Int)=4:=rfl
theorem nc5:((5:Nat):Int)=5:=rfl
theorem nc6:((6:Nat):Int)=6:=rfl
theorem nc7:((7:Nat):Int)=7:=rfl
theorem nc8:((8:Nat):Int)=8:=rfl
theorem nc9:((9:Nat):Int)=9:=rfl
theorem nc10:((10:Nat):Int)=10:=rfl
def HN:ByteArray:=ByteArray.mk #[77,66,49]
def nums (b:Bun):List Int:=[b.src,b.cre,b.seq,b.off,b.tot,b.dk,b.dn,b.life,b.pri,b.flg]
def hdL (b:Bun):List UInt8:=bl (AT HN)++((nums b).map Ak).flatten
def BZ (b:Bun):ByteArray:=(mkB (hdL b)++Ci b.blocks)++AT b.pay
def Bk (b:Bun):ByteArray:=Cu (BZ b)
theorem IZ {b:Bun} (h:Gp b):∀x∈nums b,inR x:=by have h1:=h.id;have h2:=h.dest;have h3:=h.life;have h4:=h.pri;have h5:=h.flg.1;unfold N9 at h1;unfold J7 at h2;intro x hx;simp only [nums,mem_cons,not_mem_nil,or_false] at hx;unfold inR;omega
theorem Cq {l:List Int} (h:∀x∈l,inR x):(l.map Ak).flatten.length≤9*l.length:=by
 induction l with
 |nil=>simp
 |cons x l ih=>
  have h1:=DX x (h x (by simp));have h2:=ih fun y hy=>h y (by simp [hy]);rw [map_cons,flatten_cons,length_append,length_cons];omega
theorem Gz:(AT HN).size=4:=by decide
theorem Nb {b:Bun} (h:Gp b):(hdL b).length≤94:=by have:=Cq (IZ h);rw [hdL,length_append,AS,Gz];have:(nums b).length=10:=rfl;omega
theorem LZ (b:Bun):bl (BZ b)=bl (AT HN)++(((nums b).map Ak).flatten++(bl (Ci b.blocks)++bl (AT b.pay))):=by rw [BZ,DY,DY,DJ,hdL,append_assoc,append_assoc]
theorem Eh {b:Bun} (h:Gp b):(BZ b).size≤13000:=by have h1:=Nb h;have h2:=H3 h.blk;have h3:=BR b.pay (by have:=h.pay.1;omega);have h4:=h.pay.1;rw [BZ,A9,A9,Bp];omega
def stE (b:Bun) (i:Nat) (l:List UInt8):List AV×Heap:=([.sref 1 i 0 l.length,.t (tI (i:Nat))],[.box [.t (tI b.src),.t (tI b.cre),.t (tI b.seq),.t (tI b.off),.t (tI b.tot),.t (tI b.dk),.t (tI b.dn),.t (tI b.life),.t (tI b.pri),.t (tI b.flg),.t (.sl 3 (b.blocks.map Blk.enc)),.t (.str b.pay)],.row false i 1 (l.map tb)])
theorem s7 (b:Bun) (h:Gp b):AL C 7 b.enc [.str (Bk b),tI 0]:=by
 refine AL.of (fun m=>e7 m _ _ _ _ _ _ _ _ _ _ _ _) ?_;have hbs:=Eh h;have hh:=Nb h;have hb1:=H3 h.blk;have hb2:=BR b.pay (by have:=h.pay.1;omega);have hm:AL C 30 [.str (ByteArray.mk #[77,66,49])] [.str (AT HN),tI 0]:=s30 HN (by decide);refine Ev.rw ((s29 b h).and hm) (T':=fun m=>AH (fun p again=>U1 m p again) m (stE b 0 (bl (AT HN)))) (fun m g=>by obtain ⟨g1,g2⟩:=g;simp only [Bun.enc] at g1;simp only [g1,g2,vv,reduceCtorEq,reduceAdd,reduceEqDiff,bne_self_eq_false,stE,AS,Di];rfl) ?_
 refine Ao (B:=fun m=>U1 m) id (nums b) (fun i l=>stE b i l) (fun _ l x =>.next (l++Ak x)) (fun l=>[Tree.str (Bk b),tI 0]) (fun i l=>l=bl (AT HN)++(((nums b).take i).map Ak).flatten) (bl (AT HN)) rfl (by simp) ?_
  (fun i l x hx hI => ?_) (fun i l x l' hx hI hs => ?_) (fun l hI => ?_)
 ·rw [show (fun (_:Nat) (l:List UInt8) (x:Int)=>(Rd.next (l++Ak x):Rd (List UInt8) (List Tree)))=fun _ s x =>.next ((fun s x=>s++Ak x) s x) from rfl];exact CQ (fun (s:List UInt8) x=>s++Ak x) (fun _=>[Tree.str (Bk b),tI 0]) 0 (nums b) _
 ·have hr:=IZ h x (mem_of_getElem? hx);have hlen:l.length≤94:=by
   rw [hI,length_append,AS,Gz];have h9:=Cq (l:=(nums b).take i) (fun y hy=>IZ h y (mem_of_mem_take hy));have:((nums b).take i).length≤10:=by rw [length_take];exact Nat.min_le_right _ _
   omega
  have hp:=DX x hr;have hi:i<10:=AY hx;refine (s32 x hr).mono fun m g again => ?_;have q1:¬((Ak x).length=0):=by omega
  have q2:l.length+(Ak x).length≤1073741824:=by omega
  have q3:take l.length (l.map tb)=l.map tb:=take_of_length_le (by simp);have key:∀(k:Nat) (y:Int),y=x→i=k→(nums b)[k]? = some y→True:=fun _ _ _ _ _=>trivial;rw [Rd.As];unfold U1;have hcase:i=0∨i=1∨i=2∨i=3∨i=4∨i=5∨i=6∨i=7∨i=8∨i=9:=by omega
  rcases hcase with rfl|rfl|rfl|rfl|rfl|rfl|rfl|rfl|rfl|rfl
  all_goals
   simp only [nums,getElem?_cons_zero,getElem?_cons_succ,Option.some.injEq] at hx;subst hx;simp only [stE,vv,reduceCtorEq,reduceAdd,reduceEqDiff,length_map,nc0,nc1,nc2,nc3,nc4,nc5,nc6,nc7,nc8,nc9,nc10,Int.reduceLT,Int.reduceLE,Int.reduceEq,g,Di,FA,q1,q2,q3,length_append,map_append,le_refl];rfl
 ·cases hs;rw [hI,take_add_one,hx,map_append,flatten_append];simp
 ·have hl:l=hdL b:=by rw [hI];show _++(((nums b).take 10).map Ak).flatten=_;rfl
  subst hl;refine ((s33 b.blocks h.blk).and ((s30 b.pay (by have:=h.pay.1;omega)).and (s34 (BZ b) (by omega)))).mono fun m g again => ?_;obtain ⟨g1,g2,g3⟩:=g;have hp1:=h.pay.1;have q3:take (hdL b).length ((hdL b).map tb)=(hdL b).map tb:=take_of_length_le (by simp);have hn:(nums b).length=10:=rfl;unfold U1;simp only [hn,stE,vv,reduceCtorEq,reduceAdd,reduceEqDiff,nc10,lt_irrefl,g1,g2,q3,Eb,Fp];rw [AZ (by rw [Bp];omega),AZ (by rw [A9,Bp];omega)];show Option.bind (AB C m 34 [Tree.str (BZ b)]) _=_;rw [g3];simp only [vv,reduceCtorEq,reduceAdd,reduceEqDiff];rfl
def fil (i j:Nat) (x:Int):Int:=if j<i then x else 0
def Ec (b:Bun) (i:Nat):Nat:=JQ (bl (AT HN)) ((nums b).map Ak) i
def stD (b:Bun) (i:Nat):List AV×Heap:=([.t (tI (i:Nat))],[.row false 0 3 [],.box [.t (tI 0),.t (tI 0),.t (tI 0),.t (tI 0),.t (tI 0),.t (tI 0),.t (tI 0),.t (tI 0),.t (tI 0),.t (tI 0),.sref 0 0 0 0,.t (.str (ByteArray.mk #[]))],
 .box [.t (.str (BZ b)),.t (tI (Ec b i:Nat)),.t (.bool false)],.row false 0 3 [],.box [.t (tI (fil i 0 b.src)),.t (tI (fil i 1 b.cre)),.t (tI (fil i 2 b.seq)),.t (tI (fil i 3 b.off)),.t (tI (fil i 4 b.tot)),.t (tI (fil i 5 b.dk)),.t (tI (fil i 6 b.dn)),.t (tI (fil i 7 b.life)),.t (tI (fil i 8 b.pri)),.t (tI (fil i 9 b.flg)),.sref 3 0 0 0,.t (.str (ByteArray.mk #[]))]])
theorem MU (b:Bun):Ec b 10=(hdL b).length:=by have:((nums b).map Ak).take 10=(nums b).map Ak:=rfl;rw [Ec,JQ,this,hdL,length_append]
theorem s16 (b:Bun) (h:Gp b):AL C 16 [.str (Bk b)] (b.enc++[tI 0]):=by
 refine AL.of (fun m=>e16 m _) ?_;have hbs:=Eh h;have hh:=Nb h;have hb1:=H3 h.blk;have hp1:=h.pay.1;have hb2:=BR b.pay (by omega);have hz:=Cc (BZ b) (by omega);have hbz:(BZ b).size=(hdL b).length+(Ci b.blocks).size+(AT b.pay).size:=by rw [BZ,A9,A9,Bp]
 have hop:AL C 41 [.str (Bk b)] [.str (BZ b),tI ((Cu (BZ b)).size:Nat),tI 0]:=s41 (post:=[]) (by rw [append_nil];rfl) (by omega) (by unfold Bk;omega);have hmg:AL C 84 [.str ((BZ b).extract 0 (BZ b).size)] [.str HN,tI ((AT HN).size:Nat),tI 0]:=by rw [Nf];exact s84 (LZ b) (by decide) (by omega)
 refine Ev.rw (hop.and hmg) (T':=fun m=>AH (fun p again=>Lq m p again) m (stD b 0)) (fun m g=>by
  obtain ⟨g1,g2⟩:=g;have e1:w64 (0+(((AT HN).size:Nat):Int))=((Ec b 0:Nat):Int):=by rw [Gz,Ec,JQ,AS,Gz];rfl
  have e2:(HN != ByteArray.mk #[77,66,49])=false:=by decide
  have e3:(Bk b).size=(Cu (BZ b)).size:=rfl;have z0:(0:Int)≤0:=Int.le_refl _;simp only [g1,g2,vv,reduceCtorEq,reduceAdd,reduceEqDiff,bne_self_eq_false,z0,e1,e2,e3,VR,stD];rfl) ?_
 refine Ao (B:=fun m=>Lq m) id (nums b) (fun i _=>stD b i) (fun _ _ _ =>.next ()) (fun _=>b.enc++[tI 0]) (fun _ _=>True) () rfl trivial rfl
  (fun i s x hx hI => ?_) (fun _ _ _ _ _ _ _=>trivial) (fun s hI => ?_)
 ·have hr:=IZ h x (mem_of_getElem? hx);have hi:i<10:=AY hx;have hxe:((nums b).map Ak)[i]? = some (Ak x):=by rw [getElem?_map,hx];rfl
  have hle:=posG_le (p:=bl (AT HN)) hxe;have hfl:(bl (AT HN)).length+((nums b).map Ak).flatten.length=(hdL b).length:=by rw [hdL,length_append]
  have hsu:=MQ (p:=bl (AT HN)) hxe;have hd:bl ((BZ b).extract (Ec b i) (BZ b).size)=Ak x++((((nums b).map Ak).drop (i+1)).flatten++(bl (Ci b.blocks)++bl (AT b.pay))):=by rw [CL,LZ];exact Ml hxe
  have hI:JD ((BZ b).extract (Ec b i) (BZ b).size) x:=⟨hr,by rw [DW];omega,_,hd⟩
  refine (s83 hI).mono fun m g again => ?_;have hpl:=DX x hr;have e1:w64 ((Ec b i:Int)+(((Ak x).length:Nat):Int))=((Ec b (i+1):Nat):Int):=by unfold Ec at *;rw [hsu,AX (by omega) (by omega)];omega
  have e2:((Ec b i:Nat):Int)≤((BZ b).size:Nat):=by unfold Ec at *;omega
  rw [Rd.As];unfold Lq;have hcase:i=0∨i=1∨i=2∨i=3∨i=4∨i=5∨i=6∨i=7∨i=8∨i=9:=by omega
  rcases hcase with rfl|rfl|rfl|rfl|rfl|rfl|rfl|rfl|rfl|rfl
  all_goals
   simp only [nums,getElem?_cons_zero,getElem?_cons_succ,Option.some.injEq] at hx;subst hx;simp only [stD,vv,reduceCtorEq,reduceAdd,reduceEqDiff,nc0,nc1,nc2,nc3,nc4,nc5,nc6,nc7,nc8,nc9,nc10,Int.reduceLT,Int.reduceLE,Int.reduceEq,e2,g,e1,bne_self_eq_false,J16_1,J16_2,J16_3,J16_4,J16_5,J16_6,J16_7,J16_8,J16_9,Vr,Vq,Vp,Vo,Vn,Vm,Vl,Vk,Vj,Vi,Vh,Vg,Vf,Ve,Vd,Vc,Vb,Va,VZ,VY,VX];rfl
 ·have hn:(nums b).length=10:=rfl;have d1:bl ((BZ b).extract (Ec b 10) (BZ b).size)=bl (Ci b.blocks)++bl (AT b.pay):=by rw [CL,LZ];exact UK
  have d2:bl ((BZ b).extract (Ec b 10+(Ci b.blocks).size) (BZ b).size)=bl (AT b.pay)++[]:=by rw [CL,← drop_drop,← CL (BZ b) (Ec b 10),d1,← AS (Ci b.blocks),drop_left,append_nil]
  have d3:(BZ b).extract (Ec b 10+(Ci b.blocks).size+(AT b.pay).size) (BZ b).size=ByteArray.mk #[]:=by apply CW;rw [CL,Gg,List.drop_of_length_le];rw [AS,hbz,MU];exact le_refl _
  refine ((s93 h.blk d1 (by rw [DW];omega)).and ((s84 d2 (by omega) (by rw [DW];omega)).and (s29 b h))).mono fun m g again => ?_;obtain ⟨g1,g2,g3⟩:=g;have hnp:=MU b;have e1:((Ec b 10:Nat):Int)≤((BZ b).size:Nat):=by omega
  have e2:w64 (((Ec b 10:Nat):Int)+(((Ci b.blocks).size:Nat):Int))=((Ec b 10+(Ci b.blocks).size:Nat):Int):=by rw [AX (by omega) (by omega)];omega
  have e3:((Ec b 10+(Ci b.blocks).size:Nat):Int)≤((BZ b).size:Nat):=by omega
  have e4:w64 (((Ec b 10+(Ci b.blocks).size:Nat):Int)+(((AT b.pay).size:Nat):Int))=((Ec b 10+(Ci b.blocks).size+(AT b.pay).size:Nat):Int):=by rw [AX (by omega) (by omega)];omega
  have e5:((Ec b 10+(Ci b.blocks).size+(AT b.pay).size:Nat):Int)≤((BZ b).size:Nat):=by omega
  have e6:(ByteArray.mk #[] != ByteArray.mk #[])=false:=by decide
  simp only [Bun.enc] at g3;rw [hn];unfold Lq;simp only [stD,vv,reduceCtorEq,reduceAdd,reduceEqDiff,nc10,lt_irrefl,e1,g1,bne_self_eq_false,VW,VS,e2,e3,g2,VV,VU,e4,VT,e5,d3,e6];show Option.bind (AB C m 29 [tI b.src,tI b.cre,tI b.seq,tI b.off,tI b.tot,tI b.dk,tI b.dn,tI b.life,tI b.pri,tI b.flg,.sl 3 (b.blocks.map Blk.enc),.str b.pay]) _=_;rw [g3];simp only [vv,reduceCtorEq,reduceAdd,reduceEqDiff,bne_self_eq_false];rfl
end Ab
namespace Ab
open Go
def KB (c:Bool):Int:=if c then 1 else 0
theorem s39 (c:Bool):AL C 39 [.bool c] [tI (KB c)]:=AL.of (fun m=>e39 m _) (Ev.of fun m=>by cases c<;>rfl)
def Be (x:Seg):List Int:=[x.kind,x.ses,x.ser,x.off,x.tot,KB x.chk]
def CZ (x:Seg):ByteArray:=((Be x).foldl (fun s n=>s++CK n) (ByteArray.mk #[])++AT x.data)++CK 0
def BW (x:Seg):ByteArray:=Cu (CZ x)
structure Qv (x:Seg):Prop where
 chk:DN x=0
 cl:x.claims=[]
 sz:x.data.size≤16
 nums:∀n∈Be x,inR n
theorem foldB (l:List Int):∀s:ByteArray,bl (l.foldl (fun s n=>s++CK n) s)=bl s++(l.map Ak).flatten:=by
 induction l with
 |nil=>intro s;simp
 |cons a l ih=>intro s;rw [foldl_cons,ih,DY,FA,map_cons,flatten_cons,append_assoc]
theorem PD (x:Seg):bl (CZ x)=((Be x).map Ak).flatten++(bl (AT x.data)++Ak 0):=by rw [CZ,DY,DY,foldB,FA,Gg,nil_append,append_assoc]
theorem EY {x:Seg} (h:Qv x):(CZ x).size≤80:=by
 have h1:=Cq h.nums;have h2:=BR x.data (by have:=h.sz;omega);have h3:(Ak 0).length=1:=by rw [ET];rfl
 have h4:(Be x).length=6:=rfl;have h5:=h.sz;rw [← AS,PD,length_append,length_append,AS];omega
theorem s11 (x:Seg) (h:Qv x):AL C 11 x.enc [.str (BW x),tI 0]:=by
 refine AL.of (fun m=>e11 m _ _ _ _ _ _ _ _) ?_;have hz:=EY h;have hc:AL C 38 x.enc [tI 0]:=by have:=s38 x;rw [h.chk] at this;exact this
 refine Ev.rw (hc.and (s39 x.chk)) (T':=fun m=>AH (fun p again=>Pg m x.kind x.ses x.ser x.off x.tot [tI (KB x.chk)] x.data (x.claims.map Span.enc) p again) m (([.t (.str (ByteArray.mk #[])),.t (tI ((0:Nat):Int))],[]):List AV×Heap)) (fun m g=>by obtain ⟨g1,g2⟩:=g;simp only [Seg.enc] at g1;simp only [g1,g2,vv,reduceCtorEq,reduceAdd,reduceEqDiff,bne_self_eq_false];rfl) ?_
 refine Ao (B:=fun m=>Pg m x.kind x.ses x.ser x.off x.tot [tI (KB x.chk)] x.data (x.claims.map Span.enc)) id (Be x) (fun i (s:ByteArray)=>(([.t (.str s),.t (tI ((i:Nat):Int))],[]):List AV×Heap)) (fun _ s n =>.next (s++CK n)) (fun _=>[Tree.str (BW x),tI 0]) (fun i s=>s=((Be x).take i).foldl (fun s n=>s++CK n) (ByteArray.mk #[])) (ByteArray.mk #[]) rfl (by simp) ?_
  (fun i s n hx hI => ?_) (fun i s n s' hx hI hs => ?_) (fun s hI => ?_)
 ·exact CQ (fun (s:ByteArray) n=>s++CK n) (fun _=>[Tree.str (BW x),tI 0]) 0 (Be x) _
 ·have hr:=h.nums n (mem_of_getElem? hx);have hs:s.size≤54:=by
   rw [hI,← AS,foldB,Gg,nil_append];have h9:=Cq (l:=(Be x).take i) (fun y hy=>h.nums y (mem_of_mem_take hy));have:((Be x).take i).length≤6:=by rw [length_take];exact Nat.min_le_right _ _
   omega
  have hp:=Cr n hr;have hi:i<6:=AY hx;have q1:s.size+(CK n).size≤9223372036854775807:=by omega
  refine (s32 n hr).mono fun m g again => ?_;rw [Rd.As];unfold Pg;have hcase:i=0∨i=1∨i=2∨i=3∨i=4∨i=5:=by omega
  rcases hcase with rfl|rfl|rfl|rfl|rfl|rfl
  all_goals
   simp only [Be,getElem?_cons_zero,getElem?_cons_succ,Option.some.injEq] at hx;subst hx;simp only [vv,reduceCtorEq,reduceAdd,reduceEqDiff,nc0,nc1,nc2,nc3,nc4,nc5,Int.reduceLT,Int.reduceLE,toNat_zero,Int.reduceToNat,getElem?_cons_zero,getElem?_cons_succ,g,q1];rfl
 ·cases hs;rw [hI,take_add_one,hx];simp
 ·have hl:s=(Be x).foldl (fun s n=>s++CK n) (ByteArray.mk #[]):=by rw [hI];rfl
  have h5:=h.sz;have ha:s.size≤80∧(s++AT x.data).size≤80∧((s++AT x.data)++CK 0)=CZ x:=by
   have e:((s++AT x.data)++CK 0)=CZ x:=by rw [hl];rfl
   have:=congrArg ByteArray.size e;rw [A9,A9] at this;rw [A9];exact ⟨by omega,by omega,e⟩
  have hb:=BR x.data (by omega);have e2:(CK 0).size=1:=by rw [CK,Bp,ET];rfl
  refine ((s30 x.data (by omega)).and (s40_nil.and ((s34 (CZ x) (by omega)).and (Ev.ge 1)))).mono fun m g again => ?_;obtain ⟨g1,g2,g3,h1⟩:=g;obtain ⟨k,rfl⟩:∃k,m=k+1:=⟨m-1,by omega⟩
  unfold Pg;have hn:(Be x).length=6:=rfl;simp only [hn,vv,reduceCtorEq,reduceAdd,reduceEqDiff,nc6,lt_irrefl,g1];show VA _ _ _ _ _ _=_;unfold VA;rw [h.cl];simp only [vv,reduceCtorEq,reduceAdd,reduceEqDiff,map_nil,length_nil,nc0,lt_irrefl,take_zero,drop_nil,take_nil,g2,e2,(show s.size+(AT x.data).size≤9223372036854775807 by omega),(show (s++AT x.data).size+1≤9223372036854775807 by omega),ha.2.2,g3];rfl
end Ab
namespace Ab
open Go
def stG (x:Seg) (i:Nat) (s:ByteArray):List AV×Heap:=([.t (.str s),.t (tI (i:Nat))],[.row false 0 2 [],
 .box [.t (tI 0),.t (tI 0),.t (tI 0),.t (tI 0),.t (tI 0),.t (.bool false),.t (.str (ByteArray.mk #[])),.sref 0 0 0 0],
 .box [.t (tI (fil i 0 x.kind)),.t (tI (fil i 1 x.ses)),.t (tI (fil i 2 x.ser)),.t (tI (fil i 3 x.off)),.t (tI (fil i 4 x.tot)),.t (tI (fil i 5 (KB x.chk)))]])
theorem s42 (x:Seg) (h:Qv x):AL C 42 [.str (CZ x)] (x.enc++[.bool true]):=by
 refine AL.of (fun m=>e42 m _) ?_;have hz:=EY h;have h5:=h.sz;have hc:AL C 38 x.enc [tI 0]:=by have:=s38 x;rw [h.chk] at this;exact this
 have e0:(Ak 0).length=1:=by rw [ET];rfl
 refine Ao (B:=fun m=>Rp m) id (Be x) (fun i s=>stG x i s) (fun _ s n =>.next (s.extract (Ak n).length s.size)) (fun _=>x.enc++[.bool true]) (fun i s=>bl s=(((Be x).drop i).map Ak).flatten++(bl (AT x.data)++Ak 0)∧s.size≤80) (CZ x) rfl ⟨by rw [PD];rfl,hz⟩ ?_
  (fun i s n hx hI => ?_) (fun i s n s' hx hI hs => ?_) (fun s hI => ?_)
 ·exact CQ (fun (s:ByteArray) n=>s.extract (Ak n).length s.size) (fun _=>x.enc++[.bool true]) 0 (Be x) _
 ·have hr:=h.nums n (mem_of_getElem? hx);have hi:i<6:=AY hx;have hd:bl s=Ak n++((((Be x).drop (i+1)).map Ak).flatten++(bl (AT x.data)++Ak 0)):=by obtain ⟨hlt,rfl⟩:=List.getElem?_eq_some_iff.mp hx;rw [hI.1,drop_eq_getElem_cons hlt,map_cons,flatten_cons,append_assoc]
  have hH:JD s n:=⟨hr,by omega,_,hd⟩
  have hle:(Ak n).length≤s.size:=by rw [← AS,hd,length_append];omega
  refine (s83 hH).mono fun m g again => ?_;have e2:(((Ak n).length:Nat):Int)≤((s.size:Nat):Int):=by omega
  rw [Rd.As];unfold Rp;have hcase:i=0∨i=1∨i=2∨i=3∨i=4∨i=5:=by omega
  rcases hcase with rfl|rfl|rfl|rfl|rfl|rfl
  all_goals
   simp only [Be,getElem?_cons_zero,getElem?_cons_succ,Option.some.injEq] at hx;subst hx;simp only [stG,vv,reduceCtorEq,reduceAdd,reduceEqDiff,nc0,nc1,nc2,nc3,nc4,nc5,Int.reduceLT,Int.reduceLE,Int.reduceEq,g,e2,bne_self_eq_false];rfl
 ·cases hs;obtain ⟨hlt,rfl⟩:=List.getElem?_eq_some_iff.mp hx;refine ⟨?_,by rw [DW];omega⟩;rw [CL,hI.1,drop_eq_getElem_cons hlt,map_cons,flatten_cons,append_assoc,drop_left]
 ·have hn:(Be x).length=6:=rfl;have d0:bl s=bl (AT x.data)++Ak 0:=by rw [hI.1];rfl
  have hs:s.size=(AT x.data).size+1:=by rw [← AS,d0,length_append,AS,e0]
  have d1:bl (s.extract (AT x.data).size s.size)=Ak 0++[]:=by rw [CL,d0,← AS (AT x.data),drop_left,append_nil]
  have hw:wi (KB x.chk) 0 1=true:=by cases x.chk<;>rfl
  have hb0:=s35 (KB x.chk) 0 1;rw [hw] at hb0;have hb:AL C 35 [tI (fil 6 5 (KB x.chk)),tI 0,tI 1] [.bool true]:=hb0;refine ((s84 d0 (by omega) (by omega)).and (hb.and ((s85_nil d1 (by rw [DW];omega)).and (hc.and (Ev.ge 1))))).mono fun m g again => ?_;obtain ⟨g1,g2,g3,g4,h1⟩:=g;obtain ⟨k,rfl⟩:∃k,m=k+1:=⟨m-1,by omega⟩
  have e2:(((AT x.data).size:Nat):Int)≤((s.size:Nat):Int):=by omega
  have e3:w64 ((((AT x.data).size:Nat):Int)+1)=((s.size:Nat):Int):=by rw [AX (by omega) (by omega)];omega
  have e4:(fil 6 5 (KB x.chk)==1)=x.chk:=by cases x.chk<;>rfl
  have z0:(0:Int)≤((AT x.data).size:Nat):=natCast_nonneg _;rw [hn];unfold Rp;simp only [stG,vv,reduceCtorEq,reduceAdd,reduceEqDiff,nc6,lt_irrefl,g1,bne_self_eq_false];simp only [vv,reduceCtorEq,reduceAdd,reduceEqDiff,g2,Bool.not_true,J42_3,e2,z0,toNat_natCast,g3];simp only [vv,reduceCtorEq,reduceAdd,reduceEqDiff,e3,bne_self_eq_false,J42_2,e4];rw [Aw (by decide)];show U5 _ _ _ _=_;unfold U5;simp only [vv,reduceCtorEq,reduceAdd,reduceEqDiff,nc0,length_nil,lt_irrefl,take_zero,drop_nil,take_nil];simp only [Seg.enc,h.cl,map_nil] at g4;show Option.bind (AB C k.succ 38 [tI x.kind,tI x.ses,tI x.ser,tI x.off,tI x.tot,.bool x.chk,.str x.data,.sl 2 []]) _=_;rw [g4];simp only [vv,reduceCtorEq,reduceAdd,reduceEqDiff,Seg.enc,h.cl,map_nil];rfl
theorem s12 (x:Seg) (h:Qv x):AL C 12 [.str (BW x)] (x.enc++[tI 0]):=by refine AL.of (fun m=>e12 m _) ?_;have hz:=EY h;have h2:=Cc (CZ x) (by omega);have hop:AL C 41 [.str (BW x)] [.str (CZ x),tI ((Cu (CZ x)).size:Nat),tI 0]:=s41 (post:=[]) (by rw [append_nil];rfl) (by omega) (by unfold BW;omega);refine (hop.and (s42 x h)).mono fun m g => ?_;obtain ⟨g1,g2⟩:=g;have e3:(BW x).size=(Cu (CZ x)).size:=rfl;simp only [Seg.enc,cons_append,nil_append] at g2;simp only [g1,g2,vv,reduceCtorEq,reduceAdd,reduceEqDiff,bne_self_eq_false,e3,Bool.not_true,Seg.enc];rfl
theorem s12_dmg {S t:ByteArray} {d:List UInt8} (h:bl S=bl (AT t)++d) (hd:d.length=4) (hne:d≠bl (F8 (AT t))) (ht:t.size≤65536) (hS:S.size≤1099511627776) :
  AL C 12 [.str S] [tI 0,tI 0,tI 0,tI 0,tI 0,.bool false,.str (ByteArray.mk #[]),.sl 2 [],tI 13]:=by
 refine AL.of (fun m=>e12 m _) ?_;have hop:=RE (S:=S) (post:=[]) (by rw [append_nil];exact h) hd ht hS;rw [if_neg hne] at hop;refine hop.mono fun m g => ?_;simp only [g,vv,reduceCtorEq,reduceAdd,reduceEqDiff];rfl
end Ab
namespace Ab
open Go
theorem EU (k:Nat):(DO k).length=k:=by simp [DO]
theorem Ij {l:List UInt8} {i:Nat} (h:l.length≤i):l.getD i 0=0:=by simp [List.getD,getElem?_eq_none h]
theorem Pk (k i:Nat):(DO k).getD i 0=0:=by
 by_cases h:i<k
 ·simp [DO,List.getD,List.getElem?_replicate,h]
 ·exact Ij (by simp [DO];omega)
theorem Ob {r:Rcv} {x:Seg} (h1:r.data.size≤x.tot.toNat) (h2:x.off.toNat+x.data.size≤x.tot.toNat):(C8 r x).length=x.tot.toNat:=by
 have l1:(Ki (DO x.tot.toNat) 0 (bl r.data)).length=x.tot.toNat:=by rw [GB _ _ _ (by rw [AS,EU];omega),EU]
 unfold C8;rw [GB _ _ _ (by rw [AS,l1];omega),l1]
theorem Oc {r:Rcv} {x:Seg} (h1:r.data.size≤x.tot.toNat) (h2:x.off.toNat+x.data.size≤x.tot.toNat) (i:Nat) :
  (C8 r x).getD i 0=if x.off.toNat≤i∧i<x.off.toNat+x.data.size then (bl x.data).getD (i-x.off.toNat) 0 else (bl r.data).getD i 0:=by
 have l1:(Ki (DO x.tot.toNat) 0 (bl r.data)).length=x.tot.toNat:=by rw [GB _ _ _ (by rw [AS,EU];omega),EU]
 unfold C8;rw [OM _ _ _ (by rw [AS,l1];omega),OM _ _ _ (by rw [AS,EU];omega),AS,AS];split
 ·rfl
 ·split
  ·rw [sub_zero]
  ·rw [Pk,Ij (by rw [AS];omega)]
theorem fits {r:Rcv} {x:Seg} (hr:D4 r=0) (hx:DN x=0) (hs:DR r x=true):r.data.size≤x.tot.toNat∧x.off.toNat+x.data.size≤x.tot.toNat:=by obtain ⟨g1,g2,g3,g4,g5,g6,g7⟩:=D3 hx (Cm.1 hs).1;exact ⟨(size_le hr hx hs).1,by omega⟩
theorem T3 {x:Seg} {t:Int}:B5 t [sp x]↔x.off≤t∧t<x.off+x.data.size:=by simp only [B5,or_false];rfl
theorem OZ {r:Rcv} {x:Seg} (hs:DR r x=true) (t:Int):B5 t (Es r x).known↔B5 t r.known∨(x.off≤t∧t<x.off+x.data.size):=by rw [← T3];exact (F7 (Cm.1 hs).2.2.2.2).2.2.2.2 t
theorem Oa {r:Rcv} {x:Seg} (hr:D4 r=0) (hx:DN x=0) (hs:DR r x=true) (i:Nat) :
  (bl (Es r x).data).getD i 0=if x.off.toNat≤i∧i<x.off.toNat+x.data.size then (bl x.data).getD (i-x.off.toNat) 0 else (bl r.data).getD i 0:=by
 show (bl (mkB (C8 r x))).getD i 0=_;rw [DJ];exact Oc (fits hr hx hs).1 (fits hr hx hs).2 i
theorem SG {r:Rcv} {x:Seg} (hr:D4 r=0) (hx:DN x=0) (hs:DR r x=true):(Es r x).data.size=x.tot.toNat:=by show (mkB (C8 r x)).size=_;rw [Bp];exact Ob (fits hr hx hs).1 (fits hr hx hs).2
theorem QG {r:Rcv} {x:Seg} (hr:D4 r=0) (hx:DN x=0) (hs:DR r x=true):D4 (Es r x)=0:=by
 obtain ⟨h1,h2,h3,h4,h5⟩:=Cm.1 hs;obtain ⟨g1,g2,g3,g4,g5,g6,g7⟩:=D3 hx h1;obtain ⟨c1,c2,c3,c4⟩:=CD hr;obtain ⟨w1,w2⟩:=Jv hr hx hs;obtain ⟨u1,u2,u3,u4,u5⟩:=F7 h5;have a1:Qw (Es r x):=⟨c1.1,.inr ⟨g1,g2⟩⟩
 have a2:KnR (Es r x):=by refine ⟨u4,⟨fun h=>(w2 h).elim,fun h => ?_⟩,(Ee u4).2 w1⟩;have:x.tot = -1:=h;omega
 have a3:((Es r x).data.size:Int)=Hg (Es r x).tot:=by rw [SG hr hx hs];show ((x.tot.toNat:Nat):Int)=Hg x.tot;unfold Hg;rw [if_neg (by omega)];omega
 have a4:PS (Es r x):=by
  intro i hi hi0;rw [Oa hr hx hs] at hi0;rw [OZ hs];split at hi0
  ·right;omega
  ·left;refine c4 i ?_ hi0;rw [← AS];rcases lt_or_ge i (bl r.data).length with h|h
   ·exact h
   ·exact (hi0 (Ij h)).elim
 unfold D4;rw [if_neg (not_not_intro a1),if_neg (not_not_intro a2),if_neg (not_not_intro a3),if_pos a4]
theorem RU {r:Rcv} {x:Seg} (hr:D4 r=0) (hx:DN x=0):L9 r x=if DR r x=true then (Es r x,if x.chk=true then [FH r x] else [],0) else (r,[],0):=by
 unfold L9;rw [if_neg (not_not_intro ⟨hr,hx⟩)];by_cases hs:DR r x=true
 ·rw [if_neg (by rw [hs];decide),if_pos hs]
 ·rw [if_pos (by simpa using hs),if_neg hs]
end Ab
namespace Ab
open Go
def Bq (D:ByteArray) (x:Seg):Prop:=DN x=0∧x.kind=1∧x.ses=0∧x.tot=D.size∧∀i,i<x.data.size→(bl x.data).getD i 0=(bl D).getD (x.off.toNat+i) 0
def Cov (l:List Seg) (t:Int):Prop:=∃x∈l,x.off≤t∧t<x.off+x.data.size
def R5:Rcv:=⟨0,-1,[],ByteArray.mk #[]⟩
def BB (r:Rcv) (l:List Seg):Rcv:=l.foldl (fun r x=>(L9 r x).1) r
structure Hd (D:ByteArray) (r:Rcv) (l:List Seg):Prop where
 ok:D4 r=0
 ses:r.ses=0
 tot:r.tot=if l=[] then -1 else (D.size:Int)
 mem:∀t,B5 t r.known↔Cov l t
 get:∀i:Nat,Cov l (i:Int)→(bl r.data).getD i 0=(bl D).getD i 0
theorem IG (D:ByteArray):Hd D R5 []:=⟨by decide,rfl,rfl,fun t=>⟨fun h=>h.elim,fun ⟨x,h,_⟩=>by cases h⟩,fun i ⟨x,h,_⟩=>by cases h⟩
theorem Oz {l:List Seg} {x:Seg} {t:Int}:Cov (l++[x]) t↔Cov l t∨(x.off≤t∧t<x.off+x.data.size):=by
 unfold Cov;constructor
 ·rintro ⟨y,hy,h⟩
  rcases mem_append.1 hy with hy|hy
  ·exact .inl ⟨y,hy,h⟩
  ·simp only [mem_singleton] at hy;subst hy;exact .inr h
 ·rintro (⟨y,hy,h⟩|h)
  ·exact ⟨y,mem_append_left _ hy,h⟩
  ·exact ⟨x,by simp,h⟩
theorem Fb {D:ByteArray} {x:Seg} (hx:Bq D x):0≤x.off∧1≤x.data.size∧x.off+x.data.size≤D.size∧x.data.size≤16:=by obtain ⟨g1,g2,g3,g4,g5,g6,g7⟩:=D3 hx.1 hx.2.1;have:=hx.2.2.2.1;omega
theorem UW {D:ByteArray} {l:List Seg} (hl:∀x∈l,Bq D x) {t:Int} (h:Cov l t):0≤t∧t<D.size:=by obtain ⟨x,hx,h1,h2⟩:=h;have:=Fb (hl x hx);omega
theorem OK {D:ByteArray} {r:Rcv} {l:List Seg} {x:Seg} (h:Hd D r l) (hl:∀x∈l,Bq D x) (hx:Bq D x) (hD:D.size≤900):DR r x=true:=by
 obtain ⟨c1,c2,c3,c4⟩:=CD h.ok;obtain ⟨b1,b2,b3,b4⟩:=Fb hx;refine Cm.2 ⟨hx.2.1,by rw [hx.2.2.1,h.ses],?_,fun i hi hm => ?_,?_⟩
 ·rw [h.tot,hx.2.2.2.1];by_cases hn:l=[]
  ·left;rw [if_pos hn]
  ·right;rw [if_neg hn]
 ·have:=h.get (x.off.toNat+i) (by rw [show ((x.off.toNat+i:Nat):Int)=x.off+(i:Int) by omega];exact (h.mem _).1 hm);rw [this,hx.2.2.2.2 i hi]
 ·have hs:D5 [sp x]=0:=by
   rw [BM];refine ⟨by simp,⟨?_,?_,trivial⟩,fun y hy => ?_⟩
   ·show -1152921504606846977<x.off;omega
   ·show x.off<x.off+x.data.size;omega
   ·simp only [mem_singleton] at hy;subst hy;show x.off+x.data.size≤_;omega
  obtain ⟨u1,u2⟩:=OF ((BM _).1 c2.1).2.1 ((BM _).1 hs).2.1;have hin:∀t,B5 t (uni r.known [sp x])→0≤t∧t<D.size:=fun t m=>by
   rcases (u2 t).1 m with m|m
   ·exact UW hl ((h.mem t).1 m)
   ·rw [T3] at m;omega
  have hw:=K3 u1 hin;have hlen:((uni r.known [sp x]).length:Int)≤D.size-(-1):=by
   refine Sj (b := -1) ?_ (by omega) (fun y hy=>(hw y hy).2);cases hu:uni r.known [sp x] with
   |nil=>trivial
   |cons y l'=>
    rw [hu] at u1 hw;exact ⟨by have:=(hw y mem_cons_self).1;omega,u1.2.1,u1.2.2⟩
  unfold EV;rw [if_pos ⟨c2.1,hs⟩,if_neg (by omega)]
theorem st_next {D:ByteArray} {r:Rcv} {l:List Seg} {x:Seg} (h:Hd D r l) (hl:∀x∈l,Bq D x) (hx:Bq D x) (hD:D.size≤900):Hd D (Es r x) (l++[x]):=by
 have hs:=OK h hl hx hD;obtain ⟨b1,b2,b3,b4⟩:=Fb hx;refine ⟨QG h.ok hx.1 hs,h.ses,?_,fun t => ?_,fun i hi => ?_⟩
 ·rw [if_neg (by simp)];exact hx.2.2.2.1
 ·rw [OZ hs,h.mem,Oz]
 ·rw [Oa h.ok hx.1 hs];split
  ·rename_i hr;rw [hx.2.2.2.2 _ (by omega),show x.off.toNat+(i-x.off.toNat)=i by omega]
  ·rename_i hr;rcases Oz.1 hi with hc|hc
   ·exact h.get i hc
   ·omega
theorem RB {D:ByteArray} {r:Rcv} {l:List Seg} {x:Seg} (h:Hd D r l) (hl:∀x∈l,Bq D x) (hx:Bq D x) (hD:D.size≤900):L9 r x=(Es r x,if x.chk=true then [FH r x] else [],0):=by rw [RU h.ok hx.1,if_pos (OK h hl hx hD)]
theorem JH {D:ByteArray} (hD:D.size≤900):∀(k l:List Seg) (r:Rcv),Hd D r l→(∀x∈l,Bq D x)→(∀x∈k,Bq D x)→Hd D (BB r k) (l++k)
 |[],l,r,h,hl,hk=>by simpa [BB] using h
 |x::k,l,r,h,hl,hk=>by
  have hx:=hk x mem_cons_self;have h1:=st_next h hl hx hD;have:=JH hD k (l++[x]) (Es r x) h1 (fun y hy=>by
   rcases mem_append.1 hy with hy|hy
   ·exact hl y hy
   ·simp only [mem_singleton] at hy;subst hy;exact hx) (fun y hy=>hk y (mem_cons_of_mem _ hy))
  unfold BB at this ⊢;rw [foldl_cons,RB h hl hx hD];simpa using this
theorem st_size {D:ByteArray} {r:Rcv} {l:List Seg} (h:Hd D r l):r.data.size=if l=[] then 0 else D.size:=by
 obtain ⟨c1,c2,c3,c4⟩:=CD h.ok;have ht:=h.tot;unfold Hg at c3;by_cases hn:l=[]
 ·rw [if_pos hn] at ht ⊢;rw [ht,if_pos (by decide)] at c3;omega
 ·rw [if_neg hn] at ht ⊢;rw [ht,if_neg (by omega)] at c3;omega
theorem R2 {D:ByteArray} {r r':Rcv} {l l':List Seg} (h:Hd D r l) (h':Hd D r' l') (he:l=[]↔l'=[]) (hc:∀t,Cov l t↔Cov l' t):r=r':=by
 obtain ⟨c1,c2,c3,c4⟩:=CD h.ok;obtain ⟨d1,d2,d3,d4⟩:=CD h'.ok;have e1:r.ses=r'.ses:=by rw [h.ses,h'.ses]
 have e2:r.tot=r'.tot:=by
  rw [h.tot,h'.tot];by_cases hn:l=[]
  ·rw [if_pos hn,if_pos (he.1 hn)]
  ·rw [if_neg hn,if_neg (fun x=>hn (he.2 x))]
 have e3:r.known=r'.known:=Fo ((BM _).1 c2.1).2.1 ((BM _).1 d2.1).2.1 fun t=>by rw [h.mem,h'.mem,hc]
 have e4:r.data=r'.data:=by
  refine LY (by have:=c3;have:=d3;rw [e2] at c3;omega) fun i hi => ?_;by_cases hm:B5 i r.known
  ·have hcv:=(h.mem i).1 hm;rw [h.get i hcv,h'.get i ((hc _).1 hcv)]
  ·have z1:(bl r.data).getD i 0=0:=Classical.byContradiction fun hz=>hm (c4 i hi hz);have z2:(bl r'.data).getD i 0=0:=Classical.byContradiction fun hz=>hm (by
    rw [e3];refine d4 i ?_ hz;rw [← AS];rcases lt_or_ge i (bl r'.data).length with q|q
    ·exact q
    ·exact (hz (Ij q)).elim)
   rw [z1,z2]
 cases r;cases r';simp only at e1 e2 e3 e4;rw [e1,e2,e3,e4]
theorem NZ (r:Rcv) (l:List Seg) (x:Seg):BB r (l++[x])=(L9 (BB r l) x).1:=by simp [BB]
theorem Rz {α:Type} {l:List α} {i:Nat} {x:α} (h:l[i]? = some x):l.take (i+1)=l.take i++[x]:=by rw [take_add_one,h];rfl
end Ab
namespace Ab
open Go
end Ab
namespace Ab
open Go
theorem Rc:∀(k:Nat) (a b:Int),(b-a).toNat≤k→∀p∈cut a b,a≤p.1∧p.1<p.2∧p.2≤b∧p.2≤p.1+16
 |k,a,b,hk,p,hp=>by
  by_cases h:a<b
  ·rw [EP h] at hp;have h1:=E0 h;rcases mem_cons.1 hp with rfl|hp
   ·refine ⟨Int.le_refl _,h1.1,h1.2,?_⟩;simp only;unfold Dm;split<;>omega
   ·cases k with
    |zero=>omega
    |succ k=>
     have:=Rc k (Dm a b) b (by omega) p hp;omega
  ·rw [Ez h] at hp;cases hp
theorem Ms:∀(k:Nat) (a b t:Int),(b-a).toNat≤k→a≤t→t<b→∃p∈cut a b,p.1≤t∧t<p.2
 |k,a,b,t,hk,h1,h2=>by
  have h:a<b:=by omega
  rw [EP h];have h3:=E0 h;by_cases h4:t<Dm a b
  ·exact ⟨(a,Dm a b),mem_cons_self,h1,h4⟩
  ·cases k with
   |zero=>omega
   |succ k=>
    obtain ⟨p,hp,hp2⟩:=Ms k (Dm a b) b t (by omega) (by omega) h2;exact ⟨p,mem_cons_of_mem _ hp,hp2⟩
theorem It:∀(k:Nat) (a b:Int),(b-a).toNat≤k→∀p∈(cut a b).dropLast,p.2<b
 |k,a,b,hk,p,hp=>by
  by_cases h:a<b
  ·rw [EP h] at hp;have h1:=E0 h;by_cases h2:Dm a b<b
   ·have hne:cut (Dm a b) b≠[]:=by rw [EP h2];simp
    rw [List.dropLast_cons_of_ne_nil hne] at hp;rcases mem_cons.1 hp with rfl|hp
    ·exact h2
    ·cases k with
     |zero=>omega
     |succ k=>exact It k (Dm a b) b (by omega) p hp
   ·rw [Ez h2] at hp;simp at hp
  ·rw [Ez h] at hp;simp at hp
theorem Te {D:ByteArray} {p:Int×Int} (h0:0≤p.1) (h1:p.1<p.2) (h2:p.2≤D.size):bl (raw D 0 p).data=((bl D).drop p.1.toNat).take (p.2.toNat-p.1.toNat)∧(raw D 0 p).data.size=p.2.toNat-p.1.toNat:=by
 have hb:bl (raw D 0 p).data=((bl D).drop p.1.toNat).take (p.2.toNat-p.1.toNat):=by show bl (D.extract _ _)=_;rw [Bl]
 refine ⟨hb,?_⟩;rw [← AS,hb];simp only [length_take,length_drop,AS];omega
theorem Td {D:ByteArray} {p:Int×Int} (hD:D.size≤900) (h0:0≤p.1) (h1:p.1<p.2) (h2:p.2≤D.size) (h3:p.2≤p.1+16) (x:Seg) (hx:x=raw D 0 p∨x={raw D 0 p with ser:=1,chk:=true}):Bq D x∧x.off=p.1∧x.off+x.data.size=p.2:=by
 obtain ⟨hb,hs⟩:=Te h0 h1 h2;have hxd:x.data=(raw D 0 p).data:=by rcases hx with rfl|rfl<;>rfl
 have hxo:x.off=p.1:=by rcases hx with rfl|rfl<;>rfl
 have hxk:x.kind=1:=by rcases hx with rfl|rfl<;>rfl
 have hxs:x.ses=0:=by rcases hx with rfl|rfl<;>rfl
 have hxt:x.tot=D.size:=by rcases hx with rfl|rfl<;>rfl
 have hxc:x.claims=[]:=by rcases hx with rfl|rfl<;>rfl
 have hxr:(x.chk=true∧x.ser=1)∨(x.chk=false∧x.ser=0):=by
  rcases hx with rfl|rfl
  ·exact .inr ⟨rfl,rfl⟩
  ·exact .inl ⟨rfl,rfl⟩
 have a1:Bm x:=by
  unfold Bm;rw [hxk,hxs,hxt,hxo];refine ⟨by omega,by omega,by omega,fun _=>⟨by omega,by omega,fun h => ?_,fun h => ?_⟩⟩
  ·rcases hxr with ⟨c,e⟩|⟨c,e⟩
   ·omega
   ·rw [h] at c;cases c
  ·rcases hxr with ⟨c,e⟩|⟨c,e⟩
   ·rw [h] at c;cases c
   ·exact e
 have a2:Cj x:=by unfold Cj;rw [hxk,hxt,hxd,hs,hxo,hxc];refine ⟨by omega,by omega,fun _ => ?_⟩;simp;omega
 refine ⟨⟨?_,hxk,hxs,hxt,fun i hi => ?_⟩,hxo,by rw [hxd,hs,hxo];omega⟩
 ·unfold DN;rw [if_neg (not_not_intro (by rw [hxk];decide)),if_neg (not_not_intro a1),if_neg (not_not_intro a2)]
 ·rw [hxd,hb,hxo];rw [hxd,hs] at hi;simp [getD_eq_getElem?_getD,getElem?_take,hi,getElem?_drop]
def Ct (D:ByteArray):List Seg:=Sm 0 1 D [⟨0,D.size⟩]
theorem Qt {D:ByteArray} (hD:1≤D.size∧D.size≤900):Qp 0 1 D [⟨0,D.size⟩]=0∧Ct D=Cz 1 ((cut 0 D.size).map (raw D 0)):=by
 have hc:D5 [(⟨0,D.size⟩:Span)]=0:=Sg ⟨hD.1,by omega⟩;have hi:inside [(⟨0,D.size⟩:Span)] D.size=true:=by unfold inside;rw [decide_eq_true_eq];exact ⟨hc,.inr ⟨Int.le_refl _,Int.le_refl _⟩⟩
 have he:Qp 0 1 D [⟨0,D.size⟩]=0:=by unfold Qp;rw [if_neg (not_not_intro (by decide)),if_neg (by omega),if_neg (by omega),hi,if_neg (by decide),if_neg (by simp)]
 refine ⟨he,?_⟩;unfold Ct Sm;rw [if_pos he];simp [R7]
theorem HC {D:ByteArray} (hD:1≤D.size∧D.size≤900):Ct D≠[]∧(Ct D).length≤900∧(∀x∈Ct D,Bq D x)∧(∀t:Int,0≤t→t<D.size→Cov (Ct D) t)∧¬Cov ((Ct D).take ((Ct D).length-1)) ((D.size:Int)-1):=by
 have hpos:(0:Int)<D.size:=by omega
 obtain ⟨_,e⟩:=Qt hD;have hne:cut 0 D.size≠[]:=by rw [EP hpos];simp
 have hspl:=(List.dropLast_concat_getLast hne).symm;have hmem:=Rc _ 0 (D.size:Int) (le_refl _);have hcov:=fun t=>Ms _ 0 (D.size:Int) t (le_refl _);have hdl:=It _ 0 (D.size:Int) (le_refl _);have hlen:=Nn _ 0 (D.size:Int) (le_refl _);rw [if_pos hpos] at hlen;generalize hL:(cut 0 (D.size:Int)).getLast hne=z at *;generalize (cut 0 (D.size:Int)).dropLast=pre at *;rw [hspl] at e hmem hcov hlen;rw [map_append,map_cons,map_nil,Jx] at e;have hp:∀p∈pre,∀x,x=raw D 0 p→Bq D x∧x.off=p.1∧x.off+x.data.size=p.2:=fun p hpp x hx=>by have:=hmem p (mem_append_left _ hpp);exact Td hD.2 (by omega) this.2.1 this.2.2.1 this.2.2.2 x (.inl hx)
 have hz:∀x,x={raw D 0 z with ser:=1,chk:=true}→Bq D x∧x.off=z.1∧x.off+x.data.size=z.2:=fun x hx=>by have:=hmem z (by simp);exact Td hD.2 (by omega) this.2.1 this.2.2.1 this.2.2.2 x (.inr hx)
 rw [e];refine ⟨by simp,?_,fun x hx => ?_,fun t h1 h2 => ?_,?_⟩
 ·simp only [length_append,length_map,length_cons,length_nil] at hlen ⊢;omega
 ·rcases mem_append.1 hx with hx|hx
  ·obtain ⟨p,hpp,rfl⟩:=mem_map.1 hx;exact (hp p hpp _ rfl).1
  ·simp only [mem_singleton] at hx;exact (hz x hx).1
 ·obtain ⟨p,hpp,h3,h4⟩:=hcov t h1 h2;rcases mem_append.1 hpp with hpp|hpp
  ·obtain ⟨k1,k2,k3⟩:=hp p hpp _ rfl;exact ⟨raw D 0 p,mem_append_left _ (mem_map.2 ⟨p,hpp,rfl⟩),by rw [k2];exact h3,by rw [k3];exact h4⟩
  ·simp only [mem_singleton] at hpp;subst hpp;obtain ⟨k1,k2,k3⟩:=hz _ rfl;exact ⟨{raw D 0 p with ser:=1,chk:=true},by simp,by rw [k2];exact h3,by rw [k3];exact h4⟩
 ·simp only [length_append,length_map,length_cons,length_nil,zero_add,Nat.add_sub_cancel];rw [List.take_append_of_le_length (by simp),take_of_length_le (by simp)]
  rintro ⟨x,hx,h1,h2⟩
  obtain ⟨p,hpp,rfl⟩:=mem_map.1 hx;obtain ⟨k1,k2,k3⟩:=hp p hpp _ rfl;have:=hdl p hpp;omega
def T7 (D:ByteArray) (k:Nat) (x:Seg):Bool:=decide (DN x=0∧(x.ses≠0∨x.tot≠D.size∧0<k))
theorem Ik {D:ByteArray} {r:Rcv} {l:List Seg} (h:Hd D r l) {k:Nat} (hk:0<k→l≠[]):∀fs:List Seg,(∀f∈fs,T7 D k f=true)→BB r fs=r
 |[],_=>rfl
 |f::fs,hf=>by
  have h1:=hf f mem_cons_self;unfold T7 at h1;rw [decide_eq_true_eq] at h1;have hns:¬DR r f=true:=fun hs=>by
   obtain ⟨a1,a2,a3,a4,a5⟩:=Cm.1 hs;rcases h1.2 with h2|⟨h2,h3⟩
   ·rw [h.ses] at a2;exact h2 a2
   ·have ht:=h.tot;rw [if_neg (hk h3)] at ht;rcases a3 with a3|a3
    ·omega
    ·exact h2 (by rw [a3,ht])
  unfold BB;rw [foldl_cons,RU h.ok h1.1,if_neg hns];exact Ik h hk fs fun g hg=>hf g (mem_cons_of_mem _ hg)
theorem GX (r:Rcv) (a b:List Seg):BB r (a++b)=BB (BB r a) b:=by simp [BB]
theorem TE {D:ByteArray} (hD:1≤D.size∧D.size≤900) {k:Nat} (hk:k≤(Ct D).length) {fs:List Seg} (hf:∀f∈fs,T7 D k f=true) :
  complete (BB R5 ((Ct D).take k++fs++(Ct D).drop k))=true∧LQ (BB R5 ((Ct D).take k++fs++(Ct D).drop k))=(D,0):=by
 obtain ⟨f1,f2,f3,f4,f5⟩:=HC hD;have s1:=JH hD.2 ((Ct D).take k) [] R5 (IG D) (fun x hx=>by cases hx) (fun x hx=>f3 x (mem_of_mem_take hx));simp only [nil_append] at s1;have hk0:0<k→(Ct D).take k≠[]:=fun h0 h=>by
  rw [List.take_eq_nil_iff] at h;rcases h with h|h
  ·omega
  ·exact f1 h
 have s2:=Ik s1 hk0 fs hf;have s3:=JH hD.2 ((Ct D).drop k) ((Ct D).take k) _ s1 (fun x hx=>f3 x (mem_of_mem_take hx)) (fun x hx=>f3 x (mem_of_mem_drop hx));rw [take_append_drop] at s3;rw [GX,GX,s2];generalize BB (BB R5 ((Ct D).take k)) ((Ct D).drop k)=r at *;obtain ⟨c1,c2,c3,c4⟩:=CD s3.ok;have ht:=s3.tot;rw [if_neg f1] at ht;have hkn:r.known=[⟨0,r.tot⟩]:=by
  refine Fo ((BM _).1 c2.1).2.1 (b' := -1) ⟨by show (-1:Int)<0;decide,by show (0:Int)<r.tot;omega,trivial⟩ fun t => ?_;rw [s3.mem];simp only [B5,or_false];constructor
  ·intro hc;have:=UW f3 hc;omega
  ·intro hc;exact f4 t hc.1 (by omega)
 have hcm:complete r=true:=by unfold complete;rw [decide_eq_true_eq];exact ⟨s3.ok,hkn⟩
 have hsz:=st_size s3;rw [if_neg f1] at hsz;have hdt:r.data=D:=LY hsz fun i hi=>s3.get i (f4 i (by omega) (by omega));refine ⟨hcm,?_⟩;unfold LQ;rw [if_neg (not_not_intro s3.ok),if_neg (by rw [hcm];decide),hdt]
end Ab
namespace Ab
open Go
def tBo (b:Bool):List Tree:=[.bool b]
def UD (z:Nat):Bool:=if 200<z then (if z≤1024 then true else decide (1034<z)) else decide (1034<z)
def Ps (_:Nat) (_:Unit) (x:Blk):Rd Unit Bool:=if UD x.data.size then .done true else .next ()
theorem s4 (b:Bun):∃r,AL C 4 b.enc [.bool r]:=by
 by_cases h1:12<b.blocks.length
 ·exact ⟨true,AL.of (fun m=>e4 m _ _ _ _ _ _ _ _ _ _ _ _) (Ev.of fun m=>by simp only [vv,reduceCtorEq,reduceAdd,reduceEqDiff,length_map];rw [AZ (by omega)])⟩
 have hL:Ev fun m=>AH (fun p again=>PZ m (b.blocks.map Blk.enc) p again) m (([.t (tI ((0:Nat):Int))],[]):List AV×Heap)=some (tBo (B9 Ps (fun _=>false) 0 b.blocks ())):=by
  refine Ao (B:=fun m=>PZ m (b.blocks.map Blk.enc)) tBo b.blocks (fun i _=>(([.t (tI (i:Nat))],[]):List AV×Heap)) Ps (fun _=>false) (fun _ _=>True) () rfl trivial rfl
   (fun i s x hx hI=>Ev.of fun m again => ?_) (fun _ _ _ _ _ _ _=>trivial) (fun s hI=>Ev.of fun m again => ?_)
  ·have hi:i<b.blocks.length:=AY hx;have hi':((i:Nat):Int)<((b.blocks.length:Nat):Int):=by omega
   have hx':(b.blocks.map Blk.enc)[i]? = some x.enc:=by rw [getElem?_map,hx];rfl
   have hw:w64 (((i:Nat):Int)+1)=((i+1:Nat):Int):=by rw [AX (by omega) (by omega)];omega
   unfold PZ Ps UD;simp only [vv,reduceCtorEq,reduceAdd,reduceEqDiff,length_map,hi',toNat_natCast,hx',Blk.enc,natCast_nonneg,hw,AD,decide_eq_true_eq];by_cases q1:200<x.data.size
   ·have q1':((x.data.size:Nat):Int)>200:=by omega
    by_cases q2:x.data.size≤1024
    ·have q2':((x.data.size:Nat):Int)≤1024:=by omega
     simp only [q1,q1',q2,q2',if_true];rfl
    ·have q2':¬((x.data.size:Nat):Int)≤1024:=by omega
     by_cases q3:1034<x.data.size
     ·have q3':((x.data.size:Nat):Int)>1034:=by omega
      simp only [q1,q1',q2,q2',q3,q3',if_true,if_false,decide_true];rfl
     ·have q3':¬((x.data.size:Nat):Int)>1034:=by omega
      simp only [q1,q1',q2,q2',q3,q3',if_true,if_false,decide_false];rfl
   ·have q1':¬((x.data.size:Nat):Int)>200:=by omega
    have q3:¬1034<x.data.size:=by omega
    have q3':¬((x.data.size:Nat):Int)>1034:=by omega
    simp only [q1,q1',q3,q3',if_false,decide_false];rfl
  ·unfold PZ;simp only [vv,reduceCtorEq,reduceAdd,reduceEqDiff,length_map,lt_irrefl];rfl
 have key:∃r,Ev fun m=>cnd (decide (((b.pay.size:Nat):Int)>200)=true) (cnd (decide (((b.pay.size:Nat):Int)≤4096)=true) (some [Tree.bool true]) (cnd (decide (((b.pay.size:Nat):Int)>4106)=true) (some [Tree.bool true]) (AH (fun p again=>PZ m (b.blocks.map Blk.enc) p again) m (([.t (tI ((0:Nat):Int))],[]):List AV×Heap)))) (cnd (decide (((b.pay.size:Nat):Int)>4106)=true) (some [Tree.bool true]) (AH (fun p again=>PZ m (b.blocks.map Blk.enc) p again) m (([.t (tI ((0:Nat):Int))],[]):List AV×Heap)))=some [Tree.bool r]:=by
  by_cases g1:((b.pay.size:Nat):Int)>200<;>by_cases g2:((b.pay.size:Nat):Int)≤4096<;>by_cases g3:((b.pay.size:Nat):Int)>4106
  all_goals
   simp only [AD,decide_eq_true_eq,g1,g2,g3,if_true,if_false]
   first
    |exact ⟨true,Ev.of fun _=>rfl⟩
    |exact ⟨_,hL⟩
 obtain ⟨r,hr⟩:=key;refine ⟨r,AL.of (fun m=>e4 m _ _ _ _ _ _ _ _ _ _ _ _) (hr.mono fun m g => ?_)⟩;rw [length_map,Aw (by simp;omega)];exact g
theorem s52 (l:List Blk) (hl:l.length≤1000000):AL C 52 [.sl 3 (l.map Blk.enc),.sl 3 (l.map Blk.enc)] [.bool true]:=by
 refine AL.of (fun m=>e52 m _ _) ?_;simp only [bne_self_eq_false,vv,reduceCtorEq,reduceAdd,reduceEqDiff];refine Ao (B:=fun m=>Ro m (l.map Blk.enc) (l.map Blk.enc)) tBo l (fun i _=>(([.t (tI (i:Nat))],[]):List AV×Heap)) (fun _ _ _ =>.next ()) (fun _=>true) (fun _ _=>True) () rfl trivial (CQ (fun (_:Unit) _=>()) (fun _=>true) 0 l _)
   (fun i s x hx hI=>Ev.of fun m again => ?_) (fun _ _ _ _ _ _ _=>trivial) (fun s hI=>Ev.of fun m again => ?_)
 ·have hi:i<l.length:=AY hx;have hi':((i:Nat):Int)<((l.length:Nat):Int):=by omega
  have hx':(l.map Blk.enc)[i]? = some x.enc:=by rw [getElem?_map,hx];rfl
  have hw:w64 (((i:Nat):Int)+1)=((i+1:Nat):Int):=by rw [AX (by omega) (by omega)];omega
  unfold Ro;have hd:(x.data==x.data)=true:=by rw [Dn];simp
  simp only [vv,reduceCtorEq,reduceAdd,reduceEqDiff,length_map,hi',toNat_natCast,hx',Blk.enc,natCast_nonneg,hw,beq_self_eq_true,hd,Bool.and_self,Bool.not_true];rfl
 ·unfold Ro;simp only [vv,reduceCtorEq,reduceAdd,reduceEqDiff,length_map,lt_irrefl];rfl
theorem s17 (b:Bun) (hl:b.blocks.length≤1000000):AL C 17 (b.enc++b.enc) [.bool true]:=by
 refine AL.of (fun m=>e17 m _ _ _ _ _ _ _ _ _ _ _ _ _ _ _ _ _ _ _ _ _ _ _ _) ((s52 b.blocks hl).mono fun m g => ?_);have hd:(b.pay==b.pay)=true:=by rw [Dn];simp
 simp only [vv,reduceCtorEq,reduceAdd,reduceEqDiff,beq_self_eq_true,Bool.and_self,g,hd]
theorem s18 (b:Bun) (h:Gp b):AL C 18 b.enc [tI (w64 (b.cre+b.life))]:=by refine AL.of (fun m=>e18 m _ _ _ _ _ _ _ _ _ _ _ _) ((s29 b h).mono fun m g => ?_);simp only [Bun.enc] at g;simp only [g,vv,reduceCtorEq,reduceAdd,reduceEqDiff,bne_self_eq_false]
def stI (i:Nat) (l:List Nat):List AV×Heap:=([.sref 0 i 0 l.length,.t (tI (i:Nat))],[.row false i 1 (l.map fun (k:Nat)=>[Tree.int .u8 (k:Int)])])
theorem s10 (n:Nat) (hn:n≤256):AL C 10 [tI (n:Nat)] [.sl 1 ((List.range n).map fun (k:Nat)=>[Tree.int .u8 (k:Int)])]:=by
 refine AL.of (fun m=>e10 m _) ?_;refine Ao (B:=fun m=>Rr m (n:Nat)) id (List.range n) (fun i l=>stI i l) (fun _ l x =>.next (l++[x])) (fun _=>[.sl 1 ((List.range n).map fun (k:Nat)=>[Tree.int .u8 (k:Int)])]) (fun i l=>l=(List.range n).take i) [] rfl (by simp) ?_
  (fun i l x hx hI=>Ev.of fun m again => ?_) (fun i l x l' hx hI hs => ?_) (fun l hI=>Ev.of fun m again => ?_)
 ·exact CQ (fun (l:List Nat) x=>l++[x]) (fun _=>[Tree.sl 1 ((List.range n).map fun (k:Nat)=>[Tree.int .u8 (k:Int)])]) 0 (List.range n) _
 ·have hi:i<(List.range n).length:=AY hx;rw [length_range] at hi;have hx':x=i:=by rw [getElem?_range hi] at hx;exact (Option.some.inj hx).symm
  subst hx';have hl:l.length=x:=by rw [hI,length_take,length_range];omega
  have hi':((x:Nat):Int)<((n:Nat):Int):=by omega
  have hw:w64 (((x:Nat):Int)+1)=((x+1:Nat):Int):=by rw [AX (by omega) (by omega)];omega
  have q1:x+1≤1073741824:=by omega
  have hu:IntKind.wrap .u8 ((x:Nat):Int)=(x:Int):=by rw [wrap_u8];omega
  have q3:take x (l.map fun (k:Nat)=>[Tree.int .u8 (k:Int)])=l.map fun (k:Nat)=>[Tree.int .u8 (k:Int)]:=take_of_length_le (by simp [hl]);rw [Rd.As];unfold Rr stI;simp only [vv,reduceCtorEq,reduceAdd,reduceEqDiff,hi',length_map,hl,le_refl,q1,hw,hu,q3,map_append,length_append,map_cons,map_nil,length_cons,length_nil,zero_add]
 ·cases hs;rw [hI,take_add_one,hx];rfl
 ·rw [take_of_length_le (le_refl _)] at hI;subst hI;have q3:take n ((List.range n).map fun (k:Nat)=>[Tree.int .u8 (k:Int)])=(List.range n).map fun (k:Nat)=>[Tree.int .u8 (k:Int)]:=take_of_length_le (by simp);unfold Rr stI;simp only [vv,reduceCtorEq,reduceAdd,reduceEqDiff,length_range,lt_irrefl,q3];rfl
end Ab
namespace Ab
open Go
theorem s14 {D:ByteArray} (hD:D.size≤900) (l:List Seg) (hl:∀x∈l,Bq D x) (hn:l.length≤1000000):AL C 14 [.sl 8 (l.map Seg.enc)] ((BB R5 l).enc++[.bool true]):=by
 refine AL.of (fun m=>e14 m _) ?_;have h0:newR 0=(R5,0):=rfl;have hs:=s44 0;rw [h0] at hs;refine Ev.rw hs (T':=fun m=>AH (fun p again=>Pf m (l.map Seg.enc) p again) m (([.t (tI 0),.t (tI ((0:Nat):Int))],[.box [.t (tI 0),.t (tI 0),.t (.sl 2 []),.t (.str (ByteArray.mk #[]))],.box [.t (tI R5.ses),.t (tI R5.tot),.t (.sl 2 (R5.known.map Span.enc)),.t (.str R5.data)]]):List AV×Heap)) (fun m g=>by simp only [Rcv.enc,cons_append,nil_append] at g;simp only [g,vv,reduceCtorEq,reduceAdd,reduceEqDiff];rfl) ?_
 refine Ao (B:=fun m=>Pf m (l.map Seg.enc)) id l (fun i (r:Rcv)=>(([.t (tI 0),.t (tI (i:Nat))],[.box [.t (tI 0),.t (tI 0),.t (.sl 2 []),.t (.str (ByteArray.mk #[]))],.box [.t (tI r.ses),.t (tI r.tot),.t (.sl 2 (r.known.map Span.enc)),.t (.str r.data)]]):List AV×Heap)) (fun _ r x =>.next (L9 r x).1) (fun _=>(BB R5 l).enc++[.bool true]) (fun i r=>r=BB R5 (l.take i)) R5 rfl (by simp [BB]) ?_
  (fun i r x hx hI => ?_) (fun i r x r' hx hI hs => ?_) (fun r hI=>Ev.of fun m again => ?_)
 ·exact CQ (fun (r:Rcv) x=>(L9 r x).1) (fun _=>(BB R5 l).enc++[.bool true]) 0 l _
 ·have hi:i<l.length:=AY hx;have hH:=JH hD (l.take i) [] R5 (IG D) (fun x hx=>by cases hx) (fun x hx=>hl x (mem_of_mem_take hx));rw [nil_append,← hI] at hH;have he:=RB hH (fun x hx=>hl x (mem_of_mem_take hx)) (hl x (mem_of_getElem? hx)) hD;have h2:(L9 r x).2.2=0:=by rw [he]
  have hi':((i:Nat):Int)<((l.length:Nat):Int):=by omega
  have hx':(l.map Seg.enc)[i]? = some x.enc:=by rw [getElem?_map,hx];rfl
  have hw:w64 (((i:Nat):Int)+1)=((i+1:Nat):Int):=by rw [AX (by omega) (by omega)];omega
  refine (s45 r x).mono fun m g again => ?_;simp only [Rcv.enc,Seg.enc,hearT,cons_append,nil_append,h2] at g;rw [Rd.As];unfold Pf;simp only [vv,reduceCtorEq,reduceAdd,reduceEqDiff,length_map,hi',toNat_natCast,hx',Seg.enc,natCast_nonneg,hw,bne_self_eq_false,g]
 ·cases hs;rw [hI,Rz hx,NZ]
 ·rw [take_length] at hI;subst hI;unfold Pf;simp only [vv,reduceCtorEq,reduceAdd,reduceEqDiff,length_map,lt_irrefl,beq_self_eq_true,Rcv.enc];rfl
theorem cov_mem {a b:List Seg} (h:∀x,x∈a↔x∈b) (t:Int):Cov a t↔Cov b t:=
 ⟨fun ⟨x,hx,e⟩=>⟨x,(h x).1 hx,e⟩,fun ⟨x,hx,e⟩=>⟨x,(h x).2 hx,e⟩⟩
theorem SQ {D:ByteArray} (hD:1≤D.size∧D.size≤900) {k:List Seg} (h1:∀x∈k,x∈Ct D) (h2:∀x∈Ct D,x∈k):LQ (BB R5 k)=(D,0):=by
 obtain ⟨f1,f2,f3,f4,f5⟩:=HC hD;have hm:∀x,x∈k↔x∈Ct D:=fun x=>⟨h1 x,h2 x⟩
 have hk:=JH hD.2 k [] R5 (IG D) (fun x hx=>by cases hx) (fun x hx=>f3 x (h1 x hx));have ha:=JH hD.2 (Ct D) [] R5 (IG D) (fun x hx=>by cases hx) f3;have he:BB R5 k=BB R5 (Ct D):=R2 hk ha (by simp only [nil_append];refine ⟨fun h => ?_,fun h=>absurd h f1⟩;subst h;exact List.eq_nil_iff_forall_not_mem.mpr fun x hx=>by have:=h2 x hx;cases this) (cov_mem (by simpa using hm))
 rw [he];have hw:=(TE hD (k:=0) (zero_le _) (fs:=[]) (fun f hf=>by cases hf)).2;simpa using hw
end Ab
namespace Ab
open Go
structure Itm where
 src:Int
 cre:Int
 seq:Int
 off:Int
 tot:Int
 dst:Int
 exp:Int
 pri:Int
 data:ByteArray
def Itm.enc (x:Itm):List Tree:=[tI 0,tI x.src,tI x.cre,tI x.seq,tI x.off,tI x.tot,tI x.dst,tI x.exp,tI x.pri,.bool false,.str x.data]
def Itm.rcd (x:Itm):List Tree:=[tI 1,tI 0,tI x.src,tI x.cre,tI x.seq,tI x.off,tI x.tot,tI x.dst,tI x.exp,tI x.pri,.bool false,.str x.data,tI 0,tI 0,tI 0,tI 0,tI 0,tI 0,tI 0]
structure De (x:Itm):Prop where
 src:0≤x.src∧x.src≤15
 cre:0≤x.cre∧x.cre≤1099511627776
 seq:0≤x.seq∧x.seq≤1099511627776
 frag:x.off=0∧x.tot=0∨(1≤x.tot∧x.tot≤4096)∧(0≤x.off∧x.off≤x.tot-1)
 dst:0≤x.dst∧x.dst≤15
 exp:1≤x.exp∧x.exp≤1099511627776
 pri:0≤x.pri∧x.pri≤2
 data:1≤x.data.size∧x.data.size≤600
theorem s98 (n a c:Int):AL C 98 [tI n,tI a,tI c] [.bool (wi n a c)]:=AL.of (fun m=>e98 m _ _ _) (Ev.of fun m=>by rw [AD];exact Gq n a c)
theorem HM (n a c:Int) (h:a≤n∧n≤c):AL C 98 [tI n,tI a,tI c] [.bool true]:=by have:=s98 n a c;rwa [show wi n a c=true by unfold wi;exact decide_eq_true h] at this
theorem s100 (x:Itm) (h:De x):AL C 100 [tI x.src,tI x.cre,tI x.seq,tI x.off,tI x.tot] [.bool true]:=by
 refine AL.of (fun m=>e100 m _ _ _ _ _) ?_;obtain ⟨k1,k2,k3,k4,k5,k6,k7,k8⟩:=h;have hf:=k4;have ht:∀k:Int,x.tot=k→¬(x.off=0∧x.tot=0)→AL C 98 [tI x.tot,tI 1,tI 4096] [.bool true]:=fun k _ hq=>HM _ _ _ (by omega);by_cases h0:x.off=0∧x.tot=0
 ·refine ((HM _ _ _ k1).and ((HM _ _ _ k2).and (HM _ _ _ k3))).mono fun m g => ?_;obtain ⟨g1,g2,g3⟩:=g;simp only [vv,reduceCtorEq,reduceAdd,reduceEqDiff,g1,g2,g3,Bool.not_true,Q5,h0.1,h0.2,beq_self_eq_true]
 ·have hx:(1≤x.tot∧x.tot≤4096)∧(0≤x.off∧x.off≤x.tot-1):=k4.resolve_left h0;have hw:w64 (x.tot-1)=x.tot-1:=AX (by omega) (by omega);refine ((HM _ _ _ k1).and ((HM _ _ _ k2).and ((HM _ _ _ k3).and ((HM x.tot 1 4096 hx.1).and (HM x.off 0 (x.tot-1) hx.2))))).mono fun m g => ?_;obtain ⟨g1,g2,g3,g4,g5⟩:=g;have hne:(x.tot==0)=false:=beq_false_of_ne (by omega);simp only [vv,reduceCtorEq,reduceAdd,reduceEqDiff,g1,g2,g3,Bool.not_true,Q5,hne,g4,hw,g5];cases (x.off==0)<;>simp only [vv,reduceCtorEq,reduceAdd,reduceEqDiff]
theorem s99 (x:Itm) (h:De x):AL C 99 x.enc [tI 0]:=by refine AL.of (fun m=>e99 m _ _ _ _ _ _ _ _ _ _ _) ?_;have hd:=h.data;refine ((s100 x h).and ((HM 0 0 1152921504606846976 (by omega)).and ((HM x.dst 0 15 h.dst).and ((HM _ _ _ h.exp).and ((HM _ _ _ h.pri).and (HM ((x.data.size:Nat):Int) 1 65536 (by omega))))))).mono fun m g => ?_;obtain ⟨g1,g2,g3,g4,g5,g6⟩:=g;simp only [vv,reduceCtorEq,reduceAdd,reduceEqDiff,g1,g2,g3,g4,g5,g6,Bool.not_true]
theorem s60 (x:Itm) (h:De x):AL C 60 x.rcd [tI 0]:=by refine AL.of (fun m=>e60 m _ _ _ _ _ _ _ _ _ _ _ _ _ _ _ _ _ _ _) ?_;refine ((s99 x h).and ((HM 1 1 4 (by omega)).and (HM 0 0 1099511627776 (by omega)))).mono fun m g => ?_;obtain ⟨g1,g2,g3⟩:=g;simp only [Itm.enc] at g1;simp only [vv,reduceCtorEq,reduceAdd,reduceEqDiff,g1,g2,g3,Bool.not_true,J60_2,beq_self_eq_true,bne_self_eq_false,Bool.and_self]
theorem s59 (x:Itm) (h:De x):AL C 59 x.rcd [.bool false]:=by refine AL.of (fun m=>e59 m _ _ _ _ _ _ _ _ _ _ _ _ _ _ _ _ _ _ _) ((s60 x h).mono fun m g => ?_);simp only [Itm.rcd] at g;simp only [vv,reduceCtorEq,reduceAdd,reduceEqDiff,g,bne_self_eq_false]
theorem s108 (a1 a2 a3 a4 a5:Int):AL C 108 [.sl 11 [],tI a1,tI a2,tI a3,tI a4,tI a5] [tI (-1)]:=by
 refine AL.of (fun m=>e108 m _ _ _ _ _ _) ((Ev.ge 1).mono fun m h1 => ?_);obtain ⟨k,rfl⟩:∃k,m=k+1:=⟨m-1,by omega⟩
 simp only [vv,reduceCtorEq,reduceAdd,reduceEqDiff];show Q3 (k+1) _ _ _ _ _ _ _ _ _=_;unfold Q3;simp only [vv,reduceCtorEq,reduceAdd,reduceEqDiff,length_nil,nc0,lt_irrefl,Vs]
theorem s109:AL C 1000109 [.sl 11 []] [.sl 11 []]:=AL.of (fun m=>UJ m _) (Ev.of fun m=>rfl)
theorem s102 (x:Itm):AL C 102 (.sl 11 []::x.enc) [.sl 11 [x.enc]]:=by refine AL.of (fun m=>e102 m _ _ _ _ _ _ _ _ _ _ _ _) (((s108 x.src x.cre x.seq x.off x.tot).and s109).mono fun m g => ?_);obtain ⟨g1,g2⟩:=g;simp only [vv,reduceCtorEq,reduceAdd,reduceEqDiff,g1,g2];rfl
theorem s101 (x:Itm):AL C 101 (.sl 11 [] :: .sl 11 []::x.rcd) [.sl 11 [x.enc],.sl 11 []]:=by refine AL.of (fun m=>e101 m _ _ _ _ _ _ _ _ _ _ _ _ _ _ _ _ _ _ _ _ _) ((s102 x).mono fun m g => ?_);simp only [Itm.enc] at g;simp only [vv,reduceCtorEq,reduceAdd,reduceEqDiff,g,Itm.enc]
theorem w01:w64 (0+1)=1:=rfl
theorem Ac {S R:Type} (B:S→(S→Option R)→Option R) (n:Nat) (s:S):AH B (n+1) s=B s (fun s'=>AH B n s'):=rfl
set_option maxRecDepth 20000 in
theorem s21 (x:Itm) (h:De x):AL C 21 [.sl 19 [x.rcd]] [.sl 11 [x.enc],.sl 11 [],tI 0]:=by
 refine AL.of (fun m=>e21 m _) (((s59 x h).and ((s101 x).and (Ev.ge 4))).mono fun m g => ?_);obtain ⟨g1,g2,h1⟩:=g;obtain ⟨k,rfl⟩:∃k,m=k+4:=⟨m-4,by omega⟩
 simp only [Itm.rcd,Itm.enc] at g1 g2 ⊢;simp only [vv,reduceCtorEq,reduceAdd,reduceEqDiff];rw [Ac,U8];simp only [vv,reduceCtorEq,reduceAdd,reduceEqDiff,length_cons,length_nil,nc0,nc1,Int.reduceLT,Int.reduceLE,toNat_zero,getElem?_cons_zero,g1,w01];rw [Ac,U8];simp only [vv,reduceCtorEq,reduceAdd,reduceEqDiff,length_cons,length_nil,nc0,nc1,lt_irrefl,Int.reduceLT,J21_2,J21_4,Int.reduceLE,Int.reduceGE,ge_iff_le,Int.reduceNeg,CR];rw [Ac,U7];simp only [vv,reduceCtorEq,reduceAdd,reduceEqDiff,length_cons,length_nil,nc0,nc1,nc2,nc3,nc4,Int.reduceLT,Int.reduceLE,Int.reduceEq,toNat_zero,getElem?_cons_zero,g2,w01,CR];rw [Ac,U7];simp only [vv,reduceCtorEq,reduceAdd,reduceEqDiff,length_cons,length_nil,nc0,nc1,Int.reduceLT,lt_irrefl]
end Ab
namespace Ab
open Go
def DH (l:List Int):ByteArray:=mkB ((l.map Ak).flatten)
def Itm.nums (x:Itm):List Int:=[0,x.src,x.cre,x.seq,x.off,x.tot,x.dst,x.exp,x.pri,0]
def HU (x:Itm):ByteArray:=DH [1,0]++(DH x.nums++AT x.data)
def CM (x:Itm):ByteArray:=Cu (HU x)
theorem Uc (x:Itm):bl (HU x)=Ak 1++(Ak 0++(Ak 0++(Ak x.src++(Ak x.cre++(Ak x.seq++(Ak x.off++(Ak x.tot++(Ak x.dst++(Ak x.exp++(Ak x.pri++(Ak 0++bl (AT x.data)))))))))))):=by rw [HU,DY,DY,DH,DH,DJ,DJ];simp [Itm.nums]
theorem KH {x:Itm} (h:De x):∀n∈x.nums,inR n:=by obtain ⟨k1,k2,k3,k4,k5,k6,k7,k8⟩:=h;intro n hn;simp only [Itm.nums,mem_cons,not_mem_nil,or_false] at hn;unfold inR;rcases hn with rfl|rfl|rfl|rfl|rfl|rfl|rfl|rfl|rfl|rfl<;>omega
theorem Fc {l:List Int} (h:∀n∈l,inR n):(DH l).size≤9*l.length:=by rw [DH,Bp];exact Cq h
theorem Hk {x:Itm} (h:De x):(HU x).size≤800:=by have h1:=Fc (l:=[1,0]) (by decide);have h2:=Fc (KH h);have h3:=BR x.data (by have:=h.data;omega);have h4:=h.data;have h5:x.nums.length=10:=rfl;rw [HU,A9,A9];simp only [length_cons,length_nil] at h1;omega
theorem JO {x:Itm} (h:De x):5≤(CM x).size∧(CM x).size≤813:=by have:=Hk h;have:=Cc (HU x) (by omega);unfold CM;omega
theorem w12:w64 (1+1)=2:=rfl
theorem w23:w64 (2+1)=3:=rfl
theorem w34:w64 (3+1)=4:=rfl
theorem w45:w64 (4+1)=5:=rfl
theorem rdI {S:ByteArray} {x:Int} {post:List UInt8} (h:bl S=Ak x++post) (hr:inR x) (hz:S.size≤1000000) :
  ∃S',S.extract (Ak x).length S.size=S'∧bl S'=post∧S'.size≤1000000∧AL C 83 [.str S] [tI x,tI ((Ak x).length:Nat),tI 0]∧(((Ak x).length:Nat):Int)≤((S.size:Nat):Int):=by
 refine ⟨_,rfl,?_,?_,s83 ⟨hr,by omega,post,h⟩,?_⟩
 ·rw [CL,h,drop_left]
 ·rw [DW];omega
 ·have:S.size=(Ak x).length+post.length:=by rw [← AS,h,length_append]
  omega
theorem TW:AL C 57 [.str (ByteArray.mk #[])] [tI 0,tI 0,tI 0,tI 0,tI 0,tI 0,tI 0,tI 0,tI 0,tI 0,.bool false,.str (ByteArray.mk #[]),tI 0,tI 0,tI 0,tI 0,tI 0,tI 0,tI 0,tI 0,.bool false]:=by refine AL.of (fun m=>e57 m _) (TX.mono fun m g => ?_);simp only [vv,reduceCtorEq,reduceAdd,reduceEqDiff,g];rfl
set_option maxRecDepth 20000 in
set_option maxHeartbeats 4000000 in
theorem s57 (x:Itm) (h:De x):AL C 57 [.str (CM x)] (x.rcd++[tI ((CM x).size:Nat),.bool true]):=by
 refine AL.of (fun m=>e57 m _) ?_;have hz:=Hk h;have hop:AL C 41 [.str (CM x)] [.str (HU x),tI ((Cu (HU x)).size:Nat),tI 0]:=s41 (post:=[]) (by rw [append_nil];rfl) (by omega) (by have:=JO h;omega);have hn:=KH h;have hq:=s60 x h;simp only [Itm.nums,mem_cons,not_mem_nil,or_false,forall_eq_or_imp,forall_eq] at hn;obtain ⟨n0,n1,n2,n3,n4,n5,n6,n7,n8,n9⟩:=hn;obtain ⟨S1,E1,b1,z1,r1,l1⟩:=rdI (Uc x) (by decide) (by omega);obtain ⟨S2,E2,b2,z2,r2,l2⟩:=rdI b1 (by decide) z1;obtain ⟨S3,E3,b3,z3,r3,l3⟩:=rdI b2 (by decide) z2;obtain ⟨S4,E4,b4,z4,r4,l4⟩:=rdI b3 n1 z3;obtain ⟨S5,E5,b5,z5,r5,l5⟩:=rdI b4 n2 z4;obtain ⟨S6,E6,b6,z6,r6,l6⟩:=rdI b5 n3 z5;obtain ⟨S7,E7,b7,z7,r7,l7⟩:=rdI b6 n4 z6;obtain ⟨S8,E8,b8,z8,r8,l8⟩:=rdI b7 n5 z7;obtain ⟨S9,E9,b9,z9,r9,l9⟩:=rdI b8 n6 z8;obtain ⟨T0,F0,c0,y0,q0,m0⟩:=rdI b9 n7 z9;obtain ⟨T1,F1,c1,y1,q1,m1⟩:=rdI c0 n8 y0;obtain ⟨T2,F2,c2,y2,q2,m2⟩:=rdI c1 n9 y1;have htx:AL C 84 [.str T2] [.str x.data,tI ((AT x.data).size:Nat),tI 0]:=s84 (post:=[]) (by rw [c2,append_nil]) (by have:=h.data;omega) (by omega);have hT2:T2=AT x.data:=CW c2;have hlast:T2.extract (AT x.data).size T2.size=ByteArray.mk #[]:=by apply CW;rw [CL,c2,Gg,List.drop_of_length_le];rw [AS];exact le_refl _
 have hsz:(((AT x.data).size:Nat):Int)≤((T2.size:Nat):Int):=by rw [hT2];exact Int.le_refl _
 refine (hop.and (htx.and (hq.and ((Ev.ge 8).and (r1.and (r2.and (r3.and (r4.and (r5.and (r6.and (r7.and (r8.and (r9.and (q0.and (q1.and q2))))))))))))))).mono fun m g => ?_;obtain ⟨g,gt,gq,h1,g1,g2,g3,g4,g5,g6,g7,g8,g9,p0,p1,p2⟩:=g;obtain ⟨k,rfl⟩:∃k,m=k+8:=⟨m-8,by omega⟩
 have zz0:∀j:Nat,(0:Int)≤(j:Int):=fun j=>natCast_nonneg j;simp only [Itm.rcd,cons_append,nil_append] at gq ⊢;simp only [vv,reduceCtorEq,reduceAdd,reduceEqDiff,g];clear hop hq n0 n1 n2 n3 n4 n5 n6 n7 n8 n9 b1 b2 b3 b4 b5 b6 b7 b8 b9 c0 c1 c2 z1 z2 z3 z4 z5 z6 z7 z8 z9 y0 y1 y2 r1 r2 r3 r4 r5 r6 r7 r8 r9 q0 q1 q2 htx hT2 h1 hz h;rw [Ac,Rn];simp only [vv,reduceCtorEq,reduceAdd,reduceEqDiff,Int.reduceLT,Int.reduceLE,Int.reduceEq,lt_irrefl,nc0,nc1,nc2,nc3,nc4,nc5,zz0,w01,w12,w23,w34,w45,bne_self_eq_false,toNat_natCast,beq_self_eq_true,g1,E1,l1,VO,VK];rw [Ac,Rn];simp only [vv,reduceCtorEq,reduceAdd,reduceEqDiff,Int.reduceLT,Int.reduceLE,Int.reduceEq,lt_irrefl,nc0,nc1,nc2,nc3,nc4,nc5,zz0,w01,w12,w23,w34,w45,bne_self_eq_false,toNat_natCast,beq_self_eq_true,g2,E2,l2,VO,VK];rw [Ac,Rn];simp only [vv,reduceCtorEq,reduceAdd,reduceEqDiff,Int.reduceLT,Int.reduceLE,Int.reduceEq,lt_irrefl,nc0,nc1,nc2,nc3,nc4,nc5,zz0,w01,w12,w23,w34,w45,bne_self_eq_false,toNat_natCast,beq_self_eq_true];rw [VH];simp only [vv,reduceCtorEq,reduceAdd,reduceEqDiff,Int.reduceLT,Int.reduceLE,Int.reduceEq,lt_irrefl,nc0,nc1,nc2,nc3,nc4,nc5,zz0,w01,w12,w23,w34,w45,bne_self_eq_false,toNat_natCast,beq_self_eq_true,gt,hsz,hlast];rw [VI];simp only [vv,reduceCtorEq,reduceAdd,reduceEqDiff,Int.reduceLT,Int.reduceLE,Int.reduceEq,lt_irrefl,nc0,nc1,nc2,nc3,nc4,nc5,zz0,w01,w12,w23,w34,w45,bne_self_eq_false,toNat_natCast,beq_self_eq_true,gt,hsz,hlast];rw [Ac,U2];simp only [vv,reduceCtorEq,reduceAdd,reduceEqDiff,Int.reduceLT,Int.reduceLE,Int.reduceEq,lt_irrefl,nc0,nc1,nc2,nc3,nc4,nc5,zz0,w01,w12,w23,w34,w45,bne_self_eq_false,toNat_natCast,beq_self_eq_true,g3,E3,l3,J57_4];rw [Ac,U2];simp only [vv,reduceCtorEq,reduceAdd,reduceEqDiff,Int.reduceLT,Int.reduceLE,Int.reduceEq,lt_irrefl,nc0,nc1,nc2,nc3,nc4,nc5,zz0,w01,w12,w23,w34,w45,bne_self_eq_false,toNat_natCast,beq_self_eq_true];rw [VJ];simp only [vv,reduceCtorEq,reduceAdd,reduceEqDiff,Int.reduceLT,Int.reduceLE,Int.reduceEq,lt_irrefl,nc0,nc1,nc2,nc3,nc4,nc5,zz0,w01,w12,w23,w34,w45,bne_self_eq_false,toNat_natCast,beq_self_eq_true,gt,hsz,hlast];rw [Ac,H9];simp only [vv,reduceCtorEq,reduceAdd,reduceEqDiff,Int.reduceLT,Int.reduceLE,Int.reduceEq,lt_irrefl,nc0,nc1,nc2,nc3,nc4,nc5,zz0,w01,w12,w23,w34,w45,bne_self_eq_false,toNat_natCast,beq_self_eq_true,g4,E4,l4,M8,M7,M6,M5,Jm];rw [Ac,H9];simp only [vv,reduceCtorEq,reduceAdd,reduceEqDiff,Int.reduceLT,Int.reduceLE,Int.reduceEq,lt_irrefl,nc0,nc1,nc2,nc3,nc4,nc5,zz0,w01,w12,w23,w34,w45,bne_self_eq_false,toNat_natCast,beq_self_eq_true,g5,E5,l5,M8,M7,M6,M5,Jm];rw [Ac,H9];simp only [vv,reduceCtorEq,reduceAdd,reduceEqDiff,Int.reduceLT,Int.reduceLE,Int.reduceEq,lt_irrefl,nc0,nc1,nc2,nc3,nc4,nc5,zz0,w01,w12,w23,w34,w45,bne_self_eq_false,toNat_natCast,beq_self_eq_true,g6,E6,l6,M8,M7,M6,M5,Jm];rw [Ac,H9];simp only [vv,reduceCtorEq,reduceAdd,reduceEqDiff,Int.reduceLT,Int.reduceLE,Int.reduceEq,lt_irrefl,nc0,nc1,nc2,nc3,nc4,nc5,zz0,w01,w12,w23,w34,w45,bne_self_eq_false,toNat_natCast,beq_self_eq_true,g7,E7,l7,M8,M7,M6,M5,Jm];rw [Ac,H9];simp only [vv,reduceCtorEq,reduceAdd,reduceEqDiff,Int.reduceLT,Int.reduceLE,Int.reduceEq,lt_irrefl,nc0,nc1,nc2,nc3,nc4,nc5,zz0,w01,w12,w23,w34,w45,bne_self_eq_false,toNat_natCast,beq_self_eq_true,g8,E8,l8,M8,M7,M6,M5,Jm];rw [Ac,H9];simp only [vv,reduceCtorEq,reduceAdd,reduceEqDiff,Int.reduceLT,Int.reduceLE,Int.reduceEq,lt_irrefl,nc0,nc1,nc2,nc3,nc4,nc5,zz0,w01,w12,w23,w34,w45,bne_self_eq_false,toNat_natCast,beq_self_eq_true];rw [VL];simp only [vv,reduceCtorEq,reduceAdd,reduceEqDiff,Int.reduceLT,Int.reduceLE,Int.reduceEq,lt_irrefl,nc0,nc1,nc2,nc3,nc4,nc5,zz0,w01,w12,w23,w34,w45,bne_self_eq_false,toNat_natCast,beq_self_eq_true,gt,hsz,hlast];rw [Ac,Jl];simp only [vv,reduceCtorEq,reduceAdd,reduceEqDiff,Int.reduceLT,Int.reduceLE,Int.reduceEq,lt_irrefl,nc0,nc1,nc2,nc3,nc4,nc5,zz0,w01,w12,w23,w34,w45,bne_self_eq_false,toNat_natCast,beq_self_eq_true,g9,E9,l9,Lu,Lt,Ls,Lr];rw [Ac,Jl];simp only [vv,reduceCtorEq,reduceAdd,reduceEqDiff,Int.reduceLT,Int.reduceLE,Int.reduceEq,lt_irrefl,nc0,nc1,nc2,nc3,nc4,nc5,zz0,w01,w12,w23,w34,w45,bne_self_eq_false,toNat_natCast,beq_self_eq_true,p0,F0,m0,Lu,Lt,Ls,Lr];rw [Ac,Jl];simp only [vv,reduceCtorEq,reduceAdd,reduceEqDiff,Int.reduceLT,Int.reduceLE,Int.reduceEq,lt_irrefl,nc0,nc1,nc2,nc3,nc4,nc5,zz0,w01,w12,w23,w34,w45,bne_self_eq_false,toNat_natCast,beq_self_eq_true,p1,F1,m1,Lu,Lt,Ls,Lr];rw [Ac,Jl];simp only [vv,reduceCtorEq,reduceAdd,reduceEqDiff,Int.reduceLT,Int.reduceLE,Int.reduceEq,lt_irrefl,nc0,nc1,nc2,nc3,nc4,nc5,zz0,w01,w12,w23,w34,w45,bne_self_eq_false,toNat_natCast,beq_self_eq_true,p2,F2,m2,Lu,Lt,Ls,Lr];rw [Ac,Jl];simp only [vv,reduceCtorEq,reduceAdd,reduceEqDiff,Int.reduceLT,Int.reduceLE,Int.reduceEq,lt_irrefl,nc0,nc1,nc2,nc3,nc4,nc5,zz0,w01,w12,w23,w34,w45,bne_self_eq_false,toNat_natCast,beq_self_eq_true];rw [VM];simp only [vv,reduceCtorEq,reduceAdd,reduceEqDiff,Int.reduceLT,Int.reduceLE,Int.reduceEq,lt_irrefl,nc0,nc1,nc2,nc3,nc4,nc5,zz0,w01,w12,w23,w34,w45,bne_self_eq_false,toNat_natCast,beq_self_eq_true,gt,hsz,hlast];rw [VN];simp only [vv,reduceCtorEq,reduceAdd,reduceEqDiff,Int.reduceLT,Int.reduceLE,Int.reduceEq,lt_irrefl,nc0,nc1,nc2,nc3,nc4,nc5,zz0,w01,w12,w23,w34,w45,bne_self_eq_false,toNat_natCast,beq_self_eq_true,gt,hsz,hlast];rw [VF];simp only [vv,reduceCtorEq,reduceAdd,reduceEqDiff,Int.reduceLT,Int.reduceLE,Int.reduceEq,lt_irrefl,nc0,nc1,nc2,nc3,nc4,nc5,zz0,w01,w12,w23,w34,w45,bne_self_eq_false,toNat_natCast,beq_self_eq_true,VG];rw [Aw (by decide),Aw (by decide),show ((0:Int)==1)=false from rfl,gq];simp only [vv,reduceCtorEq,reduceAdd,reduceEqDiff,bne_self_eq_false];rfl
theorem s20 (x:Itm) (h:De x):AL C 20 [.str (CM x)] [.sl 19 [x.rcd],tI ((CM x).size:Nat),tI 0]:=by
 refine AL.of (fun m=>e20 m _) ?_;have hz:=JO h;have h1:AL C 57 [.str ((CM x).extract 0 (CM x).size)] (x.rcd++[tI ((CM x).size:Nat),.bool true]):=by rw [Nf];exact s57 x h
 have e2:(CM x).extract (CM x).size (CM x).size=ByteArray.mk #[]:=by apply CW;rw [CL,Gg,List.drop_of_length_le];rw [AS];exact le_refl _
 refine (h1.and (TW.and (Ev.ge 4))).mono fun m g => ?_;obtain ⟨g1,g2,h4⟩:=g;obtain ⟨k,rfl⟩:∃k,m=k+4:=⟨m-4,by omega⟩
 simp only [Itm.rcd,cons_append,nil_append] at g1 ⊢;have z0:(0:Int)≤((CM x).size:Nat):=natCast_nonneg _;have hw:w64 (0+(((CM x).size:Nat):Int))=(((CM x).size:Nat):Int):=by rw [AX (by omega) (by omega)];omega
 rw [Aw (by simp;omega),Ac,U9];simp only [vv,reduceCtorEq,reduceAdd,reduceEqDiff,toNat_zero,z0,Int.le_refl,g1,hw,Bool.not_true,take_nil,drop_nil,length_nil];rw [Ac,U9];simp only [vv,reduceCtorEq,reduceAdd,reduceEqDiff,toNat_natCast,z0,Int.le_refl,e2,g2,Bool.not_false,take_nil,drop_nil,length_nil];rfl
end Ab
namespace Ab
open Go Go.Proofs Go.Shelf Go.RowKit Go.Lib
set_option maxRecDepth 100000
theorem GF {P:Program} {t key elem:TypeId} {kd:IntKind} (hu:P.underlying t=some (.map key elem)) (hk:P.underlying key=some (.int kd)) {w:World} {b:Nat} {es:Array MapEntry} {clock:Nat} (hb:w.heap[b]? = some (.map es clock)) (n:Int) (v:Value)
  (hnew:Instr.findNow (.int kd) (.int kd n) es.toList 0=some none) :
  (Instr.mapUpdate t (.map (some b)) (.int kd n) v).run P w = .ok () (w.putObj b (.map (es.push {key :=.int kd n,val:=v,born:=clock}) (clock+1))):=by
 have hck:(Instr.checkKey false 10000 key (.int kd n)).run P w = .ok () w:=by
  have:∀m:Nat,(Instr.checkKey false (m+1) key (.int kd n)).run P w = .ok () w:=fun m=>by simp [Instr.checkKey,run_underlying hk]
  exact this 9999
 simp only [Instr.mapUpdate,Sem.run_bind,run_underlying hu,Result.andThen_ok,CI hb,hck,Instr.findKey,run_underlying hk,hnew,Sem.run_pure];simp [setObj,Sem.run,hb,World.putObj]
theorem LF (w:World):Calls Tryz.prog 285 #[] w fun e w'=>∃b,e = .returned (.map (some b))∧w.heap.size≤b∧b<w'.heap.size∧Below w.heap.size w w'∧∃es clock,w'.heap[b]? = some (.map es clock)∧es.toList.map (fun e=>(e.key,e.val))=[(.int .i64 2,.func (.func 301) #[] #[]),(.int .i64 3,.func (.func 302) #[] #[])]:=by
 have hmm:=@Go.run_makeMap_plain Tryz.prog;have hw0:(w.alloc (.map #[] 0)).heap[w.heap.size]? = some (.map #[] 0):=by show (w.heap.push (.map #[] 0))[w.heap.size]? = _;exact Array.getElem?_push_size
 have h1:(Instr.mapUpdate 414 (.map (some w.heap.size)) (.int .i64 2) (.func (.func 301) #[] #[])).run Tryz.prog (w.alloc (.map #[] 0))= .ok () ((w.alloc (.map #[] 0)).putObj w.heap.size (.map #[{key :=.int .i64 2,val :=.func (.func 301) #[] #[],born:=0}] 1)):=
  GF (P:=Tryz.prog) (t:=414) (key:=3) (elem:=412) (kd :=.i64) (by kernel_rfl) (by kernel_rfl) hw0 2 (.func (.func 301) #[] #[]) rfl
 have hlt:=Cp hw0;have hw1:=World.putObj_heap_same (o :=.map #[{key :=.int .i64 2,val :=.func (.func 301) #[] #[],born:=0}] 1) hlt;have hlt2:=Cp hw1;have hw2:=World.putObj_heap_same (o :=.map #[{key :=.int .i64 2,val :=.func (.func 301) #[] #[],born:=0},{key :=.int .i64 3,val :=.func (.func 302) #[] #[],born:=1}] 2) hlt2;have hlt3:=Cp hw2;have h2:(Instr.mapUpdate 414 (.map (some w.heap.size)) (.int .i64 3) (.func (.func 302) #[] #[])).run Tryz.prog ((w.alloc (.map #[] 0)).putObj w.heap.size (.map #[{key :=.int .i64 2,val :=.func (.func 301) #[] #[],born:=0}] 1))= .ok () (((w.alloc (.map #[] 0)).putObj w.heap.size (.map #[{key :=.int .i64 2,val :=.func (.func 301) #[] #[],born:=0}] 1)).putObj w.heap.size (.map #[{key :=.int .i64 2,val :=.func (.func 301) #[] #[],born:=0},{key :=.int .i64 3,val :=.func (.func 302) #[] #[],born:=1}] 2)):=
  GF (P:=Tryz.prog) (t:=414) (key:=3) (elem:=412) (kd :=.i64) (by kernel_rfl) (by kernel_rfl) hw1 3 (.func (.func 302) #[] #[]) rfl
 go_enter Tryz.func285,Tryz.ntmps285
 go_wp2
 go_ret
 exact ⟨w.heap.size,rfl,le_refl _,hlt3,⟨rfl,rfl,rfl,Nat.le_of_lt hlt3,fun k hk=>by rw [World.putObj_heap_other (ne_of_lt hk),World.putObj_heap_other (ne_of_lt hk)];show (w.heap.push (.map #[] 0))[k]? = _;rw [getElem?_push,if_neg (ne_of_lt hk)]⟩,_,_,hw2,rfl⟩
theorem mapExt:Du Tryz.prog 285 [] [.mp .i64 [(2,301),(3,302)]]:=by
 intro B w avs vs n hm hB hc;have e:avs=[]:=by
  have:CU Tryz.prog 285 (fun i =>.t ((List.getD [] i default:Tree)))=some []:=by kernel_rfl
  rw [this] at hm;exact (Option.some.inj hm).symm
 subst e;obtain rfl:vs = #[]:=eq_empty_of_size_eq_zero (by simpa using hc.1);refine (callsIn_wide (n:=n)).2 (LF w) |>.mono ?_
 rintro e w' ⟨b,rfl,h1,h2,h3,es,clock,h4,h5⟩
 refine ⟨_,.t (.mp .i64 [(2,301),(3,302)]),rfl,by kernel_rfl,.t _ _ (.mp .i64 _ b es clock h2 ?_ h4 (by rw [h5];rfl)),⟨h3.os,h3.tape,h3.output,h3.size,h3.block⟩,fun h => ?_⟩
 ·rintro (h|h)
  ·exact Nat.lt_irrefl _ (lt_of_lt_of_le (hB b h) h1)
  ·exact C3 h
 ·have:Bv Tryz.prog 285=false:=by kernel_rfl
  rw [this] at h;cases h
theorem AG:JE C:=by
 intro g xs ys _ h;have h2:QT g xs=some ys:=h;clear h;unfold QT at h2;split at h2
 ·rename_i e;split at h2
  ·cases h2;subst e;exact TJ
  ·cases h2
 split at h2
 ·rename_i e;split at h2
  ·cases h2;subst e;exact mapExt
  ·cases h2
 cases h2
end Ab
namespace Ab
open Go Go.Proofs Go.RowKit Go.Lib Go.Shelf
set_option maxRecDepth 100000
set_option maxHeartbeats 4000000
theorem pure_of {g:Nat} {xs ys:List Tree} (h:AL C g xs ys) (hg:g<OWN):Du Tryz.prog g xs ys:=by obtain ⟨N,hN⟩:=h;exact Iy (C:=C) mix AG hg (hN N (le_refl _))
theorem Mf (n:Int) (h:inR n) (w:World):Calls Tryz.prog 32 #[.int .i64 n] w fun e w'=>e = .returned (.tuple #[.string (CK n),.int .i64 0])∧Below w.heap.size w w':=by
 have hp:=pure_of (s32 n h) (by decide) (fun _=>False) w [.t (tI n)] #[.int .i64 n] 0 (by kernel_rfl) (fun _ h=>h.elim) ⟨rfl,fun j x hx=>by
  rcases j with _|j
  ·cases hx;exact .t _ _ (.int _ _)
  ·simp at hx⟩
 refine ((callsIn_wide (n:=0)).1 hp).mono ?_
 rintro e w' ⟨v,r,rfl,hr,hv,hg,_⟩
 have hr2:Br Tryz.prog 32 (fun i =>.t (([.str (CK n),tI 0]:List Tree).getD i default))=some (.tuple [.t (.str (CK n)),.t (tI 0)]):=by kernel_rfl
 rw [hr2] at hr;cases hr;cases hv with
 |tuple _ vs hsz hall=>
  refine ⟨?_,⟨hg.os,hg.tape,hg.output,hg.size,hg.block⟩⟩;congr 2;have h0:=hall 0 _ rfl;have h1:=hall 1 _ rfl;cases h0 with|t _ _ h0 => ?_
  cases h1 with|t _ _ h1 => ?_
  obtain ⟨l⟩:=vs
  match l,hsz with
  |[a,c],_=>
   cases h0;cases h1;rfl
end Ab
namespace Ab
open Go Go.Proofs Go.RowKit Go.Lib Go.Shelf
set_option maxRecDepth 100000
set_option maxHeartbeats 4000000
theorem HZ {B b:Nat} {bs:List Value} {w w':World} (h:Lib.IsBuilder 135 5 B b bs w) (hb:Below w.heap.size w w'):Lib.IsBuilder 135 5 B b bs w':=by
 have key:∀{p:Value},Lib.BuilderAt 135 5 B b p bs w→Lib.BuilderAt 135 5 B b p bs w':=fun {p} h=>by
  have hlt:=h.lt;obtain ⟨hB,v,hbk,hown,hne⟩:=h;refine ⟨hB,v,(hb.block b hlt).trans hbk,hown.kept (row:=none) ⟨hb.os,hb.tape,hb.output,hb.size,fun k hk _=>hb.block k hk⟩ ?_,hne⟩;cases v.ownBlock with
  |none=>exact Or.inl rfl
  |some k=>exact Or.inr (by simp)
 rcases h with h|h
 ·exact Or.inl (key h)
 ·exact Or.inr (key h)
theorem La {B:Nat} {w w':World} (h:Below B w w') {k o:Nat} (hk:k<B):w'.cell? ⟨k,o,none⟩=w.cell? ⟨k,o,none⟩:=by simp only [World.cell?,h.block k hk]
theorem L8 (l:List Int) (hl:∀n∈l,inR n) (hlen:l.length≤100) (w:World) (b0 off cap:Nat) (hc:l.length≤cap) (hb0:b0<w.heap.size)
  (hcell:∀(j:Nat) (n:Int),l[j]? = some n→w.cell? ⟨b0,off+j,none⟩=some (.int .i64 n)) :
  Calls Tryz.prog 95 #[.slice (some ⟨b0,off,none⟩) l.length cap] w fun e w'=>e = .returned (.string (DH l))∧Below w.heap.size w w':=by
 have Hc:Aside _:=hcell;have Hl:Aside _:=hl;clear hcell hl
 go_enter Tryz.func95,Tryz.ntmps95
 go_wp2
 go_loopg [10] l.length (fun g s10 wx=>∃i:Nat,i+g=l.length∧s10 = .int .i64 i∧Lib.IsBuilder 135 5 w.heap.size w.heap.size (Lib.byteCells ((l.take i).map Ak).flatten) wx∧Below w.heap.size w wx)
 case atStart=>
  refine ⟨0,by omega,rfl,?_,?_⟩
  ·exact Lib.fresh_isBuilder 135 5 w
  ·exact (Below.refl _ w).alloc (le_refl _) _
 case round=>
  obtain ⟨i,hig,rfl,hbu,hbe⟩:=hrel;cases gk with
  |zero=>
   obtain rfl:i=l.length:=by omega
   have hiz:¬(((l.length:Nat):Int)<((l.length:Nat):Int)):=by omega
   have hsz:=hbe.size
   go_wp2_with (go_at_fn 56;refine (Tryz.Builder_String_any w.heap.size w.heap.size _ _ hbu hsz).mono ?_)
   refine (Tryz.Builder_String_any w.heap.size w.heap.size _ _ hbu hsz).mono ?_
   rintro e w1 ⟨rfl,hb2⟩
   go_wp2
   go_ret
   exact ⟨rfl,hbe.trans hb2⟩
  |succ g=>
   have hiz:(i:Int)<((l.length:Nat):Int):=by omega
   have hi:i<l.length:=by omega
   obtain ⟨n,hn⟩:∃n,l[i]? = some n:=⟨l[i],getElem?_eq_getElem hi⟩
   have hcell:wr.cell? ⟨b0,off+i,none⟩=some (.int .i64 n):=(La hbe hb0).trans (Hc.out i n hn);have hin:inR n:=Hl.out n (mem_of_getElem? hn)
   go_wp2_with (go_at_fn 32;refine (Mf n hin _).mono ?_)
   refine (Mf n hin _).mono ?_
   rintro e w1 ⟨rfl,hb1⟩
   have hbu1:=HZ hbu hb1;have hbe1:Below w.heap.size w w1:=hbe.trans ⟨hb1.os,hb1.tape,hb1.output,hb1.size,fun k hk=>hb1.block k (lt_of_lt_of_le hk hbe.size)⟩;have hsz:=hbe1.size;have hln:(Lib.byteCells ((l.take i).map Ak).flatten).length+(CK n).size≤140737488355328:=by
    have h9:=Cq (l:=l.take i) (fun y hy=>Hl.out y (mem_of_mem_take hy));have h8:(l.take i).length≤100:=by rw [length_take];omega
    have h7:=Cr n hin;rw [Lib.byteCells_length];omega
   go_wp2_with (go_at_fn 53;refine (Cl w.heap.size w.heap.size _ (CK n) _ hbu1 hln hsz).mono ?_)
   refine (Cl w.heap.size w.heap.size _ (CK n) _ hbu1 hln hsz).mono ?_
   rintro e w2 ⟨rfl,hbu2,hb2⟩
   go_wp2
   go_roundg g
   case measure=>omega
   case rel=>
    refine ⟨i+1,by omega,by first|rfl|simp,Or.inr ?_,hbe1.trans hb2⟩;have e1:Lib.byteCells ((l.take (i+1)).map Ak).flatten=Lib.byteCells ((l.take i).map Ak).flatten++Lib.strCells (CK n):=by rw [take_add_one,hn];simp only [Option.toList_some,map_append,map_cons,map_nil,flatten_append,flatten_cons,List.flatten_nil,append_nil,Lib.byteCells_append];rfl
    rw [e1];exact hbu2
end Ab
namespace Ab
open Go Go.Proofs Go.RowKit Go.Lib Go.Shelf
set_option maxRecDepth 100000
open Classical in
noncomputable def Mb (C:Cfg) (g:Nat) (xs:List Tree):Option (List Tree):=if h:∃ys,AL C g xs ys then some h.choose else none
theorem TY {C:Cfg} {g:Nat} {xs ys zs:List Tree} (h:AL C g xs ys) (k:AL C g xs zs):ys=zs:=by obtain ⟨N,hN⟩:=h;obtain ⟨M,hM⟩:=k;have a:=hN (N+M) (by omega);have b:=hM (N+M) (by omega);exact Option.some.inj (a.symm.trans b)
theorem Oe {C:Cfg} {g:Nat} {xs ys:List Tree} (h:AL C g xs ys):Mb C g xs=some ys:=by
 have hx:∃ys,AL C g xs ys:=⟨ys,h⟩
 unfold Mb;rw [dif_pos hx];exact congrArg some (TY hx.choose_spec h)
theorem K8 {C:Cfg} {g:Nat} {xs ys:List Tree} (h:Mb C g xs=some ys):AL C g xs ys:=by
 unfold Mb at h;split at h
 ·rename_i hx;cases h;exact hx.choose_spec
 ·cases h
theorem JP {C:Cfg} (hmix:C.P.follows .mixedOrders=true) (hext:JE C) {g:Nat} {xs ys:List Tree} (h:AL C g xs ys) (hg:g<OWN):Du C.P g xs ys:=by obtain ⟨N,hN⟩:=h;exact Iy hmix hext hg (hN N (le_refl _))
theorem II {C:Cfg} {g:Nat} {xs ys:List Tree} (hg:g<OWN) (h:C.ext g xs=some ys):AL C g xs ys:=by refine Ev.succ (p:=fun n=>AB C n g xs=some ys) (Ev.of fun n => ?_);unfold AB;rw [if_pos hg,h]
def sl1 (l:List Int):List Tree:=[.sl 1 (l.map fun n=>[tI n])]
theorem sl1_inj {a b:List Int} (h:sl1 a=sl1 b):a=b:=by
 have h1:(a.map fun n=>[tI n])=b.map fun n=>[tI n]:=by injection h with h _;injection h
 have h2:∀(a b:List Int),(a.map fun n=>[tI n])=(b.map fun n=>[tI n])→a=b:=by
  intro a
  induction a with
  |nil=>intro b h;cases b with|nil=>rfl|cons y b=>cases h
  |cons x a ih=>
   intro b h;cases b with
   |nil=>cases h
   |cons y b=>
    rw [map_cons,map_cons] at h;injection h with h1 h2;injection h1 with h1 _;injection h1 with _ h1;rw [h1,ih b h2]
 exact h2 a b h1
def Ut (l:List Int):Prop:=(∀n∈l,inR n)∧l≠[]∧l.length≤100
open Classical in
noncomputable def RY (xs:List Tree):Option (List Tree):=if h:∃l,xs=sl1 l∧Ut l then some [.str (DH h.choose)] else none
theorem UF {l:List Int} (h:Ut l):RY (sl1 l)=some [.str (DH l)]:=by
 have hx:∃l',sl1 l=sl1 l'∧Ut l':=⟨l,rfl,h⟩
 unfold RY;rw [dif_pos hx,sl1_inj hx.choose_spec.1.symm]
theorem NR {l:List Int} (h:Ut l):Du Tryz.prog 95 (sl1 l) [.str (DH l)]:=by
 intro B w avs vs n hm hB hc;obtain ⟨h1,h2,h3⟩:=h;have e:avs=[.t (.sl 1 (l.map fun n=>[tI n]))]:=by
  have:CU Tryz.prog 95 (fun i =>.t ((sl1 l).getD i default))=some [.t (.sl 1 (l.map fun n=>[tI n]))]:=by kernel_rfl
  rw [this] at hm;exact (Option.some.inj hm).symm
 subst e;obtain ⟨hs,hv⟩:=hc;have hv0:=hv 0 _ rfl;obtain ⟨vl⟩:=vs
 match vl,hs with
 |[v],_=>
  have hv1:AM B [] [] w (.t (.sl 1 (l.map fun n=>[tI n]))) v:=hv0;cases hv1 with
  |t _ _ ht=>
   generalize hes:(l.map fun n=>[tI n])=es at ht;have hlen:es.length=l.length:=by rw [← hes,length_map]
   cases ht with
   |nil size cap a=>rw [length_nil] at hlen;exact absurd (eq_nil_of_length_eq_zero hlen.symm) h2
   |sl _ _ b off cap u hcap hb hA hsz hcell hrel=>
    have hk:=L8 l h1 h3 w b off cap (by omega) hb (fun j n hn=>by
     have hj:es[j]? = some [tI n]:=by rw [← hes,getElem?_map,hn];rfl
     have c1:=hcell j _ 0 _ hj rfl;have c2:=hrel j _ 0 _ hj rfl;rw [mul_one,add_zero] at c1;rw [c1];generalize u j 0=q at c2 ⊢;cases c2;rfl)
    rw [← hlen] at hk;refine ((callsIn_wide (n:=n)).2 hk).mono ?_
    rintro e w' ⟨rfl,hbw⟩
    refine ⟨_,.t (.str (DH l)),rfl,by kernel_rfl,.t _ _ (.str _),⟨hbw.os,hbw.tape,hbw.output,hbw.size,hbw.block⟩,fun _=>rfl⟩
noncomputable def QV (g:Nat) (xs:List Tree):Option (List Tree):=if g=54 then none else if g=95 then RY xs else Mb C g xs
noncomputable def C1:Cfg:={C with ext:=QV}
theorem mix1:C1.P.follows .mixedOrders=true:=mix
theorem RZ:JE C1:=by
 intro g xs ys hg h;have h2:QV g xs=some ys:=h;unfold QV at h2;split at h2
 ·cases h2
 split at h2
 ·rename_i e;subst e;unfold RY at h2;split at h2
  ·rename_i hx;cases h2;have hc:=hx.choose_spec;generalize hx.choose=l at hc ⊢;obtain ⟨rfl,hc⟩:=hc;exact NR hc
  ·cases h2
 ·exact JP (C:=C) mix AG (K8 h2) hg
theorem RQ {g:Nat} {xs ys:List Tree} (h:AL C g xs ys) (hg:g<OWN) (h54:g≠54) (h95:g≠95):AL C1 g xs ys:=by refine II hg ?_;show QV g xs=some ys;unfold QV;rw [if_neg h54,if_neg h95];exact Oe h
theorem s95 {l:List Int} (h:Ut l):AL C1 95 (sl1 l) [.str (DH l)]:=by refine II (by decide) ?_;show QV 95 _=_;unfold QV;rw [if_neg (by decide),if_pos rfl];exact UF h
end Ab
set_option maxRecDepth 100000
namespace Ab
open Go Go.Proofs
noncomputable def VB (n:Nat) (a11:ByteArray) (a1:Int) (a2:Int) (a3:Int) (a4:Int) (a5:Int) (a6:Int) (a7:Int) (a8:Int) (a9:Int) (y20:List Tree) (p21:List AV×Heap):Option (List Tree):=
 Option.bind (AB C1 n 30 [.str a11]) fun y23=>cnd (length y23=2) (cnd (okS y23 0) (cnd (okI y23 1) (cnd (((gI y23 1) != 0)=true) (some [.str (ByteArray.mk #[]),
 tI 4]) (Option.bind (AB C1 n 95 [.sl 1 [[tI a1],[tI a2],[tI a3],[tI a4],[tI a5],[tI a6],[tI a7],[tI a8],[tI a9],[tI (vI p21 0)]]]) fun y24=>cnd (length y24 =
 1) (cnd (okS y24 0) (cnd ((ByteArray.size (gS y24 0))+(ByteArray.size (gS y23 0))≤9223372036854775807) (cnd ((ByteArray.size (gS y20 0))+(ByteArray.size ((gS y24 0)++(gS y23 0)))≤
 9223372036854775807) (Option.bind (AB C1 n 34 [.str ((gS y20 0)++((gS y24 0)++(gS y23 0)))]) fun y25=>cnd (length y25=2) (cnd (okS y25 0) (cnd (okI y25 1) (cnd
 (((gI y25 1) != 0)=true) (some [.str (ByteArray.mk #[]),tI 4]) (some [.str (gS y25 0),tI 0])) none) none) none) none) none) none) none)) none) none) none
theorem Ke54 (n:Nat) (a0:Int) (a1:Int) (a2:Int) (a3:Int) (a4:Int) (a5:Int) (a6:Int) (a7:Int) (a8:Int) (a9:Int) (a10:Bool) (a11:ByteArray) (a12:Int) (a13:Int) (a14:Int) (a15:Int) (a16:Int) (a17:Int) (a18:Int):AB C1 (n+1) 54 [tI a0,tI a1,tI a2,tI a3,tI a4,tI a5,tI a6,tI a7,tI a8,tI a9,.bool a10,.str a11,tI a12,tI a13,tI a14,tI a15,tI a16,tI a17,tI a18]=
 Option.bind (AB C1 n 60 [tI a0,tI a1,tI a2,tI a3,tI a4,tI a5,tI a6,tI a7,tI a8,tI a9,.bool a10,.str a11,tI a12,tI a13,tI a14,tI a15,tI a16,tI a17,tI a18]) fun y19=>
 cnd (length y19=1) (cnd (okI y19 0) (cnd (((gI y19 0) != 0)=true) (some [.str (ByteArray.mk #[]),tI (gI y19 0)]) (Option.bind (AB C1 n 95 [.sl 1 [[tI a0],
 [tI a18]]]) fun y20=>cnd (length y20=1) (cnd (okS y20 0) (cnd ((a0==1)=true) (cnd ((a0==1)=true) (join (fun (p21:List AV×Heap)=>VB n a11 a1 a2 a3 a4 a5 a6
 a7 a8 a9 y20 p21) fun (again22:_→Option (List Tree))=>cnd (a10=true) (again22 ([.t (tI 1)],[.box []])) (again22 ([.t (tI 0)],[.box []]))) none) none) none) none))
 none) none:=by kernel_rfl
end Ab
namespace Ab
open Go
theorem s54 (x:Itm) (h:De x):AL C1 54 x.rcd [.str (CM x),tI 0]:=by
 refine AL.of (fun m=>Ke54 m _ _ _ _ _ _ _ _ _ _ _ _ _ _ _ _ _ _ _) ?_;have hz:=Hk h;have hd:=h.data;have n2:=Fc (KH h);have n1:=Fc (l:=[1,0]) (by decide);have h5:x.nums.length=10:=rfl;have tb:=BR x.data (by omega);have k1:AL C1 95 (sl1 [1,0]) [.str (DH [1,0])]:=s95 ⟨by decide,by simp,by simp⟩;have k2:AL C1 95 (sl1 x.nums) [.str (DH x.nums)]:=s95 ⟨KH h,by simp [Itm.nums],by simp [Itm.nums]⟩;refine ((RQ (s60 x h) (by decide) (by decide) (by decide)).and (k1.and (k2.and ((RQ (s30 x.data (by omega)) (by decide) (by decide) (by decide)).and (RQ (s34 (HU x) (by omega)) (by decide) (by decide) (by decide)))))).mono fun m g => ?_;obtain ⟨g1,g2,g3,g4,g5⟩:=g;simp only [Itm.rcd,sl1,Itm.nums,map_cons,map_nil] at g1 g2 g3;simp only [length_cons,length_nil] at n1;simp only [vv,reduceCtorEq,reduceAdd,reduceEqDiff,g1,g2,g4,bne_self_eq_false,beq_self_eq_true,VB,g3];rw [AZ (by have:(DH [0,x.src,x.cre,x.seq,x.off,x.tot,x.dst,x.exp,x.pri,0]).size=(DH x.nums).size:=rfl;omega),AZ (by rw [A9];have:(DH [0,x.src,x.cre,x.seq,x.off,x.tot,x.dst,x.exp,x.pri,0]).size=(DH x.nums).size:=rfl;omega)]
 have g5':AB C1 m 34 [.str (DH [1,0]++(DH [0,x.src,x.cre,x.seq,x.off,x.tot,x.dst,x.exp,x.pri,0]++AT x.data))]=some [.str (Cu (HU x)),tI 0]:=g5;rw [g5'];simp only [vv,reduceCtorEq,reduceAdd,reduceEqDiff,bne_self_eq_false];rfl
end Ab
namespace Ab
open Go Go.Proofs Go.RowKit Go.Lib Go.Shelf
set_option maxRecDepth 100000
set_option maxHeartbeats 4000000
def El (x:Itm):Array Value := #[.int .i64 1,.int .i64 0,.int .i64 x.src,.int .i64 x.cre,.int .i64 x.seq,.int .i64 x.off,.int .i64 x.tot,.int .i64 x.dst,.int .i64 x.exp,.int .i64 x.pri,.bool false,.string x.data,.int .i64 0,.int .i64 0,.int .i64 0,.int .i64 0,.int .i64 0,.int .i64 0,.int .i64 0]
theorem Ip (x:Itm) (h:De x) (w:World):Calls Tryz.prog 54 #[.agg (El x)] w fun e w'=>e = .returned (.tuple #[.string (CM x),.int .i64 0])∧Below w.heap.size w w':=by
 have hp:=JP mix1 RZ (s54 x h) (by decide) (fun _=>False) w [.agg (x.rcd.map AV.t)] #[.agg (El x)] 0 (by kernel_rfl) (fun _ h=>h.elim) ⟨rfl,fun j y hy=>by
  rcases j with _|j
  ·cases hy;refine .agg _ _ rfl fun j y hy => ?_;have hj:j<19:=AO hy;rcases j with _|_|_|_|_|_|_|_|_|_|_|_|_|_|_|_|_|_|_|j
   all_goals first
    |(cases hy;exact .t _ _ (.int _ _))
    |(cases hy;exact .t _ _ (.bool _))
    |(cases hy;exact .t _ _ (.str _))
    |omega
  ·simp at hy⟩
 refine ((callsIn_wide (n:=0)).1 hp).mono ?_
 rintro e w' ⟨v,r,rfl,hr,hv,hg,_⟩
 have hr2:Br Tryz.prog 54 (fun i =>.t (([.str (CM x),tI 0]:List Tree).getD i default))=some (.tuple [.t (.str (CM x)),.t (tI 0)]):=by kernel_rfl
 have hr3:some (AV.tuple [.t (.str (CM x)),.t (tI 0)])=some r:=hr2.symm.trans hr;cases hr3;cases hv with
 |tuple _ vs hsz hall=>
  refine ⟨?_,⟨hg.os,hg.tape,hg.output,hg.size,hg.block⟩⟩;congr 2;have h0:=hall 0 _ rfl;have h1:=hall 1 _ rfl;cases h0 with|t _ _ h0 => ?_
  cases h1 with|t _ _ h1 => ?_
  obtain ⟨l⟩:=vs
  match l,hsz with
  |[a,c],_=>
   cases h0;cases h1;rfl
theorem F6 {P:Program} {ops:Array Oper} {rest:List Oper} {o:Oper} {a:Act} {w:World} {Q:Exit→Act→World→Prop} {t:TypeId} {x:Operand} {v:Value} (hgd:o.guard=none) (ho:o.op = .load t x) (h:(Instr.loadAt t (a.eval x)).run P w = .ok v w) (hk:wpList P ops Q rest (a.put o.dst v) w):wpList P ops Q (o::rest) a w:=
 wpList_plain hgd fun _ hK=>KT ho h (hK _ _ hk)
theorem J8 {P:Program} {ops:Array Oper} {rest:List Oper} {o:Oper} {a:Act} {w w':World} {Q:Exit→Act→World→Prop} {t:TypeId} {x y:Operand} (hgd:o.guard=none) (ho:o.op = .store t x y) (h:(Instr.storeAt t (a.eval x) (a.eval y)).run P w = .ok () w') (hk:wpList P ops Q rest (a.put o.dst undef) w'):wpList P ops Q (o::rest) a w:=
 wpList_plain hgd fun _ hK=>OD ho h (hK _ _ hk)
def zeroV:Array Value := #[.int .i64 0,.int .i64 0,.int .i64 0,.int .i64 0,.int .i64 0,.int .i64 0,.int .i64 0,.int .i64 0,.int .i64 0,.int .i64 0,.bool false,.string ⟨#[]⟩,.int .i64 0,.int .i64 0,.int .i64 0,.int .i64 0,.int .i64 0,.int .i64 0,.int .i64 0]
theorem Od (x:Itm) (w:World) (b off:Nat) (hcell:∀(j:Nat) (v:Value),(El x)[j]? = some v→w.cell? ⟨b,off+j,none⟩=some v) :
  (Instr.loadAt 63 (.pointer (some ⟨b,off,none⟩))).run Tryz.prog w = .ok (.agg (El x)) w:=by
 have hl:(loadCells ⟨b,off,none⟩ (El x).toList.length).run Tryz.prog w = .ok (El x).toList.toArray w:=
  run_loadCells_list (P:=Tryz.prog) w ⟨b,off,none⟩ (El x).toList (fun j v hv=>by
   have hadd:(⟨b,off,none⟩:Addr).add j=⟨b,off+j,none⟩:=by unfold Addr.add;split<;>simp_all
   rw [hadd];exact hcell j v (by rw [← getElem?_toList];exact hv))
 have h19:(El x).toList.length=19:=rfl;rw [h19] at hl;simp only [Instr.loadAt,Instr.sureAddr,Sem.run_bind,Sem.run_pure,Result.andThen,loadVar,Tryz.isAgg63,Tryz.sizeOf63,if_true,hl]
theorem T4 (x:Itm) (w:World):(Instr.loadAt 63 (.pointer (some ⟨w.heap.size,0,none⟩))).run Tryz.prog (w.alloc (.cells (El x) 63))= .ok (.agg (El x)) (w.alloc (.cells (El x) 63)):=
 Od x _ _ _ fun j v hv=>by rw [cell_of_row _ _ _ (El x) 63 (0,0) (heap_alloc_last w _),zero_add];exact hv
theorem R1 (x:Itm) (w:World):(Instr.storeAt 63 (.pointer (some ⟨w.heap.size,0,none⟩)) (.agg (El x))).run Tryz.prog (w.alloc (.cells zeroV 63))= .ok () (w.alloc (.cells (El x) 63)):=
 run_storeAt_new w 63 zeroV (El x) (by kernel_rfl) rfl (by simp [El,Value.oneCell'])
end Ab
namespace Ab
open Go Go.Proofs Go.RowKit Go.Lib Go.Shelf
set_option maxRecDepth 100000
set_option maxHeartbeats 4000000
theorem Ns (x:Itm) (h:De x) (w:World) (b0 off cap:Nat) (hc:1≤cap) (hb0:b0<w.heap.size)
  (hcell:∀(j:Nat) (v:Value),(El x)[j]? = some v→w.cell? ⟨b0,off+j,none⟩=some v) :
  Calls Tryz.prog 19 #[.string .empty,.slice (some ⟨b0,off,none⟩) 1 cap] w fun e w'=>e = .returned (.tuple #[.string (CM x),.int .i64 0])∧Below w.heap.size w w':=by
 have Hc:Aside _:=hcell;clear hcell;have hz:=JO h
 go_enter Tryz.func19,Tryz.ntmps19
 have hf:=Lib.fresh_isBuilder 135 5 w;have hs0:([]:List Value).length+ByteArray.empty.size≤140737488355328:=by decide
 have hw0:w.heap.size≤(w.alloc (.cells #[.pointer none,.slice none 0 0] 135)).heap.size:=by simp
 go_wp2_with (go_at_fn 53;refine (Cl w.heap.size w.heap.size _ .empty _ hf hs0 hw0).mono ?_)
 refine (Cl w.heap.size w.heap.size _ .empty _ hf hs0 hw0).mono ?_
 rintro e w1 ⟨rfl,hbu,hb1⟩
 have hbe:Below w.heap.size w w1:=((Below.refl _ w).alloc (le_refl _) _).trans hb1;have hempty:Lib.IsBuilder 135 5 w.heap.size w.heap.size (Lib.byteCells ([]:List UInt8)) w1:=Or.inr hbu;have he0:Tryz.prog.info? 63=Tryz.prog.info? 63:=rfl
 go_wp2
 go_loopg [15] 1 (fun g s15 wx=>∃i:Nat,i+g=1∧s15 = .int .i64 i∧Lib.IsBuilder 135 5 w.heap.size w.heap.size (Lib.byteCells (if i=0 then [] else bl (CM x))) wx∧Below w.heap.size w wx)
 case atStart=>exact ⟨0,rfl,rfl,hempty,hbe⟩
 case round=>
  obtain ⟨i,hig,rfl,hbu,hbe⟩:=hrel;cases gk with
  |zero=>
   obtain rfl:i=1:=by omega
   rw [if_neg (by decide)] at hbu;have hiz:¬(((1:Nat):Int)<(1:Int)):=by omega
   have hsz:=hbe.size;have hlb:((Lib.byteCells (bl (CM x))).length:Int)=(((CM x).size:Nat):Int):=by rw [Lib.byteCells_length,AS]
   have hng:¬(((Lib.byteCells (bl (CM x))).length:Int)>(65536:Int)):=by rw [hlb];omega
   have hng2:¬((65536:Int)<((Lib.byteCells (bl (CM x))).length:Int)):=by rw [hlb];omega
   go_wp2_with (go_at_fn 55;refine (Tryz.Builder_Len w.heap.size w.heap.size _ _ hbu).mono ?_)
   refine (Tryz.Builder_Len w.heap.size w.heap.size _ _ hbu).mono ?_
   rintro e w2 ⟨rfl,rfl⟩
   go_wp2_with (go_at_fn 56;refine (Tryz.Builder_String_any w.heap.size w.heap.size _ _ hbu hsz).mono ?_)
   refine (Tryz.Builder_String_any w.heap.size w.heap.size _ _ hbu hsz).mono ?_
   rintro e w2 ⟨rfl,hb2⟩
   go_wp2
   go_ret2
   exact ⟨rfl,hbe.trans hb2⟩
  |succ g=>
   obtain rfl:i=0:=by omega
   obtain rfl:g=0:=by omega
   rw [if_pos rfl] at hbu;have Hld:Aside ((Instr.loadAt 63 (.pointer (some ⟨b0,off,none⟩))).run Tryz.prog wr = .ok (.agg (El x)) wr):=Od x wr b0 off fun j v hv=>(La hbe hb0).trans (Hc.out j v hv);have Hst:Aside _:=R1 x wr;have Hl2:Aside _:=T4 x wr;have hiz:((0:Nat):Int)<(1:Int):=by omega
   go_wp2_with (first|(go_at_fn 54;refine (Ip x h _).mono ?_)|refine F6 (v :=.agg (El x)) rfl rfl Hld.out ?_|refine J8 rfl rfl Hst.out ?_|refine F6 (v :=.agg (El x)) rfl rfl Hl2.out ?_)
   refine (Ip x h _).mono ?_
   rintro e w2 ⟨rfl,hb2⟩
   have hW:Below wr.heap.size wr (wr.alloc (.cells (El x) 63)):=(Below.refl _ wr).alloc (le_refl _) _;have hbW:Below wr.heap.size wr w2:=hW.trans ⟨hb2.os,hb2.tape,hb2.output,hb2.size,fun k hk=>hb2.block k (lt_of_lt_of_le hk (by simp))⟩;have hbu2:=HZ hbu hbW;have hbe2:Below w.heap.size w w2:=hbe.trans ⟨hbW.os,hbW.tape,hbW.output,hbW.size,fun k hk=>hbW.block k (lt_of_lt_of_le hk hbe.size)⟩;have hln:(Lib.byteCells ([]:List UInt8)).length+(CM x).size≤140737488355328:=by rw [Lib.byteCells_length,length_nil];omega
   have hsz2:=hbe2.size;clear Hld Hst Hl2 hb1 hb2 hW hbW hf hs0 hw0 hempty hbu
   go_wp2_with (go_at_fn 53;refine (Cl w.heap.size w.heap.size _ (CM x) _ hbu2 hln hsz2).mono ?_)
   refine (Cl w.heap.size w.heap.size _ (CM x) _ hbu2 hln hsz2).mono ?_
   rintro e w3 ⟨rfl,hbu3,hb3⟩
   go_wp2
   go_roundg 0
   case measure=>omega
   case rel=>
    refine ⟨1,by omega,by first|rfl|simp,Or.inr ?_,hbe2.trans hb3⟩;exact hbu3
end Ab
namespace Ab
open Go
theorem OC {b c:Int} (hb:0≤b∧b<256) (hc:0≤c∧c<256):Ck .u8 b c=b↔c=0:=by
 obtain ⟨m,rfl⟩:∃m:Nat,b=m:=⟨b.toNat,by omega⟩
 obtain ⟨n,rfl⟩:∃n:Nat,c=n:=⟨c.toNat,by omega⟩
 have e1:(BitVec.ofInt IntKind.u8.bits (m:Int)).toNat=m:=DG 8 m (by omega);have e2:(BitVec.ofInt IntKind.u8.bits (n:Int)).toNat=n:=DG 8 n (by omega);have hl:m ^^^ n<256:=Nat.xor_lt_two_pow (n:=8) (by omega) (by omega);have e3:Ck .u8 (m:Int) (n:Int)=((m ^^^ n:Nat):Int):=by unfold Ck;rw [BitVec.toNat_xor,e1,e2,wrap_u8];omega
 rw [e3];constructor
 ·intro h;have h1:m ^^^ n=m:=by omega
  have h2:m ^^^ (m ^^^ n)=m ^^^ m:=by rw [h1]
  rw [← Nat.xor_assoc,Nat.xor_self,Nat.zero_xor] at h2;omega
 ·intro h;have:n=0:=by omega
  subst this;rw [Nat.xor_zero]
def dmg (t:ByteArray) (p:Nat) (c:Int):ByteArray:=mkB ((bl t).set p (UInt8.ofNat (Ck .u8 ((bl t).getD p 0).toNat c).toNat))
theorem dmg_row {t:ByteArray} {p:Nat} {c:Int} (hp:p<t.size) (hc:0≤c∧c<256) :
  (AP t)[p]? = some (tb ((bl t).getD p 0))∧(AP t).set p [Tree.int .u8 (Ck .u8 ((((bl t).getD p 0).toNat:Nat):Int) c)]=(bl (dmg t p c)).map tb∧(bl (dmg t p c)).length=t.size:=by
 have hl:p<(bl t).length:=by rw [AS];exact hp
 refine ⟨?_,?_,?_⟩
 ·rw [Di,getElem?_map,getD_eq_getElem?_getD,getElem?_eq_getElem hl];rfl
 ·rw [dmg,DJ,Di,List.map_set];congr 1;have hx:=xor8 ((((bl t).getD p 0).toNat:Nat):Int) c;obtain ⟨k,hk⟩:∃k:Nat,Ck .u8 ((((bl t).getD p 0).toNat:Nat):Int) c=k:=⟨(Ck .u8 ((((bl t).getD p 0).toNat:Nat):Int) c).toNat,by omega⟩
  rw [hk] at hx ⊢;rw [KX k (by omega)];rfl
 ·rw [dmg,DJ,List.length_set,AS]
theorem UM {t:ByteArray} {p:Nat} (hp:p<t.size):dmg t p 0=t:=by
 apply CW;have hl:p<(bl t).length:=by rw [AS];exact hp
 have hb:((bl t).getD p 0).toNat<256:=((bl t).getD p 0).toNat_lt;rw [dmg,DJ,(OC (c:=0) ⟨by omega,by omega⟩ ⟨by omega,by omega⟩).2 rfl,toNat_natCast,UInt8.ofNat_toNat];rw [getD_eq_getElem?_getD,getElem?_eq_getElem hl];exact List.set_getElem_self hl
theorem dmg_ne {t:ByteArray} {p:Nat} {c:Int} (hp:p<t.size) (hc:0<c∧c<256):((bl (dmg t p c))[p]?)≠(bl t)[p]? :=by
 have hl:p<(bl t).length:=by rw [AS];exact hp
 have hb:((bl t).getD p 0).toNat<256:=((bl t).getD p 0).toNat_lt;rw [dmg,DJ,List.getElem?_set_self hl,getElem?_eq_getElem hl];intro h;have h1:=Option.some.inj h;have hx:=xor8 ((((bl t).getD p 0).toNat:Nat):Int) c;have hd:(bl t).getD p 0=(bl t)[p]:=by rw [getD_eq_getElem?_getD,getElem?_eq_getElem hl];rfl
 have h2:=congrArg UInt8.toNat h1;rw [← hd,UInt8.toNat_ofNat'] at h2;have h3:Ck .u8 ((((bl t).getD p 0).toNat:Nat):Int) c=((((bl t).getD p 0).toNat:Nat):Int):=by omega
 have:=(OC ⟨by omega,by omega⟩ ⟨by omega,by omega⟩).1 h3;omega
theorem P0 (x:Seg) (h:Qv x) {j:Nat} (hj:j<4) {c:Int} (hc:0<c∧c<256) :
  AL C 12 [.str (dmg (BW x) ((BW x).size-1-j) c)] [tI 0,tI 0,tI 0,tI 0,tI 0,.bool false,.str (ByteArray.mk #[]),.sl 2 [],tI 13]:=by
 have hz:=EY h;have ht:=BR (CZ x) (by omega);have hs:(BW x).size=(AT (CZ x)).size+4:=by rw [BW,Cu,A9,EX]
 have hlen:(bl (dmg (BW x) ((BW x).size-1-j) c)).length=(BW x).size:=by rw [dmg,DJ,List.length_set,AS]
 have hbs:bl (BW x)=bl (AT (CZ x))++bl (F8 (AT (CZ x))):=by rw [BW,Cu,DY]
 have hsplit:bl (dmg (BW x) ((BW x).size-1-j) c)=bl (AT (CZ x))++(bl (dmg (BW x) ((BW x).size-1-j) c)).drop (AT (CZ x)).size:=by
  have h1:(bl (dmg (BW x) ((BW x).size-1-j) c)).take (AT (CZ x)).size=bl (AT (CZ x)):=by rw [dmg,DJ,List.take_set_of_le (by omega),hbs,← AS (AT (CZ x)),List.take_left]
  conv=>lhs;rw [← take_append_drop (AT (CZ x)).size (bl (dmg (BW x) ((BW x).size-1-j) c)),h1]
 refine s12_dmg hsplit (by rw [length_drop,hlen];omega) (fun e => ?_) (by omega) (by rw [← AS,hlen];omega);refine dmg_ne (t:=BW x) (p:=(BW x).size-1-j) (by omega) hc ?_
 conv=>lhs;rw [hsplit,e,← hbs]
end Ab
namespace Ab
open Go Go.Proofs Go.RowKit Go.Lib Go.Shelf
set_option maxRecDepth 100000
theorem rcd_inj {x y:Itm} (h:x.rcd=y.rcd):x=y:=by obtain ⟨a1,a2,a3,a4,a5,a6,a7,a8,a9⟩:=x;obtain ⟨b1,b2,b3,b4,b5,b6,b7,b8,b9⟩:=y;simp only [Itm.rcd,List.cons.injEq,tI,Tree.int.injEq,Tree.str.injEq,true_and,and_true] at h;obtain ⟨rfl,rfl,rfl,rfl,rfl,rfl,rfl,rfl,rfl⟩:=h;rfl
def Gi (x:Itm):List Tree:=[.str (ByteArray.mk #[]),.sl 19 [x.rcd]]
theorem Sp {x y:Itm} (h:Gi x=Gi y):x=y:=by unfold Gi at h;injection h with _ h;injection h with h _;injection h with _ h;injection h with h _;exact rcd_inj h
open Classical in
noncomputable def Ra (xs:List Tree):Option (List Tree):=if h:∃x,xs=Gi x∧De x then some [.str (CM h.choose),tI 0] else none
theorem UG {x:Itm} (h:De x):Ra (Gi x)=some [.str (CM x),tI 0]:=by
 have hx:∃y,Gi x=Gi y∧De y:=⟨x,rfl,h⟩
 unfold Ra;rw [dif_pos hx,Sp hx.choose_spec.1.symm]
theorem PF {x:Itm} (h:De x):Du Tryz.prog 19 (Gi x) [.str (CM x),tI 0]:=by
 intro B w avs vs n hm hB hc;have e:avs=[.t (.str (ByteArray.mk #[])),.t (.sl 19 [x.rcd])]:=by
  have:CU Tryz.prog 19 (fun i =>.t ((Gi x).getD i default))=some [.t (.str (ByteArray.mk #[])),.t (.sl 19 [x.rcd])]:=by kernel_rfl
  rw [this] at hm;exact (Option.some.inj hm).symm
 subst e;obtain ⟨hs,hv⟩:=hc;have hv0:=hv 0 _ rfl;have hv1:=hv 1 _ rfl;obtain ⟨vl⟩:=vs
 match vl,hs with
 |[v,v'],_=>
  have hv0:AM B [] [] w (.t (.str (ByteArray.mk #[]))) v:=hv0;have hv1:AM B [] [] w (.t (.sl 19 [x.rcd])) v':=hv1;cases hv0 with
  |t _ _ h0=>
  cases h0;cases hv1 with
  |t _ _ ht=>
   generalize hes:[x.rcd]=es at ht;have hlen:es.length=1:=by rw [← hes];rfl
   cases ht with
   |nil size cap a=>cases hlen
   |sl _ _ b off cap u hcap hb hA hsz hcell hrel=>
    have hk:=Ns x h w b off cap (by omega) hb (fun j v hj=>by
     have hj2:es[0]? = some x.rcd:=by rw [← hes];rfl
     have hj3:∃y,x.rcd[j]? = some y∧∀q,BH w (fun b=>B b∨Ex [] [] b) y q→q=v:=by
      have hlt:j<19:=AO (l:=(El x).toList) (by rw [getElem?_toList];exact hj);rcases j with _|_|_|_|_|_|_|_|_|_|_|_|_|_|_|_|_|_|_|j
      all_goals first
       |(cases hj;exact ⟨_,rfl,fun q hq=>by cases hq;rfl⟩)
       |omega
     obtain ⟨y,hy,hq⟩:=hj3;have c1:=hcell 0 _ j _ hj2 hy;have c2:=hrel 0 _ j _ hj2 hy;rw [Nat.zero_mul,zero_add] at c1;rw [c1,hq _ c2])
    rw [← hlen] at hk;refine ((callsIn_wide (n:=n)).2 hk).mono ?_
    rintro e w' ⟨rfl,hbw⟩
    have hr2:Br Tryz.prog 19 (fun i =>.t (([.str (CM x),tI 0]:List Tree).getD i default))=some (.tuple [.t (.str (CM x)),.t (tI 0)]):=by kernel_rfl
    refine ⟨_,.tuple [.t (.str (CM x)),.t (tI 0)],rfl,hr2,.tuple _ _ rfl fun j y hy => ?_,⟨hbw.os,hbw.tape,hbw.output,hbw.size,hbw.block⟩,fun _=>rfl⟩;rcases j with _|_|j
    ·cases hy;exact .t _ _ (.str _)
    ·cases hy;exact .t _ _ (.int _ _)
    ·simp at hy
noncomputable def QU (g:Nat) (xs:List Tree):Option (List Tree):=if g=3 then none else if g=6 then (match xs with
  |[]=>some [.bool true]
  |_=>none) else if g=19 then Ra xs else Mb C1 g xs
noncomputable def C2:Cfg:={C with ext:=QU}
theorem mix2:C2.P.follows .mixedOrders=true:=mix
theorem ext2_ok (h6:Du Tryz.prog 6 [] [.bool true]):JE C2:=by
 intro g xs ys hg h;have h2:QU g xs=some ys:=h;unfold QU at h2;split at h2
 ·cases h2
 split at h2
 ·rename_i e;split at h2
  ·cases h2;subst e;exact h6
  ·cases h2
 split at h2
 ·rename_i e;subst e;unfold Ra at h2;split at h2
  ·rename_i hx;cases h2;have hc:=hx.choose_spec;generalize hx.choose=x at hc ⊢;obtain ⟨rfl,hc⟩:=hc;exact PF hc
  ·cases h2
 ·exact JP (C:=C1) mix1 RZ (K8 h2) hg
theorem up2 {g:Nat} {xs ys:List Tree} (h:AL C1 g xs ys) (hg:g<OWN) (h3:g≠3) (h6:g≠6) (h19:g≠19):AL C2 g xs ys:=by refine II hg ?_;show QU g xs=some ys;unfold QU;rw [if_neg h3,if_neg h6,if_neg h19];exact Oe h
theorem EJ {g:Nat} {xs ys:List Tree} (h:AL C g xs ys) (hg:g<OWN∧g≠54∧g≠95∧g≠3∧g≠6∧g≠19):AL C2 g xs ys:=
 up2 (RQ h hg.1 hg.2.1 hg.2.2.1) hg.1 hg.2.2.2.1 hg.2.2.2.2.1 hg.2.2.2.2.2
theorem s19 {x:Itm} (h:De x):AL C2 19 (Gi x) [.str (CM x),tI 0]:=by refine II (by decide) ?_;show QU 19 _=_;unfold QU;rw [if_neg (by decide),if_neg (by decide),if_pos rfl];exact UG h
end Ab
set_option maxRecDepth 100000
namespace Ab
open Go Go.Proofs
noncomputable def MJ3_1 (n:Nat) (y32:List Tree) (p28:List AV×Heap) (again29:(List AV×Heap)→Option (List Tree)) (p38:List AV×Heap):Option (List Tree):=
 Option.bind (AB C2 n 12 [.str (gS y32 0)]) fun y43=>cnd (length y43=9) (cnd (okI y43 0) (cnd (okI y43 1) (cnd (okI y43 2) (cnd (okI y43 3) (cnd (okI y43 4) (cnd (okB y43 5)
 (cnd (okS y43 6) (cnd (okL 2 y43 7) (cnd (okI y43 8) (cnd (((gI y43 8) != 0)=true) (some [.bool false]) (cnd (AF p38 1=Ar p28 0∧(8=8∨8=0)∧(A1 p28
 0)+(AR p28 0)≤length (oEs p38 1)∧(AR p28 0)+1≤1073741824) (again29 ([.sref 1 ((Ar p28 0)+1) 0 ((AR p28 0)+1),.t (tI (w64 ((vI p28 1)
 + 1)))],[.row false (AF p38 0) 1 (oEs p38 0),.row false ((Ar p28 0)+1) 8 ((take (AR p28 0) (drop (A1 p28 0) (oEs p38 1)))++[[tI (gI y43 0),tI
 (gI y43 1),tI (gI y43 2),tI (gI y43 3),tI (gI y43 4),.bool (gB y43 5),.str (gS y43 6),.sl 2 (gL y43 7)]])])) none)) none) none) none) none) none) none) none) none) none) none
noncomputable def MJ3_2 (n:Nat) (y32:List Tree) (p28:List AV×Heap) (a13:Int) (again29:(List AV×Heap)→Option (List Tree)) (y31:List Tree) (p33:List AV×Heap):Option (List Tree):=
 cnd (vB p33 0=true) (some [.bool false]) (cnd (0=0∧1=1∧(0:Int)≤w64 ((w64 (((ByteArray.size (gS y32 0):Nat):Int)-(1:Int)))-(tmod (vI p28 1) (4:Int)))∧
 w64 ((w64 (((ByteArray.size (gS y32 0):Nat):Int)-(1:Int)))-(tmod (vI p28 1) (4:Int)))<((ByteArray.size (gS y32 0):Nat):Int)) (Option.bind (AP (gS y32 0))[0+(toNat (w64 ((w64
 (((ByteArray.size (gS y32 0):Nat):Int)-(1:Int)))-(tmod (vI p28 1) (4:Int)))))]? fun y35=>cnd (Ce IntKind.u8 (List.getD y35 0 default)=true) (cnd (0=0∧1 =
 1∧(0:Int)≤w64 ((w64 (((ByteArray.size (gS y32 0):Nat):Int)-(1:Int)))-(tmod (vI p28 1) (4:Int)))∧w64 ((w64 (((ByteArray.size (gS y32 0):Nat):Int)-(1:Int)))-(tmod (vI p28 1)
 (4:Int)))<((ByteArray.size (gS y32 0):Nat):Int)) (Option.bind (AP (gS y32 0))[0+(toNat (w64 ((w64 (((ByteArray.size (gS y32 0):Nat):Int)-(1:Int)))-(tmod (vI p28 1)
 (4:Int)))))]? fun y36=>cnd (DU (take (ByteArray.size (gS y32 0)) (List.set (AP (gS y32 0)) (0+(toNat (w64 ((w64 (((ByteArray.size (gS y32 0):Nat):Int)-(1:Int))) -
 (tmod (vI p28 1) (4:Int)))))) ([.int IntKind.u8 (Ck IntKind.u8 (gI y35 0) a13)]++drop 1 y36)))=true) (Option.bind (AB C2 n 12 [.str (bytesOf (take
 (ByteArray.size (gS y32 0)) (List.set (AP (gS y32 0)) (0+(toNat (w64 ((w64 (((ByteArray.size (gS y32 0):Nat):Int)-(1:Int)))-(tmod (vI p28 1) (4:Int)))))) ([.int IntKind.u8
 (Ck IntKind.u8 (gI y35 0) a13)]++drop 1 y36))))]) fun y37=>cnd (length y37=9) (cnd (okI y37 0) (cnd (okI y37 1) (cnd (okI y37 2) (cnd (okI y37 3) (cnd (okI y37 4) (cnd
 (okB y37 5) (cnd (okS y37 6) (cnd (okL 2 y37 7) (cnd (okI y37 8) (join (fun (p38:List AV×Heap)=>MJ3_1 n y32 p28 again29 p38) fun (again39:_→Option (List Tree))=>cnd (((gI y37 8)==0)
 = true) (cnd ((a13 != 0)=true) (some [.bool false]) (Option.bind (AB C2 n 13 [tI (gI y31 0),tI (gI y31 1),tI (gI y31 2),tI (gI y31 3),tI (gI y31 4),.bool (gB y31 5),
 Tree.str (gS y31 6),.sl 2 (gL y31 7),tI (gI y37 0),tI (gI y37 1),tI (gI y37 2),tI (gI y37 3),tI (gI y37 4),.bool (gB y37 5),.str (gS y37 6),.sl 2 (gL y37 7)]) fun
 y42=>cnd (length y42=1) (cnd (okB y42 0) (cnd ((!(gB y42 0))=true) (some [.bool false]) (again39 ([],[.row false (AF p33 0) 1 (oEs p33 0),.row false (AF p33 1)
 8 (oEs p33 1),.box [],.row false 0 1 (List.set (AP (gS y32 0)) (0+(toNat (w64 ((w64 (((ByteArray.size (gS y32 0):Nat):Int)-(1:Int)))-(tmod (vI p28
 1) (4:Int)))))) ([.int IntKind.u8 (Ck IntKind.u8 (gI y35 0) a13)]++drop 1 y36)),.box []]))) none) none)) (again39 ([],[.row false (AF p33 0) 1 (oEs p33 0),
 .row false (AF p33 1) 8 (oEs p33 1),.box [],.row false 0 1 (List.set (AP (gS y32 0)) (0+(toNat (w64 ((w64 (((ByteArray.size (gS y32 0):Nat):Int) -
 (1:Int)))-(tmod (vI p28 1) (4:Int)))))) ([.int IntKind.u8 (Ck IntKind.u8 (gI y35 0) a13)]++drop 1 y36)),.box []]))) none) none) none) none) none) none) none) none) none)
 none) none) none) none) none)
noncomputable def MJ3_3 (n:Nat) (y53:List Tree) (a0:Int) (a1:Int) (a2:Int) (a3:Int) (a4:Int) (a5:Int) (a6:Int) (a7:Int) (a8:Int) (a9:Int) (a10:List (List Tree)) (a11:ByteArray) (p54:List AV×Heap):Option (List Tree):=
 cnd (vB p54 0=true) (some [.bool false]) (Option.bind (gL y53 0)[0]? fun y56=>cnd (okS y56 10) (Option.bind (AB C2 n 16 [.str (gS y56 10)]) fun y57=>cnd (length y57 =
 13) (cnd (okI y57 0) (cnd (okI y57 1) (cnd (okI y57 2) (cnd (okI y57 3) (cnd (okI y57 4) (cnd (okI y57 5) (cnd (okI y57 6) (cnd (okI y57 7) (cnd (okI y57 8) (cnd (okI y57 9) (cnd (okL 3 y57 10)
 (cnd (okS y57 11) (cnd (okI y57 12) (cnd (((gI y57 12)==0)=true) (Option.bind (AB C2 n 17 [tI a0,tI a1,tI a2,tI a3,tI a4,tI a5,tI a6,tI a7,tI a8,tI a9,.sl 3 a10,
 Tree.str a11,tI (gI y57 0),tI (gI y57 1),tI (gI y57 2),tI (gI y57 3),tI (gI y57 4),tI (gI y57 5),tI (gI y57 6),tI (gI y57 7),tI (gI y57 8),tI (gI y57 9),.sl 3 (gL y57 10),
 Tree.str (gS y57 11)]) fun y60=>cnd (length y60=1) (cnd (okB y60 0) (cnd (gB y60 0=true) (Option.bind (pcx C2 (AB C2 n) 6 []) fun y61=>cnd (length y61=1) (cnd (okB y61
 0) (some [.bool (gB y61 0)]) none) none) (some [.bool false])) none) none) (some [.bool false])) none) none) none) none) none) none) none) none) none) none) none) none) none) none) none)
noncomputable def MJ3_4 (n:Nat) (a0:Int) (a1:Int) (a2:Int) (a3:Int) (a4:Int) (a5:Int) (a6:Int) (a7:Int) (a8:Int) (a9:Int) (a10:List (List Tree)) (a11:ByteArray) (y45:List Tree) (p47:List AV×Heap):Option (List Tree):=
 cnd (vB p47 0=true) (some [.bool false]) (Option.bind (AB C2 n 18 [tI a0,tI a1,tI a2,tI a3,tI a4,tI a5,tI a6,tI a7,tI a8,tI a9,.sl 3 a10,.str a11]) fun y50=>
 cnd (length y50=1) (cnd (okI y50 0) (Option.bind (AB C2 n 19 [.str (ByteArray.mk #[]),.sl 19 [[tI 1,tI 0,tI a0,tI a1,tI a2,tI a3,tI a4,tI a6,tI
 (gI y50 0),tI a8,.bool false,.str (gS y45 0),tI 0,tI 0,tI 0,tI 0,tI 0,tI 0,tI 0]]]) fun y51=>cnd (length y51=2) (cnd (okS y51
 0) (cnd (okI y51 1) (Option.bind (AB C2 n 20 [.str (gS y51 0)]) fun y52=>cnd (length y52=3) (cnd (okL 19 y52 0) (cnd (okI y52 1) (cnd (okI y52 2) (Option.bind (AB C2 n
 21 [.sl 19 (gL y52 0)]) fun y53=>cnd (length y53=3) (cnd (okL 11 y53 0) (cnd (okL 11 y53 1) (cnd (okI y53 2) (join (fun (p54:List AV×Heap)=>MJ3_3 n y53 a0 a1 a2 a3
 a4 a5 a6 a7 a8 a9 a10 a11 p54) fun (again55:_→Option (List Tree))=>cnd (((gI y51 1) != 0)=true) (again55 ([.t (.bool true)],[.row false (AF p47 0) 1 (oEs p47 0),
 .box [],.box [],.box [.t (tI (cI p47 3 0)),.t (tI (cI p47 3 1)),.t (tI (cI p47 3 2)),.t (tI (cI p47 3 3)),.t (tI (cI p47 3 4)),.t (tI (cI p47 3 5)),.t (tI (cI p47 3
 6)),.t (tI (cI p47 3 7)),.t (tI (cI p47 3 8)),.t (tI (cI p47 3 9)),.t (.sl 3 (cL p47 3 10)),.t (.str (cS p47 3 11))],.box [],.box []])) (cnd (((gI y52 2) !=
 (0:Int))=true) (again55 ([.t (.bool true)],[.row false (AF p47 0) 1 (oEs p47 0),.box [],.box [],.box [.t (tI (cI p47 3 0)),.t (tI (cI p47 3 1)),.t (tI (cI
 p47 3 2)),.t (tI (cI p47 3 3)),.t (tI (cI p47 3 4)),.t (tI (cI p47 3 5)),.t (tI (cI p47 3 6)),.t (tI (cI p47 3 7)),.t (tI (cI p47 3 8)),.t (tI (cI p47 3 9)),.t (.sl 3
 (cL p47 3 10)),.t (.str (cS p47 3 11))],.box [],.box []])) (cnd (((gI y53 2) != 0)=true) (again55 ([.t (.bool true)],[.row false (AF p47 0) 1 (oEs p47 0),
 .box [],.box [],.box [.t (tI (cI p47 3 0)),.t (tI (cI p47 3 1)),.t (tI (cI p47 3 2)),.t (tI (cI p47 3 3)),.t (tI (cI p47 3 4)),.t (tI (cI p47 3 5)),.t (tI (cI p47 3
 6)),.t (tI (cI p47 3 7)),.t (tI (cI p47 3 8)),.t (tI (cI p47 3 9)),.t (.sl 3 (cL p47 3 10)),.t (.str (cS p47 3 11))],.box [],.box []])) (again55 ([AV.t
 (Tree.bool (((length (gL y53 0):Nat):Int) != 1))],[.row false (AF p47 0) 1 (oEs p47 0),.box [],.box [],.box [.t (tI (cI p47 3 0)),.t (tI (cI p47 3 1)),AV.t
 (tI (cI p47 3 2)),.t (tI (cI p47 3 3)),.t (tI (cI p47 3 4)),.t (tI (cI p47 3 5)),.t (tI (cI p47 3 6)),.t (tI (cI p47 3 7)),.t (tI (cI p47 3 8)),.t (tI (cI p47 3 9)),.t (.sl
 3 (cL p47 3 10)),.t (.str (cS p47 3 11))],.box [],.box []]))))) none) none) none) none) none) none) none) none) none) none) none) none) none)
noncomputable def ML3_5 (n:Nat) (y26:List Tree) (y23:List Tree) (a13:Int) (a0:Int) (a1:Int) (a2:Int) (a3:Int) (a4:Int) (a5:Int) (a6:Int) (a7:Int) (a8:Int) (a9:Int) (a10:List (List Tree)) (a11:ByteArray) (p28:List AV×Heap) (again29:(List AV×Heap)→Option (List Tree)):Option (List Tree):=
 cnd (decide (vI p28 1<((length (gL y26 0):Nat):Int))=true) (cnd (AF p28 0=0∧1=1∧(0:Int)≤vI p28 1∧vI p28 1<((length (gL y26 0):Nat):Int)) (cnd (AF p28
 0=0) (Option.bind (oEs p28 0)[0+(toNat (vI p28 1))]? fun y30=>cnd (Ce IntKind.u8 (List.getD y30 0 default)=true) (cnd (((length (gL y23 0):Nat):Int)=0)
 none (cnd (8=8∧(0:Int)≤tmod (w64 (gI y30 0)) ((length (gL y23 0):Nat):Int)) (Option.bind (gL y23 0)[toNat (tmod (w64 (gI y30 0)) ((length (gL y23
 0):Nat):Int))]? fun y31=>cnd (okI y31 0) (cnd (okI y31 1) (cnd (okI y31 2) (cnd (okI y31 3) (cnd (okI y31 4) (cnd (okB y31 5) (cnd (okS y31 6) (cnd (okL 2 y31 7) (Option.bind (AB C2 n 11 [tI
 (gI y31 0),tI (gI y31 1),tI (gI y31 2),tI (gI y31 3),tI (gI y31 4),.bool (gB y31 5),.str (gS y31 6),.sl 2 (gL y31 7)]) fun y32=>cnd (length y32=2) (cnd (okS y32
 0) (cnd (okI y32 1) (join (fun (p33:List AV×Heap)=>MJ3_2 n y32 p28 a13 again29 y31 p33) fun (again34:_→Option (List Tree))=>cnd (((gI y32 1) != 0)=true) (again34 ([.t (.bool
 true)],[.row false (AF p28 0) 1 (oEs p28 0),.row false (AF p28 1) 8 (oEs p28 1),.box []])) (again34 ([.t (.bool (decide (((ByteArray.size (gS y32 0):Nat):Int) <
 (5:Int))))],[.row false (AF p28 0) 1 (oEs p28 0),.row false (AF p28 1) 8 (oEs p28 1),.box []]))) none) none) none) none) none) none) none) none) none) none) none) none))
 none) none) none) (cnd ((true=true∨true=false)∧AF p28 1=Ar p28 0∧(8=8∨8=0)) (Option.bind (AB C2 n 14 [.sl 8 (take (AR p28 0)
 (drop (A1 p28 0) (oEs p28 1)))]) fun y44=>cnd (length y44=5) (cnd (okI y44 0) (cnd (okI y44 1) (cnd (okL 2 y44 2) (cnd (okS y44 3) (cnd (okB y44 4) (Option.bind (AB C2 n
 15 [tI (gI y44 0),tI (gI y44 1),.sl 2 (gL y44 2),.str (gS y44 3)]) fun y45=>cnd (length y45=2) (cnd (okS y45 0) (cnd (okI y45 1) (Option.bind (AB C2 n 16
 [.str (gS y45 0)]) fun y46=>cnd (length y46=13) (cnd (okI y46 0) (cnd (okI y46 1) (cnd (okI y46 2) (cnd (okI y46 3) (cnd (okI y46 4) (cnd (okI y46 5) (cnd (okI y46 6) (cnd (okI y46
 7) (cnd (okI y46 8) (cnd (okI y46 9) (cnd (okL 3 y46 10) (cnd (okS y46 11) (cnd (okI y46 12) (join (fun (p47:List AV×Heap)=>MJ3_4 n a0 a1 a2 a3 a4 a5 a6 a7 a8 a9 a10 a11 y45 p47) fun (again48:_
 →Option (List Tree))=>cnd ((!(gB y44 4))=true) (again48 ([.t (.bool true)],[.row false (AF p28 0) 1 (oEs p28 0),.box [],.box [],.box [.t (tI (gI y46 0)),AV.t
 (tI (gI y46 1)),.t (tI (gI y46 2)),.t (tI (gI y46 3)),.t (tI (gI y46 4)),.t (tI (gI y46 5)),.t (tI (gI y46 6)),.t (tI (gI y46 7)),.t (tI (gI y46 8)),.t (tI (gI y46 9)),AV.t
 (Tree.sl 3 (gL y46 10)),.t (.str (gS y46 11))]])) (cnd (((gI y45 1) != 0)=true) (again48 ([.t (.bool true)],[.row false (AF p28 0) 1 (oEs p28 0),.box [],
 .box [],.box [.t (tI (gI y46 0)),.t (tI (gI y46 1)),.t (tI (gI y46 2)),.t (tI (gI y46 3)),.t (tI (gI y46 4)),.t (tI (gI y46 5)),.t (tI (gI y46 6)),.t (tI (gI y46 7)),
 .t (tI (gI y46 8)),.t (tI (gI y46 9)),.t (.sl 3 (gL y46 10)),.t (.str (gS y46 11))]])) (cnd (((gI y46 12) != 0)=true) (again48 ([.t (.bool true)],[.row
 false (AF p28 0) 1 (oEs p28 0),.box [],.box [],.box [.t (tI (gI y46 0)),.t (tI (gI y46 1)),.t (tI (gI y46 2)),.t (tI (gI y46 3)),.t (tI (gI y46 4)),.t (tI (gI
 y46 5)),.t (tI (gI y46 6)),.t (tI (gI y46 7)),.t (tI (gI y46 8)),.t (tI (gI y46 9)),.t (.sl 3 (gL y46 10)),.t (.str (gS y46 11))]])) (Option.bind (AB C2 n 17
 [tI a0,tI a1,tI a2,tI a3,tI a4,tI a5,tI a6,tI a7,tI a8,tI a9,.sl 3 a10,.str a11,tI (gI y46 0),tI (gI y46 1),tI (gI y46 2),tI (gI y46 3),tI (gI y46 4),tI (gI y46 5),tI
 (gI y46 6),tI (gI y46 7),tI (gI y46 8),tI (gI y46 9),.sl 3 (gL y46 10),.str (gS y46 11)]) fun y49=>cnd (length y49=1) (cnd (okB y49 0) (again48 ([.t (.bool
 (!(gB y49 0)))],[.row false (AF p28 0) 1 (oEs p28 0),.box [],.box [],.box [.t (tI (gI y46 0)),.t (tI (gI y46 1)),.t (tI (gI y46 2)),.t (tI (gI y46 3)),.t (tI
 (gI y46 4)),.t (tI (gI y46 5)),.t (tI (gI y46 6)),.t (tI (gI y46 7)),.t (tI (gI y46 8)),.t (tI (gI y46 9)),.t (.sl 3 (gL y46 10)),.t (.str (gS y46 11))]])) none)
 none)))) none) none) none) none) none) none) none) none) none) none) none) none) none) none) none) none) none) none) none) none) none) none) none) none)
noncomputable def Uw (n:Nat) (y66:List Tree) (p62:List AV×Heap) (again63:(List AV×Heap)→Option (List Tree)) (p72:List AV×Heap):Option (List Tree):=
 Option.bind (AB C2 n 12 [.str (gS y66 0)]) fun y77=>cnd (length y77=9) (cnd (okI y77 0) (cnd (okI y77 1) (cnd (okI y77 2) (cnd (okI y77 3) (cnd (okI y77 4) (cnd (okB y77 5)
 (cnd (okS y77 6) (cnd (okL 2 y77 7) (cnd (okI y77 8) (cnd (((gI y77 8) != 0)=true) (some [.bool false]) (cnd (AF p72 1=Ar p62 0∧(8=8∨8=0)∧(A1 p62
 0)+(AR p62 0)≤length (oEs p72 1)∧(AR p62 0)+1≤1073741824) (again63 ([.sref 1 ((Ar p62 0)+1) 0 ((AR p62 0)+1),.t (tI (w64 ((vI p62 1)
 + 1)))],[.row false (AF p72 0) 1 (oEs p72 0),.row false ((Ar p62 0)+1) 8 ((take (AR p62 0) (drop (A1 p62 0) (oEs p72 1)))++[[tI (gI y77 0),tI
 (gI y77 1),tI (gI y77 2),tI (gI y77 3),tI (gI y77 4),.bool (gB y77 5),.str (gS y77 6),.sl 2 (gL y77 7)]])])) none)) none) none) none) none) none) none) none) none) none) none
noncomputable def MJ3_7 (n:Nat) (y66:List Tree) (p62:List AV×Heap) (a13:Int) (again63:(List AV×Heap)→Option (List Tree)) (y65:List Tree) (p67:List AV×Heap):Option (List Tree):=
 cnd (vB p67 0=true) (some [.bool false]) (cnd (0=0∧1=1∧(0:Int)≤w64 ((w64 (((ByteArray.size (gS y66 0):Nat):Int)-(1:Int)))-(tmod (vI p62 1) (4:Int)))∧
 w64 ((w64 (((ByteArray.size (gS y66 0):Nat):Int)-(1:Int)))-(tmod (vI p62 1) (4:Int)))<((ByteArray.size (gS y66 0):Nat):Int)) (Option.bind (AP (gS y66 0))[0+(toNat (w64 ((w64
 (((ByteArray.size (gS y66 0):Nat):Int)-(1:Int)))-(tmod (vI p62 1) (4:Int)))))]? fun y69=>cnd (Ce IntKind.u8 (List.getD y69 0 default)=true) (cnd (0=0∧1 =
 1∧(0:Int)≤w64 ((w64 (((ByteArray.size (gS y66 0):Nat):Int)-(1:Int)))-(tmod (vI p62 1) (4:Int)))∧w64 ((w64 (((ByteArray.size (gS y66 0):Nat):Int)-(1:Int)))-(tmod (vI p62 1)
 (4:Int)))<((ByteArray.size (gS y66 0):Nat):Int)) (Option.bind (AP (gS y66 0))[0+(toNat (w64 ((w64 (((ByteArray.size (gS y66 0):Nat):Int)-(1:Int)))-(tmod (vI p62 1)
 (4:Int)))))]? fun y70=>cnd (DU (take (ByteArray.size (gS y66 0)) (List.set (AP (gS y66 0)) (0+(toNat (w64 ((w64 (((ByteArray.size (gS y66 0):Nat):Int)-(1:Int))) -
 (tmod (vI p62 1) (4:Int)))))) ([.int IntKind.u8 (Ck IntKind.u8 (gI y69 0) a13)]++drop 1 y70)))=true) (Option.bind (AB C2 n 12 [.str (bytesOf (take
 (ByteArray.size (gS y66 0)) (List.set (AP (gS y66 0)) (0+(toNat (w64 ((w64 (((ByteArray.size (gS y66 0):Nat):Int)-(1:Int)))-(tmod (vI p62 1) (4:Int)))))) ([.int IntKind.u8
 (Ck IntKind.u8 (gI y69 0) a13)]++drop 1 y70))))]) fun y71=>cnd (length y71=9) (cnd (okI y71 0) (cnd (okI y71 1) (cnd (okI y71 2) (cnd (okI y71 3) (cnd (okI y71 4) (cnd
 (okB y71 5) (cnd (okS y71 6) (cnd (okL 2 y71 7) (cnd (okI y71 8) (join (fun (p72:List AV×Heap)=>Uw n y66 p62 again63 p72) fun (again73:_→Option (List Tree))=>cnd (((gI y71 8)==0)
 = true) (cnd ((a13 != 0)=true) (some [.bool false]) (Option.bind (AB C2 n 13 [tI (gI y65 0),tI (gI y65 1),tI (gI y65 2),tI (gI y65 3),tI (gI y65 4),.bool (gB y65 5),
 Tree.str (gS y65 6),.sl 2 (gL y65 7),tI (gI y71 0),tI (gI y71 1),tI (gI y71 2),tI (gI y71 3),tI (gI y71 4),.bool (gB y71 5),.str (gS y71 6),.sl 2 (gL y71 7)]) fun
 y76=>cnd (length y76=1) (cnd (okB y76 0) (cnd ((!(gB y76 0))=true) (some [.bool false]) (again73 ([],[.row false (AF p67 0) 1 (oEs p67 0),.row false (AF p67 1)
 8 (oEs p67 1),.box [],.row false 0 1 (List.set (AP (gS y66 0)) (0+(toNat (w64 ((w64 (((ByteArray.size (gS y66 0):Nat):Int)-(1:Int)))-(tmod (vI p62
 1) (4:Int)))))) ([.int IntKind.u8 (Ck IntKind.u8 (gI y69 0) a13)]++drop 1 y70)),.box []]))) none) none)) (again73 ([],[.row false (AF p67 0) 1 (oEs p67 0),
 .row false (AF p67 1) 8 (oEs p67 1),.box [],.row false 0 1 (List.set (AP (gS y66 0)) (0+(toNat (w64 ((w64 (((ByteArray.size (gS y66 0):Nat):Int) -
 (1:Int)))-(tmod (vI p62 1) (4:Int)))))) ([.int IntKind.u8 (Ck IntKind.u8 (gI y69 0) a13)]++drop 1 y70)),.box []]))) none) none) none) none) none) none) none) none) none)
 none) none) none) none) none)
noncomputable def MJ3_8 (n:Nat) (y87:List Tree) (a0:Int) (a1:Int) (a2:Int) (a3:Int) (a4:Int) (a5:Int) (a6:Int) (a7:Int) (a8:Int) (a9:Int) (a10:List (List Tree)) (a11:ByteArray) (p88:List AV×Heap):Option (List Tree):=
 cnd (vB p88 0=true) (some [.bool false]) (Option.bind (gL y87 0)[0]? fun y90=>cnd (okS y90 10) (Option.bind (AB C2 n 16 [.str (gS y90 10)]) fun y91=>cnd (length y91 =
 13) (cnd (okI y91 0) (cnd (okI y91 1) (cnd (okI y91 2) (cnd (okI y91 3) (cnd (okI y91 4) (cnd (okI y91 5) (cnd (okI y91 6) (cnd (okI y91 7) (cnd (okI y91 8) (cnd (okI y91 9) (cnd (okL 3 y91 10)
 (cnd (okS y91 11) (cnd (okI y91 12) (cnd (((gI y91 12)==0)=true) (Option.bind (AB C2 n 17 [tI a0,tI a1,tI a2,tI a3,tI a4,tI a5,tI a6,tI a7,tI a8,tI a9,.sl 3 a10,
 Tree.str a11,tI (gI y91 0),tI (gI y91 1),tI (gI y91 2),tI (gI y91 3),tI (gI y91 4),tI (gI y91 5),tI (gI y91 6),tI (gI y91 7),tI (gI y91 8),tI (gI y91 9),.sl 3 (gL y91 10),
 Tree.str (gS y91 11)]) fun y94=>cnd (length y94=1) (cnd (okB y94 0) (cnd (gB y94 0=true) (Option.bind (pcx C2 (AB C2 n) 6 []) fun y95=>cnd (length y95=1) (cnd (okB y95
 0) (some [.bool (gB y95 0)]) none) none) (some [.bool false])) none) none) (some [.bool false])) none) none) none) none) none) none) none) none) none) none) none) none) none) none) none)
noncomputable def MJ3_9 (n:Nat) (a0:Int) (a1:Int) (a2:Int) (a3:Int) (a4:Int) (a5:Int) (a6:Int) (a7:Int) (a8:Int) (a9:Int) (a10:List (List Tree)) (a11:ByteArray) (y79:List Tree) (p81:List AV×Heap):Option (List Tree):=
 cnd (vB p81 0=true) (some [.bool false]) (Option.bind (AB C2 n 18 [tI a0,tI a1,tI a2,tI a3,tI a4,tI a5,tI a6,tI a7,tI a8,tI a9,.sl 3 a10,.str a11]) fun y84=>
 cnd (length y84=1) (cnd (okI y84 0) (Option.bind (AB C2 n 19 [.str (ByteArray.mk #[]),.sl 19 [[tI 1,tI 0,tI a0,tI a1,tI a2,tI a3,tI a4,tI a6,tI
 (gI y84 0),tI a8,.bool false,.str (gS y79 0),tI 0,tI 0,tI 0,tI 0,tI 0,tI 0,tI 0]]]) fun y85=>cnd (length y85=2) (cnd (okS y85
 0) (cnd (okI y85 1) (Option.bind (AB C2 n 20 [.str (gS y85 0)]) fun y86=>cnd (length y86=3) (cnd (okL 19 y86 0) (cnd (okI y86 1) (cnd (okI y86 2) (Option.bind (AB C2 n
 21 [.sl 19 (gL y86 0)]) fun y87=>cnd (length y87=3) (cnd (okL 11 y87 0) (cnd (okL 11 y87 1) (cnd (okI y87 2) (join (fun (p88:List AV×Heap)=>MJ3_8 n y87 a0 a1 a2 a3
 a4 a5 a6 a7 a8 a9 a10 a11 p88) fun (again89:_→Option (List Tree))=>cnd (((gI y85 1) != 0)=true) (again89 ([.t (.bool true)],[.row false (AF p81 0) 1 (oEs p81 0),
 .box [],.box [],.box [.t (tI (cI p81 3 0)),.t (tI (cI p81 3 1)),.t (tI (cI p81 3 2)),.t (tI (cI p81 3 3)),.t (tI (cI p81 3 4)),.t (tI (cI p81 3 5)),.t (tI (cI p81 3
 6)),.t (tI (cI p81 3 7)),.t (tI (cI p81 3 8)),.t (tI (cI p81 3 9)),.t (.sl 3 (cL p81 3 10)),.t (.str (cS p81 3 11))],.box [],.box []])) (cnd (((gI y86 2) !=
 (0:Int))=true) (again89 ([.t (.bool true)],[.row false (AF p81 0) 1 (oEs p81 0),.box [],.box [],.box [.t (tI (cI p81 3 0)),.t (tI (cI p81 3 1)),.t (tI (cI
 p81 3 2)),.t (tI (cI p81 3 3)),.t (tI (cI p81 3 4)),.t (tI (cI p81 3 5)),.t (tI (cI p81 3 6)),.t (tI (cI p81 3 7)),.t (tI (cI p81 3 8)),.t (tI (cI p81 3 9)),.t (.sl 3
 (cL p81 3 10)),.t (.str (cS p81 3 11))],.box [],.box []])) (cnd (((gI y87 2) != 0)=true) (again89 ([.t (.bool true)],[.row false (AF p81 0) 1 (oEs p81 0),
 .box [],.box [],.box [.t (tI (cI p81 3 0)),.t (tI (cI p81 3 1)),.t (tI (cI p81 3 2)),.t (tI (cI p81 3 3)),.t (tI (cI p81 3 4)),.t (tI (cI p81 3 5)),.t (tI (cI p81 3
 6)),.t (tI (cI p81 3 7)),.t (tI (cI p81 3 8)),.t (tI (cI p81 3 9)),.t (.sl 3 (cL p81 3 10)),.t (.str (cS p81 3 11))],.box [],.box []])) (again89 ([AV.t
 (Tree.bool (((length (gL y87 0):Nat):Int) != 1))],[.row false (AF p81 0) 1 (oEs p81 0),.box [],.box [],.box [.t (tI (cI p81 3 0)),.t (tI (cI p81 3 1)),AV.t
 (tI (cI p81 3 2)),.t (tI (cI p81 3 3)),.t (tI (cI p81 3 4)),.t (tI (cI p81 3 5)),.t (tI (cI p81 3 6)),.t (tI (cI p81 3 7)),.t (tI (cI p81 3 8)),.t (tI (cI p81 3 9)),.t (.sl
 3 (cL p81 3 10)),.t (.str (cS p81 3 11))],.box [],.box []]))))) none) none) none) none) none) none) none) none) none) none) none) none) none)
noncomputable def H8 (n:Nat) (y26:List Tree) (y27:List Tree) (y23:List Tree) (a13:Int) (a0:Int) (a1:Int) (a2:Int) (a3:Int) (a4:Int) (a5:Int) (a6:Int) (a7:Int) (a8:Int) (a9:Int) (a10:List (List Tree)) (a11:ByteArray) (p62:List AV×Heap) (again63:(List AV×Heap)→Option (List Tree)):Option (List Tree):=
 cnd (decide (vI p62 1<(((length (gL y26 0))+(length (gL y27 0)):Nat):Int))=true) (cnd (AF p62 0=1∧1=1∧(0:Int)≤vI p62 1∧vI p62 1<(((length (gL y26
 0))+(length (gL y27 0)):Nat):Int)) (cnd (AF p62 0=1) (Option.bind (oEs p62 0)[0+(toNat (vI p62 1))]? fun y64=>cnd (Ce IntKind.u8 (List.getD y64 0 default)=
 true) (cnd (((length (gL y23 0):Nat):Int)=0) none (cnd (8=8∧(0:Int)≤tmod (w64 (gI y64 0)) ((length (gL y23 0):Nat):Int)) (Option.bind (gL y23 0)[toNat
 (tmod (w64 (gI y64 0)) ((length (gL y23 0):Nat):Int))]? fun y65=>cnd (okI y65 0) (cnd (okI y65 1) (cnd (okI y65 2) (cnd (okI y65 3) (cnd (okI y65 4) (cnd (okB y65 5) (cnd (okS y65 6) (cnd
 (okL 2 y65 7) (Option.bind (AB C2 n 11 [tI (gI y65 0),tI (gI y65 1),tI (gI y65 2),tI (gI y65 3),tI (gI y65 4),.bool (gB y65 5),.str (gS y65 6),.sl 2 (gL y65 7)]) fun
 y66=>cnd (length y66=2) (cnd (okS y66 0) (cnd (okI y66 1) (join (fun (p67:List AV×Heap)=>MJ3_7 n y66 p62 a13 again63 y65 p67) fun (again68:_→Option (List Tree))=>cnd (((gI
 y66 1) != 0)=true) (again68 ([.t (.bool true)],[.row false (AF p62 0) 1 (oEs p62 0),.row false (AF p62 1) 8 (oEs p62 1),.box []])) (again68 ([AV.t
 (Tree.bool (decide (((ByteArray.size (gS y66 0):Nat):Int)<5)))],[.row false (AF p62 0) 1 (oEs p62 0),.row false (AF p62 1) 8 (oEs p62 1),.box []]))) none) none)
 none) none) none) none) none) none) none) none) none) none)) none) none) none) (cnd ((true=true∨true=false)∧AF p62 1=Ar p62 0∧(8=8∨8=0)) (Option.bind
 (AB C2 n 14 [.sl 8 (take (AR p62 0) (drop (A1 p62 0) (oEs p62 1)))]) fun y78=>cnd (length y78=5) (cnd (okI y78 0) (cnd (okI y78 1) (cnd (okL 2 y78 2)
 (cnd (okS y78 3) (cnd (okB y78 4) (Option.bind (AB C2 n 15 [tI (gI y78 0),tI (gI y78 1),.sl 2 (gL y78 2),.str (gS y78 3)]) fun y79=>cnd (length y79=2) (cnd (okS
 y79 0) (cnd (okI y79 1) (Option.bind (AB C2 n 16 [.str (gS y79 0)]) fun y80=>cnd (length y80=13) (cnd (okI y80 0) (cnd (okI y80 1) (cnd (okI y80 2) (cnd (okI y80 3) (cnd
 (okI y80 4) (cnd (okI y80 5) (cnd (okI y80 6) (cnd (okI y80 7) (cnd (okI y80 8) (cnd (okI y80 9) (cnd (okL 3 y80 10) (cnd (okS y80 11) (cnd (okI y80 12) (join (fun (p81:List AV×Heap)=>MJ3_9 n a0
 a1 a2 a3 a4 a5 a6 a7 a8 a9 a10 a11 y79 p81) fun (again82:_→Option (List Tree))=>cnd ((!(gB y78 4))=true) (again82 ([.t (.bool true)],[.row false (AF p62 0) 1 (oEs p62 0),
 .box [],.box [],.box [.t (tI (gI y80 0)),.t (tI (gI y80 1)),.t (tI (gI y80 2)),.t (tI (gI y80 3)),.t (tI (gI y80 4)),.t (tI (gI y80 5)),.t (tI (gI y80 6)),.t (tI
 (gI y80 7)),.t (tI (gI y80 8)),.t (tI (gI y80 9)),.t (.sl 3 (gL y80 10)),.t (.str (gS y80 11))]])) (cnd (((gI y79 1) != 0)=true) (again82 ([.t (.bool true)],
 [.row false (AF p62 0) 1 (oEs p62 0),.box [],.box [],.box [.t (tI (gI y80 0)),.t (tI (gI y80 1)),.t (tI (gI y80 2)),.t (tI (gI y80 3)),.t (tI (gI y80 4)),AV.t
 (tI (gI y80 5)),.t (tI (gI y80 6)),.t (tI (gI y80 7)),.t (tI (gI y80 8)),.t (tI (gI y80 9)),.t (.sl 3 (gL y80 10)),.t (.str (gS y80 11))]])) (cnd (((gI y80 12) !=
 (0:Int))=true) (again82 ([.t (.bool true)],[.row false (AF p62 0) 1 (oEs p62 0),.box [],.box [],.box [.t (tI (gI y80 0)),.t (tI (gI y80 1)),.t (tI (gI y80
 2)),.t (tI (gI y80 3)),.t (tI (gI y80 4)),.t (tI (gI y80 5)),.t (tI (gI y80 6)),.t (tI (gI y80 7)),.t (tI (gI y80 8)),.t (tI (gI y80 9)),.t (.sl 3 (gL y80 10)),AV.t
 (Tree.str (gS y80 11))]])) (Option.bind (AB C2 n 17 [tI a0,tI a1,tI a2,tI a3,tI a4,tI a5,tI a6,tI a7,tI a8,tI a9,.sl 3 a10,.str a11,tI (gI y80 0),tI (gI y80 1),tI
 (gI y80 2),tI (gI y80 3),tI (gI y80 4),tI (gI y80 5),tI (gI y80 6),tI (gI y80 7),tI (gI y80 8),tI (gI y80 9),.sl 3 (gL y80 10),.str (gS y80 11)]) fun y83=>cnd (length y83
 = 1) (cnd (okB y83 0) (again82 ([.t (.bool (!(gB y83 0)))],[.row false (AF p62 0) 1 (oEs p62 0),.box [],.box [],.box [.t (tI (gI y80 0)),.t (tI (gI y80
 1)),.t (tI (gI y80 2)),.t (tI (gI y80 3)),.t (tI (gI y80 4)),.t (tI (gI y80 5)),.t (tI (gI y80 6)),.t (tI (gI y80 7)),.t (tI (gI y80 8)),.t (tI (gI y80 9)),.t (.sl
 3 (gL y80 10)),.t (.str (gS y80 11))]])) none) none)))) none) none) none) none) none) none) none) none) none) none) none) none) none) none) none) none) none) none) none) none) none) none)
 none) none)
noncomputable def Ux (n:Nat) (a12:List (List Tree)) (y23:List Tree) (a13:Int) (a0:Int) (a1:Int) (a2:Int) (a3:Int) (a4:Int) (a5:Int) (a6:Int) (a7:Int) (a8:Int) (a9:Int) (a10:List (List Tree)) (a11:ByteArray) (p24:List AV×Heap):Option (List Tree):=
 cnd (vB p24 0=true) (some [.bool false]) (Option.bind (AB C2 n 1000009 [.sl 1 a12]) fun y26=>cnd (length y26=1∧okL 1 y26 0) (Option.bind (AB C2 n 10
 [tI ((length (gL y23 0):Nat):Int)]) fun y27=>cnd (length y27=1) (cnd (okL 1 y27 0) (cnd (length (gL y27 0)=0∧0+(length (gL y26 0))<length (gL y26
 0)) (AH (fun (p28:List AV×Heap) (again29:_→Option (List Tree))=>ML3_5 n y26 y23 a13 a0 a1 a2 a3 a4 a5 a6 a7 a8 a9 a10 a11 p28 again29) n ([.sref 1 0 0 0,AV.t
 (tI 0)],[.row false 0 1 (gL y26 0),.row false 0 8 []])) (cnd (0=0∧(1=1∨1=0)∧0+(length (gL y26 0))≤
 length (gL y26 0)∧(length (gL y26 0))+(length (gL y27 0))≤1073741824) (AH (fun (p62:List AV×Heap) (again63:_→Option (List Tree))=>H8 n y26 y27 y23 a13 a0
 a1 a2 a3 a4 a5 a6 a7 a8 a9 a10 a11 p62 again63) n ([.sref 1 0 0 0,.t (tI 0)],[.row false 1 1 ((take (length (gL y26 0)) (gL y26 0))++(gL
 y27 0)),.row false 0 8 []])) none)) none) none) none)
noncomputable def N0 (n:Nat) (y19:List Tree) (a12:List (List Tree)) (a13:Int) (a0:Int) (a1:Int) (a2:Int) (a3:Int) (a4:Int) (a5:Int) (a6:Int) (a7:Int) (a8:Int) (a9:Int) (a10:List (List Tree)) (a11:ByteArray) (p20:List AV×Heap):Option (List Tree):=
 cnd (vB p20 0=true) (some [.bool false]) (cnd (decide (((ByteArray.size (gS y19 0):Nat):Int)>600)=true) (Option.bind (pcx C2 (AB C2 n) 6 []) fun y22=>cnd (length y22=1)
 (cnd (okB y22 0) (some [.bool (gB y22 0)]) none) none) (Option.bind (AB C2 n 8 [tI 0,tI 1,.str (gS y19 0),.sl 2 [[tI 0,tI ((ByteArray.size (gS y19
 0):Nat):Int)]]]) fun y23=>cnd (length y23=2) (cnd (okL 8 y23 0) (cnd (okI y23 1) (join (fun (p24:List AV×Heap)=>Ux n a12 y23 a13 a0 a1 a2 a3 a4 a5 a6 a7 a8 a9 a10 a11 p24) fun
 (again25:_→Option (List Tree))=>cnd (((gI y23 1) != 0)=true) (again25 ([.t (.bool true)],[])) (again25 ([.t (.bool (((length (gL y23 0):Nat):Int)==0))],[])))
 none) none) none))
noncomputable def Nz (n:Nat) (a0:Int) (a1:Int) (a2:Int) (a3:Int) (a4:Int) (a5:Int) (a6:Int) (a7:Int) (a8:Int) (a9:Int) (a10:List (List Tree)) (a11:ByteArray) (a12:List (List Tree)) (a13:Int) (p14:List AV×Heap):Option (List Tree):=
 cnd (vB p14 0=true) (Option.bind (pcx C2 (AB C2 n) 6 []) fun y18=>cnd (length y18=1) (cnd (okB y18 0) (some [.bool (gB y18 0)]) none) none) (Option.bind (AB C2 n 7 [tI a0,
 tI a1,tI a2,tI a3,tI a4,tI a5,tI a6,tI a7,tI a8,tI a9,.sl 3 a10,.str a11]) fun y19=>cnd (length y19=2) (cnd (okS y19 0) (cnd (okI y19 1) (join (fun (p20:List
 AV×Heap)=>N0 n y19 a12 a13 a0 a1 a2 a3 a4 a5 a6 a7 a8 a9 a10 a11 p20) fun (again21:_→Option (List Tree))=>cnd (((gI y19 1) != 0)=true) (again21 ([.t (.bool true)],[]))
 (again21 ([.t (.bool ((gS y19 0)==(ByteArray.mk #[])))],[]))) none) none) none)
theorem Me3 (n:Nat) (a0:Int) (a1:Int) (a2:Int) (a3:Int) (a4:Int) (a5:Int) (a6:Int) (a7:Int) (a8:Int) (a9:Int) (a10:List (List Tree)) (a11:ByteArray) (a12:List (List Tree)) (a13:Int):AB C2 (n+1) 3 [tI a0,tI a1,tI a2,tI a3,tI a4,tI a5,tI a6,tI a7,tI a8,tI a9,.sl 3 a10,.str a11,.sl 1 a12,.int IntKind.u8 a13]=
 join (fun (p14:List AV×Heap)=>Nz n a0 a1 a2 a3 a4 a5 a6 a7 a8 a9 a10 a11 a12 a13 p14) fun (again15:_→Option (List Tree))=>Option.bind (AB C2 n 4 [tI a0,tI a1,tI a2,tI a3,tI
 a4,tI a5,tI a6,tI a7,tI a8,tI a9,.sl 3 a10,.str a11]) fun y16=>cnd (length y16=1) (cnd (okB y16 0) (cnd (gB y16 0=true) (again15 ([.t (.bool true)],[]))
 (Option.bind (AB C2 n 5 [tI a0,tI a1,tI a2,tI a3,tI a4,tI a5,tI a6,tI a7,tI a8,tI a9,.sl 3 a10,.str a11]) fun y17=>cnd (length y17=1) (cnd (okI y17 0)
 (cnd (((gI y17 0) != 0)=true) (again15 ([.t (.bool true)],[])) (again15 ([.t (.bool (decide (((length a12:Nat):Int)>40)))],[]))) none) none)) none) none:=by kernel_rfl
theorem TC (n:Nat) (a0:List (List Tree)):AB C2 (n+1) 1000009 [.sl 1 a0]=
 cnd (length a0≠0) (cnd (length a0≤1073741824) (some [.sl 1 (take (length a0) a0)]) none) (both (some [.sl 1 []]) (cnd (length a0≤
 1073741824) (some [.sl 1 (take (length a0) a0)]) none)):=by kernel_rfl
end Ab
namespace Ab
open Go
theorem Mr:∀(k:Nat) (a b:Int),(b-a).toNat≤k→0≤a→a≤b→((cut a b).length:Int)≤b / 16-a / 16+1
 |0,a,b,h,h0,h1=>by rw [Ez (by omega)];simp only [length_nil];omega
 |k+1,a,b,h,h0,h1=>by
  by_cases hq:a<b
  ·have hg:=E0 hq;rw [EP hq,length_cons];by_cases hE:(a / 16+1)*16<b
   ·have hEq:Dm a b=(a / 16+1)*16:=by unfold Dm;rw [if_pos hE]
    have ih:=Mr k (Dm a b) b (by omega) (by omega) hg.2;rw [hEq] at ih ⊢;omega
   ·have hEq:Dm a b=b:=by unfold Dm;rw [if_neg hE]
    rw [hEq,Ez (by omega),length_nil];omega
  ·rw [Ez hq];simp only [length_nil];omega
theorem NU (ser:Int) (l:List Seg):(Cz ser l).length=l.length:=by
 unfold Cz;split
 ·rename_i x hx;have:l≠[]:=by rintro rfl;cases hx
  have:=length_pos_iff.2 this;simp;omega
 ·rename_i hx;rw [List.getLast?_eq_none_iff.1 hx]
theorem PM {D:ByteArray} (hD:1≤D.size∧D.size≤600):(Ct D).length≤40:=by have h:=(Qt (D:=D) ⟨hD.1,by omega⟩).2;have h2:=Mr D.size 0 D.size (by omega) (by omega) (by omega);rw [h,NU,length_map];omega
theorem segD_of {D:ByteArray} {x:Seg} (h:Bq D x):Qv x:=by
 obtain ⟨h1,h2,h3,h4,h5⟩:=h;have h6:=h1;unfold DN at h6;split at h6
 ·omega
 split at h6
 ·omega
 split at h6
 ·omega
 rename_i a b c;have hn:Bm x:=Decidable.not_not.mp b;have hc:Cj x:=Decidable.not_not.mp c;obtain ⟨k1,k2,k3⟩:=hc;obtain ⟨k3,k4,k5⟩:=k3 h2;obtain ⟨m0,m1,m2,m3⟩:=hn;obtain ⟨m3,m4,m5,m6⟩:=m3 h2;refine ⟨h1,k5,k3.2,fun n hn => ?_⟩;simp only [Be,mem_cons,not_mem_nil,or_false] at hn;have hser:0≤x.ser∧x.ser≤1099511627776:=by
  cases hq:x.chk with
  |true=>have:=m5 hq;omega
  |false=>have:=m6 hq;omega
 have hbit:KB x.chk=0∨KB x.chk=1:=by cases x.chk<;>simp [KB]
 unfold inR;rcases hn with rfl|rfl|rfl|rfl|rfl|rfl<;>omega
def pick (P:List Seg) (k:Nat):Seg:=P.getD (k % P.length) ⟨1,0,0,0,0,false,ByteArray.mk #[],[]⟩
theorem GN {P:List Seg} (h:P≠[]) (k:Nat):P[k % P.length]? = some (pick P k):=by have hl:=length_pos_iff.2 h;have:=mod_lt k hl;rw [pick,getD_eq_getElem?_getD,getElem?_eq_getElem this];rfl
theorem Tf {P:List Seg} (h:P≠[]) (l:List Nat):(∀x∈(l++List.range P.length).map (pick P),x∈P)∧∀x∈P,x∈(l++List.range P.length).map (pick P):=by
 refine ⟨fun x hx => ?_,fun x hx => ?_⟩
 ·obtain ⟨k,_,rfl⟩:=mem_map.1 hx;exact mem_of_getElem? (GN h k)
 ·obtain ⟨i,hi⟩:=List.getElem?_of_mem hx;have hl:i<P.length:=AY hi;refine mem_map.2 ⟨i,List.mem_append_right _ (mem_range.2 hl),?_⟩;have:=GN h i;rw [mod_eq_of_lt hl,hi] at this;exact (Option.some.inj this).symm
def itmOf (b:Bun):Itm:=⟨b.src,b.cre,b.seq,b.off,b.tot,b.dn,w64 (b.cre+b.life),b.pri,Bk b⟩
theorem itm_ok {b:Bun} (h:Gp b) (hs:(Bk b).size≤600):De (itmOf b):=by
 obtain ⟨h1,h2,h3,h4,h5,h6,h7⟩:=h;obtain ⟨i1,i2,i3,i4⟩:=h1;have hsz:=Cc (BZ b) (by have:=Eh ⟨⟨i1,i2,i3,i4⟩,h2,h3,h4,h5,h6,h7⟩;omega);have hw:w64 (b.cre+b.life)=b.cre+b.life:=AX (by omega) (by omega);refine ⟨i1,i2,i3,i4,?_,?_,h4,?_⟩
 ·show 0≤b.dn∧b.dn≤15;unfold J7 at h2;omega
 ·show 1≤w64 (b.cre+b.life)∧w64 (b.cre+b.life)≤1099511627776;omega
 ·show 1≤(Bk b).size∧(Bk b).size≤600;unfold Bk at hs ⊢;omega
end Ab
namespace Ab
open Go
theorem six (n:Nat):pcx C2 (AB C2 n) 6 []=some [.bool true]:=by unfold pcx;rw [if_pos (by decide)];rfl
def u8L (l:List Nat):List (List Tree):=l.map fun (k:Nat)=>[Tree.int .u8 (k:Int)]
theorem s9c (l:List (List Tree)) (hl:l.length≤1000000):AL C2 1000009 [.sl 1 l] [.sl 1 l]:=by
 refine AL.of (fun m=>TC m _) (Ev.of fun m => ?_);have h1:l.length≤1073741824:=by omega
 by_cases h0:l.length=0
 ·have:l=[]:=eq_nil_of_length_eq_zero h0;subst this;rfl
 ·rw [AZ (by simpa using h0),AZ (by simpa using h1),take_length]
def stQ (es:List (List Tree)) (i:Nat) (out:List Seg):List AV×Heap:=([.sref 1 i 0 out.length,.t (tI (i:Nat))],[.row false 1 1 es,.row false i 8 (out.map Seg.enc)])
theorem round3 {b:Bun} {P out:List Seg} {l idx:List Nat} {i k:Nat} {c:Int} {es:List (List Tree)} (hes:es=u8L (l++idx)) (hk:(l++idx)[i]? = some k) (hk8:k<256) (hlen:(l++idx).length≤1000) (hP:P≠[]) (hP40:P.length≤40) (hx:Qv (pick P k)) (hc:0≤c∧c<256) (ho:out.length=i) :
  Ev fun n=>∀again:List AV×Heap→Option (List Tree),H8 n [.sl 1 (u8L l)] [.sl 1 (u8L idx)] [.sl 8 (P.map Seg.enc),tI 0] c b.src b.cre b.seq b.off b.tot b.dk b.dn b.life b.pri b.flg (b.blocks.map Blk.enc) b.pay (stQ es i out) again=again (stQ es (i+1) (out++[pick P k])):=by
 have hz:=EY hx;have hsz:=Cc (CZ (pick P k)) (by omega);have hs5:5≤(BW (pick P k)).size∧(BW (pick P k)).size≤93:=by unfold BW;omega
 have hp:(BW (pick P k)).size-1-i % 4<(BW (pick P k)).size:=by omega
 obtain ⟨r1,r2,r3⟩:=dmg_row hp hc;have hi:i<(l++idx).length:=AY hk;rw [length_append] at hi hlen;have hP0:=length_pos_iff.2 hP;have d12:∃e:Int,∃y:Seg,AL C 12 [.str (dmg (BW (pick P k)) ((BW (pick P k)).size-1-i % 4) c)] (y.enc++[tI e])∧(e=0→c=0∧y=pick P k):=by
  by_cases h0:c=0
  ·subst h0;rw [UM hp];exact ⟨0,_,s12 _ hx,fun _=>⟨rfl,rfl⟩⟩
  ·exact ⟨13,⟨0,0,0,0,0,false,ByteArray.mk #[],[]⟩,P0 _ hx (by omega) (by omega),fun h=>by cases h⟩
 obtain ⟨e,y,hd,hy⟩:=d12;refine ((EJ (s11 _ hx) (by decide)).and ((EJ (s12 _ hx) (by decide)).and ((EJ hd (by decide)).and (EJ (s13 (pick P k) (pick P k) (by rw [hx.cl];exact zero_le _)) (by decide))))).mono fun m g again => ?_;obtain ⟨g1,g2,g3,g4⟩:=g;have hg:es[i]? = some [Tree.int .u8 (k:Int)]:=by rw [hes,u8L,getElem?_map,hk];rfl
 have hm:tmod (w64 (k:Int)) ((P.length:Nat):Int)=((k % P.length:Nat):Int):=by rw [AX (by omega) (by omega)];rfl
 have hpk:(P.map Seg.enc)[k % P.length]? = some (pick P k).enc:=by rw [getElem?_map,GN hP];rfl
 have hi4:tmod ((i:Nat):Int) 4=((i % 4:Nat):Int):=rfl;have hpos:w64 (w64 ((((BW (pick P k)).size:Nat):Int)-1)-((i % 4:Nat):Int))=(((BW (pick P k)).size-1-i % 4:Nat):Int):=by rw [AX (x:=(((BW (pick P k)).size:Nat):Int)-1) (by omega) (by omega),AX (by omega) (by omega)];omega
 have hw:w64 (((i:Nat):Int)+1)=((i+1:Nat):Int):=by rw [AX (by omega) (by omega)];omega
 have f1:((i:Nat):Int)<(((u8L l).length+(u8L idx).length:Nat):Int):=by rw [u8L,u8L,length_map,length_map];omega
 have f1':((i:Nat):Int)<((u8L l).length:Int)+((u8L idx).length:Int):=by rw [u8L,u8L,length_map,length_map];omega
 have f2:¬(P.length:Int)=0:=by omega
 have f2':¬P.length=0:=by omega
 have f3:¬((((BW (pick P k)).size:Nat):Int)<5):=by omega
 have f4:(((BW (pick P k)).size-1-i % 4:Nat):Int)<(((BW (pick P k)).size:Nat):Int):=by omega
 have z:∀j:Nat,(0:Int)≤(j:Int):=fun j=>natCast_nonneg j;have hle:out.length+1≤1073741824:=by omega
 have hq:=GN hP k;have r1':(AP (BW (pick P k)))[(BW (pick P k)).size-1-i % 4]? = some [Tree.int .u8 ((((bl (BW (pick P k))).getD ((BW (pick P k)).size-1-i % 4) 0).toNat:Nat):Int)]:=r1;have hmk:mkB (bl (dmg (BW (pick P k)) ((BW (pick P k)).size-1-i % 4) c))=dmg (BW (pick P k)) ((BW (pick P k)).size-1-i % 4) c:=CW (DJ _);have q3:take (BW (pick P k)).size (List.map tb (bl (dmg (BW (pick P k)) ((BW (pick P k)).size-1-i % 4) c)))=List.map tb (bl (dmg (BW (pick P k)) ((BW (pick P k)).size-1-i % 4) c)):=take_of_length_le (by rw [length_map,r3];exact le_refl _);generalize BW (pick P k)=t at *;generalize hpos':t.size-1-i % 4=p at *;generalize ((bl t).getD p 0).toNat=bv at *;generalize dmg t p c=T at *;unfold H8;simp only [Seg.enc,cons_append,nil_append] at g1 g2 g3 g4;simp only [stQ,vv,reduceCtorEq,reduceAdd,reduceEqDiff,f1,f1',z,toNat_natCast,zero_add,hg,length_map,f2,f2',hm,hq,map_some,Seg.enc,g1,bne_self_eq_false,f3];unfold MJ3_7;simp only [vv,reduceCtorEq,reduceAdd,reduceEqDiff,hi4,hpos,z,f4,toNat_natCast,zero_add,r1',List.drop_succ_cons,drop_zero,append_nil,cons_append,nil_append,r2,q3,Eb,Fp,hmk,g3];have q4:take out.length (List.map Seg.enc out)=List.map Seg.enc out:=take_of_length_le (by rw [length_map];exact le_refl _);have key:∀X Y Z:AQ,Uw m [Tree.str t,tI 0] (([AV.sref 1 i 0 out.length,AV.t (tI ((i:Nat):Int))],[AQ.row false 1 1 es,AQ.row false i 8 (List.map Seg.enc out)]):List AV×Heap) again (([],[AQ.row false 1 1 es,AQ.row false i 8 (List.map Seg.enc out),X,Y,Z]):List AV×Heap)=
   again (([AV.sref 1 (i+1) 0 (out++[pick P k]).length,AV.t (tI ((i+1:Nat):Int))],[AQ.row false 1 1 es,AQ.row false (i+1) 8 (List.map Seg.enc (out++[pick P k]))]):List AV×Heap):=by
  intro X Y Z;unfold Uw;simp only [vv,reduceCtorEq,reduceAdd,reduceEqDiff,g2,bne_self_eq_false,length_map,le_refl,hle,q4,hw,length_append,length_cons,length_nil,zero_add,map_append,map_cons,map_nil,Seg.enc]
 by_cases he:e=0
 ·obtain ⟨rfl,rfl⟩:=hy he;subst he;simp only [vv,reduceCtorEq,reduceAdd,reduceEqDiff,beq_self_eq_true,bne_self_eq_false,g4,decide_true,Bool.not_true,key]
 ·have hb:(e==0)=false:=beq_false_of_ne he;simp only [vv,reduceCtorEq,reduceAdd,reduceEqDiff,hb,key]
end Ab
namespace Ab
open Go
set_option maxHeartbeats 4000000 in
set_option maxRecDepth 20000 in
theorem end3 {b:Bun} (hb:Gp b) (hs:(Bk b).size≤600) {P out:List Seg} {l idx:List Nat} {i:Nat} {c:Int} {es:List (List Tree)} (hi:i=(l++idx).length) (ho:out.length=i) (hn:out.length≤1000)
  (hP:∀x∈out,Bq (Bk b) x) (hd:LQ (BB R5 out)=(Bk b,0)) :
  Ev fun n=>∀again:List AV×Heap→Option (List Tree),H8 n [.sl 1 (u8L l)] [.sl 1 (u8L idx)] [.sl 8 (P.map Seg.enc),tI 0] c b.src b.cre b.seq b.off b.tot b.dk b.dn b.life b.pri b.flg (b.blocks.map Blk.enc) b.pay (stQ es i out) again=some [.bool true]:=by
 have hit:=itm_ok hb hs;have h15:=s15 (BB R5 out);rw [hd] at h15;have hbl:b.blocks.length≤1000000:=by have:=hb.blk.1;omega
 have h16:=s16 b hb;have h17:=s17 b hbl;refine ((EJ (s14 (D:=Bk b) (by omega) out hP (by omega)) (by decide)).and ((EJ h15 (by decide)).and ((EJ h16 (by decide)).and ((EJ h17 (by decide)).and ((EJ (s18 b hb) (by decide)).and ((s19 hit).and ((EJ (s20 _ hit) (by decide)).and (EJ (s21 _ hit) (by decide))))))))).mono fun m g again => ?_;obtain ⟨g1,g2,g3,g4,g5,g6,g7,g8⟩:=g;have f1:¬((i:Nat):Int)<(((u8L l).length+(u8L idx).length:Nat):Int):=by rw [u8L,u8L,length_map,length_map,hi,length_append];omega
 have f1':¬((i:Nat):Int)<((u8L l).length:Int)+((u8L idx).length:Int):=by rw [u8L,u8L,length_map,length_map,hi,length_append];omega
 have q4:take out.length (List.map Seg.enc out)=List.map Seg.enc out:=take_of_length_le (by rw [length_map];exact le_refl _);simp only [Rcv.enc,cons_append,nil_append] at g1 g2;simp only [Bun.enc,cons_append,nil_append] at g3 g4 g5;simp only [Gi,itmOf,Itm.rcd,Itm.enc] at g6 g7 g8;unfold H8;simp only [stQ,vv,reduceCtorEq,reduceAdd,reduceEqDiff,f1,f1',q4,g1,g2,g3,bne_self_eq_false,Bool.not_true,g4,Bool.not_false];unfold MJ3_9;simp only [vv,reduceCtorEq,reduceAdd,reduceEqDiff,g5,g6,g7,g8,bne_self_eq_false,length_cons,length_nil,zero_add,nc1];unfold MJ3_8;simp only [vv,reduceCtorEq,reduceAdd,reduceEqDiff,getElem?_cons_zero,g3,g4,beq_self_eq_true,six]
end Ab
namespace Ab
open Go
theorem u8L_app (a b:List Nat):u8L (a++b)=u8L a++u8L b:=by simp [u8L]
theorem IB (a:List Nat):(u8L a).length=a.length:=by simp [u8L]
set_option maxHeartbeats 4000000 in
set_option maxRecDepth 20000 in
theorem loop3 {b:Bun} (hb:Gp b) (hs:(Bk b).size≤600) {l:List Nat} {c:Int} (hl:∀k∈l,k<256) (hl40:l.length≤40) (hc:0≤c∧c<256) :
  Ev fun n=>AH (fun p again=>H8 n [.sl 1 (u8L l)] [.sl 1 (u8L (List.range (Ct (Bk b)).length))] [.sl 8 ((Ct (Bk b)).map Seg.enc),tI 0] c b.src b.cre b.seq b.off b.tot b.dk b.dn b.life b.pri b.flg (b.blocks.map Blk.enc) b.pay p again) n (stQ (u8L (l++List.range (Ct (Bk b)).length)) 0 [])=some [.bool true]:=by
 have hD:1≤(Bk b).size∧(Bk b).size≤600:=by have:=Cc (BZ b) (by have:=Eh hb;omega);unfold Bk at hs ⊢;omega
 have hlen:=PM hD;obtain ⟨f1,f2,f3,f4,f5⟩:=HC (D:=Bk b) ⟨hD.1,by omega⟩;generalize hPe:Ct (Bk b)=P at *;have hidx:∀k∈l++List.range P.length,k<256:=fun k hk=>by
  rcases mem_append.1 hk with h|h
  ·exact hl k h
  ·have:=mem_range.1 h;omega
 have hL:(l++List.range P.length).length≤80:=by rw [length_append,length_range];omega
 have hpk:∀k,Bq (Bk b) (pick P k):=fun k=>f3 _ (mem_of_getElem? (GN f1 k));refine Ao (B:=fun n=>H8 n [.sl 1 (u8L l)] [.sl 1 (u8L (List.range P.length))] [.sl 8 (P.map Seg.enc),tI 0] c b.src b.cre b.seq b.off b.tot b.dk b.dn b.life b.pri b.flg (b.blocks.map Blk.enc) b.pay) id (l++List.range P.length) (fun i out=>stQ (u8L (l++List.range P.length)) i out) (fun _ out k =>.next (out++[pick P k])) (fun _=>[Tree.bool true]) (fun i out=>out=((l++List.range P.length).take i).map (pick P)) [] rfl (by simp) ?_
  (fun i out k hx hI => ?_) (fun i out k out' hx hI hs => ?_) (fun out hI => ?_)
 ·exact CQ (fun (out:List Seg) k=>out++[pick P k]) (fun _=>[Tree.bool true]) 0 (l++List.range P.length) _
 ·have hk:=mem_of_getElem? hx;have hi:=AY hx;have ho:out.length=i:=by rw [hI,length_map,length_take];omega
  refine (round3 (b:=b) rfl hx (hidx k hk) (by omega) f1 hlen (segD_of (hpk k)) hc ho).mono fun n h again => ?_;rw [Rd.As];exact h again
 ·cases hs;rw [hI,take_add_one,hx];simp
 ·rw [take_length] at hI;subst hI;have hm:=Tf f1 l;have hd:=SQ (D:=Bk b) ⟨hD.1,by omega⟩ (k:=(l++List.range P.length).map (pick P)) (by rw [hPe];exact hm.1) (by rw [hPe];exact hm.2);exact end3 hb hs rfl (by rw [length_map]) (by rw [length_map];omega) (fun x hx=>f3 x (hm.1 x hx)) hd
set_option maxHeartbeats 4000000 in
set_option maxRecDepth 20000 in
theorem law3 (b:Bun) (l:List Nat) (c:Int) (hl:∀k∈l,k<256) (hc:0≤c∧c<256):AL C2 3 (b.enc++[.sl 1 (u8L l),.int .u8 c]) [.bool true]:=by
 refine AL.of (fun m=>Me3 m _ _ _ _ _ _ _ _ _ _ _ _ _ _) ?_;have hA:∀m,Nz m b.src b.cre b.seq b.off b.tot b.dk b.dn b.life b.pri b.flg (b.blocks.map Blk.enc) b.pay (u8L l) c (([AV.t (.bool true)],[]):List AV×Heap)=some [.bool true]:=fun m=>by unfold Nz;simp only [vv,reduceCtorEq,reduceAdd,reduceEqDiff,six]
 obtain ⟨r,h4⟩:=s4 b;obtain ⟨c5,h5,i5⟩:=s5 b;have k4:=EJ h4 (by decide);have k5:=EJ h5 (by decide);simp only [Bun.enc] at k4 k5;by_cases hr:r=true
 ·subst hr;refine k4.mono fun m g => ?_;simp only [vv,reduceCtorEq,reduceAdd,reduceEqDiff,g,hA]
 have hr:r=false:=by simpa using hr
 subst hr;by_cases h0:c5=0;rotate_left
 ·have hb:(c5 != 0)=true:=by simpa using h0
  refine (k4.and k5).mono fun m g => ?_;obtain ⟨g1,g2⟩:=g;simp only [vv,reduceCtorEq,reduceAdd,reduceEqDiff,g1,g2,hb,hA]
 subst h0;have hb:=i5 rfl;by_cases h40:40<l.length
 ·refine (k4.and k5).mono fun m g => ?_;obtain ⟨g1,g2⟩:=g;have:decide (((((u8L l).length:Nat):Int))>40)=true:=by rw [IB];exact decide_eq_true (by omega)
  simp only [vv,reduceCtorEq,reduceAdd,reduceEqDiff,g1,g2,bne_self_eq_false,this,hA]
 have hn40:decide (((((u8L l).length:Nat):Int))>40)=false:=by rw [IB];exact decide_eq_false (by omega)
 have hz:=Cc (BZ b) (by have:=Eh hb;omega);have hz1:5≤(Bk b).size:=by unfold Bk;omega
 have hne:((Bk b)==ByteArray.mk #[])=false:=by rw [Cn];exact decide_eq_false (by omega)
 have k7:=EJ (s7 b hb) (by decide);simp only [Bun.enc] at k7;have hJ:Ev fun m=>N0 m [.str (Bk b),tI 0] (u8L l) c b.src b.cre b.seq b.off b.tot b.dk b.dn b.life b.pri b.flg (b.blocks.map Blk.enc) b.pay (([AV.t (.bool false)],[]):List AV×Heap)=some [.bool true]:=by
  by_cases h600:600<(Bk b).size
  ·refine Ev.of fun m => ?_;have:(((Bk b).size:Nat):Int)>600:=by omega
   unfold N0;simp only [vv,reduceCtorEq,reduceAdd,reduceEqDiff,this,six]
  have hD:1≤(Bk b).size∧(Bk b).size≤600:=⟨by omega,by omega⟩
  have hn6:¬(((Bk b).size:Nat):Int)>600:=by omega
  obtain ⟨e0,e1⟩:=Qt (D:=Bk b) ⟨hD.1,by omega⟩;have k8:=EJ (s8 0 1 (Bk b) [⟨0,(Bk b).size⟩]) (by decide);rw [e0,show Sm 0 1 (Bk b) [⟨0,(Bk b).size⟩]=Ct (Bk b) from rfl] at k8;obtain ⟨f1,f2,f3,f4,f5⟩:=HC (D:=Bk b) ⟨hD.1,by omega⟩;have hlen:=PM hD;have hpos:=length_pos_iff.2 f1;have hl0:((((Ct (Bk b)).length:Nat):Int)==0)=false:=beq_false_of_ne (by omega);have k10:AL C2 10 [tI (((Ct (Bk b)).length:Nat):Int)] [.sl 1 (u8L (List.range (Ct (Bk b)).length))]:=EJ (s10 _ (by omega)) (by decide);have k9:=s9c (u8L l) (by rw [IB];omega);refine Ev.rw (k8.and (k9.and k10)) (fun m g => ?_) (loop3 hb hD.2 hl (by omega) hc);obtain ⟨g1,g2,g3⟩:=g;simp only [map_cons,map_nil,Span.enc] at g1;have hcap:(u8L l).length+(u8L (List.range (Ct (Bk b)).length)).length≤1073741824:=by rw [IB,IB,length_range];omega
  unfold N0;simp only [vv,reduceCtorEq,reduceAdd,reduceEqDiff,hn6,g1,bne_self_eq_false,length_map,hl0];unfold Ux;simp only [vv,reduceCtorEq,reduceAdd,reduceEqDiff,g2,g3,length_map,zero_add,Nat.lt_irrefl,and_false,le_refl,hcap,take_length,stQ,u8L_app];rfl
 refine Ev.rw (k4.and (k5.and k7)) (fun m g => ?_) hJ;obtain ⟨g1,g2,g3⟩:=g;simp only [vv,reduceCtorEq,reduceAdd,reduceEqDiff,g1,g2,bne_self_eq_false,hn40];unfold Nz;simp only [vv,reduceCtorEq,reduceAdd,reduceEqDiff,g3,bne_self_eq_false,hne]
end Ab
namespace Ab
open Go
variable {P:Program}
theorem MI {d:Nat} {t:TypeId} {k:IntKind} (hu:P.underlying t=some (.int k)) {ts:List Tree} (h:Typed P d t ts):∃n,ts=[.int k n]∧(Lit.int k n).wf=true:=by
 cases d with
 |zero=>cases h
 |succ d=>unfold Typed at h;rw [hu] at h;exact h
theorem Rx {d:Nat} {t:TypeId} (hu:P.underlying t=some .string) {ts:List Tree} (h:Typed P d t ts):∃s:ByteArray,ts=[.str s]∧s.size≤maxLen:=by
 cases d with
 |zero=>cases h
 |succ d=>unfold Typed at h;rw [hu] at h;exact h
theorem Jq {d:Nat} {t e:TypeId} (hu:P.underlying t=some (.slice e)) {ts:List Tree} (h:Typed P (d+1) t ts):∃es,ts=[.sl (P.cellsOf e) es]∧es.length≤maxLen∧∀x∈es,Typed P d e x:=by unfold Typed at h;rw [hu] at h;exact h
theorem NC {d:Nat} {t:TypeId} {fs:Array Field} (hu:P.underlying t=some (.struct fs)) {ts:List Tree} (h:Typed P (d+1) t ts):Ek (Typed P d) (fs.toList.map (·.type)) ts:=by unfold Typed at h;rw [hu] at h;exact h
def Ol (P:Program) (t:TypeId):Option (List TypeId):=
 match P.underlying t with
 |some (.struct fs)=>some (fs.toList.map (·.type))
 |_=>none
theorem EK {d:Nat} {t:TypeId} (l:List TypeId) (hu:Ol P t=some l) {ts:List Tree} (h:Typed P (d+1) t ts):Ek (Typed P d) l ts:=by
 unfold Ol at hu;split at hu
 ·rename_i fs hf;cases hu;exact NC hf h
 ·cases hu
theorem Ap {Ty:TypeId→List Tree→Prop} {t:TypeId} {l:List TypeId} {ts:List Tree} (h:Ek Ty (t::l) ts):∃a b,ts=a++b∧Ty t a∧Ek Ty l b:=h
theorem EW {Ty:TypeId→List Tree→Prop} {ts:List Tree} (h:Ek Ty [] ts):ts=[]:=h
theorem Fm {α:Type} {enc:α→List Tree} {p:α→Prop}:∀{es:List (List Tree)},(∀x∈es,∃a,x=enc a∧p a)→∃l:List α,es=l.map enc∧∀a∈l,p a
 |[],_=>⟨[],rfl,by simp⟩
 |x::es,h=>by
  obtain ⟨a,ha,pa⟩:=h x (by simp);obtain ⟨l,hl,pl⟩:=Fm (es:=es) fun y hy=>h y (by simp [hy]);refine ⟨a::l,by simp [ha,hl],fun b hb => ?_⟩;rcases mem_cons.1 hb with rfl|hb
  ·exact pa
  ·exact pl b hb
end Ab
set_option maxRecDepth 100000
namespace Ab
open Go Go.Proofs
theorem uInt:C2.P.underlying 3=some (.int .i64):=by kernel_rfl
theorem uU8:C2.P.underlying 5=some (.int .u8):=by kernel_rfl
theorem uStr:C2.P.underlying 9=some .string:=by kernel_rfl
theorem DA {d:Nat} {ts:List Tree} (h:Typed C2.P d 3 ts):∃n,ts=[tI n]∧True:=by obtain ⟨n,h1,h2⟩:=MI uInt h;exact ⟨n,h1,trivial⟩
theorem UT {d:Nat} {ts:List Tree} (h:Typed C2.P d 5 ts):∃n:Nat,ts=[.int .u8 (n:Int)]∧n<256:=by
 obtain ⟨n,h1,h2⟩:=MI uU8 h;have h3:0≤n∧n≤255:=by simpa [Lit.wf,IntKind.min,IntKind.max,IntKind.signed,IntKind.bits] using h2
 exact ⟨n.toNat,by rw [h1,show ((n.toNat:Nat):Int)=n by omega],by omega⟩
theorem Rb {d:Nat} {ts:List Tree} (h:Typed C2.P d 9 ts):∃b:ByteArray,ts=[.str b]∧True:=by obtain ⟨b,h1,_⟩:=Rx uStr h;exact ⟨b,h1,trivial⟩
theorem dec_blk {d:Nat} {ts:List Tree} (h:Typed C2.P (d+1) 74 ts):∃e:Blk,ts=e.enc∧True:=by have h1:=EK (t:=74) [3,3,9] (by kernel_rfl) h;clear h;obtain ⟨_,t1,rfl,x1,g1⟩:=Ap h1;obtain ⟨a1,rfl,k1⟩:=DA x1;obtain ⟨_,t2,rfl,x2,g2⟩:=Ap g1;obtain ⟨a2,rfl,k2⟩:=DA x2;obtain ⟨_,t3,rfl,x3,g3⟩:=Ap g2;obtain ⟨a3,rfl,k3⟩:=Rb x3;obtain rfl:=EW g3;exact ⟨⟨a1,a2,a3⟩,rfl,trivial⟩
theorem UU {d:Nat} {ts:List Tree} (h:Typed C2.P (d+2) 26 ts):∃l:List Blk,ts=[.sl 3 (l.map Blk.enc)]∧True:=by obtain ⟨es,rfl,_,h2⟩:=Jq (t:=26) (e:=74) (by kernel_rfl) h;obtain ⟨l,rfl,hl⟩:=Fm fun x hx=>dec_blk (h2 x hx);exact ⟨l,by rw [show C2.P.cellsOf 74=3 by kernel_rfl],trivial⟩
def encU (k:Nat):List Tree:=[.int .u8 (k:Int)]
theorem Sb {d:Nat} {ts:List Tree} (h:Typed C2.P (d+2) 29 ts):∃l:List Nat,ts=[.sl 1 (u8L l)]∧∀k∈l,k<256:=by obtain ⟨es,rfl,_,h2⟩:=Jq (t:=29) (e:=5) (by kernel_rfl) h;obtain ⟨l,rfl,hl⟩:=Fm (enc:=encU) fun x hx=>UT (h2 x hx);exact ⟨l,by rw [show C2.P.cellsOf 5=1 by kernel_rfl];rfl,hl⟩
theorem dec_id {d:Nat} {ts:List Tree} (h:Typed C2.P (d+1) 23 ts):∃a1 a2 a3 a4 a5:Int,ts=[tI a1,tI a2,tI a3,tI a4,tI a5]:=by have h1:=EK (t:=23) [3,3,3,3,3] (by kernel_rfl) h;clear h;obtain ⟨_,t1,rfl,x1,g1⟩:=Ap h1;obtain ⟨a1,rfl,k1⟩:=DA x1;obtain ⟨_,t2,rfl,x2,g2⟩:=Ap g1;obtain ⟨a2,rfl,k2⟩:=DA x2;obtain ⟨_,t3,rfl,x3,g3⟩:=Ap g2;obtain ⟨a3,rfl,k3⟩:=DA x3;obtain ⟨_,t4,rfl,x4,g4⟩:=Ap g3;obtain ⟨a4,rfl,k4⟩:=DA x4;obtain ⟨_,t5,rfl,x5,g5⟩:=Ap g4;obtain ⟨a5,rfl,k5⟩:=DA x5;obtain rfl:=EW g5;exact ⟨a1,a2,a3,a4,a5,rfl⟩
theorem dec_end {d:Nat} {ts:List Tree} (h:Typed C2.P (d+1) 25 ts):∃a1 a2:Int,ts=[tI a1,tI a2]:=by have h1:=EK (t:=25) [3,3] (by kernel_rfl) h;clear h;obtain ⟨_,t1,rfl,x1,g1⟩:=Ap h1;obtain ⟨a1,rfl,k1⟩:=DA x1;obtain ⟨_,t2,rfl,x2,g2⟩:=Ap g1;obtain ⟨a2,rfl,k2⟩:=DA x2;obtain rfl:=EW g2;exact ⟨a1,a2,rfl⟩
theorem dec_bun {d:Nat} {ts:List Tree} (h:Typed C2.P (d+3) 28 ts):∃b:Bun,ts=b.enc∧True:=by have h1:=EK (t:=28) [23,25,3,3,3,26,9] (by kernel_rfl) h;clear h;obtain ⟨_,t1,rfl,x1,g1⟩:=Ap h1;obtain ⟨a1,a2,a3,a4,a5,rfl⟩:=dec_id x1;obtain ⟨_,t2,rfl,x2,g2⟩:=Ap g1;obtain ⟨b1,b2,rfl⟩:=dec_end x2;obtain ⟨_,t3,rfl,x3,g3⟩:=Ap g2;obtain ⟨c1,rfl,_⟩:=DA x3;obtain ⟨_,t4,rfl,x4,g4⟩:=Ap g3;obtain ⟨c2,rfl,_⟩:=DA x4;obtain ⟨_,t5,rfl,x5,g5⟩:=Ap g4;obtain ⟨c3,rfl,_⟩:=DA x5;obtain ⟨_,t6,rfl,x6,g6⟩:=Ap g5;obtain ⟨bl,rfl,_⟩:=UU x6;obtain ⟨_,t7,rfl,x7,g7⟩:=Ap g6;obtain ⟨pay,rfl,_⟩:=Rb x7;obtain rfl:=EW g7;exact ⟨⟨a1,a2,a3,a4,a5,b1,b2,c1,c2,c3,bl,pay⟩,rfl,trivial⟩
theorem own:ownKnob Tryz.prog.godebug=none:=by kernel_rfl
end Ab
namespace Ab
open Go
abbrev Ent:=FuncId×List Tree×List Tree
def EOk (P:Program) (e:Ent):Prop:=if e.1<OWN then Du P e.1 e.2.1 e.2.2 else if e.1<D8 then Us P (e.1-OWN) e.2.1 e.2.2 else Qy P ((e.1-D8) % 64) ((e.1-D8) / 64) e.2.1 e.2.2
def tab:List Ent→A4
 |[],_,_=>none
 |e::l,g,xs=>match Nat.beq e.1 g with
  |true=>match tL e.2.1 xs with
   |true=>some e.2.2
   |false=>tab l g xs
  |false=>tab l g xs
def Vu (P:Program):List Ent→Prop
 |[]=>True
 |e::l=>EOk P e∧Vu P l
theorem Pp {P:Program}:∀{l:List Ent},Vu P l→Bn P (tab l)
 |[],_=>fun g xs ys h=>by cases h
 |e::l,hl=>fun g xs ys h=>by
  unfold tab at h;split at h
  ·rename_i h1;split at h
   ·rename_i h2;cases h;have e1:=Nat.eq_of_beq_eq_true h1;have e2:=OI _ _ h2;subst e1 e2;exact hl.1
   ·exact Pp hl.2 g xs ys h
  ·exact Pp hl.2 g xs ys h
noncomputable def stepT (C:Cfg) (l:List Ent) (n:Nat) (e:Ent):Option (List Tree):=
 if e.1<OWN then RI C (inl C (pcx C (tab l)) n C.depth) (pcx C (tab l)) n e.1 e.2.1 else if e.1<D8 then IW C (inl C (pcx C (tab l)) n C.depth) (pcx C (tab l)) n (e.1-OWN) e.2.1
 else Gx C (inl C (pcx C (tab l)) n C.depth) (pcx C (tab l)) n ((e.1-D8) % 64) ((e.1-D8) / 64) e.2.1
theorem AA {C:Cfg} (hmix:C.P.follows .mixedOrders=true) (hext:JE C) {l:List Ent} (hl:Vu C.P l) {n:Nat} {e:Ent} (hk:stepT C l n e=some e.2.2):EOk C.P e:=by
 have hp:=Hn hext (Pp hl);unfold stepT at hk;unfold EOk;by_cases hg:e.1<OWN
 ·rw [if_pos hg] at hk ⊢;exact RH (GW hmix hp n C.depth) hp hmix hk
 ·rw [if_neg hg] at hk ⊢;by_cases hg2:e.1<D8
  ·rw [if_pos hg2] at hk ⊢;exact Tg (GW hmix hp n C.depth) hp hmix hk
  ·rw [if_neg hg2] at hk ⊢;exact RK (GW hmix hp n C.depth) hp hmix hk
end Ab
set_option maxRecDepth 1000000
namespace Ab
open Go
def d0:Ent:=(71,[tI 1,tI 0,tI 15],[.bool true])
theorem k0:EOk C.P d0:=AA mix AG (l:=[]) trivial (n:=5000) (by kernel_rfl)
def d1:Ent:=(71,[tI 0,tI 0,tI 1099511627776],[.bool true])
theorem k1:EOk C.P d1:=AA mix AG (l:=[]) trivial (n:=5000) (by kernel_rfl)
def d2:Ent:=(69,[tI 1,tI 0,tI 0,tI 0,tI 0],[tI 0])
theorem k2:EOk C.P d2:=AA mix AG (l:=[d0,d1]) ⟨k0,⟨k1,trivial⟩⟩ (n:=5000) (by kernel_rfl)
def d3:Ent:=(70,[tI 1,tI 2],[tI 0])
theorem k3:EOk C.P d3:=AA mix AG (l:=[]) trivial (n:=5000) (by kernel_rfl)
def d4:Ent:=(71,[tI 0,tI 0,tI 2],[.bool true])
theorem k4:EOk C.P d4:=AA mix AG (l:=[]) trivial (n:=5000) (by kernel_rfl)
def d5:Ent:=(71,[tI 0,tI 0,tI 127],[.bool true])
theorem k5:EOk C.P d5:=AA mix AG (l:=[]) trivial (n:=5000) (by kernel_rfl)
def d6:Ent:=(72,[tI 1,tI 0,tI 0,tI 0,tI 0,tI 1,tI 2,tI 9,tI 0,tI 0,.sl 3 [],.str (ByteArray.mk #[104,105])],[tI 0])
theorem k6:EOk C.P d6:=AA mix AG (l:=[d5]) ⟨k5,trivial⟩ (n:=5000) (by kernel_rfl)
def d7:Ent:=(73,[.sl 3 []],[tI 0])
theorem k7:EOk C.P d7:=AA mix AG (l:=[]) trivial (n:=5000) (by kernel_rfl)
def d8:Ent:=(74,[tI 1,tI 0,tI 0,tI 0,tI 0,tI 1,tI 2,tI 9,tI 0,tI 0,.sl 3 [],.str (ByteArray.mk #[104,105])],[tI 0])
theorem k8:EOk C.P d8:=AA mix AG (l:=[]) trivial (n:=5000) (by kernel_rfl)
def d9:Ent:=(29,[tI 1,tI 0,tI 0,tI 0,tI 0,tI 1,tI 2,tI 9,tI 0,tI 0,.sl 3 [],.str (ByteArray.mk #[104,105])],[tI 0])
theorem k9:EOk C.P d9:=AA mix AG (l:=[d2,d3,d4,d6,d7,d8]) ⟨k2,⟨k3,⟨k4,⟨k6,⟨k7,⟨k8,trivial⟩⟩⟩⟩⟩⟩ (n:=5000) (by kernel_rfl)
def d10:Ent:=(75,[tI 3],[.bool true])
theorem k10:EOk C.P d10:=AA mix AG (l:=[]) trivial (n:=5000) (by kernel_rfl)
def d11:Ent:=(77,[tI 3],[tI 6])
theorem k11:EOk C.P d11:=AA mix AG (l:=[]) trivial (n:=5000) (by kernel_rfl)
def d12:Ent:=(32,[tI 3],[.str (ByteArray.mk #[6]),tI 0])
theorem k12:EOk C.P d12:=AA mix AG (l:=[d10,d11]) ⟨k10,⟨k11,trivial⟩⟩ (n:=5000) (by kernel_rfl)
def d13:Ent:=(30,[.str (ByteArray.mk #[77,66,49])],[.str (ByteArray.mk #[6,77,66,49]),tI 0])
theorem k13:EOk C.P d13:=AA mix AG (l:=[d12]) ⟨k12,trivial⟩ (n:=5000) (by kernel_rfl)
def d14:Ent:=(75,[tI 1],[.bool true])
theorem k14:EOk C.P d14:=AA mix AG (l:=[]) trivial (n:=5000) (by kernel_rfl)
def d15:Ent:=(77,[tI 1],[tI 2])
theorem k15:EOk C.P d15:=AA mix AG (l:=[]) trivial (n:=5000) (by kernel_rfl)
def d16:Ent:=(32,[tI 1],[.str (ByteArray.mk #[2]),tI 0])
theorem k16:EOk C.P d16:=AA mix AG (l:=[d14,d15]) ⟨k14,⟨k15,trivial⟩⟩ (n:=5000) (by kernel_rfl)
def d17:Ent:=(75,[tI 0],[.bool true])
theorem k17:EOk C.P d17:=AA mix AG (l:=[]) trivial (n:=5000) (by kernel_rfl)
def d18:Ent:=(77,[tI 0],[tI 0])
theorem k18:EOk C.P d18:=AA mix AG (l:=[]) trivial (n:=5000) (by kernel_rfl)
def d19:Ent:=(32,[tI 0],[.str (ByteArray.mk #[0]),tI 0])
theorem k19:EOk C.P d19:=AA mix AG (l:=[d17,d18]) ⟨k17,⟨k18,trivial⟩⟩ (n:=5000) (by kernel_rfl)
def d20:Ent:=(75,[tI 2],[.bool true])
theorem k20:EOk C.P d20:=AA mix AG (l:=[]) trivial (n:=5000) (by kernel_rfl)
def d21:Ent:=(77,[tI 2],[tI 4])
theorem k21:EOk C.P d21:=AA mix AG (l:=[]) trivial (n:=5000) (by kernel_rfl)
def d22:Ent:=(32,[tI 2],[.str (ByteArray.mk #[4]),tI 0])
theorem k22:EOk C.P d22:=AA mix AG (l:=[d20,d21]) ⟨k20,⟨k21,trivial⟩⟩ (n:=5000) (by kernel_rfl)
def d23:Ent:=(75,[tI 9],[.bool true])
theorem k23:EOk C.P d23:=AA mix AG (l:=[]) trivial (n:=5000) (by kernel_rfl)
def d24:Ent:=(77,[tI 9],[tI 18])
theorem k24:EOk C.P d24:=AA mix AG (l:=[]) trivial (n:=5000) (by kernel_rfl)
def d25:Ent:=(32,[tI 9],[.str (ByteArray.mk #[18]),tI 0])
theorem k25:EOk C.P d25:=AA mix AG (l:=[d23,d24]) ⟨k23,⟨k24,trivial⟩⟩ (n:=5000) (by kernel_rfl)
def d26:Ent:=(33,[.sl 3 []],[.str (ByteArray.mk #[0]),tI 0])
theorem k26:EOk C.P d26:=AA mix AG (l:=[d19]) ⟨k19,trivial⟩ (n:=5000) (by kernel_rfl)
def d27:Ent:=(30,[.str (ByteArray.mk #[104,105])],[.str (ByteArray.mk #[4,104,105]),tI 0])
theorem k27:EOk C.P d27:=AA mix AG (l:=[d22]) ⟨k22,trivial⟩ (n:=5000) (by kernel_rfl)
def d28:Ent:=(75,[tI 18],[.bool true])
theorem k28:EOk C.P d28:=AA mix AG (l:=[]) trivial (n:=5000) (by kernel_rfl)
def d29:Ent:=(77,[tI 18],[tI 36])
theorem k29:EOk C.P d29:=AA mix AG (l:=[]) trivial (n:=5000) (by kernel_rfl)
def d30:Ent:=(32,[tI 18],[.str (ByteArray.mk #[36]),tI 0])
theorem k30:EOk C.P d30:=AA mix AG (l:=[d28,d29]) ⟨k28,⟨k29,trivial⟩⟩ (n:=5000) (by kernel_rfl)
def d31:Ent:=(30,[.str (ByteArray.mk #[6,77,66,49,2,0,0,0,0,2,4,18,0,0,0,4,104,105])],[.str (ByteArray.mk #[36,6,77,66,49,2,0,0,0,0,2,4,18,0,0,0,4,104,105]),tI 0])
theorem k31:EOk C.P d31:=AA mix AG (l:=[d30]) ⟨k30,trivial⟩ (n:=5000) (by kernel_rfl)
def d32:Ent:=(186,[.int .u32 4294967295,.str (ByteArray.mk #[36,6,77,66,49,2,0,0,0,0,2,4,18,0,0,0,4,104,105])],[.int .u32 1216372440])
theorem k32:EOk C.P d32:=AA mix AG (l:=[]) trivial (n:=5000) (by kernel_rfl)
def d33:Ent:=(129,[.str (ByteArray.mk #[36,6,77,66,49,2,0,0,0,0,2,4,18,0,0,0,4,104,105])],[tI 3078594855])
theorem k33:EOk C.P d33:=AA mix AG (l:=[d32]) ⟨k32,trivial⟩ (n:=5000) (by kernel_rfl)
def d34:Ent:=(79,[.str (ByteArray.mk #[36,6,77,66,49,2,0,0,0,0,2,4,18,0,0,0,4,104,105])],[.str (ByteArray.mk #[39,161,127,183])])
theorem k34:EOk C.P d34:=AA mix AG (l:=[d33]) ⟨k33,trivial⟩ (n:=5000) (by kernel_rfl)
def d35:Ent:=(34,[.str (ByteArray.mk #[6,77,66,49,2,0,0,0,0,2,4,18,0,0,0,4,104,105])],[.str (ByteArray.mk #[36,6,77,66,49,2,0,0,0,0,2,4,18,0,0,0,4,104,105,39,161,127,183]),tI 0])
theorem k35:EOk C.P d35:=AA mix AG (l:=[d31,d34]) ⟨k31,⟨k34,trivial⟩⟩ (n:=5000) (by kernel_rfl)
def d36:Ent:=(7,[tI 1,tI 0,tI 0,tI 0,tI 0,tI 1,tI 2,tI 9,tI 0,tI 0,.sl 3 [],.str (ByteArray.mk #[104,105])],[.str (ByteArray.mk #[36,6,77,66,49,2,0,0,0,0,2,4,18,0,0,0,4,104,105,39,161,127,183]),tI 0])
theorem k36:EOk C.P d36:=AA mix AG (l:=[d9,d13,d16,d19,d22,d25,d26,d27,d35]) ⟨k9,⟨k13,⟨k16,⟨k19,⟨k22,⟨k25,⟨k26,⟨k27,⟨k35,trivial⟩⟩⟩⟩⟩⟩⟩⟩⟩ (n:=5000) (by kernel_rfl)
def d37:Ent:=(83,[.str (ByteArray.mk #[36,6,77,66,49,2,0,0,0,0,2,4,18,0,0,0,4,104,105,39,161,127,183])],[tI 18,tI 1,tI 0])
theorem k37:EOk C.P d37:=AA mix AG (l:=[d28]) ⟨k28,trivial⟩ (n:=5000) (by kernel_rfl)
def d38:Ent:=(41,[.str (ByteArray.mk #[36,6,77,66,49,2,0,0,0,0,2,4,18,0,0,0,4,104,105,39,161,127,183])],[.str (ByteArray.mk #[6,77,66,49,2,0,0,0,0,2,4,18,0,0,0,4,104,105]),tI 23,tI 0])
theorem k38:EOk C.P d38:=AA mix AG (l:=[d37,d34]) ⟨k37,⟨k34,trivial⟩⟩ (n:=5000) (by kernel_rfl)
def d39:Ent:=(84,[.str (ByteArray.mk #[6,77,66,49,2,0,0,0,0,2,4,18,0,0,0,4,104,105])],[.str (ByteArray.mk #[77,66,49]),tI 4,tI 0])
theorem k39:EOk C.P d39:=AA mix AG (l:=[d10]) ⟨k10,trivial⟩ (n:=5000) (by kernel_rfl)
def d40:Ent:=(83,[.str (ByteArray.mk #[2,0,0,0,0,2,4,18,0,0,0,4,104,105])],[tI 1,tI 1,tI 0])
theorem k40:EOk C.P d40:=AA mix AG (l:=[d14]) ⟨k14,trivial⟩ (n:=5000) (by kernel_rfl)
def d41:Ent:=(83,[.str (ByteArray.mk #[0,0,0,0,2,4,18,0,0,0,4,104,105])],[tI 0,tI 1,tI 0])
theorem k41:EOk C.P d41:=AA mix AG (l:=[d17]) ⟨k17,trivial⟩ (n:=5000) (by kernel_rfl)
def d42:Ent:=(83,[.str (ByteArray.mk #[0,0,0,2,4,18,0,0,0,4,104,105])],[tI 0,tI 1,tI 0])
theorem k42:EOk C.P d42:=AA mix AG (l:=[d17]) ⟨k17,trivial⟩ (n:=5000) (by kernel_rfl)
def d43:Ent:=(83,[.str (ByteArray.mk #[0,0,2,4,18,0,0,0,4,104,105])],[tI 0,tI 1,tI 0])
theorem k43:EOk C.P d43:=AA mix AG (l:=[d17]) ⟨k17,trivial⟩ (n:=5000) (by kernel_rfl)
def d44:Ent:=(83,[.str (ByteArray.mk #[0,2,4,18,0,0,0,4,104,105])],[tI 0,tI 1,tI 0])
theorem k44:EOk C.P d44:=AA mix AG (l:=[d17]) ⟨k17,trivial⟩ (n:=5000) (by kernel_rfl)
def d45:Ent:=(83,[.str (ByteArray.mk #[2,4,18,0,0,0,4,104,105])],[tI 1,tI 1,tI 0])
theorem k45:EOk C.P d45:=AA mix AG (l:=[d14]) ⟨k14,trivial⟩ (n:=5000) (by kernel_rfl)
def d46:Ent:=(83,[.str (ByteArray.mk #[4,18,0,0,0,4,104,105])],[tI 2,tI 1,tI 0])
theorem k46:EOk C.P d46:=AA mix AG (l:=[d20]) ⟨k20,trivial⟩ (n:=5000) (by kernel_rfl)
def d47:Ent:=(83,[.str (ByteArray.mk #[18,0,0,0,4,104,105])],[tI 9,tI 1,tI 0])
theorem k47:EOk C.P d47:=AA mix AG (l:=[d23]) ⟨k23,trivial⟩ (n:=5000) (by kernel_rfl)
def d48:Ent:=(83,[.str (ByteArray.mk #[0,0,0,4,104,105])],[tI 0,tI 1,tI 0])
theorem k48:EOk C.P d48:=AA mix AG (l:=[d17]) ⟨k17,trivial⟩ (n:=5000) (by kernel_rfl)
def d49:Ent:=(83,[.str (ByteArray.mk #[0,0,4,104,105])],[tI 0,tI 1,tI 0])
theorem k49:EOk C.P d49:=AA mix AG (l:=[d17]) ⟨k17,trivial⟩ (n:=5000) (by kernel_rfl)
def d50:Ent:=(83,[.str (ByteArray.mk #[0,4,104,105])],[tI 0,tI 1,tI 0])
theorem k50:EOk C.P d50:=AA mix AG (l:=[d17]) ⟨k17,trivial⟩ (n:=5000) (by kernel_rfl)
def d51:Ent:=(93,[.str (ByteArray.mk #[0,4,104,105])],[.sl 3 [],tI 1,tI 0])
theorem k51:EOk C.P d51:=AA mix AG (l:=[d50]) ⟨k50,trivial⟩ (n:=5000) (by kernel_rfl)
def d52:Ent:=(84,[.str (ByteArray.mk #[4,104,105])],[.str (ByteArray.mk #[104,105]),tI 3,tI 0])
theorem k52:EOk C.P d52:=AA mix AG (l:=[d20]) ⟨k20,trivial⟩ (n:=5000) (by kernel_rfl)
def d53:Ent:=(16,[.str (ByteArray.mk #[36,6,77,66,49,2,0,0,0,0,2,4,18,0,0,0,4,104,105,39,161,127,183])],[tI 1,tI 0,tI 0,tI 0,tI 0,tI 1,tI 2,tI 9,tI 0,tI 0,.sl 3 [],.str (ByteArray.mk #[104,105]),tI 0])
theorem k53:EOk C.P d53:=AA mix AG (l:=[d38,d39,d40,d41,d42,d43,d44,d45,d46,d47,d48,d49,d51,d52,d9]) ⟨k38,⟨k39,⟨k40,⟨k41,⟨k42,⟨k43,⟨k44,⟨k45,⟨k46,⟨k47,⟨k48,⟨k49,⟨k51,⟨k52,⟨k9,trivial⟩⟩⟩⟩⟩⟩⟩⟩⟩⟩⟩⟩⟩⟩⟩ (n:=5000) (by kernel_rfl)
def d54:Ent:=(26,[tI 0,tI 1,tI 0,tI 10],[tI 0,tI 1,tI 0,tI 10,tI 24,tI 5,tI 0])
theorem k54:EOk C.P d54:=AA mix AG (l:=[]) trivial (n:=5000) (by kernel_rfl)
def d55:Ent:=(26,[tI 1,tI 2,tI 8,tI 20],[tI 1,tI 2,tI 8,tI 20,tI 24,tI 5,tI 0])
theorem k55:EOk C.P d55:=AA mix AG (l:=[]) trivial (n:=5000) (by kernel_rfl)
def d56:Ent:=(205,[tI 0,tI 0,tI 15],[.bool true])
theorem k56:EOk C.P d56:=AA mix AG (l:=[]) trivial (n:=5000) (by kernel_rfl)
def d57:Ent:=(205,[tI 1,tI 0,tI 15],[.bool true])
theorem k57:EOk C.P d57:=AA mix AG (l:=[]) trivial (n:=5000) (by kernel_rfl)
def d58:Ent:=(205,[tI 24,tI 1,tI 1000],[.bool true])
theorem k58:EOk C.P d58:=AA mix AG (l:=[]) trivial (n:=5000) (by kernel_rfl)
def d59:Ent:=(205,[tI 5,tI 1,tI 1048576],[.bool true])
theorem k59:EOk C.P d59:=AA mix AG (l:=[]) trivial (n:=5000) (by kernel_rfl)
def d60:Ent:=(205,[tI 0,tI 0,tI 16],[.bool true])
theorem k60:EOk C.P d60:=AA mix AG (l:=[]) trivial (n:=5000) (by kernel_rfl)
def d61:Ent:=(179,[tI 0,tI 1,tI 0,tI 10,tI 24,tI 5,tI 0],[tI 0])
theorem k61:EOk C.P d61:=AA mix AG (l:=[d56,d57,d58,d59,d60]) ⟨k56,⟨k57,⟨k58,⟨k59,⟨k60,trivial⟩⟩⟩⟩⟩ (n:=5000) (by kernel_rfl)
def d62:Ent:=(205,[tI 2,tI 0,tI 15],[.bool true])
theorem k62:EOk C.P d62:=AA mix AG (l:=[]) trivial (n:=5000) (by kernel_rfl)
def d63:Ent:=(179,[tI 1,tI 2,tI 8,tI 20,tI 24,tI 5,tI 0],[tI 0])
theorem k63:EOk C.P d63:=AA mix AG (l:=[d57,d62,d58,d59,d60]) ⟨k57,⟨k62,⟨k58,⟨k59,⟨k60,trivial⟩⟩⟩⟩⟩ (n:=5000) (by kernel_rfl)
def d64:Ent:=(197,[tI 1,tI 2,tI 8,tI 20,tI 24,tI 5,tI 0,tI 0,tI 1,tI 0,tI 10,tI 24,tI 5,tI 0],[.bool false])
theorem k64:EOk C.P d64:=AA mix AG (l:=[d63,d61]) ⟨k63,⟨k61,trivial⟩⟩ (n:=5000) (by kernel_rfl)
def d65:Ent:=(160,[.sl 1 [[tI 50],[tI 50],[tI 50]],.sl 7 [[tI 0,tI 1,tI 0,tI 10,tI 24,tI 5,tI 0],[tI 1,tI 2,tI 8,tI 20,tI 24,tI 5,tI 0]]],[tI 0])
theorem k65:EOk C.P d65:=AA mix AG (l:=[d61,d63,d64]) ⟨k61,⟨k63,⟨k64,trivial⟩⟩⟩ (n:=5000) (by kernel_rfl)
def d66:Ent:=(161,[.sl 1 [[tI 50],[tI 50],[tI 50]],.sl 7 [[tI 0,tI 1,tI 0,tI 10,tI 24,tI 5,tI 0],[tI 1,tI 2,tI 8,tI 20,tI 24,tI 5,tI 0]],.sl 4 []],[tI 0])
theorem k66:EOk C.P d66:=AA mix AG (l:=[d65]) ⟨k65,trivial⟩ (n:=5000) (by kernel_rfl)
def d67:Ent:=(220,[.int .u64 0],[tI 0])
theorem k67:EOk C.P d67:=AA mix AG (l:=[]) trivial (n:=5000) (by kernel_rfl)
def d68:Ent:=(178,[.int .u64 0],[tI 0])
theorem k68:EOk C.P d68:=AA mix AG (l:=[d67]) ⟨k67,trivial⟩ (n:=5000) (by kernel_rfl)
def d69:Ent:=(270,[.sl 1 [],tI 0,tI 0],[])
theorem k69:EOk C.P d69:=AA mix AG (l:=[]) trivial (n:=5000) (by kernel_rfl)
def d70:Ent:=(244,[.sl 1 [],tI 0,tI 0,tI 0],[])
theorem k70:EOk C.P d70:=AA mix AG (l:=[d69]) ⟨k69,trivial⟩ (n:=5000) (by kernel_rfl)
def d71:Ent:=(209,[.sl 1 []],[])
theorem k71:EOk C.P d71:=AA mix AG (l:=[d68,d70]) ⟨k68,⟨k70,trivial⟩⟩ (n:=5000) (by kernel_rfl)
def d72:Ent:=(169,[.sl 5 [],tI 0],[.sl 2 []])
theorem k72:EOk C.P d72:=AA mix AG (l:=[d71]) ⟨k71,trivial⟩ (n:=5000) (by kernel_rfl)
def d73:Ent:=(202,[.sl 2 []],[tI 0])
theorem k73:EOk C.P d73:=AA mix AG (l:=[]) trivial (n:=5000) (by kernel_rfl)
def d74:Ent:=(169,[.sl 5 [],tI 1],[.sl 2 []])
theorem k74:EOk C.P d74:=AA mix AG (l:=[d71]) ⟨k71,trivial⟩ (n:=5000) (by kernel_rfl)
def d75:Ent:=(169,[.sl 5 [],tI 2],[.sl 2 []])
theorem k75:EOk C.P d75:=AA mix AG (l:=[d71]) ⟨k71,trivial⟩ (n:=5000) (by kernel_rfl)
def d76:Ent:=(162,[.sl 1 [[tI 50],[tI 50],[tI 50]],.sl 7 [[tI 0,tI 1,tI 0,tI 10,tI 24,tI 5,tI 0],[tI 1,tI 2,tI 8,tI 20,tI 24,tI 5,tI 0]],.sl 5 []],[tI 0])
theorem k76:EOk C.P d76:=AA mix AG (l:=[d65,d72,d73,d74,d75]) ⟨k65,⟨k72,⟨k73,⟨k74,⟨k75,trivial⟩⟩⟩⟩⟩ (n:=5000) (by kernel_rfl)
def d77:Ent:=(110,[.sl 1 [[tI 50],[tI 50],[tI 50]],.sl 7 [[tI 0,tI 1,tI 0,tI 10,tI 24,tI 5,tI 0],[tI 1,tI 2,tI 8,tI 20,tI 24,tI 5,tI 0]],.sl 4 [],.sl 5 []],[tI 0])
theorem k77:EOk C.P d77:=AA mix AG (l:=[d65,d66,d76]) ⟨k65,⟨k66,⟨k76,trivial⟩⟩⟩ (n:=5000) (by kernel_rfl)
def d78:Ent:=(111,[.sl 1 [[tI 50],[tI 50],[tI 50]],.sl 7 [[tI 0,tI 1,tI 0,tI 10,tI 24,tI 5,tI 0],[tI 1,tI 2,tI 8,tI 20,tI 24,tI 5,tI 0]],tI 0,tI 2,tI 16,tI 0,tI 50,tI 0,.bool false],[tI 0])
theorem k78:EOk C.P d78:=AA mix AG (l:=[d65]) ⟨k65,trivial⟩ (n:=5000) (by kernel_rfl)
def d79:Ent:=(163,[.sl 1 [[tI 50],[tI 50],[tI 50]],.sl 7 [[tI 0,tI 1,tI 0,tI 10,tI 24,tI 5,tI 0],[tI 1,tI 2,tI 8,tI 20,tI 24,tI 5,tI 0]],.sl 4 [],tI 0],[tI 0])
theorem k79:EOk C.P d79:=AA mix AG (l:=[d66]) ⟨k66,trivial⟩ (n:=5000) (by kernel_rfl)
def d80:Ent:=(204,[.sl 4 [],tI 0],[.sl 2 []])
theorem k80:EOk C.P d80:=AA mix AG (l:=[]) trivial (n:=5000) (by kernel_rfl)
def d81:Ent:=(164,[.sl 1 [[tI 50],[tI 50],[tI 50]],.sl 7 [[tI 0,tI 1,tI 0,tI 10,tI 24,tI 5,tI 0],[tI 1,tI 2,tI 8,tI 20,tI 24,tI 5,tI 0]],.sl 4 [],tI 0,tI 0],[.sl 2 [[tI 0,tI 10]]])
theorem k81:EOk C.P d81:=AA mix AG (l:=[d80]) ⟨k80,trivial⟩ (n:=5000) (by kernel_rfl)
def d82:Ent:=(112,[.sl 1 [[tI 50],[tI 50],[tI 50]],.sl 7 [[tI 0,tI 1,tI 0,tI 10,tI 24,tI 5,tI 0],[tI 1,tI 2,tI 8,tI 20,tI 24,tI 5,tI 0]],.sl 4 [],tI 0],[.sl 2 [[tI 0,tI 10]],tI 0])
theorem k82:EOk C.P d82:=AA mix AG (l:=[d79,d81]) ⟨k79,⟨k81,trivial⟩⟩ (n:=5000) (by kernel_rfl)
def d83:Ent:=(205,[tI 16,tI 1,tI 65536],[.bool true])
theorem k83:EOk C.P d83:=AA mix AG (l:=[]) trivial (n:=5000) (by kernel_rfl)
def d84:Ent:=(165,[tI 0,tI 1,tI 0,tI 10,tI 24,tI 5,tI 0,tI 16],[tI 0])
theorem k84:EOk C.P d84:=AA mix AG (l:=[d61,d83]) ⟨k61,⟨k83,trivial⟩⟩ (n:=5000) (by kernel_rfl)
def d85:Ent:=(207,[tI 0,tI 1,tI 0,tI 10,tI 24,tI 5,tI 0,tI 16],[tI 1])
theorem k85:EOk C.P d85:=AA mix AG (l:=[]) trivial (n:=5000) (by kernel_rfl)
def d86:Ent:=(206,[tI 0,tI 1,tI 0,tI 10,tI 24,tI 5,tI 0,tI 16],[tI 1])
theorem k86:EOk C.P d86:=AA mix AG (l:=[d85]) ⟨k85,trivial⟩ (n:=5000) (by kernel_rfl)
def d87:Ent:=(166,[tI 0,tI 1,tI 0,tI 10,tI 24,tI 5,tI 0,tI 16],[tI 1])
theorem k87:EOk C.P d87:=AA mix AG (l:=[d86,d85]) ⟨k86,⟨k85,trivial⟩⟩ (n:=5000) (by kernel_rfl)
def d88:Ent:=(113,[tI 0,tI 1,tI 0,tI 10,tI 24,tI 5,tI 0,tI 16],[tI 1,tI 0])
theorem k88:EOk C.P d88:=AA mix AG (l:=[d84,d87]) ⟨k84,⟨k87,trivial⟩⟩ (n:=5000) (by kernel_rfl)
def d89:Ent:=(163,[.sl 1 [[tI 50],[tI 50],[tI 50]],.sl 7 [[tI 0,tI 1,tI 0,tI 10,tI 24,tI 5,tI 0],[tI 1,tI 2,tI 8,tI 20,tI 24,tI 5,tI 0]],.sl 4 [],tI 1],[tI 0])
theorem k89:EOk C.P d89:=AA mix AG (l:=[d66]) ⟨k66,trivial⟩ (n:=5000) (by kernel_rfl)
def d90:Ent:=(204,[.sl 4 [],tI 1],[.sl 2 []])
theorem k90:EOk C.P d90:=AA mix AG (l:=[]) trivial (n:=5000) (by kernel_rfl)
def d91:Ent:=(164,[.sl 1 [[tI 50],[tI 50],[tI 50]],.sl 7 [[tI 0,tI 1,tI 0,tI 10,tI 24,tI 5,tI 0],[tI 1,tI 2,tI 8,tI 20,tI 24,tI 5,tI 0]],.sl 4 [],tI 1,tI 8],[.sl 2 [[tI 8,tI 20]]])
theorem k91:EOk C.P d91:=AA mix AG (l:=[d90]) ⟨k90,trivial⟩ (n:=5000) (by kernel_rfl)
def d92:Ent:=(112,[.sl 1 [[tI 50],[tI 50],[tI 50]],.sl 7 [[tI 0,tI 1,tI 0,tI 10,tI 24,tI 5,tI 0],[tI 1,tI 2,tI 8,tI 20,tI 24,tI 5,tI 0]],.sl 4 [],tI 1],[.sl 2 [[tI 8,tI 20]],tI 0])
theorem k92:EOk C.P d92:=AA mix AG (l:=[d89,d91]) ⟨k89,⟨k91,trivial⟩⟩ (n:=5000) (by kernel_rfl)
def d93:Ent:=(165,[tI 1,tI 2,tI 8,tI 20,tI 24,tI 5,tI 0,tI 16],[tI 0])
theorem k93:EOk C.P d93:=AA mix AG (l:=[d63,d83]) ⟨k63,⟨k83,trivial⟩⟩ (n:=5000) (by kernel_rfl)
def d94:Ent:=(207,[tI 1,tI 2,tI 8,tI 20,tI 24,tI 5,tI 0,tI 16],[tI 1])
theorem k94:EOk C.P d94:=AA mix AG (l:=[]) trivial (n:=5000) (by kernel_rfl)
def d95:Ent:=(206,[tI 1,tI 2,tI 8,tI 20,tI 24,tI 5,tI 0,tI 16],[tI 1])
theorem k95:EOk C.P d95:=AA mix AG (l:=[d94]) ⟨k94,trivial⟩ (n:=5000) (by kernel_rfl)
def d96:Ent:=(166,[tI 1,tI 2,tI 8,tI 20,tI 24,tI 5,tI 0,tI 16],[tI 1])
theorem k96:EOk C.P d96:=AA mix AG (l:=[d95,d94]) ⟨k95,⟨k94,trivial⟩⟩ (n:=5000) (by kernel_rfl)
def d97:Ent:=(113,[tI 1,tI 2,tI 8,tI 20,tI 24,tI 5,tI 0,tI 16],[tI 1,tI 0])
theorem k97:EOk C.P d97:=AA mix AG (l:=[d93,d96]) ⟨k93,⟨k96,trivial⟩⟩ (n:=5000) (by kernel_rfl)
def d98:Ent:=(114,[.sl 1 [[tI 50],[tI 50],[tI 50]],.sl 7 [[tI 0,tI 1,tI 0,tI 10,tI 24,tI 5,tI 0],[tI 1,tI 2,tI 8,tI 20,tI 24,tI 5,tI 0]],.sl 5 [],tI 0,tI 16],[.sl 2 [[tI 0,tI 1099511627776]],tI 0])
theorem k98:EOk C.P d98:=AA mix AG (l:=[d76,d72]) ⟨k76,⟨k72,trivial⟩⟩ (n:=5000) (by kernel_rfl)
def d99:Ent:=(114,[.sl 1 [[tI 50],[tI 50],[tI 50]],.sl 7 [[tI 0,tI 1,tI 0,tI 10,tI 24,tI 5,tI 0],[tI 1,tI 2,tI 8,tI 20,tI 24,tI 5,tI 0]],.sl 5 [],tI 1,tI 16],[.sl 2 [[tI 0,tI 1099511627776]],tI 0])
theorem k99:EOk C.P d99:=AA mix AG (l:=[d76,d74]) ⟨k76,⟨k74,trivial⟩⟩ (n:=5000) (by kernel_rfl)
def d100:Ent:=(114,[.sl 1 [[tI 50],[tI 50],[tI 50]],.sl 7 [[tI 0,tI 1,tI 0,tI 10,tI 24,tI 5,tI 0],[tI 1,tI 2,tI 8,tI 20,tI 24,tI 5,tI 0]],.sl 5 [],tI 2,tI 16],[.sl 2 [[tI 0,tI 1099511627776]],tI 0])
theorem k100:EOk C.P d100:=AA mix AG (l:=[d76,d75]) ⟨k76,⟨k75,trivial⟩⟩ (n:=5000) (by kernel_rfl)
def d101:Ent:=(120,[tI 0,tI 0,tI 1099511627776,tI 0,tI 0,tI 0,tI 1099511627776,tI 0],[.bool true])
theorem k101:EOk C.P d101:=AA mix AG (l:=[]) trivial (n:=5000) (by kernel_rfl)
def d102:Ent:=(120,[tI 1,tI 0,tI 1099511627776,tI 6,tI 0,tI 0,tI 1099511627776,tI 0],[.bool false])
theorem k102:EOk C.P d102:=AA mix AG (l:=[]) trivial (n:=5000) (by kernel_rfl)
def d103:Ent:=(120,[tI 1,tI 0,tI 1099511627776,tI 6,tI 1,tI 0,tI 1099511627776,tI 6],[.bool true])
theorem k103:EOk C.P d103:=AA mix AG (l:=[]) trivial (n:=5000) (by kernel_rfl)
def d104:Ent:=(220,[.int .u64 2],[tI 2])
theorem k104:EOk C.P d104:=AA mix AG (l:=[]) trivial (n:=5000) (by kernel_rfl)
def d105:Ent:=(178,[.int .u64 2],[tI 2])
theorem k105:EOk C.P d105:=AA mix AG (l:=[d104]) ⟨k104,trivial⟩ (n:=5000) (by kernel_rfl)
def d106:Ent:=(210,[tI 6],[.bool false])
theorem k106:EOk C.P d106:=AA mix AG (l:=[]) trivial (n:=5000) (by kernel_rfl)
def d107:Ent:=(210,[tI 0],[.bool false])
theorem k107:EOk C.P d107:=AA mix AG (l:=[]) trivial (n:=5000) (by kernel_rfl)
def d108:Ent:=(175,[tI 6,tI 0],[tI 1])
theorem k108:EOk C.P d108:=AA mix AG (l:=[d106,d107]) ⟨k106,⟨k107,trivial⟩⟩ (n:=5000) (by kernel_rfl)
def d109:Ent:=(210,[tI 1],[.bool false])
theorem k109:EOk C.P d109:=AA mix AG (l:=[]) trivial (n:=5000) (by kernel_rfl)
def d110:Ent:=(175,[tI 1,tI 0],[tI 1])
theorem k110:EOk C.P d110:=AA mix AG (l:=[d109,d107]) ⟨k109,⟨k107,trivial⟩⟩ (n:=5000) (by kernel_rfl)
def d111:Ent:=(175,[tI 0,tI 0],[tI 0])
theorem k111:EOk C.P d111:=AA mix AG (l:=[d107]) ⟨k107,trivial⟩ (n:=5000) (by kernel_rfl)
def d112:Ent:=(174,[.sl 1 [[tI 1],[tI 1],[tI 0]]],[tI 1])
theorem k112:EOk C.P d112:=AA mix AG (l:=[]) trivial (n:=5000) (by kernel_rfl)
def d113:Ent:=(117,[tI 1,tI 0,tI 1099511627776,tI 6,tI 0,tI 0,tI 1099511627776,tI 0],[tI 1])
theorem k113:EOk C.P d113:=AA mix AG (l:=[d108,d110,d111,d112]) ⟨k108,⟨k110,⟨k111,⟨k112,trivial⟩⟩⟩⟩ (n:=5000) (by kernel_rfl)
def d114:Ent:=(27,[.sl 1 [[tI 50],[tI 50],[tI 50]],.sl 7 [[tI 0,tI 1,tI 0,tI 10,tI 24,tI 5,tI 0],[tI 1,tI 2,tI 8,tI 20,tI 24,tI 5,tI 0]],.sl 4 [],.sl 5 [],tI 0,tI 2,tI 16,tI 0,tI 50,tI 0,.bool false],[tI 14,tI 0])
theorem k114:EOk C.P d114:=AA mix AG (l:=[d77,d78,d82,d88,d92,d97,d98,d99,d100,d101,d102,d103,d105,d113]) ⟨k77,⟨k78,⟨k82,⟨k88,⟨k92,⟨k97,⟨k98,⟨k99,⟨k100,⟨k101,⟨k102,⟨k103,⟨k105,⟨k113,trivial⟩⟩⟩⟩⟩⟩⟩⟩⟩⟩⟩⟩⟩⟩ (n:=5000) (by kernel_rfl)
def d115:Ent:=(80,[.sl 2 []],[tI 0])
theorem QK:EOk C.P d115:=AA mix AG (l:=[]) trivial (n:=5000) (by kernel_rfl)
def d116:Ent:=(180,[tI 0,tI 0,tI 1099511627776],[.bool true])
theorem k116:EOk C.P d116:=AA mix AG (l:=[]) trivial (n:=5000) (by kernel_rfl)
def d117:Ent:=(254,[.str (ByteArray.mk #[104,101,108,108,111])],[.sl 2 [[tI 0,tI 5]]])
theorem k117:EOk C.P d117:=AA mix AG (l:=[]) trivial (n:=5000) (by kernel_rfl)
def d118:Ent:=(130,[tI 0,tI 5],[.bool true])
theorem k118:EOk C.P d118:=AA mix AG (l:=[]) trivial (n:=5000) (by kernel_rfl)
def d119:Ent:=(80,[.sl 2 [[tI 0,tI 5]]],[tI 0])
theorem k119:EOk C.P d119:=AA mix AG (l:=[d118]) ⟨k118,trivial⟩ (n:=5000) (by kernel_rfl)
def d120:Ent:=(280,[.bool true,.bool false],[.bool true])
theorem k120:EOk C.P d120:=AA mix AG (l:=[]) trivial (n:=5000) (by kernel_rfl)
def d121:Ent:=(280,[.bool false,.bool false],[.bool false])
theorem k121:EOk C.P d121:=AA mix AG (l:=[]) trivial (n:=5000) (by kernel_rfl)
def d122:Ent:=(253,[.sl 2 [[tI 0,tI 5]],.sl 2 []],[.sl 2 [[tI 0,tI 5]],tI 0])
theorem k122:EOk C.P d122:=AA mix AG (l:=[d119,d115,d120,d121]) ⟨k119,⟨QK,⟨k120,⟨k121,trivial⟩⟩⟩⟩ (n:=5000) (by kernel_rfl)
def d123:Ent:=(225,[tI 0,tI 0,tI 0,tI 0,tI 0,tI 0,tI 0,tI 0,.str (ByteArray.mk #[104,101,108,108,111]),tI 0,tI 0,tI 0,.sl 2 [],tI 0,tI 0],[.sl 2 [[tI 0,tI 5]]])
theorem k123:EOk C.P d123:=AA mix AG (l:=[d117,d122]) ⟨k117,⟨k122,trivial⟩⟩ (n:=5000) (by kernel_rfl)
def d124:Ent:=(35,[tI 0,tI 0,tI 1099511627776],[.bool true])
theorem k124:EOk C.P d124:=AA mix AG (l:=[]) trivial (n:=5000) (by kernel_rfl)
def d125:Ent:=(35,[tI 1,tI 1,tI 1099511627776],[.bool true])
theorem k125:EOk C.P d125:=AA mix AG (l:=[]) trivial (n:=5000) (by kernel_rfl)
def d126:Ent:=(36,[.sl 2 [[tI 0,tI 5]],tI 5],[.bool true])
theorem k126:EOk C.P d126:=AA mix AG (l:=[d119]) ⟨k119,trivial⟩ (n:=5000) (by kernel_rfl)
def d127:Ent:=(8,[tI 0,tI 1,.str (ByteArray.mk #[104,101,108,108,111]),.sl 2 [[tI 0,tI 5]]],[.sl 8 [[tI 1,tI 0,tI 1,tI 0,tI 5,.bool true,.str (ByteArray.mk #[104,101,108,108,111]),.sl 2 []]],tI 0])
theorem k127:EOk C.P d127:=AA mix AG (l:=[d124,d125,d126]) ⟨k124,⟨k125,⟨k126,trivial⟩⟩⟩ (n:=5000) (by kernel_rfl)
def d128:Ent:=(182,[tI 0,tI 0,tI 0,tI 0,tI 0,tI 0,tI 0,tI 0,.str (ByteArray.mk #[104,101,108,108,111]),tI 0,tI 0,tI 0,.sl 2 [],tI 0,tI 0],[.sl 8 [[tI 1,tI 0,tI 1,tI 0,tI 5,.bool true,.str (ByteArray.mk #[104,101,108,108,111]),.sl 2 []]]])
theorem k128:EOk C.P d128:=AA mix AG (l:=[d123,d127]) ⟨k123,⟨k127,trivial⟩⟩ (n:=5000) (by kernel_rfl)
def d129:Ent:=(35,[tI 1,tI 1,tI 3],[.bool true])
theorem k129:EOk C.P d129:=AA mix AG (l:=[]) trivial (n:=5000) (by kernel_rfl)
def d130:Ent:=(35,[tI 1,tI 0,tI 1099511627776],[.bool true])
theorem k130:EOk C.P d130:=AA mix AG (l:=[]) trivial (n:=5000) (by kernel_rfl)
def d131:Ent:=(35,[tI 5,tI 1,tI 65536],[.bool true])
theorem k131:EOk C.P d131:=AA mix AG (l:=[]) trivial (n:=5000) (by kernel_rfl)
def d132:Ent:=(35,[tI 0,tI 0,tI 4],[.bool true])
theorem k132:EOk C.P d132:=AA mix AG (l:=[]) trivial (n:=5000) (by kernel_rfl)
def d133:Ent:=(131,[tI 1,tI 0,tI 1,tI 0,tI 5,.bool true,.str (ByteArray.mk #[104,101,108,108,111]),.sl 2 []],[.bool true])
theorem k133:EOk C.P d133:=AA mix AG (l:=[d131,d132]) ⟨k131,⟨k132,trivial⟩⟩ (n:=5000) (by kernel_rfl)
def d134:Ent:=(35,[tI 5,tI 1,tI 5],[.bool true])
theorem k134:EOk C.P d134:=AA mix AG (l:=[]) trivial (n:=5000) (by kernel_rfl)
def d135:Ent:=(132,[tI 1,tI 0,tI 1,tI 0,tI 5,.bool true,.str (ByteArray.mk #[104,101,108,108,111]),.sl 2 []],[.bool true])
theorem k135:EOk C.P d135:=AA mix AG (l:=[d134]) ⟨k134,trivial⟩ (n:=5000) (by kernel_rfl)
def d136:Ent:=(38,[tI 1,tI 0,tI 1,tI 0,tI 5,.bool true,.str (ByteArray.mk #[104,101,108,108,111]),.sl 2 []],[tI 0])
theorem k136:EOk C.P d136:=AA mix AG (l:=[d129,d124,d130,d133,d135]) ⟨k129,⟨k124,⟨k130,⟨k133,⟨k135,trivial⟩⟩⟩⟩⟩ (n:=5000) (by kernel_rfl)
def d137:Ent:=(35,[tI 24,tI 1,tI 1000],[.bool true])
theorem k137:EOk C.P d137:=AA mix AG (l:=[]) trivial (n:=5000) (by kernel_rfl)
def d138:Ent:=(252,[tI 24,tI 1,tI 0,tI 1,tI 0,tI 5,.bool true,.str (ByteArray.mk #[104,101,108,108,111]),.sl 2 []],[tI 1,tI 0])
theorem k138:EOk C.P d138:=AA mix AG (l:=[d136,d137]) ⟨k136,⟨k137,trivial⟩⟩ (n:=5000) (by kernel_rfl)
def d139:Ent:=(224,[tI 0,tI 1,tI 0,tI 10,tI 24,tI 5,tI 0,tI 0,.str (ByteArray.mk #[104,101,108,108,111]),tI 10,tI 1,tI 1,.sl 2 [],tI 0,tI 1],[tI 12])
theorem k139:EOk C.P d139:=AA mix AG (l:=[]) trivial (n:=5000) (by kernel_rfl)
def d140:Ent:=(2011599,[tI 0,tI 1,tI 0,tI 10,tI 24,tI 5,tI 0,tI 0,.str (ByteArray.mk #[104,101,108,108,111]),tI 10,tI 0,tI 0,.sl 2 [],tI 0,tI 0,tI 0,.sl 8 [[tI 1,tI 0,tI 1,tI 0,tI 5,.bool true,.str (ByteArray.mk #[104,101,108,108,111]),.sl 2 []]]],[tI 0,tI 1,tI 0,tI 10,tI 24,tI 5,tI 0,tI 0,.str (ByteArray.mk #[104,101,108,108,111]),tI 10,tI 1,tI 1,.sl 2 [],tI 12,tI 1,.sl 9 [[tI 1,tI 1,tI 0,tI 1,tI 0,tI 5,.bool true,.str (ByteArray.mk #[104,101,108,108,111]),.sl 2 []]]])
theorem k140:EOk C.P d140:=AA mix AG (l:=[d138,d139]) ⟨k138,⟨k139,trivial⟩⟩ (n:=5000) (by kernel_rfl)
def d141:Ent:=(2007951,[tI 0,tI 1,tI 0,tI 10,tI 24,tI 5,tI 0,tI 0,.str (ByteArray.mk #[104,101,108,108,111]),tI 0,tI 10],[tI 0,tI 1,tI 0,tI 10,tI 24,tI 5,tI 0,tI 0,.str (ByteArray.mk #[104,101,108,108,111]),tI 10,tI 1,tI 1,.sl 2 [],tI 12,tI 1,.sl 9 [[tI 1,tI 1,tI 0,tI 1,tI 0,tI 5,.bool true,.str (ByteArray.mk #[104,101,108,108,111]),.sl 2 []]],tI 0])
theorem k141:EOk C.P d141:=AA mix AG (l:=[d61,d116,d128,d140]) ⟨k61,⟨k116,⟨k128,⟨k140,trivial⟩⟩⟩⟩ (n:=5000) (by kernel_rfl)
def d142:Ent:=(183,[tI 5],[.bool true])
theorem T8:EOk C.P d142:=AA mix AG (l:=[]) trivial (n:=5000) (by kernel_rfl)
def d143:Ent:=(125,[tI 5],[tI 5,.sl 10 [],tI 0,tI 0,tI 0])
theorem k143:EOk C.P d143:=AA mix AG (l:=[d142]) ⟨T8,trivial⟩ (n:=5000) (by kernel_rfl)
def d144:Ent:=(44,[tI 0],[tI 0,tI (-1),.sl 2 [],.str (ByteArray.mk #[]),tI 0])
theorem k144:EOk C.P d144:=AA mix AG (l:=[]) trivial (n:=5000) (by kernel_rfl)
def d145:Ent:=(255,[tI 5,.sl 10 [],tI 0,tI 0],[tI 0])
theorem k145:EOk C.P d145:=AA mix AG (l:=[d142]) ⟨T8,trivial⟩ (n:=5000) (by kernel_rfl)
def d146:Ent:=(228,[tI 5,.sl 10 [],tI 0,tI 0],[tI 0,.bool false])
theorem k146:EOk C.P d146:=AA mix AG (l:=[d145]) ⟨k145,trivial⟩ (n:=5000) (by kernel_rfl)
def d147:Ent:=(297,[.sl 2 [],tI 1],[.bool false])
theorem k147:EOk C.P d147:=AA mix AG (l:=[d115]) ⟨QK,trivial⟩ (n:=5000) (by kernel_rfl)
def d148:Ent:=(1000292,[.sl 10 []],[.sl 10 []])
theorem k148:EOk C.P d148:=AA mix AG (l:=[]) trivial (n:=5000) (by kernel_rfl)
def d149:Ent:=(308,[.sl 1 [[tI 5]],tI 5],[tI 0])
theorem k149:EOk C.P d149:=AA mix AG (l:=[]) trivial (n:=5000) (by kernel_rfl)
def d150:Ent:=(296,[.sl 1 [[tI 5]],tI 5],[.bool true])
theorem k150:EOk C.P d150:=AA mix AG (l:=[d149]) ⟨k149,trivial⟩ (n:=5000) (by kernel_rfl)
def d151:Ent:=(281,[tI 5,.sl 10 [],tI 0,tI 0,tI 1,tI 1,tI 0,tI 1,tI 0,tI 5,.bool true,.str (ByteArray.mk #[104,101,108,108,111]),.sl 2 [],.sl 1 [[tI 5]]],[tI 5,.sl 10 [[tI 6,tI 0,tI 1,tI 0,tI 1,tI 0,tI 5,.bool true,.str (ByteArray.mk #[104,101,108,108,111]),.sl 2 []]],tI 1,tI 0,tI 0])
theorem k151:EOk C.P d151:=AA mix AG (l:=[d145,d148,d150]) ⟨k145,⟨k148,⟨k150,trivial⟩⟩⟩ (n:=5000) (by kernel_rfl)
def d152:Ent:=(255,[tI 5,.sl 10 [[tI 6,tI 0,tI 1,tI 0,tI 1,tI 0,tI 5,.bool true,.str (ByteArray.mk #[104,101,108,108,111]),.sl 2 []]],tI 1,tI 0],[tI 0])
theorem k152:EOk C.P d152:=AA mix AG (l:=[d142]) ⟨T8,trivial⟩ (n:=5000) (by kernel_rfl)
def d153:Ent:=(228,[tI 5,.sl 10 [[tI 6,tI 0,tI 1,tI 0,tI 1,tI 0,tI 5,.bool true,.str (ByteArray.mk #[104,101,108,108,111]),.sl 2 []]],tI 1,tI 0],[tI 6,.bool true])
theorem k153:EOk C.P d153:=AA mix AG (l:=[d152]) ⟨k152,trivial⟩ (n:=5000) (by kernel_rfl)
def d154:Ent:=(283,[tI 5,.sl 10 [[tI 6,tI 0,tI 1,tI 0,tI 1,tI 0,tI 5,.bool true,.str (ByteArray.mk #[104,101,108,108,111]),.sl 2 []]],tI 1,tI 0],[tI 5,.sl 10 [],tI 1,tI 0,tI 6,tI 0,tI 1,tI 0,tI 1,tI 0,tI 5,.bool true,.str (ByteArray.mk #[104,101,108,108,111]),.sl 2 [],tI 0])
theorem k154:EOk C.P d154:=AA mix AG (l:=[d152,d148]) ⟨k152,⟨k148,trivial⟩⟩ (n:=5000) (by kernel_rfl)
def d155:Ent:=(91,[.str (ByteArray.mk #[]),.str (ByteArray.mk #[0])],[.str (ByteArray.mk #[])])
theorem k155:EOk C.P d155:=AA mix AG (l:=[]) trivial (n:=5000) (by kernel_rfl)
def d156:Ent:=(46,[tI 0,tI (-1),.sl 2 [],.str (ByteArray.mk #[])],[tI 0])
theorem k156:EOk C.P d156:=AA mix AG (l:=[d115,d155]) ⟨QK,⟨k155,trivial⟩⟩ (n:=5000) (by kernel_rfl)
def d157:Ent:=(188,[.bool false,.bool true],[.bool true])
theorem k157:EOk C.P d157:=AA mix AG (l:=[]) trivial (n:=5000) (by kernel_rfl)
def d158:Ent:=(188,[.bool false,.bool false],[.bool false])
theorem k158:EOk C.P d158:=AA mix AG (l:=[]) trivial (n:=5000) (by kernel_rfl)
def d159:Ent:=(145,[.sl 2 [],.sl 2 [[tI 0,tI 5]]],[.sl 2 [[tI 0,tI 5]],tI 0])
theorem k159:EOk C.P d159:=AA mix AG (l:=[d115,d119,d157,d158]) ⟨QK,⟨k119,⟨k157,⟨k158,trivial⟩⟩⟩⟩ (n:=5000) (by kernel_rfl)
def d160:Ent:=(87,[tI 0,tI (-1),.sl 2 [],.str (ByteArray.mk #[]),tI 1,tI 0,tI 1,tI 0,tI 5,.bool true,.str (ByteArray.mk #[104,101,108,108,111]),.sl 2 []],[.sl 2 [[tI 0,tI 5]],tI 0])
theorem k160:EOk C.P d160:=AA mix AG (l:=[d159]) ⟨k159,trivial⟩ (n:=5000) (by kernel_rfl)
def d161:Ent:=(86,[tI 0,tI (-1),.sl 2 [],.str (ByteArray.mk #[]),tI 1,tI 0,tI 1,tI 0,tI 5,.bool true,.str (ByteArray.mk #[104,101,108,108,111]),.sl 2 []],[.bool true])
theorem k161:EOk C.P d161:=AA mix AG (l:=[d160]) ⟨k160,trivial⟩ (n:=5000) (by kernel_rfl)
def d162:Ent:=(89,[.sl 2 [[tI 0,tI 5]]],[.sl 2 [[tI 0,tI 5]]])
theorem k162:EOk C.P d162:=AA mix AG (l:=[]) trivial (n:=5000) (by kernel_rfl)
def d163:Ent:=(35,[tI 2,tI 1,tI 3],[.bool true])
theorem k163:EOk C.P d163:=AA mix AG (l:=[]) trivial (n:=5000) (by kernel_rfl)
def d164:Ent:=(133,[tI 2,tI 0,tI 1,tI 0,tI 5,.bool false,.str (ByteArray.mk #[]),.sl 2 [[tI 0,tI 5]]],[.bool true])
theorem k164:EOk C.P d164:=AA mix AG (l:=[d131]) ⟨k131,trivial⟩ (n:=5000) (by kernel_rfl)
def d165:Ent:=(134,[tI 2,tI 0,tI 1,tI 0,tI 5,.bool false,.str (ByteArray.mk #[]),.sl 2 [[tI 0,tI 5]]],[.bool true])
theorem k165:EOk C.P d165:=AA mix AG (l:=[d126]) ⟨k126,trivial⟩ (n:=5000) (by kernel_rfl)
def d166:Ent:=(38,[tI 2,tI 0,tI 1,tI 0,tI 5,.bool false,.str (ByteArray.mk #[]),.sl 2 [[tI 0,tI 5]]],[tI 0])
theorem k166:EOk C.P d166:=AA mix AG (l:=[d163,d124,d130,d164,d165]) ⟨k163,⟨k124,⟨k130,⟨k164,⟨k165,trivial⟩⟩⟩⟩⟩ (n:=5000) (by kernel_rfl)
def d167:Ent:=(88,[tI 0,tI 1,tI 5,.sl 2 [[tI 0,tI 5]]],[tI 2,tI 0,tI 1,tI 0,tI 5,.bool false,.str (ByteArray.mk #[]),.sl 2 [[tI 0,tI 5]],tI 0])
theorem k167:EOk C.P d167:=AA mix AG (l:=[d166]) ⟨k166,trivial⟩ (n:=5000) (by kernel_rfl)
def d168:Ent:=(45,[tI 0,tI (-1),.sl 2 [],.str (ByteArray.mk #[]),tI 1,tI 0,tI 1,tI 0,tI 5,.bool true,.str (ByteArray.mk #[104,101,108,108,111]),.sl 2 []],[tI 0,tI 5,.sl 2 [[tI 0,tI 5]],.str (ByteArray.mk #[104,101,108,108,111]),.sl 8 [[tI 2,tI 0,tI 1,tI 0,tI 5,.bool false,.str (ByteArray.mk #[]),.sl 2 [[tI 0,tI 5]]]],tI 0])
theorem k168:EOk C.P d168:=AA mix AG (l:=[d156,d136,d161,d160,d162,d167]) ⟨k156,⟨k136,⟨k161,⟨k160,⟨k162,⟨k167,trivial⟩⟩⟩⟩⟩⟩ (n:=5000) (by kernel_rfl)
def d169:Ent:=(297,[.sl 2 [],tI 6],[.bool false])
theorem k169:EOk C.P d169:=AA mix AG (l:=[d115]) ⟨QK,trivial⟩ (n:=5000) (by kernel_rfl)
def d170:Ent:=(281,[tI 5,.sl 10 [],tI 0,tI 0,tI 6,tI 2,tI 0,tI 1,tI 0,tI 5,.bool false,.str (ByteArray.mk #[]),.sl 2 [[tI 0,tI 5]],.sl 1 [[tI 5]]],[tI 5,.sl 10 [[tI 11,tI 0,tI 2,tI 0,tI 1,tI 0,tI 5,.bool false,.str (ByteArray.mk #[]),.sl 2 [[tI 0,tI 5]]]],tI 1,tI 0,tI 0])
theorem k170:EOk C.P d170:=AA mix AG (l:=[d145,d148,d150]) ⟨k145,⟨k148,⟨k150,trivial⟩⟩⟩ (n:=5000) (by kernel_rfl)
def d171:Ent:=(46,[tI 0,tI 5,.sl 2 [[tI 0,tI 5]],.str (ByteArray.mk #[104,101,108,108,111])],[tI 0])
theorem k171:EOk C.P d171:=AA mix AG (l:=[d119,d155]) ⟨k119,⟨k155,trivial⟩⟩ (n:=5000) (by kernel_rfl)
def d172:Ent:=(47,[tI 0,tI 5,.sl 2 [[tI 0,tI 5]],.str (ByteArray.mk #[104,101,108,108,111])],[.bool true])
theorem k172:EOk C.P d172:=AA mix AG (l:=[d171]) ⟨k171,trivial⟩ (n:=5000) (by kernel_rfl)
def d173:Ent:=(255,[tI 5,.sl 10 [],tI 1,tI 0],[tI 0])
theorem k173:EOk C.P d173:=AA mix AG (l:=[d142]) ⟨T8,trivial⟩ (n:=5000) (by kernel_rfl)
def d174:Ent:=(228,[tI 5,.sl 10 [],tI 1,tI 0],[tI 0,.bool false])
theorem k174:EOk C.P d174:=AA mix AG (l:=[d173]) ⟨k173,trivial⟩ (n:=5000) (by kernel_rfl)
def d175:Ent:=(255,[tI 5,.sl 10 [[tI 11,tI 0,tI 2,tI 0,tI 1,tI 0,tI 5,.bool false,.str (ByteArray.mk #[]),.sl 2 [[tI 0,tI 5]]]],tI 1,tI 0],[tI 0])
theorem k175:EOk C.P d175:=AA mix AG (l:=[d142]) ⟨T8,trivial⟩ (n:=5000) (by kernel_rfl)
def d176:Ent:=(228,[tI 5,.sl 10 [[tI 11,tI 0,tI 2,tI 0,tI 1,tI 0,tI 5,.bool false,.str (ByteArray.mk #[]),.sl 2 [[tI 0,tI 5]]]],tI 1,tI 0],[tI 11,.bool true])
theorem k176:EOk C.P d176:=AA mix AG (l:=[d175]) ⟨k175,trivial⟩ (n:=5000) (by kernel_rfl)
def d177:Ent:=(283,[tI 5,.sl 10 [[tI 11,tI 0,tI 2,tI 0,tI 1,tI 0,tI 5,.bool false,.str (ByteArray.mk #[]),.sl 2 [[tI 0,tI 5]]]],tI 1,tI 0],[tI 5,.sl 10 [],tI 1,tI 0,tI 11,tI 0,tI 2,tI 0,tI 1,tI 0,tI 5,.bool false,.str (ByteArray.mk #[]),.sl 2 [[tI 0,tI 5]],tI 0])
theorem k177:EOk C.P d177:=AA mix AG (l:=[d175,d148]) ⟨k175,⟨k148,trivial⟩⟩ (n:=5000) (by kernel_rfl)
def d178:Ent:=(180,[tI 5,tI 1,tI 65536],[.bool true])
theorem k178:EOk C.P d178:=AA mix AG (l:=[]) trivial (n:=5000) (by kernel_rfl)
def d179:Ent:=(180,[tI 1,tI 0,tI 10],[.bool true])
theorem k179:EOk C.P d179:=AA mix AG (l:=[]) trivial (n:=5000) (by kernel_rfl)
def d180:Ent:=(180,[tI 1,tI 1,tI 1099511627776],[.bool true])
theorem k180:EOk C.P d180:=AA mix AG (l:=[]) trivial (n:=5000) (by kernel_rfl)
def d181:Ent:=(299,[tI 0,tI 1,tI 0,tI 10,tI 24,tI 5,tI 0,tI 0,.str (ByteArray.mk #[104,101,108,108,111]),tI 10,tI 1,tI 1,.sl 2 [],tI 12,tI 1],[tI 0])
theorem k181:EOk C.P d181:=AA mix AG (l:=[d61,d116,d178,d179,d180,d115]) ⟨k61,⟨k116,⟨k178,⟨k179,⟨k180,⟨QK,trivial⟩⟩⟩⟩⟩⟩ (n:=5000) (by kernel_rfl)
def d182:Ent:=(313,[.sl 2 [],.sl 2 [[tI 0,tI 5]]],[.bool false])
theorem k182:EOk C.P d182:=AA mix AG (l:=[]) trivial (n:=5000) (by kernel_rfl)
def d183:Ent:=(300,[tI 0,tI 1,tI 0,tI 10,tI 24,tI 5,tI 0,tI 0,.str (ByteArray.mk #[104,101,108,108,111]),tI 10,tI 1,tI 1,.sl 2 [],tI 12,tI 1],[.bool false])
theorem k183:EOk C.P d183:=AA mix AG (l:=[d117,d182]) ⟨k117,⟨k182,trivial⟩⟩ (n:=5000) (by kernel_rfl)
def d184:Ent:=(224,[tI 0,tI 1,tI 0,tI 10,tI 24,tI 5,tI 0,tI 0,.str (ByteArray.mk #[104,101,108,108,111]),tI 10,tI 1,tI 1,.sl 2 [],tI 12,tI 1],[tI 12])
theorem k184:EOk C.P d184:=AA mix AG (l:=[]) trivial (n:=5000) (by kernel_rfl)
def d185:Ent:=(284,[tI 0,tI 1,tI 0,tI 10,tI 24,tI 5,tI 0,tI 0,.str (ByteArray.mk #[104,101,108,108,111]),tI 10,tI 1,tI 1,.sl 2 [],tI 12,tI 1],[tI 0])
theorem k185:EOk C.P d185:=AA mix AG (l:=[d181,d183,d184]) ⟨k181,⟨k183,⟨k184,trivial⟩⟩⟩ (n:=5000) (by kernel_rfl)
def d186:Ent:=(180,[tI 11,tI 1,tI 2199023255552],[.bool true])
theorem k186:EOk C.P d186:=AA mix AG (l:=[]) trivial (n:=5000) (by kernel_rfl)
def d187:Ent:=(313,[.sl 2 [[tI 0,tI 5]],.sl 2 [[tI 0,tI 5]]],[.bool true])
theorem k187:EOk C.P d187:=AA mix AG (l:=[]) trivial (n:=5000) (by kernel_rfl)
def d188:Ent:=(300,[tI 0,tI 1,tI 0,tI 10,tI 24,tI 5,tI 0,tI 0,.str (ByteArray.mk #[104,101,108,108,111]),tI 10,tI 1,tI 1,.sl 2 [[tI 0,tI 5]],tI 12,tI 1],[.bool true])
theorem k188:EOk C.P d188:=AA mix AG (l:=[d117,d187]) ⟨k117,⟨k187,trivial⟩⟩ (n:=5000) (by kernel_rfl)
def d189:Ent:=(301,[tI 0,tI 1,tI 0,tI 10,tI 24,tI 5,tI 0,tI 0,.str (ByteArray.mk #[104,101,108,108,111]),tI 10,tI 1,tI 1,.sl 2 [],tI 12,tI 1,tI 11,tI 2,tI 0,tI 1,tI 0,tI 5,.bool false,.str (ByteArray.mk #[]),.sl 2 [[tI 0,tI 5]]],[tI 0,tI 1,tI 0,tI 10,tI 24,tI 5,tI 0,tI 0,.str (ByteArray.mk #[104,101,108,108,111]),tI 10,tI 1,tI 1,.sl 2 [[tI 0,tI 5]],tI 0,tI 2,.sl 9 []])
theorem k189:EOk C.P d189:=AA mix AG (l:=[d159,d188]) ⟨k159,⟨k188,trivial⟩⟩ (n:=5000) (by kernel_rfl)
def d190:Ent:=(258,[tI 0,tI 1,tI 0,tI 10,tI 24,tI 5,tI 0,tI 0,.str (ByteArray.mk #[104,101,108,108,111]),tI 10,tI 1,tI 1,.sl 2 [],tI 12,tI 1,tI 11,tI 2,tI 0,tI 1,tI 0,tI 5,.bool false,.str (ByteArray.mk #[]),.sl 2 [[tI 0,tI 5]]],[tI 0,tI 1,tI 0,tI 10,tI 24,tI 5,tI 0,tI 0,.str (ByteArray.mk #[104,101,108,108,111]),tI 10,tI 1,tI 1,.sl 2 [[tI 0,tI 5]],tI 0,tI 2,.sl 9 [],tI 0])
theorem k190:EOk C.P d190:=AA mix AG (l:=[d185,d166,d186,d189]) ⟨k185,⟨k166,⟨k186,⟨k189,trivial⟩⟩⟩⟩ (n:=5000) (by kernel_rfl)
def d191:Ent:=(28,[tI 0,tI 1,tI 0,tI 10,tI 24,tI 5,tI 0,tI 0,tI 10,.str (ByteArray.mk #[104,101,108,108,111]),.sl 1 [],tI (-1),.sl 2 []],[.bool true,tI 6,.bool true,tI 11,tI 1,tI 2,tI 0,tI 0])
theorem k191:EOk C.P d191:=AA mix AG (l:=[d115,d141,d143,d144,d146,d147,d151,d153,d154,d168,d169,d170,d172,d174,d176,d177,d190]) ⟨QK,⟨k141,⟨k143,⟨k144,⟨k146,⟨k147,⟨k151,⟨k153,⟨k154,⟨k168,⟨k169,⟨k170,⟨k172,⟨k174,⟨k176,⟨k177,⟨k190,trivial⟩⟩⟩⟩⟩⟩⟩⟩⟩⟩⟩⟩⟩⟩⟩⟩⟩ (n:=5000) (by kernel_rfl)
def d192:Ent:=(6,[],[.bool true])
theorem k192:EOk C.P d192:=AA mix AG (l:=[d36,d53,d54,d55,d114,d191]) ⟨k36,⟨k53,⟨k54,⟨k55,⟨k114,⟨k191,trivial⟩⟩⟩⟩⟩⟩ (n:=5000) (by kernel_rfl)
end Ab
namespace Go.Proofs.YtefjndpcjdbebaaGreatDoor.topCarried
open Go Go.ChangeShapes Go.WideShapes Go.ChangeAt Go.RowKit
set_option maxRecDepth 100000
theorem jf0:(Rows.topCarriedRow.wf (OpenSpec.ofChange Rows.topCarriedSpec))=true:=by kernel_rfl
theorem jf1:laidOutB Tryz.pinned.checked.prog=true:=by kernel_rfl
theorem jf2:mapsRowed Tryz.pinned.checked.prog=true:=by kernel_rfl
theorem jf3:(Rows.topCarriedRow.inPlace==Tryz.pinned.checked.prog.inPlace 3)=true:=by kernel_rfl
theorem jf4:(Rows.topCarriedRow.unfollowed==Tryz.pinned.checked.prog.unfollowed 3)=true:=by kernel_rfl
theorem jf5:(Rows.topCarriedRow.recurses==Tryz.pinned.checked.prog.recurses 3)=true:=by kernel_rfl
theorem jf6:(Rows.topCarriedRow.named==Tryz.pinned.checked.prog.varsNamed 3)=true:=by kernel_rfl
theorem jf7:(Rows.topCarriedRow.plainKeys==Tryz.pinned.checked.prog.plainKeys)=true:=by kernel_rfl
theorem jf8:Tryz.pinned.checked.prog.stopsHeard=true:=by kernel_rfl
theorem jf9:Tryz.pinned.checked.prog.mayEnter=true:=by kernel_rfl
theorem jf10:(Rows.topCarriedRow.lifted==Tryz.pinned.checked.prog.liftsFinal)=true:=by kernel_rfl
theorem jf11:(Tryz.pinned.checked.prog.make==some Rows.topCarriedRow.make)=true:=by kernel_rfl
theorem closed:joinedFacts Tryz.pinned.checked.prog 3 Tryz.f3 Rows.topCarriedSpec Rows.topCarriedRow=true:=by
 unfold joinedFacts
 repeat' (with_reducible refine Bool.and_eq_true_iff.mpr ⟨?_,?_⟩)
 all_goals first
  |with_reducible exact jf0
  |with_reducible exact jf1
  |with_reducible exact jf2
  |with_reducible exact jf3
  |with_reducible exact jf4
  |with_reducible exact jf5
  |with_reducible exact jf6
  |with_reducible exact jf7
  |with_reducible exact jf8
  |with_reducible exact jf9
  |with_reducible exact jf10
  |with_reducible exact jf11
  |kernel_rfl
end Go.Proofs.YtefjndpcjdbebaaGreatDoor.topCarried
